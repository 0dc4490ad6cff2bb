/-
  Contract of exref8.Decode.
-/
import Derived.Test.YtjccadfaiahkkaaDoorKx
import Derived.Test.YtjccadfaiahkkaaDoorKu
namespace Go.Proofs.YtjccadfaiahkkaaDoor
set_option linter.all false
open Go.RowKit
attribute [local go_sem] cell_set_self lt_1 lt_2 lt_3 lt_4 lt_5 lt_6

/-- Parsing without a limit on the parts, then the codes, is dec. -/
theorem en_count {l : List Part} : l.length ≤ (en l).length := by
  induction l with
  | nil => simp
  | cons p l ih =>
    rw [en_cons, List.length_append, List.length_cons]
    have : 0 < (enP p).length := List.length_pos_iff.2 (enP_ne p)
    omega
theorem dec_none {t : List UInt8} (h : decL t.length t = none) : dec t = none := by
  unfold dec
  split
  · rfl
  · cases h8 : decL 8 t with
    | none => rfl
    | some l =>
      obtain ⟨h1, _⟩ := decL_back 8 t h8
      have := en_count (l := l)
      rw [← h1] at this
      rw [decL_more h8 t.length this] at h; cases h
theorem dec_some {t : List UInt8} {l : List Part} {k : Nat} (h : decL k t = some l) (e : errE l = 0) : dec t = some l := by
  obtain ⟨h1, h2, h3⟩ := errE_0 e
  obtain ⟨g1, _⟩ := decL_back k t h
  unfold dec
  rw [if_neg (by rw [g1]; omega)]
  exact decL_more h 8 h1
theorem dec_err {t : List UInt8} {l : List Part} {k : Nat} (h : decL k t = some l) (e : errE l ≠ 0) : dec t = none := by
  obtain ⟨g1, _, g3, _⟩ := decL_back k t h
  unfold dec
  split
  · rfl
  · rename_i h2
    cases h8 : decL 8 t with
    | none => rfl
    | some l' =>
      exfalso
      obtain ⟨f1, f2, _⟩ := decL_back 8 t h8
      have := decL_more h8 (max k l'.length) (by omega)
      have := decL_more h (max k l'.length) (by have := (decL_back k t h).2.1; omega)
      rename_i q1
      rw [q1] at this
      obtain rfl : l' = l := Option.some.inj this
      exact e (errE_fine f2 (fun p hp => (g3 p hp).1) (by rw [← f1]; omega))
theorem or_byte2 (V b : Nat) (hV : V < 72057594037927936) (hb : b < 256) : bits .or .u64 ((V : Int) * 256) (b : Int) = ((V * 256 + b : Nat) : Int) := by
  have h := or_byte V b hV hb
  rwa [show IntKind.u64.wrap (b : Int) = (b : Int) from by rw [IntKind.wrap_u64]; omega] at h
def D8Rel (w wr : World) (t : List UInt8) (a : Nat) (acc : List Part) (v : Value) : Prop :=
  a ≤ t.length ∧ acc.length ≤ a ∧ wr.ownsRow w.heap.size 43 3 v acc.length (cellsP acc) ∧ decL t.length t = (decL (t.length - acc.length) (t.drop a)).map (acc ++ ·) ∧ Below w.heap.size w wr
theorem de_step8 {w wo W w2 : World} {T : TypeId} {v : Value} {n : Nat} {xs : List Value} (hbl : Below w.heap.size w wo) (hbW : Below wo.heap.size wo W) (hO : wo.ownsRow w.heap.size T 3 v n xs) (hg : W.grownBy w2 v.ownBlock) : Below w.heap.size w w2 := by
  have h1 := hbW.size
  have h2 := hbl.size
  exact (hbl.trans (hbW.mono (by omega))).grown hg (by omega) (fun g hg' => (hO.lt g hg').1)
theorem wrap_deI (V : Nat) (hV : V < 18446744073709551616) : IntKind.i64.wrap (IntKind.u64.wrap ((V : Int) - 9223372036854775808)) = (V : Int) - 9223372036854775808 := by
  rw [IntKind.wrap_i64, IntKind.wrap_u64]; omega
theorem drop_two {t : List UInt8} {i : Nat} {c d : UInt8} {q : List UInt8} (h : t.drop i = c :: d :: q) : t[i]? = some c ∧ t[i + 1]? = some d ∧ t.drop (i + 1) = d :: q ∧ t.drop (i + 2) = q ∧ i + 2 ≤ t.length := by
  have hl := congrArg List.length h
  simp at hl
  have h0 := congrArg (·[0]?) h
  have h1 := congrArg (·[1]?) h
  simp at h0 h1
  have h2 := congrArg (List.drop 1) h
  have h3 := congrArg (List.drop 2) h
  rw [List.drop_drop] at h2 h3
  exact ⟨h0, h1, h2, h3, by omega⟩
theorem drop_one {t : List UInt8} {i : Nat} {c : UInt8} {q : List UInt8} (h : t.drop i = c :: q) : t[i]? = some c ∧ t.drop (i + 1) = q ∧ i + 1 ≤ t.length ∧ t.length = i + 1 + q.length := by
  have hl := congrArg List.length h
  simp at hl
  have h0 := congrArg (·[0]?) h
  simp at h0
  have h2 := congrArg (List.drop 1) h
  rw [List.drop_drop] at h2
  exact ⟨h0, h2, by omega, by omega⟩

set_option maxHeartbeats 2000000 in
set_option maxRecDepth 100000 in
theorem d8_any (t : List UInt8) (ht : t.length ≤ 2000) (w : World) : Calls Tryd.prog 16 #[.string ⟨t.toArray⟩] w fun e w' => DecPost t e w' ∧ Below w.heap.size w w' := by
  obtain ⟨i0, hi0, hz0, hz1, hz2⟩ := info_parts Tryd.infoByte
  obtain ⟨i1, hi1, hy0, hy1, hy2⟩ := info_parts Tryd.infoPart8
  have AT : Hid (∀ i (h : i < (⟨t.toArray⟩ : ByteArray).size) (c : UInt8), t[i]? = some c → ((⟨t.toArray⟩ : ByteArray)[i]'h).toNat = c.toNat) := Lib.hid fun i h c hc => by
    obtain ⟨h1, h2⟩ := List.getElem?_eq_some_iff.1 hc
    rw [← h2]; rfl
  have HTB : Hid (∃ tb : ByteArray, (⟨t.toArray⟩ : ByteArray) = tb) := Lib.hid ⟨_, rfl⟩
  obtain ⟨tb, htb⟩ := HTB.out
  have HB := Lib.hid htb
  rw [htb] at AT ⊢
  have HS : Hid (tb.size = t.length) := Lib.hid (by rw [← htb]; simp [ByteArray.size])
  clear htb HTB
  have hsz : tb.size ≤ 2000 := by rw [HS.out]; exact ht
  go_enter Tryd.func16, Tryd.ntmps16
  go_wp2
  go_loopw [4, 5] (fun u i wr => ∃ (a : Nat) (acc : List Part) (v : Value), i = .int .i64 a ∧ v = u ∧ D8Rel w wr t a acc v) (fun _ i _ => tb.size - (intOf i).toNat)
  case atStart => exact ⟨0, [], _, rfl, rfl, Nat.zero_le _, by simp, World.ownsRow_nil _ _ _ _, by cases h : decL t.length t <;> simp [h], (by repeat (first | exact Below.refl _ _ | refine Below.setCell ?_ (by first | (simp; done) | (simp; omega) | omega) _ | refine Below.alloc ?_ (by first | (simp; done) | (simp; omega) | omega) _ | refine Below.drew ?_ | assumption | refine Below.trans ?_ (Below.mono (by assumption) (by first | (simp; done) | (simp; omega) | omega))))⟩
  case round =>
    obtain ⟨a, acc, v, rfl, hv, ha, hacc, hown, hdec, hbl⟩ := hrel
    subst hv
    obtain ⟨wo, rfl⟩ : ∃ wo : World, wo = wr := ⟨_, rfl⟩
    have HO := Lib.hid hown
    have HD := Lib.hid hdec
    have hsl := hbl.size
    have hasz : a ≤ tb.size := by rw [HS.out]; exact ha
    have HAL := Lib.hid (show acc.length ≤ 2000 by omega)
    have HAA := Lib.hid hacc
    clear hown hdec hacc ha
    cases hdr : t.drop a with
    | nil =>
      have hal : tb.size ≤ a := by rw [HS.out]; have := congrArg List.length hdr; simp at this; omega
      have hfin : Hid (decL t.length t = some acc) := Lib.hid (by rw [HD.out, hdr]; cases h : t.length - acc.length <;> simp [decL])
      obtain ⟨n, hn⟩ : ∃ n, acc.length = n := ⟨_, rfl⟩
      rw [hn] at HO
      obtain ⟨G, cp, rfl⟩ := own_form HO.out
      have HC := Lib.hid (own_cap HO.out)
      have hok : ∀ p ∈ acc, p.s.length ≤ 2000 ∧ In64 p.n := fun p hp => by
        obtain ⟨f1, _, f3, f4⟩ := decL_back _ _ hfin.out
        have hnr : nrm p = p := by
          obtain ⟨i, hi⟩ := List.getElem?_of_mem hp
          have := congrArg (·[i]?) f4
          simp [hi] at this
          exact this
        have h1 := enP_text hnr
        have h2 := en_mem_le hp
        rw [← f1] at h2
        exact ⟨by omega, (f3 p hp).2⟩
      have hal' : ¬ (a : Int) < tb.size := by omega
      have CE := Lib.hid (e8_any G n cp acc hn (by have := HAL.out; omega) (fun _ => hok) wo (parts_own hn HO.out))
      clear hok
      by_cases e0 : errE acc = 0
      · have hD : Hid (dec t = some acc) := Lib.hid (dec_some hfin.out e0)
        have CE2 : Hid (Calls Tryd.prog 14 #[.slice G n cp] wo fun e w' => e = .returned (.tuple #[.string tb, .int .i64 0]) ∧ Below wo.heap.size wo w') := Lib.hid (by
          have h := CE.out
          rw [bytesE_0 e0, e0, ← (decL_back _ _ hfin.out).1, HB.out] at h
          exact h)
        have HN := Lib.hid hn
        have HPA := Lib.hid (parts_own hn HO.out)
        clear CE e0 hn
        go_wp2_with (first | (go_at_call 14; refine (CE2.out).mono ?_; rintro e w7 ⟨rfl, hb7⟩; obtain ⟨hc7, hf7⟩ := bcell hb7; have hs7 := hb7.size; (try simp at hs7)))
        go_ret2
        exact ⟨DecPost.yes hD.out HN.out (HPA.out.below hb7) HC.out, (by repeat (first | exact Below.refl _ _ | refine Below.setCell ?_ (by first | (simp; done) | (simp; omega) | omega) _ | refine Below.alloc ?_ (by first | (simp; done) | (simp; omega) | omega) _ | refine Below.drew ?_ | assumption | refine Below.trans ?_ (Below.mono (by assumption) (by first | (simp; done) | (simp; omega) | omega))))⟩
      · have hD : Hid (dec t = none) := Lib.hid (dec_err hfin.out e0)
        obtain ⟨x, hx⟩ : ∃ x, errE acc = x := ⟨_, rfl⟩
        rw [hx] at CE e0
        have x0 : (x != 0) = true := by simpa using e0
        clear hx e0 hn
        generalize bytesE acc = bs at *
        go_wp2_with (first | (go_at_call 14; refine (CE.out).mono ?_; rintro e w7 ⟨rfl, hb7⟩; obtain ⟨hc7, hf7⟩ := bcell hb7; have hs7 := hb7.size; (try simp at hs7)))
        go_ret2
        exact ⟨DecPost.no hD.out, (by repeat (first | exact Below.refl _ _ | refine Below.setCell ?_ (by first | (simp; done) | (simp; omega) | omega) _ | refine Below.alloc ?_ (by first | (simp; done) | (simp; omega) | omega) _ | refine Below.drew ?_ | assumption | refine Below.trans ?_ (Below.mono (by assumption) (by first | (simp; done) | (simp; omega) | omega))))⟩
    | cons ch q =>
      obtain ⟨g1, g2, g3, g4⟩ := drop_one hdr
      have hlt : a < tb.size := by rw [HS.out]; omega
      have hlt' : (a : Int) < tb.size := by omega
      have hf : Hid (∃ m, t.length - acc.length = m + 1) := Lib.hid ⟨t.length - acc.length - 1, by have := HAA.out; omega⟩
      have hat := AT.out a hlt ch g1
      obtain ⟨m, hm⟩ := hf.out
      have HD2 : Hid (decL t.length t = (decL (m + 1) (ch :: q)).map (acc ++ ·)) := Lib.hid (by rw [HD.out, hm, hdr])
      have HM := Lib.hid hm
      have HQ := Lib.hid g2
      have HL := Lib.hid g4
      clear hm hf HD hdr g1 g2 g4
      have h3 : ch = 1 ∨ ch = 2 ∨ (ch ≠ 1 ∧ ch ≠ 2) := by
        by_cases h1 : ch = 1
        · exact .inl h1
        · by_cases h2 : ch = 2
          · exact .inr (.inl h2)
          · exact .inr (.inr ⟨h1, h2⟩)
      rcases h3 with rfl | rfl | ⟨k1, k2⟩
      · rw [show (1 : UInt8).toNat = 1 from rfl] at hat
        by_cases h8 : q.length < 8
        · have hE : Hid (dec t = none) := Lib.hid (dec_none (by rw [HD2.out, decL]; simp [decP, h8]))
          have h9 : (tb.size : Int) - a < 9 := by have := HL.out; have := HS.out; omega
          go_wp2
          go_ret2
          exact ⟨DecPost.no hE.out, (by repeat (first | exact Below.refl _ _ | refine Below.setCell ?_ (by first | (simp; done) | (simp; omega) | omega) _ | refine Below.alloc ?_ (by first | (simp; done) | (simp; omega) | omega) _ | refine Below.drew ?_ | assumption | refine Below.trans ?_ (Below.mono (by assumption) (by first | (simp; done) | (simp; omega) | omega))))⟩
        · have h9 : ¬ (tb.size : Int) - a < 9 := by have := HL.out; have := HS.out; omega
          have h8' : a + 9 ≤ tb.size := by have := HL.out; have := HS.out; omega
          have HD3 : Hid (decL t.length t = (decL m (q.drop 8)).map ((acc ++ [(⟨1, deI (q.take 8), []⟩ : Part)]) ++ ·)) := Lib.hid (by
            rw [HD2.out, decL]; simp only [decP, if_true, if_neg h8]
            cases decL m (q.drop 8) <;> simp)
          go_wp2
          go_loop [6, 7] (fun s i => ∃ k : Nat, k ≤ 8 ∧ i = .int .i64 ((k : Int) + 1) ∧ s = .int .u64 (ev 0 (q.take k) : Nat)) (fun _ i => 9 - (intOf i).toNat)
          case atStart => exact ⟨0, Nat.zero_le _, rfl, rfl⟩
          case round =>
            obtain ⟨k, hk, rfl, rfl⟩ := hrel
            have HV : Hid (ev 0 (q.take k) < 256 ^ k) := Lib.hid (by
              have := ev_lt (q.take k)
              rwa [List.length_take, Nat.min_eq_left (by omega)] at this)
            by_cases hk8 : k < 8
            · have hk8' : (k : Int) < 8 := by omega
              obtain ⟨x, hx⟩ : ∃ x, q[k]? = some x := ⟨_, List.getElem?_eq_getElem (by omega)⟩
              have hpos : a + (k + 1) < tb.size := by omega
              have hxt : t[a + (k + 1)]? = some x := by rw [← hx, ← HQ.out, List.getElem?_drop]; congr 1; omega
              have hax := AT.out (a + (k + 1)) hpos x hxt
              have hv : ev 0 (q.take k) < 72057594037927936 := Nat.lt_of_lt_of_le HV.out (by have := Nat.pow_le_pow_right (n := 256) (by omega) (show k ≤ 7 by omega); simpa using this)
              have HS2 : Hid (ev 0 (q.take (k + 1)) = ev 0 (q.take k) * 256 + x.toNat) := Lib.hid (by
                obtain ⟨h1, h2⟩ := List.getElem?_eq_some_iff.1 hx
                rw [List.take_succ_eq_append_getElem h1, h2, ev_snoc])
              obtain ⟨y, hy⟩ : ∃ y, x.toNat = y := ⟨_, rfl⟩
              rw [hy] at hax HS2
              have hy2 : y < 256 := by rw [← hy]; exact x.toNat_lt
              clear HV hx hxt hy
              generalize ev 0 (q.take k) = V at *
              have hor := Lib.hid (or_byte2 V y hv hy2)
              go_wp2
              go_round
              case rel => exact ⟨k + 1, by omega, by go_num, by rw [hor.out, HS2.out]⟩
              case measure => simp [intOf]; omega
            · obtain rfl : k = 8 := by omega
              have D : Hid (IntKind.i64.wrap (IntKind.u64.wrap ((ev 0 (q.take 8) : Nat) - 9223372036854775808)) = deI (q.take 8)) := Lib.hid (wrap_deI _ (by have := HV.out; simpa using this))
              clear HV hk hk8
              obtain ⟨dv, hdv⟩ : ∃ dv, deI (q.take 8) = dv := ⟨_, rfl⟩
              rw [hdv] at D HD3
              clear hdv
              generalize ev 0 (q.take 8) = V at *
              have d' := D.out
              go_wp2_with (first | (at_builtin; refine wpList_append_own _ rfl (.tmp 37) (.tmp 42) 37 rfl w.heap.size 43 i1 _ 3 32 Tryd.underlying37 hi1 hy0 hy1 hy2 rfl (by decide) v (acc).length (cellsP acc) rfl (own_below HO.out (by repeat (first | exact Below.refl _ _ | refine Below.setCell ?_ (by first | (simp; done) | (simp; omega) | omega) _ | refine Below.alloc ?_ (by first | (simp; done) | (simp; omega) | omega) _ | refine Below.drew ?_ | assumption | refine Below.trans ?_ (Below.mono (by assumption) (by first | (simp; done) | (simp; omega) | omega))))) _ 1 1 [.int .i64 1, .int .i64 (dv), .string ⟨(([] : List UInt8)).toArray⟩] rfl rfl (by intro j u hj; match j, hj with | 0, hj => (simp at hj; subst hj; simp [Addr.add, go_sem]) | 1, hj => (simp at hj; subst hj; simp [Addr.add, go_sem]) | 2, hj => (simp at hj; subst hj; simp [Addr.add, go_sem])) (by intro u hu; simp at hu; rcases hu with rfl | rfl | rfl <;> rfl) (by have := HAL.out; unfold maxLen; omega) (by have := HAL.out; omega) (by simp; omega) ?_; intro v8 w8 hown8 hgrow8 hiff; clear hiff; have HO8 : Hid (w8.ownsRow w.heap.size 43 3 v8 (acc ++ [(⟨1, dv, ([] : List UInt8)⟩ : Part)]).length (cellsP (acc ++ [(⟨1, dv, ([] : List UInt8)⟩ : Part)]))) := Lib.hid (by rw [cellsP_app, List.length_append]; exact hown8); have B8 := de_step8 hbl (by repeat (first | exact Below.refl _ _ | refine Below.setCell ?_ (by first | (simp; done) | (simp; omega) | omega) _ | refine Below.alloc ?_ (by first | (simp; done) | (simp; omega) | omega) _ | refine Below.drew ?_ | assumption | refine Below.trans ?_ (Below.mono (by assumption) (by first | (simp; done) | (simp; omega) | omega)))) HO.out hgrow8; clear hown8 hgrow8))
              go_roundw
              case rel => exact ⟨a + 9, acc ++ [(⟨1, dv, []⟩ : Part)], _, by go_num, rfl, by have := HS.out; omega, by rw [List.length_append]; have := HAA.out; simp; omega, HO8.out, by
                rw [HD3.out]
                have e1 : t.length - (acc ++ [(⟨1, dv, []⟩ : Part)]).length = m := by rw [List.length_append]; have := HM.out; simp; omega
                have e2 : t.drop (a + 9) = q.drop 8 := by rw [← HQ.out, List.drop_drop]
                rw [e1, e2], B8⟩
              case measure => first | (simp [intOf]; done) | (simp [intOf]; omega)
      · rw [show (2 : UInt8).toNat = 2 from rfl] at hat
        have hdn : Hid (decT q = none → dec t = none) := Lib.hid (fun h => dec_none (by rw [HD2.out, decL]; simp [decP, h]))
        have hds : Hid (∀ x r, decT q = some (x, r) → decL t.length t = (decL m r).map ((acc ++ [(⟨2, 0, x⟩ : Part)]) ++ ·)) := Lib.hid (fun x r h => by
          rw [HD2.out, decL]; simp only [decP, h, Option.map_some]
          cases h' : decL m r <;> simp [h'])
        go_wp2
        go_loopw [5, 8] (fun ii u wr => ∃ (i : Nat) (xs : List UInt8) (v2 : Value), ii = .int .i64 i ∧ v2 = u ∧ Hid (wr.ownsRow wo.heap.size 5 1 v2 xs.length (Lib.byteCells xs)) ∧ a + 1 ≤ i ∧ i ≤ tb.size ∧ xs.length ≤ i ∧ Hid (decT q = (decT (t.drop i)).map (fun x => (xs ++ x.1, x.2))) ∧ Below wo.heap.size wo wr) (fun ii _ _ => tb.size - (intOf ii).toNat)
        case atStart => exact ⟨a + 1, [], _, by go_num, rfl, Lib.hid (World.ownsRow_nil _ _ _ _), Nat.le_refl _, by omega, by simp, Lib.hid (by rw [HQ.out]; cases decT q <;> simp), (by repeat (first | exact Below.refl _ _ | refine Below.setCell ?_ (by first | (simp; done) | (simp; omega) | omega) _ | refine Below.alloc ?_ (by first | (simp; done) | (simp; omega) | omega) _ | refine Below.drew ?_ | assumption | refine Below.trans ?_ (Below.mono (by assumption) (by first | (simp; done) | (simp; omega) | omega))))⟩
        case round =>
          obtain ⟨i, xs, v2, rfl, hv2, HX, hai, his, hxl, HT, BW2⟩ := hrel
          subst hv2
          obtain ⟨w2, rfl⟩ : ∃ w2 : World, w2 = wr := ⟨_, rfl⟩
          have HXL := Lib.hid (show xs.length ≤ 2000 by omega)
          have HXI := Lib.hid hxl
          have hsl2 := BW2.size
          clear hxl
          have shape : tb.size ≤ i + 1 ∨ ∃ c d q2, t.drop i = c :: d :: q2 := by
            cases h : t.drop i with
            | nil => left; have := congrArg List.length h; simp at this; have := HS.out; omega
            | cons c r =>
              cases r with
              | nil => left; have := congrArg List.length h; simp at this; have := HS.out; omega
              | cons d q2 => right; exact ⟨c, d, q2, rfl⟩
          rcases shape with hsh | ⟨c, d, q2, hcd⟩
          · have hE : Hid (dec t = none) := Lib.hid (hdn.out (by
              rw [HT.out]
              have hl : (t.drop i).length ≤ 1 := by rw [List.length_drop]; have := HS.out; omega
              match h : t.drop i, hl with
              | [], _ => rfl
              | [_], _ => rfl))
            have hn : ¬ (i : Int) + 1 < tb.size := by omega
            have hn2 : (tb.size : Int) ≤ (i : Int) + 1 := by omega
            go_wp2
            go_ret2
            exact ⟨DecPost.no hE.out, (by repeat (first | exact Below.refl _ _ | refine Below.setCell ?_ (by first | (simp; done) | (simp; omega) | omega) _ | refine Below.alloc ?_ (by first | (simp; done) | (simp; omega) | omega) _ | refine Below.drew ?_ | assumption | refine Below.trans ?_ (Below.mono (by assumption) (by first | (simp; done) | (simp; omega) | omega))))⟩
          · obtain ⟨g1, g2, g3, g4, g5⟩ := drop_two hcd
            have hi2 : i + 2 ≤ tb.size := by rw [HS.out]; exact g5
            have hlt1 : i < tb.size := by omega
            have hlt2 : i + 1 < tb.size := by omega
            have hlt1' : (i : Int) + 1 < tb.size := by omega
            have hge' : ¬ (tb.size : Int) ≤ (i : Int) + 1 := by omega
            have a1 := AT.out i hlt1 c g1
            have a2 := AT.out (i + 1) hlt2 d g2
            have HG3 := Lib.hid g3
            have HG4 := Lib.hid g4
            have HCD := Lib.hid hcd
            clear g1 g2 g3 g4 g5 hcd
            by_cases c0 : c = 0
            · subst c0
              rw [show (0 : UInt8).toNat = 0 from rfl] at a1
              by_cases d255 : d = 255
              · subst d255
                rw [show (255 : UInt8).toNat = 255 from rfl] at a2
                have HT2 : Hid (decT q = (decT (t.drop (i + 2))).map (fun x => ((xs ++ [0]) ++ x.1, x.2))) := Lib.hid (by
                  rw [HT.out, HCD.out, HG4.out, decT]
                  simp
                  cases decT q2 <;> simp)
                go_wp2_with (first | (at_builtin; refine wpList_append_own _ rfl (.tmp 70) (.tmp 74) 53 rfl wo.heap.size 5 i0 (.int .u8 0) 1 1 Tryd.underlying53 hi0 hz0 hz1 hz2 rfl (by decide) _ (xs).length (Lib.byteCells xs) rfl (HX.out.alloc _) ⟨w2.heap.size, 0, none⟩ 1 1 [.int .u8 0] rfl rfl (by intro j u hj; match j, hj with | 0, hj => (simp at hj; subst hj; simp [Addr.add, go_sem])) (by intro u hu; simp at hu; subst hu; rfl) (by have := HXL.out; unfold maxLen; omega) (by have := HXL.out; omega) (by have := BW2.size; simp; omega) ?_; intro v3 w3 hown3 hgrow3 hiff; clear hiff; have HO3 : Hid (w3.ownsRow wo.heap.size 5 1 v3 (xs ++ [0]).length (Lib.byteCells (xs ++ [0]))) := Lib.hid (by rw [Lib.byteCells_append, List.length_append]; exact hown3); have B3 : Below wo.heap.size wo w3 := Below.grown (BW2.alloc BW2.size _) hgrow3 (by have := BW2.size; simp; omega) (fun g hg => (HX.out.lt g hg).1); clear hown3 hgrow3))
                go_roundw
                case rel => exact ⟨i + 2, xs ++ [0], _, by go_num, rfl, HO3, by omega, by omega, by have := HXI.out; simp; omega, HT2, B3⟩
                case measure => first | (simp [intOf]; done) | (simp [intOf]; omega)
              · obtain ⟨z, hzz⟩ : ∃ z, d.toNat = z := ⟨_, rfl⟩
                rw [hzz] at a2
                have z255 : ((z : Int) == 255) = false := by rw [beq_eq_false_iff_ne]; intro e; apply d255; apply UInt8.toNat_inj.1; rw [hzz]; show z = 255; omega
                by_cases d1 : d = 1
                · subst d1
                  rw [show (1 : UInt8).toNat = 1 from rfl] at hzz
                  subst hzz
                  have HD3 := Lib.hid (hds.out xs q2 (by rw [HT.out, HCD.out, decT]; simp))
                  have hcv := conv_own HX.out
                  clear z255
                  go_wp2_with (first | (at_builtin; refine wpList_append_own _ rfl (.tmp 98) (.tmp 102) 37 rfl w.heap.size 43 i1 _ 3 32 Tryd.underlying37 hi1 hy0 hy1 hy2 rfl (by decide) v (acc).length (cellsP acc) rfl (own_below HO.out (by repeat (first | exact Below.refl _ _ | refine Below.setCell ?_ (by first | (simp; done) | (simp; omega) | omega) _ | refine Below.alloc ?_ (by first | (simp; done) | (simp; omega) | omega) _ | refine Below.drew ?_ | assumption | refine Below.trans ?_ (Below.mono (by assumption) (by first | (simp; done) | (simp; omega) | omega))))) _ 1 1 [.int .i64 2, .int .i64 (0), .string ⟨(xs).toArray⟩] rfl rfl (by intro j u hj; match j, hj with | 0, hj => (simp at hj; subst hj; simp [Addr.add, go_sem]) | 1, hj => (simp at hj; subst hj; simp [Addr.add, go_sem]) | 2, hj => (simp at hj; subst hj; simp [Addr.add, go_sem])) (by intro u hu; simp at hu; rcases hu with rfl | rfl | rfl <;> rfl) (by have := HAL.out; unfold maxLen; omega) (by have := HAL.out; omega) (by simp; omega) ?_; intro v8 w8 hown8 hgrow8 hiff; clear hiff; have HO8 : Hid (w8.ownsRow w.heap.size 43 3 v8 (acc ++ [(⟨2, 0, xs⟩ : Part)]).length (cellsP (acc ++ [(⟨2, 0, xs⟩ : Part)]))) := Lib.hid (by rw [cellsP_app, List.length_append]; exact hown8); have B8 := de_step8 hbl (by repeat (first | exact Below.refl _ _ | refine Below.setCell ?_ (by first | (simp; done) | (simp; omega) | omega) _ | refine Below.alloc ?_ (by first | (simp; done) | (simp; omega) | omega) _ | refine Below.drew ?_ | assumption | refine Below.trans ?_ (Below.mono (by assumption) (by first | (simp; done) | (simp; omega) | omega)))) HO.out hgrow8; clear hown8 hgrow8))
                  go_roundw
                  case rel => exact ⟨i + 2, acc ++ [(⟨2, 0, xs⟩ : Part)], _, by go_num, rfl, by have := HS.out; omega, by rw [List.length_append]; have := HAA.out; simp; omega, HO8.out, by
                    rw [HD3.out]
                    have e1 : t.length - (acc ++ [(⟨2, 0, xs⟩ : Part)]).length = m := by rw [List.length_append]; have := HM.out; simp; omega
                    rw [e1, HG4.out], B8⟩
                  case measure => first | (simp [intOf]; done) | (simp [intOf]; omega)
                · have z1 : ((z : Int) != 1) = true := by rw [bne_iff_ne]; intro e; apply d1; apply UInt8.toNat_inj.1; rw [hzz]; show z = 1; omega
                  have hE : Hid (dec t = none) := Lib.hid (hdn.out (by rw [HT.out, HCD.out, decT, if_pos rfl, if_neg d1, if_neg d255]; rfl))
                  clear hzz d255 d1
                  go_wp2
                  go_ret2
                  exact ⟨DecPost.no hE.out, (by repeat (first | exact Below.refl _ _ | refine Below.setCell ?_ (by first | (simp; done) | (simp; omega) | omega) _ | refine Below.alloc ?_ (by first | (simp; done) | (simp; omega) | omega) _ | refine Below.drew ?_ | assumption | refine Below.trans ?_ (Below.mono (by assumption) (by first | (simp; done) | (simp; omega) | omega))))⟩
            · obtain ⟨y, hyy⟩ : ∃ y, c.toNat = y := ⟨_, rfl⟩
              rw [hyy] at a1
              have HY : Hid (y < 256) := Lib.hid (by rw [← hyy]; exact c.toNat_lt)
              have HC : Hid (y.toUInt8 = c) := Lib.hid (by apply UInt8.toNat_inj.1; rw [u8_toNat, Nat.mod_eq_of_lt HY.out, hyy])
              have y0 : ((y : Int) == 0) = false := by rw [beq_eq_false_iff_ne]; intro e; apply c0; apply UInt8.toNat_inj.1; rw [hyy]; show y = 0; omega
              have y0' : ((y : Int) != 0) = true := by rw [bne_iff_ne]; intro e; apply c0; apply UInt8.toNat_inj.1; rw [hyy]; show y = 0; omega
              have HT2 : Hid (decT q = (decT (t.drop (i + 1))).map (fun x => ((xs ++ [y.toUInt8]) ++ x.1, x.2))) := Lib.hid (by
                rw [HT.out, HCD.out, HG3.out, decT_cons c0, HC.out]
                cases decT (d :: q2) <;> simp)
              clear hyy c0 a2
              go_wp2_with (first | (at_builtin; refine wpList_append_own _ rfl (.tmp 70) (.tmp 74) 53 rfl wo.heap.size 5 i0 (.int .u8 0) 1 1 Tryd.underlying53 hi0 hz0 hz1 hz2 rfl (by decide) _ (xs).length (Lib.byteCells xs) rfl (HX.out.alloc _) ⟨w2.heap.size, 0, none⟩ 1 1 [.int .u8 (y : Int)] rfl rfl (by intro j u hj; match j, hj with | 0, hj => (simp at hj; subst hj; simp [Addr.add, go_sem])) (by intro u hu; simp at hu; subst hu; rfl) (by have := HXL.out; unfold maxLen; omega) (by have := HXL.out; omega) (by have := BW2.size; simp; omega) ?_; intro v3 w3 hown3 hgrow3 hiff; clear hiff; have HO3 : Hid (w3.ownsRow wo.heap.size 5 1 v3 (xs ++ [y.toUInt8]).length (Lib.byteCells (xs ++ [y.toUInt8]))) := Lib.hid (by rw [bc_snoc _ HY.out, List.length_append]; exact hown3); have B3 : Below wo.heap.size wo w3 := Below.grown (BW2.alloc BW2.size _) hgrow3 (by have := BW2.size; simp; omega) (fun g hg => (HX.out.lt g hg).1); clear hown3 hgrow3))
              go_roundw
              case rel => exact ⟨i + 1, xs ++ [y.toUInt8], _, by go_num, rfl, HO3, by omega, by omega, by have := HXI.out; simp; omega, HT2, B3⟩
              case measure => first | (simp [intOf]; done) | (simp [intOf]; omega)
      · have hE : Hid (dec t = none) := Lib.hid (dec_none (by rw [HD2.out, decL, decP_other k1 k2]; rfl))
        obtain ⟨y, hy⟩ : ∃ y, ch.toNat = y := ⟨_, rfl⟩
        rw [hy] at hat
        have n1 : ((y : Int) == 1) = false := by rw [beq_eq_false_iff_ne]; intro e; apply k1; apply UInt8.toNat_inj.1; rw [hy]; show y = 1; omega
        have n2 : ((y : Int) != 2) = true := by rw [bne_iff_ne]; intro e; apply k2; apply UInt8.toNat_inj.1; rw [hy]; show y = 2; omega
        clear k1 k2 hy
        go_wp2
        go_ret2
        exact ⟨DecPost.no hE.out, (by repeat (first | exact Below.refl _ _ | refine Below.setCell ?_ (by first | (simp; done) | (simp; omega) | omega) _ | refine Below.alloc ?_ (by first | (simp; done) | (simp; omega) | omega) _ | refine Below.drew ?_ | assumption | refine Below.trans ?_ (Below.mono (by assumption) (by first | (simp; done) | (simp; omega) | omega))))⟩
end Go.Proofs.YtjccadfaiahkkaaDoor
