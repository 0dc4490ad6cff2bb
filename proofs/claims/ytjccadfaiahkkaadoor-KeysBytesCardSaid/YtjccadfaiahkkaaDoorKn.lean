/-
  Contract of keys.Decode.
-/
import Derived.Test.YtjccadfaiahkkaaDoorKm
namespace Go.Proofs.YtjccadfaiahkkaaDoor
set_option linter.all false
open Go.RowKit
attribute [local go_sem] cell_set_self lt_1 lt_2 lt_3 lt_4 lt_5 lt_6 alloc_drewN setCell_drewN

theorem Tryd.infoPart : (Tryd.prog.info? 42).map (fun i => (i.zero, i.size, i.bytes)) = some (some (.agg #[.int .i64 0, .int .i64 0, .string ⟨#[]⟩]), 3, 32) := by kernel_rfl
/-- A list of parts as cells. -/
def cellsP (l : List Part) : List Value := l.flatMap fun p => [.int .i64 p.k, .int .i64 p.n, .string ⟨p.s.toArray⟩]
theorem cellsP_app (a b : List Part) : cellsP (a ++ b) = cellsP a ++ cellsP b := by simp [cellsP]
theorem cellsP_length (l : List Part) : (cellsP l).length = l.length * 3 := by
  induction l with
  | nil => rfl
  | cons p l ih => simp only [cellsP, List.flatMap_cons, List.length_append, List.length_cons, List.length_nil] at ih ⊢; omega
theorem cellsP_at : ∀ {l : List Part} {i : Nat} {p : Part}, l[i]? = some p → (cellsP l)[i * 3]? = some (.int .i64 p.k) ∧ (cellsP l)[i * 3 + 1]? = some (.int .i64 p.n) ∧ (cellsP l)[i * 3 + 2]? = some (.string ⟨p.s.toArray⟩)
  | [], i, p, h => by simp at h
  | q :: l, 0, p, h => by simp at h; subst h; simp [cellsP]
  | q :: l, i + 1, p, h => by
    have ih := cellsP_at (l := l) (i := i) (p := p) (by simpa using h)
    have e : ∀ j, (cellsP (q :: l))[j + 3]? = (cellsP l)[j]? := fun j => rfl
    rw [show (i + 1) * 3 = i * 3 + 3 by omega, show i * 3 + 3 + 1 = (i * 3 + 1) + 3 by omega, show i * 3 + 3 + 2 = (i * 3 + 2) + 3 by omega, e, e, e]
    exact ih
theorem parts_own {w : World} {base : Nat} {T : TypeId} {A : Option Addr} {n c : Nat} {l : List Part} (hl : l.length = n) (h : w.ownsRow base T 3 (.slice A n c) n (cellsP l)) : Parts w A l := fun i p hi => by
  have hn : 0 < n := by have := (List.getElem?_eq_some_iff.1 hi).1; omega
  obtain ⟨g, cap, hv, _, hlt⟩ := h.form hn
  have hA : A = some ⟨g, 0, none⟩ := by injection hv
  subst hA
  obtain ⟨h1, h2, h3⟩ := cellsP_at hi
  have hc := h.cells (g := g) rfl
  have ea : ∀ j, (Addr.add ⟨g, 0, none⟩ j) = ⟨g, 0 + j, none⟩ := fun j => by unfold Addr.add; split <;> simp_all
  refine ⟨g, 0, rfl, hlt, ?_, ?_, ?_⟩
  · have := hc _ _ h1; rwa [ea] at this
  · have := hc _ _ h2; rwa [ea] at this
  · have := hc _ _ h3; rwa [ea] at this

def DecPost (t : List UInt8) (e : Ending) (w' : World) : Prop := match dec t with
  | none => e = .returned (.tuple #[.slice none 0 0, .int .i64 10])
  | some l => ∃ A c, e = .returned (.tuple #[.slice A l.length c, .int .i64 0]) ∧ Parts w' A l ∧ l.length ≤ c
theorem DecPost.no {t : List UInt8} {w' : World} (h : dec t = none) : DecPost t (.returned (.tuple #[.slice none 0 0, .int .i64 10])) w' := by unfold DecPost; rw [h]
theorem DecPost.yes {t : List UInt8} {w' : World} {l : List Part} {A : Option Addr} {n c : Nat} (h : dec t = some l) (hn : l.length = n) (hp : Parts w' A l) (hc : n ≤ c) : DecPost t (.returned (.tuple #[.slice A n c, .int .i64 0])) w' := by
  subst hn
  unfold DecPost; rw [h]; exact ⟨A, c, rfl, hp, hc⟩
theorem own_cap {w : World} {base size n c : Nat} {e : TypeId} {A : Option Addr} {xs : List Value} (h : w.ownsRow base e size (.slice A n c) n xs) : n ≤ c := by
  rcases h.2 with ⟨h1, h2⟩ | ⟨g, cap, cur, h1, _, _, h4, _⟩
  · omega
  · injection h1 with _ _ h3; omega
theorem ba_list (l : List UInt8) : (⟨l.toArray⟩ : ByteArray).toList = l := ByteArray.toList_mk l
theorem own_form {w : World} {base size n : Nat} {e : TypeId} {v : Value} {xs : List Value} (h : w.ownsRow base e size v n xs) : ∃ A c, v = .slice A n c := by
  rcases h.2 with ⟨h1, h2⟩ | ⟨g, cap, cur, h1, _⟩
  · exact ⟨none, 0, by rw [h1, h2]⟩
  · exact ⟨_, cap, h1⟩
/-- What a kind's decode answers. -/
def dpV (o : Option (Part × List UInt8)) : Value := match o with
  | none => .tuple #[.agg #[.int .i64 0, .int .i64 0, .string ⟨#[]⟩], .string ⟨#[]⟩, .bool false]
  | some (p, r) => .tuple #[.agg #[.int .i64 p.k, .int .i64 p.n, .string ⟨p.s.toArray⟩], .string ⟨r.toArray⟩, .bool true]
theorem dec_int (q : List UInt8) (hq : q.length ≤ 200) (W : World) : Calls Tryd.prog 28 #[.string ⟨q.toArray⟩] W fun e w' => e = .returned (dpV (decP (1 :: q))) ∧ Below W.heap.size W w' := by
  have hs : (⟨q.toArray⟩ : ByteArray).size = q.length := by simp [ByteArray.size]
  by_cases h : q.length < 8
  · have e : decP (1 :: q) = none := by simp [decP, h]
    rw [e]
    exact decodeInt_no _ (by omega) W
  · have e : decP (1 :: q) = some (⟨1, deI (q.take 8), []⟩, q.drop 8) := by simp [decP, h]
    rw [e]
    have := decodeInt_yes ⟨q.toArray⟩ (by omega) (by omega) W
    rw [hs] at this
    have e2 : (⟨q.toArray⟩ : ByteArray).extract 8 q.length = ⟨(q.drop 8).toArray⟩ := by
      apply ByteArray.ext
      simp
      exact List.take_of_length_le (by simp)
    rw [e2] at this
    exact this
theorem dec_text (q : List UInt8) (hq : q.length ≤ 200) (W : World) : Calls Tryd.prog 32 #[.string ⟨q.toArray⟩] W fun e w' => e = .returned (dpV (decP (2 :: q))) ∧ Below W.heap.size W w' := by
  have h := decodeText_any q (by omega) W
  cases hd : decT q with
  | none =>
    have e : decP (2 :: q) = none := by simp [decP, hd]
    rw [e]; rw [hd] at h; exact h
  | some x =>
    have e : decP (2 :: q) = some (⟨2, 0, x.1⟩, x.2) := by simp [decP, hd]
    rw [e]; rw [hd] at h; exact h
theorem decP_other {c : UInt8} {t : List UInt8} (h1 : c ≠ 1) (h2 : c ≠ 2) : decP (c :: t) = none := by simp [decP, h1, h2]
theorem decP_short {c : UInt8} {t r : List UInt8} {p : Part} (h : decP (c :: t) = some (p, r)) : r.length < t.length + 1 := by
  obtain ⟨h1, _⟩ := decP_back h
  have h2 := congrArg List.length h1
  rw [List.length_append, List.length_cons] at h2
  have : 0 < (enP p).length := List.length_pos_iff.2 (enP_ne p)
  omega
theorem own_below {w w' : World} {base size n : Nat} {e : TypeId} {v : Value} {xs : List Value} (h : w.ownsRow base e size v n xs) (hb : Below w.heap.size w w') : w'.ownsRow base e size v n xs := by
  refine h.kept (grown_none hb) ?_
  cases hv : v.ownBlock with
  | none => exact .inl rfl
  | some x => exact .inr (by simp)
theorem de_step {w wo W w2 : World} {T : TypeId} {v : Value} {n : Nat} {xs : List Value} {o : Obj} (hbl : Below w.heap.size w wo) (hbW : Below wo.heap.size wo W) (hO : wo.ownsRow (w.heap.size + 1) T 3 v n xs) (hg : W.grownBy w2 v.ownBlock) (hmap : wo.heap[w.heap.size]? = some o) (hz : w.heap.size < wo.heap.size) :
    w2.heap[w.heap.size]? = some o ∧ Below w.heap.size w w2 ∧ w.heap.size < w2.heap.size := by
  have h1 := hbW.size
  have h2 := hg.size
  refine ⟨?_, (hbl.trans (hbW.mono (by omega))).grown hg (by omega) (fun g hg' => by have := (hO.lt g hg').1; omega), by omega⟩
  rw [hg.block _ (by omega) (fun e => by have := (hO.lt _ e.symm).1; omega), hbW.block _ hz, hmap]
def DeRel (w wr : World) (t r : List UInt8) (acc : List Part) (v : Value) : Prop :=
  r.length ≤ 200 ∧ acc.length ≤ 8 ∧ wr.ownsRow (w.heap.size + 1) 42 3 v acc.length (cellsP acc) ∧ dec t = (decL (8 - acc.length) r).map (acc ++ ·) ∧ wr.heap[w.heap.size]? = some (.map kindsE 2) ∧ Below w.heap.size w wr ∧ w.heap.size < wr.heap.size
set_option maxHeartbeats 1000000 in
set_option maxRecDepth 100000 in
theorem decode_any (t : List UInt8) (ht : t.length ≤ 1000000) (w : World) : Calls Tryd.prog 12 #[.string ⟨t.toArray⟩] w fun e w' => DecPost t e w' ∧ Below w.heap.size w w' := by
  obtain ⟨i0, hi0, hz0, hz1, hz2⟩ := info_parts Tryd.infoPart
  have KI := Lib.hid (fun W => kinds_any W)
  by_cases h2 : 200 < t.length
  · have h2' : (200 : Int) < t.length := by omega
    have E := Lib.hid (show dec t = none from if_pos h2)
    go_enter Tryd.func12, Tryd.ntmps12
    go_wp2
    go_ret2
    exact ⟨DecPost.no E.out, (by repeat (first | exact Below.refl _ _ | refine Below.setCell ?_ (by first | (simp; done) | (simp; omega) | omega) _ | refine Below.alloc ?_ (by first | (simp; done) | (simp; omega) | omega) _ | refine Below.drew ?_ | assumption | refine Below.trans ?_ (Below.mono (by assumption) (by first | (simp; done) | (simp; omega) | omega))))⟩
  · have h2' : ¬ (200 : Int) < t.length := by omega
    have E := Lib.hid (show dec t = decL 8 t from if_neg h2)
    go_enter Tryd.func12, Tryd.ntmps12
    go_wp2_with (first | (go_at_call 21; refine (KI.out _).mono ?_; rintro e w' ⟨rfl, rfl⟩))
    go_loopw [5, 6] (fun v sv wr => ∃ r acc, sv = .string ⟨r.toArray⟩ ∧ DeRel w wr t r acc v) (fun _ sv _ => match sv with | .string x => x.size | _ => 0)
    case atStart =>
      refine ⟨t, [], rfl, by omega, by simp, World.ownsRow_nil _ _ _ _, ?_, heap_alloc_new _ _, (by repeat (first | exact Below.refl _ _ | refine Below.setCell ?_ (by first | (simp; done) | (simp; omega) | omega) _ | refine Below.alloc ?_ (by first | (simp; done) | (simp; omega) | omega) _ | refine Below.drew ?_ | assumption | refine Below.trans ?_ (Below.mono (by assumption) (by first | (simp; done) | (simp; omega) | omega)))), by simp⟩
      rw [E.out]; cases decL 8 t <;> simp
    case round =>
      clear E h2 h2'
      obtain ⟨r, acc, rfl, hr2, hacc, hown, hdec, hmap, hbl, hz⟩ := hrel
      obtain ⟨wo, rfl⟩ : ∃ wo : World, wo = wr := ⟨_, rfl⟩
      obtain ⟨n, hn⟩ : ∃ n, acc.length = n := ⟨_, rfl⟩
      rw [hn] at hown hacc hdec
      obtain ⟨A, c, rfl⟩ := own_form hown
      have HN := Lib.hid hn
      have HD := Lib.hid hdec
      have HO := Lib.hid hown
      clear hdec hown hn
      cases r with
      | nil =>
        have HE : Hid (dec t = some acc) := Lib.hid (by rw [HD.out]; cases h : 8 - n <;> simp [decL])
        go_wp2
        go_ret2
        exact ⟨DecPost.yes HE.out HN.out (parts_own HN.out HO.out) (own_cap HO.out), hbl⟩
      | cons ch q =>
        have hts : (⟨(ch :: q).toArray⟩ : ByteArray).size = q.length + 1 := by simp [ByteArray.size]
        have p0 : 0 < (⟨(ch :: q).toArray⟩ : ByteArray).size := by omega
        have p0' : (0 : Int) < (⟨(ch :: q).toArray⟩ : ByteArray).size := by omega
        have p1' : (1 : Int) ≤ (⟨(ch :: q).toArray⟩ : ByteArray).size := by omega
        have f0 : ((⟨(ch :: q).toArray⟩ : ByteArray)[0]'p0).toNat = ch.toNat := rfl
        have e1 : (⟨(ch :: q).toArray⟩ : ByteArray).extract 1 (⟨(ch :: q).toArray⟩ : ByteArray).size = ⟨q.toArray⟩ := by rw [hts]; exact (by rw [Nat.add_comm]; exact ext_back [ch] q)
        have ne1 : (⟨(ch :: q).toArray⟩ : ByteArray).toList = ch :: q := ba_list _
        have HS := Lib.hid hts
        clear hts
        obtain ⟨kc, hkc⟩ : ∃ kc, ch.toNat = kc := ⟨_, rfl⟩
        rw [hkc] at f0
        have kc2 : kc < 256 := by rw [← hkc]; exact ch.toNat_lt
        have HC := Lib.hid hkc
        clear hkc
        have h3 : kc = 1 ∨ kc = 2 ∨ (kc ≠ 1 ∧ kc ≠ 2) := by omega
        rcases h3 with k1 | k1 | ⟨k1, k2⟩
        · obtain rfl : ch = 1 := UInt8.toNat_inj.1 (by rw [HC.out, k1]; rfl)
          rw [k1] at f0
          clear kc2 HC k1
          have lk := look_1 wo w.heap.size hmap
          unfold kindI at lk
          by_cases n8 : n = 8
          · have HE : Hid (dec t = none) := Lib.hid (by rw [HD.out, n8]; rfl)
            subst n8
            generalize (⟨(1 :: q).toArray⟩ : ByteArray) = rb at *
            go_wp2
            go_ret2
            exact ⟨DecPost.no HE.out, (by repeat (first | exact Below.refl _ _ | refine Below.setCell ?_ (by first | (simp; done) | (simp; omega) | omega) _ | refine Below.alloc ?_ (by first | (simp; done) | (simp; omega) | omega) _ | refine Below.drew ?_ | assumption | refine Below.trans ?_ (Below.mono (by assumption) (by first | (simp; done) | (simp; omega) | omega))))⟩
          · have n8' : ((n : Int) == 8) = false := by rw [beq_eq_false_iff_ne]; omega
            have hql : q.length ≤ 200 := by simp at hr2; omega
            have CF : Hid (∀ W, Calls Tryd.prog 28 #[.string ⟨q.toArray⟩] W fun e w' => e = .returned (dpV (decP (1 :: q))) ∧ Below W.heap.size W w') := Lib.hid fun W => by
              exact dec_int q hql W
            obtain ⟨m, hm⟩ : ∃ m, 8 - n = m + 1 := ⟨8 - n - 1, by omega⟩
            rw [hm] at HD
            cases hp : decP (1 :: q) with
            | none =>
              have HE : Hid (dec t = none) := Lib.hid (by rw [HD.out]; simp [decL, hp])
              rw [hp] at CF
              unfold dpV at CF
              clear hp hm
              generalize (⟨(1 :: q).toArray⟩ : ByteArray) = rb at *
              go_wp2
              go_region_held3 (fun w' => w'.cell? ⟨wo.heap.size, 1, none⟩ = some (.func (.func 28) #[] #[]) ∧ wo.heap.size < w'.heap.size ∧ Below w.heap.size w w')
      (first | (refine ⟨?_, ?_, ?_⟩ <;> first | (simp [go_sem, *]; done) | omega | (simp; omega) | exact (by repeat (first | exact Below.refl _ _ | refine Below.setCell ?_ (by first | (simp; done) | (simp; omega) | omega) _ | refine Below.alloc ?_ (by first | (simp; done) | (simp; omega) | omega) _ | refine Below.drew ?_ | assumption | refine Below.trans ?_ (Below.mono (by assumption) (by first | (simp; done) | (simp; omega) | omega))))))
      (first | (first | (go_at_call 28; refine (CF.out _).mono ?_; rintro e w5 ⟨rfl, hb5⟩; obtain ⟨hc5, hf5⟩ := bcell hb5; (try simp only [drew_size, drew_cell, drew_frozen] at hc5 hf5); have hs5 := hb5.size; (try simp at hs5); have hz5 : wo.heap.size < w5.heap.size := by have := hb5.size; (try simp at this); omega)))
              all_goals go_wp2
              all_goals go_ret2
              all_goals exact ⟨DecPost.no HE.out, (by repeat (first | exact Below.refl _ _ | refine Below.setCell ?_ (by first | (simp; done) | (simp; omega) | omega) _ | refine Below.alloc ?_ (by first | (simp; done) | (simp; omega) | omega) _ | refine Below.drew ?_ | assumption | refine Below.trans ?_ (Below.mono (by assumption) (by first | (simp; done) | (simp; omega) | omega))))⟩
            | some x =>
              obtain ⟨p, r2⟩ := x
              have HE : Hid (dec t = (decL (8 - (acc ++ [p]).length) r2).map ((acc ++ [p]) ++ ·)) := Lib.hid (by
                rw [HD.out, List.length_append, HN.out, show 8 - (n + [p].length) = m by simp; omega, decL, hp]
                cases h : decL m r2 <;> simp [h])
              have hrl : Hid (r2.length < q.length + 1) := Lib.hid (decP_short hp)
              rw [hp] at CF
              unfold dpV at CF
              clear hp hm HD
              generalize (⟨(1 :: q).toArray⟩ : ByteArray) = rb at *
              go_wp2
              go_region_held3 (fun w' => w'.cell? ⟨wo.heap.size, 1, none⟩ = some (.func (.func 28) #[] #[]) ∧ wo.heap.size < w'.heap.size ∧ Below w.heap.size w w')
      (first | (refine ⟨?_, ?_, ?_⟩ <;> first | (simp [go_sem, *]; done) | omega | (simp; omega) | exact (by repeat (first | exact Below.refl _ _ | refine Below.setCell ?_ (by first | (simp; done) | (simp; omega) | omega) _ | refine Below.alloc ?_ (by first | (simp; done) | (simp; omega) | omega) _ | refine Below.drew ?_ | assumption | refine Below.trans ?_ (Below.mono (by assumption) (by first | (simp; done) | (simp; omega) | omega))))))
      (first | (first | (go_at_call 28; refine (CF.out _).mono ?_; rintro e w5 ⟨rfl, hb5⟩; obtain ⟨hc5, hf5⟩ := bcell hb5; (try simp only [drew_size, drew_cell, drew_frozen] at hc5 hf5); have hs5 := hb5.size; (try simp at hs5); have hz5 : wo.heap.size < w5.heap.size := by have := hb5.size; (try simp at this); omega)))
              all_goals go_wp2_with (first
                | (at_builtin; refine wpList_append_own _ rfl (.tmp 45) (.tmp 47) 22 rfl (w.heap.size + 1) 42 i0 _ 3 32 Tryd.underlying22 hi0 hz0 hz1 hz2 rfl (by decide) (.slice A n c) n (cellsP acc) rfl (own_below HO.out (by repeat (first | exact Below.refl _ _ | refine Below.setCell ?_ (by first | (simp; done) | (simp; omega) | omega) _ | refine Below.alloc ?_ (by first | (simp; done) | (simp; omega) | omega) _ | refine Below.drew ?_ | assumption | refine Below.trans ?_ (Below.mono (by assumption) (by first | (simp; done) | (simp; omega) | omega))))) _ 1 1 [.int .i64 p.k, .int .i64 p.n, .string ⟨p.s.toArray⟩] rfl rfl (by intro j u hj; match j, hj with | 0, hj => (simp at hj; subst hj; simp [Addr.add, go_sem]) | 1, hj => (simp at hj; subst hj; simp [Addr.add, go_sem]) | 2, hj => (simp at hj; subst hj; simp [Addr.add, go_sem])) (by intro u hu; simp at hu; rcases hu with rfl | rfl | rfl <;> rfl) (by unfold maxLen; omega) (by omega) (by simp; omega) ?_; intro v2 w2 hown2 hgrow2 hiff; clear hiff
                   have HST := Lib.hid (de_step hbl (by repeat (first | exact Below.refl _ _ | refine Below.setCell ?_ (by first | (simp; done) | (simp; omega) | omega) _ | refine Below.alloc ?_ (by first | (simp; done) | (simp; omega) | omega) _ | refine Below.drew ?_ | assumption | refine Below.trans ?_ (Below.mono (by assumption) (by first | (simp; done) | (simp; omega) | omega)))) HO.out hgrow2 hmap hz)
                   have HO2 : Hid (w2.ownsRow (w.heap.size + 1) 42 3 v2 (acc ++ [p]).length (cellsP (acc ++ [p]))) := Lib.hid (by rw [cellsP_app, List.length_append, HN.out]; exact hown2)
                   clear hown2 hgrow2))
              all_goals go_roundw
              all_goals first
                | exact ⟨r2, acc ++ [p], rfl, by have := hrl.out; simp at hr2; omega, by rw [List.length_append, HN.out]; simp; omega, HO2.out, HE.out, HST.out.1, HST.out.2.1, HST.out.2.2⟩
                | (show r2.toArray.size < rb.size; rw [HS.out]; have := hrl.out; simp; omega)
        · obtain rfl : ch = 2 := UInt8.toNat_inj.1 (by rw [HC.out, k1]; rfl)
          rw [k1] at f0
          clear kc2 HC k1
          have lk := look_2 wo w.heap.size hmap
          unfold kindT at lk
          by_cases n8 : n = 8
          · have HE : Hid (dec t = none) := Lib.hid (by rw [HD.out, n8]; rfl)
            subst n8
            generalize (⟨(2 :: q).toArray⟩ : ByteArray) = rb at *
            go_wp2
            go_ret2
            exact ⟨DecPost.no HE.out, (by repeat (first | exact Below.refl _ _ | refine Below.setCell ?_ (by first | (simp; done) | (simp; omega) | omega) _ | refine Below.alloc ?_ (by first | (simp; done) | (simp; omega) | omega) _ | refine Below.drew ?_ | assumption | refine Below.trans ?_ (Below.mono (by assumption) (by first | (simp; done) | (simp; omega) | omega))))⟩
          · have n8' : ((n : Int) == 8) = false := by rw [beq_eq_false_iff_ne]; omega
            have hql : q.length ≤ 200 := by simp at hr2; omega
            have CF : Hid (∀ W, Calls Tryd.prog 32 #[.string ⟨q.toArray⟩] W fun e w' => e = .returned (dpV (decP (2 :: q))) ∧ Below W.heap.size W w') := Lib.hid fun W => by
              exact dec_text q hql W
            obtain ⟨m, hm⟩ : ∃ m, 8 - n = m + 1 := ⟨8 - n - 1, by omega⟩
            rw [hm] at HD
            cases hp : decP (2 :: q) with
            | none =>
              have HE : Hid (dec t = none) := Lib.hid (by rw [HD.out]; simp [decL, hp])
              rw [hp] at CF
              unfold dpV at CF
              clear hp hm
              generalize (⟨(2 :: q).toArray⟩ : ByteArray) = rb at *
              go_wp2
              go_region_held3 (fun w' => w'.cell? ⟨wo.heap.size, 1, none⟩ = some (.func (.func 32) #[] #[]) ∧ wo.heap.size < w'.heap.size ∧ Below w.heap.size w w')
      (first | (refine ⟨?_, ?_, ?_⟩ <;> first | (simp [go_sem, *]; done) | omega | (simp; omega) | exact (by repeat (first | exact Below.refl _ _ | refine Below.setCell ?_ (by first | (simp; done) | (simp; omega) | omega) _ | refine Below.alloc ?_ (by first | (simp; done) | (simp; omega) | omega) _ | refine Below.drew ?_ | assumption | refine Below.trans ?_ (Below.mono (by assumption) (by first | (simp; done) | (simp; omega) | omega))))))
      (first | (first | (go_at_call 32; refine (CF.out _).mono ?_; rintro e w5 ⟨rfl, hb5⟩; obtain ⟨hc5, hf5⟩ := bcell hb5; (try simp only [drew_size, drew_cell, drew_frozen] at hc5 hf5); have hs5 := hb5.size; (try simp at hs5); have hz5 : wo.heap.size < w5.heap.size := by have := hb5.size; (try simp at this); omega)))
              all_goals go_wp2
              all_goals go_ret2
              all_goals exact ⟨DecPost.no HE.out, (by repeat (first | exact Below.refl _ _ | refine Below.setCell ?_ (by first | (simp; done) | (simp; omega) | omega) _ | refine Below.alloc ?_ (by first | (simp; done) | (simp; omega) | omega) _ | refine Below.drew ?_ | assumption | refine Below.trans ?_ (Below.mono (by assumption) (by first | (simp; done) | (simp; omega) | omega))))⟩
            | some x =>
              obtain ⟨p, r2⟩ := x
              have HE : Hid (dec t = (decL (8 - (acc ++ [p]).length) r2).map ((acc ++ [p]) ++ ·)) := Lib.hid (by
                rw [HD.out, List.length_append, HN.out, show 8 - (n + [p].length) = m by simp; omega, decL, hp]
                cases h : decL m r2 <;> simp [h])
              have hrl : Hid (r2.length < q.length + 1) := Lib.hid (decP_short hp)
              rw [hp] at CF
              unfold dpV at CF
              clear hp hm HD
              generalize (⟨(2 :: q).toArray⟩ : ByteArray) = rb at *
              go_wp2
              go_region_held3 (fun w' => w'.cell? ⟨wo.heap.size, 1, none⟩ = some (.func (.func 32) #[] #[]) ∧ wo.heap.size < w'.heap.size ∧ Below w.heap.size w w')
      (first | (refine ⟨?_, ?_, ?_⟩ <;> first | (simp [go_sem, *]; done) | omega | (simp; omega) | exact (by repeat (first | exact Below.refl _ _ | refine Below.setCell ?_ (by first | (simp; done) | (simp; omega) | omega) _ | refine Below.alloc ?_ (by first | (simp; done) | (simp; omega) | omega) _ | refine Below.drew ?_ | assumption | refine Below.trans ?_ (Below.mono (by assumption) (by first | (simp; done) | (simp; omega) | omega))))))
      (first | (first | (go_at_call 32; refine (CF.out _).mono ?_; rintro e w5 ⟨rfl, hb5⟩; obtain ⟨hc5, hf5⟩ := bcell hb5; (try simp only [drew_size, drew_cell, drew_frozen] at hc5 hf5); have hs5 := hb5.size; (try simp at hs5); have hz5 : wo.heap.size < w5.heap.size := by have := hb5.size; (try simp at this); omega)))
              all_goals go_wp2_with (first
                | (at_builtin; refine wpList_append_own _ rfl (.tmp 45) (.tmp 47) 22 rfl (w.heap.size + 1) 42 i0 _ 3 32 Tryd.underlying22 hi0 hz0 hz1 hz2 rfl (by decide) (.slice A n c) n (cellsP acc) rfl (own_below HO.out (by repeat (first | exact Below.refl _ _ | refine Below.setCell ?_ (by first | (simp; done) | (simp; omega) | omega) _ | refine Below.alloc ?_ (by first | (simp; done) | (simp; omega) | omega) _ | refine Below.drew ?_ | assumption | refine Below.trans ?_ (Below.mono (by assumption) (by first | (simp; done) | (simp; omega) | omega))))) _ 1 1 [.int .i64 p.k, .int .i64 p.n, .string ⟨p.s.toArray⟩] rfl rfl (by intro j u hj; match j, hj with | 0, hj => (simp at hj; subst hj; simp [Addr.add, go_sem]) | 1, hj => (simp at hj; subst hj; simp [Addr.add, go_sem]) | 2, hj => (simp at hj; subst hj; simp [Addr.add, go_sem])) (by intro u hu; simp at hu; rcases hu with rfl | rfl | rfl <;> rfl) (by unfold maxLen; omega) (by omega) (by simp; omega) ?_; intro v2 w2 hown2 hgrow2 hiff; clear hiff
                   have HST := Lib.hid (de_step hbl (by repeat (first | exact Below.refl _ _ | refine Below.setCell ?_ (by first | (simp; done) | (simp; omega) | omega) _ | refine Below.alloc ?_ (by first | (simp; done) | (simp; omega) | omega) _ | refine Below.drew ?_ | assumption | refine Below.trans ?_ (Below.mono (by assumption) (by first | (simp; done) | (simp; omega) | omega)))) HO.out hgrow2 hmap hz)
                   have HO2 : Hid (w2.ownsRow (w.heap.size + 1) 42 3 v2 (acc ++ [p]).length (cellsP (acc ++ [p]))) := Lib.hid (by rw [cellsP_app, List.length_append, HN.out]; exact hown2)
                   clear hown2 hgrow2))
              all_goals go_roundw
              all_goals first
                | exact ⟨r2, acc ++ [p], rfl, by have := hrl.out; simp at hr2; omega, by rw [List.length_append, HN.out]; simp; omega, HO2.out, HE.out, HST.out.1, HST.out.2.1, HST.out.2.2⟩
                | (show r2.toArray.size < rb.size; rw [HS.out]; have := hrl.out; simp; omega)
        · have lk := look_none wo w.heap.size kc (by omega) (by omega) hmap
          have hd0 := decP_other (t := q) (fun h : ch = 1 => k1 (by rw [← HC.out, h]; rfl)) (fun h : ch = 2 => k2 (by rw [← HC.out, h]; rfl))
          have HE : Hid (dec t = none) := Lib.hid (by rw [HD.out]; cases h : 8 - n <;> simp [decL, hd0])
          clear hd0 k1 k2 HC
          generalize (⟨(ch :: q).toArray⟩ : ByteArray) = rb at *
          go_wp2
          go_ret2
          exact ⟨DecPost.no HE.out, (by repeat (first | exact Below.refl _ _ | refine Below.setCell ?_ (by first | (simp; done) | (simp; omega) | omega) _ | refine Below.alloc ?_ (by first | (simp; done) | (simp; omega) | omega) _ | refine Below.drew ?_ | assumption | refine Below.trans ?_ (Below.mono (by assumption) (by first | (simp; done) | (simp; omega) | omega))))⟩
end Go.Proofs.YtjccadfaiahkkaaDoor
