/-
  The walk of the statement TierRises: it returns true, whatever it is given.
-/
import Derived.Test.YtehlmpndbmlklaaLa3
namespace Go.Proofs.Ytehlmpndbmlklaa
set_option linter.all false
open Go.RowKit Go.Sort
attribute [local go_sem] cell_set_self lt_1 lt_2 lt_3 lt_4 lt_5 lt_6






set_option maxRecDepth 100000 in
set_option maxHeartbeats 4000000 in
theorem rises_main (A : Option Addr) (m c : Nat) (l : List (Int × Int)) (q more : Int) (hl : l.length = m + 1) (hn : m + 1 ≤ 20) (hq0 : 0 ≤ q) (hqm : q ≤ more) (hm : more ≤ 1125899906842624) (hck : checkT l = 0) (hok : okFrom 0 l = true) (w : World) (T : Tiers w A l) :
    Calls Try.prog 3 #[.slice A (m + 1) c, .int .i64 q, .int .i64 more] w fun e w' => e = .returned (.bool true) ∧ Below w.heap.size w w' := by
  obtain ⟨i0, hi0, hz0, hz1, hz2⟩ := info_parts Try.infoTier
  obtain ⟨b, off, rfl⟩ : ∃ b off, A = some ⟨b, off, none⟩ := by
    obtain ⟨b, off, h, _⟩ := T 0 (l[0]'(by omega)) (by simp)
    exact ⟨b, off, h⟩
  obtain ⟨u0, c0, hg0⟩ : ∃ u0 c0, l[0]? = some (u0, c0) := ⟨(l[0]'(by omega)).1, (l[0]'(by omega)).2, List.getElem?_eq_getElem _⟩
  obtain ⟨um, cm, hgm⟩ : ∃ u0 c0, l[m]? = some (u0, c0) := ⟨(l[m]'(by omega)).1, (l[m]'(by omega)).2, List.getElem?_eq_getElem _⟩
  have bc0 := okFrom_price hok (List.mem_of_getElem? hg0)
  have bcm := okFrom_price hok (List.mem_of_getElem? hgm)
  have hq : In64 q := by unfold In64; omega
  have hmo : In64 more := by unfold In64; omega
  have hbs : b < w.heap.size := by
    obtain ⟨b', off', hA, hbs, _⟩ := T 0 _ hg0
    injection hA with hA; injection hA with hb ho; subst hb; exact hbs
  have qq0 : w.cell? ⟨b, off + 1, none⟩ = some (.int .i64 c0) := by
    obtain ⟨b', off', hA, _, _, h⟩ := T 0 _ hg0
    injection hA with hA; injection hA with hb ho; subst hb; subst ho; simpa using h
  have qqm : w.cell? ⟨b, off + m * 2 + 1, none⟩ = some (.int .i64 cm) := by
    obtain ⟨b', off', hA, _, _, h⟩ := T m _ hgm
    injection hA with hA; injection hA with hb ho; subst hb; subst ho; exact h
  have pos : ∀ t ∈ l, 0 ≤ t.2 := fun t ht => (okFrom_price (u := t.1) (p := t.2) hok ht).1
  have prs : ∀ t ∈ l, 0 ≤ t.2 ∧ t.2 ≤ 1125899906842624 := fun t ht => okFrom_price (u := t.1) (p := t.2) hok ht
  have c1 := fun W (T' : Tiers W (some ⟨b, off, none⟩) l) => tiered_any (some ⟨b, off, none⟩) (m + 1) c l q hl (by omega) hq W T'
  have c2 := fun W (T' : Tiers W (some ⟨b, off, none⟩) l) => tiered_any (some ⟨b, off, none⟩) (m + 1) c l more hl (by omega) hmo W T'
  have cv := fun W (T' : Tiers W (some ⟨b, off, none⟩) l) => volume_any (some ⟨b, off, none⟩) (m + 1) c l q hl (by omega) hq W T'
  rw [(priceN_ok hck hq0 (by omega)).1, (priceN_ok hck hq0 (by omega)).2] at c1 cv
  rw [(priceN_ok hck (q := more) (by omega) hm).1, (priceN_ok hck (q := more) (by omega) hm).2] at c2
  have cf := fun (p : Int) (h0 : 0 ≤ p) (h1 : p ≤ 1125899906842624) W => flat_any p q hq W
  have cF : ∀ (p : Int), 0 ≤ p → p ≤ 1125899906842624 → ∀ W, Calls Try.prog 13 #[.int .i64 p, .int .i64 q] W fun e w' => e = .returned (.tuple #[.int .i64 (unitsN (rhe (q * p) 1000000)), .int .i64 (unitsE (rhe (q * p) 1000000))]) ∧ Below W.heap.size W w' := fun p h0 h1 W => by
    have := cf p h0 h1 W
    rw [(priceN_ok (one_ok h0 h1).1 hq0 (by omega)).1, (priceN_ok (one_ok h0 h1).1 hq0 (by omega)).2, one_V] at this
    exact this
  have cP := cF (priceAt l q) (priceAt_bd prs).1 (priceAt_bd prs).2
  have cF0 := cF c0 bc0.1 bc0.2
  have cFl : ∀ (A' : Option Addr) (cap : Nat) W, Tiers W A' (flatT c0 l) → Calls Try.prog 11 #[.slice A' (m + 1) cap, .int .i64 q] W fun e w' => e = .returned (.tuple #[.int .i64 (unitsN (rhe (q * c0) 1000000)), .int .i64 (unitsE (rhe (q * c0) 1000000))]) ∧ Below W.heap.size W w' := fun A' cap W T' => by
    have := tiered_any A' (m + 1) cap (flatT c0 l) q (by rw [flatT_length]; exact hl) (by omega) hq W T'
    have ok := flatT_ok bc0.1 bc0.2 hok
    have ck : checkT (flatT c0 l) = 0 := chk_0 (by rw [flatT_length]; omega) (by rw [flatT_length]; omega) ok
    have ne : flatT c0 l ≠ [] := by intro e; have := congrArg List.length e; rw [flatT_length, hl] at this; simp at this
    rw [(priceN_ok ck hq0 (by omega)).1, (priceN_ok ck hq0 (by omega)).2, byT_same ne hq0 ok (by omega) (flatT_same c0 l), Int.sub_zero] at this
    exact this
  have cO : ∀ (A' : Option Addr) W, Tiers W A' [(0, c0)] → Calls Try.prog 11 #[.slice A' 1 1, .int .i64 q] W fun e w' => e = .returned (.tuple #[.int .i64 (unitsN (rhe (q * c0) 1000000)), .int .i64 (unitsE (rhe (q * c0) 1000000))]) ∧ Below W.heap.size W w' := fun A' W T' => by
    have := tiered_any A' 1 1 [(0, c0)] q rfl (by omega) hq W T'
    rw [(priceN_ok (one_ok bc0.1 bc0.2).1 hq0 (by omega)).1, (priceN_ok (one_ok bc0.1 bc0.2).1 hq0 (by omega)).2, byT_same (c := c0) (by simp) hq0 (one_ok bc0.1 bc0.2).2 (by omega) (by intro t ht; simp at ht; subst ht; rfl), Int.sub_zero] at this
    exact this
  have mono := fun hy => units_mono (by have := rhe_mono 0 (byT l 0 q) 1000000 (by omega) (byT_nonneg pos); rwa [rhe_zero _ (by omega)] at this) (rhe_mono (byT l 0 q) (byT l 0 more) 1000000 (by omega) (byT_mono hqm pos)) hy
  rw [byV_eq (by omega) hok] at cv
  have ge2 := unitsE_ge (rhe (byT l 0 more) 1000000)
  generalize unitsN (rhe (byT l 0 q) 1000000) = va at *
  generalize unitsE (rhe (byT l 0 q) 1000000) = ea at *
  generalize unitsN (rhe (byT l 0 more) 1000000) = vb at *
  generalize unitsE (rhe (byT l 0 more) 1000000) = eb at *
  generalize unitsN (rhe (q * c0) 1000000) = vc at *
  generalize unitsE (rhe (q * c0) 1000000) = ec at *
  generalize unitsN (rhe (q * priceAt l q) 1000000) = vv at *
  generalize unitsE (rhe (q * priceAt l q) 1000000) = ev at *
  have ck := fun W (T' : Tiers W (some ⟨b, off, none⟩) l) => check_any (some ⟨b, off, none⟩) (m + 1) c l hl (by omega) W T'
  rw [hck] at ck
  have K0 := Lib.hid (fun W (hb : Below w.heap.size w W) => calls_abs hb (first_any W))
  have KN := Lib.hid (fun e W (hb : Below w.heap.size w W) => calls_abs hb (num_any e W))
  have KC := Lib.hid (fun W (hb : Below w.heap.size w W) => calls_abs hb (ck W (T.below hb)))
  have K1 := Lib.hid (fun W (hb : Below w.heap.size w W) => calls_abs hb (c1 W (T.below hb)))
  have K2 := Lib.hid (fun W (hb : Below w.heap.size w W) => calls_abs hb (c2 W (T.below hb)))
  have KV := Lib.hid (fun W (hb : Below w.heap.size w W) => calls_abs hb (cv W (T.below hb)))
  have KP := Lib.hid (fun W (hb : Below w.heap.size w W) => calls_abs hb (cP W))
  have KF := Lib.hid (fun W (hb : Below w.heap.size w W) => calls_abs hb (cF0 W))
  have KL := Lib.hid (fun A' cap W (T' : Tiers W A' (flatT c0 l)) (hb : Below w.heap.size w W) => calls_abs hb (cFl A' cap W T'))
  have KO := Lib.hid (fun A' W (T' : Tiers W A' [(0, c0)]) (hb : Below w.heap.size w W) => calls_abs hb (cO A' W T'))
  have QM := Lib.hid (fun (W : World) (hb : Below w.heap.size w W) => (hb.cell (p := ⟨b, off + m * 2 + 1, none⟩) hbs).trans qqm)
  have Q0 := Lib.hid (fun (W : World) (hb : Below w.heap.size w W) => (hb.cell (p := ⟨b, off + 1, none⟩) hbs).trans qq0)
  have TC : Hid (∀ (i : Nat) (u p : Int), l[i]? = some (u, p) → ∀ W, Below w.heap.size w W → W.cell? ⟨b, off + i * 2, none⟩ = some (.int .i64 u) ∧ W.cell? ⟨b, off + i * 2 + 1, none⟩ = some (.int .i64 p)) := Lib.hid (fun i u p h W hb => by
    obtain ⟨b', off', hA, _, h0, h1⟩ := T i _ h
    injection hA with hA; injection hA with hb' ho; subst hb'; subst ho
    exact ⟨(hb.cell (p := ⟨b, off + i * 2, none⟩) hbs).trans h0, (hb.cell (p := ⟨b, off + i * 2 + 1, none⟩) hbs).trans h1⟩)
  have HL := Lib.hid hl; have PR := Lib.hid prs; have HG0 := Lib.hid hg0
  have st0 : Hid (cm = priceAt (l.drop m) q) := Lib.hid (priceAt_last hgm (by omega)).symm
  have HB := Lib.hid hbs
  have HI := Lib.hid (And.intro hi0 (And.intro hz0 (And.intro hz1 hz2)))
  have BW : Below w.heap.size w w := Below.refl _ _
  clear c1 c2 cv cf cF cFl cO cP cF0 ck T hl pos prs hck hok hg0 hgm qq0 qqm hbs hq hmo hi0 hz0 hz1 hz2
  have fork : (eb = 0 ∧ ea = 0 ∧ va ≤ vb) ∨ (eb == 0) = false := by
    rcases (show eb = 0 ∨ 0 < eb by omega) with z | z
    · exact .inl ⟨z, mono z⟩
    · exact .inr (by simp; omega)
  clear mono ge2
  rcases fork with ⟨rfl, rfl, z2⟩ | d
  all_goals
    go_enter Try.func3, Try.ntmps3
    go_wp2_with (first | (go_at_call 8; refine (K0.out _ (by assumption)).mono ?_; rintro e w1 ⟨rfl, hb1⟩; have hs1 := hb1.size) | (go_at_call 10; refine (KC.out _ (by assumption)).mono ?_; rintro e w2 ⟨rfl, hb2⟩; have hs2 := hb2.size) | (go_at_call 9; refine (KN.out _ _ (by assumption)).mono ?_; rintro e w3 ⟨rfl, hb3⟩; have hs3 := hb3.size; have qm := QM.out _ hb3) | (go_at_call_of 11 (Value.int IntKind.i64 q); refine (K1.out _ (by assumption)).mono ?_; rintro e w4 ⟨rfl, hb4⟩; have hs4 := hb4.size) | (go_at_call_of 11 (Value.int IntKind.i64 more); refine (K2.out _ (by assumption)).mono ?_; rintro e w5 ⟨rfl, hb5⟩; have hs5 := hb5.size; have qm := QM.out _ hb5))
    go_loopw [12, 13] (fun a i wr => ∃ (z p : Int), -1 ≤ z ∧ z + 1 ≤ m ∧ i = .int .i64 z ∧ a = .int .i64 p ∧ Hid (p = priceAt (l.drop (z + 1).toNat) q) ∧ Below w.heap.size w wr) (fun _ i _ => (intOf i + 1).toNat)
    case atStart => exact ⟨(m : Int) - 1, cm, by omega, by omega, by go_num, rfl, Lib.hid (by rw [show ((m : Int) - 1 + 1).toNat = m by omega]; exact st0.out), by assumption⟩
    case round =>
      obtain ⟨z, p, hz0, hz1, rfl, rfl, hp, hB⟩ := hrel
      by_cases hlt : 0 ≤ z
      · obtain ⟨j, rfl⟩ := Int.eq_ofNat_of_zero_le hlt
        have hj : j < l.length := by rw [HL.out]; omega
        have hg : l[j]? = some ((l[j]'hj).1, (l[j]'hj).2) := List.getElem?_eq_getElem _
        generalize (l[j]'hj).1 = u at hg
        generalize (l[j]'hj).2 = pp at hg
        obtain ⟨q1, q2⟩ := TC.out j u pp hg wr hB
        have st := priceAt_step (q := q) hg (by rw [HL.out]; omega)
        have hp' : p = priceAt (l.drop (j + 1)) q := hp.out
        rw [← hp'] at st
        clear hp hp' hg
        by_cases hc : q ≤ u
        · rw [if_pos hc] at st
          have ST := Lib.hid st; clear st
          go_wp2_with (fail)
          go_roundw
          case rel => exact ⟨(j : Int) - 1, pp, by omega, by omega, by go_num, rfl, Lib.hid (by rw [show ((j : Int) - 1 + 1).toNat = j by omega]; exact ST.out.symm), hB⟩
          case measure => first | (simp [intOf]; done) | (simp [intOf]; omega)
        · rw [if_neg hc] at st
          have ST := Lib.hid st; clear st
          go_wp2_with (fail)
          go_roundw
          case rel => exact ⟨(j : Int) - 1, p, by omega, by omega, by go_num, rfl, Lib.hid (by rw [show ((j : Int) - 1 + 1).toNat = j by omega]; exact ST.out.symm), hB⟩
          case measure => first | (simp [intOf]; done) | (simp [intOf]; omega)
      · have hz : z = -1 := by omega
        subst hz
        have e : p = priceAt l q := hp.out
        rw [← e] at KP
        clear e hp
        have qs0 := Q0.out _ hB
        go_wp2_with (first | (go_at_call 12; refine (KV.out _ (by assumption)).mono ?_; rintro e w6 ⟨rfl, hb6⟩; have hs6 := hb6.size) | (go_at_call 13; refine (KP.out _ (by assumption)).mono ?_; rintro e w7 ⟨rfl, hb7⟩; have hs7 := hb7.size))
        have hbs := HB.out
        obtain ⟨hi0, hz0', hz1', hz2⟩ := HI.out
        obtain ⟨wo, rfl⟩ : ∃ wo : World, wo = wr := ⟨_, rfl⟩
        go_loopw [18, 19] (fun a i wr => ∃ (k : Nat) (v : Value), k ≤ m + 1 ∧ i = .int .i64 k ∧ v = a ∧ wr.ownsRow w.heap.size 30 2 v k (cellsT (flatT c0 (l.take k))) ∧ Below w.heap.size w wr) (fun _ i _ => m + 1 - (intOf i).toNat)
        case atStart => exact ⟨0, _, by omega, rfl, rfl, by simp [flatT, cellsT]; exact World.ownsRow_nil _ _ _ _, by assumption⟩
        case round =>
          obtain ⟨k, v, hk, rfl, hv, hown, hB2⟩ := hrel; subst hv
          have hs9 := hB2.size
          by_cases hlt2 : k < m + 1
          · have hj : k < l.length := by rw [HL.out]; omega
            have hg : l[k]? = some ((l[k]'hj).1, (l[k]'hj).2) := List.getElem?_eq_getElem _
            generalize (l[k]'hj).1 = u at hg
            generalize (l[k]'hj).2 = pp at hg
            obtain ⟨q1, _⟩ := TC.out k u pp hg wr hB2
            have q2 := Q0.out wr hB2
            have ft := flatT_take (c0 := c0) hg
            have FT : Hid (cellsT (flatT c0 (l.take (k + 1))) = cellsT (flatT c0 (l.take k)) ++ [.int .i64 u, .int .i64 c0]) := Lib.hid (by rw [ft, cellsT_append]; rfl)
            clear ft hg
            have ag : v.ownBlock ≠ some b := fun e => by have := (hown.lt b e).1; omega
            have lt := hown.lt
            generalize cellsT (flatT c0 (l.take k)) = xs at *
            have OW := Lib.hid hown; have LT := Lib.hid lt
            clear hown lt
            go_wp2_with (fail)
            go_region_held3 (fun w' => w'.cell? ⟨b, off + k * 2, none⟩ = some (.int .i64 u) ∧ w'.cell? ⟨b, off + 1, none⟩ = some (.int .i64 c0))
              (first
                | go_keep
                | (go_split_ands
                   refine ⟨?_, ?_⟩
                   · (rw [hgrow.cell_far _ (by simp; omega) (Ne.symm ag)]; assumption)
                   · (rw [hgrow.cell_far _ (by simp; omega) (Ne.symm ag)]; assumption)))
              ((refine step_append_lies _ (by rfl) _ _ _ (by rfl) w.heap.size 30 i0 _ 2 16 Try.underlying22 hi0 hz0' hz1' hz2 rfl (by omega) v k xs (by rfl) ((OW.out.alloc _).drew)
                  ⟨wr.heap.size, 0, none⟩ 1 1 [.int .i64 u, .int .i64 c0] (by rfl) (by rfl) (World.news_of_block (cs := #[.int .i64 u, .int .i64 c0]) (t := 30) (fr := (0, 0)) (heap_alloc_new wr _)) (by simp [Value.oneCell'])
                  (by omega) (by unfold maxLen; omega) (by omega) (by simp; omega) (wr.heap.size + 1) (by simp) ?_; intro gg cap w1' hown1 hgrow hat hlt'))
            go_wp2_with (fail)
            go_roundw
            case rel => exact ⟨k + 1, _, by omega, by go_num, rfl, by rw [FT.out]; exact hown1, Below.grown (Below.drew (Below.alloc hB2 hs9 _)) hgrow (by simp; omega) (fun j hj => (LT.out j hj).1)⟩
            case measure => first | (simp [intOf]; done) | (simp [intOf]; omega)
          · have hkm : k = m + 1 := by omega
            subst hkm
            obtain ⟨g, cap, rfl, _, hgl⟩ := hown.form (by omega)
            rw [List.take_of_length_le (by rw [HL.out]; omega)] at hown
            have T' := Lib.hid (tiers_own (l := flatT c0 l) (by rw [flatT_length, HL.out]; exact hown) hgl)
            have qs1 := Q0.out _ hB2
            clear hown
            go_wp2_with (fail)
            refine (KL.out _ _ _ T'.out hB2).mono ?_
            rintro e w8 ⟨rfl, hb8⟩
            have hs8 := hb8.size
            have qs8 := Q0.out _ hb8
            clear T' qs1
            go_wp2_with ((go_at_call 13; refine (KF.out _ (by assumption)).mono ?_; rintro e w9 ⟨rfl, hb9⟩; have hs9 := hb9.size; have qs9 := Q0.out _ hb9))
            refine (KO.out _ _ (tiers_one w9 0 c0) (Below.alloc hb9 hs9 _)).mono ?_
            rintro e w10 ⟨rfl, hb10⟩
            go_wp2_with (fail)
            go_ret
            exact ⟨ret_bool (by first | rfl | simp), by assumption⟩

theorem rises_walk (A : Option Addr) (n c : Nat) (l : List (Int × Int)) (q more : Int) (hl : l.length = n) (hn : n ≤ 9223372036854775807) (hm : In64 more) (w : World) (T : Tiers w A l) :
    Calls Try.prog 3 #[.slice A n c, .int .i64 q, .int .i64 more] w fun e w' => e = .returned (.bool true) ∧ Below w.heap.size w w' := by
  by_cases early : 60 < n ∨ (n ≤ 60 ∧ (checkT l ≠ 0 ∨ q < 0 ∨ more < q ∨ 1125899906842624 < more))
  · exact rises_early A n c l q more hl hn early w T
  · rcases chk_cases l with k | k | ⟨k, k1, k2, k3⟩
    · exact absurd (.inr ⟨by omega, .inl (by omega)⟩) early
    · exact absurd (.inr ⟨by omega, .inl (by omega)⟩) early
    · obtain ⟨m, rfl⟩ : ∃ m, n = m + 1 := ⟨n - 1, by omega⟩
      exact rises_main A m c l q more hl (by omega) (by omega) (by omega) (by omega) k k3 w T
end Go.Proofs.Ytehlmpndbmlklaa
