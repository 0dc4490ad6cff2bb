/-
  The walk of the statement TierSplits: it returns true, whatever it is given.
-/
import Derived.Test.YtehlmpndbmlklaaLa5
namespace Go.Proofs.Ytehlmpndbmlklaa
set_option linter.all false
open Go.RowKit Go.Sort
attribute [local go_sem] cell_set_self lt_1 lt_2 lt_3 lt_4 lt_5 lt_6






theorem price_eq {l L : List (Int × Int)} {q x : Int} (h : checkT L = checkT l) : priceN L q x = priceN l q x ∧ priceE L q x = priceE l q x := by unfold priceN priceE; rw [h]; exact ⟨rfl, rfl⟩
/-- What a tier parted in two is worth. -/
theorem ins_all {l : List (Int × Int)} {j m : Nat} {t : Int × Int} {c q : Int} (hl : l.length = m + 1) (hm : m + 1 < 20) (hck : checkT l = 0) (hok : okFrom 0 l = true) (h : l[j]? = some t) (h0 : lowT 0 l j < c) (h1 : c ≤ 1125899906842624) (h2 : t.1 = 0 ∨ c < t.1) :
    (insT l j c).length = m + 2 ∧ checkT (insT l j c) = checkT l ∧ byT (insT l j c) 0 q = byT l 0 q ∧ byV (insT l j c) q = byV l q := by
  have hj := (List.getElem?_eq_some_iff.1 h).1
  have len := insT_length l j c hj
  have ok := ins_ok hok (by omega) h h0 h1 h2
  exact ⟨by omega, by rw [hck]; exact chk_0 (by omega) (by omega) ok, byT_ins hok (by omega) h h0 h2, byV_ins hok (by omega) h h0 h2⟩

set_option maxRecDepth 100000 in
set_option maxHeartbeats 4000000 in
theorem splits_main (A : Option Addr) (m c : Nat) (l : List (Int × Int)) (which at_ q : Int) (hl : l.length = m + 1) (hn : m + 1 < 20) (hwh : In64 which) (hat : In64 at_) (hq : In64 q) (hck : checkT l = 0) (hok : okFrom 0 l = true) (w : World) (T : Tiers w A l) :
    Calls Try.prog 5 #[.slice A (m + 1) c, .int .i64 which, .int .i64 at_, .int .i64 q] w fun e w' => e = .returned (.bool true) ∧ Below w.heap.size w w' := by
  obtain ⟨i0, hi0, hz0, hz1, hz2⟩ := info_parts Try.infoTier
  obtain ⟨b, off, rfl⟩ : ∃ b off, A = some ⟨b, off, none⟩ := by
    obtain ⟨b, off, h, _⟩ := T 0 (l[0]'(by omega)) (by simp)
    exact ⟨b, off, h⟩
  obtain ⟨x, y, ex, hx0, hx1, ey, hy0, hy1⟩ := rem_in which ((m : Int) + 1) (by omega)
  obtain ⟨j, rfl⟩ := Int.eq_ofNat_of_zero_le hy0
  have hjm : j < m + 1 := by omega
  obtain ⟨u, p, hgj⟩ : ∃ u p, l[j]? = some (u, p) := ⟨(l[j]'(by omega)).1, (l[j]'(by omega)).2, List.getElem?_eq_getElem _⟩
  have hbs : b < w.heap.size := by
    obtain ⟨b', off', hA, hbs, _⟩ := T j _ hgj
    injection hA with hA; injection hA with hb ho; subst hb; exact hbs
  have TC : ∀ (i : Nat) (u p : Int), l[i]? = some (u, p) → ∀ W, Below w.heap.size w W → W.cell? ⟨b, off + i * 2, none⟩ = some (.int .i64 u) ∧ W.cell? ⟨b, off + i * 2 + 1, none⟩ = some (.int .i64 p) := fun i u p h W hb => by
    obtain ⟨b', off', hA, _, h0, h1⟩ := T i _ h
    injection hA with hA; injection hA with hb' ho; subst hb'; subst ho
    exact ⟨(hb.cell (p := ⟨b, off + i * 2, none⟩) hbs).trans h0, (hb.cell (p := ⟨b, off + i * 2 + 1, none⟩) hbs).trans h1⟩
  have lh := low_high hok hgj
  have INS := fun c h0 h1 h2 => ins_all (q := q) (c := c) hl hn hck hok hgj h0 h1 h2
  have c1 := fun W (T' : Tiers W (some ⟨b, off, none⟩) l) => tiered_any (some ⟨b, off, none⟩) (m + 1) c l q hl (by omega) hq W T'
  have cv := fun W (T' : Tiers W (some ⟨b, off, none⟩) l) => volume_any (some ⟨b, off, none⟩) (m + 1) c l q hl (by omega) hq W T'
  have cI : ∀ (L : List (Int × Int)), (L.length = m + 2 ∧ checkT L = checkT l ∧ byT L 0 q = byT l 0 q ∧ byV L q = byV l q) → ∀ (A' : Option Addr) (cap : Nat) W, Tiers W A' L →
      Calls Try.prog 11 #[.slice A' (m + 2) cap, .int .i64 q] W fun e w' => e = .returned (.tuple #[.int .i64 (priceN l q (byT l 0 q)), .int .i64 (priceE l q (byT l 0 q))]) ∧ Below W.heap.size W w' := fun L h A' cap W T' => by
    have := tiered_any A' (m + 2) cap L q h.1 (by omega) hq W T'
    rw [(price_eq h.2.1).1, (price_eq h.2.1).2, h.2.2.1] at this; exact this
  have cW : ∀ (L : List (Int × Int)), (L.length = m + 2 ∧ checkT L = checkT l ∧ byT L 0 q = byT l 0 q ∧ byV L q = byV l q) → ∀ (A' : Option Addr) (cap : Nat) W, Tiers W A' L →
      Calls Try.prog 12 #[.slice A' (m + 2) cap, .int .i64 q] W fun e w' => e = .returned (.tuple #[.int .i64 (priceN l q (byV l q)), .int .i64 (priceE l q (byV l q))]) ∧ Below W.heap.size W w' := fun L h A' cap W T' => by
    have := volume_any A' (m + 2) cap L q h.1 (by omega) hq W T'
    rw [(price_eq h.2.1).1, (price_eq h.2.1).2, h.2.2.2] at this; exact this
  have ck := fun W (T' : Tiers W (some ⟨b, off, none⟩) l) => check_any (some ⟨b, off, none⟩) (m + 1) c l hl (by omega) W T'
  rw [hck] at ck
  generalize priceN l q (byT l 0 q) = va at *
  generalize priceE l q (byT l 0 q) = ea at *
  generalize priceN l q (byV l q) = vb at *
  generalize priceE l q (byV l q) = eb at *
  have K0 := Lib.hid (fun W (hb : Below w.heap.size w W) => calls_abs hb (first_any W))
  have KN := Lib.hid (fun e W (hb : Below w.heap.size w W) => calls_abs hb (num_any e W))
  have KC := Lib.hid (fun W (hb : Below w.heap.size w W) => calls_abs hb (ck W (T.below hb)))
  have C1 := Lib.hid c1; have CV := Lib.hid cv
  have TB := Lib.hid (fun W (hb : Below w.heap.size w W) => T.below hb)
  have HL := Lib.hid hl
  have HB := Lib.hid hbs
  have HI := Lib.hid (And.intro hi0 (And.intro hz0 (And.intro hz1 hz2)))
  have BW : Below w.heap.size w w := Below.refl _ _
  -- the tier's low and high end
  obtain ⟨lw, elw⟩ : ∃ lw, lw = lowT 0 l j := ⟨_, rfl⟩
  rw [← elw] at INS lh
  obtain ⟨hi, ehi⟩ : ∃ hi, hi = if u = 0 then 1125899906842624 else u := ⟨_, rfl⟩
  have lows : (lw = 0 ∧ ¬ (0 < (j : Int))) ∨ (0 < (j : Int) ∧ Hid (∀ W, Below w.heap.size w W → W.cell? ⟨b, off + (j - 1) * 2, none⟩ = some (.int .i64 lw))) := by
    rcases Nat.eq_zero_or_pos j with k | k
    · subst k; exact .inl ⟨by rw [elw]; cases l <;> simp [lowT], by omega⟩
    · obtain ⟨i, rfl⟩ : ∃ i, j = i + 1 := ⟨j - 1, by omega⟩
      have hgi : l[i]? = some ((l[i]'(by omega)).1, (l[i]'(by omega)).2) := List.getElem?_eq_getElem _
      refine .inr ⟨by omega, Lib.hid fun W hb => ?_⟩
      rw [elw, low_at hgi]
      exact (TC i _ _ hgi W hb).1
  have his : (u = 0 ∧ hi = 1125899906842624) ∨ ((u == 0) = false ∧ hi = u) := by
    by_cases k : u = 0
    · exact .inl ⟨k, by rw [ehi, if_pos k]⟩
    · exact .inr ⟨by simpa using k, by rw [ehi, if_neg k]⟩
  have hib : 0 ≤ hi ∧ hi ≤ 1125899906842624 ∧ (u = 0 ∨ hi = u) := by
    rcases his with ⟨k, k2⟩ | ⟨_, k2⟩
    · exact ⟨by omega, by omega, .inl k⟩
    · exact ⟨by omega, by omega, .inr k2⟩
  have INS2 : ∀ c, lw < c → c < hi → _ := fun c h0 h1 => INS c h0 (by omega) (by rcases hib.2.2 with k | k; exact .inl k; exact .inr (by simp; omega))
  have QJ := Lib.hid (TC j u p hgj); have TC := Lib.hid TC; have HGJ := Lib.hid hgj
  clear elw ehi INS c1 cv ck T hl hgj hck hok hbs hwh hat hi0 hz0 hz1 hz2 hq
  by_cases sm : hi - lw < 2
  · clear INS2 cI cW
    rcases lows with ⟨rfl, d1⟩ | ⟨d1, QL⟩ <;> rcases his with ⟨rfl, rfl⟩ | ⟨d2, rfl⟩
    all_goals first
      | (exfalso; omega)
      | (go_enter Try.func5, Try.ntmps5
         go_wp2_with (first | (go_at_call 8; refine (K0.out _ (by assumption)).mono ?_; rintro e w1 ⟨rfl, hb1⟩; have hs1 := hb1.size) | (go_at_call 10; refine (KC.out _ (by assumption)).mono ?_; rintro e w2 ⟨rfl, hb2⟩; have hs2 := hb2.size) | (go_at_call 9; refine (KN.out _ _ (by assumption)).mono ?_; rintro e w3 ⟨rfl, hb3⟩; have hs3 := hb3.size; obtain ⟨qj, qj2⟩ := QJ.out _ hb3; (try have ql := QL.out _ hb3)))
         go_ret
         exact ⟨rfl, by assumption⟩)
  · obtain ⟨x2, y2, ex2, hx2, hx3, ey2, hy2, hy3⟩ := rem_in at_ (hi - lw - 1) (by omega)
    obtain ⟨cut, ec⟩ : ∃ cut, lw + 1 + y2 = cut := ⟨_, rfl⟩
    have ins := INS2 cut (by omega) (by omega)
    have CI := Lib.hid (cI _ ins); have CW := Lib.hid (cW _ ins); have IL := Lib.hid ins.1
    have cb : 0 ≤ cut ∧ cut ≤ 1125899906842624 := by omega
    clear INS2 cI cW ins
    rcases lows with ⟨rfl, d1⟩ | ⟨d1, QL⟩ <;> rcases his with ⟨rfl, rfl⟩ | ⟨d2, rfl⟩
    all_goals
      (try rw [Int.zero_add] at ec)
      (try rw [Int.sub_zero] at ex2 ey2)
      (try simp only [Int.reduceSub] at ex2 ey2)
      go_enter Try.func5, Try.ntmps5
      go_wp2_with (first | (go_at_call 8; refine (K0.out _ (by assumption)).mono ?_; rintro e w1 ⟨rfl, hb1⟩; have hs1 := hb1.size) | (go_at_call 10; refine (KC.out _ (by assumption)).mono ?_; rintro e w2 ⟨rfl, hb2⟩; have hs2 := hb2.size) | (go_at_call 9; refine (KN.out _ _ (by assumption)).mono ?_; rintro e w3 ⟨rfl, hb3⟩; have hs3 := hb3.size; obtain ⟨qj, qj2⟩ := QJ.out _ hb3; (try have ql := QL.out _ hb3)))
      (first | rw [show decide (0 < j) = true from decide_eq_true (by omega)] | rw [show decide (0 < j) = false from decide_eq_false (by omega)] | skip)
      clear d1
      go_loopw [13, 14] (fun a i wr => ∃ (k e : Nat) (v : Value), k ≤ m + 1 ∧ i = .int .i64 k ∧ v = a ∧ Hid ((k ≤ j ∧ e = k) ∨ (j < k ∧ e = k + 1)) ∧ e ≤ m + 2 ∧ wr.ownsRow w.heap.size 30 2 v e (cellsT ((insT l j cut).take e)) ∧ Below w.heap.size w wr) (fun _ i _ => m + 1 - (intOf i).toNat)
      case atStart => exact ⟨0, 0, _, by omega, rfl, rfl, Lib.hid (.inl ⟨by omega, rfl⟩), by omega, by simp [cellsT]; exact World.ownsRow_nil _ _ _ _, by assumption⟩
      case round =>
        obtain ⟨k, e, v, hk, rfl, hv, he, hem, hown, hB2⟩ := hrel; subst hv
        have hs9 := hB2.size
        have hbs := HB.out
        obtain ⟨hi0, hz0', hz1', hz2⟩ := HI.out
        have LT := Lib.hid hown.lt
        have B9 := Below.alloc hB2 hs9
        by_cases hlt2 : k < m + 1
        · by_cases hkj : k = j
          · have e1 : e = k := by rcases he.out with h | h <;> omega
            subst e1; subst hkj
            have FT1 := Lib.hid (cells_take (ins_eq (c := cut) HGJ.out))
            have FT2 := Lib.hid (cells_take ((ins_gt (c := cut) (Nat.le_refl e) (by rw [HL.out]; omega)).trans HGJ.out))
            obtain ⟨q1, q2⟩ := QJ.out wr hB2
            have OW := Lib.hid hown
            clear hown he
            generalize cellsT ((insT l e cut).take e) = xs at *
            generalize cellsT ((insT l e cut).take (e + 1)) = xs1 at *
            have F1 := FT1.out
            subst F1
            go_wp2_with (first
              | (at_builtin; refine wpList_append_lies _ rfl _ _ _ rfl w.heap.size 30 i0 _ 2 16 Try.underlying22 hi0 hz0' hz1' hz2 rfl (by decide) v e xs rfl (OW.out.alloc _)
                  ⟨wr.heap.size, 0, none⟩ 1 1 [.int .i64 cut, .int .i64 p] rfl rfl (World.news_of_block (cs := #[.int .i64 cut, .int .i64 p]) (t := 30) (fr := (0, 0)) (heap_alloc_new wr _)) (by simp [Value.oneCell'])
                  (by omega) (by unfold maxLen; omega) (by omega) (by simp; omega) (wr.heap.size + 1) (by simp) ?_
                 intro gg cap w1' hown1 hgrow hat hlt'
                 have hB3 := Below.grown (B9 _) hgrow (by simp; omega) (fun j hj => (LT.out j hj).1)
                 have hs3 := hB3.size
                 have OW1 := Lib.hid hown1
                 have LT1 := Lib.hid hown1.lt
                 obtain ⟨q3, q4⟩ := QJ.out w1' hB3
                 clear hown1)
              | (at_builtin; refine wpList_append_lies _ rfl _ _ _ rfl w.heap.size 30 i0 _ 2 16 Try.underlying22 hi0 hz0' hz1' hz2 rfl (by decide) _ (e + 1) _ rfl (OW1.out.alloc _)
                  ⟨w1'.heap.size, 0, none⟩ 1 1 [.int .i64 _, .int .i64 p] rfl rfl (World.news_of_block (cs := #[.int .i64 _, .int .i64 p]) (t := 30) (fr := (0, 0)) (heap_alloc_new w1' _)) (by simp [Value.oneCell'])
                  (by omega) (by unfold maxLen; omega) (by omega) (by simp; omega) (w1'.heap.size + 1) (by simp) ?_
                 intro gg2 cap2 w2' hown2 hgrow2 hat2 hlt2'))
            go_roundw
            case rel => first | exact ⟨e + 1, by omega, by go_num, e + 1 + 1, Lib.hid (.inr ⟨by omega, rfl⟩), by omega, by rw [FT2.out]; exact hown2, Below.grown (Below.alloc hB3 hs3 _) hgrow2 (by simp; omega) (fun j hj => (LT1.out j hj).1)⟩ | exact ⟨e + 1, e + 1 + 1, _, by omega, by go_num, rfl, Lib.hid (.inr ⟨by omega, rfl⟩), by omega, by rw [FT2.out]; exact hown2, Below.grown (Below.alloc hB3 hs3 _) hgrow2 (by simp; omega) (fun j hj => (LT1.out j hj).1)⟩
            case measure => first | (simp [intOf]; done) | (simp [intOf]; omega)
          · have hkl : k < l.length := by rw [HL.out]; omega
            have hg : l[k]? = some ((l[k]'hkl).1, (l[k]'hkl).2) := List.getElem?_eq_getElem _
            generalize (l[k]'hkl).1 = u' at hg
            generalize (l[k]'hkl).2 = p' at hg
            have hL : (insT l j cut)[e]? = some (u', p') := by
              have hjl : j < l.length := by rw [HL.out]; omega
              rcases he.out with ⟨h1, h2⟩ | ⟨h1, h2⟩
              · subst h2; rw [ins_lt (by omega) hjl]; exact hg
              · subst h2; rw [ins_gt (by omega) hjl]; exact hg
            have FT := Lib.hid (cells_take hL)
            obtain ⟨q1, q2⟩ := TC.out k u' p' hg wr hB2
            have d3 : ((k : Int) == (j : Int)) = false := by simp; omega
            have he2 : Hid ((k + 1 ≤ j ∧ e + 1 = k + 1) ∨ (j < k + 1 ∧ e + 1 = k + 1 + 1)) := Lib.hid (by rcases he.out with h | h <;> omega)
            have hem2 : e + 1 ≤ m + 2 := by rcases he.out with h | h <;> omega
            have OW := Lib.hid hown
            clear hown he hg hL
            generalize cellsT ((insT l j cut).take e) = xs at *
            go_wp2_with (first
              | (at_builtin; refine wpList_append_lies _ rfl _ _ _ rfl w.heap.size 30 i0 _ 2 16 Try.underlying22 hi0 hz0' hz1' hz2 rfl (by decide) v e xs rfl (OW.out.alloc _)
                  ⟨wr.heap.size, 0, none⟩ 1 1 [.int .i64 u', .int .i64 p'] rfl rfl (World.news_of_block (cs := #[.int .i64 u', .int .i64 p']) (t := 30) (fr := (0, 0)) (heap_alloc_new wr _)) (by simp [Value.oneCell'])
                  (by omega) (by unfold maxLen; omega) (by omega) (by simp; omega) (wr.heap.size + 1) (by simp) ?_
                 intro gg cap w1' hown1 hgrow hat hlt'))
            go_roundw
            case rel => first | exact ⟨k + 1, e + 1, _, by omega, by go_num, rfl, he2, hem2, by rw [FT.out]; exact hown1, Below.grown (B9 _) hgrow (by simp; omega) (fun j hj => (LT.out j hj).1)⟩ | exact ⟨k + 1, by omega, by go_num, e + 1, he2, hem2, by rw [FT.out]; exact hown1, Below.grown (B9 _) hgrow (by simp; omega) (fun j hj => (LT.out j hj).1)⟩
            case measure => first | (simp [intOf]; done) | (simp [intOf]; omega)
        · have hkm : k = m + 1 := by omega
          have e2 : e = m + 2 := by rcases he.out with h | h <;> omega
          subst hkm; subst e2
          obtain ⟨g, cap, rfl, _, hgl⟩ := hown.form (by omega)
          rw [List.take_of_length_le (by rw [IL.out]; omega)] at hown
          have T0 := tiers_own (l := insT l j cut) (by rw [IL.out]; exact hown) hgl
          have T' := Lib.hid T0
          clear T0 hown he LT B9
          go_wp2_with (fail)
          refine (C1.out _ (TB.out _ hB2)).mono ?_
          rintro e w6 ⟨rfl, hr6⟩
          have hb6 : Below w.heap.size w w6 := hB2.trans (hr6.mono hs9)
          have T6 := Lib.hid (T'.out.below hr6)
          go_wp2_with (fail)
          refine (CI.out _ _ _ T6.out).mono ?_
          rintro e w7 ⟨rfl, hr7⟩
          have hb7 := hb6.trans (hr7.mono hb6.size)
          have T7 := Lib.hid (T6.out.below hr7)
          go_wp2_with (fail)
          refine (CV.out _ (TB.out _ hb7)).mono ?_
          rintro e w8 ⟨rfl, hr8⟩
          have hb8 := hb7.trans (hr8.mono hb7.size)
          have T8 := Lib.hid (T7.out.below hr8)
          go_wp2_with (fail)
          refine (CW.out _ _ _ T8.out).mono ?_
          rintro e w9 ⟨rfl, hr9⟩
          have hb9 := hb8.trans (hr9.mono hb8.size)
          go_wp2_with (fail)
          go_ret
          exact ⟨ret_bool (by first | rfl | simp), hb9⟩
theorem splits_walk (A : Option Addr) (n c : Nat) (l : List (Int × Int)) (which at_ q : Int) (hl : l.length = n) (hn : n ≤ 9223372036854775807) (hwh : In64 which) (hat : In64 at_) (hq : In64 q) (w : World) (T : Tiers w A l) :
    Calls Try.prog 5 #[.slice A n c, .int .i64 which, .int .i64 at_, .int .i64 q] w fun e w' => e = .returned (.bool true) ∧ Below w.heap.size w w' := by
  by_cases early : 60 < n ∨ (n ≤ 60 ∧ (checkT l ≠ 0 ∨ 20 ≤ n))
  · exact splits_early A n c l which at_ q hl hn early w T
  · rcases chk_cases l with k | k | ⟨k, k1, k2, k3⟩
    · exact absurd (.inr ⟨by omega, .inl (by omega)⟩) early
    · exact absurd (.inr ⟨by omega, .inl (by omega)⟩) early
    · obtain ⟨m, rfl⟩ : ∃ m, n = m + 1 := ⟨n - 1, by omega⟩
      exact splits_main A m c l which at_ q hl (by omega) hwh hat hq k k3 w T
end Go.Proofs.Ytehlmpndbmlklaa
