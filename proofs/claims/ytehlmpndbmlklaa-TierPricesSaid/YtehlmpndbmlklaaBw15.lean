/-
  Contracts of exref14's Check, Volume, Flat, Percent, Prorate.
-/
import Derived.Test.YtehlmpndbmlklaaBw14
import Derived.Test.YtehlmpndbmlklaaTk6
import Derived.Test.YtehlmpndbmlklaaTp2
namespace Go.Proofs.Ytehlmpndbmlklaa
set_option linter.all false
open Go.RowKit Go.Sort
attribute [local go_sem] cell_set_self lt_1 lt_2 lt_3 lt_4 lt_5 lt_6

set_option maxHeartbeats 4000000 in
set_option maxRecDepth 100000 in
theorem check14_any (A : Option Addr) (n c : Nat) (l : List (Int × Int)) (hl : l.length = n) (hn : n ≤ 1000000) (w : World) (T : Tiers w A l) :
    Calls Try.prog 23 #[.slice A n c] w fun e w' => e = .returned (.int .i64 (checkT l)) ∧ Below w.heap.size w w' := by
  by_cases h0 : n = 0
  · subst h0
    have e : checkT l = 9 := by unfold checkT; rw [if_pos (.inl hl)]
    rw [e]
    clear e hl
    go_enter Try.func23, Try.ntmps23
    go_wp2
    go_ret
    exact ⟨rfl, (by repeat (first | exact Below.refl _ _ | refine Below.setCell ?_ (by first | (simp; done) | (simp; omega) | omega) _ | refine Below.alloc ?_ (by first | (simp; done) | (simp; omega) | omega) _ | refine Below.drew ?_ | assumption | refine Below.trans ?_ (Below.mono (by assumption) (by first | (simp; done) | (simp; omega) | omega))))⟩
  by_cases h20 : 20 < n
  · have e : checkT l = 9 := by unfold checkT; rw [if_pos (.inr (by omega))]
    rw [e]
    clear e
    have hd0 : ((n : Int) == 0) = false := by simp; omega
    go_enter Try.func23, Try.ntmps23
    go_wp2
    go_ret
    exact ⟨rfl, (by repeat (first | exact Below.refl _ _ | refine Below.setCell ?_ (by first | (simp; done) | (simp; omega) | omega) _ | refine Below.alloc ?_ (by first | (simp; done) | (simp; omega) | omega) _ | refine Below.drew ?_ | assumption | refine Below.trans ?_ (Below.mono (by assumption) (by first | (simp; done) | (simp; omega) | omega))))⟩
  obtain ⟨b, off, rfl⟩ : ∃ b off, A = some ⟨b, off, none⟩ := by
    obtain ⟨b, off, h, _⟩ := T 0 (l[0]'(by omega)) (by simp)
    exact ⟨b, off, h⟩
  have hd0 : ((n : Int) == 0) = false := by simp; omega
  have hd1 : decide (20 < (n : Int)) = false := by simp; omega
  have L1 := Lib.hid (show l.length ≠ 0 by omega); have L2 := Lib.hid (show l.length ≤ 20 by omega); have HL := Lib.hid hl
  clear hl
  go_enter Try.func23, Try.ntmps23
  go_wp2
  go_loopw [3, 4] (fun a i wr => ∃ (k : Nat) (ah : Int), k < n ∧ i = .int .i64 k ∧ a = .int .i64 ah ∧ okFrom ah (l.drop k) = okFrom 0 l ∧ Below w.heap.size w wr) (fun _ i _ => n - (intOf i).toNat)
  case atStart => exact ⟨0, 0, by omega, rfl, rfl, rfl, (by repeat (first | exact Below.refl _ _ | refine Below.setCell ?_ (by first | (simp; done) | (simp; omega) | omega) _ | refine Below.alloc ?_ (by first | (simp; done) | (simp; omega) | omega) _ | refine Below.drew ?_ | assumption | refine Below.trans ?_ (Below.mono (by assumption) (by first | (simp; done) | (simp; omega) | omega))))⟩
  case round =>
    obtain ⟨k, ah, hlt, rfl, rfl, hok, hB⟩ := hrel
    have Hok := Lib.hid hok
    clear hok
    have hg : l[k]? = some (l[k]'(by have := HL.out; omega)) := List.getElem?_eq_getElem _
    obtain ⟨⟨u, p⟩, hup⟩ : ∃ t, t = (l[k]'(by have := HL.out; omega)) := ⟨_, rfl⟩
    rw [← hup] at hg
    obtain ⟨b', off', hA, hbs, hc0, hc1⟩ := T k (u, p) hg
    injection hA with hA; injection hA with hb ho; subst hb; subst ho
    have q0 := (hB.cell (p := ⟨b, off + k * 2, none⟩) hbs).trans hc0
    have q1 := (hB.cell (p := ⟨b, off + k * 2 + 1, none⟩) hbs).trans hc1
    have hsz := hB.size
    have Hg := Lib.hid hg
    clear hg hup hc0 hc1 T
    by_cases hlast : k + 1 = n
    · have d1 : ((k : Int) == (n : Int) - 1) = true := by simp; omega
      by_cases good : u = 0 ∧ 0 ≤ p ∧ p ≤ 1125899906842624
      · have g := chk_last_good Hg.out (by rw [HL.out]; exact hlast) Hok.out good
        have g2 : checkT l = 0 := chk_0 L1.out L2.out (by rw [← g, List.drop_of_length_le (by rw [HL.out]; omega)]; rfl)
        have G := Lib.hid g2; clear g g2
        obtain ⟨g1, g2, g3⟩ := good
        subst g1
        clear hlast
        go_wp2
        go_ret
        exact ⟨ret_int G.out.symm, (by repeat (first | exact Below.refl _ _ | refine Below.setCell ?_ (by first | (simp; done) | (simp; omega) | omega) _ | refine Below.alloc ?_ (by first | (simp; done) | (simp; omega) | omega) _ | refine Below.drew ?_ | assumption | refine Below.trans ?_ (Below.mono (by assumption) (by first | (simp; done) | (simp; omega) | omega))))⟩
      · have g := chk_last_bad L1.out L2.out Hg.out (by rw [HL.out]; exact hlast) Hok.out good
        have G := Lib.hid g; clear g hlast
        rcases (show p < 0 ∨ 1125899906842624 < p ∨ (0 ≤ p ∧ p ≤ 1125899906842624 ∧ (u == 0) = false) by simp; omega) with f | f | ⟨f1, f2, f3⟩
        all_goals
          clear good
          go_wp2
          all_goals (go_ret; exact ⟨ret_int G.out.symm, (by repeat (first | exact Below.refl _ _ | refine Below.setCell ?_ (by first | (simp; done) | (simp; omega) | omega) _ | refine Below.alloc ?_ (by first | (simp; done) | (simp; omega) | omega) _ | refine Below.drew ?_ | assumption | refine Below.trans ?_ (Below.mono (by assumption) (by first | (simp; done) | (simp; omega) | omega))))⟩)
    · have d1 : ((k : Int) == (n : Int) - 1) = false := by simp; omega
      by_cases good : ah < u ∧ u ≤ 1125899906842624 ∧ 0 ≤ p ∧ p ≤ 1125899906842624
      · have g := chk_mid_good Hg.out (by rw [HL.out]; omega) Hok.out good
        have G := Lib.hid g; clear g
        obtain ⟨g1, g2, g3, g4⟩ := good
        go_wp2
        go_roundw
        case rel => exact ⟨k + 1, u, by omega, by go_num, rfl, G.out, (by repeat (first | exact Below.refl _ _ | refine Below.setCell ?_ (by first | (simp; done) | (simp; omega) | omega) _ | refine Below.alloc ?_ (by first | (simp; done) | (simp; omega) | omega) _ | refine Below.drew ?_ | assumption | refine Below.trans ?_ (Below.mono (by assumption) (by first | (simp; done) | (simp; omega) | omega))))⟩
        case measure => first | (simp [intOf]; done) | (simp [intOf]; omega)
      · have g := chk_mid_bad L1.out L2.out Hg.out (by rw [HL.out]; omega) Hok.out good
        have G := Lib.hid g; clear g
        rcases (show p < 0 ∨ 1125899906842624 < p ∨ (0 ≤ p ∧ p ≤ 1125899906842624 ∧ u ≤ ah) ∨ (0 ≤ p ∧ p ≤ 1125899906842624 ∧ ah < u ∧ 1125899906842624 < u) by omega) with f | f | ⟨f1, f2, f3⟩ | ⟨f1, f2, f3, f4⟩
        all_goals
          clear good
          go_wp2
          all_goals (go_ret; exact ⟨ret_int G.out.symm, (by repeat (first | exact Below.refl _ _ | refine Below.setCell ?_ (by first | (simp; done) | (simp; omega) | omega) _ | refine Below.alloc ?_ (by first | (simp; done) | (simp; omega) | omega) _ | refine Below.drew ?_ | assumption | refine Below.trans ?_ (Below.mono (by assumption) (by first | (simp; done) | (simp; omega) | omega))))⟩)

theorem abs40 {x : Int} (h0 : -9903520314283042199192993792 ≤ x) (h1 : x ≤ 25353012004564588029934064107520) : x.natAbs < 10000000000000000000000000000000000000000 := by omega
/-- A product, rounded. -/
theorem prod_round (a b : Int) (ha : In64 a) (hb : In64 b) (hp : (a * b).natAbs < 10000000000000000000000000000000000000000) :
    Hid ((∀ W, Calls Try.prog 32 #[.int .i64 a, .int .i64 b] W fun e w' => Res W.heap.size w' e (a * b) ∧ Below W.heap.size W w') ∧
      ∀ s A n c W b1, Pt b1 W s A n c (a * b) → Calls Try.prog 33 #[.agg #[.bool s, .slice A n c]] W fun e w' => e = .returned (.tuple #[.int .i64 (unitsN (rhe (a * b) 1000000)), .int .i64 (unitsE (rhe (a * b) 1000000))]) ∧ Below W.heap.size W w') :=
  Lib.hid ⟨fun W => times_any a b ha hb W, fun s A n c W b1 X => round_any s A n c (a * b) hp W (X.mono (Nat.zero_le _))⟩

set_option maxHeartbeats 4000000 in
set_option maxRecDepth 100000 in
theorem flat14_any (p q : Int) (hp : In64 p) (hq : In64 q) (w : World) :
    Calls Try.prog 19 #[.int .i64 p, .int .i64 q] w fun e w' => e = .returned (.tuple #[.int .i64 (priceN [(0, p)] q (byV [(0, p)] q)), .int .i64 (priceE [(0, p)] q (byV [(0, p)] q))]) ∧ Below w.heap.size w w' := by
  have eV : byV [(0, p)] q = p * q := by simp [byV, Int.mul_comm]
  have ck : checkT [(0, p)] = if 0 ≤ p ∧ p ≤ 1125899906842624 then 0 else 6 := by
    unfold checkT; simp [okFrom]
  rw [eV]
  by_cases h : 0 ≤ p ∧ p ≤ 1125899906842624 ∧ 0 ≤ q ∧ q ≤ 1125899906842624
  · obtain ⟨h1, h2, h3, h4⟩ := h
    have R : Hid (priceN [(0, p)] q (p * q) = unitsN (rhe (p * q) 1000000) ∧ priceE [(0, p)] q (p * q) = unitsE (rhe (p * q) 1000000)) := Lib.hid (by
      unfold priceN priceE; rw [show checkT [(0, p)] = 0 by rw [ck, if_pos ⟨h1, h2⟩], if_pos ⟨rfl, h3, h4⟩, if_pos rfl, if_pos ⟨h3, h4⟩]; exact ⟨rfl, rfl⟩)
    have m := mul_50 h1 h2 h3 h4
    have PR := prod_round p q hp hq (abs40 (by omega) (by omega))
    clear ck eV hp hq m
    go_enter Try.func19, Try.ntmps19
    go_wp2_with (first | (go_at_call 32; refine (PR.out.1 _).mono ?_; rintro e w9 ⟨⟨s9, A9, n9, c9, rfl, hP9⟩, hb9⟩; obtain ⟨hc9, hf9⟩ := bcell hb9; have hs9 := hb9.size; (try simp at hs9); have HP9 := Lib.hid hP9; clear hP9) | (go_at_call 33; refine (PR.out.2 _ _ _ _ _ _ HP9.out).mono ?_; rintro e w10 ⟨rfl, hb10⟩; obtain ⟨hc10, hf10⟩ := bcell hb10; have hs10 := hb10.size; (try simp at hs10)))
    go_ret2
    exact ⟨ret_ii R.out, (by repeat (first | exact Below.refl _ _ | refine Below.setCell ?_ (by first | (simp; done) | (simp; omega) | omega) _ | refine Below.alloc ?_ (by first | (simp; done) | (simp; omega) | omega) _ | refine Below.drew ?_ | assumption | refine Below.trans ?_ (Below.mono (by assumption) (by first | (simp; done) | (simp; omega) | omega))))⟩
  · have R : Hid (priceN [(0, p)] q (p * q) = 0 ∧ priceE [(0, p)] q (p * q) = 6) := Lib.hid (by
      unfold priceN priceE
      by_cases k : 0 ≤ p ∧ p ≤ 1125899906842624
      · rw [show checkT [(0, p)] = 0 by rw [ck, if_pos k], if_neg (by omega), if_pos rfl, if_neg (by omega)]; exact ⟨rfl, rfl⟩
      · rw [show checkT [(0, p)] = 6 by rw [ck, if_neg k], if_neg (by omega), if_neg (by omega)]; exact ⟨rfl, rfl⟩)
    clear ck eV hp hq
    rcases (show p < 0 ∨ (0 ≤ p ∧ 1125899906842624 < p) ∨ (0 ≤ p ∧ p ≤ 1125899906842624 ∧ q < 0) ∨ (0 ≤ p ∧ p ≤ 1125899906842624 ∧ 0 ≤ q ∧ 1125899906842624 < q) by omega) with f | ⟨f1, f2⟩ | ⟨f1, f2, f3⟩ | ⟨f1, f2, f3, f4⟩
    all_goals
      clear h
      go_enter Try.func19, Try.ntmps19
      go_wp2
      go_ret2
      exact ⟨ret_ii R.out, (by repeat (first | exact Below.refl _ _ | refine Below.setCell ?_ (by first | (simp; done) | (simp; omega) | omega) _ | refine Below.alloc ?_ (by first | (simp; done) | (simp; omega) | omega) _ | refine Below.drew ?_ | assumption | refine Below.trans ?_ (Below.mono (by assumption) (by first | (simp; done) | (simp; omega) | omega))))⟩

set_option maxHeartbeats 4000000 in
set_option maxRecDepth 100000 in
theorem percent14_any (n m : Int) (hn : In64 n) (hm : In64 m) (w : World) :
    Calls Try.prog 22 #[.int .i64 n, .int .i64 m] w fun e w' => e = .returned (.tuple #[.int .i64 (percN n m), .int .i64 (percE n m)]) ∧ Below w.heap.size w w' := by
  by_cases hb : n < -4611686018427387904 ∨ 4611686018427387904 < n ∨ m < 0 ∨ 10000000 < m
  · have R : Hid (percN n m = 0 ∧ percE n m = 6) := Lib.hid (by unfold percN percE; rw [if_pos hb, if_pos hb]; exact ⟨rfl, rfl⟩)
    by_cases k : n < -4611686018427387904 ∨ 4611686018427387904 < n
    · have CW := Lib.hid (fun W => within_no n k W)
      clear hb k hn hm
      go_enter Try.func22, Try.ntmps22
      go_wp2_with (first | (go_at_call 14; refine (CW.out _).mono ?_; rintro e w1 ⟨rfl, hb1⟩; obtain ⟨hc1, hf1⟩ := bcell hb1; have hs1 := hb1.size; (try simp at hs1)))
      go_ret2
      exact ⟨ret_ii R.out, (by repeat (first | exact Below.refl _ _ | refine Below.setCell ?_ (by first | (simp; done) | (simp; omega) | omega) _ | refine Below.alloc ?_ (by first | (simp; done) | (simp; omega) | omega) _ | refine Below.drew ?_ | assumption | refine Below.trans ?_ (Below.mono (by assumption) (by first | (simp; done) | (simp; omega) | omega))))⟩
    · have CW := Lib.hid (fun W => within_yes n (by omega) (by omega) W)
      rcases (show m < 0 ∨ (0 ≤ m ∧ 10000000 < m) by omega) with f | ⟨f1, f2⟩
      all_goals
        clear hb k hn hm
        go_enter Try.func22, Try.ntmps22
        go_wp2_with (first | (go_at_call 14; refine (CW.out _).mono ?_; rintro e w1 ⟨rfl, hb1⟩; obtain ⟨hc1, hf1⟩ := bcell hb1; have hs1 := hb1.size; (try simp at hs1)))
        go_ret2
        exact ⟨ret_ii R.out, (by repeat (first | exact Below.refl _ _ | refine Below.setCell ?_ (by first | (simp; done) | (simp; omega) | omega) _ | refine Below.alloc ?_ (by first | (simp; done) | (simp; omega) | omega) _ | refine Below.drew ?_ | assumption | refine Below.trans ?_ (Below.mono (by assumption) (by first | (simp; done) | (simp; omega) | omega))))⟩
  · have R : Hid (percN n m = unitsN (rhe (n * m) 1000000) ∧ percE n m = unitsE (rhe (n * m) 1000000)) := Lib.hid (by unfold percN percE; rw [if_neg hb, if_neg hb]; exact ⟨rfl, rfl⟩)
    have CW := Lib.hid (fun W => within_yes n (by omega) (by omega) W)
    have mw := mul_wide (a := n) (b := m) (by omega) (by omega) (by omega) (by omega)
    have PR := prod_round n m hn hm (abs40 (by omega) (by omega))
    obtain ⟨m0, m1⟩ : 0 ≤ m ∧ m ≤ 10000000 := by omega
    clear hb mw hn hm
    go_enter Try.func22, Try.ntmps22
    go_wp2_with (first | (go_at_call 14; refine (CW.out _).mono ?_; rintro e w1 ⟨rfl, hb1⟩; obtain ⟨hc1, hf1⟩ := bcell hb1; have hs1 := hb1.size; (try simp at hs1)) | (go_at_call 32; refine (PR.out.1 _).mono ?_; rintro e w9 ⟨⟨s9, A9, n9, c9, rfl, hP9⟩, hb9⟩; obtain ⟨hc9, hf9⟩ := bcell hb9; have hs9 := hb9.size; (try simp at hs9); have HP9 := Lib.hid hP9; clear hP9) | (go_at_call 33; refine (PR.out.2 _ _ _ _ _ _ HP9.out).mono ?_; rintro e w10 ⟨rfl, hb10⟩; obtain ⟨hc10, hf10⟩ := bcell hb10; have hs10 := hb10.size; (try simp at hs10)))
    go_ret2
    exact ⟨ret_ii R.out, (by repeat (first | exact Below.refl _ _ | refine Below.setCell ?_ (by first | (simp; done) | (simp; omega) | omega) _ | refine Below.alloc ?_ (by first | (simp; done) | (simp; omega) | omega) _ | refine Below.drew ?_ | assumption | refine Below.trans ?_ (Below.mono (by assumption) (by first | (simp; done) | (simp; omega) | omega))))⟩

set_option maxHeartbeats 4000000 in
set_option maxRecDepth 100000 in
theorem prorate14_any (n p wh : Int) (hn : In64 n) (hp : In64 p) (hw : In64 wh) (w : World) :
    Calls Try.prog 20 #[.int .i64 n, .int .i64 p, .int .i64 wh] w fun e w' => e = .returned (.tuple #[.int .i64 (prorN n p wh), .int .i64 (prorE n p wh)]) ∧ Below w.heap.size w w' := by
  by_cases h0 : wh = 0
  · subst h0
    go_enter Try.func20, Try.ntmps20
    go_wp2
    go_ret2
    exact ⟨rfl, (by repeat (first | exact Below.refl _ _ | refine Below.setCell ?_ (by first | (simp; done) | (simp; omega) | omega) _ | refine Below.alloc ?_ (by first | (simp; done) | (simp; omega) | omega) _ | refine Below.drew ?_ | assumption | refine Below.trans ?_ (Below.mono (by assumption) (by first | (simp; done) | (simp; omega) | omega))))⟩
  have d0 : (wh == 0) = false := by simpa using h0
  by_cases hb : n < -4611686018427387904 ∨ 4611686018427387904 < n ∨ p < 0 ∨ wh < p ∨ 2147483648 < wh
  · have R : Hid (prorN n p wh = 0 ∧ prorE n p wh = 6) := Lib.hid (by unfold prorN prorE; rw [if_neg h0, if_neg h0, if_pos hb, if_pos hb]; exact ⟨rfl, rfl⟩)
    by_cases k : n < -4611686018427387904 ∨ 4611686018427387904 < n
    · have CW := Lib.hid (fun W => within_no n k W)
      clear hb k hn hp hw h0
      go_enter Try.func20, Try.ntmps20
      go_wp2_with (first | (go_at_call 14; refine (CW.out _).mono ?_; rintro e w1 ⟨rfl, hb1⟩; obtain ⟨hc1, hf1⟩ := bcell hb1; have hs1 := hb1.size; (try simp at hs1)))
      go_ret2
      exact ⟨ret_ii R.out, (by repeat (first | exact Below.refl _ _ | refine Below.setCell ?_ (by first | (simp; done) | (simp; omega) | omega) _ | refine Below.alloc ?_ (by first | (simp; done) | (simp; omega) | omega) _ | refine Below.drew ?_ | assumption | refine Below.trans ?_ (Below.mono (by assumption) (by first | (simp; done) | (simp; omega) | omega))))⟩
    · have CW := Lib.hid (fun W => within_yes n (by omega) (by omega) W)
      rcases (show wh < 0 ∨ (0 ≤ wh ∧ 2147483648 < wh) ∨ (0 ≤ wh ∧ wh ≤ 2147483648 ∧ p < 0) ∨ (0 ≤ wh ∧ wh ≤ 2147483648 ∧ 0 ≤ p ∧ wh < p) by omega) with f | ⟨f1, f2⟩ | ⟨f1, f2, f3⟩ | ⟨f1, f2, f3, f4⟩
      all_goals
        clear hb k hn hp hw h0
        go_enter Try.func20, Try.ntmps20
        go_wp2_with (first | (go_at_call 14; refine (CW.out _).mono ?_; rintro e w1 ⟨rfl, hb1⟩; obtain ⟨hc1, hf1⟩ := bcell hb1; have hs1 := hb1.size; (try simp at hs1)))
        go_ret2
        exact ⟨ret_ii R.out, (by repeat (first | exact Below.refl _ _ | refine Below.setCell ?_ (by first | (simp; done) | (simp; omega) | omega) _ | refine Below.alloc ?_ (by first | (simp; done) | (simp; omega) | omega) _ | refine Below.drew ?_ | assumption | refine Below.trans ?_ (Below.mono (by assumption) (by first | (simp; done) | (simp; omega) | omega))))⟩
  · have rp := rhe_part n p wh (by omega) (by omega) (by omega) 4611686018427387904 (by omega)
    have R : Hid (prorN n p wh = rhe (n * p) wh ∧ prorE n p wh = 0) := Lib.hid (by
      unfold prorN prorE unitsN unitsE; rw [if_neg h0, if_neg h0, if_neg hb, if_neg hb, if_pos rp, if_pos rp]; exact ⟨rfl, rfl⟩)
    have CW := Lib.hid (fun W => within_yes n (by omega) (by omega) W)
    have mw := mul_wide (a := n) (b := p) (by omega) (by omega) (by omega) (by omega)
    have TI := Lib.hid (fun W => times_any n p hn hp W)
    have BO := Lib.hid (fun W => bigOf_any wh hw W)
    have EV : Hid (∀ s A k c t B m d W b1 b2, Pt b1 W s A k c (n * p) → Pt b2 W t B m d wh → Calls Try.prog 35 #[.agg #[.bool s, .slice A k c], .agg #[.bool t, .slice B m d]] W fun e w' => Res W.heap.size w' e (rhe (n * p) wh) ∧ Below W.heap.size W w') := Lib.hid fun s A k c t B m d W b1 b2 X Y => by
      have ht : t = false := by rw [Y.1]; exact decide_eq_false (by omega)
      subst ht
      exact bigEven_any s A B k m c d (n * p) wh (abs40 (by omega) (by omega)) (by omega) (by omega) W (X.mono (Nat.zero_le _)) (Y.mono (Nat.zero_le _))
    have BI : Hid (∀ s A k c W b1, Pt b1 W s A k c (rhe (n * p) wh) → Calls Try.prog 34 #[.agg #[.bool s, .slice A k c]] W fun e w' => e = .returned (.tuple #[.int .i64 (rhe (n * p) wh), .bool true]) ∧ Below W.heap.size W w') := Lib.hid fun s A k c W b1 X => by
      have := bigInt_any s A k c _ (by omega) W (X.mono (Nat.zero_le _))
      rw [show intN (rhe (n * p) wh) = rhe (n * p) wh by unfold intN; rw [if_pos (by omega)], show intB (rhe (n * p) wh) = true from decide_eq_true (by omega)] at this
      exact this
    obtain ⟨w0, w1⟩ : 0 ≤ wh ∧ wh ≤ 2147483648 := by omega
    obtain ⟨p0, p1⟩ : 0 ≤ p ∧ p ≤ wh := by omega
    generalize rhe (n * p) wh = x at *
    generalize n * p = y at *
    clear hb mw hn hp hw h0 rp
    go_enter Try.func20, Try.ntmps20
    go_wp2_with (first | (go_at_call 14; refine (CW.out _).mono ?_; rintro e w1 ⟨rfl, hb1⟩; obtain ⟨hc1, hf1⟩ := bcell hb1; have hs1 := hb1.size; (try simp at hs1)) | (go_at_call 32; refine (TI.out _).mono ?_; rintro e w8 ⟨⟨s8, A8, n8, c8, rfl, hP8⟩, hb8⟩; obtain ⟨hc8, hf8⟩ := bcell hb8; have hs8 := hb8.size; (try simp at hs8); have HP8 := Lib.hid hP8; clear hP8) | (go_at_call 36; refine (BO.out _).mono ?_; rintro e w9 ⟨⟨s9, A9, n9, c9, rfl, hP9⟩, hb9⟩; obtain ⟨hc9, hf9⟩ := bcell hb9; have hs9 := hb9.size; (try simp at hs9); have HP9 := Lib.hid hP9; clear hP9) | (go_at_call 35; refine (EV.out _ _ _ _ _ _ _ _ _ _ _ (HP8.out.below (by repeat (first | exact Below.refl _ _ | refine Below.setCell ?_ (by first | (simp; done) | (simp; omega) | omega) _ | refine Below.alloc ?_ (by first | (simp; done) | (simp; omega) | omega) _ | refine Below.drew ?_ | assumption | refine Below.trans ?_ (Below.mono (by assumption) (by first | (simp; done) | (simp; omega) | omega))))) HP9.out).mono ?_; rintro e w10 ⟨⟨s10, A10, n10, c10, rfl, hP10⟩, hb10⟩; obtain ⟨hc10, hf10⟩ := bcell hb10; have hs10 := hb10.size; (try simp at hs10); have HP10 := Lib.hid hP10; clear hP10) | (go_at_call 34; refine (BI.out _ _ _ _ _ _ HP10.out).mono ?_; rintro e w11 ⟨rfl, hb11⟩; obtain ⟨hc11, hf11⟩ := bcell hb11; have hs11 := hb11.size; (try simp at hs11)))
    go_ret2
    exact ⟨ret_ii R.out, (by repeat (first | exact Below.refl _ _ | refine Below.setCell ?_ (by first | (simp; done) | (simp; omega) | omega) _ | refine Below.alloc ?_ (by first | (simp; done) | (simp; omega) | omega) _ | refine Below.drew ?_ | assumption | refine Below.trans ?_ (Below.mono (by assumption) (by first | (simp; done) | (simp; omega) | omega))))⟩

set_option maxHeartbeats 4000000 in
set_option maxRecDepth 100000 in
theorem volume14_any (A : Option Addr) (n c : Nat) (l : List (Int × Int)) (q : Int) (hl : l.length = n) (hn : n ≤ 1000000) (hq : In64 q) (w : World) (T : Tiers w A l) :
    Calls Try.prog 18 #[.slice A n c, .int .i64 q] w fun e w' => e = .returned (.tuple #[.int .i64 (priceN l q (byV l q)), .int .i64 (priceE l q (byV l q))]) ∧ Below w.heap.size w w' := by
  have CK := Lib.hid (fun W (hb : Below w.heap.size w W) => check14_any A n c l hl hn W (T.below hb))
  rcases chk_cases l with k | k | ⟨k, k1, k2, k3⟩
  · have R : Hid (priceN l q (byV l q) = 0 ∧ priceE l q (byV l q) = 9) := Lib.hid (by unfold priceN priceE; rw [k, if_neg (by omega), if_neg (by omega)]; exact ⟨rfl, rfl⟩)
    rw [k] at CK
    clear k T hq
    go_enter Try.func18, Try.ntmps18
    go_wp2_with (first | (go_at_call 23; refine (CK.out _ (by repeat (first | exact Below.refl _ _ | refine Below.setCell ?_ (by first | (simp; done) | (simp; omega) | omega) _ | refine Below.alloc ?_ (by first | (simp; done) | (simp; omega) | omega) _ | refine Below.drew ?_ | assumption | refine Below.trans ?_ (Below.mono (by assumption) (by first | (simp; done) | (simp; omega) | omega))))).mono ?_; rintro e w1 ⟨rfl, hb1⟩; obtain ⟨hc1, hf1⟩ := bcell hb1; have hs1 := hb1.size; (try simp at hs1)))
    go_ret2
    exact ⟨ret_ii R.out, (by repeat (first | exact Below.refl _ _ | refine Below.setCell ?_ (by first | (simp; done) | (simp; omega) | omega) _ | refine Below.alloc ?_ (by first | (simp; done) | (simp; omega) | omega) _ | refine Below.drew ?_ | assumption | refine Below.trans ?_ (Below.mono (by assumption) (by first | (simp; done) | (simp; omega) | omega))))⟩
  · have R : Hid (priceN l q (byV l q) = 0 ∧ priceE l q (byV l q) = 6) := Lib.hid (by unfold priceN priceE; rw [k, if_neg (by omega), if_neg (by omega)]; exact ⟨rfl, rfl⟩)
    rw [k] at CK
    clear k T hq
    go_enter Try.func18, Try.ntmps18
    go_wp2_with (first | (go_at_call 23; refine (CK.out _ (by repeat (first | exact Below.refl _ _ | refine Below.setCell ?_ (by first | (simp; done) | (simp; omega) | omega) _ | refine Below.alloc ?_ (by first | (simp; done) | (simp; omega) | omega) _ | refine Below.drew ?_ | assumption | refine Below.trans ?_ (Below.mono (by assumption) (by first | (simp; done) | (simp; omega) | omega))))).mono ?_; rintro e w1 ⟨rfl, hb1⟩; obtain ⟨hc1, hf1⟩ := bcell hb1; have hs1 := hb1.size; (try simp at hs1)))
    go_ret2
    exact ⟨ret_ii R.out, (by repeat (first | exact Below.refl _ _ | refine Below.setCell ?_ (by first | (simp; done) | (simp; omega) | omega) _ | refine Below.alloc ?_ (by first | (simp; done) | (simp; omega) | omega) _ | refine Below.drew ?_ | assumption | refine Below.trans ?_ (Below.mono (by assumption) (by first | (simp; done) | (simp; omega) | omega))))⟩
  · rw [k] at CK
    by_cases hqq : 0 ≤ q ∧ q ≤ 1125899906842624
    · obtain ⟨q0, q1⟩ := hqq
      have R : Hid (priceN l q (byV l q) = unitsN (rhe (byV l q) 1000000) ∧ priceE l q (byV l q) = unitsE (rhe (byV l q) 1000000)) := Lib.hid (priceN_ok k q0 q1)
      have HL := Lib.hid hl; have HK := Lib.hid k3; have HQ := Lib.hid hq
      have TT := Lib.hid T
      have n0 : 0 < n := by omega
      clear k k1 k2 k3 T hl hq
      go_enter Try.func18, Try.ntmps18
      go_wp2_with (first | (go_at_call 23; refine (CK.out _ (by repeat (first | exact Below.refl _ _ | refine Below.setCell ?_ (by first | (simp; done) | (simp; omega) | omega) _ | refine Below.alloc ?_ (by first | (simp; done) | (simp; omega) | omega) _ | refine Below.drew ?_ | assumption | refine Below.trans ?_ (Below.mono (by assumption) (by first | (simp; done) | (simp; omega) | omega))))).mono ?_; rintro e w1 ⟨rfl, hb1⟩; obtain ⟨hc1, hf1⟩ := bcell hb1; have hs1 := hb1.size; (try simp at hs1)))
      go_loopw [7] (fun i wr => ∃ (k : Nat) (ah : Int), k < n ∧ i = .int .i64 k ∧ Hid (byV (l.drop k) q = byV l q ∧ okFrom ah (l.drop k) = true) ∧ Below w.heap.size w wr) (fun i _ => n - (intOf i).toNat)
      case atStart => exact ⟨0, 0, n0, rfl, Lib.hid ⟨rfl, by simpa using HK.out⟩, (by repeat (first | exact Below.refl _ _ | refine Below.setCell ?_ (by first | (simp; done) | (simp; omega) | omega) _ | refine Below.alloc ?_ (by first | (simp; done) | (simp; omega) | omega) _ | refine Below.drew ?_ | assumption | refine Below.trans ?_ (Below.mono (by assumption) (by first | (simp; done) | (simp; omega) | omega))))⟩
      case round =>
        obtain ⟨k, ah, hlt, rfl, hI, hB⟩ := hrel
        obtain ⟨⟨u, p⟩, hg⟩ : ∃ t, l[k]? = some t := ⟨_, List.getElem?_eq_getElem (by rw [HL.out]; exact hlt)⟩
        obtain ⟨b, off, hA, hbs, hc0, hc1⟩ := TT.out k (u, p) hg
        subst hA
        have e0 : wr.cell? ⟨b, off + k * 2, none⟩ = some (.int .i64 u) := (hB.cell (p := ⟨b, off + k * 2, none⟩) hbs).trans hc0
        have e1 : wr.cell? ⟨b, off + k * 2 + 1, none⟩ = some (.int .i64 p) := (hB.cell (p := ⟨b, off + k * 2 + 1, none⟩) hbs).trans hc1
        obtain ⟨hpos, hp0, hp1, hok'⟩ := tier_facts hg hI.out.2
        rw [HL.out] at hpos
        by_cases hit : q ≤ u ∨ u = 0
        · have E := (byV_hit (q := q) hg hit).symm.trans hI.out.1
          have R : Hid (priceN l q (byV l q) = unitsN (rhe (q * p) 1000000) ∧ priceE l q (byV l q) = unitsE (rhe (q * p) 1000000)) := Lib.hid (by rw [E]; exact R.out)
          have hsz := hB.size
          have m := mul_50 q0 q1 hp0 hp1
          have PR := prod_round q p HQ.out ⟨by omega, by omega⟩ (abs40 (by omega) (by omega))
          clear E m hg hI HK HL TT hpos hok' HQ hc0 hc1
          rcases (show q ≤ u ∨ (¬ q ≤ u ∧ u = 0) by omega) with h | ⟨h, h'⟩
          · clear hit
            go_wp2_with (first | (go_at_call 32; refine (PR.out.1 _).mono ?_; rintro e w9 ⟨⟨s9, A9, n9, c9, rfl, hP9⟩, hb9⟩; obtain ⟨hc9, hf9⟩ := bcell hb9; have hs9 := hb9.size; (try simp at hs9); have HP9 := Lib.hid hP9; clear hP9) | (go_at_call 33; refine (PR.out.2 _ _ _ _ _ _ HP9.out).mono ?_; rintro e w10 ⟨rfl, hb10⟩; obtain ⟨hc10, hf10⟩ := bcell hb10; have hs10 := hb10.size; (try simp at hs10)))
            go_ret2
            exact ⟨ret_ii R.out, (by repeat (first | exact Below.refl _ _ | refine Below.setCell ?_ (by first | (simp; done) | (simp; omega) | omega) _ | refine Below.alloc ?_ (by first | (simp; done) | (simp; omega) | omega) _ | refine Below.drew ?_ | assumption | refine Below.trans ?_ (Below.mono (by assumption) (by first | (simp; done) | (simp; omega) | omega))))⟩
          · subst h'
            clear hit
            go_wp2_with (first | (go_at_call 32; refine (PR.out.1 _).mono ?_; rintro e w9 ⟨⟨s9, A9, n9, c9, rfl, hP9⟩, hb9⟩; obtain ⟨hc9, hf9⟩ := bcell hb9; have hs9 := hb9.size; (try simp at hs9); have HP9 := Lib.hid hP9; clear hP9) | (go_at_call 33; refine (PR.out.2 _ _ _ _ _ _ HP9.out).mono ?_; rintro e w10 ⟨rfl, hb10⟩; obtain ⟨hc10, hf10⟩ := bcell hb10; have hs10 := hb10.size; (try simp at hs10)))
            go_ret2
            exact ⟨ret_ii R.out, (by repeat (first | exact Below.refl _ _ | refine Below.setCell ?_ (by first | (simp; done) | (simp; omega) | omega) _ | refine Below.alloc ?_ (by first | (simp; done) | (simp; omega) | omega) _ | refine Below.drew ?_ | assumption | refine Below.trans ?_ (Below.mono (by assumption) (by first | (simp; done) | (simp; omega) | omega))))⟩
        · have E := (byV_miss (q := q) hg (by omega) (by omega)).symm.trans hI.out.1
          have HN : Hid (byV (l.drop (k + 1)) q = byV l q ∧ okFrom u (l.drop (k + 1)) = true) := Lib.hid ⟨E, hok'⟩
          have kn : k + 1 < n := by omega
          have h1 : ¬ q ≤ u := by omega
          have h2 : (u == 0) = false := by simp; omega
          clear E hg hI HK HL TT hpos hok' HQ hc0 hc1 hit
          go_wp2
          go_roundw
          case rel => exact ⟨k + 1, u, by omega, by go_num, HN, (by repeat (first | exact Below.refl _ _ | refine Below.setCell ?_ (by first | (simp; done) | (simp; omega) | omega) _ | refine Below.alloc ?_ (by first | (simp; done) | (simp; omega) | omega) _ | refine Below.drew ?_ | assumption | refine Below.trans ?_ (Below.mono (by assumption) (by first | (simp; done) | (simp; omega) | omega))))⟩
          case measure => first | (simp [intOf]; done) | (simp [intOf]; omega)
    · have R : Hid (priceN l q (byV l q) = 0 ∧ priceE l q (byV l q) = 6) := Lib.hid (by unfold priceN priceE; rw [k, if_neg (by omega), if_pos rfl, if_neg hqq]; exact ⟨rfl, rfl⟩)
      clear k T hq
      rcases (show q < 0 ∨ (0 ≤ q ∧ 1125899906842624 < q) by omega) with f | ⟨f1, f2⟩
      all_goals
        clear hqq
        go_enter Try.func18, Try.ntmps18
        go_wp2_with (first | (go_at_call 23; refine (CK.out _ (by repeat (first | exact Below.refl _ _ | refine Below.setCell ?_ (by first | (simp; done) | (simp; omega) | omega) _ | refine Below.alloc ?_ (by first | (simp; done) | (simp; omega) | omega) _ | refine Below.drew ?_ | assumption | refine Below.trans ?_ (Below.mono (by assumption) (by first | (simp; done) | (simp; omega) | omega))))).mono ?_; rintro e w1 ⟨rfl, hb1⟩; obtain ⟨hc1, hf1⟩ := bcell hb1; have hs1 := hb1.size; (try simp at hs1)))
        go_ret2
        exact ⟨ret_ii R.out, (by repeat (first | exact Below.refl _ _ | refine Below.setCell ?_ (by first | (simp; done) | (simp; omega) | omega) _ | refine Below.alloc ?_ (by first | (simp; done) | (simp; omega) | omega) _ | refine Below.drew ?_ | assumption | refine Below.trans ?_ (Below.mono (by assumption) (by first | (simp; done) | (simp; omega) | omega))))⟩
end Go.Proofs.Ytehlmpndbmlklaa
