/-
  The walk of the statement TierPercents: it returns true, whatever it is given.
-/
import Derived.Test.YtehlmpndbmlklaaWk4
import Derived.Test.YtehlmpndbmlklaaTk6
import Derived.Test.YtehlmpndbmlklaaTp
import Derived.Test.YtehlmpndbmlklaaQh
namespace Go.Proofs.Ytehlmpndbmlklaa
set_option linter.all false
open Go.RowKit Go.Sort
attribute [local go_sem] cell_set_self lt_1 lt_2 lt_3 lt_4 lt_5 lt_6






theorem ret_bool {a b : Bool} (h : a = b) : Ending.returned (.bool a) = .returned (.bool b) := by rw [h]
theorem units_self {a : Int} (h : -4611686018427387904 ≤ a ∧ a ≤ 4611686018427387904) : unitsN a = a ∧ unitsE a = 0 := by unfold unitsN unitsE; rw [if_pos h, if_pos h]; exact ⟨rfl, rfl⟩
theorem units_bd (a : Int) : -4611686018427387904 ≤ unitsN a ∧ unitsN a ≤ 4611686018427387904 := by unfold unitsN; split <;> omega
theorem units_neg (a : Int) : unitsN (-a) = -(unitsN a) ∧ unitsE (-a) = unitsE a := by
  unfold unitsN unitsE
  by_cases h : -4611686018427387904 ≤ a ∧ a ≤ 4611686018427387904
  · rw [if_pos h, if_pos h, if_pos (by omega), if_pos (by omega)]; exact ⟨rfl, rfl⟩
  · rw [if_neg h, if_neg h, if_neg (by omega), if_neg (by omega)]; exact ⟨rfl, rfl⟩
theorem unitsE_0 {a : Int} (h : unitsE a = 0) : unitsN a = a := by
  unfold unitsE at h; unfold unitsN
  split at h
  · rename_i k; rw [if_pos k]
  · omega

theorem perc_out {n m : Int} (h : n < -4611686018427387904 ∨ 4611686018427387904 < n) : percN n m = 0 ∧ percE n m = 6 := by
  unfold percN percE; rw [if_pos (by omega), if_pos (by omega)]; exact ⟨rfl, rfl⟩
theorem perc_all {n : Int} (h : -4611686018427387904 ≤ n ∧ n ≤ 4611686018427387904) : percN n 1000000 = n ∧ percE n 1000000 = 0 := by
  unfold percN percE; rw [if_neg (by omega), if_neg (by omega), rhe_mul n 1000000 (by omega)]; exact units_self h
theorem perc_none {n : Int} (h : -4611686018427387904 ≤ n ∧ n ≤ 4611686018427387904) : percN n 0 = 0 ∧ percE n 0 = 0 := by
  unfold percN percE; rw [if_neg (by omega), if_neg (by omega), Int.mul_zero, rhe_zero 1000000 (by omega)]; exact units_self (by omega)
theorem perc_neg (n m : Int) : percN (-n) m = -(percN n m) ∧ percE (-n) m = percE n m := by
  unfold percN percE
  by_cases h : n < -4611686018427387904 ∨ 4611686018427387904 < n ∨ m < 0 ∨ 10000000 < m
  · rw [if_pos h, if_pos h, if_pos (by omega), if_pos (by omega)]; exact ⟨rfl, rfl⟩
  · rw [if_neg h, if_neg h, if_neg (by omega), if_neg (by omega), Int.neg_mul, rhe_neg _ _ (by omega)]; exact units_neg _
theorem perc_bd (n m : Int) : -4611686018427387904 ≤ percN n m ∧ percN n m ≤ 4611686018427387904 := by
  unfold percN; split
  · omega
  · exact units_bd _
theorem percE_ge (n m : Int) : 0 ≤ percE n m := by
  unfold percE unitsE; split
  · omega
  · split <;> omega
theorem perc_mono {n a b : Int} (ha : percE n a = 0) (hb : percE n b = 0) (hab : a ≤ b) (hn : 0 ≤ n) : percN n a ≤ percN n b := by
  unfold percE at ha hb; unfold percN
  split at ha
  · omega
  · rename_i ka
    split at hb
    · omega
    · rename_i kb
      rw [if_neg ka, if_neg kb, unitsE_0 ha, unitsE_0 hb]
      exact rhe_mono _ _ _ (by omega) (Int.mul_le_mul_of_nonneg_left hab hn)

set_option maxHeartbeats 2000000 in
theorem percents_walk (n a b : Int) (hn : In64 n) (ha : In64 a) (hb : In64 b) (w : World) :
    Calls Try.prog 7 #[.int .i64 n, .int .i64 a, .int .i64 b] w fun e w' => e = .returned (.bool true) ∧ Below w.heap.size w w' := by
  by_cases hw : n < -4611686018427387904 ∨ 4611686018427387904 < n
  · have c1 := fun W => percent_any n 1000000 hn (i64 1000000) W
    have c2 := fun W => percent_any n 0 hn (i64 0) W
    rw [(perc_out hw).1, (perc_out hw).2] at c1 c2
    have C1 := Lib.hid c1; have C2 := Lib.hid c2; have CW := Lib.hid (fun W => within_no n hw W)
    clear c1 c2 hw hn ha hb
    go_enter Try.func7, Try.ntmps7
    go_wp2_with (first | (go_at_call 8; refine (first_any _).mono ?_; rintro e w1 ⟨rfl, hb1⟩; obtain ⟨hc1, hf1⟩ := bcell hb1; have hs1 := hb1.size; (try simp at hs1)) | (go_at_call_of 21 (Value.int IntKind.i64 1000000); refine (C1.out _).mono ?_; rintro e w2 ⟨rfl, hb2⟩; obtain ⟨hc2, hf2⟩ := bcell hb2; have hs2 := hb2.size) | (go_at_call 21; refine (C2.out _).mono ?_; rintro e w3 ⟨rfl, hb3⟩; obtain ⟨hc3, hf3⟩ := bcell hb3; have hs3 := hb3.size; (try simp at hs3)) | (go_at_call 14; refine (CW.out _).mono ?_; rintro e w4 ⟨rfl, hb4⟩; obtain ⟨hc4, hf4⟩ := bcell hb4; have hs4 := hb4.size; (try simp at hs4)) | (go_at_call 9; refine (num_any _ _).mono ?_; rintro e w5 ⟨rfl, hb5⟩; obtain ⟨hc5, hf5⟩ := bcell hb5; have hs5 := hb5.size; (try simp at hs5)))
    go_ret
    exact ⟨rfl, (by repeat (first | exact Below.refl _ _ | refine Below.setCell ?_ (by first | (simp; done) | (simp; omega) | omega) _ | refine Below.alloc ?_ (by first | (simp; done) | (simp; omega) | omega) _ | refine Below.drew ?_ | assumption | refine Below.trans ?_ (Below.mono (by assumption) (by first | (simp; done) | (simp; omega) | omega))))⟩
  · obtain ⟨w1, w2⟩ : -4611686018427387904 ≤ n ∧ n ≤ 4611686018427387904 := by omega
    have c1 := fun W => percent_any n 1000000 hn (i64 1000000) W
    have c2 := fun W => percent_any n 0 hn (i64 0) W
    rw [(perc_all ⟨w1, w2⟩).1, (perc_all ⟨w1, w2⟩).2] at c1
    rw [(perc_none ⟨w1, w2⟩).1, (perc_none ⟨w1, w2⟩).2] at c2
    have c3 := fun W => percent_any n a hn ha W
    have c4 := fun W => percent_any n b hn hb W
    have c5 := fun W => percent_any (-n) a (by unfold In64; omega) ha W
    rw [(perc_neg n a).1, (perc_neg n a).2] at c5
    have bd := perc_bd n a
    have mono := @perc_mono n a b
    have ge := percE_ge n a; have he := percE_ge n b
    generalize percN n a = c at *
    generalize percE n a = g at *
    generalize percN n b = d at *
    generalize percE n b = h at *
    have C1 := Lib.hid c1; have C2 := Lib.hid c2; have C3 := Lib.hid c3; have C4 := Lib.hid c4; have C5 := Lib.hid c5; have CW := Lib.hid (fun W => within_yes n w1 w2 W)
    obtain ⟨bd1, bd2⟩ := bd
    have fin : 0 < g ∨ (g = 0 ∧ 0 < h) ∨ (g = 0 ∧ h = 0 ∧ b < a) ∨ (g = 0 ∧ h = 0 ∧ a ≤ b ∧ n < 0) ∨ (g = 0 ∧ h = 0 ∧ a ≤ b ∧ 0 ≤ n ∧ c ≤ d) := by
      by_cases hg : g = 0
      · by_cases hh : h = 0
        · by_cases hab : b < a
          · exact .inr (.inr (.inl ⟨hg, hh, hab⟩))
          · by_cases hn0 : n < 0
            · exact .inr (.inr (.inr (.inl ⟨hg, hh, by omega, hn0⟩)))
            · exact .inr (.inr (.inr (.inr ⟨hg, hh, by omega, by omega, mono hg hh (by omega) (by omega)⟩)))
        · exact .inr (.inl ⟨hg, by omega⟩)
      · exact .inl (by omega)
    clear c1 c2 c3 c4 c5 mono hn ha hb hw ge he
    rcases fin with f1 | ⟨rfl, f2⟩ | ⟨rfl, rfl, f3⟩ | ⟨rfl, rfl, f3, f4⟩ | ⟨rfl, rfl, f3, f4, f5⟩
    all_goals
      go_enter Try.func7, Try.ntmps7
      go_wp2_with (first | (go_at_call 8; refine (first_any _).mono ?_; rintro e w1 ⟨rfl, hb1⟩; obtain ⟨hc1, hf1⟩ := bcell hb1; have hs1 := hb1.size; (try simp at hs1)) | (go_at_call_of 21 (Value.int IntKind.i64 1000000); refine (C1.out _).mono ?_; rintro e w2 ⟨rfl, hb2⟩; obtain ⟨hc2, hf2⟩ := bcell hb2; have hs2 := hb2.size) | (go_at_call_of 21 (Value.int IntKind.i64 0); refine (C2.out _).mono ?_; rintro e w3 ⟨rfl, hb3⟩; obtain ⟨hc3, hf3⟩ := bcell hb3; have hs3 := hb3.size) | (go_at_call_of 21 (Value.int IntKind.i64 b); refine (C4.out _).mono ?_; rintro e w5 ⟨rfl, hb5⟩; obtain ⟨hc5, hf5⟩ := bcell hb5; have hs5 := hb5.size) | (go_at_call_of 21 (Value.int IntKind.i64 (-n)); refine (C5.out _).mono ?_; rintro e w6 ⟨rfl, hb6⟩; obtain ⟨hc6, hf6⟩ := bcell hb6; have hs6 := hb6.size) | (go_at_call 21; refine (C3.out _).mono ?_; rintro e w4 ⟨rfl, hb4⟩; obtain ⟨hc4, hf4⟩ := bcell hb4; have hs4 := hb4.size; (try simp at hs4)) | (go_at_call 14; refine (CW.out _).mono ?_; rintro e w7 ⟨rfl, hb7⟩; obtain ⟨hc7, hf7⟩ := bcell hb7; have hs7 := hb7.size; (try simp at hs7)) | (go_at_call 9; refine (num_any _ _).mono ?_; rintro e w8 ⟨rfl, hb8⟩; obtain ⟨hc8, hf8⟩ := bcell hb8; have hs8 := hb8.size; (try simp at hs8)))
      go_ret
      exact ⟨ret_bool (by first | rfl | (simp; omega)), (by repeat (first | exact Below.refl _ _ | refine Below.setCell ?_ (by first | (simp; done) | (simp; omega) | omega) _ | refine Below.alloc ?_ (by first | (simp; done) | (simp; omega) | omega) _ | refine Below.drew ?_ | assumption | refine Below.trans ?_ (Below.mono (by assumption) (by first | (simp; done) | (simp; omega) | omega))))⟩
end Go.Proofs.Ytehlmpndbmlklaa
