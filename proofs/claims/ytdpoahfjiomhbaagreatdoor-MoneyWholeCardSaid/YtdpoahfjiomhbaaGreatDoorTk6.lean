/-
  Contracts of the statements' own helpers: the chapter's example holds.
-/
import Derived.Test.YtdpoahfjiomhbaaGreatDoorWk4
import Derived.Test.YtdpoahfjiomhbaaGreatDoorTk5
import Derived.Test.YtdpoahfjiomhbaaGreatDoorQh
namespace Go.Proofs.YtdpoahfjiomhbaaGreatDoor
set_option linter.all false
open Go.RowKit Go.Sort
attribute [local go_sem] cell_set_self lt_1 lt_2 lt_3 lt_4 lt_5 lt_6





/-- The chapter's example. -/
def exT : List (Int × Int) := [(100, 2000000), (200, 1500000), (0, 1000000)]
theorem list_any (w : World) : Calls Tryz.prog 51 #[] w fun e w' => (∃ A, e = .returned (.slice A 3 3) ∧ Tiers w' A exT) ∧ Below w.heap.size w w' := by
  go_enter Tryz.func51, Tryz.ntmps51
  go_wp2
  go_ret
  refine ⟨⟨_, rfl, fun i t h => ?_⟩, (by repeat (first | exact Below.refl _ _ | refine Below.setCell ?_ (by first | (simp; done) | (simp; omega) | omega) _ | refine Below.alloc ?_ (by first | (simp; done) | (simp; omega) | omega) _ | refine Below.drew ?_ | assumption | refine Below.trans ?_ (Below.mono (by assumption) (by first | (simp; done) | (simp; omega) | omega))))⟩
  match i, h with
  | 0, h => simp [exT] at h; subst h; exact ⟨w.heap.size, 0, rfl, by simp, by simp [go_sem], by simp [go_sem]⟩
  | 1, h => simp [exT] at h; subst h; exact ⟨w.heap.size, 0, rfl, by simp, by simp [go_sem], by simp [go_sem]⟩
  | 2, h => simp [exT] at h; subst h; exact ⟨w.heap.size, 0, rfl, by simp, by simp [go_sem], by simp [go_sem]⟩
theorem ex1 : priceN exT 250 (byT exT 0 250) = 400 := by decide
theorem ex2 : priceE exT 250 (byT exT 0 250) = 0 := by decide
theorem ex3 : priceN exT 200 (byV exT 200) = 300 := by decide
theorem ex4 : priceE exT 200 (byV exT 200) = 0 := by decide
theorem ex5 : priceN [(0, 500000)] 3 (byV [(0, 500000)] 3) = 2 := by decide
theorem ex6 : priceE [(0, 500000)] 3 (byV [(0, 500000)] 3) = 0 := by decide
theorem ex7 : prorE 1 1 0 = 17 := by decide
theorem i64 (n : Int) (h0 : -9223372036854775808 ≤ n := by decide) (h1 : n < 9223372036854775808 := by decide) : In64 n := ⟨h0, h1⟩
theorem ex_tiered (A : Option Addr) (w : World) (T : Tiers w A exT) : Calls Tryz.prog 50 #[.slice A 3 3, .int .i64 250] w fun e w' => e = .returned (.tuple #[.int .i64 400, .int .i64 0]) ∧ Below w.heap.size w w' := by
  have h := tiered_any A 3 3 exT 250 rfl (by decide) (i64 250) w T
  rw [ex1, ex2] at h; exact h
theorem ex_volume (A : Option Addr) (w : World) (T : Tiers w A exT) : Calls Tryz.prog 52 #[.slice A 3 3, .int .i64 200] w fun e w' => e = .returned (.tuple #[.int .i64 300, .int .i64 0]) ∧ Below w.heap.size w w' := by
  have h := volume_any A 3 3 exT 200 rfl (by decide) (i64 200) w T
  rw [ex3, ex4] at h; exact h
theorem ex_flat (w : World) : Calls Tryz.prog 53 #[.int .i64 500000, .int .i64 3] w fun e w' => e = .returned (.tuple #[.int .i64 2, .int .i64 0]) ∧ Below w.heap.size w w' := by
  have h := flat_any 500000 3 (i64 3) w
  rw [ex5, ex6] at h; exact h
theorem ex_prorate (w : World) : Calls Tryz.prog 54 #[.int .i64 1, .int .i64 1, .int .i64 0] w fun e w' => e = .returned (.tuple #[.int .i64 0, .int .i64 17]) ∧ Below w.heap.size w w' := by
  have h := prorate_any 1 1 0 (i64 1) (i64 1) (i64 0) w
  rw [ex7] at h; exact h

set_option maxHeartbeats 1000000 in
/-- exlaw14.first. -/
theorem first_any (w : World) : Calls Tryz.prog 11 #[] w fun e w' => e = .returned (.bool true) ∧ Below w.heap.size w w' := by
  go_enter Tryz.func11, Tryz.ntmps11
  go_wp2_with (first | (go_at_call 51; refine (list_any _).mono ?_; rintro e w1 ⟨⟨A, rfl, hT⟩, hb1⟩; obtain ⟨hc1, hf1⟩ := bcell hb1; have hs1 := hb1.size; (try simp at hs1)) | (go_at_call 50; refine (ex_tiered _ _ (by assumption)).mono ?_; rintro e w2 ⟨rfl, hb2⟩; obtain ⟨hc2, hf2⟩ := bcell hb2; have hs2 := hb2.size; (try simp at hs2)) | (go_at_call 52; refine (ex_volume _ _ (by assumption)).mono ?_; rintro e w3 ⟨rfl, hb3⟩; obtain ⟨hc3, hf3⟩ := bcell hb3; have hs3 := hb3.size; (try simp at hs3)) | (go_at_call 53; refine (ex_flat _).mono ?_; rintro e w4 ⟨rfl, hb4⟩; obtain ⟨hc4, hf4⟩ := bcell hb4; have hs4 := hb4.size; (try simp at hs4)) | (go_at_call 54; refine (ex_prorate _).mono ?_; rintro e w5 ⟨rfl, hb5⟩; obtain ⟨hc5, hf5⟩ := bcell hb5; have hs5 := hb5.size; (try simp at hs5)) | (go_at_call 17; refine (num_any _ _).mono ?_; rintro e w6 ⟨rfl, hb6⟩; obtain ⟨hc6, hf6⟩ := bcell hb6; have hs6 := hb6.size; (try simp at hs6)))
  go_ret
  exact ⟨rfl, (by repeat (first | exact Below.refl _ _ | refine Below.setCell ?_ (by first | (simp; done) | (simp; omega) | omega) _ | refine Below.alloc ?_ (by first | (simp; done) | (simp; omega) | omega) _ | refine Below.drew ?_ | assumption | refine Below.trans ?_ (Below.mono (by assumption) (by first | (simp; done) | (simp; omega) | omega))))⟩

theorem within_yes (n : Int) (h0 : -4611686018427387904 ≤ n) (h1 : n ≤ 4611686018427387904) (w : World) : Calls Tryz.prog 79 #[.int .i64 n] w fun e w' => e = .returned (.bool true) ∧ Below w.heap.size w w' := by
  go_enter Tryz.func79, Tryz.ntmps79
  go_wp2
  go_ret
  exact ⟨rfl, (by repeat (first | exact Below.refl _ _ | refine Below.setCell ?_ (by first | (simp; done) | (simp; omega) | omega) _ | refine Below.alloc ?_ (by first | (simp; done) | (simp; omega) | omega) _ | refine Below.drew ?_ | assumption | refine Below.trans ?_ (Below.mono (by assumption) (by first | (simp; done) | (simp; omega) | omega))))⟩
theorem within_no (n : Int) (h : n < -4611686018427387904 ∨ 4611686018427387904 < n) (w : World) : Calls Tryz.prog 79 #[.int .i64 n] w fun e w' => e = .returned (.bool false) ∧ Below w.heap.size w w' := by
  rcases h with h | h
  · have d : decide (-4611686018427387904 ≤ n) = false := by simp; omega
    go_enter Tryz.func79, Tryz.ntmps79
    go_wp2
    go_ret
    exact ⟨rfl, (by repeat (first | exact Below.refl _ _ | refine Below.setCell ?_ (by first | (simp; done) | (simp; omega) | omega) _ | refine Below.alloc ?_ (by first | (simp; done) | (simp; omega) | omega) _ | refine Below.drew ?_ | assumption | refine Below.trans ?_ (Below.mono (by assumption) (by first | (simp; done) | (simp; omega) | omega))))⟩
  · go_enter Tryz.func79, Tryz.ntmps79
    go_wp2
    go_ret
    exact ⟨rfl, (by repeat (first | exact Below.refl _ _ | refine Below.setCell ?_ (by first | (simp; done) | (simp; omega) | omega) _ | refine Below.alloc ?_ (by first | (simp; done) | (simp; omega) | omega) _ | refine Below.drew ?_ | assumption | refine Below.trans ?_ (Below.mono (by assumption) (by first | (simp; done) | (simp; omega) | omega))))⟩
end Go.Proofs.YtdpoahfjiomhbaaGreatDoor
