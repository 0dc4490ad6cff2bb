/-
  The walk of the statement TierPercents: it returns true, whatever it is given.
-/
import Derived.Test.YtdpoahfjiomhbaaGreatDoorWk4
import Derived.Test.YtdpoahfjiomhbaaGreatDoorTk6
import Derived.Test.YtdpoahfjiomhbaaGreatDoorTp
import Derived.Test.YtdpoahfjiomhbaaGreatDoorQh
namespace Go.Proofs.YtdpoahfjiomhbaaGreatDoor
set_option linter.all false
open Go.RowKit Go.Sort
attribute [local go_sem] cell_set_self lt_1 lt_2 lt_3 lt_4 lt_5 lt_6






theorem ret_bool {a b : Bool} (h : a = b) : Ending.returned (.bool a) = .returned (.bool b) := by rw [h]
theorem units_self {a : Int} (h : -4611686018427387904 ≤ a ∧ a ≤ 4611686018427387904) : unitsN a = a ∧ unitsE a = 0 := by unfold unitsN unitsE; rw [if_pos h, if_pos h]; exact ⟨rfl, rfl⟩
theorem units_bd (a : Int) : -4611686018427387904 ≤ unitsN a ∧ unitsN a ≤ 4611686018427387904 := by unfold unitsN; split <;> omega
theorem units_neg (a : Int) : unitsN (-a) = -(unitsN a) ∧ unitsE (-a) = unitsE a := by
  unfold unitsN unitsE
  by_cases h : -4611686018427387904 ≤ a ∧ a ≤ 4611686018427387904
  · rw [if_pos h, if_pos h, if_pos (by omega), if_pos (by omega)]; exact ⟨rfl, rfl⟩
  · rw [if_neg h, if_neg h, if_neg (by omega), if_neg (by omega)]; exact ⟨rfl, rfl⟩
theorem unitsE_0 {a : Int} (h : unitsE a = 0) : unitsN a = a := by
  unfold unitsE at h; unfold unitsN
  split at h
  · rename_i k; rw [if_pos k]
  · omega

theorem perc_out {n m : Int} (h : n < -4611686018427387904 ∨ 4611686018427387904 < n) : percN n m = 0 ∧ percE n m = 6 := by
  unfold percN percE; rw [if_pos (by omega), if_pos (by omega)]; exact ⟨rfl, rfl⟩
theorem perc_all {n : Int} (h : -4611686018427387904 ≤ n ∧ n ≤ 4611686018427387904) : percN n 1000000 = n ∧ percE n 1000000 = 0 := by
  unfold percN percE; rw [if_neg (by omega), if_neg (by omega), rhe_mul n 1000000 (by omega)]; exact units_self h
theorem perc_none {n : Int} (h : -4611686018427387904 ≤ n ∧ n ≤ 4611686018427387904) : percN n 0 = 0 ∧ percE n 0 = 0 := by
  unfold percN percE; rw [if_neg (by omega), if_neg (by omega), Int.mul_zero, rhe_zero 1000000 (by omega)]; exact units_self (by omega)
theorem perc_neg (n m : Int) : percN (-n) m = -(percN n m) ∧ percE (-n) m = percE n m := by
  unfold percN percE
  by_cases h : n < -4611686018427387904 ∨ 4611686018427387904 < n ∨ m < 0 ∨ 10000000 < m
  · rw [if_pos h, if_pos h, if_pos (by omega), if_pos (by omega)]; exact ⟨rfl, rfl⟩
  · rw [if_neg h, if_neg h, if_neg (by omega), if_neg (by omega), Int.neg_mul, rhe_neg _ _ (by omega)]; exact units_neg _
theorem perc_bd (n m : Int) : -4611686018427387904 ≤ percN n m ∧ percN n m ≤ 4611686018427387904 := by
  unfold percN; split
  · omega
  · exact units_bd _
theorem percE_ge (n m : Int) : 0 ≤ percE n m := by
  unfold percE unitsE; split
  · omega
  · split <;> omega
theorem perc_mono {n a b : Int} (ha : percE n a = 0) (hb : percE n b = 0) (hab : a ≤ b) (hn : 0 ≤ n) : percN n a ≤ percN n b := by
  unfold percE at ha hb; unfold percN
  split at ha
  · omega
  · rename_i ka
    split at hb
    · omega
    · rename_i kb
      rw [if_neg ka, if_neg kb, unitsE_0 ha, unitsE_0 hb]
      exact rhe_mono _ _ _ (by omega) (Int.mul_le_mul_of_nonneg_left hab hn)

end Go.Proofs.YtdpoahfjiomhbaaGreatDoor
