/-
  Plain laws of the parts of a whole; no Go in sight.
-/
import Derived.Test.YtdpoahfjiomhbaaGreatDoorTp
namespace Go.Proofs.YtdpoahfjiomhbaaGreatDoor
set_option linter.all false

def sumI : List Int → Int
  | [] => 0
  | x :: r => x + sumI r
theorem sumI_append : ∀ (a b : List Int), sumI (a ++ b) = sumI a + sumI b
  | [], b => by simp [sumI]
  | x :: r, b => by simp only [List.cons_append, sumI, sumI_append r b]; omega
theorem sumI_take {l : List Int} {k : Nat} {x : Int} (h : l[k]? = some x) : sumI (l.take (k + 1)) = sumI (l.take k) + x := by
  obtain ⟨hk, he⟩ := List.getElem?_eq_some_iff.1 h
  rw [List.take_succ_eq_append_getElem hk, sumI_append, he]; simp [sumI]
theorem sumI_nonneg : ∀ {l : List Int}, (∀ x ∈ l, 0 ≤ x) → 0 ≤ sumI l
  | [], _ => by simp [sumI]
  | x :: r, h => by
    have := sumI_nonneg (l := r) (fun y hy => h y (by simp [hy]))
    have := h x (by simp)
    simp only [sumI]; omega
theorem sumI_mem : ∀ {l : List Int} {x : Int}, (∀ y ∈ l, 0 ≤ y) → x ∈ l → x ≤ sumI l
  | [], _, _, h => by cases h
  | y :: r, x, h, hm => by
    have h1 := sumI_nonneg (l := r) (fun z hz => h z (by simp [hz]))
    have h2 := h y (by simp)
    simp only [sumI]
    rcases List.mem_cons.1 hm with rfl | hm
    · omega
    · have := sumI_mem (l := r) (fun z hz => h z (by simp [hz])) hm
      omega
theorem sumI_take_le {l : List Int} (k : Nat) (h : ∀ y ∈ l, 0 ≤ y) : sumI (l.take k) ≤ sumI l := by
  have e : sumI l = sumI (l.take k) + sumI (l.drop k) := by rw [← sumI_append, List.take_append_drop]
  have := sumI_nonneg (l := l.drop k) (fun y hy => h y (List.mem_of_mem_drop hy))
  omega

/-- A part of units, rounded, is within the units. -/
theorem rhe_part (n p wh : Int) (h0 : 0 ≤ p) (h1 : p ≤ wh) (hw : 0 < wh) (M : Int) (hM : -M ≤ n ∧ n ≤ M) : -M ≤ rhe (n * p) wh ∧ rhe (n * p) wh ≤ M := by
  have M0 : 0 ≤ M := by omega
  have a : n * p ≤ M * wh := Int.le_trans (Int.mul_le_mul_of_nonneg_right hM.2 h0) (Int.mul_le_mul_of_nonneg_left h1 M0)
  have b : -M * wh ≤ n * p := by
    have : -M * p ≤ n * p := Int.mul_le_mul_of_nonneg_right hM.1 h0
    have : M * p ≤ M * wh := Int.mul_le_mul_of_nonneg_left h1 M0
    rw [Int.neg_mul] at *; omega
  have a' := rhe_mono _ _ wh hw a
  have b' := rhe_mono _ _ wh hw b
  rw [rhe_mul _ _ hw] at a' b'
  exact ⟨b', a'⟩

/-- How far the sum of the rounded parts may be from the part of the sum: half a unit a part. 'S' is the sum of the first k, 'P' the sum of their parts. -/
structure Near (n wh : Int) (k : Nat) (P S : Int) : Prop where
  lo : 2 * (n * P) ≤ 2 * (S * wh) + k * wh
  hi : 2 * (S * wh) ≤ 2 * (n * P) + k * wh
theorem Near.zero (n wh : Int) : Near n wh 0 0 0 := ⟨by simp, by simp⟩
theorem Near.step {n wh : Int} {k : Nat} {P S p : Int} (h : Near n wh k P S) (hw : 0 < wh) : Near n wh (k + 1) (P + p) (S + rhe (n * p) wh) := by
  have r := rhe_spec (n * p) wh hw
  have a := h.lo
  have b := h.hi
  constructor
  · rw [Int.mul_add, Int.add_mul, Int.natCast_add, Int.add_mul]; omega
  · rw [Int.mul_add, Int.add_mul, Int.natCast_add, Int.add_mul]; omega
theorem Near.bd {n wh : Int} {k : Nat} {P S M : Int} (h : Near n wh k P S) (hw : 0 < wh) (h0 : 0 ≤ P) (h1 : P ≤ wh) (hM : -M ≤ n ∧ n ≤ M) : -(2 * M + k) ≤ 2 * S ∧ 2 * S ≤ 2 * M + k := by
  have M0 : 0 ≤ M := by omega
  have a : n * P ≤ M * wh := Int.le_trans (Int.mul_le_mul_of_nonneg_right hM.2 h0) (Int.mul_le_mul_of_nonneg_left h1 M0)
  have b : -(M * wh) ≤ n * P := by
    have h2 : -M * P ≤ n * P := Int.mul_le_mul_of_nonneg_right hM.1 h0
    have h3 : M * P ≤ M * wh := Int.mul_le_mul_of_nonneg_left h1 M0
    rw [Int.neg_mul] at h2; omega
  have c := h.lo
  have d := h.hi
  constructor
  · refine Int.le_of_mul_le_mul_right (a := wh) ?_ hw
    rw [Int.neg_mul, Int.add_mul, Int.mul_assoc, Int.mul_assoc]; omega
  · refine Int.le_of_mul_le_mul_right (a := wh) ?_ hw
    rw [Int.add_mul, Int.mul_assoc, Int.mul_assoc]; omega
theorem Near.fin {n wh : Int} {k : Nat} {S : Int} (h : Near n wh k wh S) (hw : 0 < wh) : 2 * (S - n) ≤ k ∧ -(k : Int) ≤ 2 * (S - n) := by
  have c := h.lo
  have d := h.hi
  constructor
  · refine Int.le_of_mul_le_mul_right (a := wh) ?_ hw
    rw [Int.mul_assoc, Int.sub_mul]; omega
  · refine Int.le_of_mul_le_mul_right (a := wh) ?_ hw
    rw [Int.mul_assoc, Int.sub_mul, Int.neg_mul]; omega
end Go.Proofs.YtdpoahfjiomhbaaGreatDoor
