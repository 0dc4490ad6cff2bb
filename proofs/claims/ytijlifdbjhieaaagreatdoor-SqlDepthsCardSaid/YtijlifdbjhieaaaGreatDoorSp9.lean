/-
  The plain facts of SqlDepths: a condition at the limit's depth is printed and read, one deeper refused; so many items, and no more.
-/
import Derived.Test.YtijlifdbjhieaaaGreatDoorSp2
import Derived.KernelRfl
namespace Go.Proofs.YtijlifdbjhieaaaGreatDoor
set_option linter.all false

def notN : Nat → CondT
  | 0 => .mk 4 [] ⟨[97], 0, 0, []⟩ ⟨[98], 0, 0, []⟩
  | k + 1 => .mk 3 [notN k] term0 term0
def deepX : Nat → List UInt8
  | 0 => []
  | k + 1 => deepX k ++ [110, 111, 116, 32]
def manyI (k : Nat) : List ItemT := List.replicate k ⟨[], [97]⟩
def manyX : Nat → List UInt8
  | 0 => [115, 101, 108, 101, 99, 116, 32]
  | k + 1 => (if 0 < k then manyX k ++ [44, 32] else manyX k) ++ [97]
def headX (k : Nat) : List UInt8 := [115, 101, 108, 101, 99, 116, 32, 97, 32, 102, 114, 111, 109, 32, 116, 32, 119, 104, 101, 114, 101, 32] ++ deepX k ++ [97, 32, 61, 32, 98]
def textX (k : Nat) : List UInt8 := manyX k ++ [32, 102, 114, 111, 109, 32, 116]
def depQ (k i : Nat) : QueryT := ⟨manyI i, [116], notN k, [], [], -1⟩
def okP {α : Type} : PR α → Bool
  | .ok _ _ => true
  | .no _ _ => false
theorem deep_good (k i : Nat) (h : k = 30 ∧ i = 19 ∨ k = 31 ∧ i = 20) : formatE (depQ k 1) = 0 ∧ formatX (depQ k 1) = headX k ∧ formatE (depQ k i) = 0 ∧ okP (parseF (headX k)) = true ∧ okP (parseF (textX i)) = true := by
  rcases h with ⟨rfl, rfl⟩ | ⟨rfl, rfl⟩
  · exact ⟨by kernel_rfl, by kernel_rfl, by kernel_rfl, by kernel_rfl, by kernel_rfl⟩
  · exact ⟨by kernel_rfl, by kernel_rfl, by kernel_rfl, by kernel_rfl, by kernel_rfl⟩
theorem deep_bad : formatE (depQ 32 1) = 20 ∧ formatE (depQ 32 21) = 9 ∧ parseF (headX 32) = .no (headX 32).length 20 ∧ parseF (textX 21) = .no 67 9 := ⟨by kernel_rfl, by kernel_rfl, by kernel_rfl, by kernel_rfl⟩
theorem dep_not : ∀ k, depthC (notN k) ≤ k + 1
  | 0 => by decide
  | k + 1 => by have := dep_not k; unfold notN depthC depthL depthL; rw [if_neg (by decide)]; omega
theorem dep_facts (N : Int) (K I : Nat) (h : N = 1 ∧ K = 33 ∧ I = 21 ∨ N ≤ 0 ∧ (K = 31 ∧ I = 19 ∨ K = 32 ∧ I = 20)) :
    ∃ (e1 e2 e3 e4 p3 p4 : Int), formatE (depQ (K - 1) 1) = e1 ∧ formatE (depQ (K - 1) I) = e2 ∧
      (okP (parseF (headX (K - 1))) = true ∧ p3 = 0 ∧ e3 = 0 ∨ ∃ n : Nat, parseF (headX (K - 1)) = .no n e3 ∧ p3 = n) ∧
      (okP (parseF (textX I)) = true ∧ p4 = 0 ∧ e4 = 0 ∨ ∃ n : Nat, parseF (textX I) = .no n e4 ∧ p4 = n) ∧
      (queryX (depQ (K - 1) 1)).length ≤ 1000000000 ∧ (queryX (depQ (K - 1) I)).length ≤ 1000000000 ∧
      (0 < N → e1 = 20 ∧ e2 = 9 ∧ e3 = 20 ∧ e4 = 9 ∧ p3 = 155 ∧ p4 = 67 ∧ K = 33) ∧
      (¬ 0 < N → e1 = 0 ∧ formatX (depQ (K - 1) 1) = headX (K - 1) ∧ e2 = 0 ∧ e3 = 0 ∧ e4 = 0) := by
  rcases h with ⟨rfl, rfl, rfl⟩ | ⟨hN, ⟨rfl, rfl⟩ | ⟨rfl, rfl⟩⟩
  · exact ⟨20, 9, 20, 9, 155, 67, deep_bad.1, deep_bad.2.1, .inr ⟨155, by kernel_rfl, rfl⟩, .inr ⟨67, deep_bad.2.2.2, rfl⟩, of_decide_eq_true (by kernel_rfl), of_decide_eq_true (by kernel_rfl), fun _ => ⟨rfl, rfl, rfl, rfl, rfl, rfl, rfl⟩, fun h => absurd (by decide) h⟩
  · obtain ⟨h1, h2, h3, h4, h5⟩ := deep_good 30 19 (.inl ⟨rfl, rfl⟩)
    exact ⟨0, 0, 0, 0, 0, 0, h1, h3, .inl ⟨h4, rfl, rfl⟩, .inl ⟨h5, rfl, rfl⟩, of_decide_eq_true (by kernel_rfl), of_decide_eq_true (by kernel_rfl), fun h => by omega, fun _ => ⟨rfl, h2, rfl, rfl, rfl⟩⟩
  · obtain ⟨h1, h2, h3, h4, h5⟩ := deep_good 31 20 (.inr ⟨rfl, rfl⟩)
    exact ⟨0, 0, 0, 0, 0, 0, h1, h3, .inl ⟨h4, rfl, rfl⟩, .inl ⟨h5, rfl, rfl⟩, of_decide_eq_true (by kernel_rfl), of_decide_eq_true (by kernel_rfl), fun h => by omega, fun _ => ⟨rfl, h2, rfl, rfl, rfl⟩⟩
end Go.Proofs.YtijlifdbjhieaaaGreatDoor
