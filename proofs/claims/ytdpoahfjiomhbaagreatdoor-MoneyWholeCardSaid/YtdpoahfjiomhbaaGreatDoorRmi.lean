/-
  The argument of a row that is a slice of ints.
-/
import Derived.Test.YtdpoahfjiomhbaaGreatDoorRma
import Derived.Test.YtdpoahfjiomhbaaGreatDoorBw1
import Derived.ChangeSlices
namespace Go.Proofs.YtdpoahfjiomhbaaGreatDoor
set_option linter.all false
open Go.ChangeShapes Go.WideShapes Go.ChangeAt Go.ChangeMaps Go.RowKit Go.Deep
section
variable {H : Type} {enc : TypeId × Value → H} {W : World} {base : Nat} {spare : Nat → Bool} {held : Bool} {r : Reach} {b0 : Nat} {v : Value} {d : DataW H} {p : List MemPlace}
set_option maxRecDepth 100000 in
theorem ints_arg (hval : Value.okWide Tryz.prog W r b0 42 v) (h : DataW.Trod enc Tryz.prog W base spare held 42 v d p) : ∃ (A : Option Addr) (len cap : Nat) (l : List Int), v = .slice A len cap ∧ l.length = len ∧ len ≤ 9223372036854775807 ∧ Sl W A cap l ∧ ∀ x ∈ l, In64 x := by
  obtain ⟨A, len, cap, rfl⟩ := okWide_slice Tryz.underlying42 hval
  obtain ⟨fuel, hf⟩ := h
  have hf' : DataW.trod enc Tryz.prog W base spare held fuel 42 [.slice A len cap] = some (d, p) := by simpa [Value.cells] using hf
  rcases open_ints Tryz.underlying42 Tryz.underlying3 (by kernel_rfl) hf' with ⟨hcs, _⟩ | ⟨a, ln, cp, zs, hcs, _, hl, hm, hz, _, hc, hw⟩
  · simp at hcs
    obtain ⟨rfl, rfl, rfl⟩ := hcs
    exact ⟨none, 0, 0, [], rfl, rfl, by omega, ⟨by simp, fun _ => rfl, fun i v h => by simp at h⟩, fun x hx => by simp at hx⟩
  · simp at hcs
    obtain ⟨rfl, rfl, rfl⟩ := hcs
    have hlz : len ≤ zs.length := by rw [hz]; split <;> omega
    unfold maxLen at hm
    refine ⟨some a, len, cap, zs.take len, rfl, by simp; omega, by omega, ⟨by simp; omega, fun h => by simp at h, fun i x hi => ?_⟩, fun x hx => in64_wf (hw x (List.mem_of_mem_take hx))⟩
    have hil : i < len := by have := (List.getElem?_eq_some_iff.1 hi).1; simp at this; omega
    have hx : zs.getD i 0 = x := by
      rw [List.getElem?_take_of_lt hil] at hi
      simp [List.getD, hi]
    have c := hc i (by omega)
    rw [hx] at c
    obtain ⟨b, off, spot⟩ := a
    have z0 := World.cell?_spot (hc 0 (by omega))
    have hspot : spot = none := by simpa [Addr.add] using z0
    subst hspot
    have ea : ∀ j, (Addr.add ⟨b, off, none⟩ j) = ⟨b, off + j, none⟩ := fun j => by unfold Addr.add; split <;> simp_all
    rw [ea] at c
    exact ⟨b, off, rfl, World.block_lt_of_cell? W _ c, c⟩
end
end Go.Proofs.YtdpoahfjiomhbaaGreatDoor
