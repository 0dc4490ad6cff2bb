/-
  The walk of the statement MoneyBack: it returns true, whatever it is given. (Printed by tools/mkmb2.py.)
-/
import Derived.Test.YtakfjdnpfhcgkaaGreatDoorMp2
import Derived.Test.YtakfjdnpfhcgkaaGreatDoorMp3
import Derived.Test.YtakfjdnpfhcgkaaGreatDoorMc6
import Derived.Test.YtakfjdnpfhcgkaaGreatDoorMf1
/-
  Plain Lean: an amount's text is read as that amount; a text that is an amount's is no longer than that amount's text.
-/
namespace Go.Proofs.YtakfjdnpfhcgkaaGreatDoor
set_option linter.all false
open Go.RowKit Go.Sort

end Go.Proofs.YtakfjdnpfhcgkaaGreatDoor

/-
  Contract of money.Sum.
-/
namespace Go.Proofs.YtakfjdnpfhcgkaaGreatDoor
set_option linter.all false
open Go.RowKit Go.Sort
attribute [local go_sem] cell_set_self lt_1 lt_2 lt_3 lt_4 lt_5 lt_6

/-- A slice of amounts, as memory has it. -/
def Am (w : World) (A : Option Addr) (l : List (Int × List UInt8)) : Prop := ∀ (i : Nat) (t : Int × List UInt8), l[i]? = some t → ∃ b off, A = some ⟨b, off, none⟩ ∧ b < w.heap.size ∧ w.cell? ⟨b, off + i * 2, none⟩ = some (.int .i64 t.1) ∧ w.cell? ⟨b, off + i * 2 + 1, none⟩ = some (.string ⟨t.2.toArray⟩)
theorem Am.below {w W : World} {A : Option Addr} {l : List (Int × List UInt8)} (h : Am w A l) (hb : Below w.heap.size w W) : Am W A l := fun i t hi => by
  obtain ⟨b, off, hA, h1, h2, h3⟩ := h i t hi
  exact ⟨b, off, hA, Nat.lt_of_lt_of_le h1 hb.size, (hb.cell (p := ⟨b, off + i * 2, none⟩) h1).trans h2, (hb.cell (p := ⟨b, off + i * 2 + 1, none⟩) h1).trans h3⟩
end Go.Proofs.YtakfjdnpfhcgkaaGreatDoor

/-
  The walk of the statement MoneyBack: it returns true, whatever it is given. (Printed by tools/mkmb2.py.)
-/
namespace Go.Proofs.YtakfjdnpfhcgkaaGreatDoor
set_option linter.all false
open Go.RowKit Go.Sort
attribute [local go_sem] cell_set_self lt_1 lt_2 lt_3 lt_4 lt_5 lt_6

end Go.Proofs.YtakfjdnpfhcgkaaGreatDoor
