/-
  Contract of tier.Check.
-/
import Derived.Test.YtakfjdnpfhcgkaaGreatDoorWk5
import Derived.Test.YtakfjdnpfhcgkaaGreatDoorDm
namespace Go.Proofs.YtakfjdnpfhcgkaaGreatDoor
set_option linter.all false
open Go.RowKit
attribute [local go_sem] cell_set_self lt_1 lt_2 lt_3 lt_4 lt_5 lt_6



/-- A slice of tiers, as memory has it. -/
def Tiers (w : World) (A : Option Addr) (l : List (Int × Int)) : Prop :=
  ∀ (i : Nat) (t : Int × Int), l[i]? = some t → ∃ b off, A = some ⟨b, off, none⟩ ∧ b < w.heap.size ∧ w.cell? ⟨b, off + i * 2, none⟩ = some (.int .i64 t.1) ∧ w.cell? ⟨b, off + i * 2 + 1, none⟩ = some (.int .i64 t.2)

theorem ret_int {k : IntKind} {a b : Int} (h : a = b) : Ending.returned (.int k a) = .returned (.int k b) := by rw [h]

end Go.Proofs.YtakfjdnpfhcgkaaGreatDoor
