/-
  Words for lists of tiers that the call itself makes.
-/
import Derived.Test.YtakfjdnpfhcgkaaGreatDoorWk4
import Derived.Test.YtakfjdnpfhcgkaaGreatDoorTk6
import Derived.Test.YtakfjdnpfhcgkaaGreatDoorDm
import Derived.Test.YtakfjdnpfhcgkaaGreatDoorQh
import Derived.Deep.AppendLies
namespace Go.Proofs.YtakfjdnpfhcgkaaGreatDoor
set_option linter.all false
open Go.RowKit Go.Sort
attribute [local go_sem] cell_set_self lt_1 lt_2 lt_3 lt_4 lt_5 lt_6








theorem addr0 (g n : Nat) : ({ block := g, off := 0 } : Addr).add n = ⟨g, n, none⟩ := by unfold Addr.add; split <;> simp_all
end Go.Proofs.YtakfjdnpfhcgkaaGreatDoor
