/-
  Contracts of the statements' own helpers: the chapter's example holds.
-/
import Derived.Test.YtakfjdnpfhcgkaaGreatDoorWk4
import Derived.Test.YtakfjdnpfhcgkaaGreatDoorTk5
import Derived.Test.YtakfjdnpfhcgkaaGreatDoorQh
namespace Go.Proofs.YtakfjdnpfhcgkaaGreatDoor
set_option linter.all false
open Go.RowKit Go.Sort
attribute [local go_sem] cell_set_self lt_1 lt_2 lt_3 lt_4 lt_5 lt_6





theorem i64 (n : Int) (h0 : -9223372036854775808 ≤ n := by decide) (h1 : n < 9223372036854775808 := by decide) : In64 n := ⟨h0, h1⟩
end Go.Proofs.YtakfjdnpfhcgkaaGreatDoor
