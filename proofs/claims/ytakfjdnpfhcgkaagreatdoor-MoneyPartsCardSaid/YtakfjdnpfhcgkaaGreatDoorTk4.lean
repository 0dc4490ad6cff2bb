/-
  Contracts of tier.priced, tier.Tiered, tier.Volume, tier.Flat, tier.Prorate, tier.Percent.
-/
import Derived.Test.YtakfjdnpfhcgkaaGreatDoorTk1
import Derived.Test.YtakfjdnpfhcgkaaGreatDoorWk1
import Derived.Test.YtakfjdnpfhcgkaaGreatDoorQh
import Derived.Test.YtakfjdnpfhcgkaaGreatDoorWk4
import Derived.Test.YtakfjdnpfhcgkaaGreatDoorDk3
/-
  Contract of tier.byTiers.
-/
namespace Go.Proofs.YtakfjdnpfhcgkaaGreatDoor
set_option linter.all false
open Go.RowKit Go.Sort
attribute [local go_sem] cell_set_self lt_1 lt_2 lt_3 lt_4 lt_5 lt_6



end Go.Proofs.YtakfjdnpfhcgkaaGreatDoor

/-
  Contract of tier.byVolume.
-/
namespace Go.Proofs.YtakfjdnpfhcgkaaGreatDoor
set_option linter.all false
open Go.RowKit Go.Sort
attribute [local go_sem] cell_set_self lt_1 lt_2 lt_3 lt_4 lt_5 lt_6




end Go.Proofs.YtakfjdnpfhcgkaaGreatDoor

/-
  Contracts of tier.priced, tier.Tiered, tier.Volume, tier.Flat, tier.Prorate, tier.Percent.
-/
namespace Go.Proofs.YtakfjdnpfhcgkaaGreatDoor
set_option linter.all false
open Go.RowKit Go.Sort
attribute [local go_sem] cell_set_self lt_1 lt_2 lt_3 lt_4 lt_5 lt_6



theorem Tiers.below {w W : World} {A : Option Addr} {l : List (Int × Int)} (T : Tiers w A l) (h : Below w.heap.size w W) : Tiers W A l := fun i t hi => by
  obtain ⟨b, off, hA, hb, h0, h1⟩ := T i t hi
  exact ⟨b, off, hA, Nat.lt_of_lt_of_le hb h.size, (h.cell (p := ⟨b, off + i * 2, none⟩) hb).trans h0, (h.cell (p := ⟨b, off + i * 2 + 1, none⟩) hb).trans h1⟩

end Go.Proofs.YtakfjdnpfhcgkaaGreatDoor
