/-
  The shelf, second part: nothing is left of it.
-/
import Derived.Test.YtakfjdnpfhcgkaaGreatDoorShelf
