/-
  The law's Query up to its first value: what is left to show stands as a proposition. (Printed by tools/mksg3.py.)
-/
import Derived.Test.YtijlifdbjhieaaaGreatDoorSg0
namespace Go.Proofs.YtijlifdbjhieaaaGreatDoor
set_option linter.all false
open Go.RowKit Go.Shelf Go.Sort
attribute [local go_sem] cell_set_self lt_1 lt_2 lt_3 lt_4 lt_5 lt_6

/-- What is left to show, shut. -/
structure RestP (R : Prop) : Prop where
  out : R
end Go.Proofs.YtijlifdbjhieaaaGreatDoor
