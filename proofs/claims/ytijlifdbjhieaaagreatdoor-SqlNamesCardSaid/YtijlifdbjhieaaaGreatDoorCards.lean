/-
  DERIVED. GIVEN WITH THE SEED: THE CARDS: each row of YtijlifdbjhieaaaGreatDoorRows.lean that lists a variable, with what it lists TIED to the program's text (the seventh form; the later family's looks); each row that meets fmt, with fmt's text TOLD by the authors' own Lean function (tested against real Go, not proved from fmt's source: count such statements apart). THE CARD IS WHAT COUNTS. Prove the row's statement (the work); the ties are given (YtijlifdbjhieaaaGreatDoorTie.lean); close each card by the builder's one call (the guide's Derived/Test/ToyasCard.lean, 'card_holds'). Laid BY PROGRAM, IN A SANDBOX (cutbox-door.mjs). By AI agents, Wed Nov 11 2026. No macro, syntax, notation, axiom, sorry.
-/
import Derived.Test.YtijlifdbjhieaaaGreatDoorRows
import GoSem.ClaimSeven
namespace Go.Proofs.YtijlifdbjhieaaaGreatDoor
namespace Rows

/-- THE TIED CARD OF 'exlaw19.SqlBack'. -/
def sqlBackCard : Claim7 := { stood := { row := sqlBackRow, standIns := [], harness := (true, "a557761271ce1b46b018b5f3391420cd7b96d49eddf084c9cf829437b58ac598"), looks := true }, kinds := [], alts := [], laidByText := true, laidKinds := [.data, .data, .data, .data, .sentinel, .sentinel, .pinned], laidTests := true, laidLooks := .later }
def SqlBackCardSaid : Prop := Claim7.holds Tryz.pinned (.plain (OpenSpec.ofChange sqlBackSpec)) sqlBackCard

/-- THE TIED CARD OF 'exlaw19.SqlBlanks'. -/
def sqlBlanksCard : Claim7 := { stood := { row := sqlBlanksRow, standIns := [], harness := (true, "a557761271ce1b46b018b5f3391420cd7b96d49eddf084c9cf829437b58ac598"), looks := true }, kinds := [], alts := [], laidByText := true, laidKinds := [.data, .data, .data, .data, .sentinel, .sentinel, .pinned], laidTests := true, laidLooks := .later }
def SqlBlanksCardSaid : Prop := Claim7.holds Tryz.pinned (.plain (OpenSpec.ofChange sqlBlanksSpec)) sqlBlanksCard

/-- THE TIED CARD OF 'exlaw19.SqlDepths'. -/
def sqlDepthsCard : Claim7 := { stood := { row := sqlDepthsRow, standIns := [], harness := (true, "a557761271ce1b46b018b5f3391420cd7b96d49eddf084c9cf829437b58ac598"), looks := true }, kinds := [], alts := [], laidByText := true, laidKinds := [.data, .data, .data, .data, .sentinel, .sentinel, .pinned], laidTests := true, laidLooks := .later }
def SqlDepthsCardSaid : Prop := Claim7.holds Tryz.pinned (.plain (OpenSpec.ofChange sqlDepthsSpec)) sqlDepthsCard

/-- THE TIED CARD OF 'exlaw19.SqlNames'. -/
def sqlNamesCard : Claim7 := { stood := { row := sqlNamesRow, standIns := [], harness := (true, "a557761271ce1b46b018b5f3391420cd7b96d49eddf084c9cf829437b58ac598"), looks := true }, kinds := [], alts := [], laidByText := true, laidKinds := [.data, .data, .data, .data, .sentinel, .sentinel, .pinned], laidTests := true, laidLooks := .later }
def SqlNamesCardSaid : Prop := Claim7.holds Tryz.pinned (.plain (OpenSpec.ofChange sqlNamesSpec)) sqlNamesCard

/-- THE SECOND FORM's CARD OF 'exlaw19.SqlBack'. -/
def sqlBackUptoCard : Claim7 := { stood := { row := sqlBackUptoRow, standIns := [], harness := (true, "a557761271ce1b46b018b5f3391420cd7b96d49eddf084c9cf829437b58ac598"), looks := true }, kinds := [], alts := [], laidByText := true, laidKinds := [.data, .data, .data, .data, .sentinel, .sentinel, .pinned], laidTests := true, laidLooks := .later }
def SqlBackUptoCardSaid : Prop := Claim7.holds Tryz.pinned (.plain (OpenSpec.upto sqlBackSpec)) sqlBackUptoCard

/-- THE SECOND FORM's CARD OF 'exlaw19.SqlBlanks'. -/
def sqlBlanksUptoCard : Claim7 := { stood := { row := sqlBlanksUptoRow, standIns := [], harness := (true, "a557761271ce1b46b018b5f3391420cd7b96d49eddf084c9cf829437b58ac598"), looks := true }, kinds := [], alts := [], laidByText := true, laidKinds := [.data, .data, .data, .data, .sentinel, .sentinel, .pinned], laidTests := true, laidLooks := .later }
def SqlBlanksUptoCardSaid : Prop := Claim7.holds Tryz.pinned (.plain (OpenSpec.upto sqlBlanksSpec)) sqlBlanksUptoCard

/-- THE SECOND FORM's CARD OF 'exlaw19.SqlDepths'. -/
def sqlDepthsUptoCard : Claim7 := { stood := { row := sqlDepthsUptoRow, standIns := [], harness := (true, "a557761271ce1b46b018b5f3391420cd7b96d49eddf084c9cf829437b58ac598"), looks := true }, kinds := [], alts := [], laidByText := true, laidKinds := [.data, .data, .data, .data, .sentinel, .sentinel, .pinned], laidTests := true, laidLooks := .later }
def SqlDepthsUptoCardSaid : Prop := Claim7.holds Tryz.pinned (.plain (OpenSpec.upto sqlDepthsSpec)) sqlDepthsUptoCard

/-- THE SECOND FORM's CARD OF 'exlaw19.SqlNames'. -/
def sqlNamesUptoCard : Claim7 := { stood := { row := sqlNamesUptoRow, standIns := [], harness := (true, "a557761271ce1b46b018b5f3391420cd7b96d49eddf084c9cf829437b58ac598"), looks := true }, kinds := [], alts := [], laidByText := true, laidKinds := [.data, .data, .data, .data, .sentinel, .sentinel, .pinned], laidTests := true, laidLooks := .later }
def SqlNamesUptoCardSaid : Prop := Claim7.holds Tryz.pinned (.plain (OpenSpec.upto sqlNamesSpec)) sqlNamesUptoCard
end Rows
end Go.Proofs.YtijlifdbjhieaaaGreatDoor
