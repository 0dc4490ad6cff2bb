/-
  DERIVED. GIVEN WITH THE SEED: THE CARDS: each row of YtakfjdnpfhcgkaaGreatDoorRows.lean that lists a variable, with what it lists TIED to the program's text (the seventh form; the later family's looks); each row that meets fmt, with fmt's text TOLD by the authors' own Lean function (tested against real Go, not proved from fmt's source: count such statements apart). THE CARD IS WHAT COUNTS. Prove the row's statement (the work); the ties are given (YtakfjdnpfhcgkaaGreatDoorTie.lean); close each card by the builder's one call (the guide's Derived/Test/ToyasCard.lean, 'card_holds'). Laid BY PROGRAM, IN A SANDBOX (cutbox-door.mjs). By AI agents, Wed Nov 11 2026. No macro, syntax, notation, axiom, sorry.
-/
import Derived.Test.YtakfjdnpfhcgkaaGreatDoorRows
import GoSem.ClaimSeven
namespace Go.Proofs.YtakfjdnpfhcgkaaGreatDoor
namespace Rows

/-- THE TIED CARD OF 'exlaw6.MoneyParts'. -/
def moneyPartsCard : Claim7 := { stood := { row := moneyPartsRow, standIns := [], harness := (true, "3c787f56fab00f1eeefede1c2067531e8459d033787ffc7b7688e4b0da645a20"), looks := true }, kinds := [], alts := [], laidByText := true, laidKinds := [.data, .data, .data, .sentinel, .sentinel], laidTests := true, laidLooks := .later }
def MoneyPartsCardSaid : Prop := Claim7.holds Tryz.pinned (.plain (OpenSpec.ofChange moneyPartsSpec)) moneyPartsCard

/-- THE SECOND FORM's CARD OF 'exlaw6.MoneyParts'. -/
def moneyPartsUptoCard : Claim7 := { stood := { row := moneyPartsUptoRow, standIns := [], harness := (true, "3c787f56fab00f1eeefede1c2067531e8459d033787ffc7b7688e4b0da645a20"), looks := true }, kinds := [], alts := [], laidByText := true, laidKinds := [.data, .data, .data, .sentinel, .sentinel], laidTests := true, laidLooks := .later }
def MoneyPartsUptoCardSaid : Prop := Claim7.holds Tryz.pinned (.plain (OpenSpec.upto moneyPartsSpec)) moneyPartsUptoCard
end Rows
end Go.Proofs.YtakfjdnpfhcgkaaGreatDoor
