/-
  DERIVED. GIVEN WITH THE SEED: THE CARDS: each row of YtkaimfeiahogaaaGreatDoorRows.lean that lists a variable, with what it lists TIED to the program's text (the seventh form; the later family's looks); each row that meets fmt, with fmt's text TOLD by the authors' own Lean function (tested against real Go, not proved from fmt's source: count such statements apart). THE CARD IS WHAT COUNTS. Prove the row's statement (the work); the ties are given (YtkaimfeiahogaaaGreatDoorTie.lean); close each card by the builder's one call (the guide's Derived/Test/ToyasCard.lean, 'card_holds'). Laid BY PROGRAM, IN A SANDBOX (cutbox-door.mjs). By AI agents, Wed Nov 11 2026. No macro, syntax, notation, axiom, sorry.
-/
import Derived.Test.YtkaimfeiahogaaaGreatDoorRows
import GoSem.ClaimSeven
namespace Go.Proofs.YtkaimfeiahogaaaGreatDoor
namespace Rows

/-- THE TIED CARD OF 'exlaw22.HttpFronts'. -/
def httpFrontsCard : Claim7 := { stood := { row := httpFrontsRow, standIns := [], harness := (true, "fda09bdb41933a50b39b15e4e99fee8f3f44cb71a5ce7a3694cb99798fd01051"), looks := true }, kinds := [], alts := [], laidByText := true, laidKinds := [.data, .data, .data, .data, .sentinel, .sentinel, .pinned, .pinned], laidTests := true, laidLooks := .later }
def HttpFrontsCardSaid : Prop := Claim7.holds Tryz.pinned (.plain (OpenSpec.ofChange httpFrontsSpec)) httpFrontsCard

/-- THE TIED CARD OF 'exlaw22.HttpLimits'. -/
def httpLimitsCard : Claim7 := { stood := { row := httpLimitsRow, standIns := [], harness := (true, "fda09bdb41933a50b39b15e4e99fee8f3f44cb71a5ce7a3694cb99798fd01051"), looks := true }, kinds := [], alts := [], laidByText := true, laidKinds := [.data, .data, .data, .data, .sentinel, .sentinel, .pinned, .pinned], laidTests := true, laidLooks := .later }
def HttpLimitsCardSaid : Prop := Claim7.holds Tryz.pinned (.plain (OpenSpec.ofChange httpLimitsSpec)) httpLimitsCard

/-- THE TIED CARD OF 'exlaw22.HttpHeaders'. -/
def httpHeadersCard : Claim7 := { stood := { row := httpHeadersRow, standIns := [], harness := (true, "fda09bdb41933a50b39b15e4e99fee8f3f44cb71a5ce7a3694cb99798fd01051"), looks := true }, kinds := [], alts := [], laidByText := true, laidKinds := [.data, .data, .data, .data, .sentinel, .sentinel, .pinned, .pinned], laidTests := true, laidLooks := .later }
def HttpHeadersCardSaid : Prop := Claim7.holds Tryz.pinned (.plain (OpenSpec.ofChange httpHeadersSpec)) httpHeadersCard

/-- THE TIED CARD OF 'exlaw22.HttpPipes'. -/
def httpPipesCard : Claim7 := { stood := { row := httpPipesRow, standIns := [], harness := (true, "fda09bdb41933a50b39b15e4e99fee8f3f44cb71a5ce7a3694cb99798fd01051"), looks := true }, kinds := [], alts := [], laidByText := true, laidKinds := [.data, .data, .data, .data, .sentinel, .sentinel, .pinned, .pinned], laidTests := true, laidLooks := .later }
def HttpPipesCardSaid : Prop := Claim7.holds Tryz.pinned (.plain (OpenSpec.ofChange httpPipesSpec)) httpPipesCard

/-- THE TIED CARD OF 'exlaw22.HttpPrints'. -/
def httpPrintsCard : Claim7 := { stood := { row := httpPrintsRow, standIns := [], harness := (true, "fda09bdb41933a50b39b15e4e99fee8f3f44cb71a5ce7a3694cb99798fd01051"), looks := true }, kinds := [], alts := [], laidByText := true, laidKinds := [.data, .data, .data, .data, .sentinel, .sentinel, .pinned, .pinned], laidTests := true, laidLooks := .later }
def HttpPrintsCardSaid : Prop := Claim7.holds Tryz.pinned (.plain (OpenSpec.ofChange httpPrintsSpec)) httpPrintsCard

/-- THE TIED CARD OF 'exlaw22.HttpParses'. -/
def httpParsesCard : Claim7 := { stood := { row := httpParsesRow, standIns := [], harness := (true, "fda09bdb41933a50b39b15e4e99fee8f3f44cb71a5ce7a3694cb99798fd01051"), looks := true }, kinds := [], alts := [], laidByText := true, laidKinds := [.data, .data, .data, .data, .sentinel, .sentinel, .pinned, .pinned], laidTests := true, laidLooks := .later }
def HttpParsesCardSaid : Prop := Claim7.holds Tryz.pinned (.plain (OpenSpec.ofChange httpParsesSpec)) httpParsesCard

/-- THE TIED CARD OF 'exlaw22.HttpBack'. -/
def httpBackCard : Claim7 := { stood := { row := httpBackRow, standIns := [], harness := (true, "fda09bdb41933a50b39b15e4e99fee8f3f44cb71a5ce7a3694cb99798fd01051"), looks := true }, kinds := [], alts := [], laidByText := true, laidKinds := [.data, .data, .data, .data, .sentinel, .sentinel, .pinned, .pinned], laidTests := true, laidLooks := .later }
def HttpBackCardSaid : Prop := Claim7.holds Tryz.pinned (.plain (OpenSpec.ofChange httpBackSpec)) httpBackCard

/-- THE SECOND FORM's CARD OF 'exlaw22.HttpFronts'. -/
def httpFrontsUptoCard : Claim7 := { stood := { row := httpFrontsUptoRow, standIns := [], harness := (true, "fda09bdb41933a50b39b15e4e99fee8f3f44cb71a5ce7a3694cb99798fd01051"), looks := true }, kinds := [], alts := [], laidByText := true, laidKinds := [.data, .data, .data, .data, .sentinel, .sentinel, .pinned, .pinned], laidTests := true, laidLooks := .later }
def HttpFrontsUptoCardSaid : Prop := Claim7.holds Tryz.pinned (.plain (OpenSpec.upto httpFrontsSpec)) httpFrontsUptoCard

/-- THE SECOND FORM's CARD OF 'exlaw22.HttpLimits'. -/
def httpLimitsUptoCard : Claim7 := { stood := { row := httpLimitsUptoRow, standIns := [], harness := (true, "fda09bdb41933a50b39b15e4e99fee8f3f44cb71a5ce7a3694cb99798fd01051"), looks := true }, kinds := [], alts := [], laidByText := true, laidKinds := [.data, .data, .data, .data, .sentinel, .sentinel, .pinned, .pinned], laidTests := true, laidLooks := .later }
def HttpLimitsUptoCardSaid : Prop := Claim7.holds Tryz.pinned (.plain (OpenSpec.upto httpLimitsSpec)) httpLimitsUptoCard

/-- THE SECOND FORM's CARD OF 'exlaw22.HttpHeaders'. -/
def httpHeadersUptoCard : Claim7 := { stood := { row := httpHeadersUptoRow, standIns := [], harness := (true, "fda09bdb41933a50b39b15e4e99fee8f3f44cb71a5ce7a3694cb99798fd01051"), looks := true }, kinds := [], alts := [], laidByText := true, laidKinds := [.data, .data, .data, .data, .sentinel, .sentinel, .pinned, .pinned], laidTests := true, laidLooks := .later }
def HttpHeadersUptoCardSaid : Prop := Claim7.holds Tryz.pinned (.plain (OpenSpec.upto httpHeadersSpec)) httpHeadersUptoCard

/-- THE SECOND FORM's CARD OF 'exlaw22.HttpPipes'. -/
def httpPipesUptoCard : Claim7 := { stood := { row := httpPipesUptoRow, standIns := [], harness := (true, "fda09bdb41933a50b39b15e4e99fee8f3f44cb71a5ce7a3694cb99798fd01051"), looks := true }, kinds := [], alts := [], laidByText := true, laidKinds := [.data, .data, .data, .data, .sentinel, .sentinel, .pinned, .pinned], laidTests := true, laidLooks := .later }
def HttpPipesUptoCardSaid : Prop := Claim7.holds Tryz.pinned (.plain (OpenSpec.upto httpPipesSpec)) httpPipesUptoCard

/-- THE SECOND FORM's CARD OF 'exlaw22.HttpPrints'. -/
def httpPrintsUptoCard : Claim7 := { stood := { row := httpPrintsUptoRow, standIns := [], harness := (true, "fda09bdb41933a50b39b15e4e99fee8f3f44cb71a5ce7a3694cb99798fd01051"), looks := true }, kinds := [], alts := [], laidByText := true, laidKinds := [.data, .data, .data, .data, .sentinel, .sentinel, .pinned, .pinned], laidTests := true, laidLooks := .later }
def HttpPrintsUptoCardSaid : Prop := Claim7.holds Tryz.pinned (.plain (OpenSpec.upto httpPrintsSpec)) httpPrintsUptoCard

/-- THE SECOND FORM's CARD OF 'exlaw22.HttpParses'. -/
def httpParsesUptoCard : Claim7 := { stood := { row := httpParsesUptoRow, standIns := [], harness := (true, "fda09bdb41933a50b39b15e4e99fee8f3f44cb71a5ce7a3694cb99798fd01051"), looks := true }, kinds := [], alts := [], laidByText := true, laidKinds := [.data, .data, .data, .data, .sentinel, .sentinel, .pinned, .pinned], laidTests := true, laidLooks := .later }
def HttpParsesUptoCardSaid : Prop := Claim7.holds Tryz.pinned (.plain (OpenSpec.upto httpParsesSpec)) httpParsesUptoCard

/-- THE SECOND FORM's CARD OF 'exlaw22.HttpBack'. -/
def httpBackUptoCard : Claim7 := { stood := { row := httpBackUptoRow, standIns := [], harness := (true, "fda09bdb41933a50b39b15e4e99fee8f3f44cb71a5ce7a3694cb99798fd01051"), looks := true }, kinds := [], alts := [], laidByText := true, laidKinds := [.data, .data, .data, .data, .sentinel, .sentinel, .pinned, .pinned], laidTests := true, laidLooks := .later }
def HttpBackUptoCardSaid : Prop := Claim7.holds Tryz.pinned (.plain (OpenSpec.upto httpBackSpec)) httpBackUptoCard
end Rows
end Go.Proofs.YtkaimfeiahogaaaGreatDoor
