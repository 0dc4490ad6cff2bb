/-
  DERIVED. GIVEN WITH THE SEED: THE CARDS: each row of YtdpoahfjiomhbaaGreatDoorRows.lean that lists a variable, with what it lists TIED to the program's text (the seventh form; the later family's looks); each row that meets fmt, with fmt's text TOLD by the authors' own Lean function (tested against real Go, not proved from fmt's source: count such statements apart). THE CARD IS WHAT COUNTS. Prove the row's statement (the work); the ties are given (YtdpoahfjiomhbaaGreatDoorTie.lean); close each card by the builder's one call (the guide's Derived/Test/ToyasCard.lean, 'card_holds'). Laid BY PROGRAM, IN A SANDBOX (cutbox-door.mjs). By AI agents, Wed Nov 11 2026. No macro, syntax, notation, axiom, sorry.
-/
import Derived.Test.YtdpoahfjiomhbaaGreatDoorRows
import GoSem.ClaimSeven
namespace Go.Proofs.YtdpoahfjiomhbaaGreatDoor
namespace Rows

/-- THE TIED CARD OF 'exlaw14.TierTexts'. -/
def tierTextsCard : Claim7 := { stood := { row := tierTextsRow, standIns := [], harness := (true, "28554b9f3989e2db8fa1771ac0fb98591bb5e59e9bb6d0cd84bb7b93f36108c9"), looks := true }, kinds := [], alts := [], laidByText := true, laidKinds := [.data, .data, .data, .data, .sentinel, .sentinel, .pinned], laidTests := true, laidLooks := .later }
def TierTextsCardSaid : Prop := Claim7.holds Tryz.pinned (.plain (OpenSpec.ofChange tierTextsSpec)) tierTextsCard

/-- THE TIED CARD OF 'exlaw6.MoneyParts'. -/
def moneyPartsCard : Claim7 := { stood := { row := moneyPartsRow, standIns := [], harness := (true, "28554b9f3989e2db8fa1771ac0fb98591bb5e59e9bb6d0cd84bb7b93f36108c9"), looks := true }, kinds := [], alts := [], laidByText := true, laidKinds := [.data, .data, .data, .sentinel, .sentinel], laidTests := true, laidLooks := .later }
def MoneyPartsCardSaid : Prop := Claim7.holds Tryz.pinned (.plain (OpenSpec.ofChange moneyPartsSpec)) moneyPartsCard

/-- THE TIED CARD OF 'exlaw6.MoneyTexts'. -/
def moneyTextsCard : Claim7 := { stood := { row := moneyTextsRow, standIns := [], harness := (true, "28554b9f3989e2db8fa1771ac0fb98591bb5e59e9bb6d0cd84bb7b93f36108c9"), looks := true }, kinds := [], alts := [], laidByText := true, laidKinds := [.data, .data, .data, .sentinel, .sentinel], laidTests := true, laidLooks := .later }
def MoneyTextsCardSaid : Prop := Claim7.holds Tryz.pinned (.plain (OpenSpec.ofChange moneyTextsSpec)) moneyTextsCard

/-- THE TIED CARD OF 'exlaw6.MoneyRatios'. -/
def moneyRatiosCard : Claim7 := { stood := { row := moneyRatiosRow, standIns := [], harness := (true, "28554b9f3989e2db8fa1771ac0fb98591bb5e59e9bb6d0cd84bb7b93f36108c9"), looks := true }, kinds := [], alts := [], laidByText := true, laidKinds := [.data, .data, .data, .sentinel, .sentinel], laidTests := true, laidLooks := .later }
def MoneyRatiosCardSaid : Prop := Claim7.holds Tryz.pinned (.plain (OpenSpec.ofChange moneyRatiosSpec)) moneyRatiosCard

/-- THE TIED CARD OF 'exlaw6.MoneyWhole'. -/
def moneyWholeCard : Claim7 := { stood := { row := moneyWholeRow, standIns := [], harness := (true, "28554b9f3989e2db8fa1771ac0fb98591bb5e59e9bb6d0cd84bb7b93f36108c9"), looks := true }, kinds := [], alts := [], laidByText := true, laidKinds := [.data, .data, .data, .sentinel, .sentinel], laidTests := true, laidLooks := .later }
def MoneyWholeCardSaid : Prop := Claim7.holds Tryz.pinned (.plain (OpenSpec.ofChange moneyWholeSpec)) moneyWholeCard

/-- THE TIED CARD OF 'exlaw6.MoneyOrder'. -/
def moneyOrderCard : Claim7 := { stood := { row := moneyOrderRow, standIns := [], harness := (true, "28554b9f3989e2db8fa1771ac0fb98591bb5e59e9bb6d0cd84bb7b93f36108c9"), looks := true }, kinds := [], alts := [], laidByText := true, laidKinds := [.data, .data, .data, .sentinel, .sentinel], laidTests := true, laidLooks := .later }
def MoneyOrderCardSaid : Prop := Claim7.holds Tryz.pinned (.plain (OpenSpec.ofChange moneyOrderSpec)) moneyOrderCard

/-- THE TIED CARD OF 'exlaw6.MoneyBack'. -/
def moneyBackCard : Claim7 := { stood := { row := moneyBackRow, standIns := [], harness := (true, "28554b9f3989e2db8fa1771ac0fb98591bb5e59e9bb6d0cd84bb7b93f36108c9"), looks := true }, kinds := [], alts := [], laidByText := true, laidKinds := [.data, .data, .data, .sentinel, .sentinel], laidTests := true, laidLooks := .later }
def MoneyBackCardSaid : Prop := Claim7.holds Tryz.pinned (.plain (OpenSpec.ofChange moneyBackSpec)) moneyBackCard

/-- THE TIED CARD OF 'exlaw6.MoneySums'. -/
def moneySumsCard : Claim7 := { stood := { row := moneySumsRow, standIns := [], harness := (true, "28554b9f3989e2db8fa1771ac0fb98591bb5e59e9bb6d0cd84bb7b93f36108c9"), looks := true }, kinds := [], alts := [], laidByText := true, laidKinds := [.data, .data, .data, .sentinel, .sentinel], laidTests := true, laidLooks := .later }
def MoneySumsCardSaid : Prop := Claim7.holds Tryz.pinned (.plain (OpenSpec.ofChange moneySumsSpec)) moneySumsCard

/-- THE SECOND FORM's CARD OF 'exlaw14.TierTexts'. -/
def tierTextsUptoCard : Claim7 := { stood := { row := tierTextsUptoRow, standIns := [], harness := (true, "28554b9f3989e2db8fa1771ac0fb98591bb5e59e9bb6d0cd84bb7b93f36108c9"), looks := true }, kinds := [], alts := [], laidByText := true, laidKinds := [.data, .data, .data, .data, .sentinel, .sentinel, .pinned], laidTests := true, laidLooks := .later }
def TierTextsUptoCardSaid : Prop := Claim7.holds Tryz.pinned (.plain (OpenSpec.upto tierTextsSpec)) tierTextsUptoCard

/-- THE SECOND FORM's CARD OF 'exlaw6.MoneyParts'. -/
def moneyPartsUptoCard : Claim7 := { stood := { row := moneyPartsUptoRow, standIns := [], harness := (true, "28554b9f3989e2db8fa1771ac0fb98591bb5e59e9bb6d0cd84bb7b93f36108c9"), looks := true }, kinds := [], alts := [], laidByText := true, laidKinds := [.data, .data, .data, .sentinel, .sentinel], laidTests := true, laidLooks := .later }
def MoneyPartsUptoCardSaid : Prop := Claim7.holds Tryz.pinned (.plain (OpenSpec.upto moneyPartsSpec)) moneyPartsUptoCard

/-- THE SECOND FORM's CARD OF 'exlaw6.MoneyTexts'. -/
def moneyTextsUptoCard : Claim7 := { stood := { row := moneyTextsUptoRow, standIns := [], harness := (true, "28554b9f3989e2db8fa1771ac0fb98591bb5e59e9bb6d0cd84bb7b93f36108c9"), looks := true }, kinds := [], alts := [], laidByText := true, laidKinds := [.data, .data, .data, .sentinel, .sentinel], laidTests := true, laidLooks := .later }
def MoneyTextsUptoCardSaid : Prop := Claim7.holds Tryz.pinned (.plain (OpenSpec.upto moneyTextsSpec)) moneyTextsUptoCard

/-- THE SECOND FORM's CARD OF 'exlaw6.MoneyRatios'. -/
def moneyRatiosUptoCard : Claim7 := { stood := { row := moneyRatiosUptoRow, standIns := [], harness := (true, "28554b9f3989e2db8fa1771ac0fb98591bb5e59e9bb6d0cd84bb7b93f36108c9"), looks := true }, kinds := [], alts := [], laidByText := true, laidKinds := [.data, .data, .data, .sentinel, .sentinel], laidTests := true, laidLooks := .later }
def MoneyRatiosUptoCardSaid : Prop := Claim7.holds Tryz.pinned (.plain (OpenSpec.upto moneyRatiosSpec)) moneyRatiosUptoCard

/-- THE SECOND FORM's CARD OF 'exlaw6.MoneyWhole'. -/
def moneyWholeUptoCard : Claim7 := { stood := { row := moneyWholeUptoRow, standIns := [], harness := (true, "28554b9f3989e2db8fa1771ac0fb98591bb5e59e9bb6d0cd84bb7b93f36108c9"), looks := true }, kinds := [], alts := [], laidByText := true, laidKinds := [.data, .data, .data, .sentinel, .sentinel], laidTests := true, laidLooks := .later }
def MoneyWholeUptoCardSaid : Prop := Claim7.holds Tryz.pinned (.plain (OpenSpec.upto moneyWholeSpec)) moneyWholeUptoCard

/-- THE SECOND FORM's CARD OF 'exlaw6.MoneyOrder'. -/
def moneyOrderUptoCard : Claim7 := { stood := { row := moneyOrderUptoRow, standIns := [], harness := (true, "28554b9f3989e2db8fa1771ac0fb98591bb5e59e9bb6d0cd84bb7b93f36108c9"), looks := true }, kinds := [], alts := [], laidByText := true, laidKinds := [.data, .data, .data, .sentinel, .sentinel], laidTests := true, laidLooks := .later }
def MoneyOrderUptoCardSaid : Prop := Claim7.holds Tryz.pinned (.plain (OpenSpec.upto moneyOrderSpec)) moneyOrderUptoCard

/-- THE SECOND FORM's CARD OF 'exlaw6.MoneyBack'. -/
def moneyBackUptoCard : Claim7 := { stood := { row := moneyBackUptoRow, standIns := [], harness := (true, "28554b9f3989e2db8fa1771ac0fb98591bb5e59e9bb6d0cd84bb7b93f36108c9"), looks := true }, kinds := [], alts := [], laidByText := true, laidKinds := [.data, .data, .data, .sentinel, .sentinel], laidTests := true, laidLooks := .later }
def MoneyBackUptoCardSaid : Prop := Claim7.holds Tryz.pinned (.plain (OpenSpec.upto moneyBackSpec)) moneyBackUptoCard

/-- THE SECOND FORM's CARD OF 'exlaw6.MoneySums'. -/
def moneySumsUptoCard : Claim7 := { stood := { row := moneySumsUptoRow, standIns := [], harness := (true, "28554b9f3989e2db8fa1771ac0fb98591bb5e59e9bb6d0cd84bb7b93f36108c9"), looks := true }, kinds := [], alts := [], laidByText := true, laidKinds := [.data, .data, .data, .sentinel, .sentinel], laidTests := true, laidLooks := .later }
def MoneySumsUptoCardSaid : Prop := Claim7.holds Tryz.pinned (.plain (OpenSpec.upto moneySumsSpec)) moneySumsUptoCard
end Rows
end Go.Proofs.YtdpoahfjiomhbaaGreatDoor
