/-
  DERIVED. GIVEN WITH THE SEED: THE CARDS: each row of YtnjlggleaocbdaaGreatDoorRows.lean that lists a variable, with what it lists TIED to the program's text (the seventh form; the later family's looks); each row that meets fmt, with fmt's text TOLD by the authors' own Lean function (tested against real Go, not proved from fmt's source: count such statements apart). THE CARD IS WHAT COUNTS. Prove the row's statement (the work); the ties are given (YtnjlggleaocbdaaGreatDoorTie.lean); close each card by the builder's one call (the guide's Derived/Test/ToyasCard.lean, 'card_holds'). Laid BY PROGRAM, IN A SANDBOX (cutbox-door.mjs). By AI agents, Wed Nov 11 2026. No macro, syntax, notation, axiom, sorry.
-/
import Derived.Test.YtnjlggleaocbdaaGreatDoorRows
import GoSem.ClaimSeven
namespace Go.Proofs.YtnjlggleaocbdaaGreatDoor
namespace Rows

/-- THE TIED CARD OF 'exlaw9.DslBlanks'. -/
def dslBlanksCard : Claim7 := { stood := { row := dslBlanksRow, standIns := [], harness := (true, "4736db48f8bf67104b81eb6cf0e6330c31a445ff1634e074c63b09c8c2eba7d9"), looks := true }, kinds := [], alts := [], laidByText := true, laidKinds := [.data, .data, .data, .data, .sentinel, .sentinel, .pinned], laidTests := true, laidLooks := .later }
def DslBlanksCardSaid : Prop := Claim7.holds Tryz.pinned (.plain (OpenSpec.ofChange dslBlanksSpec)) dslBlanksCard

/-- THE TIED CARD OF 'exlaw9.DslFirst'. -/
def dslFirstCard : Claim7 := { stood := { row := dslFirstRow, standIns := [], harness := (true, "4736db48f8bf67104b81eb6cf0e6330c31a445ff1634e074c63b09c8c2eba7d9"), looks := true }, kinds := [], alts := [], laidByText := true, laidKinds := [.data, .data, .data, .data, .sentinel, .sentinel, .pinned], laidTests := true, laidLooks := .later }
def DslFirstCardSaid : Prop := Claim7.holds Tryz.pinned (.plain (OpenSpec.ofChange dslFirstSpec)) dslFirstCard

/-- THE TIED CARD OF 'exlaw9.DslBack'. -/
def dslBackCard : Claim7 := { stood := { row := dslBackRow, standIns := [], harness := (true, "4736db48f8bf67104b81eb6cf0e6330c31a445ff1634e074c63b09c8c2eba7d9"), looks := true }, kinds := [], alts := [], laidByText := true, laidKinds := [.data, .data, .data, .data, .sentinel, .sentinel, .pinned], laidTests := true, laidLooks := .later }
def DslBackCardSaid : Prop := Claim7.holds Tryz.pinned (.plain (OpenSpec.ofChange dslBackSpec)) dslBackCard

/-- THE TIED CARD OF 'exlaw9.DslDepths'. -/
def dslDepthsCard : Claim7 := { stood := { row := dslDepthsRow, standIns := [], harness := (true, "4736db48f8bf67104b81eb6cf0e6330c31a445ff1634e074c63b09c8c2eba7d9"), looks := true }, kinds := [], alts := [], laidByText := true, laidKinds := [.data, .data, .data, .data, .sentinel, .sentinel, .pinned], laidTests := true, laidLooks := .later }
def DslDepthsCardSaid : Prop := Claim7.holds Tryz.pinned (.plain (OpenSpec.ofChange dslDepthsSpec)) dslDepthsCard

/-- THE SECOND FORM's CARD OF 'exlaw9.DslBlanks'. -/
def dslBlanksUptoCard : Claim7 := { stood := { row := dslBlanksUptoRow, standIns := [], harness := (true, "4736db48f8bf67104b81eb6cf0e6330c31a445ff1634e074c63b09c8c2eba7d9"), looks := true }, kinds := [], alts := [], laidByText := true, laidKinds := [.data, .data, .data, .data, .sentinel, .sentinel, .pinned], laidTests := true, laidLooks := .later }
def DslBlanksUptoCardSaid : Prop := Claim7.holds Tryz.pinned (.plain (OpenSpec.upto dslBlanksSpec)) dslBlanksUptoCard

/-- THE SECOND FORM's CARD OF 'exlaw9.DslFirst'. -/
def dslFirstUptoCard : Claim7 := { stood := { row := dslFirstUptoRow, standIns := [], harness := (true, "4736db48f8bf67104b81eb6cf0e6330c31a445ff1634e074c63b09c8c2eba7d9"), looks := true }, kinds := [], alts := [], laidByText := true, laidKinds := [.data, .data, .data, .data, .sentinel, .sentinel, .pinned], laidTests := true, laidLooks := .later }
def DslFirstUptoCardSaid : Prop := Claim7.holds Tryz.pinned (.plain (OpenSpec.upto dslFirstSpec)) dslFirstUptoCard

/-- THE SECOND FORM's CARD OF 'exlaw9.DslBack'. -/
def dslBackUptoCard : Claim7 := { stood := { row := dslBackUptoRow, standIns := [], harness := (true, "4736db48f8bf67104b81eb6cf0e6330c31a445ff1634e074c63b09c8c2eba7d9"), looks := true }, kinds := [], alts := [], laidByText := true, laidKinds := [.data, .data, .data, .data, .sentinel, .sentinel, .pinned], laidTests := true, laidLooks := .later }
def DslBackUptoCardSaid : Prop := Claim7.holds Tryz.pinned (.plain (OpenSpec.upto dslBackSpec)) dslBackUptoCard

/-- THE SECOND FORM's CARD OF 'exlaw9.DslDepths'. -/
def dslDepthsUptoCard : Claim7 := { stood := { row := dslDepthsUptoRow, standIns := [], harness := (true, "4736db48f8bf67104b81eb6cf0e6330c31a445ff1634e074c63b09c8c2eba7d9"), looks := true }, kinds := [], alts := [], laidByText := true, laidKinds := [.data, .data, .data, .data, .sentinel, .sentinel, .pinned], laidTests := true, laidLooks := .later }
def DslDepthsUptoCardSaid : Prop := Claim7.holds Tryz.pinned (.plain (OpenSpec.upto dslDepthsSpec)) dslDepthsUptoCard
end Rows
end Go.Proofs.YtnjlggleaocbdaaGreatDoor
