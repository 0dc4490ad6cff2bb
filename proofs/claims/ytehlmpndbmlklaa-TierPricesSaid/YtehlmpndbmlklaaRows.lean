/-
  No cell of these rows narrows 'for every input' (looked for: loops, veiled, ifaces, maps, wideKeys, modest, calm, conditions, laid).
  DERIVED. THE GIVEN ROWS OF THIS SEAT. 5 by the template 'for every input the law returns true; each argument reads behind the call as it read before'; 0 by the template 'total and deterministic' (their statements: YtehlmpndbmlklaaTotals.lean).
  GIVEN WITH THE SEED: the statements are not yours to turn. If you find one false, say at which input.
  Laid BY PROGRAM, IN A SANDBOX (cutbox-rows.mjs): the forced cells as the released guide's own fill.sh prints them over the translation 0bec4cc3d878ccde… (all of the seat's roots in one cut). By AI agents, Wed Nov 11 2026. No macro, syntax, notation, axiom, sorry.
-/
import Derived.Test.YtehlmpndbmlklaaChecked
import GoSem.Claim
import GoSem.ClaimJoined
import GoSem.ClaimMapViews
import Derived.JoinedTies
import Derived.KernelRfl
namespace Go.Proofs.Ytehlmpndbmlklaa
/- THE CELL 'sum', in the pinned program and in every row, IS THE sha256 OF THE DUMP (.gsa) THAT YtehlmpndbmlklaaProg.lean LOADS. Nothing in Lean hashes anything: it is a label: what it is worth is what the hold of that sum in a sandbox is worth. -/
noncomputable def Try.pinned : Pinned := { name := "ytehlmpndbmlklaa", sum := "0bec4cc3d878ccdea0e851fe7f50d9ade78b59578ee0bf28e2de0eeeeafeacaa", checked := Try.checked }
namespace Rows
def none {H : Type} : Left H := { results := [], args := [] }

/-- 'exlaw14.TierRises': WHATEVER THE INPUT: true; the input reads as it did. -/
def tierRisesSpec : ChangeSpec := { name := "tierRises", fn := fun _ => fun
  | [d1, d2, d3] => { results := [.lit (.bool true)], args := [d1, d2, d3] }
  | _ => none }
def tierRisesRow : OpenClaim := { program := "ytehlmpndbmlklaa", sum := "0bec4cc3d878ccdea0e851fe7f50d9ade78b59578ee0bf28e2de0eeeeafeacaa", func := "exchequer/exlaw14.TierRises", spec := "tierRises", inPlace := ["math/bits.Sub64", "math/bits.Add64"], unfollowed := true, recurses := true, named := ["math/bits.divideError", "math/bits.overflowError"], apart := false }
def TierRisesSaid : Prop := tierRisesRow.holds Try.pinned (OpenSpec.ofChange tierRisesSpec)

/-- ITS FALSE NEIGHBOUR: 'it returns false'. Refute it at one input. -/
def tierRisesWrong : ChangeSpec := { name := "tierRises", fn := fun _ => fun
  | [d1, d2, d3] => { results := [.lit (.bool false)], args := [d1, d2, d3] }
  | _ => none }
def TierRisesWrongFalsely : Prop := tierRisesRow.holds Try.pinned (OpenSpec.ofChange tierRisesWrong)

/-- 'exlaw14.TierParts': WHATEVER THE INPUT: true; the input reads as it did. -/
def tierPartsSpec : ChangeSpec := { name := "tierParts", fn := fun _ => fun
  | [d1, d2] => { results := [.lit (.bool true)], args := [d1, d2] }
  | _ => none }
def tierPartsRow : OpenClaim := { program := "ytehlmpndbmlklaa", sum := "0bec4cc3d878ccdea0e851fe7f50d9ade78b59578ee0bf28e2de0eeeeafeacaa", func := "exchequer/exlaw14.TierParts", spec := "tierParts", inPlace := ["math/bits.Sub64", "math/bits.Add64"], unfollowed := true, recurses := true, named := ["math/bits.divideError", "math/bits.overflowError"], apart := false }
def TierPartsSaid : Prop := tierPartsRow.holds Try.pinned (OpenSpec.ofChange tierPartsSpec)

/-- ITS FALSE NEIGHBOUR: 'it returns false'. Refute it at one input. -/
def tierPartsWrong : ChangeSpec := { name := "tierParts", fn := fun _ => fun
  | [d1, d2] => { results := [.lit (.bool false)], args := [d1, d2] }
  | _ => none }
def TierPartsWrongFalsely : Prop := tierPartsRow.holds Try.pinned (OpenSpec.ofChange tierPartsWrong)

/-- 'exlaw14.TierSplits': WHATEVER THE INPUT: true; the input reads as it did. -/
def tierSplitsSpec : ChangeSpec := { name := "tierSplits", fn := fun _ => fun
  | [d1, d2, d3, d4] => { results := [.lit (.bool true)], args := [d1, d2, d3, d4] }
  | _ => none }
def tierSplitsRow : OpenClaim := { program := "ytehlmpndbmlklaa", sum := "0bec4cc3d878ccdea0e851fe7f50d9ade78b59578ee0bf28e2de0eeeeafeacaa", func := "exchequer/exlaw14.TierSplits", spec := "tierSplits", inPlace := ["math/bits.Sub64", "math/bits.Add64"], unfollowed := true, recurses := true, named := ["math/bits.divideError", "math/bits.overflowError"], apart := false }
def TierSplitsSaid : Prop := tierSplitsRow.holds Try.pinned (OpenSpec.ofChange tierSplitsSpec)

/-- ITS FALSE NEIGHBOUR: 'it returns false'. Refute it at one input. -/
def tierSplitsWrong : ChangeSpec := { name := "tierSplits", fn := fun _ => fun
  | [d1, d2, d3, d4] => { results := [.lit (.bool false)], args := [d1, d2, d3, d4] }
  | _ => none }
def TierSplitsWrongFalsely : Prop := tierSplitsRow.holds Try.pinned (OpenSpec.ofChange tierSplitsWrong)

/-- 'exlaw14.TierPrices': WHATEVER THE INPUT: true; the input reads as it did. -/
def tierPricesSpec : ChangeSpec := { name := "tierPrices", fn := fun _ => fun
  | [d1, d2, d3, d4, d5, d6] => { results := [.lit (.bool true)], args := [d1, d2, d3, d4, d5, d6] }
  | _ => none }
def tierPricesRow : OpenClaim := { program := "ytehlmpndbmlklaa", sum := "0bec4cc3d878ccdea0e851fe7f50d9ade78b59578ee0bf28e2de0eeeeafeacaa", func := "exchequer/exlaw14.TierPrices", spec := "tierPrices", inPlace := ["math/bits.Sub64", "math/bits.Add64"], unfollowed := true, recurses := true, named := ["math/bits.divideError", "math/bits.overflowError"], apart := false }
def TierPricesSaid : Prop := tierPricesRow.holds Try.pinned (OpenSpec.ofChange tierPricesSpec)

/-- ITS FALSE NEIGHBOUR: 'it returns false'. Refute it at one input. -/
def tierPricesWrong : ChangeSpec := { name := "tierPrices", fn := fun _ => fun
  | [d1, d2, d3, d4, d5, d6] => { results := [.lit (.bool false)], args := [d1, d2, d3, d4, d5, d6] }
  | _ => none }
def TierPricesWrongFalsely : Prop := tierPricesRow.holds Try.pinned (OpenSpec.ofChange tierPricesWrong)

/-- 'exlaw14.TierPercents': WHATEVER THE INPUT: true; the input reads as it did. -/
def tierPercentsSpec : ChangeSpec := { name := "tierPercents", fn := fun _ => fun
  | [d1, d2, d3] => { results := [.lit (.bool true)], args := [d1, d2, d3] }
  | _ => none }
def tierPercentsRow : OpenClaim := { program := "ytehlmpndbmlklaa", sum := "0bec4cc3d878ccdea0e851fe7f50d9ade78b59578ee0bf28e2de0eeeeafeacaa", func := "exchequer/exlaw14.TierPercents", spec := "tierPercents", inPlace := ["math/bits.Sub64", "math/bits.Add64"], unfollowed := true, recurses := true, named := ["math/bits.divideError", "math/bits.overflowError"], apart := false }
def TierPercentsSaid : Prop := tierPercentsRow.holds Try.pinned (OpenSpec.ofChange tierPercentsSpec)

/-- ITS FALSE NEIGHBOUR: 'it returns false'. Refute it at one input. -/
def tierPercentsWrong : ChangeSpec := { name := "tierPercents", fn := fun _ => fun
  | [d1, d2, d3] => { results := [.lit (.bool false)], args := [d1, d2, d3] }
  | _ => none }
def TierPercentsWrongFalsely : Prop := tierPercentsRow.holds Try.pinned (OpenSpec.ofChange tierPercentsWrong)

/- THE SECOND FORM. 'bulk': how many values and letters a reading holds, each counted each time it is reached (what is shared counts as often as it is met; a slice's spare places count too). A statement '..UptoSaid' is the law's where the arguments, and the package variables that the reading takes, are together of bulk at most 1048576: NARROWER than '..Said'. Prove '..Said' where nothing that the law and all that it calls make is longer than what came in: it says more and counts as full. Else prove '..UptoSaid'. A law counts once. -/
mutual
def uptoBulk {H : Type} : DataW H → Nat
  | .lit (.string bytes) => bytes.length + 1
  | .lit _ => 1
  | .nil => 1
  | .ptr d => uptoBulk d + 1
  | .slice elems spare => uptoBulkAll elems + uptoBulkAll spare + 1
  | .agg parts => uptoBulkAll parts + 1
  | .iface _ d => uptoBulk d + 1
  | .map entries => uptoBulkEntries entries + 1
  | .held _ => 1
def uptoBulkAll {H : Type} : List (DataW H) → Nat
  | [] => 0
  | d :: r => uptoBulk d + uptoBulkAll r
def uptoBulkEntries {H : Type} : List (Lit × DataW H) → Nat
  | [] => 0
  | x :: r => uptoBulkEntry x + uptoBulkEntries r
def uptoBulkEntry {H : Type} : Lit × DataW H → Nat
  | (.string bytes, d) => bytes.length + uptoBulk d + 1
  | (_, d) => uptoBulk d + 1
 end
def uptoSmall : (H : Type) → List (DataW H) → Bool := fun _ ds => decide (uptoBulkAll ds ≤ 1048576)
def OpenSpec.upto (s : _root_.Go.ChangeSpec) : _root_.Go.OpenSpec := { _root_.Go.OpenSpec.ofChange s with cond := some uptoSmall }

/-- 'exlaw14.TierRises', WHERE WHAT IT READS IS OF BULK AT MOST 1048576: true; the input reads as it did. -/
def tierRisesUptoRow : OpenClaim := { program := "ytehlmpndbmlklaa", sum := "0bec4cc3d878ccdea0e851fe7f50d9ade78b59578ee0bf28e2de0eeeeafeacaa", func := "exchequer/exlaw14.TierRises", spec := "tierRises", inPlace := ["math/bits.Sub64", "math/bits.Add64"], unfollowed := true, recurses := true, named := ["math/bits.divideError", "math/bits.overflowError"], apart := false, narrowed := true }
def TierRisesUptoSaid : Prop := tierRisesUptoRow.holds Try.pinned (OpenSpec.upto tierRisesSpec)

/-- 'exlaw14.TierParts', WHERE WHAT IT READS IS OF BULK AT MOST 1048576: true; the input reads as it did. -/
def tierPartsUptoRow : OpenClaim := { program := "ytehlmpndbmlklaa", sum := "0bec4cc3d878ccdea0e851fe7f50d9ade78b59578ee0bf28e2de0eeeeafeacaa", func := "exchequer/exlaw14.TierParts", spec := "tierParts", inPlace := ["math/bits.Sub64", "math/bits.Add64"], unfollowed := true, recurses := true, named := ["math/bits.divideError", "math/bits.overflowError"], apart := false, narrowed := true }
def TierPartsUptoSaid : Prop := tierPartsUptoRow.holds Try.pinned (OpenSpec.upto tierPartsSpec)

/-- 'exlaw14.TierSplits', WHERE WHAT IT READS IS OF BULK AT MOST 1048576: true; the input reads as it did. -/
def tierSplitsUptoRow : OpenClaim := { program := "ytehlmpndbmlklaa", sum := "0bec4cc3d878ccdea0e851fe7f50d9ade78b59578ee0bf28e2de0eeeeafeacaa", func := "exchequer/exlaw14.TierSplits", spec := "tierSplits", inPlace := ["math/bits.Sub64", "math/bits.Add64"], unfollowed := true, recurses := true, named := ["math/bits.divideError", "math/bits.overflowError"], apart := false, narrowed := true }
def TierSplitsUptoSaid : Prop := tierSplitsUptoRow.holds Try.pinned (OpenSpec.upto tierSplitsSpec)

/-- 'exlaw14.TierPrices', WHERE WHAT IT READS IS OF BULK AT MOST 1048576: true; the input reads as it did. -/
def tierPricesUptoRow : OpenClaim := { program := "ytehlmpndbmlklaa", sum := "0bec4cc3d878ccdea0e851fe7f50d9ade78b59578ee0bf28e2de0eeeeafeacaa", func := "exchequer/exlaw14.TierPrices", spec := "tierPrices", inPlace := ["math/bits.Sub64", "math/bits.Add64"], unfollowed := true, recurses := true, named := ["math/bits.divideError", "math/bits.overflowError"], apart := false, narrowed := true }
def TierPricesUptoSaid : Prop := tierPricesUptoRow.holds Try.pinned (OpenSpec.upto tierPricesSpec)

/-- 'exlaw14.TierPercents', WHERE WHAT IT READS IS OF BULK AT MOST 1048576: true; the input reads as it did. -/
def tierPercentsUptoRow : OpenClaim := { program := "ytehlmpndbmlklaa", sum := "0bec4cc3d878ccdea0e851fe7f50d9ade78b59578ee0bf28e2de0eeeeafeacaa", func := "exchequer/exlaw14.TierPercents", spec := "tierPercents", inPlace := ["math/bits.Sub64", "math/bits.Add64"], unfollowed := true, recurses := true, named := ["math/bits.divideError", "math/bits.overflowError"], apart := false, narrowed := true }
def TierPercentsUptoSaid : Prop := tierPercentsUptoRow.holds Try.pinned (OpenSpec.upto tierPercentsSpec)

end Rows
end Go.Proofs.Ytehlmpndbmlklaa
