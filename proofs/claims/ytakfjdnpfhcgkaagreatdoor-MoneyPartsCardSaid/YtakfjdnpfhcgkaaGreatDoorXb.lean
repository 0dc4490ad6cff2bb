/-
  Boxes that hold an amount; the statement's two helpers.
-/
import Derived.Test.YtakfjdnpfhcgkaaGreatDoorXs1
import Derived.Test.YtakfjdnpfhcgkaaGreatDoorMb2
import Derived.Test.YtakfjdnpfhcgkaaGreatDoorMf1
namespace Go.Proofs.YtakfjdnpfhcgkaaGreatDoor
set_option linter.all false
open Go.RowKit Go.Sort
attribute [local go_sem] cell_set_self lt_1 lt_2 lt_3 lt_4 lt_5 lt_6

/-- A box that holds an amount. -/
def Bx (w : World) (b : Nat) (x : Int) (X : ByteArray) : Prop := b < w.heap.size ∧ w.cell? ⟨b, 0, none⟩ = some (.int .i64 x) ∧ w.cell? ⟨b, 1, none⟩ = some (.string X)
theorem Bx.below {w W : World} {b : Nat} {x : Int} {X : ByteArray} (h : Bx w b x X) (hb : Below w.heap.size w W) : Bx W b x X :=
  ⟨Nat.lt_of_lt_of_le h.1 hb.size, (hb.cell (p := ⟨b, 0, none⟩) h.1).trans h.2.1, (hb.cell (p := ⟨b, 1, none⟩) h.1).trans h.2.2⟩
set_option maxHeartbeats 1000000 in
theorem amount6_any (x : Int) (X : ByteArray) (w : World) : Calls Tryz.prog 7 #[.agg #[.int .i64 x, .string X]] w fun e w' => e = .returned (.agg #[.int .i64 x, .string X]) ∧ Below w.heap.size w w' := by
  go_enter Tryz.func7, Tryz.ntmps7
  go_wp2
  exact bodyPost_ret (v := .agg #[.int .i64 x, .string X]) (by simp [results, Tryz.results7, go_sem, *]) rfl ⟨rfl, (by repeat (first | exact Below.refl _ _ | refine Below.setCell ?_ (by first | (simp; done) | (simp; omega) | omega) _ | refine Below.alloc ?_ (by first | (simp; done) | (simp; omega) | omega) _ | refine Below.drew ?_ | assumption | refine Below.trans ?_ (Below.mono (by assumption) (by first | (simp; done) | (simp; omega) | omega))))⟩
set_option maxHeartbeats 1000000 in
theorem same6_any (x : Int) (X : ByteArray) (w : World) : Calls Tryz.prog 10 #[.agg #[.int .i64 x, .string X], .agg #[.int .i64 x, .string X]] w fun e w' => e = .returned (.bool true) ∧ Below w.heap.size w w' := by
  go_enter Tryz.func10, Tryz.ntmps10
  go_wp2
  go_ret
  exact ⟨rfl, (by repeat (first | exact Below.refl _ _ | refine Below.setCell ?_ (by first | (simp; done) | (simp; omega) | omega) _ | refine Below.alloc ?_ (by first | (simp; done) | (simp; omega) | omega) _ | refine Below.drew ?_ | assumption | refine Below.trans ?_ (Below.mono (by assumption) (by first | (simp; done) | (simp; omega) | omega))))⟩
end Go.Proofs.YtakfjdnpfhcgkaaGreatDoor
