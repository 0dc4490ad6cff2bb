/-
  Boxes that hold an amount; the statement's two helpers.
-/
import Derived.Test.YtdpoahfjiomhbaaGreatDoorXs1
import Derived.Test.YtdpoahfjiomhbaaGreatDoorMb2
import Derived.Test.YtdpoahfjiomhbaaGreatDoorMf1
namespace Go.Proofs.YtdpoahfjiomhbaaGreatDoor
set_option linter.all false
open Go.RowKit Go.Sort
attribute [local go_sem] cell_set_self lt_1 lt_2 lt_3 lt_4 lt_5 lt_6

theorem Tryz.infoAmt6 : (Tryz.prog.info? 49).map (fun i => (i.zero, i.size, i.bytes)) = some (some (.agg #[.int .i64 0, .string ⟨#[]⟩]), 2, 24) := by kernel_rfl
/-- A box that holds an amount. -/
def Bx (w : World) (b : Nat) (x : Int) (X : ByteArray) : Prop := b < w.heap.size ∧ w.cell? ⟨b, 0, none⟩ = some (.int .i64 x) ∧ w.cell? ⟨b, 1, none⟩ = some (.string X)
theorem Bx.below {w W : World} {b : Nat} {x : Int} {X : ByteArray} (h : Bx w b x X) (hb : Below w.heap.size w W) : Bx W b x X :=
  ⟨Nat.lt_of_lt_of_le h.1 hb.size, (hb.cell (p := ⟨b, 0, none⟩) h.1).trans h.2.1, (hb.cell (p := ⟨b, 1, none⟩) h.1).trans h.2.2⟩
theorem am_own6 {w : World} {base t : Nat} {A : Option Addr} {n c : Nat} {l : List (Int × List UInt8)} (hl : l.length = n) (h : w.ownsRow base t 2 (.slice A n c) n (cellsAm l)) : Am w A l := fun i t hi => by
  have hn : 0 < n := by have := (List.getElem?_eq_some_iff.1 hi).1; omega
  obtain ⟨g, cap, hv, _, hlt⟩ := h.form hn
  have hA : A = some ⟨g, 0, none⟩ := by injection hv
  subst hA
  obtain ⟨h1, h2⟩ := cellsAm_at hi
  have hc := h.cells (g := g) rfl
  refine ⟨g, 0, rfl, hlt, ?_, ?_⟩
  · have := hc _ _ h1; rw [addr0] at this; simpa using this
  · have := hc _ _ h2; rw [addr0] at this; simpa [Nat.add_assoc] using this
theorem curW (c : List UInt8) : (200 < c.length ∧ (200 : Int) < ((⟨c.toArray⟩ : ByteArray).size : Int)) ∨ (c.length ≤ 200 ∧ ¬ (200 : Int) < ((⟨c.toArray⟩ : ByteArray).size : Int)) := by
  rw [ba_szP]; omega
set_option maxHeartbeats 1000000 in
theorem amount6_any (x : Int) (X : ByteArray) (w : World) : Calls Tryz.prog 21 #[.agg #[.int .i64 x, .string X]] w fun e w' => e = .returned (.agg #[.int .i64 x, .string X]) ∧ Below w.heap.size w w' := by
  go_enter Tryz.func21, Tryz.ntmps21
  go_wp2
  exact bodyPost_ret (v := .agg #[.int .i64 x, .string X]) (by simp [results, Tryz.results21, go_sem, *]) rfl ⟨rfl, (by repeat (first | exact Below.refl _ _ | refine Below.setCell ?_ (by first | (simp; done) | (simp; omega) | omega) _ | refine Below.alloc ?_ (by first | (simp; done) | (simp; omega) | omega) _ | refine Below.drew ?_ | assumption | refine Below.trans ?_ (Below.mono (by assumption) (by first | (simp; done) | (simp; omega) | omega))))⟩
set_option maxHeartbeats 1000000 in
theorem same6_any (x : Int) (X : ByteArray) (w : World) : Calls Tryz.prog 23 #[.agg #[.int .i64 x, .string X], .agg #[.int .i64 x, .string X]] w fun e w' => e = .returned (.bool true) ∧ Below w.heap.size w w' := by
  go_enter Tryz.func23, Tryz.ntmps23
  go_wp2
  go_ret
  exact ⟨rfl, (by repeat (first | exact Below.refl _ _ | refine Below.setCell ?_ (by first | (simp; done) | (simp; omega) | omega) _ | refine Below.alloc ?_ (by first | (simp; done) | (simp; omega) | omega) _ | refine Below.drew ?_ | assumption | refine Below.trans ?_ (Below.mono (by assumption) (by first | (simp; done) | (simp; omega) | omega))))⟩
end Go.Proofs.YtdpoahfjiomhbaaGreatDoor
