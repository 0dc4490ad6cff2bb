/-
  Words for the walks over package http and its statements.
-/
import Derived.Test.YtnjlggleaocbdaaGreatDoorProg
import Derived.Test.YtnjlggleaocbdaaGreatDoorShelf
import Derived.WalkKit
import Derived.WalkSpells
import Derived.WalkLawsBesides
import Derived.Lib.Hide
import Derived.IntWalk
import Derived.Deep.QuietTactic
import Derived.BigQuiet
import Derived.BigRegion
import Derived.Deep.RegionHeld3
import Derived.Deep.AppendLies
import Derived.Deep.CutBlock
import Derived.Deep.DeepFit
import Derived.Laws.IdiomStrings
import Derived.Laws.Concat
import Derived.Laws.DeepStrings4
import Derived.Laws.AppendOwnNone
import Derived.Lib.QuietBelow
import Derived.Shelf.Vars
namespace Go.Proofs.YtnjlggleaocbdaaGreatDoor
set_option linter.all false
open Go.RowKit

def In64 (z : Int) : Prop := -9223372036854775808 ≤ z ∧ z < 9223372036854775808
theorem bcell {W w1 : World} (hb : Below W.heap.size W w1) : (∀ b o, b < W.heap.size → w1.cell? ⟨b, o, none⟩ = W.cell? ⟨b, o, none⟩) ∧ (∀ b o, b < W.heap.size → w1.frozen? ⟨b, o, none⟩ = W.frozen? ⟨b, o, none⟩) :=
  ⟨fun b o h => hb.cell (p := ⟨b, o, none⟩) h, fun b o h => hb.frozen (p := ⟨b, o, none⟩) h⟩
theorem cell_set_self (w : World) (b o : Nat) (v : Value) : (w.setCell ⟨b, o, none⟩ v).cell? ⟨b, o, none⟩ = (w.cell? ⟨b, o, none⟩).map fun _ => v := by
  simp only [World.setCell, World.cell?, Array.getElem?_modify]
  rcases h : w.heap[b]? with _ | x
  · simp
  · cases x <;> simp
    rename_i c t f
    by_cases ho : o < c.size
    · simp [ho]
    · simp [ho]
theorem lt_1 (n : Nat) : (n < n + 1) = True := by simp
theorem lt_2 (n : Nat) : (n < n + 1 + 1) = True := by simp; omega
theorem lt_3 (n : Nat) : (n < n + 1 + 1 + 1) = True := by simp; omega
theorem lt_4 (n : Nat) : (n < n + 1 + 1 + 1 + 1) = True := by simp; omega
theorem lt_5 (n : Nat) : (n < n + 1 + 1 + 1 + 1 + 1) = True := by simp; omega
theorem lt_6 (n : Nat) : (n < n + 1 + 1 + 1 + 1 + 1 + 1) = True := by simp; omega
attribute [local go_sem] cell_set_self lt_1 lt_2 lt_3 lt_4 lt_5 lt_6
theorem drew_size (w : World) : w.drew.heap.size = w.heap.size := rfl
theorem drew_cell (w : World) (a : Addr) : w.drew.cell? a = w.cell? a := rfl
theorem drew_frozen (w : World) (a : Addr) : w.drew.frozen? a = w.frozen? a := rfl
theorem below_drewN {B : Nat} {a w : World} (h : Below B a w) (n : Nat) : Below B a (w.drewN n) := h.trans ⟨rfl, rfl, rfl, Nat.le_refl _, fun _ _ => rfl⟩
theorem alloc_drewN (w : World) (n : Nat) (o : Obj) : (w.drewN n).alloc o = (w.alloc o).drewN n := rfl
theorem calls_abs {P : Program} {f : Nat} {args : Array Value} {e0 : Ending} {w W : World} (hb : Below w.heap.size w W) (h : Calls P f args W fun e w' => e = e0 ∧ Below W.heap.size W w') : Calls P f args W fun e w' => e = e0 ∧ Below w.heap.size w w' :=
  h.mono fun _ _ ⟨he, h2⟩ => ⟨he, hb.trans (h2.mono hb.size)⟩
theorem ret_int {k : IntKind} {a b : Int} (h : a = b) : Ending.returned (.int k a) = .returned (.int k b) := by rw [h]
theorem ret_bool {a b : Bool} (h : a = b) : Ending.returned (.bool a) = .returned (.bool b) := by rw [h]
theorem ret_str {a b : ByteArray} (h : a = b) : Ending.returned (.string a) = .returned (.string b) := by rw [h]
theorem addr0 (g n : Nat) : ({ block := g, off := 0 } : Addr).add n = ⟨g, n, none⟩ := by unfold Addr.add; split <;> simp_all
theorem ba_sz (c : List UInt8) : (⟨c.toArray⟩ : ByteArray).size = c.length := by simp [ByteArray.size]
theorem app_str (a b : List UInt8) : (⟨a.toArray⟩ : ByteArray) ++ ⟨b.toArray⟩ = ⟨(a ++ b).toArray⟩ := by
  apply ByteArray.ext
  simp
theorem str_beq (c d : List UInt8) : ((⟨c.toArray⟩ : ByteArray).toList == (⟨d.toArray⟩ : ByteArray).toList) = decide (c = d) := by
  rw [ByteArray.toList_mk, ByteArray.toList_mk]; exact Bool.beq_eq_decide_eq c d
theorem str_beq2 (c d : List UInt8) : ((⟨c.toArray⟩ : ByteArray).toList == d) = decide (c = d) := by
  rw [ByteArray.toList_mk]; exact Bool.beq_eq_decide_eq c d
/-- exref.Num. -/
theorem num_any (e : Int) (w : World) : Calls Tryz.prog 10 #[.int .i64 e] w fun x w' => x = .returned (.int .i64 e) ∧ Below w.heap.size w w' := by
  go_enter Tryz.func10, Tryz.ntmps10
  go_wp2
  go_ret
  exact ⟨rfl, (by repeat (first | exact Below.refl _ _ | refine Below.setCell ?_ (by first | (simp; done) | (simp; omega) | omega) _ | refine Below.alloc ?_ (by first | (simp; done) | (simp; omega) | omega) _ | refine Below.drew ?_ | assumption | refine Below.trans ?_ (Below.mono (by assumption) (by first | (simp; done) | (simp; omega) | omega))))⟩
theorem own_below {w w' : World} {base size n : Nat} {e : TypeId} {v : Value} {xs : List Value} (h : w.ownsRow base e size v n xs) (hb : Below w.heap.size w w') : w'.ownsRow base e size v n xs := by
  refine h.kept (row := none) ⟨hb.os, hb.tape, hb.output, hb.size, fun i hi _ => hb.block i hi⟩ ?_
  cases hv : v.ownBlock with
  | none => exact .inl rfl
  | some x => exact .inr (by simp)
end Go.Proofs.YtnjlggleaocbdaaGreatDoor
