/-
  What stays but for one box. (Printed by tools/mkdr.py.)
-/
import Derived.Test.YtnjlggleaocbdaaGreatDoorDc1
namespace Go.Proofs.YtnjlggleaocbdaaGreatDoor
set_option linter.all false
open Go.RowKit Go.Shelf
attribute [local go_sem] cell_set_self lt_1 lt_2 lt_3 lt_4 lt_5 lt_6

/-- What was there stays, but for the reader rb. -/
structure Gr (B rb : Nat) (a w : World) : Prop where
  os : w.os = a.os
  tape : w.tape = a.tape
  output : w.output = a.output
  size : a.heap.size ≤ w.heap.size
  block : ∀ k, k < B → k ≠ rb → w.heap[k]? = a.heap[k]?
theorem Gr.refl (B rb : Nat) (w : World) : Gr B rb w w := ⟨rfl, rfl, rfl, Nat.le_refl _, fun _ _ _ => rfl⟩
theorem Gr.of_below {B rb : Nat} {a w : World} (h : Below B a w) : Gr B rb a w := ⟨h.os, h.tape, h.output, h.size, fun k hk _ => h.block k hk⟩
theorem Gr.trans {B B' rb : Nat} {a b c : World} (h : Gr B rb a b) (k : Gr B' rb b c) (hB : B ≤ B') : Gr B rb a c :=
  ⟨k.os.trans h.os, k.tape.trans h.tape, k.output.trans h.output, Nat.le_trans h.size k.size, fun i hi hr => (k.block i (by omega) hr).trans (h.block i hi hr)⟩
theorem Gr.below {B B' rb : Nat} {a b c : World} (h : Gr B rb a b) (k : Below B' b c) (hB : B ≤ B') : Gr B rb a c := h.trans (Gr.of_below k) hB
theorem Gr.alloc {B rb : Nat} {a w : World} (h : Gr B rb a w) (hB : B ≤ w.heap.size) (o : Obj) : Gr B rb a (w.alloc o) := h.below ((Below.refl _ _).alloc (Nat.le_refl _) o) hB
theorem Gr.drew {B rb : Nat} {a w : World} (h : Gr B rb a w) : Gr B rb a w.drew := ⟨h.os, h.tape, h.output, h.size, h.block⟩
theorem Gr.setCell {B rb : Nat} {a w : World} (h : Gr B rb a w) {p : Addr} (hp : B ≤ p.block ∨ p.block = rb) (v : Value) : Gr B rb a (w.setCell p v) := by
  refine ⟨h.os, h.tape, h.output, by simpa using h.size, fun k hk hr => ?_⟩
  have : (w.setCell p v).heap[k]? = w.heap[k]? := by
    simp only [World.setCell, Array.getElem?_modify]
    rw [if_neg (by rintro rfl; omega)]
  rw [this]; exact h.block k hk hr
theorem gcell {rb : Nat} {W w1 : World} (hb : Gr W.heap.size rb W w1) : (∀ b o, b < W.heap.size → ¬ b = rb → w1.cell? ⟨b, o, none⟩ = W.cell? ⟨b, o, none⟩) ∧ (∀ b o, b < W.heap.size → ¬ b = rb → w1.frozen? ⟨b, o, none⟩ = W.frozen? ⟨b, o, none⟩) :=
  ⟨fun b o h1 h2 => by simp only [World.cell?, hb.block b h1 h2], fun b o h1 h2 => by simp only [World.frozen?, hb.block b h1 h2]⟩
end Go.Proofs.YtnjlggleaocbdaaGreatDoor
