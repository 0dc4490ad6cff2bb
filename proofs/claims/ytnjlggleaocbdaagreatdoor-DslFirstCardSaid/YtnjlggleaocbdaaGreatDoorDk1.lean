/-
  Expressions in memory. (Printed by tools/mkdr.py.)
-/
import Derived.Test.YtnjlggleaocbdaaGreatDoorDr3
namespace Go.Proofs.YtnjlggleaocbdaaGreatDoor
set_option linter.all false
open Go.RowKit Go.Shelf
attribute [local go_sem] cell_set_self lt_1 lt_2 lt_3 lt_4 lt_5 lt_6 fld_k fld_s fld_n fld_p

def exprC (op n : Int) (s : List UInt8) (A : Option Addr) (m c : Nat) : List Value := [.int .i64 op, .int .i64 n, .string ⟨s.toArray⟩, .slice A m c]
mutual
/-- An expression whose cells are cs, its arguments in blocks of P. -/
def EV (P : Nat → Prop) (w : World) : ExprT → List Value → Prop
  | .mk op n s args, cs => ∃ A c, cs = exprC op n s A args.length c ∧ (args.length ≤ c ∧ args.length ≤ 1000000000000000) ∧ (A = none → c = 0) ∧ EVL P w A 0 args
def EVL (P : Nat → Prop) (w : World) (A : Option Addr) : Nat → List ExprT → Prop
  | _, [] => True
  | i, x :: l => (∃ b off cs, A = some ⟨b, off, none⟩ ∧ P b ∧ b < w.heap.size ∧ (∀ j v, cs[j]? = some v → w.cell? ⟨b, off + i * 4 + j, none⟩ = some v) ∧ EV P w x cs) ∧ EVL P w A (i + 1) l
end
theorem EVL.at {P : Nat → Prop} {w : World} {A : Option Addr} : ∀ {l : List ExprT} {i : Nat}, EVL P w A i l → ∀ {k : Nat} {x : ExprT}, l[k]? = some x → ∃ b off cs, A = some ⟨b, off, none⟩ ∧ P b ∧ b < w.heap.size ∧ (∀ j v, cs[j]? = some v → w.cell? ⟨b, off + (i + k) * 4 + j, none⟩ = some v) ∧ EV P w x cs
  | [], i, h, k, x, hk => by simp at hk
  | y :: l, i, h, 0, x, hk => by
    simp at hk; subst hk
    unfold EVL at h
    exact h.1
  | y :: l, i, h, k + 1, x, hk => by
    unfold EVL at h
    have := EVL.at h.2 (k := k) (x := x) (by simpa using hk)
    rw [show i + 1 + k = i + (k + 1) by omega] at this
    exact this
theorem EVL.mk {P : Nat → Prop} {w : World} {A : Option Addr} : ∀ {l : List ExprT} {i : Nat}, (∀ (k : Nat) (x : ExprT), l[k]? = some x → ∃ b off cs, A = some ⟨b, off, none⟩ ∧ P b ∧ b < w.heap.size ∧ (∀ j v, cs[j]? = some v → w.cell? ⟨b, off + (i + k) * 4 + j, none⟩ = some v) ∧ EV P w x cs) → EVL P w A i l
  | [], i, h => by unfold EVL; trivial
  | y :: l, i, h => by
    unfold EVL
    refine ⟨h 0 y rfl, EVL.mk fun k x hk => ?_⟩
    have := h (k + 1) x (by simpa using hk)
    rw [show i + (k + 1) = i + 1 + k by omega] at this
    exact this
/-- What lies in P stays: so do expressions. -/
structure Kp (P : Nat → Prop) (w W : World) : Prop where
  size : w.heap.size ≤ W.heap.size
  block : ∀ k, P k → k < w.heap.size → W.heap[k]? = w.heap[k]?
theorem Kp.cell {P : Nat → Prop} {b o : Nat} {w W : World} {v : Value} (h : Kp P w W) (hB : P b) (hb : b < w.heap.size) (hc : w.cell? ⟨b, o, none⟩ = some v) : W.cell? ⟨b, o, none⟩ = some v := by
  rw [← hc]; simp only [World.cell?, h.block b hB hb]
mutual
theorem EV.keep {P : Nat → Prop} {w W : World} (hk : Kp P w W) : ∀ {t : ExprT} {cs : List Value}, EV P w t cs → EV P W t cs
  | .mk op n s args, cs, h => by
    unfold EV at h ⊢
    obtain ⟨A, c, h1, h2, h3, h4⟩ := h
    exact ⟨A, c, h1, h2, h3, EVL.keep hk h4⟩
theorem EVL.keep {P : Nat → Prop} {w W : World} {A : Option Addr} (hk : Kp P w W) : ∀ {l : List ExprT} {i : Nat}, EVL P w A i l → EVL P W A i l
  | [], i, h => by unfold EVL; trivial
  | x :: l, i, h => by
    unfold EVL at h ⊢
    obtain ⟨⟨b, off, cs, h1, h2, h3, h4, h5⟩, h6⟩ := h
    exact ⟨⟨b, off, cs, h1, h2, Nat.lt_of_lt_of_le h3 hk.size, fun j v hj => hk.cell h2 h3 (h4 j v hj), EV.keep hk h5⟩, EVL.keep hk h6⟩
end
mutual
theorem EV.mono {P P' : Nat → Prop} {w : World} (hP : ∀ b, b < w.heap.size → P b → P' b) : ∀ {t : ExprT} {cs : List Value}, EV P w t cs → EV P' w t cs
  | .mk op n s args, cs, h => by
    unfold EV at h ⊢
    obtain ⟨A, c, h1, h2, h3, h4⟩ := h
    exact ⟨A, c, h1, h2, h3, EVL.mono hP h4⟩
theorem EVL.mono {P P' : Nat → Prop} {w : World} {A : Option Addr} (hP : ∀ b, b < w.heap.size → P b → P' b) : ∀ {l : List ExprT} {i : Nat}, EVL P w A i l → EVL P' w A i l
  | [], i, h => by unfold EVL; trivial
  | x :: l, i, h => by
    unfold EVL at h ⊢
    obtain ⟨⟨b, off, cs, h1, h2, h3, h4, h5⟩, h6⟩ := h
    exact ⟨⟨b, off, cs, h1, hP _ h3 h2, h3, h4, EV.mono hP h5⟩, EVL.mono hP h6⟩
end
theorem Kp.below {P : Nat → Prop} {w W : World} (h : Below w.heap.size w W) : Kp P w W := ⟨h.size, fun k _ hk => h.block k hk⟩
theorem Kp.gr {P : Nat → Prop} {rb : Nat} {w W : World} (h : Gr w.heap.size rb w W) (hr : ¬ P rb) : Kp P w W := ⟨h.size, fun k hP hk => h.block k hk (fun e => hr (e ▸ hP))⟩
theorem Kp.set {P : Nat → Prop} {w W : World} (h : Kp P w W) {p : Addr} (hp : ¬ P p.block) (v : Value) : Kp P w (W.setCell p v) := by
  refine ⟨by simpa using h.size, fun k hP hk => ?_⟩
  rw [← h.block k hP hk]
  simp only [World.setCell, Array.getElem?_modify]
  rw [if_neg (by rintro rfl; exact hp hP)]
theorem Kp.alloc {P : Nat → Prop} {w W : World} (h : Kp P w W) (o : Obj) : Kp P w (W.alloc o) := by
  have e := (Below.refl W.heap.size W).alloc (Nat.le_refl _) o
  exact ⟨Nat.le_trans h.size e.size, fun k hP hk => (e.block k (Nat.lt_of_lt_of_le hk h.size)).trans (h.block k hP hk)⟩
theorem Kp.refl (P : Nat → Prop) (w : World) : Kp P w w := ⟨Nat.le_refl _, fun _ _ _ => rfl⟩
theorem Kp.drew {P : Nat → Prop} {w W : World} (h : Kp P w W) : Kp P w W.drew := ⟨h.size, h.block⟩
theorem Kp.trans {P : Nat → Prop} {a b c : World} (h : Kp P a b) (k : Kp P b c) : Kp P a c := ⟨Nat.le_trans h.size k.size, fun i hP hi => (k.block i hP (Nat.lt_of_lt_of_le hi h.size)).trans (h.block i hP hi)⟩
theorem EV.len {P : Nat → Prop} {w : World} {t : ExprT} {cs : List Value} (h : EV P w t cs) : cs.length = 4 := by
  cases t with
  | mk op n s args =>
    unfold EV at h
    obtain ⟨A, c, h1, -⟩ := h
    rw [h1]; rfl
/-- Two arguments in a new block. -/
theorem EVL.two {P : Nat → Prop} {b : Nat} {w : World} {x y : ExprT} {cx cy : List Value} (hB : P b) (hb : w.heap[b]? = some (.cells (cx ++ cy).toArray 24 (0, 0))) (hx : EV P w x cx) (hy : EV P w y cy) : EVL P w (some ⟨b, 0, none⟩) 0 [x, y] := by
  have hlt := (Array.getElem?_eq_some_iff.1 hb).1
  have hc : ∀ j v, (cx ++ cy)[j]? = some v → w.cell? ⟨b, j, none⟩ = some v := fun j v h => by simp [World.cell?, hb, h]
  have lx := hx.len
  refine EVL.mk fun k z hk => ?_
  match k, hk with
  | 0, hk =>
    simp at hk; subst hk
    refine ⟨b, 0, cx, rfl, hB, hlt, fun j v hj => ?_, hx⟩
    rw [show 0 + (0 + 0) * 4 + j = j by omega]
    exact hc j v (by rw [List.getElem?_append_left (List.getElem?_eq_some_iff.1 hj).1]; exact hj)
  | 1, hk =>
    simp at hk; subst hk
    refine ⟨b, 0, cy, rfl, hB, hlt, fun j v hj => ?_, hy⟩
    rw [show 0 + (0 + 1) * 4 + j = 4 + j by omega]
    exact hc _ v (by rw [List.getElem?_append_right (by omega), lx, Nat.add_sub_cancel_left]; exact hj)
theorem EVL.one {P : Nat → Prop} {b : Nat} {w : World} {x : ExprT} {cx : List Value} (hB : P b) (hb : w.heap[b]? = some (.cells cx.toArray 24 (0, 0))) (hx : EV P w x cx) : EVL P w (some ⟨b, 0, none⟩) 0 [x] := by
  have hlt := (Array.getElem?_eq_some_iff.1 hb).1
  have hc : ∀ j v, cx[j]? = some v → w.cell? ⟨b, j, none⟩ = some v := fun j v h => by simp [World.cell?, hb, h]
  refine EVL.mk fun k z hk => ?_
  match k, hk with
  | 0, hk =>
    simp at hk; subst hk
    exact ⟨b, 0, cx, rfl, hB, hlt, fun j v hj => by rw [show 0 + (0 + 0) * 4 + j = j by omega]; exact hc j v hj, hx⟩
end Go.Proofs.YtnjlggleaocbdaaGreatDoor
