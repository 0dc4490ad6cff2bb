/-
  Rows of conditions under construction; the law's cond: a condition made anew.
-/
import Derived.Test.YtijlifdbjhieaaaGreatDoorSm2
import Derived.Test.YtijlifdbjhieaaaGreatDoorQz
namespace Go.Proofs.YtijlifdbjhieaaaGreatDoor
set_option linter.all false
open Go.RowKit Go.Shelf Go.Sort
attribute [local go_sem] cell_set_self lt_1 lt_2 lt_3 lt_4 lt_5 lt_6

/-- A row of conditions that is being made, its block and theirs from bs on. -/
def RowC (bs : Nat) (W : World) (l : List CondT) (V : Value) : Prop :=
  ∃ css : List (List Value), css.length = l.length ∧ W.ownsRow bs 45 10 V l.length css.flatten ∧ ∀ (i : Nat) (x : CondT) (cs : List Value), l[i]? = some x → css[i]? = some cs → CV (fun b => bs ≤ b ∧ V.ownBlock ≠ some b) W x cs
theorem RowC.nil (bs : Nat) (W : World) : RowC bs W [] (.slice none 0 0) := ⟨[], rfl, World.ownsRow_nil _ _ _ _, fun i x cs h => by simp at h⟩
theorem RowC.form {bs : Nat} {W : World} {l : List CondT} {V : Value} (h : RowC bs W l V) : ∃ A c, V = .slice A l.length c := by
  obtain ⟨css, -, ho, -⟩ := h
  exact own_form ho
theorem RowC.below {bs : Nat} {W W' : World} {l : List CondT} {V : Value} (h : RowC bs W l V) (hb : Below W.heap.size W W') : RowC bs W' l V := by
  obtain ⟨css, h1, ho, hc⟩ := h
  exact ⟨css, h1, own_below ho hb, fun i x cs hi hj => (hc i x cs hi hj).keep (Kp.below hb)⟩
theorem RowC.set {bs : Nat} {W : World} {l : List CondT} {V : Value} (h : RowC bs W l V) {b : Nat} (hb : b < bs) (o : Nat) (v : Value) : RowC bs (W.setCell ⟨b, o, none⟩ v) l V := by
  obtain ⟨css, h1, ho, hc⟩ := h
  exact ⟨css, h1, own_set ho hb o v, fun i x cs hi hj => (hc i x cs hi hj).keep (Kp.set (Kp.refl _ _) (by dsimp only; omega) v)⟩
theorem drew_blk (W : World) (k : Nat) : W.drew.heap[k]? = W.heap[k]? := rfl
theorem flat10 : ∀ (css : List (List Value)), (∀ (i : Nat) (c : List Value), css[i]? = some c → c.length = 10) → ∀ (k : Nat) (cs : List Value), css[k]? = some cs → ∀ (j : Nat) (v : Value), cs[j]? = some v → css.flatten[k * 10 + j]? = some v
  | [], _, k, cs, h, _, _, _ => by simp at h
  | c :: r, h, 0, cs, hc, j, v, hj => by
    simp at hc; subst hc
    rw [List.flatten_cons, Nat.zero_mul, Nat.zero_add, List.getElem?_append_left (List.getElem?_eq_some_iff.1 hj).1]
    exact hj
  | c :: r, h, k + 1, cs, hc, j, v, hj => by
    have h0 := h 0 c rfl
    rw [List.flatten_cons, List.getElem?_append_right (by omega), h0, show (k + 1) * 10 + j - 10 = k * 10 + j by omega]
    exact flat10 r (fun i c hi => h (i + 1) c (by simpa using hi)) k cs (by simpa using hc) j v hj
/-- The row, done: a condition's arguments. -/
theorem RowC.args {bs : Nat} {W : World} {l : List CondT} {V : Value} (h : RowC bs W l V) : ∃ A c, V = .slice A l.length c ∧ l.length ≤ c ∧ (A = none → c = 0) ∧ CVL (fun b => bs ≤ b) W A 0 l := by
  obtain ⟨css, h1, ho, hc⟩ := h
  rcases ho.2 with ⟨rfl, h0⟩ | ⟨g, cap, cur, rfl, hg, hh, hn, hm, hz, ht⟩
  · have : l = [] := List.eq_nil_of_length_eq_zero h0
    subst this
    exact ⟨none, 0, rfl, Nat.le_refl _, fun _ => rfl, by unfold CVL; trivial⟩
  · have hlt := (Array.getElem?_eq_some_iff.1 hh).1
    refine ⟨some ⟨g, 0, none⟩, cap, rfl, hn, fun e => (by cases e), CVL.mk fun k x hk => ?_⟩
    have hkl := (List.getElem?_eq_some_iff.1 hk).1
    obtain ⟨cs, hcs⟩ : ∃ cs, css[k]? = some cs := ⟨_, List.getElem?_eq_getElem (by omega)⟩
    have hv := hc k x cs hk hcs
    refine ⟨g, 0, cs, rfl, hg, hlt, fun j v hj => ?_, hv.mono fun b _ hP => hP.1⟩
    have all10 : ∀ (i : Nat) (c : List Value), css[i]? = some c → c.length = 10 := fun i c hi => by
      have := (List.getElem?_eq_some_iff.1 hi).1
      obtain ⟨y, hy⟩ : ∃ y, l[i]? = some y := ⟨_, List.getElem?_eq_getElem (by omega)⟩
      exact (hc i y c hy hi).len
    have hj10 : j < 10 := by have := (List.getElem?_eq_some_iff.1 hj).1; rw [hv.len] at this; exact this
    have hf : css.flatten[k * 10 + j]? = some v := flat10 css all10 k cs hcs j v hj
    have hi2 : k * 10 + j < l.length * 10 := by omega
    rw [← ht, List.getElem?_take, if_pos hi2] at hf
    simp only [World.cell?, hh, Nat.zero_add]
    simpa using hf
end Go.Proofs.YtijlifdbjhieaaaGreatDoor
