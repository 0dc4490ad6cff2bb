/-
  What Allocate's first loop keeps: three rows of its own, a cell that holds the third.
-/
import Derived.Test.YtdpoahfjiomhbaaGreatDoorMq2
import Derived.Test.YtdpoahfjiomhbaaGreatDoorMq4
import Derived.Test.YtdpoahfjiomhbaaGreatDoorPw3
import Derived.Laws.OwnMore
namespace Go.Proofs.YtdpoahfjiomhbaaGreatDoor
set_option linter.all false
open Go.RowKit Go.Sort
attribute [local go_sem] cell_set_self lt_1 lt_2 lt_3 lt_4 lt_5 lt_6

theorem Tryz.infoAmt : (Tryz.prog.info? 41).map (fun i => (i.zero, i.size, i.bytes)) = some (some (.agg #[.int .i64 0, .string ⟨#[]⟩]), 2, 24) := by kernel_rfl
theorem own_types {W : World} {b1 b2 s1 s2 n1 n2 : Nat} {e1 e2 : TypeId} {v1 v2 : Value} {x1 x2 : List Value} (h1 : W.ownsRow b1 e1 s1 v1 n1 x1) (h2 : W.ownsRow b2 e2 s2 v2 n2 x2) (ne : e1 ≠ e2) : v1.ownBlock = none ∨ v1.ownBlock ≠ v2.ownBlock := by
  rcases h1.2 with ⟨rfl, _⟩ | ⟨g, cap, cur, rfl, _, hg, _⟩
  · exact .inl rfl
  · right
    rcases h2.2 with ⟨rfl, _⟩ | ⟨g', cap', cur', rfl, _, hg', _⟩
    · simp [Value.ownBlock]
    · intro e
      simp only [Value.ownBlock, Option.some.injEq] at e
      subst e
      rw [hg] at hg'
      injection hg' with hg'
      injection hg' with _ h _
      exact ne h
/-- The rows out (vO), order (vR), lost (vL), the cell bL that holds vC; below bL all is as in wA. -/
def ASt (wA W : World) (bL : Nat) (vO vR vL vC : Value) (kO kR kL : Nat) (xO xR xL : List Value) : Prop :=
  (Below bL wA W ∧ bL < W.heap.size) ∧ W.ownsRow (bL + 1) 41 2 vO kO xO ∧ W.ownsRow (bL + 1) 3 1 vR kR xR ∧ W.ownsRow (bL + 1) 3 1 vL kL xL ∧ (∀ a, vR.ownBlock = some a → vL.ownBlock ≠ some a) ∧ W.cell? ⟨bL, 0, none⟩ = some vC ∧ W.frozen? ⟨bL, 0, none⟩ = false
section
variable {wA W W' : World} {bL kO kR kL : Nat} {vO vR vL vC : Value} {xO xR xL : List Value}
theorem ASt.below (h : ASt wA W bL vO vR vL vC kO kR kL xO xR xL) (hb : Below W.heap.size W W') : ASt wA W' bL vO vR vL vC kO kR kL xO xR xL := by
  obtain ⟨⟨h1, h1'⟩, h2, h3, h4, h5, h6, h7⟩ := h
  refine ⟨⟨h1.trans (hb.mono (by omega)), Nat.lt_of_lt_of_le h1' hb.size⟩, own_below h2 hb, own_below h3 hb, own_below h4 hb, h5, ?_, ?_⟩
  · rw [hb.cell (p := ⟨bL, 0, none⟩) h1']; exact h6
  · rw [← h7]; exact World.frozen?_of_block (hb.block bL h1')
theorem ASt.lt (h : ASt wA W bL vO vR vL vC kO kR kL xO xR xL) : bL < W.heap.size := h.1.2
theorem ASt.cell (h : ASt wA W bL vO vR vL vC kO kR kL xO xR xL) : W.cell? ⟨bL, 0, none⟩ = some vC := h.2.2.2.2.2.1
theorem ASt.froz (h : ASt wA W bL vO vR vL vC kO kR kL xO xR xL) : W.frozen? ⟨bL, 0, none⟩ = false := h.2.2.2.2.2.2
theorem ASt.bel (h : ASt wA W bL vO vR vL vC kO kR kL xO xR xL) : Below bL wA W := h.1.1
theorem grown_bL {row : Option Nat} (h1 : bL < W.heap.size) (hg : W.grownBy W' row) (hr : ∀ k, row = some k → bL + 1 ≤ k ∧ k < W.heap.size) (c : Value) (h6 : W.cell? ⟨bL, 0, none⟩ = some c) (h7 : W.frozen? ⟨bL, 0, none⟩ = false) : W'.cell? ⟨bL, 0, none⟩ = some c ∧ W'.frozen? ⟨bL, 0, none⟩ = false := by
  have ne : some bL ≠ row := fun e => by have := hr bL e.symm; omega
  exact ⟨by rw [← h6]; exact World.cell?_of_block (hg.block bL h1 ne), by rw [← h7]; exact World.frozen?_of_block (hg.block bL h1 ne)⟩
theorem ASt.appO {vO' : Value} {kO' : Nat} {xO' : List Value} (h : ASt wA W bL vO vR vL vC kO kR kL xO xR xL) (hown : W'.ownsRow (bL + 1) 41 2 vO' kO' xO') (hg : W.grownBy W' vO.ownBlock) : ASt wA W' bL vO' vR vL vC kO' kR kL xO' xR xL := by
  obtain ⟨⟨h1, h1'⟩, h2, h3, h4, h5, h6, h7⟩ := h
  obtain ⟨c, f⟩ := grown_bL h1' hg h2.lt vC h6 h7
  refine ⟨⟨h1.grown hg (by omega) (fun k hk => by have := h2.lt k hk; omega), Nat.lt_of_lt_of_le h1' hg.size⟩, hown, h3.kept hg (own_types h3 h2 (by decide)), h4.kept hg (own_types h4 h2 (by decide)), h5, c, f⟩
theorem ASt.appR {vR' : Value} {kR' g : Nat} {xR' : List Value} (h : ASt wA W bL vO vR vL vC kO kR kL xO xR xL) (hown : W'.ownsRow (bL + 1) 3 1 vR' kR' xR') (hg : W.grownBy W' vR.ownBlock) (hv : vR'.ownBlock = some g) (hat : vR.ownBlock = some g ∨ g = W.heap.size) : ASt wA W' bL vO vR' vL vC kO kR' kL xO xR' xL := by
  obtain ⟨⟨h1, h1'⟩, h2, h3, h4, h5, h6, h7⟩ := h
  obtain ⟨c, f⟩ := grown_bL h1' hg h3.lt vC h6 h7
  have d : vL.ownBlock = none ∨ vL.ownBlock ≠ vR.ownBlock := by
    cases hL : vL.ownBlock with
    | none => exact .inl rfl
    | some a => exact .inr fun e => h5 a e.symm hL
  refine ⟨⟨h1.grown hg (by omega) (fun k hk => by have := h3.lt k hk; omega), Nat.lt_of_lt_of_le h1' hg.size⟩, h2.kept hg (own_types h2 h3 (by decide)), hown, h4.kept hg d, ?_, c, f⟩
  intro a ha
  rw [hv] at ha
  obtain rfl : g = a := Option.some.inj ha
  rcases hat with k | k
  · exact h5 g k
  · intro e; have := h4.lt g e; omega
theorem ASt.appL {vL' : Value} {kL' g : Nat} {xL' : List Value} (h : ASt wA W bL vO vR vL vC kO kR kL xO xR xL) (hown : W'.ownsRow (bL + 1) 3 1 vL' kL' xL') (hg : W.grownBy W' vL.ownBlock) (hv : vL'.ownBlock = some g) (hat : vL.ownBlock = some g ∨ g = W.heap.size) : ASt wA W' bL vO vR vL' vC kO kR kL' xO xR xL' := by
  obtain ⟨⟨h1, h1'⟩, h2, h3, h4, h5, h6, h7⟩ := h
  obtain ⟨c, f⟩ := grown_bL h1' hg h4.lt vC h6 h7
  have d : vR.ownBlock = none ∨ vR.ownBlock ≠ vL.ownBlock := by
    cases hR : vR.ownBlock with
    | none => exact .inl rfl
    | some a => exact .inr fun e => h5 a hR e.symm
  refine ⟨⟨h1.grown hg (by omega) (fun k hk => by have := h4.lt k hk; omega), Nat.lt_of_lt_of_le h1' hg.size⟩, h2.kept hg (own_types h2 h4 (by decide)), h3.kept hg d, hown, ?_, c, f⟩
  intro a ha e
  rw [hv] at e
  obtain rfl : g = a := Option.some.inj e
  rcases hat with k | k
  · exact h5 g ha k
  · have := h3.lt g ha; omega
theorem ASt.store (h : ASt wA W bL vO vR vL vC kO kR kL xO xR xL) (u : Value) : ASt wA (W.setCell ⟨bL, 0, none⟩ u) bL vO vR vL u kO kR kL xO xR xL := by
  obtain ⟨⟨h1, h1'⟩, h2, h3, h4, h5, h6, h7⟩ := h
  refine ⟨⟨h1.setCell (Nat.le_refl _) _, by simpa using h1'⟩, ownsRow_setCell_below h2 (by simp) _, ownsRow_setCell_below h3 (by simp) _, ownsRow_setCell_below h4 (by simp) _, h5, ?_, ?_⟩
  · simp [go_sem, h6]
  · simpa [go_sem] using h7
end
/-- The amounts of a row, as memory has them. -/
def cellsM (cl : ByteArray) (l : List Int) : List Value := l.flatMap fun x => [.int .i64 x, .string cl]
theorem cellsM_app (cl : ByteArray) (a : List Int) (x : Int) : cellsM cl (a ++ [x]) = cellsM cl a ++ [.int .i64 x, .string cl] := by simp [cellsM]
theorem cellsM_at {cl : ByteArray} : ∀ {l : List Int} {i : Nat} {x : Int}, l[i]? = some x → (cellsM cl l)[i * 2]? = some (.int .i64 x) ∧ (cellsM cl l)[i * 2 + 1]? = some (.string cl)
  | [], i, x, h => by simp at h
  | y :: l, 0, x, h => by simp at h; subst h; simp [cellsM]
  | y :: l, i + 1, x, h => by
    have ih := cellsM_at (cl := cl) (l := l) (i := i) (x := x) (by simpa using h)
    have e : cellsM cl (y :: l) = .int .i64 y :: .string cl :: cellsM cl l := rfl
    rw [e, show (i + 1) * 2 = i * 2 + 1 + 1 by omega]
    exact ih
def Amts (w : World) (g : Nat) (cl : ByteArray) (l : List Int) : Prop := g < w.heap.size ∧ ∀ i x, l[i]? = some x → w.cell? ⟨g, i * 2, none⟩ = some (.int .i64 x) ∧ w.cell? ⟨g, i * 2 + 1, none⟩ = some (.string cl)
theorem Amts.below {w W : World} {g : Nat} {cl : ByteArray} {l : List Int} (h : Amts w g cl l) (hb : Below w.heap.size w W) : Amts W g cl l :=
  ⟨Nat.lt_of_lt_of_le h.1 hb.size, fun i x hi => ⟨(hb.cell (p := ⟨g, i * 2, none⟩) h.1).trans (h.2 i x hi).1, (hb.cell (p := ⟨g, i * 2 + 1, none⟩) h.1).trans (h.2 i x hi).2⟩⟩
theorem amts_own {w : World} {base g cap n : Nat} {cl : ByteArray} {l : List Int} (h : w.ownsRow base 41 2 (.slice (some ⟨g, 0, none⟩) n cap) n (cellsM cl l)) : Amts w g cl l ∧ (∀ j, w.frozen? ⟨g, j, none⟩ = false) ∧ base ≤ g := by
  have hl := h.lt g rfl
  refine ⟨⟨hl.2, fun i x hi => ?_⟩, fun j => h.frozenAt j, hl.1⟩
  obtain ⟨h1, h2⟩ := cellsM_at (cl := cl) hi
  have hc := h.cells (g := g) rfl
  exact ⟨by have := hc _ _ h1; rw [addr0] at this; simpa using this, by have := hc _ _ h2; rw [addr0] at this; simpa using this⟩
theorem Amts.set {w : World} {g : Nat} {cl : ByteArray} {l : List Int} (h : Amts w g cl l) {i : Nat} {x : Int} (y : Int) (hi : l[i]? = some x) : Amts (w.setCell ⟨g, i * 2, none⟩ (.int .i64 y)) g cl (l.set i y) := by
  refine ⟨by simpa using h.1, fun j z hj => ?_⟩
  have hc := (h.2 i x hi).1
  by_cases hij : i = j
  · subst hij
    have hlt := (List.getElem?_eq_some_iff.1 hi).1
    rw [List.getElem?_set_self hlt] at hj
    obtain rfl := Option.some.inj hj
    refine ⟨by simp [go_sem, hc], ?_⟩
    have := (h.2 i x hi).2
    simp [go_sem, this]
  · rw [List.getElem?_set_ne hij] at hj
    obtain ⟨a, b⟩ := h.2 j z hj
    have n1 : ¬ j * 2 = i * 2 := by omega
    have n2 : ¬ j * 2 + 1 = i * 2 := by omega
    exact ⟨by simp [go_sem, a, n1], by simp [go_sem, b, n2]⟩
end Go.Proofs.YtdpoahfjiomhbaaGreatDoor
