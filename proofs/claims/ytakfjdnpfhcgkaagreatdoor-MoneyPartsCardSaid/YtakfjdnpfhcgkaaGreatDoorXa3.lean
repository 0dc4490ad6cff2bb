/-
  Plain laws of exref6.Allocate's choice: the best of those that have not had one; what its rows hold while the rest is handed out.
-/
import Derived.Test.YtakfjdnpfhcgkaaGreatDoorXa2
import Derived.Deep.OwnRows
namespace Go.Proofs.YtakfjdnpfhcgkaaGreatDoor
set_option linter.all false
open Go.RowKit Go.Sort

theorem grown_setA (w : World) (a : Addr) (u : Value) : w.grownBy (w.setCell a u) (some a.block) :=
  ⟨rfl, rfl, rfl, by simp, fun k _ hk => Below.heap_setCell _ _ _ k (fun e => hk (by rw [e]))⟩
/-- Had j one among the first e? -/
def goneB (f : Nat → Nat) (e j : Nat) : Bool := (List.range e).any (fun y => f y == j)
theorem goneB_iff {f : Nat → Nat} {e j : Nat} : goneB f e j = true ↔ ∃ y, y < e ∧ f y = j := by
  unfold goneB; simp [List.any_eq_true]
theorem goneB_zero (f : Nat → Nat) (j : Nat) : goneB f 0 j = false := rfl
theorem goneB_succ (f : Nat → Nat) (e j : Nat) : (if j = f e then true else goneB f e j) = goneB f (e + 1) j := by
  unfold goneB
  rw [List.range_succ, List.any_append]
  by_cases h : j = f e
  · rw [if_pos h]; simp [h]
  · rw [if_neg h]; have : (f e == j) = false := beq_eq_false_iff_ne.2 (fun k => h k.symm)
    simp [this]
def Elig (ws : List Int) (f : Nat → Nat) (e j : Nat) : Prop := 0 < ws.getD j 0 ∧ goneB f e j = false
/-- The best of the first i that may have one. -/
def BestR (key : Nat → Int) (ws : List Int) (f : Nat → Nat) (e i : Nat) (b : Int) : Prop :=
  (b = -1 ∧ ∀ j, j < i → ¬ Elig ws f e j) ∨ ∃ m : Nat, b = m ∧ m < i ∧ Elig ws f e m ∧ ∀ j, j < i → Elig ws f e j → j = m ∨ Lk key m j
section
variable {key : Nat → Int} {ws : List Int} {f : Nat → Nat} {e i n : Nat} {b : Int}
theorem BestR.start : BestR key ws f e 0 (-1) := .inl ⟨rfl, fun j h => by omega⟩
theorem BestR.skip (h : BestR key ws f e i b) (hn : ¬ Elig ws f e i) : BestR key ws f e (i + 1) b := by
  rcases h with ⟨h1, h2⟩ | ⟨m, h1, h2, h3, h4⟩
  · refine .inl ⟨h1, fun j hj => ?_⟩
    rcases Nat.lt_or_eq_of_le (show j ≤ i by omega) with k | k
    · exact h2 j k
    · subst k; exact hn
  · refine .inr ⟨m, h1, by omega, h3, fun j hj he => ?_⟩
    rcases Nat.lt_or_eq_of_le (show j ≤ i by omega) with k | k
    · exact h4 j k he
    · subst k; exact absurd he hn
theorem BestR.first (h : BestR key ws f e i (-1)) (he : Elig ws f e i) : BestR key ws f e (i + 1) (i : Int) := by
  rcases h with ⟨_, h2⟩ | ⟨m, h1, _⟩
  · refine .inr ⟨i, rfl, by omega, he, fun j hj hj2 => ?_⟩
    rcases Nat.lt_or_eq_of_le (show j ≤ i by omega) with k | k
    · exact absurd hj2 (h2 j k)
    · exact .inl k
  · omega
theorem BestR.new {m : Nat} (h : BestR key ws f e i (m : Int)) (he : Elig ws f e i) (hk : key m < key i) : BestR key ws f e (i + 1) (i : Int) := by
  rcases h with ⟨h1, _⟩ | ⟨m', h1, h2, h3, h4⟩
  · omega
  · obtain rfl : m = m' := by omega
    refine .inr ⟨i, rfl, by omega, he, fun j hj hj2 => ?_⟩
    rcases Nat.lt_or_eq_of_le (show j ≤ i by omega) with k | k
    · right
      rcases h4 j k hj2 with rfl | h5
      · exact .inl hk
      · unfold Lk at h5 ⊢; omega
    · exact .inl k
theorem BestR.old {m : Nat} (h : BestR key ws f e i (m : Int)) (hk : ¬ key m < key i) : BestR key ws f e (i + 1) (m : Int) := by
  rcases h with ⟨h1, _⟩ | ⟨m', h1, h2, h3, h4⟩
  · omega
  · obtain rfl : m = m' := by omega
    refine .inr ⟨m, rfl, by omega, h3, fun j hj hj2 => ?_⟩
    rcases Nat.lt_or_eq_of_le (show j ≤ i by omega) with k | k
    · exact h4 j k hj2
    · subst k; right; unfold Lk; omega
theorem BestR.at_m {m : Nat} (h : BestR key ws f e i (m : Int)) : m < i := by
  rcases h with ⟨h1, _⟩ | ⟨m', h1, h2, _⟩ <;> omega
theorem BestR.done (g : Good key f 0 n) (he : e < n) (hw : 0 < ws.getD (f e) 0) (h : BestR key ws f e n b) : b = (f e : Int) := by
  have hfe : f e < n := (g.2.1 e (by omega) he).2
  have el : Elig ws f e (f e) := ⟨hw, by
    cases hg : goneB f e (f e) with
    | false => rfl
    | true =>
      obtain ⟨y, hy, h2⟩ := goneB_iff.1 hg
      have := srt_inj g.1 (i := y) (j := e) (by omega) (by omega) h2
      omega⟩
  rcases h with ⟨_, h2⟩ | ⟨m, h1, h2, h3, h4⟩
  · exact absurd el (h2 _ hfe)
  · rw [h1]
    rcases h4 _ hfe el with k | k
    · rw [k]
    · exfalso
      obtain ⟨y, _, hy, hfy⟩ := g.2.2 m (by omega) h2
      have ye : e ≤ y := by
        rcases Nat.lt_or_ge y e with c | c
        · have := goneB_iff.2 ⟨y, c, hfy⟩
          rw [h3.2] at this; cases this
        · exact c
      rcases Nat.lt_or_eq_of_le ye with c | c
      · have := g.1 e y (by omega) c hy
        rw [hfy] at this
        unfold Lk at this k; omega
      · rw [← hfy, ← c] at k; exact k.irrefl
end
/-- A Big in a box, its digits behind base, in no cell of block g, all below top. -/
def BgP (base g : Nat) (w : World) (b : Nat) (z : Int) : Prop := ∃ s A n c, b < w.heap.size ∧ w.cell? ⟨b, 0, none⟩ = some (.bool s) ∧ w.cell? ⟨b, 1, none⟩ = some (.slice A n c) ∧ w.frozen? ⟨b, 0, none⟩ = false ∧ w.frozen? ⟨b, 1, none⟩ = false ∧ Pt base w s A n c z ∧ ∀ a, A = some a → 0 < n → a.block ≠ g
/-- The digits of a number lie from base on and below top. -/
def PtB (base top : Nat) (w : World) (s : Bool) (A : Option Addr) (n c : Nat) (z : Int) : Prop := Pt base w s A n c z ∧ ∀ a, A = some a → 0 < n → a.block < top
theorem PtB.pt {base top n c : Nat} {w : World} {s : Bool} {A : Option Addr} {z : Int} (h : PtB base top w s A n c z) : Pt base w s A n c z := h.1
theorem Pt.top {base n c : Nat} {w : World} {s : Bool} {A : Option Addr} {z : Int} (h : Pt base w s A n c z) : PtB base w.heap.size w s A n c z := ⟨h, fun a ha hn => h.lt ha hn⟩
theorem PtB.call {base top n c : Nat} {w w' : World} {s : Bool} {A : Option Addr} {z : Int} (h : PtB base top w s A n c z) (hb : Below w.heap.size w w') : PtB base top w' s A n c z := ⟨h.1.below hb, h.2⟩
theorem PtB.alloc {base top n c : Nat} {w : World} {s : Bool} {A : Option Addr} {z : Int} (h : PtB base top w s A n c z) (o : Obj) : PtB base top (w.alloc o) s A n c z := h.call (Below.alloc (Below.refl _ _) (Nat.le_refl _) _)
theorem PtB.drew {base top n c : Nat} {w : World} {s : Bool} {A : Option Addr} {z : Int} (h : PtB base top w s A n c z) : PtB base top w.drew s A n c z := h.call (Below.drew (Below.refl _ _))
theorem PtB.setCell {base top n c : Nat} {w : World} {s : Bool} {A : Option Addr} {z : Int} (h : PtB base top w s A n c z) {p : Addr} (u : Value) (hp : p.block < base ∨ top ≤ p.block) : PtB base top (w.setCell p u) s A n c z := by
  obtain ⟨⟨h1, h2, h3, h4⟩, h5⟩ := h
  refine ⟨⟨h1, h2, ⟨h3.1, h3.2.1, fun i v hi => ?_⟩, h4⟩, h5⟩
  obtain ⟨b, off, hA, hb, hc⟩ := h3.2.2 i v hi
  have hn : 0 < n := by rw [h2]; have := (List.getElem?_eq_some_iff.1 hi).1; omega
  have e1 := h4 _ hA
  have e2 := h5 _ hA hn
  exact ⟨b, off, hA, by simpa using hb, by rw [World.cell?_setCell_far w p _ u (fun e => by dsimp only at e e1 e2; omega)]; exact hc⟩
/-- A store elsewhere than in the rows and the digits. -/
theorem RSt.setCell {wA W : World} {vP vL : Value} {kP kL : Nat} {xP : List Value} {L : List (Option Addr × Nat × Nat)} {rs : List Int} (h : RSt wA W vP vL kP kL xP L rs) {p : Addr} (u : Value) (hA : wA.heap.size ≤ p.block) (hP : vP.ownBlock ≠ some p.block) (hL : vL.ownBlock ≠ some p.block)
    (hD : ∀ (j : Nat) (t : Option Addr × Nat × Nat), L[j]? = some t → ∀ a : Addr, t.1 = some a → 0 < t.2.1 → a.block ≠ p.block) : RSt wA (W.setCell p u) vP vL kP kL xP L rs := by
  obtain ⟨h1, h2, h3, h4, h5⟩ := h
  have g : W.grownBy (W.setCell p u) (some p.block) := grown_setA W p u
  have n1 : vP.ownBlock = none ∨ vP.ownBlock ≠ some p.block := .inr hP
  have n2 : vL.ownBlock = none ∨ vL.ownBlock ≠ some p.block := .inr hL
  refine ⟨h1.setCell hA _, h2.kept g n1, h3.kept g n2, h4, fun j t ht => ?_⟩
  obtain ⟨p1, p2, p3⟩ := h5 j t ht
  exact ⟨p1.kept g (fun a ha hn e => hD j t ht a ha hn (by injection e with e; exact e.symm)), p2, p3⟩
theorem BgP.grown {base g b : Nat} {w w' : World} {z : Int} {row : Option Nat} (h : BgP base g w b z) (hg : w.grownBy w' row) (hb : base ≤ b) (hr : ∀ j, row = some j → j < base) (g' : Nat) (hg' : g' < base ∨ w.heap.size ≤ g') : BgP base g' w' b z := by
  obtain ⟨s, A, n, c, h1, h2, h3, h4, h5, h6, h7⟩ := h
  have ne : row ≠ some b := fun e => by have := hr b e; omega
  refine ⟨s, A, n, c, Nat.lt_of_lt_of_le h1 hg.size, ?_, ?_, ?_, ?_, h6.kept hg (fun a ha _ e => by have := hr _ e; have := h6.2.2.2 a ha; omega), fun a ha hn => ?_⟩
  · rw [hg.cell_far ⟨b, 0, none⟩ h1 (fun e => ne e.symm)]; exact h2
  · rw [hg.cell_far ⟨b, 1, none⟩ h1 (fun e => ne e.symm)]; exact h3
  · rw [hg.frozen_far ⟨b, 0, none⟩ h1 (fun e => ne e.symm)]; exact h4
  · rw [hg.frozen_far ⟨b, 1, none⟩ h1 (fun e => ne e.symm)]; exact h5
  · have e1 := h6.2.2.2 a ha
    have e2 := h6.lt ha hn
    omega
theorem BgP.below {base g b : Nat} {w w' : World} {z : Int} (h : BgP base g w b z) (hb : Below w.heap.size w w') : BgP base g w' b z := by
  obtain ⟨s, A, n, c, h1, h2, h3, h4, h5, h6, h7⟩ := h
  exact ⟨s, A, n, c, Nat.lt_of_lt_of_le h1 hb.size, (hb.cell (p := ⟨b, 0, none⟩) h1).trans h2, (hb.cell (p := ⟨b, 1, none⟩) h1).trans h3, (World.frozen?_of_block (hb.block b h1)).trans h4, (World.frozen?_of_block (hb.block b h1)).trans h5, h6.below hb, h7⟩
/-- While the rest is handed out: the parts (block gP), who had one (G), the rests (gL). -/
def GSt (w0 W : World) (gP gL G n : Nat) (P : List Int) (gn : Nat → Bool) (L : List (Option Addr × Nat × Nat)) (rs : List Int) : Prop :=
  Below w0.heap.size w0 W ∧ gP < W.heap.size ∧ (∀ i x, P[i]? = some x → W.cell? ⟨gP, i, none⟩ = some (.int .i64 x) ∧ W.frozen? ⟨gP, i, none⟩ = false) ∧ W.rowIs G 4 n (fun j => .bool (gn j)) ∧ gL < W.heap.size ∧
  ∀ j t, L[j]? = some t → W.cell? ⟨gL, j * 2, none⟩ = some (.bool false) ∧ W.cell? ⟨gL, j * 2 + 1, none⟩ = some (.slice t.1 t.2.1 t.2.2) ∧ Pt 0 W false t.1 t.2.1 t.2.2 (rs.getD j 0) ∧ ∀ a, t.1 = some a → 0 < t.2.1 → a.block ≠ gP ∧ a.block ≠ G
section
variable {w0 W W' : World} {gP gL G n : Nat} {P : List Int} {gn : Nat → Bool} {L : List (Option Addr × Nat × Nat)} {rs : List Int}
theorem GSt.below (h : GSt w0 W gP gL G n P gn L rs) (hb : Below W.heap.size W W') : GSt w0 W' gP gL G n P gn L rs := by
  obtain ⟨h1, h2, h3, h4, h5, h6⟩ := h
  refine ⟨h1.trans (hb.mono h1.size), Nat.lt_of_lt_of_le h2 hb.size, fun i x hi => ?_, h4.of_block (hb.block G h4.lt), Nat.lt_of_lt_of_le h5 hb.size, fun j t ht => ?_⟩
  · obtain ⟨a, b⟩ := h3 i x hi
    exact ⟨(hb.cell (p := ⟨gP, i, none⟩) h2).trans a, (World.frozen?_of_block (hb.block gP h2)).trans b⟩
  · obtain ⟨a, b, c, d⟩ := h6 j t ht
    exact ⟨(hb.cell (p := ⟨gL, j * 2, none⟩) h5).trans a, (hb.cell (p := ⟨gL, j * 2 + 1, none⟩) h5).trans b, c.below hb, d⟩
theorem GSt.bel (h : GSt w0 W gP gL G n P gn L rs) : Below w0.heap.size w0 W := h.1
theorem GSt.part (h : GSt w0 W gP gL G n P gn L rs) (hne1 : gP ≠ gL) (hne2 : gP ≠ G) (hw : w0.heap.size ≤ gP) {i : Nat} {x : Int} (y : Int) (hi : P[i]? = some x) : GSt w0 (W.setCell ⟨gP, i, none⟩ (.int .i64 y)) gP gL G n (P.set i y) gn L rs := by
  obtain ⟨h1, h2, h3, h4, h5, h6⟩ := h
  refine ⟨h1.setCell hw _, by simpa using h2, fun j z hj => ?_, h4.setOther (fun e => hne2 e.symm) _, by simpa using h5, fun j t ht => ?_⟩
  · have hc := (h3 i x hi).1
    by_cases hij : i = j
    · subst hij
      have hlt := (List.getElem?_eq_some_iff.1 hi).1
      rw [List.getElem?_set_self hlt] at hj
      obtain rfl := Option.some.inj hj
      exact ⟨by simp [go_sem, hc], by simpa [go_sem] using (h3 i x hi).2⟩
    · rw [List.getElem?_set_ne hij] at hj
      obtain ⟨a, b⟩ := h3 j z hj
      refine ⟨?_, by simpa [go_sem] using b⟩
      rw [← a]
      have : ¬ j = i := fun e => hij e.symm
      simp [go_sem, this, hij]
  · obtain ⟨a, b, c, d⟩ := h6 j t ht
    exact ⟨by rw [World.cell?_setCell_far W _ _ _ (fun e => hne1 (by first | exact e | exact e.symm))]; exact a, by rw [World.cell?_setCell_far W _ _ _ (fun e => hne1 (by first | exact e | exact e.symm))]; exact b, c.kept (grown_setA W ⟨gP, i, none⟩ _) (fun x hx hn e => (d x hx hn).1 (by injection e with e; exact e.symm)), d⟩
theorem GSt.gone (h : GSt w0 W gP gL G n P gn L rs) (hne1 : gL ≠ G) (hne2 : gP ≠ G) (hw : w0.heap.size ≤ G) (i : Nat) {gn' : Nat → Bool} (hg : ∀ j, (if j = i then true else gn j) = gn' j) : GSt w0 (W.setCell ⟨G, i, none⟩ (.bool true)) gP gL G n P gn' L rs := by
  obtain ⟨h1, h2, h3, h4, h5, h6⟩ := h
  refine ⟨h1.setCell hw _, by simpa using h2, fun j z hj => ?_, (h4.set i (.bool true)).congr (fun j _ => by rw [← hg j]; by_cases e : j = i <;> simp [e]), by simpa using h5, fun j t ht => ?_⟩
  · obtain ⟨a, b⟩ := h3 j z hj
    exact ⟨by rw [World.cell?_setCell_far W _ _ _ (fun e => hne2 (by first | exact e | exact e.symm))]; exact a, by simpa [go_sem] using b⟩
  · obtain ⟨a, b, c, d⟩ := h6 j t ht
    exact ⟨by rw [World.cell?_setCell_far W _ _ _ (fun e => hne1 (by first | exact e | exact e.symm))]; exact a, by rw [World.cell?_setCell_far W _ _ _ (fun e => hne1 (by first | exact e | exact e.symm))]; exact b, c.kept (grown_setA W ⟨G, i, none⟩ _) (fun x hx hn e => (d x hx hn).2 (by injection e with e; exact e.symm)), d⟩
end
end Go.Proofs.YtakfjdnpfhcgkaaGreatDoor
