/-
  What exref6.Allocate keeps: a row of parts, a row of rests (Bigs), whose digits lie apart from both.
-/
import Derived.Test.YtakfjdnpfhcgkaaGreatDoorXa1
import Derived.Test.YtakfjdnpfhcgkaaGreatDoorBw9
import Derived.Test.YtakfjdnpfhcgkaaGreatDoorMs6
namespace Go.Proofs.YtakfjdnpfhcgkaaGreatDoor
set_option linter.all false
open Go.RowKit Go.Sort

theorem Tryz.infoBigR : (Tryz.prog.info? 58).map (fun i => (i.zero, i.size, i.bytes)) = some (some (.agg #[.bool false, .slice none 0 0]), 2, 32) := by kernel_rfl
theorem Pt.kept {base n c : Nat} {w w' : World} {s : Bool} {A : Option Addr} {z : Int} {row : Option Nat} (h : Pt base w s A n c z) (hg : w.grownBy w' row) (hr : ∀ a, A = some a → 0 < n → row ≠ some a.block) : Pt base w' s A n c z := by
  obtain ⟨h1, h2, h3, h4⟩ := h
  refine ⟨h1, h2, ⟨h3.1, h3.2.1, fun i v hi => ?_⟩, h4⟩
  obtain ⟨b, off, hA, hb, hc⟩ := h3.2.2 i v hi
  have hn : 0 < n := by rw [h2]; have := (List.getElem?_eq_some_iff.1 hi).1; omega
  exact ⟨b, off, hA, Nat.lt_of_lt_of_le hb hg.size, by rw [hg.cell_far ⟨b, off + i, none⟩ hb (fun e => hr _ hA hn e.symm)]; exact hc⟩
theorem Pt.lt {base n c : Nat} {w : World} {s : Bool} {A : Option Addr} {z : Int} (h : Pt base w s A n c z) {a : Addr} (ha : A = some a) (hn : 0 < n) : a.block < w.heap.size := by
  obtain ⟨h1, h2, h3, h4⟩ := h
  obtain ⟨b, off, hA, hb, _⟩ := h3.2.2 0 _ (List.getElem?_eq_getElem (by rw [← h2]; exact hn))
  rw [ha] at hA; injection hA with hA; subst hA; exact hb
def cellsB (L : List (Option Addr × Nat × Nat)) : List Value := L.flatMap fun t => [.bool false, .slice t.1 t.2.1 t.2.2]
theorem cellsB_app (a : List (Option Addr × Nat × Nat)) (t : Option Addr × Nat × Nat) : cellsB (a ++ [t]) = cellsB a ++ [.bool false, .slice t.1 t.2.1 t.2.2] := by simp [cellsB]
theorem cellsB_at : ∀ {l : List (Option Addr × Nat × Nat)} {i : Nat} {t : Option Addr × Nat × Nat}, l[i]? = some t → (cellsB l)[i * 2]? = some (.bool false) ∧ (cellsB l)[i * 2 + 1]? = some (.slice t.1 t.2.1 t.2.2)
  | [], i, t, h => by simp at h
  | y :: l, 0, t, h => by simp at h; subst h; simp [cellsB]
  | y :: l, i + 1, t, h => by
    have ih := cellsB_at (l := l) (i := i) (t := t) (by simpa using h)
    have e : cellsB (y :: l) = .bool false :: .slice y.1 y.2.1 y.2.2 :: cellsB l := rfl
    rw [e, show (i + 1) * 2 = i * 2 + 1 + 1 by omega]
    exact ih
/-- The digits of a Big lie apart from a row. -/
def Apart (v : Value) (t : Option Addr × Nat × Nat) : Prop := ∀ a, t.1 = some a → 0 < t.2.1 → v.ownBlock ≠ some a.block
/-- The rows parts (vP) and lost (vL, the Bigs L of the rests rs); below wA's blocks all is as it was. -/
def RSt (wA W : World) (vP vL : Value) (kP kL : Nat) (xP : List Value) (L : List (Option Addr × Nat × Nat)) (rs : List Int) : Prop :=
  Below wA.heap.size wA W ∧ W.ownsRow wA.heap.size 3 1 vP kP xP ∧ W.ownsRow wA.heap.size 58 2 vL kL (cellsB L) ∧ L.length = kL ∧ ∀ j t, L[j]? = some t → Pt 0 W false t.1 t.2.1 t.2.2 (rs.getD j 0) ∧ Apart vP t ∧ Apart vL t
section
variable {wA W W' : World} {vP vL : Value} {kP kL : Nat} {xP : List Value} {L : List (Option Addr × Nat × Nat)} {rs : List Int}
theorem RSt.below (h : RSt wA W vP vL kP kL xP L rs) (hb : Below W.heap.size W W') : RSt wA W' vP vL kP kL xP L rs := by
  obtain ⟨h1, h2, h3, h4, h5⟩ := h
  exact ⟨h1.trans (hb.mono h1.size), own_below h2 hb, own_below h3 hb, h4, fun j t ht => ⟨(h5 j t ht).1.below hb, (h5 j t ht).2⟩⟩
theorem RSt.bel (h : RSt wA W vP vL kP kL xP L rs) : Below wA.heap.size wA W := h.1
theorem RSt.appP {vP' : Value} {kP' g : Nat} {xP' : List Value} (h : RSt wA W vP vL kP kL xP L rs) (hown : W'.ownsRow wA.heap.size 3 1 vP' kP' xP') (hg : W.grownBy W' vP.ownBlock) (hv : vP'.ownBlock = some g) (hat : vP.ownBlock = some g ∨ g = W.heap.size) : RSt wA W' vP' vL kP' kL xP' L rs := by
  obtain ⟨h1, h2, h3, h4, h5⟩ := h
  refine ⟨h1.grown hg h1.size (fun k hk => (h2.lt k hk).1), hown, h3.kept hg (own_types h3 h2 (by decide)), h4, fun j t ht => ?_⟩
  obtain ⟨p1, p2, p3⟩ := h5 j t ht
  refine ⟨p1.kept hg p2, fun a ha hn e => ?_, p3⟩
  rw [hv] at e
  injection e with e
  rcases hat with k | k
  · exact p2 a ha hn (by rw [k, e])
  · have := p1.lt ha hn; omega
theorem RSt.appL {vL' : Value} {kL' g : Nat} {t' : Option Addr × Nat × Nat} (h : RSt wA W vP vL kP kL xP L rs) (hown : W'.ownsRow wA.heap.size 58 2 vL' kL' (cellsB (L ++ [t']))) (hk : kL' = kL + 1) (hg : W.grownBy W' vL.ownBlock) (hv : vL'.ownBlock = some g) (hat : vL.ownBlock = some g ∨ g = W.heap.size)
    (hp : Pt 0 W false t'.1 t'.2.1 t'.2.2 (rs.getD kL 0)) (ap : Apart vP t') (al : Apart vL t') : RSt wA W' vP vL' kP kL' xP (L ++ [t']) rs := by
  obtain ⟨h1, h2, h3, h4, h5⟩ := h
  have fresh : ∀ t : Option Addr × Nat × Nat, ∀ z, Pt 0 W false t.1 t.2.1 t.2.2 z → Apart vL t → Apart vL' t := fun t z p1 p3 a ha hn e => by
    rw [hv] at e
    injection e with e
    rcases hat with k | k
    · exact p3 a ha hn (by rw [k, e])
    · have := p1.lt ha hn; omega
  refine ⟨h1.grown hg h1.size (fun k hk => (h3.lt k hk).1), h2.kept hg (own_types h2 h3 (by decide)), hown, by simp [h4, hk], fun j t ht => ?_⟩
  by_cases hj : j < kL
  · rw [List.getElem?_append_left (by omega)] at ht
    obtain ⟨p1, p2, p3⟩ := h5 j t ht
    exact ⟨p1.kept hg p3, p2, fresh t _ p1 p3⟩
  · have hlt := (List.getElem?_eq_some_iff.1 ht).1
    have e : j = kL := by simp at hlt; omega
    subst e
    rw [List.getElem?_append_right (by omega)] at ht
    simp [h4] at ht
    subst ht
    exact ⟨hp.kept hg al, ap, fresh _ _ hp al⟩
end
/-- The quotient and the rest of u x by D, of one sign. -/
theorem quo_sgn (u x D : Int) (hx : 0 ≤ x) (hD : 0 < D) : quoV (u * x) D = sgnU u * (absU u * x / D) ∧ ((remV (u * x) D).natAbs : Int) = absU u * x % D ∧ (¬ remV (u * x) D < 0 → remV (u * x) D = absU u * x % D) ∧ (remV (u * x) D < 0 → -remV (u * x) D = absU u * x % D) := by
  obtain ⟨a, ha⟩ : ∃ a : Nat, absU u = (a : Int) := ⟨(absU u).toNat, by unfold absU; split <;> omega⟩
  obtain ⟨y, rfl⟩ := Int.eq_ofNat_of_zero_le hx
  obtain ⟨d, rfl⟩ := Int.eq_ofNat_of_zero_le (Int.le_of_lt hD)
  have hm : (u * (y : Int)).natAbs = a * y := by
    rw [Int.natAbs_mul, Int.natAbs_natCast]
    congr 1
    unfold absU at ha; split at ha <;> omega
  have hn : decide ((d : Int) < 0) = false := decide_eq_false (by omega)
  have e1 : absU u * (y : Int) / (d : Int) = ((a * y / d : Nat) : Int) := by rw [ha]; simp
  have e2 : absU u * (y : Int) % (d : Int) = ((a * y % d : Nat) : Int) := by rw [ha]; simp
  rw [e1, e2]
  unfold quoV remV
  rw [hn, hm, Int.natAbs_natCast]
  by_cases hu : u * (y : Int) < 0
  · have us : u < 0 := by
      rcases Int.lt_or_le u 0 with k | k
      · exact k
      · have := Int.mul_nonneg k hx; omega
    have sg : sgnU u = -1 := by unfold sgnU; rw [if_pos us]
    rw [decide_eq_true hu, sg]
    generalize a * y / d = q
    generalize a * y % d = r
    simp; omega
  · rw [decide_eq_false hu]
    rcases Int.lt_or_le u 0 with k | k
    · have y0 : (y : Int) = 0 := by
        rcases Nat.eq_zero_or_pos y with z | z
        · omega
        · exfalso
          have := Int.mul_neg_of_neg_of_pos k (show (0 : Int) < (y : Int) by omega)
          exact hu this
      have yz : y = 0 := by omega
      subst yz
      simp
    · have sg : sgnU u = 1 := by unfold sgnU; rw [if_neg (by omega)]
      rw [sg]
      generalize a * y / d = q
      generalize a * y % d = r
      simp; omega
end Go.Proofs.YtakfjdnpfhcgkaaGreatDoor
