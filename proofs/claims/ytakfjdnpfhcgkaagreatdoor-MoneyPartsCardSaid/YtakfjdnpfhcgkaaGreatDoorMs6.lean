/-
  Plain laws of the parts that Allocate makes: they sum up to the amount, each next to its exact part, in the order of the weights.
-/
import Derived.Test.YtakfjdnpfhcgkaaGreatDoorMs5
namespace Go.Proofs.YtakfjdnpfhcgkaaGreatDoor
set_option linter.all false

theorem sumI_set : ∀ {l : List Int} {i : Nat} {v : Int} (w : Int), l[i]? = some v → sumI (l.set i w) = sumI l - v + w
  | [], i, v, w, h => by simp at h
  | y :: l, 0, v, w, h => by simp at h; subst h; simp only [List.set_cons_zero, sumI]; omega
  | y :: l, i + 1, v, w, h => by
    have := sumI_set (l := l) (i := i) w (by simpa using h)
    simp only [List.set_cons_succ, sumI]; omega
theorem some_lt {l : List Int} {i : Nat} (h : i < l.length) : l[i]? = some (l.getD i 0) := by simp [List.getD, h]
section
variable {key : Nat → Int} {f : Nat → Nat} {n : Nat}
/-- The entries f 0 .. f (e - 1) made zero. -/
def zer (f : Nat → Nat) (l : List Int) : Nat → List Int
  | 0 => l
  | e + 1 => (zer f l e).set (f e) 0
theorem zer_len (l : List Int) : ∀ e, (zer f l e).length = l.length
  | 0 => rfl
  | e + 1 => by unfold zer; rw [List.length_set]; exact zer_len l e
theorem zer_at {l : List Int} {i : Nat} : ∀ {e : Nat}, (zer f l e).getD i 0 = l.getD i 0 ∨ (zer f l e).getD i 0 = 0
  | 0 => .inl rfl
  | e + 1 => by
    unfold zer
    by_cases h : f e = i
    · right
      subst h
      simp only [List.getD]
      by_cases hl : f e < (zer f l e).length
      · rw [List.getElem?_set_self hl]; rfl
      · rw [List.getElem?_eq_none (by rw [List.length_set]; omega)]; rfl
    · have := zer_at (l := l) (i := i) (e := e)
      simp only [List.getD] at this ⊢
      rw [List.getElem?_set_ne h]; exact this
theorem zer_hit {l : List Int} {i : Nat} : ∀ {e : Nat}, (∃ y, y < e ∧ f y = i) → (zer f l e).getD i 0 = 0
  | 0, ⟨y, hy, _⟩ => by omega
  | e + 1, ⟨y, hy, e1⟩ => by
    unfold zer
    by_cases h : f e = i
    · subst h
      simp only [List.getD]
      by_cases hl : f e < (zer f l e).length
      · rw [List.getElem?_set_self hl]; rfl
      · rw [List.getElem?_eq_none (by rw [List.length_set]; omega)]; rfl
    · have := zer_hit (l := l) (i := i) (e := e) ⟨y, by
        rcases Nat.lt_or_eq_of_le (show y ≤ e by omega) with k | k
        · exact k
        · subst k; exact absurd e1 h, e1⟩
      simp only [List.getD] at this ⊢
      rw [List.getElem?_set_ne h]; exact this
theorem zer_sum {l : List Int} {b : Int} (hf : ∀ x, x < n → f x < n) (hl : l.length = n) (hb : ∀ i, l.getD i 0 ≤ b) (h0 : 0 ≤ b) : ∀ e, e ≤ n → sumI l ≤ sumI (zer f l e) + b * e
  | 0, _ => by unfold zer; simp
  | e + 1, he => by
    have ih := zer_sum hf hl hb h0 e (by omega)
    unfold zer
    rw [sumI_set _ (some_lt (by rw [zer_len, hl]; exact hf e (by omega)))]
    have h1 : (zer f l e).getD (f e) 0 ≤ b := by
      rcases zer_at (f := f) (l := l) (i := f e) (e := e) with k | k
      · rw [k]; exact hb _
      · rw [k]; exact h0
    rw [show ((e + 1 : Nat) : Int) = (e : Int) + 1 by omega, Int.mul_add]; omega
theorem sumI_zero : ∀ {l : List Int}, (∀ i, l.getD i 0 = 0) → sumI l = 0
  | [], _ => rfl
  | x :: r, h => by
    have h0 := h 0
    have := sumI_zero (l := r) (fun i => by simpa [List.getD] using h (i + 1))
    simp [List.getD] at h0
    simp only [sumI]; omega
end
theorem rsL_getD {a D : Int} {ws : List Int} {i : Nat} {w : Int} (h : ws[i]? = some w) : (rsL a D ws).getD i 0 = a * w % D := by
  unfold rsL; simp [List.getD, h]
theorem nsL_len (a D : Int) (ws : List Int) : (nsL a D ws).length = ws.length := by simp [nsL]
theorem rsL_len (a D : Int) (ws : List Int) : (rsL a D ws).length = ws.length := by simp [rsL]
theorem rsL_bd {a D : Int} (hD : 0 < D) (ws : List Int) (i : Nat) : 0 ≤ (rsL a D ws).getD i 0 ∧ (rsL a D ws).getD i 0 ≤ D - 1 := by
  cases h : ws[i]? with
  | none =>
    have : (rsL a D ws).getD i 0 = 0 := by unfold rsL; simp [List.getD, h]
    omega
  | some w =>
    rw [rsL_getD h]
    have h0 := Int.emod_nonneg (a * w) (show D ≠ 0 by omega)
    have h1 := Int.emod_lt_of_pos (a * w) hD
    omega
/-- Whoever gets one more has a rest above 0. -/
theorem pick_pos {a : Int} {ws : List Int} {f : Nat → Nat} {n : Nat} (hl : ws.length = n) (hD : 0 < sumI ws) (g : Good (keyL a ws) f 0 n) {lf : Nat} (hlf : (lf : Int) = a - sumI (nsL a (sumI ws) ws)) (hln : lf ≤ n) {e : Nat} (he : e < lf) : 0 < keyL a ws (f e) := by
  have hb := fun i => rsL_bd (a := a) hD ws i
  rcases Int.lt_or_eq_of_le (show 0 ≤ keyL a ws (f e) from (hb (f e)).1) with k | k
  · exact k
  · exfalso
    have hf : ∀ x, x < n → f x < n := fun x hx => (g.2.1 x (by omega) hx).2
    have hs := zer_sum (l := rsL a (sumI ws) ws) (f := f) (n := n) (b := sumI ws - 1) hf (by rw [rsL_len, hl]) (fun i => (hb i).2) (by omega) e (by omega)
    have hz : sumI (zer f (rsL a (sumI ws) ws) e) = 0 := sumI_zero fun i => by
      by_cases hi : i < n
      · obtain ⟨y, _, hy, hfy⟩ := g.2.2 i (by omega) hi
        by_cases hye : y < e
        · exact zer_hit ⟨y, hye, hfy⟩
        · have h1 : keyL a ws i ≤ keyL a ws (f e) := by
            rcases Nat.lt_or_eq_of_le (show e ≤ y by omega) with c | c
            · have := g.1 e y (by omega) c hy
              rw [hfy] at this
              unfold Lk at this; omega
            · rw [c, hfy]; exact Int.le_refl _
          have h2 := (hb i).1
          have h3 : (rsL a (sumI ws) ws).getD i 0 = 0 := by
            have : keyL a ws i = (rsL a (sumI ws) ws).getD i 0 := rfl
            omega
          rcases zer_at (f := f) (l := rsL a (sumI ws) ws) (i := i) (e := e) with c | c
          · rw [c, h3]
          · exact c
      · have : (zer f (rsL a (sumI ws) ws) e)[i]? = none := List.getElem?_eq_none (by rw [zer_len, rsL_len, hl]; omega)
        simp [List.getD, this]
    have hp := parts_sum a (sumI ws) ws
    rw [hz] at hs
    -- the rests sum up to what is left, times the sum of the weights
    have h1 : sumI (rsL a (sumI ws) ws) = sumI ws * (lf : Int) := by
      rw [hlf, Int.mul_sub, Int.mul_comm (sumI ws) a]; omega
    rw [h1] at hs
    have h2 : sumI ws * ((e : Int) + 1) ≤ sumI ws * (lf : Int) := Int.mul_le_mul_of_nonneg_left (by omega) (by omega)
    rw [Int.mul_add] at h2
    have h3 : (sumI ws - 1) * (e : Int) ≤ sumI ws * (e : Int) := by rw [Int.sub_mul]; omega
    omega
end Go.Proofs.YtakfjdnpfhcgkaaGreatDoor
