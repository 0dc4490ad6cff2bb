/-
  Plain laws of prices by tiers; no Go in sight.
-/
import Derived.Test.YtdpoahfjiomhbaaGreatDoorTm
namespace Go.Proofs.YtdpoahfjiomhbaaGreatDoor
set_option linter.all false

/-! Rounding: the nearest, halves to the even. -/
theorem rheA_spec (s d : Int) (hd : 0 < d) : 2 * (rheA s d * d) ≤ 2 * s + d ∧ 2 * s ≤ 2 * (rheA s d * d) + d := by
  have r0 := Int.emod_nonneg s (show d ≠ 0 by omega)
  have r1 := Int.emod_lt_of_pos s hd
  have e := Int.emod_def s d
  rw [Int.mul_comm] at e
  unfold rheA
  split
  · rename_i h; rw [Int.add_mul, Int.one_mul]; omega
  · rename_i h; omega
theorem rheA_mono (s t d : Int) (hd : 0 < d) (h : s ≤ t) : rheA s d ≤ rheA t d := by
  have q := Int.ediv_le_ediv hd h
  by_cases e : s / d = t / d
  · have e1 := Int.emod_def s d
    have e2 := Int.emod_def t d
    rw [e] at e1
    unfold rheA
    rw [e]
    split <;> split <;> omega
  · have a : rheA s d ≤ s / d + 1 := by unfold rheA; split <;> omega
    have b : t / d ≤ rheA t d := by unfold rheA; split <;> omega
    omega
theorem rheA_nonneg (s d : Int) (h0 : 0 ≤ s) (hd : 0 < d) : 0 ≤ rheA s d := by
  have := Int.ediv_nonneg h0 (show 0 ≤ d by omega)
  unfold rheA; split <;> omega
theorem rhe_pos (a d : Int) (h : 0 ≤ a) : rhe a d = rheA a d := by unfold rhe; rw [if_neg (by omega)]
theorem rhe_spec (a d : Int) (hd : 0 < d) : 2 * (rhe a d * d) ≤ 2 * a + d ∧ 2 * a ≤ 2 * (rhe a d * d) + d := by
  unfold rhe
  split
  · have := rheA_spec (-a) d hd
    rw [Int.neg_mul]; omega
  · exact rheA_spec a d hd
/-- Of a whole multiple it is the multiple. -/
theorem rheA_mul (n d : Int) (hd : 0 < d) : rheA (n * d) d = n := by
  have e1 : n * d / d = n := Int.mul_ediv_cancel n (by omega)
  have e2 : n * d % d = 0 := Int.mul_emod_left n d
  unfold rheA
  rw [e1, e2, if_neg (by omega)]
theorem rhe_mul (n d : Int) (hd : 0 < d) : rhe (n * d) d = n := by
  unfold rhe
  split
  · rw [← Int.neg_mul, rheA_mul _ _ hd]; omega
  · exact rheA_mul n d hd
theorem rhe_zero (d : Int) (hd : 0 < d) : rhe 0 d = 0 := by have := rhe_mul 0 d hd; rwa [Int.zero_mul] at this
theorem rhe_neg (a d : Int) (hd : 0 < d) : rhe (-a) d = -(rhe a d) := by
  by_cases h : a = 0
  · subst h; rw [show (-0 : Int) = 0 by rfl, rhe_zero d hd]; rfl
  · unfold rhe
    by_cases k : a < 0
    · rw [if_neg (by omega), if_pos k]; omega
    · rw [if_pos (by omega), if_neg k, Int.neg_neg]
theorem rhe_mono (a b d : Int) (hd : 0 < d) (h : a ≤ b) : rhe a d ≤ rhe b d := by
  by_cases ha : a < 0
  · by_cases hb : b < 0
    · have : rheA (-b) d ≤ rheA (-a) d := rheA_mono _ _ d hd (by omega)
      unfold rhe; rw [if_pos ha, if_pos hb]; omega
    · have h1 : 0 ≤ rheA (-a) d := rheA_nonneg _ d (by omega) hd
      have h2 : 0 ≤ rheA b d := rheA_nonneg _ d (by omega) hd
      unfold rhe; rw [if_pos ha, if_neg hb]; omega
  · rw [rhe_pos a d (by omega), rhe_pos b d (by omega)]; exact rheA_mono a b d hd h

/-! The price by tiers rises. -/
theorem partT_mono {ah u q q' : Int} (h : q ≤ q') : partT ah u q ≤ partT ah u q' := by unfold partT; split <;> omega
/-- Behind a tier that is not filled nothing more lies. -/
theorem partT_stop {ah u q : Int} (hu : 0 < u) (hau : ah < u) (h : partT ah u q ≤ 0) : q ≤ ah := by unfold partT at h; rw [if_pos hu] at h; omega
theorem byT_nonneg {q : Int} : ∀ {l : List (Int × Int)} {ah : Int}, (∀ t ∈ l, 0 ≤ t.2) → 0 ≤ byT l ah q
  | [], _, _ => by simp [byT]
  | t :: r, ah, h => by
    simp only [byT]
    split
    · exact Int.le_refl 0
    · have := byT_nonneg (q := q) (l := r) (ah := t.1) (fun x hx => h x (by simp [hx]))
      have m : 0 ≤ partT ah t.1 q * t.2 := Int.mul_nonneg (by omega) (h t (by simp))
      omega
theorem byT_mono {q q' : Int} (hq : q ≤ q') : ∀ {l : List (Int × Int)} {ah : Int}, (∀ t ∈ l, 0 ≤ t.2) → byT l ah q ≤ byT l ah q'
  | [], _, _ => by simp [byT]
  | t :: r, ah, h => by
    have ih := byT_mono hq (l := r) (ah := t.1) (fun x hx => h x (by simp [hx]))
    have hp := partT_mono (ah := ah) (u := t.1) hq
    simp only [byT]
    split
    · split
      · exact Int.le_refl 0
      · have n := byT_nonneg (q := q') (l := r) (ah := t.1) (fun x hx => h x (by simp [hx]))
        have m : 0 ≤ partT ah t.1 q' * t.2 := Int.mul_nonneg (by omega) (h t (by simp))
        omega
    · rw [if_neg (by omega)]
      have m : partT ah t.1 q * t.2 ≤ partT ah t.1 q' * t.2 := Int.mul_le_mul_of_nonneg_right hp (h t (by simp))
      omega

/-- All tiers of one price: what flat makes of it. 'c' is the price. -/
theorem byT_same {q c : Int} : ∀ {l : List (Int × Int)} {ah : Int}, l ≠ [] → ah ≤ q → okFrom ah l = true → 0 ≤ ah → (∀ t ∈ l, t.2 = c) → byT l ah q = (q - ah) * c
  | [], _, h, _, _, _, _ => absurd rfl h
  | [t], ah, _, hq, hok, _, hc => by
    simp [okFrom] at hok
    have e : t.2 = c := hc t (by simp)
    have p : partT ah t.1 q = q - ah := by unfold partT; rw [if_neg (by omega)]
    simp only [byT]
    rw [p, e]
    split
    · rw [show q - ah = 0 by omega, Int.zero_mul]
    · omega
  | t :: x :: r, ah, _, hq, hok, ha, hc => by
    simp [okFrom] at hok
    have e : t.2 = c := hc t (by simp)
    have hu : 0 < t.1 := by omega
    have p : partT ah t.1 q = min (q - ah) (t.1 - ah) := by unfold partT; rw [if_pos hu]
    rw [byT, p, e]
    by_cases h1 : q ≤ t.1
    · -- all lies in this tier
      have z : byT (x :: r) t.1 q = 0 := by
        by_cases h2 : q = t.1
        · have := byT_same (q := q) (c := c) (l := x :: r) (ah := t.1) (by simp) (by omega) hok.2 (by omega) (fun y hy => hc y (by simp at hy ⊢; rcases hy with hy | hy <;> simp [hy]))
          rw [this, h2, Int.sub_self, Int.zero_mul]
        · simp only [byT]
          have : partT t.1 x.1 q ≤ 0 := by unfold partT; split <;> omega
          rw [if_pos this]
      rw [z, show min (q - ah) (t.1 - ah) = q - ah by omega]
      split
      · rw [show q - ah = 0 by omega, Int.zero_mul]
      · omega
    · have ih := byT_same (q := q) (c := c) (l := x :: r) (ah := t.1) (by simp) (by omega) hok.2 (by omega) (fun y hy => hc y (by simp at hy ⊢; rcases hy with hy | hy <;> simp [hy]))
      rw [ih, show min (q - ah) (t.1 - ah) = t.1 - ah by omega, if_neg (by omega), ← Int.add_mul]
      congr 1; omega
end Go.Proofs.YtdpoahfjiomhbaaGreatDoor
