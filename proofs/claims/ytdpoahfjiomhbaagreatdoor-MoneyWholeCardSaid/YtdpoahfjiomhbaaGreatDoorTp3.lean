/-
  Plain laws: the price of a quantity by volume; a tier parted in two. No Go in sight.
-/
import Derived.Test.YtdpoahfjiomhbaaGreatDoorTp
namespace Go.Proofs.YtdpoahfjiomhbaaGreatDoor
set_option linter.all false

/-- The price of the first tier that a quantity fits in, or of the last one. -/
def priceAt : List (Int × Int) → Int → Int
  | [], _ => 0
  | [t], _ => t.2
  | t :: x :: r, q => if q ≤ t.1 then t.2 else priceAt (x :: r) q
theorem byV_eq {q : Int} : ∀ {l : List (Int × Int)} {ah : Int}, 0 ≤ ah → okFrom ah l = true → byV l q = q * priceAt l q
  | [], _, _, _ => by simp [byV, priceAt]
  | [t], _, _, h => by
    simp [okFrom] at h
    simp [byV, priceAt, h.1.1]
  | t :: x :: r, ah, ha, h => by
    simp [okFrom] at h
    have ih := byV_eq (q := q) (l := x :: r) (ah := t.1) (by omega) h.2
    rw [byV, priceAt]
    by_cases k : q ≤ t.1
    · rw [if_pos (.inl k), if_pos k]
    · rw [if_neg (by omega), if_neg k, ih]
theorem priceAt_bd {q : Int} : ∀ {l : List (Int × Int)}, (∀ t ∈ l, 0 ≤ t.2 ∧ t.2 ≤ 1125899906842624) → 0 ≤ priceAt l q ∧ priceAt l q ≤ 1125899906842624
  | [], _ => by simp [priceAt]
  | [t], h => h t (by simp)
  | t :: x :: r, h => by
    have ih := priceAt_bd (q := q) (l := x :: r) (fun y hy => h y (by simp at hy ⊢; rcases hy with hy | hy <;> simp [hy]))
    rw [priceAt]
    split
    · exact h t (by simp)
    · exact ih
/-- One step of the walk from the back. -/
theorem priceAt_step {l : List (Int × Int)} {i : Nat} {u p q : Int} (h : l[i]? = some (u, p)) (hi : i + 1 < l.length) : priceAt (l.drop i) q = if q ≤ u then p else priceAt (l.drop (i + 1)) q := by
  rw [drop_tier l i u p h]
  cases e : l.drop (i + 1) with
  | nil => have := congrArg List.length e; simp at this; omega
  | cons x r => rfl
theorem priceAt_last {l : List (Int × Int)} {u p q : Int} {i : Nat} (h : l[i]? = some (u, p)) (hi : i + 1 = l.length) : priceAt (l.drop i) q = p := by
  rw [drop_tier l i u p h, List.drop_of_length_le (by omega)]; rfl
/-- One tier alone, of a price that may be. -/
theorem one_ok {p : Int} (h0 : 0 ≤ p) (h1 : p ≤ 1125899906842624) : checkT [(0, p)] = 0 ∧ okFrom 0 [(0, p)] = true := by
  have h : okFrom 0 [(0, p)] = true := by simp [okFrom, h0, h1]
  exact ⟨chk_0 (by simp) (by simp) h, h⟩
theorem one_V (p q : Int) : byV [(0, p)] q = q * p := by simp [byV]

/-- A tier parted in two. -/
def insT : List (Int × Int) → Nat → Int → List (Int × Int)
  | [], _, _ => []
  | t :: r, 0, c => (c, t.2) :: t :: r
  | t :: r, j + 1, c => t :: insT r j c
/-- The end of the tier ahead. -/
def lowT : Int → List (Int × Int) → Nat → Int
  | ah, _, 0 => ah
  | ah, [], _ + 1 => ah
  | _, t :: r, j + 1 => lowT t.1 r j
theorem insT_length : ∀ (l : List (Int × Int)) (j : Nat) (c : Int), j < l.length → (insT l j c).length = l.length + 1
  | [], _, _, h => by simp at h
  | t :: r, 0, c, _ => by simp [insT]
  | t :: r, j + 1, c, h => by simp [insT, insT_length r j c (by simpa using h)]
theorem insT_ne {l : List (Int × Int)} {j : Nat} {c : Int} (h : j < l.length) : insT l j c ≠ [] := by
  intro e; have := insT_length l j c h; rw [e] at this; simp at this
theorem okFrom_cons {ah : Int} {t : Int × Int} {r : List (Int × Int)} (h : okFrom ah (t :: r) = true) : 0 ≤ t.2 ∧ t.2 ≤ 1125899906842624 ∧ ((r = [] ∧ t.1 = 0) ∨ (r ≠ [] ∧ ah < t.1 ∧ t.1 ≤ 1125899906842624 ∧ okFrom t.1 r = true)) := by
  cases r with
  | nil => simp [okFrom] at h; exact ⟨h.1.2, h.2, .inl ⟨rfl, h.1.1⟩⟩
  | cons x y => simp [okFrom] at h; exact ⟨h.1.1.2, h.1.2, .inr ⟨by simp, h.1.1.1.1, h.1.1.1.2, h.2⟩⟩
theorem okFrom_mk {ah : Int} {t : Int × Int} {r : List (Int × Int)} (hr : r ≠ []) (h0 : 0 ≤ t.2) (h1 : t.2 ≤ 1125899906842624) (h2 : ah < t.1) (h3 : t.1 ≤ 1125899906842624) (h : okFrom t.1 r = true) : okFrom ah (t :: r) = true := by
  obtain ⟨u, p⟩ := t
  rw [okFrom_mid _ _ _ _ hr]; simp at *; exact ⟨⟨⟨⟨h2, h3⟩, h0⟩, h1⟩, h⟩
theorem ins_ok {c : Int} : ∀ {l : List (Int × Int)} {j : Nat} {ah : Int} {t : Int × Int}, okFrom ah l = true → 0 ≤ ah → l[j]? = some t → lowT ah l j < c → c ≤ 1125899906842624 → (t.1 = 0 ∨ c < t.1) → okFrom ah (insT l j c) = true
  | [], _, _, _, _, _, h, _, _, _ => by simp at h
  | x :: r, 0, ah, t, hok, ha, h, hl, hc, ht => by
    simp at h; subst h
    simp only [lowT] at hl
    have k := okFrom_cons hok
    refine okFrom_mk (t := (c, x.2)) (by simp) k.1 k.2.1 hl hc ?_
    rcases k.2.2 with ⟨hr, h0⟩ | ⟨hr, h0, h1, h2⟩
    · subst hr; simp [okFrom, h0, k.1, k.2.1]
    · exact okFrom_mk hr k.1 k.2.1 (by simp; omega) h1 h2
  | x :: r, j + 1, ah, t, hok, ha, h, hl, hc, ht => by
    simp at h
    simp only [lowT] at hl
    have k := okFrom_cons hok
    have hj : j < r.length := (List.getElem?_eq_some_iff.1 h).1
    rcases k.2.2 with ⟨hr, h0⟩ | ⟨hr, h0, h1, h2⟩
    · subst hr; simp at hj
    · exact okFrom_mk (insT_ne hj) k.1 k.2.1 h0 h1 (ins_ok h2 (by omega) h hl hc ht)
/-- A quantity below the end of the tier ahead costs nothing more. -/
theorem byT_past {q : Int} {l : List (Int × Int)} {ah : Int} (h : q ≤ ah) : byT l ah q = 0 := by
  cases l with
  | nil => rfl
  | cons t r =>
    have : partT ah t.1 q ≤ 0 := by unfold partT; split <;> omega
    rw [byT, if_pos this]
theorem byT_split {q c ah : Int} {t : Int × Int} {r : List (Int × Int)} (hok : okFrom ah (t :: r) = true) (ha : 0 ≤ ah) (hl : ah < c) (ht : t.1 = 0 ∨ c < t.1) : byT ((c, t.2) :: t :: r) ah q = byT (t :: r) ah q := by
  have k := okFrom_cons hok
  by_cases h1 : q ≤ ah
  · rw [byT_past h1, byT_past h1]
  have p1 : partT ah c q = min (q - ah) (c - ah) := by unfold partT; rw [if_pos (by omega)]
  rw [byT]
  simp only [p1]
  rw [if_neg (by omega)]
  by_cases h2 : q ≤ c
  · rw [byT_past h2, show min (q - ah) (c - ah) = q - ah by omega]
    have p2 : partT ah t.1 q = q - ah := by unfold partT; split <;> omega
    rw [byT, p2, if_neg (by omega)]
    congr 1
    rcases k.2.2 with ⟨hr, h0⟩ | ⟨hr, h0, h3, h4⟩
    · subst hr; rfl
    · exact (byT_past (by omega)).symm
  · rw [show min (q - ah) (c - ah) = c - ah by omega]
    have p2 : partT ah t.1 q = (c - ah) + partT c t.1 q := by unfold partT; split <;> omega
    have p3 : 0 < partT c t.1 q := by unfold partT; split <;> omega
    rw [byT, byT, p2, if_neg (by omega), if_neg (by omega), Int.add_mul]; omega
theorem byT_ins {q c : Int} : ∀ {l : List (Int × Int)} {j : Nat} {ah : Int} {t : Int × Int}, okFrom ah l = true → 0 ≤ ah → l[j]? = some t → lowT ah l j < c → (t.1 = 0 ∨ c < t.1) → byT (insT l j c) ah q = byT l ah q
  | [], _, _, _, _, _, h, _, _ => by simp at h
  | x :: r, 0, ah, t, hok, ha, h, hl, ht => by
    simp at h; subst h
    exact byT_split hok ha hl ht
  | x :: r, j + 1, ah, t, hok, ha, h, hl, ht => by
    simp at h
    simp only [lowT] at hl
    have k := okFrom_cons hok
    have hj : j < r.length := (List.getElem?_eq_some_iff.1 h).1
    rcases k.2.2 with ⟨hr, h0⟩ | ⟨hr, h0, h1, h2⟩
    · subst hr; simp at hj
    · have ih := byT_ins (q := q) h2 (by omega) h hl ht
      rw [insT, byT, byT, ih]
theorem byV_ins {q c : Int} : ∀ {l : List (Int × Int)} {j : Nat} {ah : Int} {t : Int × Int}, okFrom ah l = true → 0 ≤ ah → l[j]? = some t → lowT ah l j < c → (t.1 = 0 ∨ c < t.1) → byV (insT l j c) q = byV l q
  | [], _, _, _, _, _, h, _, _ => by simp at h
  | x :: r, 0, ah, t, hok, ha, h, hl, ht => by
    simp at h; subst h
    simp only [lowT] at hl
    rw [insT, byV]
    by_cases k : q ≤ c
    · rw [if_pos (.inl k), byV, if_pos (by omega)]
    · rw [if_neg (by simp; omega)]
  | x :: r, j + 1, ah, t, hok, ha, h, hl, ht => by
    simp at h
    simp only [lowT] at hl
    have k := okFrom_cons hok
    have hj : j < r.length := (List.getElem?_eq_some_iff.1 h).1
    rcases k.2.2 with ⟨hr, h0⟩ | ⟨hr, h0, h1, h2⟩
    · subst hr; simp at hj
    · have ih := byV_ins (q := q) h2 (by omega) h hl ht
      rw [insT, byV, byV, ih]
theorem low_nonneg : ∀ {l : List (Int × Int)} {j : Nat} {ah : Int}, okFrom ah l = true → 0 ≤ ah → j < l.length → 0 ≤ lowT ah l j ∧ lowT ah l j ≤ max ah 1125899906842624
  | [], _, _, _, _, h => by simp at h
  | x :: r, 0, ah, _, ha, _ => by simp only [lowT]; omega
  | x :: r, j + 1, ah, hok, ha, h => by
    have k := okFrom_cons hok
    simp only [lowT]
    have hj : j < r.length := by simpa using h
    rcases k.2.2 with ⟨hr, h0⟩ | ⟨hr, h0, h1, h2⟩
    · subst hr; simp at hj
    · have := low_nonneg (ah := x.1) h2 (by omega) hj; omega
/-- The end of the tier ahead, by its place. -/
theorem low_at : ∀ {l : List (Int × Int)} {j : Nat} {ah : Int} {t : Int × Int}, l[j]? = some t → lowT ah l (j + 1) = t.1
  | [], _, _, _, h => by simp at h
  | x :: r, 0, _, t, h => by simp at h; subst h; simp [lowT]
  | x :: r, j + 1, _, t, h => by
    simp at h
    simp only [lowT]
    exact low_at (l := r) h
end Go.Proofs.YtdpoahfjiomhbaaGreatDoor
