/-
  Plain laws of the stable sort of indices by a falling key: rotations, the split of a merge, blocks.
-/
import Derived.Test.YtakfjdnpfhcgkaaGreatDoorShelf
namespace Go.Proofs.YtakfjdnpfhcgkaaGreatDoor
set_option linter.all false

/-- x stands ahead of y: a greater key, or the same key and a smaller index. -/
def Lk (key : Nat → Int) (x y : Nat) : Prop := key y < key x ∨ (key x = key y ∧ x < y)
theorem Lk.trans {key : Nat → Int} {x y z : Nat} (h : Lk key x y) (k : Lk key y z) : Lk key x z := by unfold Lk at *; omega
theorem Lk.irrefl {key : Nat → Int} {x : Nat} (h : Lk key x x) : False := by unfold Lk at h; omega
def Srt (key : Nat → Int) (f : Nat → Nat) (a b : Nat) : Prop := ∀ i j, a ≤ i → i < j → j < b → Lk key (f i) (f j)
/-- Of one key, what stands on the left is the smaller index. -/
def Stb (key : Nat → Int) (f : Nat → Nat) (a m b : Nat) : Prop := ∀ i j, a ≤ i → i < m → m ≤ j → j < b → key (f i) = key (f j) → f i < f j
theorem Stb.ne {key : Nat → Int} {f : Nat → Nat} {a m b : Nat} (h : Stb key f a m b) {i j : Nat} (h1 : a ≤ i) (h2 : i < m) (h3 : m ≤ j) (h4 : j < b) : f i ≠ f j := fun e => by
  have := h i j h1 h2 h3 h4 (by rw [e]); omega
/-- What the comparison of one on the right with one on the left tells. -/
theorem Stb.cmp {key : Nat → Int} {f : Nat → Nat} {a m b : Nat} (h : Stb key f a m b) {i j : Nat} (h1 : a ≤ i) (h2 : i < m) (h3 : m ≤ j) (h4 : j < b) : (key (f i) < key (f j) ↔ Lk key (f j) (f i)) := by
  have := h i j h1 h2 h3 h4
  unfold Lk; omega
theorem Stb.cmp' {key : Nat → Int} {f : Nat → Nat} {a m b : Nat} (h : Stb key f a m b) {i j : Nat} (h1 : a ≤ i) (h2 : i < m) (h3 : m ≤ j) (h4 : j < b) : (¬ key (f i) < key (f j) ↔ Lk key (f i) (f j)) := by
  have := h i j h1 h2 h3 h4
  unfold Lk; omega
def Same (f g : Nat → Nat) (a b : Nat) : Prop := (∀ x, ¬ (a ≤ x ∧ x < b) → g x = f x) ∧ (∀ x, a ≤ x → x < b → ∃ y, a ≤ y ∧ y < b ∧ g x = f y) ∧ (∀ x, a ≤ x → x < b → ∃ y, a ≤ y ∧ y < b ∧ f x = g y)
theorem Same.refl (f : Nat → Nat) (a b : Nat) : Same f f a b := ⟨fun _ _ => rfl, fun x h k => ⟨x, h, k, rfl⟩, fun x h k => ⟨x, h, k, rfl⟩⟩
theorem Same.trans {f g h : Nat → Nat} {a b : Nat} (p : Same f g a b) (q : Same g h a b) : Same f h a b := by
  refine ⟨fun x hx => (q.1 x hx).trans (p.1 x hx), fun x h1 h2 => ?_, fun x h1 h2 => ?_⟩
  · obtain ⟨y, y1, y2, e⟩ := q.2.1 x h1 h2
    obtain ⟨z, z1, z2, e'⟩ := p.2.1 y y1 y2
    exact ⟨z, z1, z2, e.trans e'⟩
  · obtain ⟨y, y1, y2, e⟩ := p.2.2 x h1 h2
    obtain ⟨z, z1, z2, e'⟩ := q.2.2 y y1 y2
    exact ⟨z, z1, z2, e.trans e'⟩
theorem Same.wide {f g : Nat → Nat} {a b c d : Nat} (p : Same f g a b) (h1 : c ≤ a) (h2 : b ≤ d) : Same f g c d := by
  refine ⟨fun x hx => p.1 x (by omega), fun x k1 k2 => ?_, fun x k1 k2 => ?_⟩
  · by_cases h : a ≤ x ∧ x < b
    · obtain ⟨y, y1, y2, e⟩ := p.2.1 x h.1 h.2
      exact ⟨y, by omega, by omega, e⟩
    · exact ⟨x, k1, k2, p.1 x h⟩
  · by_cases h : a ≤ x ∧ x < b
    · obtain ⟨y, y1, y2, e⟩ := p.2.2 x h.1 h.2
      exact ⟨y, by omega, by omega, e⟩
    · exact ⟨x, k1, k2, (p.1 x h).symm⟩
/-- The parts [a, m) and [m, b) turned over. -/
def rot (f : Nat → Nat) (a m b : Nat) (x : Nat) : Nat := if a ≤ x ∧ x < b then (if x < a + (b - m) then f (x + (m - a)) else f (x - (b - m))) else f x
theorem rot_out {f : Nat → Nat} {a m b x : Nat} (h : ¬ (a ≤ x ∧ x < b)) : rot f a m b x = f x := if_neg h
theorem rot_lo {f : Nat → Nat} {a m b x : Nat} (h : a ≤ x) (k : x < a + (b - m)) (hm : a ≤ m) (hb : m ≤ b) : rot f a m b x = f (x + (m - a)) := by
  unfold rot; rw [if_pos (by omega), if_pos k]
theorem rot_hi {f : Nat → Nat} {a m b x : Nat} (h : a + (b - m) ≤ x) (k : x < b) : rot f a m b x = f (x - (b - m)) := by
  unfold rot
  by_cases h' : a ≤ x ∧ x < b
  · rw [if_pos h', if_neg (by omega)]
  · omega
theorem rot_end {f : Nat → Nat} {a m : Nat} : rot f a m m = f := by
  funext x; unfold rot; simp only [Nat.sub_self, Nat.add_zero, Nat.sub_zero]; split
  · rw [if_neg (by omega)]
  · rfl
theorem rot_start {f : Nat → Nat} {m b : Nat} : rot f m m b = f := by
  funext x; unfold rot; simp only [Nat.sub_self, Nat.add_zero]; split
  · rw [if_pos (by omega)]
  · rfl
theorem same_rot {f : Nat → Nat} {a m b : Nat} (hm : a ≤ m) (hb : m ≤ b) : Same f (rot f a m b) a b := by
  refine ⟨fun x hx => rot_out hx, fun x h1 h2 => ?_, fun x h1 h2 => ?_⟩
  · by_cases h : x < a + (b - m)
    · exact ⟨x + (m - a), by omega, by omega, rot_lo h1 h hm hb⟩
    · exact ⟨x - (b - m), by omega, by omega, rot_hi (by omega) h2⟩
  · by_cases h : x < m
    · exact ⟨x + (b - m), by omega, by omega, by rw [rot_hi (by omega) (by omega)] <;> (congr 1; omega)⟩
    · exact ⟨x - (m - a), by omega, by omega, by rw [rot_lo (by omega) (by omega) hm hb] <;> (congr 1; omega)⟩
def swp (f : Nat → Nat) (i j : Nat) (x : Nat) : Nat := if x = i then f j else if x = j then f i else f x
/-- n values from a on and n from b on, turned over. -/
def swr (f : Nat → Nat) (a b n : Nat) (x : Nat) : Nat := if a ≤ x ∧ x < a + n then f (x + (b - a)) else if b ≤ x ∧ x < b + n then f (x - (b - a)) else f x
theorem swr_0 {f : Nat → Nat} {a b : Nat} : swr f a b 0 = f := by
  funext x; unfold swr; rw [if_neg (by omega), if_neg (by omega)]
theorem swr_succ {f : Nat → Nat} {a b n : Nat} (h : a + (n + 1) ≤ b) : swp (swr f a b n) (a + n) (b + n) = swr f a b (n + 1) := by
  funext x; unfold swp
  by_cases h1 : x = a + n
  · subst h1
    rw [if_pos rfl]; unfold swr
    rw [if_neg (by omega), if_neg (by omega), if_pos (by omega)]
    congr 1; omega
  · rw [if_neg h1]
    by_cases h2 : x = b + n
    · subst h2
      rw [if_pos rfl]; unfold swr
      rw [if_neg (by omega), if_neg (by omega), if_neg (by omega), if_pos (by omega)]
      congr 1; omega
    · rw [if_neg h2]; unfold swr
      by_cases h3 : a ≤ x ∧ x < a + n
      · rw [if_pos h3, if_pos (by omega)]
      · rw [if_neg h3, if_neg (c := a ≤ x ∧ x < a + (n + 1)) (by omega)]
        by_cases h4 : b ≤ x ∧ x < b + n
        · rw [if_pos h4, if_pos (by omega)]
        · rw [if_neg h4, if_neg (by omega)]
theorem rot_eq_swr {f : Nat → Nat} {m i : Nat} (h : i ≤ m) : rot f (m - i) m (m + i) = swr f (m - i) m i := by
  funext x; unfold rot swr
  by_cases h1 : m - i ≤ x ∧ x < m + i
  · rw [if_pos h1]
    by_cases h2 : x < m
    · rw [if_pos (by omega), if_pos (by omega)]
    · rw [if_neg (by omega), if_neg (by omega), if_pos (by omega)] <;> (congr 1; omega)
  · rw [if_neg h1, if_neg (by omega), if_neg (by omega)]
theorem rot_gt {f : Nat → Nat} {m i j : Nat} (h : i ≤ m) (hj : j < i) : rot (swr f (m - i) m j) (m - (i - j)) m (m + j) = rot f (m - i) m (m + j) := by
  funext x; unfold rot swr
  by_cases h1 : m - i ≤ x ∧ x < m + j
  · rw [if_pos h1]
    by_cases h2 : x < m - i + j
    · rw [if_neg (by omega), if_pos (by omega), if_pos (by omega)] <;> (congr 1; omega)
    · rw [if_pos (by omega), if_neg (c := x < m - i + (m + j - m)) (by omega)]
      by_cases h3 : x < m - (i - j) + j
      · rw [if_pos (by omega), if_neg (by omega), if_pos (by omega)] <;> (congr 1; omega)
      · rw [if_neg (by omega), if_neg (by omega), if_neg (by omega)] <;> (congr 1; omega)
  · rw [if_neg h1, if_neg (by omega), if_neg (by omega), if_neg (by omega)]
theorem rot_lt {f : Nat → Nat} {m i j : Nat} (h : i ≤ m) (hj : i < j) : rot (swr f (m - i) (m + j - i) i) (m - i) m (m + (j - i)) = rot f (m - i) m (m + j) := by
  funext x; unfold rot swr
  by_cases h1 : m - i ≤ x ∧ x < m + j
  · rw [if_pos (c := m - i ≤ x ∧ x < m + j) h1]
    by_cases h2 : x < m + (j - i)
    · rw [if_pos (by omega)]
      by_cases h3 : x < m - i + (m + (j - i) - m)
      · rw [if_pos h3, if_neg (by omega), if_pos (c := x < m - i + (m + j - m)) (by omega)]
        by_cases h4 : m + j - i ≤ x + (m - (m - i))
        · rw [if_pos (by omega)]; omega
        · rw [if_neg (by omega)]
      · rw [if_neg h3, if_pos (by omega), if_pos (by omega)] <;> (congr 1; omega)
    · rw [if_neg (by omega), if_neg (by omega), if_pos (by omega)]
      by_cases h5 : x < m - i + (m + j - m)
      · omega
      · rw [if_neg h5] <;> (congr 1; omega)
  · rw [if_neg (c := m - i ≤ x ∧ x < m + j) h1, if_neg (by omega), if_neg (by omega), if_neg (by omega)]
/-- The first of a part, put behind those that stand ahead of it: one step farther. -/
theorem rot_up {f : Nat → Nat} {a k : Nat} (h : a ≤ k) : swp (rot f a (a + 1) (k + 1)) k (k + 1) = rot f a (a + 1) (k + 2) := by
  funext x; unfold swp rot
  by_cases h1 : x = k
  · subst h1
    rw [if_pos rfl, if_neg (by omega), if_pos (by omega), if_pos (by omega)] <;> (congr 1; omega)
  · rw [if_neg h1]
    by_cases h2 : x = k + 1
    · subst h2
      rw [if_pos rfl, if_pos (by omega), if_neg (by omega), if_pos (by omega), if_neg (by omega)] <;> (congr 1; omega)
    · rw [if_neg h2]
      by_cases h3 : a ≤ x ∧ x < k
      · rw [if_pos (by omega), if_pos (by omega), if_pos (by omega), if_pos (by omega)]
      · rw [if_neg (by omega), if_neg (by omega)]
theorem rot_down {f : Nat → Nat} {k m : Nat} (h : k + 1 ≤ m) : swp (rot f (k + 1) m (m + 1)) (k + 1) k = rot f k m (m + 1) := by
  funext x; unfold swp rot
  by_cases h1 : x = k + 1
  · subst h1
    rw [if_pos rfl, if_neg (by omega), if_pos (by omega), if_neg (by omega)] <;> (congr 1; omega)
  · rw [if_neg h1]
    by_cases h2 : x = k
    · subst h2
      rw [if_pos rfl, if_pos (by omega), if_pos (by omega), if_pos (by omega), if_pos (by omega)] <;> (congr 1; omega)
    · rw [if_neg h2]
      by_cases h3 : k + 1 < x ∧ x < m + 1
      · rw [if_pos (by omega), if_neg (by omega), if_pos (by omega), if_neg (by omega)]
      · rw [if_neg (by omega), if_neg (by omega)]
variable {key : Nat → Int} {f : Nat → Nat}
/-- One on the left, put among those on the right. -/
theorem srt_up {a b i : Nat} (h1 : a + 1 ≤ i) (h2 : i ≤ b) (hs : Srt key f (a + 1) b) (lo : ∀ c, a + 1 ≤ c → c < i → Lk key (f c) (f a)) (hi : ∀ c, i ≤ c → c < b → Lk key (f a) (f c)) : Srt key (rot f a (a + 1) i) a b := by
  intro x y hx hxy hy
  by_cases kx : x < i - 1
  · rw [rot_lo hx (by omega) (by omega) h1]
    by_cases ky : y < i - 1
    · rw [rot_lo (by omega) (by omega) (by omega) h1]; exact hs _ _ (by omega) (by omega) (by omega)
    · by_cases ke : y = i - 1
      · subst ke
        rw [rot_hi (by omega) (by omega), show i - 1 - (i - (a + 1)) = a by omega]
        exact lo _ (by omega) (by omega)
      · rw [rot_out (by omega)]; exact hs _ _ (by omega) (by omega) (by omega)
  · by_cases ke : x = i - 1
    · subst ke
      rw [rot_hi (by omega) (by omega), rot_out (by omega), show i - 1 - (i - (a + 1)) = a by omega]
      exact hi _ (by omega) hy
    · rw [rot_out (by omega), rot_out (by omega)]; exact hs _ _ (by omega) hxy hy
/-- One on the right, put among those on the left. -/
theorem srt_down {a m i : Nat} (h1 : a ≤ i) (h2 : i ≤ m) (hs : Srt key f a m) (lo : ∀ c, a ≤ c → c < i → Lk key (f c) (f m)) (hi : ∀ c, i ≤ c → c < m → Lk key (f m) (f c)) : Srt key (rot f i m (m + 1)) a (m + 1) := by
  intro x y hx hxy hy
  by_cases kx : x < i
  · rw [rot_out (by omega)]
    by_cases ky : y < i
    · rw [rot_out (by omega)]; exact hs _ _ hx hxy (by omega)
    · by_cases ke : y = i
      · subst ke
        rw [rot_lo (by omega) (by omega) h2 (by omega), show y + (m - y) = m by omega]
        exact lo _ hx kx
      · rw [rot_hi (by omega) (by omega)]; exact hs _ _ hx (by omega) (by omega)
  · by_cases ke : x = i
    · subst ke
      rw [rot_lo (by omega) (by omega) h2 (by omega), rot_hi (by omega) (by omega), show x + (m - x) = m by omega]
      exact hi _ (by omega) (by omega)
    · rw [rot_hi (by omega) (by omega), rot_hi (by omega) (by omega)]; exact hs _ _ (by omega) (by omega) (by omega)
/-- Where the search of a merge ends. -/
structure Cut (key : Nat → Int) (f : Nat → Nat) (a m b s : Nat) : Prop where
  lo : (if (a + b) / 2 < m then (a + b) / 2 + m - b else a) ≤ s
  hi : s ≤ (if (a + b) / 2 < m then (a + b) / 2 else m)
  less : (if (a + b) / 2 < m then (a + b) / 2 + m - b else a) < s → Lk key (f (s - 1)) (f ((a + b) / 2 + m - s))
  more : s < (if (a + b) / 2 < m then (a + b) / 2 else m) → Lk key (f ((a + b) / 2 + m - 1 - s)) (f s)
theorem Cut.facts {a m b s : Nat} (ha : a < m) (hb : m < b) (c : Cut key f a m b s) : a ≤ s ∧ s ≤ (a + b) / 2 ∧ s ≤ m ∧ m ≤ (a + b) / 2 + m - s ∧ (a + b) / 2 + m - s ≤ b ∧ (a + b) / 2 ≤ (a + b) / 2 + m - s ∧ s + ((a + b) / 2 + m - s - m) = (a + b) / 2 := by
  have h1 := c.lo
  have h2 := c.hi
  split at h1 <;> rename_i h
  · rw [if_pos h] at h2; omega
  · rw [if_neg h] at h2; omega
theorem cut_srt {a m b s : Nat} (ha : a < m) (hb : m < b) (c : Cut key f a m b s) (hl : Srt key f a m) (hr : Srt key f m b) (hS : Stb key f a m b) :
    (Srt key (rot f s m ((a + b) / 2 + m - s)) a s ∧ Srt key (rot f s m ((a + b) / 2 + m - s)) s ((a + b) / 2) ∧ Srt key (rot f s m ((a + b) / 2 + m - s)) ((a + b) / 2) ((a + b) / 2 + m - s) ∧ Srt key (rot f s m ((a + b) / 2 + m - s)) ((a + b) / 2 + m - s) b) ∧
    Stb key (rot f s m ((a + b) / 2 + m - s)) a s ((a + b) / 2) ∧ Stb key (rot f s m ((a + b) / 2 + m - s)) ((a + b) / 2) ((a + b) / 2 + m - s) b ∧
    (∀ x y, a ≤ x → x < (a + b) / 2 → (a + b) / 2 ≤ y → y < b → Lk key (rot f s m ((a + b) / 2 + m - s) x) (rot f s m ((a + b) / 2 + m - s) y)) := by
  obtain ⟨k1, k2, k3, k4, k5, k6, k7⟩ := c.facts ha hb
  have kl := c.less
  have km := c.more
  have k0 := c.lo
  have k9 := c.hi
  clear c
  generalize hmid : (a + b) / 2 = mid at *
  generalize he : mid + m - s = e at *
  have R1 : ∀ x, x < s → rot f s m e x = f x := fun x h => rot_out (by omega)
  have R2 : ∀ x, s ≤ x → x < mid → rot f s m e x = f (x + (m - s)) := fun x h h' => rot_lo h (by omega) k3 k4
  have R3 : ∀ x, mid ≤ x → x < e → rot f s m e x = f (x - (e - m)) := fun x h h' => rot_hi (by omega) h'
  have R4 : ∀ x, e ≤ x → rot f s m e x = f x := fun x h => rot_out (by omega)
  have hl' : ∀ i j, a ≤ i → i ≤ j → j < m → f i = f j ∨ Lk key (f i) (f j) := fun i j h h' h'' => by
    rcases Nat.lt_or_eq_of_le h' with h3 | h3
    · exact .inr (hl i j h h3 h'')
    · exact .inl (by rw [h3])
  have hr' : ∀ i j, m ≤ i → i ≤ j → j < b → f i = f j ∨ Lk key (f i) (f j) := fun i j h h' h'' => by
    rcases Nat.lt_or_eq_of_le h' with h3 | h3
    · exact .inr (hr i j h h3 h'')
    · exact .inl (by rw [h3])
  have glue : ∀ x u v y, (f x = f u ∨ Lk key (f x) (f u)) → Lk key (f u) (f v) → (f v = f y ∨ Lk key (f v) (f y)) → Lk key (f x) (f y) := fun x u v y h h' h'' => by
    have h1 : Lk key (f x) (f v) := by
      rcases h with h | h
      · rw [h]; exact h'
      · exact h.trans h'
    rcases h'' with h2 | h2
    · rw [← h2]; exact h1
    · exact h1.trans h2
  -- what stands left of the cut is ahead of what stands at the far right
  have X1 : ∀ x y, a ≤ x → x < s → e ≤ y → y < b → Lk key (f x) (f y) := fun x y h1 h2 h3 h4 => by
    have := kl (by split <;> omega)
    refine glue x (s - 1) e y (hl' _ _ h1 (by omega) (by omega)) this (hr' _ _ k4 h3 h4)
  have X2 : ∀ x y, m ≤ x → x < e → s ≤ y → y < m → Lk key (f x) (f y) := fun x y h1 h2 h3 h4 => by
    have h5 : s < if mid < m then mid else m := by split <;> omega
    have := km h5
    rw [show mid + m - 1 - s = e - 1 by omega] at this
    exact glue x (e - 1) s y (hr' _ _ h1 (by omega) (by omega)) this (hl' _ _ (by omega) h3 h4)
  refine ⟨⟨?_, ?_, ?_, ?_⟩, ?_, ?_, ?_⟩
  · intro x y h1 h2 h3; rw [R1 x (by omega), R1 y h3]; exact hl x y h1 h2 (by omega)
  · intro x y h1 h2 h3; rw [R2 x h1 (by omega), R2 y (by omega) h3]; exact hr _ _ (by omega) (by omega) (by omega)
  · intro x y h1 h2 h3; rw [R3 x h1 (by omega), R3 y (by omega) h3]; exact hl _ _ (by omega) (by omega) (by omega)
  · intro x y h1 h2 h3; rw [R4 x h1, R4 y (by omega)]; exact hr _ _ (by omega) h2 h3
  · intro x y h1 h2 h3 h4 hk; rw [R1 x h2, R2 y h3 h4] at *; exact hS _ _ h1 (by omega) (by omega) (by omega) hk
  · intro x y h1 h2 h3 h4 hk; rw [R3 x h1 h2, R4 y h3] at *; exact hS _ _ (by omega) (by omega) (by omega) h4 hk
  · intro x y h1 h2 h3 h4
    by_cases hx : x < s
    · rw [R1 x hx]
      by_cases hy : y < e
      · rw [R3 y h3 hy]; exact hl _ _ h1 (by omega) (by omega)
      · rw [R4 y (by omega)]; exact X1 x y h1 hx (by omega) h4
    · rw [R2 x (by omega) h2]
      by_cases hy : y < e
      · rw [R3 y h3 hy]; exact X2 _ _ (by omega) (by omega) (by omega) (by omega)
      · rw [R4 y (by omega)]; exact hr _ _ (by omega) (by omega) h4
theorem srt_join {g h : Nat → Nat} {a c b : Nat} (h1 : a ≤ c) (h2 : c ≤ b) (cross : ∀ x y, a ≤ x → x < c → c ≤ y → y < b → Lk key (f x) (f y)) (p : Same f g a c) (q : Same g h c b) (sp : Srt key g a c) (sq : Srt key h c b) : Srt key h a b := by
  intro x y hx hxy hy
  by_cases kx : x < c
  · by_cases ky : y < c
    · rw [q.1 x (by omega), q.1 y (by omega)]; exact sp x y hx hxy ky
    · rw [q.1 x (by omega)]
      obtain ⟨x', x1, x2, ex⟩ := p.2.1 x hx kx
      obtain ⟨y', y1, y2, ey⟩ := q.2.1 y (by omega) hy
      rw [ex, ey, p.1 y' (by omega)]; exact cross _ _ x1 x2 y1 y2
  · exact sq x y (by omega) hxy hy
/-- [lo, hi) holds its own indices, in their order. -/
def Good (key : Nat → Int) (f : Nat → Nat) (lo hi : Nat) : Prop := Srt key f lo hi ∧ (∀ x, lo ≤ x → x < hi → lo ≤ f x ∧ f x < hi) ∧ (∀ v, lo ≤ v → v < hi → ∃ x, lo ≤ x ∧ x < hi ∧ f x = v)
theorem Good.stb {a m b : Nat} (h : Good key f a m) (k : Good key f m b) : Stb key f a m b := fun i j h1 h2 h3 h4 _ => by
  have := h.2.1 i h1 h2
  have := k.2.1 j h3 h4
  omega
theorem Good.same {g : Nat → Nat} {lo hi a b : Nat} (h : Good key f lo hi) (p : Same f g a b) (hd : hi ≤ a ∨ b ≤ lo) : Good key g lo hi := by
  have e : ∀ x, lo ≤ x → x < hi → g x = f x := fun x h1 h2 => p.1 x (by omega)
  refine ⟨fun x y h1 h2 h3 => ?_, fun x h1 h2 => ?_, fun v h1 h2 => ?_⟩
  · rw [e x h1 (by omega), e y (by omega) h3]; exact h.1 x y h1 h2 h3
  · rw [e x h1 h2]; exact h.2.1 x h1 h2
  · obtain ⟨x, k1, k2, k3⟩ := h.2.2 v h1 h2
    exact ⟨x, k1, k2, (e x k1 k2).trans k3⟩
theorem Good.merge {g : Nat → Nat} {a m b : Nat} (hm : a ≤ m) (hb : m ≤ b) (h : Good key f a m) (k : Good key f m b) (p : Same f g a b) (s : Srt key g a b) : Good key g a b := by
  refine ⟨s, fun x h1 h2 => ?_, fun v h1 h2 => ?_⟩
  · obtain ⟨y, y1, y2, e⟩ := p.2.1 x h1 h2
    rw [e]
    by_cases hy : y < m
    · have := h.2.1 y y1 hy; omega
    · have := k.2.1 y (by omega) y2; omega
  · by_cases hv : v < m
    · obtain ⟨x, k1, k2, k3⟩ := h.2.2 v h1 hv
      obtain ⟨y, y1, y2, e⟩ := p.2.2 x k1 (by omega)
      exact ⟨y, y1, y2, e.symm.trans k3⟩
    · obtain ⟨x, k1, k2, k3⟩ := k.2.2 v (by omega) h2
      obtain ⟨y, y1, y2, e⟩ := p.2.2 x (by omega) k2
      exact ⟨y, y1, y2, e.symm.trans k3⟩
/-- Of the identity, sorted on [lo, hi). -/
theorem Good.of {g : Nat → Nat} {lo hi : Nat} (id : ∀ x, lo ≤ x → x < hi → f x = x) (p : Same f g lo hi) (s : Srt key g lo hi) : Good key g lo hi := by
  refine ⟨s, fun x h1 h2 => ?_, fun v h1 h2 => ?_⟩
  · obtain ⟨y, y1, y2, e⟩ := p.2.1 x h1 h2
    rw [e, id y y1 y2]; exact ⟨y1, y2⟩
  · obtain ⟨y, y1, y2, e⟩ := p.2.2 v h1 h2
    exact ⟨y, y1, y2, by rw [← e, id v h1 h2]⟩
/-- The blocks of a round: those ahead of number 2 q are merged two by two. -/
def Blks (key : Nat → Int) (f : Nat → Nat) (n s q : Nat) : Prop := (∀ p, p < q → Good key f (s * (2 * p)) (s * (2 * p + 2))) ∧ ∀ p, 2 * q ≤ p → s * p < n → Good key f (s * p) (min n (s * (p + 1)))
theorem Blks.step {g : Nat → Nat} {n s q : Nat} (h : Blks key f n s q) (hb : s * (2 * q + 2) ≤ n) (hs : 0 < s) (p : Same f g (s * (2 * q)) (s * (2 * q + 2))) (k : Srt key g (s * (2 * q)) (s * (2 * q + 2))) : Blks key g n s (q + 1) := by
  have e1 : s * (2 * q + 1) = s * (2 * q) + s := Nat.mul_succ s (2 * q)
  have e2 : s * (2 * q + 2) = s * (2 * q) + s + s := by rw [show 2 * q + 2 = 2 * q + 1 + 1 by omega, Nat.mul_succ, e1]
  have b1 := h.2 (2 * q) (Nat.le_refl _) (by omega)
  have b2 := h.2 (2 * q + 1) (by omega) (by omega)
  rw [Nat.min_eq_right (by omega)] at b1
  rw [show 2 * q + 1 + 1 = 2 * q + 2 by omega, Nat.min_eq_right (by omega)] at b2
  refine ⟨fun t ht => ?_, fun t ht htn => ?_⟩
  · rcases Nat.lt_or_eq_of_le (show t ≤ q by omega) with h1 | h1
    · exact (h.1 t h1).same p (.inl (Nat.mul_le_mul_left s (by omega)))
    · rw [h1]; exact b1.merge (by omega) (by omega) b2 p k
  · exact (h.2 t (by omega) htn).same p (.inr (Nat.mul_le_mul_left s (by omega)))
theorem Blks.close {g : Nat → Nat} {n s q : Nat} (h : Blks key f n s q) (ha : s * (2 * q) ≤ n) (hb : n < s * (2 * q + 2)) (hs : 0 < s) (hp : s * (2 * q + 1) < n → Same f g (s * (2 * q)) n ∧ Srt key g (s * (2 * q)) n) (hn : ¬ s * (2 * q + 1) < n → g = f) : Blks key g n (2 * s) 0 := by
  have e1 : s * (2 * q + 1) = s * (2 * q) + s := Nat.mul_succ s (2 * q)
  have e2 : s * (2 * q + 2) = s * (2 * q) + s + s := by rw [show 2 * q + 2 = 2 * q + 1 + 1 by omega, Nat.mul_succ, e1]
  have G : ∀ p, p < q → Good key g (s * (2 * p)) (s * (2 * p + 2)) := fun p hq => by
    by_cases c : s * (2 * q + 1) < n
    · exact (h.1 p hq).same (hp c).1 (.inl (Nat.mul_le_mul_left s (by omega)))
    · rw [hn c]; exact h.1 p hq
  have T : s * (2 * q) < n → Good key g (s * (2 * q)) n := fun hlt => by
    have b1 := h.2 (2 * q) (Nat.le_refl _) hlt
    by_cases c : s * (2 * q + 1) < n
    · have b2 := h.2 (2 * q + 1) (by omega) c
      rw [Nat.min_eq_right (by omega)] at b1
      rw [show 2 * q + 1 + 1 = 2 * q + 2 by omega, Nat.min_eq_left (by omega)] at b2
      exact b1.merge (by omega) (by omega) b2 (hp c).1 (hp c).2
    · rw [Nat.min_eq_left (by omega)] at b1
      rw [hn c]; exact b1
  refine ⟨fun p hp => absurd hp (by omega), fun p _ hpn => ?_⟩
  have f1 : 2 * s * p = s * (2 * p) := by rw [Nat.mul_comm 2 s, Nat.mul_assoc]
  have f2 : 2 * s * (p + 1) = s * (2 * p + 2) := by rw [Nat.mul_comm 2 s, Nat.mul_assoc]; rfl
  rw [f1] at hpn ⊢
  rw [f2]
  rcases Nat.lt_trichotomy p q with c | c | c
  · have : s * (2 * p + 2) ≤ s * (2 * q) := Nat.mul_le_mul_left s (by omega)
    rw [Nat.min_eq_right (by omega)]; exact G p c
  · subst c; rw [Nat.min_eq_left (by omega)]; exact T hpn
  · have : s * (2 * q + 2) ≤ s * (2 * p) := Nat.mul_le_mul_left s (by omega)
    omega
theorem Blks.done {n s : Nat} (h : Blks key f n s 0) (hn : n ≤ s) (h0 : 0 < n) : Good key f 0 n := by
  have := h.2 0 (by omega) (by omega)
  rwa [Nat.mul_zero, Nat.zero_add, Nat.mul_one, Nat.min_eq_left hn] at this
end Go.Proofs.YtakfjdnpfhcgkaaGreatDoor
