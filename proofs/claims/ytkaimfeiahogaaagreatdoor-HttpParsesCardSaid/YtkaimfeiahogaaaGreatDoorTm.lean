/-
  The plain words of package tier: lists of tiers, what they must be, what they cost; no Go in sight.
-/
import Derived.Test.YtkaimfeiahogaaaGreatDoorDm
namespace Go.Proofs.YtkaimfeiahogaaaGreatDoor
set_option linter.all false

/-- From a tier on: may they be? 'ahead' is the end of the one ahead. -/
def okFrom : Int → List (Int × Int) → Bool
  | _, [] => true
  | _, [t] => decide (t.1 = 0) && decide (0 ≤ t.2) && decide (t.2 ≤ 1125899906842624)
  | ahead, t :: u :: r => decide (ahead < t.1) && decide (t.1 ≤ 1125899906842624) && decide (0 ≤ t.2) && decide (t.2 ≤ 1125899906842624) && okFrom t.1 (u :: r)
/-- What tier.Check says. -/
def checkT (l : List (Int × Int)) : Int := if l.length = 0 ∨ 20 < l.length then 9 else if okFrom 0 l = true then 0 else 6

theorem okFrom_last (ah u p : Int) : okFrom ah [(u, p)] = (decide (u = 0) && decide (0 ≤ p) && decide (p ≤ 1125899906842624)) := rfl
theorem okFrom_mid (ah u p : Int) (r : List (Int × Int)) (h : r ≠ []) : okFrom ah ((u, p) :: r) = (decide (ah < u) && decide (u ≤ 1125899906842624) && decide (0 ≤ p) && decide (p ≤ 1125899906842624) && okFrom u r) := by
  cases r with
  | nil => exact absurd rfl h
  | cons x y => rfl
theorem drop_tier (l : List (Int × Int)) (k : Nat) (u p : Int) (h : l[k]? = some (u, p)) : l.drop k = (u, p) :: l.drop (k + 1) := by
  obtain ⟨hk, he⟩ := List.getElem?_eq_some_iff.1 h
  rw [List.drop_eq_getElem_cons hk, he]
theorem chk_6 {l : List (Int × Int)} (h1 : l.length ≠ 0) (h2 : l.length ≤ 20) (h : okFrom 0 l = false) : checkT l = 6 := by
  unfold checkT; rw [if_neg (by omega), h]; rfl
theorem chk_0 {l : List (Int × Int)} (h1 : l.length ≠ 0) (h2 : l.length ≤ 20) (h : okFrom 0 l = true) : checkT l = 0 := by
  unfold checkT; rw [if_neg (by omega), h]; rfl
section
variable {l : List (Int × Int)} {k : Nat} {ah u p : Int}
theorem chk_last_bad (h1 : l.length ≠ 0) (h2 : l.length ≤ 20) (hk : l[k]? = some (u, p)) (hl : k + 1 = l.length) (hok : okFrom ah (l.drop k) = okFrom 0 l) (hb : ¬ (u = 0 ∧ 0 ≤ p ∧ p ≤ 1125899906842624)) : checkT l = 6 := by
  refine chk_6 h1 h2 ?_
  rw [← hok, drop_tier l k u p hk, List.drop_of_length_le (by omega), okFrom_last]
  simp; omega
theorem chk_last_good (hk : l[k]? = some (u, p)) (hl : k + 1 = l.length) (hok : okFrom ah (l.drop k) = okFrom 0 l) (hb : u = 0 ∧ 0 ≤ p ∧ p ≤ 1125899906842624) : okFrom u (l.drop (k + 1)) = okFrom 0 l := by
  rw [← hok, drop_tier l k u p hk, List.drop_of_length_le (by omega), okFrom_last]
  obtain ⟨h1, h2, h3⟩ := hb
  simp [h1, h2, h3, okFrom]
theorem chk_mid_bad (h1 : l.length ≠ 0) (h2 : l.length ≤ 20) (hk : l[k]? = some (u, p)) (hl : k + 1 < l.length) (hok : okFrom ah (l.drop k) = okFrom 0 l) (hb : ¬ (ah < u ∧ u ≤ 1125899906842624 ∧ 0 ≤ p ∧ p ≤ 1125899906842624)) : checkT l = 6 := by
  refine chk_6 h1 h2 ?_
  rw [← hok, drop_tier l k u p hk, okFrom_mid _ _ _ _ (by intro h; have := congrArg List.length h; simp at this; omega)]
  have : (decide (ah < u) && decide (u ≤ 1125899906842624) && decide (0 ≤ p) && decide (p ≤ 1125899906842624)) = false := by
    rw [Bool.eq_false_iff]; intro h; simp at h; omega
  rw [this]; rfl
theorem chk_mid_good (hk : l[k]? = some (u, p)) (hl : k + 1 < l.length) (hok : okFrom ah (l.drop k) = okFrom 0 l) (hb : ah < u ∧ u ≤ 1125899906842624 ∧ 0 ≤ p ∧ p ≤ 1125899906842624) : okFrom u (l.drop (k + 1)) = okFrom 0 l := by
  rw [← hok, drop_tier l k u p hk, okFrom_mid _ _ _ _ (by intro h; have := congrArg List.length h; simp at this; omega)]
  obtain ⟨h1, h2, h3, h4⟩ := hb
  simp [h1, h2, h3, h4]
end

/-- How much of a quantity lies in a tier that ends at u, behind 'ahead'. -/
def partT (ahead u q : Int) : Int := if 0 < u then min (q - ahead) (u - ahead) else q - ahead
/-- What tier.byTiers sums up, from a tier on. -/
def byT : List (Int × Int) → Int → Int → Int
  | [], _, _ => 0
  | t :: r, ahead, q => if partT ahead t.1 q ≤ 0 then 0 else partT ahead t.1 q * t.2 + byT r t.1 q

theorem tier_facts {l : List (Int × Int)} {k : Nat} {ah u p : Int} (hk : l[k]? = some (u, p)) (hok : okFrom ah (l.drop k) = true) :
    ((k + 1 = l.length ∧ u = 0) ∨ (k + 1 < l.length ∧ ah < u ∧ u ≤ 1125899906842624)) ∧ 0 ≤ p ∧ p ≤ 1125899906842624 ∧ okFrom u (l.drop (k + 1)) = true := by
  have hlt : k < l.length := (List.getElem?_eq_some_iff.1 hk).1
  rw [drop_tier l k u p hk] at hok
  by_cases h : k + 1 = l.length
  · rw [List.drop_of_length_le (by omega), okFrom_last] at hok
    simp at hok
    refine ⟨.inl ⟨h, hok.1.1⟩, hok.1.2, hok.2, ?_⟩
    rw [List.drop_of_length_le (by omega)]; rfl
  · rw [okFrom_mid _ _ _ _ (by intro h; have := congrArg List.length h; simp at this; omega)] at hok
    simp at hok
    exact ⟨.inr ⟨by omega, hok.1.1.1.1, hok.1.1.1.2⟩, hok.1.1.2, hok.1.2, hok.2⟩
theorem byT_step {l : List (Int × Int)} {k : Nat} {ah u p s q : Int} (hk : l[k]? = some (u, p)) (hs : s + byT (l.drop k) ah q = byT l 0 q) (h : ¬ partT ah u q ≤ 0) :
    s + partT ah u q * p + byT (l.drop (k + 1)) u q = byT l 0 q := by
  rw [← hs, drop_tier l k u p hk]
  simp only [byT]
  rw [if_neg h]; omega
theorem byT_stop {l : List (Int × Int)} {k : Nat} {ah u p s q : Int} (hk : l[k]? = some (u, p)) (hs : s + byT (l.drop k) ah q = byT l 0 q) (h : partT ah u q ≤ 0) : byT l 0 q = s := by
  rw [← hs, drop_tier l k u p hk]
  simp only [byT]
  rw [if_pos h]; omega
theorem byT_end {l : List (Int × Int)} {ah s q : Int} {n : Nat} (hn : l.length = n) (hs : s + byT (l.drop n) ah q = byT l 0 q) : byT l 0 q = s := by
  rw [← hs, List.drop_of_length_le (by omega)]; simp [byT]
theorem mul_50 {a b : Int} (h0 : 0 ≤ a) (h1 : a ≤ 1125899906842624) (k0 : 0 ≤ b) (k1 : b ≤ 1125899906842624) : 0 ≤ a * b ∧ a * b ≤ 1267650600228229401496703205376 :=
  ⟨Int.mul_nonneg h0 k0, by have : a * b ≤ 1125899906842624 * 1125899906842624 := Int.mul_le_mul h1 k1 k0 (by decide); omega⟩

/-- What tier.byVolume makes of a quantity, from a tier on. -/
def byV : List (Int × Int) → Int → Int
  | [], _ => 0
  | t :: r, q => if q ≤ t.1 ∨ t.1 = 0 then q * t.2 else byV r q
theorem byV_hit {l : List (Int × Int)} {k : Nat} {u p q : Int} (hk : l[k]? = some (u, p)) (h : q ≤ u ∨ u = 0) : byV (l.drop k) q = q * p := by
  rw [drop_tier l k u p hk]; simp only [byV]; rw [if_pos h]
theorem byV_miss {l : List (Int × Int)} {k : Nat} {u p q : Int} (hk : l[k]? = some (u, p)) (h : ¬ q ≤ u) (h0 : ¬ u = 0) : byV (l.drop k) q = byV (l.drop (k + 1)) q := by
  rw [drop_tier l k u p hk]; simp only [byV]; rw [if_neg (by omega)]

/-- What tier.units makes of a number: itself and 0, or 0 and 16. -/
def unitsN (a : Int) : Int := if -4611686018427387904 ≤ a ∧ a ≤ 4611686018427387904 then a else 0
def unitsE (a : Int) : Int := if -4611686018427387904 ≤ a ∧ a ≤ 4611686018427387904 then 0 else 16
/-- What a way of pricing x makes of a list and a quantity: the units, the error. -/
def priceN (l : List (Int × Int)) (q x : Int) : Int := if checkT l = 0 ∧ 0 ≤ q ∧ q ≤ 1125899906842624 then unitsN (rhe x 1000000) else 0
def priceE (l : List (Int × Int)) (q x : Int) : Int := if checkT l = 0 then if 0 ≤ q ∧ q ≤ 1125899906842624 then unitsE (rhe x 1000000) else 6 else checkT l
theorem chk_cases (l : List (Int × Int)) : checkT l = 9 ∨ checkT l = 6 ∨ (checkT l = 0 ∧ l.length ≠ 0 ∧ l.length ≤ 20 ∧ okFrom 0 l = true) := by
  unfold checkT
  by_cases h : l.length = 0 ∨ 20 < l.length
  · rw [if_pos h]; exact .inl rfl
  · rw [if_neg h]
    by_cases k : okFrom 0 l = true
    · rw [if_pos k]; exact .inr (.inr ⟨rfl, by omega, by omega, k⟩)
    · rw [if_neg k]; exact .inr (.inl rfl)
theorem okFrom_price {u p : Int} : ∀ {l : List (Int × Int)} {ah : Int}, okFrom ah l = true → (u, p) ∈ l → 0 ≤ p ∧ p ≤ 1125899906842624
  | [], _, _, h => by cases h
  | [t], ah, h, hm => by
    simp [okFrom] at h
    simp at hm; subst hm; exact ⟨h.1.2, h.2⟩
  | t :: x :: r, ah, h, hm => by
    simp [okFrom] at h
    rcases List.mem_cons.1 hm with rfl | hm
    · exact ⟨h.1.1.2, h.1.2⟩
    · exact okFrom_price (l := x :: r) h.2 hm
theorem byT_bd {q : Int} (hq0 : 0 ≤ q) (hq : q ≤ 1125899906842624) : ∀ {l : List (Int × Int)} {ah : Int}, 0 ≤ ah → (∀ t ∈ l, 0 ≤ t.2 ∧ t.2 ≤ 1125899906842624 ∧ 0 ≤ t.1) → 0 ≤ byT l ah q ∧ byT l ah q ≤ l.length * 1267650600228229401496703205376
  | [], _, _, _ => by simp [byT]
  | t :: r, ah, ha, h => by
    have ht := h t (by simp)
    have ih := byT_bd hq0 hq (l := r) (ah := t.1) ht.2.2 (fun x hx => h x (by simp [hx]))
    simp only [byT]
    split
    · simp; omega
    · rename_i hp
      have hp1 : partT ah t.1 q ≤ 1125899906842624 := by unfold partT; split <;> omega
      have m := mul_50 (a := partT ah t.1 q) (b := t.2) (by omega) hp1 ht.1 ht.2.1
      simp only [List.length_cons]
      omega
theorem okFrom_upTo : ∀ {l : List (Int × Int)} {ah : Int}, 0 ≤ ah → okFrom ah l = true → ∀ t ∈ l, 0 ≤ t.1
  | [], _, _, _, _, h => by cases h
  | [t], ah, _, h, x, hm => by
    simp [okFrom] at h
    simp at hm; subst hm; omega
  | t :: y :: r, ah, ha, h, x, hm => by
    simp [okFrom] at h
    rcases List.mem_cons.1 hm with rfl | hm
    · omega
    · exact okFrom_upTo (l := y :: r) (ah := t.1) (by omega) h.2 x hm
theorem byT_in (l : List (Int × Int)) (q : Int) (hq0 : 0 ≤ q) (hq : q ≤ 1125899906842624) (hl : l.length ≤ 20) (hok : okFrom 0 l = true) : 0 ≤ byT l 0 q ∧ byT l 0 q ≤ 25353012004564588029934064107520 := by
  have := byT_bd hq0 hq (l := l) (ah := 0) (by omega) (fun t ht => ⟨(okFrom_price (u := t.1) (p := t.2) hok ht).1, (okFrom_price (u := t.1) (p := t.2) hok ht).2, okFrom_upTo (by omega) hok t ht⟩)
  omega
theorem byV_in (q : Int) (hq0 : 0 ≤ q) (hq : q ≤ 1125899906842624) : ∀ (l : List (Int × Int)), (∀ t ∈ l, 0 ≤ t.2 ∧ t.2 ≤ 1125899906842624) → 0 ≤ byV l q ∧ byV l q ≤ 1267650600228229401496703205376
  | [], _ => by simp [byV]
  | t :: r, h => by
    simp only [byV]
    split
    · exact mul_50 hq0 hq (h t (by simp)).1 (h t (by simp)).2
    · exact byV_in q hq0 hq r (fun x hx => h x (by simp [hx]))
end Go.Proofs.YtkaimfeiahogaaaGreatDoor
