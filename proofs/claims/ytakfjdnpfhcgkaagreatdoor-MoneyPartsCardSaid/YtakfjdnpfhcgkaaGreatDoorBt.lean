/-
  A number's decimal digits as bytes: plain laws.
-/
import Derived.Test.YtakfjdnpfhcgkaaGreatDoorBd
namespace Go.Proofs.YtakfjdnpfhcgkaaGreatDoor
set_option linter.all false

/-- A digit's byte. -/
def dg8 (r : Nat) : UInt8 := UInt8.ofNat (48 + r)
/-- The decimal digits, the first ahead; none for 0. -/
def dec (n : Nat) : List UInt8 := if n = 0 then [] else dec (n / 10) ++ [dg8 (n % 10)]
termination_by n
decreasing_by omega
theorem dec_0 : dec 0 = [] := by rw [dec]; rfl
theorem dec_pos {n : Nat} (h : n ≠ 0) : dec n = dec (n / 10) ++ [dg8 (n % 10)] := by rw [dec, if_neg h]
/-- A number's text. -/
def txt (z : Int) : List UInt8 := if z = 0 then [48] else if z < 0 then 45 :: dec z.natAbs else dec z.natAbs
/-- The places of a digit in base 10000, k of them done. -/
def pw (k : Nat) : Nat := 10 ^ (4 - k)
theorem pw_0 : pw 0 = 10000 := rfl
theorem pw_4 : pw 4 = 1 := rfl
theorem pw_step {k : Nat} (h : k < 4) : pw k = 10 * pw (k + 1) := by
  match k, h with
  | 0, _ => rfl
  | 1, _ => rfl
  | 2, _ => rfl
  | 3, _ => rfl
theorem pw_bd {k : Nat} (h : k ≤ 4) : 1 ≤ pw k ∧ pw k ≤ 10000 := by
  match k, h with
  | 0, _ => decide
  | 1, _ => decide
  | 2, _ => decide
  | 3, _ => decide
  | 4, _ => decide

/-- One digit more ahead. -/
theorem txt_step {x v k M : Nat} {o : List UInt8} (hk : k < 4) (h : dec (x + pw k * v) ++ o = dec M) (hn : x + pw k * v ≠ 0) : dec (x / 10 + pw (k + 1) * v) ++ (dg8 (x % 10) :: o) = dec M := by
  rw [← h, dec_pos hn, pw_step hk, Nat.mul_assoc, Nat.add_mul_div_left _ _ (by omega), Nat.add_mul_mod_self_left, List.append_assoc]; rfl
theorem dec_len_le : ∀ (k n : Nat), n < 10 ^ k → (dec n).length ≤ k
  | 0, n, h => by have : n = 0 := by simpa using h
                  subst this; rw [dec_0]; simp
  | k + 1, n, h => by
    by_cases z : n = 0
    · subst z; rw [dec_0]; simp
    · rw [dec_pos z]
      have := dec_len_le k (n / 10) (by rw [Nat.pow_succ] at h; omega)
      simp; omega
/-- What digits are worth. -/
def dv (l : List UInt8) : Nat := l.foldl (fun a b => 10 * a + (b.toNat - 48)) 0
def DigB (l : List UInt8) : Prop := ∀ b ∈ l, 48 ≤ b.toNat ∧ b.toNat ≤ 57
theorem dv_snoc (l : List UInt8) (b : UInt8) : dv (l ++ [b]) = 10 * dv l + (b.toNat - 48) := by simp [dv]
theorem byte_digit (r : Nat) (h : r < 10) : (dg8 r).toNat = 48 + r := by
  unfold dg8; rw [UInt8.toNat_ofNat']; omega
theorem dec_dig (n : Nat) : DigB (dec n) := by
  induction n using Nat.strongRecOn with
  | _ n ih =>
    by_cases h : n = 0
    · subst h; rw [dec_0]; intro b hb; simp at hb
    · rw [dec_pos h]
      intro b hb
      rcases List.mem_append.1 hb with k | k
      · exact ih _ (by omega) b k
      · simp at k; subst k; rw [byte_digit _ (by omega)]; omega
theorem dv_dec (n : Nat) : dv (dec n) = n := by
  induction n using Nat.strongRecOn with
  | _ n ih =>
    by_cases h : n = 0
    · subst h; rw [dec_0]; rfl
    · rw [dec_pos h, dv_snoc, ih _ (by omega), byte_digit _ (by omega)]; omega
theorem dec_head {n : Nat} : ∀ {b : UInt8} {r : List UInt8}, dec n = b :: r → b.toNat ≠ 48 := by
  induction n using Nat.strongRecOn with
  | _ n ih =>
    intro b r h
    by_cases z : n = 0
    · subst z; rw [dec_0] at h; cases h
    · rw [dec_pos z] at h
      by_cases k : n / 10 = 0
      · rw [k, dec_0] at h
        simp at h
        rw [← h.1, byte_digit _ (by omega)]; omega
      · obtain ⟨b', r', e⟩ : ∃ b' r', dec (n / 10) = b' :: r' := by
          cases e : dec (n / 10) with
          | nil => have := dv_dec (n / 10); rw [e] at this; simp [dv] at this; omega
          | cons x y => exact ⟨x, y, rfl⟩
        rw [e] at h
        have hb : b' = b := by injection h
        rw [← hb]; exact ih _ (by omega) e
theorem dec_ne {n : Nat} (h : n ≠ 0) : dec n ≠ [] := fun e => by have := dv_dec n; rw [e] at this; simp [dv] at this; omega
theorem dv_take {l : List UInt8} {k : Nat} {b : UInt8} (h : l[k]? = some b) : dv (l.take (k + 1)) = 10 * dv (l.take k) + (b.toNat - 48) := by
  obtain ⟨hk, e⟩ := List.getElem?_eq_some_iff.1 h
  rw [List.take_succ, h, Option.toList_some, dv_snoc]
theorem dv_mono (l : List UInt8) : ∀ (k j : Nat), k ≤ j → dv (l.take k) ≤ dv (l.take j) := fun k j h => by
  induction j with
  | zero => have : k = 0 := by omega
            subst this; exact Nat.le_refl _
  | succ j ih =>
    by_cases e : k = j + 1
    · subst e; exact Nat.le_refl _
    · have := ih (by omega)
      cases g : l[j]? with
      | none => rw [List.take_succ, g]; simpa using this
      | some b => rw [dv_take g]; omega
/-- What Atoi reads. -/
def intN (z : Int) : Int := if -9223372036854775808 ≤ z ∧ z ≤ 9223372036854775807 then z else 0
def intB (z : Int) : Bool := decide (-9223372036854775808 ≤ z ∧ z ≤ 9223372036854775807)
end Go.Proofs.YtakfjdnpfhcgkaaGreatDoor
