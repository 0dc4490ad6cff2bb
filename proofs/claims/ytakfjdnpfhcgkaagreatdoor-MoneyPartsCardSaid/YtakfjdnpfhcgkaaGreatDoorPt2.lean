/-
  Plain Lean: tiers as text: what Format writes, what Parse answers; there and back.
-/
import Derived.Lib.SplitLaws
import Derived.Lib.AtoiAll
import Derived.Lib.Join
import Derived.Lib.ItoaNum
import Derived.Test.YtakfjdnpfhcgkaaGreatDoorBt
import Derived.Test.YtakfjdnpfhcgkaaGreatDoorDm
/-
  Plain Lean: texts cut at a byte; numbers as texts; tiers as text.
-/
namespace Go.Proofs.YtakfjdnpfhcgkaaGreatDoor
set_option linter.all false
open Go.Lib

/-- The first c of a text. -/
theorem first_byte (c : UInt8) : ∀ l : List UInt8, (index l [c] = -1 ∧ ∀ b ∈ l, b ≠ c) ∨ ∃ z r, l = z ++ c :: r ∧ (∀ b ∈ z, b ≠ c) ∧ index l [c] = z.length
  | [] => .inl ⟨rfl, by simp⟩
  | b :: l => by
    by_cases hb : b = c
    · subst hb
      exact .inr ⟨[], l, rfl, by simp, by simp [index, List.isPrefixOf]⟩
    · have e2 : (c == b) = false := beq_eq_false_iff_ne.2 (fun h => hb h.symm)
      rcases first_byte c l with ⟨h2, h3⟩ | ⟨z, r, h1, h2, h4⟩
      · refine .inl ⟨by simp [index, List.isPrefixOf, e2, h2], ?_⟩
        intro x hx
        rcases List.mem_cons.1 hx with rfl | hx
        · exact hb
        · exact h3 x hx
      · refine .inr ⟨b :: z, r, by rw [h1]; rfl, ?_, ?_⟩
        · intro x hx
          rcases List.mem_cons.1 hx with rfl | hx
          · exact hb
          · exact h2 x hx
        · have : ((z.length : Int) == -1) = false := by rw [beq_eq_false_iff_ne]; omega
          simp [index, List.isPrefixOf, e2, h4, this]
/-! ### numbers -/
theorem dec_digits : ∀ n : Nat, decDigits n = if n = 0 then [48] else dec n := by
  intro n
  induction n using Nat.strongRecOn with
  | _ n ih =>
    rw [decDigits]
    by_cases h : n < 10
    · rw [dif_pos h]
      by_cases h0 : n = 0
      · subst h0; rfl
      · rw [if_neg h0, dec_pos h0, show n / 10 = 0 by omega, dec_0, Nat.mod_eq_of_lt h]; rfl
    · rw [dif_neg h, ih _ (by omega), if_neg (show ¬ n / 10 = 0 by omega), if_neg (show ¬ n = 0 by omega)]
      conv => rhs; rw [dec_pos (show n ≠ 0 by omega)]
      rfl
theorem itoa_txt (z : Int) : itoa z = txt z := by
  unfold itoa txt
  by_cases h0 : z = 0
  · subst h0; rw [if_neg (by omega), if_pos rfl]; exact dec_digits 0
  · rw [if_neg h0]
    by_cases h : z < 0
    · rw [if_pos h, if_pos h, dec_digits, if_neg (by omega)]
    · rw [if_neg h, if_neg h, dec_digits, if_neg (by omega), show z.toNat = z.natAbs by omega]
/-- Digits alone, without 0 ahead. -/
def numF (l : List UInt8) : Bool := !l.isEmpty && (l.all (fun b => decide (48 ≤ b.toNat) && decide (b.toNat ≤ 57)) && (l.length == 1 || l.head? != some 48))
theorem numF_iff {l : List UInt8} : numF l = true ↔ l ≠ [] ∧ DigB l ∧ (l.length = 1 ∨ l.head? ≠ some 48) := by simp [numF, DigB]
def dvA (a : Nat) (l : List UInt8) : Nat := l.foldl (fun a b => 10 * a + (b.toNat - 48)) a
theorem dvA_cons (a : Nat) (b : UInt8) (l : List UInt8) : dvA a (b :: l) = dvA (10 * a + (b.toNat - 48)) l := by unfold dvA; rw [List.foldl_cons]
theorem dvA_ge : ∀ (l : List UInt8) (a : Nat), a ≤ dvA a l
  | [], a => Nat.le_refl _
  | b :: l, a => by rw [dvA_cons]; have := dvA_ge l (10 * a + (b.toNat - 48)); omega
theorem parse_dig : ∀ (l : List UInt8) (a : Nat), DigB l → a < 18446744073709551616 → parseUint10 a l = if dvA a l < 18446744073709551616 then .ok (dvA a l) else .range
  | [], a, _, h => by rw [show dvA a [] = a from rfl, if_pos h]; rfl
  | b :: l, a, hd, h => by
    have hb := hd b (List.mem_cons_self ..)
    have ge := dvA_ge l (10 * a + (b.toNat - 48))
    rw [parseUint10, if_pos hb, dvA_cons]
    by_cases h1 : 1844674407370955162 ≤ a
    · rw [if_pos h1, if_neg (by omega)]
    · rw [if_neg h1]
      by_cases h2 : 18446744073709551616 ≤ a * 10 + (b.toNat - 48)
      · rw [if_pos h2, if_neg (by omega)]
      · rw [if_neg h2, Nat.mul_comm a 10]
        exact parse_dig l _ (fun x hx => hd x (List.mem_cons_of_mem _ hx)) (by omega)
theorem atoi_num {l : List UInt8} (h : l ≠ []) (hd : DigB l) : atoiAll l = if dv l < 9223372036854775808 then .ok (dv l : Int) else .range := by
  cases l with
  | nil => exact absurd rfl h
  | cons c r =>
    have hc := hd c (List.mem_cons_self ..)
    have hp := parse_dig (c :: r) 0 hd (by omega)
    have e : dvA 0 (c :: r) = dv (c :: r) := rfl
    unfold atoiAll
    simp only
    rw [if_neg (show ¬ (c.toNat = 43 ∨ c.toNat = 45) by omega)]
    unfold parseMag
    rw [if_neg h, hp, e]
    have n45 : ¬ c.toNat = 45 := by omega
    by_cases h1 : dv (c :: r) < 18446744073709551616
    · rw [if_pos h1]
      simp only [n45, not_false_eq_true, true_and, false_and, if_false]
      by_cases h2 : dv (c :: r) < 9223372036854775808
      · rw [if_neg (by omega), if_pos h2]
      · rw [if_pos (by omega), if_neg h2]
    · rw [if_neg h1, if_neg (by omega)]
theorem sat_num {l : List UInt8} (h : l ≠ []) (hd : DigB l) : atoiSat l = 9223372036854775807 := by
  cases l with
  | nil => exact absurd rfl h
  | cons c r =>
    have hc := hd c (List.mem_cons_self ..)
    unfold atoiSat
    rw [if_neg (by simp; omega)]
end Go.Proofs.YtakfjdnpfhcgkaaGreatDoor

/-
  Plain Lean: tiers as text: what Format writes, what Parse answers; there and back.
-/
namespace Go.Proofs.YtakfjdnpfhcgkaaGreatDoor
set_option linter.all false
open Go.Lib

/-- Ahead of the first c, and behind it. -/
def cutAt (c : UInt8) : List UInt8 → Option (List UInt8 × List UInt8)
  | [] => none
  | b :: r => if b = c then some ([], r) else (cutAt c r).map (fun x => (b :: x.1, x.2))
theorem cutAt_free {c : UInt8} : ∀ {l : List UInt8}, (∀ b ∈ l, b ≠ c) → cutAt c l = none
  | [], _ => rfl
  | b :: r, h => by rw [cutAt, if_neg (h b (List.mem_cons_self ..)), cutAt_free (fun x hx => h x (List.mem_cons_of_mem _ hx))]; rfl
theorem cutAt_hit {c : UInt8} : ∀ {z : List UInt8} (r : List UInt8), (∀ b ∈ z, b ≠ c) → cutAt c (z ++ c :: r) = some (z, r)
  | [], r, _ => by simp [cutAt]
  | b :: z, r, h => by
    rw [List.cons_append, cutAt, if_neg (h b (List.mem_cons_self ..)), cutAt_hit r (fun x hx => h x (List.mem_cons_of_mem _ hx))]; rfl
/-! ### there and back -/
theorem txt_nonneg {z : Int} (h : 0 ≤ z) : numF (txt z) = true ∧ dv (txt z) = z.toNat := by
  unfold txt
  by_cases h0 : z = 0
  · subst h0; exact ⟨by decide, by decide⟩
  · rw [if_neg h0, if_neg (by omega)]
    have hn : z.natAbs ≠ 0 := by omega
    refine ⟨numF_iff.2 ⟨?_, dec_dig _, ?_⟩, by rw [dv_dec]; omega⟩
    · rw [dec_pos hn]; simp
    · right
      cases hd : dec z.natAbs with
      | nil => simp
      | cons b r =>
        have := dec_head hd
        simp
        intro e; apply this; rw [e]; rfl
end Go.Proofs.YtakfjdnpfhcgkaaGreatDoor
