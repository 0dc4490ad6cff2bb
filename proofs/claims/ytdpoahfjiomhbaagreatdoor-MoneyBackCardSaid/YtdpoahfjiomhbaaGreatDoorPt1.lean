/-
  Plain Lean: texts cut at a byte; numbers as texts; tiers as text.
-/
import Derived.Lib.SplitLaws
import Derived.Lib.AtoiAll
import Derived.Lib.Join
import Derived.Lib.ItoaNum
import Derived.Test.YtdpoahfjiomhbaaGreatDoorBt
namespace Go.Proofs.YtdpoahfjiomhbaaGreatDoor
set_option linter.all false
open Go.Lib

/-- A text's pieces between the bytes c. -/
def pieces (c : UInt8) : List UInt8 → List (List UInt8)
  | [] => [[]]
  | b :: r => if b = c then [] :: pieces c r else match pieces c r with
    | [] => [[b]]
    | p :: ps => (b :: p) :: ps
theorem pieces_ne (c : UInt8) (l : List UInt8) : pieces c l ≠ [] := by
  cases l with
  | nil => simp [pieces]
  | cons b r =>
    unfold pieces
    split
    · simp
    · split <;> simp
theorem pieces_free {c : UInt8} : ∀ {l : List UInt8}, (∀ b ∈ l, b ≠ c) → pieces c l = [l]
  | [], _ => rfl
  | b :: r, h => by
    unfold pieces
    rw [if_neg (h b (List.mem_cons_self ..)), pieces_free (fun x hx => h x (List.mem_cons_of_mem _ hx))]
theorem pieces_cut {c : UInt8} : ∀ {z : List UInt8} (r : List UInt8), (∀ b ∈ z, b ≠ c) → pieces c (z ++ c :: r) = z :: pieces c r
  | [], r, _ => by simp [pieces]
  | b :: z, r, h => by
    rw [List.cons_append, pieces, if_neg (h b (List.mem_cons_self ..)), pieces_cut r (fun x hx => h x (List.mem_cons_of_mem _ hx))]
/-- The first c of a text. -/
theorem first_byte (c : UInt8) : ∀ l : List UInt8, (index l [c] = -1 ∧ ∀ b ∈ l, b ≠ c) ∨ ∃ z r, l = z ++ c :: r ∧ (∀ b ∈ z, b ≠ c) ∧ index l [c] = z.length
  | [] => .inl ⟨rfl, by simp⟩
  | b :: l => by
    by_cases hb : b = c
    · subst hb
      exact .inr ⟨[], l, rfl, by simp, by simp [index, List.isPrefixOf]⟩
    · have e2 : (c == b) = false := beq_eq_false_iff_ne.2 (fun h => hb h.symm)
      rcases first_byte c l with ⟨h2, h3⟩ | ⟨z, r, h1, h2, h4⟩
      · refine .inl ⟨by simp [index, List.isPrefixOf, e2, h2], ?_⟩
        intro x hx
        rcases List.mem_cons.1 hx with rfl | hx
        · exact hb
        · exact h3 x hx
      · refine .inr ⟨b :: z, r, by rw [h1]; rfl, ?_, ?_⟩
        · intro x hx
          rcases List.mem_cons.1 hx with rfl | hx
          · exact hb
          · exact h2 x hx
        · have : ((z.length : Int) == -1) = false := by rw [beq_eq_false_iff_ne]; omega
          simp [index, List.isPrefixOf, e2, h4, this]
theorem split_pieces (c : UInt8) : ∀ (n : Nat) (l : List UInt8), l.length ≤ n → splitK [c] 0 (count l [c]) l = pieces c l := by
  intro n
  induction n with
  | zero =>
    intro l h
    obtain rfl : l = [] := List.eq_nil_of_length_eq_zero (by omega)
    rfl
  | succ n ih =>
    intro l h
    rcases first_byte c l with ⟨h2, h3⟩ | ⟨z, r, h1, h2, h4⟩
    · rw [count_miss h2, pieces_free h3]; rfl
    · have hc := count_hit (by simp) h4
      have hd : l.drop (z.length + 1) = r := by rw [h1]; simp
      have ht : l.take z.length = z := by rw [h1]; simp
      rw [show ([c] : List UInt8).length = 1 from rfl, hd] at hc
      rw [hc, Nat.add_comm 1, splitK, if_neg (by rw [h4]; first | (simp; done) | (simp; omega)), h4]
      simp only [Int.toNat_natCast, Nat.add_zero, List.length_cons, List.length_nil, Nat.zero_add]
      rw [ht, hd, ih r (by rw [h1] at h; simp at h; omega), h1, pieces_cut r h2]
theorem split_eq (c : UInt8) (l : List UInt8) : split l [c] = pieces c l := split_pieces c _ l (Nat.le_refl _)

/-! ### numbers -/
theorem dec_digits : ∀ n : Nat, decDigits n = if n = 0 then [48] else dec n := by
  intro n
  induction n using Nat.strongRecOn with
  | _ n ih =>
    rw [decDigits]
    by_cases h : n < 10
    · rw [dif_pos h]
      by_cases h0 : n = 0
      · subst h0; rfl
      · rw [if_neg h0, dec_pos h0, show n / 10 = 0 by omega, dec_0, Nat.mod_eq_of_lt h]; rfl
    · rw [dif_neg h, ih _ (by omega), if_neg (show ¬ n / 10 = 0 by omega), if_neg (show ¬ n = 0 by omega)]
      conv => rhs; rw [dec_pos (show n ≠ 0 by omega)]
      rfl
theorem itoa_txt (z : Int) : itoa z = txt z := by
  unfold itoa txt
  by_cases h0 : z = 0
  · subst h0; rw [if_neg (by omega), if_pos rfl]; exact dec_digits 0
  · rw [if_neg h0]
    by_cases h : z < 0
    · rw [if_pos h, if_pos h, dec_digits, if_neg (by omega)]
    · rw [if_neg h, if_neg h, dec_digits, if_neg (by omega), show z.toNat = z.natAbs by omega]
/-- Digits alone, without 0 ahead. -/
def numF (l : List UInt8) : Bool := !l.isEmpty && (l.all (fun b => decide (48 ≤ b.toNat) && decide (b.toNat ≤ 57)) && (l.length == 1 || l.head? != some 48))
theorem numF_iff {l : List UInt8} : numF l = true ↔ l ≠ [] ∧ DigB l ∧ (l.length = 1 ∨ l.head? ≠ some 48) := by simp [numF, DigB]
def dvA (a : Nat) (l : List UInt8) : Nat := l.foldl (fun a b => 10 * a + (b.toNat - 48)) a
theorem dvA_cons (a : Nat) (b : UInt8) (l : List UInt8) : dvA a (b :: l) = dvA (10 * a + (b.toNat - 48)) l := by unfold dvA; rw [List.foldl_cons]
theorem dvA_ge : ∀ (l : List UInt8) (a : Nat), a ≤ dvA a l
  | [], a => Nat.le_refl _
  | b :: l, a => by rw [dvA_cons]; have := dvA_ge l (10 * a + (b.toNat - 48)); omega
theorem parse_dig : ∀ (l : List UInt8) (a : Nat), DigB l → a < 18446744073709551616 → parseUint10 a l = if dvA a l < 18446744073709551616 then .ok (dvA a l) else .range
  | [], a, _, h => by rw [show dvA a [] = a from rfl, if_pos h]; rfl
  | b :: l, a, hd, h => by
    have hb := hd b (List.mem_cons_self ..)
    have ge := dvA_ge l (10 * a + (b.toNat - 48))
    rw [parseUint10, if_pos hb, dvA_cons]
    by_cases h1 : 1844674407370955162 ≤ a
    · rw [if_pos h1, if_neg (by omega)]
    · rw [if_neg h1]
      by_cases h2 : 18446744073709551616 ≤ a * 10 + (b.toNat - 48)
      · rw [if_pos h2, if_neg (by omega)]
      · rw [if_neg h2, Nat.mul_comm a 10]
        exact parse_dig l _ (fun x hx => hd x (List.mem_cons_of_mem _ hx)) (by omega)
theorem atoi_num {l : List UInt8} (h : l ≠ []) (hd : DigB l) : atoiAll l = if dv l < 9223372036854775808 then .ok (dv l : Int) else .range := by
  cases l with
  | nil => exact absurd rfl h
  | cons c r =>
    have hc := hd c (List.mem_cons_self ..)
    have hp := parse_dig (c :: r) 0 hd (by omega)
    have e : dvA 0 (c :: r) = dv (c :: r) := rfl
    unfold atoiAll
    simp only
    rw [if_neg (show ¬ (c.toNat = 43 ∨ c.toNat = 45) by omega)]
    unfold parseMag
    rw [if_neg h, hp, e]
    have n45 : ¬ c.toNat = 45 := by omega
    by_cases h1 : dv (c :: r) < 18446744073709551616
    · rw [if_pos h1]
      simp only [n45, not_false_eq_true, true_and, false_and, if_false]
      by_cases h2 : dv (c :: r) < 9223372036854775808
      · rw [if_neg (by omega), if_pos h2]
      · rw [if_pos (by omega), if_neg h2]
    · rw [if_neg h1, if_neg (by omega)]
theorem sat_num {l : List UInt8} (h : l ≠ []) (hd : DigB l) : atoiSat l = 9223372036854775807 := by
  cases l with
  | nil => exact absurd rfl h
  | cons c r =>
    have hc := hd c (List.mem_cons_self ..)
    unfold atoiSat
    rw [if_neg (by simp; omega)]
end Go.Proofs.YtdpoahfjiomhbaaGreatDoor
