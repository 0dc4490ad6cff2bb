/-
  Plain Lean: a header's name in small letters, as Go's library makes it; a predicate on runes that no byte above 7F pays.
-/
import Derived.Test.YtkaimfeiahogaaaGreatDoorHp1
import Derived.Lib.MapLaws
import Derived.Shelf.Strings.CaseAny
import Derived.Shelf.GgClosure.StringsIndexFuncTop
namespace Go.Proofs.YtkaimfeiahogaaaGreatDoor
set_option linter.all false
open Go.Lib Go.Shelf

theorem enc_cases (r : Int) : ((0 ≤ r ∧ r ≤ 127) ∧ (encodeRune r).length = 1) ∨ (¬ (0 ≤ r ∧ r ≤ 127) ∧ 2 ≤ (encodeRune r).length ∧ ∃ b ∈ encodeRune r, 128 ≤ b.toNat) := by
  have key : ∀ (x : Int) (t : List Int), encodeRuneZ r = x :: t → 128 ≤ x → x < 256 → ∃ b ∈ encodeRune r, 128 ≤ b.toNat := fun x t e h0 h1 => by
    refine ⟨x.toNat.toUInt8, ?_, ?_⟩
    · unfold encodeRune; rw [e]; simp
    · rw [Nat.toUInt8, UInt8.toNat_ofNat']; omega
  have len : (encodeRune r).length = (encodeRuneZ r).length := by unfold encodeRune; simp
  rw [len]
  unfold encodeRuneZ at key ⊢
  split
  · left; rename_i h; exact ⟨h, rfl⟩
  · right
    rename_i h
    refine ⟨h, ?_⟩
    rw [if_neg h] at key
    split
    · rename_i h2; rw [if_pos h2] at key; exact ⟨by simp, key _ _ rfl (by omega) (by omega)⟩
    · rename_i h2; rw [if_neg h2] at key
      split
      · rename_i h3; rw [if_pos h3] at key; exact ⟨by simp, key _ _ rfl (by omega) (by omega)⟩
      · rename_i h3; rw [if_neg h3] at key
        split
        · rename_i h4; rw [if_pos h4] at key; exact ⟨by simp, key _ _ rfl (by omega) (by omega)⟩
        · rename_i h4; rw [if_neg h4] at key; exact ⟨by simp, key _ _ rfl (by omega) (by omega)⟩
/-- Small letters make no text longer, and one with bytes above 7F shorter, if all that comes out is below 80. -/
theorem lower_shrinks : ∀ (n : Nat) (l : List UInt8), l.length ≤ n → (∀ b ∈ toLowerD l, b.toNat < 128) → (toLowerD l).length ≤ l.length ∧ ((toLowerD l).length = l.length → ∀ b ∈ l, b.toNat < 128)
  | 0, l, hn, _ => by
    have : l = [] := List.eq_nil_of_length_eq_zero (by omega)
    subst this
    exact ⟨Nat.le_refl _, fun _ b hb => by simp at hb⟩
  | n + 1, [], _, _ => ⟨Nat.le_refl _, fun _ b hb => by simp at hb⟩
  | n + 1, b :: t, hn, h => by
    have st := mapD_step toLowerU (b :: t) (by simp)
    have hw := decodeL_width (b :: t)
    have hr := toLowerU_range (decodeL (b :: t)).1 (decodeL_rune (b :: t))
    rw [if_pos hr.1] at st
    have e : toLowerD (b :: t) = mapD toLowerU (b :: t) := rfl
    rw [e, st] at h ⊢
    have ih := lower_shrinks n ((b :: t).drop (decodeL (b :: t)).2) (by simp at hn ⊢; omega) (fun x hx => h x (List.mem_append_right _ hx))
    have e2 : toLowerD ((b :: t).drop (decodeL (b :: t)).2) = mapD toLowerU ((b :: t).drop (decodeL (b :: t)).2) := rfl
    rw [e2] at ih
    rw [List.length_append]
    obtain ⟨ih1, ih2⟩ := ih
    rw [List.length_drop] at ih1 ih2
    rcases enc_cases (toLowerU (decodeL (b :: t)).1) with ⟨_, hl⟩ | ⟨_, _, x, hx, h8⟩
    · by_cases hb : b.toNat < 128
      · rw [decodeL_ascii b t hb] at ih1 ih2 hl hw ⊢
        rw [hl]
        simp only [List.length_cons] at ih1 ih2 ⊢
        refine ⟨by omega, fun hh x hx => ?_⟩
        rcases List.mem_cons.1 hx with rfl | hx
        · exact hb
        · exact ih2 (by omega) x (by simpa using hx)
      · -- a rune beyond 7F that is made one byte: it was two bytes long, or longer
        have w2 : 2 ≤ (decodeL (b :: t)).2 := by
          by_cases hv : (decodeL (b :: t)).1 = 65533 ∧ (decodeL (b :: t)).2 = 1
          · exfalso
            rw [hv.1] at hl
            exact absurd hl (by decide +kernel)
          · have ed := encode_decode (b :: t) (by simp) hv
            obtain ⟨k, hk⟩ : ∃ k, (decodeL (b :: t)).2 = k + 1 := ⟨(decodeL (b :: t)).2 - 1, by omega⟩
            rw [hk] at ed ⊢
            rcases enc_cases ((decodeL (b :: t)).1 : Int) with ⟨h1, h2⟩ | ⟨_, h2, _⟩
            · exfalso
              have h3 : encodeRune ((decodeL (b :: t)).1 : Int) = [(decodeL (b :: t)).1.toUInt8] := by
                unfold encodeRune; rw [encodeRuneZ_one h1.1 h1.2]; simp
              rw [h3] at ed
              simp only [List.take_succ_cons] at ed
              injection ed with ed1 ed2
              rw [← ed1, Nat.toUInt8, UInt8.toNat_ofNat'] at hb
              omega
            · rw [ed] at h2
              simp at h2; omega
        have hle := decodeL_le (b :: t) (by simp)
        simp only [List.length_cons] at ih1 hle ⊢
        rw [hl]
        exact ⟨by omega, fun hh => by omega⟩
    · have := h x (List.mem_append_left _ hx)
      omega
theorem enc_len (r : Int) : (encodeRune r).length ≤ 4 := by
  have := (encodeRuneZ_length r).2
  unfold encodeRune; simpa using this
theorem lower_len : ∀ (n : Nat) (l : List UInt8), l.length ≤ n → (toLowerD l).length ≤ 4 * l.length
  | 0, l, hn => by
    have : l = [] := List.eq_nil_of_length_eq_zero (by omega)
    subst this
    exact Nat.zero_le _
  | n + 1, [], _ => Nat.zero_le _
  | n + 1, b :: t, hn => by
    have st := mapD_step toLowerU (b :: t) (by simp)
    have hw := decodeL_width (b :: t)
    have e : toLowerD (b :: t) = mapD toLowerU (b :: t) := rfl
    rw [e, st, List.length_append]
    have ih := lower_len n ((b :: t).drop (decodeL (b :: t)).2) (by simp at hn ⊢; omega)
    have e2 : toLowerD ((b :: t).drop (decodeL (b :: t)).2) = mapD toLowerU ((b :: t).drop (decodeL (b :: t)).2) := rfl
    rw [e2, List.length_drop] at ih
    have h4 : (if 0 ≤ toLowerU (decodeL (b :: t)).1 then encodeRune (toLowerU (decodeL (b :: t)).1) else []).length ≤ 4 := by
      split
      · exact enc_len _
      · simp
    simp only [List.length_cons] at ih ⊢
    omega
def lowNameB (c : UInt8) : Bool := (decide (97 ≤ c.toNat) && decide (c.toNat ≤ 122)) || ((decide (48 ≤ c.toNat) && decide (c.toNat ≤ 57)) || decide (c.toNat = 45))
theorem lowName_byte (c : UInt8) : lowNameB (lowerB c) = nameB c := by
  have h : ∀ i : Fin 256, lowNameB (lowerB (UInt8.ofNat i.val)) = nameB (UInt8.ofNat i.val) := by decide +kernel
  have := h ⟨c.toNat, c.toNat_lt⟩
  simpa using this
theorem lowName_lt (c : UInt8) (h : lowNameB c = true) : c.toNat < 128 := by
  unfold lowNameB at h
  simp at h; omega
theorem nameB_lt (c : UInt8) (h : nameB c = true) : c.toNat < 128 := by
  unfold nameB at h
  simp at h; omega
/-- A name, as the library makes it small. -/
theorem name_low (n : List UInt8) : (someL lowNameB 40 (toLowerD n) && decide ((toLowerD n).length = n.length)) = someL nameB 40 n ∧ (someL nameB 40 n = true → toLowerD n = small n) := by
  by_cases ha : ∀ b ∈ n, b.toNat < 128
  · have e : toLowerD n = small n := toLowerD_ascii n ha
    refine ⟨?_, fun _ => e⟩
    rw [e]
    have l1 : (small n).length = n.length := by simp [small]
    have l2 : (small n).all lowNameB = n.all nameB := by
      unfold small
      rw [List.all_map]
      congr 1
      funext c
      exact lowName_byte c
    have l3 : decide (small n ≠ []) = decide (n ≠ []) := by cases n <;> rfl
    unfold someL
    rw [l1, l2, l3]
    simp
  · have f1 : someL nameB 40 n = false := by
      cases h : someL nameB 40 n with
      | false => rfl
      | true =>
        exfalso
        unfold someL at h
        simp only [Bool.and_eq_true, List.all_eq_true] at h
        exact ha fun b hb => nameB_lt b (h.2.2 b hb)
    refine ⟨?_, fun h => by rw [f1] at h; cases h⟩
    rw [f1]
    cases h : someL lowNameB 40 (toLowerD n) with
    | false => rfl
    | true =>
      rw [Bool.true_and]
      refine decide_eq_false fun hl => ha ?_
      unfold someL at h
      simp only [Bool.and_eq_true, List.all_eq_true] at h
      exact (lower_shrinks _ n (Nat.le_refl _) (fun b hb => lowName_lt b (h.2.2 b hb))).2 hl
/-- A predicate that all runes from 80 on pay: of runes or of bytes, it is one. -/
theorem idx_any (p : Nat → Bool) (q : UInt8 → Bool) (h1 : ∀ b : UInt8, b.toNat < 128 → p b.toNat = q b) (h2 : ∀ r, 128 ≤ r → p r = true) (h3 : ∀ b : UInt8, 128 ≤ b.toNat → q b = true) (s : ByteArray) : ∀ (f pos : Nat), s.size ≤ pos + f → (0 ≤ Lib.idxFuncFrom p true s f pos ↔ ∃ (i : Nat) (h : i < s.size), pos ≤ i ∧ q (s[i]'h) = true)
  | 0, pos, h => by
    simp only [Lib.idxFuncFrom]
    constructor
    · intro h; omega
    · rintro ⟨i, hi, hp, _⟩; omega
  | f + 1, pos, h => by
    rw [Lib.idxFuncFrom]
    by_cases hp : pos < s.size
    · rw [if_pos hp]
      cases hq : q (s[pos]'hp) with
      | false =>
        have hlt : (s[pos]'hp).toNat < 128 := by
          rcases Nat.lt_or_ge (s[pos]'hp).toNat 128 with k | k
          · exact k
          · rw [h3 _ k] at hq; cases hq
        rw [decode_ascii s pos hp hlt]
        have ho : p (s[pos]'hp).toNat = false := by rw [h1 _ hlt, hq]
        rw [if_neg (by simp [ho])]
        rw [idx_any p q h1 h2 h3 s f (pos + 1) (by omega)]
        constructor
        · rintro ⟨i, hi, k1, k2⟩; exact ⟨i, hi, by omega, k2⟩
        · rintro ⟨i, hi, k1, k2⟩
          refine ⟨i, hi, ?_, k2⟩
          rcases Nat.lt_or_ge pos i with k3 | k3
          · omega
          · have : i = pos := by omega
            subst this
            rw [hq] at k2; cases k2
      | true =>
        have ho : p (Utf8.decode s pos).1 = true := by
          by_cases ha : (s[pos]'hp).toNat < 128
          · rw [decode_ascii s pos hp ha]; show p (s[pos]'hp).toNat = true; rw [h1 _ ha, hq]
          · exact h2 _ (decode_high s pos hp (by omega)).1
        rw [if_pos ho]
        exact ⟨fun _ => ⟨pos, hp, Nat.le_refl _, hq⟩, fun _ => by omega⟩
    · rw [if_neg hp]
      constructor
      · intro h; omega
      · rintro ⟨i, hi, k1, _⟩; omega
theorem idx_all (p : Nat → Bool) (q : UInt8 → Bool) (h1 : ∀ b : UInt8, b.toNat < 128 → p b.toNat = !q b) (h2 : ∀ r, 128 ≤ r → p r = true) (h3 : ∀ b : UInt8, 128 ≤ b.toNat → q b = false) (l : List UInt8) : decide (0 ≤ Lib.idxFunc p true ⟨l.toArray⟩) = !l.all q := by
  have h := idx_any p (fun b => !q b) h1 h2 (fun b hb => by rw [h3 b hb]; rfl) ⟨l.toArray⟩ (⟨l.toArray⟩ : ByteArray).size 0 (by omega)
  unfold Lib.idxFunc
  rw [Bool.eq_iff_iff]
  simp only [decide_eq_true_eq, Bool.not_eq_true', Bool.eq_false_iff, ne_eq]
  rw [h]
  constructor
  · rintro ⟨i, hi, _, k2⟩ hd
    have hil : i < l.length := by simpa [ByteArray.size] using hi
    have := List.all_eq_true.1 hd (l[i]) (List.getElem_mem hil)
    have e : (⟨l.toArray⟩ : ByteArray)[i]'hi = l[i] := rfl
    rw [e, this] at k2
    cases k2
  · intro hn
    have hn' : ∃ b ∈ l, ¬ q b = true := Classical.byContradiction fun hc => hn (List.all_eq_true.2 fun b hb => Classical.byContradiction fun hq => hc ⟨b, hb, hq⟩)
    obtain ⟨b, hb, hnb⟩ := hn'
    obtain ⟨i, hi, rfl⟩ := List.mem_iff_getElem.1 hb
    refine ⟨i, by simpa [ByteArray.size] using hi, Nat.zero_le _, ?_⟩
    show (!q l[i]) = true
    simpa using hnb
end Go.Proofs.YtkaimfeiahogaaaGreatDoor
