/-
  Plain Lean: tiers as text: what Format writes, what Parse answers; there and back.
-/
import Derived.Lib.SplitLaws
import Derived.Lib.AtoiAll
import Derived.Lib.Join
import Derived.Lib.ItoaNum
import Derived.Test.YtkaimfeiahogaaaGreatDoorBt
import Derived.Test.YtkaimfeiahogaaaGreatDoorTm

/-
  Plain Lean: texts cut at a byte; numbers as texts; tiers as text.
-/
namespace Go.Proofs.YtkaimfeiahogaaaGreatDoor
set_option linter.all false
open Go.Lib

/-- A text's pieces between the bytes c. -/
def pieces (c : UInt8) : List UInt8 → List (List UInt8)
  | [] => [[]]
  | b :: r => if b = c then [] :: pieces c r else match pieces c r with
    | [] => [[b]]
    | p :: ps => (b :: p) :: ps
theorem pieces_ne (c : UInt8) (l : List UInt8) : pieces c l ≠ [] := by
  cases l with
  | nil => simp [pieces]
  | cons b r =>
    unfold pieces
    split
    · simp
    · split <;> simp
theorem pieces_free {c : UInt8} : ∀ {l : List UInt8}, (∀ b ∈ l, b ≠ c) → pieces c l = [l]
  | [], _ => rfl
  | b :: r, h => by
    unfold pieces
    rw [if_neg (h b (List.mem_cons_self ..)), pieces_free (fun x hx => h x (List.mem_cons_of_mem _ hx))]
theorem pieces_cut {c : UInt8} : ∀ {z : List UInt8} (r : List UInt8), (∀ b ∈ z, b ≠ c) → pieces c (z ++ c :: r) = z :: pieces c r
  | [], r, _ => by simp [pieces]
  | b :: z, r, h => by
    rw [List.cons_append, pieces, if_neg (h b (List.mem_cons_self ..)), pieces_cut r (fun x hx => h x (List.mem_cons_of_mem _ hx))]
/-- The first c of a text. -/
theorem first_byte (c : UInt8) : ∀ l : List UInt8, (index l [c] = -1 ∧ ∀ b ∈ l, b ≠ c) ∨ ∃ z r, l = z ++ c :: r ∧ (∀ b ∈ z, b ≠ c) ∧ index l [c] = z.length
  | [] => .inl ⟨rfl, by simp⟩
  | b :: l => by
    by_cases hb : b = c
    · subst hb
      exact .inr ⟨[], l, rfl, by simp, by simp [index, List.isPrefixOf]⟩
    · have e2 : (c == b) = false := beq_eq_false_iff_ne.2 (fun h => hb h.symm)
      rcases first_byte c l with ⟨h2, h3⟩ | ⟨z, r, h1, h2, h4⟩
      · refine .inl ⟨by simp [index, List.isPrefixOf, e2, h2], ?_⟩
        intro x hx
        rcases List.mem_cons.1 hx with rfl | hx
        · exact hb
        · exact h3 x hx
      · refine .inr ⟨b :: z, r, by rw [h1]; rfl, ?_, ?_⟩
        · intro x hx
          rcases List.mem_cons.1 hx with rfl | hx
          · exact hb
          · exact h2 x hx
        · have : ((z.length : Int) == -1) = false := by rw [beq_eq_false_iff_ne]; omega
          simp [index, List.isPrefixOf, e2, h4, this]
theorem split_pieces (c : UInt8) : ∀ (n : Nat) (l : List UInt8), l.length ≤ n → splitK [c] 0 (count l [c]) l = pieces c l := by
  intro n
  induction n with
  | zero =>
    intro l h
    obtain rfl : l = [] := List.eq_nil_of_length_eq_zero (by omega)
    rfl
  | succ n ih =>
    intro l h
    rcases first_byte c l with ⟨h2, h3⟩ | ⟨z, r, h1, h2, h4⟩
    · rw [count_miss h2, pieces_free h3]; rfl
    · have hc := count_hit (by simp) h4
      have hd : l.drop (z.length + 1) = r := by rw [h1]; simp
      have ht : l.take z.length = z := by rw [h1]; simp
      rw [show ([c] : List UInt8).length = 1 from rfl, hd] at hc
      rw [hc, Nat.add_comm 1, splitK, if_neg (by rw [h4]; first | (simp; done) | (simp; omega)), h4]
      simp only [Int.toNat_natCast, Nat.add_zero, List.length_cons, List.length_nil, Nat.zero_add]
      rw [ht, hd, ih r (by rw [h1] at h; simp at h; omega), h1, pieces_cut r h2]
theorem split_eq (c : UInt8) (l : List UInt8) : split l [c] = pieces c l := split_pieces c _ l (Nat.le_refl _)

/-! ### numbers -/
theorem dec_digits : ∀ n : Nat, decDigits n = if n = 0 then [48] else dec n := by
  intro n
  induction n using Nat.strongRecOn with
  | _ n ih =>
    rw [decDigits]
    by_cases h : n < 10
    · rw [dif_pos h]
      by_cases h0 : n = 0
      · subst h0; rfl
      · rw [if_neg h0, dec_pos h0, show n / 10 = 0 by omega, dec_0, Nat.mod_eq_of_lt h]; rfl
    · rw [dif_neg h, ih _ (by omega), if_neg (show ¬ n / 10 = 0 by omega), if_neg (show ¬ n = 0 by omega)]
      conv => rhs; rw [dec_pos (show n ≠ 0 by omega)]
      rfl
theorem itoa_txt (z : Int) : itoa z = txt z := by
  unfold itoa txt
  by_cases h0 : z = 0
  · subst h0; rw [if_neg (by omega), if_pos rfl]; exact dec_digits 0
  · rw [if_neg h0]
    by_cases h : z < 0
    · rw [if_pos h, if_pos h, dec_digits, if_neg (by omega)]
    · rw [if_neg h, if_neg h, dec_digits, if_neg (by omega), show z.toNat = z.natAbs by omega]
/-- Digits alone, without 0 ahead. -/
def numF (l : List UInt8) : Bool := !l.isEmpty && (l.all (fun b => decide (48 ≤ b.toNat) && decide (b.toNat ≤ 57)) && (l.length == 1 || l.head? != some 48))
theorem numF_iff {l : List UInt8} : numF l = true ↔ l ≠ [] ∧ DigB l ∧ (l.length = 1 ∨ l.head? ≠ some 48) := by simp [numF, DigB]
def dvA (a : Nat) (l : List UInt8) : Nat := l.foldl (fun a b => 10 * a + (b.toNat - 48)) a
theorem dvA_cons (a : Nat) (b : UInt8) (l : List UInt8) : dvA a (b :: l) = dvA (10 * a + (b.toNat - 48)) l := by unfold dvA; rw [List.foldl_cons]
theorem dvA_ge : ∀ (l : List UInt8) (a : Nat), a ≤ dvA a l
  | [], a => Nat.le_refl _
  | b :: l, a => by rw [dvA_cons]; have := dvA_ge l (10 * a + (b.toNat - 48)); omega
theorem parse_dig : ∀ (l : List UInt8) (a : Nat), DigB l → a < 18446744073709551616 → parseUint10 a l = if dvA a l < 18446744073709551616 then .ok (dvA a l) else .range
  | [], a, _, h => by rw [show dvA a [] = a from rfl, if_pos h]; rfl
  | b :: l, a, hd, h => by
    have hb := hd b (List.mem_cons_self ..)
    have ge := dvA_ge l (10 * a + (b.toNat - 48))
    rw [parseUint10, if_pos hb, dvA_cons]
    by_cases h1 : 1844674407370955162 ≤ a
    · rw [if_pos h1, if_neg (by omega)]
    · rw [if_neg h1]
      by_cases h2 : 18446744073709551616 ≤ a * 10 + (b.toNat - 48)
      · rw [if_pos h2, if_neg (by omega)]
      · rw [if_neg h2, Nat.mul_comm a 10]
        exact parse_dig l _ (fun x hx => hd x (List.mem_cons_of_mem _ hx)) (by omega)
theorem atoi_num {l : List UInt8} (h : l ≠ []) (hd : DigB l) : atoiAll l = if dv l < 9223372036854775808 then .ok (dv l : Int) else .range := by
  cases l with
  | nil => exact absurd rfl h
  | cons c r =>
    have hc := hd c (List.mem_cons_self ..)
    have hp := parse_dig (c :: r) 0 hd (by omega)
    have e : dvA 0 (c :: r) = dv (c :: r) := rfl
    unfold atoiAll
    simp only
    rw [if_neg (show ¬ (c.toNat = 43 ∨ c.toNat = 45) by omega)]
    unfold parseMag
    rw [if_neg h, hp, e]
    have n45 : ¬ c.toNat = 45 := by omega
    by_cases h1 : dv (c :: r) < 18446744073709551616
    · rw [if_pos h1]
      simp only [n45, not_false_eq_true, true_and, false_and, if_false]
      by_cases h2 : dv (c :: r) < 9223372036854775808
      · rw [if_neg (by omega), if_pos h2]
      · rw [if_pos (by omega), if_neg h2]
    · rw [if_neg h1, if_neg (by omega)]
theorem sat_num {l : List UInt8} (h : l ≠ []) (hd : DigB l) : atoiSat l = 9223372036854775807 := by
  cases l with
  | nil => exact absurd rfl h
  | cons c r =>
    have hc := hd c (List.mem_cons_self ..)
    unfold atoiSat
    rw [if_neg (by simp; omega)]
end Go.Proofs.YtkaimfeiahogaaaGreatDoor

/-
  Plain Lean: tiers as text: what Format writes, what Parse answers; there and back.
-/
namespace Go.Proofs.YtkaimfeiahogaaaGreatDoor
set_option linter.all false
open Go.Lib

def tierTxt (t : Int × Int) : List UInt8 := (if 0 < t.1 then txt t.1 else [42]) ++ 58 :: txt t.2
def fmtT (l : List (Int × Int)) : List UInt8 := join (l.map tierTxt) [44]
/-- Ahead of the first c, and behind it. -/
def cutAt (c : UInt8) : List UInt8 → Option (List UInt8 × List UInt8)
  | [] => none
  | b :: r => if b = c then some ([], r) else (cutAt c r).map (fun x => (b :: x.1, x.2))
theorem cutAt_free {c : UInt8} : ∀ {l : List UInt8}, (∀ b ∈ l, b ≠ c) → cutAt c l = none
  | [], _ => rfl
  | b :: r, h => by rw [cutAt, if_neg (h b (List.mem_cons_self ..)), cutAt_free (fun x hx => h x (List.mem_cons_of_mem _ hx))]; rfl
theorem cutAt_hit {c : UInt8} : ∀ {z : List UInt8} (r : List UInt8), (∀ b ∈ z, b ≠ c) → cutAt c (z ++ c :: r) = some (z, r)
  | [], r, _ => by simp [cutAt]
  | b :: z, r, h => by
    rw [List.cons_append, cutAt, if_neg (h b (List.mem_cons_self ..)), cutAt_hit r (fun x hx => h x (List.mem_cons_of_mem _ hx))]; rfl
def fitsN (l : List UInt8) : Bool := decide (dv l < 9223372036854775808)
def valN (sat : Int) (l : List UInt8) : Int := if dv l < 9223372036854775808 then dv l else sat
/-- A piece: a tier, and whether its numbers are ints; none: not of the form. -/
def pieceT (sat : Int) (last : Bool) (p : List UInt8) : Option ((Int × Int) × Bool) := match cutAt 58 p with
  | none => none
  | some (a, b) => if numF b && ((decide (a = [42]) && last) || (numF a && decide (a ≠ [48]))) then some (((if a = [42] then 0 else valN sat a), valN sat b), fitsN b && (decide (a = [42]) || fitsN a)) else none
def goT (sat : Int) : List (List UInt8) → Option (List (Int × Int) × Bool)
  | [] => some ([], true)
  | p :: r => match pieceT sat r.isEmpty p with
    | none => none
    | some (t, f) => (goT sat r).map (fun x => (t :: x.1, f && x.2))
/-- Does the last piece begin with a star? -/
def starL (w : List (List UInt8)) : Bool := (w.getLast?.getD []).head? == some 42
def parseE (s : List UInt8) : Int := if 1000 < s.length then 8 else match goT 0 (pieces 44 s) with
  | none => 10
  | some (l, f) => if starL (pieces 44 s) then if 20 < l.length then 9 else if f then checkT l else 6 else 6
def parseL (s : List UInt8) : List (Int × Int) := match goT 0 (pieces 44 s) with
  | none => []
  | some (l, _) => if parseE s = 0 then l else []

theorem pieceT_sat {last : Bool} {p : List UInt8} (s1 s2 : Int) : (pieceT s1 last p = none ∧ pieceT s2 last p = none) ∨ ∃ t1 t2 f, pieceT s1 last p = some (t1, f) ∧ pieceT s2 last p = some (t2, f) ∧ (f = true → t1 = t2) := by
  unfold pieceT
  cases cutAt 58 p with
  | none => exact .inl ⟨rfl, rfl⟩
  | some x =>
    obtain ⟨a, b⟩ := x
    simp only
    split
    · refine .inr ⟨_, _, _, rfl, rfl, fun h => ?_⟩
      simp only [Bool.and_eq_true, Bool.or_eq_true, decide_eq_true_eq, fitsN] at h
      obtain ⟨h1, h2⟩ := h
      unfold valN
      rw [if_pos h1, if_pos h1]
      by_cases ha : a = [42]
      · rw [if_pos ha, if_pos ha]
      · rw [if_neg ha, if_neg ha, if_pos (h2.resolve_left ha), if_pos (h2.resolve_left ha)]
    · exact .inl ⟨rfl, rfl⟩
theorem goT_sat (s1 s2 : Int) : ∀ w : List (List UInt8), (goT s1 w = none ∧ goT s2 w = none) ∨ ∃ l1 l2 f, goT s1 w = some (l1, f) ∧ goT s2 w = some (l2, f) ∧ l1.length = l2.length ∧ (f = true → l1 = l2)
  | [] => .inr ⟨[], [], true, rfl, rfl, rfl, fun _ => rfl⟩
  | p :: r => by
    rw [goT, goT]
    rcases pieceT_sat (last := r.isEmpty) (p := p) s1 s2 with ⟨h1, h2⟩ | ⟨t1, t2, f, h1, h2, h3⟩
    · rw [h1, h2]; exact .inl ⟨rfl, rfl⟩
    · rw [h1, h2]
      rcases goT_sat s1 s2 r with ⟨g1, g2⟩ | ⟨l1, l2, g, g1, g2, g3, g4⟩
      · simp only [g1, g2]; exact .inl ⟨rfl, rfl⟩
      · simp only [g1, g2]
        refine .inr ⟨t1 :: l1, t2 :: l2, f && g, rfl, rfl, by simp [g3], fun h => ?_⟩
        simp at h
        rw [h3 h.1, g4 h.2]
theorem goT_length {sat : Int} : ∀ {w : List (List UInt8)} {l : List (Int × Int)} {f : Bool}, goT sat w = some (l, f) → l.length = w.length
  | [], l, f, h => by simp [goT] at h; obtain ⟨h1, _⟩ := h; subst h1; rfl
  | p :: r, l, f, h => by
    rw [goT] at h
    cases hp : pieceT sat r.isEmpty p with
    | none => rw [hp] at h; simp at h
    | some x =>
      obtain ⟨t, g⟩ := x
      rw [hp] at h
      cases hg : goT sat r with
      | none => simp [hg] at h
      | some y =>
        obtain ⟨l', g'⟩ := y
        simp [hg] at h
        obtain ⟨h1, _⟩ := h
        subst h1
        simp [goT_length hg]

/-! ### there and back -/
theorem txt_nonneg {z : Int} (h : 0 ≤ z) : numF (txt z) = true ∧ dv (txt z) = z.toNat := by
  unfold txt
  by_cases h0 : z = 0
  · subst h0; exact ⟨by decide, by decide⟩
  · rw [if_neg h0, if_neg (by omega)]
    have hn : z.natAbs ≠ 0 := by omega
    refine ⟨numF_iff.2 ⟨?_, dec_dig _, ?_⟩, by rw [dv_dec]; omega⟩
    · rw [dec_pos hn]; simp
    · right
      cases hd : dec z.natAbs with
      | nil => simp
      | cons b r =>
        have := dec_head hd
        simp
        intro e; apply this; rw [e]; rfl
theorem dig_ne {l : List UInt8} (h : DigB l) {c : UInt8} (hc : c.toNat < 48 ∨ 57 < c.toNat) : ∀ b ∈ l, b ≠ c := fun b hb e => by
  have := h b hb
  rw [e] at this; omega
theorem txt_dig {z : Int} (h : 0 ≤ z) : DigB (txt z) := (numF_iff.1 (txt_nonneg h).1).2.1
theorem tierTxt_free {t : Int × Int} (h1 : 0 ≤ t.1) (h2 : 0 ≤ t.2) : ∀ b ∈ tierTxt t, b ≠ 44 := fun b hb => by
  unfold tierTxt at hb
  rcases List.mem_append.1 hb with hb | hb
  · split at hb
    · exact dig_ne (txt_dig h1) (.inl (by decide)) b hb
    · simp at hb; subst hb; decide
  · rcases List.mem_cons.1 hb with rfl | hb
    · decide
    · exact dig_ne (txt_dig h2) (.inl (by decide)) b hb
theorem join_one (x sep : List UInt8) : join [x] sep = x := by simp [join, List.intercalate]
theorem join_more (x y sep : List UInt8) (r : List (List UInt8)) : join (x :: y :: r) sep = x ++ sep ++ join (y :: r) sep := by
  simp [join, List.intercalate, List.intersperse]
theorem pieces_join {c : UInt8} : ∀ {xs : List (List UInt8)}, xs ≠ [] → (∀ x ∈ xs, ∀ b ∈ x, b ≠ c) → pieces c (join xs [c]) = xs
  | [], h, _ => absurd rfl h
  | [x], _, h => by rw [join_one, pieces_free (h x (List.mem_cons_self ..))]
  | x :: y :: r, _, h => by
    rw [join_more, List.append_assoc, List.singleton_append, pieces_cut _ (h x (List.mem_cons_self ..)), pieces_join (by simp) (fun z hz => h z (List.mem_cons_of_mem _ hz))]
theorem pieceT_tier {t : Int × Int} {last : Bool} (h1 : 0 ≤ t.1) (h2 : t.1 ≤ 1125899906842624) (h3 : 0 ≤ t.2) (h4 : t.2 ≤ 1125899906842624) (hl : 0 < t.1 ∨ last = true) : pieceT 0 last (tierTxt t) = some (t, true) := by
  obtain ⟨n2, v2⟩ := txt_nonneg h3
  have f2 : fitsN (txt t.2) = true := by unfold fitsN; rw [v2]; simp; omega
  have w2 : valN 0 (txt t.2) = t.2 := by unfold valN; rw [v2, if_pos (by omega)]; omega
  by_cases h0 : 0 < t.1
  · obtain ⟨n1, v1⟩ := txt_nonneg h1
    have f1 : fitsN (txt t.1) = true := by unfold fitsN; rw [v1]; simp; omega
    have w1 : valN 0 (txt t.1) = t.1 := by unfold valN; rw [v1, if_pos (by omega)]; omega
    have e : cutAt 58 (tierTxt t) = some (txt t.1, txt t.2) := by
      unfold tierTxt; rw [if_pos h0]
      exact cutAt_hit _ (dig_ne (txt_dig h1) (.inr (by decide)))
    have a1 : txt t.1 ≠ [42] := fun e => by
      have := txt_dig h1 42 (by rw [e]; simp)
      simp at this
    have a2 : txt t.1 ≠ [48] := fun e => by
      rw [e] at v1
      have : dv [48] = 0 := by decide
      omega
    unfold pieceT
    rw [e]
    simp only
    rw [if_pos (by simp [n2, n1, a2]), if_neg a1, w1, w2, f2, f1]
    simp
  · have hlast := hl.resolve_left h0
    have e : cutAt 58 (tierTxt t) = some ([42], txt t.2) := by
      unfold tierTxt; rw [if_neg h0]
      exact cutAt_hit _ (by simp)
    have t0 : t.1 = 0 := by omega
    unfold pieceT
    rw [e]
    simp only
    rw [if_pos (by simp [n2, hlast]), w2, f2]
    simp
    exact Prod.ext t0.symm rfl
theorem goT_tiers : ∀ {l : List (Int × Int)} {ah : Int}, 0 ≤ ah → okFrom ah l = true → goT 0 (l.map tierTxt) = some (l, true)
  | [], _, _, _ => rfl
  | [t], ah, h0, h => by
    simp [okFrom] at h
    have e := pieceT_tier (t := t) (last := true) (by omega) (by omega) h.1.2 h.2 (.inr rfl)
    simp [goT, e]
  | t :: u :: r, ah, h0, h => by
    simp [okFrom] at h
    obtain ⟨⟨⟨⟨h1, h2⟩, h3⟩, h4⟩, h5⟩ := h
    have e := pieceT_tier (t := t) (last := false) (by omega) h2 h3 h4 (.inl (by omega))
    have ih := goT_tiers (l := u :: r) (by omega) h5
    rw [List.map_cons, goT, show (List.map tierTxt (u :: r)).isEmpty = false from rfl, e]
    simp only [ih]
    rfl
theorem okFrom_parts : ∀ {l : List (Int × Int)} {ah : Int}, 0 ≤ ah → okFrom ah l = true → ∀ t ∈ l, 0 ≤ t.1 ∧ 0 ≤ t.2
  | [], _, _, _, t, ht => by cases ht
  | [x], ah, h0, h, t, ht => by
    simp [okFrom] at h
    simp at ht; subst ht
    exact ⟨by omega, h.1.2⟩
  | x :: u :: r, ah, h0, h, t, ht => by
    simp [okFrom] at h
    obtain ⟨⟨⟨⟨h1, h2⟩, h3⟩, h4⟩, h5⟩ := h
    rcases List.mem_cons.1 ht with rfl | ht
    · exact ⟨by omega, h3⟩
    · exact okFrom_parts (l := u :: r) (by omega) h5 t ht
theorem starL_tiers : ∀ {l : List (Int × Int)} {ah : Int}, l ≠ [] → okFrom ah l = true → starL (l.map tierTxt) = true
  | [], _, h, _ => absurd rfl h
  | [t], ah, _, h => by
    simp [okFrom] at h
    simp [starL, tierTxt, h.1.1]
  | t :: u :: r, ah, _, h => by
    simp [okFrom] at h
    have := starL_tiers (l := u :: r) (ah := t.1) (by simp) h.2
    simpa [starL] using this
theorem parse_fmt {l : List (Int × Int)} (h : checkT l = 0) (hl : (fmtT l).length ≤ 1000) : parseE (fmtT l) = 0 ∧ parseL (fmtT l) = l := by
  rcases chk_cases l with e | e | ⟨_, e1, e2, e3⟩
  · rw [e] at h; simp at h
  · rw [e] at h; simp at h
  · have ne : l ≠ [] := fun e => e1 (by rw [e]; rfl)
    have hp : pieces 44 (fmtT l) = l.map tierTxt := pieces_join (by simpa using ne) (fun x hx => by
      obtain ⟨t, ht, rfl⟩ := List.mem_map.1 hx
      obtain ⟨a, b⟩ := okFrom_parts (by omega) e3 t ht
      exact tierTxt_free a b)
    have hg := goT_tiers (by omega) e3
    have hE : parseE (fmtT l) = 0 := by
      unfold parseE
      rw [if_neg (by omega), hp, hg]
      simp only
      rw [if_pos (starL_tiers ne e3), if_neg (by omega)]
      simpa using h
    refine ⟨hE, ?_⟩
    unfold parseL
    rw [hE, hp, hg]
    simp
end Go.Proofs.YtkaimfeiahogaaaGreatDoor
