/-
  Plain: what is read has the form that is printed, and is short.
-/
import Derived.Test.YtijlifdbjhieaaaGreatDoorSp2
import Derived.Lib.AtoiAllCases

/-
  Plain: what is printed has its own tokens, whatever blanks stand between them.
-/
namespace Go.Proofs.YtijlifdbjhieaaaGreatDoor.Pl
set_option linter.all false
open Go.Lib

theorem parseUint10_app : ∀ (l r : List UInt8) (a : Nat), parseUint10 a (l ++ r) = match parseUint10 a l with | .ok v => parseUint10 v r | .syntax => .syntax | .range => .range
  | [], r, a => by simp [parseUint10]
  | c :: l, r, a => by
    simp only [List.cons_append, parseUint10]
    by_cases h1 : 48 ≤ c.toNat ∧ c.toNat ≤ 57
    · rw [if_pos h1, if_pos h1]
      by_cases h2 : 1844674407370955162 ≤ a
      · rw [if_pos h2, if_pos h2]
      · rw [if_neg h2, if_neg h2]
        by_cases h3 : 18446744073709551616 ≤ a * 10 + (c.toNat - 48)
        · rw [if_pos h3, if_pos h3]
        · rw [if_neg h3, if_neg h3]; exact parseUint10_app l r _
    · rw [if_neg h1, if_neg h1]
theorem digit_nat {d : Nat} (h : d < 10) : (UInt8.ofNat (48 + d)).toNat = 48 + d := by
  simp only [UInt8.toNat_ofNat']; omega
theorem parse_dec : ∀ (u : Nat), u < 18446744073709551616 → parseUint10 0 (decDigits u) = .ok u := by
  intro u
  induction u using Nat.strongRecOn with
  | _ u ih =>
    intro hu
    rw [decDigits]
    by_cases h : u < 10
    · rw [dif_pos h]
      have e := digit_nat h
      simp only [parseUint10, e]
      rw [if_pos (by omega), if_neg (by omega), if_neg (by omega)]
      congr 1; omega
    · rw [dif_neg h, parseUint10_app, ih (u / 10) (by omega) (by omega)]
      have e := digit_nat (d := u % 10) (by omega)
      simp only [parseUint10, e]
      rw [if_pos (by omega), if_neg (by omega), if_neg (by omega)]
      congr 1; omega
theorem decDigits_dig : ∀ (u : Nat), ∀ c ∈ decDigits u, 48 ≤ c.toNat ∧ c.toNat ≤ 57 := by
  intro u
  induction u using Nat.strongRecOn with
  | _ u ih =>
    rw [decDigits]
    by_cases h : u < 10
    · rw [dif_pos h]; intro c hc
      have e := digit_nat h
      simp only [List.mem_singleton] at hc; subst hc; omega
    · rw [dif_neg h]; intro c hc
      have e := digit_nat (d := u % 10) (by omega)
      rcases List.mem_append.1 hc with hc | hc
      · exact ih (u / 10) (by omega) c hc
      · simp only [List.mem_singleton] at hc; subst hc; omega
theorem decDigits_ne (u : Nat) : decDigits u ≠ [] := by
  rw [decDigits]; split <;> simp
theorem atoiAll_itoa {n : Int} (h0 : -9223372036854775808 ≤ n) (h1 : n ≤ 9223372036854775807) : atoiAll (itoa n) = .ok n := by
  unfold itoa
  by_cases h : n < 0
  · rw [if_pos h, atoiAll_minus]
    unfold parseMag
    rw [if_neg (decDigits_ne _), parse_dec _ (by omega)]
    simp only [signed]
    rw [if_neg (by omega)]; congr 1; omega
  · rw [if_neg h]
    obtain ⟨c, r, hcr⟩ : ∃ c r, decDigits n.toNat = c :: r := by
      cases hd : decDigits n.toNat with
      | nil => exact absurd hd (decDigits_ne _)
      | cons c r => exact ⟨c, r, rfl⟩
    have hc := decDigits_dig n.toNat c (by rw [hcr]; simp)
    rw [hcr, atoiAll_plain c r (by omega) (by omega)]
    unfold parseMag
    rw [if_neg (by simp), ← hcr, parse_dec _ (by omega)]
    simp only [signless]
    rw [if_neg (by omega)]; congr 1; omega
theorem numS_itoa {n : Int} (h0 : -4611686018427387904 ≤ n) (h1 : n ≤ 4611686018427387904) : numS (itoa n) = some n := by
  unfold numS
  rw [atoiAll_itoa (by omega) (by omega)]
  simp only
  rw [if_pos ⟨trivial, h0, h1⟩]
theorem itoa_head (n : Int) : ∃ c r, itoa n = c :: r ∧ smallB c = false ∧ (withB c || decide (c.toNat = 45)) = true ∧ ∀ d ∈ r, digitB d = true := by
  unfold itoa
  by_cases h : n < 0
  · rw [if_pos h]
    refine ⟨45, _, rfl, by decide, by decide, fun d hd => ?_⟩
    have := decDigits_dig _ d hd
    simp [digitB, this]
  · rw [if_neg h]
    cases hd : decDigits n.toNat with
    | nil => exact absurd hd (decDigits_ne _)
    | cons c r =>
      have hall := decDigits_dig n.toNat
      rw [hd] at hall
      have hc := hall c (by simp)
      refine ⟨c, r, rfl, ?_, ?_, fun d h => ?_⟩
      · simp [smallB]; omega
      · simp [withB, digitB, hc]
      · have := hall d (by simp [h]); simp [digitB, this]
theorem digit_with {d : UInt8} (h : digitB d = true) : withB d = true := by simp [withB, h]

/-- A token's bytes. -/
def tokX (t : Tk0) : List UInt8 := if t.k = 110 then itoa t.n else if t.k = 116 then [39] ++ dblQ t.s ++ [39] else t.s
def marksL : List (List UInt8) := [[44], [40], [41], [42], [61], [60], [62], [33, 61], [60, 61], [62, 61]]
/-- A token as it comes of a text. -/
inductive GoodT : Tk0 → Prop where
  | w (s) : nameB s = true ∨ wordsL.contains s = true → GoodT ⟨119, s, 0⟩
  | n (n) : -4611686018427387904 ≤ n → n ≤ 4611686018427387904 → GoodT ⟨110, [], n⟩
  | t (s) : textB s = true → GoodT ⟨116, s, 0⟩
  | m (s) : s ∈ marksL → GoodT ⟨109, s, 0⟩
/-- What stands behind a token does not go on with it. -/
def FoB (t : Tk0) (x : List UInt8) : Bool :=
  if t.k = 119 ∨ t.k = 110 then !headB withB x else if t.k = 116 then !headB (fun c => decide (c.toNat = 39)) x else if t.s = [60] ∨ t.s = [62] then !isEq x else true
theorem spanW_all : ∀ (l x : List UInt8), (∀ c ∈ l, withB c = true) → headB withB x = false → spanW (l ++ x) = l.length
  | [], x, _, hx => by
    cases x with
    | nil => rfl
    | cons c x =>
      simp only [List.nil_append, spanW, List.length_nil]
      rw [if_neg (by simp only [headB] at hx; simp [hx])]
  | c :: l, x, h, hx => by
    simp only [List.cons_append, spanW, List.length_cons]
    rw [if_pos (h c (by simp)), spanW_all l x (fun d hd => h d (by simp [hd])) hx]
theorem quoF_dbl : ∀ (s x : List UInt8) (i : Nat) (acc : List UInt8), headB (fun c => decide (c.toNat = 39)) x = false → quoF (dblQ s ++ 39 :: x) i acc = some (acc ++ s, i + (dblQ s).length + 1)
  | [], x, i, acc, hx => by
    simp only [dblQ, List.nil_append, List.append_nil, List.length_nil, Nat.add_zero]
    rw [quoF.eq_def]
    simp only
    rw [if_pos (by decide)]
    cases x with
    | nil => rfl
    | cons d x =>
      simp only
      rw [if_neg (by simp only [headB, decide_eq_false_iff_not] at hx; exact hx)]
  | c :: s, x, i, acc, hx => by
    simp only [dblQ]
    by_cases hc : c.toNat = 39
    · rw [if_pos hc]
      simp only [List.cons_append]
      rw [quoF.eq_def]
      simp only
      rw [if_pos (by decide), if_pos (by decide), quoF_dbl s x (i + 2) _ hx]
      obtain rfl : c = 39 := UInt8.toNat_inj.1 hc
      simp only [List.append_assoc, List.cons_append, List.nil_append, List.length_cons, Option.some.injEq, Prod.mk.injEq, true_and]
      omega
    · rw [if_neg hc]
      simp only [List.cons_append]
      rw [quoF.eq_def]
      simp only
      rw [if_neg hc, quoF_dbl s x (i + 1) _ hx]
      simp only [List.append_assoc, List.cons_append, List.nil_append, List.length_cons, Option.some.injEq, Prod.mk.injEq, true_and]
      omega
theorem words_with : ∀ s ∈ wordsL, headB smallB s = true ∧ s.all withB = true ∧ s ≠ [] := by
  intro s hs
  simp only [wordsL, List.mem_cons, List.not_mem_nil, or_false] at hs
  rcases hs with rfl | rfl | rfl | rfl | rfl | rfl | rfl | rfl | rfl | rfl | rfl | rfl | rfl | rfl | rfl <;> exact ⟨by decide, by decide, by simp⟩
theorem wordy {s : List UInt8} (h : nameB s = true ∨ wordsL.contains s = true) : headB smallB s = true ∧ s.all withB = true ∧ s ≠ [] := by
  rcases h with h | h
  · simp only [nameB, Bool.and_eq_true] at h
    refine ⟨h.1.1.2, h.2, ?_⟩
    intro e; subst e; simp at h
  · exact words_with s (by simpa using h)
theorem good_next {t : Tk0} (h : GoodT t) (x : List UInt8) (hx : FoB t x = true) : ∃ c r, tokX t = c :: r ∧ blankB c = false ∧ nextF c (r ++ x) = (t, (tokX t).length) ∧ t.k ≠ 33 := by
  cases h with
  | w s hs =>
    obtain ⟨h1, h2, h3⟩ := wordy hs
    cases s with
    | nil => exact absurd rfl h3
    | cons c r =>
      have hall : ∀ d ∈ c :: r, withB d = true := fun d hd => List.all_eq_true.1 h2 d hd
      have hc : smallB c = true := h1
      have hx' : headB withB x = false := by simpa [FoB] using hx
      have hk : tokX ⟨119, c :: r, 0⟩ = c :: r := by simp [tokX]
      refine ⟨c, r, hk, ?_, ?_, (by simp)⟩
      · simp [smallB] at hc; simp [blankB]; omega
      · unfold nextF
        rw [if_pos (by rw [hall c (by simp)]; rfl), spanW_all r x (fun d hd => hall d (by simp [hd])) hx', hk]
        simp only [List.take_left', List.length_cons]
        unfold namedF
        rw [if_pos h1, if_pos (by simpa using hs)]
  | n n h0 h1 =>
    obtain ⟨c, r, hcr, hs, hw, hr⟩ := itoa_head n
    have hk : tokX ⟨110, [], n⟩ = c :: r := by simp [tokX, hcr]
    have hx' : headB withB x = false := by simpa [FoB] using hx
    refine ⟨c, r, hk, ?_, ?_, (by simp)⟩
    · simp [withB, smallB, digitB] at hw; simp [blankB]; omega
    · unfold nextF
      rw [if_pos hw, spanW_all r x (fun d hd => digit_with (hr d hd)) hx', hk]
      simp only [List.take_left', List.length_cons]
      unfold namedF
      rw [if_neg (by simp only [headB]; simp [hs]), ← hcr, numS_itoa h0 h1]
  | t s hs =>
    have hx' : headB (fun c => decide (c.toNat = 39)) x = false := by simpa [FoB] using hx
    refine ⟨39, dblQ s ++ [39], by simp [tokX], by decide, ?_, (by simp)⟩
    unfold nextF
    rw [if_neg (by decide), if_pos (by decide), List.append_assoc]
    show quotedF (dblQ s ++ 39 :: x) = _
    unfold quotedF
    rw [quoF_dbl s x 1 [] hx']
    simp only [List.nil_append]
    rw [if_pos hs]
    simp [tokX]; omega
  | m s hs =>
    have hk : tokX ⟨109, s, 0⟩ = s := by simp [tokX]
    rw [hk]
    simp only [marksL, List.mem_cons, List.not_mem_nil, or_false] at hs
    rcases hs with rfl | rfl | rfl | rfl | rfl | rfl | rfl | rfl | rfl | rfl
    · exact ⟨44, [], rfl, by decide, rfl, by decide⟩
    · exact ⟨40, [], rfl, by decide, rfl, by decide⟩
    · exact ⟨41, [], rfl, by decide, rfl, by decide⟩
    · exact ⟨42, [], rfl, by decide, rfl, by decide⟩
    · exact ⟨61, [], rfl, by decide, rfl, by decide⟩
    · have hx' : isEq x = false := by simpa [FoB] using hx
      refine ⟨60, [], rfl, by decide, ?_, by decide⟩
      unfold nextF
      rw [if_neg (by decide), if_neg (by decide), List.nil_append, hx', if_neg (by decide), if_pos (by decide)]
      rfl
    · have hx' : isEq x = false := by simpa [FoB] using hx
      refine ⟨62, [], rfl, by decide, ?_, by decide⟩
      unfold nextF
      rw [if_neg (by decide), if_neg (by decide), List.nil_append, hx', if_neg (by decide), if_pos (by decide)]
      rfl
    · exact ⟨33, [61], rfl, by decide, rfl, by decide⟩
    · exact ⟨60, [61], rfl, by decide, rfl, by decide⟩
    · exact ⟨62, [61], rfl, by decide, rfl, by decide⟩

/-- A printed text: blanks and tokens. -/
inductive Sg where
  | b
  | t (t : Tk0)
def sgX : List Sg → List UInt8
  | [] => []
  | .b :: S => 32 :: sgX S
  | .t t :: S => tokX t ++ sgX S
def over0 : Tk0 := ⟨101, [], 0⟩
def toksS : List Sg → List Tk0
  | [] => [over0]
  | .b :: S => toksS S
  | .t t :: S => t :: toksS S
def openT (t : Tk0) : Bool := decide (t.k = 109) && (t.s == [40])
def sepT (t : Tk0) : Bool := decide (t.k = 109) && ((t.s == [44]) || (t.s == [41]) || (t.s == [40]))
/-- A blank, a mark or the end: what may stand behind any token. -/
def okH : List Sg → Bool
  | [] => true
  | .b :: _ => true
  | .t u :: _ => sepT u
def GoodS : List Sg → Prop
  | [] => True
  | .b :: S => GoodS S
  | .t t :: S => GoodT t ∧ (openT t = true ∨ okH S = true) ∧ GoodS S
/-- A text that shows these parts, with blanks of any kind between. -/
inductive Rn : List Sg → List UInt8 → Prop where
  | nil : Rn [] []
  | b {bl S x} : bl ≠ [] → bl.all blankB = true → Rn S x → Rn (.b :: S) (bl ++ x)
  | t {bl t0 S x} : bl.all blankB = true → Rn S x → Rn (.t t0 :: S) (bl ++ (tokX t0 ++ x))
theorem rn_plain : ∀ S, Rn S (sgX S)
  | [] => .nil
  | .b :: S => Rn.b (bl := [32]) (by simp) (by decide) (rn_plain S)
  | .t t :: S => Rn.t (bl := []) (by simp) (rn_plain S)
theorem blank_no {c : UInt8} (h : blankB c = true) : withB c = false ∧ decide (c.toNat = 39) = false ∧ decide (c.toNat = 61) = false := by
  simp [blankB] at h
  simp [withB, smallB, digitB]
  omega
theorem foB_of {t : Tk0} {x : List UInt8} (h : x = [] ∨ ∃ c r, x = c :: r ∧ withB c = false ∧ decide (c.toNat = 39) = false ∧ decide (c.toNat = 61) = false) : FoB t x = true := by
  rcases h with rfl | ⟨c, r, rfl, h1, h2, h3⟩
  · unfold FoB; simp [headB, isEq]
  · unfold FoB
    simp only [headB, isEq, h1, h2, h3]
    simp
theorem okH_head {S : List Sg} {x : List UInt8} (h : okH S = true) (hR : Rn S x) : x = [] ∨ ∃ c r, x = c :: r ∧ withB c = false ∧ decide (c.toNat = 39) = false ∧ decide (c.toNat = 61) = false := by
  cases hR with
  | nil => exact .inl rfl
  | @b bl S x h1 h2 _ =>
    cases bl with
    | nil => exact absurd rfl h1
    | cons c r => exact .inr ⟨c, r ++ x, rfl, blank_no (List.all_eq_true.1 h2 c (by simp))⟩
  | @t bl t S x h2 _ =>
    cases bl with
    | cons c r => exact .inr ⟨c, r ++ (tokX t ++ x), rfl, blank_no (List.all_eq_true.1 h2 c (by simp))⟩
    | nil =>
      simp only [okH, sepT, Bool.and_eq_true, Bool.or_eq_true, decide_eq_true_eq, beq_iff_eq] at h
      have hk : tokX t = t.s := by unfold tokX; rw [if_neg (by rw [h.1]; decide), if_neg (by rw [h.1]; decide)]
      rw [hk]
      rcases h.2 with (e | e) | e <;> rw [e]
      · exact .inr ⟨44, x, rfl, by decide, by decide, by decide⟩
      · exact .inr ⟨41, x, rfl, by decide, by decide, by decide⟩
      · exact .inr ⟨40, x, rfl, by decide, by decide, by decide⟩
theorem foB_open {t : Tk0} (h : openT t = true) (x : List UInt8) : FoB t x = true := by
  simp only [openT, Bool.and_eq_true, decide_eq_true_eq, beq_iff_eq] at h
  unfold FoB
  rw [h.1, h.2]
  simp
theorem lex_blanks : ∀ (bl : List UInt8), bl.all blankB = true → ∀ (f p : Nat) (x : List UInt8), bl.length ≤ f → lexF f p (bl ++ x) = lexF (f - bl.length) (p + bl.length) x
  | [], _, f, p, x, _ => by simp
  | c :: r, h, f, p, x, hf => by
    simp only [List.all_cons, Bool.and_eq_true] at h
    cases f with
    | zero => simp at hf
    | succ f =>
      simp only [List.length_cons] at hf
      simp only [List.cons_append, lexF]
      rw [if_pos h.1, lex_blanks r h.2 f (p + 1) x (by omega)]
      simp only [List.length_cons]
      congr 1 <;> omega
/-- A token's kind, text and number. -/
def _root_.Go.Proofs.YtijlifdbjhieaaaGreatDoor.Tok.k0 (t : Tok) : Tk0 := ⟨t.k, t.s, t.n⟩
theorem Tk0.at_k0 (t : Tk0) (p : Nat) : (t.at p).k0 = t := rfl
theorem lex_rn : ∀ {S : List Sg} {x : List UInt8}, Rn S x → GoodS S → ∀ (f p : Nat), x.length + 1 ≤ f → (lexF f p x).map Tok.k0 = toksS S := by
  intro S x hR
  induction hR with
  | nil =>
    intro _ f p hf
    cases f with
    | zero => simp at hf
    | succ f => rfl
  | @b bl S x h1 h2 _ ih =>
    intro hG f p hf
    rw [List.length_append] at hf
    rw [lex_blanks bl h2 f p x (by omega), ih hG _ _ (by omega)]
    rfl
  | @t bl t S x h2 hR ih =>
    intro hG f p hf
    rw [List.length_append, List.length_append] at hf
    rw [lex_blanks bl h2 f p _ (by omega)]
    obtain ⟨hT, hF, hS⟩ := hG
    have hfo : FoB t x = true := by
      rcases hF with hF | hF
      · exact foB_open hF x
      · exact foB_of (okH_head hF hR)
    obtain ⟨c, r, hcr, hb, hn, hk⟩ := good_next hT x hfo
    have hlen : (tokX t).length = r.length + 1 := by rw [hcr]; rfl
    obtain ⟨g, hg⟩ : ∃ g, f - bl.length = g + 1 := ⟨f - bl.length - 1, by omega⟩
    rw [hg, hcr, List.cons_append]
    simp only [lexF]
    rw [if_neg (by simp [hb]), hn]
    simp only
    rw [if_neg hk, hlen]
    simp only [List.drop_succ_cons, List.drop_left', List.map_cons, toksS]
    rw [ih hS _ _ (by omega), Tk0.at_k0]
/-- The tokens of a text that shows these parts. -/
theorem lexL_rn {S : List Sg} {x : List UInt8} (hR : Rn S x) (hG : GoodS S) : (lexL x).map Tok.k0 = toksS S := lex_rn hR hG _ _ (Nat.le_refl _)
end Go.Proofs.YtijlifdbjhieaaaGreatDoor.Pl

/-
  Plain: conditions that are printed are read back.
-/
namespace Go.Proofs.YtijlifdbjhieaaaGreatDoor.Pl
set_option linter.all false
open Go.Lib

theorem fine_ind {P : CondT → Prop}
    (h1 : ∀ a b l r, fineC a = true → fineC b = true → P a → P b → P (.mk 1 [a, b] l r))
    (h2 : ∀ a b l r, fineC a = true → fineC b = true → P a → P b → P (.mk 2 [a, b] l r))
    (h3 : ∀ a l r, fineC a = true → P a → P (.mk 3 [a] l r))
    (h4 : ∀ op l r, 4 ≤ op → op ≤ 9 → termB l = true → termB r = true → P (.mk op [] l r)) : ∀ c, fineC c = true → P c
  | .mk op args l r, h => by
    rw [fineC.eq_def] at h
    simp only [Bool.and_eq_true, Bool.or_eq_true, Bool.not_eq_true', decide_eq_true_eq, decide_eq_false_iff_not] at h
    obtain ⟨⟨hn, ht⟩, hl⟩ := h
    by_cases e1 : op = 1
    · subst e1
      match hA : args, hn, hl with
      | [a, b], _, hl =>
        simp only [fineL, Bool.and_eq_true] at hl
        exact h1 a b l r hl.1 hl.2.1 (fine_ind h1 h2 h3 h4 a hl.1) (fine_ind h1 h2 h3 h4 b hl.2.1)
      | [], hn, _ => simp [argsN] at hn
      | [_], hn, _ => simp [argsN] at hn
      | _ :: _ :: _ :: _, hn, _ => simp [argsN] at hn
    by_cases e2 : op = 2
    · subst e2
      match hA : args, hn, hl with
      | [a, b], _, hl =>
        simp only [fineL, Bool.and_eq_true] at hl
        exact h2 a b l r hl.1 hl.2.1 (fine_ind h1 h2 h3 h4 a hl.1) (fine_ind h1 h2 h3 h4 b hl.2.1)
      | [], hn, _ => simp [argsN] at hn
      | [_], hn, _ => simp [argsN] at hn
      | _ :: _ :: _ :: _, hn, _ => simp [argsN] at hn
    by_cases e3 : op = 3
    · subst e3
      match hA : args, hn, hl with
      | [a], _, hl =>
        simp only [fineL, Bool.and_eq_true] at hl
        exact h3 a l r hl.1 (fine_ind h1 h2 h3 h4 a hl.1)
      | [], hn, _ => simp [argsN] at hn
      | _ :: _ :: _, hn, _ => simp [argsN] at hn
    · have hc : cmpB op = true := by
        cases hc : cmpB op with
        | true => rfl
        | false => simp [argsN, e1, e2, e3, hc] at hn
      have hn' : 0 = args.length := by simpa [argsN, e1, e2, e3, hc] using hn
      match args, hn', ht with
      | [], _, ht =>
        simp [cmpB] at hc
        have ht' : termB l = true ∧ termB r = true := by simpa using ht
        exact h4 op l r hc.1 hc.2 ht'.1 ht'.2
termination_by c => SizeOf.sizeOf c
decreasing_by all_goals (subst hA; simp; omega)

def wT (s : List UInt8) : Sg := .t ⟨119, s, 0⟩
def mT (s : List UInt8) : Sg := .t ⟨109, s, 0⟩
def termS (t : TermT) : Sg := if t.ty = 0 then wT t.col else if t.ty = 1 then .t ⟨110, [], t.n⟩ else .t ⟨116, t.s, 0⟩
mutual
def condS : CondT → List Sg → List Sg
  | .mk op args l r, k =>
    if op = 1 then (match args with | [] => k | a :: t => condS a (.b :: wT wOr :: .b :: listS1 t k))
    else if op = 2 then (match args with | [] => k | a :: t => if a.op = 1 then mT [40] :: condS a (mT [41] :: .b :: wT wAnd :: .b :: listS2 t k) else condS a (.b :: wT wAnd :: .b :: listS2 t k))
    else if op = 3 then (match args with | [] => k | a :: _ => wT wNot :: .b :: (if a.op = 1 ∨ a.op = 2 then mT [40] :: condS a (mT [41] :: k) else condS a k))
    else termS l :: .b :: mT (sgnX op) :: .b :: termS r :: k
def listS1 : List CondT → List Sg → List Sg
  | [], k => k
  | b :: _, k => if b.op = 1 then mT [40] :: condS b (mT [41] :: k) else condS b k
def listS2 : List CondT → List Sg → List Sg
  | [], k => k
  | b :: _, k => if b.op = 1 ∨ b.op = 2 then mT [40] :: condS b (mT [41] :: k) else condS b k
end
/-- In parentheses, or not. -/
def parS (q : Bool) (c : CondT) (k : List Sg) : List Sg := if q = true then mT [40] :: condS c (mT [41] :: k) else condS c k
def orP (c : CondT) : Bool := decide (c.op = 1)
def andP (c : CondT) : Bool := decide (c.op = 1) || decide (c.op = 2)
theorem condS_or (a b : CondT) (l r : TermT) (k : List Sg) : condS (.mk 1 [a, b] l r) k = condS a (.b :: wT wOr :: .b :: parS (orP b) b k) := by
  rw [condS.eq_def]; simp only [if_true, listS1, parS, orP, decide_eq_true_eq]
theorem condS_and (a b : CondT) (l r : TermT) (k : List Sg) : condS (.mk 2 [a, b] l r) k = parS (orP a) a (.b :: wT wAnd :: .b :: parS (andP b) b k) := by
  rw [condS.eq_def]; simp only [if_true, listS2, parS, orP, andP, decide_eq_true_eq, Bool.or_eq_true]; rfl
theorem condS_not (a : CondT) (l r : TermT) (k : List Sg) : condS (.mk 3 [a] l r) k = wT wNot :: .b :: parS (andP a) a k := by
  rw [condS.eq_def]; simp only [if_true, parS, andP, decide_eq_true_eq, Bool.or_eq_true]; rfl
theorem condS_cmp {op : Int} (h : 4 ≤ op) (args : List CondT) (l r : TermT) (k : List Sg) : condS (.mk op args l r) k = termS l :: .b :: mT (sgnX op) :: .b :: termS r :: k := by
  rw [condS.eq_def]; simp only
  rw [if_neg (by omega), if_neg (by omega), if_neg (by omega)]
theorem condX_or (a b : CondT) (l r : TermT) : condX (.mk 1 [a, b] l r) = condX a ++ [32, 111, 114, 32] ++ parX (orP b) (condX b) := by
  rw [condX.eq_def]; simp only [if_true, listX1, orP]
theorem condX_and (a b : CondT) (l r : TermT) : condX (.mk 2 [a, b] l r) = parX (orP a) (condX a) ++ [32, 97, 110, 100, 32] ++ parX (andP b) (condX b) := by
  rw [condX.eq_def]; simp only [if_true, listX2, orP, andP]; rfl
theorem condX_not (a : CondT) (l r : TermT) : condX (.mk 3 [a] l r) = [110, 111, 116, 32] ++ parX (andP a) (condX a) := by
  rw [condX.eq_def]; simp only [if_true, andP]; rfl
theorem condX_cmp {op : Int} (h : 4 ≤ op) (args : List CondT) (l r : TermT) : condX (.mk op args l r) = termX l ++ [32] ++ sgnX op ++ [32] ++ termX r := by
  rw [condX.eq_def]; simp only
  rw [if_neg (by omega), if_neg (by omega), if_neg (by omega)]
theorem sgX_w (s : List UInt8) (k : List Sg) : sgX (wT s :: k) = s ++ sgX k := by simp [sgX, wT, tokX]
theorem sgX_m (s : List UInt8) (k : List Sg) : sgX (mT s :: k) = s ++ sgX k := by simp [sgX, mT, tokX]
theorem sgX_b (k : List Sg) : sgX (.b :: k) = [32] ++ sgX k := rfl
theorem sgX_term {t : TermT} (k : List Sg) : sgX (termS t :: k) = termX t ++ sgX k := by
  unfold termS termX
  split
  · rw [sgX_w]
  · split
    · simp [sgX, tokX]
    · simp [sgX, tokX]
theorem sgX_par {c : CondT} (h : ∀ k, sgX (condS c k) = condX c ++ sgX k) (q : Bool) (k : List Sg) : sgX (parS q c k) = parX q (condX c) ++ sgX k := by
  cases q with
  | true => simp only [parS, parX, if_true, sgX_m, h]; simp
  | false => simp [parS, parX, h]
theorem sgX_cond : ∀ c, fineC c = true → ∀ k, sgX (condS c k) = condX c ++ sgX k := by
  refine fine_ind ?_ ?_ ?_ ?_
  · intro a b l r _ _ ha hb k
    rw [condS_or, condX_or, ha, sgX_b, sgX_w, sgX_b, sgX_par hb]
    simp [wOr]
  · intro a b l r _ _ ha hb k
    rw [condS_and, condX_and, sgX_par ha, sgX_b, sgX_w, sgX_b, sgX_par hb]
    simp [wAnd]
  · intro a l r _ ha k
    rw [condS_not, condX_not, sgX_w, sgX_b, sgX_par ha]
    simp [wNot]
  · intro op l r h4 h9 _ _ k
    rw [condS_cmp h4, condX_cmp h4, sgX_term, sgX_b, sgX_m, sgX_b, sgX_term]
    simp
theorem good_w {s : List UInt8} (h : nameB s = true ∨ wordsL.contains s = true) {k : List Sg} (hk : okH k = true) (hG : GoodS k) : GoodS (wT s :: k) := ⟨GoodT.w s h, .inr hk, hG⟩
theorem good_word {s : List UInt8} (h : wordsL.contains s = true) {k : List Sg} (hk : okH k = true) (hG : GoodS k) : GoodS (wT s :: k) := good_w (.inr h) hk hG
theorem good_m {s : List UInt8} (h : s ∈ marksL) {k : List Sg} (hk : okH k = true) (hG : GoodS k) : GoodS (mT s :: k) := ⟨GoodT.m s h, .inr hk, hG⟩
theorem good_open {k : List Sg} (hG : GoodS k) : GoodS (mT [40] :: k) := ⟨GoodT.m _ (by simp [marksL]), .inl rfl, hG⟩
theorem good_term {t : TermT} (h : termB t = true) {k : List Sg} (hk : okH k = true) (hG : GoodS k) : GoodS (termS t :: k) := by
  unfold termB at h
  unfold termS
  split at h
  · rename_i h0; rw [if_pos h0]; exact good_w (.inl h) hk hG
  · rename_i h0; rw [if_neg h0]
    split at h
    · rename_i h1; rw [if_pos h1]
      simp only [Bool.and_eq_true, decide_eq_true_eq] at h
      exact ⟨GoodT.n _ h.1 h.2, .inr hk, hG⟩
    · rename_i h1; rw [if_neg h1]
      simp only [Bool.and_eq_true, decide_eq_true_eq] at h
      exact ⟨GoodT.t _ h.2, .inr hk, hG⟩
theorem good_par {c : CondT} (h : ∀ k, okH k = true → GoodS k → GoodS (condS c k)) (q : Bool) {k : List Sg} (hk : okH k = true) (hG : GoodS k) : GoodS (parS q c k) := by
  cases q with
  | true => exact good_open (h _ rfl (good_m (by simp [marksL]) hk hG))
  | false => exact h k hk hG
theorem sgn_mark {op : Int} (h4 : 4 ≤ op) (h9 : op ≤ 9) : sgnX op ∈ marksL := by
  have : op = 4 ∨ op = 5 ∨ op = 6 ∨ op = 7 ∨ op = 8 ∨ op = 9 := by omega
  rcases this with rfl | rfl | rfl | rfl | rfl | rfl <;> simp [sgnX, signsL, marksL]
theorem good_cond : ∀ c, fineC c = true → ∀ k, okH k = true → GoodS k → GoodS (condS c k) := by
  refine fine_ind ?_ ?_ ?_ ?_
  · intro a b l r _ _ ha hb k hk hG
    rw [condS_or]
    exact ha _ rfl (good_word (by decide) rfl (good_par hb _ hk hG))
  · intro a b l r _ _ ha hb k hk hG
    rw [condS_and]
    exact good_par ha _ rfl (good_word (by decide) rfl (good_par hb _ hk hG))
  · intro a l r _ ha k hk hG
    rw [condS_not]
    exact good_word (by decide) rfl (good_par ha _ hk hG)
  · intro op l r h4 h9 hl hr k hk hG
    rw [condS_cmp h4]
    exact good_term hl rfl (good_m (sgn_mark h4 h9) rfl (good_term hr hk hG))

/-! Reading back. -/
def noT (s : List UInt8) : List Tk0 → Bool
  | [] => true
  | t :: _ => !((t.s == s) && (decide (t.k = 119) || decide (t.k = 109)))
theorem k0_cons {ts : List Tok} {t : Tk0} {R : List Tk0} (h : ts.map Tok.k0 = t :: R) : ∃ u r, ts = u :: r ∧ u.k = t.k ∧ u.s = t.s ∧ u.n = t.n ∧ r.map Tok.k0 = R := by
  cases ts with
  | nil => simp at h
  | cons u r =>
    simp only [List.map_cons, List.cons.injEq] at h
    refine ⟨u, r, rfl, ?_, ?_, ?_, h.2⟩ <;> rw [← h.1] <;> rfl
theorem may_no {s : List UInt8} {ts : List Tok} (h : noT s (ts.map Tok.k0) = true) : mayF s ts = none := by
  cases ts with
  | nil => rfl
  | cons t r =>
    simp only [List.map_cons, noT, Tok.k0, Bool.not_eq_true'] at h
    simp only [mayF, isT, h]
    rfl
theorem may_yes {s : List UInt8} {ts : List Tok} {t : Tk0} {R : List Tk0} (h : ts.map Tok.k0 = t :: R) (hs : t.s = s) (hk : t.k = 119 ∨ t.k = 109) : ∃ r, mayF s ts = some r ∧ r.map Tok.k0 = R := by
  obtain ⟨u, r, rfl, h1, h2, -, h4⟩ := k0_cons h
  refine ⟨r, ?_, h4⟩
  simp only [mayF, isT, h1, h2, hs]
  rw [if_pos]
  rcases hk with e | e <;> simp [e]
theorem must_yes {s : List UInt8} {ts : List Tok} {t : Tk0} {R : List Tk0} (h : ts.map Tok.k0 = t :: R) (hs : t.s = s) (hk : t.k = 119 ∨ t.k = 109) : ∃ r, mustF s ts = .ok () r ∧ r.map Tok.k0 = R := by
  obtain ⟨r, h1, h2⟩ := may_yes h hs hk
  exact ⟨r, by simp only [mustF, h1], h2⟩
theorem k0_len {ts : List Tok} {R : List Tk0} (h : ts.map Tok.k0 = R) : ts.length = R.length := by rw [← h]; simp
theorem name_not {s : List UInt8} (h : nameB s = true) : wordsL.contains s = false := by
  simp only [nameB, Bool.and_eq_true] at h
  simpa using h.1.2
theorem name_word {s w : List UInt8} (h : nameB s = true) (hw : wordsL.contains w = true) : (s == w) = false := by
  cases e : s == w with
  | false => rfl
  | true =>
    rw [beq_iff_eq] at e
    subst e
    rw [name_not h] at hw; cases hw
theorem name_mark {s : List UInt8} {c : UInt8} {r : List UInt8} (h : nameB s = true) (hc : smallB c = false) : (s == c :: r) = false := by
  cases e : s == c :: r with
  | false => rfl
  | true =>
    rw [beq_iff_eq] at e
    subst e
    simp only [nameB, Bool.and_eq_true] at h
    have := h.1.1.2
    simp only [headB, hc] at this
    cases this
/-- A term stands here. -/
theorem term_back {t : TermT} (ht : termB t = true) {k : List Sg} {ts : List Tok} (h : ts.map Tok.k0 = toksS (termS t :: k)) : ∃ r, termF ts = .ok (bareT t) r ∧ r.map Tok.k0 = toksS k := by
  unfold termB at ht
  unfold termS at h
  unfold bareT
  by_cases h0 : t.ty = 0
  · rw [if_pos h0] at ht h
    obtain ⟨u, r, rfl, h1, h2, -, h4⟩ := k0_cons h
    refine ⟨r, ?_, h4⟩
    rw [if_neg (by omega), if_neg (by omega)]
    simp only [termF, h1]
    rw [if_neg (by decide), if_neg (by decide), if_pos, h2]
    simp only [isNm, h1, h2, ht]
    rfl
  · rw [if_neg h0] at ht h
    by_cases h1 : t.ty = 1
    · rw [if_pos h1] at h ⊢
      obtain ⟨u, r, rfl, h1, h2, h3, h4⟩ := k0_cons h
      refine ⟨r, ?_, h4⟩
      simp only [termF, h1, h3]
      rw [if_pos trivial]
    · rw [if_neg h1] at ht h ⊢
      simp only [Bool.and_eq_true, decide_eq_true_eq] at ht
      rw [if_pos ht.1]
      obtain ⟨u, r, rfl, h1, h2, h3, h4⟩ := k0_cons h
      refine ⟨r, ?_, h4⟩
      simp only [termF, h1, h2]
      rw [if_neg (by decide), if_pos trivial]
theorem noT_term {t : TermT} (ht : termB t = true) (k : List Sg) : noT wNot (toksS (termS t :: k)) = true ∧ noT [40] (toksS (termS t :: k)) = true := by
  unfold termB at ht
  unfold termS
  by_cases h0 : t.ty = 0
  · rw [if_pos h0] at ht ⊢
    have e1 := name_word ht (w := wNot) (by decide)
    have e2 := name_mark (c := 40) (r := []) ht (by decide)
    simp only [wT, toksS, noT, e1, e2]
    exact ⟨rfl, rfl⟩
  · rw [if_neg h0] at ht ⊢
    by_cases h1 : t.ty = 1
    · rw [if_pos h1]; simp [toksS, noT]
    · rw [if_neg h1]; simp [toksS, noT]
theorem sign_back {op : Int} (h4 : 4 ≤ op) (h9 : op ≤ 9) {k : List Sg} {ts : List Tok} (h : ts.map Tok.k0 = toksS (mT (sgnX op) :: k)) : ∃ r, signF signsL 4 ts = some (op, r) ∧ r.map Tok.k0 = toksS k := by
  obtain ⟨u, r, rfl, h1, h2, -, hr⟩ := k0_cons h
  refine ⟨r, ?_, hr⟩
  have hm : ∀ s, mayF s (u :: r) = if (sgnX op == s) = true then some r else none := by
    intro s
    simp only [mayF, isT, h1, h2]
    cases sgnX op == s <;> simp
  have : op = 4 ∨ op = 5 ∨ op = 6 ∨ op = 7 ∨ op = 8 ∨ op = 9 := by omega
  rcases this with rfl | rfl | rfl | rfl | rfl | rfl <;> simp [signF, signsL, hm, sgnX]
theorem comp_back {op : Int} (h4 : 4 ≤ op) (h9 : op ≤ 9) {l r : TermT} (hl : termB l = true) (hr : termB r = true) {k : List Sg} {ts : List Tok} (h : ts.map Tok.k0 = toksS (termS l :: .b :: mT (sgnX op) :: .b :: termS r :: k)) : ∃ r', compF ts = .ok (.mk op [] (bareT l) (bareT r)) r' ∧ r'.map Tok.k0 = toksS k := by
  obtain ⟨r1, e1, m1⟩ := term_back hl h
  obtain ⟨r2, e2, m2⟩ := sign_back h4 h9 (k := .b :: termS r :: k) m1
  obtain ⟨r3, e3, m3⟩ := term_back hr (k := k) m2
  exact ⟨r3, by simp only [compF, e1, PR.bind, e2, e3], m3⟩
theorem toks_term (t : TermT) (k : List Sg) : (toksS (termS t :: k)).length = (toksS k).length + 1 := by
  unfold termS
  split
  · rfl
  · split <;> rfl
theorem len_par {c : CondT} (h : ∀ k, (toksS k).length + 2 * depthC c ≤ (toksS (condS c k)).length + depthC c) (q : Bool) (k : List Sg) : (toksS k).length + depthC c ≤ (toksS (parS q c k)).length := by
  cases q with
  | true =>
    have := h (mT [41] :: k)
    simp only [parS, if_true, mT, toksS, List.length_cons] at this ⊢
    omega
  | false => have := h k; simp only [parS]; simp only [Bool.false_eq_true, if_false]; omega
theorem depth_2 {op : Int} (h : op < 4) (args : List CondT) (l r : TermT) : depthC (.mk op args l r) = 1 + depthL args := by
  rw [depthC.eq_def]; simp only
  rw [if_neg (by simp [cmpB]; omega)]
theorem depth_1 {op : Int} (h4 : 4 ≤ op) (h9 : op ≤ 9) (args : List CondT) (l r : TermT) : depthC (.mk op args l r) = 1 := by
  rw [depthC.eq_def]; simp only
  rw [if_pos (by simp [cmpB]; omega)]
theorem depthL_2 (a b : CondT) : depthL [a, b] = max (depthC a) (depthC b) := by simp [depthL]
theorem depthL_1 (a : CondT) : depthL [a] = depthC a := by simp [depthL]
theorem len_cond : ∀ c, fineC c = true → ∀ k, (toksS k).length + 2 * depthC c ≤ (toksS (condS c k)).length + depthC c := by
  refine fine_ind ?_ ?_ ?_ ?_
  · intro a b l r _ _ ha hb k
    rw [condS_or, depth_2 (by decide), depthL_2]
    have h1 := ha (.b :: wT wOr :: .b :: parS (orP b) b k)
    have h2 := len_par hb (orP b) k
    have e1 : (toksS (.b :: wT wOr :: .b :: parS (orP b) b k)).length = (toksS (parS (orP b) b k)).length + 1 := rfl
    omega
  · intro a b l r _ _ ha hb k
    rw [condS_and, depth_2 (by decide), depthL_2]
    have h1 := len_par ha (orP a) (.b :: wT wAnd :: .b :: parS (andP b) b k)
    have h2 := len_par hb (andP b) k
    have e1 : (toksS (.b :: wT wAnd :: .b :: parS (andP b) b k)).length = (toksS (parS (andP b) b k)).length + 1 := rfl
    omega
  · intro a l r _ ha k
    rw [condS_not, depth_2 (by decide), depthL_1]
    have h2 := len_par ha (andP a) k
    simp only [wT, toksS, List.length_cons]
    omega
  · intro op l r h4 h9 _ _ k
    rw [condS_cmp h4, depth_1 h4 h9]
    have e1 := toks_term l (.b :: mT (sgnX op) :: .b :: termS r :: k)
    have e2 : (toksS (.b :: mT (sgnX op) :: .b :: termS r :: k)).length = (toksS (termS r :: k)).length + 1 := rfl
    have e3 := toks_term r k
    omega
def St0 (c : CondT) : Prop := ∀ k ts, ts.map Tok.k0 = toksS (condS c k) → noT wAnd (toksS k) = true → ∀ f, 4 * depthC c ≤ f + 1 → ∃ x r', condF f 1 ts = .ok x r' ∧ ∃ r, r.map Tok.k0 = toksS k ∧ ∀ n, r'.length ≤ n → ∃ m, r.length ≤ m ∧ loopF (condF f 1) 1 wOr n x r' = loopF (condF f 1) 1 wOr m (bareC c) r
def St1 (c : CondT) : Prop := c.op ≠ 1 → ∀ k ts, ts.map Tok.k0 = toksS (condS c k) → ∀ f, 4 * depthC c ≤ f + 2 → ∃ x r', condF f 2 ts = .ok x r' ∧ ∃ r, r.map Tok.k0 = toksS k ∧ ∀ n, r'.length ≤ n → ∃ m, r.length ≤ m ∧ loopF (condF f 2) 2 wAnd n x r' = loopF (condF f 2) 2 wAnd m (bareC c) r
def St2 (c : CondT) : Prop := c.op ≠ 1 → c.op ≠ 2 → ∀ k ts, ts.map Tok.k0 = toksS (condS c k) → ∀ f, 4 * depthC c ≤ f + 2 → ∃ r, condF f 2 ts = .ok (bareC c) r ∧ r.map Tok.k0 = toksS k
theorem loop_stop {part : List Tok → PR CondT} {op : Int} {w : List UInt8} {n : Nat} {c : CondT} {ts : List Tok} (h : mayF w ts = none) : loopF part op w n c ts = .ok c ts := by
  rw [loopF.eq_def]; simp only [h]
theorem loop_step {part : List Tok → PR CondT} {op : Int} {w : List UInt8} {n : Nat} {c d : CondT} {ts r r' : List Tok} (h : mayF w ts = some r) (hp : part r = .ok d r') : loopF part op w (n + 1) c ts = loopF part op w n (.mk op [c, d] term0 term0) r' := by
  rw [loopF.eq_def]; simp only [h, hp, PR.bind]
theorem st2_st1 {c : CondT} (h2 : c.op ≠ 2) (h : St2 c) : St1 c := by
  intro h1 k ts hts f hf
  obtain ⟨r, e, m⟩ := h h1 h2 k ts hts f hf
  exact ⟨_, r, e, r, m, fun n hn => ⟨n, hn, rfl⟩⟩
/-- Read whole where 'and' binds. -/
theorem st1_whole {c : CondT} (h1 : c.op ≠ 1) (h : St1 c) {k : List Sg} {ts : List Tok} (hts : ts.map Tok.k0 = toksS (condS c k)) (hn : noT wAnd (toksS k) = true) {f : Nat} (hf : 4 * depthC c ≤ f + 1) (hd : 1 ≤ depthC c) : ∃ r, condF f 1 ts = .ok (bareC c) r ∧ r.map Tok.k0 = toksS k := by
  obtain ⟨f, rfl⟩ : ∃ g, f = g + 1 := ⟨f - 1, by omega⟩
  obtain ⟨x, r', e, r, m, hl⟩ := h h1 k ts hts f (by omega)
  obtain ⟨n, -, e2⟩ := hl r'.length (Nat.le_refl _)
  refine ⟨r, ?_, m⟩
  simp only [condF, e, PR.bind, e2]
  exact loop_stop (may_no (by rw [m]; exact hn))
theorem st1_st0 {c : CondT} (h1 : c.op ≠ 1) (hd : 1 ≤ depthC c) (h : St1 c) : St0 c := by
  intro k ts hts hn f hf
  obtain ⟨r, e, m⟩ := st1_whole h1 h hts hn hf hd
  exact ⟨_, r, e, r, m, fun n hn => ⟨n, hn, rfl⟩⟩
/-- Read whole where 'or' binds. -/
theorem st0_whole {c : CondT} (h : St0 c) {k : List Sg} {ts : List Tok} (hts : ts.map Tok.k0 = toksS (condS c k)) (hn : noT wAnd (toksS k) = true) (ho : noT wOr (toksS k) = true) {f : Nat} (hf : 4 * depthC c ≤ f) (hd : 1 ≤ depthC c) : ∃ r, condF f 0 ts = .ok (bareC c) r ∧ r.map Tok.k0 = toksS k := by
  obtain ⟨f, rfl⟩ : ∃ g, f = g + 1 := ⟨f - 1, by omega⟩
  obtain ⟨x, r', e, r, m, hl⟩ := h k ts hts hn f (by omega)
  obtain ⟨n, -, e2⟩ := hl r'.length (Nat.le_refl _)
  refine ⟨r, ?_, m⟩
  simp only [condF, e, PR.bind, e2]
  exact loop_stop (may_no (by rw [m]; exact ho))
/-- Read in parentheses. -/
theorem par_back {c : CondT} (h : St0 c) {k : List Sg} {ts : List Tok} (hts : ts.map Tok.k0 = toksS (mT [40] :: condS c (mT [41] :: k))) {f : Nat} (hf : 4 * depthC c + 1 ≤ f) (hd : 1 ≤ depthC c) : ∃ r, condF f 2 ts = .ok (bareC c) r ∧ r.map Tok.k0 = toksS k := by
  obtain ⟨f, rfl⟩ : ∃ g, f = g + 1 := ⟨f - 1, by omega⟩
  have e0 : mayF wNot ts = none := may_no (by rw [hts]; rfl)
  obtain ⟨r1, e1, m1⟩ := may_yes (s := [40]) hts rfl (.inr rfl)
  obtain ⟨r2, e2, m2⟩ := st0_whole h (k := mT [41] :: k) m1 rfl rfl (f := f) (by omega) hd
  obtain ⟨r3, e3, m3⟩ := must_yes (s := [41]) m2 rfl (.inr rfl)
  refine ⟨r3, ?_, m3⟩
  simp only [condF, e0, e1, e2, PR.bind, e3]
theorem depth_pos : ∀ c, fineC c = true → 1 ≤ depthC c := by
  refine fine_ind ?_ ?_ ?_ ?_
  · intro a b l r _ _ _ _; rw [depth_2 (by decide)]; omega
  · intro a b l r _ _ _ _; rw [depth_2 (by decide)]; omega
  · intro a l r _ _; rw [depth_2 (by decide)]; omega
  · intro op l r h4 h9 _ _; rw [depth_1 h4 h9]; omega
/-- Where 'not' binds. -/
theorem rd2 {c : CondT} (h0 : St0 c) (h2 : St2 c) (hd : 1 ≤ depthC c) {k : List Sg} {ts : List Tok} (hts : ts.map Tok.k0 = toksS (parS (andP c) c k)) {f : Nat} (hf : 4 * depthC c + 1 ≤ f) : ∃ r, condF f 2 ts = .ok (bareC c) r ∧ r.map Tok.k0 = toksS k := by
  cases e : andP c with
  | true => rw [e] at hts; exact par_back h0 hts hf hd
  | false =>
    rw [e] at hts
    simp only [andP, Bool.or_eq_false_iff, decide_eq_false_iff_not] at e
    exact h2 e.1 e.2 k ts hts f (by omega)
/-- Where 'and' binds. -/
theorem rd1 {c : CondT} (h0 : St0 c) (h1 : St1 c) (hd : 1 ≤ depthC c) {k : List Sg} {ts : List Tok} (hts : ts.map Tok.k0 = toksS (parS (orP c) c k)) (hn : noT wAnd (toksS k) = true) {f : Nat} (hf : 4 * depthC c + 2 ≤ f) : ∃ r, condF f 1 ts = .ok (bareC c) r ∧ r.map Tok.k0 = toksS k := by
  cases e : orP c with
  | true =>
    rw [e] at hts
    obtain ⟨f, rfl⟩ : ∃ g, f = g + 1 := ⟨f - 1, by omega⟩
    obtain ⟨r, e1, m⟩ := par_back h0 hts (f := f) (by omega) hd
    refine ⟨r, ?_, m⟩
    simp only [condF, e1, PR.bind]
    exact loop_stop (may_no (by rw [m]; exact hn))
  | false =>
    rw [e] at hts
    simp only [orP, decide_eq_false_iff_not] at e
    exact st1_whole e h1 hts hn (by omega) hd
theorem bare_or (a b : CondT) (l r : TermT) : bareC (.mk 1 [a, b] l r) = .mk 1 [bareC a, bareC b] term0 term0 := by
  rw [bareC.eq_def]; simp [bareL]
theorem bare_and (a b : CondT) (l r : TermT) : bareC (.mk 2 [a, b] l r) = .mk 2 [bareC a, bareC b] term0 term0 := by
  rw [bareC.eq_def]; simp [bareL]
theorem bare_not (a : CondT) (l r : TermT) : bareC (.mk 3 [a] l r) = .mk 3 [bareC a] term0 term0 := by
  rw [bareC.eq_def]; simp [bareL]
theorem bare_cmp {op : Int} (h : 4 ≤ op) (l r : TermT) : bareC (.mk op [] l r) = .mk op [] (bareT l) (bareT r) := by
  rw [bareC.eq_def]; simp only
  rw [if_neg (by omega), if_pos (by omega)]
theorem cond_back : ∀ c, fineC c = true → St0 c ∧ St1 c ∧ St2 c := by
  refine fine_ind ?_ ?_ ?_ ?_
  · intro a b l r fa fb ⟨ha0, ha1, ha2⟩ ⟨hb0, hb1, hb2⟩
    have da := depth_pos a fa
    have db := depth_pos b fb
    refine ⟨?_, fun h => absurd rfl h, fun h => absurd rfl h⟩
    intro k ts hts hn f hf
    rw [depth_2 (by decide), depthL_2] at hf
    rw [condS_or] at hts
    obtain ⟨x, r', e, r1, m1, hl⟩ := ha0 _ ts hts rfl f (by omega)
    obtain ⟨r2, e2, m2⟩ := may_yes (s := wOr) m1 rfl (.inl rfl)
    obtain ⟨r3, e3, m3⟩ := rd1 hb0 hb1 db (k := k) m2 hn (f := f) (by omega)
    refine ⟨x, r', e, r3, m3, fun n hn' => ?_⟩
    obtain ⟨m, hm, e4⟩ := hl n hn'
    have l1 := k0_len m1
    have l3 := k0_len m3
    have l4 := len_par (len_cond b fb) (orP b) k
    simp only [wT, toksS, List.length_cons] at l1
    obtain ⟨m, rfl⟩ : ∃ g, m = g + 1 := ⟨m - 1, by omega⟩
    refine ⟨m, by omega, ?_⟩
    rw [e4, loop_step e2 e3, bare_or]
  · intro a b l r fa fb ⟨ha0, ha1, ha2⟩ ⟨hb0, hb1, hb2⟩
    have da := depth_pos a fa
    have db := depth_pos b fb
    have S1 : St1 (.mk 2 [a, b] l r) := by
      intro _ k ts hts f hf
      rw [depth_2 (by decide), depthL_2] at hf
      rw [condS_and] at hts
      have key : ∃ x r', condF f 2 ts = .ok x r' ∧ ∃ r, r.map Tok.k0 = toksS (.b :: wT wAnd :: .b :: parS (andP b) b k) ∧ ∀ n, r'.length ≤ n → ∃ m, r.length ≤ m ∧ loopF (condF f 2) 2 wAnd n x r' = loopF (condF f 2) 2 wAnd m (bareC a) r := by
        cases e : orP a with
        | true =>
          rw [e] at hts
          obtain ⟨r, e1, m⟩ := par_back ha0 hts (f := f) (by omega) da
          exact ⟨_, r, e1, r, m, fun n hn => ⟨n, hn, rfl⟩⟩
        | false =>
          rw [e] at hts
          simp only [orP, decide_eq_false_iff_not] at e
          exact ha1 e _ ts hts f (by omega)
      obtain ⟨x, r', e, r1, m1, hl⟩ := key
      obtain ⟨r2, e2, m2⟩ := may_yes (s := wAnd) m1 rfl (.inl rfl)
      obtain ⟨r3, e3, m3⟩ := rd2 hb0 hb2 db (k := k) m2 (f := f) (by omega)
      refine ⟨x, r', e, r3, m3, fun n hn' => ?_⟩
      obtain ⟨m, hm, e4⟩ := hl n hn'
      have l1 := k0_len m1
      have l3 := k0_len m3
      have l4 := len_par (len_cond b fb) (andP b) k
      simp only [wT, toksS, List.length_cons] at l1
      obtain ⟨m, rfl⟩ : ∃ g, m = g + 1 := ⟨m - 1, by omega⟩
      refine ⟨m, by omega, ?_⟩
      rw [e4, loop_step e2 e3, bare_and]
    exact ⟨st1_st0 (by simp [CondT.op]) (by rw [depth_2 (by decide)]; omega) S1, S1, fun _ h => absurd rfl h⟩
  · intro a l r fa ⟨ha0, ha1, ha2⟩
    have da := depth_pos a fa
    have S2 : St2 (.mk 3 [a] l r) := by
      intro _ _ k ts hts f hf
      rw [depth_2 (by decide), depthL_1] at hf
      rw [condS_not] at hts
      obtain ⟨f, rfl⟩ : ∃ g, f = g + 1 := ⟨f - 1, by omega⟩
      obtain ⟨r1, e1, m1⟩ := may_yes (s := wNot) hts rfl (.inl rfl)
      obtain ⟨r2, e2, m2⟩ := rd2 ha0 ha2 da (k := k) m1 (f := f) (by omega)
      refine ⟨r2, ?_, m2⟩
      rw [bare_not]
      simp only [condF, e1, e2, PR.bind]
    have S1 := st2_st1 (by simp [CondT.op]) S2
    exact ⟨st1_st0 (by simp [CondT.op]) (by rw [depth_2 (by decide)]; omega) S1, S1, S2⟩
  · intro op l r h4 h9 hl hr
    have S2 : St2 (.mk op [] l r) := by
      intro _ _ k ts hts f hf
      rw [depth_1 h4 h9] at hf
      rw [condS_cmp h4] at hts
      obtain ⟨f, rfl⟩ : ∃ g, f = g + 1 := ⟨f - 1, by omega⟩
      obtain ⟨n1, n2⟩ := noT_term hl (.b :: mT (sgnX op) :: .b :: termS r :: k)
      obtain ⟨r1, e1, m1⟩ := comp_back h4 h9 hl hr hts
      refine ⟨r1, ?_, m1⟩
      rw [bare_cmp h4]
      have e2 : mayF wNot ts = none := may_no (by rw [hts]; exact n1)
      have e3 : mayF [40] ts = none := may_no (by rw [hts]; exact n2)
      simp only [condF, e2, e3, e1]
    have S1 := st2_st1 (by simp [CondT.op]; omega) S2
    exact ⟨st1_st0 (by simp [CondT.op]; omega) (by rw [depth_1 h4 h9]; omega) S1, S1, S2⟩
end Go.Proofs.YtijlifdbjhieaaaGreatDoor.Pl

/-
  Plain: queries that are printed are read back, whatever blanks stand between their tokens.
-/
namespace Go.Proofs.YtijlifdbjhieaaaGreatDoor.Pl
set_option linter.all false
open Go.Lib

def itemS (x : ItemT) (k : List Sg) : List Sg := if x.agg = [] then wT x.col :: k else wT x.agg :: mT [40] :: (if x.agg = wCount then mT [42] else wT x.col) :: mT [41] :: k
def orderS (o : OrderT) (k : List Sg) : List Sg := if o.desc = true then wT o.col :: .b :: wT wDesc :: k else wT o.col :: k
def nmS (s : List UInt8) (k : List Sg) : List Sg := wT s :: k
def listS {α : Type} (S : α → List Sg → List Sg) : List α → List Sg → List Sg
  | [], k => k
  | [x], k => S x k
  | x :: y :: t, k => S x (mT [44] :: .b :: listS S (y :: t) k)
theorem name_back {s : List UInt8} (h : nameB s = true) {k : List Sg} {ts : List Tok} (hts : ts.map Tok.k0 = toksS (wT s :: k)) : ∃ r, nmF ts = .ok s r ∧ r.map Tok.k0 = toksS k := by
  obtain ⟨u, r, rfl, h1, h2, -, h4⟩ := k0_cons hts
  refine ⟨r, ?_, h4⟩
  simp only [nmF]
  rw [if_pos (by simp only [isNm, h1, h2, h]; rfl), h2]
theorem agg_in {a : List UInt8} (h : a = wCount ∨ a = [115, 117, 109] ∨ a = [109, 105, 110] ∨ a = [109, 97, 120]) {u : Tok} {r : List Tok} (h1 : u.k = 119) (h2 : u.s = a) : itemF (u :: r) = aggF a r := by
  have hm : ∀ s, mayF s (u :: r) = if (a == s) = true then some r else none := by
    intro s
    simp only [mayF, isT, h1, h2]
    cases a == s <;> simp
  rcases h with rfl | rfl | rfl | rfl
  · simp only [itemF, itemG, aggsL, hm]; rfl
  · simp only [itemF, itemG, aggsL, hm]; rfl
  · simp only [itemF, itemG, aggsL, hm]; rfl
  · simp only [itemF, itemG, aggsL, hm]; rfl
theorem item_back {x : ItemT} (h : itemB x = true) {k : List Sg} {ts : List Tok} (hts : ts.map Tok.k0 = toksS (itemS x k)) : ∃ r, itemF ts = .ok x r ∧ r.map Tok.k0 = toksS k := by
  unfold itemS at hts
  obtain ⟨a, c⟩ := x
  unfold itemB at h
  dsimp only at h hts
  by_cases ha : a = []
  · subst ha
    rw [if_pos rfl] at hts
    rw [if_neg (by decide), if_pos (.inl rfl)] at h
    have hno : ∀ w, wordsL.contains w = true → mayF w ts = none := fun w hw => may_no (by rw [hts]; simp only [wT, toksS, noT, name_word h hw]; rfl)
    obtain ⟨r, e, m⟩ := name_back h hts
    refine ⟨r, ?_, m⟩
    simp only [itemF, aggsL, itemG, hno [115, 117, 109] (by decide), hno [99, 111, 117, 110, 116] (by decide), hno [109, 105, 110] (by decide), hno [109, 97, 120] (by decide), e, PR.bind]
  · rw [if_neg ha] at hts
    obtain ⟨u, r, rfl, h1, h2, -, h4⟩ := k0_cons hts
    obtain ⟨r1, e1, m1⟩ := must_yes (s := [40]) h4 rfl (.inr rfl)
    by_cases hc : a = wCount
    · rw [if_pos hc] at h m1
      have h' : c = [42] := by simpa using h
      subst h'
      obtain ⟨r2, e2, m2⟩ := must_yes (s := [42]) m1 rfl (.inr rfl)
      obtain ⟨r3, e3, m3⟩ := must_yes (s := [41]) m2 rfl (.inr rfl)
      refine ⟨r3, ?_, m3⟩
      rw [agg_in (.inl hc) h1 h2]
      simp only [aggF, e1, PR.bind]
      rw [if_pos hc]
      simp only [e2, PR.bind, e3]
    · rw [if_neg hc] at h m1
      have hin : a = [115, 117, 109] ∨ a = [109, 105, 110] ∨ a = [109, 97, 120] := by
        by_cases hh : a = [] ∨ a = [115, 117, 109] ∨ a = [109, 105, 110] ∨ a = [109, 97, 120]
        · exact hh.resolve_left ha
        · rw [if_neg hh] at h; cases h
      rw [if_pos (.inr hin)] at h
      obtain ⟨r2, e2, m2⟩ := name_back h (k := mT [41] :: k) m1
      obtain ⟨r3, e3, m3⟩ := must_yes (s := [41]) m2 rfl (.inr rfl)
      refine ⟨r3, ?_, m3⟩
      rw [agg_in (.inr hin) h1 h2]
      simp only [aggF, e1, PR.bind]
      rw [if_neg hc]
      simp only [e2, PR.bind, e3]
theorem order_back {o : OrderT} (h : nameB o.col = true) {k : List Sg} {ts : List Tok} (hk : noT wDesc (toksS k) = true) (hts : ts.map Tok.k0 = toksS (orderS o k)) : ∃ r, orderF ts = .ok o r ∧ r.map Tok.k0 = toksS k := by
  obtain ⟨c, d⟩ := o
  unfold orderS at hts
  cases d with
  | true =>
    obtain ⟨r1, e1, m1⟩ := name_back h (k := .b :: wT wDesc :: k) hts
    obtain ⟨r2, e2, m2⟩ := may_yes (s := wDesc) m1 rfl (.inl rfl)
    exact ⟨r2, by simp only [orderF, e1, PR.bind, e2], m2⟩
  | false =>
    obtain ⟨r1, e1, m1⟩ := name_back h (k := k) hts
    have e2 : mayF wDesc r1 = none := may_no (by rw [m1]; exact hk)
    exact ⟨r1, by simp only [orderF, e1, PR.bind, e2], m1⟩
theorem many_back {α : Type} {part : List Tok → PR α} {beg : Tok → Bool} {S : α → List Sg → List Sg} {okk : List Sg → Prop} (hc : ∀ k, okk (mT [44] :: k)) : ∀ (xs : List α),
    (∀ x ∈ xs, ∀ k ts, okk k → ts.map Tok.k0 = toksS (S x k) → ∃ r, part ts = .ok x r ∧ r.map Tok.k0 = toksS k) → (∀ x ∈ xs, ∀ k, (toksS k).length + 1 ≤ (toksS (S x k)).length) → xs ≠ [] →
    ∀ (out : List α) (k : List Sg) (ts : List Tok) (n : Nat), out.length + xs.length ≤ 20 → okk k → noT [44] (toksS k) = true → ts.map Tok.k0 = toksS (listS S xs k) → xs.length ≤ n + 1 → ∃ r, manyF part beg n out ts = .ok (out ++ xs) r ∧ r.map Tok.k0 = toksS k
  | [], _, _, hne, _, _, _, _, _, _, _, _, _ => absurd rfl hne
  | [x], hp, hl, _, out, k, ts, n, ho, hk, hn, hts, _ => by
    obtain ⟨r, e, m⟩ := hp x (by simp) k ts hk hts
    refine ⟨r, ?_, m⟩
    have hlen := k0_len hts
    have := hl x (by simp) k
    simp only [listS] at hlen
    rw [manyF.eq_def]
    cases ts with
    | nil => simp at hlen; omega
    | cons t ts =>
      simp only [List.length_cons, List.length_nil] at ho
      simp only
      rw [if_neg (by omega), e]
      simp only [PR.bind, may_no (s := [44]) (ts := r) (by rw [m]; exact hn)]
  | x :: y :: t, hp, hl, _, out, k, ts, n, ho, hk, hn, hts, hnn => by
    obtain ⟨r, e, m⟩ := hp x (by simp) (mT [44] :: .b :: listS S (y :: t) k) ts (hc _) hts
    obtain ⟨r1, e1, m1⟩ := may_yes (s := [44]) m rfl (.inr rfl)
    simp only [List.length_cons] at ho hnn
    obtain ⟨n, rfl⟩ : ∃ m, n = m + 1 := ⟨n - 1, by omega⟩
    obtain ⟨r2, e2, m2⟩ := many_back hc (y :: t) (fun x hx => hp x (by simp [List.mem_cons.1 hx])) (fun x hx => hl x (by simp [List.mem_cons.1 hx])) (by simp) (out ++ [x]) k r1 n (by simp; omega) hk hn m1 (by simp; omega)
    refine ⟨r2, ?_, m2⟩
    have hlen := k0_len hts
    have := hl x (by simp) (mT [44] :: .b :: listS S (y :: t) k)
    simp only [listS] at hlen
    rw [manyF.eq_def]
    cases ts with
    | nil => simp at hlen; omega
    | cons u ts =>
      simp only
      rw [if_neg (by omega), e]
      simp only [PR.bind, e1]
      rw [e2]; simp
theorem list_len {α : Type} {S : α → List Sg → List Sg} : ∀ (xs : List α), (∀ x ∈ xs, ∀ k, (toksS k).length + 1 ≤ (toksS (S x k)).length) → ∀ k, (toksS k).length + xs.length ≤ (toksS (listS S xs k)).length
  | [], _, k => by simp [listS]
  | [x], h, k => by have := h x (by simp) k; simpa [listS] using this
  | x :: y :: t, h, k => by
    have h1 := h x (by simp) (mT [44] :: .b :: listS S (y :: t) k)
    have h2 := list_len (y :: t) (fun x hx => h x (by simp [List.mem_cons.1 hx])) k
    simp only [mT, toksS, List.length_cons] at h1 h2 ⊢
    simp only [listS, mT]
    omega
theorem len_item (x : ItemT) (k : List Sg) : (toksS k).length + 1 ≤ (toksS (itemS x k)).length := by
  unfold itemS
  split
  · simp [wT, toksS]
  · split <;> simp [wT, mT, toksS] <;> omega
theorem len_order (x : OrderT) (k : List Sg) : (toksS k).length + 1 ≤ (toksS (orderS x k)).length := by
  unfold orderS
  split <;> simp [wT, toksS] <;> omega
theorem len_nm (x : List UInt8) (k : List Sg) : (toksS k).length + 1 ≤ (toksS (nmS x k)).length := by simp [nmS, wT, toksS]

def limitS (q : QueryT) : List Sg := if 0 ≤ q.limit then [.b, wT wLimit, .b, .t ⟨110, [], q.limit⟩] else []
def ordersS (q : QueryT) (k : List Sg) : List Sg := if q.order = [] then k else .b :: wT wOrder :: .b :: wT wBy :: .b :: listS orderS q.order k
def groupS (q : QueryT) (k : List Sg) : List Sg := if q.group = [] then k else .b :: wT wGroup :: .b :: wT wBy :: .b :: listS nmS q.group k
def whereS (q : QueryT) (k : List Sg) : List Sg := if q.wh.op = 0 then k else .b :: wT wWhere :: .b :: condS q.wh k
def queryS (q : QueryT) : List Sg := wT wSelect :: .b :: listS itemS q.items (.b :: wT wFrom :: .b :: wT q.table :: whereS q (groupS q (ordersS q (limitS q))))

/-! Its text. -/
theorem sgX_list {α : Type} {S : α → List Sg → List Sg} {X : α → List UInt8} : ∀ (xs : List α), (∀ x ∈ xs, ∀ k, sgX (S x k) = X x ++ sgX k) → ∀ k, sgX (listS S xs k) = join (xs.map X) [44, 32] ++ sgX k
  | [], _, k => by simp [listS, join_nil]
  | [x], h, k => by simp only [listS, List.map_cons, List.map_nil, join_one]; exact h x (by simp) k
  | x :: y :: t, h, k => by
    have h1 := h x (by simp) (mT [44] :: .b :: listS S (y :: t) k)
    have h2 := sgX_list (y :: t) (fun x hx => h x (by simp [List.mem_cons.1 hx])) k
    simp only [listS]
    rw [h1, sgX_m, sgX_b, h2]
    simp only [List.map_cons, join_cons, joinTail, List.map_cons, List.flatten_cons, List.append_assoc, List.cons_append, List.nil_append]
theorem sgX_item {x : ItemT} (h : itemB x = true) (k : List Sg) : sgX (itemS x k) = itemX x ++ sgX k := by
  unfold itemS itemX
  by_cases ha : x.agg = []
  · rw [if_pos ha, if_pos ha, sgX_w]
  · rw [if_neg ha, if_neg ha, sgX_w, sgX_m]
    by_cases hc : x.agg = wCount
    · unfold itemB at h
      rw [if_pos hc] at h
      have h' : x.col = [42] := by simpa using h
      rw [if_pos hc, sgX_m, sgX_m, h']
      simp
    · rw [if_neg hc, sgX_w, sgX_m]; simp
theorem sgX_order (o : OrderT) (k : List Sg) : sgX (orderS o k) = orderX o ++ sgX k := by
  unfold orderS orderX
  split
  · rw [sgX_w, sgX_b, sgX_w]; simp [wDesc]
  · rw [sgX_w]
/-- What a printed query's form asks. -/
structure FormQ (q : QueryT) : Prop where
  i0 : q.items ≠ []
  i1 : q.items.length ≤ 20
  g1 : q.group.length ≤ 20
  o1 : q.order.length ≤ 20
  it : ∀ x ∈ q.items, itemB x = true
  tb : nameB q.table = true
  gr : ∀ x ∈ q.group, nameB x = true
  od : ∀ o ∈ q.order, nameB o.col = true
  l0 : -1 ≤ q.limit
  l1 : q.limit ≤ 4611686018427387904
  wd : q.wh.op ≠ 0 → depthC q.wh ≤ 32
  wf : q.wh.op ≠ 0 → fineC q.wh = true
theorem form_ok {q : QueryT} (h : formQ q = 0) : FormQ q := by
  unfold formQ at h
  split at h
  · cases h
  rename_i h1
  split at h
  · cases h
  rename_i h2
  have ho : oddQ q = false := by
    cases e : oddQ q with
    | false => rfl
    | true => exact absurd (Or.inl e) h2
  simp only [oddQ, Bool.or_eq_false_iff, Bool.not_eq_false', List.all_eq_true] at ho
  have hw : (q.wh.op ≠ 0 → depthC q.wh ≤ 32) ∧ (q.wh.op ≠ 0 → fineC q.wh = true) := by
    split at h
    · rename_i h3; exact ⟨fun e => absurd h3 e, fun e => absurd h3 e⟩
    · split at h
      · cases h
      · rename_i h4
        split at h
        · cases h
        · rename_i h5
          exact ⟨fun _ => by omega, fun _ => by simpa using h5⟩
  exact ⟨fun e => h1 (.inl (by rw [e]; rfl)), by omega, by omega, by omega, ho.1.1.1, ho.1.1.2, ho.1.2, ho.2, by omega, by omega, hw.1, hw.2⟩
theorem ok_form {q : QueryT} (h : FormQ q) : formQ q = 0 := by
  have hn : 0 < q.items.length := List.length_pos_iff.2 h.i0
  have ho : oddQ q = false := by
    simp only [oddQ, Bool.or_eq_false_iff, Bool.not_eq_false', List.all_eq_true]
    exact ⟨⟨⟨h.it, h.tb⟩, h.gr⟩, h.od⟩
  have hi1 := h.i1; have hg1 := h.g1; have ho1 := h.o1; have hl0 := h.l0; have hl1 := h.l1
  unfold formQ
  rw [if_neg (by omega), if_neg (by rw [ho]; simp; omega)]
  by_cases hw : q.wh.op = 0
  · rw [if_pos hw]
  · have hd := h.wd hw
    rw [if_neg hw, if_neg (by omega), if_neg (by rw [h.wf hw]; simp)]
theorem sgX_query {q : QueryT} (h : FormQ q) : sgX (queryS q) = queryX q := by
  unfold queryS queryX
  rw [sgX_w, sgX_b, sgX_list q.items (X := itemX) (fun x hx k => sgX_item (h.it x hx) k), sgX_b, sgX_w, sgX_b, sgX_w]
  have e1 : sgX (limitS q) = (if 0 ≤ q.limit then [32, 108, 105, 109, 105, 116, 32] ++ itoa q.limit else []) := by
    unfold limitS
    split
    · rw [sgX_b, sgX_w, sgX_b]; simp [sgX, tokX, wLimit]
    · rfl
  have e2 : ∀ k, sgX (ordersS q k) = (if q.order = [] then [] else [32, 111, 114, 100, 101, 114, 32, 98, 121, 32] ++ join (q.order.map orderX) [44, 32]) ++ sgX k := by
    intro k
    unfold ordersS
    split
    · rfl
    · rw [sgX_b, sgX_w, sgX_b, sgX_w, sgX_b, sgX_list q.order (X := orderX) (fun x _ k => sgX_order x k)]; simp [wOrder, wBy]
  have e3 : ∀ k, sgX (groupS q k) = (if q.group = [] then [] else [32, 103, 114, 111, 117, 112, 32, 98, 121, 32] ++ join q.group [44, 32]) ++ sgX k := by
    intro k
    unfold groupS
    split
    · rfl
    · rw [sgX_b, sgX_w, sgX_b, sgX_w, sgX_b, sgX_list q.group (X := fun s => s) (fun x _ k => by unfold nmS; exact sgX_w x k)]; simp [wGroup, wBy]
  have e4 : ∀ k, sgX (whereS q k) = (if q.wh.op = 0 then [] else [32, 119, 104, 101, 114, 101, 32] ++ condX q.wh) ++ sgX k := by
    intro k
    unfold whereS
    split
    · rfl
    · rename_i hw
      rw [sgX_b, sgX_w, sgX_b, sgX_cond q.wh (h.wf hw)]; simp [wWhere]
  rw [e4, e3, e2, e1]
  simp only [wSelect, wFrom, List.append_assoc, List.cons_append, List.nil_append]
theorem good_list {α : Type} {S : α → List Sg → List Sg} : ∀ (xs : List α), (∀ x ∈ xs, ∀ k, okH k = true → GoodS k → GoodS (S x k)) → ∀ k, okH k = true → GoodS k → GoodS (listS S xs k)
  | [], _, k, _, h => h
  | [x], h, k, hk, hG => h x (by simp) k hk hG
  | x :: y :: t, h, k, hk, hG => h x (by simp) _ rfl (good_m (by simp [marksL]) rfl (good_list (y :: t) (fun x hx => h x (by simp [List.mem_cons.1 hx])) k hk hG))
theorem good_item {x : ItemT} (h : itemB x = true) (k : List Sg) (hk : okH k = true) (hG : GoodS k) : GoodS (itemS x k) := by
  obtain ⟨a, c⟩ := x
  unfold itemS
  unfold itemB at h
  dsimp only at h ⊢
  by_cases ha : a = []
  · subst ha
    rw [if_neg (by decide), if_pos (.inl rfl)] at h
    rw [if_pos rfl]
    exact good_w (.inl h) hk hG
  · rw [if_neg ha]
    by_cases hc : a = wCount
    · rw [if_pos hc]
      subst hc
      exact good_word (by decide) rfl (good_open (good_m (by simp [marksL]) rfl (good_m (by simp [marksL]) hk hG)))
    · rw [if_neg hc] at h ⊢
      by_cases hh : a = [] ∨ a = [115, 117, 109] ∨ a = [109, 105, 110] ∨ a = [109, 97, 120]
      · rw [if_pos hh] at h
        refine good_word ?_ rfl (good_open (good_w (.inl h) rfl (good_m (by simp [marksL]) hk hG)))
        rcases hh with e | e | e | e
        · exact absurd e ha
        · rw [e]; decide
        · rw [e]; decide
        · rw [e]; decide
      · rw [if_neg hh] at h; cases h
theorem good_query {q : QueryT} (h : FormQ q) : GoodS (queryS q) := by
  have g1 : okH (limitS q) = true ∧ GoodS (limitS q) := by
    unfold limitS
    split
    · exact ⟨rfl, good_word (by decide) rfl ⟨GoodT.n _ (by omega) h.l1, .inr rfl, trivial⟩⟩
    · exact ⟨rfl, trivial⟩
  have g2 : ∀ k, okH k = true → GoodS k → okH (ordersS q k) = true ∧ GoodS (ordersS q k) := by
    intro k hk hG
    unfold ordersS
    split
    · exact ⟨hk, hG⟩
    · refine ⟨rfl, good_word (by decide) rfl (good_word (by decide) rfl (good_list q.order (fun x hx k hk hG => ?_) k hk hG))⟩
      unfold orderS
      split
      · exact good_w (.inl (h.od x hx)) rfl (good_word (by decide) hk hG)
      · exact good_w (.inl (h.od x hx)) hk hG
  have g3 : ∀ k, okH k = true → GoodS k → okH (groupS q k) = true ∧ GoodS (groupS q k) := by
    intro k hk hG
    unfold groupS
    split
    · exact ⟨hk, hG⟩
    · exact ⟨rfl, good_word (by decide) rfl (good_word (by decide) rfl (good_list q.group (fun x hx k hk hG => good_w (.inl (h.gr x hx)) hk hG) k hk hG))⟩
  have g4 : ∀ k, okH k = true → GoodS k → okH (whereS q k) = true ∧ GoodS (whereS q k) := by
    intro k hk hG
    unfold whereS
    split
    · exact ⟨hk, hG⟩
    · rename_i hw
      exact ⟨rfl, good_word (by decide) rfl (good_cond q.wh (h.wf hw) k hk hG)⟩
  obtain ⟨a1, b1⟩ := g1
  obtain ⟨a2, b2⟩ := g2 _ a1 b1
  obtain ⟨a3, b3⟩ := g3 _ a2 b2
  obtain ⟨a4, b4⟩ := g4 _ a3 b3
  exact good_word (by decide) rfl (good_list q.items (fun x hx k hk hG => good_item (h.it x hx) k hk hG) _ rfl (good_word (by decide) rfl (good_w (.inl h.tb) a4 b4)))

/-! Its reading. -/
theorem depth_bare : ∀ c, fineC c = true → depthC (bareC c) = depthC c := by
  refine fine_ind ?_ ?_ ?_ ?_
  · intro a b l r _ _ ha hb; rw [bare_or, depth_2 (by decide), depth_2 (by decide), depthL_2, depthL_2, ha, hb]
  · intro a b l r _ _ ha hb; rw [bare_and, depth_2 (by decide), depth_2 (by decide), depthL_2, depthL_2, ha, hb]
  · intro a l r _ ha; rw [bare_not, depth_2 (by decide), depth_2 (by decide), depthL_1, depthL_1, ha]
  · intro op l r h4 h9 _ _; rw [bare_cmp h4, depth_1 h4 h9, depth_1 h4 h9]
theorem limit_back {q : QueryT} (h : FormQ q) {ts : List Tok} (hts : ts.map Tok.k0 = toksS (limitS q)) : ∃ r, limitF ts = .ok q.limit r ∧ r.map Tok.k0 = toksS [] := by
  unfold limitS at hts
  by_cases h0 : 0 ≤ q.limit
  · rw [if_pos h0] at hts
    obtain ⟨r1, e1, m1⟩ := may_yes (s := wLimit) hts rfl (.inl rfl)
    obtain ⟨u, r, rfl, h1, -, h3, h4⟩ := k0_cons m1
    refine ⟨r, ?_, h4⟩
    simp only [limitF, e1]
    rw [if_pos ⟨h1, by rw [h3]; exact h0⟩, h3]
  · rw [if_neg h0] at hts
    have e1 : mayF wLimit ts = none := may_no (by rw [hts]; rfl)
    refine ⟨ts, ?_, hts⟩
    have := h.l0
    simp only [limitF, e1]
    rw [show q.limit = -1 by omega]
theorem noT_limit {w : List UInt8} (q : QueryT) (h1 : ([] == w) = false) (h2 : (wLimit == w) = false) : noT w (toksS (limitS q)) = true := by
  unfold limitS
  split
  · simp only [toksS, wT, noT, h2]; rfl
  · simp only [toksS, over0, noT, h1]; rfl
theorem orders_back {q : QueryT} (h : FormQ q) {ts : List Tok} (hts : ts.map Tok.k0 = toksS (ordersS q (limitS q))) : ∃ r, ordersF ts = .ok q.order r ∧ r.map Tok.k0 = toksS (limitS q) := by
  unfold ordersS at hts
  by_cases h0 : q.order = []
  · rw [if_pos h0] at hts
    have e1 : mayF wOrder ts = none := may_no (by rw [hts]; exact noT_limit q rfl (by decide))
    exact ⟨ts, by simp only [ordersF, e1, h0], hts⟩
  · rw [if_neg h0] at hts
    obtain ⟨r1, e1, m1⟩ := may_yes (s := wOrder) hts rfl (.inl rfl)
    obtain ⟨r2, e2, m2⟩ := must_yes (s := wBy) m1 rfl (.inl rfl)
    have hlen := k0_len m2
    have hl2 := list_len (S := orderS) q.order (fun x _ k => len_order x k) (limitS q)
    simp only [toksS] at hlen
    obtain ⟨r3, e3, m3⟩ := many_back (part := orderF) (beg := isNm) (S := orderS) (okk := fun k => noT wDesc (toksS k) = true) (fun k => rfl) q.order (fun x hx k ts hk => order_back (h.od x hx) hk) (fun x _ k => len_order x k) h0 [] (limitS q) r2 r2.length (by have := h.o1; simp; omega) (noT_limit q rfl (by decide)) (noT_limit q rfl (by decide)) m2 (by omega)
    exact ⟨r3, by simp only [ordersF, e1, e2, PR.bind, e3, List.nil_append], m3⟩
theorem noT_orders {w : List UInt8} (q : QueryT) (h1 : ([] == w) = false) (h2 : (wLimit == w) = false) (h3 : (wOrder == w) = false) : noT w (toksS (ordersS q (limitS q))) = true := by
  unfold ordersS
  split
  · exact noT_limit q h1 h2
  · simp only [toksS, wT, noT, h3]; rfl
theorem group_back {q : QueryT} (h : FormQ q) {ts : List Tok} (hts : ts.map Tok.k0 = toksS (groupS q (ordersS q (limitS q)))) : ∃ r, groupF ts = .ok q.group r ∧ r.map Tok.k0 = toksS (ordersS q (limitS q)) := by
  unfold groupS at hts
  by_cases h0 : q.group = []
  · rw [if_pos h0] at hts
    have e1 : mayF wGroup ts = none := may_no (by rw [hts]; exact noT_orders q rfl (by decide) (by decide))
    exact ⟨ts, by simp only [groupF, e1, h0], hts⟩
  · rw [if_neg h0] at hts
    obtain ⟨r1, e1, m1⟩ := may_yes (s := wGroup) hts rfl (.inl rfl)
    obtain ⟨r2, e2, m2⟩ := must_yes (s := wBy) m1 rfl (.inl rfl)
    have hlen := k0_len m2
    have hl2 := list_len (S := nmS) q.group (fun x _ k => len_nm x k) (ordersS q (limitS q))
    simp only [toksS] at hlen
    obtain ⟨r3, e3, m3⟩ := many_back (part := nmF) (beg := isNm) (S := nmS) (okk := fun _ => True) (fun k => trivial) q.group (fun x hx k ts _ => name_back (h.gr x hx)) (fun x _ k => len_nm x k) h0 [] (ordersS q (limitS q)) r2 r2.length (by have := h.g1; simp; omega) trivial (noT_orders q rfl (by decide) (by decide)) m2 (by omega)
    exact ⟨r3, by simp only [groupF, e1, e2, PR.bind, e3, List.nil_append], m3⟩
theorem noT_group {w : List UInt8} (q : QueryT) (h1 : ([] == w) = false) (h2 : (wLimit == w) = false) (h3 : (wOrder == w) = false) (h4 : (wGroup == w) = false) : noT w (toksS (groupS q (ordersS q (limitS q)))) = true := by
  unfold groupS
  split
  · exact noT_orders q h1 h2 h3
  · simp only [toksS, wT, noT, h4]; rfl
theorem where_back {q : QueryT} (h : FormQ q) {f : Nat} (hf : q.wh.op ≠ 0 → 4 * depthC q.wh ≤ f) {ts : List Tok} (hts : ts.map Tok.k0 = toksS (whereS q (groupS q (ordersS q (limitS q))))) : ∃ r, whereF f ts = .ok (bareC q.wh) r ∧ r.map Tok.k0 = toksS (groupS q (ordersS q (limitS q))) := by
  unfold whereS at hts
  by_cases h0 : q.wh.op = 0
  · rw [if_pos h0] at hts
    have e1 : mayF wWhere ts = none := may_no (by rw [hts]; exact noT_group q rfl (by decide) (by decide) (by decide))
    refine ⟨ts, ?_, hts⟩
    have e2 : bareC q.wh = cond0 := by
      cases hw : q.wh with
      | mk op args l r =>
        rw [hw] at h0
        have h0' : op = 0 := h0
        rw [bareC.eq_def]; simp only; rw [if_pos h0']
    simp only [whereF, e1, e2]
  · rw [if_neg h0] at hts
    obtain ⟨r1, e1, m1⟩ := may_yes (s := wWhere) hts rfl (.inl rfl)
    obtain ⟨r2, e2, m2⟩ := st0_whole (cond_back q.wh (h.wf h0)).1 (k := groupS q (ordersS q (limitS q))) m1 (noT_group q rfl (by decide) (by decide) (by decide)) (noT_group q rfl (by decide) (by decide) (by decide)) (hf h0) (depth_pos _ (h.wf h0))
    refine ⟨r2, ?_, m2⟩
    have := h.wd h0
    simp only [whereF, e1, e2, PR.bind]
    rw [if_neg (by rw [depth_bare _ (h.wf h0)]; omega)]
theorem query_back {q : QueryT} (h : FormQ q) {f : Nat} (hf : q.wh.op ≠ 0 → 4 * depthC q.wh ≤ f) {ts : List Tok} (hts : ts.map Tok.k0 = toksS (queryS q)) : ∃ r, queryF f ts = .ok (bareQ q) r := by
  unfold queryS at hts
  obtain ⟨r1, e1, m1⟩ := must_yes (s := wSelect) hts rfl (.inl rfl)
  have hlen := k0_len m1
  have hl2 := list_len (S := itemS) q.items (fun x _ k => len_item x k) (.b :: wT wFrom :: .b :: wT q.table :: whereS q (groupS q (ordersS q (limitS q))))
  simp only [toksS] at hlen
  obtain ⟨r2, e2, m2⟩ := many_back (part := itemF) (beg := isItem) (S := itemS) (okk := fun _ => True) (fun k => trivial) q.items (fun x hx k ts _ => item_back (h.it x hx)) (fun x _ k => len_item x k) h.i0 [] (.b :: wT wFrom :: .b :: wT q.table :: whereS q (groupS q (ordersS q (limitS q)))) r1 r1.length (by have := h.i1; simp; omega) trivial rfl m1 (by omega)
  obtain ⟨r3, e3, m3⟩ := must_yes (s := wFrom) m2 rfl (.inl rfl)
  obtain ⟨r4, e4, m4⟩ := name_back h.tb (k := whereS q (groupS q (ordersS q (limitS q)))) m3
  obtain ⟨r5, e5, m5⟩ := where_back h hf m4
  obtain ⟨r6, e6, m6⟩ := group_back h m5
  obtain ⟨r7, e7, m7⟩ := orders_back h m6
  obtain ⟨r8, e8, m8⟩ := limit_back h m7
  obtain ⟨u, r, rfl, h1, -, -, h4⟩ := k0_cons m8
  refine ⟨u :: r, ?_⟩
  simp only [queryF, e1, e2, e3, e4, e5, e6, e7, e8, PR.bind, List.nil_append, overF]
  rw [if_pos (show u.k = 101 from h1)]
  rfl
theorem rn_len : ∀ {S : List Sg} {x : List UInt8}, Rn S x → GoodS S → (toksS S).length ≤ x.length + 1 := by
  intro S x hR
  induction hR with
  | nil => intro _; simp [toksS]
  | @b bl S x h1 h2 _ ih => intro hG; have := ih hG; simp only [toksS, List.length_append]; omega
  | @t bl t S x h2 hR ih =>
    intro hG
    obtain ⟨hT, hF, hS⟩ := hG
    have hfo : FoB t x = true := by
      rcases hF with hF | hF
      · exact foB_open hF x
      · exact foB_of (okH_head hF hR)
    obtain ⟨c, r, hcr, -⟩ := good_next hT x hfo
    have := ih hS
    simp only [toksS, List.length_append, List.length_cons, hcr]
    omega
theorem rn_fuel {q : QueryT} (h : FormQ q) {x : List UInt8} (hR : Rn (queryS q) x) (hw : q.wh.op ≠ 0) : 4 * depthC q.wh ≤ 3 * x.length + 10 := by
  have hG := good_query h
  unfold queryS at hR hG
  cases hR with
  | @t bl t S x h2 hR =>
    have hl := rn_len hR hG.2.2
    have hl2 := list_len (S := itemS) q.items (fun x _ k => len_item x k) (.b :: wT wFrom :: .b :: wT q.table :: whereS q (groupS q (ordersS q (limitS q))))
    have hl3 := len_cond q.wh (h.wf hw) (groupS q (ordersS q (limitS q)))
    have hd := h.wd hw
    have hne : 0 < q.items.length := List.length_pos_iff.2 h.i0
    simp only [toksS, whereS, hw, if_false, wT, List.length_cons] at hl hl2 hl3
    have e : (tokX ⟨119, wSelect, 0⟩).length = 6 := rfl
    simp only [List.length_append, e]
    omega
/-- WHAT IS PRINTED IS READ BACK. -/
theorem print_parse {q : QueryT} (h : FormQ q) {x : List UInt8} (hR : Rn (queryS q) x) (hx : x.length ≤ 65536) : ∃ r, parseF x = .ok (bareQ q) r := by
  unfold parseF
  rw [if_neg (by omega)]
  exact query_back h (fun hw => rn_fuel h hR hw) (lexL_rn hR (good_query h))

/-! Blanks. -/
def widenF : Bool → List UInt8 → List UInt8
  | _, [] => []
  | q, c :: r => if c.toNat = 39 then c :: widenF (!q) r
    else if c.toNat = 32 ∧ q = false then [32, 9, 10, 13] ++ widenF q r
    else if q = false ∧ (c.toNat = 44 ∨ c.toNat = 41 ∨ c.toNat = 40) then 10 :: c :: widenF q r
    else c :: widenF q r
def plainB (c : UInt8) : Bool := !decide (c.toNat = 39) && !decide (c.toNat = 32) && !decide (c.toNat = 44) && !decide (c.toNat = 41) && !decide (c.toNat = 40)
theorem widen_plain : ∀ (l : List UInt8), (∀ c ∈ l, plainB c = true) → ∀ (q : Bool) (x : List UInt8), widenF q (l ++ x) = l ++ widenF q x
  | [], _, q, x => rfl
  | c :: l, h, q, x => by
    have hc := h c (by simp)
    simp [plainB] at hc
    simp only [List.cons_append, widenF]
    rw [if_neg hc.1.1.1.1, if_neg (by simp [hc]), if_neg (by simp [hc]), widen_plain l (fun d hd => h d (by simp [hd]))]
theorem widen_in : ∀ (s x : List UInt8), widenF true (dblQ s ++ 39 :: x) = dblQ s ++ 39 :: widenF false x
  | [], x => by
    simp only [dblQ, List.nil_append, widenF]
    rw [if_pos (by decide)]; rfl
  | c :: s, x => by
    simp only [dblQ]
    by_cases hc : c.toNat = 39
    · rw [if_pos hc]
      simp only [List.cons_append, widenF]
      rw [if_pos (by decide), if_pos (by decide)]
      simp only [Bool.not_true, Bool.not_false]
      rw [widen_in s x]
    · rw [if_neg hc]
      simp only [List.cons_append, widenF]
      rw [if_neg hc, if_neg (by simp), if_neg (by simp), widen_in s x]
theorem with_plain {c : UInt8} (h : withB c = true) : plainB c = true := by
  simp [withB, smallB, digitB] at h
  simp [plainB]
  omega
theorem itoa_plain (n : Int) : ∀ c ∈ itoa n, plainB c = true := by
  obtain ⟨c, r, e, -, h1, h2⟩ := itoa_head n
  rw [e]
  intro d hd
  rcases List.mem_cons.1 hd with rfl | hd
  · simp only [Bool.or_eq_true, decide_eq_true_eq] at h1
    rcases h1 with h1 | h1
    · exact with_plain h1
    · simp [plainB]; omega
  · exact with_plain (digit_with (h2 d hd))
theorem widen_rn : ∀ S, GoodS S → Rn S (widenF false (sgX S))
  | [], _ => .nil
  | .b :: S, h => Rn.b (bl := [32, 9, 10, 13]) (by simp) (by decide) (widen_rn S h)
  | .t t :: S, h => by
    have hx := widen_rn S h.2.2
    have key : ∀ l, tokX t = l → (∀ c ∈ l, plainB c = true) → Rn (.t t :: S) (widenF false (tokX t ++ sgX S)) := by
      intro l e hl
      rw [e, widen_plain l hl, ← e]
      exact Rn.t (bl := []) (by simp) hx
    show Rn (.t t :: S) (widenF false (tokX t ++ sgX S))
    cases h.1 with
    | w s hs => exact key s (by simp [tokX]) (fun c hc => with_plain (List.all_eq_true.1 (wordy hs).2.1 c hc))
    | n n _ _ => exact key (itoa n) (by simp [tokX]) (itoa_plain n)
    | t s hs =>
      have e : tokX ⟨116, s, 0⟩ ++ sgX S = 39 :: (dblQ s ++ 39 :: sgX S) := by simp [tokX]
      have e2 : widenF false (tokX ⟨116, s, 0⟩ ++ sgX S) = tokX ⟨116, s, 0⟩ ++ widenF false (sgX S) := by
        rw [e]
        simp only [widenF]
        rw [if_pos (by decide)]
        simp only [Bool.not_false]
        rw [widen_in]
        simp [tokX]
      rw [e2]
      exact Rn.t (bl := []) (by simp) hx
    | m s hs =>
      have hk : tokX ⟨109, s, 0⟩ = s := by simp [tokX]
      have two : ∀ c : UInt8, s = [c] → (c.toNat = 44 ∨ c.toNat = 41 ∨ c.toNat = 40) → Rn (.t ⟨109, s, 0⟩ :: S) (widenF false (tokX ⟨109, s, 0⟩ ++ sgX S)) := by
        intro c e hc
        have e2 : widenF false (tokX ⟨109, s, 0⟩ ++ sgX S) = [10] ++ (tokX ⟨109, s, 0⟩ ++ widenF false (sgX S)) := by
          rw [hk, e]
          simp only [List.cons_append, List.nil_append, widenF]
          rw [if_neg (by omega), if_neg (by omega), if_pos ⟨trivial, hc⟩]
        rw [e2]
        exact Rn.t (bl := [10]) (by decide) hx
      simp only [marksL, List.mem_cons, List.not_mem_nil, or_false] at hs
      rcases hs with e | e | e | e | e | e | e | e | e | e
      · exact two 44 e (by decide)
      · exact two 40 e (by decide)
      · exact two 41 e (by decide)
      · exact key _ hk (by rw [e]; decide)
      · exact key _ hk (by rw [e]; decide)
      · exact key _ hk (by rw [e]; decide)
      · exact key _ hk (by rw [e]; decide)
      · exact key _ hk (by rw [e]; decide)
      · exact key _ hk (by rw [e]; decide)
      · exact key _ hk (by rw [e]; decide)
theorem widen_len : ∀ (l : List UInt8) (q : Bool), (widenF q l).length ≤ 4 * l.length
  | [], q => by simp [widenF]
  | c :: r, q => by
    have h1 := widen_len r q
    have h2 := widen_len r (!q)
    simp only [widenF]
    split
    · simp only [List.length_cons]; omega
    · split
      · simp only [List.length_append, List.length_cons, List.length_nil]; omega
      · split <;> simp only [List.length_cons] <;> omega
/-- BLANKS CHANGE NOTHING. -/
theorem widen_parse {q : QueryT} (h : FormQ q) (hx : (queryX q).length ≤ 10000) : ∃ r, parseF (widenF false (queryX q)) = .ok (bareQ q) r := by
  have hR := widen_rn _ (good_query h)
  rw [sgX_query h] at hR
  exact print_parse h hR (by have := widen_len (queryX q) false; omega)
end Go.Proofs.YtijlifdbjhieaaaGreatDoor.Pl

/-
  Plain: what is read has the form that is printed, and is short.
-/
namespace Go.Proofs.YtijlifdbjhieaaaGreatDoor.Pl
set_option linter.all false
open Go.Lib

/-- A token's weight: its bytes, and two. -/
def wtT (t : Tok) : Nat := (tokX t.k0).length + 2
def wt : List Tok → Nat
  | [] => 0
  | t :: r => wtT t + wt r
def GT (ts : List Tok) : Prop := ∀ t ∈ ts, GoodT t.k0 ∨ t.k = 33 ∨ t.k = 101
theorem GT.tail {t : Tok} {r : List Tok} (h : GT (t :: r)) : GT r := fun x hx => h x (by simp [hx])
theorem GT.head {t : Tok} {r : List Tok} (h : GT (t :: r)) (h1 : t.k ≠ 33) (h2 : t.k ≠ 101) : GoodT t.k0 := by
  rcases h t (by simp) with e | e | e
  · exact e
  · exact absurd e h1
  · exact absurd e h2
theorem quoF_some : ∀ (l : List UInt8) (i : Nat) (acc a : List UInt8) (n : Nat), quoF l i acc = some (a, n) → ∃ s, a = acc ++ s ∧ n = i + (dblQ s).length + 1 ∧ (dblQ s).length + 1 ≤ l.length
  | [], i, acc, a, n, h => by rw [quoF.eq_def] at h; cases h
  | c :: r, i, acc, a, n, h => by
    rw [quoF.eq_def] at h
    simp only at h
    by_cases hc : c.toNat = 39
    · rw [if_pos hc] at h
      cases r with
      | nil =>
        simp only [Option.some.injEq, Prod.mk.injEq] at h
        exact ⟨[], by simp [h.1], by simp [dblQ]; omega, by simp [dblQ]⟩
      | cons d r =>
        simp only at h
        by_cases hd : d.toNat = 39
        · rw [if_pos hd] at h
          obtain ⟨s, h1, h2, h3⟩ := quoF_some r (i + 2) (acc ++ [39]) a n h
          refine ⟨39 :: s, by simp [h1], ?_, ?_⟩
          · simp only [dblQ]; rw [if_pos (by decide)]; simp only [List.length_cons]; omega
          · simp only [dblQ]; rw [if_pos (by decide)]; simp only [List.length_cons]; omega
        · rw [if_neg hd] at h
          simp only [Option.some.injEq, Prod.mk.injEq] at h
          exact ⟨[], by simp [h.1], by simp [dblQ]; omega, by simp [dblQ]⟩
    · rw [if_neg hc] at h
      obtain ⟨s, h1, h2, h3⟩ := quoF_some r (i + 1) (acc ++ [c]) a n h
      refine ⟨c :: s, by simp [h1], ?_, ?_⟩
      · simp only [dblQ]; rw [if_neg hc]; simp only [List.length_cons]; omega
      · simp only [dblQ]; rw [if_neg hc]; simp only [List.length_cons]; omega
theorem spanW_le : ∀ (r : List UInt8), spanW r ≤ r.length
  | [] => by simp [spanW]
  | c :: r => by
    have := spanW_le r
    simp only [spanW]; split <;> simp only [List.length_cons] <;> omega
theorem numS_back {s : List UInt8} {n : Int} (h : numS s = some n) : itoa n = s ∧ -4611686018427387904 ≤ n ∧ n ≤ 4611686018427387904 := by
  unfold numS at h
  split at h
  · split at h
    · rename_i hh; injection h with h; subst h; exact hh
    · cases h
  · cases h
theorem next_good {c : UInt8} {r : List UInt8} {t : Tk0} {n : Nat} (h : nextF c r = (t, n)) (hk : t.k ≠ 33) : GoodT t ∧ (tokX t).length = n ∧ n ≤ r.length + 1 ∧ 1 ≤ n := by
  unfold nextF at h
  split at h
  · have hs := spanW_le r
    simp only [Prod.mk.injEq] at h
    obtain ⟨h1, rfl⟩ := h
    unfold namedF at h1
    split at h1
    · split at h1
      · rename_i hh
        subst h1
        refine ⟨GoodT.w _ (by simpa using hh), ?_, by omega, by omega⟩
        have e : tokX ⟨119, c :: r.take (spanW r), 0⟩ = c :: r.take (spanW r) := by simp [tokX]
        rw [e]; simp; omega
      · subst h1; exact absurd rfl hk
    · split at h1
      · rename_i m hm
        obtain ⟨e1, e2, e3⟩ := numS_back hm
        subst h1
        refine ⟨GoodT.n _ e2 e3, ?_, by omega, by omega⟩
        have e : tokX ⟨110, [], m⟩ = itoa m := by simp [tokX]
        rw [e, e1]; simp; omega
      · subst h1; exact absurd rfl hk
  · split at h
    · unfold quotedF at h
      split at h
      · rename_i a m hq
        obtain ⟨s, h1, h2, h3⟩ := quoF_some r 1 [] a m hq
        split at h
        · rename_i ht
          simp only [Prod.mk.injEq] at h
          obtain ⟨rfl, rfl⟩ := h
          refine ⟨GoodT.t _ ht, ?_, by omega, by omega⟩
          have e : tokX ⟨116, a, 0⟩ = [39] ++ dblQ a ++ [39] := by simp [tokX]
          rw [e, h1]; simp; omega
        · simp only [Prod.mk.injEq] at h; rw [← h.1] at hk; exact absurd rfl hk
      · simp only [Prod.mk.injEq] at h; rw [← h.1] at hk; exact absurd rfl hk
    · split at h
      · rename_i hr
        simp only [Prod.mk.injEq] at h
        obtain ⟨rfl, rfl⟩ := h
        simp only [Bool.and_eq_true, relB, Bool.or_eq_true, decide_eq_true_eq] at hr
        have hlen : 1 ≤ r.length := by
          cases r with
          | nil => simp [isEq, headB] at hr
          | cons d r => simp
        refine ⟨GoodT.m _ ?_, by simp [tokX], by omega, by omega⟩
        rcases hr.1 with (e | e) | e
        · obtain rfl : c = 33 := UInt8.toNat_inj.1 e; simp [marksL]
        · obtain rfl : c = 60 := UInt8.toNat_inj.1 e; simp [marksL]
        · obtain rfl : c = 62 := UInt8.toNat_inj.1 e; simp [marksL]
      · split at h
        · rename_i hm
          simp only [Prod.mk.injEq] at h
          obtain ⟨rfl, rfl⟩ := h
          simp only [markB, Bool.or_eq_true, decide_eq_true_eq] at hm
          refine ⟨GoodT.m _ ?_, by simp [tokX], by omega, by omega⟩
          rcases hm with (((((e | e) | e) | e) | e) | e) | e
          · obtain rfl : c = 44 := UInt8.toNat_inj.1 e; simp [marksL]
          · obtain rfl : c = 40 := UInt8.toNat_inj.1 e; simp [marksL]
          · obtain rfl : c = 41 := UInt8.toNat_inj.1 e; simp [marksL]
          · obtain rfl : c = 42 := UInt8.toNat_inj.1 e; simp [marksL]
          · obtain rfl : c = 61 := UInt8.toNat_inj.1 e; simp [marksL]
          · obtain rfl : c = 60 := UInt8.toNat_inj.1 e; simp [marksL]
          · obtain rfl : c = 62 := UInt8.toNat_inj.1 e; simp [marksL]
        · simp only [Prod.mk.injEq] at h; rw [← h.1] at hk; exact absurd rfl hk
theorem bad_wt {t : Tk0} (h : t.k = 33) {c : UInt8} {r : List UInt8} {n : Nat} (hn : nextF c r = (t, n)) : tokX t = [] := by
  have hb : t = bad0 := by
    unfold nextF at hn
    split at hn
    · simp only [Prod.mk.injEq] at hn
      obtain ⟨h1, -⟩ := hn
      unfold namedF at h1
      split at h1
      · split at h1
        · subst h1; simp at h
        · exact h1.symm
      · split at h1
        · subst h1; simp at h
        · exact h1.symm
    · split at hn
      · unfold quotedF at hn
        split at hn
        · split at hn
          · simp only [Prod.mk.injEq] at hn; rw [← hn.1] at h; simp at h
          · simp only [Prod.mk.injEq] at hn; exact hn.1.symm
        · simp only [Prod.mk.injEq] at hn; exact hn.1.symm
      · split at hn
        · simp only [Prod.mk.injEq] at hn; rw [← hn.1] at h; simp at h
        · split at hn
          · simp only [Prod.mk.injEq] at hn; rw [← hn.1] at h; simp at h
          · simp only [Prod.mk.injEq] at hn; exact hn.1.symm
  rw [hb]; rfl
theorem lex_gt : ∀ (f p : Nat) (x : List UInt8), GT (lexF f p x) ∧ wt (lexF f p x) ≤ 3 * x.length + 2
  | 0, p, x => by simp [lexF, GT, wt]
  | f + 1, p, [] => by
    simp only [lexF]
    refine ⟨fun t ht => ?_, ?_⟩
    · simp only [List.mem_singleton] at ht; subst ht; exact .inr (.inr rfl)
    · simp [wt, wtT, tokX, Tok.k0]
  | f + 1, p, c :: r => by
    simp only [lexF]
    split
    · obtain ⟨h1, h2⟩ := lex_gt f (p + 1) r
      exact ⟨h1, by simp only [List.length_cons]; omega⟩
    · obtain ⟨t, n, hq⟩ : ∃ t n, nextF c r = (t, n) := ⟨_, _, rfl⟩
      rw [hq]
      dsimp only
      by_cases hk : t.k = 33
      · rw [if_pos hk]
        refine ⟨fun u hu => ?_, ?_⟩
        · simp only [List.mem_singleton] at hu; subst hu; exact .inr (.inl hk)
        · simp only [wt, wtT, Tk0.at_k0, bad_wt hk hq, List.length_nil, List.length_cons]; omega
      · rw [if_neg hk]
        obtain ⟨g1, g2, g3, g4⟩ := next_good hq hk
        obtain ⟨h1, h2⟩ := lex_gt f (p + n) ((c :: r).drop n)
        simp only [List.length_drop, List.length_cons] at h2
        refine ⟨fun u hu => ?_, ?_⟩
        · rcases List.mem_cons.1 hu with rfl | hu
          · exact .inl g1
          · exact h1 u hu
        · simp only [wt, wtT, Tk0.at_k0, g2, List.length_cons]; omega

theorem may_wt {s : List UInt8} {ts r : List Tok} (h : mayF s ts = some r) (hG : GT ts) : GT r ∧ wt ts = wt r + s.length + 2 := by
  cases ts with
  | nil => cases h
  | cons t u =>
    simp only [mayF] at h
    split at h
    · rename_i hi
      injection h with h; subst h
      simp only [isT, Bool.and_eq_true, beq_iff_eq, Bool.or_eq_true, decide_eq_true_eq] at hi
      refine ⟨hG.tail, ?_⟩
      have e : tokX t.k0 = s := by
        unfold tokX Tok.k0
        dsimp only
        rw [if_neg (by omega), if_neg (by omega), hi.1]
      simp only [wt, wtT, e]; omega
    · cases h
theorem must_wt {s : List UInt8} {ts r : List Tok} {u : Unit} (h : mustF s ts = .ok u r) (hG : GT ts) : GT r ∧ wt ts = wt r + s.length + 2 := by
  unfold mustF at h
  split at h
  · rename_i r' hm
    injection h with _ h; subst h
    exact may_wt hm hG
  · cases h
theorem PR.bind_ok {α β : Type} {x : PR α} {f : α → List Tok → PR β} {b : β} {r : List Tok} (h : x.bind f = .ok b r) : ∃ a r', x = .ok a r' ∧ f a r' = .ok b r := by
  cases x with
  | ok a r' => exact ⟨a, r', rfl, h⟩
  | no p e => cases h
theorem nm_wt {ts r : List Tok} {s : List UInt8} (h : nmF ts = .ok s r) (hG : GT ts) : nameB s = true ∧ GT r ∧ wt ts = wt r + s.length + 2 := by
  unfold nmF at h
  split at h
  · cases h
  · rename_i t u
    split at h
    · rename_i hi
      injection h with h1 h2; subst h1 h2
      simp only [isNm, Bool.and_eq_true, decide_eq_true_eq] at hi
      refine ⟨hi.2, hG.tail, ?_⟩
      have e : tokX t.k0 = t.s := by
        unfold tokX Tok.k0
        dsimp only
        rw [if_neg (by omega), if_neg (by omega)]
      simp only [wt, wtT, e]; omega
    · cases h
theorem k0_k {t : Tok} {k : Int} (h : t.k = k) : t.k0.k = k := h
theorem term_wt {ts r : List Tok} {t : TermT} (h : termF ts = .ok t r) (hG : GT ts) : termB t = true ∧ bareT t = t ∧ GT r ∧ wt ts = wt r + (termX t).length + 2 := by
  unfold termF at h
  split at h
  · cases h
  · rename_i u v
    split at h
    · rename_i hk
      injection h with h1 h2; subst h1 h2
      have hg := hG.head (by omega) (by omega)
      have hn : -4611686018427387904 ≤ u.n ∧ u.n ≤ 4611686018427387904 := by
        have hk' := k0_k hk
        have hu : u.k0.n = u.n := rfl
        generalize u.k0 = z at *
        cases hg with
        | w s hs => simp at hk'
        | n n h0 h1 => dsimp only at hu; omega
        | t s hs => simp at hk'
        | m s hs => simp at hk'
      refine ⟨by simp [termB, hn], by simp [bareT], hG.tail, ?_⟩
      have e : tokX u.k0 = itoa u.n := by simp [tokX, Tok.k0, hk]
      simp only [wt, wtT, e, termX]
      rw [if_neg (by decide), if_pos trivial]; omega
    · split at h
      · rename_i hk
        injection h with h1 h2; subst h1 h2
        have hg := hG.head (by omega) (by omega)
        have hs : textB u.s = true := by
          have hk' := k0_k hk
          have hu : u.k0.s = u.s := rfl
          generalize u.k0 = z at *
          cases hg with
          | w s hs => simp at hk'
          | n n h0 h1 => simp at hk'
          | t s hs => dsimp only at hu; rw [← hu]; exact hs
          | m s hs => simp at hk'
        refine ⟨by simp [termB, hs], by simp [bareT], hG.tail, ?_⟩
        have e : tokX u.k0 = [39] ++ dblQ u.s ++ [39] := by simp [tokX, Tok.k0, hk]
        simp only [wt, wtT, e, termX]
        rw [if_neg (by decide), if_neg (by decide)]; omega
      · split at h
        · rename_i hi
          injection h with h1 h2; subst h1 h2
          simp only [isNm, Bool.and_eq_true, decide_eq_true_eq] at hi
          refine ⟨by simp [termB, hi.2], by simp [bareT], hG.tail, ?_⟩
          have e : tokX u.k0 = u.s := by simp [tokX, Tok.k0, hi.1]
          simp only [wt, wtT, e, termX]
          rw [if_pos trivial]; omega
        · cases h
theorem sign_wt {ts r : List Tok} {op : Int} (h : signF signsL 4 ts = some (op, r)) (hG : GT ts) : 4 ≤ op ∧ op ≤ 9 ∧ GT r ∧ wt ts = wt r + (sgnX op).length + 2 := by
  simp only [signF, signsL] at h
  have fin : ∀ (o : Int) (s : List UInt8), 4 ≤ o → o ≤ 9 → sgnX o = s → ∀ r', mayF s ts = some r' → (o, r') = (op, r) → 4 ≤ op ∧ op ≤ 9 ∧ GT r ∧ wt ts = wt r + (sgnX op).length + 2 := by
    intro o s h4 h9 he r' hm e
    simp only [Prod.mk.injEq] at e
    obtain ⟨rfl, rfl⟩ := e
    obtain ⟨a, b⟩ := may_wt hm hG
    exact ⟨h4, h9, a, by rw [he]; exact b⟩
  split at h
  · rename_i hm; injection h with h; exact fin 4 [61] (by decide) (by decide) rfl _ hm h
  split at h
  · rename_i hm; injection h with h; exact fin 5 [33, 61] (by decide) (by decide) rfl _ hm h
  split at h
  · rename_i hm; injection h with h; exact fin 6 [60] (by decide) (by decide) rfl _ hm h
  split at h
  · rename_i hm; injection h with h; exact fin 7 [60, 61] (by decide) (by decide) rfl _ hm h
  split at h
  · rename_i hm; injection h with h; exact fin 8 [62] (by decide) (by decide) rfl _ hm h
  split at h
  · rename_i hm; injection h with h; exact fin 9 [62, 61] (by decide) (by decide) rfl _ hm h
  · cases h
/-- A condition that is read: fine, bare, and no longer than its tokens. -/
def Snd (q : CondT → Bool) (W : Nat) (c : CondT) (r : List Tok) : Prop := fineC c = true ∧ bareC c = c ∧ GT r ∧ wt r + (parX (q c) (condX c)).length ≤ W
def levP : Nat → CondT → Bool
  | 0, _ => false
  | 1, c => orP c
  | _ + 2, c => andP c
theorem fine_cmp {op : Int} (h4 : 4 ≤ op) (h9 : op ≤ 9) {l r : TermT} (hl : termB l = true) (hr : termB r = true) : fineC (.mk op [] l r) = true := by
  rw [fineC.eq_def]; simp only
  have e : argsN op = some 0 := by
    unfold argsN; rw [if_neg (by omega), if_neg (by omega), if_pos (by simp [cmpB]; omega)]
  rw [e, hl, hr]; simp [fineL]
theorem fine_two {op : Int} (h : op = 1 ∨ op = 2) {a b : CondT} (ha : fineC a = true) (hb : fineC b = true) : fineC (.mk op [a, b] term0 term0) = true := by
  rw [fineC.eq_def]; simp only
  have e : argsN op = some 2 := by unfold argsN; rw [if_pos h]
  rw [e]; simp [fineL, ha, hb]
theorem fine_not {a : CondT} (ha : fineC a = true) : fineC (.mk 3 [a] term0 term0) = true := by
  rw [fineC.eq_def]; simp [argsN, fineL, ha]
theorem comp_snd {ts r : List Tok} {c : CondT} (h : compF ts = .ok c r) (hG : GT ts) : Snd andP (wt ts) c r := by
  unfold compF at h
  obtain ⟨l, r1, h1, h⟩ := PR.bind_ok h
  obtain ⟨a1, a2, a3, a4⟩ := term_wt h1 hG
  split at h
  · cases h
  · rename_i op r2 h2
    obtain ⟨b1, b2, b3, b4⟩ := sign_wt h2 a3
    obtain ⟨x, r3, h3, h⟩ := PR.bind_ok h
    obtain ⟨c1, c2, c3, c4⟩ := term_wt h3 b3
    injection h with e1 e2; subst e1 e2
    refine ⟨fine_cmp b1 b2 a1 c1, by rw [bare_cmp b1, a2, c2], c3, ?_⟩
    have e : andP (.mk op [] l x) = false := by
      show (decide (op = 1) || decide (op = 2)) = false
      rw [decide_eq_false (by omega), decide_eq_false (by omega)]; rfl
    rw [e, condX_cmp b1]
    simp only [parX, Bool.false_eq_true, if_false, List.length_append, List.length_cons, List.length_nil]
    omega
theorem par_le (q : Bool) (s : List UInt8) : s.length ≤ (parX q s).length ∧ (parX q s).length ≤ s.length + 2 := by
  cases q with
  | true => simp only [parX, if_true, List.length_append, List.length_cons, List.length_nil]; omega
  | false => simp only [parX, Bool.false_eq_true, if_false]; omega
theorem par_mono {p q : Bool} (h : p = true → q = true) (s : List UInt8) : (parX p s).length ≤ (parX q s).length := by
  cases p with
  | true => rw [h rfl]; exact Nat.le_refl _
  | false => exact (par_le q s).1
theorem or_and {c : CondT} (h : orP c = true) : andP c = true := by
  simp only [orP, decide_eq_true_eq] at h; simp [andP, h]
theorem loop_and {part : List Tok → PR CondT} (hp : ∀ ts c r, part ts = .ok c r → GT ts → Snd andP (wt ts) c r) {W : Nat} : ∀ (n : Nat) (c : CondT) (ts : List Tok) (c' : CondT) (r : List Tok), Snd orP W c ts → loopF part 2 wAnd n c ts = .ok c' r → Snd orP W c' r
  | n, c, ts, c', r, hS, h => by
    rw [loopF.eq_def] at h
    simp only at h
    split at h
    · injection h with e1 e2; subst e1 e2; exact hS
    · rename_i r1 hm
      split at h
      · cases h
      · rename_i n
        obtain ⟨d, r2, h2, h⟩ := PR.bind_ok h
        obtain ⟨s1, s2, s3, s4⟩ := hS
        obtain ⟨g1, g2⟩ := may_wt hm s3
        obtain ⟨d1, d2, d3, d4⟩ := hp _ _ _ h2 g1
        refine loop_and hp n _ _ _ _ ⟨fine_two (.inr rfl) s1 d1, by rw [bare_and, s2, d2], d3, ?_⟩ h
        have e : orP (.mk 2 [c, d] term0 term0) = false := by simp [orP, CondT.op]
        have e3 : wAnd.length = 3 := rfl
        rw [e, condX_and]
        simp only [parX, Bool.false_eq_true, if_false, List.length_append, List.length_cons, List.length_nil] at s4 d4 ⊢
        omega
theorem loop_or {part : List Tok → PR CondT} (hp : ∀ ts c r, part ts = .ok c r → GT ts → Snd orP (wt ts) c r) {W : Nat} : ∀ (n : Nat) (c : CondT) (ts : List Tok) (c' : CondT) (r : List Tok), Snd (fun _ => false) W c ts → loopF part 1 wOr n c ts = .ok c' r → Snd (fun _ => false) W c' r
  | n, c, ts, c', r, hS, h => by
    rw [loopF.eq_def] at h
    simp only at h
    split at h
    · injection h with e1 e2; subst e1 e2; exact hS
    · rename_i r1 hm
      split at h
      · cases h
      · rename_i n
        obtain ⟨d, r2, h2, h⟩ := PR.bind_ok h
        obtain ⟨s1, s2, s3, s4⟩ := hS
        obtain ⟨g1, g2⟩ := may_wt hm s3
        obtain ⟨d1, d2, d3, d4⟩ := hp _ _ _ h2 g1
        refine loop_or hp n _ _ _ _ ⟨fine_two (.inl rfl) s1 d1, by rw [bare_or, s2, d2], d3, ?_⟩ h
        have e3 : wOr.length = 2 := rfl
        rw [condX_or]
        simp only [parX, Bool.false_eq_true, if_false, List.length_append, List.length_cons, List.length_nil] at s4 d4 ⊢
        omega
theorem cond_snd : ∀ (f l : Nat) (ts : List Tok) (c : CondT) (r : List Tok), condF f l ts = .ok c r → GT ts → Snd (levP l) (wt ts) c r
  | 0, l, ts, c, r, h, _ => by simp [condF] at h
  | f + 1, 0, ts, c, r, h, hG => by
    simp only [condF] at h
    obtain ⟨x, r1, h1, h⟩ := PR.bind_ok h
    obtain ⟨s1, s2, s3, s4⟩ := cond_snd f 1 _ _ _ h1 hG
    refine loop_or (fun ts c r h hg => cond_snd f 1 ts c r h hg) _ _ _ _ _ ⟨s1, s2, s3, ?_⟩ h
    have := (par_le (levP 1 x) (condX x)).1
    simp only [parX, Bool.false_eq_true, if_false]
    omega
  | f + 1, 1, ts, c, r, h, hG => by
    simp only [condF] at h
    obtain ⟨x, r1, h1, h⟩ := PR.bind_ok h
    obtain ⟨s1, s2, s3, s4⟩ := cond_snd f 2 _ _ _ h1 hG
    refine loop_and (fun ts c r h hg => cond_snd f 2 ts c r h hg) _ _ _ _ _ ⟨s1, s2, s3, ?_⟩ h
    have := par_mono (p := orP x) (q := levP 2 x) (fun e => or_and e) (condX x)
    omega
  | f + 1, l + 2, ts, c, r, h, hG => by
    simp only [condF] at h
    split at h
    · rename_i r1 hm
      obtain ⟨g1, g2⟩ := may_wt hm hG
      obtain ⟨x, r2, h2, h⟩ := PR.bind_ok h
      obtain ⟨s1, s2, s3, s4⟩ := cond_snd f 2 _ _ _ h2 g1
      injection h with e1 e2; subst e1 e2
      refine ⟨fine_not s1, by rw [bare_not, s2], s3, ?_⟩
      have e : levP (l + 2) (.mk 3 [x] term0 term0) = false := by simp [levP, andP, CondT.op]
      have e3 : wNot.length = 3 := rfl
      have e4 : levP 2 x = andP x := rfl
      rw [e, condX_not]
      rw [e4] at s4
      simp only [parX, Bool.false_eq_true, if_false, List.length_append, List.length_cons, List.length_nil] at s4 ⊢
      omega
    · split at h
      · rename_i r1 hm
        obtain ⟨g1, g2⟩ := may_wt hm hG
        obtain ⟨x, r2, h2, h⟩ := PR.bind_ok h
        obtain ⟨s1, s2, s3, s4⟩ := cond_snd f 0 _ _ _ h2 g1
        obtain ⟨u, r3, h3, h⟩ := PR.bind_ok h
        obtain ⟨g3, g4⟩ := must_wt h3 s3
        injection h with e1 e2; subst e1 e2
        refine ⟨s1, s2, g3, ?_⟩
        have e0 : levP 0 x = false := rfl
        rw [e0] at s4
        have := (par_le (levP (l + 2) x) (condX x)).2
        have e5 : ([41] : List UInt8).length = 1 := rfl
        have e6 : ([40] : List UInt8).length = 1 := rfl
        simp only [parX, Bool.false_eq_true, if_false] at s4
        omega
      · exact comp_snd h hG
theorem join_two (x y : List UInt8) (t : List (List UInt8)) (sep : List UInt8) : join (x :: y :: t) sep = x ++ sep ++ join (y :: t) sep := by
  rw [join_cons, join_cons]; simp [joinTail]
theorem many_snd {α : Type} {part : List Tok → PR α} {beg : Tok → Bool} {X : α → List UInt8} {P : α → Prop}
    (hb : ∀ t ts a r, part (t :: ts) = .ok a r → GT (t :: ts) → beg t = true) (hp : ∀ ts a r, part ts = .ok a r → GT ts → P a ∧ GT r ∧ wt r + (X a).length + 1 ≤ wt ts) :
    ∀ (n : Nat) (out : List α) (ts : List Tok) (xs : List α) (r : List Tok), manyF part beg n out ts = .ok xs r → GT ts → out.length ≤ 20 → (∀ x ∈ out, P x) → xs.length ≤ 20 ∧ (∀ x ∈ xs, P x) ∧ GT r ∧ ∃ ys, ys ≠ [] ∧ xs = out ++ ys ∧ wt r + (join (ys.map X) [44, 32]).length + 1 ≤ wt ts
  | n, out, ts, xs, r, h, hG, ho, hP => by
    rw [manyF.eq_def] at h
    simp only at h
    split at h
    · cases h
    · rename_i t ts
      split at h
      · cases h
      · rename_i hn
        obtain ⟨a, r1, h1, h⟩ := PR.bind_ok h
        obtain ⟨p1, p2, p3⟩ := hp _ _ _ h1 hG
        have hbt := hb _ _ _ _ h1 hG
        have ho' : out.length < 20 := by
          rcases Nat.lt_or_ge out.length 20 with k | k
          · exact k
          · exact absurd ⟨by omega, hbt⟩ hn
        have hP' : ∀ x ∈ out ++ [a], P x := by
          intro x hx
          rcases List.mem_append.1 hx with hx | hx
          · exact hP x hx
          · simp only [List.mem_singleton] at hx; subst hx; exact p1
        split at h
        · injection h with e1 e2; subst e1 e2
          refine ⟨by simp; omega, hP', p2, [a], by simp, rfl, ?_⟩
          simp only [List.map_cons, List.map_nil, join_one]
          omega
        · rename_i r2 hm
          obtain ⟨g1, g2⟩ := may_wt hm p2
          split at h
          · cases h
          · rename_i n' _
            obtain ⟨q1, q2, q3, ys, q4, q5, q6⟩ := many_snd hb hp n' (out ++ [a]) r2 xs r h g1 (by simp; omega) hP'
            refine ⟨q1, q2, q3, a :: ys, by simp, by rw [q5]; simp, ?_⟩
            cases ys with
            | nil => exact absurd rfl q4
            | cons y t =>
              have e5 : ([44] : List UInt8).length = 1 := rfl
              simp only [List.map_cons] at q6 ⊢
              rw [join_two]
              simp only [List.length_append, List.length_cons, List.length_nil]
              omega
theorem itemG_beg : ∀ (l : List (List UInt8)), (∀ g ∈ l, g ∈ aggsL) → ∀ (t : Tok) (ts : List Tok) (a : ItemT) (r : List Tok), GT (t :: ts) → itemG l (t :: ts) = .ok a r → isItem t = true
  | [], _, t, ts, a, r, _, h => by
    simp only [itemG] at h
    obtain ⟨c, r1, h1, h⟩ := PR.bind_ok h
    simp only [nmF] at h1
    split at h1
    · rename_i hi; simp [isItem, hi]
    · cases h1
  | g :: l, hl, t, ts, a, r, hg, h => by
    simp only [itemG] at h
    split at h
    · rename_i r1 hmay
      simp only [mayF] at hmay
      split at hmay
      · rename_i hi
        simp only [isT, Bool.and_eq_true, beq_iff_eq, Bool.or_eq_true, decide_eq_true_eq] at hi
        have hin := hl g (by simp)
        rcases hi.2 with e | e
        · have : aggsL.contains t.s = true := by rw [hi.1]; simpa using hin
          unfold isItem
          rw [this, e]; simp
        · exfalso
          have hgd := hg.head (by omega) (by omega)
          have hk' := k0_k e
          have hu : t.k0.s = t.s := rfl
          rw [← hi.1, ← hu] at hin
          generalize t.k0 = z at *
          cases hgd with
          | w s hs => simp at hk'
          | n n h0 h1 => simp at hk'
          | t s hs => simp at hk'
          | m s hs =>
            dsimp only at hin
            simp only [marksL, List.mem_cons, List.not_mem_nil, or_false] at hs
            rcases hs with rfl | rfl | rfl | rfl | rfl | rfl | rfl | rfl | rfl | rfl <;> simp [aggsL] at hin
      · cases hmay
    · exact itemG_beg l (fun g hg => hl g (by simp [hg])) t ts a r hg h
theorem aggF_wt {g : List UInt8} (hg : g ∈ aggsL) {ts r : List Tok} {a : ItemT} (h : aggF g ts = .ok a r) (hG : GT ts) : itemB a = true ∧ a.agg = g ∧ GT r ∧ wt r + g.length + (itemX a).length + 2 ≤ wt ts + 2 * g.length := by
  unfold aggF at h
  obtain ⟨u, r1, h1, h⟩ := PR.bind_ok h
  obtain ⟨g1, w1⟩ := must_wt h1 hG
  obtain ⟨c, r2, h2, h⟩ := PR.bind_ok h
  obtain ⟨v, r3, h3, h⟩ := PR.bind_ok h
  injection h with e1 e2; subst e1 e2
  have hne : g ≠ [] := by intro e; subst e; simp [aggsL] at hg
  have e40 : ([40] : List UInt8).length = 1 := rfl
  have e41 : ([41] : List UInt8).length = 1 := rfl
  have key : itemB ⟨g, c⟩ = true ∧ GT r2 ∧ wt r1 = wt r2 + c.length + 2 := by
    split at h2
    · rename_i hc
      obtain ⟨u2, r4, h4, h2⟩ := PR.bind_ok h2
      obtain ⟨g4, w4⟩ := must_wt h4 g1
      injection h2 with e1 e2; subst e1 e2
      exact ⟨by simp [itemB, hc], g4, w4⟩
    · rename_i hc
      obtain ⟨n1, n2, n3⟩ := nm_wt h2 g1
      refine ⟨?_, n2, n3⟩
      unfold itemB
      rw [if_neg hc, if_pos, n1]
      simp only [aggsL, List.mem_cons, List.not_mem_nil, or_false] at hg
      rcases hg with e | e | e | e
      · exact .inr (.inl e)
      · exact absurd e hc
      · exact .inr (.inr (.inl e))
      · exact .inr (.inr (.inr e))
  obtain ⟨k1, k2, k3⟩ := key
  obtain ⟨g3, w3⟩ := must_wt h3 k2
  refine ⟨k1, rfl, g3, ?_⟩
  unfold itemX
  rw [if_neg hne]
  simp only [List.length_append, List.length_cons, List.length_nil]
  omega
theorem itemG_wt : ∀ (l : List (List UInt8)), (∀ g ∈ l, g ∈ aggsL) → ∀ (ts : List Tok) (a : ItemT) (r : List Tok), itemG l ts = .ok a r → GT ts → itemB a = true ∧ GT r ∧ wt r + (itemX a).length + 1 ≤ wt ts
  | [], _, ts, a, r, h, hG => by
    simp only [itemG] at h
    obtain ⟨c, r1, h1, h⟩ := PR.bind_ok h
    obtain ⟨n1, n2, n3⟩ := nm_wt h1 hG
    injection h with e1 e2; subst e1 e2
    refine ⟨?_, n2, ?_⟩
    · unfold itemB; rw [if_neg (by simp [wCount]), if_pos (.inl rfl), n1]
    · unfold itemX; rw [if_pos rfl]; dsimp only; omega
  | g :: l, hl, ts, a, r, h, hG => by
    simp only [itemG] at h
    split at h
    · rename_i r1 hm
      obtain ⟨g1, w1⟩ := may_wt hm hG
      obtain ⟨a1, a2, a3, a4⟩ := aggF_wt (hl g (by simp)) h g1
      exact ⟨a1, a3, by omega⟩
    · exact itemG_wt l (fun g hg => hl g (by simp [hg])) ts a r h hG
theorem order_wt {ts r : List Tok} {o : OrderT} (h : orderF ts = .ok o r) (hG : GT ts) : nameB o.col = true ∧ GT r ∧ wt r + (orderX o).length + 1 ≤ wt ts := by
  unfold orderF at h
  obtain ⟨c, r1, h1, h⟩ := PR.bind_ok h
  obtain ⟨n1, n2, n3⟩ := nm_wt h1 hG
  split at h
  · rename_i r2 hm
    obtain ⟨g1, w1⟩ := may_wt hm n2
    injection h with e1 e2; subst e1 e2
    have e4 : wDesc.length = 4 := rfl
    refine ⟨n1, g1, ?_⟩
    unfold orderX; rw [if_pos rfl]
    simp only [List.length_append, List.length_cons, List.length_nil]
    omega
  · injection h with e1 e2; subst e1 e2
    refine ⟨n1, n2, ?_⟩
    unfold orderX; rw [if_neg (by simp)]; dsimp only; omega
theorem nm_beg {t : Tok} {ts r : List Tok} {s : List UInt8} (h : nmF (t :: ts) = .ok s r) : isNm t = true := by
  simp only [nmF] at h
  split at h
  · rename_i hi; exact hi
  · cases h
theorem order_beg {t : Tok} {ts r : List Tok} {o : OrderT} (h : orderF (t :: ts) = .ok o r) : isNm t = true := by
  unfold orderF at h
  obtain ⟨c, r1, h1, h⟩ := PR.bind_ok h
  exact nm_beg h1
theorem where_snd {f : Nat} {ts r : List Tok} {c : CondT} (h : whereF f ts = .ok c r) (hG : GT ts) : (c.op ≠ 0 → depthC c ≤ 32 ∧ fineC c = true) ∧ bareC c = c ∧ GT r ∧ wt r + (if c.op = 0 then ([] : List UInt8) else [32, 119, 104, 101, 114, 101, 32] ++ condX c).length ≤ wt ts := by
  unfold whereF at h
  split at h
  · injection h with e1 e2; subst e1 e2
    have e : cond0.op = 0 := rfl
    refine ⟨fun k => absurd rfl k, ?_, hG, ?_⟩
    · unfold cond0; rw [bareC.eq_def]; simp only; rw [if_pos trivial]; rfl
    · rw [if_pos e]; simp
  · rename_i r1 hm
    obtain ⟨g1, w1⟩ := may_wt hm hG
    obtain ⟨x, r2, h2, h⟩ := PR.bind_ok h
    obtain ⟨s1, s2, s3, s4⟩ := cond_snd f 0 _ _ _ h2 g1
    split at h
    · cases h
    · rename_i hd
      injection h with e1 e2; subst e1 e2
      refine ⟨fun _ => ⟨by omega, s1⟩, s2, s3, ?_⟩
      have e5 : wWhere.length = 5 := rfl
      have := (par_le (levP 0 x) (condX x)).1
      split
      · simp only [List.length_nil]; omega
      · simp only [List.length_append, List.length_cons, List.length_nil]; omega
theorem group_snd {ts r : List Tok} {l : List (List UInt8)} (h : groupF ts = .ok l r) (hG : GT ts) : l.length ≤ 20 ∧ (∀ x ∈ l, nameB x = true) ∧ GT r ∧ wt r + (if l = [] then ([] : List UInt8) else [32, 103, 114, 111, 117, 112, 32, 98, 121, 32] ++ join l [44, 32]).length ≤ wt ts := by
  unfold groupF at h
  split at h
  · injection h with e1 e2; subst e1 e2
    exact ⟨by simp, by simp, hG, by simp⟩
  · rename_i r1 hm
    obtain ⟨g1, w1⟩ := may_wt hm hG
    obtain ⟨u, r2, h2, h⟩ := PR.bind_ok h
    obtain ⟨g2, w2⟩ := must_wt h2 g1
    obtain ⟨q1, q2, q3, ys, q4, q5, q6⟩ := many_snd (X := fun s => s) (P := fun s => nameB s = true) (fun t ts a r h _ => nm_beg h) (fun ts a r h hg => by obtain ⟨a, b, c⟩ := nm_wt h hg; exact ⟨a, b, by omega⟩) _ [] _ _ _ h g2 (by simp) (by simp)
    have e5 : wGroup.length = 5 := rfl
    have e2 : wBy.length = 2 := rfl
    simp only [List.nil_append] at q5
    subst q5
    refine ⟨q1, q2, q3, ?_⟩
    rw [if_neg q4]
    simp only [List.map_id'] at q6
    simp only [List.length_append, List.length_cons, List.length_nil]
    omega
theorem orders_snd {ts r : List Tok} {l : List OrderT} (h : ordersF ts = .ok l r) (hG : GT ts) : l.length ≤ 20 ∧ (∀ x ∈ l, nameB x.col = true) ∧ GT r ∧ wt r + (if l = [] then ([] : List UInt8) else [32, 111, 114, 100, 101, 114, 32, 98, 121, 32] ++ join (l.map orderX) [44, 32]).length ≤ wt ts := by
  unfold ordersF at h
  split at h
  · injection h with e1 e2; subst e1 e2
    exact ⟨by simp, by simp, hG, by simp⟩
  · rename_i r1 hm
    obtain ⟨g1, w1⟩ := may_wt hm hG
    obtain ⟨u, r2, h2, h⟩ := PR.bind_ok h
    obtain ⟨g2, w2⟩ := must_wt h2 g1
    obtain ⟨q1, q2, q3, ys, q4, q5, q6⟩ := many_snd (X := orderX) (P := fun s => nameB s.col = true) (fun t ts a r h _ => order_beg h) (fun ts a r h hg => order_wt h hg) _ [] _ _ _ h g2 (by simp) (by simp)
    have e5 : wOrder.length = 5 := rfl
    have e2 : wBy.length = 2 := rfl
    simp only [List.nil_append] at q5
    subst q5
    refine ⟨q1, q2, q3, ?_⟩
    rw [if_neg q4]
    simp only [List.length_append, List.length_cons, List.length_nil]
    omega
theorem limit_snd {ts r : List Tok} {n : Int} (h : limitF ts = .ok n r) (hG : GT ts) : -1 ≤ n ∧ n ≤ 4611686018427387904 ∧ GT r ∧ wt r + (if 0 ≤ n then [32, 108, 105, 109, 105, 116, 32] ++ itoa n else []).length ≤ wt ts := by
  unfold limitF at h
  split at h
  · injection h with e1 e2; subst e1 e2
    exact ⟨by omega, by omega, hG, by rw [if_neg (by omega)]; simp⟩
  · rename_i r1 hm
    obtain ⟨g1, w1⟩ := may_wt hm hG
    split at h
    · cases h
    · rename_i t r2
      split at h
      · rename_i hk
        injection h with e1 e2; subst e1 e2
        have hg := g1.head (by omega) (by omega)
        have hn : t.n ≤ 4611686018427387904 := by
          have hk' := k0_k hk.1
          have hu : t.k0.n = t.n := rfl
          generalize t.k0 = z at *
          cases hg with
          | w s hs => simp at hk'
          | n n h0 h1 => dsimp only at hu; omega
          | t s hs => simp at hk'
          | m s hs => simp at hk'
        have e : tokX t.k0 = itoa t.n := by simp [tokX, Tok.k0, hk.1]
        have e5 : wLimit.length = 5 := rfl
        refine ⟨by omega, hn, g1.tail, ?_⟩
        rw [if_pos hk.2]
        simp only [wt, wtT, e] at w1
        simp only [List.length_append, List.length_cons, List.length_nil]
        omega
      · cases h
theorem query_snd {f : Nat} {ts r : List Tok} {q : QueryT} (h : queryF f ts = .ok q r) (hG : GT ts) : FormQ q ∧ bareQ q = q ∧ (queryX q).length ≤ wt ts := by
  unfold queryF at h
  obtain ⟨u, r1, h1, h⟩ := PR.bind_ok h
  obtain ⟨g1, w1⟩ := must_wt h1 hG
  obtain ⟨I, r2, h2, h⟩ := PR.bind_ok h
  obtain ⟨i1, i2, i3, ys, i4, i5, i6⟩ := many_snd (X := itemX) (P := fun x => itemB x = true) (fun t ts a r h hg => itemG_beg aggsL (fun _ h => h) t ts a r hg h) (fun ts a r h hg => itemG_wt aggsL (fun _ h => h) ts a r h hg) _ [] _ _ _ h2 g1 (by simp) (by simp)
  simp only [List.nil_append] at i5
  subst i5
  obtain ⟨u3, r3, h3, h⟩ := PR.bind_ok h
  obtain ⟨g3, w3⟩ := must_wt h3 i3
  obtain ⟨T, r4, h4, h⟩ := PR.bind_ok h
  obtain ⟨n1, n2, n3⟩ := nm_wt h4 g3
  obtain ⟨C, r5, h5, h⟩ := PR.bind_ok h
  obtain ⟨c1, c2, c3, c4⟩ := where_snd h5 n2
  obtain ⟨G, r6, h6, h⟩ := PR.bind_ok h
  obtain ⟨d1, d2, d3, d4⟩ := group_snd h6 c3
  obtain ⟨O, r7, h7, h⟩ := PR.bind_ok h
  obtain ⟨o1, o2, o3, o4⟩ := orders_snd h7 d3
  obtain ⟨L, r8, h8, h⟩ := PR.bind_ok h
  obtain ⟨l1, l2, l3, l4⟩ := limit_snd h8 o3
  obtain ⟨u9, r9, h9, h⟩ := PR.bind_ok h
  injection h with e1 e2; subst e1 e2
  refine ⟨⟨i4, i1, d1, o1, i2, n1, d2, o2, l1, l2, fun k => (c1 k).1, fun k => (c1 k).2⟩, ?_, ?_⟩
  · unfold bareQ; dsimp only; rw [c2]
  · have e6 : wSelect.length = 6 := rfl
    have e4 : wFrom.length = 4 := rfl
    unfold queryX
    simp only [List.length_append, List.length_cons, List.length_nil] at c4 d4 o4 l4 ⊢
    omega
/-- WHAT IS READ IS PRINTED, AND READ BACK AS IT IS. -/
theorem parse_snd {L : List UInt8} {q : QueryT} {r : List Tok} (h : parseF L = .ok q r) (hL : L.length ≤ 20000) : FormQ q ∧ bareQ q = q ∧ (queryX q).length ≤ 65536 := by
  unfold parseF at h
  rw [if_neg (by omega)] at h
  obtain ⟨h1, h2⟩ := lex_gt (L.length + 1) 0 L
  obtain ⟨a, b, c⟩ := query_snd h h1
  exact ⟨a, b, by unfold lexL at c; omega⟩
theorem format_0 {q : QueryT} (h : FormQ q) (hx : (queryX q).length ≤ 65536) : formatE q = 0 ∧ formatX q = queryX q := by
  have e : formatE q = 0 := by
    unfold formatE
    rw [ok_form h, if_neg (by decide), if_neg (by omega)]
  exact ⟨e, by unfold formatX; rw [if_pos e]⟩
theorem format_inv {q : QueryT} (h : formatE q = 0) : FormQ q ∧ (queryX q).length ≤ 65536 ∧ formatX q = queryX q := by
  have e : formatX q = queryX q := by unfold formatX; rw [if_pos h]
  unfold formatE at h
  split at h
  · rename_i hh; exact absurd h hh
  · rename_i hh
    split at h
    · cases h
    · exact ⟨form_ok (by simpa using hh), by omega, e⟩
/-- SqlBack's law: what is printed is read back bare. -/
theorem back_law {q : QueryT} (h : formatE q = 0) : ∃ r, parseF (formatX q) = .ok (bareQ q) r := by
  obtain ⟨h1, h2, h3⟩ := format_inv h
  rw [h3]
  exact print_parse h1 (by rw [← sgX_query h1]; exact rn_plain _) h2
/-- SqlBack's law: what is read, printed and read again is the same. -/
theorem again_law {L : List UInt8} {q : QueryT} {r : List Tok} (h : parseF L = .ok q r) (hL : L.length ≤ 20000) : formatE q = 0 ∧ ∃ r', parseF (formatX q) = .ok q r' := by
  obtain ⟨h1, h2, h3⟩ := parse_snd h hL
  obtain ⟨e1, e2⟩ := format_0 h1 h3
  obtain ⟨r', e3⟩ := back_law e1
  exact ⟨e1, r', by rw [e3, h2]⟩
theorem name_len {s : List UInt8} (h : nameB s = true) : s.length ≤ 1000000000 := by
  simp only [nameB, Bool.and_eq_true, decide_eq_true_eq] at h
  have := h.1.1.1.2
  omega
theorem item_len {x : ItemT} (h : itemB x = true) : x.agg.length ≤ 1000000000 ∧ x.col.length ≤ 1000000000 := by
  unfold itemB at h
  split at h
  · rename_i hc
    simp only [decide_eq_true_eq] at h
    rw [hc, h]; decide
  · split at h
    · rename_i hh
      refine ⟨?_, name_len h⟩
      rcases hh with e | e | e | e <;> rw [e] <;> decide
    · cases h
end Go.Proofs.YtijlifdbjhieaaaGreatDoor.Pl
