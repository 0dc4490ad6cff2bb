/-
  Plain: what is printed has its own tokens, and is read back as it was.
-/
import Derived.Test.YtnjlggleaocbdaaGreatDoorDp1
import Derived.Lib.AtoiAllCases
namespace Go.Proofs.YtnjlggleaocbdaaGreatDoor.Pl
set_option linter.all false
open Go.Lib

theorem parseUint10_app : ∀ (l r : List UInt8) (a : Nat), parseUint10 a (l ++ r) = match parseUint10 a l with | .ok v => parseUint10 v r | .syntax => .syntax | .range => .range
  | [], r, a => by simp [parseUint10]
  | c :: l, r, a => by
    simp only [List.cons_append, parseUint10]
    by_cases h1 : 48 ≤ c.toNat ∧ c.toNat ≤ 57
    · rw [if_pos h1, if_pos h1]
      by_cases h2 : 1844674407370955162 ≤ a
      · rw [if_pos h2, if_pos h2]
      · rw [if_neg h2, if_neg h2]
        by_cases h3 : 18446744073709551616 ≤ a * 10 + (c.toNat - 48)
        · rw [if_pos h3, if_pos h3]
        · rw [if_neg h3, if_neg h3]; exact parseUint10_app l r _
    · rw [if_neg h1, if_neg h1]
theorem digit_nat {d : Nat} (h : d < 10) : (UInt8.ofNat (48 + d)).toNat = 48 + d := by
  simp only [UInt8.toNat_ofNat']; omega
theorem parse_dec : ∀ (u : Nat), u < 18446744073709551616 → parseUint10 0 (decDigits u) = .ok u := by
  intro u
  induction u using Nat.strongRecOn with
  | _ u ih =>
    intro hu
    rw [decDigits]
    by_cases h : u < 10
    · rw [dif_pos h]
      have e := digit_nat h
      simp only [parseUint10, e]
      rw [if_pos (by omega), if_neg (by omega), if_neg (by omega)]
      congr 1; omega
    · rw [dif_neg h, parseUint10_app, ih (u / 10) (by omega) (by omega)]
      have e := digit_nat (d := u % 10) (by omega)
      simp only [parseUint10, e]
      rw [if_pos (by omega), if_neg (by omega), if_neg (by omega)]
      congr 1; omega
theorem decDigits_dig : ∀ (u : Nat), ∀ c ∈ decDigits u, 48 ≤ c.toNat ∧ c.toNat ≤ 57 := by
  intro u
  induction u using Nat.strongRecOn with
  | _ u ih =>
    rw [decDigits]
    by_cases h : u < 10
    · rw [dif_pos h]; intro c hc
      have e := digit_nat h
      simp only [List.mem_singleton] at hc; subst hc; omega
    · rw [dif_neg h]; intro c hc
      have e := digit_nat (d := u % 10) (by omega)
      rcases List.mem_append.1 hc with hc | hc
      · exact ih (u / 10) (by omega) c hc
      · simp only [List.mem_singleton] at hc; subst hc; omega
theorem decDigits_ne (u : Nat) : decDigits u ≠ [] := by
  rw [decDigits]; split <;> simp
theorem atoiAll_itoa {n : Int} (h0 : -9223372036854775808 ≤ n) (h1 : n ≤ 9223372036854775807) : atoiAll (itoa n) = .ok n := by
  unfold itoa
  by_cases h : n < 0
  · rw [if_pos h, atoiAll_minus]
    unfold parseMag
    rw [if_neg (decDigits_ne _), parse_dec _ (by omega)]
    simp only [signed]
    rw [if_neg (by omega)]; congr 1; omega
  · rw [if_neg h]
    obtain ⟨c, r, hcr⟩ : ∃ c r, decDigits n.toNat = c :: r := by
      cases hd : decDigits n.toNat with
      | nil => exact absurd hd (decDigits_ne _)
      | cons c r => exact ⟨c, r, rfl⟩
    have hc := decDigits_dig n.toNat c (by rw [hcr]; simp)
    rw [hcr, atoiAll_plain c r (by omega) (by omega)]
    unfold parseMag
    rw [if_neg (by simp), ← hcr, parse_dec _ (by omega)]
    simp only [signless]
    rw [if_neg (by omega)]; congr 1; omega
theorem num_itoa {n : Int} (h0 : 0 ≤ n) (h1 : n ≤ 4611686018427387904) : numB (itoa n) = true ∧ numV (itoa n) = n := by
  unfold numB numV
  rw [atoiAll_itoa (by omega) (by omega)]
  simp [h1]
theorem itoa_digits {n : Int} (h0 : 0 ≤ n) : ∃ c r, itoa n = c :: r ∧ digitB c = true ∧ ∀ d ∈ r, digitB d = true := by
  unfold itoa
  rw [if_neg (by omega)]
  have hall := decDigits_dig n.toNat
  cases hd : decDigits n.toNat with
  | nil => exact absurd hd (decDigits_ne _)
  | cons c r =>
    rw [hd] at hall
    refine ⟨c, r, rfl, ?_, fun d hd => ?_⟩
    · have := hall c (by simp); simp [digitB, this]
    · have := hall d (by simp [hd]); simp [digitB, this]
theorem digit_with {d : UInt8} (h : digitB d = true) : withB d = true := by simp [withB, h]

/-- A token's bytes. -/
def tokX (t : Tk0) : List UInt8 := if t.k = 116 then quoteX t.s else t.s
def marksL : List (List UInt8) := [[61], [60], [62], [43], [45], [42], [47], [37], [40], [41], [58], [59], [33, 61], [60, 61], [62, 61]]
/-- A token as it comes of a text. -/
inductive GoodT : Tk0 → Prop where
  | w (s) : nameB s = true ∨ wordsL.contains s = true → GoodT ⟨119, s, 0⟩
  | n (n) : 0 ≤ n → n ≤ 4611686018427387904 → GoodT ⟨110, itoa n, n⟩
  | t (s) : textB s = true → GoodT ⟨116, s, 0⟩
  | m (s) : s ∈ marksL → GoodT ⟨109, s, 0⟩
/-- What stands behind a token does not go on with it. -/
def FoB (t : Tk0) (x : List UInt8) : Bool :=
  if t.k = 119 ∨ t.k = 110 then !headB withB x else if t.k = 109 ∧ (t.s = [60] ∨ t.s = [62]) then !isEq x else true
theorem spanW_all : ∀ (l x : List UInt8), (∀ c ∈ l, withB c = true) → headB withB x = false → spanW (l ++ x) = l.length
  | [], x, _, hx => by
    cases x with
    | nil => rfl
    | cons c x =>
      simp only [List.nil_append, spanW, List.length_nil]
      rw [if_neg (by simp only [headB] at hx; simp [hx])]
  | c :: l, x, h, hx => by
    simp only [List.cons_append, spanW, List.length_cons]
    rw [if_pos (h c (by simp)), spanW_all l x (fun d hd => h d (by simp [hd])) hx]
theorem quoF_esc : ∀ (s x : List UInt8) (i : Nat) (acc : List UInt8), s.all seeB = true → quoF (escQ s ++ 34 :: x) i acc = some (acc ++ s, i + (escQ s).length + 1)
  | [], x, i, acc, _ => by
    simp only [escQ, List.nil_append, List.append_nil, List.length_nil, Nat.add_zero]
    rw [quoF.eq_def]
    simp only
    rw [if_pos (by decide)]
  | c :: s, x, i, acc, h => by
    simp only [List.all_cons, Bool.and_eq_true] at h
    simp only [escQ]
    by_cases hc : c.toNat = 92
    · rw [if_pos hc]
      simp only [List.cons_append]
      rw [quoF.eq_def]
      simp only
      rw [if_neg (by decide), if_neg (by decide), if_pos (by decide), if_pos (by decide), quoF_esc s x (i + 2) _ h.2]
      obtain rfl : c = 92 := UInt8.toNat_inj.1 hc
      simp only [List.append_assoc, List.cons_append, List.nil_append, List.length_cons, Option.some.injEq, Prod.mk.injEq, true_and]
      omega
    · rw [if_neg hc]
      by_cases hq : c.toNat = 34
      · rw [if_pos hq]
        simp only [List.cons_append]
        rw [quoF.eq_def]
        simp only
        rw [if_neg (by decide), if_neg (by decide), if_pos (by decide), if_pos (by decide), quoF_esc s x (i + 2) _ h.2]
        obtain rfl : c = 34 := UInt8.toNat_inj.1 hq
        simp only [List.append_assoc, List.cons_append, List.nil_append, List.length_cons, Option.some.injEq, Prod.mk.injEq, true_and]
        omega
      · rw [if_neg hq]
        simp only [List.cons_append]
        rw [quoF.eq_def]
        simp only
        rw [if_neg hq, if_neg (by simp [h.1]), if_neg hc, quoF_esc s x (i + 1) _ h.2]
        simp only [List.append_assoc, List.cons_append, List.nil_append, List.length_cons, Option.some.injEq, Prod.mk.injEq, true_and]
        omega
theorem words_with : ∀ s ∈ wordsL, headB smallB s = true ∧ s.all withB = true ∧ s ≠ [] := by
  intro s hs
  simp only [wordsL, List.mem_cons, List.not_mem_nil, or_false] at hs
  rcases hs with rfl | rfl | rfl | rfl | rfl | rfl | rfl | rfl | rfl | rfl | rfl | rfl | rfl | rfl <;> exact ⟨by decide, by decide, by simp⟩
theorem wordy {s : List UInt8} (h : nameB s = true ∨ wordsL.contains s = true) : headB smallB s = true ∧ s.all withB = true ∧ s ≠ [] := by
  rcases h with h | h
  · simp only [nameB, Bool.and_eq_true] at h
    refine ⟨h.1.1.2, h.2, ?_⟩
    intro e; subst e; simp at h
  · exact words_with s (by simpa using h)
/-- A byte at which a token begins. -/
def startB (c : UInt8) : Bool := !blankB c && !decide (c.toNat = 10) && !decide (c.toNat = 35)
theorem good_next {t : Tk0} (h : GoodT t) (x : List UInt8) (hx : FoB t x = true) : ∃ c r, tokX t = c :: r ∧ startB c = true ∧ nextF c (r ++ x) = (t, (tokX t).length) ∧ t.k ≠ 33 := by
  cases h with
  | w s hs =>
    obtain ⟨h1, h2, h3⟩ := wordy hs
    cases s with
    | nil => exact absurd rfl h3
    | cons c r =>
      have hall : ∀ d ∈ c :: r, withB d = true := fun d hd => List.all_eq_true.1 h2 d hd
      have hc : smallB c = true := h1
      have hx' : headB withB x = false := by simpa [FoB] using hx
      have hk : tokX ⟨119, c :: r, 0⟩ = c :: r := by simp [tokX]
      refine ⟨c, r, hk, ?_, ?_, (by simp)⟩
      · simp [smallB] at hc; simp [startB, blankB]; omega
      · unfold nextF
        rw [if_pos (hall c (by simp)), spanW_all r x (fun d hd => hall d (by simp [hd])) hx', hk]
        simp only [List.take_left', List.length_cons]
        unfold namedF
        rw [if_neg (by simp [smallB] at hc; simp [headB, digitB]; omega), if_pos (by simpa [or_comm] using hs)]
  | n n h0 h1 =>
    obtain ⟨c, r, hcr, hd, hr⟩ := itoa_digits h0
    have hk : tokX ⟨110, itoa n, n⟩ = c :: r := by simp [tokX, hcr]
    have hx' : headB withB x = false := by simpa [FoB] using hx
    obtain ⟨q1, q2⟩ := num_itoa h0 h1
    refine ⟨c, r, hk, ?_, ?_, (by simp)⟩
    · simp [digitB] at hd; simp [startB, blankB]; omega
    · unfold nextF
      rw [if_pos (digit_with hd), spanW_all r x (fun d hd => digit_with (hr d hd)) hx', hk]
      simp only [List.take_left', List.length_cons]
      unfold namedF
      rw [if_pos (by simp only [headB]; exact hd), ← hcr, if_pos q1, q2]
  | t s hs =>
    simp only [textB, Bool.and_eq_true, decide_eq_true_eq] at hs
    refine ⟨34, escQ s ++ [34], by simp [tokX, quoteX], by decide, ?_, (by simp)⟩
    unfold nextF
    rw [if_neg (by decide), if_pos (by decide), List.append_assoc]
    show quotedF 34 (escQ s ++ 34 :: x) = _
    unfold quotedF
    rw [quoF_esc s x 1 [] hs.2]
    simp only [List.nil_append]
    rw [if_pos (by simp [textB, hs])]
    simp [tokX, quoteX]; omega
  | m s hs =>
    have hk : tokX ⟨109, s, 0⟩ = s := by simp [tokX]
    rw [hk]
    simp only [marksL, List.mem_cons, List.not_mem_nil, or_false] at hs
    rcases hs with rfl | rfl | rfl | rfl | rfl | rfl | rfl | rfl | rfl | rfl | rfl | rfl | rfl | rfl | rfl
    · exact ⟨61, [], rfl, by decide, rfl, by decide⟩
    · have hx' : isEq x = false := by simpa [FoB] using hx
      refine ⟨60, [], rfl, by decide, ?_, by decide⟩
      unfold nextF
      rw [if_neg (by decide), if_neg (by decide), List.nil_append, hx', if_neg (by decide), if_pos (by decide)]
      rfl
    · have hx' : isEq x = false := by simpa [FoB] using hx
      refine ⟨62, [], rfl, by decide, ?_, by decide⟩
      unfold nextF
      rw [if_neg (by decide), if_neg (by decide), List.nil_append, hx', if_neg (by decide), if_pos (by decide)]
      rfl
    · exact ⟨43, [], rfl, by decide, rfl, by decide⟩
    · exact ⟨45, [], rfl, by decide, rfl, by decide⟩
    · exact ⟨42, [], rfl, by decide, rfl, by decide⟩
    · exact ⟨47, [], rfl, by decide, rfl, by decide⟩
    · exact ⟨37, [], rfl, by decide, rfl, by decide⟩
    · exact ⟨40, [], rfl, by decide, rfl, by decide⟩
    · exact ⟨41, [], rfl, by decide, rfl, by decide⟩
    · exact ⟨58, [], rfl, by decide, rfl, by decide⟩
    · exact ⟨59, [], rfl, by decide, rfl, by decide⟩
    · exact ⟨33, [61], rfl, by decide, rfl, by decide⟩
    · exact ⟨60, [61], rfl, by decide, rfl, by decide⟩
    · exact ⟨62, [61], rfl, by decide, rfl, by decide⟩

def over0 : Tk0 := ⟨101, [], 0⟩
/-- A token's kind, text and number. -/
def _root_.Go.Proofs.YtnjlggleaocbdaaGreatDoor.Tok.k0 (t : Tok) : Tk0 := ⟨t.k, t.s, t.n⟩
theorem Tk0.at_k0 (t : Tk0) (p : Nat) : (t.at p).k0 = t := rfl
/-- A text shows these tokens. -/
def Lx (ts : List Tk0) (x : List UInt8) : Prop := ∀ f p, x.length + 1 ≤ f → (lexF f p x).map Tok.k0 = ts
/-- What stands between tokens. -/
def Gap (bl : List UInt8) : Prop := ∀ p x, ∃ q, skipF false p (bl ++ x) = skipF false q x
theorem gap_32 : Gap [32] := fun p x => ⟨p, by simp [skipF, blankB]⟩
theorem gap_10 : Gap [10] := fun p x => ⟨p + 1, by simp [skipF]⟩
theorem lx_nil : Lx [over0] [] := fun f p hf => by
  cases f with
  | zero => simp at hf
  | succ f => rfl
theorem lx_gap {bl : List UInt8} {ts : List Tk0} {x : List UInt8} (h : Gap bl) (hx : Lx ts x) : Lx ts (bl ++ x) := fun f p hf => by
  obtain ⟨q, hq⟩ := h p x
  rw [List.length_append] at hf
  rw [← hx f q (by omega)]
  cases f with
  | zero => simp at hf
  | succ f => simp only [lexF, hq]
theorem skip_start {c : UInt8} (h : startB c = true) (p : Nat) (r : List UInt8) : skipF false p (c :: r) = (p, c :: r) := by
  simp only [startB, Bool.and_eq_true, Bool.not_eq_true', decide_eq_false_iff_not] at h
  simp only [skipF]
  rw [if_neg h.1.2, if_neg (by simp [h.1.1]), if_neg h.2]
theorem lx_tok {t : Tk0} {ts : List Tk0} {x : List UInt8} (hg : GoodT t) (hf : FoB t x = true) (hx : Lx ts x) : Lx (t :: ts) (tokX t ++ x) := fun f p hl => by
  obtain ⟨c, r, hcr, hs, hn, hk⟩ := good_next hg x hf
  have hlen : (tokX t).length = r.length + 1 := by rw [hcr]; rfl
  rw [List.length_append] at hl
  obtain ⟨g, rfl⟩ : ∃ g, f = g + 1 := ⟨f - 1, by omega⟩
  rw [hcr, List.cons_append]
  simp only [lexF, skip_start hs]
  rw [hn]
  simp only
  rw [if_neg hk, hlen]
  simp only [List.drop_succ_cons, List.drop_left', List.map_cons]
  rw [hx _ _ (by omega), Tk0.at_k0]

/-! Expressions. -/
def tW (s : List UInt8) : Tk0 := ⟨119, s, 0⟩
def tM (s : List UInt8) : Tk0 := ⟨109, s, 0⟩
def tN (n : Int) : Tk0 := ⟨110, itoa n, n⟩
def tT (s : List UInt8) : Tk0 := ⟨116, s, 0⟩
theorem lx_word {s : List UInt8} (h : nameB s = true ∨ wordsL.contains s = true) {ts : List Tk0} {x : List UInt8} (hx : Lx ts x) (hb : headB withB x = false) : Lx (tW s :: ts) (s ++ x) := by
  have := lx_tok (GoodT.w s h) (by simp [FoB, hb]) hx
  simpa [tokX, tW] using this
theorem lx_mark {s : List UInt8} (h : s ∈ marksL) {ts : List Tk0} {x : List UInt8} (hx : Lx ts x) (hb : isEq x = false) : Lx (tM s :: ts) (s ++ x) := by
  have := lx_tok (GoodT.m s h) (by simp [FoB, hb]) hx
  simpa [tokX, tM] using this
theorem lx_mark' {s : List UInt8} (h : s ∈ marksL) (h1 : s ≠ [60]) (h2 : s ≠ [62]) {ts : List Tk0} {x : List UInt8} (hx : Lx ts x) : Lx (tM s :: ts) (s ++ x) := by
  have := lx_tok (GoodT.m s h) (by simp [FoB, h1, h2]) hx
  simpa [tokX, tM] using this
def binB (op : Int) : Bool := decide (6 ≤ op) && decide (op ≤ 19) && !decide (op = 8)
def signTok (op : Int) : Tk0 := if op = 6 ∨ op = 7 then tW (signX op) else tM (signX op)
theorem bin_cases {P : Int → Prop} (h : P 6 ∧ P 7 ∧ P 9 ∧ P 10 ∧ P 11 ∧ P 12 ∧ P 13 ∧ P 14 ∧ P 15 ∧ P 16 ∧ P 17 ∧ P 18 ∧ P 19) : ∀ op, binB op = true → P op := by
  intro op hb
  simp only [binB, Bool.and_eq_true, decide_eq_true_eq, Bool.not_eq_true', decide_eq_false_iff_not] at hb
  obtain ⟨h6, h7, h9, h10, h11, h12, h13, h14, h15, h16, h17, h18, h19⟩ := h
  have : op = 6 ∨ op = 7 ∨ op = 9 ∨ op = 10 ∨ op = 11 ∨ op = 12 ∨ op = 13 ∨ op = 14 ∨ op = 15 ∨ op = 16 ∨ op = 17 ∨ op = 18 ∨ op = 19 := by omega
  rcases this with rfl | rfl | rfl | rfl | rfl | rfl | rfl | rfl | rfl | rfl | rfl | rfl | rfl <;> assumption
theorem fine_ind {P : ExprT → Prop}
    (h1 : ∀ n, 0 ≤ n → n ≤ 4611686018427387904 → P (.mk 1 n [] []))
    (h2 : ∀ s, textB s = true → P (.mk 2 0 s []))
    (h3 : ∀ n, n = 0 ∨ n = 1 → P (.mk 3 n [] []))
    (h4 : ∀ s, nameB s = true → P (.mk 4 0 s []))
    (h5 : ∀ s, nameB s = true → P (.mk 5 0 s []))
    (h8 : ∀ a, fineE a = true → P a → P (.mk 8 0 [] [a]))
    (h20 : ∀ a, fineE a = true → P a → P (.mk 20 0 [] [a]))
    (hb : ∀ op a b, binB op = true → fineE a = true → fineE b = true → P a → P b → P (.mk op 0 [] [a, b])) : ∀ e, fineE e = true → P e
  | .mk op n s args, h => by
    rw [fineE.eq_def] at h
    simp only [fine1, Bool.and_eq_true, decide_eq_true_eq] at h
    obtain ⟨⟨hn, ht⟩, hl⟩ := h
    by_cases e1 : op < 1 ∨ 20 < op
    · simp only [argsN] at hn; rw [if_pos e1] at hn; omega
    by_cases e5 : op ≤ 5
    · have hz : args.length = 0 := by
        simp only [argsN] at hn; rw [if_neg e1, if_pos e5] at hn; omega
      have ha : args = [] := List.length_eq_zero_iff.1 hz
      subst ha
      have : op = 1 ∨ op = 2 ∨ op = 3 ∨ op = 4 ∨ op = 5 := by omega
      rcases this with rfl | rfl | rfl | rfl | rfl
      · simp at ht; obtain ⟨⟨q1, q2⟩, rfl⟩ := ht; exact h1 n q1 q2
      · simp at ht; obtain ⟨q1, rfl⟩ := ht; exact h2 s q1
      · simp at ht; obtain ⟨q1, rfl⟩ := ht; exact h3 n q1
      · simp at ht; obtain ⟨q1, rfl⟩ := ht; exact h4 s q1
      · simp at ht; obtain ⟨q1, rfl⟩ := ht; exact h5 s q1
    · rw [if_neg (by omega), if_neg (by omega), if_neg (by omega), if_neg (by omega)] at ht
      simp only [Bool.and_eq_true, decide_eq_true_eq] at ht
      obtain ⟨rfl, rfl⟩ := ht
      simp only [argsN] at hn
      rw [if_neg e1, if_neg e5] at hn
      by_cases e8 : op = 8 ∨ op = 20
      · rw [if_pos e8] at hn
        match hA : args, hn, hl with
        | [a], _, hl =>
          simp only [fineL, Bool.and_eq_true] at hl
          rcases e8 with rfl | rfl
          · exact h8 a hl.1 (fine_ind h1 h2 h3 h4 h5 h8 h20 hb a hl.1)
          · exact h20 a hl.1 (fine_ind h1 h2 h3 h4 h5 h8 h20 hb a hl.1)
        | [], hn, _ => simp at hn
        | _ :: _ :: l, hn, _ => simp at hn; omega
      · rw [if_neg e8] at hn
        match hA : args, hn, hl with
        | [a, b], _, hl =>
          simp only [fineL, Bool.and_eq_true] at hl
          exact hb op a b (by simp [binB]; omega) hl.1 hl.2.1 (fine_ind h1 h2 h3 h4 h5 h8 h20 hb a hl.1) (fine_ind h1 h2 h3 h4 h5 h8 h20 hb b hl.2.1)
        | [], hn, _ => simp at hn
        | [_], hn, _ => simp at hn
        | _ :: _ :: _ :: l, hn, _ => simp at hn; omega
termination_by e => SizeOf.sizeOf e
decreasing_by all_goals (subst hA; simp; omega)

/-- The tokens of a printed expression, in front of others. -/
def parT (q : Bool) (f : List Tk0 → List Tk0) (k : List Tk0) : List Tk0 := if q = true then f k else tM [40] :: f (tM [41] :: k)
mutual
def exprT : ExprT → List Tk0 → List Tk0
  | .mk op n s args, k =>
    if op = 1 then tN n :: k
    else if op = 2 then tT s :: k
    else if op = 3 then tW (if n = 0 then wFalse else wTrue) :: k
    else if op = 4 then tW s :: k
    else if op = 5 then tW wKnown :: tW s :: k
    else if op = 8 then tW wNot :: exprT1 3 args k
    else if op = 20 then tM [45] :: exprT1 7 args k
    else exprT1 (leftN op) args (signTok op :: exprT2 (bindN op + 1) args k)
def exprT1 : Nat → List ExprT → List Tk0 → List Tk0
  | _, [], k => k
  | m, a :: _, k => if decide (m ≤ bindN a.op) = true then exprT a k else tM [40] :: exprT a (tM [41] :: k)
def exprT2 : Nat → List ExprT → List Tk0 → List Tk0
  | _, [], k => k
  | m, _ :: l, k => exprT1 m l k
end
theorem exprT_bin {op : Int} (h : binB op = true) (a b : ExprT) (k : List Tk0) : exprT (.mk op 0 [] [a, b]) k = parT (decide (leftN op ≤ bindN a.op)) (exprT a) (signTok op :: parT (decide (bindN op + 1 ≤ bindN b.op)) (exprT b) k) := by
  simp only [binB, Bool.and_eq_true, decide_eq_true_eq, Bool.not_eq_true', decide_eq_false_iff_not] at h
  rw [exprT.eq_def]
  simp only
  rw [if_neg (by omega), if_neg (by omega), if_neg (by omega), if_neg (by omega), if_neg (by omega), if_neg (by omega), if_neg (by omega)]
  simp only [exprT1, exprT2, parT]
theorem exprT_not (a : ExprT) (k : List Tk0) : exprT (.mk 8 0 [] [a]) k = tW wNot :: parT (decide (3 ≤ bindN a.op)) (exprT a) k := by
  rw [exprT.eq_def]; simp [exprT1, parT]
theorem exprT_neg (a : ExprT) (k : List Tk0) : exprT (.mk 20 0 [] [a]) k = tM [45] :: parT (decide (7 ≤ bindN a.op)) (exprT a) k := by
  rw [exprT.eq_def]; simp [exprT1, parT]
theorem layX_bin {op : Int} (h : binB op = true) (a b : ExprT) : layX (.mk op 0 [] [a, b]) = parX (decide (leftN op ≤ bindN a.op)) (layX a) ++ [32] ++ signX op ++ [32] ++ parX (decide (bindN op + 1 ≤ bindN b.op)) (layX b) := by
  simp only [binB, Bool.and_eq_true, decide_eq_true_eq, Bool.not_eq_true', decide_eq_false_iff_not] at h
  rw [layX.eq_def]
  simp only
  rw [if_neg (by omega), if_neg (by omega), if_neg (by omega), if_neg (by omega), if_neg (by omega), if_neg (by omega), if_neg (by omega)]
  simp only [lay1, lay2]
theorem layX_not (a : ExprT) : layX (.mk 8 0 [] [a]) = wNot ++ [32] ++ parX (decide (3 ≤ bindN a.op)) (layX a) := by
  rw [layX.eq_def]; simp [lay1]
theorem layX_neg (a : ExprT) : layX (.mk 20 0 [] [a]) = [45] ++ parX (decide (7 ≤ bindN a.op)) (layX a) := by
  rw [layX.eq_def]; simp [lay1]
theorem lx_par {a : ExprT} (h : ∀ k x, Lx k x → headB withB x = false → Lx (exprT a k) (layX a ++ x)) (q : Bool) {k : List Tk0} {x : List UInt8} (hx : Lx k x) (hb : headB withB x = false) : Lx (parT q (exprT a) k) (parX q (layX a) ++ x) := by
  cases q with
  | true => simpa [parT, parX] using h k x hx hb
  | false =>
    have h1 := lx_mark' (s := [41]) (by simp [marksL]) (by simp) (by simp) hx
    have h2 := h _ _ h1 (by simp [headB, withB, smallB, digitB])
    have h3 := lx_mark' (s := [40]) (by simp [marksL]) (by simp) (by simp) h2
    simpa [parT, parX] using h3
theorem lx_sign {op : Int} (h : binB op = true) {k : List Tk0} {x : List UInt8} (hx : Lx k x) : Lx (signTok op :: k) (signX op ++ (32 :: x)) := by
  have h0 : Lx k (32 :: x) := lx_gap gap_32 hx
  refine bin_cases (P := fun op => Lx (signTok op :: k) (signX op ++ (32 :: x))) ?_ op h
  refine ⟨?_, ?_, ?_, ?_, ?_, ?_, ?_, ?_, ?_, ?_, ?_, ?_, ?_⟩
  · exact lx_word (s := wOr) (.inr (by decide)) h0 (by simp [headB, withB, smallB, digitB])
  · exact lx_word (s := wAnd) (.inr (by decide)) h0 (by simp [headB, withB, smallB, digitB])
  all_goals exact lx_mark (by simp [marksL, signX, signT]) h0 (by simp [isEq, headB])
theorem lx_expr : ∀ e, fineE e = true → ∀ k x, Lx k x → headB withB x = false → Lx (exprT e k) (layX e ++ x) := by
  refine fine_ind ?_ ?_ ?_ ?_ ?_ ?_ ?_ ?_
  · intro n h0 h1 k x hx hb
    have := lx_tok (GoodT.n n h0 h1) (by simp [FoB, hb]) hx
    rw [exprT.eq_def, layX.eq_def]; simpa [tokX, tN] using this
  · intro s hs k x hx hb
    have := lx_tok (GoodT.t s hs) (by simp [FoB]) hx
    rw [exprT.eq_def, layX.eq_def]; simpa [tokX, tT] using this
  · intro n hn k x hx hb
    rw [exprT.eq_def, layX.eq_def]
    rcases hn with rfl | rfl
    · exact lx_word (s := wFalse) (.inr (by decide)) hx hb
    · exact lx_word (s := wTrue) (.inr (by decide)) hx hb
  · intro s hs k x hx hb
    rw [exprT.eq_def, layX.eq_def]
    exact lx_word (.inl hs) hx hb
  · intro s hs k x hx hb
    rw [exprT.eq_def, layX.eq_def]
    have h1 : Lx (tW s :: k) (32 :: (s ++ x)) := lx_gap gap_32 (lx_word (.inl hs) hx hb)
    have h2 := lx_word (s := wKnown) (.inr (by decide)) h1 (by simp [headB, withB, smallB, digitB])
    simpa using h2
  · intro a _ ha k x hx hb
    rw [exprT_not, layX_not]
    have h1 : Lx _ (32 :: _) := lx_gap gap_32 (lx_par ha (decide (3 ≤ bindN a.op)) hx hb)
    have h2 := lx_word (s := wNot) (.inr (by decide)) h1 (by simp [headB, withB, smallB, digitB])
    simpa using h2
  · intro a _ ha k x hx hb
    rw [exprT_neg, layX_neg]
    have h2 := lx_mark' (s := [45]) (by simp [marksL]) (by simp) (by simp) (lx_par ha (decide (7 ≤ bindN a.op)) hx hb)
    simpa using h2
  · intro op a b ho _ _ ha hb' k x hx hb
    rw [exprT_bin ho, layX_bin ho]
    have h1 := lx_par hb' (decide (bindN op + 1 ≤ bindN b.op)) hx hb
    have h2 := lx_sign ho h1
    have h3 : Lx _ (32 :: _) := lx_gap gap_32 h2
    have h4 := lx_par ha (decide (leftN op ≤ bindN a.op)) h3 (by simp [headB, withB, smallB, digitB])
    simpa using h4

/-! The ways in which an expression may be shown. -/
inductive Sh : Nat → ExprT → List Tk0 → List Tk0 → Prop where
  | up {k e T R} : 1 ≤ k → k ≤ 6 → Sh (k + 1) e T R → Sh k e T R
  | par {e T R} : Sh 1 e T (tM [41] :: R) → Sh 7 e (tM [40] :: T) R
  | num {n s R} : Sh 7 (.mk 1 n [] []) (⟨110, s, n⟩ :: R) R
  | text {s R} : Sh 7 (.mk 2 0 s []) (tT s :: R) R
  | tru {R} : Sh 7 (.mk 3 1 [] []) (tW wTrue :: R) R
  | fal {R} : Sh 7 (.mk 3 0 [] []) (tW wFalse :: R) R
  | name {s R} : nameB s = true → Sh 7 (.mk 4 0 s []) (tW s :: R) R
  | known {s R} : nameB s = true → Sh 7 (.mk 5 0 s []) (tW wKnown :: tW s :: R) R
  | neg {a T R} : Sh 7 a T R → Sh 7 (.mk 20 0 [] [a]) (tM [45] :: T) R
  | not {a T R} : Sh 3 a T R → Sh 3 (.mk 8 0 [] [a]) (tW wNot :: T) R
  | bin {op a b T T' R} : binB op = true → Sh (leftN op) a T (signTok op :: T') → Sh (bindN op + 1) b T' R → Sh (bindN op) (.mk op 0 [] [a, b]) T R
theorem Sh.le {e : ExprT} {T R : List Tk0} : ∀ (n k j : Nat), j = k + n → 1 ≤ k → j ≤ 7 → Sh j e T R → Sh k e T R
  | 0, k, j, h, _, _, s => by obtain rfl : j = k := by omega
                              exact s
  | n + 1, k, j, h, h1, h7, s => by
    obtain rfl : j = (k + n) + 1 := by omega
    exact Sh.le n k (k + n) rfl h1 (by omega) (Sh.up (by omega) (by omega) s)
theorem bind_le (op : Int) : 1 ≤ bindN op ∧ bindN op ≤ 7 := by unfold bindN; (repeat' split) <;> omega
theorem left_le (op : Int) (h : binB op = true) : 1 ≤ leftN op ∧ leftN op ≤ 7 ∧ bindN op + 1 ≤ 7 := by
  revert op; exact bin_cases (by decide)
theorem sh_par {a : ExprT} {m : Nat} (hm : 1 ≤ m ∧ m ≤ 7) (h : ∀ k, Sh (bindN a.op) a (exprT a k) k) (k : List Tk0) : Sh m a (parT (decide (m ≤ bindN a.op)) (exprT a) k) k := by
  obtain ⟨b1, b2⟩ := bind_le a.op
  cases hd : decide (m ≤ bindN a.op) with
  | true =>
    simp only [decide_eq_true_eq] at hd
    simp only [parT, if_true]
    exact Sh.le (bindN a.op - m) m _ (by omega) hm.1 b2 (h k)
  | false =>
    simp only [parT, Bool.false_eq_true, if_false]
    refine Sh.le (7 - m) m 7 (by omega) hm.1 (by omega) (Sh.par ?_)
    exact Sh.le (bindN a.op - 1) 1 _ (by omega) (by omega) b2 (h _)
theorem sh_expr : ∀ e, fineE e = true → ∀ k, Sh (bindN e.op) e (exprT e k) k := by
  refine fine_ind ?_ ?_ ?_ ?_ ?_ ?_ ?_ ?_
  · intro n _ _ k; rw [exprT.eq_def]; exact Sh.num
  · intro s _ k; rw [exprT.eq_def]; exact Sh.text
  · intro n hn k; rw [exprT.eq_def]; rcases hn with rfl | rfl
    · exact Sh.fal
    · exact Sh.tru
  · intro s hs k; rw [exprT.eq_def]; exact Sh.name hs
  · intro s hs k; rw [exprT.eq_def]; exact Sh.known hs
  · intro a _ ha k; rw [exprT_not]; exact Sh.not (sh_par (by omega) ha k)
  · intro a _ ha k; rw [exprT_neg]; exact Sh.neg (sh_par (by omega) ha k)
  · intro op a b ho _ _ ha hb k
    obtain ⟨l1, l2, l3⟩ := left_le op ho
    rw [exprT_bin ho]
    exact Sh.bin ho (sh_par ⟨l1, l2⟩ ha _) (sh_par ⟨by omega, l3⟩ hb k)
end Go.Proofs.YtnjlggleaocbdaaGreatDoor.Pl
