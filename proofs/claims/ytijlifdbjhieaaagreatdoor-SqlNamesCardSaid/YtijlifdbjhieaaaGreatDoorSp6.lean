/-
  Plain: what is read has the form that is printed, and is short.
-/
import Derived.Test.YtijlifdbjhieaaaGreatDoorSp2
import Derived.Lib.AtoiAllCases
/-
  Plain: what is printed has its own tokens, whatever blanks stand between them.
-/
namespace Go.Proofs.YtijlifdbjhieaaaGreatDoor.Pl
set_option linter.all false
open Go.Lib

def marksL : List (List UInt8) := [[44], [40], [41], [42], [61], [60], [62], [33, 61], [60, 61], [62, 61]]
/-- A token as it comes of a text. -/
inductive GoodT : Tk0 → Prop where
  | w (s) : nameB s = true ∨ wordsL.contains s = true → GoodT ⟨119, s, 0⟩
  | n (n) : -4611686018427387904 ≤ n → n ≤ 4611686018427387904 → GoodT ⟨110, [], n⟩
  | t (s) : textB s = true → GoodT ⟨116, s, 0⟩
  | m (s) : s ∈ marksL → GoodT ⟨109, s, 0⟩
/-- A token's kind, text and number. -/
def _root_.Go.Proofs.YtijlifdbjhieaaaGreatDoor.Tok.k0 (t : Tok) : Tk0 := ⟨t.k, t.s, t.n⟩
end Go.Proofs.YtijlifdbjhieaaaGreatDoor.Pl

/-
  Plain: conditions that are printed are read back.
-/
namespace Go.Proofs.YtijlifdbjhieaaaGreatDoor.Pl
set_option linter.all false
open Go.Lib

theorem fine_ind {P : CondT → Prop}
    (h1 : ∀ a b l r, fineC a = true → fineC b = true → P a → P b → P (.mk 1 [a, b] l r))
    (h2 : ∀ a b l r, fineC a = true → fineC b = true → P a → P b → P (.mk 2 [a, b] l r))
    (h3 : ∀ a l r, fineC a = true → P a → P (.mk 3 [a] l r))
    (h4 : ∀ op l r, 4 ≤ op → op ≤ 9 → termB l = true → termB r = true → P (.mk op [] l r)) : ∀ c, fineC c = true → P c
  | .mk op args l r, h => by
    rw [fineC.eq_def] at h
    simp only [Bool.and_eq_true, Bool.or_eq_true, Bool.not_eq_true', decide_eq_true_eq, decide_eq_false_iff_not] at h
    obtain ⟨⟨hn, ht⟩, hl⟩ := h
    by_cases e1 : op = 1
    · subst e1
      match hA : args, hn, hl with
      | [a, b], _, hl =>
        simp only [fineL, Bool.and_eq_true] at hl
        exact h1 a b l r hl.1 hl.2.1 (fine_ind h1 h2 h3 h4 a hl.1) (fine_ind h1 h2 h3 h4 b hl.2.1)
      | [], hn, _ => simp [argsN] at hn
      | [_], hn, _ => simp [argsN] at hn
      | _ :: _ :: _ :: _, hn, _ => simp [argsN] at hn
    by_cases e2 : op = 2
    · subst e2
      match hA : args, hn, hl with
      | [a, b], _, hl =>
        simp only [fineL, Bool.and_eq_true] at hl
        exact h2 a b l r hl.1 hl.2.1 (fine_ind h1 h2 h3 h4 a hl.1) (fine_ind h1 h2 h3 h4 b hl.2.1)
      | [], hn, _ => simp [argsN] at hn
      | [_], hn, _ => simp [argsN] at hn
      | _ :: _ :: _ :: _, hn, _ => simp [argsN] at hn
    by_cases e3 : op = 3
    · subst e3
      match hA : args, hn, hl with
      | [a], _, hl =>
        simp only [fineL, Bool.and_eq_true] at hl
        exact h3 a l r hl.1 (fine_ind h1 h2 h3 h4 a hl.1)
      | [], hn, _ => simp [argsN] at hn
      | _ :: _ :: _, hn, _ => simp [argsN] at hn
    · have hc : cmpB op = true := by
        cases hc : cmpB op with
        | true => rfl
        | false => simp [argsN, e1, e2, e3, hc] at hn
      have hn' : 0 = args.length := by simpa [argsN, e1, e2, e3, hc] using hn
      match args, hn', ht with
      | [], _, ht =>
        simp [cmpB] at hc
        have ht' : termB l = true ∧ termB r = true := by simpa using ht
        exact h4 op l r hc.1 hc.2 ht'.1 ht'.2
termination_by c => SizeOf.sizeOf c
decreasing_by all_goals (subst hA; simp; omega)

def orP (c : CondT) : Bool := decide (c.op = 1)
def andP (c : CondT) : Bool := decide (c.op = 1) || decide (c.op = 2)
theorem condX_or (a b : CondT) (l r : TermT) : condX (.mk 1 [a, b] l r) = condX a ++ [32, 111, 114, 32] ++ parX (orP b) (condX b) := by
  rw [condX.eq_def]; simp only [if_true, listX1, orP]
theorem condX_and (a b : CondT) (l r : TermT) : condX (.mk 2 [a, b] l r) = parX (orP a) (condX a) ++ [32, 97, 110, 100, 32] ++ parX (andP b) (condX b) := by
  rw [condX.eq_def]; simp only [if_true, listX2, orP, andP]; rfl
theorem condX_not (a : CondT) (l r : TermT) : condX (.mk 3 [a] l r) = [110, 111, 116, 32] ++ parX (andP a) (condX a) := by
  rw [condX.eq_def]; simp only [if_true, andP]; rfl
theorem condX_cmp {op : Int} (h : 4 ≤ op) (args : List CondT) (l r : TermT) : condX (.mk op args l r) = termX l ++ [32] ++ sgnX op ++ [32] ++ termX r := by
  rw [condX.eq_def]; simp only
  rw [if_neg (by omega), if_neg (by omega), if_neg (by omega)]
/-! Reading back. -/
theorem bare_or (a b : CondT) (l r : TermT) : bareC (.mk 1 [a, b] l r) = .mk 1 [bareC a, bareC b] term0 term0 := by
  rw [bareC.eq_def]; simp [bareL]
theorem bare_and (a b : CondT) (l r : TermT) : bareC (.mk 2 [a, b] l r) = .mk 2 [bareC a, bareC b] term0 term0 := by
  rw [bareC.eq_def]; simp [bareL]
theorem bare_not (a : CondT) (l r : TermT) : bareC (.mk 3 [a] l r) = .mk 3 [bareC a] term0 term0 := by
  rw [bareC.eq_def]; simp [bareL]
theorem bare_cmp {op : Int} (h : 4 ≤ op) (l r : TermT) : bareC (.mk op [] l r) = .mk op [] (bareT l) (bareT r) := by
  rw [bareC.eq_def]; simp only
  rw [if_neg (by omega), if_pos (by omega)]
end Go.Proofs.YtijlifdbjhieaaaGreatDoor.Pl

/-
  Plain: queries that are printed are read back, whatever blanks stand between their tokens.
-/
namespace Go.Proofs.YtijlifdbjhieaaaGreatDoor.Pl
set_option linter.all false
open Go.Lib

/-! Its text. -/
/-- What a printed query's form asks. -/
structure FormQ (q : QueryT) : Prop where
  i0 : q.items ≠ []
  i1 : q.items.length ≤ 20
  g1 : q.group.length ≤ 20
  o1 : q.order.length ≤ 20
  it : ∀ x ∈ q.items, itemB x = true
  tb : nameB q.table = true
  gr : ∀ x ∈ q.group, nameB x = true
  od : ∀ o ∈ q.order, nameB o.col = true
  l0 : -1 ≤ q.limit
  l1 : q.limit ≤ 4611686018427387904
  wd : q.wh.op ≠ 0 → depthC q.wh ≤ 32
  wf : q.wh.op ≠ 0 → fineC q.wh = true
theorem form_ok {q : QueryT} (h : formQ q = 0) : FormQ q := by
  unfold formQ at h
  split at h
  · cases h
  rename_i h1
  split at h
  · cases h
  rename_i h2
  have ho : oddQ q = false := by
    cases e : oddQ q with
    | false => rfl
    | true => exact absurd (Or.inl e) h2
  simp only [oddQ, Bool.or_eq_false_iff, Bool.not_eq_false', List.all_eq_true] at ho
  have hw : (q.wh.op ≠ 0 → depthC q.wh ≤ 32) ∧ (q.wh.op ≠ 0 → fineC q.wh = true) := by
    split at h
    · rename_i h3; exact ⟨fun e => absurd h3 e, fun e => absurd h3 e⟩
    · split at h
      · cases h
      · rename_i h4
        split at h
        · cases h
        · rename_i h5
          exact ⟨fun _ => by omega, fun _ => by simpa using h5⟩
  exact ⟨fun e => h1 (.inl (by rw [e]; rfl)), by omega, by omega, by omega, ho.1.1.1, ho.1.1.2, ho.1.2, ho.2, by omega, by omega, hw.1, hw.2⟩
theorem ok_form {q : QueryT} (h : FormQ q) : formQ q = 0 := by
  have hn : 0 < q.items.length := List.length_pos_iff.2 h.i0
  have ho : oddQ q = false := by
    simp only [oddQ, Bool.or_eq_false_iff, Bool.not_eq_false', List.all_eq_true]
    exact ⟨⟨⟨h.it, h.tb⟩, h.gr⟩, h.od⟩
  have hi1 := h.i1; have hg1 := h.g1; have ho1 := h.o1; have hl0 := h.l0; have hl1 := h.l1
  unfold formQ
  rw [if_neg (by omega), if_neg (by rw [ho]; simp; omega)]
  by_cases hw : q.wh.op = 0
  · rw [if_pos hw]
  · have hd := h.wd hw
    rw [if_neg hw, if_neg (by omega), if_neg (by rw [h.wf hw]; simp)]
/-! Its reading. -/
/-! Blanks. -/
end Go.Proofs.YtijlifdbjhieaaaGreatDoor.Pl

/-
  Plain: what is read has the form that is printed, and is short.
-/
namespace Go.Proofs.YtijlifdbjhieaaaGreatDoor.Pl
set_option linter.all false
open Go.Lib

def GT (ts : List Tok) : Prop := ∀ t ∈ ts, GoodT t.k0 ∨ t.k = 33 ∨ t.k = 101
theorem GT.tail {t : Tok} {r : List Tok} (h : GT (t :: r)) : GT r := fun x hx => h x (by simp [hx])
theorem GT.head {t : Tok} {r : List Tok} (h : GT (t :: r)) (h1 : t.k ≠ 33) (h2 : t.k ≠ 101) : GoodT t.k0 := by
  rcases h t (by simp) with e | e | e
  · exact e
  · exact absurd e h1
  · exact absurd e h2
theorem par_le (q : Bool) (s : List UInt8) : s.length ≤ (parX q s).length ∧ (parX q s).length ≤ s.length + 2 := by
  cases q with
  | true => simp only [parX, if_true, List.length_append, List.length_cons, List.length_nil]; omega
  | false => simp only [parX, Bool.false_eq_true, if_false]; omega
theorem format_0 {q : QueryT} (h : FormQ q) (hx : (queryX q).length ≤ 65536) : formatE q = 0 ∧ formatX q = queryX q := by
  have e : formatE q = 0 := by
    unfold formatE
    rw [ok_form h, if_neg (by decide), if_neg (by omega)]
  exact ⟨e, by unfold formatX; rw [if_pos e]⟩
theorem name_len {s : List UInt8} (h : nameB s = true) : s.length ≤ 1000000000 := by
  simp only [nameB, Bool.and_eq_true, decide_eq_true_eq] at h
  have := h.1.1.1.2
  omega
theorem item_len {x : ItemT} (h : itemB x = true) : x.agg.length ≤ 1000000000 ∧ x.col.length ≤ 1000000000 := by
  unfold itemB at h
  split at h
  · rename_i hc
    simp only [decide_eq_true_eq] at h
    rw [hc, h]; decide
  · split at h
    · rename_i hh
      refine ⟨?_, name_len h⟩
      rcases hh with e | e | e | e <;> rw [e] <;> decide
    · cases h
end Go.Proofs.YtijlifdbjhieaaaGreatDoor.Pl
