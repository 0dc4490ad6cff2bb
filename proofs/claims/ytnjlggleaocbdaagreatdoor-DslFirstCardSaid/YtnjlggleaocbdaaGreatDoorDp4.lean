/-
  Plain: expressions and theories that are printed are read back; parentheses, blanks and comments change nothing.
-/
import Derived.Test.YtnjlggleaocbdaaGreatDoorDp3
namespace Go.Proofs.YtnjlggleaocbdaaGreatDoor.Pl
set_option linter.all false
open Go.Lib

theorem lexL_lx {ts : List Tk0} {x : List UInt8} (h : Lx ts x) : (lexL x).map Tok.k0 = ts := h _ _ (Nat.le_refl _)
theorem lexF_len : ∀ (f p : Nat) (l : List UInt8), l.length + 1 ≤ f → (lexF f p l).length ≤ l.length + 1 := by
  have hs : ∀ (l : List UInt8) (b : Bool) (p q : Nat) (r : List UInt8), skipF b p l = (q, r) → r.length ≤ l.length := by
    intro l
    induction l with
    | nil => intro b p q r h; cases b <;> simp [skipF] at h <;> simp [← h.2]
    | cons c l ih =>
      intro b p q r h
      cases b with
      | true =>
        simp only [skipF] at h
        split at h
        · have := ih _ _ _ _ h; simp; omega
        · have := ih _ _ _ _ h; simp; omega
      | false =>
        simp only [skipF] at h
        split at h
        · have := ih _ _ _ _ h; simp; omega
        split at h
        · have := ih _ _ _ _ h; simp; omega
        split at h
        · have := ih _ _ _ _ h; simp; omega
        · injection h with _ h; rw [← h]; exact Nat.le_refl _
  have hn : ∀ (c : UInt8) (r : List UInt8), 1 ≤ (nextF c r).2 := by
    intro c r
    unfold nextF
    split
    · simp
    split
    · unfold quotedF
      split
      · rename_i a n h
        have hq : ∀ (n : Nat) (r : List UInt8) (i : Nat) (acc a : List UInt8) (m : Nat), r.length ≤ n → quoF r i acc = some (a, m) → i + 1 ≤ m := by
          intro n
          induction n with
          | zero =>
            intro r i acc a m hr h
            cases r with
            | nil => simp [quoF] at h
            | cons c r => simp at hr
          | succ n ih =>
            intro r i acc a m hr h
            cases r with
            | nil => simp [quoF] at h
            | cons c r =>
              simp only [List.length_cons] at hr
              rw [quoF.eq_def] at h
              simp only at h
              split at h
              · injection h with h; injection h with _ h; omega
              split at h
              · cases h
              split at h
              · cases r with
                | nil => simp at h
                | cons d r =>
                  simp only [List.length_cons] at hr
                  simp only at h
                  split at h
                  · have := ih _ _ _ _ _ (by omega) h; omega
                  · cases h
              · have := ih _ _ _ _ _ (by omega) h; omega
        have := hq _ r 1 [] a n (Nat.le_refl _) h
        simp only; omega
      · simp
    split
    · simp
    split <;> simp
  intro f
  induction f with
  | zero => intro p l h; omega
  | succ f ih =>
    intro p l h
    simp only [lexF]
    generalize hsk : skipF false p l = qr
    obtain ⟨q, r⟩ := qr
    have h1 := hs _ _ _ _ _ hsk
    cases r with
    | nil => simp
    | cons c r =>
      simp only [List.length_cons] at h1
      simp only
      split
      · simp
      · have h2 := hn c r
        have h3 : ((c :: r).drop (nextF c r).2).length ≤ l.length - 1 := by rw [List.length_drop, List.length_cons]; omega
        have := ih q ((c :: r).drop (nextF c r).2) (by omega)
        simp only [List.length_cons]; omega
theorem lexL_len (l : List UInt8) : (lexL l).length ≤ l.length + 1 := lexF_len _ _ _ (Nat.le_refl _)
theorem stops_over : Stops 1 [over0] := fun op h _ => by
  unfold over0 noT
  simp
/-- An expression that is shown at the greatest level is read whole. -/
theorem exprD_back {e : ExprT} {T R : List Tk0} (hd : depthE e ≤ 32) (h : Sh 1 e T R) (hs : Stops 1 R) {ts : List Tok} (hts : ts.map Tok.k0 = T) {f : Nat} (hf : 6 * ts.length + 6 ≤ f) : ∃ r, exprD f ts = .ok e r ∧ r.map Tok.k0 = R := by
  obtain ⟨r, e1, m⟩ := (reads h).1 hs ts hts f (by simp [lvF]; omega)
  refine ⟨r, ?_, m⟩
  simp only [lvF, Nat.reduceLeDiff, Nat.reduceSub, if_true] at e1
  simp only [exprD, e1, PR.bind]
  rw [if_neg (by omega)]
theorem sh1 {e : ExprT} (h : fineE e = true) (k : List Tk0) : Sh 1 e (exprT e k) k := by
  obtain ⟨b1, b2⟩ := bind_le e.op
  exact Sh.le (bindN e.op - 1) 1 _ (by omega) (by omega) b2 (sh_expr e h k)
theorem parseE_sh {e : ExprT} {T : List Tk0} {x : List UInt8} (hd : depthE e ≤ 32) (hx : x.length ≤ 65536) (h : Sh 1 e T [over0]) (hl : Lx T x) : ∃ r, parseE x = .ok e r := by
  have hts := lexL_lx hl
  have hn := lexL_len x
  obtain ⟨r, e1, m⟩ := exprD_back hd h stops_over hts (f := fuelL x) (by unfold fuelL; omega)
  obtain ⟨u, r, rfl, h1, -, -, h4⟩ := k0_cons m
  refine ⟨u :: r, ?_⟩
  unfold parseE
  rw [if_neg (by omega), e1]
  simp only [PR.bind, overF]
  rw [if_pos (show u.k = 101 from h1)]
theorem expr_ok {e : ExprT} (h : exprErr e = 0) : depthE e ≤ 32 ∧ fineE e = true ∧ (layX e).length ≤ 65536 := by
  unfold exprErr at h
  split at h
  · cases h
  split at h
  · cases h
  split at h
  · cases h
  · rename_i h1 h2 h3
    exact ⟨by omega, by simpa using h2, by omega⟩
/-- What is printed is read back. -/
theorem back_expr {e : ExprT} (h : exprErr e = 0) : ∃ r, parseE (layX e) = .ok e r := by
  obtain ⟨h1, h2, h3⟩ := expr_ok h
  have hl := lx_expr e h2 [over0] [] lx_nil rfl
  rw [List.append_nil] at hl
  exact parseE_sh h1 h3 (sh1 h2 _) hl

/-! Parentheses round everything. -/
def gapX : List UInt8 := [9, 35, 32, 97, 32, 99, 111, 109, 109, 101, 110, 116, 32, 40, 10, 32]
theorem gap_gap : Gap gapX := fun p x => ⟨p + 1, by simp [skipF, blankB, gapX]⟩
mutual
def wideX : ExprT → List UInt8
  | .mk op n s args =>
    if op = 8 then [40] ++ wNot ++ gapX ++ wide1 args ++ [41]
    else if op = 20 then [40, 45] ++ gapX ++ wide1 args ++ [41]
    else if 6 ≤ op ∧ op ≤ 19 then [40] ++ wide1 args ++ gapX ++ signX op ++ gapX ++ wide2 args ++ [41]
    else [40] ++ layX (.mk op n s args) ++ [41]
def wide1 : List ExprT → List UInt8
  | [] => []
  | a :: _ => wideX a
def wide2 : List ExprT → List UInt8
  | [] => []
  | _ :: l => wide1 l
end
theorem wideX_bin {op : Int} (h : binB op = true) (a b : ExprT) : wideX (.mk op 0 [] [a, b]) = [40] ++ wideX a ++ gapX ++ signX op ++ gapX ++ wideX b ++ [41] := by
  simp only [binB, Bool.and_eq_true, decide_eq_true_eq, Bool.not_eq_true', decide_eq_false_iff_not] at h
  rw [wideX.eq_def]
  simp only
  rw [if_neg (by omega), if_neg (by omega), if_pos (by omega)]
  simp only [wide1, wide2]
theorem wideX_not (a : ExprT) : wideX (.mk 8 0 [] [a]) = [40] ++ wNot ++ gapX ++ wideX a ++ [41] := by
  rw [wideX.eq_def]; simp [wide1]
theorem wideX_neg (a : ExprT) : wideX (.mk 20 0 [] [a]) = [40, 45] ++ gapX ++ wideX a ++ [41] := by
  rw [wideX.eq_def]; simp [wide1]
theorem wideX_leaf {op : Int} (h : op < 6) (n : Int) (s : List UInt8) (l : List ExprT) : wideX (.mk op n s l) = [40] ++ layX (.mk op n s l) ++ [41] := by
  rw [wideX.eq_def]
  simp only
  rw [if_neg (by omega), if_neg (by omega), if_neg (by omega)]
theorem sh_up {a : ExprT} {T R : List Tk0} {m : Nat} (h1 : 1 ≤ m) (h7 : m ≤ 7) (h : Sh 7 a T R) : Sh m a T R := Sh.le (7 - m) m 7 (by omega) h1 (by omega) h
theorem lx_signG {op : Int} (h : binB op = true) {k : List Tk0} {x : List UInt8} (hx : Lx k x) : Lx (signTok op :: k) (signX op ++ (gapX ++ x)) := by
  have h0 : Lx k (gapX ++ x) := lx_gap gap_gap hx
  refine bin_cases (P := fun op => Lx (signTok op :: k) (signX op ++ (gapX ++ x))) ?_ op h
  refine ⟨?_, ?_, ?_, ?_, ?_, ?_, ?_, ?_, ?_, ?_, ?_, ?_, ?_⟩
  · exact lx_word (s := wOr) (.inr (by decide)) h0 (by simp [headB, withB, smallB, digitB, gapX])
  · exact lx_word (s := wAnd) (.inr (by decide)) h0 (by simp [headB, withB, smallB, digitB, gapX])
  all_goals exact lx_mark (by simp [marksL, signX, signT]) h0 (by simp [isEq, headB, gapX])
theorem wide_tok : ∀ e, fineE e = true → ∀ k x, Lx k x → ∃ T, Lx T (wideX e ++ x) ∧ Sh 7 e T k := by
  have leaf : ∀ op n s l, op < 6 → fineE (.mk op n s l) = true → ∀ k x, Lx k x → ∃ T, Lx T (wideX (.mk op n s l) ++ x) ∧ Sh 7 (.mk op n s l) T k := by
    intro op n s l h hf k x hx
    rw [wideX_leaf h]
    have h1 := lx_mark' (s := [41]) (by simp [marksL]) (by simp) (by simp) hx
    have h2 := lx_expr _ hf _ _ h1 (by simp [headB, withB, smallB, digitB])
    have h3 := lx_mark' (s := [40]) (by simp [marksL]) (by simp) (by simp) h2
    exact ⟨_, by simpa using h3, Sh.par (sh1 hf _)⟩
  refine fine_ind ?_ ?_ ?_ ?_ ?_ ?_ ?_ ?_
  · intro n h0 h1 k x hx; exact leaf 1 n [] [] (by decide) (by simp [fineE, fine1, argsN, fineL, h0, h1]) k x hx
  · intro s hs k x hx; exact leaf 2 0 s [] (by decide) (by simp [fineE, fine1, argsN, fineL, hs]) k x hx
  · intro n hn k x hx; exact leaf 3 n [] [] (by decide) (by simp [fineE, fine1, argsN, fineL, hn]) k x hx
  · intro s hs k x hx; exact leaf 4 0 s [] (by decide) (by simp [fineE, fine1, argsN, fineL, hs]) k x hx
  · intro s hs k x hx; exact leaf 5 0 s [] (by decide) (by simp [fineE, fine1, argsN, fineL, hs]) k x hx
  · intro a _ ha k x hx
    have h1 := lx_mark' (s := [41]) (by simp [marksL]) (by simp) (by simp) hx
    obtain ⟨T, h2, s2⟩ := ha _ _ h1
    have h3 := lx_word (s := wNot) (.inr (by decide)) (lx_gap gap_gap h2) (by simp [headB, withB, smallB, digitB, gapX])
    have h4 := lx_mark' (s := [40]) (by simp [marksL]) (by simp) (by simp) h3
    refine ⟨_, ?_, Sh.par (Sh.le 2 1 3 rfl (by omega) (by omega) (Sh.not (sh_up (by omega) (by omega) s2)))⟩
    rw [wideX_not]; simpa using h4
  · intro a _ ha k x hx
    have h1 := lx_mark' (s := [41]) (by simp [marksL]) (by simp) (by simp) hx
    obtain ⟨T, h2, s2⟩ := ha _ _ h1
    have h3 := lx_mark' (s := [45]) (by simp [marksL]) (by simp) (by simp) (lx_gap gap_gap h2)
    have h4 := lx_mark' (s := [40]) (by simp [marksL]) (by simp) (by simp) h3
    refine ⟨_, ?_, Sh.par (sh_up (by omega) (by omega) (Sh.neg s2))⟩
    rw [wideX_neg]; simpa using h4
  · intro op a b ho _ _ ha hb k x hx
    obtain ⟨l1, l2, l3⟩ := left_le op ho
    obtain ⟨b1, b2⟩ := bind_le op
    have h1 := lx_mark' (s := [41]) (by simp [marksL]) (by simp) (by simp) hx
    obtain ⟨T, h2, s2⟩ := hb _ _ h1
    have h3 := lx_gap gap_gap (lx_signG ho h2)
    obtain ⟨T', h4, s4⟩ := ha _ _ h3
    have h5 := lx_mark' (s := [40]) (by simp [marksL]) (by simp) (by simp) h4
    refine ⟨_, ?_, Sh.par (Sh.le (bindN op - 1) 1 _ (by omega) (by omega) b2 (Sh.bin ho (sh_up l1 l2 s4) (sh_up (by omega) l3 s2)))⟩
    rw [wideX_bin ho]; simpa using h5
theorem wide_parse {e : ExprT} (h : exprErr e = 0) (hw : (wideX e).length ≤ 65536) : ∃ r, parseE (wideX e) = .ok e r := by
  obtain ⟨h1, h2, -⟩ := expr_ok h
  obtain ⟨T, hl, hs⟩ := wide_tok e h2 [over0] [] lx_nil
  rw [List.append_nil] at hl
  exact parseE_sh h1 hw (sh_up (by omega) (by omega) hs) hl

/-! Theories. -/
def declT (d : DeclT) (k : List Tk0) : List Tk0 := tW (if d.out = true then wOutput else wInput) :: tW d.name :: tM [58] :: tW (typesL.getD d.ty.toNat []) :: tM [59] :: k
def condT (e : ExprT) (k : List Tk0) : List Tk0 := if emptyB e = true then k else tW wIf :: exprT e k
def ruleT (r : RuleT) (k : List Tk0) : List Tk0 := tW wRule :: tW r.name :: tN r.rank :: tM [58] :: condT r.cond (tW wThen :: tW r.target :: tM [61] :: exprT r.thn (tM [59] :: k))
theorem lx_sp {s : List UInt8} {t : Tk0} {k : List Tk0} {x : List UInt8} (h : ∀ x, Lx k x → headB withB x = false → isEq x = false → Lx (t :: k) (s ++ x)) (hx : Lx k x) : Lx (t :: k) (s ++ (32 :: x)) :=
  h _ (lx_gap gap_32 hx) (by simp [headB, withB, smallB, digitB]) (by simp [isEq, headB])
theorem sp_word {s : List UInt8} (h : nameB s = true ∨ wordsL.contains s = true) {k : List Tk0} {x : List UInt8} (hx : Lx k x) : Lx (tW s :: k) (s ++ (32 :: x)) := lx_sp (fun _ h1 h2 _ => lx_word h h1 h2) hx
theorem sp_mark {s : List UInt8} (h : s ∈ marksL) {k : List Tk0} {x : List UInt8} (hx : Lx k x) : Lx (tM s :: k) (s ++ (32 :: x)) := lx_sp (fun _ h1 _ h3 => lx_mark h h1 h3) hx
theorem sp_num {n : Int} (h0 : 0 ≤ n) (h1 : n ≤ 4611686018427387904) {k : List Tk0} {x : List UInt8} (hx : Lx k x) : Lx (tN n :: k) (itoa n ++ (32 :: x)) := lx_sp (fun x h2 h3 _ => by
  have := lx_tok (GoodT.n n h0 h1) (by simp [FoB, h3]) h2
  simpa [tokX, tN] using this) hx
theorem sp_expr {e : ExprT} (h : fineE e = true) {k : List Tk0} {x : List UInt8} (hx : Lx k x) : Lx (exprT e k) (layX e ++ (32 :: x)) := lx_expr e h _ _ (lx_gap gap_32 hx) (by simp [headB, withB, smallB, digitB])
theorem lx_end {k : List Tk0} {x : List UInt8} (hx : Lx k x) : Lx (tM [59] :: k) (59 :: 10 :: x) := lx_mark' (s := [59]) (by simp [marksL]) (by simp) (by simp) (lx_gap gap_10 hx)
theorem types_word {t : Int} (h1 : 1 ≤ t) (h3 : t ≤ 3) : wordsL.contains (typesL.getD t.toNat []) = true := by
  have : t = 1 ∨ t = 2 ∨ t = 3 := by omega
  rcases this with rfl | rfl | rfl <;> decide
theorem lx_decl {d : DeclT} (h : declB d = true) {k : List Tk0} {x : List UInt8} (hx : Lx k x) : Lx (declT d k) (declX d ++ x) := by
  simp only [declB, Bool.and_eq_true, decide_eq_true_eq] at h
  have h1 := sp_word (.inr (types_word h.1.2 h.2)) (lx_end hx)
  have h2 := sp_word (.inl h.1.1) (sp_mark (s := [58]) (by simp [marksL]) h1)
  have h3 := sp_word (s := if d.out = true then wOutput else wInput) (.inr (by split <;> decide)) h2
  unfold declT declX
  simpa using h3
theorem lx_cond {e : ExprT} (h : emptyB e = false → fineE e = true) {k : List Tk0} {x : List UInt8} (hx : Lx k x) : Lx (condT e k) (condX e ++ x) := by
  unfold condT condX
  cases he : emptyB e with
  | true => simpa using hx
  | false =>
    simp only [Bool.false_eq_true, if_false]
    have := sp_word (s := wIf) (.inr (by decide)) (sp_expr (h he) hx)
    simpa using this
/-- What a rule's form asks. -/
structure FormR (r : RuleT) : Prop where
  nm : nameB r.name = true
  tg : nameB r.target = true
  r0 : 0 ≤ r.rank
  r1 : r.rank ≤ 4611686018427387904
  c : emptyB r.cond = false → exprErr r.cond = 0
  t : exprErr r.thn = 0
theorem rule_ok {r : RuleT} (h : ruleErr r = 0) : FormR r := by
  unfold ruleErr at h
  split at h
  · cases h
  rename_i h1
  simp only [Bool.not_eq_false, Bool.and_eq_true, decide_eq_true_eq] at h1
  split at h
  · rename_i h2; exact absurd h h2.2
  rename_i h2
  exact ⟨h1.1.1.1, h1.1.1.2, h1.1.2, h1.2, fun he => Classical.byContradiction fun hc => h2 ⟨he, hc⟩, h⟩
theorem lx_rule {r : RuleT} (h : FormR r) {k : List Tk0} {x : List UInt8} (hx : Lx k x) : Lx (ruleT r k) (ruleX r ++ x) := by
  have h1 := sp_mark (s := [61]) (by simp [marksL]) (sp_expr (expr_ok h.t).2.1 (lx_end hx))
  have h2 := sp_word (s := wThen) (.inr (by decide)) (sp_word (.inl h.tg) h1)
  have h3 := lx_cond (e := r.cond) (fun he => (expr_ok (h.c he)).2.1) h2
  have h4 := sp_word (s := wRule) (.inr (by decide)) (sp_word (.inl h.nm) (sp_num h.r0 h.r1 (sp_mark (s := [58]) (by simp [marksL]) h3)))
  unfold ruleT ruleX
  simpa using h4
theorem lx_list {α : Type} {S : α → List Tk0 → List Tk0} {X : α → List UInt8} : ∀ (l : List α), (∀ a ∈ l, ∀ k x, Lx k x → Lx (S a k) (X a ++ x)) → ∀ k x, Lx k x → Lx (l.foldr S k) ((l.map X).flatten ++ x)
  | [], _, k, x, hx => by simpa using hx
  | a :: l, h, k, x, hx => by
    have := h a (by simp) _ _ (lx_list l (fun b hb => h b (by simp [hb])) k x hx)
    simpa using this
def theoryT (T : TheoryT) : List Tk0 := T.decls.foldr declT (T.rules.foldr ruleT [over0])
structure FormTh (T : TheoryT) : Prop where
  n : T.decls.length + T.rules.length ≤ 100
  d : ∀ d ∈ T.decls, declB d = true
  r : ∀ r ∈ T.rules, FormR r
  l : (theoryX T).length ≤ 65536
theorem rules_ok : ∀ {l : List RuleT}, rulesErr l = 0 → ∀ r ∈ l, ruleErr r = 0
  | [], _, r, hr => by cases hr
  | a :: l, h, r, hr => by
    rw [rulesErr] at h
    split at h
    · rename_i h1; exact absurd h h1
    · rename_i h1
      rcases List.mem_cons.1 hr with rfl | hr
      · simpa using h1
      · exact rules_ok h r hr
theorem theory_ok {T : TheoryT} (h : theoryErr T = 0) : FormTh T := by
  unfold theoryErr at h
  split at h
  · cases h
  split at h
  · cases h
  rename_i h1 h2
  split at h
  · rename_i h3; exact absurd h h3
  rename_i h3
  split at h
  · cases h
  rename_i h4
  exact ⟨by omega, fun d hd => List.all_eq_true.1 (by simpa using h2) d hd, fun r hr => rule_ok (rules_ok (by simpa using h3) r hr), by omega⟩
theorem lx_theory {T : TheoryT} (h : FormTh T) : Lx (theoryT T) (theoryX T) := by
  have h1 := lx_list T.rules (S := ruleT) (X := ruleX) (fun r hr k x hx => lx_rule (h.r r hr) hx) _ _ lx_nil
  have h2 := lx_list T.decls (S := declT) (X := declX) (fun d hd k x hx => lx_decl (h.d d hd) hx) _ _ h1
  unfold theoryT theoryX
  simpa using h2
theorem stops_word {s : List UInt8} (hs : wordsL.contains s = true) (h1 : s ≠ wOr) (h2 : s ≠ wAnd) (R : List Tk0) : Stops 1 (tW s :: R) := fun op h _ => by
  have hsm : ∀ c r, smallB c = false → (s == c :: r) = false := fun c r hc => by
    cases e : s == c :: r with
    | false => rfl
    | true =>
      rw [beq_iff_eq] at e
      subst e
      have := (words_with _ (by simpa using hs)).1
      simp only [headB, hc] at this; cases this
  refine bin_cases (P := fun op => noT (signX op) (tW s :: R) = true) ?_ op h
  refine ⟨?_, ?_, ?_, ?_, ?_, ?_, ?_, ?_, ?_, ?_, ?_, ?_, ?_⟩
  · simp [noT, tW, signX, signT, h1]
  · simp [noT, tW, signX, signT, h2]
  all_goals simp [noT, tW, signX, signT, hsm, smallB]
theorem stops_semi (R : List Tk0) : Stops 1 (tM [59] :: R) := fun op h _ =>
  bin_cases (P := fun op => noT (signX op) (tM [59] :: R) = true) (by refine ⟨?_, ?_, ?_, ?_, ?_, ?_, ?_, ?_, ?_, ?_, ?_, ?_, ?_⟩ <;> rfl) op h
theorem one_type {t : Int} (h1 : 1 ≤ t) (h3 : t ≤ 3) {R : List Tk0} {ts : List Tok} (hts : ts.map Tok.k0 = tW (typesL.getD t.toNat []) :: R) : ∃ i r, oneF typesL 0 ts = some (i, r) ∧ (i : Int) = t ∧ r.map Tok.k0 = R := by
  obtain ⟨u, r, rfl, h4, h5, -, hr⟩ := k0_cons hts
  have hm : ∀ s, mayF s (u :: r) = if (typesL.getD t.toNat [] == s) = true then some r else none := by
    intro s
    simp only [mayF, isT, h4, h5, tW]
    cases typesL.getD t.toNat [] == s <;> simp
  have : t = 1 ∨ t = 2 ∨ t = 3 := by omega
  rcases this with rfl | rfl | rfl
  · exact ⟨1, r, by simp [typesL] at hm ⊢; simp [oneF, hm], rfl, hr⟩
  · exact ⟨2, r, by simp [typesL] at hm ⊢; simp [oneF, hm], rfl, hr⟩
  · exact ⟨3, r, by simp [typesL] at hm ⊢; simp [oneF, hm], rfl, hr⟩
theorem decl_back {d : DeclT} (h : declB d = true) {R : List Tk0} {ts : List Tok} (hts : ts.map Tok.k0 = tW d.name :: tM [58] :: tW (typesL.getD d.ty.toNat []) :: tM [59] :: R) : ∃ r, declF d.out ts = .ok d r ∧ r.map Tok.k0 = R := by
  simp only [declB, Bool.and_eq_true, decide_eq_true_eq] at h
  obtain ⟨r1, e1, m1⟩ := name_back h.1.1 hts
  obtain ⟨r2, e2, m2⟩ := must_yes (s := [58]) m1 rfl (.inr rfl)
  obtain ⟨i, r3, e3, ei, m3⟩ := one_type h.1.2 h.2 m2
  obtain ⟨r4, e4, m4⟩ := must_yes (s := [59]) m3 rfl (.inr rfl)
  refine ⟨r4, ?_, m4⟩
  simp only [declF, e1, e2, e3, e4, PR.bind, ei]
theorem empty_eq {e : ExprT} (h : emptyB e = true) : e = expr0 := by
  obtain ⟨op, n, s, args⟩ := e
  have h' : (decide (op = 0) && decide (n = 0) && decide (s = []) && decide (args.length = 0)) = true := h
  simp only [Bool.and_eq_true, decide_eq_true_eq] at h'
  obtain ⟨⟨⟨rfl, rfl⟩, rfl⟩, h4⟩ := h'
  cases args with
  | nil => rfl
  | cons a l => simp at h4
theorem rule_back {x : RuleT} (h : FormR x) {R : List Tk0} {ts : List Tok} {f : Nat} (hf : 6 * ts.length + 6 ≤ f) (hts : ts.map Tok.k0 = tW x.name :: tN x.rank :: tM [58] :: condT x.cond (tW wThen :: tW x.target :: tM [61] :: exprT x.thn (tM [59] :: R))) : ∃ r, ruleF f ts = .ok x r ∧ r.map Tok.k0 = R := by
  obtain ⟨r1, e1, m1⟩ := name_back h.nm hts
  have l1 := k0_len hts
  have l2 := k0_len m1
  simp only [List.length_cons] at l1 l2
  obtain ⟨u, r2, rfl, u1, -, u3, m2⟩ := k0_cons m1
  obtain ⟨r3, e3, m3⟩ := must_yes (s := [58]) m2 rfl (.inr rfl)
  have l3 := k0_len m3
  have key : ∃ r4, ifF f r3 = .ok x.cond r4 ∧ r4.map Tok.k0 = tW wThen :: tW x.target :: tM [61] :: exprT x.thn (tM [59] :: R) ∧ r4.length ≤ r3.length := by
    unfold condT at m3
    cases he : emptyB x.cond with
    | true =>
      rw [he] at m3
      simp only [if_true] at m3
      have e4 : mayF wIf r3 = none := may_no (by rw [m3]; rfl)
      exact ⟨r3, by simp only [ifF, e4]; rw [empty_eq he], m3, Nat.le_refl _⟩
    | false =>
      rw [he] at m3
      simp only [Bool.false_eq_true, if_false] at m3
      obtain ⟨r4, e4, m4⟩ := may_yes (s := wIf) m3 rfl (.inl rfl)
      obtain ⟨k1, k2, -⟩ := expr_ok (h.c he)
      have l4 := k0_len m4
      have l5 := k0_len m3
      simp only [List.length_cons] at l5
      have l6 : r3.length ≤ ts.length := by
        have : (condT x.cond (tW wThen :: tW x.target :: tM [61] :: exprT x.thn (tM [59] :: R))).length = r3.length := by rw [← l3]
        omega
      obtain ⟨r5, e5, m5⟩ := exprD_back k1 (sh1 k2 (tW wThen :: tW x.target :: tM [61] :: exprT x.thn (tM [59] :: R))) (stops_word (s := wThen) (by decide) (by decide) (by decide) _) m4 (f := f) (by omega)
      refine ⟨r5, by simp only [ifF, e4, e5], m5, ?_⟩
      have l7 := k0_len m5
      have l8 := sh_len (sh1 k2 (tW wThen :: tW x.target :: tM [61] :: exprT x.thn (tM [59] :: R)))
      omega
  obtain ⟨r4, e4, m4, l4⟩ := key
  obtain ⟨r5, e5, m5⟩ := must_yes (s := wThen) m4 rfl (.inl rfl)
  obtain ⟨r6, e6, m6⟩ := name_back h.tg m5
  obtain ⟨r7, e7, m7⟩ := must_yes (s := [61]) m6 rfl (.inr rfl)
  obtain ⟨k1, k2, -⟩ := expr_ok h.t
  have l5 := k0_len m4
  have l7 := k0_len m7
  simp only [List.length_cons] at l5
  obtain ⟨r8, e8, m8⟩ := exprD_back k1 (sh1 k2 (tM [59] :: R)) (stops_semi R) m7 (f := f) (by omega)
  obtain ⟨r9, e9, m9⟩ := must_yes (s := [59]) m8 rfl (.inr rfl)
  refine ⟨r9, ?_, m9⟩
  have u1' : u.k = 110 := u1
  have u3' : u.n = x.rank := u3
  simp only [ruleF, e1, PR.bind]
  rw [if_pos u1']
  simp only [e3, PR.bind, e4, e5, e6, e7, e8, e9, u3']
theorem items_decls (f : Nat) : ∀ (D : List DeclT), (∀ d ∈ D, declB d = true) → ∀ (g n : Nat) (T : TheoryT) (ts : List Tok) (R : List Tk0), ts.map Tok.k0 = D.foldr declT R → n + D.length ≤ 100 → ∃ r, itemsF f (g + D.length) n T ts = itemsF f g (n + D.length) ⟨T.decls ++ D, T.rules⟩ r ∧ r.map Tok.k0 = R
  | [], _, g, n, T, ts, R, hts, _ => ⟨ts, by simp, hts⟩
  | d :: D, h, g, n, T, ts, R, hts, hn => by
    obtain ⟨u, r, rfl, h1, h2, -, h4⟩ := k0_cons hts
    have h1' : u.k = 119 := h1
    have h2' : u.s = if d.out = true then wOutput else wInput := h2
    obtain ⟨r1, e1, m1⟩ := decl_back (h d (by simp)) h4
    simp only [List.length_cons] at hn
    obtain ⟨r2, e2, m2⟩ := items_decls f D (fun d hd => h d (by simp [hd])) g (n + 1) ⟨T.decls ++ [d], T.rules⟩ r1 R m1 (by omega)
    refine ⟨r2, ?_, m2⟩
    rw [List.length_cons, show g + (D.length + 1) = (g + D.length) + 1 by omega, itemsF]
    rw [if_neg (by rw [h1']; decide), if_neg (by rw [h1', h2']; cases d.out <;> simp), if_neg (by omega)]
    rw [if_neg (by rw [h2']; cases d.out <;> decide), show decide (u.s = wOutput) = d.out by rw [h2']; cases d.out <;> decide, e1]
    simp only [PR.bind]
    rw [e2]
    simp only [List.append_assoc, List.cons_append, List.nil_append]
    congr 1; omega
theorem items_rules (f : Nat) : ∀ (D : List RuleT), (∀ d ∈ D, FormR d) → ∀ (g n : Nat) (T : TheoryT) (ts : List Tok) (R : List Tk0), 6 * ts.length + 6 ≤ f → ts.map Tok.k0 = D.foldr ruleT R → n + D.length ≤ 100 → ∃ r, itemsF f (g + D.length) n T ts = itemsF f g (n + D.length) ⟨T.decls, T.rules ++ D⟩ r ∧ r.map Tok.k0 = R
  | [], _, g, n, T, ts, R, _, hts, _ => ⟨ts, by simp, hts⟩
  | d :: D, h, g, n, T, ts, R, hf, hts, hn => by
    obtain ⟨u, r, rfl, h1, h2, -, h4⟩ := k0_cons hts
    have h1' : u.k = 119 := h1
    have h2' : u.s = wRule := h2
    simp only [List.length_cons] at hf
    obtain ⟨r1, e1, m1⟩ := rule_back (h d (by simp)) (f := f) (by omega) h4
    have l1 := k0_len h4
    have l2 := k0_len m1
    have l3 : r1.length ≤ r.length := by
      have k2 := (expr_ok (h d (by simp)).t).2.1
      have a1 := sh_len (sh1 k2 (tM [59] :: D.foldr ruleT R))
      have a2 : ∀ k : List Tk0, k.length ≤ (condT d.cond k).length := by
        intro k
        unfold condT
        cases he : emptyB d.cond with
        | true => simp
        | false =>
          have := sh_len (sh1 (expr_ok ((h d (by simp)).c he)).2.1 k)
          simp; omega
      have a3 := a2 (tW wThen :: tW d.target :: tM [61] :: exprT d.thn (tM [59] :: D.foldr ruleT R))
      simp only [List.length_cons] at a1 a3 l1
      omega
    simp only [List.length_cons] at hn
    obtain ⟨r2, e2, m2⟩ := items_rules f D (fun d hd => h d (by simp [hd])) g (n + 1) ⟨T.decls, T.rules ++ [d]⟩ r1 R (by omega) m1 (by omega)
    refine ⟨r2, ?_, m2⟩
    rw [List.length_cons, show g + (D.length + 1) = (g + D.length) + 1 by omega, itemsF]
    rw [if_neg (by rw [h1']; decide), if_neg (by rw [h1', h2']; simp), if_neg (by omega)]
    rw [if_pos h2', e1]
    simp only [PR.bind]
    rw [e2]
    simp only [List.append_assoc, List.cons_append, List.nil_append]
    congr 1; omega
/-- A theory that is printed is read back. -/
theorem back_theory {T : TheoryT} (h : theoryErr T = 0) : ∃ r, parseF (theoryX T) = .ok T r := by
  have F := theory_ok h
  have hts := lexL_lx (lx_theory F)
  have hn := lexL_len (theoryX T)
  have hT := F.n
  unfold theoryT at hts
  obtain ⟨g, hg⟩ : ∃ g, 101 = (g + T.rules.length) + T.decls.length := ⟨101 - T.rules.length - T.decls.length, by omega⟩
  obtain ⟨r1, e1, m1⟩ := items_decls (fuelL (theoryX T)) T.decls F.d (g + T.rules.length) 0 theory0 _ _ hts (by omega)
  have l1 : r1.length ≤ (lexL (theoryX T)).length := by
    rw [k0_len m1, k0_len hts]
    generalize T.rules.foldr ruleT [over0] = K
    induction T.decls with
    | nil => exact Nat.le_refl _
    | cons d D ih => simp only [List.foldr_cons, declT, List.length_cons]; omega
  obtain ⟨r2, e2, m2⟩ := items_rules (fuelL (theoryX T)) T.rules F.r g (0 + T.decls.length) ⟨theory0.decls ++ T.decls, theory0.rules⟩ r1 [over0] (by unfold fuelL; omega) m1 (by omega)
  obtain ⟨u, r, rfl, h1, -, -, h4⟩ := k0_cons m2
  have h1' : u.k = 101 := h1
  refine ⟨u :: r, ?_⟩
  unfold parseF
  rw [if_neg (by have := F.l; omega), hg, e1, e2]
  rw [itemsF.eq_def]
  simp only
  rw [if_pos h1']
  rfl
end Go.Proofs.YtnjlggleaocbdaaGreatDoor.Pl
