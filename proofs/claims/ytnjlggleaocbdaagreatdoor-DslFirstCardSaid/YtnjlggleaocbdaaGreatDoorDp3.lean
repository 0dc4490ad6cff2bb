/-
  Plain: what is shown is read.
-/
import Derived.Test.YtnjlggleaocbdaaGreatDoorDp2
namespace Go.Proofs.YtnjlggleaocbdaaGreatDoor.Pl
set_option linter.all false
open Go.Lib

def noT (s : List UInt8) : List Tk0 → Bool
  | [] => true
  | t :: _ => !((t.s == s) && (decide (t.k = 119) || decide (t.k = 109)))
theorem k0_cons {ts : List Tok} {t : Tk0} {R : List Tk0} (h : ts.map Tok.k0 = t :: R) : ∃ u r, ts = u :: r ∧ u.k = t.k ∧ u.s = t.s ∧ u.n = t.n ∧ r.map Tok.k0 = R := by
  cases ts with
  | nil => simp at h
  | cons u r =>
    simp only [List.map_cons, List.cons.injEq] at h
    refine ⟨u, r, rfl, ?_, ?_, ?_, h.2⟩ <;> rw [← h.1] <;> rfl
theorem may_no {s : List UInt8} {ts : List Tok} (h : noT s (ts.map Tok.k0) = true) : mayF s ts = none := by
  cases ts with
  | nil => rfl
  | cons t r =>
    simp only [List.map_cons, noT, Tok.k0, Bool.not_eq_true'] at h
    simp only [mayF, isT, h]
    rfl
theorem may_yes {s : List UInt8} {ts : List Tok} {t : Tk0} {R : List Tk0} (h : ts.map Tok.k0 = t :: R) (hs : t.s = s) (hk : t.k = 119 ∨ t.k = 109) : ∃ r, mayF s ts = some r ∧ r.map Tok.k0 = R := by
  obtain ⟨u, r, rfl, h1, h2, -, h4⟩ := k0_cons h
  refine ⟨r, ?_, h4⟩
  simp only [mayF, isT, h1, h2, hs]
  rw [if_pos]
  rcases hk with e | e <;> simp [e]
theorem must_yes {s : List UInt8} {ts : List Tok} {t : Tk0} {R : List Tk0} (h : ts.map Tok.k0 = t :: R) (hs : t.s = s) (hk : t.k = 119 ∨ t.k = 109) : ∃ r, mustF s ts = .ok () r ∧ r.map Tok.k0 = R := by
  obtain ⟨r, h1, h2⟩ := may_yes h hs hk
  exact ⟨r, by simp only [mustF, h1], h2⟩
theorem k0_len {ts : List Tok} {R : List Tk0} (h : ts.map Tok.k0 = R) : ts.length = R.length := by rw [← h]; simp
theorem name_not {s : List UInt8} (h : nameB s = true) : wordsL.contains s = false := by
  simp only [nameB, Bool.and_eq_true] at h
  simpa using h.1.2
theorem name_word {s w : List UInt8} (h : nameB s = true) (hw : wordsL.contains w = true) : (s == w) = false := by
  cases e : s == w with
  | false => rfl
  | true =>
    rw [beq_iff_eq] at e
    subst e
    rw [name_not h] at hw; cases hw
theorem name_mark {s : List UInt8} {c : UInt8} {r : List UInt8} (h : nameB s = true) (hc : smallB c = false) : (s == c :: r) = false := by
  cases e : s == c :: r with
  | false => rfl
  | true =>
    rw [beq_iff_eq] at e
    subst e
    simp only [nameB, Bool.and_eq_true] at h
    have := h.1.1.2
    simp only [headB, hc] at this
    cases this
theorem name_back {s : List UInt8} (h : nameB s = true) {R : List Tk0} {ts : List Tok} (hts : ts.map Tok.k0 = tW s :: R) : ∃ r, nmF ts = .ok s r ∧ r.map Tok.k0 = R := by
  obtain ⟨u, r, rfl, h1, h2, -, h4⟩ := k0_cons hts
  refine ⟨r, ?_, h4⟩
  simp only [nmF]
  rw [if_pos (by simp only [isNm, h1, h2, tW, h]; rfl), h2]
  rfl
/-- No operator that binds so much or more stands here. -/
def Stops (k : Nat) (R : List Tk0) : Prop := ∀ op, binB op = true → k ≤ bindN op → noT (signX op) R = true
theorem Stops.le {k j : Nat} {R : List Tk0} (h : Stops k R) (hj : k ≤ j) : Stops j R := fun op h1 h2 => h op h1 (by omega)
theorem stops_close (R : List Tk0) : Stops 1 (tM [41] :: R) := fun op h _ =>
  bin_cases (P := fun op => noT (signX op) (tM [41] :: R) = true) (by refine ⟨?_, ?_, ?_, ?_, ?_, ?_, ?_, ?_, ?_, ?_, ?_, ?_, ?_⟩ <;> rfl) op h
theorem sign_ne : ∀ op, binB op = true → ∀ op', binB op' = true → bindN op < bindN op' → (signX op == signX op') = false := by
  refine bin_cases ?_
  refine ⟨?_, ?_, ?_, ?_, ?_, ?_, ?_, ?_, ?_, ?_, ?_, ?_, ?_⟩
  all_goals (refine bin_cases ?_; decide)
theorem stops_sign {op : Int} (h : binB op = true) {k : Nat} (hk : bindN op < k) (R : List Tk0) : Stops k (signTok op :: R) := fun op' h' hk' => by
  have e := sign_ne op h op' h' (by omega)
  unfold signTok
  split <;> simp only [noT, tW, tM, e] <;> rfl
/-- The operators that bind so much. -/
def opsK (k : Nat) : List Int := if k = 1 then opsOr else if k = 2 then opsAnd else if k = 4 then opsCmp else if k = 5 then opsSum else if k = 6 then opsTerm else []
theorem ops_bin : ∀ k, ∀ op ∈ opsK k, binB op = true ∧ bindN op = k := by
  intro k op h
  unfold opsK at h
  split at h
  · subst k; revert op; decide
  split at h
  · subst k; revert op; decide
  split at h
  · subst k; revert op; decide
  split at h
  · subst k; revert op; decide
  split at h
  · subst k; revert op; decide
  · cases h
theorem one_none {l : List (List UInt8)} {ts : List Tok} (h : ∀ s ∈ l, mayF s ts = none) : ∀ i, oneF l i ts = none := by
  induction l with
  | nil => intro i; rfl
  | cons s l ih =>
    intro i
    rw [oneF]
    split
    · exact ih (fun s hs => h s (by simp [hs])) _
    · rw [h s (by simp)]
      exact ih (fun s hs => h s (by simp [hs])) _
theorem one_stops {k : Nat} {R : List Tk0} (h : Stops k R) {ts : List Tok} (hts : ts.map Tok.k0 = R) : oneF ((opsK k).map signX) 0 ts = none := by
  refine one_none (fun s hs => ?_) 0
  obtain ⟨op, ho, rfl⟩ := List.mem_map.1 hs
  obtain ⟨h1, h2⟩ := ops_bin k op ho
  exact may_no (by rw [hts]; exact h op h1 (by omega))
theorem sign_back {op : Int} (h : binB op = true) {R : List Tk0} {ts : List Tok} (hts : ts.map Tok.k0 = signTok op :: R) : ∃ i r, oneF ((opsK (bindN op)).map signX) 0 ts = some (i, r) ∧ (opsK (bindN op)).getD i 0 = op ∧ r.map Tok.k0 = R := by
  obtain ⟨u, r, rfl, h1, h2, -, hr⟩ := k0_cons hts
  have hk : u.k = 119 ∨ u.k = 109 := by
    rw [h1]; unfold signTok; split
    · exact .inl rfl
    · exact .inr rfl
  have hs : u.s = signX op := by rw [h2]; unfold signTok; split <;> rfl
  have hm : ∀ s, mayF s (u :: r) = if (signX op == s) = true then some r else none := by
    intro s
    simp only [mayF, isT, hs]
    rcases hk with e | e <;> rw [e] <;> cases signX op == s <;> simp
  refine ⟨(opsK (bindN op)).findIdx (fun o => decide (o = op)), r, ?_, ?_, hr⟩
  · clear hts h1 h2 hs hk hr
    revert hm
    refine bin_cases (P := fun op => (∀ s, mayF s (u :: r) = if (signX op == s) = true then some r else none) → oneF ((opsK (bindN op)).map signX) 0 (u :: r) = some ((opsK (bindN op)).findIdx (fun o => decide (o = op)), r)) ?_ op h
    refine ⟨?_, ?_, ?_, ?_, ?_, ?_, ?_, ?_, ?_, ?_, ?_, ?_, ?_⟩
    all_goals (intro hm; simp [opsK, bindN, oneF, signX, signT, hm, List.findIdx_cons])
  · clear hts h1 h2 hs hm hk hr
    refine bin_cases (P := fun op => (opsK (bindN op)).getD ((opsK (bindN op)).findIdx (fun o => decide (o = op))) 0 = op) ?_ op h
    decide
/-- The level of a reader. -/
def lvF (k : Nat) : Nat := if k ≤ 3 then k - 1 else k - 2
theorem loop_stop {part : List Tok → PR ExprT} {ops : List Int} {n : Nat} {c : ExprT} {ts : List Tok} (h : oneF (ops.map signX) 0 ts = none) : loopF part ops n c ts = .ok c ts := by
  rw [loopF.eq_def]; simp only [h]
theorem loop_step {part : List Tok → PR ExprT} {ops : List Int} {n i : Nat} {c d : ExprT} {ts r r' : List Tok} (h : oneF (ops.map signX) 0 ts = some (i, r)) (hp : part r = .ok d r') : loopF part ops (n + 1) c ts = loopF part ops n (.mk (ops.getD i 0) 0 [] [c, d]) r' := by
  rw [loopF.eq_def]; simp only [h, hp, PR.bind]
/-- Read whole. -/
def Wh (k : Nat) (e : ExprT) (T R : List Tk0) : Prop := Stops k R → ∀ ts : List Tok, ts.map Tok.k0 = T → ∀ f, 6 * ts.length + 6 ≤ f + lvF k → ∃ r, exprF f (lvF k) ts = .ok e r ∧ r.map Tok.k0 = R
/-- Read in front of more of the same binding. -/
def Lp (k : Nat) (e : ExprT) (T R : List Tk0) : Prop := Stops (k + 1) R → ∀ ts : List Tok, ts.map Tok.k0 = T → ∀ f, 6 * ts.length + 6 ≤ f + 1 + lvF k → ∃ x r0, exprF f (lvF (k + 1)) ts = .ok x r0 ∧ ∃ r, r.map Tok.k0 = R ∧ ∀ n, r0.length ≤ n → ∃ m, r.length ≤ m ∧ loopF (exprF f (lvF (k + 1))) (opsK k) n x r0 = loopF (exprF f (lvF (k + 1))) (opsK k) m e r
def lpB (k : Nat) : Bool := decide (k = 1) || decide (k = 2) || decide (k = 5) || decide (k = 6)
theorem lp_wh {k : Nat} (hk : lpB k = true) {e : ExprT} {T R : List Tk0} (h : Lp k e T R) : Wh k e T R := by
  intro hs ts hts f hf
  obtain ⟨f, rfl⟩ : ∃ g, f = g + 1 := by
    simp only [lpB, Bool.or_eq_true, decide_eq_true_eq] at hk
    refine ⟨f - 1, ?_⟩
    rcases hk with ((rfl | rfl) | rfl) | rfl <;> simp [lvF] at hf <;> omega
  obtain ⟨x, r0, e0, r, m0, hl⟩ := h (hs.le (by omega)) ts hts f hf
  obtain ⟨m, -, e2⟩ := hl r0.length (Nat.le_refl _)
  refine ⟨r, ?_, m0⟩
  have e3 : exprF (f + 1) (lvF k) ts = (exprF f (lvF (k + 1)) ts).bind fun c r => loopF (exprF f (lvF (k + 1))) (opsK k) r.length c r := by
    simp only [lpB, Bool.or_eq_true, decide_eq_true_eq] at hk
    rcases hk with ((rfl | rfl) | rfl) | rfl <;> rfl
  rw [e3, e0]
  simp only [PR.bind]
  rw [e2]
  exact loop_stop (one_stops hs m0)
theorem wh_lp {k : Nat} (hk : lpB k = true) {e : ExprT} {T R : List Tk0} (h : Wh (k + 1) e T R) : Lp k e T R := by
  intro hs ts hts f hf
  have e1 : lvF (k + 1) = lvF k + 1 := by
    simp only [lpB, Bool.or_eq_true, decide_eq_true_eq] at hk
    rcases hk with ((rfl | rfl) | rfl) | rfl <;> rfl
  obtain ⟨r, e, m⟩ := h hs ts hts f (by omega)
  exact ⟨_, r, e, r, m, fun n hn => ⟨n, hn, rfl⟩⟩
theorem left_4 {op : Int} (h : 4 ≤ bindN op) : 4 ≤ leftN op := by unfold leftN; split <;> omega
theorem sh_not {k : Nat} {e : ExprT} {T R : List Tk0} (h : Sh k e T R) : 4 ≤ k → noT wNot T = true := by
  induction h with
  | up _ _ _ ih => intro h; exact ih (by omega)
  | par _ _ => intro _; rfl
  | num => intro _; simp [noT]
  | text => intro _; simp [noT, tT]
  | tru => intro _; rfl
  | fal => intro _; rfl
  | name hs => intro _; simp only [noT, tW, name_word hs (w := wNot) (by decide)]; rfl
  | known _ => intro _; rfl
  | neg _ _ => intro _; rfl
  | not _ _ => intro h; omega
  | bin _ _ _ iha _ => intro h; exact iha (left_4 h)
theorem sh_len {k : Nat} {e : ExprT} {T R : List Tk0} (h : Sh k e T R) : R.length < T.length := by
  induction h with
  | up _ _ _ ih => exact ih
  | par _ ih => simp only [List.length_cons] at ih ⊢; omega
  | num | text | tru | fal => simp
  | name _ => simp
  | known _ => simp; omega
  | neg _ ih | not _ ih => simp only [List.length_cons]; omega
  | bin _ _ _ iha ihb => simp only [List.length_cons] at iha; omega
theorem reads {k : Nat} {e : ExprT} {T R : List Tk0} (h : Sh k e T R) : Wh k e T R ∧ (lpB k = true → Lp k e T R) := by
  induction h with
  | @up k e T R h1 h6 hsh ih =>
    by_cases hk : lpB k = true
    · have := wh_lp hk ih.1
      exact ⟨lp_wh hk this, fun _ => this⟩
    · refine ⟨?_, fun h => absurd h hk⟩
      simp only [lpB, Bool.or_eq_true, decide_eq_true_eq] at hk
      have h34 : k = 3 ∨ k = 4 := by omega
      intro hs ts hts f hf
      rcases h34 with rfl | rfl
      · exact ih.1 (hs.le (by omega)) ts hts f hf
      · obtain ⟨f, rfl⟩ : ∃ g, f = g + 1 := ⟨f - 1, by simp [lvF] at hf; omega⟩
        obtain ⟨r, e1, m1⟩ := ih.1 (hs.le (by omega)) ts hts f (by simp [lvF] at hf ⊢; omega)
        refine ⟨r, ?_, m1⟩
        have e2 : mayF wNot ts = none := may_no (by rw [hts]; exact sh_not hsh (by omega))
        have e3 : oneF (opsCmp.map signX) 0 r = none := one_stops (k := 4) hs m1
        simp only [lvF] at e1
        simp only [lvF, exprF, e2]
        simp only [Nat.reduceLeDiff, Nat.reduceSub, if_false] at e1 ⊢
        simp only [exprF, e2, e1, PR.bind, e3]
  | @par e T R hsh ih =>
    refine ⟨?_, fun h => by simp [lpB] at h⟩
    intro hs ts hts f hf
    obtain ⟨f, rfl⟩ : ∃ g, f = g + 1 := ⟨f - 1, by simp [lvF] at hf; omega⟩
    have e0 : mayF [45] ts = none := may_no (by rw [hts]; rfl)
    obtain ⟨r1, e1, m1⟩ := may_yes (s := [40]) hts rfl (.inr rfl)
    have hl : ts.length = r1.length + 1 := by rw [k0_len hts, k0_len m1]; rfl
    obtain ⟨r2, e2, m2⟩ := ih.1 (stops_close R) r1 m1 f (by simp [lvF] at hf ⊢; omega)
    obtain ⟨r3, e3, m3⟩ := must_yes (s := [41]) m2 rfl (.inr rfl)
    refine ⟨r3, ?_, m3⟩
    simp only [lvF, Nat.reduceLeDiff, Nat.reduceSub, if_true, if_false] at e2 ⊢
    simp only [exprF, e0, e1, e2, PR.bind, e3]
  | @num n s R =>
    refine ⟨?_, fun h => by simp [lpB] at h⟩
    intro hs ts hts f hf
    obtain ⟨f, rfl⟩ : ∃ g, f = g + 1 := ⟨f - 1, by simp [lvF] at hf; omega⟩
    obtain ⟨u, r, rfl, h1, h2, h3, h4⟩ := k0_cons hts
    have hm : ∀ s, mayF s (u :: r) = none := fun s => by simp [mayF, isT, h1]
    refine ⟨r, ?_, h4⟩
    simp only [lvF, Nat.reduceLeDiff, Nat.reduceSub, if_false]
    simp only [exprF, hm, h1, h3]
    rw [if_pos trivial]
  | @text s R =>
    refine ⟨?_, fun h => by simp [lpB] at h⟩
    intro hs ts hts f hf
    obtain ⟨f, rfl⟩ : ∃ g, f = g + 1 := ⟨f - 1, by simp [lvF] at hf; omega⟩
    obtain ⟨u, r, rfl, h1, h2, h3, h4⟩ := k0_cons hts
    have hm : ∀ s, mayF s (u :: r) = none := fun s => by simp [mayF, isT, h1, tT]
    refine ⟨r, ?_, h4⟩
    simp only [lvF, Nat.reduceLeDiff, Nat.reduceSub, if_false]
    simp only [exprF, hm, h1, h2, tT]
    rw [if_neg (by decide), if_pos trivial]
  | @tru R =>
    refine ⟨?_, fun h => by simp [lpB] at h⟩
    intro hs ts hts f hf
    obtain ⟨f, rfl⟩ : ∃ g, f = g + 1 := ⟨f - 1, by simp [lvF] at hf; omega⟩
    have e1 : mayF [45] ts = none := may_no (by rw [hts]; rfl)
    have e2 : mayF [40] ts = none := may_no (by rw [hts]; rfl)
    have e3 : mayF wKnown ts = none := may_no (by rw [hts]; rfl)
    obtain ⟨r1, e4, m1⟩ := may_yes (s := wTrue) hts rfl (.inl rfl)
    refine ⟨r1, ?_, m1⟩
    simp only [lvF, Nat.reduceLeDiff, Nat.reduceSub, if_false]
    simp only [exprF, e1, e2, e3, e4]
  | @fal R =>
    refine ⟨?_, fun h => by simp [lpB] at h⟩
    intro hs ts hts f hf
    obtain ⟨f, rfl⟩ : ∃ g, f = g + 1 := ⟨f - 1, by simp [lvF] at hf; omega⟩
    have e1 : mayF [45] ts = none := may_no (by rw [hts]; rfl)
    have e2 : mayF [40] ts = none := may_no (by rw [hts]; rfl)
    have e3 : mayF wKnown ts = none := may_no (by rw [hts]; rfl)
    have e4 : mayF wTrue ts = none := may_no (by rw [hts]; rfl)
    obtain ⟨r1, e5, m1⟩ := may_yes (s := wFalse) hts rfl (.inl rfl)
    refine ⟨r1, ?_, m1⟩
    simp only [lvF, Nat.reduceLeDiff, Nat.reduceSub, if_false]
    simp only [exprF, e1, e2, e3, e4, e5]
  | @name s R hn =>
    refine ⟨?_, fun h => by simp [lpB] at h⟩
    intro hs ts hts f hf
    obtain ⟨f, rfl⟩ : ∃ g, f = g + 1 := ⟨f - 1, by simp [lvF] at hf; omega⟩
    have hw : ∀ w, wordsL.contains w = true → mayF w ts = none := fun w hw => may_no (by rw [hts]; simp only [tW, noT, name_word hn hw]; rfl)
    have hm : ∀ (c : UInt8), smallB c = false → mayF [c] ts = none := fun c hc => may_no (by rw [hts]; simp only [tW, noT, name_mark hn hc]; rfl)
    obtain ⟨r1, e1, m1⟩ := name_back hn hts
    refine ⟨r1, ?_, m1⟩
    obtain ⟨u, r, rfl, h1, h2, h3, h4⟩ := k0_cons hts
    simp only [lvF, Nat.reduceLeDiff, Nat.reduceSub, if_false]
    simp only [exprF, hm 45 (by decide), hm 40 (by decide), hw wKnown (by decide), hw wTrue (by decide), hw wFalse (by decide), h1, tW, e1, PR.bind]
    rw [if_neg (by decide), if_neg (by decide)]
  | @known s R hn =>
    refine ⟨?_, fun h => by simp [lpB] at h⟩
    intro hs ts hts f hf
    obtain ⟨f, rfl⟩ : ∃ g, f = g + 1 := ⟨f - 1, by simp [lvF] at hf; omega⟩
    have e1 : mayF [45] ts = none := may_no (by rw [hts]; rfl)
    have e2 : mayF [40] ts = none := may_no (by rw [hts]; rfl)
    obtain ⟨r1, e3, m1⟩ := may_yes (s := wKnown) hts rfl (.inl rfl)
    obtain ⟨r2, e4, m2⟩ := name_back hn m1
    refine ⟨r2, ?_, m2⟩
    simp only [lvF, Nat.reduceLeDiff, Nat.reduceSub, if_false]
    simp only [exprF, e1, e2, e3, e4, PR.bind]
  | @neg a T R hsh ih =>
    refine ⟨?_, fun h => by simp [lpB] at h⟩
    intro hs ts hts f hf
    obtain ⟨f, rfl⟩ : ∃ g, f = g + 1 := ⟨f - 1, by simp [lvF] at hf; omega⟩
    obtain ⟨r1, e1, m1⟩ := may_yes (s := [45]) hts rfl (.inr rfl)
    have hl : ts.length = r1.length + 1 := by rw [k0_len hts, k0_len m1]; rfl
    obtain ⟨r2, e2, m2⟩ := ih.1 hs r1 m1 f (by simp [lvF] at hf ⊢; omega)
    refine ⟨r2, ?_, m2⟩
    simp only [lvF, Nat.reduceLeDiff, Nat.reduceSub, if_false] at e2 ⊢
    simp only [exprF, e1, e2, PR.bind]
  | @not a T R hsh ih =>
    refine ⟨?_, fun h => by simp [lpB] at h⟩
    intro hs ts hts f hf
    obtain ⟨f, rfl⟩ : ∃ g, f = g + 1 := ⟨f - 1, by simp [lvF] at hf; omega⟩
    obtain ⟨r1, e1, m1⟩ := may_yes (s := wNot) hts rfl (.inl rfl)
    have hl : ts.length = r1.length + 1 := by rw [k0_len hts, k0_len m1]; rfl
    obtain ⟨r2, e2, m2⟩ := ih.1 hs r1 m1 f (by simp [lvF] at hf ⊢; omega)
    refine ⟨r2, ?_, m2⟩
    simp only [lvF, Nat.reduceLeDiff, Nat.reduceSub, if_true] at e2 ⊢
    simp only [exprF, e1, e2, PR.bind]
  | @bin op a b T T' R ho hsa hsb iha ihb =>
    have hla := sh_len hsa
    simp only [List.length_cons] at hla
    by_cases h4 : bindN op = 4
    · have hl5 : leftN op = 5 := by unfold leftN; rw [if_pos h4]
      rw [h4] at ihb ⊢
      rw [hl5] at iha
      refine ⟨?_, fun h => by simp [lpB] at h⟩
      intro hs ts hts f hf
      obtain ⟨f, rfl⟩ : ∃ g, f = g + 1 := ⟨f - 1, by simp [lvF] at hf; omega⟩
      have hT := k0_len hts
      have e0 : mayF wNot ts = none := may_no (by rw [hts]; exact sh_not hsa (by omega))
      obtain ⟨r1, e1, m1⟩ := iha.1 (stops_sign ho (by omega) _) ts hts f (by simp [lvF] at hf ⊢; omega)
      obtain ⟨i, r2, e2, ei, m2⟩ := sign_back ho m1
      have l1 := k0_len m1
      have l2 := k0_len m2
      simp only [List.length_cons] at l1
      obtain ⟨r3, e3, m3⟩ := ihb.1 (hs.le (by omega)) r2 m2 f (by simp [lvF] at hf ⊢; omega)
      refine ⟨r3, ?_, m3⟩
      rw [h4] at e2 ei
      simp only [lvF, Nat.reduceLeDiff, Nat.reduceSub, Nat.reduceAdd, if_false] at e1 e3 ⊢
      rw [show opsK 4 = opsCmp from rfl] at e2 ei
      simp only [exprF, e0, e1, PR.bind, e2, e3, ei]
    · have hlp : lpB (bindN op) = true ∧ leftN op = bindN op := by
        revert op
        intro op ho _ _ _ _ h4
        refine ⟨?_, by unfold leftN; rw [if_neg h4]⟩
        revert h4
        exact bin_cases (P := fun op => ¬ bindN op = 4 → lpB (bindN op) = true) (by decide) op ho
      rw [hlp.2] at iha
      have L : Lp (bindN op) (.mk op 0 [] [a, b]) T R := by
        intro hs ts hts f hf
        have hT := k0_len hts
        obtain ⟨x, r0, e0, r1, m1, hl⟩ := iha.2 hlp.1 (stops_sign ho (by omega) _) ts hts f hf
        obtain ⟨i, r2, e2, ei, m2⟩ := sign_back ho m1
        have l1 := k0_len m1
        have l2 := k0_len m2
        simp only [List.length_cons] at l1
        have e1 : lvF (bindN op + 1) = lvF (bindN op) + 1 := by
          have hk := hlp.1
          simp only [lpB, Bool.or_eq_true, decide_eq_true_eq] at hk
          rcases hk with ((e | e) | e) | e <;> rw [e] <;> rfl
        obtain ⟨r3, e3, m3⟩ := ihb.1 hs r2 m2 f (by omega)
        have l3 := k0_len m3
        have hlb := sh_len hsb
        refine ⟨x, r0, e0, r3, m3, fun n hn => ?_⟩
        obtain ⟨m, hm, e4⟩ := hl n hn
        obtain ⟨m, rfl⟩ : ∃ g, m = g + 1 := ⟨m - 1, by omega⟩
        refine ⟨m, by omega, ?_⟩
        rw [e4, loop_step e2 e3, ei]
      exact ⟨lp_wh hlp.1 L, fun _ => L⟩
end Go.Proofs.YtnjlggleaocbdaaGreatDoor.Pl
