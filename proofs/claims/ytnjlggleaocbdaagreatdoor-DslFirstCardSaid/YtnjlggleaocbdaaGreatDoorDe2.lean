/-
  Plain: how deep an expression is that is read; tokens of a text end in one that nothing takes, and are short.
-/
import Derived.Test.YtnjlggleaocbdaaGreatDoorDe1
import Derived.Test.YtnjlggleaocbdaaGreatDoorDt3
namespace Go.Proofs.YtnjlggleaocbdaaGreatDoor
set_option linter.all false
open Go.RowKit Go.Shelf

theorem dep2 (op n : Int) (s : List UInt8) (c d : ExprT) : depthE (.mk op n s [c, d]) = 1 + max (depthE c) (depthE d) := by simp [depthE, depthL]
theorem dep1 (op n : Int) (s : List UInt8) (c : ExprT) : depthE (.mk op n s [c]) = 1 + depthE c := by simp [depthE, depthL]
theorem dep0 (op n : Int) (s : List UInt8) : depthE (.mk op n s []) = 1 := by simp [depthE, depthL]
theorem bind_ok {α β : Type} {x : PR α} {g : α → List Tok → PR β} {b : β} {r : List Tok} (h : x.bind g = .ok b r) : ∃ a r1, x = .ok a r1 ∧ g a r1 = .ok b r := by
  cases x with
  | no p e => cases h
  | ok a r1 => exact ⟨a, r1, rfl, h⟩
theorem loop_dep {part : List Tok → PR ExprT} (hp : ∀ ts c r, part ts = .ok c r → depthE c + r.length ≤ ts.length) (ops : List Int) : ∀ (n : Nat) (c : ExprT) (ts : List Tok) (d : ExprT) (r : List Tok), loopF part ops n c ts = .ok d r → depthE d + r.length ≤ depthE c + ts.length
  | n, c, ts, d, r, h => by
    cases hm : oneF (ops.map signX) 0 ts with
    | none =>
      rw [loop_no hm] at h
      injection h with h1 h2; subst h1 h2; exact Nat.le_refl _
    | some y =>
      obtain ⟨i, r1⟩ := y
      cases n with
      | zero => rw [loopF.eq_def] at h; simp only [hm] at h; cases h
      | succ n =>
        rw [loop_yes hm] at h
        have t1 := (one_take _ _ _ _ _ hm).2.1
        obtain ⟨x, r2, h1, h2⟩ := bind_ok h
        have t2 := hp _ _ _ h1
        have t3 := loop_dep hp ops n _ _ _ _ h2
        rw [dep2] at t3
        omega
theorem nm_dep {ts : List Tok} {s : List UInt8} {r : List Tok} (h : nmF ts = .ok s r) : 1 + r.length ≤ ts.length := by
  cases ts with
  | nil => cases h
  | cons t l =>
    unfold nmF at h
    simp only at h
    split at h
    · injection h with h1 h2; subst h2; simp; omega
    · cases h
theorem expr_dep : ∀ (f lvl : Nat) (ts : List Tok) (c : ExprT) (r : List Tok), exprF f lvl ts = .ok c r → depthE c + r.length ≤ ts.length
  | 0, lvl, ts, c, r, h => by rw [exprF.eq_def] at h; cases h
  | f + 1, 0, ts, c, r, h => by
    obtain ⟨x, r1, h1, h2⟩ := bind_ok (show (exprF f 1 ts).bind _ = _ from h)
    have := expr_dep f 1 _ _ _ h1
    have := loop_dep (expr_dep f 1) opsOr _ _ _ _ _ h2
    omega
  | f + 1, 1, ts, c, r, h => by
    obtain ⟨x, r1, h1, h2⟩ := bind_ok (show (exprF f 2 ts).bind _ = _ from h)
    have := expr_dep f 2 _ _ _ h1
    have := loop_dep (expr_dep f 2) opsAnd _ _ _ _ _ h2
    omega
  | f + 1, 2, ts, c, r, h => by
    rw [exprF] at h
    cases hm : mayF wNot ts with
    | some r1 =>
      simp only [hm] at h
      obtain ⟨x, r2, h1, h2⟩ := bind_ok h
      injection h2 with e1 e2; subst e1 e2
      have := expr_dep f 2 _ _ _ h1
      have := (may_len hm).1
      rw [dep1]; omega
    | none =>
      simp only [hm] at h
      obtain ⟨x, r2, h1, h2⟩ := bind_ok h
      have t1 := expr_dep f 3 _ _ _ h1
      cases ho : oneF (opsCmp.map signX) 0 r2 with
      | none => simp only [ho] at h2; injection h2 with e1 e2; subst e1 e2; exact t1
      | some y =>
        obtain ⟨i, r3⟩ := y
        simp only [ho] at h2
        obtain ⟨x2, r4, h3, h4⟩ := bind_ok h2
        injection h4 with e1 e2; subst e1 e2
        have := expr_dep f 3 _ _ _ h3
        have := (one_take _ _ _ _ _ ho).2.1
        rw [dep2]; omega
  | f + 1, 3, ts, c, r, h => by
    obtain ⟨x, r1, h1, h2⟩ := bind_ok (show (exprF f 4 ts).bind _ = _ from h)
    have := expr_dep f 4 _ _ _ h1
    have := loop_dep (expr_dep f 4) opsSum _ _ _ _ _ h2
    omega
  | f + 1, 4, ts, c, r, h => by
    obtain ⟨x, r1, h1, h2⟩ := bind_ok (show (exprF f 5 ts).bind _ = _ from h)
    have := expr_dep f 5 _ _ _ h1
    have := loop_dep (expr_dep f 5) opsTerm _ _ _ _ _ h2
    omega
  | f + 1, lvl + 5, ts, c, r, h => by
    rw [exprF.eq_def] at h
    simp only at h
    cases h1 : mayF [45] ts with
    | some r1 =>
      simp only [h1] at h
      obtain ⟨x, r2, h3, h2⟩ := bind_ok h
      injection h2 with e1 e2; subst e1 e2
      have := expr_dep f 5 _ _ _ h3
      have := (may_len h1).1
      rw [dep1]; omega
    | none =>
      simp only [h1] at h
      cases h2 : mayF [40] ts with
      | some r1 =>
        simp only [h2] at h
        obtain ⟨x, r2, h3, h4⟩ := bind_ok h
        obtain ⟨y, r3, h5, h6⟩ := bind_ok h4
        injection h6 with e1 e2; subst e1 e2
        have := expr_dep f 0 _ _ _ h3
        have := (must_takes [41] _ _ _ h5).1
        have := (may_len h2).1
        omega
      | none =>
        simp only [h2] at h
        cases h3 : mayF wKnown ts with
        | some r1 =>
          simp only [h3] at h
          obtain ⟨x, r2, h4, h5⟩ := bind_ok h
          injection h5 with e1 e2; subst e1 e2
          have := nm_dep h4
          have := (may_len h3).1
          rw [dep0]; omega
        | none =>
          simp only [h3] at h
          cases h4 : mayF wTrue ts with
          | some r1 =>
            simp only [h4] at h
            injection h with e1 e2; subst e1 e2
            have := (may_len h4).1
            rw [dep0]; omega
          | none =>
            simp only [h4] at h
            cases h5 : mayF wFalse ts with
            | some r1 =>
              simp only [h5] at h
              injection h with e1 e2; subst e1 e2
              have := (may_len h5).1
              rw [dep0]; omega
            | none =>
              simp only [h5] at h
              cases ts with
              | nil => cases h
              | cons t r0 =>
                simp only at h
                split at h
                · injection h with e1 e2; subst e1 e2; rw [dep0]; simp; omega
                · split at h
                  · injection h with e1 e2; subst e1 e2; rw [dep0]; simp; omega
                  · obtain ⟨x, r2, h6, h7⟩ := bind_ok h
                    injection h7 with e1 e2; subst e1 e2
                    have := nm_dep h6
                    rw [dep0]; omega
theorem ends_cons {t : Tok} {r : List Tok} (h : EndsT r) : EndsT (t :: r) := by
  obtain ⟨u, h1, h2⟩ := h
  cases r with
  | nil => cases h1
  | cons a l => exact ⟨u, by rw [List.getLast?_cons_cons]; exact h1, h2⟩
theorem lex_ends : ∀ (f p : Nat) (l : List UInt8), l.length ≤ f → EndsT (lexF (f + 1) p l)
  | f, p, l, hf => by
    obtain ⟨⟨q, l2⟩, hs⟩ : ∃ x, skipF false p l = x := ⟨_, rfl⟩
    have hl := Pl.skip_len l false p q l2 hs
    cases l2 with
    | nil => rw [lex_end hs]; exact ⟨_, rfl, by simp⟩
    | cons c r =>
      by_cases hk : (nextF c r).1.k = 33
      · rw [lex_bad hs hk]; exact ⟨_, rfl, by simp [Tk0.at, hk]⟩
      · rw [lex_tok hs hk]
        have hn := next_len c r
        have hd : ((c :: r).drop (nextF c r).2).length = r.length + 1 - (nextF c r).2 := by rw [List.length_drop]; rfl
        simp only [List.length_cons] at hl
        cases f with
        | zero => omega
        | succ f => exact ends_cons (lex_ends f _ _ (by omega))
theorem quo_s : ∀ (n : Nat) (r : List UInt8) (i : Nat) (acc a : List UInt8) (m : Nat), r.length ≤ n → quoF r i acc = some (a, m) → a.length ≤ acc.length + r.length
  | 0, r, i, acc, a, m, hn, h => by
    obtain rfl : r = [] := List.eq_nil_of_length_eq_zero (by omega)
    rw [quoF.eq_def] at h; cases h
  | n + 1, [], i, acc, a, m, hn, h => by rw [quoF.eq_def] at h; cases h
  | n + 1, c :: r, i, acc, a, m, hn, h => by
    rw [quoF.eq_def] at h
    simp only at h
    split at h
    · injection h with h; injection h with h1 h2; subst h1; simp
    · split at h
      · cases h
      · split at h
        · cases r with
          | nil => cases h
          | cons d r' =>
            simp only at h
            split at h
            · have := quo_s n r' _ _ a m (by simp at hn; omega) h
              simp at this ⊢; omega
            · cases h
        · have := quo_s n r _ _ a m (by simp at hn; omega) h
          simp at this ⊢; omega
theorem named_s (s : List UInt8) : (namedF s).s = s := by
  unfold namedF
  split
  · split <;> rfl
  · split <;> rfl
theorem next_s (c : UInt8) (r : List UInt8) : (nextF c r).1.s.length ≤ r.length + 2 := by
  unfold nextF
  split
  · simp only [named_s]; simp; omega
  · split
    · unfold quotedF
      split
      · rename_i a n h
        have := quo_s _ r 1 [] a n (Nat.le_refl _) h
        simp at this ⊢; omega
      · simp
    · split
      · simp
      · split <;> simp
theorem lex_short : ∀ (f p : Nat) (l : List UInt8), ∀ t ∈ lexF f p l, t.s.length ≤ l.length + 1
  | 0, p, l, t, h => by simp [lexF] at h
  | f + 1, p, l, t, h => by
    obtain ⟨⟨q, l2⟩, hs⟩ : ∃ x, skipF false p l = x := ⟨_, rfl⟩
    have hl := Pl.skip_len l false p q l2 hs
    cases l2 with
    | nil => rw [lex_end hs] at h; simp at h; subst h; simp
    | cons c r =>
      have hn := next_s c r
      simp only [List.length_cons] at hl
      by_cases hk : (nextF c r).1.k = 33
      · rw [lex_bad hs hk] at h
        simp at h; subst h
        simp [Tk0.at]; omega
      · rw [lex_tok hs hk] at h
        rcases List.mem_cons.1 h with rfl | h
        · simp [Tk0.at]; omega
        · have := lex_short f _ _ t h
          have hd : ((c :: r).drop (nextF c r).2).length ≤ r.length + 1 := by rw [List.length_drop]; simp
          omega
theorem lexL_facts {L : List UInt8} (h : L.length ≤ 100000) : EndsT (lexL L) ∧ ShortT (lexL L) ∧ (lexL L).length ≤ L.length + 1 :=
  ⟨lex_ends _ _ _ (Nat.le_refl _), fun t ht => by have := lex_short _ _ _ t ht; omega, lex_len _ _ _⟩
end Go.Proofs.YtnjlggleaocbdaaGreatDoor
