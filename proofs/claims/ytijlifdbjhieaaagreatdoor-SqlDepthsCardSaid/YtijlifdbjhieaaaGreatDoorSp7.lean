/-
  Plain: what refuses a text is an error.
-/
import Derived.Test.YtijlifdbjhieaaaGreatDoorSq3
namespace Go.Proofs.YtijlifdbjhieaaaGreatDoor
set_option linter.all false
open Go.Lib

/-- A reading that never answers error 0. -/
def Err {α : Type} (x : PR α) : Prop := ∀ p, x ≠ .no p 0
theorem Err.bind {α β : Type} {x : PR α} {f : α → List Tok → PR β} (hx : Err x) (hf : ∀ a r, x = .ok a r → Err (f a r)) : Err (x.bind f) := by
  intro p h
  cases x with
  | ok a r => exact hf a r rfl p h
  | no q e =>
    injection h with h1 h2
    subst h1 h2
    exact hx q rfl
theorem err_ok {α : Type} (a : α) (r : List Tok) : Err (PR.ok a r) := fun p h => by cases h
theorem err_no {α : Type} {p : Nat} {e : Int} (h : e ≠ 0) : Err (PR.no p e : PR α) := fun q h' => by injection h' with _ h2; exact h h2
theorem must_err (s : List UInt8) (ts : List Tok) : Err (mustF s ts) := by
  unfold mustF; split
  · exact err_ok _ _
  · exact err_no (by decide)
theorem nm_err (ts : List Tok) : Err (nmF ts) := by
  unfold nmF; split
  · exact err_no (by decide)
  · split
    · exact err_ok _ _
    · exact err_no (by decide)
theorem term_err (ts : List Tok) : Err (termF ts) := by
  unfold termF; split
  · exact err_no (by decide)
  · split
    · exact err_ok _ _
    · split
      · exact err_ok _ _
      · split
        · exact err_ok _ _
        · exact err_no (by decide)
theorem comp_err (ts : List Tok) : Err (compF ts) := by
  unfold compF
  refine (term_err ts).bind fun l r _ => ?_
  split
  · exact err_no (by decide)
  · exact (term_err _).bind fun x r _ => err_ok _ _
theorem loop_err {part : List Tok → PR CondT} (tk : Takes part) (m : Nat) (hp : ∀ ts, ts.length ≤ m → Err (part ts)) (op : Int) (w : List UInt8) : ∀ (n : Nat) (c : CondT) (ts : List Tok), ts.length ≤ n → ts.length ≤ m → Err (loopF part op w n c ts)
  | n, c, ts, hn, hm => by
    rw [loopF.eq_def]
    simp only
    cases hy : mayF w ts with
    | none => simp only; exact err_ok _ _
    | some r =>
      have hl := (may_len hy).1
      cases n with
      | zero => omega
      | succ n =>
        simp only
        refine (hp r (by omega)).bind fun d r' hd => ?_
        have := (tk _ _ _ hd).1
        exact loop_err tk m hp op w n _ _ (by omega) (by omega)
def lvF (lvl : Nat) : Nat := match lvl with | 0 => 3 | 1 => 2 | _ + 2 => 1
theorem cond_err : ∀ (f lvl : Nat) (ts : List Tok), 3 * ts.length + lvF lvl ≤ f → Err (condF f lvl ts)
  | 0, lvl, ts, h => by
    have : 1 ≤ lvF lvl := by unfold lvF; split <;> omega
    omega
  | f + 1, 0, ts, h => by
    simp only [condF]
    refine (cond_err f 1 ts (by simp only [lvF] at h ⊢; omega)).bind fun c r hc => ?_
    have hl := (cond_takes f 1 _ _ _ hc).1
    exact loop_err (cond_takes f 1) ts.length (fun ts' h' => cond_err f 1 ts' (by simp only [lvF] at h ⊢; omega)) 1 wOr _ _ _ (Nat.le_refl _) hl
  | f + 1, 1, ts, h => by
    simp only [condF]
    refine (cond_err f 2 ts (by simp only [lvF] at h ⊢; omega)).bind fun c r hc => ?_
    have hl := (cond_takes f 2 _ _ _ hc).1
    exact loop_err (cond_takes f 2) ts.length (fun ts' h' => cond_err f 2 ts' (by simp only [lvF] at h ⊢; omega)) 2 wAnd _ _ _ (Nat.le_refl _) hl
  | f + 1, l + 2, ts, h => by
    simp only [condF]
    split
    · rename_i r hm
      have := (may_len hm).1
      exact (cond_err f 2 r (by simp only [lvF] at h ⊢; omega)).bind fun c r' _ => err_ok _ _
    · split
      · rename_i r hm
        have := (may_len hm).1
        exact (cond_err f 0 r (by simp only [lvF] at h ⊢; omega)).bind fun c r' _ => (must_err _ _).bind fun _ _ _ => err_ok _ _
      · exact comp_err _
theorem many_err {α : Type} {part : List Tok → PR α} (tk : Takes part) (he : ∀ ts, Err (part ts)) (beg : Tok → Bool) : ∀ (n : Nat) (out : List α) (ts : List Tok), ts.length ≤ n → EndsT ts → Err (manyF part beg n out ts)
  | n, out, ts, hn, hE => by
    rw [manyF.eq_def]
    simp only
    cases ts with
    | nil => exact absurd rfl hE.ne
    | cons t r =>
      simp only
      split
      · exact err_no (by decide)
      · refine (he _).bind fun a r1 h1 => ?_
        have t1 := tk _ _ _ h1
        cases hy : mayF [44] r1 with
        | none => simp only; exact err_ok _ _
        | some r2 =>
          have hl := (may_len hy).1
          simp only
          cases n with
          | zero => simp at hn
          | succ n =>
            simp only
            exact many_err tk he beg n _ _ (by simp only [List.length_cons] at hn t1; have := t1.1; omega) (may_ends hy (t1.2.1 hE))
theorem agg_err (g : List UInt8) (ts : List Tok) : Err (aggF g ts) := by
  unfold aggF
  refine (must_err _ _).bind fun _ r _ => ?_
  refine Err.bind ?_ fun c r' _ => (must_err _ _).bind fun _ _ _ => err_ok _ _
  split
  · exact (must_err _ _).bind fun _ _ _ => err_ok _ _
  · exact nm_err _
theorem itemG_err : ∀ (l : List (List UInt8)) (ts : List Tok), Err (itemG l ts)
  | [], ts => (nm_err ts).bind fun c r _ => err_ok _ _
  | g :: l, ts => by
    unfold itemG; split
    · exact agg_err g _
    · exact itemG_err l ts
theorem order_err (ts : List Tok) : Err (orderF ts) := by
  unfold orderF
  refine (nm_err ts).bind fun c r _ => ?_
  split <;> exact err_ok _ _
theorem query_err (f : Nat) (ts : List Tok) (hf : 3 * ts.length + 3 ≤ f) (hE : EndsT ts) : Err (queryF f ts) := by
  unfold queryF
  refine (must_err _ _).bind fun _ r1 h1 => ?_
  have k1 := must_takes _ _ _ _ h1
  refine (many_err item_takes (itemG_err _) _ _ _ _ (Nat.le_refl _) (k1.2.1 hE)).bind fun I r2 h2 => ?_
  have k2 := many_takes item_takes _ _ _ _ _ _ h2
  refine (must_err _ _).bind fun _ r3 h3 => ?_
  have k3 := must_takes _ _ _ _ h3
  refine (nm_err _).bind fun T r4 h4 => ?_
  have k4 := nm_takes _ _ _ h4
  have E4 := k4.2.1 (k3.2.1 (k2.2.1 (k1.2.1 hE)))
  have L4 : r4.length ≤ ts.length := Nat.le_trans k4.1 (Nat.le_trans k3.1 (Nat.le_trans k2.1 k1.1))
  have wh : Err (whereF f r4) ∧ ∀ c r5, whereF f r4 = .ok c r5 → EndsT r5 := by
    unfold whereF
    cases hy : mayF wWhere r4 with
    | none => simp only; exact ⟨err_ok _ _, fun c r5 h => by injection h with _ h; subst h; exact E4⟩
    | some r =>
      have hl := (may_len hy).1
      have hE' := may_ends hy E4
      simp only
      refine ⟨(cond_err f 0 r (by simp only [lvF]; omega)).bind fun c r' _ => ?_, fun c r5 h => ?_⟩
      · split
        · exact err_no (by decide)
        · exact err_ok _ _
      · cases hc : condF f 0 r with
        | no p e => rw [hc] at h; cases h
        | ok c' r' =>
          rw [hc] at h
          simp only [PR.bind] at h
          split at h
          · cases h
          · injection h with _ h; subst h
            exact (cond_takes f 0 _ _ _ hc).2.1 hE'
  refine wh.1.bind fun c r5 h5 => ?_
  have E5 := wh.2 _ _ h5
  have gr : Err (groupF r5) ∧ ∀ c r6, groupF r5 = .ok c r6 → EndsT r6 := by
    unfold groupF
    cases hy : mayF wGroup r5 with
    | none => simp only; exact ⟨err_ok _ _, fun c r5 h => by injection h with _ h; subst h; exact E5⟩
    | some r =>
      have hE' := may_ends hy E5
      simp only
      refine ⟨(must_err _ _).bind fun _ r' h' => many_err nm_takes nm_err _ _ _ _ (Nat.le_refl _) ((must_takes _ _ _ _ h').2.1 hE'), fun c r6 h => ?_⟩
      cases hm : mustF wBy r with
      | no p e => rw [hm] at h; cases h
      | ok u r' =>
        rw [hm] at h
        exact (many_takes nm_takes _ _ _ _ _ _ h).2.1 ((must_takes _ _ _ _ hm).2.1 hE')
  refine gr.1.bind fun g r6 h6 => ?_
  have E6 := gr.2 _ _ h6
  have od : Err (ordersF r6) ∧ ∀ c r7, ordersF r6 = .ok c r7 → EndsT r7 := by
    unfold ordersF
    cases hy : mayF wOrder r6 with
    | none => simp only; exact ⟨err_ok _ _, fun c r5 h => by injection h with _ h; subst h; exact E6⟩
    | some r =>
      have hE' := may_ends hy E6
      simp only
      refine ⟨(must_err _ _).bind fun _ r' h' => many_err order_takes order_err _ _ _ _ (Nat.le_refl _) ((must_takes _ _ _ _ h').2.1 hE'), fun c r6 h => ?_⟩
      cases hm : mustF wBy r with
      | no p e => rw [hm] at h; cases h
      | ok u r' =>
        rw [hm] at h
        exact (many_takes order_takes _ _ _ _ _ _ h).2.1 ((must_takes _ _ _ _ hm).2.1 hE')
  refine od.1.bind fun o r7 h7 => ?_
  have E7 := od.2 _ _ h7
  have lm : Err (limitF r7) := by
    unfold limitF
    cases hy : mayF wLimit r7 with
    | none => simp only; exact err_ok _ _
    | some r =>
      have hE' := may_ends hy E7
      simp only
      cases r with
      | nil => exact absurd rfl hE'.ne
      | cons t r =>
        simp only
        split
        · exact err_ok _ _
        · exact err_no (by decide)
  refine lm.bind fun L r8 _ => ?_
  refine Err.bind ?_ fun _ _ _ => err_ok _ _
  unfold overF
  split
  · exact err_no (by decide)
  · split
    · exact err_ok _ _
    · exact err_no (by decide)
/-- WHAT IS REFUSED IS REFUSED WITH AN ERROR. -/
theorem parse_err (L : List UInt8) {p : Nat} {e : Int} (h : parseF L = .no p e) : e ≠ 0 := by
  rintro rfl
  unfold parseF at h
  split at h
  · cases h
  · rename_i hl
    obtain ⟨hE, -, hN⟩ := lexL_facts (L := L) (by omega)
    exact query_err _ _ (by omega) hE p h
end Go.Proofs.YtijlifdbjhieaaaGreatDoor
