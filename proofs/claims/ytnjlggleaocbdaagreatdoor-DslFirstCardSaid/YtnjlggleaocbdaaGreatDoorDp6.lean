/-
  Plain: what is read takes tokens; an error is never 0.
-/
import Derived.Test.YtnjlggleaocbdaaGreatDoorDp5
namespace Go.Proofs.YtnjlggleaocbdaaGreatDoor.Pl
set_option linter.all false
open Go.Lib

/-- Reads at least so many tokens, or gives up with an error. -/
def Rd {α : Type} (k : Nat) (ts : List Tok) (x : PR α) : Prop := match x with
  | .ok _ r => r.length + k ≤ ts.length
  | .no _ e => e ≠ 0
theorem Rd.bind {α β : Type} {k j : Nat} {ts : List Tok} {x : PR α} {f : α → List Tok → PR β} (h : Rd k ts x) (hf : ∀ a r, r.length + k ≤ ts.length → Rd j r (f a r)) : Rd (k + j) ts (x.bind f) := by
  cases x with
  | ok a r =>
    have h1 : r.length + k ≤ ts.length := h
    have h2 := hf a r h1
    simp only [PR.bind]
    cases hfr : f a r with
    | ok b r' => rw [hfr] at h2; have h3 : r'.length + j ≤ r.length := h2; show r'.length + (k + j) ≤ ts.length; omega
    | no p e => rw [hfr] at h2; exact h2
  | no p e => exact h
theorem Rd.le {α : Type} {k j : Nat} {ts : List Tok} {x : PR α} (h : Rd k ts x) (hj : j ≤ k) : Rd j ts x := by
  cases x with
  | ok a r => have h1 : r.length + k ≤ ts.length := h; show r.length + j ≤ ts.length; omega
  | no p e => exact h
theorem may_rd {s : List UInt8} {ts r : List Tok} (h : mayF s ts = some r) : r.length + 1 = ts.length := by
  obtain ⟨t, e, -⟩ := may_snd h
  rw [e]; rfl
theorem must_rd (s : List UInt8) (ts : List Tok) : Rd 1 ts (mustF s ts) := by
  unfold mustF
  split
  · rename_i r h; have := may_rd h; show r.length + 1 ≤ ts.length; omega
  · show (11 : Int) ≠ 0; decide
theorem nm_rd (ts : List Tok) : Rd 1 ts (nmF ts) := by
  cases ts with
  | nil => show (11 : Int) ≠ 0; decide
  | cons t r =>
    simp only [nmF]
    split
    · exact Nat.le_refl _
    · show (11 : Int) ≠ 0; decide
theorem one_rd {l : List (List UInt8)} {i j : Nat} {ts r : List Tok} (h : oneF l i ts = some (j, r)) : r.length + 1 = ts.length := by
  obtain ⟨k, s, t, -, -, -, e, -⟩ := one_snd h
  rw [e]; rfl
theorem loop_rd {part : List Tok → PR ExprT} {ops : List Int} {b : Nat} (hp : ∀ ts, ts.length ≤ b → Rd 1 ts (part ts)) : ∀ (n : Nat) (c : ExprT) (ts : List Tok), ts.length ≤ b → ts.length ≤ n → Rd 0 ts (loopF part ops n c ts) := by
  intro n
  induction n with
  | zero =>
    intro c ts hb hn
    have h0 : ts = [] := List.length_eq_zero_iff.1 (by omega)
    subst h0
    have ho : oneF (ops.map signX) 0 [] = none := one_none (fun s _ => rfl) 0
    rw [loop_stop ho]; exact Nat.le_refl _
  | succ n ih =>
    intro c ts hb hn
    cases ho : oneF (ops.map signX) 0 ts with
    | none => rw [loop_stop ho]; exact Nat.le_refl _
    | some p =>
      obtain ⟨i, r1⟩ := p
      have h1 := one_rd ho
      rw [loopF.eq_def]
      simp only [ho]
      have h2 := Rd.bind (j := 0) (hp r1 (by omega)) (fun d r2 h2 => ih (.mk (ops.getD i 0) 0 [] [c, d]) r2 (by omega) (by omega))
      cases hr : ((part r1).bind fun d r' => loopF part ops n (.mk (ops.getD i 0) 0 [] [c, d]) r') with
      | ok a r => rw [hr] at h2; have h3 : r.length + 1 ≤ r1.length := h2; show r.length + 0 ≤ ts.length; omega
      | no p e => rw [hr] at h2; exact h2
theorem expr_rd : ∀ (f l : Nat) (ts : List Tok), l ≤ 5 → 6 * ts.length + 6 ≤ f + l → Rd 1 ts (exprF f l ts) := by
  intro f
  induction f with
  | zero => intro l ts hl h; omega
  | succ f ih =>
    intro l ts hl h
    have lp : ∀ k j, j ≤ 5 → 6 * ts.length + 6 ≤ f + j → Rd 1 ts ((exprF f j ts).bind (fun c r => loopF (exprF f j) (opsK k) r.length c r)) := by
      intro k j hj hf
      refine (Rd.bind (j := 0) (ih j ts hj hf) fun c r h1 => loop_rd (b := r.length) (fun ts' ht => ih j ts' hj (by omega)) r.length c r (Nat.le_refl _) (Nat.le_refl _)).le (by omega)
    match l, hl with
    | 0, _ => exact lp 1 1 (by omega) (by omega)
    | 1, _ => exact lp 2 2 (by omega) (by omega)
    | 3, _ => exact lp 5 4 (by omega) (by omega)
    | 4, _ => exact lp 6 5 (by omega) (by omega)
    | 2, _ =>
      simp only [exprF]
      split
      · rename_i r hm
        have h1 := may_rd hm
        have h2 := Rd.bind (j := 0) (f := fun c r' => PR.ok (ExprT.mk 8 0 [] [c]) r') (ih 2 r (by omega) (by omega)) (fun c r' _ => Nat.le_refl _)
        cases hr : (exprF f 2 r).bind (fun c r' => PR.ok (ExprT.mk 8 0 [] [c]) r') with
        | ok a r2 => rw [hr] at h2; have h3 : r2.length + 1 ≤ r.length := h2; show r2.length + 1 ≤ ts.length; omega
        | no p e => rw [hr] at h2; exact h2
      · refine (Rd.bind (j := 0) (ih 3 ts (by omega) (by omega)) fun c r h1 => ?_).le (by omega)
        split
        · exact Nat.le_refl _
        · rename_i i r' ho
          have h2 := one_rd ho
          have h3 := Rd.bind (j := 0) (f := fun d r'' => PR.ok (ExprT.mk (opsCmp.getD i 0) 0 [] [c, d]) r'') (ih 3 r' (by omega) (by omega)) (fun c r' _ => Nat.le_refl _)
          cases hr : (exprF f 3 r').bind (fun d r'' => PR.ok (ExprT.mk (opsCmp.getD i 0) 0 [] [c, d]) r'') with
          | ok a r2 => rw [hr] at h3; have h4 : r2.length + 1 ≤ r'.length := h3; show r2.length + 0 ≤ r.length; omega
          | no p e => rw [hr] at h3; exact h3
    | 5, _ =>
      simp only [exprF]
      split
      · rename_i r hm
        have h1 := may_rd hm
        have h2 := Rd.bind (j := 0) (f := fun c r' => PR.ok (ExprT.mk 20 0 [] [c]) r') (ih 5 r (by omega) (by omega)) (fun c r' _ => Nat.le_refl _)
        cases hr : (exprF f 5 r).bind (fun c r' => PR.ok (ExprT.mk 20 0 [] [c]) r') with
        | ok a r2 => rw [hr] at h2; have h3 : r2.length + 1 ≤ r.length := h2; show r2.length + 1 ≤ ts.length; omega
        | no p e => rw [hr] at h2; exact h2
      split
      · rename_i r hm
        have h1 := may_rd hm
        have h2 := Rd.bind (j := 0) (f := fun c r' => (mustF [41] r').bind fun _ r'' => PR.ok c r'') (ih 0 r (by omega) (by omega)) (fun c r' _ => (Rd.bind (j := 0) (must_rd [41] r') fun _ _ _ => Nat.le_refl _).le (by omega))
        cases hr : (exprF f 0 r).bind (fun c r' => (mustF [41] r').bind fun _ r'' => PR.ok c r'') with
        | ok a r2 => rw [hr] at h2; have h3 : r2.length + 1 ≤ r.length := h2; show r2.length + 1 ≤ ts.length; omega
        | no p e => rw [hr] at h2; exact h2
      split
      · rename_i r hm
        have h1 := may_rd hm
        have h2 := Rd.bind (j := 0) (f := fun s r' => PR.ok (ExprT.mk 5 0 s []) r') (nm_rd r) (fun c r' _ => Nat.le_refl _)
        cases hr : (nmF r).bind (fun s r' => PR.ok (ExprT.mk 5 0 s []) r') with
        | ok a r2 => rw [hr] at h2; have h3 : r2.length + 1 ≤ r.length := h2; show r2.length + 1 ≤ ts.length; omega
        | no p e => rw [hr] at h2; exact h2
      split
      · rename_i r hm
        have h1 := may_rd hm
        show r.length + 1 ≤ ts.length; omega
      split
      · rename_i r hm
        have h1 := may_rd hm
        show r.length + 1 ≤ ts.length; omega
      cases ts with
      | nil => show (11 : Int) ≠ 0; decide
      | cons t r =>
        simp only
        split
        · exact Nat.le_refl _
        split
        · exact Nat.le_refl _
        · exact (Rd.bind (j := 0) (nm_rd _) fun _ _ _ => Nat.le_refl _).le (by omega)
    | l + 6, h => omega
theorem exprD_rd {f : Nat} {ts : List Tok} (h : 6 * ts.length + 6 ≤ f) : Rd 1 ts (exprD f ts) := by
  unfold exprD
  refine (Rd.bind (j := 0) (expr_rd f 0 ts (by omega) (by omega)) fun c r h1 => ?_).le (by omega)
  split
  · show (20 : Int) ≠ 0; decide
  · exact Nat.le_refl _
theorem decl_rd (o : Bool) (ts : List Tok) : Rd 1 ts (declF o ts) := by
  unfold declF
  refine (Rd.bind (j := 0) (nm_rd ts) fun n r _ => (Rd.bind (j := 0) (must_rd _ r) fun _ r _ => ?_).le (by omega)).le (by omega)
  split
  · show (11 : Int) ≠ 0; decide
  · rename_i i r' ho
    have h1 := one_rd ho
    have h2 := Rd.bind (j := 0) (f := fun _ r => PR.ok (DeclT.mk n (i : Int) o) r) (must_rd [59] r') (fun _ _ _ => Nat.le_refl _)
    cases hr : (mustF [59] r').bind (fun _ r => PR.ok (DeclT.mk n (i : Int) o) r) with
    | ok a r2 => rw [hr] at h2; have h3 : r2.length + 1 ≤ r'.length := h2; show r2.length + 0 ≤ r.length; omega
    | no p e => rw [hr] at h2; exact h2
theorem if_rd {f : Nat} {ts : List Tok} (h : 6 * ts.length + 6 ≤ f) : Rd 0 ts (ifF f ts) := by
  unfold ifF
  split
  · exact Nat.le_refl _
  · rename_i r hm
    have h1 := may_rd hm
    have h2 := exprD_rd (f := f) (ts := r) (by omega)
    cases hr : exprD f r with
    | ok a r2 => rw [hr] at h2; have h3 : r2.length + 1 ≤ r.length := h2; show r2.length + 0 ≤ ts.length; omega
    | no p e => rw [hr] at h2; exact h2
theorem rule_rd {f : Nat} {ts : List Tok} (h : 6 * ts.length + 6 ≤ f) : Rd 1 ts (ruleF f ts) := by
  unfold ruleF
  refine (Rd.bind (j := 0) (nm_rd ts) fun n r h0 => ?_).le (by omega)
  cases r with
  | nil => show (11 : Int) ≠ 0; decide
  | cons t r =>
    simp only [List.length_cons] at h0
    simp only
    split
    · have h2 : Rd 1 r ((mustF [58] r).bind fun _ r => (ifF f r).bind fun c r => (mustF wThen r).bind fun _ r => (nmF r).bind fun g r => (mustF [61] r).bind fun _ r => (exprD f r).bind fun e r => (mustF [59] r).bind fun _ r => PR.ok (RuleT.mk n t.n c g e) r) := by
        refine (Rd.bind (j := 0) (must_rd _ r) fun _ r1 h1 => (Rd.bind (j := 0) (if_rd (by omega)) fun c r2 h2 => (Rd.bind (j := 0) (must_rd _ r2) fun _ r3 h3 => (Rd.bind (j := 0) (nm_rd r3) fun g r4 h4 => (Rd.bind (j := 0) (must_rd _ r4) fun _ r5 h5 => (Rd.bind (j := 0) (exprD_rd (by omega)) fun e r6 h6 => (Rd.bind (j := 0) (must_rd _ r6) fun _ r7 h7 => Nat.le_refl _).le (by omega)).le (by omega)).le (by omega)).le (by omega)).le (by omega)).le (by omega)).le (by omega)
      cases hr : ((mustF [58] r).bind fun _ r => (ifF f r).bind fun c r => (mustF wThen r).bind fun _ r => (nmF r).bind fun g r => (mustF [61] r).bind fun _ r => (exprD f r).bind fun e r => (mustF [59] r).bind fun _ r => PR.ok (RuleT.mk n t.n c g e) r) with
      | ok a r2 => rw [hr] at h2; have h3 : r2.length + 1 ≤ r.length := h2; show r2.length + 0 ≤ (t :: r).length; simp; omega
      | no p e => rw [hr] at h2; exact h2
    · show (11 : Int) ≠ 0; decide
theorem items_rd {f : Nat} : ∀ (g n : Nat) (T : TheoryT) (ts : List Tok), 6 * ts.length + 6 ≤ f → n + g = 101 → n ≤ 100 → Rd 0 ts (itemsF f g n T ts) := by
  intro g
  induction g with
  | zero => intro n T ts _ h1 h2; omega
  | succ g ih =>
    intro n T ts hf h1 h2
    cases ts with
    | nil => rw [itemsF.eq_def]; show (11 : Int) ≠ 0; decide
    | cons t r =>
      simp only [List.length_cons] at hf
      rw [itemsF.eq_def]
      simp only
      split
      · exact Nat.le_refl _
      split
      · show (11 : Int) ≠ 0; decide
      split
      · show (9 : Int) ≠ 0; decide
      rename_i h3
      have lift : ∀ {x : PR TheoryT}, Rd 1 r x → Rd 0 (t :: r) x := fun {x} h => by
        cases x with
        | ok a r2 => have h3 : r2.length + 1 ≤ r.length := h; show r2.length + 0 ≤ (t :: r).length; simp; omega
        | no p e => exact h
      split
      · exact lift ((Rd.bind (j := 0) (rule_rd (by omega)) fun x r' h4 => ih (n + 1) _ r' (by omega) (by omega) (by omega)).le (by omega))
      · exact lift ((Rd.bind (j := 0) (decl_rd _ r) fun x r' h4 => ih (n + 1) _ r' (by omega) (by omega) (by omega)).le (by omega))
theorem parse_err {l : List UInt8} {p : Nat} {e : Int} (h : parseF l = .no p e) : e ≠ 0 := by
  unfold parseF at h
  split at h
  · injection h with _ h; subst h; decide
  · have hn := lexL_len l
    have h1 := items_rd (f := fuelL l) 101 0 theory0 (lexL l) (by unfold fuelL; omega) rfl (by omega)
    rw [h] at h1; exact h1
theorem parseE_err {l : List UInt8} {p : Nat} {e : Int} (h : parseE l = .no p e) : e ≠ 0 := by
  unfold parseE at h
  split at h
  · injection h with _ h; subst h; decide
  · have hn := lexL_len l
    have h1 := Rd.bind (j := 0) (f := fun e r => (overF r).bind fun _ r => PR.ok e r) (exprD_rd (f := fuelL l) (ts := lexL l) (by unfold fuelL; omega)) (fun c r _ => by
      cases r with
      | nil => show (11 : Int) ≠ 0; decide
      | cons t r =>
        simp only [overF]
        split
        · exact Nat.le_refl _
        · show (11 : Int) ≠ 0; decide)
    rw [h] at h1; exact h1
end Go.Proofs.YtnjlggleaocbdaaGreatDoor.Pl
