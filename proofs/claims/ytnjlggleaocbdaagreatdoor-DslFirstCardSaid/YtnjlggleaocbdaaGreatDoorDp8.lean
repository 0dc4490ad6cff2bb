/-
  Plain: where a text is refused at a line, all ahead of that line is read, but for what its end lacks.
-/
import Derived.Test.YtnjlggleaocbdaaGreatDoorDp7
namespace Go.Proofs.YtnjlggleaocbdaaGreatDoor.Pl
set_option linter.all false
open Go.Lib

/-- A token that nothing takes: the end, or what is none. -/
def Dead (v : Tok) : Prop := v.k = 101 ∨ v.k = 33
/-- Read up to the dead token, or given up there. -/
def Th {α : Type} (v : Tok) (Y : PR α) : Prop := (∃ b, Y = .ok b [v]) ∨ (∃ e, Y = .no v.p e) ∨ Y = .no 0 0
/-- Two readings of the same tokens with other ends behind. -/
def Cu {α : Type} (n : Nat) (v : Tok) (B : List Tok) (k : Nat) (X Y : PR α) : Prop :=
  (∃ a C, C ≠ [] ∧ C.length ≤ k ∧ (∀ t ∈ C, t.p < n) ∧ X = .ok a (C ++ B) ∧ Y = .ok a (C ++ [v])) ∨ (∃ p e, p < n ∧ X = .no p e ∧ Y = .no p e) ∨ Th v Y
theorem Cu.le {α : Type} {n : Nat} {v : Tok} {B : List Tok} {k j : Nat} {X Y : PR α} (h : Cu n v B k X Y) (hj : k ≤ j) : Cu n v B j X Y := by
  rcases h with ⟨a, C, h1, h2, h3⟩ | h | h
  · exact .inl ⟨a, C, h1, by omega, h3⟩
  · exact .inr (.inl h)
  · exact .inr (.inr h)
structure Pc {α : Type} (n : Nat) (v : Tok) (B : List Tok) (b : Nat) (P P' : List Tok → PR α) : Prop where
  base : Th v (P' [v])
  cut : ∀ C, C ≠ [] → C.length ≤ b → (∀ t ∈ C, t.p < n) → Cu n v B C.length (P (C ++ B)) (P' (C ++ [v]))
section
variable {α β : Type} {n : Nat} {v : Tok} {B : List Tok} {b : Nat}
theorem Pc.all {P P' : List Tok → PR α} (h : Pc n v B b P P') (C : List Tok) (hb : C.length ≤ b) (hC : ∀ t ∈ C, t.p < n) : Cu n v B C.length (P (C ++ B)) (P' (C ++ [v])) := by
  by_cases h0 : C = []
  · subst h0; exact .inr (.inr h.base)
  · exact h.cut C h0 hb hC
theorem Pc.le {P P' : List Tok → PR α} {c : Nat} (h : Pc n v B b P P') (hc : c ≤ b) : Pc n v B c P P' := ⟨h.base, fun C h1 h2 h3 => h.cut C h1 (by omega) h3⟩
theorem Pc.bind {P P' : List Tok → PR α} {g g' : α → List Tok → PR β} (h : Pc n v B b P P') (hg : ∀ a, Pc n v B b (g a) (g' a)) : Pc n v B b (fun ts => (P ts).bind g) (fun ts => (P' ts).bind g') := by
  have th : ∀ Y : PR α, Th v Y → Th v (Y.bind g') := fun Y hY => by
    rcases hY with ⟨a, e⟩ | ⟨er, e⟩ | e
    · rw [e]; exact (hg a).base
    · rw [e]; exact .inr (.inl ⟨er, rfl⟩)
    · rw [e]; exact .inr (.inr rfl)
  refine ⟨th _ h.base, fun C h0 hb hC => ?_⟩
  rcases h.cut C h0 hb hC with ⟨a, C', h1, h2, h3, h4, h5⟩ | ⟨p, e, h1, h2, h3⟩ | h1
  · simp only [h4, h5, PR.bind]
    exact ((hg a).cut C' h1 (by omega) h3).le h2
  · simp only [h2, h3, PR.bind]
    exact .inr (.inl ⟨p, e, h1, rfl, rfl⟩)
  · exact .inr (.inr (th _ h1))
theorem dead_may (hv : Dead v) (s : List UInt8) : mayF s [v] = none := by
  have hk : isT v s = false := by unfold isT; rcases hv with e | e <;> rw [e] <;> simp
  simp only [mayF, hk]; rfl
theorem Pc.ok (a : α) : Pc n v B b (fun ts => PR.ok a ts) (fun ts => PR.ok a ts) :=
  ⟨.inl ⟨a, rfl⟩, fun C h0 hb hC => .inl ⟨a, C, h0, Nat.le_refl _, hC, rfl, rfl⟩⟩
theorem Pc.may (hv : Dead v) {s : List UInt8} {P P' Q Q' : List Tok → PR α} (hP : 1 ≤ b → Pc n v B (b - 1) P P') (hQ : Pc n v B b Q Q') :
    Pc n v B b (fun ts => match mayF s ts with | some r => P r | none => Q ts) (fun ts => match mayF s ts with | some r => P' r | none => Q' ts) := by
  refine ⟨by simp only [dead_may hv]; exact hQ.base, fun C h0 hb hC => ?_⟩
  cases C with
  | nil => exact absurd rfl h0
  | cons t C =>
    simp only [List.length_cons] at hb
    cases ht : isT t s with
    | true =>
      simp only [List.cons_append, mayF, ht, if_true]
      exact ((hP (by omega)).all C (by omega) (fun u hu => hC u (by simp [hu]))).le (by simp)
    | false =>
      simp only [List.cons_append, mayF, ht, Bool.false_eq_true, if_false]
      exact hQ.cut (t :: C) h0 (by simp; omega) hC
theorem Pc.mayN (hv : Dead v) {s : List UInt8} {P P' Q Q' : List Tok → PR α} (hP : 1 ≤ b → Pc n v B (b - 1) P P') (hQ : Pc n v B b Q Q') :
    Pc n v B b (fun ts => match mayF s ts with | none => Q ts | some r => P r) (fun ts => match mayF s ts with | none => Q' ts | some r => P' r) := by
  have h := Pc.may (s := s) hv hP hQ
  have e : ∀ (P Q : List Tok → PR α), (fun ts => match mayF s ts with | none => Q ts | some r => P r) = (fun ts => match mayF s ts with | some r => P r | none => Q ts) := fun P Q => by
    funext ts; cases mayF s ts <;> rfl
  rw [e P Q, e P' Q']; exact h
theorem Pc.must (hv : Dead v) (s : List UInt8) : Pc n v B b (mustF s) (mustF s) := by
  have h := Pc.may (n := n) (v := v) (B := B) (b := b) (s := s) (P := fun ts => PR.ok () ts) (P' := fun ts => PR.ok () ts) (Q := fun ts => PR.no (headP ts) 11) (Q' := fun ts => PR.no (headP ts) 11) hv (fun _ => Pc.ok ()) ⟨.inr (.inl ⟨11, rfl⟩), fun C h0 hb hC => by
    cases C with
    | nil => exact absurd rfl h0
    | cons t C => exact .inr (.inl ⟨t.p, 11, hC t (by simp), rfl, rfl⟩)⟩
  have e : mustF s = (fun ts => match mayF s ts with | some r => PR.ok () r | none => PR.no (headP ts) 11) := by
    funext ts; unfold mustF; cases mayF s ts <;> rfl
  rw [e]; exact h
theorem dead_nm (hv : Dead v) : nmF [v] = .no v.p 11 := by
  have hk : isNm v = false := by unfold isNm; rcases hv with e | e <;> rw [e] <;> simp
  simp only [nmF, hk]; rfl
theorem Pc.nm (hv : Dead v) : Pc n v B b nmF nmF := by
  refine ⟨by rw [dead_nm hv]; exact .inr (.inl ⟨11, rfl⟩), fun C h0 hb hC => ?_⟩
  cases C with
  | nil => exact absurd rfl h0
  | cons t C =>
    simp only [List.cons_append, nmF]
    cases ht : isNm t with
    | true =>
      simp only [if_true]
      by_cases hc : C = []
      · subst hc; exact .inr (.inr (.inl ⟨t.s, rfl⟩))
      · exact .inl ⟨t.s, C, hc, by simp, fun u hu => hC u (by simp [hu]), rfl, rfl⟩
    | false =>
      simp only [Bool.false_eq_true, if_false]
      exact .inr (.inl ⟨t.p, 11, hC t (by simp), rfl, rfl⟩)
theorem one_head : ∀ (l : List (List UInt8)) (i : Nat) (t : Tok), (∀ R, oneF l i (t :: R) = none) ∨ ∃ j, ∀ R, oneF l i (t :: R) = some (j, R)
  | [], i, t => .inl fun R => rfl
  | s :: l, i, t => by
    by_cases hs : s = []
    · rcases one_head l (i + 1) t with h | ⟨j, h⟩
      · exact .inl fun R => by rw [oneF, if_pos hs]; exact h R
      · exact .inr ⟨j, fun R => by rw [oneF, if_pos hs]; exact h R⟩
    · cases ht : isT t s with
      | true => exact .inr ⟨i, fun R => by rw [oneF, if_neg hs]; simp only [mayF, ht, if_true]⟩
      | false =>
        rcases one_head l (i + 1) t with h | ⟨j, h⟩
        · exact .inl fun R => by rw [oneF, if_neg hs]; simp only [mayF, ht, Bool.false_eq_true, if_false]; exact h R
        · exact .inr ⟨j, fun R => by rw [oneF, if_neg hs]; simp only [mayF, ht, Bool.false_eq_true, if_false]; exact h R⟩
theorem dead_one (hv : Dead v) (l : List (List UInt8)) (i : Nat) : oneF l i [v] = none := one_none (fun s _ => dead_may hv s) i
theorem Pc.one (hv : Dead v) {l : List (List UInt8)} {P P' : Nat → List Tok → PR α} {Q Q' : List Tok → PR α} (hP : 1 ≤ b → ∀ i, Pc n v B (b - 1) (P i) (P' i)) (hQ : Pc n v B b Q Q') :
    Pc n v B b (fun ts => match oneF l 0 ts with | none => Q ts | some (i, r) => P i r) (fun ts => match oneF l 0 ts with | none => Q' ts | some (i, r) => P' i r) := by
  refine ⟨by simp only [dead_one hv]; exact hQ.base, fun C h0 hb hC => ?_⟩
  cases C with
  | nil => exact absurd rfl h0
  | cons t C =>
    simp only [List.length_cons] at hb
    rcases one_head l 0 t with h | ⟨j, h⟩
    · simp only [List.cons_append, h]
      exact hQ.cut (t :: C) h0 (by simp; omega) hC
    · simp only [List.cons_append, h]
      exact ((hP (by omega) j).all C (by omega) (fun u hu => hC u (by simp [hu]))).le (by simp)
theorem loop_cu (hv : Dead v) {part part' : List Tok → PR ExprT} {ops : List Int} (hp : Pc n v B b part part') : ∀ (k m c : Nat) (e : ExprT) (C : List Tok), C.length ≤ c → C.length ≤ k → C.length ≤ m → C.length ≤ b + 1 → (∀ t ∈ C, t.p < n) → Cu n v B C.length (loopF part ops k e (C ++ B)) (loopF part' ops m e (C ++ [v])) := by
  intro k m c
  induction c generalizing k m with
  | zero =>
    intro e C hc _ _ _ _
    have h0 : C = [] := List.length_eq_zero_iff.1 (by omega)
    subst h0
    exact .inr (.inr (.inl ⟨e, loop_stop (dead_one hv _ 0)⟩))
  | succ c ih =>
    intro e C hc hk hm hb hC
    cases C with
    | nil => exact .inr (.inr (.inl ⟨e, loop_stop (dead_one hv _ 0)⟩))
    | cons t C =>
      simp only [List.length_cons] at hc hk hm hb
      rcases one_head (ops.map signX) 0 t with h | ⟨j, h⟩
      · rw [List.cons_append, List.cons_append, loop_stop (h _), loop_stop (h _)]
        exact .inl ⟨e, t :: C, by simp, Nat.le_refl _, hC, rfl, rfl⟩
      · obtain ⟨k, rfl⟩ : ∃ g, k = g + 1 := ⟨k - 1, by omega⟩
        obtain ⟨m, rfl⟩ : ∃ g, m = g + 1 := ⟨m - 1, by omega⟩
        rw [List.cons_append, List.cons_append, loopF.eq_def, loopF.eq_def part']
        simp only [h]
        have hC' : ∀ u ∈ C, u.p < n := fun u hu => hC u (by simp [hu])
        rcases hp.all C (by omega) hC' with ⟨a, C', h1, h2, h3, h4, h5⟩ | ⟨p, er, h1, h2, h3⟩ | h1
        · simp only [h4, h5, PR.bind]
          exact (ih k m (.mk (ops.getD j 0) 0 [] [e, a]) C' (by omega) (by omega) (by omega) (by omega) h3).le (by simp; omega)
        · simp only [h2, h3, PR.bind]
          exact .inr (.inl ⟨p, er, h1, rfl, rfl⟩)
        · refine .inr (.inr ?_)
          rcases h1 with ⟨a, e1⟩ | ⟨er, e1⟩ | e1
          · simp only [e1, PR.bind]
            exact .inl ⟨_, loop_stop (dead_one hv _ 0)⟩
          · simp only [e1, PR.bind]; exact .inr (.inl ⟨er, rfl⟩)
          · simp only [e1, PR.bind]; exact .inr (.inr rfl)
theorem expr_pc (hv : Dead v) : ∀ (f f' l b : Nat), l ≤ 5 → 6 * b + 6 ≤ f + l → 6 * b + 6 ≤ f' + l → Pc n v B b (exprF f l) (exprF f' l) := by
  intro f
  induction f with
  | zero => intro f' l b hl h; omega
  | succ f ih =>
    intro f' l b hl h h'
    obtain ⟨f', rfl⟩ : ∃ g, f' = g + 1 := ⟨f' - 1, by omega⟩
    have lp : ∀ k j, Pc n v B b (exprF f j) (exprF f' j) → Pc n v B b (fun ts => (exprF f j ts).bind (fun c r => loopF (exprF f j) (opsK k) r.length c r)) (fun ts => (exprF f' j ts).bind (fun c r => loopF (exprF f' j) (opsK k) r.length c r)) := by
      intro k j hp
      refine Pc.bind hp fun a => ⟨.inl ⟨a, loop_stop (dead_one hv _ 0)⟩, fun C h0 hb hC => ?_⟩
      exact loop_cu hv hp _ _ C.length a C (Nat.le_refl _) (by simp) (by simp) (by omega) hC
    match l, hl with
    | 0, _ => exact lp 1 1 (ih f' 1 b (by omega) (by omega) (by omega))
    | 1, _ => exact lp 2 2 (ih f' 2 b (by omega) (by omega) (by omega))
    | 3, _ => exact lp 5 4 (ih f' 4 b (by omega) (by omega) (by omega))
    | 4, _ => exact lp 6 5 (ih f' 5 b (by omega) (by omega) (by omega))
    | 2, _ =>
      have e : ∀ f, exprF (f + 1) 2 = fun ts => match mayF wNot ts with
        | some r => (exprF f 2 r).bind fun c r' => .ok (.mk 8 0 [] [c]) r'
        | none => (exprF f 3 ts).bind fun c r => match oneF (opsCmp.map signX) 0 r with
          | none => .ok c r
          | some (i, r') => (exprF f 3 r').bind fun d r'' => .ok (.mk (opsCmp.getD i 0) 0 [] [c, d]) r'' := fun f => by funext ts; simp only [exprF]; rfl
      rw [e f, e f']
      refine Pc.may hv (fun hb => Pc.bind (ih f' 2 (b - 1) (by omega) (by omega) (by omega)) fun c => Pc.ok _) ?_
      exact Pc.bind (ih f' 3 b (by omega) (by omega) (by omega)) fun c => Pc.one hv (fun hb i => Pc.bind (ih f' 3 (b - 1) (by omega) (by omega) (by omega)) fun d => Pc.ok _) (Pc.ok c)
    | 5, _ =>
      have e : ∀ f, exprF (f + 1) 5 = fun ts => match mayF [45] ts with
        | some r => (exprF f 5 r).bind fun c r' => .ok (.mk 20 0 [] [c]) r'
        | none => match mayF [40] ts with
          | some r => (exprF f 0 r).bind fun c r' => (mustF [41] r').bind fun _ r'' => .ok c r''
          | none => match mayF wKnown ts with
            | some r => (nmF r).bind fun s r' => .ok (.mk 5 0 s []) r'
            | none => match mayF wTrue ts with
              | some r => .ok (.mk 3 1 [] []) r
              | none => match mayF wFalse ts with
                | some r => .ok (.mk 3 0 [] []) r
                | none => match ts with
                  | [] => .no 0 11
                  | t :: r => if t.k = 110 then .ok (.mk 1 t.n [] []) r else if t.k = 116 then .ok (.mk 2 0 t.s []) r else (nmF (t :: r)).bind fun s r' => .ok (.mk 4 0 s []) r' := fun f => by funext ts; simp only [exprF]; rfl
      rw [e f, e f']
      have last : Pc n v B b (fun ts => match ts with
                  | [] => (.no 0 11 : PR ExprT)
                  | t :: r => if t.k = 110 then .ok (.mk 1 t.n [] []) r else if t.k = 116 then .ok (.mk 2 0 t.s []) r else (nmF (t :: r)).bind fun s r' => .ok (.mk 4 0 s []) r') (fun ts => match ts with
                  | [] => (.no 0 11 : PR ExprT)
                  | t :: r => if t.k = 110 then .ok (.mk 1 t.n [] []) r else if t.k = 116 then .ok (.mk 2 0 t.s []) r else (nmF (t :: r)).bind fun s r' => .ok (.mk 4 0 s []) r') := by
        have hn : Pc n v B b (fun ts => (nmF ts).bind fun s r' => PR.ok (ExprT.mk 4 0 s []) r') (fun ts => (nmF ts).bind fun s r' => PR.ok (ExprT.mk 4 0 s []) r') := Pc.bind (Pc.nm hv) fun s => Pc.ok _
        refine ⟨?_, fun C h0 hb hC => ?_⟩
        · have h1 : ¬ v.k = 110 := by rcases hv with e | e <;> rw [e] <;> decide
          have h2 : ¬ v.k = 116 := by rcases hv with e | e <;> rw [e] <;> decide
          simp only [if_neg h1, if_neg h2]
          exact hn.base
        · cases C with
          | nil => exact absurd rfl h0
          | cons t C =>
            have ok1 : ∀ a : ExprT, Cu n v B (t :: C).length (PR.ok a (C ++ B)) (PR.ok a (C ++ [v])) := fun a => by
              by_cases hc : C = []
              · subst hc; exact .inr (.inr (.inl ⟨a, rfl⟩))
              · exact .inl ⟨a, C, hc, by simp, fun u hu => hC u (by simp [hu]), rfl, rfl⟩
            simp only [List.cons_append]
            by_cases h1 : t.k = 110
            · simp only [if_pos h1]; exact ok1 _
            · simp only [if_neg h1]
              by_cases h2 : t.k = 116
              · simp only [if_pos h2]; exact ok1 _
              · simp only [if_neg h2]
                exact hn.cut (t :: C) h0 hb hC
      exact Pc.may hv (fun hb => Pc.bind (ih f' 5 (b - 1) (by omega) (by omega) (by omega)) fun c => Pc.ok _)
        (Pc.may hv (fun hb => Pc.bind (ih f' 0 (b - 1) (by omega) (by omega) (by omega)) fun c => Pc.bind (Pc.must hv _) fun _ => Pc.ok _)
        (Pc.may hv (fun hb => Pc.bind (Pc.nm hv) fun s => Pc.ok _)
        (Pc.may hv (fun hb => Pc.ok _) (Pc.may hv (fun hb => Pc.ok _) last))))
    | l + 6, h => omega
theorem exprD_pc (hv : Dead v) {f f' : Nat} (h : 6 * b + 6 ≤ f) (h' : 6 * b + 6 ≤ f') : Pc n v B b (exprD f) (exprD f') := by
  refine Pc.bind (expr_pc hv f f' 0 b (by omega) (by omega) (by omega)) fun c => ?_
  refine ⟨?_, fun C h0 hb hC => ?_⟩
  · by_cases hd : 32 < depthE c
    · simp only [if_pos hd]; exact .inr (.inl ⟨20, rfl⟩)
    · simp only [if_neg hd]; exact .inl ⟨c, rfl⟩
  · by_cases hd : 32 < depthE c
    · simp only [if_pos hd]
      cases C with
      | nil => exact absurd rfl h0
      | cons t C => exact .inr (.inl ⟨t.p, 20, hC t (by simp), rfl, rfl⟩)
    · simp only [if_neg hd]; exact .inl ⟨c, C, h0, Nat.le_refl _, hC, rfl, rfl⟩
theorem decl_pc (hv : Dead v) (o : Bool) : Pc n v B b (declF o) (declF o) := by
  refine Pc.bind (Pc.nm hv) fun nm => Pc.bind (Pc.must hv _) fun _ => Pc.one hv (fun hb i => Pc.bind (Pc.must hv _) fun _ => Pc.ok _) ?_
  refine ⟨.inr (.inl ⟨11, rfl⟩), fun C h0 hb hC => ?_⟩
  cases C with
  | nil => exact absurd rfl h0
  | cons t C => exact .inr (.inl ⟨t.p, 11, hC t (by simp), rfl, rfl⟩)
theorem if_pc (hv : Dead v) {f f' : Nat} (h : 6 * b + 6 ≤ f) (h' : 6 * b + 6 ≤ f') : Pc n v B b (ifF f) (ifF f') :=
  Pc.mayN hv (fun hb => exprD_pc hv (by omega) (by omega)) (Pc.ok expr0)
theorem rule_pc (hv : Dead v) {f f' : Nat} (h : 6 * b + 6 ≤ f) (h' : 6 * b + 6 ≤ f') : Pc n v B b (ruleF f) (ruleF f') := by
  have tail : ∀ (nm : List UInt8) (t : Tok), Pc n v B b (fun r => (mustF [58] r).bind fun _ r => (ifF f r).bind fun c r => (mustF wThen r).bind fun _ r => (nmF r).bind fun g r => (mustF [61] r).bind fun _ r => (exprD f r).bind fun e r => (mustF [59] r).bind fun _ r => PR.ok (RuleT.mk nm t.n c g e) r)
      (fun r => (mustF [58] r).bind fun _ r => (ifF f' r).bind fun c r => (mustF wThen r).bind fun _ r => (nmF r).bind fun g r => (mustF [61] r).bind fun _ r => (exprD f' r).bind fun e r => (mustF [59] r).bind fun _ r => PR.ok (RuleT.mk nm t.n c g e) r) := fun nm t =>
    Pc.bind (Pc.must hv _) fun _ => Pc.bind (if_pc hv h h') fun c => Pc.bind (Pc.must hv _) fun _ => Pc.bind (Pc.nm hv) fun g => Pc.bind (Pc.must hv _) fun _ => Pc.bind (exprD_pc hv h h') fun e => Pc.bind (Pc.must hv _) fun _ => Pc.ok _
  refine Pc.bind (Pc.nm hv) fun nm => ⟨?_, fun C h0 hb hC => ?_⟩
  · have h1 : ¬ v.k = 110 := by rcases hv with e | e <;> rw [e] <;> decide
    simp only [if_neg h1]; exact .inr (.inl ⟨11, rfl⟩)
  · cases C with
    | nil => exact absurd rfl h0
    | cons t C =>
      simp only [List.length_cons] at hb
      simp only [List.cons_append]
      by_cases h1 : t.k = 110
      · simp only [if_pos h1]
        exact ((tail nm t).all C (by omega) (fun u hu => hC u (by simp [hu]))).le (by simp)
      · simp only [if_neg h1]
        exact .inr (.inl ⟨t.p, 11, hC t (by simp), rfl, rfl⟩)
theorem items_pc (hv : Dead v) (hn : 1 ≤ n) {f f' : Nat} (h : 6 * b + 6 ≤ f) (h' : 6 * b + 6 ≤ f') : ∀ (g k : Nat) (T : TheoryT), Pc n v B b (itemsF f g k T) (itemsF f' g k T) := by
  intro g
  have base : ∀ (g k : Nat) (T : TheoryT), Th v (itemsF f' g k T [v]) := fun g k T => by
    rw [itemsF.eq_def]
    simp only
    rcases hv with e | e
    · rw [if_pos e]; exact .inl ⟨T, rfl⟩
    · rw [if_neg (by rw [e]; decide), if_pos (by rw [e]; simp)]; exact .inr (.inl ⟨11, rfl⟩)
  induction g with
  | zero =>
    intro k T
    refine ⟨base 0 k T, fun C h0 hb hC => ?_⟩
    cases C with
    | nil => exact absurd rfl h0
    | cons t C =>
      rw [List.cons_append, List.cons_append, itemsF.eq_def, itemsF.eq_def f']
      simp only
      by_cases h1 : t.k = 101
      · simp only [if_pos h1]; exact .inl ⟨T, t :: C, by simp, Nat.le_refl _, hC, rfl, rfl⟩
      simp only [if_neg h1]
      by_cases h2 : ¬ (t.k = 119 ∧ (t.s = wInput ∨ t.s = wOutput ∨ t.s = wRule))
      · simp only [if_pos h2]; exact .inr (.inl ⟨t.p, 11, hC t (by simp), rfl, rfl⟩)
      simp only [if_neg h2]
      by_cases h3 : k = 100
      · simp only [if_pos h3]; exact .inr (.inl ⟨t.p, 9, hC t (by simp), rfl, rfl⟩)
      simp only [if_neg h3]
      exact .inr (.inl ⟨0, 0, by omega, rfl, rfl⟩)
  | succ g ih =>
    intro k T
    refine ⟨base (g + 1) k T, fun C h0 hb hC => ?_⟩
    cases C with
    | nil => exact absurd rfl h0
    | cons t C =>
      have hC' : ∀ u ∈ C, u.p < n := fun u hu => hC u (by simp [hu])
      simp only [List.length_cons] at hb
      rw [List.cons_append, List.cons_append, itemsF.eq_def, itemsF.eq_def f']
      simp only
      by_cases h1 : t.k = 101
      · simp only [if_pos h1]; exact .inl ⟨T, t :: C, by simp, Nat.le_refl _, hC, rfl, rfl⟩
      simp only [if_neg h1]
      by_cases h2 : ¬ (t.k = 119 ∧ (t.s = wInput ∨ t.s = wOutput ∨ t.s = wRule))
      · simp only [if_pos h2]; exact .inr (.inl ⟨t.p, 11, hC t (by simp), rfl, rfl⟩)
      simp only [if_neg h2]
      by_cases h3 : k = 100
      · simp only [if_pos h3]; exact .inr (.inl ⟨t.p, 9, hC t (by simp), rfl, rfl⟩)
      simp only [if_neg h3]
      by_cases h4 : t.s = wRule
      · simp only [if_pos h4]
        exact ((Pc.bind (rule_pc hv h h') fun x => ih (k + 1) ⟨T.decls, T.rules ++ [x]⟩).all C (by omega) hC').le (by simp)
      · simp only [if_neg h4]
        exact ((Pc.bind (decl_pc hv (decide (t.s = wOutput))) fun x => ih (k + 1) ⟨T.decls ++ [x], T.rules⟩).all C (by omega) hC').le (by simp)
end
theorem lex_last : ∀ (f p : Nat) (l : List UInt8), l.length + 1 ≤ f → ∃ A v, lexF f p l = A ++ [v] ∧ Dead v := by
  intro f
  induction f with
  | zero => intro p l h; omega
  | succ f ih =>
    intro p l h
    simp only [lexF]
    generalize hsk : skipF false p l = qr
    obtain ⟨q, r⟩ := qr
    have h1 := skip_len _ _ _ _ _ hsk
    cases r with
    | nil => exact ⟨[], _, rfl, .inl rfl⟩
    | cons c r =>
      simp only [List.length_cons] at h1
      obtain ⟨-, -, k3, k4⟩ := next_ok c r q
      simp only
      by_cases hk : (nextF c r).1.k = 33
      · rw [if_pos hk]; exact ⟨[], _, rfl, .inr hk⟩
      · rw [if_neg hk]
        obtain ⟨A, v, e, hv⟩ := ih q ((c :: r).drop (nextF c r).2) (by rw [List.length_drop, List.length_cons]; omega)
        exact ⟨_ :: A, v, by rw [e]; rfl, hv⟩
/-- Ahead of the line at which a text is refused all is fine, but for what the end lacks. -/
theorem parse_first {F B : List UInt8} {e : Int} (hF : Whole F) (h : parseF (F ++ B) = .no (1 + nls F) e) (hl : (F ++ B).length ≤ 65536) : (∃ T r, parseF F = .ok T r) ∨ ∃ e', parseF F = .no (1 + nls F) e' := by
  have hlen : (F ++ B).length = F.length + B.length := List.length_append
  have key : ∀ Y : PR TheoryT, Y = parseF F → (∃ b r, Y = .ok b r) ∨ (∃ e, Y = .no (1 + nls F) e) ∨ Y = .no 0 0 → (∃ T r, parseF F = .ok T r) ∨ ∃ e', parseF F = .no (1 + nls F) e' := by
    intro Y hY h
    rcases h with ⟨b, r, e⟩ | ⟨er, e⟩ | e
    · exact .inl ⟨b, r, by rw [← hY, e]⟩
    · exact .inr ⟨er, by rw [← hY, e]⟩
    · exact absurd rfl (parse_err (l := F) (by rw [← hY, e]))
  unfold parseF at h
  rw [if_neg (by omega)] at h
  obtain ⟨A, hA, hAB⟩ := lex_cut ((F ++ B).length + 1) (F.length + 1) 1 F B hF (by omega) (Nat.le_refl _)
  have hpF : parseF F = itemsF (fuelL F) 101 0 theory0 (lexL F) := by unfold parseF; rw [if_neg (by omega)]
  have hAl : A.length ≤ F.length + 1 := by
    have h1 := lexL_len F
    rcases hAB with ⟨g, -, -, k2⟩ | ⟨-, k2⟩
    · have : lexL F = A ++ [⟨101, [], 0, 1 + nls F⟩] := k2
      rw [this] at h1; simp at h1; omega
    · have : lexL F = A := k2
      rw [this] at h1; exact h1
  rcases hAB with ⟨g, g1, k1, k2⟩ | ⟨k1, k2⟩
  · have e1 : lexL (F ++ B) = A ++ lexF g (1 + nls F) B := k1
    have e2 : lexL F = A ++ [⟨101, [], 0, 1 + nls F⟩] := k2
    have hAl2 : A.length ≤ F.length := by
      have h1 := lexL_len F
      rw [e2] at h1; simp at h1; exact h1
    refine key _ hpF.symm ?_
    have hc := (items_pc (n := 1 + nls F) (v := ⟨101, [], 0, 1 + nls F⟩) (B := lexF g (1 + nls F) B) (b := F.length) (.inl rfl) (by omega) (f := fuelL (F ++ B)) (f' := fuelL F) (by unfold fuelL; omega) (by unfold fuelL; omega) 101 0 theory0).all A hAl2 hA
    rw [← e1, ← e2] at hc
    rcases hc with ⟨a, C, -, -, -, h4, -⟩ | ⟨p, er, h1, h2, h3⟩ | h1
    · rw [h4] at h; cases h
    · rw [h2] at h; injection h with h _; omega
    · rcases h1 with ⟨b, e⟩ | ⟨er, e⟩ | e
      · exact .inl ⟨b, _, e⟩
      · exact .inr (.inl ⟨er, e⟩)
      · exact .inr (.inr e)
  · exfalso
    have e1 : lexL (F ++ B) = A := k1
    obtain ⟨A', v, e3, hv⟩ := lex_last ((F ++ B).length + 1) 1 (F ++ B) (Nat.le_refl _)
    have e4 : A = A' ++ [v] := by rw [← e1]; exact e3
    have hA' : ∀ t ∈ A', t.p < 1 + nls F := fun t ht => hA t (by rw [e4]; simp [ht])
    have hvp : v.p < 1 + nls F := hA v (by rw [e4]; simp)
    have hAl3 : A'.length ≤ F.length := by rw [e4] at hAl; simp at hAl; exact hAl
    have hc := (items_pc (n := 1 + nls F) (v := v) (B := [v]) (b := F.length) hv (by omega) (f := fuelL (F ++ B)) (f' := fuelL (F ++ B)) (by unfold fuelL; omega) (by unfold fuelL; omega) 101 0 theory0).all A' hAl3 hA'
    rw [← e4, ← e1] at hc
    rw [h] at hc
    rcases hc with ⟨a, C, -, -, -, h4, -⟩ | ⟨p, er, h1, h2, -⟩ | ⟨b, h1⟩ | ⟨er, h1⟩ | h1
    · cases h4
    · injection h2 with h2 _; omega
    · cases h1
    · injection h1 with h1 _; omega
    · injection h1 with h1 _; omega
end Go.Proofs.YtnjlggleaocbdaaGreatDoor.Pl
