/-
  Plain Lean: the lines of bytes one by one, and a request read from them, line by line.
-/
import Derived.Test.YtkaimfeiahogaaaGreatDoorHp1
namespace Go.Proofs.YtkaimfeiahogaaaGreatDoor
set_option linter.all false

/-- What is told of bytes line by line: a line from p, of k bytes; an error. -/
inductive It where
  | got (p k : Nat)
  | bad (e : Int)
def itemsF : Nat → Nat → List UInt8 → List It
  | 0, _, _ => []
  | f + 1, p, l => match lineF 0 (l.drop p) with
    | .wait => []
    | .bad e => [.bad e]
    | .got k => .got p k :: itemsF f (p + k + 2) l
theorem items_wait {f p : Nat} {l : List UInt8} (h : lineF 0 (l.drop p) = .wait) : itemsF f p l = [] := by
  cases f with
  | zero => rfl
  | succ f => rw [itemsF, h]
theorem items_bad {f p : Nat} {l : List UInt8} {e : Int} (h : lineF 0 (l.drop p) = .bad e) : itemsF (f + 1) p l = [.bad e] := by rw [itemsF, h]
theorem items_got {f p k : Nat} {l : List UInt8} (h : lineF 0 (l.drop p) = .got k) : itemsF (f + 1) p l = .got p k :: itemsF f (p + k + 2) l := by rw [itemsF, h]
/-- The line of an item lies within the bytes. -/
def ItOk (l : List UInt8) : It → Prop
  | .got p k => p + k + 2 ≤ l.length ∧ k ≤ 1000
  | .bad e => e = 10 ∨ e = 8
theorem lineF_bad : ∀ {l : List UInt8} {n : Nat} {e : Int}, lineF n l = .bad e → e = 10 ∨ e = 8
  | [], n, e, h => by cases h
  | c :: r, n, e, h => by
    by_cases h1 : c = 10
    · subst h1; rw [lineF_10] at h; injection h with h; exact .inl h.symm
    · by_cases h2 : c = 13
      · subst h2
        rw [lineF_13] at h
        split at h
        · cases h
        · split at h
          · cases h
          · injection h with h; exact .inl h.symm
      · by_cases h3 : n = 1000
        · subst h3; rw [lineF_long h1 h2] at h; injection h with h; exact .inr h.symm
        · rw [lineF_step h1 h2 h3] at h
          exact lineF_bad h
theorem got_ok {l : List UInt8} {p k : Nat} (h : lineF 0 (l.drop p) = .got k) : ItOk l (.got p k) := by
  have h1 := got_len h
  rw [List.length_drop] at h1
  exact ⟨by omega, lineF_got_le h (by omega)⟩
/-- How a request stands behind some lines: none: it is at an end. -/
def goF (l : List UInt8) : St → List It → Option St
  | st, [] => some st
  | st, .bad _ :: _ => none
  | st, .got p k :: r => if st.n = 0 then (if headE ((l.drop p).take k) = 0 then goF l ⟨1, headM ((l.drop p).take k), headP ((l.drop p).take k), false, 0, false, false⟩ r else none)
      else if k = 0 then none
      else if stepE st ((l.drop p).take k) = 0 then goF l (stepS st ((l.drop p).take k)) r else none
/-- What the next line tells, where it ends the reading. -/
def endF (l : List UInt8) (st : St) : It → POut
  | .bad e => .bad e
  | .got p k => if st.n = 0 then (if headE ((l.drop p).take k) = 0 then .wait else .bad (headE ((l.drop p).take k)))
      else if k = 0 then (if (l.drop (p + 2)).length < st.len then .wait else .done st (l.drop (p + 2)))
      else .bad (stepE st ((l.drop p).take k))
theorem goF_app (l : List UInt8) : ∀ (st : St) (a b : List It), goF l st (a ++ b) = (goF l st a).bind fun s => goF l s b
  | st, [], b => rfl
  | st, .bad e :: a, b => rfl
  | st, .got p k :: a, b => by
    rw [List.cons_append, goF, goF]
    split
    · split
      · exact goF_app l _ a b
      · rfl
    · split
      · rfl
      · split
        · exact goF_app l _ a b
        · rfl
theorem goF_head {l : List UInt8} {st : St} {p k : Nat} (hn : st.n = 0) (he : headE ((l.drop p).take k) = 0) : goF l st [.got p k] = some ⟨1, headM ((l.drop p).take k), headP ((l.drop p).take k), false, 0, false, false⟩ := by
  rw [goF, if_pos hn, if_pos he]; rfl
theorem goF_step {l : List UInt8} {st : St} {p k : Nat} (hn : st.n ≠ 0) (hk : k ≠ 0) (he : stepE st ((l.drop p).take k) = 0) : goF l st [.got p k] = some (stepS st ((l.drop p).take k)) := by
  rw [goF, if_neg hn, if_neg hk, if_pos he]; rfl
theorem goF_n (l : List UInt8) : ∀ (a : List It) (st s : St), st.n ≤ 21 → goF l st a = some s → s.n ≤ 21
  | [], st, s, h, e => by injection e with e; rw [← e]; exact h
  | .bad e :: a, st, s, h, e2 => by cases e2
  | .got p k :: a, st, s, h, e => by
    rw [goF] at e
    split at e
    · split at e
      · exact goF_n l a _ s (by simp) e
      · cases e
    · split at e
      · cases e
      · split at e
        · rename_i h3
          have := stepS_n h3
          exact goF_n l a _ s (by omega) e
        · cases e
theorem goF_mono (l : List UInt8) : ∀ (a : List It) (st s : St), goF l st a = some s → st.n ≤ s.n
  | [], st, s, e => by injection e with e; rw [e]; exact Nat.le_refl _
  | .bad e :: a, st, s, e2 => by cases e2
  | .got p k :: a, st, s, e => by
    rw [goF] at e
    split at e
    · split at e
      · rename_i h1 _
        rw [h1]; exact Nat.zero_le _
      · cases e
    · split at e
      · cases e
      · split at e
        · rename_i h3
          have h4 := stepS_n h3
          have := goF_mono l a _ s e
          omega
        · cases e
theorem goF_zero {l : List UInt8} {a : List It} {s : St} (h : goF l st0 a = some s) (hn : s.n = 0) : s = st0 := by
  cases a with
  | nil => injection h with h; exact h.symm
  | cons x a =>
    cases x with
    | bad e => cases h
    | got p k =>
      rw [goF, if_pos (show st0.n = 0 from rfl)] at h
      split at h
      · have := goF_mono l a _ s h
        simp only at this
        omega
      · cases h
/-- Line by line, a request is read as 'scanF' says. -/
theorem scan_items : ∀ (f g p : Nat) (st : St) (l : List UInt8), l.length < p + g + 1 → 23 ≤ f + st.n → st.n ≤ 22 →
    (goF l st (itemsF g p l) ≠ none → scanF f st (l.drop p) = .wait) ∧ ∀ pre x post s, itemsF g p l = pre ++ x :: post → goF l st pre = some s → goF l s [x] = none → scanF f st (l.drop p) = endF l s x
  | 0, g, p, st, l, hg, hf, hn => by omega
  | f + 1, g, p, st, l, hg, hf, hn => by
    cases hl : lineF 0 (l.drop p) with
    | wait =>
      rw [items_wait hl, scan_wait hl]
      exact ⟨fun _ => rfl, fun pre x post s e => by simp at e⟩
    | bad e =>
      cases g with
      | zero =>
        have : l.drop p = [] := List.drop_eq_nil_of_le (by omega)
        rw [this] at hl; cases hl
      | succ g =>
        rw [items_bad hl, scan_bad hl]
        refine ⟨fun h => absurd rfl h, fun pre x post s e h1 h2 => ?_⟩
        cases pre with
        | nil => simp at e; rw [← e.1]; rfl
        | cons y pre => simp at e
    | got k =>
      have hk := got_len hl
      rw [List.length_drop] at hk
      cases g with
      | zero => omega
      | succ g =>
        rw [items_got hl]
        have hd : (l.drop p).drop (k + 2) = l.drop (p + k + 2) := by rw [List.drop_drop]; congr 1
        by_cases h0 : st.n = 0
        · by_cases he : headE ((l.drop p).take k) = 0
          · rw [scan_head hl h0 he, hd]
            obtain ⟨i1, i2⟩ := scan_items f g (p + k + 2) ⟨1, headM ((l.drop p).take k), headP ((l.drop p).take k), false, 0, false, false⟩ l (by omega) (by simp only; omega) (by simp only; omega)
            refine ⟨fun h => i1 ?_, fun pre x post s e h1 h2 => ?_⟩
            · rw [goF, if_pos h0, if_pos he] at h; exact h
            · cases pre with
              | nil =>
                injection e with e1 e2; injection h1 with h1
                rw [← e1, ← h1, goF_head h0 he] at h2; cases h2
              | cons y pre =>
                rw [List.cons_append] at e
                injection e with e1 e2
                rw [← e1, goF, if_pos h0, if_pos he] at h1
                exact i2 pre x post s e2 h1 h2
          · rw [scan_headE hl h0 he]
            refine ⟨fun h => absurd (by rw [goF, if_pos h0, if_neg he]) h, fun pre x post s e h1 h2 => ?_⟩
            cases pre with
            | nil => injection e with e1 e2; injection h1 with h1; rw [← e1, endF, ← h1, if_pos h0, if_neg he]
            | cons y pre =>
              rw [List.cons_append] at e
              injection e with e1 e2
              rw [← e1, goF, if_pos h0, if_neg he] at h1; cases h1
        · by_cases hz : k = 0
          · subst hz
            have hd2 : (l.drop p).drop 2 = l.drop (p + 2) := by rw [List.drop_drop]
            rw [scan_end hl h0, hd2]
            refine ⟨fun h => absurd (by rw [goF, if_neg h0, if_pos rfl]) h, fun pre x post s e h1 h2 => ?_⟩
            cases pre with
            | nil => injection e with e1 e2; injection h1 with h1; rw [← e1, endF, ← h1, if_neg h0, if_pos rfl]
            | cons y pre =>
              rw [List.cons_append] at e
              injection e with e1 e2
              rw [← e1, goF, if_neg h0, if_pos rfl] at h1; cases h1
          · by_cases he : stepE st ((l.drop p).take k) = 0
            · rw [scan_step hl h0 hz he, hd]
              have hs := stepS_n he
              obtain ⟨i1, i2⟩ := scan_items f g (p + k + 2) (stepS st ((l.drop p).take k)) l (by omega) (by omega) (by omega)
              refine ⟨fun h => i1 ?_, fun pre x post s e h1 h2 => ?_⟩
              · rw [goF, if_neg h0, if_neg hz, if_pos he] at h; exact h
              · cases pre with
                | nil =>
                  injection e with e1 e2; injection h1 with h1
                  rw [← e1, ← h1, goF_step h0 hz he] at h2; cases h2
                | cons y pre =>
                  rw [List.cons_append] at e
                  injection e with e1 e2
                  rw [← e1, goF, if_neg h0, if_neg hz, if_pos he] at h1
                  exact i2 pre x post s e2 h1 h2
            · rw [scan_stepE hl h0 hz he]
              refine ⟨fun h => absurd (by rw [goF, if_neg h0, if_neg hz, if_neg he]) h, fun pre x post s e h1 h2 => ?_⟩
              cases pre with
              | nil => injection e with e1 e2; injection h1 with h1; rw [← e1, endF, ← h1, if_neg h0, if_neg hz]
              | cons y pre =>
                rw [List.cons_append] at e
                injection e with e1 e2
                rw [← e1, goF, if_neg h0, if_neg hz, if_neg he] at h1; cases h1
theorem parse_wait {l : List UInt8} (h : goF l st0 (itemsF (l.length + 1) 0 l) ≠ none) : parseF l = .wait :=
  (scan_items 23 (l.length + 1) 0 st0 l (by omega) (by omega) (by decide)).1 h
theorem parse_end {l : List UInt8} {pre : List It} {x : It} {post : List It} {s : St} (e : itemsF (l.length + 1) 0 l = pre ++ x :: post) (h1 : goF l st0 pre = some s) (h2 : goF l s [x] = none) : parseF l = endF l s x :=
  (scan_items 23 (l.length + 1) 0 st0 l (by omega) (by omega) (by decide)).2 pre x post s e h1 h2
end Go.Proofs.YtkaimfeiahogaaaGreatDoor
