/-
  Plain: the tokens of a text's first lines.
-/
import Derived.Test.YtnjlggleaocbdaaGreatDoorDp6
namespace Go.Proofs.YtnjlggleaocbdaaGreatDoor.Pl
set_option linter.all false
open Go.Lib

def nlB (c : UInt8) : Bool := decide (c.toNat = 10)
def nls (l : List UInt8) : Nat := l.countP nlB
/-- A text of whole lines. -/
def Whole (l : List UInt8) : Prop := l = [] ∨ ∃ a, l = a ++ [10]
theorem whole_tail {c : UInt8} {r : List UInt8} (h : Whole (c :: r)) : c = 10 ∧ r = [] ∨ (r ≠ [] ∧ Whole r) := by
  rcases h with h | ⟨a, h⟩
  · cases h
  · cases a with
    | nil => simp at h; exact .inl ⟨h.1, h.2⟩
    | cons d a =>
      simp only [List.cons_append, List.cons.injEq] at h
      refine .inr ⟨?_, .inr ⟨a, h.2⟩⟩
      rw [h.2]; simp
theorem whole_nls {r : List UInt8} (h : Whole r) (hr : r ≠ []) : 1 ≤ nls r := by
  rcases h with h | ⟨a, h⟩
  · exact absurd h hr
  · rw [h]; simp [nls, nlB]
theorem nls_cons (c : UInt8) (r : List UInt8) : nls (c :: r) = nls r + (if c.toNat = 10 then 1 else 0) := by
  simp [nls, List.countP_cons, nlB]
theorem skip_cut : ∀ (F : List UInt8) (b : Bool) (p : Nat) (B : List UInt8), Whole F → (F = [] → b = false) →
    (skipF b p F = (p + nls F, []) ∧ skipF b p (F ++ B) = skipF false (p + nls F) B) ∨
    (∃ q c r, skipF b p F = (q, c :: r) ∧ skipF b p (F ++ B) = (q, c :: r ++ B) ∧ startB c = true ∧ Whole (c :: r) ∧ q + nls (c :: r) = p + nls F)
  | [], b, p, B, _, hb => by
    rw [hb rfl]; exact .inl ⟨rfl, rfl⟩
  | c :: r, b, p, B, hw, _ => by
    rcases whole_tail hw with ⟨hc, hr⟩ | ⟨hr, hwr⟩
    · subst hc hr
      left
      cases b <;> exact ⟨rfl, rfl⟩
    · rw [nls_cons]
      cases b with
      | true =>
        simp only [skipF, List.cons_append]
        by_cases h10 : c.toNat = 10
        · rw [if_pos h10, if_pos h10, if_pos h10]
          rcases skip_cut r false (p + 1) B hwr (fun _ => rfl) with ⟨h1, h2⟩ | ⟨q, d, s, h1, h2, h3, h4, h5⟩
          · left; rw [h1, h2]; exact ⟨by congr 1; omega, by congr 1; omega⟩
          · right; exact ⟨q, d, s, h1, h2, h3, h4, by omega⟩
        · rw [if_neg h10, if_neg h10, if_neg h10]
          rcases skip_cut r true p B hwr (fun e => absurd e hr) with ⟨h1, h2⟩ | ⟨q, d, s, h1, h2, h3, h4, h5⟩
          · left; exact ⟨h1, h2⟩
          · right; exact ⟨q, d, s, h1, h2, h3, h4, h5⟩
      | false =>
        simp only [skipF, List.cons_append]
        by_cases h10 : c.toNat = 10
        · rw [if_pos h10, if_pos h10, if_pos h10]
          rcases skip_cut r false (p + 1) B hwr (fun _ => rfl) with ⟨h1, h2⟩ | ⟨q, d, s, h1, h2, h3, h4, h5⟩
          · left; rw [h1, h2]; exact ⟨by congr 1; omega, by congr 1; omega⟩
          · right; exact ⟨q, d, s, h1, h2, h3, h4, by omega⟩
        · rw [if_neg h10, if_neg h10, if_neg h10]
          by_cases hb : blankB c = true
          · rw [if_pos hb, if_pos hb]
            rcases skip_cut r false p B hwr (fun _ => rfl) with ⟨h1, h2⟩ | ⟨q, d, s, h1, h2, h3, h4, h5⟩
            · left; exact ⟨h1, h2⟩
            · right; exact ⟨q, d, s, h1, h2, h3, h4, h5⟩
          · rw [if_neg hb, if_neg hb]
            by_cases h35 : c.toNat = 35
            · rw [if_pos h35, if_pos h35]
              rcases skip_cut r true p B hwr (fun e => absurd e hr) with ⟨h1, h2⟩ | ⟨q, d, s, h1, h2, h3, h4, h5⟩
              · left; exact ⟨h1, h2⟩
              · right; exact ⟨q, d, s, h1, h2, h3, h4, h5⟩
            · rw [if_neg h35, if_neg h35]
              right
              exact ⟨p, c, r, rfl, rfl, by simp [startB, hb, h10, h35], hw, by rw [nls_cons, if_neg h10]⟩
theorem span_cut : ∀ (r B : List UInt8), Whole r → r ≠ [] → spanW (r ++ B) = spanW r ∧ spanW r < r.length
  | [], B, _, h => absurd rfl h
  | c :: r, B, hw, _ => by
    simp only [List.cons_append, spanW, List.length_cons]
    by_cases hc : withB c = true
    · rw [if_pos hc, if_pos hc]
      rcases whole_tail hw with ⟨h1, h2⟩ | ⟨hr, hwr⟩
      · subst h1; cases hc
      · obtain ⟨h1, h2⟩ := span_cut r B hwr hr
        omega
    · rw [if_neg hc, if_neg hc]; omega
theorem with_nl {c : UInt8} (h : withB c = true) : nlB c = false := by
  simp [withB, smallB, digitB] at h; simp [nlB]; omega
theorem see_nl {c : UInt8} (h : seeB c = true) : nlB c = false := by
  simp [seeB] at h; simp [nlB]; omega
theorem span_nl : ∀ (r : List UInt8), nls (r.take (spanW r)) = 0
  | [] => rfl
  | c :: r => by
    simp only [spanW]
    by_cases hc : withB c = true
    · rw [if_pos hc, List.take_succ_cons, nls_cons, span_nl r, if_neg (by simpa [nlB] using with_nl hc)]
    · rw [if_neg hc]; rfl
theorem quo_cut : ∀ (n : Nat) (r B : List UInt8) (i : Nat) (acc : List UInt8), r.length ≤ n → Whole r → r ≠ [] → quoF (r ++ B) i acc = quoF r i acc ∧ ∀ a m, quoF r i acc = some (a, m) → i < m ∧ m - i < r.length ∧ nls (r.take (m - i)) = 0 := by
  intro n
  induction n with
  | zero => intro r B i acc hn _ hr; exact absurd (List.length_eq_zero_iff.1 (by omega)) hr
  | succ n ih =>
    intro r B i acc hn hw hr
    cases r with
    | nil => exact absurd rfl hr
    | cons c r =>
      simp only [List.length_cons] at hn
      rw [List.cons_append]
      rw [quoF.eq_def, quoF.eq_def (c :: r)]
      simp only
      by_cases h34 : c.toNat = 34
      · rw [if_pos h34, if_pos h34]
        refine ⟨rfl, fun a m h => ?_⟩
        injection h with h; injection h with _ h
        have hr0 : r ≠ [] := by
          rcases whole_tail hw with ⟨h1, h2⟩ | ⟨h1, -⟩
          · subst h1; cases h34
          · exact h1
        have : 0 < r.length := List.length_pos_iff.2 hr0
        subst h
        refine ⟨by omega, by simp; omega, ?_⟩
        rw [show i + 1 - i = 1 by omega, List.take_succ_cons, nls_cons, if_neg (by omega)]; rfl
      rw [if_neg h34, if_neg h34]
      by_cases hs : seeB c = false
      · rw [if_pos hs, if_pos hs]
        exact ⟨rfl, fun a m h => by cases h⟩
      rw [if_neg hs, if_neg hs]
      have hs' : seeB c = true := by simpa using hs
      have hc10 : ¬ c.toNat = 10 := by simpa [nlB] using see_nl hs'
      have hwr : r ≠ [] ∧ Whole r := by
        rcases whole_tail hw with ⟨h1, h2⟩ | h
        · subst h1; exact absurd rfl hc10
        · exact h
      by_cases h92 : c.toNat = 92
      · rw [if_pos h92, if_pos h92]
        cases r with
        | nil => exact absurd rfl hwr.1
        | cons d r =>
          simp only [List.length_cons] at hn
          simp only [List.cons_append]
          by_cases hd : d.toNat = 34 ∨ d.toNat = 92
          · rw [if_pos hd, if_pos hd]
            have hwr2 : r ≠ [] ∧ Whole r := by
              rcases whole_tail hwr.2 with ⟨h1, h2⟩ | h
              · subst h1; rcases hd with e | e <;> cases e
              · exact h
            obtain ⟨h1, h2⟩ := ih r B (i + 2) (acc ++ [d]) (by omega) hwr2.2 hwr2.1
            refine ⟨h1, fun a m h => ?_⟩
            obtain ⟨k1, k2, k3⟩ := h2 a m h
            refine ⟨by omega, by simp only [List.length_cons]; omega, ?_⟩
            rw [show m - i = (m - (i + 2)) + 1 + 1 by omega, List.take_succ_cons, List.take_succ_cons, nls_cons, nls_cons, k3, if_neg hc10, if_neg (by omega)]
          · rw [if_neg hd, if_neg hd]
            exact ⟨rfl, fun a m h => by cases h⟩
      · rw [if_neg h92, if_neg h92]
        obtain ⟨h1, h2⟩ := ih r B (i + 1) (acc ++ [c]) (by omega) hwr.2 hwr.1
        refine ⟨h1, fun a m h => ?_⟩
        obtain ⟨k1, k2, k3⟩ := h2 a m h
        refine ⟨by omega, by simp only [List.length_cons]; omega, ?_⟩
        rw [show m - i = (m - (i + 1)) + 1 by omega, List.take_succ_cons, nls_cons, k3, if_neg hc10]
theorem next_cut {c : UInt8} {r : List UInt8} (B : List UInt8) (hs : startB c = true) (hw : Whole (c :: r)) : nextF c (r ++ B) = nextF c r ∧ ((nextF c r).1.k ≠ 33 → (nextF c r).2 < (c :: r).length ∧ nls ((c :: r).take (nextF c r).2) = 0) := by
  have hc10 : ¬ c.toNat = 10 := by
    simp only [startB, Bool.and_eq_true, Bool.not_eq_true', decide_eq_false_iff_not] at hs
    exact hs.1.2
  have hwr : r ≠ [] ∧ Whole r := by
    rcases whole_tail hw with ⟨h1, h2⟩ | h
    · subst h1; exact absurd rfl hc10
    · exact h
  have hl : 0 < r.length := List.length_pos_iff.2 hwr.1
  unfold nextF
  by_cases h1 : withB c = true
  · rw [if_pos h1, if_pos h1]
    obtain ⟨e1, e2⟩ := span_cut r B hwr.2 hwr.1
    rw [e1]
    refine ⟨?_, fun _ => ⟨by simp only [List.length_cons]; omega, ?_⟩⟩
    · rw [List.take_append_of_le_length (by omega)]
    · simp only [List.take_succ_cons, nls_cons, span_nl]; rw [if_neg hc10]
  rw [if_neg h1, if_neg h1]
  by_cases h2 : c.toNat = 34
  · rw [if_pos h2, if_pos h2]
    unfold quotedF
    obtain ⟨e1, e2⟩ := quo_cut r.length r B 1 [] (Nat.le_refl _) hwr.2 hwr.1
    rw [e1]
    refine ⟨rfl, fun hk => ?_⟩
    cases hq : quoF r 1 [] with
    | none => rw [hq] at hk; exact absurd rfl hk
    | some p =>
      obtain ⟨a, m⟩ := p
      obtain ⟨k1, k2, k3⟩ := e2 a m hq
      simp only
      refine ⟨by simp only [List.length_cons]; omega, ?_⟩
      rw [show m = (m - 1) + 1 by omega, List.take_succ_cons, nls_cons, k3, if_neg hc10]
  rw [if_neg h2, if_neg h2]
  have e3 : isEq (r ++ B) = isEq r := by
    cases r with
    | nil => exact absurd rfl hwr.1
    | cons d r => rfl
  rw [e3]
  by_cases h3 : (relB c && isEq r) = true
  · rw [if_pos h3]
    refine ⟨rfl, fun _ => ?_⟩
    cases r with
    | nil => exact absurd rfl hwr.1
    | cons d r =>
      simp only [Bool.and_eq_true, isEq, headB, decide_eq_true_eq] at h3
      have hwr2 : r ≠ [] ∧ Whole r := by
        rcases whole_tail hwr.2 with ⟨h1, h2⟩ | h
        · subst h1; simp at h3
        · exact h
      have : 0 < r.length := List.length_pos_iff.2 hwr2.1
      refine ⟨by simp; omega, ?_⟩
      simp only [List.take_succ_cons, List.take_zero, nls_cons]
      rw [if_neg hc10, if_neg (by omega)]; rfl
  rw [if_neg h3]
  by_cases h4 : markB c = true
  · rw [if_pos h4]
    refine ⟨rfl, fun _ => ⟨by simp; omega, ?_⟩⟩
    simp only [List.take_succ_cons, List.take_zero, nls_cons]
    rw [if_neg hc10]; rfl
  · rw [if_neg h4]
    exact ⟨rfl, fun h => absurd rfl h⟩
theorem nls_drop (l : List UInt8) (k : Nat) : nls (l.take k) + nls (l.drop k) = nls l := by
  unfold nls; rw [← List.countP_append, List.take_append_drop]
theorem whole_drop {l : List UInt8} (h : Whole l) {k : Nat} (hk : k < l.length) : Whole (l.drop k) := by
  rcases h with h | ⟨a, h⟩
  · subst h; simp at hk
  · subst h
    simp at hk
    exact .inr ⟨a.drop k, by rw [List.drop_append_of_le_length (by omega)]⟩
/-- The tokens of a text's first lines, and those behind. -/
theorem lex_cut : ∀ (f f' p : Nat) (F B : List UInt8), Whole F → F.length + B.length + 1 ≤ f → F.length + 1 ≤ f' → ∃ A, (∀ t ∈ A, t.p < p + nls F) ∧
    ((∃ g, B.length + 1 ≤ g ∧ lexF f p (F ++ B) = A ++ lexF g (p + nls F) B ∧ lexF f' p F = A ++ [⟨101, [], 0, p + nls F⟩]) ∨ (lexF f p (F ++ B) = A ∧ lexF f' p F = A)) := by
  intro f
  induction f with
  | zero => intro f' p F B _ h; omega
  | succ f ih =>
    intro f' p F B hw hf hf'
    obtain ⟨f', rfl⟩ : ∃ g, f' = g + 1 := ⟨f' - 1, by omega⟩
    rcases skip_cut F false p B hw (fun _ => rfl) with ⟨h1, h2⟩ | ⟨q, c, r, h1, h2, h3, h4, h5⟩
    · refine ⟨[], fun t ht => (by cases ht), .inl ⟨f + 1, by omega, ?_, ?_⟩⟩
      · rw [List.nil_append]; simp only [lexF, h2]
      · simp only [lexF, h1]; rfl
    · have hcr : 1 ≤ nls (c :: r) := whole_nls h4 (by simp)
      have hl1 := skip_len _ _ _ _ _ h1
      obtain ⟨n1, n2⟩ := next_cut B h3 h4
      simp only [lexF, h1, h2, List.cons_append, n1]
      by_cases hk : (nextF c r).1.k = 33
      · rw [if_pos hk, if_pos hk]
        refine ⟨[(nextF c r).1.at q], fun t ht => ?_, .inr ⟨rfl, rfl⟩⟩
        simp only [List.mem_singleton] at ht; subst ht
        show q < _; omega
      · rw [if_neg hk, if_neg hk]
        obtain ⟨n3, n4⟩ := n2 hk
        obtain ⟨-, -, n5, -⟩ := next_ok c r q
        have n6 := nls_drop (c :: r) (nextF c r).2
        have e1 : (c :: (r ++ B)).drop (nextF c r).2 = (c :: r).drop (nextF c r).2 ++ B := by
          rw [← List.cons_append, List.drop_append_of_le_length (by omega)]
        rw [e1]
        have n7 : ((c :: r).drop (nextF c r).2).length + (nextF c r).2 = (c :: r).length := by rw [List.length_drop]; omega
        obtain ⟨A, hA, hAB⟩ := ih f' q ((c :: r).drop (nextF c r).2) B (whole_drop h4 n3) (by omega) (by omega)
        have e2 : q + nls ((c :: r).drop (nextF c r).2) = p + nls F := by omega
        rw [e2] at hA hAB
        refine ⟨(nextF c r).1.at q :: A, fun t ht => ?_, ?_⟩
        · rcases List.mem_cons.1 ht with rfl | ht
          · show q < _; omega
          · exact hA t ht
        · rcases hAB with ⟨g, k0, k1, k2⟩ | ⟨k1, k2⟩
          · exact .inl ⟨g, k0, by rw [k1]; rfl, by rw [k2]; rfl⟩
          · exact .inr ⟨by rw [k1], by rw [k2]⟩
theorem skip_ge : ∀ (l : List UInt8) (b : Bool) (p q : Nat) (r : List UInt8), skipF b p l = (q, r) → p ≤ q := by
  intro l
  induction l with
  | nil => intro b p q r h; cases b <;> simp [skipF] at h <;> omega
  | cons c l ih =>
    intro b p q r h
    cases b with
    | true =>
      simp only [skipF] at h
      split at h
      · have := ih _ _ _ _ h; omega
      · exact ih _ _ _ _ h
    | false =>
      simp only [skipF] at h
      split at h
      · have := ih _ _ _ _ h; omega
      split at h
      · exact ih _ _ _ _ h
      split at h
      · exact ih _ _ _ _ h
      · injection h with h _; omega
theorem lex_ge : ∀ (f p : Nat) (l : List UInt8), ∀ t ∈ lexF f p l, p ≤ t.p := by
  intro f
  induction f with
  | zero => intro p l t ht; simp [lexF] at ht
  | succ f ih =>
    intro p l t ht
    simp only [lexF] at ht
    generalize hsk : skipF false p l = qr at ht
    obtain ⟨q, r⟩ := qr
    have h1 := skip_ge _ _ _ _ _ hsk
    cases r with
    | nil => simp only [List.mem_singleton] at ht; subst ht; exact h1
    | cons c r =>
      simp only at ht
      split at ht
      · simp only [List.mem_singleton] at ht; subst ht; exact h1
      · rcases List.mem_cons.1 ht with rfl | ht
        · exact h1
        · exact Nat.le_trans h1 (ih _ _ t ht)
theorem lex_ne : ∀ (f p : Nat) (l : List UInt8), lexF (f + 1) p l ≠ [] := by
  intro f p l
  simp only [lexF]
  generalize skipF false p l = qr
  obtain ⟨q, r⟩ := qr
  cases r with
  | nil => simp
  | cons c r => simp only; split <;> simp
end Go.Proofs.YtnjlggleaocbdaaGreatDoor.Pl
