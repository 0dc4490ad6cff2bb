/-
  Plain: a text's first lines, by its pieces.
-/
import Derived.Test.YtnjlggleaocbdaaGreatDoorDp8
namespace Go.Proofs.YtnjlggleaocbdaaGreatDoor
set_option linter.all false
/-- A text's pieces between the bytes c. -/
def pieces (c : UInt8) : List UInt8 → List (List UInt8)
  | [] => [[]]
  | b :: r => if b = c then [] :: pieces c r else match pieces c r with
    | [] => [[b]]
    | p :: ps => (b :: p) :: ps
theorem pieces_ne (c : UInt8) (l : List UInt8) : pieces c l ≠ [] := by
  cases l with
  | nil => simp [pieces]
  | cons b r =>
    unfold pieces
    split
    · simp
    · split <;> simp
end Go.Proofs.YtnjlggleaocbdaaGreatDoor
namespace Go.Proofs.YtnjlggleaocbdaaGreatDoor.Pl
set_option linter.all false
open Go.Lib

/-- The first lines. -/
def frontP (k : Nat) (l : List UInt8) : List UInt8 := (((pieces 10 l).take k).map (fun x => x ++ [10])).flatten
theorem pieces_nls : ∀ l : List UInt8, (pieces 10 l).length = nls l + 1
  | [] => rfl
  | c :: l => by
    have ih := pieces_nls l
    have hn := nls_cons c l
    unfold pieces
    by_cases hc : c = 10
    · rw [if_pos hc]
      rw [if_pos (by rw [hc]; rfl)] at hn
      simp only [List.length_cons]; omega
    · have hc' : ¬ c.toNat = 10 := fun h => hc (UInt8.toNat_inj.1 h)
      rw [if_neg hc]
      rw [if_neg hc'] at hn
      cases hp : pieces 10 l with
      | nil => exact absurd hp (pieces_ne _ _)
      | cons p ps => rw [hp] at ih; simp only [List.length_cons] at ih ⊢; omega
theorem whole_cons {c : UInt8} {r : List UInt8} (h : Whole r) (hr : r ≠ []) : Whole (c :: r) := by
  rcases h with h | ⟨a, h⟩
  · exact absurd h hr
  · exact .inr ⟨c :: a, by rw [h]; rfl⟩
theorem front_ok : ∀ (l : List UInt8) (k : Nat), k ≤ nls l → (∃ B, l = frontP k l ++ B) ∧ nls (frontP k l) = k ∧ Whole (frontP k l)
  | l, 0, _ => by
    have e : frontP 0 l = [] := by simp [frontP]
    rw [e]; exact ⟨⟨l, rfl⟩, rfl, .inl rfl⟩
  | [], k + 1, h => by simp [nls] at h
  | c :: l, k + 1, h => by
    have hn := nls_cons c l
    by_cases hc : c = 10
    · rw [if_pos (by rw [hc]; rfl)] at hn
      obtain ⟨⟨B, h1⟩, h2, h3⟩ := front_ok l k (by omega)
      have e : frontP (k + 1) (c :: l) = 10 :: frontP k l := by
        unfold frontP
        rw [pieces, if_pos hc]
        rfl
      rw [e]
      refine ⟨⟨B, by rw [hc, List.cons_append, ← h1]⟩, ?_, ?_⟩
      · rw [nls_cons, h2]; rfl
      · rcases h3 with h3 | ⟨a, h3⟩
        · rw [h3]; exact .inr ⟨[], rfl⟩
        · rw [h3]; exact .inr ⟨10 :: a, rfl⟩
    · have hc' : ¬ c.toNat = 10 := fun h => hc (UInt8.toNat_inj.1 h)
      rw [if_neg hc'] at hn
      obtain ⟨⟨B, h1⟩, h2, h3⟩ := front_ok l (k + 1) (by omega)
      have e : frontP (k + 1) (c :: l) = c :: frontP (k + 1) l := by
        unfold frontP
        rw [pieces, if_neg hc]
        cases hp : pieces 10 l with
        | nil => exact absurd hp (pieces_ne _ _)
        | cons p ps => rfl
      rw [e]
      refine ⟨⟨B, by rw [List.cons_append, ← h1]⟩, ?_, ?_⟩
      · rw [nls_cons, h2, if_neg hc']
      · refine whole_cons h3 (fun e => ?_)
        rw [e] at h2; simp [nls] at h2
theorem skip_nls : ∀ (l : List UInt8) (b : Bool) (p q : Nat) (r : List UInt8), skipF b p l = (q, r) → q + nls r ≤ p + nls l := by
  intro l
  induction l with
  | nil => intro b p q r h; cases b <;> simp [skipF] at h <;> (obtain ⟨rfl, rfl⟩ := h; exact Nat.le_refl _)
  | cons c l ih =>
    intro b p q r h
    have hn := nls_cons c l
    cases b with
    | true =>
      simp only [skipF] at h
      split at h
      · rename_i h10; rw [if_pos h10] at hn; have := ih _ _ _ _ h; omega
      · have := ih _ _ _ _ h; omega
    | false =>
      simp only [skipF] at h
      split at h
      · rename_i h10; rw [if_pos h10] at hn; have := ih _ _ _ _ h; omega
      split at h
      · have := ih _ _ _ _ h; omega
      split at h
      · have := ih _ _ _ _ h; omega
      · obtain ⟨rfl, rfl⟩ := Prod.mk.inj h; exact Nat.le_refl _
theorem lex_le : ∀ (f p : Nat) (l : List UInt8), ∀ t ∈ lexF f p l, t.p ≤ p + nls l := by
  intro f
  induction f with
  | zero => intro p l t ht; simp [lexF] at ht
  | succ f ih =>
    intro p l t ht
    simp only [lexF] at ht
    generalize hsk : skipF false p l = qr at ht
    obtain ⟨q, r⟩ := qr
    have h1 := skip_nls _ _ _ _ _ hsk
    cases r with
    | nil => simp only [List.mem_singleton] at ht; subst ht; show q ≤ _; omega
    | cons c r =>
      simp only at ht
      split at ht
      · simp only [List.mem_singleton] at ht; subst ht; show q ≤ _; omega
      · have h2 := nls_drop (c :: r) (nextF c r).2
        rcases List.mem_cons.1 ht with rfl | ht
        · show q ≤ _; omega
        · have := ih _ _ t ht; omega
/-- An error's line is one of the text's. -/
theorem line_le {l : List UInt8} {p : Nat} {e : Int} (h : parseF l = .no p e) : p ≤ 1 + nls l := by
  unfold parseF at h
  split at h
  · injection h with h _; omega
  obtain ⟨A, v, e3, hv⟩ := lex_last (l.length + 1) 1 l (Nat.le_refl _)
  have e1 : lexL l = A ++ [v] := e3
  have hp : ∀ t ∈ lexL l, t.p < 2 + nls l := fun t ht => by have := lex_le (l.length + 1) 1 l t ht; omega
  have hn := lexL_len l
  have hvp := hp v (by rw [e1]; simp)
  have hA : A.length ≤ l.length := by rw [e1] at hn; simp at hn; exact hn
  have hc := (items_pc (n := 2 + nls l) (v := v) (B := [v]) (b := l.length) hv (by omega) (f := fuelL l) (f' := fuelL l) (by unfold fuelL; omega) (by unfold fuelL; omega) 101 0 theory0).all A hA (fun t ht => hp t (by rw [e1]; simp [ht]))
  rw [← e1, h] at hc
  rcases hc with ⟨a, C, -, -, -, h4, -⟩ | ⟨q, er, h1, h2, -⟩ | ⟨b, h1⟩ | ⟨er, h1⟩ | h1
  · cases h4
  · injection h2 with h2 _; omega
  · cases h1
  · injection h1 with h1 _; omega
  · injection h1 with h1 _; omega
/-- Ahead of the line at which a text is refused all is fine, but for what the end lacks. -/
theorem first_law {l : List UInt8} {p : Nat} {e : Int} (h : parseF l = .no p e) (hp : 1 ≤ p) (hl : l.length ≤ 65536) : p ≤ (pieces 10 l).length ∧ ((∃ T r, parseF (frontP (p - 1) l) = .ok T r) ∨ ∃ e', parseF (frontP (p - 1) l) = .no p e') := by
  have h1 := line_le h
  refine ⟨by rw [pieces_nls]; omega, ?_⟩
  obtain ⟨⟨B, h2⟩, h3, h4⟩ := front_ok l (p - 1) (by omega)
  have e1 : 1 + nls (frontP (p - 1) l) = p := by omega
  have := parse_first (F := frontP (p - 1) l) (B := B) (e := e) h4 (by rw [← h2, e1]; exact h) (by rw [← h2]; exact hl)
  rw [e1] at this
  exact this
end Go.Proofs.YtnjlggleaocbdaaGreatDoor.Pl
