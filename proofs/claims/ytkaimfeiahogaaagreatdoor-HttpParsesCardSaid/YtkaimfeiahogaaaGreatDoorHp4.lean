/-
  Plain Lean: the head of a request, up to its empty line; what stands behind it.
-/
import Derived.Test.YtkaimfeiahogaaaGreatDoorHp3
namespace Go.Proofs.YtkaimfeiahogaaaGreatDoor
set_option linter.all false

/-- How a request stands at its empty line, and what stands behind. -/
def headF : Nat → St → List UInt8 → Option (St × List UInt8)
  | 0, _, _ => none
  | f + 1, st, l => match lineF 0 l with
    | .wait => none
    | .bad _ => none
    | .got k => if st.n = 0 then (if headE (l.take k) = 0 then headF f ⟨1, headM (l.take k), headP (l.take k), false, 0, false, false⟩ (l.drop (k + 2)) else none)
      else if k = 0 then some (st, l.drop 2)
      else if stepE st (l.take k) = 0 then headF f (stepS st (l.take k)) (l.drop (k + 2)) else none
theorem headF_scan : ∀ (f : Nat) (st : St) (l : List UInt8) (s : St) (r : List UInt8), headF f st l = some (s, r) → scanF f st l = if r.length < s.len then .wait else .done s r
  | 0, st, l, s, r, h => by cases h
  | f + 1, st, l, s, r, h => by
    rw [headF] at h
    cases hl : lineF 0 l with
    | wait => rw [hl] at h; cases h
    | bad e => rw [hl] at h; cases h
    | got k =>
      rw [hl] at h
      simp only at h
      by_cases hn : st.n = 0
      · rw [if_pos hn] at h
        by_cases he : headE (l.take k) = 0
        · rw [if_pos he] at h; rw [scan_head hl hn he]; exact headF_scan f _ _ _ _ h
        · rw [if_neg he] at h; cases h
      · rw [if_neg hn] at h
        by_cases hz : k = 0
        · rw [if_pos hz] at h
          subst hz
          injection h with h
          injection h with h1 h2
          rw [scan_end hl hn, h1, h2]
        · rw [if_neg hz] at h
          by_cases he : stepE st (l.take k) = 0
          · rw [if_pos he] at h; rw [scan_step hl hn hz he]; exact headF_scan f _ _ _ _ h
          · rw [if_neg he] at h; cases h
theorem headF_more (t : List UInt8) : ∀ (f : Nat) (st : St) (l : List UInt8) (s : St) (r : List UInt8), headF f st l = some (s, r) → headF f st (l ++ t) = some (s, r ++ t)
  | 0, st, l, s, r, h => by cases h
  | f + 1, st, l, s, r, h => by
    rw [headF] at h
    cases hl : lineF 0 l with
    | wait => rw [hl] at h; cases h
    | bad e => rw [hl] at h; cases h
    | got k =>
      rw [hl] at h
      simp only at h
      have hm := (lineF_more t).1 k hl
      have hk := got_len hl
      have ht : (l ++ t).take k = l.take k := List.take_append_of_le_length (by omega)
      have hd : (l ++ t).drop (k + 2) = l.drop (k + 2) ++ t := List.drop_append_of_le_length (by omega)
      rw [headF, hm]
      simp only [ht, hd]
      by_cases hn : st.n = 0
      · rw [if_pos hn] at h ⊢
        by_cases he : headE (l.take k) = 0
        · rw [if_pos he] at h ⊢; exact headF_more t f _ _ _ _ h
        · rw [if_neg he] at h; cases h
      · rw [if_neg hn] at h ⊢
        by_cases hz : k = 0
        · rw [if_pos hz] at h ⊢
          subst hz
          injection h with h
          injection h with h1 h2
          rw [← h1, ← h2]
          have : (l ++ t).drop 2 = l.drop 2 ++ t := hd
          rw [this]
        · rw [if_neg hz] at h ⊢
          by_cases he : stepE st (l.take k) = 0
          · rw [if_pos he] at h ⊢; exact headF_more t f _ _ _ _ h
          · rw [if_neg he] at h; cases h
/-- A head, and a body behind it. -/
theorem parse_head {h t : List UInt8} {s : St} {r : List UInt8} (hh : headF 23 st0 h = some (s, r)) (hl : s.len ≤ (r ++ t).length) : parseF (h ++ t) = .done s (r ++ t) := by
  have h1 := headF_scan 23 st0 (h ++ t) s (r ++ t) (headF_more t 23 st0 h s r hh)
  rw [if_neg (by omega)] at h1
  exact h1
def isDone : POut → Bool
  | .done _ _ => true
  | _ => false
theorem isDone_ex {o : POut} (h : isDone o = true) : ∃ s r, o = .done s r := by
  cases o with
  | wait => cases h
  | bad e => cases h
  | done s r => exact ⟨s, r, rfl⟩
def isBad (e : Int) : POut → Bool
  | .bad x => decide (x = e)
  | _ => false
theorem isBad_eq {o : POut} {e : Int} (h : isBad e o = true) : o = .bad e := by
  cases o with
  | wait => cases h
  | bad x => rw [of_decide_eq_true (p := x = e) h]
  | done s r => cases h
end Go.Proofs.YtkaimfeiahogaaaGreatDoor
