/-
  Plain laws: a tier parted in two, element by element; Go's remainder. No Go in sight.
-/
import Derived.Test.YtehlmpndbmlklaaTk7
namespace Go.Proofs.Ytehlmpndbmlklaa
set_option linter.all false

theorem ins_lt {c : Int} : ∀ {l : List (Int × Int)} {j k : Nat}, k < j → j < l.length → (insT l j c)[k]? = l[k]?
  | [], _, _, _, h => by simp at h
  | t :: r, 0, _, h, _ => by omega
  | t :: r, j + 1, 0, _, _ => by simp [insT]
  | t :: r, j + 1, k + 1, h, hj => by simp [insT]; exact ins_lt (by omega) (by simpa using hj)
theorem ins_eq {c : Int} : ∀ {l : List (Int × Int)} {j : Nat} {t : Int × Int}, l[j]? = some t → (insT l j c)[j]? = some (c, t.2)
  | [], _, _, h => by simp at h
  | x :: r, 0, t, h => by simp at h; subst h; simp [insT]
  | x :: r, j + 1, t, h => by simp at h; simp [insT]; exact ins_eq h
theorem ins_gt {c : Int} : ∀ {l : List (Int × Int)} {j k : Nat}, j ≤ k → j < l.length → (insT l j c)[k + 1]? = l[k]?
  | [], _, _, _, h => by simp at h
  | t :: r, 0, k, _, _ => by simp [insT]
  | t :: r, j + 1, 0, h, _ => by omega
  | t :: r, j + 1, k + 1, h, hj => by simp [insT]; exact ins_gt (by omega) (by simpa using hj)
theorem cells_take {L : List (Int × Int)} {e : Nat} {u p : Int} (h : L[e]? = some (u, p)) : cellsT (L.take (e + 1)) = cellsT (L.take e) ++ [.int .i64 u, .int .i64 p] := by
  obtain ⟨hk, he⟩ := List.getElem?_eq_some_iff.1 h
  rw [List.take_succ_eq_append_getElem hk, he, cellsT_append]; rfl
/-- Twice the remainder, as the code takes it: a place below d. -/
theorem rem_in (a d : Int) (hd : 0 < d) : ∃ x y : Int, a.tmod d = x ∧ -d < x ∧ x < d ∧ (x + d).tmod d = y ∧ 0 ≤ y ∧ y < d :=
  ⟨a.tmod d, (a.tmod d + d).tmod d, rfl, Int.lt_tmod_of_pos a hd, Int.tmod_lt_of_pos a hd, rfl, Int.tmod_nonneg _ (by have := Int.lt_tmod_of_pos a hd; omega), Int.tmod_lt_of_pos _ hd⟩
theorem end_0 : ∀ {l : List (Int × Int)} {j : Nat} {ah : Int} {t : Int × Int}, okFrom ah l = true → l[j]? = some t → j + 1 = l.length → t.1 = 0
  | [], _, _, _, _, h, _ => by simp at h
  | x :: r, 0, ah, t, hok, h, hl => by
    simp at h; subst h
    rcases (okFrom_cons hok).2.2 with ⟨_, h0⟩ | ⟨hr, _⟩
    · exact h0
    · simp at hl; exact absurd hl.symm (by simpa using hr)
  | x :: r, j + 1, ah, t, hok, h, hl => by
    simp at h
    have hj : j < r.length := (List.getElem?_eq_some_iff.1 h).1
    rcases (okFrom_cons hok).2.2 with ⟨hr, _⟩ | ⟨hr, h0, h1, h2⟩
    · subst hr; simp at hj
    · exact end_0 h2 h (by simpa using hl)
/-- The tier's bounds, and what is between. -/
theorem low_high {l : List (Int × Int)} {j : Nat} {t : Int × Int} (hok : okFrom 0 l = true) (h : l[j]? = some t) : 0 ≤ lowT 0 l j ∧ lowT 0 l j ≤ 1125899906842624 ∧ 0 ≤ t.1 ∧ t.1 ≤ 1125899906842624 := by
  have hj := (List.getElem?_eq_some_iff.1 h).1
  have a := low_nonneg (ah := 0) hok (by omega) hj
  have b := okFrom_upTo (by omega) hok t (List.mem_of_getElem? h)
  refine ⟨a.1, by omega, b, ?_⟩
  rcases Nat.lt_or_ge (j + 1) l.length with k | k
  · have := low_nonneg (ah := 0) hok (by omega) k
    rw [low_at h] at this; omega
  · have := end_0 hok h (by omega); omega
end Go.Proofs.Ytehlmpndbmlklaa
