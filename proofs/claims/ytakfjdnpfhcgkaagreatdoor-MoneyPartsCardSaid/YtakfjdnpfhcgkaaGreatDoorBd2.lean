/-
  Products of digits as the loops make them: plain laws.
-/
import Derived.Test.YtakfjdnpfhcgkaaGreatDoorBd
namespace Go.Proofs.YtakfjdnpfhcgkaaGreatDoor
set_option linter.all false

/-- What the inner loop keeps: rows dl, i digits of one factor done, k of the other, c carried. -/
structure Inn (b : List Int) (x : Int) (i k : Nat) (c : Int) (dl M : List Int) : Prop where
  eq : dl.take (i + k) ++ macc (dl.drop (i + k)) (b.drop k) x c = M
  dig : Dgt dl
  len : dl.length = M.length
  zero : ∀ (j : Nat) (z : Int), i + k ≤ j → i + b.length ≤ j → dl[j]? = some z → z = 0
/-- What the outer loop keeps. -/
structure Out (a b : List Int) (i : Nat) (dl D : List Int) : Prop where
  eq : dl.take i ++ mulO (dl.drop i) (a.drop i) b = D
  dig : Dgt dl
  len : dl.length = D.length
  zero : ∀ (j : Nat) (z : Int), i + b.length ≤ j → dl[j]? = some z → z = 0

theorem take_set {l : List Int} {n : Nat} {v : Int} (h : n < l.length) : (l.set n v).take (n + 1) = l.take n ++ [v] := by
  apply List.ext_getElem?
  intro j
  rcases Nat.lt_trichotomy j n with k | k | k
  · rw [List.getElem?_take_of_lt (by omega), List.getElem?_append_left (by simp; omega), List.getElem?_take_of_lt k, List.getElem?_set_ne (by omega)]
  · subst k
    rw [List.getElem?_take_of_lt (by omega), List.getElem?_append_right (by simp; omega), List.getElem?_set_self h]
    simp [Nat.min_eq_left (Nat.le_of_lt h)]
  · rw [List.getElem?_eq_none (by simp; omega), List.getElem?_eq_none (by simp; omega)]
theorem drop_set {l : List Int} {n : Nat} {v : Int} : (l.set n v).drop (n + 1) = l.drop (n + 1) := by
  rw [List.drop_set, if_pos (by omega)]
theorem set_dig {l : List Int} {n : Nat} {v : Int} (d : Dgt l) (h0 : 0 ≤ v) (h1 : v < 10000) : Dgt (l.set n v) := fun x hx => by
  rcases List.mem_or_eq_of_mem_set hx with k | k
  · exact d x k
  · rw [k]; exact ⟨h0, h1⟩

theorem inn_start {a b dl D : List Int} {i : Nat} {x : Int} (h : Out a b i dl D) : Inn b x i 0 0 dl (dl.take i ++ macc (dl.drop i) b x 0) := by
  have len : ∀ (R b : List Int) (x c : Int), (macc R b x c).length = R.length := by
    intro R; induction R with
    | nil => intros; rfl
    | cons r R ih => intro b x c; cases b with
      | nil => simp only [macc]; split <;> simp [ih]
      | cons y b => simp only [macc, List.length_cons, ih]
  refine ⟨by simp, h.dig, ?_, fun j z _ hj hz => h.zero j z hj hz⟩
  rw [List.length_append, len, ← List.length_append, List.take_append_drop]
/-- A digit more of the other factor. -/
theorem inn_step {b dl M : List Int} {x c r y : Int} {i k : Nat} (h : Inn b x i k c dl M) (hx : 0 ≤ x ∧ x < 10000) (hc : 0 ≤ c ∧ c < 10000) (hb : Dgt b) (hr : dl[i + k]? = some r) (hy : b[k]? = some y) :
    ∃ X, r + c + x * y = X ∧ 0 ≤ X ∧ X < 100000000 ∧ (0 ≤ r ∧ r < 10000) ∧ (0 ≤ y ∧ y < 10000) ∧ (0 ≤ x * y ∧ x * y < 100000000) ∧ 0 ≤ X / 10000 ∧ X / 10000 < 10000 ∧ Inn b x i (k + 1) (X / 10000) (dl.set (i + k) (X % 10000)) M := by
  obtain ⟨hl, er⟩ := List.getElem?_eq_some_iff.1 hr
  obtain ⟨hk, ey⟩ := List.getElem?_eq_some_iff.1 hy
  have br := h.dig.at_ hr; have by_ := hb.at_ hy
  have m := mul_dig br hc hx by_
  refine ⟨_, rfl, by omega, by omega, br, by_, by omega, by omega, by omega, ?_, set_dig h.dig (by omega) (by omega), by rw [List.length_set]; exact h.len, fun j z h1 h2 hz => ?_⟩
  · have e := h.eq
    rw [List.drop_eq_getElem_cons hl, List.drop_eq_getElem_cons hk, er, ey] at e
    simp only [macc] at e
    rw [show i + (k + 1) = i + k + 1 by omega, take_set hl, drop_set, List.append_assoc]
    exact e
  · rw [List.getElem?_set_ne (by omega)] at hz
    exact h.zero j z (by omega) h2 hz
/-- What is carried, behind the other factor. -/
theorem inn_last {b dl M : List Int} {x c r : Int} {i k : Nat} (h : Inn b x i k c dl M) (hc : 0 < c ∧ c < 10000) (hk : b.length ≤ k) (hr : dl[i + k]? = some r) :
    r = 0 ∧ Inn b x i (k + 1) 0 (dl.set (i + k) c) M := by
  obtain ⟨hl, er⟩ := List.getElem?_eq_some_iff.1 hr
  have r0 := h.zero (i + k) r (by omega) (by omega) hr
  subst r0
  refine ⟨rfl, ?_, set_dig h.dig (by omega) (by omega), by rw [List.length_set]; exact h.len, fun j z h1 h2 hz => ?_⟩
  · have e := h.eq
    rw [List.drop_eq_getElem_cons hl, List.drop_eq_nil_of_le hk, er] at e
    simp only [macc, if_pos hc.1] at e
    rw [show (0 + c) % 10000 = c by omega, show (0 + c) / 10000 = 0 by omega] at e
    rw [show i + (k + 1) = i + k + 1 by omega, take_set hl, drop_set, List.append_assoc, List.drop_eq_nil_of_le (show b.length ≤ k + 1 by omega)]
    exact e
  · rw [List.getElem?_set_ne (by omega)] at hz
    exact h.zero j z (by omega) h2 hz
/-- A digit of the factor is done. -/
theorem inn_end {a b dl dl' D : List Int} {x : Int} {i k : Nat} (o : Out a b i dl D) (hx : a[i]? = some x) (da : Dgt a) (hb : Dgt b) (hroom : i + b.length + 1 < dl.length) (hk : b.length ≤ k) (h : Inn b x i k 0 dl' (dl.take i ++ macc (dl.drop i) b x 0)) : Out a b (i + 1) dl' D := by
  have e := h.eq
  rw [List.drop_eq_nil_of_le hk, macc_end, List.take_append_drop] at e
  have hd : Dgt (dl.drop i) := fun y hy => o.dig y (List.mem_of_mem_drop hy)
  obtain ⟨_, _, e3, e4⟩ := macc_spec (dl.drop i) b x 0 hd hb (da.at_ hx) (by omega) ⟨by simp; omega, fun j z hj hz => by rw [List.getElem?_drop] at hz; exact o.zero _ z (by omega) hz⟩
  obtain ⟨hi, ex⟩ := List.getElem?_eq_some_iff.1 hx
  have oe := o.eq
  rw [List.drop_eq_getElem_cons hi, ex] at oe
  simp only [mulO] at oe
  have hti : (dl.take i).length = i := by simp; omega
  generalize hM : macc (dl.drop i) b x 0 = M at *
  match M, e3, e4, oe, e with
  | [], e3, _, _, _ => simp at e3; omega
  | m :: M, e3, e4, oe, e =>
    simp only [List.getD_cons_zero, List.drop_succ_cons, List.drop_zero] at oe
    subst e
    refine ⟨?_, h.dig, by rw [h.len, ← o.len, List.length_append, e3, ← List.length_append, List.take_append_drop], fun j z hj hz => ?_⟩
    · rw [List.take_append, List.drop_append, hti, show i + 1 - i = 1 by omega, List.take_of_length_le (by omega), List.drop_eq_nil_of_le (by omega)]
      simp only [List.take_succ_cons, List.take_zero, List.drop_succ_cons, List.drop_zero, List.nil_append, List.append_assoc, List.cons_append]
      exact oe
    · rw [List.getElem?_append_right (by omega), hti] at hz
      exact e4 (j - i) z (by omega) hz
theorem out_start (a b : List Int) (N : Nat) (hN : a.length + b.length < N) (ha : Dgt a) (hb : Dgt b) : ∃ D, Out a b 0 (List.replicate N 0) D ∧ D.length = N ∧ Dgt D ∧ vl D = vl a * vl b := by
  have z : ∀ n, vl (List.replicate n 0) = 0 := fun n => by induction n with
    | zero => rfl
    | succ n ih => rw [List.replicate_succ, vl, ih]; rfl
  have d : Dgt (List.replicate N 0) := fun x hx => by rw [List.eq_of_mem_replicate hx]; omega
  have zz : ∀ (j : Nat) (x : Int), (List.replicate N (0 : Int))[j]? = some x → x = 0 := fun j x hx => by
    exact List.eq_of_mem_replicate (List.mem_of_getElem? hx)
  obtain ⟨e1, e2, e3⟩ := mulO_spec a (List.replicate N 0) b d ha hb (by simpa using hN) (fun j x _ hx => zz j x hx)
  refine ⟨mulO (List.replicate N 0) a b, ⟨by simp, d, by rw [e3], fun j x _ hx => zz j x hx⟩, by rw [e3]; simp, e2, by rw [e1, z]; omega⟩
theorem out_end {a b dl D : List Int} {i : Nat} (h : Out a b i dl D) (hi : a.length ≤ i) : dl = D := by
  have e := h.eq
  rw [List.drop_eq_nil_of_le hi] at e
  simpa [mulO] using e
end Go.Proofs.YtakfjdnpfhcgkaaGreatDoor
