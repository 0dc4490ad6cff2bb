/-
  Whole numbers by their digits in base 10000: plain laws.
-/
import Derived.Test.YtakfjdnpfhcgkaaGreatDoorDm
namespace Go.Proofs.YtakfjdnpfhcgkaaGreatDoor
set_option linter.all false

/-- A number's digits, the low one first, none at the top that is 0. -/
def dgs (n : Nat) : List Int := if n = 0 then [] else ((n % 10000 : Nat) : Int) :: dgs (n / 10000)
termination_by n
decreasing_by omega
/-- What digits are worth. -/
def vl : List Int → Int
  | [] => 0
  | x :: r => x + 10000 * vl r
def Dgt (l : List Int) : Prop := ∀ x ∈ l, 0 ≤ x ∧ x < 10000
/-- No 0 at the top. -/
def Top : List Int → Prop
  | [] => True
  | x :: r => (r = [] → x ≠ 0) ∧ Top r

theorem dgs_0 : dgs 0 = [] := by rw [dgs]; rfl
theorem dgs_pos {n : Nat} (h : n ≠ 0) : dgs n = ((n % 10000 : Nat) : Int) :: dgs (n / 10000) := by rw [dgs, if_neg h]
theorem Dgt.nil : Dgt [] := fun x h => by simp at h
theorem Dgt.cons {x : Int} {r : List Int} (h0 : 0 ≤ x) (h1 : x < 10000) (h : Dgt r) : Dgt (x :: r) := fun y hy => by
  rcases List.mem_cons.1 hy with rfl | k
  · exact ⟨h0, h1⟩
  · exact h y k
theorem Dgt.head {x : Int} {r : List Int} (h : Dgt (x :: r)) : 0 ≤ x ∧ x < 10000 := h x (by simp)
theorem Dgt.tail {x : Int} {r : List Int} (h : Dgt (x :: r)) : Dgt r := fun y hy => h y (by simp [hy])
theorem Dgt.at_ {l : List Int} {i : Nat} {x : Int} (h : Dgt l) (hi : l[i]? = some x) : 0 ≤ x ∧ x < 10000 := h x (List.mem_of_getElem? hi)
theorem Dgt.append {a b : List Int} (ha : Dgt a) (hb : Dgt b) : Dgt (a ++ b) := fun x hx => by
  rcases List.mem_append.1 hx with k | k
  · exact ha x k
  · exact hb x k
theorem Dgt.take {l : List Int} (h : Dgt l) (k : Nat) : Dgt (l.take k) := fun x hx => h x (List.mem_of_mem_take hx)
theorem vl_nonneg : ∀ {l : List Int}, Dgt l → 0 ≤ vl l
  | [], _ => by simp [vl]
  | x :: r, h => by have := vl_nonneg h.tail; have := h.head; simp only [vl]; omega
theorem vl_append : ∀ (a b : List Int), vl (a ++ b) = vl a + 10000 ^ a.length * vl b
  | [], b => by simp [vl]
  | x :: r, b => by
    simp only [List.cons_append, vl, vl_append r b, List.length_cons, Int.pow_succ]
    rw [Int.mul_add, ← Int.mul_assoc, Int.mul_comm 10000 (10000 ^ r.length), Int.add_assoc]
theorem dgs_dig (n : Nat) : Dgt (dgs n) := by
  induction n using Nat.strongRecOn with
  | _ n ih =>
    by_cases h : n = 0
    · subst h; rw [dgs_0]; exact Dgt.nil
    · rw [dgs_pos h]; exact Dgt.cons (by omega) (by omega) (ih _ (by omega))
theorem vl_dgs (n : Nat) : vl (dgs n) = n := by
  induction n using Nat.strongRecOn with
  | _ n ih =>
    by_cases h : n = 0
    · subst h; rw [dgs_0]; rfl
    · rw [dgs_pos h, vl, ih _ (by omega)]; omega
theorem dgs_nil {n : Nat} (h : dgs n = []) : n = 0 := by have := vl_dgs n; rw [h] at this; simp [vl] at this; omega
theorem dgs_top (n : Nat) : Top (dgs n) := by
  induction n using Nat.strongRecOn with
  | _ n ih =>
    by_cases h : n = 0
    · subst h; rw [dgs_0]; trivial
    · rw [dgs_pos h]
      refine ⟨fun k => ?_, ih _ (by omega)⟩
      have := dgs_nil k; omega
/-- Digits without 0 at the top are the number's own. -/
theorem dgs_vl : ∀ {l : List Int}, Dgt l → Top l → dgs (vl l).toNat = l
  | [], _, _ => by simp [vl, dgs_0]
  | x :: r, h, t => by
    have a := dgs_vl h.tail t.2; have b := h.head; have c := vl_nonneg h.tail
    have e : (vl (x :: r)).toNat = x.toNat + 10000 * (vl r).toNat := by simp only [vl]; omega
    have nz : (vl (x :: r)).toNat ≠ 0 := by
      by_cases k : r = []
      · have := t.1 k; omega
      · have : (vl r).toNat ≠ 0 := fun z => k (by rw [z, dgs_0] at a; exact a.symm)
        omega
    rw [dgs_pos nz, e, show (x.toNat + 10000 * (vl r).toNat) / 10000 = (vl r).toNat by omega, a, show ((x.toNat + 10000 * (vl r).toNat) % 10000 : Nat) = x.toNat by omega]
    congr 1; omega
theorem dgs_eq {l : List Int} {n : Nat} (h : Dgt l) (t : Top l) (e : vl l = n) : l = dgs n := by
  have := dgs_vl h t; rw [e] at this; simpa using this.symm
theorem Top.append : ∀ {a b : List Int}, Top (a ++ b) → Top b
  | [], b, h => h
  | x :: r, b, h => Top.append (a := r) h.2
theorem Top.last : ∀ {l : List Int} {x : Int}, x ≠ 0 → Top (l ++ [x])
  | [], x, h => ⟨fun _ => h, trivial⟩
  | y :: r, x, h => ⟨fun k => by simp at k, Top.last (l := r) h⟩
theorem Top.of_last : ∀ {l : List Int}, (∀ k x, k + 1 = l.length → l[k]? = some x → x ≠ 0) → Top l
  | [], _ => trivial
  | y :: r, h => ⟨fun k => h 0 y (by simp [k]) (by simp), Top.of_last fun k x hk hx => h (k + 1) x (by simpa using hk) (by simpa using hx)⟩
/-- How many digits. -/
theorem dgs_len {n k : Nat} (h : n < 10000 ^ k) : (dgs n).length ≤ k := by
  induction k generalizing n with
  | zero => have : n = 0 := by simpa using h
            subst this; rw [dgs_0]; simp
  | succ k ih =>
    by_cases z : n = 0
    · subst z; rw [dgs_0]; simp
    · rw [dgs_pos z]
      have := ih (n := n / 10000) (by rw [Nat.pow_succ] at h; omega)
      simp only [List.length_cons]; omega
theorem len_lt {m : Nat} : ∀ {n : Nat}, (dgs m).length < (dgs n).length → m < n := by
  induction m using Nat.strongRecOn with
  | _ m ih =>
    intro n h
    have hn : n ≠ 0 := fun k => by subst k; rw [dgs_0] at h; simp at h
    by_cases hm : m = 0
    · omega
    · rw [dgs_pos hm, dgs_pos hn] at h
      have := ih (m / 10000) (by omega) (n := n / 10000) (by simpa using h)
      omega
/-- All behind a place is 0. -/
theorem vl_take {l : List Int} {k : Nat} (h : ∀ i x, k ≤ i → l[i]? = some x → x = 0) : vl (l.take k) = vl l := by
  have z : ∀ {r : List Int}, (∀ (i : Nat) (x : Int), r[i]? = some x → x = 0) → vl r = 0 := by
    intro r; induction r with
    | nil => intro _; rfl
    | cons y r ih => intro h; have := h 0 y (by simp); subst this; simp only [vl]; rw [ih fun i x hx => h (i + 1) x (by simpa using hx)]; rfl
  have e := vl_append (l.take k) (l.drop k)
  rw [List.take_append_drop] at e
  rw [z (r := l.drop k) fun i x hx => h (k + i) x (by omega) (by rw [List.getElem?_drop] at hx; exact hx)] at e
  rw [e]; simp
/-- What 'trim' keeps. -/
theorem trim_eq {l : List Int} {k : Nat} {x : Int} (d : Dgt l) (hk : k ≤ l.length) (h : ∀ i x, k ≤ i → l[i]? = some x → x = 0) (hx : k = 0 ∨ (l[k - 1]? = some x ∧ x ≠ 0)) : l.take k = dgs (vl l).toNat := by
  have t : Top (l.take k) := Top.of_last fun i y hi hy => by
    rcases hx with k0 | ⟨hx, hn⟩
    · subst k0; simp at hi
    · have hl : (l.take k).length = k := by simp; omega
      rw [hl] at hi
      rw [List.getElem?_take_of_lt (by omega), show i = k - 1 by omega, hx] at hy
      injection hy with e; omega
  have := dgs_vl (d.take k) t
  rw [vl_take h] at this; exact this.symm
theorem vl_pos {n : Nat} : 0 < (dgs n).length ↔ 0 < n := by
  constructor
  · intro h; rcases Nat.eq_zero_or_pos n with k | k
    · subst k; rw [dgs_0] at h; simp at h
    · exact k
  · intro h; rw [dgs_pos (by omega)]; simp

/-- A sum, digit by digit. -/
def addL : List Int → List Int → Int → List Int
  | [], [], c => if c = 0 then [] else [c]
  | x :: r, [], c => ((x + c) % 10000) :: addL r [] ((x + c) / 10000)
  | [], y :: s, c => ((y + c) % 10000) :: addL [] s ((y + c) / 10000)
  | x :: r, y :: s, c => ((x + y + c) % 10000) :: addL r s ((x + y + c) / 10000)
theorem addL_spec : ∀ (a b : List Int) (c : Int), Dgt a → Dgt b → 0 ≤ c → c ≤ 1 → vl (addL a b c) = vl a + vl b + c ∧ Dgt (addL a b c) ∧ (addL a b c).length ≤ max a.length b.length + 1 ∧ (Top a → Top b → (c = 0 ∨ True) → Top (addL a b c) ∧ ((a ≠ [] ∨ b ≠ [] ∨ c ≠ 0) → addL a b c ≠ []))
  | [], [], c, _, _, h0, h1 => by
    by_cases k : c = 0
    · subst k; simp [addL, vl, Top, Dgt.nil]
    · simp only [addL, if_neg k, vl]
      refine ⟨by omega, Dgt.cons (by omega) (by omega) Dgt.nil, by simp, fun _ _ _ => ⟨⟨fun _ => k, trivial⟩, by simp⟩⟩
  | x :: r, [], c, ha, hb, h0, h1 => by
    have hx := ha.head
    obtain ⟨e1, e2, e3, e4⟩ := addL_spec r [] ((x + c) / 10000) ha.tail hb (by omega) (by omega)
    simp only [addL, vl]
    simp only [vl] at e1
    refine ⟨by omega, Dgt.cons (by omega) (by omega) e2, by simp at e3 ⊢; omega, fun ta tb _ => ⟨⟨fun k => ?_, (e4 ta.2 trivial (.inr trivial)).1⟩, by simp⟩⟩
    have n := (e4 ta.2 trivial (.inr trivial)).2
    have hr : r = [] := by
      by_cases q : r = []
      · exact q
      · exact absurd k (n (.inl q))
    have := ta.1 hr
    have : (x + c) / 10000 = 0 := by
      by_cases q : (x + c) / 10000 = 0
      · exact q
      · exact absurd k (n (.inr (.inr q)))
    omega
  | [], y :: s, c, ha, hb, h0, h1 => by
    have hx := hb.head
    obtain ⟨e1, e2, e3, e4⟩ := addL_spec [] s ((y + c) / 10000) ha hb.tail (by omega) (by omega)
    simp only [addL, vl]
    simp only [vl] at e1
    refine ⟨by omega, Dgt.cons (by omega) (by omega) e2, by simp at e3 ⊢; omega, fun ta tb _ => ⟨⟨fun k => ?_, (e4 trivial tb.2 (.inr trivial)).1⟩, by simp⟩⟩
    have n := (e4 trivial tb.2 (.inr trivial)).2
    have hr : s = [] := by
      by_cases q : s = []
      · exact q
      · exact absurd k (n (.inr (.inl q)))
    have := tb.1 hr
    have : (y + c) / 10000 = 0 := by
      by_cases q : (y + c) / 10000 = 0
      · exact q
      · exact absurd k (n (.inr (.inr q)))
    omega
  | x :: r, y :: s, c, ha, hb, h0, h1 => by
    have hx := ha.head; have hy := hb.head
    obtain ⟨e1, e2, e3, e4⟩ := addL_spec r s ((x + y + c) / 10000) ha.tail hb.tail (by omega) (by omega)
    simp only [addL, vl]
    refine ⟨by omega, Dgt.cons (by omega) (by omega) e2, by simp at e3 ⊢; omega, fun ta tb _ => ⟨⟨fun k => ?_, (e4 ta.2 tb.2 (.inr trivial)).1⟩, by simp⟩⟩
    have n := (e4 ta.2 tb.2 (.inr trivial)).2
    have hr : r = [] := by
      by_cases q : r = []
      · exact q
      · exact absurd k (n (.inl q))
    have hs : s = [] := by
      by_cases q : s = []
      · exact q
      · exact absurd k (n (.inr (.inl q)))
    have := ta.1 hr; have := tb.1 hs
    have : (x + y + c) / 10000 = 0 := by
      by_cases q : (x + y + c) / 10000 = 0
      · exact q
      · exact absurd k (n (.inr (.inr q)))
    omega
theorem addL_dgs (m n : Nat) : addL (dgs m) (dgs n) 0 = dgs (m + n) := by
  obtain ⟨e1, e2, _, e4⟩ := addL_spec (dgs m) (dgs n) 0 (dgs_dig m) (dgs_dig n) (by omega) (by omega)
  refine dgs_eq e2 (e4 (dgs_top m) (dgs_top n) (.inl rfl)).1 ?_
  rw [e1, vl_dgs, vl_dgs]; omega

theorem addL_step {a b : List Int} {k : Nat} {c : Int} (hc : 0 ≤ c ∧ c ≤ 1) (h : k < a.length ∨ k < b.length ∨ 0 < c) : addL (a.drop k) (b.drop k) c = ((c + a.getD k 0 + b.getD k 0) % 10000) :: addL (a.drop (k + 1)) (b.drop (k + 1)) ((c + a.getD k 0 + b.getD k 0) / 10000) := by
  by_cases ka : k < a.length <;> by_cases kb : k < b.length
  · rw [List.drop_eq_getElem_cons ka, List.drop_eq_getElem_cons kb]
    simp only [addL, List.getD_eq_getElem?_getD, List.getElem?_eq_getElem ka, List.getElem?_eq_getElem kb, Option.getD_some]
    rw [show a[k] + b[k] + c = c + a[k] + b[k] by omega]
  · rw [List.drop_eq_getElem_cons ka, List.drop_eq_nil_of_le (by omega : b.length ≤ k), List.drop_eq_nil_of_le (by omega : b.length ≤ k + 1)]
    simp only [addL, List.getD_eq_getElem?_getD, List.getElem?_eq_getElem ka, List.getElem?_eq_none (by omega : b.length ≤ k), Option.getD_some, Option.getD_none]
    rw [show a[k] + c = c + a[k] + 0 by omega]
  · rw [List.drop_eq_getElem_cons kb, List.drop_eq_nil_of_le (by omega : a.length ≤ k), List.drop_eq_nil_of_le (by omega : a.length ≤ k + 1)]
    simp only [addL, List.getD_eq_getElem?_getD, List.getElem?_eq_getElem kb, List.getElem?_eq_none (by omega : a.length ≤ k), Option.getD_some, Option.getD_none]
    rw [show b[k] + c = c + 0 + b[k] by omega]
  · rw [List.drop_eq_nil_of_le (by omega : a.length ≤ k), List.drop_eq_nil_of_le (by omega : a.length ≤ k + 1), List.drop_eq_nil_of_le (by omega : b.length ≤ k), List.drop_eq_nil_of_le (by omega : b.length ≤ k + 1)]
    simp only [addL, List.getD_eq_getElem?_getD, List.getElem?_eq_none (by omega : a.length ≤ k), List.getElem?_eq_none (by omega : b.length ≤ k), Option.getD_none]
    have : c = 1 := by omega
    subst this
    rfl

/-- The order of two numbers. -/
def cmpN (m n : Nat) : Int := if m < n then -1 else if n < m then 1 else 0
theorem cmp_lt : ∀ {a b : List Int} {i : Nat} {x y : Int}, Dgt a → Dgt b → a[i]? = some x → b[i]? = some y → a.drop (i + 1) = b.drop (i + 1) → x < y → vl a < vl b
  | [], _, _, _, _, _, _, h, _, _, _ => by simp at h
  | _ :: _, [], _, _, _, _, _, _, h, _, _ => by simp at h
  | x' :: r, y' :: s, 0, x, y, da, db, h, g, e, l => by
    simp at h g e; subst h; subst g; subst e
    simp only [vl]; omega
  | x' :: r, y' :: s, i + 1, x, y, da, db, h, g, e, l => by
    have := cmp_lt (a := r) (b := s) (i := i) da.tail db.tail (by simpa using h) (by simpa using g) (by simpa using e) l
    have := da.head; have := db.head
    simp only [vl]; omega

/-- A difference, digit by digit. -/
def subL : List Int → List Int → Int → List Int
  | [], _, _ => []
  | x :: r, b, c => if x - c - b.getD 0 0 < 0 then (x - c - b.getD 0 0 + 10000) :: subL r (b.drop 1) 1 else (x - c - b.getD 0 0) :: subL r (b.drop 1) 0
theorem subL_spec : ∀ (a b : List Int) (c : Int), Dgt a → Dgt b → 0 ≤ c → c ≤ 1 → vl b + c ≤ vl a → vl (subL a b c) = vl a - vl b - c ∧ Dgt (subL a b c) ∧ (subL a b c).length = a.length
  | [], b, c, _, hb, h0, h1, h => by
    have := vl_nonneg hb
    simp only [vl] at h
    simp only [subL, vl]
    exact ⟨by omega, Dgt.nil, trivial⟩
  | x :: r, [], c, ha, hb, h0, h1, h => by
    have hx := ha.head; have := vl_nonneg ha.tail
    simp only [vl] at h
    simp only [subL, List.getD_nil, List.drop_nil]
    split
    · obtain ⟨e1, e2, e3⟩ := subL_spec r [] 1 ha.tail hb (by omega) (by omega) (by simp only [vl]; omega)
      simp only [vl] at e1 ⊢
      exact ⟨by omega, Dgt.cons (by omega) (by omega) e2, by simp [e3]⟩
    · obtain ⟨e1, e2, e3⟩ := subL_spec r [] 0 ha.tail hb (by omega) (by omega) (by simp only [vl]; omega)
      simp only [vl] at e1 ⊢
      exact ⟨by omega, Dgt.cons (by omega) (by omega) e2, by simp [e3]⟩
  | x :: r, y :: s, c, ha, hb, h0, h1, h => by
    have hx := ha.head; have hy := hb.head; have := vl_nonneg ha.tail; have := vl_nonneg hb.tail
    simp only [vl] at h
    simp only [subL, List.getD_cons_zero, List.drop_succ_cons, List.drop_zero]
    split
    · obtain ⟨e1, e2, e3⟩ := subL_spec r s 1 ha.tail hb.tail (by omega) (by omega) (by omega)
      simp only [vl] at e1 ⊢
      exact ⟨by omega, Dgt.cons (by omega) (by omega) e2, by simp [e3]⟩
    · obtain ⟨e1, e2, e3⟩ := subL_spec r s 0 ha.tail hb.tail (by omega) (by omega) (by omega)
      simp only [vl] at e1 ⊢
      exact ⟨by omega, Dgt.cons (by omega) (by omega) e2, by simp [e3]⟩
theorem subL_step {a b : List Int} {k : Nat} {c x : Int} (h : a[k]? = some x) : subL (a.drop k) (b.drop k) c = if x - c - b.getD k 0 < 0 then (x - c - b.getD k 0 + 10000) :: subL (a.drop (k + 1)) (b.drop (k + 1)) 1 else (x - c - b.getD k 0) :: subL (a.drop (k + 1)) (b.drop (k + 1)) 0 := by
  obtain ⟨ka, e⟩ := List.getElem?_eq_some_iff.1 h
  rw [List.drop_eq_getElem_cons ka, e]
  simp only [subL, List.drop_drop, List.getD_eq_getElem?_getD, List.getElem?_drop, Nat.add_zero]

/-- A row of digits, b times x added to it. -/
def macc : List Int → List Int → Int → Int → List Int
  | [], _, _, _ => []
  | r :: R, y :: b, x, c => ((r + c + x * y) % 10000) :: macc R b x ((r + c + x * y) / 10000)
  | r :: R, [], x, c => if 0 < c then ((r + c) % 10000) :: macc R [] x ((r + c) / 10000) else r :: R
/-- Room behind n digits. -/
def Room (R : List Int) (n : Nat) : Prop := n < R.length ∧ ∀ (j : Nat) (x : Int), n ≤ j → R[j]? = some x → x = 0
theorem macc_end (R : List Int) (x : Int) : macc R [] x 0 = R := by cases R <;> simp [macc]
theorem mul_dig {r c x y : Int} (hr : 0 ≤ r ∧ r < 10000) (hc : 0 ≤ c ∧ c < 10000) (hx : 0 ≤ x ∧ x < 10000) (hy : 0 ≤ y ∧ y < 10000) : 0 ≤ x * y ∧ x * y ≤ 99980001 ∧ 0 ≤ r + c + x * y ∧ (r + c + x * y) / 10000 < 10000 := by
  have h0 := Int.mul_nonneg hx.1 hy.1
  have h1 : x * y ≤ 9999 * 9999 := Int.mul_le_mul (by omega) (by omega) hy.1 (by omega)
  omega
theorem macc_spec : ∀ (R b : List Int) (x c : Int), Dgt R → Dgt b → 0 ≤ x ∧ x < 10000 → 0 ≤ c ∧ c < 10000 → Room R b.length → vl (macc R b x c) = vl R + c + x * vl b ∧ Dgt (macc R b x c) ∧ (macc R b x c).length = R.length ∧ (∀ (j : Nat) (z : Int), b.length + 1 ≤ j → (macc R b x c)[j]? = some z → z = 0)
  | [], b, x, c, _, _, _, _, h => by have := h.1; simp at this
  | r :: R, [], x, c, hR, hb, hx, hc, h => by
    have h0 := h.2 0 r (by simp) (by simp)
    subst h0
    simp only [macc]
    split
    · rw [show (0 + c) / 10000 = 0 by omega, macc_end, show (0 + c) % 10000 = c by omega]
      simp only [vl]
      exact ⟨by omega, Dgt.cons (by omega) (by omega) hR.tail, by simp, fun j z hj hz => by
        obtain ⟨i, rfl⟩ : ∃ i, j = i + 1 := ⟨j - 1, by simp at hj; omega⟩
        exact h.2 (i + 1) z (by simp) (by simpa using hz)⟩
    · simp only [vl]
      exact ⟨by omega, hR, by simp, fun j z hj hz => h.2 j z (by simp) hz⟩
  | r :: R, y :: b, x, c, hR, hb, hx, hc, h => by
    have m := mul_dig hR.head hc hx hb.head
    have hR' : Room R b.length := ⟨by have := h.1; simpa using this, fun j z hj hz => h.2 (j + 1) z (by simpa using hj) (by simpa using hz)⟩
    obtain ⟨e1, e2, e3, e4⟩ := macc_spec R b x ((r + c + x * y) / 10000) hR.tail hb.tail hx (by omega) hR'
    simp only [macc, vl]
    refine ⟨?_, Dgt.cons (by omega) (by omega) e2, by simp [e3], fun j z hj hz => ?_⟩
    · rw [e1, show x * (y + 10000 * vl b) = x * y + 10000 * (x * vl b) by rw [Int.mul_add, Int.mul_left_comm]]
      generalize x * vl b = q at *
      generalize x * y = p at *
      omega
    · obtain ⟨i, rfl⟩ : ∃ i, j = i + 1 := ⟨j - 1, by simp at hj; omega⟩
      exact e4 i z (by simp at hj; omega) (by simpa using hz)
/-- The product of two rows of digits, added to a third. -/
def mulO : List Int → List Int → List Int → List Int
  | R, [], _ => R
  | R, x :: a, b => (macc R b x 0).getD 0 0 :: mulO ((macc R b x 0).drop 1) a b
theorem mulO_spec : ∀ (a R b : List Int), Dgt R → Dgt a → Dgt b → a.length + b.length < R.length → (∀ (j : Nat) (x : Int), b.length ≤ j → R[j]? = some x → x = 0) → vl (mulO R a b) = vl R + vl a * vl b ∧ Dgt (mulO R a b) ∧ (mulO R a b).length = R.length
  | [], R, b, hR, _, hb, hl, h => by simp [mulO, vl, hR]
  | x :: a, R, b, hR, ha, hb, hl, h => by
    simp only [List.length_cons] at hl
    obtain ⟨e1, e2, e3, e4⟩ := macc_spec R b x 0 hR hb ha.head (by omega) ⟨by omega, h⟩
    simp only [mulO]
    generalize macc R b x 0 = M at *
    match M, e1, e2, e3, e4 with
    | [], _, _, e3, _ => simp at e3; omega
    | m :: M, e1, e2, e3, e4 =>
      simp only [List.getD_cons_zero, List.drop_succ_cons, List.drop_zero]
      obtain ⟨g1, g2, g3⟩ := mulO_spec a M b e2.tail ha.tail hb (by simp at e3; omega) (fun j z hj hz => e4 (j + 1) z (by omega) (by simpa using hz))
      refine ⟨?_, Dgt.cons e2.head.1 e2.head.2 g2, by simp at e3 ⊢; omega⟩
      simp only [vl] at e1 ⊢
      rw [g1, Int.add_mul, Int.mul_assoc]
      generalize x * vl b = p at *
      generalize vl a * vl b = q at *
      omega
end Go.Proofs.YtakfjdnpfhcgkaaGreatDoor
