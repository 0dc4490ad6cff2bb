/-
  Plain Lean: the bytes of lists of parts stand in the order of the lists; what begins so; ranges.
-/
import Derived.Test.YtjccadfaiahkkaaDoorKp
import Derived.Lib.Small
namespace Go.Proofs.YtjccadfaiahkkaaDoor
set_option linter.all false
open Go.Lib

/-! ### comparison of bytes -/
theorem cb_nil_cons (c : UInt8) (l : List UInt8) : compareBytes [] (c :: l) = -1 := rfl
theorem cb_cons_nil (c : UInt8) (l : List UInt8) : compareBytes (c :: l) [] = 1 := rfl
theorem cb_cons (a b : UInt8) (x y : List UInt8) : compareBytes (a :: x) (b :: y) = if a < b then -1 else if b < a then 1 else compareBytes x y := by rw [compareBytes]
theorem cb_same (a : UInt8) (x y : List UInt8) : compareBytes (a :: x) (a :: y) = compareBytes x y := by
  rw [cb_cons, if_neg (UInt8.lt_irrefl a), if_neg (UInt8.lt_irrefl a)]
theorem cb_app : ∀ (z x y : List UInt8), compareBytes (z ++ x) (z ++ y) = compareBytes x y
  | [], _, _ => rfl
  | c :: z, x, y => by rw [List.cons_append, List.cons_append, cb_same, cb_app z]
theorem cb_self (z : List UInt8) : compareBytes z z = 0 := by
  have := cb_app z [] []
  simpa [compareBytes] using this
theorem cb_lt {a b : UInt8} (h : a < b) (x y : List UInt8) : compareBytes (a :: x) (b :: y) = -1 := by rw [cb_cons, if_pos h]
theorem cb_gt {a b : UInt8} (h : b < a) (x y : List UInt8) : compareBytes (a :: x) (b :: y) = 1 := by
  rw [cb_cons, if_neg (fun g => absurd (UInt8.lt_trans g h) (UInt8.lt_irrefl a)), if_pos h]
theorem u8_three (a b : UInt8) : a < b ∨ a = b ∨ b < a := by
  rcases Nat.lt_trichotomy a.toNat b.toNat with h | h | h
  · exact .inl (UInt8.lt_iff_toNat_lt.2 h)
  · exact .inr (.inl (UInt8.toNat_inj.1 h))
  · exact .inr (.inr (UInt8.lt_iff_toNat_lt.2 h))
theorem cb_anti : ∀ x y : List UInt8, compareBytes y x = -compareBytes x y
  | [], [] => rfl
  | [], _ :: _ => rfl
  | _ :: _, [] => rfl
  | a :: x, b :: y => by
    rcases u8_three a b with h | h | h
    · rw [cb_lt h, cb_gt h]; rfl
    · subst h; rw [cb_same, cb_same, cb_anti x y]
    · rw [cb_lt h, cb_gt h]
theorem cb_zero : ∀ {x y : List UInt8}, compareBytes x y = 0 → x = y
  | [], [], _ => rfl
  | [], _ :: _, h => by simp [compareBytes] at h
  | _ :: _, [], h => by simp [compareBytes] at h
  | a :: x, b :: y, h => by
    rcases u8_three a b with g | g | g
    · rw [cb_lt g] at h; simp at h
    · subst g; rw [cb_same] at h; rw [cb_zero h]
    · rw [cb_gt g] at h; simp at h
theorem cb_vals : ∀ x y : List UInt8, compareBytes x y = -1 ∨ compareBytes x y = 0 ∨ compareBytes x y = 1
  | [], [] => .inr (.inl rfl)
  | [], _ :: _ => .inl rfl
  | _ :: _, [] => .inr (.inr rfl)
  | a :: x, b :: y => by
    rcases u8_three a b with g | g | g
    · exact .inl (cb_lt g x y)
    · subst g; rw [cb_same]; exact cb_vals x y
    · exact .inr (.inr (cb_gt g x y))
theorem less_cb : ∀ x y : List UInt8, Go.Op.bytesLess x y = decide (compareBytes x y < 0)
  | [], [] => by simp [Go.Op.bytesLess, compareBytes]
  | [], _ :: _ => by simp [Go.Op.bytesLess, compareBytes]
  | _ :: _, [] => by simp [Go.Op.bytesLess, compareBytes]
  | a :: x, b :: y => by
    rw [Go.Op.bytesLess]
    rcases u8_three a b with g | g | g
    · rw [cb_lt g]; simp [g]
    · subst g; rw [cb_same, less_cb x y]; simp [UInt8.lt_irrefl]
    · rw [cb_gt g]
      have n1 : ¬ a < b := fun h => absurd (UInt8.lt_trans h g) (UInt8.lt_irrefl a)
      have n2 : ¬ a = b := fun h => by subst h; exact UInt8.lt_irrefl _ g
      simp [n1, n2]

/-! ### comparison of parts -/
def cmpP (p q : Part) : Int := if compareInt p.k q.k ≠ 0 then compareInt p.k q.k else if p.k = 1 then compareInt p.n q.n else if p.k = 2 then compareBytes p.s q.s else 0
def cmpL : List Part → List Part → Int
  | [], [] => 0
  | [], _ :: _ => -1
  | _ :: _, [] => 1
  | p :: a, q :: b => if cmpP p q ≠ 0 then cmpP p q else cmpL a b
theorem ci_eq {x y : Int} (h : x = y) : compareInt x y = 0 := by subst h; simp [compareInt]
theorem ci_lt {x y : Int} (h : x < y) : compareInt x y = -1 := by simp [compareInt, h]
theorem ci_gt {x y : Int} (h : y < x) : compareInt x y = 1 := by
  have : ¬ x < y := by omega
  simp [compareInt, h, this]
theorem ci_three (x y : Int) : (x < y ∧ compareInt x y = -1) ∨ (x = y ∧ compareInt x y = 0) ∨ (y < x ∧ compareInt x y = 1) := by
  rcases (show x < y ∨ x = y ∨ y < x by omega) with h | h | h
  · exact .inl ⟨h, ci_lt h⟩
  · exact .inr (.inl ⟨h, ci_eq h⟩)
  · exact .inr (.inr ⟨h, ci_gt h⟩)
theorem be_order : ∀ (k u v : Nat) (x y : List UInt8), compareBytes (be k u ++ x) (be k v ++ y) = if u % 256 ^ k < v % 256 ^ k then -1 else if v % 256 ^ k < u % 256 ^ k then 1 else compareBytes x y
  | 0, u, v, x, y => by simp [be, Nat.mod_one]
  | k + 1, u, v, x, y => by
    simp only [be, List.cons_append]
    have ih := be_order k u v x y
    have e1 := Nat.mod_mul (x := u) (a := 256 ^ k) (b := 256)
    have e2 := Nat.mod_mul (x := v) (a := 256 ^ k) (b := 256)
    rw [show 256 ^ (k + 1) = 256 ^ k * 256 from Nat.pow_succ .., e1, e2]
    have p : 0 < 256 ^ k := Nat.pow_pos (by omega)
    have l1 := Nat.mod_lt u p
    have l2 := Nat.mod_lt v p
    have t1 := u8_toNat (u / 256 ^ k)
    have t2 := u8_toNat (v / 256 ^ k)
    generalize (u / 256 ^ k) % 256 = A at *
    generalize (v / 256 ^ k) % 256 = B at *
    generalize u % 256 ^ k = C at *
    generalize v % 256 ^ k = D at *
    generalize 256 ^ k = M at *
    rcases Nat.lt_trichotomy A B with h | h | h
    · have g : (u / M).toUInt8 < (v / M).toUInt8 := UInt8.lt_iff_toNat_lt.2 (by omega)
      rw [cb_lt g]
      have := Nat.mul_le_mul_left M (show A + 1 ≤ B by omega)
      rw [Nat.mul_add, Nat.mul_one] at this
      rw [if_pos (by omega)]
    · have g : (u / M).toUInt8 = (v / M).toUInt8 := UInt8.toNat_inj.1 (by omega)
      subst h
      rw [g, cb_same, ih]
      have g1 : (C + M * A < D + M * A) = (C < D) := by apply propext; omega
      have g2 : (D + M * A < C + M * A) = (D < C) := by apply propext; omega
      simp only [g1, g2]
    · have g : (v / M).toUInt8 < (u / M).toUInt8 := UInt8.lt_iff_toNat_lt.2 (by omega)
      rw [cb_gt g]
      have := Nat.mul_le_mul_left M (show B + 1 ≤ A by omega)
      rw [Nat.mul_add, Nat.mul_one] at this
      rw [if_neg (by omega), if_pos (by omega)]
theorem enI_order {a b : Int} (ha : In64 a) (hb : In64 b) (x y : List UInt8) : compareBytes (enI a ++ x) (enI b ++ y) = if compareInt a b ≠ 0 then compareInt a b else compareBytes x y := by
  obtain ⟨a1, a2⟩ := ha; obtain ⟨b1, b2⟩ := hb
  unfold enI
  rw [be_order, Nat.mod_eq_of_lt (by omega), Nat.mod_eq_of_lt (by omega)]
  rcases ci_three a b with ⟨h, e⟩ | ⟨h, e⟩ | ⟨h, e⟩
  · rw [e, if_pos (by omega)]; simp
  · rw [e, if_neg (by omega), if_neg (by omega)]; simp
  · rw [e, if_neg (by omega), if_pos (by omega)]; simp
theorem u8_pos {c : UInt8} (h : c ≠ 0) : (0 : UInt8) < c := by
  rcases u8_three 0 c with g | g | g
  · exact g
  · exact absurd g.symm h
  · exact absurd (UInt8.lt_iff_toNat_lt.1 g) (by simp)
theorem esc_order : ∀ (s t x y : List UInt8), compareBytes (esc s ++ 0 :: 1 :: x) (esc t ++ 0 :: 1 :: y) = if compareBytes s t ≠ 0 then compareBytes s t else compareBytes x y
  | [], [], x, y => by simp [esc, cb_same, compareBytes]
  | [], c :: t, x, y => by
    rw [cb_nil_cons, esc, esc]
    by_cases h : c = 0
    · subst h
      simp [cb_same]
      exact cb_lt (by decide) _ _
    · simp [h]
      exact cb_lt (u8_pos h) _ _
  | c :: s, [], x, y => by
    rw [cb_cons_nil, esc, esc]
    by_cases h : c = 0
    · subst h
      simp [cb_same]
      exact cb_gt (by decide) _ _
    · simp [h]
      exact cb_gt (u8_pos h) _ _
  | c :: s, d :: t, x, y => by
    have ih := esc_order s t x y
    by_cases hcd : c = d
    · subst hcd
      rw [cb_same, ← ih, esc, esc]
      by_cases h : c = 0
      · simp [h, cb_same]
      · simp [h, cb_same]
    · rw [esc, esc]
      have hne : compareBytes (c :: s) (d :: t) ≠ 0 := fun e => hcd (by have := cb_zero e; simp at this; exact this.1)
      rw [if_pos hne]
      by_cases h : c = 0
      · subst h
        have hd : d ≠ 0 := fun e => hcd e.symm
        simp [hd]
        rw [cb_lt (u8_pos hd), cb_lt (u8_pos hd)]
      · by_cases hd : d = 0
        · subst hd
          simp [h]
          rw [cb_gt (u8_pos h), cb_gt (u8_pos h)]
        · simp [h, hd]
          rcases u8_three c d with g | g | g
          · rw [cb_lt g, cb_lt g]
          · exact absurd g hcd
          · rw [cb_gt g, cb_gt g]
theorem enP_order {p q : Part} (hp : okP p) (hq : okP q) (x y : List UInt8) : compareBytes (enP p ++ x) (enP q ++ y) = if cmpP p q ≠ 0 then cmpP p q else compareBytes x y := by
  obtain ⟨pk, pn⟩ := hp; obtain ⟨qk, qn⟩ := hq
  unfold enP cmpP
  rcases pk with pk | pk <;> rcases qk with qk | qk
  · rw [pk, qk]
    simp [cb_same, enI_order pn qn, ci_eq]
  · rw [pk, qk]
    simp [ci_lt]
    exact cb_lt (by decide) _ _
  · rw [pk, qk]
    simp [ci_gt]
    exact cb_gt (by decide) _ _
  · rw [pk, qk]
    simp [cb_same, ci_eq]
    rw [esc_order]
    simp
theorem en_order : ∀ {l m : List Part}, (∀ p ∈ l, okP p) → (∀ p ∈ m, okP p) → compareBytes (en l) (en m) = cmpL l m
  | [], [], _, _ => rfl
  | [], q :: m, _, _ => by
    rw [en_cons, en_nil]
    cases he : enP q with
    | nil => exact absurd he (enP_ne q)
    | cons c t => rfl
  | p :: l, [], _, _ => by
    rw [en_cons, en_nil]
    cases he : enP p with
    | nil => exact absurd he (enP_ne p)
    | cons c t => rfl
  | p :: l, q :: m, hl, hm => by
    rw [en_cons, en_cons, enP_order (hl p (List.mem_cons_self ..)) (hm q (List.mem_cons_self ..)), en_order (fun x hx => hl x (List.mem_cons_of_mem _ hx)) (fun x hx => hm x (List.mem_cons_of_mem _ hx)), cmpL]
theorem cmpP_self (p : Part) : cmpP p p = 0 := by simp [cmpP, ci_eq, cb_self]
theorem cmpL_self : ∀ l : List Part, cmpL l l = 0
  | [] => rfl
  | p :: l => by simp [cmpL, cmpP_self, cmpL_self l]
theorem cmpP_nrm {p : Part} (h : okP p) : cmpP (nrm p) p = 0 := by
  obtain ⟨hk, _⟩ := h
  unfold cmpP nrm
  rcases hk with h | h <;> simp [h, ci_eq, cb_self]
theorem cmpL_nrm : ∀ {l : List Part}, (∀ p ∈ l, okP p) → cmpL (l.map nrm) l = 0
  | [], _ => rfl
  | p :: l, h => by
    simp [cmpL, cmpP_nrm (h p (List.mem_cons_self ..)), cmpL_nrm (fun x hx => h x (List.mem_cons_of_mem _ hx))]
theorem cmpL_anti {l m : List Part} (hl : ∀ p ∈ l, okP p) (hm : ∀ p ∈ m, okP p) : cmpL m l = -cmpL l m := by
  rw [← en_order hl hm, ← en_order hm hl, cb_anti]

/-! ### what begins so -/
theorem range_front : ∀ {f k : List UInt8}, compareBytes k f ≠ -1 → compareBytes k (f ++ [255]) = -1 → ∃ r, k = f ++ r
  | [], k, _, _ => ⟨k, rfl⟩
  | c :: f, [], h, _ => absurd rfl h
  | c :: f, d :: k, h1, h2 => by
    rw [List.cons_append] at h2
    rcases u8_three d c with g | g | g
    · exact absurd (cb_lt g k f) h1
    · subst g
      rw [cb_same] at h1 h2
      obtain ⟨r, e⟩ := range_front h1 h2
      exact ⟨r, by rw [e]; rfl⟩
    · rw [cb_gt g] at h2; simp at h2
theorem front_range {f r : List UInt8} (h : r = [] ∨ ∃ c t, r = c :: t ∧ c < 255) : compareBytes (f ++ r) f ≠ -1 ∧ compareBytes (f ++ r) (f ++ [255]) = -1 := by
  refine ⟨?_, ?_⟩
  · have e := cb_app f r []
    rw [List.append_nil] at e
    rw [e]
    rcases h with rfl | ⟨c, t, rfl, _⟩
    · decide
    · rw [cb_cons_nil]; decide
  · rw [cb_app]
    rcases h with rfl | ⟨c, t, rfl, g⟩
    · rfl
    · exact cb_lt g _ _
theorem en_head (l : List Part) : en l = [] ∨ ∃ c t, en l = c :: t ∧ c < 255 := by
  cases l with
  | nil => exact .inl rfl
  | cons p l =>
    right
    rw [en_cons]
    unfold enP
    split
    · exact ⟨1, _, rfl, by decide⟩
    · exact ⟨2, _, rfl, by decide⟩
theorem nrm_cmp {p q : Part} (hp : okP p) (hq : okP q) (h : nrm q = nrm p) : cmpP q p = 0 := by
  obtain ⟨pk, _⟩ := hp; obtain ⟨qk, _⟩ := hq
  unfold nrm at h
  unfold cmpP
  rcases pk with pk | pk <;> rcases qk with qk | qk
  · rw [pk, qk] at h ⊢; simp at h; simp [h, ci_eq]
  · rw [pk, qk] at h; simp at h
  · rw [pk, qk] at h; simp at h
  · rw [pk, qk] at h ⊢; simp at h; simp [h, ci_eq, cb_self]
theorem en_front : ∀ {l m : List Part} {r : List UInt8}, (∀ p ∈ l, okP p) → (∀ p ∈ m, okP p) → en m = en l ++ r → l.length ≤ m.length ∧ cmpL (m.take l.length) l = 0
  | [], m, r, _, _, _ => by simp [cmpL]
  | p :: l, [], r, hl, _, h => by
    rw [en_nil, en_cons, List.append_assoc] at h
    exact absurd (List.append_eq_nil_iff.1 h.symm).1 (enP_ne p)
  | p :: l, q :: m, r, hl, hm, h => by
    have hp := hl p (List.mem_cons_self ..); have hq := hm q (List.mem_cons_self ..)
    rw [en_cons, en_cons, List.append_assoc] at h
    have e1 := decP_en hq (en m)
    have e2 := decP_en hp (en l ++ r)
    rw [h, e2] at e1
    simp at e1
    obtain ⟨e3, e4⟩ := e1
    have ih := en_front (fun x hx => hl x (List.mem_cons_of_mem _ hx)) (fun x hx => hm x (List.mem_cons_of_mem _ hx)) e4.symm
    refine ⟨by simp; exact ih.1, ?_⟩
    rw [List.length_cons, List.take_succ_cons, cmpL, if_neg (by rw [nrm_cmp hp hq e3.symm]; simp)]
    exact ih.2
theorem front_en {l m : List Part} (hl : ∀ p ∈ l, okP p) (hm : ∀ p ∈ m, okP p) (h : cmpL (m.take l.length) l = 0) : en m = en l ++ en (m.drop l.length) := by
  have e := en_order (fun x hx => hm x (List.mem_of_mem_take hx)) hl (l := m.take l.length)
  rw [h] at e
  rw [← cb_zero e, ← en_append, List.take_append_drop]
/-- The law of ranges. -/
theorem range_law {l m : List Part} (hl : ∀ p ∈ l, okP p) (hm : ∀ p ∈ m, okP p) :
    (decide (l.length ≤ m.length) && (cmpL (m.take l.length) l == 0)) = (!decide (compareBytes (en m) (en l) < 0) && decide (compareBytes (en m) (en l ++ [255]) < 0)) := by
  have v1 := cb_vals (en m) (en l)
  have v2 := cb_vals (en m) (en l ++ [255])
  by_cases h : l.length ≤ m.length ∧ cmpL (m.take l.length) l = 0
  · obtain ⟨h1, h2⟩ := h
    have e := front_en hl hm h2
    have g := front_range (f := en l) (en_head (m.drop l.length))
    rw [← e] at g
    have a1 : ¬ compareBytes (en m) (en l) < 0 := by have := g.1; omega
    simp [h1, h2, g.2, a1]
  · have hn : ¬ (compareBytes (en m) (en l) ≠ -1 ∧ compareBytes (en m) (en l ++ [255]) = -1) := fun ⟨a, b⟩ => by
      obtain ⟨r, e⟩ := range_front a b
      exact h (en_front hl hm e)
    have lhs : (decide (l.length ≤ m.length) && (cmpL (m.take l.length) l == 0)) = false := by
      rw [Bool.eq_false_iff]
      intro e
      simp at e
      exact h e
    rw [lhs]
    symm
    rw [Bool.eq_false_iff]
    intro e
    simp at e
    exact hn ⟨by omega, by omega⟩
end Go.Proofs.YtjccadfaiahkkaaDoor
