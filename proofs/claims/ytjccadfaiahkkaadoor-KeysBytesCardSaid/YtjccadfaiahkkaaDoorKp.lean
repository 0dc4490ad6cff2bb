/-
  Plain Lean: parts of keys, their bytes, and laws of these: the bytes stand in the order of the parts; what is encoded is decoded.
-/
import Derived.Lib.Replace
import Derived.Lib.IndexLaws
import Derived.Lib.Strings
import Derived.Lib.Bytealg
import GoSem.Op.String
namespace Go.Proofs.YtjccadfaiahkkaaDoor
set_option linter.all false
open Go.Lib

structure Part where
  k : Int
  n : Int
  s : List UInt8
def In64 (n : Int) : Prop := -9223372036854775808 ≤ n ∧ n ≤ 9223372036854775807

/-! ### ints as eight bytes -/
/-- k bytes of v, the greatest first. -/
def be : Nat → Nat → List UInt8
  | 0, _ => []
  | k + 1, v => (v / 256 ^ k).toUInt8 :: be k v
def ev (a : Nat) : List UInt8 → Nat
  | [] => a
  | b :: r => ev (a * 256 + b.toNat) r
theorem be_length : ∀ (k v : Nat), (be k v).length = k
  | 0, _ => rfl
  | k + 1, v => by simp [be, be_length k v]
theorem u8_toNat (n : Nat) : n.toUInt8.toNat = n % 256 := by simp
theorem ev_be : ∀ (k a v : Nat), ev a (be k v) = a * 256 ^ k + v % 256 ^ k
  | 0, a, v => by simp [be, ev, Nat.mod_one]
  | k + 1, a, v => by
    simp only [be, ev, u8_toNat]
    rw [ev_be k]
    have e := Nat.mod_mul (x := v) (a := 256 ^ k) (b := 256)
    rw [Nat.pow_succ, e, Nat.add_mul, Nat.mul_comm (256 ^ k) (v / 256 ^ k % 256), Nat.mul_assoc, Nat.mul_comm 256 (256 ^ k)]
    omega
theorem ev_acc : ∀ (l : List UInt8) (a : Nat), ev a l = a * 256 ^ l.length + ev 0 l
  | [], a => by simp [ev]
  | b :: r, a => by
    simp only [ev, List.length_cons]
    rw [ev_acc r, ev_acc r (0 * 256 + b.toNat), Nat.pow_succ, Nat.add_mul, Nat.zero_mul, Nat.zero_add, Nat.mul_assoc, Nat.mul_comm 256 (256 ^ r.length)]
    omega
theorem ev_lt : ∀ (l : List UInt8), ev 0 l < 256 ^ l.length
  | [] => by simp [ev]
  | b :: r => by
    simp only [ev, List.length_cons]
    rw [ev_acc r]
    have h := ev_lt r
    have hb := b.toNat_lt
    rw [Nat.pow_succ]
    have := Nat.mul_le_mul_right (256 ^ r.length) (show 0 * 256 + b.toNat ≤ 255 by omega)
    rw [Nat.mul_comm (256 ^ r.length) 256]
    omega
theorem be_congr {k u v : Nat} (h : u % 256 ^ k = v % 256 ^ k) : be k u = be k v := by
  induction k with
  | zero => rfl
  | succ k ih =>
    have e1 := Nat.mod_mul (x := u) (a := 256 ^ k) (b := 256)
    have e2 := Nat.mod_mul (x := v) (a := 256 ^ k) (b := 256)
    rw [Nat.pow_succ, e1, e2] at h
    have p : 0 < 256 ^ k := Nat.pow_pos (by omega)
    have l1 := Nat.mod_lt u p
    have l2 := Nat.mod_lt v p
    have m : u % 256 ^ k = v % 256 ^ k := by
      have := congrArg (· % 256 ^ k) h
      simpa [Nat.add_mul_mod_self_left, Nat.mod_mod, Nat.mod_eq_of_lt l1, Nat.mod_eq_of_lt l2] using this
    have d : u / 256 ^ k % 256 = v / 256 ^ k % 256 := by
      rw [m] at h
      exact Nat.eq_of_mul_eq_mul_left p (Nat.add_left_cancel h)
    unfold be
    rw [ih m, show (u / 256 ^ k).toUInt8 = (v / 256 ^ k).toUInt8 from UInt8.toNat_inj.1 (by rw [u8_toNat, u8_toNat, d])]
theorem be_ev : ∀ (l : List UInt8) (a : Nat), be l.length (ev a l) = l
  | [], a => rfl
  | b :: r, a => by
    simp only [List.length_cons, be, ev]
    rw [be_ev r]
    congr 1
    rw [ev_acc r]
    have p : 0 < 256 ^ r.length := Nat.pow_pos (by omega)
    have h := ev_lt r
    apply UInt8.toNat_inj.1
    rw [u8_toNat, Nat.add_comm, Nat.add_mul_div_right _ _ p, Nat.div_eq_of_lt h, Nat.zero_add, Nat.add_comm, Nat.add_mul_mod_self_right]
    exact Nat.mod_eq_of_lt b.toNat_lt
def enI (n : Int) : List UInt8 := be 8 (n + 9223372036854775808).toNat
def deI (l : List UInt8) : Int := (ev 0 l : Int) - 9223372036854775808
theorem deI_enI {n : Int} (h : In64 n) : deI (enI n) = n := by
  obtain ⟨h1, h2⟩ := h
  unfold deI enI
  rw [ev_be, Nat.mod_eq_of_lt (by omega)]
  omega
theorem deI_in {l : List UInt8} (h : l.length = 8) : In64 (deI l) := by
  have := ev_lt l
  rw [h] at this
  unfold In64 deI
  omega
theorem enI_deI {l : List UInt8} (h : l.length = 8) : enI (deI l) = l := by
  unfold deI enI
  have e := be_ev l 0
  rw [h] at e
  rw [show ((ev 0 l : Int) - 9223372036854775808 + 9223372036854775808).toNat = ev 0 l by omega]
  exact e
theorem enI_length (n : Int) : (enI n).length = 8 := be_length _ _

/-! ### texts -/
def esc : List UInt8 → List UInt8
  | [] => []
  | c :: r => if c = 0 then 0 :: 255 :: esc r else c :: esc r
/-- The text ahead of its end, and what stands behind. -/
def decT : List UInt8 → Option (List UInt8 × List UInt8)
  | [] => none
  | [_] => none
  | c :: d :: q => if c = 0 then if d = 1 then some ([], q) else if d = 255 then (decT q).map (fun x => (0 :: x.1, x.2)) else none else (decT (d :: q)).map (fun x => (c :: x.1, x.2))
theorem decT_cons {c : UInt8} (h : c ≠ 0) (l : List UInt8) : decT (c :: l) = (decT l).map (fun x => (c :: x.1, x.2)) := by
  cases l with
  | nil => rfl
  | cons d q => rw [decT, if_neg h]
theorem decT_free : ∀ (z r : List UInt8), (∀ c ∈ z, c ≠ 0) → decT (z ++ r) = (decT r).map (fun x => (z ++ x.1, x.2))
  | [], r, _ => by cases h : decT r <;> simp [h]
  | c :: z, r, h => by
    rw [List.cons_append, decT_cons (h c (List.mem_cons_self ..)), decT_free z r (fun x hx => h x (List.mem_cons_of_mem _ hx))]
    cases decT r <;> rfl
theorem decT_none (z : List UInt8) (h : ∀ c ∈ z, c ≠ 0) : decT z = none := by
  have := decT_free z [] h
  simpa [decT] using this
theorem decT_esc : ∀ (s r : List UInt8), decT (esc s ++ 0 :: 1 :: r) = some (s, r)
  | [], r => by simp [esc, decT]
  | c :: s, r => by
    have ih := decT_esc s r
    unfold esc
    by_cases h : c = 0
    · subst h
      simp [decT, ih]
    · rw [if_neg h, List.cons_append, decT_cons h, ih]; rfl
theorem decT_back : ∀ (t : List UInt8) {s r : List UInt8}, decT t = some (s, r) → t = esc s ++ 0 :: 1 :: r := by
  intro t
  induction t using decT.induct with
  | case1 => intro s r h; simp [decT] at h
  | case2 c => intro s r h; simp [decT] at h
  | case3 q => intro s r h; simp [decT] at h; obtain ⟨h1, h2⟩ := h; subst h1; subst h2; rfl
  | case4 q _ ih =>
    intro s r h
    simp [decT] at h
    obtain ⟨s', h1, h2⟩ := h
    subst h2
    rw [ih h1]; simp [esc]
  | case5 d q h1 h2 => intro s r h; simp [decT, h1, h2] at h
  | case6 c d q hc ih =>
    intro s r h
    rw [decT, if_neg hc] at h
    simp at h
    obtain ⟨s', h1, h2⟩ := h
    subst h2
    rw [ih h1]; simp [esc, hc]
theorem esc_length : ∀ s : List UInt8, (esc s).length ≤ 2 * s.length
  | [] => by simp [esc]
  | c :: s => by
    have := esc_length s
    unfold esc
    split <;> simp <;> omega
theorem esc_ge : ∀ s : List UInt8, s.length ≤ (esc s).length
  | [] => by simp [esc]
  | c :: s => by
    have := esc_ge s
    unfold esc
    split <;> simp <;> omega
theorem esc_append : ∀ a b : List UInt8, esc (a ++ b) = esc a ++ esc b
  | [], b => rfl
  | c :: a, b => by
    rw [List.cons_append, esc, esc, esc_append a b]
    split <;> rfl
theorem esc_free : ∀ z : List UInt8, (∀ c ∈ z, c ≠ 0) → esc z = z
  | [], _ => rfl
  | c :: z, h => by
    rw [esc, if_neg (h c (List.mem_cons_self ..)), esc_free z (fun x hx => h x (List.mem_cons_of_mem _ hx))]

/-! ### parts -/
def okP (p : Part) : Prop := (p.k = 1 ∨ p.k = 2) ∧ In64 p.n
def enP (p : Part) : List UInt8 := if p.k = 1 then 1 :: enI p.n else 2 :: (esc p.s ++ [0, 1])
def nrm (p : Part) : Part := if p.k = 1 then ⟨1, p.n, []⟩ else ⟨2, 0, p.s⟩
def en (l : List Part) : List UInt8 := l.flatMap enP
def decP : List UInt8 → Option (Part × List UInt8)
  | [] => none
  | c :: r => if c = 1 then if r.length < 8 then none else some (⟨1, deI (r.take 8), []⟩, r.drop 8) else if c = 2 then (decT r).map (fun x => (⟨2, 0, x.1⟩, x.2)) else none
def decL : Nat → List UInt8 → Option (List Part)
  | _, [] => some []
  | 0, _ :: _ => none
  | k + 1, c :: t => match decP (c :: t) with
    | none => none
    | some (p, r) => (decL k r).map (p :: ·)
theorem decP_en {p : Part} (h : okP p) (r : List UInt8) : decP (enP p ++ r) = some (nrm p, r) := by
  obtain ⟨hk, hn⟩ := h
  unfold enP nrm
  rcases hk with hk | hk
  · rw [if_pos hk, if_pos hk]
    have hl := enI_length p.n
    simp [decP, hl]
    exact deI_enI hn
  · have h1 : ¬ p.k = 1 := by omega
    rw [if_neg h1, if_neg h1]
    simp [decP, decT_esc]
theorem decP_back {t : List UInt8} {p : Part} {r : List UInt8} (h : decP t = some (p, r)) : t = enP p ++ r ∧ okP p ∧ nrm p = p := by
  match t, h with
  | c :: q, h =>
    by_cases h1 : c = 1
    · subst h1
      simp only [decP, if_true] at h
      by_cases h2 : q.length < 8
      · simp [h2] at h
      · simp [h2] at h
        obtain ⟨e1, e2⟩ := h
        subst e1; subst e2
        have hl : (q.take 8).length = 8 := by simp; omega
        refine ⟨?_, ⟨.inl rfl, deI_in hl⟩, by simp [nrm]⟩
        simp [enP, enI_deI hl]
    · by_cases h2 : c = 2
      · subst h2
        simp [decP] at h
        obtain ⟨s, e1, e2⟩ := h
        subst e2
        refine ⟨?_, ⟨.inr rfl, by simp [In64]⟩, by simp [nrm]⟩
        simp [enP]
        exact decT_back _ e1
      · simp [decP, h1, h2] at h
theorem enP_ne (p : Part) : enP p ≠ [] := by unfold enP; split <;> simp
theorem en_nil : en [] = [] := rfl
theorem en_cons (p : Part) (l : List Part) : en (p :: l) = enP p ++ en l := by simp [en]
theorem en_append (a b : List Part) : en (a ++ b) = en a ++ en b := by simp [en]
theorem decL_en : ∀ (l : List Part) (k : Nat), (∀ p ∈ l, okP p) → l.length ≤ k → decL k (en l) = some (l.map nrm)
  | [], k, _, _ => by simp [en_nil, decL]
  | p :: l, 0, _, h => by simp at h
  | p :: l, k + 1, h, hk => by
    have e := decP_en (h p (List.mem_cons_self ..)) (en l)
    have ih := decL_en l k (fun q hq => h q (List.mem_cons_of_mem _ hq)) (by simpa using hk)
    rw [en_cons]
    obtain ⟨c, t, hc⟩ : ∃ c t, enP p ++ en l = c :: t := by
      cases he : enP p with
      | nil => exact absurd he (enP_ne p)
      | cons c t => exact ⟨c, t ++ en l, rfl⟩
    rw [hc] at e ⊢
    simp [decL, e, ih]
theorem decL_back : ∀ (k : Nat) (t : List UInt8) {l : List Part}, decL k t = some l → t = en l ∧ l.length ≤ k ∧ (∀ p ∈ l, okP p) ∧ l.map nrm = l
  | 0, [], l, h => by simp [decL] at h; subst h; simp [en_nil]
  | 0, _ :: _, l, h => by simp [decL] at h
  | k + 1, [], l, h => by simp [decL] at h; subst h; simp [en_nil]
  | k + 1, c :: t, l, h => by
    rw [decL] at h
    match hd : decP (c :: t), h with
    | none, h => simp at h
    | some (p, r), h =>
      simp at h
      obtain ⟨l', h1, h2⟩ := h
      subst h2
      obtain ⟨e1, e2, e3⟩ := decP_back hd
      obtain ⟨g1, g2, g3, g4⟩ := decL_back k r h1
      refine ⟨by rw [e1, en_cons, g1], by simp; omega, ?_, by simp [e3]; simpa using g4⟩
      intro q hq
      rcases List.mem_cons.1 hq with rfl | hq
      · exact e2
      · exact g3 q hq
theorem decL_more {k : Nat} {t : List UInt8} {l : List Part} (h : decL k t = some l) (j : Nat) (hj : l.length ≤ j) : decL j t = some l := by
  obtain ⟨h1, h2, h3, h4⟩ := decL_back k t h
  rw [h1, decL_en l j h3 hj, h4]
def dec (t : List UInt8) : Option (List Part) := if 200 < t.length then none else decL 8 t

/-! ### the codes -/
def errE (l : List Part) : Int := if 8 < l.length then 9 else if ∀ p ∈ l, p.k = 1 ∨ p.k = 2 then if 200 < (en l).length then 8 else 0 else 7
def bytesE (l : List Part) : List UInt8 := if errE l = 0 then en l else []
theorem errE_0 {l : List Part} (h : errE l = 0) : l.length ≤ 8 ∧ (∀ p ∈ l, p.k = 1 ∨ p.k = 2) ∧ (en l).length ≤ 200 := by
  unfold errE at h
  split at h
  · simp at h
  · split at h
    · split at h
      · simp at h
      · exact ⟨by omega, by assumption, by omega⟩
    · simp at h
theorem errE_many {l : List Part} (h : 8 < l.length) : errE l = 9 := if_pos h
theorem errE_kind {l : List Part} (h : l.length ≤ 8) {p : Part} (hp : p ∈ l) (h1 : p.k ≠ 1) (h2 : p.k ≠ 2) : errE l = 7 := by
  unfold errE
  rw [if_neg (by omega), if_neg (fun a => by rcases a p hp with h | h <;> contradiction)]
theorem errE_long {l : List Part} (h : l.length ≤ 8) (hp : ∀ p ∈ l, p.k = 1 ∨ p.k = 2) (h2 : 200 < (en l).length) : errE l = 8 := by
  unfold errE
  rw [if_neg (by omega), if_pos hp, if_pos h2]
theorem errE_fine {l : List Part} (h : l.length ≤ 8) (hp : ∀ p ∈ l, p.k = 1 ∨ p.k = 2) (h2 : (en l).length ≤ 200) : errE l = 0 := by
  unfold errE
  rw [if_neg (by omega), if_pos hp, if_neg (by omega)]
theorem bytesE_0 {l : List Part} (h : errE l = 0) : bytesE l = en l := if_pos h
theorem bytesE_n {l : List Part} (h : errE l ≠ 0) : bytesE l = [] := if_neg h
end Go.Proofs.YtjccadfaiahkkaaDoor
