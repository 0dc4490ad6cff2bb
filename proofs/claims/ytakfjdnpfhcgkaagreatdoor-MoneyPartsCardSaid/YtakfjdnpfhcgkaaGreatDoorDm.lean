/-
  Plain arithmetic of a division of two words by one, digit by digit of 32 bits; no Go in sight.
-/
namespace Go.Proofs.YtakfjdnpfhcgkaaGreatDoor
set_option linter.all false

/-- What holds of a divisor y = y1 * 2^32 + y0 with its top bit set, and of u below y with the next digit v. -/
structure Dig (y y1 y0 u v : Int) : Prop where
  hy : y = y1 * 4294967296 + y0
  a1 : 2147483648 ≤ y1
  a2 : y1 < 4294967296
  b1 : 0 ≤ y0
  b2 : y0 < 4294967296
  u1 : 0 ≤ u
  u2 : u < y
  v1 : 0 ≤ v
  v2 : v < 4294967296

section
variable {y y1 y0 u v : Int}
theorem Dig.ypos (h : Dig y y1 y0 u v) : 0 < y := by have := h.u1; have := h.u2; omega
theorem Dig.lo (h : Dig y y1 y0 u v) : (u * 4294967296 + v) / y * y ≤ u * 4294967296 + v := Int.ediv_mul_le _ (by have := h.ypos; omega)
theorem Dig.hi (h : Dig y y1 y0 u v) : u * 4294967296 + v < ((u * 4294967296 + v) / y + 1) * y := Int.lt_ediv_add_one_mul_self _ h.ypos
theorem Dig.q0 (h : Dig y y1 y0 u v) : 0 ≤ (u * 4294967296 + v) / y := Int.ediv_nonneg (by have := h.u1; have := h.v1; omega) (by have := h.ypos; omega)
theorem Dig.qB (h : Dig y y1 y0 u v) : (u * 4294967296 + v) / y < 4294967296 := by
  refine Int.ediv_lt_of_lt_mul h.ypos ?_
  have := h.u2; have := h.v2; omega
theorem Dig.mulE (h : Dig y y1 y0 u v) (q : Int) : q * y = q * y1 * 4294967296 + q * y0 := by
  rw [h.hy, Int.mul_add, ← Int.mul_assoc]
theorem Dig.test (h : Dig y y1 y0 u v) (q : Int) : q * y ≤ u * 4294967296 + v ↔ q * y0 ≤ 4294967296 * (u - q * y1) + v := by
  have := h.mulE q; omega
theorem Dig.le_of (h : Dig y y1 y0 u v) {q : Int} (k : q * y ≤ u * 4294967296 + v) : q ≤ (u * 4294967296 + v) / y := (Int.le_ediv_iff_mul_le h.ypos).2 k
theorem Dig.gt_of (h : Dig y y1 y0 u v) {q : Int} (k : ¬ q * y ≤ u * 4294967296 + v) : (u * 4294967296 + v) / y < q := by
  apply Int.not_le.1; intro hq; apply k
  exact Int.le_trans (Int.mul_le_mul_of_nonneg_right hq (by have := h.ypos; omega)) h.lo
/-- The first guess is not too small, and too great by little. -/
theorem Dig.guess_ge (h : Dig y y1 y0 u v) : (u * 4294967296 + v) / y ≤ u / y1 := by
  rw [Int.le_ediv_iff_mul_le (by have := h.a1; omega)]
  have h1 := h.lo
  rw [h.mulE] at h1
  have h2 : 0 ≤ (u * 4294967296 + v) / y * y0 := Int.mul_nonneg h.q0 h.b1
  have := h.v2
  omega
theorem Dig.guess_le (h : Dig y y1 y0 u v) : u / y1 ≤ 4294967298 := by
  have : u / y1 < 4294967299 := by
    refine Int.ediv_lt_of_lt_mul (by have := h.a1; omega) ?_
    have := h.u2; have := h.hy; have := h.b2; have := h.a1; omega
  omega
theorem Dig.guess_r (h : Dig y y1 y0 u v) : 0 ≤ u - u / y1 * y1 ∧ u - u / y1 * y1 < 4294967296 := by
  have a := Int.ediv_mul_le u (b := y1) (by have := h.a1; omega)
  have b := Int.lt_ediv_add_one_mul_self u (b := y1) (by have := h.a1; omega)
  have := h.a2
  rw [Int.add_mul, Int.one_mul] at b
  omega
/-- Where the test says no, the guess is the digit. -/
theorem Dig.done (h : Dig y y1 y0 u v) {q r : Int} (hr : r = u - q * y1) (hq : (u * 4294967296 + v) / y ≤ q) (k : q * y0 ≤ 4294967296 * r + v) : q = (u * 4294967296 + v) / y := by
  subst hr; have := h.le_of ((h.test q).2 k); omega
/-- Where the test says yes, it is too great. -/
theorem Dig.more (h : Dig y y1 y0 u v) {q r : Int} (hr : r = u - q * y1) (k : 4294967296 ≤ q ∨ 4294967296 * r + v < q * y0) : (u * 4294967296 + v) / y ≤ q - 1 := by
  rcases k with k | k
  · have := h.qB; omega
  · subst hr; have := h.gt_of (q := q) (fun x => by have := (h.test q).1 x; omega); omega
/-- Where the rest has grown to a digit's size, the guess is the digit. -/
theorem Dig.full (h : Dig y y1 y0 u v) {q r : Int} (hr : r = u - q * y1) (hq : (u * 4294967296 + v) / y ≤ q) (hq2 : q ≤ 4294967297) (k : 4294967296 ≤ r) : q = (u * 4294967296 + v) / y := by
  refine h.done hr hq ?_
  have h0 := h.q0
  have : q * y0 ≤ 4294967297 * 4294967295 := Int.mul_le_mul hq2 (by have := h.b2; omega) h.b1 (by decide)
  have := h.v1
  omega
/-- The rest behind the digit, whatever wraps on the way. -/
theorem Dig.rest (h : Dig y y1 y0 u v) : u * 4294967296 + v - (u * 4294967296 + v) / y * y = (u * 4294967296 + v) % y := by
  have := Int.emod_def (u * 4294967296 + v) y
  rw [Int.mul_comm y] at this; omega
theorem Dig.rest_bd (h : Dig y y1 y0 u v) : 0 ≤ (u * 4294967296 + v) % y ∧ (u * 4294967296 + v) % y < y :=
  ⟨Int.emod_nonneg _ (by have := h.ypos; omega), Int.emod_lt_of_pos _ h.ypos⟩
theorem Dig.wrap_rest (h : Dig y y1 y0 u v) (hy : y < 18446744073709551616) {q : Int} (hq : q = (u * 4294967296 + v) / y) :
    (((u * 4294967296) % 18446744073709551616 + v) % 18446744073709551616 - (q * y) % 18446744073709551616) % 18446744073709551616 = (u * 4294967296 + v) % y := by
  subst hq
  have h1 := h.rest
  have h2 := h.rest_bd
  omega
end

/-- Two digits, one behind the other. -/
theorem two_digits (y u v1 v0 : Int) (hy : 0 < y) :
    (u * 18446744073709551616 + v1 * 4294967296 + v0) / y = (u * 4294967296 + v1) / y * 4294967296 + ((u * 4294967296 + v1) % y * 4294967296 + v0) / y ∧
    (u * 18446744073709551616 + v1 * 4294967296 + v0) % y = ((u * 4294967296 + v1) % y * 4294967296 + v0) % y := by
  have e : u * 18446744073709551616 + v1 * 4294967296 + v0 = ((u * 4294967296 + v1) % y * 4294967296 + v0) + (u * 4294967296 + v1) / y * 4294967296 * y := by
    have := Int.emod_def (u * 4294967296 + v1) y
    have h2 : (u * 4294967296 + v1) / y * 4294967296 * y = y * ((u * 4294967296 + v1) / y) * 4294967296 := by rw [Int.mul_assoc, Int.mul_comm 4294967296 y, ← Int.mul_assoc, Int.mul_comm _ y]
    rw [h2]; omega
  rw [e]
  constructor
  · rw [Int.add_mul_ediv_right _ _ (by omega)]; omega
  · rw [Int.add_mul_emod_self_right]

theorem two_words (d h l : Int) (hd : 0 < d) :
    (h * 18446744073709551616 + l) / d = h / d * 18446744073709551616 + (h % d * 18446744073709551616 + l) / d ∧ (h * 18446744073709551616 + l) % d = (h % d * 18446744073709551616 + l) % d := by
  have e : h * 18446744073709551616 + l = (h % d * 18446744073709551616 + l) + h / d * 18446744073709551616 * d := by
    have := Int.emod_def h d
    have h2 : h / d * 18446744073709551616 * d = d * (h / d) * 18446744073709551616 := by rw [Int.mul_assoc, Int.mul_comm 18446744073709551616 d, ← Int.mul_assoc, Int.mul_comm _ d]
    rw [h2]; omega
  rw [e]
  constructor
  · rw [Int.add_mul_ediv_right _ _ (by omega)]; omega
  · rw [Int.add_mul_emod_self_right]

/-- A size by a divisor, to the nearest, halves to the even. -/
def rheA (s d : Int) : Int := if d < 2 * (s % d) ∨ (2 * (s % d) = d ∧ s / d % 2 = 1) then s / d + 1 else s / d
/-- A number by a divisor above 0, to the nearest, halves to the even. -/
def rhe (a d : Int) : Int := if a < 0 then -(rheA (-a) d) else rheA a d
end Go.Proofs.YtakfjdnpfhcgkaaGreatDoor
