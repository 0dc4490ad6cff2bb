/-
  Plain arithmetic of numbers of two words of 64 bits; no Go in sight.
-/
namespace Go.Proofs.YtakfjdnpfhcgkaaGreatDoor
set_option linter.all false

/-- The high word and the low word of a whole number. -/
def hiOf (z : Int) : Int := z / 18446744073709551616 % 18446744073709551616
def loOf (z : Int) : Int := z % 18446744073709551616
/-- A word of 64 bits. -/
def Word (x : Int) : Prop := 0 ≤ x ∧ x < 18446744073709551616
/-- A number of 128 bits, signed; one of 64 bits; a size of 128 bits. -/
def In128 (z : Int) : Prop := -170141183460469231731687303715884105728 ≤ z ∧ z < 170141183460469231731687303715884105728
def In64 (z : Int) : Prop := -9223372036854775808 ≤ z ∧ z < 9223372036854775808
def Sz128 (z : Int) : Prop := 0 ≤ z ∧ z < 340282366920938463463374607431768211456

theorem hiOf_word (z : Int) : Word (hiOf z) := by unfold Word hiOf; omega
theorem loOf_word (z : Int) : Word (loOf z) := by unfold Word loOf; omega
theorem hiOf_0 : hiOf 0 = 0 := by decide
theorem loOf_0 : loOf 0 = 0 := by decide

theorem neg_iff (z : Int) (h : In128 z) : 9223372036854775808 ≤ hiOf z ↔ z < 0 := by
  unfold hiOf; unfold In128 at h; omega

/-- 'below', of a number of 128 bits. -/
theorem below_dec (z : Int) (h : In128 z) : decide (9223372036854775808 ≤ hiOf z) = decide (z < 0) := by
  rw [decide_eq_decide]; exact neg_iff z h

/-- Words that are equal belong to equal numbers. -/
theorem words_inj (a b : Int) (ha : In128 a) (hb : In128 b) : (hiOf a = hiOf b ∧ loOf a = loOf b) ↔ a = b := by
  unfold hiOf loOf; unfold In128 at ha hb; omega

theorem sz_words (s : Int) (h : Sz128 s) : hiOf s = s / 18446744073709551616 ∧ loOf s = s % 18446744073709551616 := by
  unfold hiOf loOf; unfold Sz128 at h; omega

/-- Is the number that the two words make below 0? -/
def negW (z : Int) : Bool := decide (9223372036854775808 ≤ hiOf z)
theorem negW_eq (z : Int) (h : In128 z) : negW z = decide (z < 0) := below_dec z h
/-- What is borrowed. -/
def bor (x y : Int) : Int := if x < y then 1 else 0
theorem bor_01 (x y : Int) : 0 ≤ bor x y ∧ bor x y ≤ 1 := by unfold bor; split <;> omega
theorem turn_hi' (z : Int) : (-hiOf z - bor 0 (loOf z)) % 18446744073709551616 = hiOf (-z) := by
  unfold bor hiOf loOf; split <;> omega
theorem turn_lo' (z : Int) : -loOf z % 18446744073709551616 = loOf (-z) := by unfold loOf; omega
/-- Without its sign. -/
def absI (z : Int) : Int := if z < 0 then -z else z
end Go.Proofs.YtakfjdnpfhcgkaaGreatDoor
