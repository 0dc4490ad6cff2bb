/-
  Contracts of wide.Mul, wide.Int.Int, tier.units.
-/
import Derived.Test.YtakfjdnpfhcgkaaGreatDoorWk2
namespace Go.Proofs.YtakfjdnpfhcgkaaGreatDoor
set_option linter.all false
open Go.RowKit
attribute [local go_sem] cell_set_self lt_1 lt_2 lt_3 lt_4 lt_5 lt_6

/-- math/bits.Mul64, over whole numbers. -/
theorem mul64 (x y : Int) (hx0 : 0 ≤ x) (hx : x < 18446744073709551616) (hy0 : 0 ≤ y) (hy : y < 18446744073709551616) (w : World) :
    Calls Tryz.prog 40 #[.int .u64 x, .int .u64 y] w fun e w' => e = .returned (.tuple #[.int .u64 (hiOf (x * y)), .int .u64 (loOf (x * y))]) ∧ w = w' := by
  obtain ⟨x, rfl⟩ := Int.eq_ofNat_of_zero_le hx0
  obtain ⟨y, rfl⟩ := Int.eq_ofNat_of_zero_le hy0
  have hb : x * y < 340282366920938463463374607431768211456 := by
    have : x * y ≤ 18446744073709551615 * 18446744073709551615 := Nat.mul_le_mul (by omega) (by omega)
    omega
  refine (Tryz.bits_Mul64 x y (by omega) (by omega) w).mono ?_
  rintro e w' ⟨rfl, rfl⟩
  refine ⟨?_, rfl⟩
  have e0 : ((x : Int) * (y : Int)) = ((x * y : Nat) : Int) := (Int.natCast_mul x y).symm
  have e1 : ((x * y / 18446744073709551616 : Nat) : Int) = hiOf ((x : Int) * (y : Int)) := by rw [e0]; unfold hiOf; omega
  have e2 : ((x * y % 18446744073709551616 : Nat) : Int) = loOf ((x : Int) * (y : Int)) := by rw [e0]; unfold loOf; omega
  rw [e1, e2]

/-- The size and the sign of a product. -/
theorem mul_sign (a b : Int) : a * b = if (decide (a < 0) != decide (b < 0)) then -(absI a * absI b) else absI a * absI b := by
  unfold absI
  by_cases ha : a < 0 <;> by_cases hb : b < 0 <;> simp [ha, hb, Int.neg_mul, Int.mul_neg]
theorem absI_bd (a : Int) (h : In64 a) : 0 ≤ absI a ∧ absI a ≤ 9223372036854775808 := by unfold In64 at h; unfold absI; split <;> omega
theorem mul_abs_bd (a b : Int) (ha : In64 a) (hb : In64 b) : 0 ≤ absI a * absI b ∧ absI a * absI b ≤ 85070591730234615865843651857942052864 := by
  have h1 := absI_bd a ha; have h2 := absI_bd b hb
  refine ⟨Int.mul_nonneg h1.1 h2.1, ?_⟩
  have : absI a * absI b ≤ 9223372036854775808 * 9223372036854775808 := Int.mul_le_mul h1.2 h2.2 h2.1 (by decide)
  omega

/-- wide.Mul. -/
theorem mul_any (a b : Int) (ha : In64 a) (hb : In64 b) (w : World) :
    Calls Tryz.prog 16 #[.int .i64 a, .int .i64 b] w fun e w' => e = .returned (.agg #[.int .u64 (hiOf (a * b)), .int .u64 (loOf (a * b))]) ∧ Below w.heap.size w w' := by
  obtain ⟨p1, p2⟩ := mul_abs_bd a b ha hb
  have hsz : Sz128 (absI a * absI b) := by unfold Sz128; omega
  have hin : In128 (a * b) := by rw [mul_sign]; unfold In128; split <;> omega
  have ms := mul_sign a b
  obtain ⟨q1, q2⟩ := absI_bd a ha
  obtain ⟨r1, r2⟩ := absI_bd b hb
  have q3 : absI a < 18446744073709551616 := by omega
  have r3 : absI b < 18446744073709551616 := by omega
  have S := fun (below : Bool) (e : below = (decide (a < 0) != decide (b < 0))) W => signed_fits (absI a * absI b) below hsz (a * b) (by rw [e]; exact ms) hin W
  have SH := Lib.hid S
  clear S ms hin hsz p1 p2 q2 r2
  rcases d0 : decide (a < 0) <;> rcases d1 : decide (b < 0)
  all_goals
    go_enter Tryz.func16, Tryz.ntmps16
    go_wp2_with (first | (go_at_call_of 41 (Value.int IntKind.i64 a); refine (wordOf_any a ha _).mono ?_; rintro e w1 ⟨rfl, hb1⟩; obtain ⟨hc1, hf1⟩ := bcell hb1; have hs1 := hb1.size; (try simp at hs1); have hz1 : w.heap.size < w1.heap.size := by omega) | (go_at_call 41; refine (wordOf_any b hb _).mono ?_; rintro e w2 ⟨rfl, hb2⟩; obtain ⟨hc2, hf2⟩ := bcell hb2; have hs2 := hb2.size; (try simp at hs2); have hz2 : w.heap.size < w2.heap.size := by have := hb2.size; (try simp at this); omega) | (go_at_call 40; refine (mul64 _ _ q1 q3 r1 r3 _).mono ?_; rintro e w3 ⟨rfl, rfl⟩) | (go_at_call 42; refine (SH.out _ (by rw [d0, d1]; rfl) _).mono ?_; rintro e w4 ⟨rfl, hb4⟩; obtain ⟨hc4, hf4⟩ := bcell hb4; have hs4 := hb4.size; (try simp at hs4); have hz4 : w.heap.size < w4.heap.size := by have := hb4.size; (try simp at this); omega))
    exact bodyPost_ret (v := .agg #[.int .u64 (hiOf (a * b)), .int .u64 (loOf (a * b))]) (by simp [results, Tryz.results16, go_sem, *]) rfl ⟨rfl, (by repeat (first | exact Below.refl _ _ | refine Below.setCell ?_ (by first | (simp; done) | (simp; omega) | omega) _ | refine Below.alloc ?_ (by first | (simp; done) | (simp; omega) | omega) _ | refine Below.drew ?_ | assumption | refine Below.trans ?_ (Below.mono (by assumption) (by first | (simp; done) | (simp; omega) | omega))))⟩

end Go.Proofs.YtakfjdnpfhcgkaaGreatDoor
