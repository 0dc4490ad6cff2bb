/-
  Plain arithmetic: a divisor is shifted till its top bit is set, the dividend with it.
-/
import Derived.Lib.ItoaNum
import Derived.Laws.Bits64b
import Derived.Laws.BitsAllLaws
import Derived.RowKit3
namespace Go.Proofs.YtakfjdnpfhcgkaaGreatDoor
set_option linter.all false

theorem len_bounds (y : Nat) (h0 : 0 < y) (h1 : y < 18446744073709551616) : ∃ n : Nat, n < 64 ∧ Lib.bitLen y = 64 - n ∧ 9223372036854775808 ≤ y * 2 ^ n ∧ y * 2 ^ n < 18446744073709551616 := by
  obtain ⟨a, b, c⟩ := Lib.bitLenAux_bounds 64 y (by omega) (by omega)
  have hL : Lib.bitLenAux 64 y ≤ 64 := Lib.bitLen_le y 64 (Nat.le_refl _) (by omega)
  unfold Lib.bitLen
  generalize Lib.bitLenAux 64 y = L at *
  refine ⟨64 - L, by omega, by omega, ?_, ?_⟩
  · have : 2 ^ (L - 1) * 2 ^ (64 - L) ≤ y * 2 ^ (64 - L) := Nat.mul_le_mul_right _ b
    rw [← Nat.pow_add, show L - 1 + (64 - L) = 63 by omega] at this
    omega
  · have : y * 2 ^ (64 - L) < 2 ^ L * 2 ^ (64 - L) := Nat.mul_lt_mul_of_pos_right c (Nat.two_pow_pos _)
    rw [← Nat.pow_add, show L + (64 - L) = 64 by omega] at this
    omega

theorem or_low (a b n : Nat) (h : b < 2 ^ n) : a * 2 ^ n ||| b = a * 2 ^ n + b := by
  have := Nat.shiftLeft_add_eq_or_of_lt h a
  rw [Nat.shiftLeft_eq] at this
  exact this.symm

theorem div_prep (hi lo y : Nat) (h1 : hi < y) (hy : y < 18446744073709551616) (hl : lo < 18446744073709551616) :
    ∃ (s Y U L : Int), s = 64 - (Lib.bitLen y : Int) ∧ 0 ≤ s ∧ s < 64 ∧ IntKind.u64.wrap ((y : Int) * 2 ^ s.toNat) = Y ∧ bits .or .u64 (IntKind.u64.wrap ((hi : Int) * 2 ^ s.toNat)) ((lo : Int) / 2 ^ (64 - s).toNat) = U ∧
      IntKind.u64.wrap ((lo : Int) * 2 ^ s.toNat) = L ∧ 9223372036854775808 ≤ Y ∧ Y < 18446744073709551616 ∧ 0 ≤ U ∧ U < Y ∧ 0 ≤ L ∧ L < 18446744073709551616 ∧
      ((hi : Int) * 18446744073709551616 + lo) / y = (U * 18446744073709551616 + L) / Y ∧ ((hi : Int) * 18446744073709551616 + lo) % y = (U * 18446744073709551616 + L) % Y / 2 ^ s.toNat := by
  obtain ⟨n, hn, hb, hy1, hy2⟩ := len_bounds y (by omega) hy
  have hp : 0 < 2 ^ n := Nat.two_pow_pos n
  have hq : 2 ^ (64 - n) * 2 ^ n = 18446744073709551616 := by rw [← Nat.pow_add, show 64 - n + n = 64 by omega]
  have hhi : (hi + 1) * 2 ^ n ≤ y * 2 ^ n := Nat.mul_le_mul_right _ h1
  rw [Nat.add_mul, Nat.one_mul] at hhi
  have hlo : lo / 2 ^ (64 - n) < 2 ^ n := by
    refine (Nat.div_lt_iff_lt_mul (Nat.two_pow_pos _)).2 ?_
    rw [Nat.mul_comm, hq]; exact hl
  have hcar : lo * 2 ^ n / 18446744073709551616 = lo / 2 ^ (64 - n) := by rw [← hq, Nat.mul_div_mul_right _ _ hp]
  have hX : (hi * 18446744073709551616 + lo) * 2 ^ n = (hi * 2 ^ n + lo / 2 ^ (64 - n)) * 18446744073709551616 + lo * 2 ^ n % 18446744073709551616 := by
    have := Nat.div_add_mod (lo * 2 ^ n) 18446744073709551616
    rw [hcar] at this
    have e : hi * 18446744073709551616 * 2 ^ n = hi * 2 ^ n * 18446744073709551616 := by rw [Nat.mul_assoc, Nat.mul_comm 18446744073709551616, ← Nat.mul_assoc]
    rw [Nat.add_mul, Nat.add_mul, e]; omega
  have hs : (64 - (Lib.bitLen y : Int)).toNat = n := by rw [hb]; omega
  have hs2 : (64 - (64 - (Lib.bitLen y : Int))).toNat = 64 - n := by rw [hb]; omega
  have c1 : ((y : Int) * 2 ^ n) = ((y * 2 ^ n : Nat) : Int) := by simp
  have c2 : ((hi : Int) * 2 ^ n) = ((hi * 2 ^ n : Nat) : Int) := by simp
  have c3 : ((lo : Int) * 2 ^ n) = ((lo * 2 ^ n : Nat) : Int) := by simp
  have c4 : ((lo : Int) / 2 ^ (64 - n)) = ((lo / 2 ^ (64 - n) : Nat) : Int) := by simp
  refine ⟨64 - (Lib.bitLen y : Int), ((y * 2 ^ n : Nat) : Int), ((hi * 2 ^ n + lo / 2 ^ (64 - n) : Nat) : Int), ((lo * 2 ^ n % 18446744073709551616 : Nat) : Int), rfl, by rw [hb]; omega, by rw [hb]; omega, ?_, ?_, ?_, by omega, by omega, by omega, by omega, by omega, by omega, ?_, ?_⟩
  · rw [hs, c1, IntKind.wrap_u64]; omega
  · rw [hs, hs2, c2, c4, IntKind.wrap_u64, show (((hi * 2 ^ n : Nat) : Int) % 18446744073709551616) = ((hi * 2 ^ n : Nat) : Int) by omega, bits_or_u64_nat _ _ (by omega) (by omega), or_low _ _ _ hlo]
  · rw [hs, c3, IntKind.wrap_u64]; omega
  · have e1 : (((hi * 2 ^ n + lo / 2 ^ (64 - n) : Nat) : Int) * 18446744073709551616 + ((lo * 2 ^ n % 18446744073709551616 : Nat) : Int)) = (((hi * 18446744073709551616 + lo) * 2 ^ n : Nat) : Int) := by rw [hX]; simp
    rw [e1, show ((hi : Int) * 18446744073709551616 + lo) = ((hi * 18446744073709551616 + lo : Nat) : Int) by simp, ← Int.natCast_ediv, ← Int.natCast_ediv, Nat.mul_div_mul_right _ _ hp]
  · have e1 : (((hi * 2 ^ n + lo / 2 ^ (64 - n) : Nat) : Int) * 18446744073709551616 + ((lo * 2 ^ n % 18446744073709551616 : Nat) : Int)) = (((hi * 18446744073709551616 + lo) * 2 ^ n : Nat) : Int) := by rw [hX]; simp
    rw [e1, hs, show ((hi : Int) * 18446744073709551616 + lo) = ((hi * 18446744073709551616 + lo : Nat) : Int) by simp, show ((2 : Int) ^ n) = ((2 ^ n : Nat) : Int) by simp, ← Int.natCast_emod, ← Int.natCast_emod, ← Int.natCast_ediv, Nat.mul_mod_mul_right, Nat.mul_div_cancel _ hp]

theorem and_low (a : Int) (h0 : 0 ≤ a) (h1 : a < 18446744073709551616) : bits .and .u64 a 4294967295 = a % 4294967296 := by
  obtain ⟨a, rfl⟩ := Int.eq_ofNat_of_zero_le h0
  have h := bits_and_u64_nat a 4294967295 (by omega) (by omega)
  have e : a &&& 4294967295 = a % 4294967296 := Nat.and_two_pow_sub_one_eq_mod a 32
  rw [e] at h
  have h' : bits .and .u64 (a : Int) 4294967295 = ((a % 4294967296 : Nat) : Int) := h
  rw [h']; omega
end Go.Proofs.YtakfjdnpfhcgkaaGreatDoor
