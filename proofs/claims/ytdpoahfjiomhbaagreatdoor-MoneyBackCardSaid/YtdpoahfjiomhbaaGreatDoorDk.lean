/-
  Contract of math/bits.Div64.
-/
import Derived.Test.YtdpoahfjiomhbaaGreatDoorWk1
import Derived.Test.YtdpoahfjiomhbaaGreatDoorDm
import Derived.Test.YtdpoahfjiomhbaaGreatDoorDm2
import Derived.Deep.DeepCutAuto
import Derived.Deep.CutBlock
import Derived.Test.YtdpoahfjiomhbaaGreatDoorQh
namespace Go.Proofs.YtdpoahfjiomhbaaGreatDoor
set_option linter.all false
open Go.RowKit Go.Sort
attribute [local go_sem] cell_set_self lt_1 lt_2 lt_3 lt_4 lt_5 lt_6


theorem ret_w2 {a b c d : Int} (h : a = c) (k : b = d) : Ending.returned (.tuple #[.int .u64 a, .int .u64 b]) = .returned (.tuple #[.int .u64 c, .int .u64 d]) := by rw [h, k]
/-- Of no high word: one word by another. -/
theorem div64_low (lo y : Int) (h1 : 0 < y) (hy : y < 18446744073709551616) (l0 : 0 ≤ lo) (l1 : lo < 18446744073709551616) (w : World) :
    Calls Tryz.prog 144 #[.int .u64 0, .int .u64 lo, .int .u64 y] w fun e w' => e = .returned (.tuple #[.int .u64 (lo / y), .int .u64 (lo % y)]) ∧ ∃ n, w' = w.drewN n := by
  have g0 : (y == 0) = false := by simp; omega
  have q0 : 0 ≤ lo / y := Int.ediv_nonneg l0 (by omega)
  have q1 : lo / y < 18446744073709551616 := by have := Int.ediv_le_self y l0; omega
  have r0 : 0 ≤ lo % y := Int.emod_nonneg _ (by omega)
  have r1 : lo % y < y := Int.emod_lt_of_pos _ h1
  go_enter Tryz.func144, Tryz.ntmps144
  go_wp2
  go_quiet (fail)
  go_wp2
  go_ret2
  exact ⟨rfl, nq, rfl⟩

set_option maxHeartbeats 1000000 in
theorem div64_high (hi lo y : Int) (h0 : 0 < hi) (h1 : hi < y) (hy : y < 18446744073709551616) (l0 : 0 ≤ lo) (l1 : lo < 18446744073709551616) (w : World) :
    Calls Tryz.prog 144 #[.int .u64 hi, .int .u64 lo, .int .u64 y] w fun e w' => e = .returned (.tuple #[.int .u64 ((hi * 18446744073709551616 + lo) / y), .int .u64 ((hi * 18446744073709551616 + lo) % y)]) ∧ w = w' := by
  obtain ⟨s, Y, U, L, es, s0, s1, eY, eU, eL, Y1, Y2, U1, U2, L1, L2, fq, fr⟩ := div_prep hi.toNat lo.toNat y.toNat (by omega) (by omega) (by omega)
  rw [Int.toNat_of_nonneg (by omega)] at eY eU eL
  rw [Int.toNat_of_nonneg (show 0 ≤ hi by omega), Int.toNat_of_nonneg l0, Int.toNat_of_nonneg (show 0 ≤ y by omega)] at fq fr
  rw [Int.toNat_of_nonneg l0] at eU
  have HS := Lib.hid es; have FQ := Lib.hid fq; have FR := Lib.hid fr
  clear es fq fr
  obtain ⟨y1, ey1⟩ : ∃ y1, Y / 4294967296 = y1 := ⟨_, rfl⟩
  obtain ⟨y0, ey0⟩ : ∃ y0, Y % 4294967296 = y0 := ⟨_, rfl⟩
  obtain ⟨v1, ev1⟩ : ∃ v1, L / 4294967296 = v1 := ⟨_, rfl⟩
  obtain ⟨v0, ev0⟩ : ∃ v0, L % 4294967296 = v0 := ⟨_, rfl⟩
  have D : Dig Y y1 y0 U v1 := ⟨by omega, by omega, by omega, by omega, by omega, U1, U2, by omega, by omega⟩
  obtain ⟨R, eR⟩ : ∃ R, (U * 4294967296 + v1) % Y = R := ⟨_, rfl⟩
  have RB := D.rest_bd
  rw [eR] at RB
  have D2 : Dig Y y1 y0 R v0 := ⟨by omega, by omega, by omega, by omega, by omega, RB.1, RB.2, by omega, by omega⟩
  have n1 : bits .and .u64 Y 4294967295 = y0 := by rw [and_low Y (by omega) Y2]; exact ey0
  have n2 : bits .and .u64 L 4294967295 = v0 := by rw [and_low L L1 L2]; exact ev0
  obtain ⟨Q1, eQ1⟩ : ∃ Q, (U * 4294967296 + v1) / Y = Q := ⟨_, rfl⟩
  obtain ⟨Q0, eQ0⟩ : ∃ Q, (R * 4294967296 + v0) / Y = Q := ⟨_, rfl⟩
  obtain ⟨g, eg⟩ : ∃ g, U / y1 = g := ⟨_, rfl⟩
  have g1 : g ≤ 4294967298 := by rw [← eg]; exact D.guess_le
  have g2 : Q1 ≤ g := by rw [← eg, ← eQ1]; exact D.guess_ge
  have g3 : 0 ≤ Q1 := by rw [← eQ1]; exact D.q0
  have rb := D.guess_r
  rw [eg] at rb
  obtain ⟨m, em⟩ : ∃ m, g * y1 = m := ⟨_, rfl⟩
  rw [em] at rb
  have b1 : 0 ≤ y1 := by have := D.a1; omega
  have b2 : 1 ≤ y1 := by have := D.a1; omega
  have b3 := D.a2; have b4 := D.b1; have b5 := D.b2; have b6 := D.v1; have b7 := D.v2; have b8 := D2.v1; have b9 := D2.v2
  have d0 : (y == 0) = false := by simp; omega
  have d1 : (hi == 0) = false := by simp; omega
  have m0 : 0 ≤ m := by rw [← em]; exact Int.mul_nonneg (by omega) b1
  have m1 : m ≤ U := by omega
  have Dh := Lib.hid D; have D2h := Lib.hid D2; have EQ1 := Lib.hid eQ1; have EQ0 := Lib.hid eQ0; have EM := Lib.hid em; have ER := Lib.hid eR
  have EV : Hid (L = v1 * 4294967296 + v0) := Lib.hid (by omega)
  clear D D2 eQ1 eQ0 eR
  go_enter Tryz.func144, Tryz.ntmps144
  go_upto_block 0 with (first | (go_at_call 167; refine (Tryz.bits_LeadingZeros64 y _ (by omega) (by omega)).mono ?_; rintro e w' ⟨rfl, hw⟩; rw [hw, ← HS.out]; clear hw))
  rw [eg]
  clear eY eU eL n1 n2 ey1 ey0 ev1 ev0 eg em
  go_cut [15, 16] (fun a _ wx => a = .int .u64 Q1 ∧ w = wx)
  case first =>
    go_wp2
    go_loop [15, 16] (fun a b => ∃ q r : Int, a = .int .u64 q ∧ b = .int .u64 r ∧ Q1 ≤ q ∧ q ≤ 4294967298 ∧ Hid (r = U - q * y1) ∧ 0 ≤ r ∧ r < 4294967296) (fun a _ => (intOf a).toNat)
    case atStart => exact ⟨g, _, rfl, rfl, g2, g1, (show _ = _ by rw [EM.out]), by omega, by omega⟩
    case round =>
      obtain ⟨q, r, rfl, rfl, hq1, hq2, hr, hr0, hr1⟩ := hrel
      have q0 : 0 ≤ q := by omega
      by_cases hB : 4294967296 ≤ q
      · have mo := Dh.out.more hr.out (.inl hB)
        rw [EQ1.out] at mo
        have nr : Hid (r + y1 = U - (q - 1) * y1) := Lib.hid (by have := hr.out; rw [Int.sub_mul, Int.one_mul]; omega)
        by_cases hf : 4294967296 ≤ r + y1
        · have fu := Dh.out.full nr.out (by rw [EQ1.out]; exact mo) (by omega) hf
          rw [EQ1.out] at fu
          have FU := Lib.hid fu
          clear fu hr nr
          go_wp2
          go_meet
          exact ⟨by rw [FU.out], rfl⟩
        · clear hr
          go_wp2
          go_round
          case rel => exact ⟨q - 1, r + y1, rfl, rfl, by omega, by omega, nr, by omega, by omega⟩
          case measure => simp [intOf]; omega
      · obtain ⟨t, ht⟩ : ∃ t, q * y0 = t := ⟨_, rfl⟩
        have t0 : 0 ≤ t := by rw [← ht]; exact Int.mul_nonneg q0 b4
        have t1 : t ≤ 4294967295 * 4294967295 := by rw [← ht]; exact Int.mul_le_mul (by omega) (by omega) b4 (by decide)
        have HT := Lib.hid ht
        by_cases hT : 4294967296 * r + v1 < t
        · have mo := Dh.out.more hr.out (.inr (by rw [ht]; exact hT))
          rw [EQ1.out] at mo
          have nr : Hid (r + y1 = U - (q - 1) * y1) := Lib.hid (by have := hr.out; rw [Int.sub_mul, Int.one_mul]; omega)
          by_cases hf : 4294967296 ≤ r + y1
          · have fu := Dh.out.full nr.out (by rw [EQ1.out]; exact mo) (by omega) hf
            rw [EQ1.out] at fu
            have FU := Lib.hid fu
            clear fu hr nr
            go_wp2
            go_meet
            exact ⟨by rw [FU.out], rfl⟩
          · clear hr
            go_wp2
            go_round
            case rel => exact ⟨q - 1, r + y1, rfl, rfl, by omega, by omega, nr, by omega, by omega⟩
            case measure => simp [intOf]; omega
        · have fu := Dh.out.done hr.out (by rw [EQ1.out]; exact hq1) (by rw [ht]; omega)
          rw [EQ1.out] at fu
          have FU := Lib.hid fu
          clear fu hr
          go_wp2
          go_meet
          exact ⟨by rw [FU.out], rfl⟩
  case rest =>
    obtain ⟨rfl, rfl⟩ := hcut
    have eW : IntKind.u64.wrap (IntKind.u64.wrap (IntKind.u64.wrap (U * 4294967296) + v1) - IntKind.u64.wrap (Q1 * Y)) = R := by
      have := Dh.out.wrap_rest Y2 (q := Q1) EQ1.out.symm
      rw [ER.out] at this
      simp only [IntKind.wrap_u64]; exact this
    obtain ⟨k, ek⟩ : ∃ k, R / y1 = k := ⟨_, rfl⟩
    have k1 : k ≤ 4294967298 := by rw [← ek]; exact D2h.out.guess_le
    have k2 : Q0 ≤ k := by rw [← ek, ← EQ0.out]; exact D2h.out.guess_ge
    have k3 : 0 ≤ Q0 := by rw [← EQ0.out]; exact D2h.out.q0
    have rb2 := D2h.out.guess_r
    rw [ek] at rb2
    obtain ⟨m2, em2⟩ : ∃ m2, k * y1 = m2 := ⟨_, rfl⟩
    rw [em2] at rb2
    have m20 : 0 ≤ m2 := by rw [← em2]; exact Int.mul_nonneg (by omega) b1
    have m21 : m2 ≤ R := by omega
    have EM2 := Lib.hid em2
    obtain ⟨RB1, RB2⟩ := RB
    go_upto_block 2 with fail
    rw [ek]
    clear eW ek em2
    go_cut [18, 16] (fun a _ wx => a = .int .u64 Q0 ∧ w = wx)
    case first =>
      go_wp2
      go_loop [18, 16] (fun a b => ∃ q r : Int, a = .int .u64 q ∧ b = .int .u64 r ∧ Q0 ≤ q ∧ q ≤ 4294967298 ∧ Hid (r = R - q * y1) ∧ 0 ≤ r ∧ r < 4294967296) (fun a _ => (intOf a).toNat)
      case atStart => exact ⟨k, _, rfl, rfl, k2, k1, (show _ = _ by rw [EM2.out]), by omega, by omega⟩
      case round =>
        obtain ⟨q, r, rfl, rfl, hq1, hq2, hr, hr0, hr1⟩ := hrel
        have q0 : 0 ≤ q := by omega
        by_cases hB : 4294967296 ≤ q
        · have mo := D2h.out.more hr.out (.inl hB)
          rw [EQ0.out] at mo
          have nr : Hid (r + y1 = R - (q - 1) * y1) := Lib.hid (by have := hr.out; rw [Int.sub_mul, Int.one_mul]; omega)
          by_cases hf : 4294967296 ≤ r + y1
          · have fu := D2h.out.full nr.out (by rw [EQ0.out]; exact mo) (by omega) hf
            rw [EQ0.out] at fu
            have FU := Lib.hid fu
            clear fu hr nr
            go_wp2
            go_meet
            exact ⟨by rw [FU.out], rfl⟩
          · clear hr
            go_wp2
            go_round
            case rel => exact ⟨q - 1, r + y1, rfl, rfl, by omega, by omega, nr, by omega, by omega⟩
            case measure => simp [intOf]; omega
        · obtain ⟨t, ht⟩ : ∃ t, q * y0 = t := ⟨_, rfl⟩
          have t0 : 0 ≤ t := by rw [← ht]; exact Int.mul_nonneg q0 b4
          have t1 : t ≤ 4294967295 * 4294967295 := by rw [← ht]; exact Int.mul_le_mul (by omega) (by omega) b4 (by decide)
          have HT := Lib.hid ht
          by_cases hT : 4294967296 * r + v0 < t
          · have mo := D2h.out.more hr.out (.inr (by rw [ht]; exact hT))
            rw [EQ0.out] at mo
            have nr : Hid (r + y1 = R - (q - 1) * y1) := Lib.hid (by have := hr.out; rw [Int.sub_mul, Int.one_mul]; omega)
            by_cases hf : 4294967296 ≤ r + y1
            · have fu := D2h.out.full nr.out (by rw [EQ0.out]; exact mo) (by omega) hf
              rw [EQ0.out] at fu
              have FU := Lib.hid fu
              clear fu hr nr
              go_wp2
              go_meet
              exact ⟨by rw [FU.out], rfl⟩
            · clear hr
              go_wp2
              go_round
              case rel => exact ⟨q - 1, r + y1, rfl, rfl, by omega, by omega, nr, by omega, by omega⟩
              case measure => simp [intOf]; omega
          · have fu := D2h.out.done hr.out (by rw [EQ0.out]; exact hq1) (by rw [ht]; omega)
            rw [EQ0.out] at fu
            have FU := Lib.hid fu
            clear fu hr
            go_wp2
            go_meet
            exact ⟨by rw [FU.out], rfl⟩
    case rest =>
      obtain ⟨rfl, rfl⟩ := hcut
      have eW2 : IntKind.u64.wrap (IntKind.u64.wrap (IntKind.u64.wrap (R * 4294967296) + v0) - IntKind.u64.wrap (Q0 * Y)) = (R * 4294967296 + v0) % Y := by
        have := D2h.out.wrap_rest Y2 (q := Q0) EQ0.out.symm
        simp only [IntKind.wrap_u64]; exact this
      have z1 := D2h.out.rest_bd
      obtain ⟨Z, eZ⟩ : ∃ Z, (R * 4294967296 + v0) % Y = Z := ⟨_, rfl⟩
      rw [eZ] at eW2 z1
      obtain ⟨z1, z2⟩ := z1
      have c1 : Q1 < 4294967296 := by rw [← EQ1.out]; exact Dh.out.qB
      have c0 : Q0 < 4294967296 := by rw [← EQ0.out]; exact D2h.out.qB
      obtain ⟨td1, td2⟩ := two_digits Y U v1 v0 (by omega)
      rw [EQ1.out, ER.out, EQ0.out] at td1
      rw [ER.out, eZ] at td2
      have eL : U * 18446744073709551616 + L = U * 18446744073709551616 + v1 * 4294967296 + v0 := by rw [EV.out]; omega
      have fq := FQ.out
      have fr := FR.out
      rw [eL, td1] at fq
      rw [eL, td2] at fr
      have FQ2 := Lib.hid fq; have FR2 := Lib.hid fr
      clear fq fr eL td1 td2 eZ
      go_wp2
      go_ret2
      exact ⟨ret_w2 FQ2.out.symm FR2.out.symm, rfl⟩
end Go.Proofs.YtdpoahfjiomhbaaGreatDoor
