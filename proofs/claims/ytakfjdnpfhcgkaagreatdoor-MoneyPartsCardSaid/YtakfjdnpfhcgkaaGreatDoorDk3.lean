/-
  Contract of wide.Int.DivEven.
-/
import Derived.Test.YtakfjdnpfhcgkaaGreatDoorWk1
import Derived.Test.YtakfjdnpfhcgkaaGreatDoorDm
import Derived.Test.YtakfjdnpfhcgkaaGreatDoorDm2
import Derived.Deep.DeepCutAuto
import Derived.Deep.CutBlock
import Derived.Test.YtakfjdnpfhcgkaaGreatDoorQh
import Derived.Test.YtakfjdnpfhcgkaaGreatDoorWk4
/-
  Contract of math/bits.Div64.
-/
namespace Go.Proofs.YtakfjdnpfhcgkaaGreatDoor
set_option linter.all false
open Go.RowKit Go.Sort
attribute [local go_sem] cell_set_self lt_1 lt_2 lt_3 lt_4 lt_5 lt_6


theorem ret_w2 {a b c d : Int} (h : a = c) (k : b = d) : Ending.returned (.tuple #[.int .u64 a, .int .u64 b]) = .returned (.tuple #[.int .u64 c, .int .u64 d]) := by rw [h, k]
/-- Of no high word: one word by another. -/
theorem div64_low (lo y : Int) (h1 : 0 < y) (hy : y < 18446744073709551616) (l0 : 0 ≤ lo) (l1 : lo < 18446744073709551616) (w : World) :
    Calls Tryz.prog 75 #[.int .u64 0, .int .u64 lo, .int .u64 y] w fun e w' => e = .returned (.tuple #[.int .u64 (lo / y), .int .u64 (lo % y)]) ∧ ∃ n, w' = w.drewN n := by
  have g0 : (y == 0) = false := by simp; omega
  have q0 : 0 ≤ lo / y := Int.ediv_nonneg l0 (by omega)
  have q1 : lo / y < 18446744073709551616 := by have := Int.ediv_le_self y l0; omega
  have r0 : 0 ≤ lo % y := Int.emod_nonneg _ (by omega)
  have r1 : lo % y < y := Int.emod_lt_of_pos _ h1
  go_enter Tryz.func75, Tryz.ntmps75
  go_wp2
  go_quiet (fail)
  go_wp2
  go_ret2
  exact ⟨rfl, nq, rfl⟩

set_option maxHeartbeats 1000000 in
theorem div64_high (hi lo y : Int) (h0 : 0 < hi) (h1 : hi < y) (hy : y < 18446744073709551616) (l0 : 0 ≤ lo) (l1 : lo < 18446744073709551616) (w : World) :
    Calls Tryz.prog 75 #[.int .u64 hi, .int .u64 lo, .int .u64 y] w fun e w' => e = .returned (.tuple #[.int .u64 ((hi * 18446744073709551616 + lo) / y), .int .u64 ((hi * 18446744073709551616 + lo) % y)]) ∧ w = w' := by
  obtain ⟨s, Y, U, L, es, s0, s1, eY, eU, eL, Y1, Y2, U1, U2, L1, L2, fq, fr⟩ := div_prep hi.toNat lo.toNat y.toNat (by omega) (by omega) (by omega)
  rw [Int.toNat_of_nonneg (by omega)] at eY eU eL
  rw [Int.toNat_of_nonneg (show 0 ≤ hi by omega), Int.toNat_of_nonneg l0, Int.toNat_of_nonneg (show 0 ≤ y by omega)] at fq fr
  rw [Int.toNat_of_nonneg l0] at eU
  have HS := Lib.hid es; have FQ := Lib.hid fq; have FR := Lib.hid fr
  clear es fq fr
  obtain ⟨y1, ey1⟩ : ∃ y1, Y / 4294967296 = y1 := ⟨_, rfl⟩
  obtain ⟨y0, ey0⟩ : ∃ y0, Y % 4294967296 = y0 := ⟨_, rfl⟩
  obtain ⟨v1, ev1⟩ : ∃ v1, L / 4294967296 = v1 := ⟨_, rfl⟩
  obtain ⟨v0, ev0⟩ : ∃ v0, L % 4294967296 = v0 := ⟨_, rfl⟩
  have D : Dig Y y1 y0 U v1 := ⟨by omega, by omega, by omega, by omega, by omega, U1, U2, by omega, by omega⟩
  obtain ⟨R, eR⟩ : ∃ R, (U * 4294967296 + v1) % Y = R := ⟨_, rfl⟩
  have RB := D.rest_bd
  rw [eR] at RB
  have D2 : Dig Y y1 y0 R v0 := ⟨by omega, by omega, by omega, by omega, by omega, RB.1, RB.2, by omega, by omega⟩
  have n1 : bits .and .u64 Y 4294967295 = y0 := by rw [and_low Y (by omega) Y2]; exact ey0
  have n2 : bits .and .u64 L 4294967295 = v0 := by rw [and_low L L1 L2]; exact ev0
  obtain ⟨Q1, eQ1⟩ : ∃ Q, (U * 4294967296 + v1) / Y = Q := ⟨_, rfl⟩
  obtain ⟨Q0, eQ0⟩ : ∃ Q, (R * 4294967296 + v0) / Y = Q := ⟨_, rfl⟩
  obtain ⟨g, eg⟩ : ∃ g, U / y1 = g := ⟨_, rfl⟩
  have g1 : g ≤ 4294967298 := by rw [← eg]; exact D.guess_le
  have g2 : Q1 ≤ g := by rw [← eg, ← eQ1]; exact D.guess_ge
  have g3 : 0 ≤ Q1 := by rw [← eQ1]; exact D.q0
  have rb := D.guess_r
  rw [eg] at rb
  obtain ⟨m, em⟩ : ∃ m, g * y1 = m := ⟨_, rfl⟩
  rw [em] at rb
  have b1 : 0 ≤ y1 := by have := D.a1; omega
  have b2 : 1 ≤ y1 := by have := D.a1; omega
  have b3 := D.a2; have b4 := D.b1; have b5 := D.b2; have b6 := D.v1; have b7 := D.v2; have b8 := D2.v1; have b9 := D2.v2
  have d0 : (y == 0) = false := by simp; omega
  have d1 : (hi == 0) = false := by simp; omega
  have m0 : 0 ≤ m := by rw [← em]; exact Int.mul_nonneg (by omega) b1
  have m1 : m ≤ U := by omega
  have Dh := Lib.hid D; have D2h := Lib.hid D2; have EQ1 := Lib.hid eQ1; have EQ0 := Lib.hid eQ0; have EM := Lib.hid em; have ER := Lib.hid eR
  have EV : Hid (L = v1 * 4294967296 + v0) := Lib.hid (by omega)
  clear D D2 eQ1 eQ0 eR
  go_enter Tryz.func75, Tryz.ntmps75
  go_upto_block 0 with (first | (go_at_call 94; refine (Tryz.bits_LeadingZeros64 y _ (by omega) (by omega)).mono ?_; rintro e w' ⟨rfl, hw⟩; rw [hw, ← HS.out]; clear hw))
  rw [eg]
  clear eY eU eL n1 n2 ey1 ey0 ev1 ev0 eg em
  go_cut [15, 16] (fun a _ wx => a = .int .u64 Q1 ∧ w = wx)
  case first =>
    go_wp2
    go_loop [15, 16] (fun a b => ∃ q r : Int, a = .int .u64 q ∧ b = .int .u64 r ∧ Q1 ≤ q ∧ q ≤ 4294967298 ∧ Hid (r = U - q * y1) ∧ 0 ≤ r ∧ r < 4294967296) (fun a _ => (intOf a).toNat)
    case atStart => exact ⟨g, _, rfl, rfl, g2, g1, (show _ = _ by rw [EM.out]), by omega, by omega⟩
    case round =>
      obtain ⟨q, r, rfl, rfl, hq1, hq2, hr, hr0, hr1⟩ := hrel
      have q0 : 0 ≤ q := by omega
      by_cases hB : 4294967296 ≤ q
      · have mo := Dh.out.more hr.out (.inl hB)
        rw [EQ1.out] at mo
        have nr : Hid (r + y1 = U - (q - 1) * y1) := Lib.hid (by have := hr.out; rw [Int.sub_mul, Int.one_mul]; omega)
        by_cases hf : 4294967296 ≤ r + y1
        · have fu := Dh.out.full nr.out (by rw [EQ1.out]; exact mo) (by omega) hf
          rw [EQ1.out] at fu
          have FU := Lib.hid fu
          clear fu hr nr
          go_wp2
          go_meet
          exact ⟨by rw [FU.out], rfl⟩
        · clear hr
          go_wp2
          go_round
          case rel => exact ⟨q - 1, r + y1, rfl, rfl, by omega, by omega, nr, by omega, by omega⟩
          case measure => simp [intOf]; omega
      · obtain ⟨t, ht⟩ : ∃ t, q * y0 = t := ⟨_, rfl⟩
        have t0 : 0 ≤ t := by rw [← ht]; exact Int.mul_nonneg q0 b4
        have t1 : t ≤ 4294967295 * 4294967295 := by rw [← ht]; exact Int.mul_le_mul (by omega) (by omega) b4 (by decide)
        have HT := Lib.hid ht
        by_cases hT : 4294967296 * r + v1 < t
        · have mo := Dh.out.more hr.out (.inr (by rw [ht]; exact hT))
          rw [EQ1.out] at mo
          have nr : Hid (r + y1 = U - (q - 1) * y1) := Lib.hid (by have := hr.out; rw [Int.sub_mul, Int.one_mul]; omega)
          by_cases hf : 4294967296 ≤ r + y1
          · have fu := Dh.out.full nr.out (by rw [EQ1.out]; exact mo) (by omega) hf
            rw [EQ1.out] at fu
            have FU := Lib.hid fu
            clear fu hr nr
            go_wp2
            go_meet
            exact ⟨by rw [FU.out], rfl⟩
          · clear hr
            go_wp2
            go_round
            case rel => exact ⟨q - 1, r + y1, rfl, rfl, by omega, by omega, nr, by omega, by omega⟩
            case measure => simp [intOf]; omega
        · have fu := Dh.out.done hr.out (by rw [EQ1.out]; exact hq1) (by rw [ht]; omega)
          rw [EQ1.out] at fu
          have FU := Lib.hid fu
          clear fu hr
          go_wp2
          go_meet
          exact ⟨by rw [FU.out], rfl⟩
  case rest =>
    obtain ⟨rfl, rfl⟩ := hcut
    have eW : IntKind.u64.wrap (IntKind.u64.wrap (IntKind.u64.wrap (U * 4294967296) + v1) - IntKind.u64.wrap (Q1 * Y)) = R := by
      have := Dh.out.wrap_rest Y2 (q := Q1) EQ1.out.symm
      rw [ER.out] at this
      simp only [IntKind.wrap_u64]; exact this
    obtain ⟨k, ek⟩ : ∃ k, R / y1 = k := ⟨_, rfl⟩
    have k1 : k ≤ 4294967298 := by rw [← ek]; exact D2h.out.guess_le
    have k2 : Q0 ≤ k := by rw [← ek, ← EQ0.out]; exact D2h.out.guess_ge
    have k3 : 0 ≤ Q0 := by rw [← EQ0.out]; exact D2h.out.q0
    have rb2 := D2h.out.guess_r
    rw [ek] at rb2
    obtain ⟨m2, em2⟩ : ∃ m2, k * y1 = m2 := ⟨_, rfl⟩
    rw [em2] at rb2
    have m20 : 0 ≤ m2 := by rw [← em2]; exact Int.mul_nonneg (by omega) b1
    have m21 : m2 ≤ R := by omega
    have EM2 := Lib.hid em2
    obtain ⟨RB1, RB2⟩ := RB
    go_upto_block 2 with fail
    rw [ek]
    clear eW ek em2
    go_cut [18, 16] (fun a _ wx => a = .int .u64 Q0 ∧ w = wx)
    case first =>
      go_wp2
      go_loop [18, 16] (fun a b => ∃ q r : Int, a = .int .u64 q ∧ b = .int .u64 r ∧ Q0 ≤ q ∧ q ≤ 4294967298 ∧ Hid (r = R - q * y1) ∧ 0 ≤ r ∧ r < 4294967296) (fun a _ => (intOf a).toNat)
      case atStart => exact ⟨k, _, rfl, rfl, k2, k1, (show _ = _ by rw [EM2.out]), by omega, by omega⟩
      case round =>
        obtain ⟨q, r, rfl, rfl, hq1, hq2, hr, hr0, hr1⟩ := hrel
        have q0 : 0 ≤ q := by omega
        by_cases hB : 4294967296 ≤ q
        · have mo := D2h.out.more hr.out (.inl hB)
          rw [EQ0.out] at mo
          have nr : Hid (r + y1 = R - (q - 1) * y1) := Lib.hid (by have := hr.out; rw [Int.sub_mul, Int.one_mul]; omega)
          by_cases hf : 4294967296 ≤ r + y1
          · have fu := D2h.out.full nr.out (by rw [EQ0.out]; exact mo) (by omega) hf
            rw [EQ0.out] at fu
            have FU := Lib.hid fu
            clear fu hr nr
            go_wp2
            go_meet
            exact ⟨by rw [FU.out], rfl⟩
          · clear hr
            go_wp2
            go_round
            case rel => exact ⟨q - 1, r + y1, rfl, rfl, by omega, by omega, nr, by omega, by omega⟩
            case measure => simp [intOf]; omega
        · obtain ⟨t, ht⟩ : ∃ t, q * y0 = t := ⟨_, rfl⟩
          have t0 : 0 ≤ t := by rw [← ht]; exact Int.mul_nonneg q0 b4
          have t1 : t ≤ 4294967295 * 4294967295 := by rw [← ht]; exact Int.mul_le_mul (by omega) (by omega) b4 (by decide)
          have HT := Lib.hid ht
          by_cases hT : 4294967296 * r + v0 < t
          · have mo := D2h.out.more hr.out (.inr (by rw [ht]; exact hT))
            rw [EQ0.out] at mo
            have nr : Hid (r + y1 = R - (q - 1) * y1) := Lib.hid (by have := hr.out; rw [Int.sub_mul, Int.one_mul]; omega)
            by_cases hf : 4294967296 ≤ r + y1
            · have fu := D2h.out.full nr.out (by rw [EQ0.out]; exact mo) (by omega) hf
              rw [EQ0.out] at fu
              have FU := Lib.hid fu
              clear fu hr nr
              go_wp2
              go_meet
              exact ⟨by rw [FU.out], rfl⟩
            · clear hr
              go_wp2
              go_round
              case rel => exact ⟨q - 1, r + y1, rfl, rfl, by omega, by omega, nr, by omega, by omega⟩
              case measure => simp [intOf]; omega
          · have fu := D2h.out.done hr.out (by rw [EQ0.out]; exact hq1) (by rw [ht]; omega)
            rw [EQ0.out] at fu
            have FU := Lib.hid fu
            clear fu hr
            go_wp2
            go_meet
            exact ⟨by rw [FU.out], rfl⟩
    case rest =>
      obtain ⟨rfl, rfl⟩ := hcut
      have eW2 : IntKind.u64.wrap (IntKind.u64.wrap (IntKind.u64.wrap (R * 4294967296) + v0) - IntKind.u64.wrap (Q0 * Y)) = (R * 4294967296 + v0) % Y := by
        have := D2h.out.wrap_rest Y2 (q := Q0) EQ0.out.symm
        simp only [IntKind.wrap_u64]; exact this
      have z1 := D2h.out.rest_bd
      obtain ⟨Z, eZ⟩ : ∃ Z, (R * 4294967296 + v0) % Y = Z := ⟨_, rfl⟩
      rw [eZ] at eW2 z1
      obtain ⟨z1, z2⟩ := z1
      have c1 : Q1 < 4294967296 := by rw [← EQ1.out]; exact Dh.out.qB
      have c0 : Q0 < 4294967296 := by rw [← EQ0.out]; exact D2h.out.qB
      obtain ⟨td1, td2⟩ := two_digits Y U v1 v0 (by omega)
      rw [EQ1.out, ER.out, EQ0.out] at td1
      rw [ER.out, eZ] at td2
      have eL : U * 18446744073709551616 + L = U * 18446744073709551616 + v1 * 4294967296 + v0 := by rw [EV.out]; omega
      have fq := FQ.out
      have fr := FR.out
      rw [eL, td1] at fq
      rw [eL, td2] at fr
      have FQ2 := Lib.hid fq; have FR2 := Lib.hid fr
      clear fq fr eL td1 td2 eZ
      go_wp2
      go_ret2
      exact ⟨ret_w2 FQ2.out.symm FR2.out.symm, rfl⟩
end Go.Proofs.YtakfjdnpfhcgkaaGreatDoor

/-
  Contracts of wide.size.quo and wide.Int.DivEven.
-/
namespace Go.Proofs.YtakfjdnpfhcgkaaGreatDoor
set_option linter.all false
open Go.RowKit Go.Sort
attribute [local go_sem] cell_set_self lt_1 lt_2 lt_3 lt_4 lt_5 lt_6

/-- math/bits.Div64, of a high word below the divisor. -/
theorem div64_any (hi lo y : Int) (h0 : 0 ≤ hi) (h1 : hi < y) (hy : y < 18446744073709551616) (l0 : 0 ≤ lo) (l1 : lo < 18446744073709551616) (w : World) :
    Calls Tryz.prog 75 #[.int .u64 hi, .int .u64 lo, .int .u64 y] w fun e w' => e = .returned (.tuple #[.int .u64 ((hi * 18446744073709551616 + lo) / y), .int .u64 ((hi * 18446744073709551616 + lo) % y)]) ∧ Below w.heap.size w w' := by
  by_cases hz : hi = 0
  · subst hz
    refine (div64_low lo y h1 hy l0 l1 w).mono ?_
    rintro e w' ⟨rfl, n, rfl⟩
    exact ⟨by simp, ⟨rfl, rfl, rfl, Nat.le_refl _, fun _ _ => rfl⟩⟩
  · refine (div64_high hi lo y (by omega) h1 hy l0 l1 w).mono ?_
    rintro e w' ⟨rfl, rfl⟩
    exact ⟨rfl, Below.refl _ _⟩

/-- wide.size.quo. -/
theorem quo_any (s d : Int) (hs : Sz128 s) (h0 : 0 < d) (h1 : d < 18446744073709551616) (w : World) :
    Calls Tryz.prog 44 #[.agg #[.int .u64 (hiOf s), .int .u64 (loOf s)], .int .u64 d] w fun e w' => e = .returned (.tuple #[.agg #[.int .u64 (hiOf (s / d)), .int .u64 (loOf (s / d))], .int .u64 (s % d)]) ∧ Below w.heap.size w w' := by
  obtain ⟨a1, a2⟩ := hiOf_word s
  obtain ⟨b1, b2⟩ := loOf_word s
  have hw := sz_words s hs
  have es : s = hiOf s * 18446744073709551616 + loOf s := by rw [hw.1, hw.2]; omega
  obtain ⟨t1, t2⟩ := two_words d (hiOf s) (loOf s) h0
  rw [← es] at t1 t2
  clear hw
  have r0 : 0 ≤ hiOf s % d := Int.emod_nonneg _ (by omega)
  have r1 : hiOf s % d < d := Int.emod_lt_of_pos _ h0
  have q0 : 0 ≤ hiOf s / d := Int.ediv_nonneg a1 (by omega)
  have q1 : hiOf s / d < 18446744073709551616 := by have := Int.ediv_le_self d a1; omega
  have k0 : 0 ≤ (hiOf s % d * 18446744073709551616 + loOf s) / d := Int.ediv_nonneg (by omega) (by omega)
  have k1 : (hiOf s % d * 18446744073709551616 + loOf s) / d < 18446744073709551616 := Int.ediv_lt_of_lt_mul h0 (by omega)
  have e1 : hiOf (s / d) = hiOf s / d := by rw [t1]; unfold hiOf at *; omega
  have e2 : loOf (s / d) = (hiOf s % d * 18446744073709551616 + loOf s) / d := by rw [t1]; unfold loOf at *; omega
  have d0 : (d == 0) = false := by simp; omega
  have E1 := Lib.hid e1; have E2 := Lib.hid e2; have T2 := Lib.hid t2
  clear e1 e2 t1 t2 es
  go_enter Tryz.func44, Tryz.ntmps44
  go_wp2
  refine name_world ?_; intro W1 hW1; have kW1 : W1.cell? ⟨w.heap.size, 0, none⟩ = some (.int .u64 (hiOf s)) ∧ W1.cell? ⟨w.heap.size, 1, none⟩ = some (.int .u64 (loOf s)) ∧ W1.cell? ⟨w.heap.size + 1, 0, none⟩ = some (.int .u64 0) ∧ W1.cell? ⟨w.heap.size + 1, 1, none⟩ = some (.int .u64 0) ∧ W1.frozen? ⟨w.heap.size + 1, 0, none⟩ = false ∧ W1.frozen? ⟨w.heap.size + 1, 1, none⟩ = false ∧ w.heap.size < W1.heap.size ∧ w.heap.size + 1 < W1.heap.size ∧ Below w.heap.size w W1 := by { rw [hW1]; exact (by refine ⟨?_, ?_, ?_, ?_, ?_, ?_, ?_, ?_, ?_⟩ <;> first | (simp [go_sem, *]; done) | omega | (simp; omega) | exact (by repeat (first | exact Below.refl _ _ | refine Below.setCell ?_ (by first | (simp; done) | (simp; omega) | omega) _ | refine Below.alloc ?_ (by first | (simp; done) | (simp; omega) | omega) _ | refine Below.drew ?_ | assumption | refine Below.trans ?_ (Below.mono (by assumption) (by first | (simp; done) | (simp; omega) | omega))))) }; clear hW1; obtain ⟨cW1_0, cW1_1, cW1_2, cW1_3, fW1_0, fW1_1, zW1_0, zW1_1, bW1⟩ := kW1
  have gc0 := grown_cell cW1_0; have gc1 := grown_cell cW1_1; have gc2 := grown_cell cW1_2; have gc3 := grown_cell cW1_3; have gf0 := grown_frozen fW1_0 zW1_1; have gf1 := grown_frozen fW1_1 zW1_1; have gz0 := grown_size zW1_0; have gz1 := grown_size zW1_1; refine wp_region_quiet_below (by kernel_rfl) (by kernel_rfl) ?_; (try simp only [List.take_succ_cons, List.take_zero]); (repeat (any_goals (first | go_big_quiet_step ((fail)) | quiet_step ((fail))))); refine wpQuiet_nil ?_; intro _ hw'; obtain ⟨⟨dq, osq⟩, hw''⟩ := hw'; subst hw''; have kW2 : (grow (redrawn W1 dq) osq).cell? ⟨w.heap.size, 0, none⟩ = some (.int .u64 (hiOf s)) ∧ (grow (redrawn W1 dq) osq).cell? ⟨w.heap.size, 1, none⟩ = some (.int .u64 (loOf s)) ∧ (grow (redrawn W1 dq) osq).cell? ⟨w.heap.size + 1, 0, none⟩ = some (.int .u64 0) ∧ (grow (redrawn W1 dq) osq).cell? ⟨w.heap.size + 1, 1, none⟩ = some (.int .u64 0) ∧ (grow (redrawn W1 dq) osq).frozen? ⟨w.heap.size + 1, 0, none⟩ = false ∧ (grow (redrawn W1 dq) osq).frozen? ⟨w.heap.size + 1, 1, none⟩ = false ∧ w.heap.size < (grow (redrawn W1 dq) osq).heap.size ∧ w.heap.size + 1 < (grow (redrawn W1 dq) osq).heap.size ∧ Below w.heap.size w (grow (redrawn W1 dq) osq) := ⟨gc0 dq osq, gc1 dq osq, gc2 dq osq, gc3 dq osq, gf0 dq osq, gf1 dq osq, gz0 dq osq, gz1 dq osq, bW1.trans ((below_regrown W1 dq osq).mono bW1.size)⟩; clear gc0 gc1 gc2 gc3 gf0 gf1 gz0 gz1 cW1_0 cW1_1 cW1_2 cW1_3 fW1_0 fW1_1 zW1_0 zW1_1 bW1; generalize grow (redrawn W1 dq) osq = W2 at *; obtain ⟨cW2_0, cW2_1, cW2_2, cW2_3, fW2_0, fW2_1, zW2_0, zW2_1, bW2⟩ := kW2
  go_wp2_with (first | (go_at_call 75; refine (div64_any _ _ _ r0 r1 h1 b1 b2 _).mono ?_; rintro e w3 ⟨rfl, hb3⟩; obtain ⟨hc3, hf3⟩ := bcell hb3; have hs3 := hb3.size; (try simp at hs3); have hz3 : w.heap.size < w3.heap.size ∧ w.heap.size + 1 < w3.heap.size := by have := hb3.size; (try simp at this); omega))
  rw [← E1.out, ← E2.out, ← T2.out]
  exact bodyPost_ret (v := .tuple #[.agg #[.int .u64 (hiOf (s / d)), .int .u64 (loOf (s / d))], .int .u64 (s % d)]) (by simp [results, Tryz.results44, go_sem, *]) rfl ⟨rfl, (by repeat (first | exact Below.refl _ _ | refine Below.setCell ?_ (by first | (simp; done) | (simp; omega) | omega) _ | refine Below.alloc ?_ (by first | (simp; done) | (simp; omega) | omega) _ | refine Below.drew ?_ | assumption | refine Below.trans ?_ (Below.mono (by assumption) (by first | (simp; done) | (simp; omega) | omega))))⟩
end Go.Proofs.YtakfjdnpfhcgkaaGreatDoor

/-
  Contract of wide.Int.DivEven.
-/
namespace Go.Proofs.YtakfjdnpfhcgkaaGreatDoor
set_option linter.all false
open Go.RowKit Go.Sort
attribute [local go_sem] cell_set_self lt_1 lt_2 lt_3 lt_4 lt_5 lt_6


set_option maxHeartbeats 1000000 in
/-- wide.Int.DivEven's last steps, whatever the sign. -/
theorem even_core (a d : Int) (ng : Bool) (ha : In128 a) (hd : In64 d) (h0 : 0 < d) (hn : negW a = ng) (w : World) (z : Int) (hz : z = if ng then -(rheA (absI a) d) else rheA (absI a) d) (hin : In128 z) :
    Calls Tryz.prog 37 #[.agg #[.int .u64 (hiOf a), .int .u64 (loOf a)], .int .i64 d] w fun e w' => e = .returned (.tuple #[.agg #[.int .u64 (hiOf z), .int .u64 (loOf z)], .int .i64 0]) ∧ Below w.heap.size w w' := by
  have habs : 0 ≤ absI a ∧ absI a ≤ 170141183460469231731687303715884105728 := by unfold In128 at ha; unfold absI; split <;> omega
  have hsz : Sz128 (absI a) := by unfold Sz128; omega
  have hd2 : absI d = d := by unfold absI; rw [if_neg (by omega)]
  have hd1 : d < 9223372036854775808 := hd.2
  obtain ⟨r, er⟩ : ∃ r, absI a % d = r := ⟨_, rfl⟩
  obtain ⟨q, eq⟩ : ∃ q, absI a / d = q := ⟨_, rfl⟩
  have r0 : 0 ≤ r := by rw [← er]; exact Int.emod_nonneg _ (by omega)
  have r1 : r < d := by rw [← er]; exact Int.emod_lt_of_pos _ h0
  have q0 : 0 ≤ q := by rw [← eq]; exact Int.ediv_nonneg habs.1 (by omega)
  have q1 : q ≤ 170141183460469231731687303715884105728 := by rw [← eq]; have := Int.ediv_le_self d habs.1; omega
  have cw := fun W => wordOf_any d hd W
  rw [hd2] at cw
  have cq := fun W => quo_any (absI a) d hsz h0 (by omega) W
  rw [er, eq] at cq
  have CW := Lib.hid cw; have CQ := Lib.hid cq
  have HA := Lib.hid ha
  have hq : Sz128 q := by unfold Sz128; omega
  have hq' : Sz128 (q + 1) := by unfold Sz128; omega
  have lo2 : loOf q % 2 = q % 2 := by unfold loOf; omega
  unfold rheA at hz
  rw [er, eq] at hz
  have d0 : (d == 0) = false := by simp; omega
  have dl : decide (d < 0) = false := by simp; omega
  obtain ⟨l1, l2⟩ := loOf_word q
  obtain ⟨m1, m2⟩ := hiOf_word q
  clear cw cq er eq hd habs hsz hd2
  by_cases up : d < 2 * r ∨ (2 * r = d ∧ q % 2 = 1)
  · rw [if_pos up] at hz
    have sg := fun W => signed_fits (q + 1) ng hq' z hz hin W
    have SG := Lib.hid sg
    have e1 : (loOf q + 1) % 18446744073709551616 = loOf (q + 1) := by unfold loOf; omega
    have e2 : IntKind.u64.wrap (hiOf q + (loOf q + 1) / 18446744073709551616) = hiOf (q + 1) := by rw [IntKind.wrap_u64]; unfold hiOf loOf; omega
    have E1 := Lib.hid e1; have E2 := Lib.hid e2
    have odd : q % 2 = 1 → (loOf q % 2 == 1) = true := fun h => by rw [lo2, h]; rfl
    clear sg hz hq hq' e1 e2 lo2
    rcases (show d < 2 * r ∨ (2 * r == d) = true ∧ (loOf q % 2 == 1) = true ∧ decide (d < 2 * r) = false ∧ 2 * r ≤ d from by rcases up with h | ⟨h, k⟩; exact .inl h; exact .inr ⟨by simp [h], odd k, by simp; omega, by omega⟩) with h | ⟨h, k, k2, k3⟩
    all_goals
      clear up odd
      go_enter Tryz.func37, Tryz.ntmps37
      go_wp2_with (first | (go_at_call 41; refine (CW.out _).mono ?_; rintro e w1 ⟨rfl, hb1⟩; obtain ⟨hc1, hf1⟩ := bcell hb1; have hs1 := hb1.size; (try simp at hs1); have hz1 : w.heap.size < w1.heap.size ∧ w.heap.size + 1 < w1.heap.size := by have := hb1.size; (try simp at this); omega) | (go_at_call 43; refine (size_any _ HA.out _).mono ?_; rintro e w2 ⟨rfl, hb2⟩; obtain ⟨hc2, hf2⟩ := bcell hb2; have hs2 := hb2.size; (try simp at hs2); have hz2 : w.heap.size < w2.heap.size ∧ w.heap.size + 1 < w2.heap.size := by have := hb2.size; (try simp at this); omega) | (go_at_call 44; refine (CQ.out _).mono ?_; rintro e w3 ⟨rfl, hb3⟩; obtain ⟨hc3, hf3⟩ := bcell hb3; have hs3 := hb3.size; (try simp at hs3); have hz3 : w.heap.size < w3.heap.size ∧ w.heap.size + 1 < w3.heap.size := by have := hb3.size; (try simp at this); omega) | simp only [add64_0 (loOf q) 1 l1 (by decide)])
      rw [E1.out, E2.out]
      refine name_world ?_; intro W4 hW4; have kW4 : W4.cell? ⟨w.heap.size, 0, none⟩ = some (.int .u64 (hiOf a)) ∧ W4.cell? ⟨w.heap.size, 1, none⟩ = some (.int .u64 (loOf a)) ∧ W4.cell? ⟨w.heap.size + 1, 0, none⟩ = some (.int .u64 0) ∧ W4.cell? ⟨w.heap.size + 1, 1, none⟩ = some (.int .u64 0) ∧ W4.cell? ⟨w3.heap.size, 0, none⟩ = some (.int .u64 (hiOf (q + 1))) ∧ W4.cell? ⟨w3.heap.size, 1, none⟩ = some (.int .u64 (loOf (q + 1))) ∧ W4.frozen? ⟨w.heap.size + 1, 0, none⟩ = false ∧ W4.frozen? ⟨w.heap.size + 1, 1, none⟩ = false ∧ w.heap.size < W4.heap.size ∧ w.heap.size + 1 < W4.heap.size ∧ w3.heap.size < W4.heap.size ∧ Below w.heap.size w W4 := by { rw [hW4]; exact (by refine ⟨?_, ?_, ?_, ?_, ?_, ?_, ?_, ?_, ?_, ?_, ?_, ?_⟩ <;> first | (simp [go_sem, *]; done) | omega | (simp; omega) | exact (by repeat (first | exact Below.refl _ _ | refine Below.setCell ?_ (by first | (simp; done) | (simp; omega) | omega) _ | refine Below.alloc ?_ (by first | (simp; done) | (simp; omega) | omega) _ | refine Below.drew ?_ | assumption | refine Below.trans ?_ (Below.mono (by assumption) (by first | (simp; done) | (simp; omega) | omega))))) }; clear hW4; obtain ⟨cW4_0, cW4_1, cW4_2, cW4_3, cW4_4, cW4_5, fW4_0, fW4_1, zW4_0, zW4_1, zW4_2, bW4⟩ := kW4
      have gc0 := grown_cell cW4_0; have gc1 := grown_cell cW4_1; have gc2 := grown_cell cW4_2; have gc3 := grown_cell cW4_3; have gc4 := grown_cell cW4_4; have gc5 := grown_cell cW4_5; have gf0 := grown_frozen fW4_0 zW4_1; have gf1 := grown_frozen fW4_1 zW4_1; have gz0 := grown_size zW4_0; have gz1 := grown_size zW4_1; have gz2 := grown_size zW4_2; refine wp_region_below_head 7 4 #[true, true, true, true, true, true, true, false, false, false, false] (by kernel_rfl) (by kernel_rfl) rfl ?_; (try simp only [List.take_succ_cons, List.take_zero]); (repeat (any_goals (first | go_big_quiet_step ((first | (go_at_call 45; exact Calls.regrown_of (below_any _ _)) | (go_at_call 42; exact Calls.regrown_of (SG.out _)))) | quiet_step ((first | (go_at_call 45; exact Calls.regrown_of (below_any _ _)) | (go_at_call 42; exact Calls.regrown_of (SG.out _))))))); refine wpQuiet_nil ?_; intro _ hw'; obtain ⟨⟨dq, osq⟩, hw''⟩ := hw'; subst hw''; have kW5 : (grow (redrawn W4 dq) osq).cell? ⟨w.heap.size, 0, none⟩ = some (.int .u64 (hiOf a)) ∧ (grow (redrawn W4 dq) osq).cell? ⟨w.heap.size, 1, none⟩ = some (.int .u64 (loOf a)) ∧ (grow (redrawn W4 dq) osq).cell? ⟨w.heap.size + 1, 0, none⟩ = some (.int .u64 0) ∧ (grow (redrawn W4 dq) osq).cell? ⟨w.heap.size + 1, 1, none⟩ = some (.int .u64 0) ∧ (grow (redrawn W4 dq) osq).cell? ⟨w3.heap.size, 0, none⟩ = some (.int .u64 (hiOf (q + 1))) ∧ (grow (redrawn W4 dq) osq).cell? ⟨w3.heap.size, 1, none⟩ = some (.int .u64 (loOf (q + 1))) ∧ (grow (redrawn W4 dq) osq).frozen? ⟨w.heap.size + 1, 0, none⟩ = false ∧ (grow (redrawn W4 dq) osq).frozen? ⟨w.heap.size + 1, 1, none⟩ = false ∧ w.heap.size < (grow (redrawn W4 dq) osq).heap.size ∧ w.heap.size + 1 < (grow (redrawn W4 dq) osq).heap.size ∧ w3.heap.size < (grow (redrawn W4 dq) osq).heap.size ∧ Below w.heap.size w (grow (redrawn W4 dq) osq) := ⟨gc0 dq osq, gc1 dq osq, gc2 dq osq, gc3 dq osq, gc4 dq osq, gc5 dq osq, gf0 dq osq, gf1 dq osq, gz0 dq osq, gz1 dq osq, gz2 dq osq, bW4.trans ((below_regrown W4 dq osq).mono bW4.size)⟩; clear gc0 gc1 gc2 gc3 gc4 gc5 gf0 gf1 gz0 gz1 gz2 cW4_0 cW4_1 cW4_2 cW4_3 cW4_4 cW4_5 fW4_0 fW4_1 zW4_0 zW4_1 zW4_2 bW4; generalize grow (redrawn W4 dq) osq = W5 at *; obtain ⟨cW5_0, cW5_1, cW5_2, cW5_3, cW5_4, cW5_5, fW5_0, fW5_1, zW5_0, zW5_1, zW5_2, bW5⟩ := kW5
      refine wpAny_take (i := 7) (v := .agg #[.int .u64 (hiOf z), .int .u64 (loOf z)]) rfl (by kernel_rfl) (by kernel_rfl) (by kernel_rfl) (fun _ _ _ h => h) (Or.inl ⟨by rfl, (by intro w; go_simp)⟩) ?_
      refine wpAny_take (i := 8) (v := .int .i64 0) rfl (by kernel_rfl) (by kernel_rfl) (by kernel_rfl) (fun _ _ _ h => h) (Or.inl ⟨by rfl, (by intro w; go_simp)⟩) ?_
      refine wpAny_ready (rs := [9]) (by kernel_rfl) (by simp) ?_; refine AllReady.cons rfl (fun K hK => ?_) AllReady.nil; go_simp; refine hK _ _ ?_; clear hK K
      refine wpAny_ready (rs := [10]) (by kernel_rfl) (by simp) ?_; refine AllReady.cons rfl (fun K hK => ?_) AllReady.nil; go_simp; refine hK _ _ ?_; clear hK K
      refine wpAny_done (by kernel_rfl) ?_ _
      go_wp2
      exact bodyPost_ret (v := .tuple #[.agg #[.int .u64 (hiOf z), .int .u64 (loOf z)], .int .i64 0]) (by simp [results, Tryz.results37, go_sem, *]) rfl ⟨rfl, (by repeat (first | exact Below.refl _ _ | refine Below.setCell ?_ (by first | (simp; done) | (simp; omega) | omega) _ | refine Below.alloc ?_ (by first | (simp; done) | (simp; omega) | omega) _ | refine Below.drew ?_ | assumption | refine Below.trans ?_ (Below.mono (by assumption) (by first | (simp; done) | (simp; omega) | omega))))⟩
  · rw [if_neg up] at hz
    have sg := fun W => signed_fits q ng hq z hz hin W
    have SG := Lib.hid sg
    have even : ¬ q % 2 = 1 → (loOf q % 2 == 1) = false := fun h => by rw [lo2]; simpa using h
    have dd : decide (d < 2 * r) = false := by simp; omega
    clear sg hz hq hq' lo2
    rcases (show (2 * r == d) = false ∨ (2 * r == d) = true ∧ (loOf q % 2 == 1) = false from by
      by_cases h : 2 * r = d
      · exact .inr ⟨by simp [h], even (fun k => up (.inr ⟨h, k⟩))⟩
      · exact .inl (by simp [h])) with h | ⟨h, k⟩
    all_goals
      have up2 : 2 * r ≤ d := by omega
      clear up even
      go_enter Tryz.func37, Tryz.ntmps37
      go_wp2_with (first | (go_at_call 41; refine (CW.out _).mono ?_; rintro e w1 ⟨rfl, hb1⟩; obtain ⟨hc1, hf1⟩ := bcell hb1; have hs1 := hb1.size; (try simp at hs1); have hz1 : w.heap.size < w1.heap.size ∧ w.heap.size + 1 < w1.heap.size := by have := hb1.size; (try simp at this); omega) | (go_at_call 43; refine (size_any _ HA.out _).mono ?_; rintro e w2 ⟨rfl, hb2⟩; obtain ⟨hc2, hf2⟩ := bcell hb2; have hs2 := hb2.size; (try simp at hs2); have hz2 : w.heap.size < w2.heap.size ∧ w.heap.size + 1 < w2.heap.size := by have := hb2.size; (try simp at this); omega) | (go_at_call 44; refine (CQ.out _).mono ?_; rintro e w3 ⟨rfl, hb3⟩; obtain ⟨hc3, hf3⟩ := bcell hb3; have hs3 := hb3.size; (try simp at hs3); have hz3 : w.heap.size < w3.heap.size ∧ w.heap.size + 1 < w3.heap.size := by have := hb3.size; (try simp at this); omega) | simp only [add64_0 (loOf q) 1 l1 (by decide)])
      refine name_world ?_; intro W4 hW4; have kW4 : W4.cell? ⟨w.heap.size, 0, none⟩ = some (.int .u64 (hiOf a)) ∧ W4.cell? ⟨w.heap.size, 1, none⟩ = some (.int .u64 (loOf a)) ∧ W4.cell? ⟨w.heap.size + 1, 0, none⟩ = some (.int .u64 0) ∧ W4.cell? ⟨w.heap.size + 1, 1, none⟩ = some (.int .u64 0) ∧ W4.cell? ⟨w3.heap.size, 0, none⟩ = some (.int .u64 (hiOf q)) ∧ W4.cell? ⟨w3.heap.size, 1, none⟩ = some (.int .u64 (loOf q)) ∧ W4.frozen? ⟨w.heap.size + 1, 0, none⟩ = false ∧ W4.frozen? ⟨w.heap.size + 1, 1, none⟩ = false ∧ w.heap.size < W4.heap.size ∧ w.heap.size + 1 < W4.heap.size ∧ w3.heap.size < W4.heap.size ∧ Below w.heap.size w W4 := by { rw [hW4]; exact (by refine ⟨?_, ?_, ?_, ?_, ?_, ?_, ?_, ?_, ?_, ?_, ?_, ?_⟩ <;> first | (simp [go_sem, *]; done) | omega | (simp; omega) | exact (by repeat (first | exact Below.refl _ _ | refine Below.setCell ?_ (by first | (simp; done) | (simp; omega) | omega) _ | refine Below.alloc ?_ (by first | (simp; done) | (simp; omega) | omega) _ | refine Below.drew ?_ | assumption | refine Below.trans ?_ (Below.mono (by assumption) (by first | (simp; done) | (simp; omega) | omega))))) }; clear hW4; obtain ⟨cW4_0, cW4_1, cW4_2, cW4_3, cW4_4, cW4_5, fW4_0, fW4_1, zW4_0, zW4_1, zW4_2, bW4⟩ := kW4
      have gc0 := grown_cell cW4_0; have gc1 := grown_cell cW4_1; have gc2 := grown_cell cW4_2; have gc3 := grown_cell cW4_3; have gc4 := grown_cell cW4_4; have gc5 := grown_cell cW4_5; have gf0 := grown_frozen fW4_0 zW4_1; have gf1 := grown_frozen fW4_1 zW4_1; have gz0 := grown_size zW4_0; have gz1 := grown_size zW4_1; have gz2 := grown_size zW4_2; refine wp_region_below_head 7 4 #[true, true, true, true, true, true, true, false, false, false, false] (by kernel_rfl) (by kernel_rfl) rfl ?_; (try simp only [List.take_succ_cons, List.take_zero]); (repeat (any_goals (first | go_big_quiet_step ((first | (go_at_call 45; exact Calls.regrown_of (below_any _ _)) | (go_at_call 42; exact Calls.regrown_of (SG.out _)))) | quiet_step ((first | (go_at_call 45; exact Calls.regrown_of (below_any _ _)) | (go_at_call 42; exact Calls.regrown_of (SG.out _))))))); refine wpQuiet_nil ?_; intro _ hw'; obtain ⟨⟨dq, osq⟩, hw''⟩ := hw'; subst hw''; have kW5 : (grow (redrawn W4 dq) osq).cell? ⟨w.heap.size, 0, none⟩ = some (.int .u64 (hiOf a)) ∧ (grow (redrawn W4 dq) osq).cell? ⟨w.heap.size, 1, none⟩ = some (.int .u64 (loOf a)) ∧ (grow (redrawn W4 dq) osq).cell? ⟨w.heap.size + 1, 0, none⟩ = some (.int .u64 0) ∧ (grow (redrawn W4 dq) osq).cell? ⟨w.heap.size + 1, 1, none⟩ = some (.int .u64 0) ∧ (grow (redrawn W4 dq) osq).cell? ⟨w3.heap.size, 0, none⟩ = some (.int .u64 (hiOf q)) ∧ (grow (redrawn W4 dq) osq).cell? ⟨w3.heap.size, 1, none⟩ = some (.int .u64 (loOf q)) ∧ (grow (redrawn W4 dq) osq).frozen? ⟨w.heap.size + 1, 0, none⟩ = false ∧ (grow (redrawn W4 dq) osq).frozen? ⟨w.heap.size + 1, 1, none⟩ = false ∧ w.heap.size < (grow (redrawn W4 dq) osq).heap.size ∧ w.heap.size + 1 < (grow (redrawn W4 dq) osq).heap.size ∧ w3.heap.size < (grow (redrawn W4 dq) osq).heap.size ∧ Below w.heap.size w (grow (redrawn W4 dq) osq) := ⟨gc0 dq osq, gc1 dq osq, gc2 dq osq, gc3 dq osq, gc4 dq osq, gc5 dq osq, gf0 dq osq, gf1 dq osq, gz0 dq osq, gz1 dq osq, gz2 dq osq, bW4.trans ((below_regrown W4 dq osq).mono bW4.size)⟩; clear gc0 gc1 gc2 gc3 gc4 gc5 gf0 gf1 gz0 gz1 gz2 cW4_0 cW4_1 cW4_2 cW4_3 cW4_4 cW4_5 fW4_0 fW4_1 zW4_0 zW4_1 zW4_2 bW4; generalize grow (redrawn W4 dq) osq = W5 at *; obtain ⟨cW5_0, cW5_1, cW5_2, cW5_3, cW5_4, cW5_5, fW5_0, fW5_1, zW5_0, zW5_1, zW5_2, bW5⟩ := kW5
      refine wpAny_take (i := 7) (v := .agg #[.int .u64 (hiOf z), .int .u64 (loOf z)]) rfl (by kernel_rfl) (by kernel_rfl) (by kernel_rfl) (fun _ _ _ h => h) (Or.inl ⟨by rfl, (by intro w; go_simp)⟩) ?_
      refine wpAny_take (i := 8) (v := .int .i64 0) rfl (by kernel_rfl) (by kernel_rfl) (by kernel_rfl) (fun _ _ _ h => h) (Or.inl ⟨by rfl, (by intro w; go_simp)⟩) ?_
      refine wpAny_ready (rs := [9]) (by kernel_rfl) (by simp) ?_; refine AllReady.cons rfl (fun K hK => ?_) AllReady.nil; go_simp; refine hK _ _ ?_; clear hK K
      refine wpAny_ready (rs := [10]) (by kernel_rfl) (by simp) ?_; refine AllReady.cons rfl (fun K hK => ?_) AllReady.nil; go_simp; refine hK _ _ ?_; clear hK K
      refine wpAny_done (by kernel_rfl) ?_ _
      go_wp2
      exact bodyPost_ret (v := .tuple #[.agg #[.int .u64 (hiOf z), .int .u64 (loOf z)], .int .i64 0]) (by simp [results, Tryz.results37, go_sem, *]) rfl ⟨rfl, (by repeat (first | exact Below.refl _ _ | refine Below.setCell ?_ (by first | (simp; done) | (simp; omega) | omega) _ | refine Below.alloc ?_ (by first | (simp; done) | (simp; omega) | omega) _ | refine Below.drew ?_ | assumption | refine Below.trans ?_ (Below.mono (by assumption) (by first | (simp; done) | (simp; omega) | omega))))⟩

theorem rheA_bd (s d : Int) (h0 : 0 ≤ s) (hd : 0 < d) : 0 ≤ rheA s d ∧ (rheA s d ≤ s ∨ d = 1 ∧ rheA s d = s) := by
  have a := Int.ediv_nonneg h0 (show 0 ≤ d by omega)
  have b := Int.ediv_le_self d h0
  have r0 := Int.emod_nonneg s (show d ≠ 0 by omega)
  have r1 := Int.emod_lt_of_pos s hd
  have e := Int.emod_def s d
  unfold rheA
  split
  · rename_i h
    refine ⟨by omega, ?_⟩
    by_cases h1 : d = 1
    · subst h1; omega
    · left
      have : 2 * (s / d) ≤ d * (s / d) := Int.mul_le_mul_of_nonneg_right (by omega) a
      omega
  · exact ⟨a, .inl b⟩

/-- wide.Int.DivEven, by a divisor above 0. -/
theorem divEven_any (a d : Int) (ha : In128 a) (hd : In64 d) (h0 : 0 < d) (w : World) :
    Calls Tryz.prog 37 #[.agg #[.int .u64 (hiOf a), .int .u64 (loOf a)], .int .i64 d] w fun e w' => e = .returned (.tuple #[.agg #[.int .u64 (hiOf (rhe a d)), .int .u64 (loOf (rhe a d))], .int .i64 0]) ∧ Below w.heap.size w w' := by
  have hn := negW_eq a ha
  by_cases h : a < 0
  · have e : absI a = -a := by unfold absI; rw [if_pos h]
    have b := rheA_bd (-a) d (by omega) h0
    refine even_core a d true ha hd h0 (by rw [hn]; simpa using h) w _ (by rw [e]; unfold rhe; rw [if_pos h]; rfl) ?_
    unfold rhe; rw [if_pos h]; unfold In128 at *; omega
  · have e : absI a = a := by unfold absI; rw [if_neg h]
    have b := rheA_bd a d (by omega) h0
    refine even_core a d false ha hd h0 (by rw [hn]; simpa using h) w _ (by rw [e]; unfold rhe; rw [if_neg h]; rfl) ?_
    unfold rhe; rw [if_neg h]; unfold In128 at *; omega
end Go.Proofs.YtakfjdnpfhcgkaaGreatDoor
