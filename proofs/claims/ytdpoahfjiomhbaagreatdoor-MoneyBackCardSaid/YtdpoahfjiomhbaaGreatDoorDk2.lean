/-
  Contracts of wide.size.quo and wide.Int.DivEven.
-/
import Derived.Test.YtdpoahfjiomhbaaGreatDoorWk4
import Derived.Test.YtdpoahfjiomhbaaGreatDoorDk
import Derived.Test.YtdpoahfjiomhbaaGreatDoorQh
namespace Go.Proofs.YtdpoahfjiomhbaaGreatDoor
set_option linter.all false
open Go.RowKit Go.Sort
attribute [local go_sem] cell_set_self lt_1 lt_2 lt_3 lt_4 lt_5 lt_6

/-- math/bits.Div64, of a high word below the divisor. -/
theorem div64_any (hi lo y : Int) (h0 : 0 ≤ hi) (h1 : hi < y) (hy : y < 18446744073709551616) (l0 : 0 ≤ lo) (l1 : lo < 18446744073709551616) (w : World) :
    Calls Tryz.prog 144 #[.int .u64 hi, .int .u64 lo, .int .u64 y] w fun e w' => e = .returned (.tuple #[.int .u64 ((hi * 18446744073709551616 + lo) / y), .int .u64 ((hi * 18446744073709551616 + lo) % y)]) ∧ Below w.heap.size w w' := by
  by_cases hz : hi = 0
  · subst hz
    refine (div64_low lo y h1 hy l0 l1 w).mono ?_
    rintro e w' ⟨rfl, n, rfl⟩
    exact ⟨by simp, ⟨rfl, rfl, rfl, Nat.le_refl _, fun _ _ => rfl⟩⟩
  · refine (div64_high hi lo y (by omega) h1 hy l0 l1 w).mono ?_
    rintro e w' ⟨rfl, rfl⟩
    exact ⟨rfl, Below.refl _ _⟩

/-- wide.size.quo. -/
theorem quo_any (s d : Int) (hs : Sz128 s) (h0 : 0 < d) (h1 : d < 18446744073709551616) (w : World) :
    Calls Tryz.prog 119 #[.agg #[.int .u64 (hiOf s), .int .u64 (loOf s)], .int .u64 d] w fun e w' => e = .returned (.tuple #[.agg #[.int .u64 (hiOf (s / d)), .int .u64 (loOf (s / d))], .int .u64 (s % d)]) ∧ Below w.heap.size w w' := by
  obtain ⟨a1, a2⟩ := hiOf_word s
  obtain ⟨b1, b2⟩ := loOf_word s
  have hw := sz_words s hs
  have es : s = hiOf s * 18446744073709551616 + loOf s := by rw [hw.1, hw.2]; omega
  obtain ⟨t1, t2⟩ := two_words d (hiOf s) (loOf s) h0
  rw [← es] at t1 t2
  clear hw
  have r0 : 0 ≤ hiOf s % d := Int.emod_nonneg _ (by omega)
  have r1 : hiOf s % d < d := Int.emod_lt_of_pos _ h0
  have q0 : 0 ≤ hiOf s / d := Int.ediv_nonneg a1 (by omega)
  have q1 : hiOf s / d < 18446744073709551616 := by have := Int.ediv_le_self d a1; omega
  have k0 : 0 ≤ (hiOf s % d * 18446744073709551616 + loOf s) / d := Int.ediv_nonneg (by omega) (by omega)
  have k1 : (hiOf s % d * 18446744073709551616 + loOf s) / d < 18446744073709551616 := Int.ediv_lt_of_lt_mul h0 (by omega)
  have e1 : hiOf (s / d) = hiOf s / d := by rw [t1]; unfold hiOf at *; omega
  have e2 : loOf (s / d) = (hiOf s % d * 18446744073709551616 + loOf s) / d := by rw [t1]; unfold loOf at *; omega
  have d0 : (d == 0) = false := by simp; omega
  have E1 := Lib.hid e1; have E2 := Lib.hid e2; have T2 := Lib.hid t2
  clear e1 e2 t1 t2 es
  go_enter Tryz.func119, Tryz.ntmps119
  go_wp2
  refine name_world ?_; intro W1 hW1; have kW1 : W1.cell? ⟨w.heap.size, 0, none⟩ = some (.int .u64 (hiOf s)) ∧ W1.cell? ⟨w.heap.size, 1, none⟩ = some (.int .u64 (loOf s)) ∧ W1.cell? ⟨w.heap.size + 1, 0, none⟩ = some (.int .u64 0) ∧ W1.cell? ⟨w.heap.size + 1, 1, none⟩ = some (.int .u64 0) ∧ W1.frozen? ⟨w.heap.size + 1, 0, none⟩ = false ∧ W1.frozen? ⟨w.heap.size + 1, 1, none⟩ = false ∧ w.heap.size < W1.heap.size ∧ w.heap.size + 1 < W1.heap.size ∧ Below w.heap.size w W1 := by { rw [hW1]; exact (by refine ⟨?_, ?_, ?_, ?_, ?_, ?_, ?_, ?_, ?_⟩ <;> first | (simp [go_sem, *]; done) | omega | (simp; omega) | exact (by repeat (first | exact Below.refl _ _ | refine Below.setCell ?_ (by first | (simp; done) | (simp; omega) | omega) _ | refine Below.alloc ?_ (by first | (simp; done) | (simp; omega) | omega) _ | refine Below.drew ?_ | assumption | refine Below.trans ?_ (Below.mono (by assumption) (by first | (simp; done) | (simp; omega) | omega))))) }; clear hW1; obtain ⟨cW1_0, cW1_1, cW1_2, cW1_3, fW1_0, fW1_1, zW1_0, zW1_1, bW1⟩ := kW1
  have gc0 := grown_cell cW1_0; have gc1 := grown_cell cW1_1; have gc2 := grown_cell cW1_2; have gc3 := grown_cell cW1_3; have gf0 := grown_frozen fW1_0 zW1_1; have gf1 := grown_frozen fW1_1 zW1_1; have gz0 := grown_size zW1_0; have gz1 := grown_size zW1_1; refine wp_region_quiet_below (by kernel_rfl) (by kernel_rfl) ?_; (try simp only [List.take_succ_cons, List.take_zero]); (repeat (any_goals (first | go_big_quiet_step ((fail)) | quiet_step ((fail))))); refine wpQuiet_nil ?_; intro _ hw'; obtain ⟨⟨dq, osq⟩, hw''⟩ := hw'; subst hw''; have kW2 : (grow (redrawn W1 dq) osq).cell? ⟨w.heap.size, 0, none⟩ = some (.int .u64 (hiOf s)) ∧ (grow (redrawn W1 dq) osq).cell? ⟨w.heap.size, 1, none⟩ = some (.int .u64 (loOf s)) ∧ (grow (redrawn W1 dq) osq).cell? ⟨w.heap.size + 1, 0, none⟩ = some (.int .u64 0) ∧ (grow (redrawn W1 dq) osq).cell? ⟨w.heap.size + 1, 1, none⟩ = some (.int .u64 0) ∧ (grow (redrawn W1 dq) osq).frozen? ⟨w.heap.size + 1, 0, none⟩ = false ∧ (grow (redrawn W1 dq) osq).frozen? ⟨w.heap.size + 1, 1, none⟩ = false ∧ w.heap.size < (grow (redrawn W1 dq) osq).heap.size ∧ w.heap.size + 1 < (grow (redrawn W1 dq) osq).heap.size ∧ Below w.heap.size w (grow (redrawn W1 dq) osq) := ⟨gc0 dq osq, gc1 dq osq, gc2 dq osq, gc3 dq osq, gf0 dq osq, gf1 dq osq, gz0 dq osq, gz1 dq osq, bW1.trans ((below_regrown W1 dq osq).mono bW1.size)⟩; clear gc0 gc1 gc2 gc3 gf0 gf1 gz0 gz1 cW1_0 cW1_1 cW1_2 cW1_3 fW1_0 fW1_1 zW1_0 zW1_1 bW1; generalize grow (redrawn W1 dq) osq = W2 at *; obtain ⟨cW2_0, cW2_1, cW2_2, cW2_3, fW2_0, fW2_1, zW2_0, zW2_1, bW2⟩ := kW2
  go_wp2_with (first | (go_at_call 144; refine (div64_any _ _ _ r0 r1 h1 b1 b2 _).mono ?_; rintro e w3 ⟨rfl, hb3⟩; obtain ⟨hc3, hf3⟩ := bcell hb3; have hs3 := hb3.size; (try simp at hs3); have hz3 : w.heap.size < w3.heap.size ∧ w.heap.size + 1 < w3.heap.size := by have := hb3.size; (try simp at this); omega))
  rw [← E1.out, ← E2.out, ← T2.out]
  exact bodyPost_ret (v := .tuple #[.agg #[.int .u64 (hiOf (s / d)), .int .u64 (loOf (s / d))], .int .u64 (s % d)]) (by simp [results, Tryz.results119, go_sem, *]) rfl ⟨rfl, (by repeat (first | exact Below.refl _ _ | refine Below.setCell ?_ (by first | (simp; done) | (simp; omega) | omega) _ | refine Below.alloc ?_ (by first | (simp; done) | (simp; omega) | omega) _ | refine Below.drew ?_ | assumption | refine Below.trans ?_ (Below.mono (by assumption) (by first | (simp; done) | (simp; omega) | omega))))⟩
end Go.Proofs.YtdpoahfjiomhbaaGreatDoor
