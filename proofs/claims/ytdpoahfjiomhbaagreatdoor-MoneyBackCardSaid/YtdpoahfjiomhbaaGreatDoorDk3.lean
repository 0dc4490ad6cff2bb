/-
  Contract of wide.Int.DivEven.
-/
import Derived.Test.YtdpoahfjiomhbaaGreatDoorWk4
import Derived.Test.YtdpoahfjiomhbaaGreatDoorDk2
import Derived.Test.YtdpoahfjiomhbaaGreatDoorQh
namespace Go.Proofs.YtdpoahfjiomhbaaGreatDoor
set_option linter.all false
open Go.RowKit Go.Sort
attribute [local go_sem] cell_set_self lt_1 lt_2 lt_3 lt_4 lt_5 lt_6


set_option maxHeartbeats 1000000 in
/-- wide.Int.DivEven's last steps, whatever the sign. -/
theorem even_core (a d : Int) (ng : Bool) (ha : In128 a) (hd : In64 d) (h0 : 0 < d) (hn : negW a = ng) (w : World) (z : Int) (hz : z = if ng then -(rheA (absI a) d) else rheA (absI a) d) (hin : In128 z) :
    Calls Tryz.prog 89 #[.agg #[.int .u64 (hiOf a), .int .u64 (loOf a)], .int .i64 d] w fun e w' => e = .returned (.tuple #[.agg #[.int .u64 (hiOf z), .int .u64 (loOf z)], .int .i64 0]) ∧ Below w.heap.size w w' := by
  have habs : 0 ≤ absI a ∧ absI a ≤ 170141183460469231731687303715884105728 := by unfold In128 at ha; unfold absI; split <;> omega
  have hsz : Sz128 (absI a) := by unfold Sz128; omega
  have hd2 : absI d = d := by unfold absI; rw [if_neg (by omega)]
  have hd1 : d < 9223372036854775808 := hd.2
  obtain ⟨r, er⟩ : ∃ r, absI a % d = r := ⟨_, rfl⟩
  obtain ⟨q, eq⟩ : ∃ q, absI a / d = q := ⟨_, rfl⟩
  have r0 : 0 ≤ r := by rw [← er]; exact Int.emod_nonneg _ (by omega)
  have r1 : r < d := by rw [← er]; exact Int.emod_lt_of_pos _ h0
  have q0 : 0 ≤ q := by rw [← eq]; exact Int.ediv_nonneg habs.1 (by omega)
  have q1 : q ≤ 170141183460469231731687303715884105728 := by rw [← eq]; have := Int.ediv_le_self d habs.1; omega
  have cw := fun W => wordOf_any d hd W
  rw [hd2] at cw
  have cq := fun W => quo_any (absI a) d hsz h0 (by omega) W
  rw [er, eq] at cq
  have CW := Lib.hid cw; have CQ := Lib.hid cq
  have HA := Lib.hid ha
  have hq : Sz128 q := by unfold Sz128; omega
  have hq' : Sz128 (q + 1) := by unfold Sz128; omega
  have lo2 : loOf q % 2 = q % 2 := by unfold loOf; omega
  unfold rheA at hz
  rw [er, eq] at hz
  have d0 : (d == 0) = false := by simp; omega
  have dl : decide (d < 0) = false := by simp; omega
  obtain ⟨l1, l2⟩ := loOf_word q
  obtain ⟨m1, m2⟩ := hiOf_word q
  clear cw cq er eq hd habs hsz hd2
  by_cases up : d < 2 * r ∨ (2 * r = d ∧ q % 2 = 1)
  · rw [if_pos up] at hz
    have sg := fun W => signed_fits (q + 1) ng hq' z hz hin W
    have SG := Lib.hid sg
    have e1 : (loOf q + 1) % 18446744073709551616 = loOf (q + 1) := by unfold loOf; omega
    have e2 : IntKind.u64.wrap (hiOf q + (loOf q + 1) / 18446744073709551616) = hiOf (q + 1) := by rw [IntKind.wrap_u64]; unfold hiOf loOf; omega
    have E1 := Lib.hid e1; have E2 := Lib.hid e2
    have odd : q % 2 = 1 → (loOf q % 2 == 1) = true := fun h => by rw [lo2, h]; rfl
    clear sg hz hq hq' e1 e2 lo2
    rcases (show d < 2 * r ∨ (2 * r == d) = true ∧ (loOf q % 2 == 1) = true ∧ decide (d < 2 * r) = false ∧ 2 * r ≤ d from by rcases up with h | ⟨h, k⟩; exact .inl h; exact .inr ⟨by simp [h], odd k, by simp; omega, by omega⟩) with h | ⟨h, k, k2, k3⟩
    all_goals
      clear up odd
      go_enter Tryz.func89, Tryz.ntmps89
      go_wp2_with (first | (go_at_call 116; refine (CW.out _).mono ?_; rintro e w1 ⟨rfl, hb1⟩; obtain ⟨hc1, hf1⟩ := bcell hb1; have hs1 := hb1.size; (try simp at hs1); have hz1 : w.heap.size < w1.heap.size ∧ w.heap.size + 1 < w1.heap.size := by have := hb1.size; (try simp at this); omega) | (go_at_call 118; refine (size_any _ HA.out _).mono ?_; rintro e w2 ⟨rfl, hb2⟩; obtain ⟨hc2, hf2⟩ := bcell hb2; have hs2 := hb2.size; (try simp at hs2); have hz2 : w.heap.size < w2.heap.size ∧ w.heap.size + 1 < w2.heap.size := by have := hb2.size; (try simp at this); omega) | (go_at_call 119; refine (CQ.out _).mono ?_; rintro e w3 ⟨rfl, hb3⟩; obtain ⟨hc3, hf3⟩ := bcell hb3; have hs3 := hb3.size; (try simp at hs3); have hz3 : w.heap.size < w3.heap.size ∧ w.heap.size + 1 < w3.heap.size := by have := hb3.size; (try simp at this); omega) | simp only [add64_0 (loOf q) 1 l1 (by decide)])
      rw [E1.out, E2.out]
      refine name_world ?_; intro W4 hW4; have kW4 : W4.cell? ⟨w.heap.size, 0, none⟩ = some (.int .u64 (hiOf a)) ∧ W4.cell? ⟨w.heap.size, 1, none⟩ = some (.int .u64 (loOf a)) ∧ W4.cell? ⟨w.heap.size + 1, 0, none⟩ = some (.int .u64 0) ∧ W4.cell? ⟨w.heap.size + 1, 1, none⟩ = some (.int .u64 0) ∧ W4.cell? ⟨w3.heap.size, 0, none⟩ = some (.int .u64 (hiOf (q + 1))) ∧ W4.cell? ⟨w3.heap.size, 1, none⟩ = some (.int .u64 (loOf (q + 1))) ∧ W4.frozen? ⟨w.heap.size + 1, 0, none⟩ = false ∧ W4.frozen? ⟨w.heap.size + 1, 1, none⟩ = false ∧ w.heap.size < W4.heap.size ∧ w.heap.size + 1 < W4.heap.size ∧ w3.heap.size < W4.heap.size ∧ Below w.heap.size w W4 := by { rw [hW4]; exact (by refine ⟨?_, ?_, ?_, ?_, ?_, ?_, ?_, ?_, ?_, ?_, ?_, ?_⟩ <;> first | (simp [go_sem, *]; done) | omega | (simp; omega) | exact (by repeat (first | exact Below.refl _ _ | refine Below.setCell ?_ (by first | (simp; done) | (simp; omega) | omega) _ | refine Below.alloc ?_ (by first | (simp; done) | (simp; omega) | omega) _ | refine Below.drew ?_ | assumption | refine Below.trans ?_ (Below.mono (by assumption) (by first | (simp; done) | (simp; omega) | omega))))) }; clear hW4; obtain ⟨cW4_0, cW4_1, cW4_2, cW4_3, cW4_4, cW4_5, fW4_0, fW4_1, zW4_0, zW4_1, zW4_2, bW4⟩ := kW4
      have gc0 := grown_cell cW4_0; have gc1 := grown_cell cW4_1; have gc2 := grown_cell cW4_2; have gc3 := grown_cell cW4_3; have gc4 := grown_cell cW4_4; have gc5 := grown_cell cW4_5; have gf0 := grown_frozen fW4_0 zW4_1; have gf1 := grown_frozen fW4_1 zW4_1; have gz0 := grown_size zW4_0; have gz1 := grown_size zW4_1; have gz2 := grown_size zW4_2; refine wp_region_below_head 7 4 #[true, true, true, true, true, true, true, false, false, false, false] (by kernel_rfl) (by kernel_rfl) rfl ?_; (try simp only [List.take_succ_cons, List.take_zero]); (repeat (any_goals (first | go_big_quiet_step ((first | (go_at_call 120; exact Calls.regrown_of (below_any _ _)) | (go_at_call 117; exact Calls.regrown_of (SG.out _)))) | quiet_step ((first | (go_at_call 120; exact Calls.regrown_of (below_any _ _)) | (go_at_call 117; exact Calls.regrown_of (SG.out _))))))); refine wpQuiet_nil ?_; intro _ hw'; obtain ⟨⟨dq, osq⟩, hw''⟩ := hw'; subst hw''; have kW5 : (grow (redrawn W4 dq) osq).cell? ⟨w.heap.size, 0, none⟩ = some (.int .u64 (hiOf a)) ∧ (grow (redrawn W4 dq) osq).cell? ⟨w.heap.size, 1, none⟩ = some (.int .u64 (loOf a)) ∧ (grow (redrawn W4 dq) osq).cell? ⟨w.heap.size + 1, 0, none⟩ = some (.int .u64 0) ∧ (grow (redrawn W4 dq) osq).cell? ⟨w.heap.size + 1, 1, none⟩ = some (.int .u64 0) ∧ (grow (redrawn W4 dq) osq).cell? ⟨w3.heap.size, 0, none⟩ = some (.int .u64 (hiOf (q + 1))) ∧ (grow (redrawn W4 dq) osq).cell? ⟨w3.heap.size, 1, none⟩ = some (.int .u64 (loOf (q + 1))) ∧ (grow (redrawn W4 dq) osq).frozen? ⟨w.heap.size + 1, 0, none⟩ = false ∧ (grow (redrawn W4 dq) osq).frozen? ⟨w.heap.size + 1, 1, none⟩ = false ∧ w.heap.size < (grow (redrawn W4 dq) osq).heap.size ∧ w.heap.size + 1 < (grow (redrawn W4 dq) osq).heap.size ∧ w3.heap.size < (grow (redrawn W4 dq) osq).heap.size ∧ Below w.heap.size w (grow (redrawn W4 dq) osq) := ⟨gc0 dq osq, gc1 dq osq, gc2 dq osq, gc3 dq osq, gc4 dq osq, gc5 dq osq, gf0 dq osq, gf1 dq osq, gz0 dq osq, gz1 dq osq, gz2 dq osq, bW4.trans ((below_regrown W4 dq osq).mono bW4.size)⟩; clear gc0 gc1 gc2 gc3 gc4 gc5 gf0 gf1 gz0 gz1 gz2 cW4_0 cW4_1 cW4_2 cW4_3 cW4_4 cW4_5 fW4_0 fW4_1 zW4_0 zW4_1 zW4_2 bW4; generalize grow (redrawn W4 dq) osq = W5 at *; obtain ⟨cW5_0, cW5_1, cW5_2, cW5_3, cW5_4, cW5_5, fW5_0, fW5_1, zW5_0, zW5_1, zW5_2, bW5⟩ := kW5
      refine wpAny_take (i := 7) (v := .agg #[.int .u64 (hiOf z), .int .u64 (loOf z)]) rfl (by kernel_rfl) (by kernel_rfl) (by kernel_rfl) (fun _ _ _ h => h) (Or.inl ⟨by rfl, (by intro w; go_simp)⟩) ?_
      refine wpAny_take (i := 8) (v := .int .i64 0) rfl (by kernel_rfl) (by kernel_rfl) (by kernel_rfl) (fun _ _ _ h => h) (Or.inl ⟨by rfl, (by intro w; go_simp)⟩) ?_
      refine wpAny_ready (rs := [9]) (by kernel_rfl) (by simp) ?_; refine AllReady.cons rfl (fun K hK => ?_) AllReady.nil; go_simp; refine hK _ _ ?_; clear hK K
      refine wpAny_ready (rs := [10]) (by kernel_rfl) (by simp) ?_; refine AllReady.cons rfl (fun K hK => ?_) AllReady.nil; go_simp; refine hK _ _ ?_; clear hK K
      refine wpAny_done (by kernel_rfl) ?_ _
      go_wp2
      exact bodyPost_ret (v := .tuple #[.agg #[.int .u64 (hiOf z), .int .u64 (loOf z)], .int .i64 0]) (by simp [results, Tryz.results89, go_sem, *]) rfl ⟨rfl, (by repeat (first | exact Below.refl _ _ | refine Below.setCell ?_ (by first | (simp; done) | (simp; omega) | omega) _ | refine Below.alloc ?_ (by first | (simp; done) | (simp; omega) | omega) _ | refine Below.drew ?_ | assumption | refine Below.trans ?_ (Below.mono (by assumption) (by first | (simp; done) | (simp; omega) | omega))))⟩
  · rw [if_neg up] at hz
    have sg := fun W => signed_fits q ng hq z hz hin W
    have SG := Lib.hid sg
    have even : ¬ q % 2 = 1 → (loOf q % 2 == 1) = false := fun h => by rw [lo2]; simpa using h
    have dd : decide (d < 2 * r) = false := by simp; omega
    clear sg hz hq hq' lo2
    rcases (show (2 * r == d) = false ∨ (2 * r == d) = true ∧ (loOf q % 2 == 1) = false from by
      by_cases h : 2 * r = d
      · exact .inr ⟨by simp [h], even (fun k => up (.inr ⟨h, k⟩))⟩
      · exact .inl (by simp [h])) with h | ⟨h, k⟩
    all_goals
      have up2 : 2 * r ≤ d := by omega
      clear up even
      go_enter Tryz.func89, Tryz.ntmps89
      go_wp2_with (first | (go_at_call 116; refine (CW.out _).mono ?_; rintro e w1 ⟨rfl, hb1⟩; obtain ⟨hc1, hf1⟩ := bcell hb1; have hs1 := hb1.size; (try simp at hs1); have hz1 : w.heap.size < w1.heap.size ∧ w.heap.size + 1 < w1.heap.size := by have := hb1.size; (try simp at this); omega) | (go_at_call 118; refine (size_any _ HA.out _).mono ?_; rintro e w2 ⟨rfl, hb2⟩; obtain ⟨hc2, hf2⟩ := bcell hb2; have hs2 := hb2.size; (try simp at hs2); have hz2 : w.heap.size < w2.heap.size ∧ w.heap.size + 1 < w2.heap.size := by have := hb2.size; (try simp at this); omega) | (go_at_call 119; refine (CQ.out _).mono ?_; rintro e w3 ⟨rfl, hb3⟩; obtain ⟨hc3, hf3⟩ := bcell hb3; have hs3 := hb3.size; (try simp at hs3); have hz3 : w.heap.size < w3.heap.size ∧ w.heap.size + 1 < w3.heap.size := by have := hb3.size; (try simp at this); omega) | simp only [add64_0 (loOf q) 1 l1 (by decide)])
      refine name_world ?_; intro W4 hW4; have kW4 : W4.cell? ⟨w.heap.size, 0, none⟩ = some (.int .u64 (hiOf a)) ∧ W4.cell? ⟨w.heap.size, 1, none⟩ = some (.int .u64 (loOf a)) ∧ W4.cell? ⟨w.heap.size + 1, 0, none⟩ = some (.int .u64 0) ∧ W4.cell? ⟨w.heap.size + 1, 1, none⟩ = some (.int .u64 0) ∧ W4.cell? ⟨w3.heap.size, 0, none⟩ = some (.int .u64 (hiOf q)) ∧ W4.cell? ⟨w3.heap.size, 1, none⟩ = some (.int .u64 (loOf q)) ∧ W4.frozen? ⟨w.heap.size + 1, 0, none⟩ = false ∧ W4.frozen? ⟨w.heap.size + 1, 1, none⟩ = false ∧ w.heap.size < W4.heap.size ∧ w.heap.size + 1 < W4.heap.size ∧ w3.heap.size < W4.heap.size ∧ Below w.heap.size w W4 := by { rw [hW4]; exact (by refine ⟨?_, ?_, ?_, ?_, ?_, ?_, ?_, ?_, ?_, ?_, ?_, ?_⟩ <;> first | (simp [go_sem, *]; done) | omega | (simp; omega) | exact (by repeat (first | exact Below.refl _ _ | refine Below.setCell ?_ (by first | (simp; done) | (simp; omega) | omega) _ | refine Below.alloc ?_ (by first | (simp; done) | (simp; omega) | omega) _ | refine Below.drew ?_ | assumption | refine Below.trans ?_ (Below.mono (by assumption) (by first | (simp; done) | (simp; omega) | omega))))) }; clear hW4; obtain ⟨cW4_0, cW4_1, cW4_2, cW4_3, cW4_4, cW4_5, fW4_0, fW4_1, zW4_0, zW4_1, zW4_2, bW4⟩ := kW4
      have gc0 := grown_cell cW4_0; have gc1 := grown_cell cW4_1; have gc2 := grown_cell cW4_2; have gc3 := grown_cell cW4_3; have gc4 := grown_cell cW4_4; have gc5 := grown_cell cW4_5; have gf0 := grown_frozen fW4_0 zW4_1; have gf1 := grown_frozen fW4_1 zW4_1; have gz0 := grown_size zW4_0; have gz1 := grown_size zW4_1; have gz2 := grown_size zW4_2; refine wp_region_below_head 7 4 #[true, true, true, true, true, true, true, false, false, false, false] (by kernel_rfl) (by kernel_rfl) rfl ?_; (try simp only [List.take_succ_cons, List.take_zero]); (repeat (any_goals (first | go_big_quiet_step ((first | (go_at_call 120; exact Calls.regrown_of (below_any _ _)) | (go_at_call 117; exact Calls.regrown_of (SG.out _)))) | quiet_step ((first | (go_at_call 120; exact Calls.regrown_of (below_any _ _)) | (go_at_call 117; exact Calls.regrown_of (SG.out _))))))); refine wpQuiet_nil ?_; intro _ hw'; obtain ⟨⟨dq, osq⟩, hw''⟩ := hw'; subst hw''; have kW5 : (grow (redrawn W4 dq) osq).cell? ⟨w.heap.size, 0, none⟩ = some (.int .u64 (hiOf a)) ∧ (grow (redrawn W4 dq) osq).cell? ⟨w.heap.size, 1, none⟩ = some (.int .u64 (loOf a)) ∧ (grow (redrawn W4 dq) osq).cell? ⟨w.heap.size + 1, 0, none⟩ = some (.int .u64 0) ∧ (grow (redrawn W4 dq) osq).cell? ⟨w.heap.size + 1, 1, none⟩ = some (.int .u64 0) ∧ (grow (redrawn W4 dq) osq).cell? ⟨w3.heap.size, 0, none⟩ = some (.int .u64 (hiOf q)) ∧ (grow (redrawn W4 dq) osq).cell? ⟨w3.heap.size, 1, none⟩ = some (.int .u64 (loOf q)) ∧ (grow (redrawn W4 dq) osq).frozen? ⟨w.heap.size + 1, 0, none⟩ = false ∧ (grow (redrawn W4 dq) osq).frozen? ⟨w.heap.size + 1, 1, none⟩ = false ∧ w.heap.size < (grow (redrawn W4 dq) osq).heap.size ∧ w.heap.size + 1 < (grow (redrawn W4 dq) osq).heap.size ∧ w3.heap.size < (grow (redrawn W4 dq) osq).heap.size ∧ Below w.heap.size w (grow (redrawn W4 dq) osq) := ⟨gc0 dq osq, gc1 dq osq, gc2 dq osq, gc3 dq osq, gc4 dq osq, gc5 dq osq, gf0 dq osq, gf1 dq osq, gz0 dq osq, gz1 dq osq, gz2 dq osq, bW4.trans ((below_regrown W4 dq osq).mono bW4.size)⟩; clear gc0 gc1 gc2 gc3 gc4 gc5 gf0 gf1 gz0 gz1 gz2 cW4_0 cW4_1 cW4_2 cW4_3 cW4_4 cW4_5 fW4_0 fW4_1 zW4_0 zW4_1 zW4_2 bW4; generalize grow (redrawn W4 dq) osq = W5 at *; obtain ⟨cW5_0, cW5_1, cW5_2, cW5_3, cW5_4, cW5_5, fW5_0, fW5_1, zW5_0, zW5_1, zW5_2, bW5⟩ := kW5
      refine wpAny_take (i := 7) (v := .agg #[.int .u64 (hiOf z), .int .u64 (loOf z)]) rfl (by kernel_rfl) (by kernel_rfl) (by kernel_rfl) (fun _ _ _ h => h) (Or.inl ⟨by rfl, (by intro w; go_simp)⟩) ?_
      refine wpAny_take (i := 8) (v := .int .i64 0) rfl (by kernel_rfl) (by kernel_rfl) (by kernel_rfl) (fun _ _ _ h => h) (Or.inl ⟨by rfl, (by intro w; go_simp)⟩) ?_
      refine wpAny_ready (rs := [9]) (by kernel_rfl) (by simp) ?_; refine AllReady.cons rfl (fun K hK => ?_) AllReady.nil; go_simp; refine hK _ _ ?_; clear hK K
      refine wpAny_ready (rs := [10]) (by kernel_rfl) (by simp) ?_; refine AllReady.cons rfl (fun K hK => ?_) AllReady.nil; go_simp; refine hK _ _ ?_; clear hK K
      refine wpAny_done (by kernel_rfl) ?_ _
      go_wp2
      exact bodyPost_ret (v := .tuple #[.agg #[.int .u64 (hiOf z), .int .u64 (loOf z)], .int .i64 0]) (by simp [results, Tryz.results89, go_sem, *]) rfl ⟨rfl, (by repeat (first | exact Below.refl _ _ | refine Below.setCell ?_ (by first | (simp; done) | (simp; omega) | omega) _ | refine Below.alloc ?_ (by first | (simp; done) | (simp; omega) | omega) _ | refine Below.drew ?_ | assumption | refine Below.trans ?_ (Below.mono (by assumption) (by first | (simp; done) | (simp; omega) | omega))))⟩

theorem rheA_bd (s d : Int) (h0 : 0 ≤ s) (hd : 0 < d) : 0 ≤ rheA s d ∧ (rheA s d ≤ s ∨ d = 1 ∧ rheA s d = s) := by
  have a := Int.ediv_nonneg h0 (show 0 ≤ d by omega)
  have b := Int.ediv_le_self d h0
  have r0 := Int.emod_nonneg s (show d ≠ 0 by omega)
  have r1 := Int.emod_lt_of_pos s hd
  have e := Int.emod_def s d
  unfold rheA
  split
  · rename_i h
    refine ⟨by omega, ?_⟩
    by_cases h1 : d = 1
    · subst h1; omega
    · left
      have : 2 * (s / d) ≤ d * (s / d) := Int.mul_le_mul_of_nonneg_right (by omega) a
      omega
  · exact ⟨a, .inl b⟩

/-- wide.Int.DivEven, by a divisor above 0. -/
theorem divEven_any (a d : Int) (ha : In128 a) (hd : In64 d) (h0 : 0 < d) (w : World) :
    Calls Tryz.prog 89 #[.agg #[.int .u64 (hiOf a), .int .u64 (loOf a)], .int .i64 d] w fun e w' => e = .returned (.tuple #[.agg #[.int .u64 (hiOf (rhe a d)), .int .u64 (loOf (rhe a d))], .int .i64 0]) ∧ Below w.heap.size w w' := by
  have hn := negW_eq a ha
  by_cases h : a < 0
  · have e : absI a = -a := by unfold absI; rw [if_pos h]
    have b := rheA_bd (-a) d (by omega) h0
    refine even_core a d true ha hd h0 (by rw [hn]; simpa using h) w _ (by rw [e]; unfold rhe; rw [if_pos h]; rfl) ?_
    unfold rhe; rw [if_pos h]; unfold In128 at *; omega
  · have e : absI a = a := by unfold absI; rw [if_neg h]
    have b := rheA_bd a d (by omega) h0
    refine even_core a d false ha hd h0 (by rw [hn]; simpa using h) w _ (by rw [e]; unfold rhe; rw [if_neg h]; rfl) ?_
    unfold rhe; rw [if_neg h]; unfold In128 at *; omega
end Go.Proofs.YtdpoahfjiomhbaaGreatDoor
