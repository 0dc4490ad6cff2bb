/-
  Contract of money.Amount.Ratio.
-/
import Derived.Test.YtakfjdnpfhcgkaaGreatDoorDk3
import Derived.Test.YtakfjdnpfhcgkaaGreatDoorMc4
/-
  Contract of wide.Int.DivEven by a divisor below 0, and by 0.
-/
namespace Go.Proofs.YtakfjdnpfhcgkaaGreatDoor
set_option linter.all false
open Go.RowKit Go.Sort
attribute [local go_sem] cell_set_self lt_1 lt_2 lt_3 lt_4 lt_5 lt_6

set_option maxHeartbeats 1000000 in
theorem even_neg (a d D : Int) (ng m : Bool) (hm : m = !ng) (ha : In128 a) (hd : In64 d) (hd0 : d < 0) (hD : D = -d) (hn : negW a = ng) (w : World) (z : Int) (hz : z = if m then -(rheA (absI a) D) else rheA (absI a) D) (hin : In128 z) :
    Calls Tryz.prog 37 #[.agg #[.int .u64 (hiOf a), .int .u64 (loOf a)], .int .i64 d] w fun e w' => e = .returned (.tuple #[.agg #[.int .u64 (hiOf z), .int .u64 (loOf z)], .int .i64 0]) ∧ Below w.heap.size w w' := by
  have habs : 0 ≤ absI a ∧ absI a ≤ 170141183460469231731687303715884105728 := by unfold In128 at ha; unfold absI; split <;> omega
  have hsz : Sz128 (absI a) := by unfold Sz128; omega
  have h0 : 0 < D := by omega
  have hd2 : absI d = D := by unfold absI; rw [if_pos hd0, hD]
  have hd1 : D ≤ 9223372036854775808 := by have := hd.1; omega
  obtain ⟨r, er⟩ : ∃ r, absI a % D = r := ⟨_, rfl⟩
  obtain ⟨q, eq⟩ : ∃ q, absI a / D = q := ⟨_, rfl⟩
  have r0 : 0 ≤ r := by rw [← er]; exact Int.emod_nonneg _ (by omega)
  have r1 : r < D := by rw [← er]; exact Int.emod_lt_of_pos _ h0
  have q0 : 0 ≤ q := by rw [← eq]; exact Int.ediv_nonneg habs.1 (by omega)
  have q1 : q ≤ 170141183460469231731687303715884105728 := by rw [← eq]; have := Int.ediv_le_self D habs.1; omega
  have cw := fun W => wordOf_any d hd W
  rw [hd2] at cw
  have cq := fun W => quo_any (absI a) D hsz h0 (by omega) W
  rw [er, eq] at cq
  have CW := Lib.hid cw; have CQ := Lib.hid cq
  have HA := Lib.hid ha
  have hq : Sz128 q := by unfold Sz128; omega
  have hq' : Sz128 (q + 1) := by unfold Sz128; omega
  have lo2 : loOf q % 2 = q % 2 := by unfold loOf; omega
  unfold rheA at hz
  rw [er, eq] at hz
  have d0 : (d == 0) = false := by simp; omega
  obtain ⟨l1, l2⟩ := loOf_word q
  obtain ⟨m1, m2⟩ := hiOf_word q
  clear cw cq er eq hd habs hsz hd2 hD
  by_cases up : D < 2 * r ∨ (2 * r = D ∧ q % 2 = 1)
  · rw [if_pos up] at hz
    have sg := fun W => signed_fits (q + 1) m hq' z hz hin W
    have SG := Lib.hid sg
    have e1 : (loOf q + 1) % 18446744073709551616 = loOf (q + 1) := by unfold loOf; omega
    have e2 : IntKind.u64.wrap (hiOf q + (loOf q + 1) / 18446744073709551616) = hiOf (q + 1) := by rw [IntKind.wrap_u64]; unfold hiOf loOf; omega
    have E1 := Lib.hid e1; have E2 := Lib.hid e2
    have odd : q % 2 = 1 → (loOf q % 2 == 1) = true := fun h => by rw [lo2, h]; rfl
    clear sg hz hq hq' e1 e2 lo2
    rcases (show D < 2 * r ∨ (2 * r == D) = true ∧ (loOf q % 2 == 1) = true ∧ decide (D < 2 * r) = false ∧ 2 * r ≤ D from by rcases up with h | ⟨h, k⟩; exact .inl h; exact .inr ⟨by simp [h], odd k, by simp; omega, by omega⟩) with h | ⟨h, k, k2, k3⟩
    all_goals
      clear up odd
      cases ng <;> simp only [Bool.not_true, Bool.not_false] at hm <;> subst hm
      all_goals (
      go_enter Tryz.func37, Tryz.ntmps37
      go_wp2_with (first | (go_at_call 41; refine (CW.out _).mono ?_; rintro e w1 ⟨rfl, hb1⟩; obtain ⟨hc1, hf1⟩ := bcell hb1; have hs1 := hb1.size; (try simp at hs1); have hz1 : w.heap.size < w1.heap.size ∧ w.heap.size + 1 < w1.heap.size := by have := hb1.size; (try simp at this); omega) | (go_at_call 43; refine (size_any _ HA.out _).mono ?_; rintro e w2 ⟨rfl, hb2⟩; obtain ⟨hc2, hf2⟩ := bcell hb2; have hs2 := hb2.size; (try simp at hs2); have hz2 : w.heap.size < w2.heap.size ∧ w.heap.size + 1 < w2.heap.size := by have := hb2.size; (try simp at this); omega) | (go_at_call 44; refine (CQ.out _).mono ?_; rintro e w3 ⟨rfl, hb3⟩; obtain ⟨hc3, hf3⟩ := bcell hb3; have hs3 := hb3.size; (try simp at hs3); have hz3 : w.heap.size < w3.heap.size ∧ w.heap.size + 1 < w3.heap.size := by have := hb3.size; (try simp at this); omega) | simp only [add64_0 (loOf q) 1 l1 (by decide)])
      rw [E1.out, E2.out]
      refine name_world ?_; intro W4 hW4; have kW4 : W4.cell? ⟨w.heap.size, 0, none⟩ = some (.int .u64 (hiOf a)) ∧ W4.cell? ⟨w.heap.size, 1, none⟩ = some (.int .u64 (loOf a)) ∧ W4.cell? ⟨w.heap.size + 1, 0, none⟩ = some (.int .u64 0) ∧ W4.cell? ⟨w.heap.size + 1, 1, none⟩ = some (.int .u64 0) ∧ W4.cell? ⟨w3.heap.size, 0, none⟩ = some (.int .u64 (hiOf (q + 1))) ∧ W4.cell? ⟨w3.heap.size, 1, none⟩ = some (.int .u64 (loOf (q + 1))) ∧ W4.frozen? ⟨w.heap.size + 1, 0, none⟩ = false ∧ W4.frozen? ⟨w.heap.size + 1, 1, none⟩ = false ∧ w.heap.size < W4.heap.size ∧ w.heap.size + 1 < W4.heap.size ∧ w3.heap.size < W4.heap.size ∧ Below w.heap.size w W4 := by { rw [hW4]; exact (by refine ⟨?_, ?_, ?_, ?_, ?_, ?_, ?_, ?_, ?_, ?_, ?_, ?_⟩ <;> first | (simp [go_sem, *]; done) | omega | (simp; omega) | exact (by repeat (first | exact Below.refl _ _ | refine Below.setCell ?_ (by first | (simp; done) | (simp; omega) | omega) _ | refine Below.alloc ?_ (by first | (simp; done) | (simp; omega) | omega) _ | refine Below.drew ?_ | assumption | refine Below.trans ?_ (Below.mono (by assumption) (by first | (simp; done) | (simp; omega) | omega))))) }; clear hW4; obtain ⟨cW4_0, cW4_1, cW4_2, cW4_3, cW4_4, cW4_5, fW4_0, fW4_1, zW4_0, zW4_1, zW4_2, bW4⟩ := kW4
      have gc0 := grown_cell cW4_0; have gc1 := grown_cell cW4_1; have gc2 := grown_cell cW4_2; have gc3 := grown_cell cW4_3; have gc4 := grown_cell cW4_4; have gc5 := grown_cell cW4_5; have gf0 := grown_frozen fW4_0 zW4_1; have gf1 := grown_frozen fW4_1 zW4_1; have gz0 := grown_size zW4_0; have gz1 := grown_size zW4_1; have gz2 := grown_size zW4_2; refine wp_region_below_head 7 4 #[true, true, true, true, true, true, true, false, false, false, false] (by kernel_rfl) (by kernel_rfl) rfl ?_; (try simp only [List.take_succ_cons, List.take_zero]); (repeat (any_goals (first | go_big_quiet_step ((first | (go_at_call 45; exact Calls.regrown_of (below_any _ _)) | (go_at_call 42; exact Calls.regrown_of (SG.out _)))) | quiet_step ((first | (go_at_call 45; exact Calls.regrown_of (below_any _ _)) | (go_at_call 42; exact Calls.regrown_of (SG.out _))))))); refine wpQuiet_nil ?_; intro _ hw'; obtain ⟨⟨dq, osq⟩, hw''⟩ := hw'; subst hw''; have kW5 : (grow (redrawn W4 dq) osq).cell? ⟨w.heap.size, 0, none⟩ = some (.int .u64 (hiOf a)) ∧ (grow (redrawn W4 dq) osq).cell? ⟨w.heap.size, 1, none⟩ = some (.int .u64 (loOf a)) ∧ (grow (redrawn W4 dq) osq).cell? ⟨w.heap.size + 1, 0, none⟩ = some (.int .u64 0) ∧ (grow (redrawn W4 dq) osq).cell? ⟨w.heap.size + 1, 1, none⟩ = some (.int .u64 0) ∧ (grow (redrawn W4 dq) osq).cell? ⟨w3.heap.size, 0, none⟩ = some (.int .u64 (hiOf (q + 1))) ∧ (grow (redrawn W4 dq) osq).cell? ⟨w3.heap.size, 1, none⟩ = some (.int .u64 (loOf (q + 1))) ∧ (grow (redrawn W4 dq) osq).frozen? ⟨w.heap.size + 1, 0, none⟩ = false ∧ (grow (redrawn W4 dq) osq).frozen? ⟨w.heap.size + 1, 1, none⟩ = false ∧ w.heap.size < (grow (redrawn W4 dq) osq).heap.size ∧ w.heap.size + 1 < (grow (redrawn W4 dq) osq).heap.size ∧ w3.heap.size < (grow (redrawn W4 dq) osq).heap.size ∧ Below w.heap.size w (grow (redrawn W4 dq) osq) := ⟨gc0 dq osq, gc1 dq osq, gc2 dq osq, gc3 dq osq, gc4 dq osq, gc5 dq osq, gf0 dq osq, gf1 dq osq, gz0 dq osq, gz1 dq osq, gz2 dq osq, bW4.trans ((below_regrown W4 dq osq).mono bW4.size)⟩; clear gc0 gc1 gc2 gc3 gc4 gc5 gf0 gf1 gz0 gz1 gz2 cW4_0 cW4_1 cW4_2 cW4_3 cW4_4 cW4_5 fW4_0 fW4_1 zW4_0 zW4_1 zW4_2 bW4; generalize grow (redrawn W4 dq) osq = W5 at *; obtain ⟨cW5_0, cW5_1, cW5_2, cW5_3, cW5_4, cW5_5, fW5_0, fW5_1, zW5_0, zW5_1, zW5_2, bW5⟩ := kW5
      refine wpAny_take (i := 7) (v := .agg #[.int .u64 (hiOf z), .int .u64 (loOf z)]) rfl (by kernel_rfl) (by kernel_rfl) (by kernel_rfl) (fun _ _ _ h => h) (Or.inl ⟨by rfl, (by intro w; go_simp)⟩) ?_
      refine wpAny_take (i := 8) (v := .int .i64 0) rfl (by kernel_rfl) (by kernel_rfl) (by kernel_rfl) (fun _ _ _ h => h) (Or.inl ⟨by rfl, (by intro w; go_simp)⟩) ?_
      refine wpAny_ready (rs := [9]) (by kernel_rfl) (by simp) ?_; refine AllReady.cons rfl (fun K hK => ?_) AllReady.nil; go_simp; refine hK _ _ ?_; clear hK K
      refine wpAny_ready (rs := [10]) (by kernel_rfl) (by simp) ?_; refine AllReady.cons rfl (fun K hK => ?_) AllReady.nil; go_simp; refine hK _ _ ?_; clear hK K
      refine wpAny_done (by kernel_rfl) ?_ _
      go_wp2
      exact bodyPost_ret (v := .tuple #[.agg #[.int .u64 (hiOf z), .int .u64 (loOf z)], .int .i64 0]) (by simp [results, Tryz.results37, go_sem, *]) rfl ⟨rfl, (by repeat (first | exact Below.refl _ _ | refine Below.setCell ?_ (by first | (simp; done) | (simp; omega) | omega) _ | refine Below.alloc ?_ (by first | (simp; done) | (simp; omega) | omega) _ | refine Below.drew ?_ | assumption | refine Below.trans ?_ (Below.mono (by assumption) (by first | (simp; done) | (simp; omega) | omega))))⟩)
  · rw [if_neg up] at hz
    have sg := fun W => signed_fits q m hq z hz hin W
    have SG := Lib.hid sg
    have even : ¬ q % 2 = 1 → (loOf q % 2 == 1) = false := fun h => by rw [lo2]; simpa using h
    have dd : decide (D < 2 * r) = false := by simp; omega
    clear sg hz hq hq' lo2
    rcases (show (2 * r == D) = false ∨ (2 * r == D) = true ∧ (loOf q % 2 == 1) = false from by
      by_cases h : 2 * r = D
      · exact .inr ⟨by simp [h], even (fun k => up (.inr ⟨h, k⟩))⟩
      · exact .inl (by simp [h])) with h | ⟨h, k⟩
    all_goals
      have up2 : 2 * r ≤ D := by omega
      clear up even
      cases ng <;> simp only [Bool.not_true, Bool.not_false] at hm <;> subst hm
      all_goals (
      go_enter Tryz.func37, Tryz.ntmps37
      go_wp2_with (first | (go_at_call 41; refine (CW.out _).mono ?_; rintro e w1 ⟨rfl, hb1⟩; obtain ⟨hc1, hf1⟩ := bcell hb1; have hs1 := hb1.size; (try simp at hs1); have hz1 : w.heap.size < w1.heap.size ∧ w.heap.size + 1 < w1.heap.size := by have := hb1.size; (try simp at this); omega) | (go_at_call 43; refine (size_any _ HA.out _).mono ?_; rintro e w2 ⟨rfl, hb2⟩; obtain ⟨hc2, hf2⟩ := bcell hb2; have hs2 := hb2.size; (try simp at hs2); have hz2 : w.heap.size < w2.heap.size ∧ w.heap.size + 1 < w2.heap.size := by have := hb2.size; (try simp at this); omega) | (go_at_call 44; refine (CQ.out _).mono ?_; rintro e w3 ⟨rfl, hb3⟩; obtain ⟨hc3, hf3⟩ := bcell hb3; have hs3 := hb3.size; (try simp at hs3); have hz3 : w.heap.size < w3.heap.size ∧ w.heap.size + 1 < w3.heap.size := by have := hb3.size; (try simp at this); omega) | simp only [add64_0 (loOf q) 1 l1 (by decide)])
      refine name_world ?_; intro W4 hW4; have kW4 : W4.cell? ⟨w.heap.size, 0, none⟩ = some (.int .u64 (hiOf a)) ∧ W4.cell? ⟨w.heap.size, 1, none⟩ = some (.int .u64 (loOf a)) ∧ W4.cell? ⟨w.heap.size + 1, 0, none⟩ = some (.int .u64 0) ∧ W4.cell? ⟨w.heap.size + 1, 1, none⟩ = some (.int .u64 0) ∧ W4.cell? ⟨w3.heap.size, 0, none⟩ = some (.int .u64 (hiOf q)) ∧ W4.cell? ⟨w3.heap.size, 1, none⟩ = some (.int .u64 (loOf q)) ∧ W4.frozen? ⟨w.heap.size + 1, 0, none⟩ = false ∧ W4.frozen? ⟨w.heap.size + 1, 1, none⟩ = false ∧ w.heap.size < W4.heap.size ∧ w.heap.size + 1 < W4.heap.size ∧ w3.heap.size < W4.heap.size ∧ Below w.heap.size w W4 := by { rw [hW4]; exact (by refine ⟨?_, ?_, ?_, ?_, ?_, ?_, ?_, ?_, ?_, ?_, ?_, ?_⟩ <;> first | (simp [go_sem, *]; done) | omega | (simp; omega) | exact (by repeat (first | exact Below.refl _ _ | refine Below.setCell ?_ (by first | (simp; done) | (simp; omega) | omega) _ | refine Below.alloc ?_ (by first | (simp; done) | (simp; omega) | omega) _ | refine Below.drew ?_ | assumption | refine Below.trans ?_ (Below.mono (by assumption) (by first | (simp; done) | (simp; omega) | omega))))) }; clear hW4; obtain ⟨cW4_0, cW4_1, cW4_2, cW4_3, cW4_4, cW4_5, fW4_0, fW4_1, zW4_0, zW4_1, zW4_2, bW4⟩ := kW4
      have gc0 := grown_cell cW4_0; have gc1 := grown_cell cW4_1; have gc2 := grown_cell cW4_2; have gc3 := grown_cell cW4_3; have gc4 := grown_cell cW4_4; have gc5 := grown_cell cW4_5; have gf0 := grown_frozen fW4_0 zW4_1; have gf1 := grown_frozen fW4_1 zW4_1; have gz0 := grown_size zW4_0; have gz1 := grown_size zW4_1; have gz2 := grown_size zW4_2; refine wp_region_below_head 7 4 #[true, true, true, true, true, true, true, false, false, false, false] (by kernel_rfl) (by kernel_rfl) rfl ?_; (try simp only [List.take_succ_cons, List.take_zero]); (repeat (any_goals (first | go_big_quiet_step ((first | (go_at_call 45; exact Calls.regrown_of (below_any _ _)) | (go_at_call 42; exact Calls.regrown_of (SG.out _)))) | quiet_step ((first | (go_at_call 45; exact Calls.regrown_of (below_any _ _)) | (go_at_call 42; exact Calls.regrown_of (SG.out _))))))); refine wpQuiet_nil ?_; intro _ hw'; obtain ⟨⟨dq, osq⟩, hw''⟩ := hw'; subst hw''; have kW5 : (grow (redrawn W4 dq) osq).cell? ⟨w.heap.size, 0, none⟩ = some (.int .u64 (hiOf a)) ∧ (grow (redrawn W4 dq) osq).cell? ⟨w.heap.size, 1, none⟩ = some (.int .u64 (loOf a)) ∧ (grow (redrawn W4 dq) osq).cell? ⟨w.heap.size + 1, 0, none⟩ = some (.int .u64 0) ∧ (grow (redrawn W4 dq) osq).cell? ⟨w.heap.size + 1, 1, none⟩ = some (.int .u64 0) ∧ (grow (redrawn W4 dq) osq).cell? ⟨w3.heap.size, 0, none⟩ = some (.int .u64 (hiOf q)) ∧ (grow (redrawn W4 dq) osq).cell? ⟨w3.heap.size, 1, none⟩ = some (.int .u64 (loOf q)) ∧ (grow (redrawn W4 dq) osq).frozen? ⟨w.heap.size + 1, 0, none⟩ = false ∧ (grow (redrawn W4 dq) osq).frozen? ⟨w.heap.size + 1, 1, none⟩ = false ∧ w.heap.size < (grow (redrawn W4 dq) osq).heap.size ∧ w.heap.size + 1 < (grow (redrawn W4 dq) osq).heap.size ∧ w3.heap.size < (grow (redrawn W4 dq) osq).heap.size ∧ Below w.heap.size w (grow (redrawn W4 dq) osq) := ⟨gc0 dq osq, gc1 dq osq, gc2 dq osq, gc3 dq osq, gc4 dq osq, gc5 dq osq, gf0 dq osq, gf1 dq osq, gz0 dq osq, gz1 dq osq, gz2 dq osq, bW4.trans ((below_regrown W4 dq osq).mono bW4.size)⟩; clear gc0 gc1 gc2 gc3 gc4 gc5 gf0 gf1 gz0 gz1 gz2 cW4_0 cW4_1 cW4_2 cW4_3 cW4_4 cW4_5 fW4_0 fW4_1 zW4_0 zW4_1 zW4_2 bW4; generalize grow (redrawn W4 dq) osq = W5 at *; obtain ⟨cW5_0, cW5_1, cW5_2, cW5_3, cW5_4, cW5_5, fW5_0, fW5_1, zW5_0, zW5_1, zW5_2, bW5⟩ := kW5
      refine wpAny_take (i := 7) (v := .agg #[.int .u64 (hiOf z), .int .u64 (loOf z)]) rfl (by kernel_rfl) (by kernel_rfl) (by kernel_rfl) (fun _ _ _ h => h) (Or.inl ⟨by rfl, (by intro w; go_simp)⟩) ?_
      refine wpAny_take (i := 8) (v := .int .i64 0) rfl (by kernel_rfl) (by kernel_rfl) (by kernel_rfl) (fun _ _ _ h => h) (Or.inl ⟨by rfl, (by intro w; go_simp)⟩) ?_
      refine wpAny_ready (rs := [9]) (by kernel_rfl) (by simp) ?_; refine AllReady.cons rfl (fun K hK => ?_) AllReady.nil; go_simp; refine hK _ _ ?_; clear hK K
      refine wpAny_ready (rs := [10]) (by kernel_rfl) (by simp) ?_; refine AllReady.cons rfl (fun K hK => ?_) AllReady.nil; go_simp; refine hK _ _ ?_; clear hK K
      refine wpAny_done (by kernel_rfl) ?_ _
      go_wp2
      exact bodyPost_ret (v := .tuple #[.agg #[.int .u64 (hiOf z), .int .u64 (loOf z)], .int .i64 0]) (by simp [results, Tryz.results37, go_sem, *]) rfl ⟨rfl, (by repeat (first | exact Below.refl _ _ | refine Below.setCell ?_ (by first | (simp; done) | (simp; omega) | omega) _ | refine Below.alloc ?_ (by first | (simp; done) | (simp; omega) | omega) _ | refine Below.drew ?_ | assumption | refine Below.trans ?_ (Below.mono (by assumption) (by first | (simp; done) | (simp; omega) | omega))))⟩)


/-- A number by a divisor, to the nearest, halves to the even. -/
def rhZ (a d : Int) : Int := if d < 0 then rhe (-a) (-d) else rhe a d
/-- wide.Int.DivEven, by a divisor that is not 0: of a product of ints. -/
theorem divEven_z (a d : Int) (ha : -85070591730234615865843651857942052864 ≤ a ∧ a ≤ 85070591730234615865843651857942052864) (hd : In64 d) (h0 : d ≠ 0) (w : World) :
    Calls Tryz.prog 37 #[.agg #[.int .u64 (hiOf a), .int .u64 (loOf a)], .int .i64 d] w fun e w' => e = .returned (.tuple #[.agg #[.int .u64 (hiOf (rhZ a d)), .int .u64 (loOf (rhZ a d))], .int .i64 0]) ∧ Below w.heap.size w w' := by
  have hA : In128 a := by unfold In128; omega
  by_cases hneg : d < 0
  · have hn := negW_eq a hA
    unfold rhZ
    rw [if_pos hneg]
    by_cases h : a < 0
    · have e : absI a = -a := by unfold absI; rw [if_pos h]
      have b := rheA_bd (-a) (-d) (by omega) (by omega)
      refine even_neg a d (-d) true false rfl hA hd hneg rfl (by rw [hn]; simpa using h) w _ (by rw [e]; unfold rhe; rw [if_neg (by omega)]; rfl) ?_
      unfold rhe; rw [if_neg (by omega)]; unfold In128; omega
    · have e : absI a = a := by unfold absI; rw [if_neg h]
      have b := rheA_bd a (-d) (by omega) (by omega)
      refine even_neg a d (-d) false true rfl hA hd hneg rfl (by rw [hn]; simpa using h) w (rhe (-a) (-d)) (by
        rw [e]; unfold rhe
        by_cases h1 : a = 0
        · subst h1
          have : rheA 0 (-d) = 0 := by have := rheA_bd 0 (-d) (by omega) (by omega); omega
          simp [this]
        · rw [if_pos (by omega), show - -a = a by omega]; rfl) ?_
      unfold rhe
      by_cases h1 : a = 0
      · subst h1; rw [if_neg (by omega)]; unfold In128; simp; omega
      · rw [if_pos (by omega), show - -a = a by omega]; unfold In128; omega
  · unfold rhZ; rw [if_neg hneg]
    exact divEven_any a d hA hd (by omega) w
theorem divEven_0 (a : Int) (w : World) :
    Calls Tryz.prog 37 #[.agg #[.int .u64 (hiOf a), .int .u64 (loOf a)], .int .i64 0] w fun e w' => e = .returned (.tuple #[.agg #[.int .u64 0, .int .u64 0], .int .i64 17]) ∧ Below w.heap.size w w' := by
  generalize hiOf a = x
  generalize loOf a = y
  go_enter Tryz.func37, Tryz.ntmps37
  go_wp2
  exact bodyPost_ret (v := .tuple #[.agg #[.int .u64 0, .int .u64 0], .int .i64 17]) (by simp [results, Tryz.results37, go_sem, *]) rfl ⟨rfl, (by repeat (first | exact Below.refl _ _ | refine Below.setCell ?_ (by first | (simp; done) | (simp; omega) | omega) _ | refine Below.alloc ?_ (by first | (simp; done) | (simp; omega) | omega) _ | refine Below.drew ?_ | assumption | refine Below.trans ?_ (Below.mono (by assumption) (by first | (simp; done) | (simp; omega) | omega))))⟩
end Go.Proofs.YtakfjdnpfhcgkaaGreatDoor

/-
  Contracts of money.Amount's Sub and Add.
-/
namespace Go.Proofs.YtakfjdnpfhcgkaaGreatDoor
set_option linter.all false
open Go.RowKit Go.Sort
attribute [local go_sem] cell_set_self lt_1 lt_2 lt_3 lt_4 lt_5 lt_6

end Go.Proofs.YtakfjdnpfhcgkaaGreatDoor

/-
  Contract of money.Amount.Ratio.
-/
namespace Go.Proofs.YtakfjdnpfhcgkaaGreatDoor
set_option linter.all false
open Go.RowKit Go.Sort
attribute [local go_sem] cell_set_self lt_1 lt_2 lt_3 lt_4 lt_5 lt_6

theorem prod_bd {u n : Int} (h0 : -4611686018427387904 ≤ u) (h1 : u ≤ 4611686018427387904) (hn : In64 n) : (u * n).natAbs ≤ 42535295865117307932921825928971026432 := by
  rw [Int.natAbs_mul]
  have a : u.natAbs ≤ 4611686018427387904 := by omega
  have b : n.natAbs ≤ 9223372036854775808 := by have := hn.1; have := hn.2; omega
  have := Nat.mul_le_mul a b
  omega
theorem rhZ_abs (a d : Int) (h : d ≠ 0) : (rhZ a d).natAbs ≤ a.natAbs + 1 := by
  unfold rhZ
  split
  · have := rhe_absM (-a) (-d) (by omega); omega
  · have := rhe_absM a d (by omega); omega
def ratE (u : Int) (c : List UInt8) (n d : Int) : Int := if amE u c = 0 then (if d = 0 then 17 else maE (rhZ (u * n) d)) else amE u c
set_option maxHeartbeats 4000000 in
set_option maxRecDepth 100000 in
theorem ratio_any (u : Int) (c : List UInt8) (n d : Int) (hn : In64 n) (hd : In64 d) (w : World) : Calls Tryz.prog 12 #[.agg #[.int .i64 u, .string ⟨c.toArray⟩], .int .i64 n, .int .i64 d] w fun e w' => e = .returned (amR (ratE u c n d) (rhZ (u * n) d) c) ∧ Below w.heap.size w w' := by
  have CK := Lib.hid (fun W => mcheck_any u c W)
  by_cases h : amE u c = 0
  · have hu : inU u = true := by
      unfold amE at h
      cases hu : inU u with
      | true => rfl
      | false =>
        rw [hu] at h
        rcases scE_cases c with k | k
        · rw [if_pos k] at h; simp at h
        · rw [k] at h; simp at h
    obtain ⟨u0, u1⟩ := inU_iff.1 hu
    have bd := prod_bd u0 u1 hn
    have MU := Lib.hid (fun W => mul_any u n (by unfold In64; omega) hn W)
    rw [h] at CK
    by_cases d0 : d = 0
    · have E : ratE u c n d = 17 := by unfold ratE; rw [if_pos h, if_pos d0]
      rw [E, amR_n (by decide)]
      subst d0
      have DV := Lib.hid (fun W => divEven_0 (u * n) W)
      clear E h hu u0 u1 bd
      generalize (⟨c.toArray⟩ : ByteArray) = C at *
      generalize hiOf (u * n) = hz at *
      generalize loOf (u * n) = lz at *
      go_enter Tryz.func12, Tryz.ntmps12
      go_wp2_with (first | (go_at_call 14; refine (CK.out _).mono ?_; rintro e w1 ⟨rfl, hb1⟩; obtain ⟨hc1, hf1⟩ := bcell hb1; have hs1 := hb1.size; (try simp at hs1); have hz1 : w.heap.size < w1.heap.size ∧ w.heap.size + 1 < w1.heap.size := by have := hb1.size; (try simp at this); omega) | (go_at_call 16; refine (MU.out _).mono ?_; rintro e w2 ⟨rfl, hb2⟩; obtain ⟨hc2, hf2⟩ := bcell hb2; have hs2 := hb2.size; (try simp at hs2); have hz2 : w.heap.size < w2.heap.size ∧ w.heap.size + 1 < w2.heap.size := by have := hb2.size; (try simp at this); omega) | (go_at_call 37; refine (DV.out _).mono ?_; rintro e w3 ⟨rfl, hb3⟩; obtain ⟨hc3, hf3⟩ := bcell hb3; have hs3 := hb3.size; (try simp at hs3); have hz3 : w.heap.size < w3.heap.size ∧ w.heap.size + 1 < w3.heap.size := by have := hb3.size; (try simp at this); omega))
      exact bodyPost_ret (v := .tuple #[.agg #[.int .i64 0, .string ⟨#[]⟩], .int .i64 17]) (by simp [results, Tryz.results12, go_sem, *]) rfl ⟨rfl, (by repeat (first | exact Below.refl _ _ | refine Below.setCell ?_ (by first | (simp; done) | (simp; omega) | omega) _ | refine Below.alloc ?_ (by first | (simp; done) | (simp; omega) | omega) _ | refine Below.drew ?_ | assumption | refine Below.trans ?_ (Below.mono (by assumption) (by first | (simp; done) | (simp; omega) | omega))))⟩
    · have E : ratE u c n d = maE (rhZ (u * n) d) := by unfold ratE; rw [if_pos h, if_neg d0]
      rw [E]
      have rb := rhZ_abs (u * n) d d0
      have DV := Lib.hid (fun W => divEven_z (u * n) d (by omega) hd d0 W)
      have MA := Lib.hid (fun W => made_any (rhZ (u * n) d) (by unfold In128; omega) c W)
      have hR : ∃ (r : Int × ByteArray) (q : Int), amR (maE (rhZ (u * n) d)) (rhZ (u * n) d) c = .tuple #[.agg #[.int .i64 r.1, .string r.2], .int .i64 q] := ⟨(_, _), _, rfl⟩
      obtain ⟨⟨r, C2⟩, q, hR⟩ := hR
      simp only at hR
      rw [hR] at MA ⊢
      clear E h hu u0 u1 bd d0 rb hR
      generalize (⟨c.toArray⟩ : ByteArray) = C at *
      generalize hiOf (rhZ (u * n) d) = hq at *
      generalize loOf (rhZ (u * n) d) = lq at *
      generalize hiOf (u * n) = hz at *
      generalize loOf (u * n) = lz at *
      go_enter Tryz.func12, Tryz.ntmps12
      go_wp2_with (first | (go_at_call 14; refine (CK.out _).mono ?_; rintro e w1 ⟨rfl, hb1⟩; obtain ⟨hc1, hf1⟩ := bcell hb1; have hs1 := hb1.size; (try simp at hs1); have hz1 : w.heap.size < w1.heap.size ∧ w.heap.size + 1 < w1.heap.size := by have := hb1.size; (try simp at this); omega) | (go_at_call 16; refine (MU.out _).mono ?_; rintro e w2 ⟨rfl, hb2⟩; obtain ⟨hc2, hf2⟩ := bcell hb2; have hs2 := hb2.size; (try simp at hs2); have hz2 : w.heap.size < w2.heap.size ∧ w.heap.size + 1 < w2.heap.size := by have := hb2.size; (try simp at this); omega) | (go_at_call 37; refine (DV.out _).mono ?_; rintro e w3 ⟨rfl, hb3⟩; obtain ⟨hc3, hf3⟩ := bcell hb3; have hs3 := hb3.size; (try simp at hs3); have hz3 : w.heap.size < w3.heap.size ∧ w.heap.size + 1 < w3.heap.size := by have := hb3.size; (try simp at this); omega) | (go_at_call 38; refine (MA.out _).mono ?_; rintro e w4 ⟨rfl, hb4⟩; obtain ⟨hc4, hf4⟩ := bcell hb4; have hs4 := hb4.size; (try simp at hs4); have hz4 : w.heap.size < w4.heap.size ∧ w.heap.size + 1 < w4.heap.size := by have := hb4.size; (try simp at this); omega))
      exact bodyPost_ret (v := .tuple #[.agg #[.int .i64 r, .string C2], .int .i64 q]) (by simp [results, Tryz.results12, go_sem, *]) rfl ⟨rfl, (by repeat (first | exact Below.refl _ _ | refine Below.setCell ?_ (by first | (simp; done) | (simp; omega) | omega) _ | refine Below.alloc ?_ (by first | (simp; done) | (simp; omega) | omega) _ | refine Below.drew ?_ | assumption | refine Below.trans ?_ (Below.mono (by assumption) (by first | (simp; done) | (simp; omega) | omega))))⟩
  · have E : ratE u c n d = amE u c := by unfold ratE; rw [if_neg h]
    rw [E, amR_n h]
    clear E
    generalize amE u c = x at *
    have x0 : (x != 0) = true := by simpa using h
    clear h
    generalize (⟨c.toArray⟩ : ByteArray) = C at *
    go_enter Tryz.func12, Tryz.ntmps12
    go_wp2_with (first | (go_at_call 14; refine (CK.out _).mono ?_; rintro e w1 ⟨rfl, hb1⟩; obtain ⟨hc1, hf1⟩ := bcell hb1; have hs1 := hb1.size; (try simp at hs1); have hz1 : w.heap.size < w1.heap.size ∧ w.heap.size + 1 < w1.heap.size := by have := hb1.size; (try simp at this); omega))
    exact bodyPost_ret (v := .tuple #[.agg #[.int .i64 0, .string ⟨#[]⟩], .int .i64 x]) (by simp [results, Tryz.results12, go_sem, *]) rfl ⟨rfl, (by repeat (first | exact Below.refl _ _ | refine Below.setCell ?_ (by first | (simp; done) | (simp; omega) | omega) _ | refine Below.alloc ?_ (by first | (simp; done) | (simp; omega) | omega) _ | refine Below.drew ?_ | assumption | refine Below.trans ?_ (Below.mono (by assumption) (by first | (simp; done) | (simp; omega) | omega))))⟩
end Go.Proofs.YtakfjdnpfhcgkaaGreatDoor
