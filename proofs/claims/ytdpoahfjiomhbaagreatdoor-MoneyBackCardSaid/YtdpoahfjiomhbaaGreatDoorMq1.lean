/-
  Contract of wide.Int.QuoRem, of a number not below 0 by one above 0.
-/
import Derived.Test.YtdpoahfjiomhbaaGreatDoorDk3
namespace Go.Proofs.YtdpoahfjiomhbaaGreatDoor
set_option linter.all false
open Go.RowKit Go.Sort
attribute [local go_sem] cell_set_self lt_1 lt_2 lt_3 lt_4 lt_5 lt_6

set_option maxHeartbeats 4000000 in
set_option maxRecDepth 100000 in
theorem quoRem_any (a d : Int) (h0 : 0 ≤ a) (h1 : a ≤ 85070591730234615865843651857942052864) (hd : In64 d) (hd0 : 0 < d) (w : World) :
    Calls Tryz.prog 70 #[.agg #[.int .u64 (hiOf a), .int .u64 (loOf a)], .int .i64 d] w fun e w' => e = .returned (.tuple #[.agg #[.int .u64 (hiOf (a / d)), .int .u64 (loOf (a / d))], .int .i64 (a % d), .int .i64 0]) ∧ Below w.heap.size w w' := by
  have ha : In128 a := by unfold In128; omega
  have ab : absI a = a := by unfold absI; rw [if_neg (by omega)]
  have ad : absI d = d := by unfold absI; rw [if_neg (by omega)]
  have hn := negW_eq a ha
  rw [decide_eq_false (by omega)] at hn
  have q0 := Int.ediv_nonneg h0 (show 0 ≤ d by omega)
  have q1 := Int.ediv_le_self d h0
  have r0 := Int.emod_nonneg a (show d ≠ 0 by omega)
  have r1 := Int.emod_lt_of_pos a hd0
  have hd2 := hd.2
  have SZ := Lib.hid (fun W => size_any a ha W)
  rw [ab] at SZ
  have WO := Lib.hid (fun W => wordOf_any d hd W)
  rw [ad] at WO
  have QU := Lib.hid (fun W => quo_any a d (by unfold Sz128; omega) hd0 (by omega) W)
  have S1 := Lib.hid (fun W => signed_fits (a / d) false (by unfold Sz128; omega) (a / d) rfl (by unfold In128; omega) W)
  have S2 := Lib.hid (fun W => signed_fits (a % d) false (by unfold Sz128; omega) (a % d) rfl (by unfold In128; omega) W)
  have BL := Lib.hid (fun W => below_any a W)
  rw [hn] at BL
  have e1 : hiOf (a % d) = 0 := by unfold hiOf; omega
  have e2 : loOf (a % d) = a % d := by unfold loOf; omega
  rw [e1, e2] at S2
  have e3 : IntKind.i64.wrap (a % d) = a % d := by rw [IntKind.wrap_i64]; omega
  have d0 : (d == 0) = false := by simp; omega
  have d1 : decide (d < 0) = false := by simp; omega
  obtain ⟨x, hx⟩ : ∃ x, hiOf a = x := ⟨_, rfl⟩
  obtain ⟨y, hy⟩ : ∃ y, loOf a = y := ⟨_, rfl⟩
  rw [hx, hy] at SZ BL ⊢
  rw [hx, hy] at QU
  clear ha ab ad hn q0 q1 hd e1 e2 hx hy h0 h1
  generalize hiOf (a / d) = hq at *
  generalize loOf (a / d) = lq at *
  generalize a % d = r at *
  go_enter Tryz.func70, Tryz.ntmps70
  go_wp2_with (first | (go_at_call 116; refine (WO.out _).mono ?_; rintro e w1 ⟨rfl, hb1⟩; obtain ⟨hc1, hf1⟩ := bcell hb1; have hs1 := hb1.size; (try simp at hs1); have hz1 : w.heap.size < w1.heap.size ∧ w.heap.size + 1 < w1.heap.size := by have := hb1.size; (try simp at this); omega) | (go_at_call 118; refine (SZ.out _).mono ?_; rintro e w2 ⟨rfl, hb2⟩; obtain ⟨hc2, hf2⟩ := bcell hb2; have hs2 := hb2.size; (try simp at hs2); have hz2 : w.heap.size < w2.heap.size ∧ w.heap.size + 1 < w2.heap.size := by have := hb2.size; (try simp at this); omega) | (go_at_call 119; refine (QU.out _).mono ?_; rintro e w3 ⟨rfl, hb3⟩; obtain ⟨hc3, hf3⟩ := bcell hb3; have hs3 := hb3.size; (try simp at hs3); have hz3 : w.heap.size < w3.heap.size ∧ w.heap.size + 1 < w3.heap.size := by have := hb3.size; (try simp at this); omega))
  have hzz : w.heap.size < w3.heap.size + 1 ∧ w.heap.size + 1 < w3.heap.size + 1 ∧ w.heap.size < w3.heap.size + 1 + 1 ∧ w.heap.size + 1 < w3.heap.size + 1 + 1 := by omega
  go_cut [9, 10] from 24 to 33 (fun p e wc => ∃ b : Nat, p = .pointer (some ⟨b, 0, none⟩) ∧ e = .int .i64 0 ∧ (wc.cell? ⟨b, 0, none⟩ = some (.int .u64 hq) ∧ wc.cell? ⟨b, 1, none⟩ = some (.int .u64 lq)) ∧ (wc.cell? ⟨w.heap.size, 0, none⟩ = some (.int .u64 x) ∧ wc.cell? ⟨w.heap.size, 1, none⟩ = some (.int .u64 y)) ∧ (wc.cell? ⟨w.heap.size + 1, 0, none⟩ = some (.int .u64 0) ∧ wc.cell? ⟨w.heap.size + 1, 1, none⟩ = some (.int .u64 0)) ∧ (wc.frozen? ⟨w.heap.size + 1, 0, none⟩ = false ∧ wc.frozen? ⟨w.heap.size + 1, 1, none⟩ = false) ∧ b < wc.heap.size ∧ w.heap.size + 1 < b ∧ w.heap.size + 1 < wc.heap.size ∧ Below w.heap.size w wc)
  case first =>
    go_region_law (first | (go_simp; go_at_call 120; (refine (BL.out _).mono ?_); rintro e w4 ⟨rfl, hb4⟩; obtain ⟨hc4, hf4⟩ := bcell hb4; (try simp only [drew_sizeM, drew_cellM, drew_frozenM] at hc4 hf4); have hs4 := hb4.size; (try simp at hs4); have hz4 : w.heap.size < w4.heap.size ∧ w.heap.size + 1 < w4.heap.size ∧ w3.heap.size < w4.heap.size := (by omega); (try have hy34 : w3.heap.size + 1 < w4.heap.size := by omega)) | (go_simp; go_at_call 117; (refine (S1.out _).mono ?_); rintro e w5 ⟨rfl, hb5⟩; obtain ⟨hc5, hf5⟩ := bcell hb5; (try simp only [drew_sizeM, drew_cellM, drew_frozenM] at hc5 hf5); have hs5 := hb5.size; (try simp at hs5); have hz5 : w.heap.size < w5.heap.size ∧ w.heap.size + 1 < w5.heap.size ∧ w3.heap.size < w5.heap.size := (by omega); (try have hy35 : w3.heap.size + 1 < w5.heap.size := by omega); (try have hy45 : w4.heap.size < w5.heap.size := by omega)))
    all_goals (go_wp2_with (fail); go_meet; exact ⟨_, rfl, rfl, (by refine ⟨?_, ?_⟩ <;> (simp [go_sem, *]; done)), (by refine ⟨?_, ?_⟩ <;> (simp [go_sem, *]; done)), (by refine ⟨?_, ?_⟩ <;> (simp [go_sem, *]; done)), (by refine ⟨?_, ?_⟩ <;> (simp [go_sem, *]; done)), (by first | (simp; done) | (simp; omega) | omega), (by first | (simp; done) | (simp; omega) | omega), (by first | (simp; done) | (simp; omega) | omega), (by repeat (first | exact Below.refl _ _ | refine Below.setCell ?_ (by first | (simp; done) | (simp; omega) | omega) _ | refine Below.alloc ?_ (by first | (simp; done) | (simp; omega) | omega) _ | refine Below.drew ?_ | assumption | refine Below.trans ?_ (Below.mono (by assumption) (by first | (simp; done) | (simp; omega) | omega))))⟩)
  case rest =>
  obtain ⟨b, rfl, rfl, ⟨g0, g1⟩, ⟨g2, g3⟩, ⟨g4, g5⟩, ⟨f0, f1⟩, hbz, hbb, h1z, hBc⟩ := hcut
  have h0z : w.heap.size < wc.heap.size := by omega
  go_wp2_with (first | (go_at_call 120; (refine (BL.out _).mono ?_); rintro e w6 ⟨rfl, hb6⟩; obtain ⟨hc6, hf6⟩ := bcell hb6; have hs6 := hb6.size; (try simp at hs6); have hz6 : w.heap.size < w6.heap.size ∧ w.heap.size + 1 < w6.heap.size ∧ b < w6.heap.size := (by omega)) | (go_at_call 117; (refine (S2.out _).mono ?_); rintro e w7 ⟨rfl, hb7⟩; obtain ⟨hc7, hf7⟩ := bcell hb7; have hs7 := hb7.size; (try simp at hs7); have hz7 : w.heap.size < w7.heap.size ∧ w.heap.size + 1 < w7.heap.size ∧ b < w7.heap.size := (by omega)))
  have hne : ¬ b = w.heap.size + 1 := by omega
  have hzy : w.heap.size + 1 < w7.heap.size + 1 ∧ b < w7.heap.size + 1 := by omega
  go_cut [5, 6] from 46 to 49 (fun p e wd => p = .int .i64 r ∧ e = .int .i64 0 ∧ (wd.cell? ⟨w.heap.size + 1, 0, none⟩ = some (.int .u64 hq) ∧ wd.cell? ⟨w.heap.size + 1, 1, none⟩ = some (.int .u64 lq)) ∧ w.heap.size + 1 < wd.heap.size ∧ Below w.heap.size w wd)
  case first =>
    go_region_law (fail)
    all_goals (go_wp2_with (fail); go_meet; exact ⟨by first | rfl | (simp [e3]), rfl, (by refine ⟨?_, ?_⟩ <;> (simp [go_sem, *]; done)), (by first | (simp; done) | (simp; omega) | omega), (by repeat (first | exact Below.refl _ _ | refine Below.setCell ?_ (by first | (simp; done) | (simp; omega) | omega) _ | refine Below.alloc ?_ (by first | (simp; done) | (simp; omega) | omega) _ | refine Below.drew ?_ | assumption | refine Below.trans ?_ (Below.mono (by assumption) (by first | (simp; done) | (simp; omega) | omega))))⟩)
  case rest =>
  obtain ⟨rfl, rfl, ⟨k0, k1⟩, hwz, hBd⟩ := hcut
  go_wp2
  exact bodyPost_ret (v := .tuple #[.agg #[.int .u64 hq, .int .u64 lq], .int .i64 r, .int .i64 0]) (by simp [results, Tryz.results70, go_sem, *]) rfl ⟨rfl, (by repeat (first | exact Below.refl _ _ | refine Below.setCell ?_ (by first | (simp; done) | (simp; omega) | omega) _ | refine Below.alloc ?_ (by first | (simp; done) | (simp; omega) | omega) _ | refine Below.drew ?_ | assumption | refine Below.trans ?_ (Below.mono (by assumption) (by first | (simp; done) | (simp; omega) | omega))))⟩
end Go.Proofs.YtdpoahfjiomhbaaGreatDoor
