/-
  Contracts of tier.priced, tier.Tiered, tier.Volume, tier.Flat, tier.Prorate, tier.Percent.
-/
import Derived.Test.YtdpoahfjiomhbaaGreatDoorTk1
import Derived.Test.YtdpoahfjiomhbaaGreatDoorWk3
import Derived.Test.YtdpoahfjiomhbaaGreatDoorWk4
import Derived.Test.YtdpoahfjiomhbaaGreatDoorDk3
import Derived.Test.YtdpoahfjiomhbaaGreatDoorQh

/-
  Contract of tier.byTiers.
-/
namespace Go.Proofs.YtdpoahfjiomhbaaGreatDoor
set_option linter.all false
open Go.RowKit Go.Sort
attribute [local go_sem] cell_set_self lt_1 lt_2 lt_3 lt_4 lt_5 lt_6



set_option maxHeartbeats 1000000 in
theorem byTiers_any (A : Option Addr) (n c : Nat) (l : List (Int × Int)) (q : Int) (hl : l.length = n) (hn : n ≤ 20) (hq0 : 0 ≤ q) (hq : q ≤ 1125899906842624) (hok : okFrom 0 l = true) (w : World) (T : Tiers w A l) :
    Calls Tryz.prog 102 #[.slice A n c, .int .i64 q] w fun e w' => e = .returned (.agg #[.int .u64 (hiOf (byT l 0 q)), .int .u64 (loOf (byT l 0 q))]) ∧ Below w.heap.size w w' := by
  have HL := Lib.hid hl
  clear hl
  have HK := Lib.hid hok
  clear hok
  go_enter Tryz.func102, Tryz.ntmps102
  go_wp2
  go_loopw [6, 13] (fun a i wr => ∃ (k : Nat) (ah s : Int), k ≤ n ∧ i = .int .i64 k ∧ a = .int .i64 ah ∧ s + byT (l.drop k) ah q = byT l 0 q ∧ 0 ≤ ah ∧ ah ≤ 1125899906842624 ∧ 0 ≤ s ∧ s ≤ k * 1267650600228229401496703205376 ∧ okFrom ah (l.drop k) = true ∧
     wr.cell? ⟨w.heap.size + 1, 0, none⟩ = some (.int .u64 (hiOf s)) ∧ wr.cell? ⟨w.heap.size + 1, 1, none⟩ = some (.int .u64 (loOf s)) ∧ wr.cell? ⟨w.heap.size, 0, none⟩ = some (.int .u64 0) ∧ wr.cell? ⟨w.heap.size, 1, none⟩ = some (.int .u64 0) ∧ wr.frozen? ⟨w.heap.size, 0, none⟩ = false ∧ wr.frozen? ⟨w.heap.size, 1, none⟩ = false ∧ wr.frozen? ⟨w.heap.size + 1, 0, none⟩ = false ∧ wr.frozen? ⟨w.heap.size + 1, 1, none⟩ = false ∧ w.heap.size < wr.heap.size ∧ w.heap.size + 1 < wr.heap.size ∧ Below w.heap.size w wr) (fun _ i _ => n - (intOf i).toNat)
  case atStart => exact ⟨0, 0, 0, Nat.zero_le _, rfl, rfl, by simp, by omega, by omega, by omega, by omega, by simpa using HK.out, by rw [hiOf_0, loOf_0]; exact (by refine ⟨?_, ?_, ?_, ?_, ?_, ?_, ?_, ?_, ?_, ?_, ?_⟩ <;> first | (simp [go_sem, *]; done) | omega | (simp; omega) | exact (by repeat (first | exact Below.refl _ _ | refine Below.setCell ?_ (by first | (simp; done) | (simp; omega) | omega) _ | refine Below.alloc ?_ (by first | (simp; done) | (simp; omega) | omega) _ | refine Below.drew ?_ | assumption | refine Below.trans ?_ (Below.mono (by assumption) (by first | (simp; done) | (simp; omega) | omega)))))⟩
  case round =>
    obtain ⟨k, ah, s, hk, rfl, rfl, hs, ha0, ha1, hs0, hs1, hok, c0, c1, c2, c3, f0, f1, f2, f3, z0, z1, hB⟩ := hrel
    have Hs := Lib.hid hs; have Hok := Lib.hid hok; have Hs1 := Lib.hid hs1
    clear hs hok hs1
    by_cases hlt : k < n
    · have hg : l[k]? = some (l[k]'(by have := HL.out; omega)) := List.getElem?_eq_getElem _
      obtain ⟨⟨u, p⟩, hup⟩ : ∃ t, t = (l[k]'(by have := HL.out; omega)) := ⟨_, rfl⟩
      rw [← hup] at hg
      obtain ⟨b, off, hA, hbs, hc0, hc1⟩ := T k (u, p) hg
      subst hA
      have q0 : wr.cell? ⟨b, off + k * 2, none⟩ = some (.int .i64 u) := (hB.cell (p := ⟨b, off + k * 2, none⟩) hbs).trans hc0
      have q1 : wr.cell? ⟨b, off + k * 2 + 1, none⟩ = some (.int .i64 p) := (hB.cell (p := ⟨b, off + k * 2 + 1, none⟩) hbs).trans hc1
      obtain ⟨hpos, hp0, hp1, hok'⟩ := tier_facts hg Hok.out
      rw [HL.out] at hpos
      have Hok' := Lib.hid hok'; have Hg := Lib.hid hg
      clear hok' hg hup hc0 hc1 T HK Hok
      have hu : u = 0 ∨ (0 < u ∧ ah < u ∧ u ≤ 1125899906842624) := by omega
      clear hpos
      rcases hu with hu | ⟨hu0, hu1, hu2⟩
      · have part : partT ah u q = q - ah := by unfold partT; rw [if_neg (by omega)]
        by_cases hqa : q ≤ ah
        · have e := byT_stop Hg.out Hs.out (by omega)
          have E := Lib.hid e
          clear e part
          have d0 : decide (0 < u) = false := by simp; omega
          go_wp2
          rw [E.out]
          exact bodyPost_ret (v := .agg #[.int .u64 (hiOf s), .int .u64 (loOf s)]) (by simp [results, Tryz.results102, go_sem, *]) rfl ⟨rfl, (by repeat (first | exact Below.refl _ _ | refine Below.setCell ?_ (by first | (simp; done) | (simp; omega) | omega) _ | refine Below.alloc ?_ (by first | (simp; done) | (simp; omega) | omega) _ | refine Below.drew ?_ | assumption | refine Below.trans ?_ (Below.mono (by assumption) (by first | (simp; done) | (simp; omega) | omega))))⟩
        · have gs := byT_step Hg.out Hs.out (by omega)
          rw [part] at gs
          clear part
          have d0 : decide (0 < u) = false := by simp; omega
          have hu4 : 0 ≤ u := by omega
          have hu5 : u ≤ 1125899906842624 := by omega
          clear hu
          obtain ⟨pt, hpt⟩ : ∃ pt, pt = q - ah := ⟨_, rfl⟩
          rw [← hpt] at gs
          have Gs := Lib.hid gs
          clear gs
          have hpt0 : 0 < pt := by omega
          have hpt1 : pt ≤ 1125899906842624 := by omega
          have i1 : In64 pt := by unfold In64; omega
          have i2 : In64 p := by unfold In64; omega
          have m := mul_50 (a := pt) (b := p) (by omega) (by omega) hp0 hp1
          have hs1' := Hs1.out
          have i3 : In128 s := by unfold In128; omega
          have i4 : In128 (pt * p) := by unfold In128; omega
          have i5 : In128 (s + pt * p) := by unfold In128; omega
          have Gb := Lib.hid (show s + pt * p ≤ ((k + 1 : Nat) : Int) * 1267650600228229401496703205376 by omega)
          have m0 := m.1
          clear hs1' m
          have Hpt := Lib.hid hpt
          clear hpt
          go_wp2
          rw [← Hpt.out]
          refine name_world ?_; intro W1 hW1; have kW1 : W1.cell? ⟨w.heap.size + 1, 0, none⟩ = some (.int .u64 (hiOf s)) ∧ W1.cell? ⟨w.heap.size + 1, 1, none⟩ = some (.int .u64 (loOf s)) ∧ W1.cell? ⟨w.heap.size, 0, none⟩ = some (.int .u64 0) ∧ W1.cell? ⟨w.heap.size, 1, none⟩ = some (.int .u64 0) ∧ W1.cell? ⟨wr.heap.size, 0, none⟩ = some (.int .i64 u) ∧ W1.cell? ⟨wr.heap.size, 1, none⟩ = some (.int .i64 p) ∧ W1.frozen? ⟨w.heap.size, 0, none⟩ = false ∧ W1.frozen? ⟨w.heap.size, 1, none⟩ = false ∧ W1.frozen? ⟨w.heap.size + 1, 0, none⟩ = false ∧ W1.frozen? ⟨w.heap.size + 1, 1, none⟩ = false ∧ w.heap.size < W1.heap.size ∧ w.heap.size + 1 < W1.heap.size ∧ wr.heap.size < W1.heap.size ∧ Below w.heap.size w W1 := by { rw [hW1]; exact (by refine ⟨?_, ?_, ?_, ?_, ?_, ?_, ?_, ?_, ?_, ?_, ?_, ?_, ?_, ?_⟩ <;> first | (simp [go_sem, *]; done) | omega | (simp; omega) | exact (by repeat (first | exact Below.refl _ _ | refine Below.setCell ?_ (by first | (simp; done) | (simp; omega) | omega) _ | refine Below.alloc ?_ (by first | (simp; done) | (simp; omega) | omega) _ | refine Below.drew ?_ | assumption | refine Below.trans ?_ (Below.mono (by assumption) (by first | (simp; done) | (simp; omega) | omega))))) }; clear hW1; obtain ⟨cW1_0, cW1_1, cW1_2, cW1_3, cW1_4, cW1_5, fW1_0, fW1_1, fW1_2, fW1_3, zW1_0, zW1_1, zW1_2, bW1⟩ := kW1
          have gc0 := grown_cell cW1_0; have gc1 := grown_cell cW1_1; have gc2 := grown_cell cW1_2; have gc3 := grown_cell cW1_3; have gc4 := grown_cell cW1_4; have gc5 := grown_cell cW1_5; have gf0 := grown_frozen fW1_0 zW1_0; have gf1 := grown_frozen fW1_1 zW1_0; have gf2 := grown_frozen fW1_2 zW1_1; have gf3 := grown_frozen fW1_3 zW1_1; have gz0 := grown_size zW1_0; have gz1 := grown_size zW1_1; have gz2 := grown_size zW1_2; refine wp_region_below_head 7 3 #[true, true, true, true, true, true, true, false, false, false] (by kernel_rfl) (by kernel_rfl) rfl ?_; (try simp only [List.take_succ_cons, List.take_zero]); (repeat (any_goals (first | go_big_quiet_step ((first | (go_at_call 69; exact Calls.regrown_of (mul_any _ _ i1 i2 _)) | (go_at_call 92; exact Calls.regrown_of (add_fits s (pt * p) i3 i4 i5 _)))) | quiet_step ((first | (go_at_call 69; exact Calls.regrown_of (mul_any _ _ i1 i2 _)) | (go_at_call 92; exact Calls.regrown_of (add_fits s (pt * p) i3 i4 i5 _))))))); refine wpQuiet_nil ?_; intro _ hw'; obtain ⟨⟨dq, osq⟩, hw''⟩ := hw'; subst hw''; have kW2 : (grow (redrawn W1 dq) osq).cell? ⟨w.heap.size + 1, 0, none⟩ = some (.int .u64 (hiOf s)) ∧ (grow (redrawn W1 dq) osq).cell? ⟨w.heap.size + 1, 1, none⟩ = some (.int .u64 (loOf s)) ∧ (grow (redrawn W1 dq) osq).cell? ⟨w.heap.size, 0, none⟩ = some (.int .u64 0) ∧ (grow (redrawn W1 dq) osq).cell? ⟨w.heap.size, 1, none⟩ = some (.int .u64 0) ∧ (grow (redrawn W1 dq) osq).cell? ⟨wr.heap.size, 0, none⟩ = some (.int .i64 u) ∧ (grow (redrawn W1 dq) osq).cell? ⟨wr.heap.size, 1, none⟩ = some (.int .i64 p) ∧ (grow (redrawn W1 dq) osq).frozen? ⟨w.heap.size, 0, none⟩ = false ∧ (grow (redrawn W1 dq) osq).frozen? ⟨w.heap.size, 1, none⟩ = false ∧ (grow (redrawn W1 dq) osq).frozen? ⟨w.heap.size + 1, 0, none⟩ = false ∧ (grow (redrawn W1 dq) osq).frozen? ⟨w.heap.size + 1, 1, none⟩ = false ∧ w.heap.size < (grow (redrawn W1 dq) osq).heap.size ∧ w.heap.size + 1 < (grow (redrawn W1 dq) osq).heap.size ∧ wr.heap.size < (grow (redrawn W1 dq) osq).heap.size ∧ Below w.heap.size w (grow (redrawn W1 dq) osq) := ⟨gc0 dq osq, gc1 dq osq, gc2 dq osq, gc3 dq osq, gc4 dq osq, gc5 dq osq, gf0 dq osq, gf1 dq osq, gf2 dq osq, gf3 dq osq, gz0 dq osq, gz1 dq osq, gz2 dq osq, bW1.trans ((below_regrown W1 dq osq).mono bW1.size)⟩; clear gc0 gc1 gc2 gc3 gc4 gc5 gf0 gf1 gf2 gf3 gz0 gz1 gz2 cW1_0 cW1_1 cW1_2 cW1_3 cW1_4 cW1_5 fW1_0 fW1_1 fW1_2 fW1_3 zW1_0 zW1_1 zW1_2 bW1; generalize grow (redrawn W1 dq) osq = W2 at *; obtain ⟨cW2_0, cW2_1, cW2_2, cW2_3, cW2_4, cW2_5, fW2_0, fW2_1, fW2_2, fW2_3, zW2_0, zW2_1, zW2_2, bW2⟩ := kW2
          refine wpAny_take (i := 7) (v := .agg #[.int .u64 (hiOf (s + pt * p)), .int .u64 (loOf (s + pt * p))]) rfl (by kernel_rfl) (by kernel_rfl) (by kernel_rfl) (fun _ _ _ h => h) (Or.inl ⟨by rfl, (by intro w; go_simp)⟩) ?_
          refine wpAny_take (i := 8) (v := .int .i64 0) rfl (by kernel_rfl) (by kernel_rfl) (by kernel_rfl) (fun _ _ _ h => h) (Or.inl ⟨by rfl, (by intro w; go_simp)⟩) ?_
          refine wpAny_ready (rs := [9]) (by kernel_rfl) (by simp) ?_; refine AllReady.cons rfl (fun K hK => ?_) AllReady.nil; go_simp; refine hK _ _ ?_; clear hK K
          refine wpAny_done (by kernel_rfl) ?_ _
          go_wp2
          go_roundw
          case rel => exact ⟨k + 1, u, s + pt * p, by omega, by go_num, rfl, Gs.out, by omega, by omega, by omega, by have := Gb.out; omega, Hok'.out, (by refine ⟨?_, ?_, ?_, ?_, ?_, ?_, ?_, ?_, ?_, ?_, ?_⟩ <;> first | (simp [go_sem, *]; done) | omega | (simp; omega) | exact (by repeat (first | exact Below.refl _ _ | refine Below.setCell ?_ (by first | (simp; done) | (simp; omega) | omega) _ | refine Below.alloc ?_ (by first | (simp; done) | (simp; omega) | omega) _ | refine Below.drew ?_ | assumption | refine Below.trans ?_ (Below.mono (by assumption) (by first | (simp; done) | (simp; omega) | omega)))))⟩
          case measure => simp [intOf]; omega
      · have part : partT ah u q = min (q - ah) (u - ah) := by unfold partT; rw [if_pos hu0]
        by_cases hqa : q ≤ ah
        · have e := byT_stop Hg.out Hs.out (by omega)
          have E := Lib.hid e
          clear e part
          go_wp2
          rw [E.out]
          exact bodyPost_ret (v := .agg #[.int .u64 (hiOf s), .int .u64 (loOf s)]) (by simp [results, Tryz.results102, go_sem, *]) rfl ⟨rfl, (by repeat (first | exact Below.refl _ _ | refine Below.setCell ?_ (by first | (simp; done) | (simp; omega) | omega) _ | refine Below.alloc ?_ (by first | (simp; done) | (simp; omega) | omega) _ | refine Below.drew ?_ | assumption | refine Below.trans ?_ (Below.mono (by assumption) (by first | (simp; done) | (simp; omega) | omega))))⟩
        · have gs := byT_step Hg.out Hs.out (by omega)
          rw [part] at gs
          clear part
          obtain ⟨pt, hpt⟩ : ∃ pt, pt = min (q - ah) (u - ah) := ⟨_, rfl⟩
          rw [← hpt] at gs
          have Gs := Lib.hid gs
          clear gs
          have hpt0 : 0 < pt := by omega
          have hpt1 : pt ≤ 1125899906842624 := by omega
          have i1 : In64 pt := by unfold In64; omega
          have i2 : In64 p := by unfold In64; omega
          have m := mul_50 (a := pt) (b := p) (by omega) (by omega) hp0 hp1
          have hs1' := Hs1.out
          have i3 : In128 s := by unfold In128; omega
          have i4 : In128 (pt * p) := by unfold In128; omega
          have i5 : In128 (s + pt * p) := by unfold In128; omega
          have Gb := Lib.hid (show s + pt * p ≤ ((k + 1 : Nat) : Int) * 1267650600228229401496703205376 by omega)
          have m0 := m.1
          clear hs1' m
          have Hpt := Lib.hid hpt
          clear hpt
          go_wp2
          rw [← Hpt.out]
          refine name_world ?_; intro W1 hW1; have kW1 : W1.cell? ⟨w.heap.size + 1, 0, none⟩ = some (.int .u64 (hiOf s)) ∧ W1.cell? ⟨w.heap.size + 1, 1, none⟩ = some (.int .u64 (loOf s)) ∧ W1.cell? ⟨w.heap.size, 0, none⟩ = some (.int .u64 0) ∧ W1.cell? ⟨w.heap.size, 1, none⟩ = some (.int .u64 0) ∧ W1.cell? ⟨wr.heap.size, 0, none⟩ = some (.int .i64 u) ∧ W1.cell? ⟨wr.heap.size, 1, none⟩ = some (.int .i64 p) ∧ W1.frozen? ⟨w.heap.size, 0, none⟩ = false ∧ W1.frozen? ⟨w.heap.size, 1, none⟩ = false ∧ W1.frozen? ⟨w.heap.size + 1, 0, none⟩ = false ∧ W1.frozen? ⟨w.heap.size + 1, 1, none⟩ = false ∧ w.heap.size < W1.heap.size ∧ w.heap.size + 1 < W1.heap.size ∧ wr.heap.size < W1.heap.size ∧ Below w.heap.size w W1 := by { rw [hW1]; exact (by refine ⟨?_, ?_, ?_, ?_, ?_, ?_, ?_, ?_, ?_, ?_, ?_, ?_, ?_, ?_⟩ <;> first | (simp [go_sem, *]; done) | omega | (simp; omega) | exact (by repeat (first | exact Below.refl _ _ | refine Below.setCell ?_ (by first | (simp; done) | (simp; omega) | omega) _ | refine Below.alloc ?_ (by first | (simp; done) | (simp; omega) | omega) _ | refine Below.drew ?_ | assumption | refine Below.trans ?_ (Below.mono (by assumption) (by first | (simp; done) | (simp; omega) | omega))))) }; clear hW1; obtain ⟨cW1_0, cW1_1, cW1_2, cW1_3, cW1_4, cW1_5, fW1_0, fW1_1, fW1_2, fW1_3, zW1_0, zW1_1, zW1_2, bW1⟩ := kW1
          have gc0 := grown_cell cW1_0; have gc1 := grown_cell cW1_1; have gc2 := grown_cell cW1_2; have gc3 := grown_cell cW1_3; have gc4 := grown_cell cW1_4; have gc5 := grown_cell cW1_5; have gf0 := grown_frozen fW1_0 zW1_0; have gf1 := grown_frozen fW1_1 zW1_0; have gf2 := grown_frozen fW1_2 zW1_1; have gf3 := grown_frozen fW1_3 zW1_1; have gz0 := grown_size zW1_0; have gz1 := grown_size zW1_1; have gz2 := grown_size zW1_2; refine wp_region_below_head 7 3 #[true, true, true, true, true, true, true, false, false, false] (by kernel_rfl) (by kernel_rfl) rfl ?_; (try simp only [List.take_succ_cons, List.take_zero]); (repeat (any_goals (first | go_big_quiet_step ((first | (go_at_call 69; exact Calls.regrown_of (mul_any _ _ i1 i2 _)) | (go_at_call 92; exact Calls.regrown_of (add_fits s (pt * p) i3 i4 i5 _)))) | quiet_step ((first | (go_at_call 69; exact Calls.regrown_of (mul_any _ _ i1 i2 _)) | (go_at_call 92; exact Calls.regrown_of (add_fits s (pt * p) i3 i4 i5 _))))))); refine wpQuiet_nil ?_; intro _ hw'; obtain ⟨⟨dq, osq⟩, hw''⟩ := hw'; subst hw''; have kW2 : (grow (redrawn W1 dq) osq).cell? ⟨w.heap.size + 1, 0, none⟩ = some (.int .u64 (hiOf s)) ∧ (grow (redrawn W1 dq) osq).cell? ⟨w.heap.size + 1, 1, none⟩ = some (.int .u64 (loOf s)) ∧ (grow (redrawn W1 dq) osq).cell? ⟨w.heap.size, 0, none⟩ = some (.int .u64 0) ∧ (grow (redrawn W1 dq) osq).cell? ⟨w.heap.size, 1, none⟩ = some (.int .u64 0) ∧ (grow (redrawn W1 dq) osq).cell? ⟨wr.heap.size, 0, none⟩ = some (.int .i64 u) ∧ (grow (redrawn W1 dq) osq).cell? ⟨wr.heap.size, 1, none⟩ = some (.int .i64 p) ∧ (grow (redrawn W1 dq) osq).frozen? ⟨w.heap.size, 0, none⟩ = false ∧ (grow (redrawn W1 dq) osq).frozen? ⟨w.heap.size, 1, none⟩ = false ∧ (grow (redrawn W1 dq) osq).frozen? ⟨w.heap.size + 1, 0, none⟩ = false ∧ (grow (redrawn W1 dq) osq).frozen? ⟨w.heap.size + 1, 1, none⟩ = false ∧ w.heap.size < (grow (redrawn W1 dq) osq).heap.size ∧ w.heap.size + 1 < (grow (redrawn W1 dq) osq).heap.size ∧ wr.heap.size < (grow (redrawn W1 dq) osq).heap.size ∧ Below w.heap.size w (grow (redrawn W1 dq) osq) := ⟨gc0 dq osq, gc1 dq osq, gc2 dq osq, gc3 dq osq, gc4 dq osq, gc5 dq osq, gf0 dq osq, gf1 dq osq, gf2 dq osq, gf3 dq osq, gz0 dq osq, gz1 dq osq, gz2 dq osq, bW1.trans ((below_regrown W1 dq osq).mono bW1.size)⟩; clear gc0 gc1 gc2 gc3 gc4 gc5 gf0 gf1 gf2 gf3 gz0 gz1 gz2 cW1_0 cW1_1 cW1_2 cW1_3 cW1_4 cW1_5 fW1_0 fW1_1 fW1_2 fW1_3 zW1_0 zW1_1 zW1_2 bW1; generalize grow (redrawn W1 dq) osq = W2 at *; obtain ⟨cW2_0, cW2_1, cW2_2, cW2_3, cW2_4, cW2_5, fW2_0, fW2_1, fW2_2, fW2_3, zW2_0, zW2_1, zW2_2, bW2⟩ := kW2
          refine wpAny_take (i := 7) (v := .agg #[.int .u64 (hiOf (s + pt * p)), .int .u64 (loOf (s + pt * p))]) rfl (by kernel_rfl) (by kernel_rfl) (by kernel_rfl) (fun _ _ _ h => h) (Or.inl ⟨by rfl, (by intro w; go_simp)⟩) ?_
          refine wpAny_take (i := 8) (v := .int .i64 0) rfl (by kernel_rfl) (by kernel_rfl) (by kernel_rfl) (fun _ _ _ h => h) (Or.inl ⟨by rfl, (by intro w; go_simp)⟩) ?_
          refine wpAny_ready (rs := [9]) (by kernel_rfl) (by simp) ?_; refine AllReady.cons rfl (fun K hK => ?_) AllReady.nil; go_simp; refine hK _ _ ?_; clear hK K
          refine wpAny_done (by kernel_rfl) ?_ _
          go_wp2
          go_roundw
          case rel => exact ⟨k + 1, u, s + pt * p, by omega, by go_num, rfl, Gs.out, by omega, by omega, by omega, by have := Gb.out; omega, Hok'.out, (by refine ⟨?_, ?_, ?_, ?_, ?_, ?_, ?_, ?_, ?_, ?_, ?_⟩ <;> first | (simp [go_sem, *]; done) | omega | (simp; omega) | exact (by repeat (first | exact Below.refl _ _ | refine Below.setCell ?_ (by first | (simp; done) | (simp; omega) | omega) _ | refine Below.alloc ?_ (by first | (simp; done) | (simp; omega) | omega) _ | refine Below.drew ?_ | assumption | refine Below.trans ?_ (Below.mono (by assumption) (by first | (simp; done) | (simp; omega) | omega)))))⟩
          case measure => simp [intOf]; omega
    · have hkn : k = n := by omega
      subst hkn
      have e := byT_end HL.out Hs.out
      have E := Lib.hid e
      clear e
      go_wp2
      rw [E.out]
      exact bodyPost_ret (v := .agg #[.int .u64 (hiOf s), .int .u64 (loOf s)]) (by simp [results, Tryz.results102, go_sem, *]) rfl ⟨rfl, (by repeat (first | exact Below.refl _ _ | refine Below.setCell ?_ (by first | (simp; done) | (simp; omega) | omega) _ | refine Below.alloc ?_ (by first | (simp; done) | (simp; omega) | omega) _ | refine Below.drew ?_ | assumption | refine Below.trans ?_ (Below.mono (by assumption) (by first | (simp; done) | (simp; omega) | omega))))⟩
end Go.Proofs.YtdpoahfjiomhbaaGreatDoor

/-
  Contract of tier.byVolume.
-/
namespace Go.Proofs.YtdpoahfjiomhbaaGreatDoor
set_option linter.all false
open Go.RowKit Go.Sort
attribute [local go_sem] cell_set_self lt_1 lt_2 lt_3 lt_4 lt_5 lt_6




set_option maxHeartbeats 1000000 in
theorem byVolume_any (A : Option Addr) (n c : Nat) (l : List (Int × Int)) (q : Int) (hl : l.length = n) (hn : n ≤ 20) (hq0 : 0 ≤ q) (hq : q ≤ 1125899906842624) (hok : okFrom 0 l = true) (w : World) (T : Tiers w A l) :
    Calls Tryz.prog 103 #[.slice A n c, .int .i64 q] w fun e w' => e = .returned (.agg #[.int .u64 (hiOf (byV l q)), .int .u64 (loOf (byV l q))]) ∧ Below w.heap.size w w' := by
  have HL := Lib.hid hl
  clear hl
  have HK := Lib.hid hok
  clear hok
  go_enter Tryz.func103, Tryz.ntmps103
  go_wp2
  go_loopw [9] (fun i wr => ∃ (k : Nat) (ah : Int), k ≤ n ∧ i = .int .i64 k ∧ byV (l.drop k) q = byV l q ∧ okFrom ah (l.drop k) = true ∧
     wr.cell? ⟨w.heap.size, 0, none⟩ = some (.int .u64 0) ∧ wr.cell? ⟨w.heap.size, 1, none⟩ = some (.int .u64 0) ∧ wr.frozen? ⟨w.heap.size, 0, none⟩ = false ∧ wr.frozen? ⟨w.heap.size, 1, none⟩ = false ∧ w.heap.size < wr.heap.size ∧ Below w.heap.size w wr) (fun i _ => n - (intOf i).toNat)
  case atStart => exact ⟨0, 0, Nat.zero_le _, rfl, rfl, by simpa using HK.out, (by refine ⟨?_, ?_, ?_, ?_, ?_, ?_⟩ <;> first | (simp [go_sem, *]; done) | omega | (simp; omega) | exact (by repeat (first | exact Below.refl _ _ | refine Below.setCell ?_ (by first | (simp; done) | (simp; omega) | omega) _ | refine Below.alloc ?_ (by first | (simp; done) | (simp; omega) | omega) _ | refine Below.drew ?_ | assumption | refine Below.trans ?_ (Below.mono (by assumption) (by first | (simp; done) | (simp; omega) | omega)))))⟩
  case round =>
    obtain ⟨k, ah, hk, rfl, hs, hok, c2, c3, f0, f1, z0, hB⟩ := hrel
    have Hs := Lib.hid hs; have Hok := Lib.hid hok
    clear hs hok
    by_cases hlt : k < n
    · have hg : l[k]? = some (l[k]'(by have := HL.out; omega)) := List.getElem?_eq_getElem _
      obtain ⟨⟨u, p⟩, hup⟩ : ∃ t, t = (l[k]'(by have := HL.out; omega)) := ⟨_, rfl⟩
      rw [← hup] at hg
      obtain ⟨b, off, hA, hbs, hc0, hc1⟩ := T k (u, p) hg
      subst hA
      have q0 : wr.cell? ⟨b, off + k * 2, none⟩ = some (.int .i64 u) := (hB.cell (p := ⟨b, off + k * 2, none⟩) hbs).trans hc0
      have q1 : wr.cell? ⟨b, off + k * 2 + 1, none⟩ = some (.int .i64 p) := (hB.cell (p := ⟨b, off + k * 2 + 1, none⟩) hbs).trans hc1
      obtain ⟨hpos, hp0, hp1, hok'⟩ := tier_facts hg Hok.out
      rw [HL.out] at hpos
      have Hok' := Lib.hid hok'; have Hg := Lib.hid hg
      clear hok' hg hup hc0 hc1 T HK Hok hpos
      have i1 : In64 q := by unfold In64; omega
      have i2 : In64 p := by unfold In64; omega
      by_cases hqu : q ≤ u
      · have E := Lib.hid ((byV_hit (q := q) Hg.out (.inl hqu)).symm.trans Hs.out)
        go_wp2_with (first | (go_at_call 69; refine (mul_any _ _ i1 i2 _).mono ?_; rintro e w1 ⟨rfl, hb1⟩; obtain ⟨hc1, hf1⟩ := bcell hb1; have hs1 := hb1.size; (try simp at hs1); have hz1 : w.heap.size < w1.heap.size := by have := hb1.size; (try simp at this); omega))
        rw [← E.out]
        exact bodyPost_ret (v := .agg #[.int .u64 (hiOf (q * p)), .int .u64 (loOf (q * p))]) (by simp [results, Tryz.results103, go_sem, *]) rfl ⟨rfl, (by repeat (first | exact Below.refl _ _ | refine Below.setCell ?_ (by first | (simp; done) | (simp; omega) | omega) _ | refine Below.alloc ?_ (by first | (simp; done) | (simp; omega) | omega) _ | refine Below.drew ?_ | assumption | refine Below.trans ?_ (Below.mono (by assumption) (by first | (simp; done) | (simp; omega) | omega))))⟩
      · by_cases hu : u = 0
        · have E := Lib.hid ((byV_hit (q := q) Hg.out (.inr hu)).symm.trans Hs.out)
          have d0 : (u == 0) = true := by simp [hu]
          clear hu
          go_wp2_with (first | (go_at_call 69; refine (mul_any _ _ i1 i2 _).mono ?_; rintro e w1 ⟨rfl, hb1⟩; obtain ⟨hc1, hf1⟩ := bcell hb1; have hs1 := hb1.size; (try simp at hs1); have hz1 : w.heap.size < w1.heap.size := by have := hb1.size; (try simp at this); omega))
          rw [← E.out]
          exact bodyPost_ret (v := .agg #[.int .u64 (hiOf (q * p)), .int .u64 (loOf (q * p))]) (by simp [results, Tryz.results103, go_sem, *]) rfl ⟨rfl, (by repeat (first | exact Below.refl _ _ | refine Below.setCell ?_ (by first | (simp; done) | (simp; omega) | omega) _ | refine Below.alloc ?_ (by first | (simp; done) | (simp; omega) | omega) _ | refine Below.drew ?_ | assumption | refine Below.trans ?_ (Below.mono (by assumption) (by first | (simp; done) | (simp; omega) | omega))))⟩
        · have E := Lib.hid ((byV_miss (q := q) Hg.out hqu hu).symm.trans Hs.out)
          have d0 : (u == 0) = false := by simp [hu]
          clear hu
          go_wp2
          go_roundw
          case rel => exact ⟨k + 1, u, by omega, by go_num, E.out, Hok'.out, (by refine ⟨?_, ?_, ?_, ?_, ?_, ?_⟩ <;> first | (simp [go_sem, *]; done) | omega | (simp; omega) | exact (by repeat (first | exact Below.refl _ _ | refine Below.setCell ?_ (by first | (simp; done) | (simp; omega) | omega) _ | refine Below.alloc ?_ (by first | (simp; done) | (simp; omega) | omega) _ | refine Below.drew ?_ | assumption | refine Below.trans ?_ (Below.mono (by assumption) (by first | (simp; done) | (simp; omega) | omega)))))⟩
          case measure => simp [intOf]; omega
    · have hkn : k = n := by omega
      subst hkn
      have e : byV l q = 0 := by rw [← Hs.out, List.drop_of_length_le (by rw [HL.out]; exact Nat.le_refl _)]; rfl
      have E := Lib.hid e
      clear e
      have q1 := hiOf_0
      have q2 := loOf_0
      go_wp2
      rw [E.out]
      exact bodyPost_ret (v := .agg #[.int .u64 (hiOf 0), .int .u64 (loOf 0)]) (by simp [results, Tryz.results103, go_sem, *]) rfl ⟨rfl, (by repeat (first | exact Below.refl _ _ | refine Below.setCell ?_ (by first | (simp; done) | (simp; omega) | omega) _ | refine Below.alloc ?_ (by first | (simp; done) | (simp; omega) | omega) _ | refine Below.drew ?_ | assumption | refine Below.trans ?_ (Below.mono (by assumption) (by first | (simp; done) | (simp; omega) | omega))))⟩
end Go.Proofs.YtdpoahfjiomhbaaGreatDoor

/-
  Contracts of tier.priced, tier.Tiered, tier.Volume, tier.Flat, tier.Prorate, tier.Percent.
-/
namespace Go.Proofs.YtdpoahfjiomhbaaGreatDoor
set_option linter.all false
open Go.RowKit Go.Sort
attribute [local go_sem] cell_set_self lt_1 lt_2 lt_3 lt_4 lt_5 lt_6



theorem Tiers.below {w W : World} {A : Option Addr} {l : List (Int × Int)} (T : Tiers w A l) (h : Below w.heap.size w W) : Tiers W A l := fun i t hi => by
  obtain ⟨b, off, hA, hb, h0, h1⟩ := T i t hi
  exact ⟨b, off, hA, Nat.lt_of_lt_of_le hb h.size, (h.cell (p := ⟨b, off + i * 2, none⟩) hb).trans h0, (h.cell (p := ⟨b, off + i * 2 + 1, none⟩) hb).trans h1⟩

set_option maxHeartbeats 1000000 in
/-- tier.priced, by tier.byTiers. -/
theorem priced_T (A : Option Addr) (n c : Nat) (l : List (Int × Int)) (q : Int) (hl : l.length = n) (hn : n ≤ 1000000) (hq : In64 q) (w : World) (T : Tiers w A l) :
    Calls Tryz.prog 101 #[.slice A n c, .int .i64 q, .func (.func 102) #[] #[]] w fun e w' => e = .returned (.tuple #[.int .i64 (priceN l q (byT l 0 q)), .int .i64 (priceE l q (byT l 0 q))]) ∧ Below w.heap.size w w' := by
  have ck := check_any A n c l hl hn w T
  have CK := Lib.hid ck; clear ck
  rcases chk_cases l with h | h | ⟨h, h1, h2, hok⟩
  · have e1 : priceN l q (byT l 0 q) = 0 := by unfold priceN; rw [if_neg (by omega)]
    have e2 : priceE l q (byT l 0 q) = 9 := by unfold priceE; rw [if_neg (by omega), h]
    rw [e1, e2]
    rw [h] at CK
    clear e1 e2 h
    go_enter Tryz.func101, Tryz.ntmps101
    go_wp2_with (first | (go_at_call 55; refine (CK.out).mono ?_; rintro e w1 ⟨rfl, hb1⟩; obtain ⟨hc1, hf1⟩ := bcell hb1; have hs1 := hb1.size; (try simp at hs1)))
    go_ret2
    exact ⟨rfl, (by repeat (first | exact Below.refl _ _ | refine Below.setCell ?_ (by first | (simp; done) | (simp; omega) | omega) _ | refine Below.alloc ?_ (by first | (simp; done) | (simp; omega) | omega) _ | refine Below.drew ?_ | assumption | refine Below.trans ?_ (Below.mono (by assumption) (by first | (simp; done) | (simp; omega) | omega))))⟩
  · have e1 : priceN l q (byT l 0 q) = 0 := by unfold priceN; rw [if_neg (by omega)]
    have e2 : priceE l q (byT l 0 q) = 6 := by unfold priceE; rw [if_neg (by omega), h]
    rw [e1, e2]
    rw [h] at CK
    clear e1 e2 h
    go_enter Tryz.func101, Tryz.ntmps101
    go_wp2_with (first | (go_at_call 55; refine (CK.out).mono ?_; rintro e w1 ⟨rfl, hb1⟩; obtain ⟨hc1, hf1⟩ := bcell hb1; have hs1 := hb1.size; (try simp at hs1)))
    go_ret2
    exact ⟨rfl, (by repeat (first | exact Below.refl _ _ | refine Below.setCell ?_ (by first | (simp; done) | (simp; omega) | omega) _ | refine Below.alloc ?_ (by first | (simp; done) | (simp; omega) | omega) _ | refine Below.drew ?_ | assumption | refine Below.trans ?_ (Below.mono (by assumption) (by first | (simp; done) | (simp; omega) | omega))))⟩
  · rw [h] at CK
    by_cases hr : 0 ≤ q ∧ q ≤ 1125899906842624
    · have e1 : priceN l q (byT l 0 q) = unitsN (rhe (byT l 0 q) 1000000) := by unfold priceN; rw [if_pos ⟨h, hr⟩]
      have e2 : priceE l q (byT l 0 q) = unitsE (rhe (byT l 0 q) 1000000) := by unfold priceE; rw [if_pos h, if_pos hr]
      rw [e1, e2]
      obtain ⟨r0, r1⟩ := hr
      have bd := byT_in l q r0 r1 h2 hok
      have i1 : In128 (byT l 0 q) := by unfold In128; omega
      have rb := rheA_bd (byT l 0 q) 1000000 bd.1 (by omega)
      have i2 : In128 (rhe (byT l 0 q) 1000000) := by unfold rhe; rw [if_neg (by omega)]; unfold In128; omega
      have i3 : In64 1000000 := by unfold In64; omega
      have TH := Lib.hid T
      have bt := fun (W : World) (T' : Tiers W A l) => byTiers_any A n c l q hl (by omega) r0 r1 hok W T'
      have BT := Lib.hid bt
      have tb := fun (W : World) (hb : Below w.heap.size w W) => T.below hb
      have TB := Lib.hid tb
      clear T tb bt e1 e2 h h1 h2 hok bd rb
      go_enter Tryz.func101, Tryz.ntmps101
      go_wp2_with (first | (go_at_call 55; refine (CK.out).mono ?_; rintro e w1 ⟨rfl, hb1⟩; obtain ⟨hc1, hf1⟩ := bcell hb1; have hs1 := hb1.size; (try simp at hs1)) | (go_at_call 102; refine (BT.out _ (TB.out _ (by assumption))).mono ?_; rintro e w2 ⟨rfl, hb2⟩; obtain ⟨hc2, hf2⟩ := bcell hb2; have hs2 := hb2.size; (try simp at hs2)) | (go_at_call 89; refine (divEven_any _ _ i1 i3 (by omega) _).mono ?_; rintro e w3 ⟨rfl, hb3⟩; obtain ⟨hc3, hf3⟩ := bcell hb3; have hs3 := hb3.size; (try simp at hs3)) | (go_at_call 104; refine (units_any _ i2 _).mono ?_; rintro e w4 ⟨rfl, hb4⟩; obtain ⟨hc4, hf4⟩ := bcell hb4; have hs4 := hb4.size; (try simp at hs4)))
      go_ret2
      exact ⟨rfl, (by repeat (first | exact Below.refl _ _ | refine Below.setCell ?_ (by first | (simp; done) | (simp; omega) | omega) _ | refine Below.alloc ?_ (by first | (simp; done) | (simp; omega) | omega) _ | refine Below.drew ?_ | assumption | refine Below.trans ?_ (Below.mono (by assumption) (by first | (simp; done) | (simp; omega) | omega))))⟩
    · have e1 : priceN l q (byT l 0 q) = 0 := by unfold priceN; rw [if_neg (fun k => hr k.2)]
      have e2 : priceE l q (byT l 0 q) = 6 := by unfold priceE; rw [if_pos h, if_neg hr]
      rw [e1, e2]
      rcases (show q < 0 ∨ 1125899906842624 < q by omega) with r | r
      all_goals
        clear e1 e2 h h1 h2 hr hok
        go_enter Tryz.func101, Tryz.ntmps101
        go_wp2_with (first | (go_at_call 55; refine (CK.out).mono ?_; rintro e w1 ⟨rfl, hb1⟩; obtain ⟨hc1, hf1⟩ := bcell hb1; have hs1 := hb1.size; (try simp at hs1)))
        go_ret2
        exact ⟨rfl, (by repeat (first | exact Below.refl _ _ | refine Below.setCell ?_ (by first | (simp; done) | (simp; omega) | omega) _ | refine Below.alloc ?_ (by first | (simp; done) | (simp; omega) | omega) _ | refine Below.drew ?_ | assumption | refine Below.trans ?_ (Below.mono (by assumption) (by first | (simp; done) | (simp; omega) | omega))))⟩

set_option maxHeartbeats 1000000 in
/-- tier.priced, by tier.byVolume. -/
theorem priced_V (A : Option Addr) (n c : Nat) (l : List (Int × Int)) (q : Int) (hl : l.length = n) (hn : n ≤ 1000000) (hq : In64 q) (w : World) (T : Tiers w A l) :
    Calls Tryz.prog 101 #[.slice A n c, .int .i64 q, .func (.func 103) #[] #[]] w fun e w' => e = .returned (.tuple #[.int .i64 (priceN l q (byV l q)), .int .i64 (priceE l q (byV l q))]) ∧ Below w.heap.size w w' := by
  have ck := check_any A n c l hl hn w T
  have CK := Lib.hid ck; clear ck
  rcases chk_cases l with h | h | ⟨h, h1, h2, hok⟩
  · have e1 : priceN l q (byV l q) = 0 := by unfold priceN; rw [if_neg (by omega)]
    have e2 : priceE l q (byV l q) = 9 := by unfold priceE; rw [if_neg (by omega), h]
    rw [e1, e2]
    rw [h] at CK
    clear e1 e2 h
    go_enter Tryz.func101, Tryz.ntmps101
    go_wp2_with (first | (go_at_call 55; refine (CK.out).mono ?_; rintro e w1 ⟨rfl, hb1⟩; obtain ⟨hc1, hf1⟩ := bcell hb1; have hs1 := hb1.size; (try simp at hs1)))
    go_ret2
    exact ⟨rfl, (by repeat (first | exact Below.refl _ _ | refine Below.setCell ?_ (by first | (simp; done) | (simp; omega) | omega) _ | refine Below.alloc ?_ (by first | (simp; done) | (simp; omega) | omega) _ | refine Below.drew ?_ | assumption | refine Below.trans ?_ (Below.mono (by assumption) (by first | (simp; done) | (simp; omega) | omega))))⟩
  · have e1 : priceN l q (byV l q) = 0 := by unfold priceN; rw [if_neg (by omega)]
    have e2 : priceE l q (byV l q) = 6 := by unfold priceE; rw [if_neg (by omega), h]
    rw [e1, e2]
    rw [h] at CK
    clear e1 e2 h
    go_enter Tryz.func101, Tryz.ntmps101
    go_wp2_with (first | (go_at_call 55; refine (CK.out).mono ?_; rintro e w1 ⟨rfl, hb1⟩; obtain ⟨hc1, hf1⟩ := bcell hb1; have hs1 := hb1.size; (try simp at hs1)))
    go_ret2
    exact ⟨rfl, (by repeat (first | exact Below.refl _ _ | refine Below.setCell ?_ (by first | (simp; done) | (simp; omega) | omega) _ | refine Below.alloc ?_ (by first | (simp; done) | (simp; omega) | omega) _ | refine Below.drew ?_ | assumption | refine Below.trans ?_ (Below.mono (by assumption) (by first | (simp; done) | (simp; omega) | omega))))⟩
  · rw [h] at CK
    by_cases hr : 0 ≤ q ∧ q ≤ 1125899906842624
    · have e1 : priceN l q (byV l q) = unitsN (rhe (byV l q) 1000000) := by unfold priceN; rw [if_pos ⟨h, hr⟩]
      have e2 : priceE l q (byV l q) = unitsE (rhe (byV l q) 1000000) := by unfold priceE; rw [if_pos h, if_pos hr]
      rw [e1, e2]
      obtain ⟨r0, r1⟩ := hr
      have bd := byV_in q r0 r1 l (fun t ht => okFrom_price (u := t.1) (p := t.2) hok ht)
      have i1 : In128 (byV l q) := by unfold In128; omega
      have rb := rheA_bd (byV l q) 1000000 bd.1 (by omega)
      have i2 : In128 (rhe (byV l q) 1000000) := by unfold rhe; rw [if_neg (by omega)]; unfold In128; omega
      have i3 : In64 1000000 := by unfold In64; omega
      have TH := Lib.hid T
      have bt := fun (W : World) (T' : Tiers W A l) => byVolume_any A n c l q hl (by omega) r0 r1 hok W T'
      have BT := Lib.hid bt
      have tb := fun (W : World) (hb : Below w.heap.size w W) => T.below hb
      have TB := Lib.hid tb
      clear T tb bt e1 e2 h h1 h2 hok bd rb
      go_enter Tryz.func101, Tryz.ntmps101
      go_wp2_with (first | (go_at_call 55; refine (CK.out).mono ?_; rintro e w1 ⟨rfl, hb1⟩; obtain ⟨hc1, hf1⟩ := bcell hb1; have hs1 := hb1.size; (try simp at hs1)) | (go_at_call 103; refine (BT.out _ (TB.out _ (by assumption))).mono ?_; rintro e w2 ⟨rfl, hb2⟩; obtain ⟨hc2, hf2⟩ := bcell hb2; have hs2 := hb2.size; (try simp at hs2)) | (go_at_call 89; refine (divEven_any _ _ i1 i3 (by omega) _).mono ?_; rintro e w3 ⟨rfl, hb3⟩; obtain ⟨hc3, hf3⟩ := bcell hb3; have hs3 := hb3.size; (try simp at hs3)) | (go_at_call 104; refine (units_any _ i2 _).mono ?_; rintro e w4 ⟨rfl, hb4⟩; obtain ⟨hc4, hf4⟩ := bcell hb4; have hs4 := hb4.size; (try simp at hs4)))
      go_ret2
      exact ⟨rfl, (by repeat (first | exact Below.refl _ _ | refine Below.setCell ?_ (by first | (simp; done) | (simp; omega) | omega) _ | refine Below.alloc ?_ (by first | (simp; done) | (simp; omega) | omega) _ | refine Below.drew ?_ | assumption | refine Below.trans ?_ (Below.mono (by assumption) (by first | (simp; done) | (simp; omega) | omega))))⟩
    · have e1 : priceN l q (byV l q) = 0 := by unfold priceN; rw [if_neg (fun k => hr k.2)]
      have e2 : priceE l q (byV l q) = 6 := by unfold priceE; rw [if_pos h, if_neg hr]
      rw [e1, e2]
      rcases (show q < 0 ∨ 1125899906842624 < q by omega) with r | r
      all_goals
        clear e1 e2 h h1 h2 hr hok
        go_enter Tryz.func101, Tryz.ntmps101
        go_wp2_with (first | (go_at_call 55; refine (CK.out).mono ?_; rintro e w1 ⟨rfl, hb1⟩; obtain ⟨hc1, hf1⟩ := bcell hb1; have hs1 := hb1.size; (try simp at hs1)))
        go_ret2
        exact ⟨rfl, (by repeat (first | exact Below.refl _ _ | refine Below.setCell ?_ (by first | (simp; done) | (simp; omega) | omega) _ | refine Below.alloc ?_ (by first | (simp; done) | (simp; omega) | omega) _ | refine Below.drew ?_ | assumption | refine Below.trans ?_ (Below.mono (by assumption) (by first | (simp; done) | (simp; omega) | omega))))⟩
end Go.Proofs.YtdpoahfjiomhbaaGreatDoor
