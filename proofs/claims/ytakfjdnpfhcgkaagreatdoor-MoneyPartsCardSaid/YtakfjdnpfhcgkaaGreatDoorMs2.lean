/-
  The stable sort of indices by the closure of Allocate: contracts of swapRange, rotate.
-/
import Derived.Test.YtakfjdnpfhcgkaaGreatDoorMs1
import Derived.Test.YtakfjdnpfhcgkaaGreatDoorMq5
import Derived.BigRegion
namespace Go.Proofs.YtakfjdnpfhcgkaaGreatDoor
set_option linter.all false
open Go.RowKit Go.Sort
attribute [local go_sem] cell_set_self lt_1 lt_2 lt_3 lt_4 lt_5 lt_6

def RowI (W : World) (h : Nat) (f : Nat → Nat) (n : Nat) : Prop := h < W.heap.size ∧ ∀ j, j < n → W.cell? ⟨h, j, none⟩ = some (.int .i64 (f j : Int)) ∧ W.frozen? ⟨h, j, none⟩ = false ∧ f j < n
theorem grown_below {w w' : World} (h : Below w.heap.size w w') (row : Option Nat) : w.grownBy w' row := ⟨h.os, h.tape, h.output, h.size, fun k hk _ => h.block k hk⟩
theorem grown_set (w : World) (h j : Nat) (v : Value) : w.grownBy (w.setCell ⟨h, j, none⟩ v) (some h) := by
  have b := Below.setCell (Below.refl 0 w) (p := ⟨h, j, none⟩) (Nat.zero_le _) v
  exact ⟨b.os, b.tape, b.output, b.size, fun k hk hne => Below.heap_setCell w _ v k (fun e => hne (by rw [e]))⟩
theorem grown_drewS (w : World) (row : Option Nat) : w.grownBy w.drew row := ⟨rfl, rfl, rfl, Nat.le_refl _, fun _ _ _ => rfl⟩
theorem RowI.drew {W : World} {h n : Nat} {f : Nat → Nat} (r : RowI W h f n) : RowI W.drew h f n := r
theorem RowI.below {W W' : World} {h n : Nat} {f : Nat → Nat} (r : RowI W h f n) (hb : Below W.heap.size W W') : RowI W' h f n :=
  ⟨Nat.lt_of_lt_of_le r.1 hb.size, fun j hj => ⟨(hb.cell (p := ⟨h, j, none⟩) r.1).trans (r.2 j hj).1, (World.frozen?_of_block (hb.block h r.1)).trans (r.2 j hj).2.1, (r.2 j hj).2.2⟩⟩
theorem RowI.swap {W : World} {h n : Nat} {f : Nat → Nat} (r : RowI W h f n) {i k : Nat} (hi : i < n) (hk : k < n) (hne : i ≠ k) : RowI ((W.setCell ⟨h, i, none⟩ (.int .i64 (f k : Int))).setCell ⟨h, k, none⟩ (.int .i64 (f i : Int))) h (swp f i k) n := by
  refine ⟨by simpa using r.1, fun j hj => ?_⟩
  obtain ⟨c, fz, v⟩ := r.2 j hj
  obtain ⟨ci, _, vi⟩ := r.2 i hi
  obtain ⟨ck, _, vk⟩ := r.2 k hk
  unfold swp
  refine ⟨?_, by simpa [go_sem] using fz, by split; exact vk; split; exact vi; exact v⟩
  by_cases h1 : j = i
  · subst h1
    rw [if_pos rfl]
    simp [go_sem, c, ck, hne]
  · by_cases h2 : j = k
    · subst h2
      rw [if_neg h1, if_pos rfl]
      simp [go_sem, c, ci, h1]
    · rw [if_neg h1, if_neg h2]
      simp [go_sem, c, h1, h2]
/-- The closure that sorts: bound to the cell of the rests. -/
def cloV (bL : Nat) : Value := .func (.func 20) #[] #[.pointer (some ⟨bL, 0, none⟩)]
set_option maxHeartbeats 4000000 in
set_option maxRecDepth 100000 in
theorem swapRange_any (h n c bL a b k : Nat) (f : Nat → Nat) (hab : a + k ≤ b) (hb : b + k ≤ n) (hn : n ≤ 1000000) (w : World) (R : RowI w h f n) :
    Calls Tryz.prog 113 #[.slice (some ⟨h, 0, none⟩) n c, .int .i64 a, .int .i64 b, .int .i64 k, cloV bL] w fun e w' => e = .returned (.tuple #[]) ∧ w.grownBy w' (some h) ∧ RowI w' h (swr f a b k) n := by
  have HR := Lib.hid R
  clear R
  go_enter Tryz.func113, Tryz.ntmps113
  go_wp2
  go_loopw [10] (fun i wr => ∃ K : Nat, K ≤ k ∧ i = .int .i64 K ∧ Hid (w.grownBy wr (some h)) ∧ Hid (RowI wr h (swr f a b K) n)) (fun i _ => k - (intOf i).toNat)
  case atStart => exact ⟨0, by omega, rfl, Lib.hid (grown_below (Below.refl _ _) _), by rw [swr_0]; exact HR⟩
  case round =>
    obtain ⟨K, hK, rfl, HG, HI⟩ := hrel
    obtain ⟨wo, rfl⟩ : ∃ wo : World, wo = wr := ⟨_, rfl⟩
    by_cases hlt : K < k
    · have hlt' : (K : Int) < (k : Int) := by omega
      have ha : a + K < n := by omega
      have hbk : b + K < n := by omega
      have ha' : (a : Int) + K < (n : Int) := by omega
      have hb' : (b : Int) + K < (n : Int) := by omega
      obtain ⟨c1, f1, _⟩ := HI.out.2 (a + K) ha
      obtain ⟨c2, f2, _⟩ := HI.out.2 (b + K) hbk
      have NX := Lib.hid (HI.out.swap ha hbk (by omega))
      have hbo := HI.out.1
      generalize (swr f a b K (a + K)) = x at *
      generalize (swr f a b K (b + K)) = y at *
      rw [swr_succ (by omega)] at NX
      go_wp2_with (fail)
      go_big_region
      all_goals go_wp2
      go_roundw
      case rel => exact ⟨K + 1, by omega, by go_num, Lib.hid (((HG.out.trans (grown_set _ _ _ _)).trans (grown_set _ _ _ _)).trans (grown_drewS _ _)), Lib.hid NX.out.drew⟩
      case measure => first | (simp [intOf]; done) | (simp [intOf]; omega)
    · obtain rfl : K = k := by omega
      have hlt' : ¬ (K : Int) < (K : Int) := by omega
      go_wp2
      first
        | (refine bodyPost_ret (results_none rfl _ _ _) rfl ?_; exact ⟨rfl, HG.out, HI.out⟩)
        | (refine bodyPost_end (results_none rfl _ _ _) rfl ?_; exact ⟨rfl, HG.out, HI.out⟩)

set_option maxHeartbeats 4000000 in
set_option maxRecDepth 100000 in
theorem rotate_any (h n c bL a m b : Nat) (f : Nat → Nat) (ham : a < m) (hmb : m < b) (hb : b ≤ n) (hn : n ≤ 1000000) (w : World) (R : RowI w h f n) :
    Calls Tryz.prog 95 #[.slice (some ⟨h, 0, none⟩) n c, .int .i64 a, .int .i64 m, .int .i64 b, cloV bL] w fun e w' => e = .returned (.tuple #[]) ∧ w.grownBy w' (some h) ∧ RowI w' h (rot f a m b) n := by
  have HR := Lib.hid R
  have SW := Lib.hid (fun (p q k : Nat) (g : Nat → Nat) (h1 : p + k ≤ q) (h2 : q + k ≤ n) W (hr : RowI W h g n) => swapRange_any h n c bL p q k g h1 h2 hn W hr)
  clear R
  unfold cloV at *
  obtain ⟨i0, hi0⟩ : ∃ i0 : Nat, m - a = i0 := ⟨_, rfl⟩
  obtain ⟨j0, hj0⟩ : ∃ j0 : Nat, b - m = j0 := ⟨_, rfl⟩
  have hi : (m : Int) - (a : Int) = (i0 : Int) := by omega
  have hj : (b : Int) - (m : Int) = (j0 : Int) := by omega
  have hiw : IntKind.i64.wrap (i0 : Int) = (i0 : Int) := by rw [IntKind.wrap_i64]; omega
  have hjw : IntKind.i64.wrap (j0 : Int) = (j0 : Int) := by rw [IntKind.wrap_i64]; omega
  go_enter Tryz.func95, Tryz.ntmps95
  go_wp2
  go_loopw [10, 11] (fun i j wr => ∃ (I J : Nat) (g : Nat → Nat), i = .int .i64 I ∧ j = .int .i64 J ∧ (0 < I ∧ 0 < J ∧ I ≤ m ∧ m + J ≤ n) ∧ Hid (w.grownBy wr (some h)) ∧ Hid (RowI wr h g n) ∧ Hid (rot g (m - I) m (m + J) = rot f a m b)) (fun i j _ => (intOf i).toNat + (intOf j).toNat)
  case atStart => exact ⟨i0, j0, f, rfl, rfl, by omega, Lib.hid (grown_below (Below.refl _ _) _), HR, Lib.hid (by rw [show m - i0 = a by omega, show m + j0 = b by omega])⟩
  case round =>
    obtain ⟨I, J, g, rfl, rfl, ⟨I0, J0, I1, J1⟩, HG, HI, HT⟩ := hrel
    obtain ⟨wo, rfl⟩ : ∃ wo : World, wo = wr := ⟨_, rfl⟩
    obtain ⟨p, hp⟩ : ∃ p : Nat, m - I = p := ⟨_, rfl⟩
    have hpi : (m : Int) - (I : Int) = (p : Int) := by omega
    have hpw : IntKind.i64.wrap (p : Int) = (p : Int) := by rw [IntKind.wrap_i64]; omega
    clear hi hj hiw hjw
    by_cases he : I = J
    · subst he
      have S := Lib.hid (SW.out p m I g (by omega) (by omega) _ HI.out)
      have FIN : Hid (swr g p m I = rot f a m b) := Lib.hid (by rw [← HT.out, rot_eq_swr I1, hp])
      have e1 : ((I : Int) != (I : Int)) = false := by simp
      go_wp2_with (first | (go_at_call 113; (with_reducible refine S.out.mono ?_); rintro e w1 ⟨rfl, hg1, hr1⟩))
      first
        | (refine bodyPost_ret (results_none rfl _ _ _) rfl ?_; exact ⟨rfl, HG.out.trans hg1, by rw [← FIN.out]; exact hr1⟩)
        | (refine bodyPost_end (results_none rfl _ _ _) rfl ?_; exact ⟨rfl, HG.out.trans hg1, by rw [← FIN.out]; exact hr1⟩)
    · have e1 : ((I : Int) != (J : Int)) = true := by rw [bne_iff_ne]; omega
      by_cases hgt : J < I
      · have e2 : (J : Int) < (I : Int) := by omega
        have S := Lib.hid (SW.out p m J g (by omega) (by omega) _ HI.out)
        obtain ⟨q, hq⟩ : ∃ q : Nat, I - J = q := ⟨_, rfl⟩
        have hqi : (I : Int) - (J : Int) = (q : Int) := by omega
        have hqw : IntKind.i64.wrap (q : Int) = (q : Int) := by rw [IntKind.wrap_i64]; omega
        have NT : Hid (rot (swr g p m J) (m - q) m (m + J) = rot f a m b) := Lib.hid (by rw [← HT.out, ← hq, ← hp]; exact rot_gt I1 hgt)
        go_wp2_with (first | (go_at_call 113; (with_reducible refine S.out.mono ?_); rintro e w1 ⟨rfl, hg1, hr1⟩))
        go_roundw
        case rel => exact ⟨q, J, _, by go_num, rfl, by omega, Lib.hid (HG.out.trans hg1), Lib.hid hr1, NT⟩
        case measure => first | (simp [intOf]; done) | (simp [intOf]; omega)
      · have e2 : ¬ (J : Int) < (I : Int) := by omega
        obtain ⟨q, hq⟩ : ∃ q : Nat, J - I = q := ⟨_, rfl⟩
        have hqi : (J : Int) - (I : Int) = (q : Int) := by omega
        have hqw : IntKind.i64.wrap (q : Int) = (q : Int) := by rw [IntKind.wrap_i64]; omega
        obtain ⟨r, hr⟩ : ∃ r : Nat, m + J - I = r := ⟨_, rfl⟩
        have hri : (m : Int) + (J : Int) - (I : Int) = (r : Int) := by omega
        have hrw : IntKind.i64.wrap (r : Int) = (r : Int) := by rw [IntKind.wrap_i64]; omega
        have S := Lib.hid (SW.out p r I g (by omega) (by omega) _ HI.out)
        have NT : Hid (rot (swr g p r I) (m - I) m (m + q) = rot f a m b) := Lib.hid (by rw [← HT.out, ← hq, ← hp, ← hr]; exact rot_lt I1 (by omega))
        go_wp2_with (first | (go_at_call 113; (with_reducible refine S.out.mono ?_); rintro e w1 ⟨rfl, hg1, hr1⟩))
        go_roundw
        case rel => exact ⟨I, q, _, rfl, by go_num, by omega, Lib.hid (HG.out.trans hg1), Lib.hid hr1, NT⟩
        case measure => first | (simp [intOf]; done) | (simp [intOf]; omega)
end Go.Proofs.YtakfjdnpfhcgkaaGreatDoor
