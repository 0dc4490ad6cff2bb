/-
  The stable sort of a row that stands in its order: nothing turns (up to 19 elements).
-/
import Derived.Test.YtdpoahfjiomhbaaGreatDoorMq3
namespace Go.Proofs.YtdpoahfjiomhbaaGreatDoor
set_option linter.all false
open Go.RowKit Go.Sort
attribute [local go_sem] cell_set_self lt_1 lt_2 lt_3 lt_4 lt_5 lt_6

set_option maxHeartbeats 4000000 in
set_option maxRecDepth 100000 in
theorem insertion_sorted (h n c bL : Nat) (ord : Nat → Int) (z : Nat → Int) (hn : n ≤ 19) (w : World) (hh : h < w.heap.size) (hc : ∀ j, j < n → w.cell? ⟨h, j, none⟩ = some (.int .i64 (ord j)))
    (CMP : ∀ j, j + 1 < n → ∀ W, Below w.heap.size w W → Calls Tryz.prog 73 #[.int .i64 (ord (j + 1)), .int .i64 (ord j), .pointer (some ⟨bL, 0, none⟩)] W fun e w' => e = .returned (.int .i64 (z j)) ∧ Below W.heap.size W w') (hz : ∀ j, j + 1 < n → 0 ≤ z j) :
    Calls Tryz.prog 145 #[.slice (some ⟨h, 0, none⟩) n c, .int .i64 0, .int .i64 n, .func (.func 73) #[] #[.pointer (some ⟨bL, 0, none⟩)]] w fun e w' => e = .returned (.tuple #[]) ∧ Below w.heap.size w w' := by
  have HC := Lib.hid (fun j (hj : j < n) W (hB : Below w.heap.size w W) => (hB.cell (p := ⟨h, j, none⟩) hh).trans (hc j hj))
  have CM := Lib.hid CMP
  have HZ := Lib.hid hz
  clear hc CMP hz
  go_enter Tryz.func145, Tryz.ntmps145
  go_wp2
  go_loopw [8] (fun i wr => ∃ K : Nat, K ≤ n + 1 ∧ 1 ≤ K ∧ i = .int .i64 K ∧ Below w.heap.size w wr) (fun i _ => n + 2 - (intOf i).toNat)
  case atStart => exact ⟨1, by omega, by omega, by simp, (by repeat (first | exact Below.refl _ _ | refine Below.setCell ?_ (by first | (simp; done) | (simp; omega) | omega) _ | refine Below.alloc ?_ (by first | (simp; done) | (simp; omega) | omega) _ | refine Below.drew ?_ | assumption | refine Below.trans ?_ (Below.mono (by assumption) (by first | (simp; done) | (simp; omega) | omega))))⟩
  case round =>
    obtain ⟨K, hK, hK1, rfl, hB⟩ := hrel
    obtain ⟨wo, rfl⟩ : ∃ wo : World, wo = wr := ⟨_, rfl⟩
    have hsl := hB.size
    by_cases hlt : K < n
    · obtain ⟨k, hKk⟩ : ∃ k, K = k + 1 := ⟨K - 1, by omega⟩
      have hlt' : (K : Int) < (n : Int) := by omega
      have hk' : (k : Int) < (n : Int) := by omega
      have c1 := HC.out K hlt wo hB
      have c0 := HC.out k (by omega) wo hB
      have CK := Lib.hid (CM.out k (by omega))
      have z0 := HZ.out k (by omega)
      rw [← hKk] at CK
      have hbw : h < wo.heap.size := by omega
      have kN : 0 < K := by omega
      have kT : decide (0 < K) = true := decide_eq_true kN
      have ke : (K : Int) - 1 = (k : Int) := by omega
      have kw : IntKind.i64.wrap (k : Int) = (k : Int) := by rw [IntKind.wrap_i64]; omega
      generalize ord K = y at *
      generalize ord k = x at *
      generalize z k = zz at *
      clear HC CM HZ hKk
      go_wp2
      go_loopw [9] (fun j wi => j = .int .i64 (K : Int) ∧ Below wo.heap.size wo wi) (fun _ _ => 0)
      case atStart => exact ⟨rfl, Below.refl _ _⟩
      case round =>
        obtain ⟨rfl, hBi⟩ := hrel
        obtain ⟨wi, rfl⟩ : ∃ wi : World, wi = wr := ⟨_, rfl⟩
        have hsi := hBi.size
        have q1 := (hBi.cell (p := ⟨h, K, none⟩) hbw).trans c1
        have q0 := (hBi.cell (p := ⟨h, k, none⟩) hbw).trans c0
        have hbi : h < wi.heap.size := by omega
        have hBw : Below w.heap.size w wi := hB.trans (hBi.mono hsl)
        clear c1 c0
        go_wp2
        go_region_held3 (fun w' => w'.cell? ⟨h, K, none⟩ = some (.int .i64 y) ∧ w'.cell? ⟨h, k, none⟩ = some (.int .i64 x) ∧ h < w'.heap.size ∧ Below w.heap.size w w')
      (first | (refine ⟨?_, ?_, ?_, ?_⟩ <;> first | (simp [go_sem, *]; done) | omega | (simp; omega) | exact (by repeat (first | exact Below.refl _ _ | refine Below.setCell ?_ (by first | (simp; done) | (simp; omega) | omega) _ | refine Below.alloc ?_ (by first | (simp; done) | (simp; omega) | omega) _ | refine Below.drew ?_ | assumption | refine Below.trans ?_ (Below.mono (by assumption) (by first | (simp; done) | (simp; omega) | omega))))))
      (first | (first | (go_at_call 73; refine (CK.out _ (by repeat (first | exact Below.refl _ _ | refine Below.setCell ?_ (by first | (simp; done) | (simp; omega) | omega) _ | refine Below.alloc ?_ (by first | (simp; done) | (simp; omega) | omega) _ | refine Below.drew ?_ | assumption | refine Below.trans ?_ (Below.mono (by assumption) (by first | (simp; done) | (simp; omega) | omega))))).mono ?_; rintro e w1 ⟨rfl, hb1⟩; obtain ⟨hc1, hf1⟩ := bcell hb1; (try simp only [drew_sizeM, drew_cellM, drew_frozenM] at hc1 hf1); have hs1 := hb1.size; (try simp at hs1); have hz1 : h < w1.heap.size := by have := hb1.size; (try simp at this); omega)))
        go_wp2
        go_roundw
        case rel => exact ⟨K + 1, by omega, by omega, by go_num, (by repeat (first | exact Below.refl _ _ | refine Below.setCell ?_ (by first | (simp; done) | (simp; omega) | omega) _ | refine Below.alloc ?_ (by first | (simp; done) | (simp; omega) | omega) _ | refine Below.drew ?_ | assumption | refine Below.trans ?_ (Below.mono (by assumption) (by first | (simp; done) | (simp; omega) | omega))))⟩
        case measure => first | (simp [intOf]; done) | (simp [intOf]; omega)
    · have hlt' : ¬ (K : Int) < (n : Int) := by omega
      go_wp2
      first
        | (refine bodyPost_ret (results_none rfl _ _ _) rfl ?_; exact ⟨rfl, (by repeat (first | exact Below.refl _ _ | refine Below.setCell ?_ (by first | (simp; done) | (simp; omega) | omega) _ | refine Below.alloc ?_ (by first | (simp; done) | (simp; omega) | omega) _ | refine Below.drew ?_ | assumption | refine Below.trans ?_ (Below.mono (by assumption) (by first | (simp; done) | (simp; omega) | omega))))⟩)
        | (refine bodyPost_end (results_none rfl _ _ _) rfl ?_; exact ⟨rfl, (by repeat (first | exact Below.refl _ _ | refine Below.setCell ?_ (by first | (simp; done) | (simp; omega) | omega) _ | refine Below.alloc ?_ (by first | (simp; done) | (simp; omega) | omega) _ | refine Below.drew ?_ | assumption | refine Below.trans ?_ (Below.mono (by assumption) (by first | (simp; done) | (simp; omega) | omega))))⟩)
set_option maxHeartbeats 2000000 in
set_option maxRecDepth 100000 in
theorem stable_sorted (h n c bL : Nat) (ord : Nat → Int) (z : Nat → Int) (hn : n ≤ 19) (w : World) (hh : h < w.heap.size) (hc : ∀ j, j < n → w.cell? ⟨h, j, none⟩ = some (.int .i64 (ord j)))
    (CMP : ∀ j, j + 1 < n → ∀ W, Below w.heap.size w W → Calls Tryz.prog 73 #[.int .i64 (ord (j + 1)), .int .i64 (ord j), .pointer (some ⟨bL, 0, none⟩)] W fun e w' => e = .returned (.int .i64 (z j)) ∧ Below W.heap.size W w') (hz : ∀ j, j + 1 < n → 0 ≤ z j) :
    Calls Tryz.prog 121 #[.slice (some ⟨h, 0, none⟩) n c, .int .i64 n, .func (.func 73) #[] #[.pointer (some ⟨bL, 0, none⟩)]] w fun e w' => e = .returned (.tuple #[]) ∧ Below w.heap.size w w' := by
  have IS : Hid (∀ W, Below w.heap.size w W → Calls Tryz.prog 145 #[.slice (some ⟨h, 0, none⟩) n c, .int .i64 0, .int .i64 n, .func (.func 73) #[] #[.pointer (some ⟨bL, 0, none⟩)]] W fun e w' => e = .returned (.tuple #[]) ∧ Below W.heap.size W w') := Lib.hid fun W hB =>
    insertion_sorted h n c bL ord z hn W (Nat.lt_of_lt_of_le hh hB.size) (fun j hj => (hB.cell (p := ⟨h, j, none⟩) hh).trans (hc j hj)) (fun j hj W' hb => CMP j hj W' (hB.trans (hb.mono hB.size))) hz
  have n20 : ¬ (20 : Int) ≤ (n : Int) := by omega
  have n21 : ¬ (20 : Int) < (n : Int) := by omega
  clear hc CMP hz hn
  go_enter Tryz.func121, Tryz.ntmps121
  go_wp2
  go_loopw [7, 8] (fun a b wr => a = .int .i64 0 ∧ b = .int .i64 20 ∧ Below w.heap.size w wr) (fun _ _ _ => 0)
  case atStart => exact ⟨rfl, rfl, (by repeat (first | exact Below.refl _ _ | refine Below.setCell ?_ (by first | (simp; done) | (simp; omega) | omega) _ | refine Below.alloc ?_ (by first | (simp; done) | (simp; omega) | omega) _ | refine Below.drew ?_ | assumption | refine Below.trans ?_ (Below.mono (by assumption) (by first | (simp; done) | (simp; omega) | omega))))⟩
  case round =>
    obtain ⟨rfl, rfl, hB⟩ := hrel
    obtain ⟨wo, rfl⟩ : ∃ wo : World, wo = wr := ⟨_, rfl⟩
    have hsl := hB.size
    go_wp2_with (first | (go_at_call 145; refine (IS.out _ (by repeat (first | exact Below.refl _ _ | refine Below.setCell ?_ (by first | (simp; done) | (simp; omega) | omega) _ | refine Below.alloc ?_ (by first | (simp; done) | (simp; omega) | omega) _ | refine Below.drew ?_ | assumption | refine Below.trans ?_ (Below.mono (by assumption) (by first | (simp; done) | (simp; omega) | omega))))).mono ?_; rintro e w1 ⟨rfl, hb1⟩; obtain ⟨hc1, hf1⟩ := bcell hb1; have hs1 := hb1.size; (try simp at hs1)))
    go_loopw [6] (fun s wi => s = .int .i64 20 ∧ Below w.heap.size w wi) (fun _ _ => 0)
    case atStart => exact ⟨rfl, (by repeat (first | exact Below.refl _ _ | refine Below.setCell ?_ (by first | (simp; done) | (simp; omega) | omega) _ | refine Below.alloc ?_ (by first | (simp; done) | (simp; omega) | omega) _ | refine Below.drew ?_ | assumption | refine Below.trans ?_ (Below.mono (by assumption) (by first | (simp; done) | (simp; omega) | omega))))⟩
    case round =>
      obtain ⟨rfl, hBi⟩ := hrel
      obtain ⟨wi, rfl⟩ : ∃ wi : World, wi = wr := ⟨_, rfl⟩
      go_wp2
      first
        | (refine bodyPost_ret (results_none rfl _ _ _) rfl ?_; exact ⟨rfl, (by repeat (first | exact Below.refl _ _ | refine Below.setCell ?_ (by first | (simp; done) | (simp; omega) | omega) _ | refine Below.alloc ?_ (by first | (simp; done) | (simp; omega) | omega) _ | refine Below.drew ?_ | assumption | refine Below.trans ?_ (Below.mono (by assumption) (by first | (simp; done) | (simp; omega) | omega))))⟩)
        | (refine bodyPost_end (results_none rfl _ _ _) rfl ?_; exact ⟨rfl, (by repeat (first | exact Below.refl _ _ | refine Below.setCell ?_ (by first | (simp; done) | (simp; omega) | omega) _ | refine Below.alloc ?_ (by first | (simp; done) | (simp; omega) | omega) _ | refine Below.drew ?_ | assumption | refine Below.trans ?_ (Below.mono (by assumption) (by first | (simp; done) | (simp; omega) | omega))))⟩)
set_option maxHeartbeats 2000000 in
theorem sort_sorted (h n c bL : Nat) (ord : Nat → Int) (z : Nat → Int) (hn : n ≤ 19) (w : World) (hh : h < w.heap.size) (hc : ∀ j, j < n → w.cell? ⟨h, j, none⟩ = some (.int .i64 (ord j)))
    (CMP : ∀ j, j + 1 < n → ∀ W, Below w.heap.size w W → Calls Tryz.prog 73 #[.int .i64 (ord (j + 1)), .int .i64 (ord j), .pointer (some ⟨bL, 0, none⟩)] W fun e w' => e = .returned (.int .i64 (z j)) ∧ Below W.heap.size W w') (hz : ∀ j, j + 1 < n → 0 ≤ z j) :
    Calls Tryz.prog 72 #[.slice (some ⟨h, 0, none⟩) n c, .func (.func 73) #[] #[.pointer (some ⟨bL, 0, none⟩)]] w fun e w' => e = .returned (.tuple #[]) ∧ Below w.heap.size w w' := by
  have IS : Hid (∀ W, Below w.heap.size w W → Calls Tryz.prog 121 #[.slice (some ⟨h, 0, none⟩) n c, .int .i64 n, .func (.func 73) #[] #[.pointer (some ⟨bL, 0, none⟩)]] W fun e w' => e = .returned (.tuple #[]) ∧ Below W.heap.size W w') := Lib.hid fun W hB =>
    stable_sorted h n c bL ord z hn W (Nat.lt_of_lt_of_le hh hB.size) (fun j hj => (hB.cell (p := ⟨h, j, none⟩) hh).trans (hc j hj)) (fun j hj W' hb => CMP j hj W' (hB.trans (hb.mono hB.size))) hz
  clear hc CMP hz hn
  go_enter Tryz.func72, Tryz.ntmps72
  go_wp2_with (first | (go_at_call 121; refine (IS.out _ (by repeat (first | exact Below.refl _ _ | refine Below.setCell ?_ (by first | (simp; done) | (simp; omega) | omega) _ | refine Below.alloc ?_ (by first | (simp; done) | (simp; omega) | omega) _ | refine Below.drew ?_ | assumption | refine Below.trans ?_ (Below.mono (by assumption) (by first | (simp; done) | (simp; omega) | omega))))).mono ?_; rintro e w1 ⟨rfl, hb1⟩; obtain ⟨hc1, hf1⟩ := bcell hb1; have hs1 := hb1.size; (try simp at hs1)))
  first
    | (refine bodyPost_ret (results_none rfl _ _ _) rfl ?_; exact ⟨rfl, (by repeat (first | exact Below.refl _ _ | refine Below.setCell ?_ (by first | (simp; done) | (simp; omega) | omega) _ | refine Below.alloc ?_ (by first | (simp; done) | (simp; omega) | omega) _ | refine Below.drew ?_ | assumption | refine Below.trans ?_ (Below.mono (by assumption) (by first | (simp; done) | (simp; omega) | omega))))⟩)
    | (refine bodyPost_end (results_none rfl _ _ _) rfl ?_; exact ⟨rfl, (by repeat (first | exact Below.refl _ _ | refine Below.setCell ?_ (by first | (simp; done) | (simp; omega) | omega) _ | refine Below.alloc ?_ (by first | (simp; done) | (simp; omega) | omega) _ | refine Below.drew ?_ | assumption | refine Below.trans ?_ (Below.mono (by assumption) (by first | (simp; done) | (simp; omega) | omega))))⟩)
end Go.Proofs.YtdpoahfjiomhbaaGreatDoor
