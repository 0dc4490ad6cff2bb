/-
  Contract of the closure by which Allocate sorts.
-/
import Derived.Test.YtdpoahfjiomhbaaGreatDoorMc2
namespace Go.Proofs.YtdpoahfjiomhbaaGreatDoor
set_option linter.all false
open Go.RowKit Go.Sort
attribute [local go_sem] cell_set_self lt_1 lt_2 lt_3 lt_4 lt_5 lt_6

theorem cmpI_any (x y : Int) (w : World) : Calls Tryz.prog 74 #[.int .i64 x, .int .i64 y] w fun e w' => e = .returned (.int .i64 (Lib.compareInt x y)) ∧ Below w.heap.size w w' :=
  (Tryz.cmp_Compare_int x y w).mono fun e w' ⟨h1, h2⟩ => ⟨h1, by subst h2; exact Below.refl _ _⟩
set_option maxHeartbeats 1000000 in
theorem clo_any (i k n cp bL g : Nat) (x y : Int) (hi : i < n) (hk : k < n) (w : World) (hb : bL < w.heap.size) (hg : g < w.heap.size) (h0 : w.cell? ⟨bL, 0, none⟩ = some (.slice (some ⟨g, 0, none⟩) n cp)) (hx : w.cell? ⟨g, i, none⟩ = some (.int .i64 x)) (hy : w.cell? ⟨g, k, none⟩ = some (.int .i64 y)) :
    Calls Tryz.prog 73 #[.int .i64 i, .int .i64 k, .pointer (some ⟨bL, 0, none⟩)] w fun e w' => e = .returned (.int .i64 (Lib.compareInt y x)) ∧ Below w.heap.size w w' := by
  have CI := Lib.hid (fun W => cmpI_any y x W)
  have hi' : (i : Int) < (n : Int) := by omega
  have hk' : (k : Int) < (n : Int) := by omega
  generalize Lib.compareInt y x = z at *
  go_enter Tryz.func73, Tryz.ntmps73
  go_wp2
  go_region_held3 (fun w' => w'.cell? ⟨bL, 0, none⟩ = some (.slice (some ⟨g, 0, none⟩) n cp) ∧ w'.cell? ⟨g, i, none⟩ = some (.int .i64 x) ∧ w'.cell? ⟨g, k, none⟩ = some (.int .i64 y) ∧ bL < w'.heap.size ∧ g < w'.heap.size ∧ Below w.heap.size w w')
      (first | (refine ⟨?_, ?_, ?_, ?_, ?_, ?_⟩ <;> first | (simp [go_sem, *]; done) | omega | (simp; omega) | exact (by repeat (first | exact Below.refl _ _ | refine Below.setCell ?_ (by first | (simp; done) | (simp; omega) | omega) _ | refine Below.alloc ?_ (by first | (simp; done) | (simp; omega) | omega) _ | refine Below.drew ?_ | assumption | refine Below.trans ?_ (Below.mono (by assumption) (by first | (simp; done) | (simp; omega) | omega))))))
      (first | (first | (go_at_call 74; refine (CI.out _).mono ?_; rintro e w1 ⟨rfl, hb1⟩; obtain ⟨hc1, hf1⟩ := bcell hb1; (try simp only [drew_sizeM, drew_cellM, drew_frozenM] at hc1 hf1); have hs1 := hb1.size; (try simp at hs1); have hz1 : bL < w1.heap.size ∧ g < w1.heap.size := by have := hb1.size; (try simp at this); omega)))
  go_wp2
  go_ret
  exact ⟨rfl, (by repeat (first | exact Below.refl _ _ | refine Below.setCell ?_ (by first | (simp; done) | (simp; omega) | omega) _ | refine Below.alloc ?_ (by first | (simp; done) | (simp; omega) | omega) _ | refine Below.drew ?_ | assumption | refine Below.trans ?_ (Below.mono (by assumption) (by first | (simp; done) | (simp; omega) | omega))))⟩
end Go.Proofs.YtdpoahfjiomhbaaGreatDoor
