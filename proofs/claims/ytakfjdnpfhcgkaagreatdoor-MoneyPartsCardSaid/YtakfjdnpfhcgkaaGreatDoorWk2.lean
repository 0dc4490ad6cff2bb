/-
  Contracts of wide.wordOf, wide.Mul, wide.Int.Int: plain results; what was in memory stays.
-/
import Derived.Test.YtakfjdnpfhcgkaaGreatDoorWk1
namespace Go.Proofs.YtakfjdnpfhcgkaaGreatDoor
set_option linter.all false
open Go.RowKit
attribute [local go_sem] cell_set_self lt_1 lt_2 lt_3 lt_4 lt_5 lt_6

/-- The low word of a size. -/
theorem fld_lo (x y : Value) (w : World) : (Instr.field 89 (.agg #[x, y]) 1).run Tryz.prog w = .ok y w := by kernel_rfl
attribute [local go_sem] fld_lo
/-- wide.wordOf. -/
theorem wordOf_any (n : Int) (h : In64 n) (w : World) :
    Calls Tryz.prog 41 #[.int .i64 n] w fun e w' => e = .returned (.int .u64 (absI n)) ∧ Below w.heap.size w w' := by
  have h2 : In128 n := by unfold In128; unfold In64 at h; omega
  have c1 := fun W => fromInt_any n h.1 (by have := h.2; omega) W
  have C1 := Lib.hid c1; clear c1
  have E := Lib.hid (show loOf (absI n) = absI n by unfold In64 at h; unfold loOf absI; split <;> omega)
  go_enter Tryz.func41, Tryz.ntmps41
  go_wp2_with (first | (go_at_call 46; refine (C1.out _).mono ?_; rintro e w1 ⟨rfl, hb1⟩; obtain ⟨hc1, hf1⟩ := bcell hb1; have hs1 := hb1.size; (try simp at hs1)) | (go_at_call 43; refine (size_any _ h2 _).mono ?_; rintro e w2 ⟨rfl, hb2⟩; obtain ⟨hc2, hf2⟩ := bcell hb2; have hs2 := hb2.size; (try simp at hs2)))
  go_ret
  exact ⟨by rw [E.out]; rfl, (by repeat (first | exact Below.refl _ _ | refine Below.setCell ?_ (by first | (simp; done) | (simp; omega) | omega) _ | refine Below.alloc ?_ (by first | (simp; done) | (simp; omega) | omega) _ | refine Below.drew ?_ | assumption | refine Below.trans ?_ (Below.mono (by assumption) (by first | (simp; done) | (simp; omega) | omega))))⟩

set_option maxRecDepth 20000 in
/-- wide.size.signed, where what comes is a number of 128 bits. -/
theorem signed_fits (s : Int) (below : Bool) (hs : Sz128 s) (z : Int) (hz : z = if below then -s else s) (h : In128 z) (w : World) :
    Calls Tryz.prog 42 #[.agg #[.int .u64 (hiOf s), .int .u64 (loOf s)], .bool below] w fun e w' =>
      e = .returned (.tuple #[.agg #[.int .u64 (hiOf z), .int .u64 (loOf z)], .int .i64 0]) ∧ Below w.heap.size w w' := by
  obtain ⟨a1, a2⟩ := hiOf_word s
  obtain ⟨b1, b2⟩ := loOf_word s
  have nz := negW_eq z h
  have hw := sz_words s hs
  cases below
  · have hz' : z = s := hz
    clear hz; subst hz'
    have g : negW z = false := by rw [nz]; simpa using hs.1
    clear nz hw h hs
    go_enter Tryz.func42, Tryz.ntmps42
    go_wp2_with (first | (go_at_call 45; refine (below_any _ _).mono ?_; rintro e w1 ⟨rfl, hb1⟩; obtain ⟨hc1, hf1⟩ := bcell hb1; have hs1 := hb1.size; (try simp at hs1); have hz1 : w.heap.size < w1.heap.size ∧ w.heap.size + 1 < w1.heap.size ∧ w.heap.size + 1 + 1 < w1.heap.size := by have := hb1.size; (try simp at this); omega))
    exact bodyPost_ret (v := .tuple #[.agg #[.int .u64 (hiOf z), .int .u64 (loOf z)], .int .i64 0]) (by simp [results, Tryz.results42, go_sem, *]) rfl ⟨rfl, (by repeat (first | exact Below.refl _ _ | refine Below.setCell ?_ (by first | (simp; done) | (simp; omega) | omega) _ | refine Below.alloc ?_ (by first | (simp; done) | (simp; omega) | omega) _ | refine Below.drew ?_ | assumption | refine Below.trans ?_ (Below.mono (by assumption) (by first | (simp; done) | (simp; omega) | omega))))⟩
  · have hz' : z = -s := hz
    clear hz; subst hz'
    by_cases h0 : s = 0
    · subst h0
      have g : negW (-0) = false := by rw [nz]; simp
      clear nz hw h hs
      have q1 := hiOf_0; have q2 := loOf_0
      go_enter Tryz.func42, Tryz.ntmps42
      go_wp2_with (first | (go_at_call 74; refine (turned_any 0 _).mono ?_; rintro e w1 ⟨rfl, hb1⟩; obtain ⟨hc1, hf1⟩ := bcell hb1; have hs1 := hb1.size; (try simp at hs1); have hz1 : w.heap.size < w1.heap.size ∧ w.heap.size + 1 < w1.heap.size ∧ w.heap.size + 1 + 1 < w1.heap.size := by have := hb1.size; (try simp at this); omega) | (go_at_call 45; refine (below_any 0 _).mono ?_; rintro e w2 ⟨rfl, hb2⟩; obtain ⟨hc2, hf2⟩ := bcell hb2; have hs2 := hb2.size; (try simp at hs2); have hz2 : w.heap.size < w2.heap.size ∧ w.heap.size + 1 < w2.heap.size ∧ w.heap.size + 1 + 1 < w2.heap.size := by have := hb2.size; (try simp at this); omega))
      exact bodyPost_ret (v := .tuple #[.agg #[.int .u64 (hiOf (-0)), .int .u64 (loOf (-0))], .int .i64 0]) (by simp [results, Tryz.results42, go_sem, *]) rfl ⟨rfl, (by repeat (first | exact Below.refl _ _ | refine Below.setCell ?_ (by first | (simp; done) | (simp; omega) | omega) _ | refine Below.alloc ?_ (by first | (simp; done) | (simp; omega) | omega) _ | refine Below.drew ?_ | assumption | refine Below.trans ?_ (Below.mono (by assumption) (by first | (simp; done) | (simp; omega) | omega))))⟩
    · have g : negW (-s) = true := by rw [nz]; simp; have := hs.1; omega
      clear nz hw h hs
      go_enter Tryz.func42, Tryz.ntmps42
      go_wp2_with (first | (go_at_call 74; refine (turned_any _ _).mono ?_; rintro e w1 ⟨rfl, hb1⟩; obtain ⟨hc1, hf1⟩ := bcell hb1; have hs1 := hb1.size; (try simp at hs1); have hz1 : w.heap.size < w1.heap.size ∧ w.heap.size + 1 < w1.heap.size ∧ w.heap.size + 1 + 1 < w1.heap.size := by have := hb1.size; (try simp at this); omega) | (go_at_call 45; refine (below_any _ _).mono ?_; rintro e w2 ⟨rfl, hb2⟩; obtain ⟨hc2, hf2⟩ := bcell hb2; have hs2 := hb2.size; (try simp at hs2); have hz2 : w.heap.size < w2.heap.size ∧ w.heap.size + 1 < w2.heap.size ∧ w.heap.size + 1 + 1 < w2.heap.size := by have := hb2.size; (try simp at this); omega))
      exact bodyPost_ret (v := .tuple #[.agg #[.int .u64 (hiOf (-s)), .int .u64 (loOf (-s))], .int .i64 0]) (by simp [results, Tryz.results42, go_sem, *]) rfl ⟨rfl, (by repeat (first | exact Below.refl _ _ | refine Below.setCell ?_ (by first | (simp; done) | (simp; omega) | omega) _ | refine Below.alloc ?_ (by first | (simp; done) | (simp; omega) | omega) _ | refine Below.drew ?_ | assumption | refine Below.trans ?_ (Below.mono (by assumption) (by first | (simp; done) | (simp; omega) | omega))))⟩
end Go.Proofs.YtakfjdnpfhcgkaaGreatDoor
