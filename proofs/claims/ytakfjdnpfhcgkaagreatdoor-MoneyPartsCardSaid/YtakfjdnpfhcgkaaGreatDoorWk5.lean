/-
  Contracts of wide.Int.Int and tier.units.
-/
import Derived.Test.YtakfjdnpfhcgkaaGreatDoorWk4
import Derived.Test.YtakfjdnpfhcgkaaGreatDoorDm
namespace Go.Proofs.YtakfjdnpfhcgkaaGreatDoor
set_option linter.all false
open Go.RowKit
attribute [local go_sem] cell_set_self lt_1 lt_2 lt_3 lt_4 lt_5 lt_6


/-- The low word, read as an int. -/
def asInt (a : Int) : Int := wrap64 (loOf a)
theorem asInt_bd (a : Int) : -9223372036854775808 ≤ asInt a ∧ asInt a ≤ 9223372036854775807 := by
  unfold asInt wrap64; unfold loOf; omega
theorem asInt_eq (a : Int) (h : In64 a) : asInt a = a := by unfold In64 at h; unfold asInt wrap64 loOf; omega
theorem asInt_ne (a : Int) (h : ¬ In64 a) : asInt a ≠ a := by
  intro e; apply h; have := asInt_bd a; rw [e] at this; unfold In64; omega

/-- wide.Int.Int, where it fits. -/
theorem int_fits (a : Int) (g : In64 a) (w : World) :
    Calls Tryz.prog 18 #[.agg #[.int .u64 (hiOf a), .int .u64 (loOf a)]] w fun e w' => e = .returned (.tuple #[.int .i64 a, .int .i64 0]) ∧ Below w.heap.size w w' := by
  have c1 := fun W => fromInt_any a g.1 (by have := g.2; omega) W
  have C1 := Lib.hid c1; clear c1
  have E := Lib.hid (show wrap64 (loOf a) = a from asInt_eq a g)
  obtain ⟨a1, a2⟩ := hiOf_word a
  obtain ⟨b1, b2⟩ := loOf_word a
  go_enter Tryz.func18, Tryz.ntmps18
  go_wp2
  rw [E.out]
  go_region_held3 (fun w' => w'.cell? ⟨w.heap.size, 0, none⟩ = some (.int .u64 (hiOf a)) ∧ w'.cell? ⟨w.heap.size, 1, none⟩ = some (.int .u64 (loOf a)) ∧ w.heap.size < w'.heap.size ∧ Below w.heap.size w w')
      (first | (refine ⟨?_, ?_, ?_, ?_⟩ <;> first | (simp [go_sem, *]; done) | omega | (simp; omega) | exact (by repeat (first | exact Below.refl _ _ | refine Below.setCell ?_ (by first | (simp; done) | (simp; omega) | omega) _ | refine Below.alloc ?_ (by first | (simp; done) | (simp; omega) | omega) _ | refine Below.drew ?_ | assumption | refine Below.trans ?_ (Below.mono (by assumption) (by first | (simp; done) | (simp; omega) | omega))))))
      (first | (go_at_call 46; refine (C1.out _).mono ?_; rintro e w1 ⟨rfl, hb1⟩; obtain ⟨hc1, hf1⟩ := bcell hb1; have hs1 := hb1.size; (try simp at hs1); have hz1 : w.heap.size < w1.heap.size := by have := hb1.size; (try simp at this); omega))
  go_wp2
  go_ret2
  exact ⟨rfl, (by repeat (first | exact Below.refl _ _ | refine Below.setCell ?_ (by first | (simp; done) | (simp; omega) | omega) _ | refine Below.alloc ?_ (by first | (simp; done) | (simp; omega) | omega) _ | refine Below.drew ?_ | assumption | refine Below.trans ?_ (Below.mono (by assumption) (by first | (simp; done) | (simp; omega) | omega))))⟩
/-- wide.Int.Int, where it does not fit. -/
theorem int_over (a : Int) (h : In128 a) (g : ¬ In64 a) (w : World) :
    Calls Tryz.prog 18 #[.agg #[.int .u64 (hiOf a), .int .u64 (loOf a)]] w fun e w' => e = .returned (.tuple #[.int .i64 0, .int .i64 16]) ∧ Below w.heap.size w w' := by
  have bd := asInt_bd a
  have c1 := fun W => fromInt_any (asInt a) bd.1 bd.2 W
  have C1 := Lib.hid c1; clear c1
  have E := Lib.hid (show wrap64 (loOf a) = asInt a from rfl)
  obtain ⟨a1, a2⟩ := hiOf_word a
  obtain ⟨b1, b2⟩ := loOf_word a
  have nt : In128 (asInt a) := by unfold In128; omega
  have wi := words_inj (asInt a) a nt h
  have ne : ¬ (hiOf (asInt a) = hiOf a ∧ loOf (asInt a) = loOf a) := fun k => asInt_ne a g (wi.1 k)
  have lo : loOf (asInt a) = loOf a := by unfold asInt wrap64 loOf; omega
  have nd : (hiOf (asInt a) == hiOf a) = false := by simp only [beq_eq_false_iff_ne]; exact fun k => ne ⟨k, lo⟩
  clear lo
  clear wi nt bd ne
  go_enter Tryz.func18, Tryz.ntmps18
  go_wp2
  rw [E.out]
  go_region_held3 (fun w' => w'.cell? ⟨w.heap.size, 0, none⟩ = some (.int .u64 (hiOf a)) ∧ w'.cell? ⟨w.heap.size, 1, none⟩ = some (.int .u64 (loOf a)) ∧ w.heap.size < w'.heap.size ∧ Below w.heap.size w w')
      (first | (refine ⟨?_, ?_, ?_, ?_⟩ <;> first | (simp [go_sem, *]; done) | omega | (simp; omega) | exact (by repeat (first | exact Below.refl _ _ | refine Below.setCell ?_ (by first | (simp; done) | (simp; omega) | omega) _ | refine Below.alloc ?_ (by first | (simp; done) | (simp; omega) | omega) _ | refine Below.drew ?_ | assumption | refine Below.trans ?_ (Below.mono (by assumption) (by first | (simp; done) | (simp; omega) | omega))))))
      (first | (go_at_call 46; refine (C1.out _).mono ?_; rintro e w1 ⟨rfl, hb1⟩; obtain ⟨hc1, hf1⟩ := bcell hb1; have hs1 := hb1.size; (try simp at hs1); have hz1 : w.heap.size < w1.heap.size := by have := hb1.size; (try simp at this); omega))
  go_wp2
  go_ret2
  exact ⟨rfl, (by repeat (first | exact Below.refl _ _ | refine Below.setCell ?_ (by first | (simp; done) | (simp; omega) | omega) _ | refine Below.alloc ?_ (by first | (simp; done) | (simp; omega) | omega) _ | refine Below.drew ?_ | assumption | refine Below.trans ?_ (Below.mono (by assumption) (by first | (simp; done) | (simp; omega) | omega))))⟩

end Go.Proofs.YtakfjdnpfhcgkaaGreatDoor
