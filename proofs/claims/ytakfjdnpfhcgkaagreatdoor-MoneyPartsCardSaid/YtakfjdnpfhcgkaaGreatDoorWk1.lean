/-
  Contracts of the functions of package wide that others call: a number of two words goes in, the number that it should be comes out; what was in memory stays.
-/
import Derived.Test.YtakfjdnpfhcgkaaGreatDoorProg
import Derived.Test.YtakfjdnpfhcgkaaGreatDoorWm
import Derived.Test.YtakfjdnpfhcgkaaGreatDoorShelf
import Derived.WalkKit
import Derived.WalkSpells
import Derived.WalkLawsBesides
import Derived.Lib.Hide
import Derived.Deep.QuietTactic
import Derived.BigQuiet
import Derived.Deep.RegionHeld3
import Derived.Deep.DeepFit
namespace Go.Proofs.YtakfjdnpfhcgkaaGreatDoor
set_option linter.all false
open Go.RowKit

theorem bcell {W w1 : World} (hb : Below W.heap.size W w1) : (∀ b o, b < W.heap.size → w1.cell? ⟨b, o, none⟩ = W.cell? ⟨b, o, none⟩) ∧ (∀ b o, b < W.heap.size → w1.frozen? ⟨b, o, none⟩ = W.frozen? ⟨b, o, none⟩) :=
  ⟨fun b o h => hb.cell (p := ⟨b, o, none⟩) h, fun b o h => hb.frozen (p := ⟨b, o, none⟩) h⟩

/-- What is read behind a store at the same place. -/
theorem cell_set_self (w : World) (b o : Nat) (v : Value) : (w.setCell ⟨b, o, none⟩ v).cell? ⟨b, o, none⟩ = (w.cell? ⟨b, o, none⟩).map fun _ => v := by
  simp only [World.setCell, World.cell?, Array.getElem?_modify]
  rcases h : w.heap[b]? with _ | x
  · simp
  · cases x <;> simp
    rename_i c t f
    by_cases ho : o < c.size
    · simp [ho]
    · simp [ho]
theorem lt_1 (n : Nat) : (n < n + 1) = True := by simp
theorem lt_2 (n : Nat) : (n < n + 1 + 1) = True := by simp; omega
theorem lt_3 (n : Nat) : (n < n + 1 + 1 + 1) = True := by simp; omega
theorem lt_4 (n : Nat) : (n < n + 1 + 1 + 1 + 1) = True := by simp; omega
theorem lt_5 (n : Nat) : (n < n + 1 + 1 + 1 + 1 + 1) = True := by simp; omega
theorem lt_6 (n : Nat) : (n < n + 1 + 1 + 1 + 1 + 1 + 1) = True := by simp; omega
attribute [local go_sem] cell_set_self lt_1 lt_2 lt_3 lt_4 lt_5 lt_6

def sub64Entry : Array Value → Sem Value := fun args => do
  let (x, y, b) ← Extern.MathBitsCarry.three "Sub64" args
  pure (Extern.MathBitsCarry.pair ((x + Extern.MathBitsCarry.m64 - y - b) % Extern.MathBitsCarry.m64) (if x < y + b then 1 else 0))
theorem run_sub64 {P : Program} (x y b : Nat) (hb : b ≤ 1) (w : World) :
    (sub64Entry #[.int .u64 x, .int .u64 y, .int .u64 b]).run P w =
      .ok (.tuple #[.int .u64 (((x + 18446744073709551616 - y - b) % 18446744073709551616 : Nat) : Int), .int .u64 ((if x < y + b then 1 else 0 : Nat) : Int)]) w := by
  have : b = 0 ∨ b = 1 := by omega
  rcases this with rfl | rfl <;> rfl
theorem add64 (x y c : Int) (hx : 0 ≤ x) (hy : 0 ≤ y) (hc0 : 0 ≤ c) (hc : c ≤ 1) (w : World) :
    (callFunc 72 #[.int .u64 x, .int .u64 y, .int .u64 c]).run Tryz.prog w =
      .ok (.value (.tuple #[.int .u64 ((x + y + c) % 18446744073709551616), .int .u64 ((x + y + c) / 18446744073709551616)])) w := by
  rw [run_callFunc_extern Tryz.func72 (by kernel_rfl) (by kernel_rfl) (by kernel_rfl) (e := add64Entry) (by kernel_rfl), run_add64 x y c hx hy hc0 hc]
  rfl
theorem sub64 (x y b : Int) (hx : 0 ≤ x) (hy : 0 ≤ y) (hy' : y < 18446744073709551616) (hb0 : 0 ≤ b) (hb : b ≤ 1) (w : World) :
    (callFunc 93 #[.int .u64 x, .int .u64 y, .int .u64 b]).run Tryz.prog w =
      .ok (.value (.tuple #[.int .u64 ((x - y - b) % 18446744073709551616), .int .u64 (bor x (y + b))])) w := by
  obtain ⟨x, rfl⟩ := Int.eq_ofNat_of_zero_le hx
  obtain ⟨y, rfl⟩ := Int.eq_ofNat_of_zero_le hy
  obtain ⟨b, rfl⟩ := Int.eq_ofNat_of_zero_le hb0
  have e1 : (((x + 18446744073709551616 - y - b) % 18446744073709551616 : Nat) : Int) = ((x : Int) - y - b) % 18446744073709551616 := by omega
  have e2 : ((if x < y + b then 1 else 0 : Nat) : Int) = bor (x : Int) ((y : Int) + b) := by unfold bor; split <;> split <;> omega
  rw [run_callFunc_extern Tryz.func93 (by kernel_rfl) (by kernel_rfl) (by kernel_rfl) (e := sub64Entry) (by kernel_rfl), run_sub64 x y b (by omega), ← e1, ← e2]
  rfl
theorem add64_0 (x y : Int) (hx : 0 ≤ x) (hy : 0 ≤ y) (w : World) : (callFunc 72 #[.int .u64 x, .int .u64 y, .int .u64 0]).run Tryz.prog w =
    .ok (.value (.tuple #[.int .u64 ((x + y) % 18446744073709551616), .int .u64 ((x + y) / 18446744073709551616)])) w := by
  simpa using add64 x y 0 hx hy (Int.le_refl 0) (by decide) w
theorem sub64_0 (x y : Int) (hx : 0 ≤ x) (hy : 0 ≤ y) (hy' : y < 18446744073709551616) (w : World) : (callFunc 93 #[.int .u64 x, .int .u64 y, .int .u64 0]).run Tryz.prog w =
    .ok (.value (.tuple #[.int .u64 ((x - y) % 18446744073709551616), .int .u64 (bor x y)])) w := by
  simpa using sub64 x y 0 hx hy hy' (Int.le_refl 0) (by decide) w

/-- wide.Int.below. -/
theorem below_any (a : Int) (w : World) :
    Calls Tryz.prog 45 #[.agg #[.int .u64 (hiOf a), .int .u64 (loOf a)]] w fun e w' => e = .returned (.bool (negW a)) ∧ Below w.heap.size w w' := by
  have hd : decide (9223372036854775808 ≤ hiOf a) = negW a := rfl
  go_enter Tryz.func45, Tryz.ntmps45
  go_wp2
  go_ret
  exact ⟨rfl, (Below.refl _ _).alloc (Nat.le_refl _) _⟩

/-- wide.FromInt. -/
theorem fromInt_any (n : Int) (h0 : -9223372036854775808 ≤ n) (h1 : n ≤ 9223372036854775807) (w : World) :
    Calls Tryz.prog 46 #[.int .i64 n] w fun e w' => e = .returned (.agg #[.int .u64 (hiOf n), .int .u64 (loOf n)]) ∧ Below w.heap.size w w' := by
  have e1 : IntKind.u64.wrap (n / 9223372036854775808) = hiOf n := by rw [IntKind.wrap_u64]; unfold hiOf; omega
  have e2 : IntKind.u64.wrap n = loOf n := by rw [IntKind.wrap_u64]; rfl
  have E1 := Lib.hid e1; have E2 := Lib.hid e2; clear e1 e2
  go_enter Tryz.func46, Tryz.ntmps46
  go_wp2
  rw [E1.out, E2.out]
  exact bodyPost_ret (v := .agg #[.int .u64 (hiOf n), .int .u64 (loOf n)]) (by simp [results, Tryz.results46, go_sem]) rfl ⟨rfl, (Below.refl _ _).alloc (Nat.le_refl _) _⟩

/-- wide.Int.turned. -/
theorem turned_any (a : Int) (w : World) :
    Calls Tryz.prog 74 #[.agg #[.int .u64 (hiOf a), .int .u64 (loOf a)]] w fun e w' => e = .returned (.agg #[.int .u64 (hiOf (-a)), .int .u64 (loOf (-a))]) ∧ Below w.heap.size w w' := by
  obtain ⟨a1, a2⟩ := hiOf_word a
  obtain ⟨b1, b2⟩ := loOf_word a
  obtain ⟨k0, k1⟩ := bor_01 0 (loOf a)
  have E1 := Lib.hid (turn_lo' a); have E2 := Lib.hid (turn_hi' a)
  go_enter Tryz.func74, Tryz.ntmps74
  go_wp2_with (first | simp only [sub64_0 0 (loOf a) (Int.le_refl 0) b1 b2] | simp only [sub64 0 (hiOf a) _ (Int.le_refl 0) a1 a2 k0 k1])
  rw [E1.out, E2.out]
  exact bodyPost_ret (v := .agg #[.int .u64 (hiOf (-a)), .int .u64 (loOf (-a))]) (by simp [results, Tryz.results74, go_sem, *]) rfl ⟨rfl, (by repeat (first | exact Below.refl _ _ | refine Below.setCell ?_ (by first | (simp; done) | (simp; omega) | omega) _ | refine Below.alloc ?_ (by first | (simp; done) | (simp; omega) | omega) _ | refine Below.drew ?_ | assumption | refine Below.trans ?_ (Below.mono (by assumption) (by first | (simp; done) | (simp; omega) | omega))))⟩

/-- wide.Int.size. -/
theorem size_any (a : Int) (h : In128 a) (w : World) :
    Calls Tryz.prog 43 #[.agg #[.int .u64 (hiOf a), .int .u64 (loOf a)]] w fun e w' => e = .returned (.agg #[.int .u64 (hiOf (absI a)), .int .u64 (loOf (absI a))]) ∧ Below w.heap.size w w' := by
  have hn := negW_eq a h
  by_cases h0 : a < 0
  · have g : negW a = true := by rw [hn]; simpa using h0
    have e : absI a = -a := by unfold absI; rw [if_pos h0]
    rw [e]
    clear hn h e
    go_enter Tryz.func43, Tryz.ntmps43
    go_wp2_with (first | (go_at_call 45; refine (below_any _ _).mono ?_; rintro e w1 ⟨rfl, hb1⟩; obtain ⟨hc1, hf1⟩ := bcell hb1; have hs1 := hb1.size; (try simp at hs1); have hz1 : w.heap.size < w1.heap.size ∧ w.heap.size + 1 < w1.heap.size := by have := hb1.size; (try simp at this); omega) | (go_at_call 74; refine (turned_any _ _).mono ?_; rintro e w2 ⟨rfl, hb2⟩; obtain ⟨hc2, hf2⟩ := bcell hb2; have hs2 := hb2.size; (try simp at hs2); have hz2 : w.heap.size < w2.heap.size ∧ w.heap.size + 1 < w2.heap.size := by have := hb2.size; (try simp at this); omega))
    exact bodyPost_ret (v := .agg #[.int .u64 (hiOf (-a)), .int .u64 (loOf (-a))]) (by simp [results, Tryz.results43, go_sem, *]) rfl ⟨rfl, (by repeat (first | exact Below.refl _ _ | refine Below.setCell ?_ (by first | (simp; done) | (simp; omega) | omega) _ | refine Below.alloc ?_ (by first | (simp; done) | (simp; omega) | omega) _ | refine Below.drew ?_ | assumption | refine Below.trans ?_ (Below.mono (by assumption) (by first | (simp; done) | (simp; omega) | omega))))⟩
  · have g : negW a = false := by rw [hn]; simpa using h0
    have e : absI a = a := by unfold absI; rw [if_neg h0]
    rw [e]
    clear hn h e
    go_enter Tryz.func43, Tryz.ntmps43
    go_wp2_with (first | (go_at_call 45; refine (below_any _ _).mono ?_; rintro e w1 ⟨rfl, hb1⟩; obtain ⟨hc1, hf1⟩ := bcell hb1; have hs1 := hb1.size; (try simp at hs1); have hz1 : w.heap.size < w1.heap.size ∧ w.heap.size + 1 < w1.heap.size := by have := hb1.size; (try simp at this); omega))
    exact bodyPost_ret (v := .agg #[.int .u64 (hiOf a), .int .u64 (loOf a)]) (by simp [results, Tryz.results43, go_sem, *]) rfl ⟨rfl, (by repeat (first | exact Below.refl _ _ | refine Below.setCell ?_ (by first | (simp; done) | (simp; omega) | omega) _ | refine Below.alloc ?_ (by first | (simp; done) | (simp; omega) | omega) _ | refine Below.drew ?_ | assumption | refine Below.trans ?_ (Below.mono (by assumption) (by first | (simp; done) | (simp; omega) | omega))))⟩

end Go.Proofs.YtakfjdnpfhcgkaaGreatDoor
