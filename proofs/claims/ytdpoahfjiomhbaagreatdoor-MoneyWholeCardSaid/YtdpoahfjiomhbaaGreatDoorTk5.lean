/-
  Contracts of tier.Tiered, tier.Volume, tier.Flat, tier.Prorate, tier.Percent.
-/
import Derived.Test.YtdpoahfjiomhbaaGreatDoorWk4
import Derived.Test.YtdpoahfjiomhbaaGreatDoorTk4
import Derived.Test.YtdpoahfjiomhbaaGreatDoorQh
namespace Go.Proofs.YtdpoahfjiomhbaaGreatDoor
set_option linter.all false
open Go.RowKit Go.Sort
attribute [local go_sem] cell_set_self lt_1 lt_2 lt_3 lt_4 lt_5 lt_6




theorem tiered_any (A : Option Addr) (n c : Nat) (l : List (Int × Int)) (q : Int) (hl : l.length = n) (hn : n ≤ 1000000) (hq : In64 q) (w : World) (T : Tiers w A l) :
    Calls Tryz.prog 50 #[.slice A n c, .int .i64 q] w fun e w' => e = .returned (.tuple #[.int .i64 (priceN l q (byT l 0 q)), .int .i64 (priceE l q (byT l 0 q))]) ∧ Below w.heap.size w w' := by
  have C := Lib.hid (priced_T A n c l q hl hn hq w T)
  clear T hl
  go_enter Tryz.func50, Tryz.ntmps50
  go_wp2_with (first | (go_at_call 101; refine (C.out).mono ?_; rintro e w1 ⟨rfl, hb1⟩; obtain ⟨hc1, hf1⟩ := bcell hb1; have hs1 := hb1.size; (try simp at hs1)))
  go_ret2
  exact ⟨rfl, (by repeat (first | exact Below.refl _ _ | refine Below.setCell ?_ (by first | (simp; done) | (simp; omega) | omega) _ | refine Below.alloc ?_ (by first | (simp; done) | (simp; omega) | omega) _ | refine Below.drew ?_ | assumption | refine Below.trans ?_ (Below.mono (by assumption) (by first | (simp; done) | (simp; omega) | omega))))⟩
theorem volume_any (A : Option Addr) (n c : Nat) (l : List (Int × Int)) (q : Int) (hl : l.length = n) (hn : n ≤ 1000000) (hq : In64 q) (w : World) (T : Tiers w A l) :
    Calls Tryz.prog 52 #[.slice A n c, .int .i64 q] w fun e w' => e = .returned (.tuple #[.int .i64 (priceN l q (byV l q)), .int .i64 (priceE l q (byV l q))]) ∧ Below w.heap.size w w' := by
  have C := Lib.hid (priced_V A n c l q hl hn hq w T)
  clear T hl
  go_enter Tryz.func52, Tryz.ntmps52
  go_wp2_with (first | (go_at_call 101; refine (C.out).mono ?_; rintro e w1 ⟨rfl, hb1⟩; obtain ⟨hc1, hf1⟩ := bcell hb1; have hs1 := hb1.size; (try simp at hs1)))
  go_ret2
  exact ⟨rfl, (by repeat (first | exact Below.refl _ _ | refine Below.setCell ?_ (by first | (simp; done) | (simp; omega) | omega) _ | refine Below.alloc ?_ (by first | (simp; done) | (simp; omega) | omega) _ | refine Below.drew ?_ | assumption | refine Below.trans ?_ (Below.mono (by assumption) (by first | (simp; done) | (simp; omega) | omega))))⟩

theorem tiers_one (w : World) (u p : Int) : Tiers (w.alloc (.cells #[.int .i64 u, .int .i64 p] 37)) (some ⟨w.heap.size, 0, none⟩) [(u, p)] := fun i t h => by
  match i, h with
  | 0, h =>
    simp at h; subst h
    exact ⟨w.heap.size, 0, rfl, by simp, by simp [go_sem], by simp [go_sem]⟩
theorem flat_any (p q : Int) (hq : In64 q) (w : World) :
    Calls Tryz.prog 53 #[.int .i64 p, .int .i64 q] w fun e w' => e = .returned (.tuple #[.int .i64 (priceN [(0, p)] q (byV [(0, p)] q)), .int .i64 (priceE [(0, p)] q (byV [(0, p)] q))]) ∧ Below w.heap.size w w' := by
  have C := Lib.hid (fun W (T : Tiers W (some ⟨w.heap.size, 0, none⟩) [(0, p)]) => volume_any (some ⟨w.heap.size, 0, none⟩) 1 1 [(0, p)] q rfl (by omega) hq W T)
  have T1 := Lib.hid (tiers_one w 0 p)
  go_enter Tryz.func53, Tryz.ntmps53
  go_wp2_with (first | (go_at_call 52; refine (C.out _ T1.out).mono ?_; rintro e w1 ⟨rfl, hb1⟩; obtain ⟨hc1, hf1⟩ := bcell hb1; have hs1 := hb1.size; (try simp at hs1); have hz1 : w.heap.size < w1.heap.size := by have := hb1.size; (try simp at this); omega))
  go_ret2
  exact ⟨rfl, (by repeat (first | exact Below.refl _ _ | refine Below.setCell ?_ (by first | (simp; done) | (simp; omega) | omega) _ | refine Below.alloc ?_ (by first | (simp; done) | (simp; omega) | omega) _ | refine Below.drew ?_ | assumption | refine Below.trans ?_ (Below.mono (by assumption) (by first | (simp; done) | (simp; omega) | omega))))⟩

/-- What tier.Prorate answers. -/
def prorN (n p wh : Int) : Int := if wh = 0 then 0 else if n < -4611686018427387904 ∨ 4611686018427387904 < n ∨ p < 0 ∨ wh < p ∨ 2147483648 < wh then 0 else unitsN (rhe (n * p) wh)
def prorE (n p wh : Int) : Int := if wh = 0 then 17 else if n < -4611686018427387904 ∨ 4611686018427387904 < n ∨ p < 0 ∨ wh < p ∨ 2147483648 < wh then 6 else unitsE (rhe (n * p) wh)
/-- What tier.Percent answers. -/
def percN (n m : Int) : Int := if n < -4611686018427387904 ∨ 4611686018427387904 < n ∨ m < 0 ∨ 10000000 < m then 0 else unitsN (rhe (n * m) 1000000)
def percE (n m : Int) : Int := if n < -4611686018427387904 ∨ 4611686018427387904 < n ∨ m < 0 ∨ 10000000 < m then 6 else unitsE (rhe (n * m) 1000000)

theorem mul_wide {a b : Int} (h0 : -4611686018427387904 ≤ a) (h1 : a ≤ 4611686018427387904) (k0 : 0 ≤ b) (k1 : b ≤ 2147483648) : -9903520314283042199192993792 ≤ a * b ∧ a * b ≤ 9903520314283042199192993792 := by
  have x : a * b ≤ 4611686018427387904 * b := Int.mul_le_mul_of_nonneg_right h1 k0
  have y : -4611686018427387904 * b ≤ a * b := Int.mul_le_mul_of_nonneg_right h0 k0
  omega
theorem rhe_in (a d : Int) (ha : -9903520314283042199192993792 ≤ a ∧ a ≤ 9903520314283042199192993792) (hd : 0 < d) : In128 (rhe a d) := by
  unfold rhe
  split
  · have b := rheA_bd (-a) d (by omega) hd
    unfold In128; omega
  · have b := rheA_bd a d (by omega) hd
    unfold In128; omega
set_option maxHeartbeats 1000000 in
theorem prorate_any (n p wh : Int) (hn : In64 n) (hp : In64 p) (hw : In64 wh) (w : World) :
    Calls Tryz.prog 54 #[.int .i64 n, .int .i64 p, .int .i64 wh] w fun e w' => e = .returned (.tuple #[.int .i64 (prorN n p wh), .int .i64 (prorE n p wh)]) ∧ Below w.heap.size w w' := by
  by_cases h0 : wh = 0
  · have e1 : prorN n p wh = 0 := by unfold prorN; rw [if_pos h0]
    have e2 : prorE n p wh = 17 := by unfold prorE; rw [if_pos h0]
    rw [e1, e2]
    clear e1 e2
    go_enter Tryz.func54, Tryz.ntmps54
    go_wp2
    go_ret2
    exact ⟨rfl, (by repeat (first | exact Below.refl _ _ | refine Below.setCell ?_ (by first | (simp; done) | (simp; omega) | omega) _ | refine Below.alloc ?_ (by first | (simp; done) | (simp; omega) | omega) _ | refine Below.drew ?_ | assumption | refine Below.trans ?_ (Below.mono (by assumption) (by first | (simp; done) | (simp; omega) | omega))))⟩
  · have d0 : (wh == 0) = false := by simpa using h0
    by_cases hb : n < -4611686018427387904 ∨ 4611686018427387904 < n ∨ p < 0 ∨ wh < p ∨ 2147483648 < wh
    · have e1 : prorN n p wh = 0 := by unfold prorN; rw [if_neg h0, if_pos hb]
      have e2 : prorE n p wh = 6 := by unfold prorE; rw [if_neg h0, if_pos hb]
      rw [e1, e2]
      clear e1 e2 h0
      rcases (show n < -4611686018427387904 ∨ (-4611686018427387904 ≤ n ∧ 4611686018427387904 < n) ∨ (-4611686018427387904 ≤ n ∧ n ≤ 4611686018427387904 ∧ p < 0) ∨ (-4611686018427387904 ≤ n ∧ n ≤ 4611686018427387904 ∧ 0 ≤ p ∧ wh < p) ∨ (-4611686018427387904 ≤ n ∧ n ≤ 4611686018427387904 ∧ 0 ≤ p ∧ p ≤ wh ∧ 2147483648 < wh) by omega) with h | ⟨h, h2⟩ | ⟨h, h2, h3⟩ | ⟨h, h2, h3, h4⟩ | ⟨h, h2, h3, h4, h5⟩
      all_goals
        clear hb
        go_enter Tryz.func54, Tryz.ntmps54
        go_wp2
        go_ret2
        exact ⟨rfl, (by repeat (first | exact Below.refl _ _ | refine Below.setCell ?_ (by first | (simp; done) | (simp; omega) | omega) _ | refine Below.alloc ?_ (by first | (simp; done) | (simp; omega) | omega) _ | refine Below.drew ?_ | assumption | refine Below.trans ?_ (Below.mono (by assumption) (by first | (simp; done) | (simp; omega) | omega))))⟩
    · have e1 : prorN n p wh = unitsN (rhe (n * p) wh) := by unfold prorN; rw [if_neg h0, if_neg hb]
      have e2 : prorE n p wh = unitsE (rhe (n * p) wh) := by unfold prorE; rw [if_neg h0, if_neg hb]
      rw [e1, e2]
      obtain ⟨b1, b2, b3, b4, b5⟩ : -4611686018427387904 ≤ n ∧ n ≤ 4611686018427387904 ∧ 0 ≤ p ∧ p ≤ wh ∧ wh ≤ 2147483648 := by omega
      have mw := mul_wide b1 b2 b3 (b := p) (by omega)
      have i1 : In128 (n * p) := by unfold In128; omega
      have i2 := rhe_in (n * p) wh mw (by omega)
      have hpos : 0 < wh := by omega
      clear e1 e2 h0 hb mw
      go_enter Tryz.func54, Tryz.ntmps54
      go_wp2_with (first | (go_at_call 69; refine (mul_any _ _ hn hp _).mono ?_; rintro e w1 ⟨rfl, hb1⟩; obtain ⟨hc1, hf1⟩ := bcell hb1; have hs1 := hb1.size; (try simp at hs1)) | (go_at_call 89; refine (divEven_any _ _ i1 hw hpos _).mono ?_; rintro e w2 ⟨rfl, hb2⟩; obtain ⟨hc2, hf2⟩ := bcell hb2; have hs2 := hb2.size; (try simp at hs2)) | (go_at_call 104; refine (units_any _ i2 _).mono ?_; rintro e w3 ⟨rfl, hb3⟩; obtain ⟨hc3, hf3⟩ := bcell hb3; have hs3 := hb3.size; (try simp at hs3)))
      go_ret2
      exact ⟨rfl, (by repeat (first | exact Below.refl _ _ | refine Below.setCell ?_ (by first | (simp; done) | (simp; omega) | omega) _ | refine Below.alloc ?_ (by first | (simp; done) | (simp; omega) | omega) _ | refine Below.drew ?_ | assumption | refine Below.trans ?_ (Below.mono (by assumption) (by first | (simp; done) | (simp; omega) | omega))))⟩
theorem num_any (e : Int) (w : World) : Calls Tryz.prog 17 #[.int .i64 e] w fun x w' => x = .returned (.int .i64 e) ∧ Below w.heap.size w w' := by
  go_enter Tryz.func17, Tryz.ntmps17
  go_wp2
  go_ret
  exact ⟨rfl, (by repeat (first | exact Below.refl _ _ | refine Below.setCell ?_ (by first | (simp; done) | (simp; omega) | omega) _ | refine Below.alloc ?_ (by first | (simp; done) | (simp; omega) | omega) _ | refine Below.drew ?_ | assumption | refine Below.trans ?_ (Below.mono (by assumption) (by first | (simp; done) | (simp; omega) | omega))))⟩
end Go.Proofs.YtdpoahfjiomhbaaGreatDoor
