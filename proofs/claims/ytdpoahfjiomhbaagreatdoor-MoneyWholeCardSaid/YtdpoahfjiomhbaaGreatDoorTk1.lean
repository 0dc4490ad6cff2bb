/-
  Contract of tier.Check.
-/
import Derived.Test.YtdpoahfjiomhbaaGreatDoorWk5
import Derived.Test.YtdpoahfjiomhbaaGreatDoorTm
namespace Go.Proofs.YtdpoahfjiomhbaaGreatDoor
set_option linter.all false
open Go.RowKit
attribute [local go_sem] cell_set_self lt_1 lt_2 lt_3 lt_4 lt_5 lt_6



/-- A slice of tiers, as memory has it. -/
def Tiers (w : World) (A : Option Addr) (l : List (Int × Int)) : Prop :=
  ∀ (i : Nat) (t : Int × Int), l[i]? = some t → ∃ b off, A = some ⟨b, off, none⟩ ∧ b < w.heap.size ∧ w.cell? ⟨b, off + i * 2, none⟩ = some (.int .i64 t.1) ∧ w.cell? ⟨b, off + i * 2 + 1, none⟩ = some (.int .i64 t.2)

theorem ret_int {k : IntKind} {a b : Int} (h : a = b) : Ending.returned (.int k a) = .returned (.int k b) := by rw [h]

set_option maxHeartbeats 1000000 in
theorem check_any (A : Option Addr) (n c : Nat) (l : List (Int × Int)) (hl : l.length = n) (hn : n ≤ 1000000) (w : World) (T : Tiers w A l) :
    Calls Tryz.prog 55 #[.slice A n c] w fun e w' => e = .returned (.int .i64 (checkT l)) ∧ Below w.heap.size w w' := by
  by_cases h0 : n = 0
  · subst h0
    have e : checkT l = 9 := by unfold checkT; rw [if_pos (.inl hl)]
    rw [e]
    clear e hl
    go_enter Tryz.func55, Tryz.ntmps55
    go_wp2
    go_ret
    exact ⟨rfl, (by repeat (first | exact Below.refl _ _ | refine Below.setCell ?_ (by first | (simp; done) | (simp; omega) | omega) _ | refine Below.alloc ?_ (by first | (simp; done) | (simp; omega) | omega) _ | refine Below.drew ?_ | assumption | refine Below.trans ?_ (Below.mono (by assumption) (by first | (simp; done) | (simp; omega) | omega))))⟩
  by_cases h20 : 20 < n
  · have e : checkT l = 9 := by unfold checkT; rw [if_pos (.inr (by omega))]
    rw [e]
    clear e
    go_enter Tryz.func55, Tryz.ntmps55
    go_wp2
    go_ret
    exact ⟨rfl, (by repeat (first | exact Below.refl _ _ | refine Below.setCell ?_ (by first | (simp; done) | (simp; omega) | omega) _ | refine Below.alloc ?_ (by first | (simp; done) | (simp; omega) | omega) _ | refine Below.drew ?_ | assumption | refine Below.trans ?_ (Below.mono (by assumption) (by first | (simp; done) | (simp; omega) | omega))))⟩
  obtain ⟨b, off, rfl⟩ : ∃ b off, A = some ⟨b, off, none⟩ := by
    obtain ⟨b, off, h, _⟩ := T 0 (l[0]'(by omega)) (by simp)
    exact ⟨b, off, h⟩
  have hd0 : ((n : Int) == 0) = false := by simp; omega
  have hd1 : decide (20 < (n : Int)) = false := by simp; omega
  have L1 := Lib.hid (show l.length ≠ 0 by omega); have L2 := Lib.hid (show l.length ≤ 20 by omega); have HL := Lib.hid hl
  clear hl
  go_enter Tryz.func55, Tryz.ntmps55
  go_wp2
  go_loopw [3, 18] (fun a i wr => ∃ (k : Nat) (ah : Int), k ≤ n ∧ i = .int .i64 k ∧ a = .int .i64 ah ∧ okFrom ah (l.drop k) = okFrom 0 l ∧ Below w.heap.size w wr) (fun _ i _ => n - (intOf i).toNat)
  case atStart => exact ⟨0, 0, Nat.zero_le _, rfl, rfl, rfl, (by repeat (first | exact Below.refl _ _ | refine Below.setCell ?_ (by first | (simp; done) | (simp; omega) | omega) _ | refine Below.alloc ?_ (by first | (simp; done) | (simp; omega) | omega) _ | refine Below.drew ?_ | assumption | refine Below.trans ?_ (Below.mono (by assumption) (by first | (simp; done) | (simp; omega) | omega))))⟩
  case round =>
    obtain ⟨k, ah, hk, rfl, rfl, hok, hB⟩ := hrel
    have Hok := Lib.hid hok
    clear hok
    by_cases hlt : k < n
    · have hg : l[k]? = some (l[k]'(by have := HL.out; omega)) := List.getElem?_eq_getElem _
      obtain ⟨⟨u, p⟩, hup⟩ : ∃ t, t = (l[k]'(by have := HL.out; omega)) := ⟨_, rfl⟩
      rw [← hup] at hg
      obtain ⟨b', off', hA, hbs, hc0, hc1⟩ := T k (u, p) hg
      injection hA with hA; injection hA with hb ho; subst hb; subst ho
      have q0 := (hB.cell (p := ⟨b, off + k * 2, none⟩) hbs).trans hc0
      have q1 := (hB.cell (p := ⟨b, off + k * 2 + 1, none⟩) hbs).trans hc1
      have hsz := hB.size
      have Hg := Lib.hid hg
      clear hg hup hc0 hc1 T
      by_cases hlast : k + 1 = n
      · have d1 : ((k : Int) == (n : Int) - 1) = true := by simp; omega
        by_cases good : u = 0 ∧ 0 ≤ p ∧ p ≤ 1125899906842624
        · have g := chk_last_good Hg.out (by rw [HL.out]; exact hlast) Hok.out good
          have G := Lib.hid g; clear g
          obtain ⟨g1, g2, g3⟩ := good
          have d2 : (u == 0) = true := by simp [g1]
          have G1 := Lib.hid g1; clear g1 hlast
          by_cases f1 : ah < u <;> by_cases f2 : u ≤ 1125899906842624
          all_goals
            go_wp2
            go_roundw
            case rel => exact ⟨k + 1, u, by omega, by go_num, rfl, G.out, (by repeat (first | exact Below.refl _ _ | refine Below.setCell ?_ (by first | (simp; done) | (simp; omega) | omega) _ | refine Below.alloc ?_ (by first | (simp; done) | (simp; omega) | omega) _ | refine Below.drew ?_ | assumption | refine Below.trans ?_ (Below.mono (by assumption) (by first | (simp; done) | (simp; omega) | omega))))⟩
            case measure => simp [intOf]; omega
        · have g := chk_last_bad L1.out L2.out Hg.out (by rw [HL.out]; exact hlast) Hok.out good
          have G := Lib.hid g; clear g hlast
          rcases (show p < 0 ∨ 1125899906842624 < p ∨ (0 ≤ p ∧ p ≤ 1125899906842624 ∧ (u == 0) = false) by simp; omega) with f | f | ⟨f1, f2, f3⟩
          all_goals
            clear good
            go_wp2
            all_goals (go_ret; exact ⟨ret_int G.out.symm, (by repeat (first | exact Below.refl _ _ | refine Below.setCell ?_ (by first | (simp; done) | (simp; omega) | omega) _ | refine Below.alloc ?_ (by first | (simp; done) | (simp; omega) | omega) _ | refine Below.drew ?_ | assumption | refine Below.trans ?_ (Below.mono (by assumption) (by first | (simp; done) | (simp; omega) | omega))))⟩)
      · have d1 : ((k : Int) == (n : Int) - 1) = false := by simp; omega
        by_cases good : ah < u ∧ u ≤ 1125899906842624 ∧ 0 ≤ p ∧ p ≤ 1125899906842624
        · have g := chk_mid_good Hg.out (by rw [HL.out]; omega) Hok.out good
          have G := Lib.hid g; clear g
          obtain ⟨g1, g2, g3, g4⟩ := good
          go_wp2
          go_roundw
          case rel => exact ⟨k + 1, u, by omega, by go_num, rfl, G.out, (by repeat (first | exact Below.refl _ _ | refine Below.setCell ?_ (by first | (simp; done) | (simp; omega) | omega) _ | refine Below.alloc ?_ (by first | (simp; done) | (simp; omega) | omega) _ | refine Below.drew ?_ | assumption | refine Below.trans ?_ (Below.mono (by assumption) (by first | (simp; done) | (simp; omega) | omega))))⟩
          case measure => simp [intOf]; omega
        · have g := chk_mid_bad L1.out L2.out Hg.out (by rw [HL.out]; omega) Hok.out good
          have G := Lib.hid g; clear g
          rcases (show p < 0 ∨ 1125899906842624 < p ∨ (0 ≤ p ∧ p ≤ 1125899906842624 ∧ u ≤ ah) ∨ (0 ≤ p ∧ p ≤ 1125899906842624 ∧ ah < u ∧ 1125899906842624 < u ∧ decide (u ≤ 1125899906842624) = false) by simp; omega) with f | f | ⟨f1, f2, f3⟩ | ⟨f1, f2, f3, f4, f5⟩
          all_goals
            clear good
            go_wp2
            all_goals (go_ret; exact ⟨ret_int G.out.symm, (by repeat (first | exact Below.refl _ _ | refine Below.setCell ?_ (by first | (simp; done) | (simp; omega) | omega) _ | refine Below.alloc ?_ (by first | (simp; done) | (simp; omega) | omega) _ | refine Below.drew ?_ | assumption | refine Below.trans ?_ (Below.mono (by assumption) (by first | (simp; done) | (simp; omega) | omega))))⟩)
    · have hkn : k = n := by omega
      subst hkn
      have g : checkT l = 0 := chk_0 L1.out L2.out (by rw [← Hok.out, List.drop_of_length_le (by rw [HL.out]; exact Nat.le_refl _)]; rfl)
      have G := Lib.hid g; clear g
      go_wp2
      go_ret
      exact ⟨ret_int G.out.symm, (by repeat (first | exact Below.refl _ _ | refine Below.setCell ?_ (by first | (simp; done) | (simp; omega) | omega) _ | refine Below.alloc ?_ (by first | (simp; done) | (simp; omega) | omega) _ | refine Below.drew ?_ | assumption | refine Below.trans ?_ (Below.mono (by assumption) (by first | (simp; done) | (simp; omega) | omega))))⟩
end Go.Proofs.YtdpoahfjiomhbaaGreatDoor
