/-
  Contract of http.Format.
-/
import Derived.Test.YtkaimfeiahogaaaGreatDoorHt2
import Derived.Test.YtkaimfeiahogaaaGreatDoorHp5
namespace Go.Proofs.YtkaimfeiahogaaaGreatDoor
set_option linter.all false
open Go.RowKit Go.Shelf
attribute [local go_sem] cell_set_self lt_1 lt_2 lt_3 lt_4 lt_5 lt_6

theorem sadd (a b : List UInt8) (c : List UInt8) (h : a ++ b = c) (ha : a.length ≤ 4000000) (hb : b.length ≤ 4000000) (W : World) : (Op.stringOp .add ⟨a.toArray⟩ ⟨b.toArray⟩).run Tryz.prog W = .ok (.string ⟨c.toArray⟩) W := by
  rw [run_string_add_sum W _ _ (by rw [ba_sz, ba_sz]; omega), app_str, h]
set_option maxHeartbeats 4000000 in
set_option maxRecDepth 100000 in
theorem format_bad (m p : List UInt8) (cl : Bool) (A : Option Addr) (n c : Nat) (hp : p.length ≤ 1000000) (hn : n ≤ 9223372036854775807) (h : fmtE m p n ≠ 0) (w : World) :
    Calls Tryz.prog 17 #[rqB m p A n c cl] w fun e w' => e = .returned (.tuple #[.slice none 0 0, .int .i64 (fmtE m p n)]) ∧ Below w.heap.size w w' := by
  have e1 := str_beq2 m [71, 69, 84]
  have e2 := str_beq2 m [80, 79, 83, 84]
  have IP := Lib.hid (fun W => isPath_any p (by omega) W)
  unfold rqB
  by_cases hm : m = tGet ∨ m = tPost
  · have e12 : decide (m = [71, 69, 84]) = true ∨ (decide (m = [71, 69, 84]) = false ∧ decide (m = [80, 79, 83, 84]) = true) := by
      rcases hm with h1 | h1
      · exact .inl (decide_eq_true h1)
      · exact .inr ⟨decide_eq_false (by rw [h1]; decide), decide_eq_true h1⟩
    have hnm : ¬ (m ≠ tGet ∧ m ≠ tPost) := fun hx => by rcases hm with h1 | h1; exact hx.1 h1; exact hx.2 h1
    cases hb : pathB p with
    | false =>
      have hE : fmtE m p n = 10 := by unfold fmtE; rw [if_neg hnm, if_pos hb]
      rw [hE]
      rw [hb] at IP
      clear hE h hm hnm hb hp
      generalize (⟨p.toArray⟩ : ByteArray) = P at *
      generalize (⟨m.toArray⟩ : ByteArray) = M at *
      rcases e12 with k1 | ⟨k1, k2⟩
      · rw [k1] at e1
        clear k1 e2
        go_enter Tryz.func17, Tryz.ntmps17
        go_wp2_with (first | (go_at_call 37; (with_reducible refine (IP.out _).mono ?_); rintro e w5 ⟨rfl, rfl⟩))
        go_ret2
        exact ⟨rfl, (by repeat (first | exact Below.refl _ _ | refine Below.setCell ?_ (by first | (simp; done) | (simp; omega) | omega) _ | refine Below.alloc ?_ (by first | (simp; done) | (simp; omega) | omega) _ | refine Below.drew ?_ | assumption | refine Below.trans ?_ (Below.mono (by assumption) (by first | (simp; done) | (simp; omega) | omega))))⟩
      · rw [k1] at e1
        rw [k2] at e2
        clear k1 k2
        go_enter Tryz.func17, Tryz.ntmps17
        go_wp2_with (first | (go_at_call 37; (with_reducible refine (IP.out _).mono ?_); rintro e w5 ⟨rfl, rfl⟩))
        go_ret2
        exact ⟨rfl, (by repeat (first | exact Below.refl _ _ | refine Below.setCell ?_ (by first | (simp; done) | (simp; omega) | omega) _ | refine Below.alloc ?_ (by first | (simp; done) | (simp; omega) | omega) _ | refine Below.drew ?_ | assumption | refine Below.trans ?_ (Below.mono (by assumption) (by first | (simp; done) | (simp; omega) | omega))))⟩
    | true =>
      have hn8 : 32768 < n := by
        rcases Nat.lt_or_ge 32768 n with h1 | h1
        · exact h1
        · exact absurd (by unfold fmtE; rw [if_neg hnm, hb, if_neg (by decide), if_neg (by omega)]) h
      have hE : fmtE m p n = 8 := by unfold fmtE; rw [if_neg hnm, hb, if_neg (by decide), if_pos hn8]
      have hn8' : (32768 : Int) < (n : Int) := by omega
      rw [hE]
      rw [hb] at IP
      clear hE h hm hnm hb hp
      generalize (⟨p.toArray⟩ : ByteArray) = P at *
      generalize (⟨m.toArray⟩ : ByteArray) = M at *
      rcases e12 with k1 | ⟨k1, k2⟩
      · rw [k1] at e1
        clear k1 e2
        go_enter Tryz.func17, Tryz.ntmps17
        go_wp2_with (first | (go_at_call 37; (with_reducible refine (IP.out _).mono ?_); rintro e w5 ⟨rfl, rfl⟩))
        go_ret2
        exact ⟨rfl, (by repeat (first | exact Below.refl _ _ | refine Below.setCell ?_ (by first | (simp; done) | (simp; omega) | omega) _ | refine Below.alloc ?_ (by first | (simp; done) | (simp; omega) | omega) _ | refine Below.drew ?_ | assumption | refine Below.trans ?_ (Below.mono (by assumption) (by first | (simp; done) | (simp; omega) | omega))))⟩
      · rw [k1] at e1
        rw [k2] at e2
        clear k1 k2
        go_enter Tryz.func17, Tryz.ntmps17
        go_wp2_with (first | (go_at_call 37; (with_reducible refine (IP.out _).mono ?_); rintro e w5 ⟨rfl, rfl⟩))
        go_ret2
        exact ⟨rfl, (by repeat (first | exact Below.refl _ _ | refine Below.setCell ?_ (by first | (simp; done) | (simp; omega) | omega) _ | refine Below.alloc ?_ (by first | (simp; done) | (simp; omega) | omega) _ | refine Below.drew ?_ | assumption | refine Below.trans ?_ (Below.mono (by assumption) (by first | (simp; done) | (simp; omega) | omega))))⟩
  · have hE : fmtE m p n = 30 := by unfold fmtE; rw [if_pos ⟨fun e => hm (.inl e), fun e => hm (.inr e)⟩]
    rw [hE]
    rw [decide_eq_false (p := m = [71, 69, 84]) (fun e => hm (.inl e))] at e1
    rw [decide_eq_false (p := m = [80, 79, 83, 84]) (fun e => hm (.inr e))] at e2
    clear hE h hm hp IP
    generalize (⟨p.toArray⟩ : ByteArray) = P at *
    generalize (⟨m.toArray⟩ : ByteArray) = M at *
    go_enter Tryz.func17, Tryz.ntmps17
    go_wp2
    go_ret2
    exact ⟨rfl, (by repeat (first | exact Below.refl _ _ | refine Below.setCell ?_ (by first | (simp; done) | (simp; omega) | omega) _ | refine Below.alloc ?_ (by first | (simp; done) | (simp; omega) | omega) _ | refine Below.drew ?_ | assumption | refine Below.trans ?_ (Below.mono (by assumption) (by first | (simp; done) | (simp; omega) | omega))))⟩
end Go.Proofs.YtkaimfeiahogaaaGreatDoor
