/-
  Contract of http.Format, whatever the path's length.
-/
import Derived.Test.YtkaimfeiahogaaaGreatDoorHw3
namespace Go.Proofs.YtkaimfeiahogaaaGreatDoor
set_option linter.all false
open Go.RowKit Go.Shelf
attribute [local go_sem] cell_set_self lt_1 lt_2 lt_3 lt_4 lt_5 lt_6

theorem some_far (s : List UInt8) (h : 200 < s.length) (w : World) : Calls Tryz.prog 59 #[.string ⟨s.toArray⟩, .int .i64 200, .func (.func 60) #[] #[]] w fun e w' => e = .returned (.bool false) ∧ w = w' := by
  have e0 : ((⟨s.toArray⟩ : ByteArray).toList == []) = false := by rw [ByteArray.toList_mk]; cases s with | nil => simp at h | cons a r => rfl
  have e0' : (⟨s.toArray⟩ : ByteArray).toList.isEmpty = false := by rw [ByteArray.toList_mk]; cases s with | nil => simp at h | cons a r => rfl
  have hs : (200 : Int) < ((⟨s.toArray⟩ : ByteArray).size : Int) := by rw [ba_sz]; omega
  generalize (⟨s.toArray⟩ : ByteArray) = t at *
  clear h
  go_enter Tryz.func59, Tryz.ntmps59
  go_wp2
  go_ret
  exact ⟨rfl, rfl⟩
theorem isPath_all (s : List UInt8) (w : World) : Calls Tryz.prog 37 #[.string ⟨s.toArray⟩] w fun e w' => e = .returned (.bool (pathB s)) ∧ w = w' := by
  by_cases h : s.length ≤ 1000000000
  · exact isPath_any s h w
  · have SO := Lib.hid (fun W => some_far s (by omega) W)
    have e : pathB s = false := by unfold pathB someL; rw [decide_eq_false (p := s.length ≤ 200) (by omega)]; simp
    rw [e]
    clear h e
    generalize (⟨s.toArray⟩ : ByteArray) = t at *
    go_enter Tryz.func37, Tryz.ntmps37
    go_wp2_with (go_at_call 59; refine (SO.out _).mono ?_; rintro e w' ⟨rfl, rfl⟩)
    go_ret
    exact ⟨rfl, rfl⟩
set_option maxHeartbeats 4000000 in
set_option maxRecDepth 100000 in
theorem format_badA (m p : List UInt8) (cl : Bool) (A : Option Addr) (n c : Nat) (hn : n ≤ 9223372036854775807) (h : fmtE m p n ≠ 0) (w : World) :
    Calls Tryz.prog 17 #[rqB m p A n c cl] w fun e w' => e = .returned (.tuple #[.slice none 0 0, .int .i64 (fmtE m p n)]) ∧ Below w.heap.size w w' := by
  have e1 := str_beq2 m [71, 69, 84]
  have e2 := str_beq2 m [80, 79, 83, 84]
  have IP := Lib.hid (fun W => isPath_all p W)
  unfold rqB
  by_cases hm : m = tGet ∨ m = tPost
  · have e12 : decide (m = [71, 69, 84]) = true ∨ (decide (m = [71, 69, 84]) = false ∧ decide (m = [80, 79, 83, 84]) = true) := by
      rcases hm with h1 | h1
      · exact .inl (decide_eq_true h1)
      · exact .inr ⟨decide_eq_false (by rw [h1]; decide), decide_eq_true h1⟩
    have hnm : ¬ (m ≠ tGet ∧ m ≠ tPost) := fun hx => by rcases hm with h1 | h1; exact hx.1 h1; exact hx.2 h1
    cases hb : pathB p with
    | false =>
      have hE : fmtE m p n = 10 := by unfold fmtE; rw [if_neg hnm, if_pos hb]
      rw [hE]
      rw [hb] at IP
      clear hE h hm hnm hb
      generalize (⟨p.toArray⟩ : ByteArray) = P at *
      generalize (⟨m.toArray⟩ : ByteArray) = M at *
      rcases e12 with k1 | ⟨k1, k2⟩
      · rw [k1] at e1
        clear k1 e2
        go_enter Tryz.func17, Tryz.ntmps17
        go_wp2_with (first | (go_at_call 37; (with_reducible refine (IP.out _).mono ?_); rintro e w5 ⟨rfl, rfl⟩))
        go_ret2
        exact ⟨rfl, (by repeat (first | exact Below.refl _ _ | refine Below.setCell ?_ (by first | (simp; done) | (simp; omega) | omega) _ | refine Below.alloc ?_ (by first | (simp; done) | (simp; omega) | omega) _ | refine Below.drew ?_ | assumption | refine Below.trans ?_ (Below.mono (by assumption) (by first | (simp; done) | (simp; omega) | omega))))⟩
      · rw [k1] at e1
        rw [k2] at e2
        clear k1 k2
        go_enter Tryz.func17, Tryz.ntmps17
        go_wp2_with (first | (go_at_call 37; (with_reducible refine (IP.out _).mono ?_); rintro e w5 ⟨rfl, rfl⟩))
        go_ret2
        exact ⟨rfl, (by repeat (first | exact Below.refl _ _ | refine Below.setCell ?_ (by first | (simp; done) | (simp; omega) | omega) _ | refine Below.alloc ?_ (by first | (simp; done) | (simp; omega) | omega) _ | refine Below.drew ?_ | assumption | refine Below.trans ?_ (Below.mono (by assumption) (by first | (simp; done) | (simp; omega) | omega))))⟩
    | true =>
      have hn8 : 32768 < n := by
        rcases Nat.lt_or_ge 32768 n with h1 | h1
        · exact h1
        · exact absurd (by unfold fmtE; rw [if_neg hnm, hb, if_neg (by decide), if_neg (by omega)]) h
      have hE : fmtE m p n = 8 := by unfold fmtE; rw [if_neg hnm, hb, if_neg (by decide), if_pos hn8]
      have hn8' : (32768 : Int) < (n : Int) := by omega
      rw [hE]
      rw [hb] at IP
      clear hE h hm hnm hb
      generalize (⟨p.toArray⟩ : ByteArray) = P at *
      generalize (⟨m.toArray⟩ : ByteArray) = M at *
      rcases e12 with k1 | ⟨k1, k2⟩
      · rw [k1] at e1
        clear k1 e2
        go_enter Tryz.func17, Tryz.ntmps17
        go_wp2_with (first | (go_at_call 37; (with_reducible refine (IP.out _).mono ?_); rintro e w5 ⟨rfl, rfl⟩))
        go_ret2
        exact ⟨rfl, (by repeat (first | exact Below.refl _ _ | refine Below.setCell ?_ (by first | (simp; done) | (simp; omega) | omega) _ | refine Below.alloc ?_ (by first | (simp; done) | (simp; omega) | omega) _ | refine Below.drew ?_ | assumption | refine Below.trans ?_ (Below.mono (by assumption) (by first | (simp; done) | (simp; omega) | omega))))⟩
      · rw [k1] at e1
        rw [k2] at e2
        clear k1 k2
        go_enter Tryz.func17, Tryz.ntmps17
        go_wp2_with (first | (go_at_call 37; (with_reducible refine (IP.out _).mono ?_); rintro e w5 ⟨rfl, rfl⟩))
        go_ret2
        exact ⟨rfl, (by repeat (first | exact Below.refl _ _ | refine Below.setCell ?_ (by first | (simp; done) | (simp; omega) | omega) _ | refine Below.alloc ?_ (by first | (simp; done) | (simp; omega) | omega) _ | refine Below.drew ?_ | assumption | refine Below.trans ?_ (Below.mono (by assumption) (by first | (simp; done) | (simp; omega) | omega))))⟩
  · have hE : fmtE m p n = 30 := by unfold fmtE; rw [if_pos ⟨fun e => hm (.inl e), fun e => hm (.inr e)⟩]
    rw [hE]
    rw [decide_eq_false (p := m = [71, 69, 84]) (fun e => hm (.inl e))] at e1
    rw [decide_eq_false (p := m = [80, 79, 83, 84]) (fun e => hm (.inr e))] at e2
    clear hE h hm IP
    generalize (⟨p.toArray⟩ : ByteArray) = P at *
    generalize (⟨m.toArray⟩ : ByteArray) = M at *
    go_enter Tryz.func17, Tryz.ntmps17
    go_wp2
    go_ret2
    exact ⟨rfl, (by repeat (first | exact Below.refl _ _ | refine Below.setCell ?_ (by first | (simp; done) | (simp; omega) | omega) _ | refine Below.alloc ?_ (by first | (simp; done) | (simp; omega) | omega) _ | refine Below.drew ?_ | assumption | refine Below.trans ?_ (Below.mono (by assumption) (by first | (simp; done) | (simp; omega) | omega))))⟩
theorem format_all (m p : List UInt8) (cl : Bool) (A : Option Addr) (n c : Nat) (l : List UInt8) (hl : l.length = n) (hn : n ≤ 9223372036854775807) (k : Nat) (hk : (fmtO m p n cl l).length = k) (w : World) (E : Env w) (T : Bs w A c l) :
    Calls Tryz.prog 17 #[rqB m p A n c cl] w fun e w' => (∃ A' c', e = .returned (.tuple #[.slice A' k c', .int .i64 (fmtE m p n)]) ∧ BsN w.heap.size w' A' c' (fmtO m p n cl l)) ∧ Below w.heap.size w w' := by
  subst hk
  unfold fmtO
  by_cases h : fmtE m p n = 0
  · rw [if_pos h]
    refine (format_ok m p cl A n c l hl h w E T).mono ?_
    rintro e w' ⟨⟨g, c', rfl, hB, hg⟩, hb⟩
    refine ⟨⟨_, _, ?_, hB, fun a ha => by cases ha; exact hg⟩, hb⟩
    rw [h, List.length_append, hl]
  · rw [if_neg h]
    refine (format_badA m p cl A n c hn h w).mono ?_
    rintro e w' ⟨rfl, hb⟩
    exact ⟨⟨none, 0, rfl, bs_nil _, fun a ha => by cases ha⟩, hb⟩
end Go.Proofs.YtkaimfeiahogaaaGreatDoor
