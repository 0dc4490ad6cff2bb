/-
  Contract of exref22.path.
-/
import Derived.Test.YtkaimfeiahogaaaGreatDoorHk1
namespace Go.Proofs.YtkaimfeiahogaaaGreatDoor
set_option linter.all false
open Go.RowKit
attribute [local go_sem] cell_set_self lt_1 lt_2 lt_3 lt_4 lt_5 lt_6

set_option maxHeartbeats 8000000 in
set_option maxRecDepth 100000 in
theorem rpath_any (s : List UInt8) (hs : s.length ≤ 9223372036854775807) (w : World) : Calls Tryz.prog 39 #[.string ⟨s.toArray⟩] w fun e w' => e = .returned (.bool (pathB s)) ∧ w = w' := by
  obtain ⟨t, ht⟩ : ∃ t : ByteArray, (⟨s.toArray⟩ : ByteArray) = t := ⟨_, rfl⟩
  have hsz : s.length = t.size := by rw [← ht, ba_sz]
  have HT := Lib.hid ht
  have AT : Hid (∀ (i : Nat) (h : i < t.size), s[i]? = some (t[i]'h)) := Lib.hid fun i h => by
    subst ht
    rw [List.getElem?_eq_getElem (by rw [hsz]; exact h)]; rfl
  by_cases h0 : s = []
  · subst h0
    clear ht HT
    go_enter Tryz.func39, Tryz.ntmps39
    go_wp2
    go_ret
    exact ⟨rfl, rfl⟩
  · have e0 : (t.toList == []) = false := by rw [← ht, ByteArray.toList_mk]; cases s with | nil => exact absurd rfl h0 | cons a r => rfl
    have e0' : t.toList.isEmpty = false := by rw [← ht, ByteArray.toList_mk]; cases s with | nil => exact absurd rfl h0 | cons a r => rfl
    have hpos : 0 < t.size := by rw [← hsz]; exact List.length_pos_iff.2 h0
    have hpos' : (0 : Int) < (t.size : Int) := by omega
    obtain ⟨y0, hy0⟩ : ∃ y, t[0]'hpos = y := ⟨_, rfl⟩
    have HY0 : Hid (s.head? = some y0) := Lib.hid (by
      have := AT.out 0 hpos
      rw [hy0] at this
      rw [← this]; cases s <;> rfl)
    have PB : Hid (pathB s = (decide (t.size ≤ 200) && s.all seenB && decide ((y0.toNat : Int) = 47))) := Lib.hid (by
      unfold pathB someL
      rw [HY0.out, decide_eq_true h0, ← hsz, Bool.true_and]
      congr 1
      rw [show (some y0 == some (47 : UInt8)) = decide (y0 = 47) from by by_cases h : y0 = 47 <;> simp [h]]
      exact decide_eq_decide.2 u8_eq)
    rw [ht]
    rw [hsz] at hs
    have HS := Lib.hid hsz
    clear ht hsz h0 HT
    by_cases h200 : 200 < t.size
    · have hlt' : (200 : Int) < (t.size : Int) := by omega
      have NX : Hid (pathB s = false) := Lib.hid (by rw [PB.out, decide_eq_false (by omega)]; rfl)
      clear PB h200 hy0
      go_enter Tryz.func39, Tryz.ntmps39
      go_wp2
      go_ret
      exact ⟨(ret_bool NX.out).symm, rfl⟩
    · have hlt' : ¬ (200 : Int) < (t.size : Int) := by omega
      by_cases h47 : (y0.toNat : Int) = 47
      · have g47 : ((y0.toNat : Int) != 47) = false := by simp [h47]
        have PB2 : Hid (pathB s = s.all seenB) := Lib.hid (by rw [PB.out, decide_eq_true (show t.size ≤ 200 by omega), decide_eq_true h47]; simp)
        clear PB h200 h47
        go_enter Tryz.func39, Tryz.ntmps39
        go_wp2
        go_loop [3] (fun i => ∃ k : Nat, k ≤ t.size ∧ i = .int .i64 k ∧ Hid ((s.take k).all seenB = true)) (fun i => t.size - (intOf i).toNat)
        case atStart => exact ⟨0, by omega, rfl, Lib.hid rfl⟩
        case round =>
          obtain ⟨k, hk, rfl, HA⟩ := hrel
          by_cases hkt : k < t.size
          · have hkt' : (k : Int) < (t.size : Int) := by omega
            have hx := AT.out k hkt
            have HX := Lib.hid hx
            clear hx
            obtain ⟨y, hy⟩ : ∃ y, t[k]'hkt = y := ⟨_, rfl⟩
            rw [hy] at HX
            obtain ⟨v, hv⟩ : ∃ v : Int, (y.toNat : Int) = v := ⟨_, rfl⟩
            by_cases hp : 33 ≤ v ∧ v ≤ 126
            · have NX : Hid ((s.take (k + 1)).all seenB = true) := Lib.hid (by
                rw [all_take HX.out HA.out]
                unfold seenB
                rw [decide_eq_true (by omega), decide_eq_true (by omega)]; rfl)
              have p1 : ¬ v < 33 := by omega
              have p2 : ¬ 126 < v := by omega
              clear hp HX HA
              go_wp2
              go_round
              case rel => exact ⟨k + 1, by omega, by go_num, NX⟩
              case measure => first | (simp [intOf]; done) | (simp [intOf]; omega)
            · have NX : Hid (pathB s = false) := Lib.hid (by
                rw [PB2.out]
                refine all_false HX.out ?_
                unfold seenB
                rcases Int.lt_or_le v 33 with h | h
                · rw [decide_eq_false (by omega)]; rfl
                · rw [decide_eq_false (p := y.toNat ≤ 126) (by omega), Bool.and_false])
              clear PB2 HX HA
              rcases Int.lt_or_le v 33 with p1 | p1
              · clear hp
                go_wp2
                go_ret
                exact ⟨(ret_bool NX.out).symm, rfl⟩
              · have p2 : 126 < v := by omega
                clear hp
                go_wp2
                go_ret
                exact ⟨(ret_bool NX.out).symm, rfl⟩
          · obtain rfl : k = t.size := by omega
            have NX : Hid (pathB s = true) := Lib.hid (by rw [PB2.out]; have := HA.out; rwa [List.take_of_length_le (by rw [HS.out]; exact Nat.le_refl _)] at this)
            clear PB2 HA
            go_wp2
            go_ret
            exact ⟨(ret_bool NX.out).symm, rfl⟩
      · have g47 : ((y0.toNat : Int) != 47) = true := by simp [h47]
        have NX : Hid (pathB s = false) := Lib.hid (by rw [PB.out, decide_eq_false h47, Bool.and_false])
        clear PB h200 h47
        go_enter Tryz.func39, Tryz.ntmps39
        go_wp2
        go_ret
        exact ⟨(ret_bool NX.out).symm, rfl⟩
end Go.Proofs.YtkaimfeiahogaaaGreatDoor
