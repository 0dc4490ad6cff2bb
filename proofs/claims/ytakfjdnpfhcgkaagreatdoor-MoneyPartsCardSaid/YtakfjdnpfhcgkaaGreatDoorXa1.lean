/-
  Contract of exref6.Allocate, where it refuses.
-/
import Derived.Test.YtakfjdnpfhcgkaaGreatDoorMs5
import Derived.Test.YtakfjdnpfhcgkaaGreatDoorXs1
namespace Go.Proofs.YtakfjdnpfhcgkaaGreatDoor
set_option linter.all false
open Go.RowKit Go.Sort
attribute [local go_sem] cell_set_self lt_1 lt_2 lt_3 lt_4 lt_5 lt_6

set_option maxHeartbeats 8000000 in
set_option maxRecDepth 100000 in
theorem rallocate_bad (u : Int) (c : List UInt8) (A : Option Addr) (n cp : Nat) (ws : List Int) (hl : ws.length = n) (hn : n ≤ 9223372036854775807) (hE : alE u c ws ≠ 0) (w : World) (T : Sl w A cp ws) :
    Calls Tryz.prog 6 #[.agg #[.int .i64 u, .string ⟨c.toArray⟩], .slice A n cp] w fun e w' => e = .returned (.tuple #[.slice none 0 0, .int .i64 (alE u c ws)]) ∧ Below w.heap.size w w' := by
  have CK := Lib.hid (fun W => rcheck_any u c W)
  by_cases h : amE u c = 0
  · have e : alE u c ws = sumE ws := by unfold alE; rw [if_pos h]
    rw [e] at hE ⊢
    rw [h] at CK
    clear h e
    have HE : Hid (∀ x, sumE ws = x → sumE ws = x) := Lib.hid fun _ h => h
    by_cases h100 : 100 < n
    · have e : sumE ws = 9 := by unfold sumE; rw [if_pos (by omega)]
      rw [e]
      have d1 : (100 : Int) < (n : Int) := by omega
      clear T hl hE e HE
      generalize (⟨c.toArray⟩ : ByteArray) = CL at *
      go_enter Tryz.func6, Tryz.ntmps6
      go_wp2_with (first | (go_at_call 22; refine (CK.out _).mono ?_; rintro e w1 ⟨rfl, hb1⟩; obtain ⟨hc1, hf1⟩ := bcell hb1; have hs1 := hb1.size; (try simp at hs1); have hz1 : w.heap.size < w1.heap.size := by have := hb1.size; (try simp at this); omega))
      go_ret2
      exact ⟨rfl, (by repeat (first | exact Below.refl _ _ | refine Below.setCell ?_ (by first | (simp; done) | (simp; omega) | omega) _ | refine Below.alloc ?_ (by first | (simp; done) | (simp; omega) | omega) _ | refine Below.drew ?_ | assumption | refine Below.trans ?_ (Below.mono (by assumption) (by first | (simp; done) | (simp; omega) | omega))))⟩
    by_cases h0 : n = 0
    · have e : sumE ws = 17 := by unfold sumE; rw [if_neg (by omega), if_pos (by omega)]
      rw [e]
      subst h0
      clear T hl hE e HE
      generalize (⟨c.toArray⟩ : ByteArray) = CL at *
      go_enter Tryz.func6, Tryz.ntmps6
      go_wp2_with (first | (go_at_call 22; refine (CK.out _).mono ?_; rintro e w1 ⟨rfl, hb1⟩; obtain ⟨hc1, hf1⟩ := bcell hb1; have hs1 := hb1.size; (try simp at hs1); have hz1 : w.heap.size < w1.heap.size := by have := hb1.size; (try simp at this); omega))
      go_ret2
      exact ⟨rfl, (by repeat (first | exact Below.refl _ _ | refine Below.setCell ?_ (by first | (simp; done) | (simp; omega) | omega) _ | refine Below.alloc ?_ (by first | (simp; done) | (simp; omega) | omega) _ | refine Below.drew ?_ | assumption | refine Below.trans ?_ (Below.mono (by assumption) (by first | (simp; done) | (simp; omega) | omega))))⟩
    have d1 : ¬ (100 : Int) < (n : Int) := by omega
    have d2 : ((n : Int) == 0) = false := by simp; omega
    have HL := Lib.hid hl
    have HX := Lib.hid hE
    have TT := Lib.hid (fun W (hb : Below w.heap.size w W) => (T.below hb).2.2)
    have hn100 : n ≤ 100 := by omega
    clear T hl hE HE
    generalize (⟨c.toArray⟩ : ByteArray) = CL at *
    obtain ⟨X, hX⟩ : ∃ X, sumE ws = X := ⟨_, rfl⟩
    have HXX := Lib.hid hX
    rw [hX]
    clear hX
    go_enter Tryz.func6, Tryz.ntmps6
    go_wp2_with (first | (go_at_call 22; refine (CK.out _).mono ?_; rintro e w1 ⟨rfl, hb1⟩; obtain ⟨hc1, hf1⟩ := bcell hb1; have hs1 := hb1.size; (try simp at hs1); have hz1 : w.heap.size < w1.heap.size := by have := hb1.size; (try simp at this); omega))
    have BW : Below w.heap.size w w1 := (by repeat (first | exact Below.refl _ _ | refine Below.setCell ?_ (by first | (simp; done) | (simp; omega) | omega) _ | refine Below.alloc ?_ (by first | (simp; done) | (simp; omega) | omega) _ | refine Below.drew ?_ | assumption | refine Below.trans ?_ (Below.mono (by assumption) (by first | (simp; done) | (simp; omega) | omega))))
    have hsk := BW.size
    go_loopw [7, 8] (fun s i wr => ∃ (k : Nat) (z : Int), k ≤ n ∧ i = .int .i64 k ∧ s = .int .i64 z ∧ (0 ≤ z ∧ z ≤ 2147483648 * k) ∧ Hid (wOK (ws.take k) = true ∧ z = sumI (ws.take k)) ∧ w1 = wr) (fun _ i _ => n - (intOf i).toNat)
    case atStart => exact ⟨0, 0, by omega, rfl, rfl, by omega, Lib.hid ⟨rfl, rfl⟩, rfl⟩
    case round =>
      obtain ⟨k, z, hk, rfl, rfl, ⟨z0, z1⟩, HK, hw⟩ := hrel; subst hw
      by_cases hlt : k < n
      · have hlt' : (k : Int) < (n : Int) := by omega
        obtain ⟨x, hx⟩ : ∃ x, ws[k]? = some x := ⟨_, List.getElem?_eq_getElem (by rw [HL.out]; exact hlt)⟩
        obtain ⟨b, off, rfl, hbw, hc⟩ := TT.out w1 BW k x hx
        have HXk := Lib.hid hx
        clear hx
        by_cases hok : 0 ≤ x ∧ x ≤ 2147483648
        · obtain ⟨x0, x1⟩ := hok
          have N : Hid (wOK (ws.take (k + 1)) = true ∧ z + x = sumI (ws.take (k + 1))) := Lib.hid ⟨wOK_iff.2 fun y hy => by
            rw [List.take_succ, HXk.out, Option.toList_some] at hy
            rcases List.mem_append.1 hy with h | h
            · exact wOK_iff.1 HK.out.1 y h
            · simp at h; subst h; exact ⟨x0, x1⟩, by rw [sumI_take HXk.out, ← HK.out.2]⟩
          have e1 : ¬ x < 0 := by omega
          have e2 : ¬ 2147483648 < x := by omega
          go_wp2
          go_roundw
          case rel => exact ⟨k + 1, z + x, by omega, by go_num, by go_num, by omega, N, by first | rfl | trivial⟩
          case measure => first | (simp [intOf]; done) | (simp [intOf]; omega)
        · have e6 : X = 6 := by
            rw [← HXX.out]; unfold sumE
            have hl := HL.out
            rw [if_neg (by omega), if_neg (by omega), if_neg (fun h => hok (wOK_iff.1 h x (List.mem_of_getElem? HXk.out)))]
          subst e6
          rcases (show x < 0 ∨ (0 ≤ x ∧ 2147483648 < x) by omega) with h | ⟨h, h2⟩
          · clear hok
            go_wp2
            go_ret2
            exact ⟨rfl, BW⟩
          · clear hok
            have e1 : ¬ x < 0 := by omega
            go_wp2
            go_ret2
            exact ⟨rfl, BW⟩
      · obtain rfl : k = n := by omega
        have hk' : ¬ (k : Int) < (k : Int) := by omega
        have htk : ws.take k = ws := List.take_of_length_le (by rw [HL.out]; exact Nat.le_refl _)
        have hz := HK.out.2
        have hw := HK.out.1
        rw [htk] at hz hw
        have hl := HL.out
        have e17 : X = 17 ∧ z = 0 := by
          by_cases z00 : z = 0
          · refine ⟨?_, z00⟩
            rw [← HXX.out]; unfold sumE
            rw [if_neg (by omega), if_neg (by omega), if_pos hw, if_pos (by rw [← hz]; exact z00)]
          · exfalso
            refine HX.out ?_
            unfold sumE
            rw [if_neg (by omega), if_neg (by omega), if_pos hw, if_neg (by rw [← hz]; exact z00)]
        obtain ⟨rfl, rfl⟩ := e17
        clear hz hw htk hl HK TT
        go_wp2
        go_ret2
        exact ⟨rfl, BW⟩
  · have e : alE u c ws = amE u c := by unfold alE; rw [if_neg h]
    rw [e] at hE ⊢
    generalize amE u c = x at *
    have x0 : (x != 0) = true := bne_iff_ne.2 hE
    clear hE h e T
    generalize (⟨c.toArray⟩ : ByteArray) = CL at *
    go_enter Tryz.func6, Tryz.ntmps6
    go_wp2_with (first | (go_at_call 22; refine (CK.out _).mono ?_; rintro e w1 ⟨rfl, hb1⟩; obtain ⟨hc1, hf1⟩ := bcell hb1; have hs1 := hb1.size; (try simp at hs1); have hz1 : w.heap.size < w1.heap.size := by have := hb1.size; (try simp at this); omega))
    go_ret2
    exact ⟨rfl, (by repeat (first | exact Below.refl _ _ | refine Below.setCell ?_ (by first | (simp; done) | (simp; omega) | omega) _ | refine Below.alloc ?_ (by first | (simp; done) | (simp; omega) | omega) _ | refine Below.drew ?_ | assumption | refine Below.trans ?_ (Below.mono (by assumption) (by first | (simp; done) | (simp; omega) | omega))))⟩
end Go.Proofs.YtakfjdnpfhcgkaaGreatDoor
