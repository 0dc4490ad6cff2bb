/-
  Contract of money.sumOf.
-/
import Derived.Test.YtdpoahfjiomhbaaGreatDoorMc2
namespace Go.Proofs.YtdpoahfjiomhbaaGreatDoor
set_option linter.all false
open Go.RowKit Go.Sort
attribute [local go_sem] cell_set_self lt_1 lt_2 lt_3 lt_4 lt_5 lt_6

def sumI : List Int → Int
  | [] => 0
  | x :: r => x + sumI r
theorem sumI_app (a b : List Int) : sumI (a ++ b) = sumI a + sumI b := by
  induction a with
  | nil => simp [sumI]
  | cons x r ih => simp [sumI, ih]; omega
theorem sumI_take {l : List Int} {k : Nat} {x : Int} (h : l[k]? = some x) : sumI (l.take (k + 1)) = sumI (l.take k) + x := by
  rw [List.take_succ, h, Option.toList_some, sumI_app]; simp [sumI]
def wOK (l : List Int) : Bool := l.all (fun w => decide (0 ≤ w) && decide (w ≤ 2147483648))
theorem wOK_iff {l : List Int} : wOK l = true ↔ ∀ x ∈ l, 0 ≤ x ∧ x ≤ 2147483648 := by simp [wOK]
theorem sumI_bd : ∀ {l : List Int}, wOK l = true → 0 ≤ sumI l ∧ sumI l ≤ 2147483648 * l.length
  | [], _ => by simp [sumI]
  | x :: r, h => by
    have h' := wOK_iff.1 h
    have hx := h' x (List.mem_cons_self ..)
    have ih := sumI_bd (l := r) (wOK_iff.2 fun y hy => h' y (List.mem_cons_of_mem _ hy))
    simp only [sumI, List.length_cons]; omega
theorem wOK_take {l : List Int} (h : wOK l = true) (k : Nat) : wOK (l.take k) = true := wOK_iff.2 fun x hx => wOK_iff.1 h x (List.mem_of_mem_take hx)
def sumE (l : List Int) : Int := if 100 < l.length then 9 else if l.length = 0 then 17 else if wOK l = true then (if sumI l = 0 then 17 else 0) else 6
def sumV (l : List Int) : Value := .tuple #[.int .i64 (if sumE l = 0 then sumI l else 0), .int .i64 (sumE l)]
theorem sumV_0 {l : List Int} (h : sumE l = 0) : sumV l = .tuple #[.int .i64 (sumI l), .int .i64 0] := by unfold sumV; rw [h]; rfl
theorem sumV_n {l : List Int} {x : Int} (h : sumE l = x) (hx : x ≠ 0) : sumV l = .tuple #[.int .i64 0, .int .i64 x] := by subst h; unfold sumV; rw [if_neg hx]
theorem ret_v {a b : Value} (h : a = b) : Ending.returned b = .returned a := by rw [h]
set_option maxHeartbeats 2000000 in
set_option maxRecDepth 100000 in
theorem sumOf_any (A : Option Addr) (n c : Nat) (l : List Int) (hl : l.length = n) (hn : n ≤ 9223372036854775807) (w : World) (T : Sl w A c l) :
    Calls Tryz.prog 68 #[.slice A n c] w fun e w' => e = .returned (sumV l) ∧ Below w.heap.size w w' := by
  by_cases h100 : 100 < n
  · rw [sumV_n (x := 9) (by unfold sumE; rw [if_pos (by omega)]) (by decide)]
    have d1 : (100 : Int) < (n : Int) := by omega
    clear T hl
    go_enter Tryz.func68, Tryz.ntmps68
    go_wp2
    go_ret2
    exact ⟨rfl, (by repeat (first | exact Below.refl _ _ | refine Below.setCell ?_ (by first | (simp; done) | (simp; omega) | omega) _ | refine Below.alloc ?_ (by first | (simp; done) | (simp; omega) | omega) _ | refine Below.drew ?_ | assumption | refine Below.trans ?_ (Below.mono (by assumption) (by first | (simp; done) | (simp; omega) | omega))))⟩
  by_cases h0 : n = 0
  · subst h0
    rw [sumV_n (x := 17) (by unfold sumE; rw [if_neg (by omega), if_pos hl]) (by decide)]
    clear T hl
    go_enter Tryz.func68, Tryz.ntmps68
    go_wp2
    go_ret2
    exact ⟨rfl, (by repeat (first | exact Below.refl _ _ | refine Below.setCell ?_ (by first | (simp; done) | (simp; omega) | omega) _ | refine Below.alloc ?_ (by first | (simp; done) | (simp; omega) | omega) _ | refine Below.drew ?_ | assumption | refine Below.trans ?_ (Below.mono (by assumption) (by first | (simp; done) | (simp; omega) | omega))))⟩
  have d1 : ¬ (100 : Int) < (n : Int) := by omega
  have d2 : ((n : Int) == 0) = false := by simp; omega
  have HL := Lib.hid hl
  have TT := Lib.hid (fun W (hb : Below w.heap.size w W) => (T.below hb).2.2)
  have hn100 : n ≤ 100 := by omega
  clear T hl
  go_enter Tryz.func68, Tryz.ntmps68
  go_wp2
  go_loopw [4, 15] (fun s i wr => ∃ (k : Nat) (z : Int), k ≤ n ∧ i = .int .i64 k ∧ s = .int .i64 z ∧ (0 ≤ z ∧ z ≤ 2147483648 * k) ∧ Hid (wOK (l.take k) = true ∧ z = sumI (l.take k)) ∧ Below w.heap.size w wr) (fun _ i _ => n - (intOf i).toNat)
  case atStart => exact ⟨0, 0, by omega, rfl, rfl, by omega, Lib.hid ⟨rfl, rfl⟩, (by repeat (first | exact Below.refl _ _ | refine Below.setCell ?_ (by first | (simp; done) | (simp; omega) | omega) _ | refine Below.alloc ?_ (by first | (simp; done) | (simp; omega) | omega) _ | refine Below.drew ?_ | assumption | refine Below.trans ?_ (Below.mono (by assumption) (by first | (simp; done) | (simp; omega) | omega))))⟩
  case round =>
    obtain ⟨k, z, hk, rfl, rfl, ⟨z0, z1⟩, HK, hB⟩ := hrel
    obtain ⟨wo, rfl⟩ : ∃ wo : World, wo = wr := ⟨_, rfl⟩
    have hsl := hB.size
    by_cases hlt : k < n
    · have hlt' : (k : Int) < (n : Int) := by omega
      obtain ⟨x, hx⟩ : ∃ x, l[k]? = some x := ⟨_, List.getElem?_eq_getElem (by rw [HL.out]; exact hlt)⟩
      obtain ⟨b, off, rfl, hbw, hc⟩ := TT.out wo hB k x hx
      have HX := Lib.hid hx
      clear hx
      by_cases hok : 0 ≤ x ∧ x ≤ 2147483648
      · obtain ⟨x0, x1⟩ := hok
        have N : Hid (wOK (l.take (k + 1)) = true ∧ z + x = sumI (l.take (k + 1))) := Lib.hid ⟨wOK_iff.2 fun y hy => by
          rw [List.take_succ, HX.out, Option.toList_some] at hy
          rcases List.mem_append.1 hy with h | h
          · exact wOK_iff.1 HK.out.1 y h
          · simp at h; subst h; exact ⟨x0, x1⟩, by rw [sumI_take HX.out, ← HK.out.2]⟩
        go_wp2
        go_roundw
        case rel => exact ⟨k + 1, z + x, by omega, by go_num, by go_num, by omega, N, (by repeat (first | exact Below.refl _ _ | refine Below.setCell ?_ (by first | (simp; done) | (simp; omega) | omega) _ | refine Below.alloc ?_ (by first | (simp; done) | (simp; omega) | omega) _ | refine Below.drew ?_ | assumption | refine Below.trans ?_ (Below.mono (by assumption) (by first | (simp; done) | (simp; omega) | omega))))⟩
        case measure => first | (simp [intOf]; done) | (simp [intOf]; omega)
      · have E := Lib.hid (sumV_n (l := l) (x := 6) (by
          unfold sumE
          have hl := HL.out
          rw [if_neg (by omega), if_neg (by omega), if_neg (fun h => hok (wOK_iff.1 h x (List.mem_of_getElem? HX.out)))]) (by decide))
        rcases (show x < 0 ∨ (0 ≤ x ∧ 2147483648 < x) by omega) with h | ⟨h, h2⟩
        · clear hok
          go_wp2
          go_ret2
          exact ⟨ret_v E.out, (by repeat (first | exact Below.refl _ _ | refine Below.setCell ?_ (by first | (simp; done) | (simp; omega) | omega) _ | refine Below.alloc ?_ (by first | (simp; done) | (simp; omega) | omega) _ | refine Below.drew ?_ | assumption | refine Below.trans ?_ (Below.mono (by assumption) (by first | (simp; done) | (simp; omega) | omega))))⟩
        · clear hok
          go_wp2
          go_ret2
          exact ⟨ret_v E.out, (by repeat (first | exact Below.refl _ _ | refine Below.setCell ?_ (by first | (simp; done) | (simp; omega) | omega) _ | refine Below.alloc ?_ (by first | (simp; done) | (simp; omega) | omega) _ | refine Below.drew ?_ | assumption | refine Below.trans ?_ (Below.mono (by assumption) (by first | (simp; done) | (simp; omega) | omega))))⟩
    · obtain rfl : k = n := by omega
      have hk' : ¬ (k : Int) < (k : Int) := by omega
      have htk : l.take k = l := List.take_of_length_le (by rw [HL.out]; exact Nat.le_refl _)
      have hz := HK.out.2
      have hw := HK.out.1
      rw [htk] at hz hw
      have hl := HL.out
      by_cases z00 : z = 0
      · have E := Lib.hid (sumV_n (l := l) (x := 17) (by unfold sumE; rw [if_neg (by omega), if_neg (by omega), if_pos hw, if_pos (by rw [← hz]; exact z00)]) (by decide))
        clear hz hw htk hl HK TT
        subst z00
        go_wp2
        go_ret2
        exact ⟨ret_v E.out, (by repeat (first | exact Below.refl _ _ | refine Below.setCell ?_ (by first | (simp; done) | (simp; omega) | omega) _ | refine Below.alloc ?_ (by first | (simp; done) | (simp; omega) | omega) _ | refine Below.drew ?_ | assumption | refine Below.trans ?_ (Below.mono (by assumption) (by first | (simp; done) | (simp; omega) | omega))))⟩
      · have E := sumV_0 (l := l) (by unfold sumE; rw [if_neg (by omega), if_neg (by omega), if_pos hw, if_neg (by rw [← hz]; exact z00)])
        rw [← hz] at E
        replace E := Lib.hid E
        have z2 : (z == 0) = false := by simpa using z00
        clear hz hw htk hl HK TT
        go_wp2
        go_ret2
        exact ⟨ret_v E.out, (by repeat (first | exact Below.refl _ _ | refine Below.setCell ?_ (by first | (simp; done) | (simp; omega) | omega) _ | refine Below.alloc ?_ (by first | (simp; done) | (simp; omega) | omega) _ | refine Below.drew ?_ | assumption | refine Below.trans ?_ (Below.mono (by assumption) (by first | (simp; done) | (simp; omega) | omega))))⟩
end Go.Proofs.YtdpoahfjiomhbaaGreatDoor
