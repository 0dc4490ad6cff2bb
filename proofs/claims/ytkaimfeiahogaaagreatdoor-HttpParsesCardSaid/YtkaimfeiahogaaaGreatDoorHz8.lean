/-
  Contract of exref.Kept, where all is as it was.
-/
import Derived.Test.YtkaimfeiahogaaaGreatDoorHs1

/-
  Contract of exref.Lent.
-/
namespace Go.Proofs.YtkaimfeiahogaaaGreatDoor
set_option linter.all false
open Go.RowKit Go.Shelf
attribute [local go_sem] cell_set_self lt_1 lt_2 lt_3 lt_4 lt_5 lt_6 drew_cell drew_frozen drew_size

set_option maxHeartbeats 4000000 in
set_option maxRecDepth 100000 in
theorem bytes_row7 (A : Option Addr) (n c : Nat) (l : List UInt8) (hl : l.length = n) (hn : n ≤ 1000000000) (w : World) (T : Bs w A c l) :
    Calls Tryz.prog 33 #[.slice A n c] w fun e w' => (∃ A' c', e = .returned (.slice A' n c') ∧ w'.ownsRow w.heap.size 5 1 (.slice A' n c') n (Lib.byteCells l)) ∧ Below w.heap.size w w' := by
  obtain ⟨i0, hi0, hz0, hz1, hz2⟩ := info_parts info_u8h
  have HL := Lib.hid hl
  have HT := Lib.hid T
  clear hl T
  go_enter Tryz.func33, Tryz.ntmps33
  go_wp2_with (first | (at_builtin; refine wpList_append_bs _ rfl (.tmp 3) (.tmp 4) 22 rfl w.heap.size i0 Tryz.underlying22 hi0 hz0 hz1 hz2 (.slice (some ⟨w.heap.size, 0, none⟩) 0 0) 0 [] rfl ⟨rfl, .inr ⟨w.heap.size, 0, #[], rfl, Nat.le_refl _, heap_alloc_new w _, Nat.le_refl _, Nat.zero_le _, rfl, rfl⟩⟩ A n c l rfl HL.out (HT.out.below (by repeat (first | exact Below.refl _ _ | refine Below.setCell ?_ (by first | (simp; done) | (simp; omega) | omega) _ | refine Below.alloc ?_ (by first | (simp; done) | (simp; omega) | omega) _ | refine Below.drew ?_ | assumption | refine Below.trans ?_ (Below.mono (by assumption) (by first | (simp; done) | (simp; omega) | omega))))) (by unfold maxLen; omega) (by omega) (by simp) ?_; intro v' w6 hown6 hgrow6; have B6 : Below w.heap.size w w6 := (Below.grown (Below.alloc (Below.refl _ _) (Nat.le_refl _) _) hgrow6 (by simp) (fun k e => by simp [Value.ownBlock] at e; omega)); have hown6' : w6.ownsRow w.heap.size 5 1 v' n (Lib.byteCells l) := by simpa using hown6))
  have HW6 := Lib.hid hown6'
  obtain ⟨A', c', rfl, hBs', hge⟩ := own_bs hown6'
  go_ret
  exact ⟨⟨A', c', rfl, HW6.out⟩, B6⟩
set_option maxHeartbeats 4000000 in
set_option maxRecDepth 100000 in
theorem lent_any (A : Option Addr) (n c : Nat) (l : List UInt8) (hl : l.length = n) (hn : n ≤ 1000000) (w : World) (T : Bs w A c l) :
    Calls Tryz.prog 27 #[.slice A n c] w fun e w' => (∃ g c', e = .returned (.slice (some ⟨g, 0, none⟩) n c') ∧ w'.ownsRow w.heap.size 5 1 (.slice (some ⟨g, 0, none⟩) (n + 1) c') (n + 1) (Lib.byteCells (l ++ [201]))) ∧ Below w.heap.size w w' := by
  obtain ⟨i0, hi0, hz0, hz1, hz2⟩ := info_parts info_u8h
  have HL := Lib.hid hl
  have BR := Lib.hid (bytes_row7 A n c l hl (by omega) w T)
  clear hl T
  go_enter Tryz.func27, Tryz.ntmps27
  go_upto_region 2 with (first | (go_at_call 33; (with_reducible refine (BR.out).mono ?_); rintro e w5 ⟨⟨A5, c5, rfl, hO5⟩, hb5⟩; have HO5 := Lib.hid hO5; have s5 := hb5.size; clear hO5) | (at_builtin; refine wpList_append_bs _ rfl (.tmp 5) (.tmp 6) 22 rfl w.heap.size i0 Tryz.underlying22 hi0 hz0 hz1 hz2 _ n (Lib.byteCells l) rfl (HO5.out.alloc _) (some ⟨w5.heap.size, 0, none⟩) 1 1 [201] rfl rfl (bs_new w5 [201] _ _ rfl _) (by unfold maxLen; omega) (by omega) (by simp; omega) ?_; intro v6 w6 hown6 hgrow6; have HOW := Lib.hid (show w6.ownsRow w.heap.size 5 1 v6 (n + 1) (Lib.byteCells (l ++ [201])) by (rw [Lib.byteCells_append]; exact hown6)); have B6 : Below w.heap.size w w6 := Below.grown (hb5.alloc s5 _) hgrow6 (by simp; omega) (fun k e => (HO5.out.lt k e).1); clear hown6 hgrow6))
  obtain ⟨g, c6, rfl, hg, hnc⟩ : ∃ g c6, v6 = .slice (some ⟨g, 0, none⟩) (n + 1) c6 ∧ w.heap.size ≤ g ∧ n + 1 ≤ c6 := by
    rcases HOW.out.2 with ⟨_, h0⟩ | ⟨g, cap, cur, h1, h2, _, h3, _⟩
    · omega
    · exact ⟨g, cap, h1, h2, h3⟩
  have hn1 : (n : Int) ≤ (c6 : Int) := by omega
  go_wp2
  go_ret
  exact ⟨⟨g, c6, rfl, HOW.out⟩, B6⟩
end Go.Proofs.YtkaimfeiahogaaaGreatDoor

/-
  Contract of exref.Kept, where all is as it was.
-/
namespace Go.Proofs.YtkaimfeiahogaaaGreatDoor
set_option linter.all false
open Go.RowKit Go.Shelf
attribute [local go_sem] cell_set_self lt_1 lt_2 lt_3 lt_4 lt_5 lt_6 drew_cell drew_frozen drew_size

set_option maxHeartbeats 4000000 in
set_option maxRecDepth 100000 in
theorem kept_any (A : Option Addr) (n c : Nat) (l : List UInt8) (hl : l.length = n) (hn : n ≤ 1000000) (g c' : Nat) (w : World) (T : Bs w A c l) (U : Bs w (some ⟨g, 0, none⟩) c' (l ++ [201])) :
    Calls Tryz.prog 31 #[.slice (some ⟨g, 0, none⟩) n c', .slice A n c] w fun e w' => e = .returned (.bool true) ∧ Below w.heap.size w w' := by
  have U0 : Bs w (some ⟨g, 0, none⟩) c' l := by
    have := U.take l.length
    rwa [List.take_left] at this
  have SB := Lib.hid (sb_eq (some ⟨g, 0, none⟩) A n c' c l hl (by omega) w U0 T)
  have hc1 : n + 1 ≤ c' := by have := U.1; rw [List.length_append, hl] at this; exact this
  have hc2 : (n : Int) + 1 ≤ (c' : Int) := by omega
  have hn2 : (n : Int) < (n : Int) + 1 := by omega
  obtain ⟨b, off, e, hb, hc⟩ := U.2.2 n 201 (by rw [← hl]; simp)
  obtain ⟨rfl, rfl⟩ : g = b ∧ 0 = off := by simpa using e
  rw [Nat.zero_add] at hc
  have h201 : (201 : UInt8).toNat = 201 := rfl
  rw [h201] at hc
  have hwr : IntKind.i64.wrap ((n : Int) + 1) = (n : Int) + 1 := by rw [IntKind.wrap_i64]; omega
  clear U U0 T hl h201 e
  go_enter Tryz.func31, Tryz.ntmps31
  go_wp2_with (first | (go_at_call 22; (with_reducible refine (SB.out).mono ?_); rintro e w5 ⟨rfl, hb5⟩; have d0 := (hb5.cell (p := ⟨g, n, none⟩) hb).trans hc))
  go_ret
  exact ⟨rfl, hb5⟩
end Go.Proofs.YtkaimfeiahogaaaGreatDoor
