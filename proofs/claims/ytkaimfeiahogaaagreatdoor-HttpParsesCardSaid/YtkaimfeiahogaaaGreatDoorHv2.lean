/-
  Contracts of strconv.Atoi of an empty text, bytes.HasPrefix, slices.Clone of bytes.
-/
import Derived.Test.YtkaimfeiahogaaaGreatDoorHv1
import Derived.Test.YtkaimfeiahogaaaGreatDoorHs1
import Derived.Lib.SliceRun
namespace Go.Proofs.YtkaimfeiahogaaaGreatDoor
set_option linter.all false
open Go.RowKit Go.Shelf
attribute [local go_sem] cell_set_self lt_1 lt_2 lt_3 lt_4 lt_5 lt_6

theorem gSyn : Tryz.prog.globalNamed "strconv.ErrSyntax" = some 2 := by kernel_rfl
/-- The variables that reading a response needs. -/
def EnvS (w : World) : Prop := Env w ∧ ∃ tp p, w.var? Tryz.prog "strconv.ErrSyntax" = some #[.iface tp p]
theorem EnvS.below {w w' : World} (h : EnvS w) (hb : Below w.heap.size w w') : EnvS w' := by
  obtain ⟨h0, tp, p, hv⟩ := h
  exact ⟨h0.below hb, tp, p, var?_below hb gSyn (Nat.lt_of_lt_of_le (by decide) h0.1) hv⟩
theorem atoi_empty (w : World) (E : EnvS w) : Calls Tryz.prog 65 #[.string ⟨#[]⟩] w fun e w' => (∃ t q, e = .returned (.tuple #[.int .i64 0, .iface t (.pointer (some q))])) ∧ Below w.heap.size w w' := by
  obtain ⟨_, tp, p, hv⟩ := E
  refine (Any.strconv_Atoi_syntax_var Tryz.laysC172 ⟨#[]⟩ (by decide) rfl tp p w hv).mono ?_
  rintro e w' ⟨N, rfl, _, _, hb⟩
  exact ⟨⟨_, _, rfl⟩, hb⟩
set_option maxHeartbeats 4000000 in
set_option maxRecDepth 100000 in
theorem equal_any (A B : Option Addr) (n m c d : Nat) (l s : List UInt8) (hl : l.length = n) (hs : s.length = m) (w : World) (T : Bs w A c l) (U : Bs w B d s) :
    Calls Tryz.prog 63 #[.slice A n c, .slice B m d] w fun e w' => e = .returned (.bool (decide (l = s))) ∧ w = w' := by
  have h1 := conv_bs T
  have h2 := conv_bs U
  rw [hl] at h1
  rw [hs] at h2
  have hq := str_beq l s
  generalize decide (l = s) = D at *
  generalize (⟨l.toArray⟩ : ByteArray) = L at *
  generalize (⟨s.toArray⟩ : ByteArray) = S at *
  clear T U hl hs
  go_enter Tryz.func63, Tryz.ntmps63
  go_wp2
  go_ret
  exact ⟨rfl, rfl⟩
set_option maxHeartbeats 4000000 in
set_option maxRecDepth 100000 in
theorem hasPrefix_any (A B : Option Addr) (n m c d : Nat) (l s : List UInt8) (hl : l.length = n) (hs : s.length = m) (w : World) (T : Bs w A c l) (U : Bs w B d s) :
    Calls Tryz.prog 48 #[.slice A n c, .slice B m d] w fun e w' => e = .returned (.bool (decide (l.take m = s))) ∧ w = w' := by
  have hnc : (n : Int) ≤ (c : Int) := by have := T.1; omega
  have hA : A = none → c = 0 := T.2.1
  by_cases h : m ≤ n
  · have h' : (m : Int) ≤ (n : Int) := by omega
    have h3 : (m : Int) ≤ (c : Int) := by omega
    have EQ := Lib.hid (equal_any A B m m c d (l.take m) s (by rw [List.length_take]; omega) hs w (T.take m) U)
    generalize decide (l.take m = s) = D at *
    clear T U hl hs h
    go_enter Tryz.func48, Tryz.ntmps48
    go_wp2_with (first | (go_at_call 63; (with_reducible refine (EQ.out).mono ?_); rintro e w5 ⟨rfl, rfl⟩))
    go_ret
    exact ⟨rfl, rfl⟩
  · have h' : ¬ (m : Int) ≤ (n : Int) := by omega
    have e : decide (l.take m = s) = false := decide_eq_false (fun e => by have := congrArg List.length e; rw [List.length_take] at this; omega)
    rw [e]
    clear T U hl hs h e
    go_enter Tryz.func48, Tryz.ntmps48
    go_wp2
    go_ret
    exact ⟨rfl, rfl⟩
set_option maxHeartbeats 4000000 in
set_option maxRecDepth 100000 in
theorem clone_some (A : Addr) (n c : Nat) (l : List UInt8) (hl : l.length = n) (hn : n ≤ 1000000000) (w : World) (T : Bs w (some A) c l) :
    Calls Tryz.prog 50 #[.slice (some A) n c] w fun e w' => (∃ A' c', e = .returned (.slice A' n c') ∧ BsN w.heap.size w' A' c' l) ∧ Below w.heap.size w w' := by
  obtain ⟨i0, hi0, hz0, hz1, hz2⟩ := info_parts info_u8h
  have HL := Lib.hid hl
  have HT := Lib.hid T
  have hnil := fun (W : World) => Lib.run_eql_slice_nil (P := Tryz.prog) W 22 5 (some A) n c 0 0 Tryz.underlying22
  clear hl T
  go_enter Tryz.func50, Tryz.ntmps50
  go_wp2_with (first | (at_builtin; refine wpList_append_bs _ rfl (.tmp 5) (.tmp 6) 22 rfl w.heap.size i0 Tryz.underlying22 hi0 hz0 hz1 hz2 (.slice (some ⟨w.heap.size, 0, none⟩) 0 0) 0 [] rfl ⟨rfl, .inr ⟨w.heap.size, 0, #[], rfl, Nat.le_refl _, heap_alloc_new w _, Nat.le_refl _, Nat.zero_le _, rfl, rfl⟩⟩ (some A) n c l rfl HL.out (HT.out.below (by repeat (first | exact Below.refl _ _ | refine Below.setCell ?_ (by first | (simp; done) | (simp; omega) | omega) _ | refine Below.alloc ?_ (by first | (simp; done) | (simp; omega) | omega) _ | refine Below.drew ?_ | assumption | refine Below.trans ?_ (Below.mono (by assumption) (by first | (simp; done) | (simp; omega) | omega))))) (by unfold maxLen; omega) (by omega) (by simp) ?_; intro v' w6 hown6 hgrow6; have B6 : Below w.heap.size w w6 := (Below.grown (Below.alloc (Below.refl _ _) (Nat.le_refl _) _) hgrow6 (by simp) (fun k e => by simp [Value.ownBlock] at e; omega)); have hown6' : w6.ownsRow w.heap.size 5 1 v' n (Lib.byteCells l) := by simpa using hown6))
  obtain ⟨A', c', rfl, hBs', hge⟩ := own_bs hown6'
  go_ret
  exact ⟨⟨A', c', rfl, hBs', hge⟩, B6⟩
set_option maxHeartbeats 4000000 in
set_option maxRecDepth 100000 in
theorem clone_any (A : Option Addr) (n c : Nat) (l : List UInt8) (hl : l.length = n) (hn : n ≤ 1000000000) (w : World) (T : Bs w A c l) :
    Calls Tryz.prog 50 #[.slice A n c] w fun e w' => (∃ A' c', e = .returned (.slice A' n c') ∧ BsN w.heap.size w' A' c' l) ∧ Below w.heap.size w w' := by
  cases A with
  | some a => exact clone_some a n c l hl hn w T
  | none =>
    obtain rfl : c = 0 := T.2.1 rfl
    have hn0 : l.length = 0 := by have := T.1; omega
    obtain rfl : l = [] := List.eq_nil_of_length_eq_zero hn0
    obtain rfl : n = 0 := by rw [← hl]; rfl
    have HT := Lib.hid T
    have hnil := fun (W : World) => Lib.run_eql_slice_nil (P := Tryz.prog) W 22 5 none 0 0 0 0 Tryz.underlying22
    clear T hl hn hn0
    go_enter Tryz.func50, Tryz.ntmps50
    go_wp2
    go_ret
    exact ⟨⟨none, 0, rfl, HT.out, fun a ha => by cases ha⟩, Below.refl _ _⟩
end Go.Proofs.YtkaimfeiahogaaaGreatDoor
