/-
  What money.Parse and money.Amount.String call: Cut, CutPrefix, Contains, Repeat, Atoi, allDigits.
-/
import Derived.Test.YtakfjdnpfhcgkaaGreatDoorPw3
import Derived.Test.YtakfjdnpfhcgkaaGreatDoorMc4
import Derived.Lib.Repeat
namespace Go.Proofs.YtakfjdnpfhcgkaaGreatDoor
set_option linter.all false
open Go.RowKit Go.Sort
attribute [local go_sem] cell_set_self lt_1 lt_2 lt_3 lt_4 lt_5 lt_6

def cutW (c : UInt8) (l : List UInt8) : List UInt8 × List UInt8 × Bool := match cutAt c l with
  | none => (l, [], false)
  | some (a, b) => (a, b, true)
theorem cutW_eq (c : UInt8) (l : List UInt8) : Lib.cut l [c] = cutW c l := by
  unfold Lib.cut cutW
  rcases first_byte c l with ⟨h1, h2⟩ | ⟨z, r, h1, h2, h3⟩
  · rw [h1, cutAt_free h2, if_neg (by decide)]
  · rw [h3, if_pos (by omega)]
    subst h1
    rw [cutAt_hit r h2]
    simp
theorem cutW_cases (c : UInt8) (l : List UInt8) : (cutW c l = (l, [], false) ∧ ∀ b ∈ l, b ≠ c) ∨ ∃ z r, l = z ++ c :: r ∧ (∀ b ∈ z, b ≠ c) ∧ cutW c l = (z, r, true) := by
  unfold cutW
  rcases first_byte c l with ⟨_, h2⟩ | ⟨z, r, h1, h2, _⟩
  · exact .inl ⟨by rw [cutAt_free h2], h2⟩
  · exact .inr ⟨z, r, h1, h2, by rw [h1, cutAt_hit r h2]⟩
theorem cutW_len (c : UInt8) (l : List UInt8) : (cutW c l).1.length ≤ l.length ∧ (cutW c l).2.1.length ≤ l.length := by
  rcases cutW_cases c l with ⟨h, _⟩ | ⟨z, r, h1, _, h⟩
  · rw [h]; simp
  · rw [h, h1]; simp; omega
theorem cutc_any (c : UInt8) (l : List UInt8) (hl : l.length ≤ 1000000) (w : World) (E : Env w) :
    Calls Tryz.prog 29 #[.string ⟨l.toArray⟩, .string ⟨#[c]⟩] w fun e w' => e = .returned (.tuple #[.string ⟨(cutW c l).1.toArray⟩, .string ⟨(cutW c l).2.1.toArray⟩, .bool (cutW c l).2.2]) ∧ Below w.heap.size w w' := by
  obtain ⟨_, ⟨m, hm⟩, _⟩ := E
  refine (Tryz.strings_Cut ⟨l.toArray⟩ ⟨#[c]⟩ m w (by rw [ba_szP]; omega) hm).mono ?_
  rintro e w' ⟨rfl, n, rfl⟩
  refine ⟨?_, below_drewM (Below.refl _ _) _⟩
  have h := cutW_eq c l
  simp only [h]
/-- Without the minus ahead. -/
def pf (l : List UInt8) : List UInt8 × Bool := if l.head? = some 45 then (l.tail, true) else (l, false)
theorem pf_len (l : List UInt8) : (pf l).1.length ≤ l.length := by unfold pf; split <;> simp
theorem prefix_any (l : List UInt8) (w : World) :
    Calls Tryz.prog 30 #[.string ⟨l.toArray⟩, .string ⟨#[45]⟩] w fun e w' => e = .returned (.tuple #[.string ⟨(pf l).1.toArray⟩, .bool (pf l).2]) ∧ Below w.heap.size w w' := by
  refine (Tryz.strings_CutPrefix ⟨l.toArray⟩ ⟨#[45]⟩ w).mono ?_
  rintro e w' ⟨rfl, rfl⟩
  refine ⟨?_, Below.refl _ _⟩
  have h : Lib.hasPrefix l [45] = (pf l).2 ∧ Lib.trimPrefix l [45] = (pf l).1 := by
    cases l with
    | nil => exact ⟨rfl, rfl⟩
    | cons a r =>
      by_cases ha : a = 45
      · subst ha; exact ⟨by simp [Lib.hasPrefix, List.isPrefixOf, pf], by simp [Lib.trimPrefix, Lib.hasPrefix, List.isPrefixOf, pf]⟩
      · have h2 : ((45 : UInt8) == a) = false := beq_eq_false_iff_ne.2 (fun h => ha h.symm)
        exact ⟨by simp [Lib.hasPrefix, List.isPrefixOf, pf, ha, h2], by simp [Lib.trimPrefix, Lib.hasPrefix, List.isPrefixOf, pf, ha, h2]⟩
  show Ending.returned (.tuple #[.string ⟨(Lib.trimPrefix l [45]).toArray⟩, .bool (Lib.hasPrefix l [45])]) = _
  rw [h.1, h.2]
def hasB (c : UInt8) (l : List UInt8) : Bool := l.any (fun b => b == c)
theorem indexByte_has (c : UInt8) : ∀ l : List UInt8, decide (0 ≤ Lib.indexByte l c) = hasB c l
  | [] => by simp [Lib.indexByte, hasB]
  | b :: l => by
    have ih := indexByte_has c l
    by_cases h : b = c
    · subst h; simp [Lib.indexByte, hasB]
    · have e1 : (b == c) = false := by simpa using h
      have hn : ∀ x : Int, Lib.indexByte l c = x → (x = -1 ∨ 0 ≤ x) := by
        rcases first_byte c l with _ | _ <;> intro x hx <;> have := Lib.indexByte_ge l c <;> omega
      unfold hasB at ih ⊢
      rw [List.any_cons, e1, Bool.false_or, ← ih]
      have k := hn _ rfl
      simp only [Lib.indexByte, e1]
      rcases k with k | k
      · simp [k]
      · have : ¬ Lib.indexByte l c = -1 := by omega
        simp [this]; omega
theorem hasc_any (c : UInt8) (l : List UInt8) (w : World) :
    Calls Tryz.prog 31 #[.string ⟨l.toArray⟩, .string ⟨#[c]⟩] w fun e w' => e = .returned (.bool (hasB c l)) ∧ Below w.heap.size w w' := by
  refine (Tryz.strings_Contains_one ⟨l.toArray⟩ c w).mono ?_
  rintro e w' ⟨rfl, rfl⟩
  exact ⟨by rw [← indexByte_has], Below.refl _ _⟩
theorem repeatL_zero (k : Nat) : Lib.repeatL [48] k = List.replicate k 48 := by
  have := Lib.repeatL_replicate 48 1 k
  simpa using this
theorem zeros_any (k : Nat) (hk : k ≤ 1000) (w : World) :
    Calls Tryz.prog 35 #[.string ⟨#[48]⟩, .int .i64 k] w fun e w' => e = .returned (.string ⟨(List.replicate k 48).toArray⟩) ∧ Below w.heap.size w w' := by
  refine (Tryz.strings_Repeat ⟨#[48]⟩ k w (by omega) (by have : (⟨#[48]⟩ : ByteArray).size = 1 := rfl; rw [this]; omega)).mono ?_
  rintro e w' ⟨rfl, hb⟩
  exact ⟨by rw [← repeatL_zero], hb⟩
theorem pred_digM (w : World) : PredAt Tryz.prog 60 #[] encR oddP w := fun W r _ => by
  unfold FnGives
  by_cases h1 : r < 48
  · have z1 : (r : Int) < 48 := by omega
    have e : oddP r = true := by unfold oddP; simp [h1]
    rw [e]
    go_enter Tryz.func60, Tryz.ntmps60
    go_wp2
    go_ret
    exact ⟨rfl, 0, rfl⟩
  · have z1 : ¬ (r : Int) < 48 := by omega
    by_cases h2 : 57 < r
    · have z2 : (57 : Int) < r := by omega
      have e : oddP r = true := by unfold oddP; simp [h2]
      rw [e]
      go_enter Tryz.func60, Tryz.ntmps60
      go_wp2
      go_ret
      exact ⟨rfl, 0, rfl⟩
    · have z2 : ¬ (57 : Int) < r := by omega
      have e : oddP r = false := by unfold oddP; simp [h1, h2]
      rw [e]
      go_enter Tryz.func60, Tryz.ntmps60
      go_wp2
      go_ret
      exact ⟨rfl, 0, rfl⟩
theorem contains_digM (l : List UInt8) (w : World) : Calls Tryz.prog 59 #[.string ⟨l.toArray⟩, .func (.func 60) #[] #[]] w fun e w' => e = .returned (.bool (!digA l)) ∧ Below w.heap.size w w' := by
  have h := Tryz.strings_ContainsFunc 60 #[] (enters_of Tryz.func60 (by kernel_rfl) rfl) oddP ⟨l.toArray⟩ w (pred_digM w)
  rw [idx_dig] at h
  exact h
/-- Digits, one at least. -/
def digS (l : List UInt8) : Bool := !l.isEmpty && digA l
theorem ret_b1 {a b : Bool} (h : a = b) : Ending.returned (.bool b) = .returned (.bool a) := by rw [h]
theorem allDigits_any (l : List UInt8) (w : World) : Calls Tryz.prog 32 #[.string ⟨l.toArray⟩] w fun e w' => e = .returned (.bool (digS l)) ∧ Below w.heap.size w w' := by
  cases l with
  | nil =>
    go_enter Tryz.func32, Tryz.ntmps32
    go_wp2
    go_ret
    exact ⟨rfl, (by repeat (first | exact Below.refl _ _ | refine Below.setCell ?_ (by first | (simp; done) | (simp; omega) | omega) _ | refine Below.alloc ?_ (by first | (simp; done) | (simp; omega) | omega) _ | refine Below.drew ?_ | assumption | refine Below.trans ?_ (Below.mono (by assumption) (by first | (simp; done) | (simp; omega) | omega))))⟩
  | cons ch r =>
    have C0 := Lib.hid (fun W => contains_digM (ch :: r) W)
    have ne1 : (⟨(ch :: r).toArray⟩ : ByteArray).toList = ch :: r := ByteArray.toList_mk _
    have ne2 : ((⟨(ch :: r).toArray⟩ : ByteArray).toList == []) = false := by rw [ne1]; rfl
    have E : Hid (digS (ch :: r) = digA (ch :: r)) := Lib.hid (by unfold digS; simp)
    clear ne1
    generalize digS (ch :: r) = x at *
    generalize digA (ch :: r) = y at *
    generalize (⟨(ch :: r).toArray⟩ : ByteArray) = S at *
    cases y
    all_goals (
      go_enter Tryz.func32, Tryz.ntmps32
      go_wp2_with (first | (go_at_call 59; refine (C0.out _).mono ?_; rintro e w1 ⟨rfl, hb1⟩; obtain ⟨hc1, hf1⟩ := bcell hb1; have hs1 := hb1.size; (try simp at hs1)))
      go_ret
      exact ⟨ret_b1 E.out, (by repeat (first | exact Below.refl _ _ | refine Below.setCell ?_ (by first | (simp; done) | (simp; omega) | omega) _ | refine Below.alloc ?_ (by first | (simp; done) | (simp; omega) | omega) _ | refine Below.drew ?_ | assumption | refine Below.trans ?_ (Below.mono (by assumption) (by first | (simp; done) | (simp; omega) | omega))))⟩)
/-- Atoi of digits. -/
theorem atoi_small {l : List UInt8} (h : l ≠ []) (hd : DigB l) (hl : l.length ≤ 1000000) (hv : dv l < 9223372036854775808) (w : World) :
    Calls Tryz.prog 34 #[.string ⟨l.toArray⟩] w fun e w' => e = .returned (.tuple #[.int .i64 (dv l), .nilIface]) ∧ Below w.heap.size w w' := by
  have hA := atoi_num h hd
  rw [if_pos hv] at hA
  refine (Tryz.strconv_Atoi_ok ⟨l.toArray⟩ (by rw [ba_szP]; omega) (dv l) (by simpa using hA) w).mono ?_
  rintro e w' ⟨rfl, hw⟩
  refine ⟨rfl, ?_⟩
  rcases hw with rfl | ⟨t, rfl⟩
  · exact Below.refl _ _
  · exact Lib.bytesWorld_below w _ t
theorem atoi_large {l : List UInt8} (h : l ≠ []) (hd : DigB l) (hl : l.length ≤ 1000000) (hv : ¬ dv l < 9223372036854775808) (w : World) (E : Env w) :
    Calls Tryz.prog 34 #[.string ⟨l.toArray⟩] w fun e w' => (∃ t q, e = .returned (.tuple #[.int .i64 9223372036854775807, .iface t (.pointer (some q))])) ∧ Below w.heap.size w w' := by
  have hA := atoi_num h hd
  rw [if_neg hv] at hA
  obtain ⟨_, _, _, tp, p, hvar⟩ := E
  refine (Tryz.strconv_Atoi_range_var ⟨l.toArray⟩ (by rw [ba_szP]; omega) (by simpa using hA) tp p w hvar).mono ?_
  rintro e w' ⟨N, rfl, _, _, hb⟩
  have hsat := sat_num h hd
  have hdl : (⟨l.toArray⟩ : ByteArray).data.toList = l := by simp
  rw [hdl, hsat]
  exact ⟨⟨_, _, rfl⟩, hb⟩
end Go.Proofs.YtakfjdnpfhcgkaaGreatDoor
