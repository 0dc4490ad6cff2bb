/-
  Contracts of the statements' helpers: few, first, Begins.
-/
import Derived.Test.YtjccadfaiahkkaaDoorKn
namespace Go.Proofs.YtjccadfaiahkkaaDoor
set_option linter.all false
open Go.RowKit
attribute [local go_sem] cell_set_self lt_1 lt_2 lt_3 lt_4 lt_5 lt_6

theorem ret_bool {a b : Bool} (h : a = b) : Ending.returned (.bool b) = .returned (.bool a) := by rw [h]
def fewB (l : List Part) : Bool := decide (l.length ≤ 10 ∧ ∀ p ∈ l, p.s.length ≤ 300)
theorem few_yes {l : List Part} (h : fewB l = true) : l.length ≤ 10 ∧ ∀ p ∈ l, p.s.length ≤ 300 := of_decide_eq_true h
set_option maxHeartbeats 1000000 in
theorem few_any (A : Option Addr) (n c : Nat) (l : List Part) (hl : l.length = n) (hn : n ≤ 9223372036854775807) (w : World) (T : Parts w A l) :
    Calls Tryd.prog 8 #[.slice A n c] w fun e w' => e = .returned (.bool (fewB l)) ∧ Below w.heap.size w w' := by
  have HL := Lib.hid hl
  have HT := Lib.hid T
  clear hl T
  go_enter Tryd.func8, Tryd.ntmps8
  go_wp2
  go_loop [3] (fun i => ∃ k : Nat, i = .int .i64 k ∧ k ≤ n ∧ k ≤ 11 ∧ Hid (∀ p ∈ l.take k, p.s.length ≤ 300)) (fun i => 11 - (intOf i).toNat)
  case atStart => exact ⟨0, rfl, Nat.zero_le _, by omega, Lib.hid (by simp)⟩
  case round =>
    obtain ⟨k, rfl, hk, hk2, HK⟩ := hrel
    by_cases hlt : k < n ∧ k ≤ 10
    · obtain ⟨hlt, h10⟩ := hlt
      have hlt' : (k : Int) < n := by omega
      have h10' : (k : Int) ≤ 10 := by omega
      obtain ⟨p, hp⟩ : ∃ p, l[k]? = some p := ⟨l[k]'(by rw [HL.out]; omega), by simp⟩
      obtain ⟨b, off, rfl, hbw, c0, c1, c2⟩ := HT.out k p hp
      have HP := Lib.hid hp
      clear hp c0 c1
      by_cases h3 : 300 < p.s.length
      · have h3' : (300 : Int) < p.s.length := by omega
        have E : Hid (fewB l = false) := Lib.hid (by unfold fewB; rw [decide_eq_false_iff_not]; rintro ⟨_, h⟩; have := h p (List.mem_of_getElem? HP.out); omega)
        go_wp2
        go_ret
        exact ⟨ret_bool E.out, (by repeat (first | exact Below.refl _ _ | refine Below.setCell ?_ (by first | (simp; done) | (simp; omega) | omega) _ | refine Below.alloc ?_ (by first | (simp; done) | (simp; omega) | omega) _ | refine Below.drew ?_ | assumption | refine Below.trans ?_ (Below.mono (by assumption) (by first | (simp; done) | (simp; omega) | omega))))⟩
      · have h3' : ¬ (300 : Int) < p.s.length := by omega
        go_wp2
        go_round
        case rel =>
          refine ⟨k + 1, by go_num, by omega, by omega, Lib.hid ?_⟩
          obtain ⟨hk', he⟩ := List.getElem?_eq_some_iff.1 HP.out
          rw [List.take_succ_eq_append_getElem hk', he]
          intro q hq
          rcases List.mem_append.1 hq with hq | hq
          · exact HK.out q hq
          · simp at hq; subst hq; omega
        case measure => simp [intOf]; omega
    · by_cases hn10 : n ≤ 10
      · obtain rfl : k = n := by omega
        have hn10' : (k : Int) ≤ 10 := by omega
        have E : Hid (fewB l = true) := Lib.hid (by
          unfold fewB; rw [decide_eq_true_eq]
          refine ⟨by rw [HL.out]; omega, fun p hp => HK.out p ?_⟩
          rwa [List.take_of_length_le (by rw [HL.out]; exact Nat.le_refl _)])
        go_wp2
        go_ret
        exact ⟨ret_bool E.out, (by repeat (first | exact Below.refl _ _ | refine Below.setCell ?_ (by first | (simp; done) | (simp; omega) | omega) _ | refine Below.alloc ?_ (by first | (simp; done) | (simp; omega) | omega) _ | refine Below.drew ?_ | assumption | refine Below.trans ?_ (Below.mono (by assumption) (by first | (simp; done) | (simp; omega) | omega))))⟩
      · have hn10' : ¬ (n : Int) ≤ 10 := by omega
        have E : Hid (fewB l = false) := Lib.hid (by unfold fewB; rw [decide_eq_false_iff_not]; rintro ⟨h, _⟩; rw [HL.out] at h; omega)
        have hkk : k = 11 := by omega
        subst hkk
        have h11 : (11 : Int) < n ∨ n = 11 := by omega
        rcases h11 with h11 | rfl
        · go_wp2
          go_ret
          exact ⟨ret_bool E.out, (by repeat (first | exact Below.refl _ _ | refine Below.setCell ?_ (by first | (simp; done) | (simp; omega) | omega) _ | refine Below.alloc ?_ (by first | (simp; done) | (simp; omega) | omega) _ | refine Below.drew ?_ | assumption | refine Below.trans ?_ (Below.mono (by assumption) (by first | (simp; done) | (simp; omega) | omega))))⟩
        · go_wp2
          go_ret
          exact ⟨ret_bool E.out, (by repeat (first | exact Below.refl _ _ | refine Below.setCell ?_ (by first | (simp; done) | (simp; omega) | omega) _ | refine Below.alloc ?_ (by first | (simp; done) | (simp; omega) | omega) _ | refine Below.drew ?_ | assumption | refine Below.trans ?_ (Below.mono (by assumption) (by first | (simp; done) | (simp; omega) | omega))))⟩

/-! ### first -/
def p1 : Part := ⟨1, 1, []⟩
theorem ex_1 : bytesE [p1] = [1, 128, 0, 0, 0, 0, 0, 0, 1] ∧ errE [p1] = 0 := by decide +kernel
theorem ex_2 : bytesE [⟨2, 0, [97]⟩, ⟨2, 0, []⟩] = [2, 97, 0, 1, 2, 0, 1] ∧ errE [⟨2, 0, [97]⟩, ⟨2, 0, []⟩] = 0 := by decide +kernel
theorem ex_3 : dec [1] = none := by rfl
theorem ex_4 : cmpL [⟨1, -1, []⟩] [p1] = -1 := by decide +kernel
theorem parts_nil (w : World) (A : Option Addr) : Parts w A [] := fun i p h => by simp at h
theorem parts_1 (w : World) (T : TypeId) (a b : Int) (s : List UInt8) : Parts (w.alloc (.cells #[.int .i64 a, .int .i64 b, .string ⟨s.toArray⟩] T)) (some ⟨w.heap.size, 0, none⟩) [⟨a, b, s⟩] := fun i p h => by
  match i, h with
  | 0, h => simp at h; subst h; exact ⟨w.heap.size, 0, rfl, by simp, by simp [go_sem], by simp [go_sem], by simp [go_sem]⟩
theorem parts_2 (w : World) (T : TypeId) (a b : Int) (s : List UInt8) (a' b' : Int) (s' : List UInt8) : Parts (w.alloc (.cells #[.int .i64 a, .int .i64 b, .string ⟨s.toArray⟩, .int .i64 a', .int .i64 b', .string ⟨s'.toArray⟩] T)) (some ⟨w.heap.size, 0, none⟩) [⟨a, b, s⟩, ⟨a', b', s'⟩] := fun i p h => by
  match i, h with
  | 0, h => simp at h; subst h; exact ⟨w.heap.size, 0, rfl, by simp, by simp [go_sem], by simp [go_sem], by simp [go_sem]⟩
  | 1, h => simp at h; subst h; exact ⟨w.heap.size, 0, rfl, by simp, by simp [go_sem], by simp [go_sem], by simp [go_sem]⟩
theorem encode_ex1 (A : Option Addr) (c : Nat) (w : World) (T : Parts w A [p1]) (ml : ML w) : Calls Tryd.prog 9 #[.slice A 1 c] w fun e w' => e = .returned (.tuple #[.string ⟨#[1, 128, 0, 0, 0, 0, 0, 0, 1]⟩, .int .i64 0]) ∧ Below w.heap.size w w' := by
  have h := encode_any A 1 c [p1] rfl (by omega) (fun _ p hp => by simp at hp; subst hp; simp [p1, In64]) w T ml
  rw [ex_1.1, ex_1.2] at h; exact h
theorem encode_ex2 (A : Option Addr) (c : Nat) (w : World) (T : Parts w A [⟨2, 0, [97]⟩, ⟨2, 0, []⟩]) (ml : ML w) : Calls Tryd.prog 9 #[.slice A 2 c] w fun e w' => e = .returned (.tuple #[.string ⟨#[2, 97, 0, 1, 2, 0, 1]⟩, .int .i64 0]) ∧ Below w.heap.size w w' := by
  have h := encode_any A 2 c [⟨2, 0, [97]⟩, ⟨2, 0, []⟩] rfl (by omega) (fun _ p hp => by simp at hp; rcases hp with rfl | rfl <;> simp [In64]) w T ml
  rw [ex_2.1, ex_2.2] at h; exact h
theorem decode_ex (w : World) : Calls Tryd.prog 12 #[.string ⟨#[1]⟩] w fun e w' => e = .returned (.tuple #[.slice none 0 0, .int .i64 10]) ∧ Below w.heap.size w w' := by
  refine (decode_any [1] (by simp) w).mono ?_
  rintro e w' ⟨h1, h2⟩
  unfold DecPost at h1
  rw [ex_3] at h1
  exact ⟨h1, h2⟩
theorem compare_ex (A B : Option Addr) (c d : Nat) (w : World) (T : Parts w A [⟨1, -1, []⟩]) (U : Parts w B [p1]) : Calls Tryd.prog 11 #[.slice A 1 c, .slice B 1 d] w fun e w' => e = .returned (.int .i64 (-1)) ∧ Below w.heap.size w w' := by
  have h := compare_any A B 1 c 1 d [⟨1, -1, []⟩] [p1] rfl rfl (by omega) (by omega) w T U
  rw [ex_4] at h; exact h
set_option maxHeartbeats 1000000 in
set_option maxRecDepth 100000 in
/-- exlaw8.first. -/
theorem first_any (w : World) (ml : ML w) : Calls Tryd.prog 7 #[] w fun e w' => e = .returned (.bool true) ∧ Below w.heap.size w w' := by
  have HM := Lib.hid (fun W (hb : Below w.heap.size w W) => ml.below hb)
  clear ml
  have C1 := Lib.hid (fun A c W T (hb : Below w.heap.size w W) => encode_ex1 A c W T (HM.out W hb))
  have C2 := Lib.hid (fun A c W T (hb : Below w.heap.size w W) => encode_ex2 A c W T (HM.out W hb))
  have C3 := Lib.hid (fun W => decode_ex W)
  have C4 := Lib.hid (fun A B c d W T U => compare_ex A B c d W T U)
  have CI := Lib.hid (fun n W => int_any n W)
  have CT := Lib.hid (fun n W => text_any n W)
  have CN := Lib.hid (fun n W => num_any n W)
  go_enter Tryd.func7, Tryd.ntmps7
  have P1 := Lib.hid (fun W => (parts_1 W 42 1 1 [] : Parts (W.alloc (.cells #[.int .i64 1, .int .i64 1, .string ⟨#[]⟩] 42)) (some ⟨W.heap.size, 0, none⟩) [p1]))
  have PM := Lib.hid (fun W => (parts_1 W 42 1 (-1) [] : Parts (W.alloc (.cells #[.int .i64 1, .int .i64 (-1), .string ⟨#[]⟩] 42)) (some ⟨W.heap.size, 0, none⟩) [⟨1, -1, []⟩]))
  have P2 := Lib.hid (fun W => (parts_2 W 42 2 0 [97] 2 0 [] : Parts (W.alloc (.cells #[.int .i64 2, .int .i64 0, .string ⟨#[97]⟩, .int .i64 2, .int .i64 0, .string ⟨#[]⟩] 42)) (some ⟨W.heap.size, 0, none⟩) [⟨2, 0, [97]⟩, ⟨2, 0, []⟩]))
  go_wp2_with (first
    | (go_at_call 19; refine (CI.out _ _).mono ?_; rintro e w1 ⟨rfl, hb1⟩; obtain ⟨hc1, hf1⟩ := bcell hb1; have hs1 := hb1.size; (try simp at hs1))
    | (go_at_call 20; refine (CT.out _ _).mono ?_; rintro e w2 ⟨rfl, hb2⟩; obtain ⟨hc2, hf2⟩ := bcell hb2; have hs2 := hb2.size; (try simp at hs2))
    | (go_at_call 9; (with_reducible refine (C1.out _ _ _ (P1.out _) (by repeat (first | exact Below.refl _ _ | refine Below.setCell ?_ (by first | (simp; done) | (simp; omega) | omega) _ | refine Below.alloc ?_ (by first | (simp; done) | (simp; omega) | omega) _ | refine Below.drew ?_ | assumption | refine Below.trans ?_ (Below.mono (by assumption) (by first | (simp; done) | (simp; omega) | omega))))).mono ?_); rintro e w3 ⟨rfl, hb3⟩; obtain ⟨hc3, hf3⟩ := bcell hb3; have hs3 := hb3.size; (try simp at hs3))
    | (go_at_call 9; (with_reducible refine (C2.out _ _ _ (P2.out _) (by repeat (first | exact Below.refl _ _ | refine Below.setCell ?_ (by first | (simp; done) | (simp; omega) | omega) _ | refine Below.alloc ?_ (by first | (simp; done) | (simp; omega) | omega) _ | refine Below.drew ?_ | assumption | refine Below.trans ?_ (Below.mono (by assumption) (by first | (simp; done) | (simp; omega) | omega))))).mono ?_); rintro e w4 ⟨rfl, hb4⟩; obtain ⟨hc4, hf4⟩ := bcell hb4; have hs4 := hb4.size; (try simp at hs4))
    | (go_at_call 12; refine (C3.out _).mono ?_; rintro e w5 ⟨rfl, hb5⟩; obtain ⟨hc5, hf5⟩ := bcell hb5; have hs5 := hb5.size; (try simp at hs5))
    | (go_at_call 10; refine (CN.out _ _).mono ?_; rintro e w6 ⟨rfl, hb6⟩; obtain ⟨hc6, hf6⟩ := bcell hb6; have hs6 := hb6.size; (try simp at hs6))
    | (go_at_call 11; refine (C4.out _ _ _ _ _ ((PM.out _).below (by repeat (first | exact Below.refl _ _ | refine Below.setCell ?_ (by first | (simp; done) | (simp; omega) | omega) _ | refine Below.alloc ?_ (by first | (simp; done) | (simp; omega) | omega) _ | refine Below.drew ?_ | assumption | refine Below.trans ?_ (Below.mono (by assumption) (by first | (simp; done) | (simp; omega) | omega))))) (P1.out _)).mono ?_; rintro e w7 ⟨rfl, hb7⟩; obtain ⟨hc7, hf7⟩ := bcell hb7; have hs7 := hb7.size; (try simp at hs7)))
  go_ret
  exact ⟨rfl, (by repeat (first | exact Below.refl _ _ | refine Below.setCell ?_ (by first | (simp; done) | (simp; omega) | omega) _ | refine Below.alloc ?_ (by first | (simp; done) | (simp; omega) | omega) _ | refine Below.drew ?_ | assumption | refine Below.trans ?_ (Below.mono (by assumption) (by first | (simp; done) | (simp; omega) | omega))))⟩
end Go.Proofs.YtjccadfaiahkkaaDoor
