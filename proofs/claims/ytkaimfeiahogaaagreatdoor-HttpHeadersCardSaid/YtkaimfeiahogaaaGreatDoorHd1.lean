/-
  HttpHeaders holds: the walk of the law.
-/
import Derived.Test.YtkaimfeiahogaaaGreatDoorHc1
import Derived.Test.YtkaimfeiahogaaaGreatDoorHc2
import Derived.Test.YtkaimfeiahogaaaGreatDoorHc3
namespace Go.Proofs.YtkaimfeiahogaaaGreatDoor
set_option linter.all false
open Go.RowKit Go.Shelf
attribute [local go_sem] cell_set_self lt_1 lt_2 lt_3 lt_4 lt_5 lt_6 drew_cell drew_frozen drew_size

set_option maxHeartbeats 4000000 in
set_option maxRecDepth 100000 in
theorem begins_any (s t : List UInt8) (w : World) : Calls Tryz.prog 20 #[.string ⟨s.toArray⟩, .string ⟨t.toArray⟩] w fun e w' => e = .returned (.bool (decide (s.take t.length = t))) ∧ w = w' := by
  have hs : (⟨s.toArray⟩ : ByteArray).size = s.length := ba_sz s
  have ht : (⟨t.toArray⟩ : ByteArray).size = t.length := ba_sz t
  by_cases h : t.length ≤ s.length
  · have h' : ((⟨t.toArray⟩ : ByteArray).size : Int) ≤ ((⟨s.toArray⟩ : ByteArray).size : Int) := by rw [hs, ht]; omega
    have hx : (⟨s.toArray⟩ : ByteArray).extract 0 (⟨t.toArray⟩ : ByteArray).size = ⟨(s.take t.length).toArray⟩ := by rw [ht, ext_mid]; simp
    have hq := str_beq (s.take t.length) t
    clear hs ht h
    generalize decide (s.take t.length = t) = B at *
    generalize (⟨(s.take t.length).toArray⟩ : ByteArray) = X at *
    generalize (⟨s.toArray⟩ : ByteArray) = S at *
    generalize (⟨t.toArray⟩ : ByteArray) = T at *
    go_enter Tryz.func20, Tryz.ntmps20
    go_wp2
    go_ret
    exact ⟨rfl, rfl⟩
  · have h' : ¬ ((⟨t.toArray⟩ : ByteArray).size : Int) ≤ ((⟨s.toArray⟩ : ByteArray).size : Int) := by rw [hs, ht]; omega
    have e : decide (s.take t.length = t) = false := decide_eq_false (fun e => by have := congrArg List.length e; rw [List.length_take] at this; omega)
    rw [e]
    clear hs ht h e
    generalize (⟨s.toArray⟩ : ByteArray) = S at *
    generalize (⟨t.toArray⟩ : ByteArray) = T at *
    go_enter Tryz.func20, Tryz.ntmps20
    go_wp2
    go_ret
    exact ⟨rfl, rfl⟩
set_option maxHeartbeats 4000000 in
set_option maxRecDepth 100000 in
theorem headers_bad (m p : List UInt8) (A : Option Addr) (n c : Nat) (cl : Bool) (S V : ByteArray) (z : Int) (hn : n ≤ 9223372036854775807) (h : fmtE m p n ≠ 0) (w : World) (E : Env w) :
    Calls Tryz.prog 5 #[rqB m p A n c cl, .string S, .string V, .int .i64 z] w fun e w' => e = .returned (.bool true) ∧ Below w.heap.size w w' := by
  have FO := Lib.hid (fun W (hb : Below w.heap.size w W) => first_ok W (E.below hb))
  have FM := Lib.hid (fun W => format_badA m p cl A n c hn h W)
  unfold rqB at FM ⊢
  generalize (⟨m.toArray⟩ : ByteArray) = M at *
  generalize (⟨p.toArray⟩ : ByteArray) = P at *
  generalize fmtE m p n = x at *
  have hx : (x == 0) = false := beq_eq_false_iff_ne.2 h
  have hx2 : (x != 0) = true := by rw [bne, hx]; rfl
  clear h E hn
  go_enter Tryz.func5, Tryz.ntmps5
  go_wp2_with (first | (go_at_call 10; refine (FO.out _ (by repeat (first | exact Below.refl _ _ | refine Below.setCell ?_ (by first | (simp; done) | (simp; omega) | omega) _ | refine Below.alloc ?_ (by first | (simp; done) | (simp; omega) | omega) _ | refine Below.drew ?_ | assumption | refine Below.trans ?_ (Below.mono (by assumption) (by first | (simp; done) | (simp; omega) | omega))))).mono ?_; rintro e w4 ⟨rfl, hb4⟩; obtain ⟨hc4, hf4⟩ := bcell hb4; have hs4 := hb4.size; (try simp at hs4); have hz4 : w.heap.size < w4.heap.size := by have := hb4.size; (try simp at this); omega) | (go_at_call 17; refine (FM.out _).mono ?_; rintro e w5 ⟨rfl, hb5⟩; obtain ⟨hc5, hf5⟩ := bcell hb5; have hs5 := hb5.size; (try simp at hs5); have hz5 : w.heap.size < w5.heap.size := by have := hb5.size; (try simp at this); omega) | (go_at_call 12; (with_reducible refine (num_same _ _).mono ?_); rintro e w9 ⟨rfl, rfl⟩))
  go_ret
  exact ⟨rfl, (by repeat (first | exact Below.refl _ _ | refine Below.setCell ?_ (by first | (simp; done) | (simp; omega) | omega) _ | refine Below.alloc ?_ (by first | (simp; done) | (simp; omega) | omega) _ | refine Below.drew ?_ | assumption | refine Below.trans ?_ (Below.mono (by assumption) (by first | (simp; done) | (simp; omega) | omega))))⟩
set_option maxHeartbeats 8000000 in
set_option maxRecDepth 100000 in
theorem headers_far (m p : List UInt8) (A : Option Addr) (n c : Nat) (l : List UInt8) (hl : l.length = n) (cl : Bool) (S V : ByteArray) (z : Int) (h0 : fmtE m p n = 0) (hf : S.size < 1 ∨ 40 < S.size ∨ 900 < V.size) (w : World) (E : Env w) (T : Bs w A c l) :
    Calls Tryz.prog 5 #[rqB m p A n c cl, .string S, .string V, .int .i64 z] w fun e w' => e = .returned (.bool true) ∧ Below w.heap.size w w' := by
  have FO := Lib.hid (fun W (hb : Below w.heap.size w W) => first_ok W (E.below hb))
  have FM := Lib.hid (fun W (hb : Below w.heap.size w W) => format_ok m p cl A n c l hl h0 W (E.below hb) (T.below hb))
  unfold rqB at FM ⊢
  generalize (⟨m.toArray⟩ : ByteArray) = M at *
  generalize (⟨p.toArray⟩ : ByteArray) = P at *
  generalize (fmtH m p n cl).length = hh at *
  clear h0 E T hl
  by_cases h1 : S.size < 1
  · have h1' : (S.size : Int) < 1 := by omega
    clear hf h1
    go_enter Tryz.func5, Tryz.ntmps5
    go_wp2_with (first | (go_at_call 10; refine (FO.out _ (by repeat (first | exact Below.refl _ _ | refine Below.setCell ?_ (by first | (simp; done) | (simp; omega) | omega) _ | refine Below.alloc ?_ (by first | (simp; done) | (simp; omega) | omega) _ | refine Below.drew ?_ | assumption | refine Below.trans ?_ (Below.mono (by assumption) (by first | (simp; done) | (simp; omega) | omega))))).mono ?_; rintro e w4 ⟨rfl, hb4⟩; obtain ⟨hc4, hf4⟩ := bcell hb4; have hs4 := hb4.size; (try simp at hs4); have hz4 : w.heap.size < w4.heap.size := by have := hb4.size; (try simp at this); omega) | (go_at_call 17; refine (FM.out _ (by repeat (first | exact Below.refl _ _ | refine Below.setCell ?_ (by first | (simp; done) | (simp; omega) | omega) _ | refine Below.alloc ?_ (by first | (simp; done) | (simp; omega) | omega) _ | refine Below.drew ?_ | assumption | refine Below.trans ?_ (Below.mono (by assumption) (by first | (simp; done) | (simp; omega) | omega))))).mono ?_; rintro e w5 ⟨⟨g5, c5, rfl, _, _⟩, hb5⟩; obtain ⟨hc5, hf5⟩ := bcell hb5; have hs5 := hb5.size; (try simp at hs5); have hz5 : w.heap.size < w5.heap.size := by have := hb5.size; (try simp at this); omega) | (go_at_call 12; (with_reducible refine (num_same _ _).mono ?_); rintro e w9 ⟨rfl, rfl⟩))
    go_ret
    exact ⟨rfl, (by repeat (first | exact Below.refl _ _ | refine Below.setCell ?_ (by first | (simp; done) | (simp; omega) | omega) _ | refine Below.alloc ?_ (by first | (simp; done) | (simp; omega) | omega) _ | refine Below.drew ?_ | assumption | refine Below.trans ?_ (Below.mono (by assumption) (by first | (simp; done) | (simp; omega) | omega))))⟩
  · have h1' : ¬ (S.size : Int) < 1 := by omega
    by_cases h2 : 40 < S.size
    · have h2' : (40 : Int) < (S.size : Int) := by omega
      clear hf h1 h2
      go_enter Tryz.func5, Tryz.ntmps5
      go_wp2_with (first | (go_at_call 10; refine (FO.out _ (by repeat (first | exact Below.refl _ _ | refine Below.setCell ?_ (by first | (simp; done) | (simp; omega) | omega) _ | refine Below.alloc ?_ (by first | (simp; done) | (simp; omega) | omega) _ | refine Below.drew ?_ | assumption | refine Below.trans ?_ (Below.mono (by assumption) (by first | (simp; done) | (simp; omega) | omega))))).mono ?_; rintro e w4 ⟨rfl, hb4⟩; obtain ⟨hc4, hf4⟩ := bcell hb4; have hs4 := hb4.size; (try simp at hs4); have hz4 : w.heap.size < w4.heap.size := by have := hb4.size; (try simp at this); omega) | (go_at_call 17; refine (FM.out _ (by repeat (first | exact Below.refl _ _ | refine Below.setCell ?_ (by first | (simp; done) | (simp; omega) | omega) _ | refine Below.alloc ?_ (by first | (simp; done) | (simp; omega) | omega) _ | refine Below.drew ?_ | assumption | refine Below.trans ?_ (Below.mono (by assumption) (by first | (simp; done) | (simp; omega) | omega))))).mono ?_; rintro e w5 ⟨⟨g5, c5, rfl, _, _⟩, hb5⟩; obtain ⟨hc5, hf5⟩ := bcell hb5; have hs5 := hb5.size; (try simp at hs5); have hz5 : w.heap.size < w5.heap.size := by have := hb5.size; (try simp at this); omega) | (go_at_call 12; (with_reducible refine (num_same _ _).mono ?_); rintro e w9 ⟨rfl, rfl⟩))
      go_ret
      exact ⟨rfl, (by repeat (first | exact Below.refl _ _ | refine Below.setCell ?_ (by first | (simp; done) | (simp; omega) | omega) _ | refine Below.alloc ?_ (by first | (simp; done) | (simp; omega) | omega) _ | refine Below.drew ?_ | assumption | refine Below.trans ?_ (Below.mono (by assumption) (by first | (simp; done) | (simp; omega) | omega))))⟩
    · have h2' : ¬ (40 : Int) < (S.size : Int) := by omega
      have h3' : (900 : Int) < (V.size : Int) := by omega
      clear hf h1 h2
      go_enter Tryz.func5, Tryz.ntmps5
      go_wp2_with (first | (go_at_call 10; refine (FO.out _ (by repeat (first | exact Below.refl _ _ | refine Below.setCell ?_ (by first | (simp; done) | (simp; omega) | omega) _ | refine Below.alloc ?_ (by first | (simp; done) | (simp; omega) | omega) _ | refine Below.drew ?_ | assumption | refine Below.trans ?_ (Below.mono (by assumption) (by first | (simp; done) | (simp; omega) | omega))))).mono ?_; rintro e w4 ⟨rfl, hb4⟩; obtain ⟨hc4, hf4⟩ := bcell hb4; have hs4 := hb4.size; (try simp at hs4); have hz4 : w.heap.size < w4.heap.size := by have := hb4.size; (try simp at this); omega) | (go_at_call 17; refine (FM.out _ (by repeat (first | exact Below.refl _ _ | refine Below.setCell ?_ (by first | (simp; done) | (simp; omega) | omega) _ | refine Below.alloc ?_ (by first | (simp; done) | (simp; omega) | omega) _ | refine Below.drew ?_ | assumption | refine Below.trans ?_ (Below.mono (by assumption) (by first | (simp; done) | (simp; omega) | omega))))).mono ?_; rintro e w5 ⟨⟨g5, c5, rfl, _, _⟩, hb5⟩; obtain ⟨hc5, hf5⟩ := bcell hb5; have hs5 := hb5.size; (try simp at hs5); have hz5 : w.heap.size < w5.heap.size := by have := hb5.size; (try simp at this); omega) | (go_at_call 12; (with_reducible refine (num_same _ _).mono ?_); rintro e w9 ⟨rfl, rfl⟩))
      go_ret
      exact ⟨rfl, (by repeat (first | exact Below.refl _ _ | refine Below.setCell ?_ (by first | (simp; done) | (simp; omega) | omega) _ | refine Below.alloc ?_ (by first | (simp; done) | (simp; omega) | omega) _ | refine Below.drew ?_ | assumption | refine Below.trans ?_ (Below.mono (by assumption) (by first | (simp; done) | (simp; omega) | omega))))⟩
end Go.Proofs.YtkaimfeiahogaaaGreatDoor
