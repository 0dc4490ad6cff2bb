/-
  The walk of KeysRange.
-/
import Derived.Test.YtjccadfaiahkkaaDoorKr
import Derived.Lib.SmallJoins
namespace Go.Proofs.YtjccadfaiahkkaaDoor
set_option linter.all false
open Go.RowKit
attribute [local go_sem] cell_set_self lt_1 lt_2 lt_3 lt_4 lt_5 lt_6

set_option maxHeartbeats 1000000 in
set_option maxRecDepth 100000 in
theorem range_few (A B : Option Addr) (n c m d : Nat) (l l' : List Part) (hl : l.length = n) (hm : l'.length = m) (hn : n ≤ 9223372036854775807) (hmn : m ≤ 9223372036854775807)
    (f : fewB l = false ∨ (fewB l = true ∧ fewB l' = false)) (w : World) (T : Parts w A l) (U : Parts w B l') (ml : ML w) :
    Calls Tryd.prog 6 #[.slice A n c, .slice B m d] w fun e w' => e = .returned (.bool true) ∧ Below w.heap.size w w' := by
  have hF := Lib.hid (fun W (hb : Below w.heap.size w W) => first_any W (ml.below hb))
  have FW1 : Hid (∀ W, Below w.heap.size w W → Calls Tryd.prog 8 #[.slice A n c] W fun e w' => e = .returned (.bool (fewB l)) ∧ Below W.heap.size W w') := Lib.hid fun W hb => few_any A n c l hl hn W (T.below hb)
  have FW2 : Hid (∀ W, Below w.heap.size w W → Calls Tryd.prog 8 #[.slice B m d] W fun e w' => e = .returned (.bool (fewB l')) ∧ Below W.heap.size W w') := Lib.hid fun W hb => few_any B m d l' hm hmn W (U.below hb)
  rcases f with f1 | ⟨f1, f2⟩
  · rw [f1] at FW1
    clear f1 FW2 hl hm T U ml
    go_enter Tryd.func6, Tryd.ntmps6
    go_wp2_with (first
      | (go_at_call 7; refine (hF.out _ (by repeat (first | exact Below.refl _ _ | refine Below.setCell ?_ (by first | (simp; done) | (simp; omega) | omega) _ | refine Below.alloc ?_ (by first | (simp; done) | (simp; omega) | omega) _ | refine Below.drew ?_ | assumption | refine Below.trans ?_ (Below.mono (by assumption) (by first | (simp; done) | (simp; omega) | omega))))).mono ?_; rintro e w1 ⟨rfl, hb1⟩; obtain ⟨hc1, hf1⟩ := bcell hb1; have hs1 := hb1.size; (try simp at hs1))
      | (go_at_call 8; (with_reducible refine (FW1.out _ (by repeat (first | exact Below.refl _ _ | refine Below.setCell ?_ (by first | (simp; done) | (simp; omega) | omega) _ | refine Below.alloc ?_ (by first | (simp; done) | (simp; omega) | omega) _ | refine Below.drew ?_ | assumption | refine Below.trans ?_ (Below.mono (by assumption) (by first | (simp; done) | (simp; omega) | omega))))).mono ?_); rintro e w2 ⟨rfl, hb2⟩; have hs2 := hb2.size; (try simp at hs2)))
    go_ret
    exact ⟨rfl, (by repeat (first | exact Below.refl _ _ | refine Below.setCell ?_ (by first | (simp; done) | (simp; omega) | omega) _ | refine Below.alloc ?_ (by first | (simp; done) | (simp; omega) | omega) _ | refine Below.drew ?_ | assumption | refine Below.trans ?_ (Below.mono (by assumption) (by first | (simp; done) | (simp; omega) | omega))))⟩
  · rw [f1] at FW1
    rw [f2] at FW2
    clear f1 f2 hl hm T U ml
    go_enter Tryd.func6, Tryd.ntmps6
    go_wp2_with (first
      | (go_at_call 7; refine (hF.out _ (by repeat (first | exact Below.refl _ _ | refine Below.setCell ?_ (by first | (simp; done) | (simp; omega) | omega) _ | refine Below.alloc ?_ (by first | (simp; done) | (simp; omega) | omega) _ | refine Below.drew ?_ | assumption | refine Below.trans ?_ (Below.mono (by assumption) (by first | (simp; done) | (simp; omega) | omega))))).mono ?_; rintro e w1 ⟨rfl, hb1⟩; obtain ⟨hc1, hf1⟩ := bcell hb1; have hs1 := hb1.size; (try simp at hs1))
      | (go_at_call 8; (with_reducible refine (FW1.out _ (by repeat (first | exact Below.refl _ _ | refine Below.setCell ?_ (by first | (simp; done) | (simp; omega) | omega) _ | refine Below.alloc ?_ (by first | (simp; done) | (simp; omega) | omega) _ | refine Below.drew ?_ | assumption | refine Below.trans ?_ (Below.mono (by assumption) (by first | (simp; done) | (simp; omega) | omega))))).mono ?_); rintro e w2 ⟨rfl, hb2⟩; have hs2 := hb2.size; (try simp at hs2))
      | (go_at_call 8; (with_reducible refine (FW2.out _ (by repeat (first | exact Below.refl _ _ | refine Below.setCell ?_ (by first | (simp; done) | (simp; omega) | omega) _ | refine Below.alloc ?_ (by first | (simp; done) | (simp; omega) | omega) _ | refine Below.drew ?_ | assumption | refine Below.trans ?_ (Below.mono (by assumption) (by first | (simp; done) | (simp; omega) | omega))))).mono ?_); rintro e w3 ⟨rfl, hb3⟩; have hs3 := hb3.size; (try simp at hs3)))
    go_ret
    exact ⟨rfl, (by repeat (first | exact Below.refl _ _ | refine Below.setCell ?_ (by first | (simp; done) | (simp; omega) | omega) _ | refine Below.alloc ?_ (by first | (simp; done) | (simp; omega) | omega) _ | refine Below.drew ?_ | assumption | refine Below.trans ?_ (Below.mono (by assumption) (by first | (simp; done) | (simp; omega) | omega))))⟩
set_option maxHeartbeats 1000000 in
set_option maxRecDepth 100000 in
theorem range_err (A B : Option Addr) (n c m d : Nat) (l l' : List Part) (hl : l.length = n) (hm : l'.length = m) (hi : ∀ p ∈ l, In64 p.n) (hi' : ∀ p ∈ l', In64 p.n)
    (fl : fewB l = true) (fm : fewB l' = true) (ee : errE l ≠ 0 ∨ (errE l = 0 ∧ errE l' ≠ 0)) (w : World) (T : Parts w A l) (U : Parts w B l') (ml : ML w) :
    Calls Tryd.prog 6 #[.slice A n c, .slice B m d] w fun e w' => e = .returned (.bool true) ∧ Below w.heap.size w w' := by
  have hn : n ≤ 9223372036854775807 := by have := (few_yes fl).1; omega
  have hmn : m ≤ 9223372036854775807 := by have := (few_yes fm).1; omega
  have hF := Lib.hid (fun W (hb : Below w.heap.size w W) => first_any W (ml.below hb))
  have FW1 : Hid (∀ W, Below w.heap.size w W → Calls Tryd.prog 8 #[.slice A n c] W fun e w' => e = .returned (.bool (fewB l)) ∧ Below W.heap.size W w') := Lib.hid fun W hb => few_any A n c l hl hn W (T.below hb)
  have FW2 : Hid (∀ W, Below w.heap.size w W → Calls Tryd.prog 8 #[.slice B m d] W fun e w' => e = .returned (.bool (fewB l')) ∧ Below W.heap.size W w') := Lib.hid fun W hb => few_any B m d l' hm hmn W (U.below hb)
  have hE1 : Hid (∀ W, Below w.heap.size w W → Calls Tryd.prog 17 #[.slice A n c] W fun e w' => e = .returned (.tuple #[.string ⟨(bytesE l).toArray⟩, .string ⟨(toE l).toArray⟩, .int .i64 (errE l)]) ∧ Below W.heap.size W w') := Lib.hid fun W hb =>
    prefix_any A n c l hl (by omega) (fun _ p hp => ⟨by have := (few_yes fl).2 p hp; omega, hi p hp⟩) W (T.below hb) (ml.below hb)
  have hE2 : Hid (∀ W, Below w.heap.size w W → Calls Tryd.prog 9 #[.slice B m d] W fun e w' => e = .returned (.tuple #[.string ⟨(bytesE l').toArray⟩, .int .i64 (errE l')]) ∧ Below W.heap.size W w') := Lib.hid fun W hb =>
    encode_any B m d l' hm (by omega) (fun _ p hp => ⟨by have := (few_yes fm).2 p hp; omega, hi' p hp⟩) W (U.below hb) (ml.below hb)
  rw [fl] at FW1
  rw [fm] at FW2
  have CN := Lib.hid (fun n W => num_any n W)
  clear fl fm T U ml hl hm hi hi'
  rcases ee with e1 | ⟨e1, e2⟩
  · generalize bytesE l = x at *
    generalize toE l = z at *
    generalize bytesE l' = y at *
    generalize errE l = ex at *
    generalize errE l' = ey at *
    have e1' : (ex != 0) = true := by simpa using e1
    go_enter Tryd.func6, Tryd.ntmps6
    go_wp2_with (first
      | (go_at_call 7; refine (hF.out _ (by repeat (first | exact Below.refl _ _ | refine Below.setCell ?_ (by first | (simp; done) | (simp; omega) | omega) _ | refine Below.alloc ?_ (by first | (simp; done) | (simp; omega) | omega) _ | refine Below.drew ?_ | assumption | refine Below.trans ?_ (Below.mono (by assumption) (by first | (simp; done) | (simp; omega) | omega))))).mono ?_; rintro e w1 ⟨rfl, hb1⟩; obtain ⟨hc1, hf1⟩ := bcell hb1; have hs1 := hb1.size; (try simp at hs1))
      | (go_at_call 8; (with_reducible refine (FW1.out _ (by repeat (first | exact Below.refl _ _ | refine Below.setCell ?_ (by first | (simp; done) | (simp; omega) | omega) _ | refine Below.alloc ?_ (by first | (simp; done) | (simp; omega) | omega) _ | refine Below.drew ?_ | assumption | refine Below.trans ?_ (Below.mono (by assumption) (by first | (simp; done) | (simp; omega) | omega))))).mono ?_); rintro e w2 ⟨rfl, hb2⟩; have hs2 := hb2.size; (try simp at hs2))
      | (go_at_call 8; (with_reducible refine (FW2.out _ (by repeat (first | exact Below.refl _ _ | refine Below.setCell ?_ (by first | (simp; done) | (simp; omega) | omega) _ | refine Below.alloc ?_ (by first | (simp; done) | (simp; omega) | omega) _ | refine Below.drew ?_ | assumption | refine Below.trans ?_ (Below.mono (by assumption) (by first | (simp; done) | (simp; omega) | omega))))).mono ?_); rintro e w3 ⟨rfl, hb3⟩; have hs3 := hb3.size; (try simp at hs3))
      | (go_at_call 17; (with_reducible refine (hE1.out _ (by repeat (first | exact Below.refl _ _ | refine Below.setCell ?_ (by first | (simp; done) | (simp; omega) | omega) _ | refine Below.alloc ?_ (by first | (simp; done) | (simp; omega) | omega) _ | refine Below.drew ?_ | assumption | refine Below.trans ?_ (Below.mono (by assumption) (by first | (simp; done) | (simp; omega) | omega))))).mono ?_); rintro e w4 ⟨rfl, hb4⟩; have hs4 := hb4.size; (try simp at hs4))
      | (go_at_call 9; (with_reducible refine (hE2.out _ (by repeat (first | exact Below.refl _ _ | refine Below.setCell ?_ (by first | (simp; done) | (simp; omega) | omega) _ | refine Below.alloc ?_ (by first | (simp; done) | (simp; omega) | omega) _ | refine Below.drew ?_ | assumption | refine Below.trans ?_ (Below.mono (by assumption) (by first | (simp; done) | (simp; omega) | omega))))).mono ?_); rintro e w5 ⟨rfl, hb5⟩; have hs5 := hb5.size; (try simp at hs5))
      | (go_at_call 10; refine (CN.out _ _).mono ?_; rintro e w6 ⟨rfl, hb6⟩; obtain ⟨hc6, hf6⟩ := bcell hb6; have hs6 := hb6.size; (try simp at hs6)))
    go_ret
    exact ⟨rfl, (by repeat (first | exact Below.refl _ _ | refine Below.setCell ?_ (by first | (simp; done) | (simp; omega) | omega) _ | refine Below.alloc ?_ (by first | (simp; done) | (simp; omega) | omega) _ | refine Below.drew ?_ | assumption | refine Below.trans ?_ (Below.mono (by assumption) (by first | (simp; done) | (simp; omega) | omega))))⟩
  · rw [e1] at hE1
    clear e1
    generalize bytesE l = x at *
    generalize toE l = z at *
    generalize bytesE l' = y at *
    generalize errE l' = ey at *
    have e2' : (ey != 0) = true := by simpa using e2
    go_enter Tryd.func6, Tryd.ntmps6
    go_wp2_with (first
      | (go_at_call 7; refine (hF.out _ (by repeat (first | exact Below.refl _ _ | refine Below.setCell ?_ (by first | (simp; done) | (simp; omega) | omega) _ | refine Below.alloc ?_ (by first | (simp; done) | (simp; omega) | omega) _ | refine Below.drew ?_ | assumption | refine Below.trans ?_ (Below.mono (by assumption) (by first | (simp; done) | (simp; omega) | omega))))).mono ?_; rintro e w1 ⟨rfl, hb1⟩; obtain ⟨hc1, hf1⟩ := bcell hb1; have hs1 := hb1.size; (try simp at hs1))
      | (go_at_call 8; (with_reducible refine (FW1.out _ (by repeat (first | exact Below.refl _ _ | refine Below.setCell ?_ (by first | (simp; done) | (simp; omega) | omega) _ | refine Below.alloc ?_ (by first | (simp; done) | (simp; omega) | omega) _ | refine Below.drew ?_ | assumption | refine Below.trans ?_ (Below.mono (by assumption) (by first | (simp; done) | (simp; omega) | omega))))).mono ?_); rintro e w2 ⟨rfl, hb2⟩; have hs2 := hb2.size; (try simp at hs2))
      | (go_at_call 8; (with_reducible refine (FW2.out _ (by repeat (first | exact Below.refl _ _ | refine Below.setCell ?_ (by first | (simp; done) | (simp; omega) | omega) _ | refine Below.alloc ?_ (by first | (simp; done) | (simp; omega) | omega) _ | refine Below.drew ?_ | assumption | refine Below.trans ?_ (Below.mono (by assumption) (by first | (simp; done) | (simp; omega) | omega))))).mono ?_); rintro e w3 ⟨rfl, hb3⟩; have hs3 := hb3.size; (try simp at hs3))
      | (go_at_call 17; (with_reducible refine (hE1.out _ (by repeat (first | exact Below.refl _ _ | refine Below.setCell ?_ (by first | (simp; done) | (simp; omega) | omega) _ | refine Below.alloc ?_ (by first | (simp; done) | (simp; omega) | omega) _ | refine Below.drew ?_ | assumption | refine Below.trans ?_ (Below.mono (by assumption) (by first | (simp; done) | (simp; omega) | omega))))).mono ?_); rintro e w4 ⟨rfl, hb4⟩; have hs4 := hb4.size; (try simp at hs4))
      | (go_at_call 9; (with_reducible refine (hE2.out _ (by repeat (first | exact Below.refl _ _ | refine Below.setCell ?_ (by first | (simp; done) | (simp; omega) | omega) _ | refine Below.alloc ?_ (by first | (simp; done) | (simp; omega) | omega) _ | refine Below.drew ?_ | assumption | refine Below.trans ?_ (Below.mono (by assumption) (by first | (simp; done) | (simp; omega) | omega))))).mono ?_); rintro e w5 ⟨rfl, hb5⟩; have hs5 := hb5.size; (try simp at hs5))
      | (go_at_call 10; refine (CN.out _ _).mono ?_; rintro e w6 ⟨rfl, hb6⟩; obtain ⟨hc6, hf6⟩ := bcell hb6; have hs6 := hb6.size; (try simp at hs6)))
    go_ret
    exact ⟨rfl, (by repeat (first | exact Below.refl _ _ | refine Below.setCell ?_ (by first | (simp; done) | (simp; omega) | omega) _ | refine Below.alloc ?_ (by first | (simp; done) | (simp; omega) | omega) _ | refine Below.drew ?_ | assumption | refine Below.trans ?_ (Below.mono (by assumption) (by first | (simp; done) | (simp; omega) | omega))))⟩
set_option maxHeartbeats 1000000 in
set_option maxRecDepth 100000 in
theorem range_main (A B : Option Addr) (n c m d : Nat) (l l' : List Part) (hl : l.length = n) (hm : l'.length = m) (hd : m ≤ d) (hi : ∀ p ∈ l, In64 p.n) (hi' : ∀ p ∈ l', In64 p.n)
    (fl : fewB l = true) (fm : fewB l' = true) (e1 : errE l = 0) (e2 : errE l' = 0) (w : World) (T : Parts w A l) (U : Parts w B l') (ml : ML w) :
    Calls Tryd.prog 6 #[.slice A n c, .slice B m d] w fun e w' => e = .returned (.bool true) ∧ Below w.heap.size w w' := by
  have hn : n ≤ 9223372036854775807 := by have := (few_yes fl).1; omega
  have hmn : m ≤ 9223372036854775807 := by have := (few_yes fm).1; omega
  have hn10 : n ≤ 10 := by have := (few_yes fl).1; omega
  have hm10 : m ≤ 10 := by have := (few_yes fm).1; omega
  have hF := Lib.hid (fun W (hb : Below w.heap.size w W) => first_any W (ml.below hb))
  have FW1 : Hid (∀ W, Below w.heap.size w W → Calls Tryd.prog 8 #[.slice A n c] W fun e w' => e = .returned (.bool (fewB l)) ∧ Below W.heap.size W w') := Lib.hid fun W hb => few_any A n c l hl hn W (T.below hb)
  have FW2 : Hid (∀ W, Below w.heap.size w W → Calls Tryd.prog 8 #[.slice B m d] W fun e w' => e = .returned (.bool (fewB l')) ∧ Below W.heap.size W w') := Lib.hid fun W hb => few_any B m d l' hm hmn W (U.below hb)
  have hE1 : Hid (∀ W, Below w.heap.size w W → Calls Tryd.prog 17 #[.slice A n c] W fun e w' => e = .returned (.tuple #[.string ⟨(bytesE l).toArray⟩, .string ⟨(toE l).toArray⟩, .int .i64 (errE l)]) ∧ Below W.heap.size W w') := Lib.hid fun W hb =>
    prefix_any A n c l hl (by omega) (fun _ p hp => ⟨by have := (few_yes fl).2 p hp; omega, hi p hp⟩) W (T.below hb) (ml.below hb)
  have hE2 : Hid (∀ W, Below w.heap.size w W → Calls Tryd.prog 9 #[.slice B m d] W fun e w' => e = .returned (.tuple #[.string ⟨(bytesE l').toArray⟩, .int .i64 (errE l')]) ∧ Below W.heap.size W w') := Lib.hid fun W hb =>
    encode_any B m d l' hm (by omega) (fun _ p hp => ⟨by have := (few_yes fm).2 p hp; omega, hi' p hp⟩) W (U.below hb) (ml.below hb)
  rw [fl] at FW1
  rw [fm] at FW2
  have ok1 := okP_all e1 hi
  have ok2 := okP_all e2 hi'
  have RL := range_law ok1 ok2
  have ez : toE l = en l ++ [255] := by unfold toE; rw [if_pos e1, bytesE_0 e1]
  rw [bytesE_0 e1, e1, ez] at hE1
  rw [bytesE_0 e2, e2] at hE2
  rw [hl, hm] at RL
  obtain ⟨v, hv⟩ : ∃ v, cmpL (l'.take n) l = v := ⟨_, rfl⟩
  have hC1 : n ≤ m → Hid (∀ W, Below w.heap.size w W → Calls Tryd.prog 11 #[.slice B n d, .slice A n c] W fun e w' => e = .returned (.int .i64 v) ∧ Below W.heap.size W w') := fun h => Lib.hid fun W hb => by
    have h := compare_any B A n d n c (l'.take n) l (by rw [List.length_take]; omega) hl (by omega) (by omega) W ((U.below hb).take n) (T.below hb); rwa [hv] at h
  have L1 := less_cb (en l') (en l)
  have L2 := less_cb (en l') (en l ++ [255])
  rw [← L1, ← L2, hv] at RL
  clear L1 L2 ez hv
  generalize en l ++ [255] = z at *
  generalize en l = x at *
  generalize en l' = y at *
  have CN := Lib.hid (fun n W => num_any n W)
  clear fl fm T U ml hl hm hi hi' ok1 ok2 e1 e2
  obtain ⟨b1, hb1⟩ : ∃ b, Go.Op.bytesLess y x = b := ⟨_, rfl⟩
  obtain ⟨b2, hb2⟩ : ∃ b, Go.Op.bytesLess y z = b := ⟨_, rfl⟩
  rw [hb1, hb2] at RL
  by_cases hnm : n ≤ m
  · have hC1 := hC1 hnm
    have hnm' : (n : Int) ≤ m := by omega
    have hmin : min (n : Int) (m : Int) = n := by omega
    have hnd : (n : Int) ≤ d := by omega
    rw [decide_eq_true hnm, Bool.true_and] at RL
    by_cases hv : v = 0
    · subst hv
      cases b1 <;> cases b2 <;> simp at RL
      go_enter Tryd.func6, Tryd.ntmps6
      go_wp2_with (first
        | (go_at_call 7; refine (hF.out _ (by repeat (first | exact Below.refl _ _ | refine Below.setCell ?_ (by first | (simp; done) | (simp; omega) | omega) _ | refine Below.alloc ?_ (by first | (simp; done) | (simp; omega) | omega) _ | refine Below.drew ?_ | assumption | refine Below.trans ?_ (Below.mono (by assumption) (by first | (simp; done) | (simp; omega) | omega))))).mono ?_; rintro e w1 ⟨rfl, hb1⟩; obtain ⟨hc1, hf1⟩ := bcell hb1; have hs1 := hb1.size; (try simp at hs1))
        | (go_at_call 8; (with_reducible refine (FW1.out _ (by repeat (first | exact Below.refl _ _ | refine Below.setCell ?_ (by first | (simp; done) | (simp; omega) | omega) _ | refine Below.alloc ?_ (by first | (simp; done) | (simp; omega) | omega) _ | refine Below.drew ?_ | assumption | refine Below.trans ?_ (Below.mono (by assumption) (by first | (simp; done) | (simp; omega) | omega))))).mono ?_); rintro e w2 ⟨rfl, hb2⟩; have hs2 := hb2.size; (try simp at hs2))
        | (go_at_call 8; (with_reducible refine (FW2.out _ (by repeat (first | exact Below.refl _ _ | refine Below.setCell ?_ (by first | (simp; done) | (simp; omega) | omega) _ | refine Below.alloc ?_ (by first | (simp; done) | (simp; omega) | omega) _ | refine Below.drew ?_ | assumption | refine Below.trans ?_ (Below.mono (by assumption) (by first | (simp; done) | (simp; omega) | omega))))).mono ?_); rintro e w3 ⟨rfl, hb3⟩; have hs3 := hb3.size; (try simp at hs3))
        | (go_at_call 17; (with_reducible refine (hE1.out _ (by repeat (first | exact Below.refl _ _ | refine Below.setCell ?_ (by first | (simp; done) | (simp; omega) | omega) _ | refine Below.alloc ?_ (by first | (simp; done) | (simp; omega) | omega) _ | refine Below.drew ?_ | assumption | refine Below.trans ?_ (Below.mono (by assumption) (by first | (simp; done) | (simp; omega) | omega))))).mono ?_); rintro e w4 ⟨rfl, hb4⟩; have hs4 := hb4.size; (try simp at hs4))
        | (go_at_call 9; (with_reducible refine (hE2.out _ (by repeat (first | exact Below.refl _ _ | refine Below.setCell ?_ (by first | (simp; done) | (simp; omega) | omega) _ | refine Below.alloc ?_ (by first | (simp; done) | (simp; omega) | omega) _ | refine Below.drew ?_ | assumption | refine Below.trans ?_ (Below.mono (by assumption) (by first | (simp; done) | (simp; omega) | omega))))).mono ?_); rintro e w5 ⟨rfl, hb5⟩; have hs5 := hb5.size; (try simp at hs5))
        | (go_at_call 10; refine (CN.out _ _).mono ?_; rintro e w6 ⟨rfl, hb6⟩; obtain ⟨hc6, hf6⟩ := bcell hb6; have hs6 := hb6.size; (try simp at hs6))
        | (go_at_call 11; (with_reducible refine (hC1.out _ (by repeat (first | exact Below.refl _ _ | refine Below.setCell ?_ (by first | (simp; done) | (simp; omega) | omega) _ | refine Below.alloc ?_ (by first | (simp; done) | (simp; omega) | omega) _ | refine Below.drew ?_ | assumption | refine Below.trans ?_ (Below.mono (by assumption) (by first | (simp; done) | (simp; omega) | omega))))).mono ?_); rintro e w7 ⟨rfl, hb7⟩; have hs7 := hb7.size; (try simp at hs7)))
      go_ret
      exact ⟨rfl, (by repeat (first | exact Below.refl _ _ | refine Below.setCell ?_ (by first | (simp; done) | (simp; omega) | omega) _ | refine Below.alloc ?_ (by first | (simp; done) | (simp; omega) | omega) _ | refine Below.drew ?_ | assumption | refine Below.trans ?_ (Below.mono (by assumption) (by first | (simp; done) | (simp; omega) | omega))))⟩
    · have hv' : (v == 0) = false := by simpa using hv
      rw [hv'] at RL
      cases b1 <;> cases b2 <;> simp at RL
      all_goals
        go_enter Tryd.func6, Tryd.ntmps6
        go_wp2_with (first
          | (go_at_call 7; refine (hF.out _ (by repeat (first | exact Below.refl _ _ | refine Below.setCell ?_ (by first | (simp; done) | (simp; omega) | omega) _ | refine Below.alloc ?_ (by first | (simp; done) | (simp; omega) | omega) _ | refine Below.drew ?_ | assumption | refine Below.trans ?_ (Below.mono (by assumption) (by first | (simp; done) | (simp; omega) | omega))))).mono ?_; rintro e w1 ⟨rfl, hb1⟩; obtain ⟨hc1, hf1⟩ := bcell hb1; have hs1 := hb1.size; (try simp at hs1))
          | (go_at_call 8; (with_reducible refine (FW1.out _ (by repeat (first | exact Below.refl _ _ | refine Below.setCell ?_ (by first | (simp; done) | (simp; omega) | omega) _ | refine Below.alloc ?_ (by first | (simp; done) | (simp; omega) | omega) _ | refine Below.drew ?_ | assumption | refine Below.trans ?_ (Below.mono (by assumption) (by first | (simp; done) | (simp; omega) | omega))))).mono ?_); rintro e w2 ⟨rfl, hb2⟩; have hs2 := hb2.size; (try simp at hs2))
          | (go_at_call 8; (with_reducible refine (FW2.out _ (by repeat (first | exact Below.refl _ _ | refine Below.setCell ?_ (by first | (simp; done) | (simp; omega) | omega) _ | refine Below.alloc ?_ (by first | (simp; done) | (simp; omega) | omega) _ | refine Below.drew ?_ | assumption | refine Below.trans ?_ (Below.mono (by assumption) (by first | (simp; done) | (simp; omega) | omega))))).mono ?_); rintro e w3 ⟨rfl, hb3⟩; have hs3 := hb3.size; (try simp at hs3))
          | (go_at_call 17; (with_reducible refine (hE1.out _ (by repeat (first | exact Below.refl _ _ | refine Below.setCell ?_ (by first | (simp; done) | (simp; omega) | omega) _ | refine Below.alloc ?_ (by first | (simp; done) | (simp; omega) | omega) _ | refine Below.drew ?_ | assumption | refine Below.trans ?_ (Below.mono (by assumption) (by first | (simp; done) | (simp; omega) | omega))))).mono ?_); rintro e w4 ⟨rfl, hb4⟩; have hs4 := hb4.size; (try simp at hs4))
          | (go_at_call 9; (with_reducible refine (hE2.out _ (by repeat (first | exact Below.refl _ _ | refine Below.setCell ?_ (by first | (simp; done) | (simp; omega) | omega) _ | refine Below.alloc ?_ (by first | (simp; done) | (simp; omega) | omega) _ | refine Below.drew ?_ | assumption | refine Below.trans ?_ (Below.mono (by assumption) (by first | (simp; done) | (simp; omega) | omega))))).mono ?_); rintro e w5 ⟨rfl, hb5⟩; have hs5 := hb5.size; (try simp at hs5))
          | (go_at_call 10; refine (CN.out _ _).mono ?_; rintro e w6 ⟨rfl, hb6⟩; obtain ⟨hc6, hf6⟩ := bcell hb6; have hs6 := hb6.size; (try simp at hs6))
          | (go_at_call 11; (with_reducible refine (hC1.out _ (by repeat (first | exact Below.refl _ _ | refine Below.setCell ?_ (by first | (simp; done) | (simp; omega) | omega) _ | refine Below.alloc ?_ (by first | (simp; done) | (simp; omega) | omega) _ | refine Below.drew ?_ | assumption | refine Below.trans ?_ (Below.mono (by assumption) (by first | (simp; done) | (simp; omega) | omega))))).mono ?_); rintro e w7 ⟨rfl, hb7⟩; have hs7 := hb7.size; (try simp at hs7)))
        go_ret
        exact ⟨rfl, (by repeat (first | exact Below.refl _ _ | refine Below.setCell ?_ (by first | (simp; done) | (simp; omega) | omega) _ | refine Below.alloc ?_ (by first | (simp; done) | (simp; omega) | omega) _ | refine Below.drew ?_ | assumption | refine Below.trans ?_ (Below.mono (by assumption) (by first | (simp; done) | (simp; omega) | omega))))⟩
  · clear hC1
    have hnm' : ¬ (n : Int) ≤ m := by omega
    rw [decide_eq_false hnm, Bool.false_and] at RL
    cases b1 <;> cases b2 <;> simp at RL
    all_goals
      go_enter Tryd.func6, Tryd.ntmps6
      go_wp2_with (first
        | (go_at_call 7; refine (hF.out _ (by repeat (first | exact Below.refl _ _ | refine Below.setCell ?_ (by first | (simp; done) | (simp; omega) | omega) _ | refine Below.alloc ?_ (by first | (simp; done) | (simp; omega) | omega) _ | refine Below.drew ?_ | assumption | refine Below.trans ?_ (Below.mono (by assumption) (by first | (simp; done) | (simp; omega) | omega))))).mono ?_; rintro e w1 ⟨rfl, hb1⟩; obtain ⟨hc1, hf1⟩ := bcell hb1; have hs1 := hb1.size; (try simp at hs1))
        | (go_at_call 8; (with_reducible refine (FW1.out _ (by repeat (first | exact Below.refl _ _ | refine Below.setCell ?_ (by first | (simp; done) | (simp; omega) | omega) _ | refine Below.alloc ?_ (by first | (simp; done) | (simp; omega) | omega) _ | refine Below.drew ?_ | assumption | refine Below.trans ?_ (Below.mono (by assumption) (by first | (simp; done) | (simp; omega) | omega))))).mono ?_); rintro e w2 ⟨rfl, hb2⟩; have hs2 := hb2.size; (try simp at hs2))
        | (go_at_call 8; (with_reducible refine (FW2.out _ (by repeat (first | exact Below.refl _ _ | refine Below.setCell ?_ (by first | (simp; done) | (simp; omega) | omega) _ | refine Below.alloc ?_ (by first | (simp; done) | (simp; omega) | omega) _ | refine Below.drew ?_ | assumption | refine Below.trans ?_ (Below.mono (by assumption) (by first | (simp; done) | (simp; omega) | omega))))).mono ?_); rintro e w3 ⟨rfl, hb3⟩; have hs3 := hb3.size; (try simp at hs3))
        | (go_at_call 17; (with_reducible refine (hE1.out _ (by repeat (first | exact Below.refl _ _ | refine Below.setCell ?_ (by first | (simp; done) | (simp; omega) | omega) _ | refine Below.alloc ?_ (by first | (simp; done) | (simp; omega) | omega) _ | refine Below.drew ?_ | assumption | refine Below.trans ?_ (Below.mono (by assumption) (by first | (simp; done) | (simp; omega) | omega))))).mono ?_); rintro e w4 ⟨rfl, hb4⟩; have hs4 := hb4.size; (try simp at hs4))
        | (go_at_call 9; (with_reducible refine (hE2.out _ (by repeat (first | exact Below.refl _ _ | refine Below.setCell ?_ (by first | (simp; done) | (simp; omega) | omega) _ | refine Below.alloc ?_ (by first | (simp; done) | (simp; omega) | omega) _ | refine Below.drew ?_ | assumption | refine Below.trans ?_ (Below.mono (by assumption) (by first | (simp; done) | (simp; omega) | omega))))).mono ?_); rintro e w5 ⟨rfl, hb5⟩; have hs5 := hb5.size; (try simp at hs5))
        | (go_at_call 10; refine (CN.out _ _).mono ?_; rintro e w6 ⟨rfl, hb6⟩; obtain ⟨hc6, hf6⟩ := bcell hb6; have hs6 := hb6.size; (try simp at hs6)))
      go_ret
      exact ⟨rfl, (by repeat (first | exact Below.refl _ _ | refine Below.setCell ?_ (by first | (simp; done) | (simp; omega) | omega) _ | refine Below.alloc ?_ (by first | (simp; done) | (simp; omega) | omega) _ | refine Below.drew ?_ | assumption | refine Below.trans ?_ (Below.mono (by assumption) (by first | (simp; done) | (simp; omega) | omega))))⟩
theorem range_walk (A B : Option Addr) (n c m d : Nat) (l l' : List Part) (hl : l.length = n) (hm : l'.length = m) (hn : n ≤ 9223372036854775807) (hmn : m ≤ 9223372036854775807) (hd : m ≤ d) (hi : ∀ p ∈ l, In64 p.n) (hi' : ∀ p ∈ l', In64 p.n)
    (w : World) (T : Parts w A l) (U : Parts w B l') (ml : ML w) :
    Calls Tryd.prog 6 #[.slice A n c, .slice B m d] w fun e w' => e = .returned (.bool true) ∧ Below w.heap.size w w' := by
  cases f1 : fewB l with
  | false => exact range_few A B n c m d l l' hl hm hn hmn (.inl f1) w T U ml
  | true =>
    cases f2 : fewB l' with
    | false => exact range_few A B n c m d l l' hl hm hn hmn (.inr ⟨f1, f2⟩) w T U ml
    | true =>
      by_cases e1 : errE l = 0
      · by_cases e2 : errE l' = 0
        · exact range_main A B n c m d l l' hl hm hd hi hi' f1 f2 e1 e2 w T U ml
        · exact range_err A B n c m d l l' hl hm hi hi' f1 f2 (.inr ⟨e1, e2⟩) w T U ml
      · exact range_err A B n c m d l l' hl hm hi hi' f1 f2 (.inl e1) w T U ml
end Go.Proofs.YtjccadfaiahkkaaDoor
