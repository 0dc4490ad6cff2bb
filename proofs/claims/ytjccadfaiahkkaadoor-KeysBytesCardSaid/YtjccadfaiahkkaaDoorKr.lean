/-
  The walk of KeysOrder.
-/
import Derived.Test.YtjccadfaiahkkaaDoorKo
import Derived.WalkLawsBesides
namespace Go.Proofs.YtjccadfaiahkkaaDoor
set_option linter.all false
open Go.RowKit
attribute [local go_sem] cell_set_self lt_1 lt_2 lt_3 lt_4 lt_5 lt_6

theorem okP_all {l : List Part} (h : errE l = 0) (hi : ∀ p ∈ l, In64 p.n) : ∀ p ∈ l, okP p := fun p hp => ⟨(errE_0 h).2.1 p hp, hi p hp⟩
theorem dec_en {l : List Part} (h : errE l = 0) (hi : ∀ p ∈ l, In64 p.n) : dec (en l) = some (l.map nrm) := by
  obtain ⟨h1, h2, h3⟩ := errE_0 h
  unfold dec
  rw [if_neg (by omega), decL_en l 8 (okP_all h hi) h1]
theorem toArr_inj {x y : List UInt8} (h : x ≠ y) : (⟨x.toArray⟩ : ByteArray) ≠ ⟨y.toArray⟩ := fun e => h (by injection e with e; simpa using e)

set_option maxHeartbeats 1000000 in
set_option maxRecDepth 100000 in
theorem order_main (A B : Option Addr) (n c m d : Nat) (l l' : List Part) (hl : l.length = n) (hm : l'.length = m) (hn : n ≤ 10) (hmn : m ≤ 10) (hi : ∀ p ∈ l, In64 p.n) (hi' : ∀ p ∈ l', In64 p.n)
    (fl : fewB l = true) (fm : fewB l' = true) (e1 : errE l = 0) (e2 : errE l' = 0) (w : World) (T : Parts w A l) (U : Parts w B l') (ml : ML w) :
    Calls Tryd.prog 3 #[.slice A n c, .slice B m d] w fun e w' => e = .returned (.bool true) ∧ Below w.heap.size w w' := by
  have ok1 := okP_all e1 hi
  have ok2 := okP_all e2 hi'
  obtain ⟨v, hv⟩ : ∃ v, cmpL l l' = v := ⟨_, rfl⟩
  obtain ⟨u, hu⟩ : ∃ u, -v = u := ⟨_, rfl⟩
  have v0 : v = -1 ∨ v = 0 ∨ v = 1 := by rw [← hv, ← en_order ok1 ok2]; exact cb_vals _ _
  have v3 : (v = -1 ∧ u = 1) ∨ (v = 0 ∧ u = 0) ∨ (v = 1 ∧ u = -1) := by omega
  clear v0
  have ord : Lib.compareBytes (en l) (en l') = v := by rw [en_order ok1 ok2, hv]
  have hF := Lib.hid (fun W (hb : Below w.heap.size w W) => first_any W (ml.below hb))
  have FW1 : Hid (∀ W, Below w.heap.size w W → Calls Tryd.prog 8 #[.slice A n c] W fun e w' => e = .returned (.bool true) ∧ Below W.heap.size W w') := Lib.hid fun W hb => by have h := few_any A n c l hl (by omega) W (T.below hb); rwa [fl] at h
  have FW2 : Hid (∀ W, Below w.heap.size w W → Calls Tryd.prog 8 #[.slice B m d] W fun e w' => e = .returned (.bool true) ∧ Below W.heap.size W w') := Lib.hid fun W hb => by have h := few_any B m d l' hm (by omega) W (U.below hb); rwa [fm] at h
  have hE1 : Hid (∀ W, Below w.heap.size w W → Calls Tryd.prog 9 #[.slice A n c] W fun e w' => e = .returned (.tuple #[.string ⟨(en l).toArray⟩, .int .i64 0]) ∧ Below W.heap.size W w') := Lib.hid fun W hb => by
    have h := encode_any A n c l hl (by omega) (fun _ p hp => ⟨by have := (few_yes fl).2 p hp; omega, hi p hp⟩) W (T.below hb) (ml.below hb); rwa [bytesE_0 e1, e1] at h
  have hE2 : Hid (∀ W, Below w.heap.size w W → Calls Tryd.prog 9 #[.slice B m d] W fun e w' => e = .returned (.tuple #[.string ⟨(en l').toArray⟩, .int .i64 0]) ∧ Below W.heap.size W w') := Lib.hid fun W hb => by
    have h := encode_any B m d l' hm (by omega) (fun _ p hp => ⟨by have := (few_yes fm).2 p hp; omega, hi' p hp⟩) W (U.below hb) (ml.below hb); rwa [bytesE_0 e2, e2] at h
  have hD : Hid (∀ W, Calls Tryd.prog 12 #[.string ⟨(en l).toArray⟩] W fun e w' => (∃ A c, e = .returned (.tuple #[.slice A n c, .int .i64 0]) ∧ Parts w' A (l.map nrm)) ∧ Below W.heap.size W w') := Lib.hid fun W => by
    refine (decode_any (en l) (by have := (errE_0 e1).2.2; omega) W).mono ?_
    rintro e w' ⟨h1, h2⟩
    unfold DecPost at h1
    rw [dec_en e1 hi] at h1
    simp only [List.length_map, hl] at h1
    obtain ⟨X, k, h3, h4, _⟩ := h1
    exact ⟨⟨X, k, h3, h4⟩, h2⟩
  have hC1 : Hid (∀ W, Below w.heap.size w W → Calls Tryd.prog 11 #[.slice A n c, .slice B m d] W fun e w' => e = .returned (.int .i64 v) ∧ Below W.heap.size W w') := Lib.hid fun W hb => by
    have h := compare_any A B n c m d l l' hl hm (by omega) (by omega) W (T.below hb) (U.below hb); rwa [hv] at h
  have hC2 : Hid (∀ W, Below w.heap.size w W → Calls Tryd.prog 11 #[.slice B m d, .slice A n c] W fun e w' => e = .returned (.int .i64 u) ∧ Below W.heap.size W w') := Lib.hid fun W hb => by
    have h := compare_any B A m d n c l' l hm hl (by omega) (by omega) W (U.below hb) (T.below hb); rwa [cmpL_anti ok1 ok2, hv, hu] at h
  have hC3 : Hid (∀ W, Below w.heap.size w W → Calls Tryd.prog 11 #[.slice A n c, .slice A n c] W fun e w' => e = .returned (.int .i64 0) ∧ Below W.heap.size W w') := Lib.hid fun W hb => by
    have h := compare_any A A n c n c l l hl hl (by omega) (by omega) W (T.below hb) (T.below hb); rwa [cmpL_self] at h
  have hC4 : Hid (∀ X k W, Parts W X (l.map nrm) → Below w.heap.size w W → Calls Tryd.prog 11 #[.slice X n k, .slice A n c] W fun e w' => e = .returned (.int .i64 0) ∧ Below W.heap.size W w') := Lib.hid fun X k W hX hb => by
    have h := compare_any X A n k n c (l.map nrm) l (by simp [hl]) hl (by omega) (by omega) W hX (T.below hb); rwa [cmpL_nrm ok1] at h
  have CN := Lib.hid (fun n W => num_any n W)
  generalize en l = x at *
  generalize en l' = y at *
  have L1 : Go.Op.bytesLess x y = decide (v < 0) := by rw [less_cb, ord]
  have L2 : Go.Op.bytesLess y x = decide (0 < v) := by rw [less_cb, cb_anti, ord]; apply decide_eq_decide.2; omega
  have L0 : v = 0 → x = y := fun h => cb_zero (by rw [ord, h])
  clear hv hu ok1 ok2 fl fm e1 e2 T U ml hl hm hi hi' ord
  rcases v3 with ⟨rfl, rfl⟩ | ⟨rfl, rfl⟩ | ⟨rfl, rfl⟩
  · clear L2 L0
    replace L1 : Go.Op.bytesLess x y = true := L1
    go_enter Tryd.func3, Tryd.ntmps3
    go_wp2_with (first
      | (go_at_call 7; refine (hF.out _ (by repeat (first | exact Below.refl _ _ | refine Below.setCell ?_ (by first | (simp; done) | (simp; omega) | omega) _ | refine Below.alloc ?_ (by first | (simp; done) | (simp; omega) | omega) _ | refine Below.drew ?_ | assumption | refine Below.trans ?_ (Below.mono (by assumption) (by first | (simp; done) | (simp; omega) | omega))))).mono ?_; rintro e w1 ⟨rfl, hb1⟩; obtain ⟨hc1, hf1⟩ := bcell hb1; have hs1 := hb1.size; (try simp at hs1))
      | (go_at_call 8; (with_reducible refine (FW1.out _ (by repeat (first | exact Below.refl _ _ | refine Below.setCell ?_ (by first | (simp; done) | (simp; omega) | omega) _ | refine Below.alloc ?_ (by first | (simp; done) | (simp; omega) | omega) _ | refine Below.drew ?_ | assumption | refine Below.trans ?_ (Below.mono (by assumption) (by first | (simp; done) | (simp; omega) | omega))))).mono ?_); rintro e w2 ⟨rfl, hb2⟩; have hs2 := hb2.size; (try simp at hs2))
      | (go_at_call 8; (with_reducible refine (FW2.out _ (by repeat (first | exact Below.refl _ _ | refine Below.setCell ?_ (by first | (simp; done) | (simp; omega) | omega) _ | refine Below.alloc ?_ (by first | (simp; done) | (simp; omega) | omega) _ | refine Below.drew ?_ | assumption | refine Below.trans ?_ (Below.mono (by assumption) (by first | (simp; done) | (simp; omega) | omega))))).mono ?_); rintro e w3 ⟨rfl, hb3⟩; have hs3 := hb3.size; (try simp at hs3))
      | (go_at_call 9; (with_reducible refine (hE1.out _ (by repeat (first | exact Below.refl _ _ | refine Below.setCell ?_ (by first | (simp; done) | (simp; omega) | omega) _ | refine Below.alloc ?_ (by first | (simp; done) | (simp; omega) | omega) _ | refine Below.drew ?_ | assumption | refine Below.trans ?_ (Below.mono (by assumption) (by first | (simp; done) | (simp; omega) | omega))))).mono ?_); rintro e w4 ⟨rfl, hb4⟩; have hs4 := hb4.size; (try simp at hs4))
      | (go_at_call 9; (with_reducible refine (hE2.out _ (by repeat (first | exact Below.refl _ _ | refine Below.setCell ?_ (by first | (simp; done) | (simp; omega) | omega) _ | refine Below.alloc ?_ (by first | (simp; done) | (simp; omega) | omega) _ | refine Below.drew ?_ | assumption | refine Below.trans ?_ (Below.mono (by assumption) (by first | (simp; done) | (simp; omega) | omega))))).mono ?_); rintro e w5 ⟨rfl, hb5⟩; have hs5 := hb5.size; (try simp at hs5))
      | (go_at_call 10; refine (CN.out _ _).mono ?_; rintro e w6 ⟨rfl, hb6⟩; obtain ⟨hc6, hf6⟩ := bcell hb6; have hs6 := hb6.size; (try simp at hs6))
      | (go_at_call 12; (with_reducible refine (hD.out _).mono ?_); rintro e w8 ⟨⟨X, k, rfl, hX⟩, hb8⟩; have HX := Lib.hid hX; clear hX; have hs8 := hb8.size; (try simp at hs8))
      | (go_at_call 11; (with_reducible refine (hC4.out X k _ (HX.out.below (by repeat (first | exact Below.refl _ _ | refine Below.setCell ?_ (by first | (simp; done) | (simp; omega) | omega) _ | refine Below.alloc ?_ (by first | (simp; done) | (simp; omega) | omega) _ | refine Below.drew ?_ | assumption | refine Below.trans ?_ (Below.mono (by assumption) (by first | (simp; done) | (simp; omega) | omega))))) (by repeat (first | exact Below.refl _ _ | refine Below.setCell ?_ (by first | (simp; done) | (simp; omega) | omega) _ | refine Below.alloc ?_ (by first | (simp; done) | (simp; omega) | omega) _ | refine Below.drew ?_ | assumption | refine Below.trans ?_ (Below.mono (by assumption) (by first | (simp; done) | (simp; omega) | omega))))).mono ?_); rintro e w9 ⟨rfl, hb9⟩; have hs9 := hb9.size; (try simp at hs9))
      | (go_at_call 11; (with_reducible refine (hC1.out _ (by repeat (first | exact Below.refl _ _ | refine Below.setCell ?_ (by first | (simp; done) | (simp; omega) | omega) _ | refine Below.alloc ?_ (by first | (simp; done) | (simp; omega) | omega) _ | refine Below.drew ?_ | assumption | refine Below.trans ?_ (Below.mono (by assumption) (by first | (simp; done) | (simp; omega) | omega))))).mono ?_); rintro e w7 ⟨rfl, hb7⟩; have hs7 := hb7.size; (try simp at hs7))
      | (go_at_call 11; (with_reducible refine (hC2.out _ (by repeat (first | exact Below.refl _ _ | refine Below.setCell ?_ (by first | (simp; done) | (simp; omega) | omega) _ | refine Below.alloc ?_ (by first | (simp; done) | (simp; omega) | omega) _ | refine Below.drew ?_ | assumption | refine Below.trans ?_ (Below.mono (by assumption) (by first | (simp; done) | (simp; omega) | omega))))).mono ?_); rintro e w10 ⟨rfl, hb10⟩; have hs10 := hb10.size; (try simp at hs10))
      | (go_at_call 11; (with_reducible refine (hC3.out _ (by repeat (first | exact Below.refl _ _ | refine Below.setCell ?_ (by first | (simp; done) | (simp; omega) | omega) _ | refine Below.alloc ?_ (by first | (simp; done) | (simp; omega) | omega) _ | refine Below.drew ?_ | assumption | refine Below.trans ?_ (Below.mono (by assumption) (by first | (simp; done) | (simp; omega) | omega))))).mono ?_); rintro e w11 ⟨rfl, hb11⟩; have hs11 := hb11.size; (try simp at hs11)))
    go_ret
    exact ⟨rfl, (by repeat (first | exact Below.refl _ _ | refine Below.setCell ?_ (by first | (simp; done) | (simp; omega) | omega) _ | refine Below.alloc ?_ (by first | (simp; done) | (simp; omega) | omega) _ | refine Below.drew ?_ | assumption | refine Below.trans ?_ (Below.mono (by assumption) (by first | (simp; done) | (simp; omega) | omega))))⟩
  · obtain rfl := L0 rfl
    clear L1 L2 L0
    go_enter Tryd.func3, Tryd.ntmps3
    go_wp2_with (first
      | (go_at_call 7; refine (hF.out _ (by repeat (first | exact Below.refl _ _ | refine Below.setCell ?_ (by first | (simp; done) | (simp; omega) | omega) _ | refine Below.alloc ?_ (by first | (simp; done) | (simp; omega) | omega) _ | refine Below.drew ?_ | assumption | refine Below.trans ?_ (Below.mono (by assumption) (by first | (simp; done) | (simp; omega) | omega))))).mono ?_; rintro e w1 ⟨rfl, hb1⟩; obtain ⟨hc1, hf1⟩ := bcell hb1; have hs1 := hb1.size; (try simp at hs1))
      | (go_at_call 8; (with_reducible refine (FW1.out _ (by repeat (first | exact Below.refl _ _ | refine Below.setCell ?_ (by first | (simp; done) | (simp; omega) | omega) _ | refine Below.alloc ?_ (by first | (simp; done) | (simp; omega) | omega) _ | refine Below.drew ?_ | assumption | refine Below.trans ?_ (Below.mono (by assumption) (by first | (simp; done) | (simp; omega) | omega))))).mono ?_); rintro e w2 ⟨rfl, hb2⟩; have hs2 := hb2.size; (try simp at hs2))
      | (go_at_call 8; (with_reducible refine (FW2.out _ (by repeat (first | exact Below.refl _ _ | refine Below.setCell ?_ (by first | (simp; done) | (simp; omega) | omega) _ | refine Below.alloc ?_ (by first | (simp; done) | (simp; omega) | omega) _ | refine Below.drew ?_ | assumption | refine Below.trans ?_ (Below.mono (by assumption) (by first | (simp; done) | (simp; omega) | omega))))).mono ?_); rintro e w3 ⟨rfl, hb3⟩; have hs3 := hb3.size; (try simp at hs3))
      | (go_at_call 9; (with_reducible refine (hE1.out _ (by repeat (first | exact Below.refl _ _ | refine Below.setCell ?_ (by first | (simp; done) | (simp; omega) | omega) _ | refine Below.alloc ?_ (by first | (simp; done) | (simp; omega) | omega) _ | refine Below.drew ?_ | assumption | refine Below.trans ?_ (Below.mono (by assumption) (by first | (simp; done) | (simp; omega) | omega))))).mono ?_); rintro e w4 ⟨rfl, hb4⟩; have hs4 := hb4.size; (try simp at hs4))
      | (go_at_call 9; (with_reducible refine (hE2.out _ (by repeat (first | exact Below.refl _ _ | refine Below.setCell ?_ (by first | (simp; done) | (simp; omega) | omega) _ | refine Below.alloc ?_ (by first | (simp; done) | (simp; omega) | omega) _ | refine Below.drew ?_ | assumption | refine Below.trans ?_ (Below.mono (by assumption) (by first | (simp; done) | (simp; omega) | omega))))).mono ?_); rintro e w5 ⟨rfl, hb5⟩; have hs5 := hb5.size; (try simp at hs5))
      | (go_at_call 10; refine (CN.out _ _).mono ?_; rintro e w6 ⟨rfl, hb6⟩; obtain ⟨hc6, hf6⟩ := bcell hb6; have hs6 := hb6.size; (try simp at hs6))
      | (go_at_call 12; (with_reducible refine (hD.out _).mono ?_); rintro e w8 ⟨⟨X, k, rfl, hX⟩, hb8⟩; have HX := Lib.hid hX; clear hX; have hs8 := hb8.size; (try simp at hs8))
      | (go_at_call 11; (with_reducible refine (hC4.out X k _ (HX.out.below (by repeat (first | exact Below.refl _ _ | refine Below.setCell ?_ (by first | (simp; done) | (simp; omega) | omega) _ | refine Below.alloc ?_ (by first | (simp; done) | (simp; omega) | omega) _ | refine Below.drew ?_ | assumption | refine Below.trans ?_ (Below.mono (by assumption) (by first | (simp; done) | (simp; omega) | omega))))) (by repeat (first | exact Below.refl _ _ | refine Below.setCell ?_ (by first | (simp; done) | (simp; omega) | omega) _ | refine Below.alloc ?_ (by first | (simp; done) | (simp; omega) | omega) _ | refine Below.drew ?_ | assumption | refine Below.trans ?_ (Below.mono (by assumption) (by first | (simp; done) | (simp; omega) | omega))))).mono ?_); rintro e w9 ⟨rfl, hb9⟩; have hs9 := hb9.size; (try simp at hs9))
      | (go_at_call 11; (with_reducible refine (hC1.out _ (by repeat (first | exact Below.refl _ _ | refine Below.setCell ?_ (by first | (simp; done) | (simp; omega) | omega) _ | refine Below.alloc ?_ (by first | (simp; done) | (simp; omega) | omega) _ | refine Below.drew ?_ | assumption | refine Below.trans ?_ (Below.mono (by assumption) (by first | (simp; done) | (simp; omega) | omega))))).mono ?_); rintro e w7 ⟨rfl, hb7⟩; have hs7 := hb7.size; (try simp at hs7))
      | (go_at_call 11; (with_reducible refine (hC2.out _ (by repeat (first | exact Below.refl _ _ | refine Below.setCell ?_ (by first | (simp; done) | (simp; omega) | omega) _ | refine Below.alloc ?_ (by first | (simp; done) | (simp; omega) | omega) _ | refine Below.drew ?_ | assumption | refine Below.trans ?_ (Below.mono (by assumption) (by first | (simp; done) | (simp; omega) | omega))))).mono ?_); rintro e w10 ⟨rfl, hb10⟩; have hs10 := hb10.size; (try simp at hs10))
      | (go_at_call 11; (with_reducible refine (hC3.out _ (by repeat (first | exact Below.refl _ _ | refine Below.setCell ?_ (by first | (simp; done) | (simp; omega) | omega) _ | refine Below.alloc ?_ (by first | (simp; done) | (simp; omega) | omega) _ | refine Below.drew ?_ | assumption | refine Below.trans ?_ (Below.mono (by assumption) (by first | (simp; done) | (simp; omega) | omega))))).mono ?_); rintro e w11 ⟨rfl, hb11⟩; have hs11 := hb11.size; (try simp at hs11)))
    go_ret
    exact ⟨rfl, (by repeat (first | exact Below.refl _ _ | refine Below.setCell ?_ (by first | (simp; done) | (simp; omega) | omega) _ | refine Below.alloc ?_ (by first | (simp; done) | (simp; omega) | omega) _ | refine Below.drew ?_ | assumption | refine Below.trans ?_ (Below.mono (by assumption) (by first | (simp; done) | (simp; omega) | omega))))⟩
  · replace L1 : Go.Op.bytesLess x y = false := L1
    replace L2 : Go.Op.bytesLess y x = true := L2
    have hne : (x == y) = false := beq_eq_false_iff_ne.2 (fun e => by subst e; rw [L1] at L2; cases L2)
    clear L0
    go_enter Tryd.func3, Tryd.ntmps3
    go_wp2_with (first
      | (go_at_call 7; refine (hF.out _ (by repeat (first | exact Below.refl _ _ | refine Below.setCell ?_ (by first | (simp; done) | (simp; omega) | omega) _ | refine Below.alloc ?_ (by first | (simp; done) | (simp; omega) | omega) _ | refine Below.drew ?_ | assumption | refine Below.trans ?_ (Below.mono (by assumption) (by first | (simp; done) | (simp; omega) | omega))))).mono ?_; rintro e w1 ⟨rfl, hb1⟩; obtain ⟨hc1, hf1⟩ := bcell hb1; have hs1 := hb1.size; (try simp at hs1))
      | (go_at_call 8; (with_reducible refine (FW1.out _ (by repeat (first | exact Below.refl _ _ | refine Below.setCell ?_ (by first | (simp; done) | (simp; omega) | omega) _ | refine Below.alloc ?_ (by first | (simp; done) | (simp; omega) | omega) _ | refine Below.drew ?_ | assumption | refine Below.trans ?_ (Below.mono (by assumption) (by first | (simp; done) | (simp; omega) | omega))))).mono ?_); rintro e w2 ⟨rfl, hb2⟩; have hs2 := hb2.size; (try simp at hs2))
      | (go_at_call 8; (with_reducible refine (FW2.out _ (by repeat (first | exact Below.refl _ _ | refine Below.setCell ?_ (by first | (simp; done) | (simp; omega) | omega) _ | refine Below.alloc ?_ (by first | (simp; done) | (simp; omega) | omega) _ | refine Below.drew ?_ | assumption | refine Below.trans ?_ (Below.mono (by assumption) (by first | (simp; done) | (simp; omega) | omega))))).mono ?_); rintro e w3 ⟨rfl, hb3⟩; have hs3 := hb3.size; (try simp at hs3))
      | (go_at_call 9; (with_reducible refine (hE1.out _ (by repeat (first | exact Below.refl _ _ | refine Below.setCell ?_ (by first | (simp; done) | (simp; omega) | omega) _ | refine Below.alloc ?_ (by first | (simp; done) | (simp; omega) | omega) _ | refine Below.drew ?_ | assumption | refine Below.trans ?_ (Below.mono (by assumption) (by first | (simp; done) | (simp; omega) | omega))))).mono ?_); rintro e w4 ⟨rfl, hb4⟩; have hs4 := hb4.size; (try simp at hs4))
      | (go_at_call 9; (with_reducible refine (hE2.out _ (by repeat (first | exact Below.refl _ _ | refine Below.setCell ?_ (by first | (simp; done) | (simp; omega) | omega) _ | refine Below.alloc ?_ (by first | (simp; done) | (simp; omega) | omega) _ | refine Below.drew ?_ | assumption | refine Below.trans ?_ (Below.mono (by assumption) (by first | (simp; done) | (simp; omega) | omega))))).mono ?_); rintro e w5 ⟨rfl, hb5⟩; have hs5 := hb5.size; (try simp at hs5))
      | (go_at_call 10; refine (CN.out _ _).mono ?_; rintro e w6 ⟨rfl, hb6⟩; obtain ⟨hc6, hf6⟩ := bcell hb6; have hs6 := hb6.size; (try simp at hs6))
      | (go_at_call 12; (with_reducible refine (hD.out _).mono ?_); rintro e w8 ⟨⟨X, k, rfl, hX⟩, hb8⟩; have HX := Lib.hid hX; clear hX; have hs8 := hb8.size; (try simp at hs8))
      | (go_at_call 11; (with_reducible refine (hC4.out X k _ (HX.out.below (by repeat (first | exact Below.refl _ _ | refine Below.setCell ?_ (by first | (simp; done) | (simp; omega) | omega) _ | refine Below.alloc ?_ (by first | (simp; done) | (simp; omega) | omega) _ | refine Below.drew ?_ | assumption | refine Below.trans ?_ (Below.mono (by assumption) (by first | (simp; done) | (simp; omega) | omega))))) (by repeat (first | exact Below.refl _ _ | refine Below.setCell ?_ (by first | (simp; done) | (simp; omega) | omega) _ | refine Below.alloc ?_ (by first | (simp; done) | (simp; omega) | omega) _ | refine Below.drew ?_ | assumption | refine Below.trans ?_ (Below.mono (by assumption) (by first | (simp; done) | (simp; omega) | omega))))).mono ?_); rintro e w9 ⟨rfl, hb9⟩; have hs9 := hb9.size; (try simp at hs9))
      | (go_at_call 11; (with_reducible refine (hC1.out _ (by repeat (first | exact Below.refl _ _ | refine Below.setCell ?_ (by first | (simp; done) | (simp; omega) | omega) _ | refine Below.alloc ?_ (by first | (simp; done) | (simp; omega) | omega) _ | refine Below.drew ?_ | assumption | refine Below.trans ?_ (Below.mono (by assumption) (by first | (simp; done) | (simp; omega) | omega))))).mono ?_); rintro e w7 ⟨rfl, hb7⟩; have hs7 := hb7.size; (try simp at hs7))
      | (go_at_call 11; (with_reducible refine (hC2.out _ (by repeat (first | exact Below.refl _ _ | refine Below.setCell ?_ (by first | (simp; done) | (simp; omega) | omega) _ | refine Below.alloc ?_ (by first | (simp; done) | (simp; omega) | omega) _ | refine Below.drew ?_ | assumption | refine Below.trans ?_ (Below.mono (by assumption) (by first | (simp; done) | (simp; omega) | omega))))).mono ?_); rintro e w10 ⟨rfl, hb10⟩; have hs10 := hb10.size; (try simp at hs10))
      | (go_at_call 11; (with_reducible refine (hC3.out _ (by repeat (first | exact Below.refl _ _ | refine Below.setCell ?_ (by first | (simp; done) | (simp; omega) | omega) _ | refine Below.alloc ?_ (by first | (simp; done) | (simp; omega) | omega) _ | refine Below.drew ?_ | assumption | refine Below.trans ?_ (Below.mono (by assumption) (by first | (simp; done) | (simp; omega) | omega))))).mono ?_); rintro e w11 ⟨rfl, hb11⟩; have hs11 := hb11.size; (try simp at hs11)))
    go_ret
    exact ⟨rfl, (by repeat (first | exact Below.refl _ _ | refine Below.setCell ?_ (by first | (simp; done) | (simp; omega) | omega) _ | refine Below.alloc ?_ (by first | (simp; done) | (simp; omega) | omega) _ | refine Below.drew ?_ | assumption | refine Below.trans ?_ (Below.mono (by assumption) (by first | (simp; done) | (simp; omega) | omega))))⟩

set_option maxHeartbeats 1000000 in
set_option maxRecDepth 100000 in
theorem order_few (A B : Option Addr) (n c m d : Nat) (l l' : List Part) (hl : l.length = n) (hm : l'.length = m) (hn : n ≤ 9223372036854775807) (hmn : m ≤ 9223372036854775807)
    (f : fewB l = false ∨ (fewB l = true ∧ fewB l' = false)) (w : World) (T : Parts w A l) (U : Parts w B l') (ml : ML w) :
    Calls Tryd.prog 3 #[.slice A n c, .slice B m d] w fun e w' => e = .returned (.bool true) ∧ Below w.heap.size w w' := by
  have hF := Lib.hid (fun W (hb : Below w.heap.size w W) => first_any W (ml.below hb))
  have FW1 : Hid (∀ W, Below w.heap.size w W → Calls Tryd.prog 8 #[.slice A n c] W fun e w' => e = .returned (.bool (fewB l)) ∧ Below W.heap.size W w') := Lib.hid fun W hb => few_any A n c l hl hn W (T.below hb)
  have FW2 : Hid (∀ W, Below w.heap.size w W → Calls Tryd.prog 8 #[.slice B m d] W fun e w' => e = .returned (.bool (fewB l')) ∧ Below W.heap.size W w') := Lib.hid fun W hb => few_any B m d l' hm hmn W (U.below hb)
  rcases f with f1 | ⟨f1, f2⟩
  · rw [f1] at FW1
    clear f1 hl hm T U ml
    go_enter Tryd.func3, Tryd.ntmps3
    go_wp2_with (first
      | (go_at_call 7; refine (hF.out _ (by repeat (first | exact Below.refl _ _ | refine Below.setCell ?_ (by first | (simp; done) | (simp; omega) | omega) _ | refine Below.alloc ?_ (by first | (simp; done) | (simp; omega) | omega) _ | refine Below.drew ?_ | assumption | refine Below.trans ?_ (Below.mono (by assumption) (by first | (simp; done) | (simp; omega) | omega))))).mono ?_; rintro e w1 ⟨rfl, hb1⟩; obtain ⟨hc1, hf1⟩ := bcell hb1; have hs1 := hb1.size; (try simp at hs1))
      | (go_at_call 8; (with_reducible refine (FW1.out _ (by repeat (first | exact Below.refl _ _ | refine Below.setCell ?_ (by first | (simp; done) | (simp; omega) | omega) _ | refine Below.alloc ?_ (by first | (simp; done) | (simp; omega) | omega) _ | refine Below.drew ?_ | assumption | refine Below.trans ?_ (Below.mono (by assumption) (by first | (simp; done) | (simp; omega) | omega))))).mono ?_); rintro e w2 ⟨rfl, hb2⟩; have hs2 := hb2.size; (try simp at hs2)))
    go_ret
    exact ⟨rfl, (by repeat (first | exact Below.refl _ _ | refine Below.setCell ?_ (by first | (simp; done) | (simp; omega) | omega) _ | refine Below.alloc ?_ (by first | (simp; done) | (simp; omega) | omega) _ | refine Below.drew ?_ | assumption | refine Below.trans ?_ (Below.mono (by assumption) (by first | (simp; done) | (simp; omega) | omega))))⟩
  · rw [f1] at FW1
    rw [f2] at FW2
    clear f1 f2 hl hm T U ml
    go_enter Tryd.func3, Tryd.ntmps3
    go_wp2_with (first
      | (go_at_call 7; refine (hF.out _ (by repeat (first | exact Below.refl _ _ | refine Below.setCell ?_ (by first | (simp; done) | (simp; omega) | omega) _ | refine Below.alloc ?_ (by first | (simp; done) | (simp; omega) | omega) _ | refine Below.drew ?_ | assumption | refine Below.trans ?_ (Below.mono (by assumption) (by first | (simp; done) | (simp; omega) | omega))))).mono ?_; rintro e w1 ⟨rfl, hb1⟩; obtain ⟨hc1, hf1⟩ := bcell hb1; have hs1 := hb1.size; (try simp at hs1))
      | (go_at_call 8; (with_reducible refine (FW1.out _ (by repeat (first | exact Below.refl _ _ | refine Below.setCell ?_ (by first | (simp; done) | (simp; omega) | omega) _ | refine Below.alloc ?_ (by first | (simp; done) | (simp; omega) | omega) _ | refine Below.drew ?_ | assumption | refine Below.trans ?_ (Below.mono (by assumption) (by first | (simp; done) | (simp; omega) | omega))))).mono ?_); rintro e w2 ⟨rfl, hb2⟩; have hs2 := hb2.size; (try simp at hs2))
      | (go_at_call 8; (with_reducible refine (FW2.out _ (by repeat (first | exact Below.refl _ _ | refine Below.setCell ?_ (by first | (simp; done) | (simp; omega) | omega) _ | refine Below.alloc ?_ (by first | (simp; done) | (simp; omega) | omega) _ | refine Below.drew ?_ | assumption | refine Below.trans ?_ (Below.mono (by assumption) (by first | (simp; done) | (simp; omega) | omega))))).mono ?_); rintro e w3 ⟨rfl, hb3⟩; have hs3 := hb3.size; (try simp at hs3)))
    go_ret
    exact ⟨rfl, (by repeat (first | exact Below.refl _ _ | refine Below.setCell ?_ (by first | (simp; done) | (simp; omega) | omega) _ | refine Below.alloc ?_ (by first | (simp; done) | (simp; omega) | omega) _ | refine Below.drew ?_ | assumption | refine Below.trans ?_ (Below.mono (by assumption) (by first | (simp; done) | (simp; omega) | omega))))⟩
set_option maxHeartbeats 1000000 in
set_option maxRecDepth 100000 in
theorem order_err (A B : Option Addr) (n c m d : Nat) (l l' : List Part) (hl : l.length = n) (hm : l'.length = m) (hi : ∀ p ∈ l, In64 p.n) (hi' : ∀ p ∈ l', In64 p.n)
    (fl : fewB l = true) (fm : fewB l' = true) (ee : errE l ≠ 0 ∨ (errE l = 0 ∧ errE l' ≠ 0)) (w : World) (T : Parts w A l) (U : Parts w B l') (ml : ML w) :
    Calls Tryd.prog 3 #[.slice A n c, .slice B m d] w fun e w' => e = .returned (.bool true) ∧ Below w.heap.size w w' := by
  have hn : n ≤ 10 := by have := (few_yes fl).1; omega
  have hmn : m ≤ 10 := by have := (few_yes fm).1; omega
  have hF := Lib.hid (fun W (hb : Below w.heap.size w W) => first_any W (ml.below hb))
  have FW1 : Hid (∀ W, Below w.heap.size w W → Calls Tryd.prog 8 #[.slice A n c] W fun e w' => e = .returned (.bool true) ∧ Below W.heap.size W w') := Lib.hid fun W hb => by have h := few_any A n c l hl (by omega) W (T.below hb); rwa [fl] at h
  have FW2 : Hid (∀ W, Below w.heap.size w W → Calls Tryd.prog 8 #[.slice B m d] W fun e w' => e = .returned (.bool true) ∧ Below W.heap.size W w') := Lib.hid fun W hb => by have h := few_any B m d l' hm (by omega) W (U.below hb); rwa [fm] at h
  have hE1 : Hid (∀ W, Below w.heap.size w W → Calls Tryd.prog 9 #[.slice A n c] W fun e w' => e = .returned (.tuple #[.string ⟨(bytesE l).toArray⟩, .int .i64 (errE l)]) ∧ Below W.heap.size W w') := Lib.hid fun W hb =>
    encode_any A n c l hl (by omega) (fun _ p hp => ⟨by have := (few_yes fl).2 p hp; omega, hi p hp⟩) W (T.below hb) (ml.below hb)
  have hE2 : Hid (∀ W, Below w.heap.size w W → Calls Tryd.prog 9 #[.slice B m d] W fun e w' => e = .returned (.tuple #[.string ⟨(bytesE l').toArray⟩, .int .i64 (errE l')]) ∧ Below W.heap.size W w') := Lib.hid fun W hb =>
    encode_any B m d l' hm (by omega) (fun _ p hp => ⟨by have := (few_yes fm).2 p hp; omega, hi' p hp⟩) W (U.below hb) (ml.below hb)
  have CN := Lib.hid (fun n W => num_any n W)
  clear fl fm T U ml hl hm hi hi'
  rcases ee with e1 | ⟨e1, e2⟩
  · generalize bytesE l = x at *
    generalize bytesE l' = y at *
    generalize errE l = ex at *
    generalize errE l' = ey at *
    have e1' : (ex != 0) = true := by simpa using e1
    go_enter Tryd.func3, Tryd.ntmps3
    go_wp2_with (first
      | (go_at_call 7; refine (hF.out _ (by repeat (first | exact Below.refl _ _ | refine Below.setCell ?_ (by first | (simp; done) | (simp; omega) | omega) _ | refine Below.alloc ?_ (by first | (simp; done) | (simp; omega) | omega) _ | refine Below.drew ?_ | assumption | refine Below.trans ?_ (Below.mono (by assumption) (by first | (simp; done) | (simp; omega) | omega))))).mono ?_; rintro e w1 ⟨rfl, hb1⟩; obtain ⟨hc1, hf1⟩ := bcell hb1; have hs1 := hb1.size; (try simp at hs1))
      | (go_at_call 8; (with_reducible refine (FW1.out _ (by repeat (first | exact Below.refl _ _ | refine Below.setCell ?_ (by first | (simp; done) | (simp; omega) | omega) _ | refine Below.alloc ?_ (by first | (simp; done) | (simp; omega) | omega) _ | refine Below.drew ?_ | assumption | refine Below.trans ?_ (Below.mono (by assumption) (by first | (simp; done) | (simp; omega) | omega))))).mono ?_); rintro e w2 ⟨rfl, hb2⟩; have hs2 := hb2.size; (try simp at hs2))
      | (go_at_call 8; (with_reducible refine (FW2.out _ (by repeat (first | exact Below.refl _ _ | refine Below.setCell ?_ (by first | (simp; done) | (simp; omega) | omega) _ | refine Below.alloc ?_ (by first | (simp; done) | (simp; omega) | omega) _ | refine Below.drew ?_ | assumption | refine Below.trans ?_ (Below.mono (by assumption) (by first | (simp; done) | (simp; omega) | omega))))).mono ?_); rintro e w3 ⟨rfl, hb3⟩; have hs3 := hb3.size; (try simp at hs3))
      | (go_at_call 9; (with_reducible refine (hE1.out _ (by repeat (first | exact Below.refl _ _ | refine Below.setCell ?_ (by first | (simp; done) | (simp; omega) | omega) _ | refine Below.alloc ?_ (by first | (simp; done) | (simp; omega) | omega) _ | refine Below.drew ?_ | assumption | refine Below.trans ?_ (Below.mono (by assumption) (by first | (simp; done) | (simp; omega) | omega))))).mono ?_); rintro e w4 ⟨rfl, hb4⟩; have hs4 := hb4.size; (try simp at hs4))
      | (go_at_call 9; (with_reducible refine (hE2.out _ (by repeat (first | exact Below.refl _ _ | refine Below.setCell ?_ (by first | (simp; done) | (simp; omega) | omega) _ | refine Below.alloc ?_ (by first | (simp; done) | (simp; omega) | omega) _ | refine Below.drew ?_ | assumption | refine Below.trans ?_ (Below.mono (by assumption) (by first | (simp; done) | (simp; omega) | omega))))).mono ?_); rintro e w5 ⟨rfl, hb5⟩; have hs5 := hb5.size; (try simp at hs5))
      | (go_at_call 10; refine (CN.out _ _).mono ?_; rintro e w6 ⟨rfl, hb6⟩; obtain ⟨hc6, hf6⟩ := bcell hb6; have hs6 := hb6.size; (try simp at hs6)))
    go_ret
    exact ⟨rfl, (by repeat (first | exact Below.refl _ _ | refine Below.setCell ?_ (by first | (simp; done) | (simp; omega) | omega) _ | refine Below.alloc ?_ (by first | (simp; done) | (simp; omega) | omega) _ | refine Below.drew ?_ | assumption | refine Below.trans ?_ (Below.mono (by assumption) (by first | (simp; done) | (simp; omega) | omega))))⟩
  · rw [e1] at hE1
    clear e1
    generalize bytesE l = x at *
    generalize bytesE l' = y at *
    generalize errE l' = ey at *
    have e2' : (ey != 0) = true := by simpa using e2
    go_enter Tryd.func3, Tryd.ntmps3
    go_wp2_with (first
      | (go_at_call 7; refine (hF.out _ (by repeat (first | exact Below.refl _ _ | refine Below.setCell ?_ (by first | (simp; done) | (simp; omega) | omega) _ | refine Below.alloc ?_ (by first | (simp; done) | (simp; omega) | omega) _ | refine Below.drew ?_ | assumption | refine Below.trans ?_ (Below.mono (by assumption) (by first | (simp; done) | (simp; omega) | omega))))).mono ?_; rintro e w1 ⟨rfl, hb1⟩; obtain ⟨hc1, hf1⟩ := bcell hb1; have hs1 := hb1.size; (try simp at hs1))
      | (go_at_call 8; (with_reducible refine (FW1.out _ (by repeat (first | exact Below.refl _ _ | refine Below.setCell ?_ (by first | (simp; done) | (simp; omega) | omega) _ | refine Below.alloc ?_ (by first | (simp; done) | (simp; omega) | omega) _ | refine Below.drew ?_ | assumption | refine Below.trans ?_ (Below.mono (by assumption) (by first | (simp; done) | (simp; omega) | omega))))).mono ?_); rintro e w2 ⟨rfl, hb2⟩; have hs2 := hb2.size; (try simp at hs2))
      | (go_at_call 8; (with_reducible refine (FW2.out _ (by repeat (first | exact Below.refl _ _ | refine Below.setCell ?_ (by first | (simp; done) | (simp; omega) | omega) _ | refine Below.alloc ?_ (by first | (simp; done) | (simp; omega) | omega) _ | refine Below.drew ?_ | assumption | refine Below.trans ?_ (Below.mono (by assumption) (by first | (simp; done) | (simp; omega) | omega))))).mono ?_); rintro e w3 ⟨rfl, hb3⟩; have hs3 := hb3.size; (try simp at hs3))
      | (go_at_call 9; (with_reducible refine (hE1.out _ (by repeat (first | exact Below.refl _ _ | refine Below.setCell ?_ (by first | (simp; done) | (simp; omega) | omega) _ | refine Below.alloc ?_ (by first | (simp; done) | (simp; omega) | omega) _ | refine Below.drew ?_ | assumption | refine Below.trans ?_ (Below.mono (by assumption) (by first | (simp; done) | (simp; omega) | omega))))).mono ?_); rintro e w4 ⟨rfl, hb4⟩; have hs4 := hb4.size; (try simp at hs4))
      | (go_at_call 9; (with_reducible refine (hE2.out _ (by repeat (first | exact Below.refl _ _ | refine Below.setCell ?_ (by first | (simp; done) | (simp; omega) | omega) _ | refine Below.alloc ?_ (by first | (simp; done) | (simp; omega) | omega) _ | refine Below.drew ?_ | assumption | refine Below.trans ?_ (Below.mono (by assumption) (by first | (simp; done) | (simp; omega) | omega))))).mono ?_); rintro e w5 ⟨rfl, hb5⟩; have hs5 := hb5.size; (try simp at hs5))
      | (go_at_call 10; refine (CN.out _ _).mono ?_; rintro e w6 ⟨rfl, hb6⟩; obtain ⟨hc6, hf6⟩ := bcell hb6; have hs6 := hb6.size; (try simp at hs6)))
    go_ret
    exact ⟨rfl, (by repeat (first | exact Below.refl _ _ | refine Below.setCell ?_ (by first | (simp; done) | (simp; omega) | omega) _ | refine Below.alloc ?_ (by first | (simp; done) | (simp; omega) | omega) _ | refine Below.drew ?_ | assumption | refine Below.trans ?_ (Below.mono (by assumption) (by first | (simp; done) | (simp; omega) | omega))))⟩
theorem order_walk (A B : Option Addr) (n c m d : Nat) (l l' : List Part) (hl : l.length = n) (hm : l'.length = m) (hn : n ≤ 9223372036854775807) (hmn : m ≤ 9223372036854775807) (hi : ∀ p ∈ l, In64 p.n) (hi' : ∀ p ∈ l', In64 p.n)
    (w : World) (T : Parts w A l) (U : Parts w B l') (ml : ML w) :
    Calls Tryd.prog 3 #[.slice A n c, .slice B m d] w fun e w' => e = .returned (.bool true) ∧ Below w.heap.size w w' := by
  cases f1 : fewB l with
  | false => exact order_few A B n c m d l l' hl hm hn hmn (.inl f1) w T U ml
  | true =>
    cases f2 : fewB l' with
    | false => exact order_few A B n c m d l l' hl hm hn hmn (.inr ⟨f1, f2⟩) w T U ml
    | true =>
      by_cases e1 : errE l = 0
      · by_cases e2 : errE l' = 0
        · exact order_main A B n c m d l l' hl hm (by have := (few_yes f1).1; omega) (by have := (few_yes f2).1; omega) hi hi' f1 f2 e1 e2 w T U ml
        · exact order_err A B n c m d l l' hl hm hi hi' f1 f2 (.inr ⟨e1, e2⟩) w T U ml
      · exact order_err A B n c m d l l' hl hm hi hi' f1 f2 (.inl e1) w T U ml
end Go.Proofs.YtjccadfaiahkkaaDoor
