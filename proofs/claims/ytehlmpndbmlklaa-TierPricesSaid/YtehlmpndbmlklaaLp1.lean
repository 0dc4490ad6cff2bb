/-
  The walk of the statement TierPrices: it returns true, whatever it is given.
-/
import Derived.Test.YtehlmpndbmlklaaLa3
import Derived.Test.YtehlmpndbmlklaaBw16
import Derived.Test.YtehlmpndbmlklaaBw17
namespace Go.Proofs.Ytehlmpndbmlklaa
set_option linter.all false
open Go.RowKit Go.Sort
attribute [local go_sem] cell_set_self lt_1 lt_2 lt_3 lt_4 lt_5 lt_6

set_option maxHeartbeats 8000000 in
set_option maxRecDepth 100000 in
theorem prices_walk (A : Option Addr) (n c : Nat) (l : List (Int × Int)) (q pr un pa wh : Int) (hl : l.length = n) (hn : n ≤ 9223372036854775807) (hq : In64 q) (hpr : In64 pr) (hun : In64 un) (hpa : In64 pa) (hwh : In64 wh) (w : World) (T : Tiers w A l) :
    Calls Try.prog 6 #[.slice A n c, .int .i64 q, .int .i64 pr, .int .i64 un, .int .i64 pa, .int .i64 wh] w fun e w' => e = .returned (.bool true) ∧ Below w.heap.size w w' := by
  by_cases big : 60 < n
  · have d1 : (60 : Int) < (n : Int) := by omega
    clear T hl
    go_enter Try.func6, Try.ntmps6
    go_wp2_with (first | (go_at_call 8; refine (first_any _).mono ?_; rintro e w1 ⟨rfl, hb1⟩; obtain ⟨hc1, hf1⟩ := bcell hb1; have hs1 := hb1.size; (try simp at hs1)))
    go_ret
    exact ⟨rfl, (by repeat (first | exact Below.refl _ _ | refine Below.setCell ?_ (by first | (simp; done) | (simp; omega) | omega) _ | refine Below.alloc ?_ (by first | (simp; done) | (simp; omega) | omega) _ | refine Below.drew ?_ | assumption | refine Below.trans ?_ (Below.mono (by assumption) (by first | (simp; done) | (simp; omega) | omega))))⟩
  · have d1 : ¬ (60 : Int) < (n : Int) := by omega
    have C0 : Hid (∀ W, Below w.heap.size w W → Calls Try.prog 16 #[.slice A n c] W fun e w' => (∃ B d, e = .returned (.slice B n d) ∧ Tiers w' B l) ∧ Below W.heap.size W w') := Lib.hid fun W hb => tiers14_any A n c l hl (by omega) W (T.below hb)
    have CK : Hid (∀ A' c' W, Tiers W A' l → Calls Try.prog 10 #[.slice A' n c'] W fun e w' => e = .returned (.int .i64 (checkT l)) ∧ Below W.heap.size W w') := Lib.hid fun A' c' W X => check_any A' n c' l hl (by omega) W X
    have CK4 : Hid (∀ A' c' W, Tiers W A' l → Calls Try.prog 23 #[.slice A' n c'] W fun e w' => e = .returned (.int .i64 (checkT l)) ∧ Below W.heap.size W w') := Lib.hid fun A' c' W X => check14_any A' n c' l hl (by omega) W X
    have C1 : Hid (∀ A' c' W, Tiers W A' l → Calls Try.prog 11 #[.slice A' n c', .int .i64 q] W fun e w' => e = .returned (.tuple #[.int .i64 (priceN l q (byT l 0 q)), .int .i64 (priceE l q (byT l 0 q))]) ∧ Below W.heap.size W w') := Lib.hid fun A' c' W X => tiered_any A' n c' l q hl (by omega) hq W X
    have C14 : Hid (∀ A' c' W, Tiers W A' l → Calls Try.prog 17 #[.slice A' n c', .int .i64 q] W fun e w' => e = .returned (.tuple #[.int .i64 (priceN l q (byT l 0 q)), .int .i64 (priceE l q (byT l 0 q))]) ∧ Below W.heap.size W w') := Lib.hid fun A' c' W X => tiered14_any A' n c' l q hl (by omega) hq W X
    have C2 : Hid (∀ A' c' W, Tiers W A' l → Calls Try.prog 12 #[.slice A' n c', .int .i64 q] W fun e w' => e = .returned (.tuple #[.int .i64 (priceN l q (byV l q)), .int .i64 (priceE l q (byV l q))]) ∧ Below W.heap.size W w') := Lib.hid fun A' c' W X => volume_any A' n c' l q hl (by omega) hq W X
    have C24 : Hid (∀ A' c' W, Tiers W A' l → Calls Try.prog 18 #[.slice A' n c', .int .i64 q] W fun e w' => e = .returned (.tuple #[.int .i64 (priceN l q (byV l q)), .int .i64 (priceE l q (byV l q))]) ∧ Below W.heap.size W w') := Lib.hid fun A' c' W X => volume14_any A' n c' l q hl (by omega) hq W X
    have C3 : Hid (∀ W, Calls Try.prog 13 #[.int .i64 pr, .int .i64 q] W fun e w' => e = .returned (.tuple #[.int .i64 (priceN [(0, pr)] q (byV [(0, pr)] q)), .int .i64 (priceE [(0, pr)] q (byV [(0, pr)] q))]) ∧ Below W.heap.size W w') := Lib.hid fun W => flat_any pr q hq W
    have C34 : Hid (∀ W, Calls Try.prog 19 #[.int .i64 pr, .int .i64 q] W fun e w' => e = .returned (.tuple #[.int .i64 (priceN [(0, pr)] q (byV [(0, pr)] q)), .int .i64 (priceE [(0, pr)] q (byV [(0, pr)] q))]) ∧ Below W.heap.size W w') := Lib.hid fun W => flat14_any pr q hpr hq W
    have C4 : Hid (∀ W, Calls Try.prog 15 #[.int .i64 un, .int .i64 pa, .int .i64 wh] W fun e w' => e = .returned (.tuple #[.int .i64 (prorN un pa wh), .int .i64 (prorE un pa wh)]) ∧ Below W.heap.size W w') := Lib.hid fun W => prorate_any un pa wh hun hpa hwh W
    have C44 : Hid (∀ W, Calls Try.prog 20 #[.int .i64 un, .int .i64 pa, .int .i64 wh] W fun e w' => e = .returned (.tuple #[.int .i64 (prorN un pa wh), .int .i64 (prorE un pa wh)]) ∧ Below W.heap.size W w') := Lib.hid fun W => prorate14_any un pa wh hun hpa hwh W
    have C5 : Hid (∀ W, Calls Try.prog 21 #[.int .i64 un, .int .i64 pa] W fun e w' => e = .returned (.tuple #[.int .i64 (percN un pa), .int .i64 (percE un pa)]) ∧ Below W.heap.size W w') := Lib.hid fun W => percent_any un pa hun hpa W
    have C54 : Hid (∀ W, Calls Try.prog 22 #[.int .i64 un, .int .i64 pa] W fun e w' => e = .returned (.tuple #[.int .i64 (percN un pa), .int .i64 (percE un pa)]) ∧ Below W.heap.size W w') := Lib.hid fun W => percent14_any un pa hun hpa W
    have KN : Hid (∀ e W, Calls Try.prog 9 #[.int .i64 e] W fun x w' => x = .returned (.int .i64 e) ∧ Below W.heap.size W w') := Lib.hid fun e W => num_any e W
    have K0 : Hid (∀ W, Calls Try.prog 8 #[] W fun e w' => e = .returned (.bool true) ∧ Below W.heap.size W w') := Lib.hid fun W => first_any W
    generalize checkT l = ck at *
    generalize priceN l q (byT l 0 q) = v1 at *
    generalize priceE l q (byT l 0 q) = e1 at *
    generalize priceN l q (byV l q) = v2 at *
    generalize priceE l q (byV l q) = e2 at *
    generalize priceN [(0, pr)] q (byV [(0, pr)] q) = v3 at *
    generalize priceE [(0, pr)] q (byV [(0, pr)] q) = e3 at *
    generalize prorN un pa wh = v4 at *
    generalize prorE un pa wh = e4 at *
    generalize percN un pa = v5 at *
    generalize percE un pa = e5 at *
    have TH := Lib.hid T
    clear T hl hq hpr hun hpa hwh big
    go_enter Try.func6, Try.ntmps6
    go_wp2_with (first
      | (go_at_call 8; refine (K0.out _).mono ?_; rintro e w1 ⟨rfl, hb1⟩; have hs1 := hb1.size)
      | (go_at_call 16; refine (C0.out _ (by assumption)).mono ?_
         rintro e w5 ⟨⟨B, d, rfl, tB⟩, hr5⟩
         have h55 : Below w5.heap.size w5 w5 := Below.refl _ _
         have hw5 : Below w.heap.size w w5 := hb1.trans (hr5.mono hs1)
         have hs5 := hw5.size
         have TA : Hid (∀ W, Below w5.heap.size w5 W → Tiers W A l) := Lib.hid fun W hb => TH.out.below (hw5.trans (hb.mono hs5))
         have TB : Hid (∀ W, Below w5.heap.size w5 W → Tiers W B l) := Lib.hid fun W hb => tB.below hb
         clear tB hr5)
      | (go_at_call 11; refine (calls_abs (w := w5) (by assumption) (C1.out _ _ _ (TA.out _ (by assumption)))).mono ?_; rintro e w6 ⟨rfl, hb6⟩)
      | (go_at_call 17; refine (calls_abs (w := w5) (by assumption) (C14.out _ _ _ (TB.out _ (by assumption)))).mono ?_; rintro e w7 ⟨rfl, hb7⟩)
      | (go_at_call 12; refine (calls_abs (w := w5) (by assumption) (C2.out _ _ _ (TA.out _ (by assumption)))).mono ?_; rintro e w8 ⟨rfl, hb8⟩)
      | (go_at_call 18; refine (calls_abs (w := w5) (by assumption) (C24.out _ _ _ (TB.out _ (by assumption)))).mono ?_; rintro e w9 ⟨rfl, hb9⟩)
      | (go_at_call 13; refine (calls_abs (w := w5) (by assumption) (C3.out _)).mono ?_; rintro e w10 ⟨rfl, hb10⟩)
      | (go_at_call 19; refine (calls_abs (w := w5) (by assumption) (C34.out _)).mono ?_; rintro e w11 ⟨rfl, hb11⟩)
      | (go_at_call 15; refine (calls_abs (w := w5) (by assumption) (C4.out _)).mono ?_; rintro e w12 ⟨rfl, hb12⟩)
      | (go_at_call 20; refine (calls_abs (w := w5) (by assumption) (C44.out _)).mono ?_; rintro e w13 ⟨rfl, hb13⟩)
      | (go_at_call 21; refine (calls_abs (w := w5) (by assumption) (C5.out _)).mono ?_; rintro e w14 ⟨rfl, hb14⟩)
      | (go_at_call 22; refine (calls_abs (w := w5) (by assumption) (C54.out _)).mono ?_; rintro e w15 ⟨rfl, hb15⟩)
      | (go_at_call 9; refine (calls_abs (w := w5) (by assumption) (KN.out _ _)).mono ?_; rintro e w16 ⟨rfl, hb16⟩)
      | (go_at_call 10; refine (calls_abs (w := w5) (by assumption) (CK.out _ _ _ (TA.out _ (by assumption)))).mono ?_; rintro e w17 ⟨rfl, hb17⟩)
      | (go_at_call 23; refine (calls_abs (w := w5) (by assumption) (CK4.out _ _ _ (TB.out _ (by assumption)))).mono ?_; rintro e w18 ⟨rfl, hb18⟩))
    go_ret
    exact ⟨ret_bool (by first | rfl | simp), hw5.trans (hb18.mono hs5)⟩
end Go.Proofs.Ytehlmpndbmlklaa
