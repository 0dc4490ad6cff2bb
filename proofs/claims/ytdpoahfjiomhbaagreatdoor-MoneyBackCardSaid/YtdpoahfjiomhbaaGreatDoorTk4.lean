/-
  Contracts of tier.priced, tier.Tiered, tier.Volume, tier.Flat, tier.Prorate, tier.Percent.
-/
import Derived.Test.YtdpoahfjiomhbaaGreatDoorWk4
import Derived.Test.YtdpoahfjiomhbaaGreatDoorDk3
import Derived.Test.YtdpoahfjiomhbaaGreatDoorTk2
import Derived.Test.YtdpoahfjiomhbaaGreatDoorTk3
import Derived.Test.YtdpoahfjiomhbaaGreatDoorQh
namespace Go.Proofs.YtdpoahfjiomhbaaGreatDoor
set_option linter.all false
open Go.RowKit Go.Sort
attribute [local go_sem] cell_set_self lt_1 lt_2 lt_3 lt_4 lt_5 lt_6



theorem Tiers.below {w W : World} {A : Option Addr} {l : List (Int × Int)} (T : Tiers w A l) (h : Below w.heap.size w W) : Tiers W A l := fun i t hi => by
  obtain ⟨b, off, hA, hb, h0, h1⟩ := T i t hi
  exact ⟨b, off, hA, Nat.lt_of_lt_of_le hb h.size, (h.cell (p := ⟨b, off + i * 2, none⟩) hb).trans h0, (h.cell (p := ⟨b, off + i * 2 + 1, none⟩) hb).trans h1⟩

set_option maxHeartbeats 1000000 in
/-- tier.priced, by tier.byTiers. -/
theorem priced_T (A : Option Addr) (n c : Nat) (l : List (Int × Int)) (q : Int) (hl : l.length = n) (hn : n ≤ 1000000) (hq : In64 q) (w : World) (T : Tiers w A l) :
    Calls Tryz.prog 101 #[.slice A n c, .int .i64 q, .func (.func 102) #[] #[]] w fun e w' => e = .returned (.tuple #[.int .i64 (priceN l q (byT l 0 q)), .int .i64 (priceE l q (byT l 0 q))]) ∧ Below w.heap.size w w' := by
  have ck := check_any A n c l hl hn w T
  have CK := Lib.hid ck; clear ck
  rcases chk_cases l with h | h | ⟨h, h1, h2, hok⟩
  · have e1 : priceN l q (byT l 0 q) = 0 := by unfold priceN; rw [if_neg (by omega)]
    have e2 : priceE l q (byT l 0 q) = 9 := by unfold priceE; rw [if_neg (by omega), h]
    rw [e1, e2]
    rw [h] at CK
    clear e1 e2 h
    go_enter Tryz.func101, Tryz.ntmps101
    go_wp2_with (first | (go_at_call 55; refine (CK.out).mono ?_; rintro e w1 ⟨rfl, hb1⟩; obtain ⟨hc1, hf1⟩ := bcell hb1; have hs1 := hb1.size; (try simp at hs1)))
    go_ret2
    exact ⟨rfl, (by repeat (first | exact Below.refl _ _ | refine Below.setCell ?_ (by first | (simp; done) | (simp; omega) | omega) _ | refine Below.alloc ?_ (by first | (simp; done) | (simp; omega) | omega) _ | refine Below.drew ?_ | assumption | refine Below.trans ?_ (Below.mono (by assumption) (by first | (simp; done) | (simp; omega) | omega))))⟩
  · have e1 : priceN l q (byT l 0 q) = 0 := by unfold priceN; rw [if_neg (by omega)]
    have e2 : priceE l q (byT l 0 q) = 6 := by unfold priceE; rw [if_neg (by omega), h]
    rw [e1, e2]
    rw [h] at CK
    clear e1 e2 h
    go_enter Tryz.func101, Tryz.ntmps101
    go_wp2_with (first | (go_at_call 55; refine (CK.out).mono ?_; rintro e w1 ⟨rfl, hb1⟩; obtain ⟨hc1, hf1⟩ := bcell hb1; have hs1 := hb1.size; (try simp at hs1)))
    go_ret2
    exact ⟨rfl, (by repeat (first | exact Below.refl _ _ | refine Below.setCell ?_ (by first | (simp; done) | (simp; omega) | omega) _ | refine Below.alloc ?_ (by first | (simp; done) | (simp; omega) | omega) _ | refine Below.drew ?_ | assumption | refine Below.trans ?_ (Below.mono (by assumption) (by first | (simp; done) | (simp; omega) | omega))))⟩
  · rw [h] at CK
    by_cases hr : 0 ≤ q ∧ q ≤ 1125899906842624
    · have e1 : priceN l q (byT l 0 q) = unitsN (rhe (byT l 0 q) 1000000) := by unfold priceN; rw [if_pos ⟨h, hr⟩]
      have e2 : priceE l q (byT l 0 q) = unitsE (rhe (byT l 0 q) 1000000) := by unfold priceE; rw [if_pos h, if_pos hr]
      rw [e1, e2]
      obtain ⟨r0, r1⟩ := hr
      have bd := byT_in l q r0 r1 h2 hok
      have i1 : In128 (byT l 0 q) := by unfold In128; omega
      have rb := rheA_bd (byT l 0 q) 1000000 bd.1 (by omega)
      have i2 : In128 (rhe (byT l 0 q) 1000000) := by unfold rhe; rw [if_neg (by omega)]; unfold In128; omega
      have i3 : In64 1000000 := by unfold In64; omega
      have TH := Lib.hid T
      have bt := fun (W : World) (T' : Tiers W A l) => byTiers_any A n c l q hl (by omega) r0 r1 hok W T'
      have BT := Lib.hid bt
      have tb := fun (W : World) (hb : Below w.heap.size w W) => T.below hb
      have TB := Lib.hid tb
      clear T tb bt e1 e2 h h1 h2 hok bd rb
      go_enter Tryz.func101, Tryz.ntmps101
      go_wp2_with (first | (go_at_call 55; refine (CK.out).mono ?_; rintro e w1 ⟨rfl, hb1⟩; obtain ⟨hc1, hf1⟩ := bcell hb1; have hs1 := hb1.size; (try simp at hs1)) | (go_at_call 102; refine (BT.out _ (TB.out _ (by assumption))).mono ?_; rintro e w2 ⟨rfl, hb2⟩; obtain ⟨hc2, hf2⟩ := bcell hb2; have hs2 := hb2.size; (try simp at hs2)) | (go_at_call 89; refine (divEven_any _ _ i1 i3 (by omega) _).mono ?_; rintro e w3 ⟨rfl, hb3⟩; obtain ⟨hc3, hf3⟩ := bcell hb3; have hs3 := hb3.size; (try simp at hs3)) | (go_at_call 104; refine (units_any _ i2 _).mono ?_; rintro e w4 ⟨rfl, hb4⟩; obtain ⟨hc4, hf4⟩ := bcell hb4; have hs4 := hb4.size; (try simp at hs4)))
      go_ret2
      exact ⟨rfl, (by repeat (first | exact Below.refl _ _ | refine Below.setCell ?_ (by first | (simp; done) | (simp; omega) | omega) _ | refine Below.alloc ?_ (by first | (simp; done) | (simp; omega) | omega) _ | refine Below.drew ?_ | assumption | refine Below.trans ?_ (Below.mono (by assumption) (by first | (simp; done) | (simp; omega) | omega))))⟩
    · have e1 : priceN l q (byT l 0 q) = 0 := by unfold priceN; rw [if_neg (fun k => hr k.2)]
      have e2 : priceE l q (byT l 0 q) = 6 := by unfold priceE; rw [if_pos h, if_neg hr]
      rw [e1, e2]
      rcases (show q < 0 ∨ 1125899906842624 < q by omega) with r | r
      all_goals
        clear e1 e2 h h1 h2 hr hok
        go_enter Tryz.func101, Tryz.ntmps101
        go_wp2_with (first | (go_at_call 55; refine (CK.out).mono ?_; rintro e w1 ⟨rfl, hb1⟩; obtain ⟨hc1, hf1⟩ := bcell hb1; have hs1 := hb1.size; (try simp at hs1)))
        go_ret2
        exact ⟨rfl, (by repeat (first | exact Below.refl _ _ | refine Below.setCell ?_ (by first | (simp; done) | (simp; omega) | omega) _ | refine Below.alloc ?_ (by first | (simp; done) | (simp; omega) | omega) _ | refine Below.drew ?_ | assumption | refine Below.trans ?_ (Below.mono (by assumption) (by first | (simp; done) | (simp; omega) | omega))))⟩

set_option maxHeartbeats 1000000 in
/-- tier.priced, by tier.byVolume. -/
theorem priced_V (A : Option Addr) (n c : Nat) (l : List (Int × Int)) (q : Int) (hl : l.length = n) (hn : n ≤ 1000000) (hq : In64 q) (w : World) (T : Tiers w A l) :
    Calls Tryz.prog 101 #[.slice A n c, .int .i64 q, .func (.func 103) #[] #[]] w fun e w' => e = .returned (.tuple #[.int .i64 (priceN l q (byV l q)), .int .i64 (priceE l q (byV l q))]) ∧ Below w.heap.size w w' := by
  have ck := check_any A n c l hl hn w T
  have CK := Lib.hid ck; clear ck
  rcases chk_cases l with h | h | ⟨h, h1, h2, hok⟩
  · have e1 : priceN l q (byV l q) = 0 := by unfold priceN; rw [if_neg (by omega)]
    have e2 : priceE l q (byV l q) = 9 := by unfold priceE; rw [if_neg (by omega), h]
    rw [e1, e2]
    rw [h] at CK
    clear e1 e2 h
    go_enter Tryz.func101, Tryz.ntmps101
    go_wp2_with (first | (go_at_call 55; refine (CK.out).mono ?_; rintro e w1 ⟨rfl, hb1⟩; obtain ⟨hc1, hf1⟩ := bcell hb1; have hs1 := hb1.size; (try simp at hs1)))
    go_ret2
    exact ⟨rfl, (by repeat (first | exact Below.refl _ _ | refine Below.setCell ?_ (by first | (simp; done) | (simp; omega) | omega) _ | refine Below.alloc ?_ (by first | (simp; done) | (simp; omega) | omega) _ | refine Below.drew ?_ | assumption | refine Below.trans ?_ (Below.mono (by assumption) (by first | (simp; done) | (simp; omega) | omega))))⟩
  · have e1 : priceN l q (byV l q) = 0 := by unfold priceN; rw [if_neg (by omega)]
    have e2 : priceE l q (byV l q) = 6 := by unfold priceE; rw [if_neg (by omega), h]
    rw [e1, e2]
    rw [h] at CK
    clear e1 e2 h
    go_enter Tryz.func101, Tryz.ntmps101
    go_wp2_with (first | (go_at_call 55; refine (CK.out).mono ?_; rintro e w1 ⟨rfl, hb1⟩; obtain ⟨hc1, hf1⟩ := bcell hb1; have hs1 := hb1.size; (try simp at hs1)))
    go_ret2
    exact ⟨rfl, (by repeat (first | exact Below.refl _ _ | refine Below.setCell ?_ (by first | (simp; done) | (simp; omega) | omega) _ | refine Below.alloc ?_ (by first | (simp; done) | (simp; omega) | omega) _ | refine Below.drew ?_ | assumption | refine Below.trans ?_ (Below.mono (by assumption) (by first | (simp; done) | (simp; omega) | omega))))⟩
  · rw [h] at CK
    by_cases hr : 0 ≤ q ∧ q ≤ 1125899906842624
    · have e1 : priceN l q (byV l q) = unitsN (rhe (byV l q) 1000000) := by unfold priceN; rw [if_pos ⟨h, hr⟩]
      have e2 : priceE l q (byV l q) = unitsE (rhe (byV l q) 1000000) := by unfold priceE; rw [if_pos h, if_pos hr]
      rw [e1, e2]
      obtain ⟨r0, r1⟩ := hr
      have bd := byV_in q r0 r1 l (fun t ht => okFrom_price (u := t.1) (p := t.2) hok ht)
      have i1 : In128 (byV l q) := by unfold In128; omega
      have rb := rheA_bd (byV l q) 1000000 bd.1 (by omega)
      have i2 : In128 (rhe (byV l q) 1000000) := by unfold rhe; rw [if_neg (by omega)]; unfold In128; omega
      have i3 : In64 1000000 := by unfold In64; omega
      have TH := Lib.hid T
      have bt := fun (W : World) (T' : Tiers W A l) => byVolume_any A n c l q hl (by omega) r0 r1 hok W T'
      have BT := Lib.hid bt
      have tb := fun (W : World) (hb : Below w.heap.size w W) => T.below hb
      have TB := Lib.hid tb
      clear T tb bt e1 e2 h h1 h2 hok bd rb
      go_enter Tryz.func101, Tryz.ntmps101
      go_wp2_with (first | (go_at_call 55; refine (CK.out).mono ?_; rintro e w1 ⟨rfl, hb1⟩; obtain ⟨hc1, hf1⟩ := bcell hb1; have hs1 := hb1.size; (try simp at hs1)) | (go_at_call 103; refine (BT.out _ (TB.out _ (by assumption))).mono ?_; rintro e w2 ⟨rfl, hb2⟩; obtain ⟨hc2, hf2⟩ := bcell hb2; have hs2 := hb2.size; (try simp at hs2)) | (go_at_call 89; refine (divEven_any _ _ i1 i3 (by omega) _).mono ?_; rintro e w3 ⟨rfl, hb3⟩; obtain ⟨hc3, hf3⟩ := bcell hb3; have hs3 := hb3.size; (try simp at hs3)) | (go_at_call 104; refine (units_any _ i2 _).mono ?_; rintro e w4 ⟨rfl, hb4⟩; obtain ⟨hc4, hf4⟩ := bcell hb4; have hs4 := hb4.size; (try simp at hs4)))
      go_ret2
      exact ⟨rfl, (by repeat (first | exact Below.refl _ _ | refine Below.setCell ?_ (by first | (simp; done) | (simp; omega) | omega) _ | refine Below.alloc ?_ (by first | (simp; done) | (simp; omega) | omega) _ | refine Below.drew ?_ | assumption | refine Below.trans ?_ (Below.mono (by assumption) (by first | (simp; done) | (simp; omega) | omega))))⟩
    · have e1 : priceN l q (byV l q) = 0 := by unfold priceN; rw [if_neg (fun k => hr k.2)]
      have e2 : priceE l q (byV l q) = 6 := by unfold priceE; rw [if_pos h, if_neg hr]
      rw [e1, e2]
      rcases (show q < 0 ∨ 1125899906842624 < q by omega) with r | r
      all_goals
        clear e1 e2 h h1 h2 hr hok
        go_enter Tryz.func101, Tryz.ntmps101
        go_wp2_with (first | (go_at_call 55; refine (CK.out).mono ?_; rintro e w1 ⟨rfl, hb1⟩; obtain ⟨hc1, hf1⟩ := bcell hb1; have hs1 := hb1.size; (try simp at hs1)))
        go_ret2
        exact ⟨rfl, (by repeat (first | exact Below.refl _ _ | refine Below.setCell ?_ (by first | (simp; done) | (simp; omega) | omega) _ | refine Below.alloc ?_ (by first | (simp; done) | (simp; omega) | omega) _ | refine Below.drew ?_ | assumption | refine Below.trans ?_ (Below.mono (by assumption) (by first | (simp; done) | (simp; omega) | omega))))⟩
end Go.Proofs.YtdpoahfjiomhbaaGreatDoor
