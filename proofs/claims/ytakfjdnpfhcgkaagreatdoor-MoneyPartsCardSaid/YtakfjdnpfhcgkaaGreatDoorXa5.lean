/-
  The walk of the statement MoneyParts: it returns true, whatever it is given.
-/
import Derived.Test.YtakfjdnpfhcgkaaGreatDoorXa4
namespace Go.Proofs.YtakfjdnpfhcgkaaGreatDoor
set_option linter.all false
open Go.RowKit Go.Sort
attribute [local go_sem] cell_set_self lt_1 lt_2 lt_3 lt_4 lt_5 lt_6

theorem own_zero (w : World) (base H : Nat) (hb : base ≤ w.heap.size) (hH : w.heap.size = H) : (w.alloc (.cells #[] 3)).ownsRow base 3 1 (.slice (some ⟨H, 0, none⟩) 0 0) 0 [] := by
  subst hH
  exact ⟨by simp, .inr ⟨w.heap.size, 0, #[], rfl, hb, heap_alloc_new w _, by omega, by unfold maxLen; omega, by simp, by simp⟩⟩
set_option maxHeartbeats 4000000 in
set_option maxRecDepth 100000 in
theorem sameInts_eq (A B : Option Addr) (n ca cb : Nat) (l : List Int) (hl : l.length = n) (hn : n ≤ 9223372036854775807) (w : World) (S : Sl w A ca l) (T : Sl w B cb l) :
    Calls Tryz.prog 9 #[.slice A n ca, .slice B n cb] w fun e w' => e = .returned (.bool true) ∧ Below w.heap.size w w' := by
  have HL := Lib.hid hl
  have SS := Lib.hid (fun W (hb : Below w.heap.size w W) => (S.below hb).2.2)
  have TT := Lib.hid (fun W (hb : Below w.heap.size w W) => (T.below hb).2.2)
  clear S T hl
  go_enter Tryz.func9, Tryz.ntmps9
  go_wp2
  go_loopw [5] (fun i wr => ∃ k : Nat, k ≤ n ∧ i = .int .i64 k ∧ Below w.heap.size w wr) (fun i _ => n - (intOf i).toNat)
  case atStart => exact ⟨0, by omega, rfl, Below.refl _ _⟩
  case round =>
    obtain ⟨k, hk, rfl, hB⟩ := hrel
    obtain ⟨wo, rfl⟩ : ∃ wo : World, wo = wr := ⟨_, rfl⟩
    have hso := hB.size
    by_cases hlt : k < n
    · have hlt' : (k : Int) < (n : Int) := by omega
      obtain ⟨x, hx⟩ : ∃ x, l[k]? = some x := ⟨_, List.getElem?_eq_getElem (by rw [HL.out]; exact hlt)⟩
      obtain ⟨b1, o1, rfl, hb1, hc1⟩ := SS.out wo hB k x hx
      obtain ⟨b2, o2, rfl, hb2, hc2⟩ := TT.out wo hB k x hx
      clear hx
      go_wp2
      go_big_region
      all_goals (
        go_wp2
        go_roundw
        case rel => exact ⟨k + 1, by omega, by go_num, (by repeat (first | exact Below.refl _ _ | refine Below.setCell ?_ (by first | (simp; done) | (simp; omega) | omega) _ | refine Below.alloc ?_ (by first | (simp; done) | (simp; omega) | omega) _ | refine below_drewN ?_ _ | refine Below.drew ?_ | assumption | refine Below.trans ?_ (Below.mono (by assumption) (by first | (simp; done) | (simp; omega) | omega))))⟩
        case measure => first | (simp [intOf]; done) | (simp [intOf]; omega))
    · obtain rfl : k = n := by omega
      have hlt' : ¬ (k : Int) < (k : Int) := by omega
      go_wp2
      go_ret
      exact ⟨rfl, (by repeat (first | exact Below.refl _ _ | refine Below.setCell ?_ (by first | (simp; done) | (simp; omega) | omega) _ | refine Below.alloc ?_ (by first | (simp; done) | (simp; omega) | omega) _ | refine Below.drew ?_ | assumption | refine Below.trans ?_ (Below.mono (by assumption) (by first | (simp; done) | (simp; omega) | omega))))⟩
set_option maxHeartbeats 16000000 in
set_option maxRecDepth 100000 in
theorem parts_big (u : Int) (c : List UInt8) (A : Option Addr) (k cp : Nat) (w : World) (E : Env w) (big : 110 < k ∨ (k ≤ 110 ∧ 200 < c.length)) :
    Calls Tryz.prog 3 #[.agg #[.int .i64 u, .string ⟨c.toArray⟩], .slice A k cp] w fun e w' => e = .returned (.bool true) ∧ Below w.heap.size w w' := by
  have F0 := Lib.hid (fun W (hb : Below w.heap.size w W) => first6_any W (E.below hb))
  have e1 := ba_szP c
  rw [← e1] at big
  clear E e1
  generalize (⟨c.toArray⟩ : ByteArray) = C at *
  rcases big with h1 | ⟨h1, h2⟩
  · have k0 : (110 : Int) < (k : Int) := by omega
    go_enter Tryz.func3, Tryz.ntmps3
    go_wp2_with (first | (go_at_call 4; refine (F0.out _ (by repeat (first | exact Below.refl _ _ | refine Below.setCell ?_ (by first | (simp; done) | (simp; omega) | omega) _ | refine Below.alloc ?_ (by first | (simp; done) | (simp; omega) | omega) _ | refine Below.drew ?_ | assumption | refine Below.trans ?_ (Below.mono (by assumption) (by first | (simp; done) | (simp; omega) | omega))))).mono ?_; rintro e w1 ⟨rfl, hb1⟩; obtain ⟨hc1, hf1⟩ := bcell hb1; have hs1 := hb1.size; (try simp at hs1); have hz1 : w.heap.size < w1.heap.size := by have := hb1.size; (try simp at this); omega))
    go_ret
    exact ⟨rfl, (by repeat (first | exact Below.refl _ _ | refine Below.setCell ?_ (by first | (simp; done) | (simp; omega) | omega) _ | refine Below.alloc ?_ (by first | (simp; done) | (simp; omega) | omega) _ | refine Below.drew ?_ | assumption | refine Below.trans ?_ (Below.mono (by assumption) (by first | (simp; done) | (simp; omega) | omega))))⟩
  · have k0 : ¬ (110 : Int) < (k : Int) := by omega
    have k1 : (200 : Int) < (C.size : Int) := by omega
    go_enter Tryz.func3, Tryz.ntmps3
    go_wp2_with (first | (go_at_call 4; refine (F0.out _ (by repeat (first | exact Below.refl _ _ | refine Below.setCell ?_ (by first | (simp; done) | (simp; omega) | omega) _ | refine Below.alloc ?_ (by first | (simp; done) | (simp; omega) | omega) _ | refine Below.drew ?_ | assumption | refine Below.trans ?_ (Below.mono (by assumption) (by first | (simp; done) | (simp; omega) | omega))))).mono ?_; rintro e w1 ⟨rfl, hb1⟩; obtain ⟨hc1, hf1⟩ := bcell hb1; have hs1 := hb1.size; (try simp at hs1); have hz1 : w.heap.size < w1.heap.size := by have := hb1.size; (try simp at this); omega))
    go_ret
    exact ⟨rfl, (by repeat (first | exact Below.refl _ _ | refine Below.setCell ?_ (by first | (simp; done) | (simp; omega) | omega) _ | refine Below.alloc ?_ (by first | (simp; done) | (simp; omega) | omega) _ | refine Below.drew ?_ | assumption | refine Below.trans ?_ (Below.mono (by assumption) (by first | (simp; done) | (simp; omega) | omega))))⟩
set_option maxHeartbeats 16000000 in
set_option maxRecDepth 100000 in
theorem parts_bad (u : Int) (c : List UInt8) (A : Option Addr) (n cp : Nat) (ws : List Int) (hl : ws.length = n) (hn : n ≤ 110) (lc : c.length ≤ 200) (hE : alE u c ws ≠ 0) (w : World) (T : Sl w A cp ws) (E : Env w) :
    Calls Tryz.prog 3 #[.agg #[.int .i64 u, .string ⟨c.toArray⟩], .slice A n cp] w fun e w' => e = .returned (.bool true) ∧ Below w.heap.size w w' := by
  obtain ⟨i0, hi0, iz0, iz1, iz2⟩ := info_parts Tryz.infoInt
  have F0 := Lib.hid (fun W (hb : Below w.heap.size w W) => first6_any W (E.below hb))
  have NU := Lib.hid (fun n W => num_any n W)
  have AM := Lib.hid (fun X W => amount6_any u X W)
  have AL : Hid (∀ B cb W, Sl W B cb ws → Calls Tryz.prog 5 #[.agg #[.int .i64 u, .string ⟨c.toArray⟩], .slice B n cb] W fun e w' => e = .returned (.tuple #[.slice none 0 0, .int .i64 (alE u c ws)]) ∧ Below W.heap.size W w') := Lib.hid (fun B cb W S => alloc_bad u c B n cb ws hl (by omega) hE W S)
  have RA : Hid (∀ W, Below w.heap.size w W → Calls Tryz.prog 6 #[.agg #[.int .i64 u, .string ⟨c.toArray⟩], .slice A n cp] W fun e w' => e = .returned (.tuple #[.slice none 0 0, .int .i64 (alE u c ws)]) ∧ Below W.heap.size W w') := Lib.hid (fun W hb => rallocate_bad u c A n cp ws hl (by omega) hE W (T.below hb))
  have SI : Hid (∀ B cb W, Below w.heap.size w W → Sl W B cb ws → Calls Tryz.prog 9 #[.slice B n cb, .slice A n cp] W fun e w' => e = .returned (.bool true) ∧ Below W.heap.size W w') := Lib.hid (fun B cb W hb S => sameInts_eq B A n cb cp ws hl (by omega) W S (T.below hb))
  have TT := Lib.hid (fun W (hb : Below w.heap.size w W) => T.below hb)
  have HL := Lib.hid hl
  have zc : ¬ (200 : Int) < ((⟨c.toArray⟩ : ByteArray).size : Int) := by rw [ba_szP]; omega
  have zn : ¬ (110 : Int) < (n : Int) := by omega
  generalize alE u c ws = x at *
  clear E T hE hl lc
  generalize (⟨c.toArray⟩ : ByteArray) = C at *
  go_enter Tryz.func3, Tryz.ntmps3
  go_wp2_with (first | (go_at_call 4; refine (F0.out _ (by repeat (first | exact Below.refl _ _ | refine Below.setCell ?_ (by first | (simp; done) | (simp; omega) | omega) _ | refine Below.alloc ?_ (by first | (simp; done) | (simp; omega) | omega) _ | refine Below.drew ?_ | assumption | refine Below.trans ?_ (Below.mono (by assumption) (by first | (simp; done) | (simp; omega) | omega))))).mono ?_; rintro e w1 ⟨rfl, hb1⟩; obtain ⟨hc1, hf1⟩ := bcell hb1; have hs1 := hb1.size; (try simp at hs1); have hz1 : w.heap.size < w1.heap.size := by have := hb1.size; (try simp at this); omega) | (at_builtin; refine wpList_append_sl _ rfl (.tmp 27) (.tmp 28) 24 rfl (w1.heap.size) i0 Tryz.underlying24 hi0 iz0 iz1 iz2 _ 0 [] rfl (own_zero w1 w1.heap.size w1.heap.size (Nat.le_refl _) rfl) A n cp ws rfl HL.out (TT.out _ (by repeat (first | exact Below.refl _ _ | refine Below.setCell ?_ (by first | (simp; done) | (simp; omega) | omega) _ | refine Below.alloc ?_ (by first | (simp; done) | (simp; omega) | omega) _ | refine Below.drew ?_ | assumption | refine Below.trans ?_ (Below.mono (by assumption) (by first | (simp; done) | (simp; omega) | omega))))) (by unfold maxLen; omega) (by omega) (by simp) ?_; intro v2 w2 hown2 hgrow2; have hb2 := Below.grown (Below.alloc (Below.refl w1.heap.size w1) (Nat.le_refl _) (.cells #[] 3)) hgrow2 (by simp) (fun k hk => by injection hk with hk; subst hk; exact Nat.le_refl _); obtain ⟨hc2, hf2⟩ := bcell hb2; have hs2 := hb2.size; obtain ⟨B, cb, hv2, SB, hBB⟩ := sl_own (l := ws) hown2 (by rw [HL.out]; omega) (by simp); subst hv2; have HSB := Lib.hid SB; have hz2 : w.heap.size < w2.heap.size := (by omega); (try simp only [Nat.zero_add]); clear SB hown2 hgrow2 hBB) | (go_at_call 5; (with_reducible refine (AL.out _ _ _ (HSB.out.below (by repeat (first | exact Below.refl _ _ | refine Below.setCell ?_ (by first | (simp; done) | (simp; omega) | omega) _ | refine Below.alloc ?_ (by first | (simp; done) | (simp; omega) | omega) _ | refine Below.drew ?_ | assumption | refine Below.trans ?_ (Below.mono (by assumption) (by first | (simp; done) | (simp; omega) | omega)))))).mono ?_); rintro e w3 ⟨rfl, hb3⟩; obtain ⟨hc3, hf3⟩ := bcell hb3; have hs3 := hb3.size; (try simp at hs3); have hz3 : w.heap.size < w3.heap.size := (by omega)) | (go_at_call 7; (with_reducible refine (AM.out _ _).mono ?_); rintro e w4 ⟨rfl, hb4⟩; obtain ⟨hc4, hf4⟩ := bcell hb4; have hs4 := hb4.size; (try simp at hs4); have hz4 : w.heap.size < w4.heap.size := (by omega)) | (go_at_call 6; (with_reducible refine (RA.out _ (by repeat (first | exact Below.refl _ _ | refine Below.setCell ?_ (by first | (simp; done) | (simp; omega) | omega) _ | refine Below.alloc ?_ (by first | (simp; done) | (simp; omega) | omega) _ | refine Below.drew ?_ | assumption | refine Below.trans ?_ (Below.mono (by assumption) (by first | (simp; done) | (simp; omega) | omega))))).mono ?_); rintro e w5 ⟨rfl, hb5⟩; obtain ⟨hc5, hf5⟩ := bcell hb5; have hs5 := hb5.size; (try simp at hs5); have hz5 : w.heap.size < w5.heap.size := (by omega)) | (go_at_call 8; refine (NU.out _ _).mono ?_; rintro e w6 ⟨rfl, hb6⟩; obtain ⟨hc6, hf6⟩ := bcell hb6; have hs6 := hb6.size; (try simp at hs6); have hz6 : w.heap.size < w6.heap.size := by have := hb6.size; (try simp at this); omega) | (go_at_call 9; (with_reducible refine (SI.out _ _ _ (by repeat (first | exact Below.refl _ _ | refine Below.setCell ?_ (by first | (simp; done) | (simp; omega) | omega) _ | refine Below.alloc ?_ (by first | (simp; done) | (simp; omega) | omega) _ | refine Below.drew ?_ | assumption | refine Below.trans ?_ (Below.mono (by assumption) (by first | (simp; done) | (simp; omega) | omega)))) (HSB.out.below (by repeat (first | exact Below.refl _ _ | refine Below.setCell ?_ (by first | (simp; done) | (simp; omega) | omega) _ | refine Below.alloc ?_ (by first | (simp; done) | (simp; omega) | omega) _ | refine Below.drew ?_ | assumption | refine Below.trans ?_ (Below.mono (by assumption) (by first | (simp; done) | (simp; omega) | omega)))))).mono ?_); rintro e w7 ⟨rfl, hb7⟩; obtain ⟨hc7, hf7⟩ := bcell hb7; have hs7 := hb7.size; (try simp at hs7); have hz7 : w.heap.size < w7.heap.size := (by omega)))
  go_loopw [11] (fun i wr => i = .int .i64 0 ∧ Below w.heap.size w wr) (fun _ _ => 0)
  case atStart => exact ⟨rfl, (by repeat (first | exact Below.refl _ _ | refine Below.setCell ?_ (by first | (simp; done) | (simp; omega) | omega) _ | refine Below.alloc ?_ (by first | (simp; done) | (simp; omega) | omega) _ | refine Below.drew ?_ | assumption | refine Below.trans ?_ (Below.mono (by assumption) (by first | (simp; done) | (simp; omega) | omega))))⟩
  case round =>
    obtain ⟨rfl, hB⟩ := hrel
    go_wp2
    go_ret
    exact ⟨rfl, (by repeat (first | exact Below.refl _ _ | refine Below.setCell ?_ (by first | (simp; done) | (simp; omega) | omega) _ | refine Below.alloc ?_ (by first | (simp; done) | (simp; omega) | omega) _ | refine Below.drew ?_ | assumption | refine Below.trans ?_ (Below.mono (by assumption) (by first | (simp; done) | (simp; omega) | omega))))⟩
set_option maxHeartbeats 32000000 in
set_option maxRecDepth 100000 in
theorem parts_main (u : Int) (c : List UInt8) (A : Option Addr) (n cp : Nat) (ws : List Int) (hl : ws.length = n) (lc : c.length ≤ 200) (hE : amE u c = 0) (hS : sumE ws = 0) (w : World) (T : Sl w A cp ws) (E : Env w) :
    Calls Tryz.prog 3 #[.agg #[.int .i64 u, .string ⟨c.toArray⟩], .slice A n cp] w fun e w' => e = .returned (.bool true) ∧ Below w.heap.size w w' := by
  obtain ⟨i0, hi0, iz0, iz1, iz2⟩ := info_parts Tryz.infoInt
  have F0 := Lib.hid (fun W (hb : Below w.heap.size w W) => first6_any W (E.below hb))
  have NU := Lib.hid (fun n W => num_any n W)
  have AM := Lib.hid (fun X W => amount6_any u X W)
  have SM := Lib.hid (fun x X W => same6_any x X W)
  have AL : Hid (∀ B cb W, Sl W B cb ws → Calls Tryz.prog 5 #[.agg #[.int .i64 u, .string ⟨c.toArray⟩], .slice B n cb] W fun e w' => (∃ g cap f, e = .returned (.tuple #[.slice (some ⟨g, 0, none⟩) n cap, .int .i64 0]) ∧ Good (keyL (absU u) ws) f 0 n ∧ Amts w' g ⟨c.toArray⟩ (upd (sgnU u) f (psL u ws) (lfU u ws))) ∧ Below W.heap.size W w') := Lib.hid (fun B cb W S => (alloc_ok u c B n cb ws hl hE hS W S).mono fun e w' hh => by
    obtain ⟨⟨g, cap, h1, f, h2, h3⟩, h4⟩ := hh
    exact ⟨⟨g, cap, f, h1, h2, h3⟩, h4⟩)
  have RA : Hid (∀ f W, Good (keyL (absU u) ws) f 0 n → Below w.heap.size w W → Calls Tryz.prog 6 #[.agg #[.int .i64 u, .string ⟨c.toArray⟩], .slice A n cp] W fun e w' => (∃ g cap, e = .returned (.tuple #[.slice (some ⟨g, 0, none⟩) n cap, .int .i64 0]) ∧ Amts w' g ⟨c.toArray⟩ (upd (sgnU u) f (psL u ws) (lfU u ws))) ∧ Below W.heap.size W w') := Lib.hid (fun f W hg hb => rallocate_ok u c A n cp ws hl hE hS f hg W (T.below hb))
  have SI : Hid (∀ B cb W, Below w.heap.size w W → Sl W B cb ws → Calls Tryz.prog 9 #[.slice B n cb, .slice A n cp] W fun e w' => e = .returned (.bool true) ∧ Below W.heap.size W w') := Lib.hid (fun B cb W hb S => sameInts_eq B A n cb cp ws hl (by have := (sumE_0 hS).1; omega) W S (T.below hb))
  have TT := Lib.hid (fun W (hb : Below w.heap.size w W) => T.below hb)
  have HL := Lib.hid hl
  have hn : n ≤ 100 := by have := (sumE_0 hS).1; omega
  have PL : Hid (∀ f, (upd (sgnU u) f (psL u ws) (lfU u ws)).length = n) := Lib.hid fun f => by rw [upd_len]; unfold psL; rw [List.length_map, nsL_len, hl]
  have zc : ¬ (200 : Int) < ((⟨c.toArray⟩ : ByteArray).size : Int) := by rw [ba_szP]; omega
  have zn : ¬ (110 : Int) < (n : Int) := by omega
  clear E T hE hS hl lc
  generalize (⟨c.toArray⟩ : ByteArray) = C at *
  generalize hP : upd (sgnU u) = FP at *
  generalize psL u ws = ps at *
  generalize lfU u ws = lf at *
  generalize keyL (absU u) ws = key at *
  clear hP
  go_enter Tryz.func3, Tryz.ntmps3
  go_wp2_with (first | (go_at_call 4; refine (F0.out _ (by repeat (first | exact Below.refl _ _ | refine Below.setCell ?_ (by first | (simp; done) | (simp; omega) | omega) _ | refine Below.alloc ?_ (by first | (simp; done) | (simp; omega) | omega) _ | refine Below.drew ?_ | assumption | refine Below.trans ?_ (Below.mono (by assumption) (by first | (simp; done) | (simp; omega) | omega))))).mono ?_; rintro e w1 ⟨rfl, hb1⟩; obtain ⟨hc1, hf1⟩ := bcell hb1; have hs1 := hb1.size; (try simp at hs1); have hz1 : w.heap.size < w1.heap.size := by have := hb1.size; (try simp at this); omega) | (at_builtin; refine wpList_append_sl _ rfl (.tmp 27) (.tmp 28) 24 rfl (w1.heap.size) i0 Tryz.underlying24 hi0 iz0 iz1 iz2 _ 0 [] rfl (own_zero w1 w1.heap.size w1.heap.size (Nat.le_refl _) rfl) A n cp ws rfl HL.out (TT.out _ (by repeat (first | exact Below.refl _ _ | refine Below.setCell ?_ (by first | (simp; done) | (simp; omega) | omega) _ | refine Below.alloc ?_ (by first | (simp; done) | (simp; omega) | omega) _ | refine Below.drew ?_ | assumption | refine Below.trans ?_ (Below.mono (by assumption) (by first | (simp; done) | (simp; omega) | omega))))) (by unfold maxLen; omega) (by omega) (by simp) ?_; intro v2 w2 hown2 hgrow2; have hb2 := Below.grown (Below.alloc (Below.refl w1.heap.size w1) (Nat.le_refl _) (.cells #[] 3)) hgrow2 (by simp) (fun k hk => by injection hk with hk; subst hk; exact Nat.le_refl _); obtain ⟨hc2, hf2⟩ := bcell hb2; have hs2 := hb2.size; obtain ⟨B, cb, hv2, SB, hBB⟩ := sl_own (l := ws) hown2 (by rw [HL.out]; omega) (by simp); subst hv2; have HSB := Lib.hid SB; have hz2 : w.heap.size < w2.heap.size := (by omega); (try simp only [Nat.zero_add]); clear SB hown2 hgrow2 hBB) | (go_at_call 5; (with_reducible refine (AL.out _ _ _ (HSB.out.below (by repeat (first | exact Below.refl _ _ | refine Below.setCell ?_ (by first | (simp; done) | (simp; omega) | omega) _ | refine Below.alloc ?_ (by first | (simp; done) | (simp; omega) | omega) _ | refine Below.drew ?_ | assumption | refine Below.trans ?_ (Below.mono (by assumption) (by first | (simp; done) | (simp; omega) | omega)))))).mono ?_); rintro e w3 ⟨⟨g3, cap3, f, rfl, hG3, hA3⟩, hb3⟩; obtain ⟨hc3, hf3⟩ := bcell hb3; have hs3 := hb3.size; (try simp at hs3); have hz3 : w.heap.size < w3.heap.size := (by omega); have HG3 := Lib.hid hG3; have HA3 := Lib.hid hA3; clear hG3 hA3) | (go_at_call 7; (with_reducible refine (AM.out _ _).mono ?_); rintro e w4 ⟨rfl, hb4⟩; obtain ⟨hc4, hf4⟩ := bcell hb4; have hs4 := hb4.size; (try simp at hs4); have hz4 : w.heap.size < w4.heap.size := (by omega)) | (go_at_call 6; (with_reducible refine (RA.out _ _ HG3.out (by repeat (first | exact Below.refl _ _ | refine Below.setCell ?_ (by first | (simp; done) | (simp; omega) | omega) _ | refine Below.alloc ?_ (by first | (simp; done) | (simp; omega) | omega) _ | refine Below.drew ?_ | assumption | refine Below.trans ?_ (Below.mono (by assumption) (by first | (simp; done) | (simp; omega) | omega))))).mono ?_); rintro e w5 ⟨⟨g5, cap5, rfl, hA5⟩, hb5⟩; obtain ⟨hc5, hf5⟩ := bcell hb5; have hs5 := hb5.size; (try simp at hs5); have hz5 : w.heap.size < w5.heap.size := (by omega); have HA5 := Lib.hid hA5; clear hA5) | (go_at_call 8; refine (NU.out _ _).mono ?_; rintro e w6 ⟨rfl, hb6⟩; obtain ⟨hc6, hf6⟩ := bcell hb6; have hs6 := hb6.size; (try simp at hs6); have hz6 : w.heap.size < w6.heap.size := by have := hb6.size; (try simp at this); omega) | (go_at_call 9; (with_reducible refine (SI.out _ _ _ (by repeat (first | exact Below.refl _ _ | refine Below.setCell ?_ (by first | (simp; done) | (simp; omega) | omega) _ | refine Below.alloc ?_ (by first | (simp; done) | (simp; omega) | omega) _ | refine Below.drew ?_ | assumption | refine Below.trans ?_ (Below.mono (by assumption) (by first | (simp; done) | (simp; omega) | omega)))) (HSB.out.below (by repeat (first | exact Below.refl _ _ | refine Below.setCell ?_ (by first | (simp; done) | (simp; omega) | omega) _ | refine Below.alloc ?_ (by first | (simp; done) | (simp; omega) | omega) _ | refine Below.drew ?_ | assumption | refine Below.trans ?_ (Below.mono (by assumption) (by first | (simp; done) | (simp; omega) | omega)))))).mono ?_); rintro e w7 ⟨rfl, hb7⟩; obtain ⟨hc7, hf7⟩ := bcell hb7; have hs7 := hb7.size; (try simp at hs7); have hz7 : w.heap.size < w7.heap.size := (by omega)))
  have A3 := Lib.hid (HA3.out.below (show Below w3.heap.size w3 w7 from (by repeat (first | exact Below.refl _ _ | refine Below.setCell ?_ (by first | (simp; done) | (simp; omega) | omega) _ | refine Below.alloc ?_ (by first | (simp; done) | (simp; omega) | omega) _ | refine Below.drew ?_ | assumption | refine Below.trans ?_ (Below.mono (by assumption) (by first | (simp; done) | (simp; omega) | omega))))))
  have A5 := Lib.hid (HA5.out.below (show Below w5.heap.size w5 w7 from (by repeat (first | exact Below.refl _ _ | refine Below.setCell ?_ (by first | (simp; done) | (simp; omega) | omega) _ | refine Below.alloc ?_ (by first | (simp; done) | (simp; omega) | omega) _ | refine Below.drew ?_ | assumption | refine Below.trans ?_ (Below.mono (by assumption) (by first | (simp; done) | (simp; omega) | omega))))))
  have BW : Below w.heap.size w w7 := (by repeat (first | exact Below.refl _ _ | refine Below.setCell ?_ (by first | (simp; done) | (simp; omega) | omega) _ | refine Below.alloc ?_ (by first | (simp; done) | (simp; omega) | omega) _ | refine Below.drew ?_ | assumption | refine Below.trans ?_ (Below.mono (by assumption) (by first | (simp; done) | (simp; omega) | omega))))
  have hs9 := BW.size
  have PLf := Lib.hid (PL.out f)
  generalize FP f ps lf = P at *
  clear HA3 HA5 AL RA SI PL F0 TT HSB
  go_loopw [11] (fun i wr => ∃ k : Nat, k ≤ n ∧ i = .int .i64 k ∧ Below w7.heap.size w7 wr) (fun i _ => n - (intOf i).toNat)
  case atStart => exact ⟨0, by omega, rfl, Below.refl _ _⟩
  case round =>
    obtain ⟨k, hk, rfl, hB⟩ := hrel
    obtain ⟨wo, rfl⟩ : ∃ wo : World, wo = wr := ⟨_, rfl⟩
    have hso := hB.size
    by_cases hlt : k < n
    · have hlt' : (k : Int) < (n : Int) := by omega
      obtain ⟨x, hx⟩ : ∃ x, P[k]? = some x := ⟨_, List.getElem?_eq_getElem (by rw [PLf.out]; exact hlt)⟩
      have a3 := A3.out.below hB
      have a5 := A5.out.below hB
      obtain ⟨p0, p1⟩ := a3.2 k x hx
      obtain ⟨q0, q1⟩ := a5.2 k x hx
      have hg3 := a3.1
      have hg5 := a5.1
      clear hx a3 a5
      go_upto_region 12 with (fail)
      go_region_law (first | (go_simp; go_at_call 10; (with_reducible refine (SM.out x C _).mono ?_); rintro e w20 ⟨rfl, hb20⟩; obtain ⟨hc20, hf20⟩ := bcell hb20; (try simp only [drew_size, drew_cell, drew_frozen] at hc20 hf20); have hs20 := hb20.size; (try simp at hs20)))
      all_goals (
        go_wp2
        go_roundw
        case rel => exact ⟨k + 1, by omega, by go_num, hB.trans (Below.mono (show Below wo.heap.size wo _ from (by repeat (first | exact Below.refl _ _ | refine Below.setCell ?_ (by first | (simp; done) | (simp; omega) | omega) _ | refine Below.alloc ?_ (by first | (simp; done) | (simp; omega) | omega) _ | refine below_drewN ?_ _ | refine Below.drew ?_ | assumption | refine Below.trans ?_ (Below.mono (by assumption) (by first | (simp; done) | (simp; omega) | omega))))) hso)⟩
        case measure => first | (simp [intOf]; done) | (simp [intOf]; omega))
    · obtain rfl : k = n := by omega
      have hlt' : ¬ (k : Int) < (k : Int) := by omega
      go_wp2
      go_ret
      exact ⟨rfl, BW.trans (hB.mono hs9)⟩
theorem parts_walk6 (u : Int) (c : List UInt8) (A : Option Addr) (n cp : Nat) (ws : List Int) (hl : ws.length = n) (_hm : n ≤ 9223372036854775807) (_hu : In64 u) (_hw : ∀ x ∈ ws, In64 x) (w : World) (T : Sl w A cp ws) (E : Env w) :
    Calls Tryz.prog 3 #[.agg #[.int .i64 u, .string ⟨c.toArray⟩], .slice A n cp] w fun e w' => e = .returned (.bool true) ∧ Below w.heap.size w w' := by
  by_cases h1 : 110 < n
  · exact parts_big u c A n cp w E (.inl h1)
  by_cases h2 : 200 < c.length
  · exact parts_big u c A n cp w E (.inr ⟨by omega, h2⟩)
  by_cases h3 : alE u c ws = 0
  · have hE : amE u c = 0 := by
      unfold alE at h3
      by_cases k : amE u c = 0
      · exact k
      · rw [if_neg k] at h3; exact h3
    have hS : sumE ws = 0 := by unfold alE at h3; rwa [if_pos hE] at h3
    exact parts_main u c A n cp ws hl (by omega) hE hS w T E
  · exact parts_bad u c A n cp ws hl (by omega) (by omega) h3 w T E
end Go.Proofs.YtakfjdnpfhcgkaaGreatDoor
