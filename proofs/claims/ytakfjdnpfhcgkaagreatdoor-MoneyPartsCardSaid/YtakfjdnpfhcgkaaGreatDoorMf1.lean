/-
  Contract of exlaw6.first: the chapter's example.
-/
import Derived.Test.YtakfjdnpfhcgkaaGreatDoorMq6
import Derived.Test.YtakfjdnpfhcgkaaGreatDoorMp2
import Derived.Test.YtakfjdnpfhcgkaaGreatDoorMp3
import Derived.Test.YtakfjdnpfhcgkaaGreatDoorTk5
namespace Go.Proofs.YtakfjdnpfhcgkaaGreatDoor
set_option linter.all false
open Go.RowKit Go.Sort
attribute [local go_sem] cell_set_self lt_1 lt_2 lt_3 lt_4 lt_5 lt_6

theorem ex_text : strM 1230 [85, 83, 68] = [49, 50, 46, 51, 48, 32, 85, 83, 68] := by
  have d : dec 1230 = [49, 50, 51, 48] := by
    rw [dec_pos (by decide), show 1230 / 10 = 123 from rfl, dec_pos (by decide), show 123 / 10 = 12 from rfl, dec_pos (by decide), show 12 / 10 = 1 from rfl, dec_pos (by decide), show 1 / 10 = 0 from rfl, dec_0]; decide
  have e : txt ((1230 : Int).natAbs : Int) = [49, 50, 51, 48] := by
    unfold txt
    rw [if_neg (by decide), if_neg (by decide), show (((1230 : Int).natAbs : Nat) : Int).natAbs = 1230 from rfl, d]
  unfold strM
  rw [if_pos (by decide), if_neg (by decide), e]
  decide
theorem ex_alloc (b : Nat) (W : World) (hb : b < W.heap.size) (h0 : W.cell? ⟨b, 0, none⟩ = some (.int .i64 1)) (h1 : W.cell? ⟨b, 1, none⟩ = some (.int .i64 1)) (h2 : W.cell? ⟨b, 2, none⟩ = some (.int .i64 1)) :
    Calls Tryz.prog 5 #[.agg #[.int .i64 100, .string ⟨#[85, 83, 68]⟩], .slice (some ⟨b, 0, none⟩) 3 3] W fun e w' => (∃ g cap, e = .returned (.tuple #[.slice (some ⟨g, 0, none⟩) 3 cap, .int .i64 0]) ∧ g < w'.heap.size ∧ w'.cell? ⟨g, 0, none⟩ = some (.int .i64 34) ∧ w'.cell? ⟨g, 4, none⟩ = some (.int .i64 33)) ∧ Below W.heap.size W w' := by
  have T : Sl W (some ⟨b, 0, none⟩) 3 [1, 1, 1] := by
    refine ⟨by decide, fun h => (by cases h), fun i v hi => ⟨b, 0, rfl, hb, ?_⟩⟩
    match i, hi with
    | 0, hi => simp at hi; subst hi; exact h0
    | 1, hi => simp at hi; subst hi; exact h1
    | 2, hi => simp at hi; subst hi; exact h2
  refine (alloc_sorted 100 [85, 83, 68] (some ⟨b, 0, none⟩) 3 3 [1, 1, 1] rfl (by decide) (by decide) (by decide) (by decide) (fun j a b ha hb => by
    match j, ha, hb with
    | 0, ha, hb => simp [rsL, sumI] at ha hb; omega
    | 1, ha, hb => simp [rsL, sumI] at ha hb; omega
    | 2, ha, hb => simp [rsL] at hb) W T).mono ?_
  rintro e w' ⟨⟨g, cap, rfl, hA⟩, hbel⟩
  have e : bumpL 1 (100 - sumI (nsL 100 (sumI [1, 1, 1]) [1, 1, 1])).toNat (nsL 100 (sumI [1, 1, 1]) [1, 1, 1]) = [34, 33, 33] := by decide
  rw [e] at hA
  exact ⟨⟨g, cap, rfl, hA.1, (hA.2 0 34 rfl).1, (hA.2 2 33 rfl).1⟩, hbel⟩

set_option maxHeartbeats 4000000 in
set_option maxRecDepth 100000 in
theorem first6_any (w : World) (E : Env w) : Calls Tryz.prog 4 #[] w fun e w' => e = .returned (.bool true) ∧ Below w.heap.size w w' := by
  have P1 : Hid (∀ W, Below w.heap.size w W → Calls Tryz.prog 11 #[.string ⟨#[49, 50, 46, 51, 32, 85, 83, 68]⟩] W fun e w' => e = .returned (.tuple #[.agg #[.int .i64 1230, .string ⟨#[85, 83, 68]⟩], .int .i64 0]) ∧ Below W.heap.size W w') := Lib.hid fun W hb => by
    have h := mparse_any [49, 50, 46, 51, 32, 85, 83, 68] (by decide) W (E.below hb)
    have e : amR (codeM [49, 50, 46, 51, 32, 85, 83, 68]) (numM [49, 50, 46, 51, 32, 85, 83, 68]) (mA [49, 50, 46, 51, 32, 85, 83, 68]).2.1 = .tuple #[.agg #[.int .i64 1230, .string ⟨#[85, 83, 68]⟩], .int .i64 0] := by
      rw [show codeM [49, 50, 46, 51, 32, 85, 83, 68] = 0 by decide, show numM [49, 50, 46, 51, 32, 85, 83, 68] = 1230 by decide, show (mA [49, 50, 46, 51, 32, 85, 83, 68]).2.1 = [85, 83, 68] by decide]; rfl
    rw [e] at h; exact h
  have P2 : Hid (∀ W, Below w.heap.size w W → Calls Tryz.prog 11 #[.string ⟨#[49, 46, 50, 51, 52, 32, 85, 83, 68]⟩] W fun e w' => e = .returned (.tuple #[.agg #[.int .i64 0, .string ⟨#[]⟩], .int .i64 19]) ∧ Below W.heap.size W w') := Lib.hid fun W hb => by
    have h := mparse_any [49, 46, 50, 51, 52, 32, 85, 83, 68] (by decide) W (E.below hb)
    have e : amR (codeM [49, 46, 50, 51, 52, 32, 85, 83, 68]) (numM [49, 46, 50, 51, 52, 32, 85, 83, 68]) (mA [49, 46, 50, 51, 52, 32, 85, 83, 68]).2.1 = .tuple #[.agg #[.int .i64 0, .string ⟨#[]⟩], .int .i64 19] := by
      rw [show codeM [49, 46, 50, 51, 52, 32, 85, 83, 68] = 19 by decide]; exact amR_n (by decide)
    rw [e] at h; exact h
  have RA : Hid (∀ W, Calls Tryz.prog 12 #[.agg #[.int .i64 5, .string ⟨#[85, 83, 68]⟩], .int .i64 1, .int .i64 2] W fun e w' => e = .returned (.tuple #[.agg #[.int .i64 2, .string ⟨#[85, 83, 68]⟩], .int .i64 0]) ∧ Below W.heap.size W w') := Lib.hid fun W => by
    have h := ratio_any 5 [85, 83, 68] 1 2 (by unfold In64; omega) (by unfold In64; omega) W
    have e : amR (ratE 5 [85, 83, 68] 1 2) (rhZ (5 * 1) 2) [85, 83, 68] = .tuple #[.agg #[.int .i64 2, .string ⟨#[85, 83, 68]⟩], .int .i64 0] := by
      rw [show ratE 5 [85, 83, 68] 1 2 = 0 by decide, show rhZ (5 * 1) 2 = 2 by decide]; rfl
    rw [e] at h; exact h
  have ST : Hid (∀ W, Below w.heap.size w W → Calls Tryz.prog 13 #[.agg #[.int .i64 1230, .string ⟨#[85, 83, 68]⟩]] W fun e w' => e = .returned (.string ⟨#[49, 50, 46, 51, 48, 32, 85, 83, 68]⟩) ∧ Below W.heap.size W w') := Lib.hid fun W hb => by
    have h := mstring_any 1230 [85, 83, 68] W (E.below hb)
    rw [ex_text] at h; exact h
  have AL := Lib.hid (fun b W hb h0 h1 h2 => ex_alloc b W hb h0 h1 h2)
  have NU := Lib.hid (fun n W => num_any n W)
  clear E
  go_enter Tryz.func4, Tryz.ntmps4
  go_wp2_with (first | (go_at_call 11; (with_reducible refine (P1.out _ (by repeat (first | exact Below.refl _ _ | refine Below.setCell ?_ (by first | (simp; done) | (simp; omega) | omega) _ | refine Below.alloc ?_ (by first | (simp; done) | (simp; omega) | omega) _ | refine Below.drew ?_ | assumption | refine Below.trans ?_ (Below.mono (by assumption) (by first | (simp; done) | (simp; omega) | omega))))).mono ?_); rintro e w1 ⟨rfl, hb1⟩; obtain ⟨hc1, hf1⟩ := bcell hb1; have hs1 := hb1.size; (try simp at hs1)) | (go_at_call 11; (with_reducible refine (P2.out _ (by repeat (first | exact Below.refl _ _ | refine Below.setCell ?_ (by first | (simp; done) | (simp; omega) | omega) _ | refine Below.alloc ?_ (by first | (simp; done) | (simp; omega) | omega) _ | refine Below.drew ?_ | assumption | refine Below.trans ?_ (Below.mono (by assumption) (by first | (simp; done) | (simp; omega) | omega))))).mono ?_); rintro e w2 ⟨rfl, hb2⟩; obtain ⟨hc2, hf2⟩ := bcell hb2; have hs2 := hb2.size; (try simp at hs2); have hz2 : w1.heap.size < w2.heap.size ∧ w1.heap.size < w2.heap.size + 1 ∧ w1.heap.size < w2.heap.size + 1 + 1 := (by omega)) | (go_at_call 5; (refine (AL.out _ _ (by simp) (by simp [go_sem]) (by simp [go_sem]) (by simp [go_sem])).mono ?_); rintro e w3 ⟨⟨g, cap, rfl, hg, hA0, hA2⟩, hb3⟩; obtain ⟨hc3, hf3⟩ := bcell hb3; have hs3 := hb3.size; (try simp at hs3); have hz3 : w1.heap.size < w3.heap.size ∧ w2.heap.size < w3.heap.size := (by omega)) | (go_at_call 12; (refine (RA.out _).mono ?_); rintro e w4 ⟨rfl, hb4⟩; obtain ⟨hc4, hf4⟩ := bcell hb4; have hs4 := hb4.size; (try simp at hs4); have hz4 : w1.heap.size < w4.heap.size ∧ w2.heap.size < w4.heap.size ∧ g < w4.heap.size ∧ w1.heap.size < w4.heap.size + 1 ∧ w2.heap.size < w4.heap.size + 1 ∧ g < w4.heap.size + 1 := (by omega)) | (go_at_call 13; (refine (ST.out _ (by repeat (first | exact Below.refl _ _ | refine Below.setCell ?_ (by first | (simp; done) | (simp; omega) | omega) _ | refine Below.alloc ?_ (by first | (simp; done) | (simp; omega) | omega) _ | refine Below.drew ?_ | assumption | refine Below.trans ?_ (Below.mono (by assumption) (by first | (simp; done) | (simp; omega) | omega))))).mono ?_); rintro e w5 ⟨rfl, hb5⟩; obtain ⟨hc5, hf5⟩ := bcell hb5; have hs5 := hb5.size; (try simp at hs5); have hz5 : w1.heap.size < w5.heap.size ∧ w4.heap.size < w5.heap.size ∧ g < w5.heap.size := (by omega)) | (go_at_call 8; (refine (NU.out _ _).mono ?_); rintro e w6 ⟨rfl, hb6⟩; obtain ⟨hc6, hf6⟩ := bcell hb6; have hs6 := hb6.size; (try simp at hs6); have hz6 : w4.heap.size < w6.heap.size ∧ g < w6.heap.size := (by omega)))
  go_ret
  exact ⟨rfl, (by repeat (first | exact Below.refl _ _ | refine Below.setCell ?_ (by first | (simp; done) | (simp; omega) | omega) _ | refine Below.alloc ?_ (by first | (simp; done) | (simp; omega) | omega) _ | refine Below.drew ?_ | assumption | refine Below.trans ?_ (Below.mono (by assumption) (by first | (simp; done) | (simp; omega) | omega))))⟩
end Go.Proofs.YtakfjdnpfhcgkaaGreatDoor
