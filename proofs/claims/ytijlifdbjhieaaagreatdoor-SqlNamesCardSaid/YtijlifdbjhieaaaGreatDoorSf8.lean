/-
  Contracts of sql.condText's closure, and of sql.condText where it prints a comparison.
-/
import Derived.Test.YtijlifdbjhieaaaGreatDoorSf7
namespace Go.Proofs.YtijlifdbjhieaaaGreatDoor
set_option linter.all false
open Go.RowKit Go.Shelf
attribute [local go_sem] cell_set_self lt_1 lt_2 lt_3 lt_4 lt_5 lt_6

set_option maxHeartbeats 4000000 in
set_option maxRecDepth 100000 in
theorem par_any (op : Int) (A : Option Addr) (n cc : Nat) (lc : List UInt8) (lt ln : Int) (ls rc : List UInt8) (rt rn : Int) (rs : List UInt8) (b : Bool) (X : List UInt8) (hX : X.length ≤ 1000000000) (w : World)
    (H : ∀ W, Below w.heap.size w W → Calls Tryz.prog 21 #[.agg #[.int .i64 op, .slice A n cc, .string ⟨lc.toArray⟩, .int .i64 lt, .int .i64 ln, .string ⟨ls.toArray⟩, .string ⟨rc.toArray⟩, .int .i64 rt, .int .i64 rn, .string ⟨rs.toArray⟩]] W fun e w' => e = .returned (.string ⟨X.toArray⟩) ∧ Below W.heap.size W w') :
    Calls Tryz.prog 46 #[.agg #[.int .i64 op, .slice A n cc, .string ⟨lc.toArray⟩, .int .i64 lt, .int .i64 ln, .string ⟨ls.toArray⟩, .string ⟨rc.toArray⟩, .int .i64 rt, .int .i64 rn, .string ⟨rs.toArray⟩], .bool b] w fun e w' => e = .returned (.string ⟨(parX b X).toArray⟩) ∧ Below w.heap.size w w' := by
  have HF := Lib.hid H
  have z1 : ¬ 9223372036854775807 < 1 + X.length := by omega
  have z2 : ¬ 9223372036854775807 < 1 + X.length + 1 := by omega
  clear H hX
  unfold parX
  cases b with
  | true =>
    go_enter Tryz.func46, Tryz.ntmps46
    go_wp2_with (first | (go_at_call 21; (with_reducible refine (HF.out _ (by repeat (first | exact Below.refl _ _ | refine Below.setCell ?_ (by first | (simp; done) | (simp; omega) | omega) _ | refine Below.alloc ?_ (by first | (simp; done) | (simp; omega) | omega) _ | refine Below.drew ?_ | assumption | refine Below.trans ?_ (Below.mono (by assumption) (by first | (simp; done) | (simp; omega) | omega))))).mono ?_); rintro e w4 ⟨rfl, hb4⟩))
    go_ret
    exact ⟨congrArg (fun s => Ending.returned (.string s)) (cat_l _ _ [41] (cat [40] X)), (by repeat (first | exact Below.refl _ _ | refine Below.setCell ?_ (by first | (simp; done) | (simp; omega) | omega) _ | refine Below.alloc ?_ (by first | (simp; done) | (simp; omega) | omega) _ | refine Below.drew ?_ | assumption | refine Below.trans ?_ (Below.mono (by assumption) (by first | (simp; done) | (simp; omega) | omega))))⟩
  | false =>
    rw [if_neg (by simp)]
    go_enter Tryz.func46, Tryz.ntmps46
    go_wp2_with (first | (go_at_call 21; (with_reducible refine (HF.out _ (by repeat (first | exact Below.refl _ _ | refine Below.setCell ?_ (by first | (simp; done) | (simp; omega) | omega) _ | refine Below.alloc ?_ (by first | (simp; done) | (simp; omega) | omega) _ | refine Below.drew ?_ | assumption | refine Below.trans ?_ (Below.mono (by assumption) (by first | (simp; done) | (simp; omega) | omega))))).mono ?_); rintro e w4 ⟨rfl, hb4⟩))
    go_ret
    exact ⟨rfl, (by repeat (first | exact Below.refl _ _ | refine Below.setCell ?_ (by first | (simp; done) | (simp; omega) | omega) _ | refine Below.alloc ?_ (by first | (simp; done) | (simp; omega) | omega) _ | refine Below.drew ?_ | assumption | refine Below.trans ?_ (Below.mono (by assumption) (by first | (simp; done) | (simp; omega) | omega))))⟩
theorem sgn_at {op : Int} (h4 : 4 ≤ op) (h9 : op ≤ 9) : ∃ k : Nat, op - 4 = (k : Int) ∧ k < 6 ∧ signsL[k]? = some (sgnX op) ∧ (sgnX op).length ≤ 2 := by
  have : op = 4 ∨ op = 5 ∨ op = 6 ∨ op = 7 ∨ op = 8 ∨ op = 9 := by omega
  rcases this with rfl | rfl | rfl | rfl | rfl | rfl
  · exact ⟨0, rfl, by decide, rfl, by decide⟩
  · exact ⟨1, rfl, by decide, rfl, by decide⟩
  · exact ⟨2, rfl, by decide, rfl, by decide⟩
  · exact ⟨3, rfl, by decide, rfl, by decide⟩
  · exact ⟨4, rfl, by decide, rfl, by decide⟩
  · exact ⟨5, rfl, by decide, rfl, by decide⟩
set_option maxHeartbeats 8000000 in
set_option maxRecDepth 100000 in
theorem comp_any (op : Int) (A : Option Addr) (n cc : Nat) (lc : List UInt8) (lt ln : Int) (ls rc : List UInt8) (rt rn : Int) (rs : List UInt8) (h4 : 4 ≤ op) (h9 : op ≤ 9)
    (hl : termB ⟨lc, lt, ln, ls⟩ = true) (hr : termB ⟨rc, rt, rn, rs⟩ = true) (hX : (termX ⟨lc, lt, ln, ls⟩).length + (termX ⟨rc, rt, rn, rs⟩).length ≤ 1000000000) (w : World) (E : Env w) :
    Calls Tryz.prog 21 #[.agg #[.int .i64 op, .slice A n cc, .string ⟨lc.toArray⟩, .int .i64 lt, .int .i64 ln, .string ⟨ls.toArray⟩, .string ⟨rc.toArray⟩, .int .i64 rt, .int .i64 rn, .string ⟨rs.toArray⟩]] w fun e w' => e = .returned (.string ⟨(termX ⟨lc, lt, ln, ls⟩ ++ [32] ++ sgnX op ++ [32] ++ termX ⟨rc, rt, rn, rs⟩).toArray⟩) ∧ Below w.heap.size w w' := by
  have TL := Lib.hid (fun W E' => termX_any lc lt ln ls hl W E')
  have TR := Lib.hid (fun W E' => termX_any rc rt rn rs hr W E')
  have SG := Lib.hid (fun W => signs_any W)
  have HE := Lib.hid E
  obtain ⟨k, hk, hk6, hsg, hsl⟩ := sgn_at h4 h9
  have HSG := Lib.hid hsg
  generalize termX ⟨lc, lt, ln, ls⟩ = XL at *
  generalize termX ⟨rc, rt, rn, rs⟩ = XR at *
  obtain ⟨S, hS⟩ : ∃ S, sgnX op = S := ⟨_, rfl⟩
  rw [hS] at hsl HSG ⊢
  clear hS hsg
  have z1 : ¬ 9223372036854775807 < XL.length + 1 := by omega
  have z2 : ¬ 9223372036854775807 < XL.length + 1 + S.length := by omega
  have z3 : ¬ 9223372036854775807 < XL.length + 1 + S.length + 1 := by omega
  have z4 : ¬ 9223372036854775807 < XL.length + 1 + S.length + 1 + XR.length := by omega
  have hop : (op = 4 ∧ k = 0) ∨ (op = 5 ∧ k = 1) ∨ (op = 6 ∧ k = 2) ∨ (op = 7 ∧ k = 3) ∨ (op = 8 ∧ k = 4) ∨ (op = 9 ∧ k = 5) := by omega
  clear hl hr hX E h4 h9 hk hk6 hsl
  have e1 : (op == 1) = false := by simp; omega
  have e2 : (op == 2) = false := by simp; omega
  have e3 : (op == 3) = false := by simp; omega
  have hk0 : (0 : Int) ≤ (k : Int) ∧ (k : Int) < 6 := by omega
  have hwk : IntKind.i64.wrap (op - 4) = (k : Int) := by
    rcases hop with ⟨rfl, rfl⟩ | ⟨rfl, rfl⟩ | ⟨rfl, rfl⟩ | ⟨rfl, rfl⟩ | ⟨rfl, rfl⟩ | ⟨rfl, rfl⟩ <;> decide
  clear hop
  go_enter Tryz.func21, Tryz.ntmps21
  go_upto_region 11 with (fail)
  go_region_law (first | (go_simp; go_at_call 47; (with_reducible refine (TL.out _ (HE.out.below (by repeat (first | exact Below.refl _ _ | refine Below.setCell ?_ (by first | (simp; done) | (simp; omega) | omega) _ | refine Below.alloc ?_ (by first | (simp; done) | (simp; omega) | omega) _ | refine Below.drew ?_ | assumption | refine Below.trans ?_ (Below.mono (by assumption) (by first | (simp; done) | (simp; omega) | omega)))))).mono ?_); rintro e w1 ⟨rfl, hb1⟩; obtain ⟨hc1, hf1⟩ := bcell hb1; (try simp only [drew_size, drew_cell, drew_frozen] at hc1 hf1); have hs1 := hb1.size; (try simp at hs1); have hz1 : w.heap.size < w1.heap.size := (by omega); clear TL) | (go_simp; go_at_call 48; ((with_reducible refine (SG.out _).mono ?_); rintro e w2 ⟨rfl, hS2, hb2⟩; obtain ⟨hc2, hf2⟩ := bcell hb2; (try simp only [drew_size, drew_cell, drew_frozen] at hc2 hf2); have hs2 := hb2.size; (try simp at hs2); have hz2 : w.heap.size < w2.heap.size := (by omega); obtain ⟨bS, oS, eS, lS, cS⟩ := hS2 _ S HSG.out; injection eS with eS; injection eS with eS1 eS2; subst eS1 eS2; (try simp only [drew_size, Nat.zero_add] at cS lS); clear hS2; have hw2 := hz2)) | (go_simp; go_at_call 47; (with_reducible refine (TR.out _ (HE.out.below (by repeat (first | exact Below.refl _ _ | refine Below.setCell ?_ (by first | (simp; done) | (simp; omega) | omega) _ | refine Below.alloc ?_ (by first | (simp; done) | (simp; omega) | omega) _ | refine Below.drew ?_ | assumption | refine Below.trans ?_ (Below.mono (by assumption) (by first | (simp; done) | (simp; omega) | omega)))))).mono ?_); rintro e w3 ⟨rfl, hb3⟩; obtain ⟨hc3, hf3⟩ := bcell hb3; (try simp only [drew_size, drew_cell, drew_frozen] at hc3 hf3); have hs3 := hb3.size; (try simp at hs3); have hz3 : w.heap.size < w3.heap.size := (by omega)))
  all_goals (
    go_wp2
    go_ret
    exact ⟨(congrArg (fun s => Ending.returned (.string s)) (cat_l _ _ XR (cat_l _ _ [32] (cat_l _ _ S (cat XL [32]))))).trans (by simp), (by repeat (first | exact Below.refl _ _ | refine Below.setCell ?_ (by first | (simp; done) | (simp; omega) | omega) _ | refine Below.alloc ?_ (by first | (simp; done) | (simp; omega) | omega) _ | refine Below.drew ?_ | assumption | refine Below.trans ?_ (Below.mono (by assumption) (by first | (simp; done) | (simp; omega) | omega))))⟩)
end Go.Proofs.YtijlifdbjhieaaaGreatDoor
