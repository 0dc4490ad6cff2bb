/-
  The walk of the statement MoneyWhole: it returns true, whatever it is given.
-/
import Derived.Test.YtdpoahfjiomhbaaGreatDoorMs6
import Derived.Test.YtdpoahfjiomhbaaGreatDoorXb
import Derived.Test.YtdpoahfjiomhbaaGreatDoorBw8
import Derived.Deep.CutBlock
import Derived.BigRegion
namespace Go.Proofs.YtdpoahfjiomhbaaGreatDoor
set_option linter.all false
open Go.RowKit Go.Sort
attribute [local go_sem] cell_set_self lt_1 lt_2 lt_3 lt_4 lt_5 lt_6

theorem am_amts {w : World} {g : Nat} {c : List UInt8} {l : List Int} (h : Amts w g ⟨c.toArray⟩ l) : Am w (some ⟨g, 0, none⟩) (l.map fun x => (x, c)) := fun i t ht => by
  rw [List.getElem?_map] at ht
  cases hx : l[i]? with
  | none => rw [hx] at ht; simp at ht
  | some x =>
    rw [hx] at ht
    simp at ht; subst ht
    obtain ⟨h1, h2⟩ := h.2 i x hx
    exact ⟨g, 0, rfl, h.1, by simpa using h1, by simpa using h2⟩
theorem totA_map (c : List UInt8) : ∀ l : List Int, totA (l.map fun x => (x, c)) = sumI l
  | [] => rfl
  | x :: r => by simp only [List.map_cons, totA, sumI]; rw [totA_map c r]
/-- The sum of the parts is the amount. -/
theorem sum_whole {u : Int} {c : List UInt8} {ws P : List Int} (hE : amE u c = 0) (W : WholeOK u ws P) : amR (sumCode c (P.map fun x => (x, c))) (totA (P.map fun x => (x, c))) c = .tuple #[.agg #[.int .i64 u, .string ⟨c.toArray⟩], .int .i64 0] := by
  have hsc : scE c = 0 := by
    rcases scE_cases c with k | k
    · exact k
    · unfold amE at hE; rw [if_neg (by omega), k] at hE; simp at hE
  have hu := amE_in hE
  have h0 : sumC c (P.map fun x => (x, c)) = 0 := (sumC_0 c _).2 fun t ht => by
    obtain ⟨x, hx, rfl⟩ := List.mem_map.1 ht
    obtain ⟨i, hi⟩ := List.getElem?_of_mem hx
    have hb := W.2.2.1 i
    rw [getD_of hi] at hb
    have e1 : amE x c = 0 := by unfold amE; rw [if_pos hsc, if_pos (inU_iff.2 hb)]
    have e2 : amE 0 c = 0 := by unfold amE; rw [if_pos hsc]; rfl
    simp only [pairE, e1, e2, fstE, if_true]
  have hs : sumCode c (P.map fun x => (x, c)) = 0 := by
    unfold sumCode; rw [if_pos hsc, if_pos h0, totA_map, W.2.1]; unfold maE; rw [if_pos hu]
  rw [amR_0 hs, totA_map, W.2.1]
theorem pt_neg {base : Nat} {w : World} {s : Bool} {A : Option Addr} {n c : Nat} {z : Int} (P : Pt base w s A n c z) : (s = true ∧ z < 0) ∨ (s = false ∧ ¬ z < 0) := by
  have := P.1
  by_cases h : z < 0
  · left; rw [decide_eq_true h] at this; exact ⟨this, h⟩
  · right; rw [decide_eq_false h] at this; exact ⟨this, h⟩
/-- A box that holds a Big. -/
def Bg (w : World) (b : Nat) (z : Int) : Prop := ∃ s A n c base, b < w.heap.size ∧ w.cell? ⟨b, 0, none⟩ = some (.bool s) ∧ w.cell? ⟨b, 1, none⟩ = some (.slice A n c) ∧ w.frozen? ⟨b, 0, none⟩ = false ∧ w.frozen? ⟨b, 1, none⟩ = false ∧ Pt base w s A n c z
theorem Bg.below {w W : World} {b : Nat} {z : Int} (h : Bg w b z) (hb : Below w.heap.size w W) : Bg W b z := by
  obtain ⟨s, A, n, c, base, h1, h2, h3, h4, h5, h6⟩ := h
  exact ⟨s, A, n, c, base, Nat.lt_of_lt_of_le h1 hb.size, (hb.cell (p := ⟨b, 0, none⟩) h1).trans h2, (hb.cell (p := ⟨b, 1, none⟩) h1).trans h3, (World.frozen?_of_block (hb.block b h1)).trans h4, (World.frozen?_of_block (hb.block b h1)).trans h5, h6.below hb⟩
set_option maxHeartbeats 16000000 in
set_option maxRecDepth 100000 in
theorem whole_big (u : Int) (c : List UInt8) (A : Option Addr) (k cp : Nat) (w : World) (E : Env w) (big : 110 < k ∨ (k ≤ 110 ∧ 200 < c.length)) :
    Calls Tryz.prog 7 #[.agg #[.int .i64 u, .string ⟨c.toArray⟩], .slice A k cp] w fun e w' => e = .returned (.bool true) ∧ Below w.heap.size w w' := by
  have F0 := Lib.hid (fun W (hb : Below w.heap.size w W) => first6_any W (E.below hb))
  have e1 := ba_szP c
  rw [← e1] at big
  clear E e1
  generalize (⟨c.toArray⟩ : ByteArray) = C at *
  rcases big with h1 | ⟨h1, h2⟩
  · have k0 : (110 : Int) < (k : Int) := by omega
    go_enter Tryz.func7, Tryz.ntmps7
    go_wp2_with (first | (go_at_call 18; refine (F0.out _ (by repeat (first | exact Below.refl _ _ | refine Below.setCell ?_ (by first | (simp; done) | (simp; omega) | omega) _ | refine Below.alloc ?_ (by first | (simp; done) | (simp; omega) | omega) _ | refine Below.drew ?_ | assumption | refine Below.trans ?_ (Below.mono (by assumption) (by first | (simp; done) | (simp; omega) | omega))))).mono ?_; rintro e w1 ⟨rfl, hb1⟩; obtain ⟨hc1, hf1⟩ := bcell hb1; have hs1 := hb1.size; (try simp at hs1); have hz1 : w.heap.size < w1.heap.size := by have := hb1.size; (try simp at this); omega))
    go_ret
    exact ⟨rfl, (by repeat (first | exact Below.refl _ _ | refine Below.setCell ?_ (by first | (simp; done) | (simp; omega) | omega) _ | refine Below.alloc ?_ (by first | (simp; done) | (simp; omega) | omega) _ | refine Below.drew ?_ | assumption | refine Below.trans ?_ (Below.mono (by assumption) (by first | (simp; done) | (simp; omega) | omega))))⟩
  · have k0 : ¬ (110 : Int) < (k : Int) := by omega
    have k1 : (200 : Int) < (C.size : Int) := by omega
    go_enter Tryz.func7, Tryz.ntmps7
    go_wp2_with (first | (go_at_call 18; refine (F0.out _ (by repeat (first | exact Below.refl _ _ | refine Below.setCell ?_ (by first | (simp; done) | (simp; omega) | omega) _ | refine Below.alloc ?_ (by first | (simp; done) | (simp; omega) | omega) _ | refine Below.drew ?_ | assumption | refine Below.trans ?_ (Below.mono (by assumption) (by first | (simp; done) | (simp; omega) | omega))))).mono ?_; rintro e w1 ⟨rfl, hb1⟩; obtain ⟨hc1, hf1⟩ := bcell hb1; have hs1 := hb1.size; (try simp at hs1); have hz1 : w.heap.size < w1.heap.size := by have := hb1.size; (try simp at this); omega))
    go_ret
    exact ⟨rfl, (by repeat (first | exact Below.refl _ _ | refine Below.setCell ?_ (by first | (simp; done) | (simp; omega) | omega) _ | refine Below.alloc ?_ (by first | (simp; done) | (simp; omega) | omega) _ | refine Below.drew ?_ | assumption | refine Below.trans ?_ (Below.mono (by assumption) (by first | (simp; done) | (simp; omega) | omega))))⟩
set_option maxHeartbeats 16000000 in
set_option maxRecDepth 100000 in
theorem whole_bad (u : Int) (c : List UInt8) (A : Option Addr) (n cp : Nat) (ws : List Int) (hl : ws.length = n) (hn : n ≤ 110) (lc : c.length ≤ 200) (hE : alE u c ws ≠ 0) (w : World) (T : Sl w A cp ws) (E : Env w) :
    Calls Tryz.prog 7 #[.agg #[.int .i64 u, .string ⟨c.toArray⟩], .slice A n cp] w fun e w' => e = .returned (.bool true) ∧ Below w.heap.size w w' := by
  have F0 := Lib.hid (fun W (hb : Below w.heap.size w W) => first6_any W (E.below hb))
  have NU := Lib.hid (fun n W => num_any n W)
  have AL := Lib.hid (fun W (hb : Below w.heap.size w W) => alloc_bad u c A n cp ws hl (by omega) hE W (T.below hb))
  have zc : ¬ (200 : Int) < ((⟨c.toArray⟩ : ByteArray).size : Int) := by rw [ba_szP]; omega
  have zn : ¬ (110 : Int) < (n : Int) := by omega
  generalize alE u c ws = x at *
  have x0 : (x != 0) = true := bne_iff_ne.2 hE
  clear E T hE hl lc
  generalize (⟨c.toArray⟩ : ByteArray) = C at *
  go_enter Tryz.func7, Tryz.ntmps7
  go_wp2_with (first | (go_at_call 18; refine (F0.out _ (by repeat (first | exact Below.refl _ _ | refine Below.setCell ?_ (by first | (simp; done) | (simp; omega) | omega) _ | refine Below.alloc ?_ (by first | (simp; done) | (simp; omega) | omega) _ | refine Below.drew ?_ | assumption | refine Below.trans ?_ (Below.mono (by assumption) (by first | (simp; done) | (simp; omega) | omega))))).mono ?_; rintro e w1 ⟨rfl, hb1⟩; obtain ⟨hc1, hf1⟩ := bcell hb1; have hs1 := hb1.size; (try simp at hs1); have hz1 : w.heap.size < w1.heap.size := by have := hb1.size; (try simp at this); omega) | (go_at_call 19; refine (AL.out _ (by repeat (first | exact Below.refl _ _ | refine Below.setCell ?_ (by first | (simp; done) | (simp; omega) | omega) _ | refine Below.alloc ?_ (by first | (simp; done) | (simp; omega) | omega) _ | refine Below.drew ?_ | assumption | refine Below.trans ?_ (Below.mono (by assumption) (by first | (simp; done) | (simp; omega) | omega))))).mono ?_; rintro e w2 ⟨rfl, hb2⟩; obtain ⟨hc2, hf2⟩ := bcell hb2; have hs2 := hb2.size; (try simp at hs2); have hz2 : w.heap.size < w2.heap.size := by have := hb2.size; (try simp at this); omega) | (go_at_call 17; refine (NU.out _ _).mono ?_; rintro e w3 ⟨rfl, hb3⟩; obtain ⟨hc3, hf3⟩ := bcell hb3; have hs3 := hb3.size; (try simp at hs3); have hz3 : w.heap.size < w3.heap.size := by have := hb3.size; (try simp at this); omega))
  go_ret
  exact ⟨rfl, (by repeat (first | exact Below.refl _ _ | refine Below.setCell ?_ (by first | (simp; done) | (simp; omega) | omega) _ | refine Below.alloc ?_ (by first | (simp; done) | (simp; omega) | omega) _ | refine Below.drew ?_ | assumption | refine Below.trans ?_ (Below.mono (by assumption) (by first | (simp; done) | (simp; omega) | omega))))⟩
set_option maxHeartbeats 32000000 in
set_option maxRecDepth 100000 in
theorem whole_main (u : Int) (c : List UInt8) (A : Option Addr) (n cp : Nat) (ws : List Int) (hl : ws.length = n) (lc : c.length ≤ 200) (hE : amE u c = 0) (hS : sumE ws = 0) (w : World) (T : Sl w A cp ws) (E : Env w) :
    Calls Tryz.prog 7 #[.agg #[.int .i64 u, .string ⟨c.toArray⟩], .slice A n cp] w fun e w' => e = .returned (.bool true) ∧ Below w.heap.size w w' := by
  have F0 := Lib.hid (fun W (hb : Below w.heap.size w W) => first6_any W (E.below hb))
  have NU := Lib.hid (fun n W => num_any n W)
  have AL : Hid (∀ W, Below w.heap.size w W → Calls Tryz.prog 19 #[.agg #[.int .i64 u, .string ⟨c.toArray⟩], .slice A n cp] W fun e w' => (∃ g cap P, e = .returned (.tuple #[.slice (some ⟨g, 0, none⟩) n cap, .int .i64 0]) ∧ Amts w' g ⟨c.toArray⟩ P ∧ WholeOK u ws P) ∧ Below W.heap.size W w') := Lib.hid fun W hb => (alloc_ok u c A n cp ws hl hE hS W (T.below hb)).mono fun e w' hh => by
    obtain ⟨⟨g, cap, h1, f, h2, h3⟩, h4⟩ := hh
    exact ⟨⟨g, cap, _, h1, h3, whole_ok hl hE hS h2⟩, h4⟩
  have SU : Hid (∀ g cap P W, Amts W g ⟨c.toArray⟩ P → WholeOK u ws P → Calls Tryz.prog 35 #[.string ⟨c.toArray⟩, .slice (some ⟨g, 0, none⟩) n cap] W fun e w' => e = .returned (.tuple #[.agg #[.int .i64 u, .string ⟨c.toArray⟩], .int .i64 0]) ∧ Below W.heap.size W w') := Lib.hid fun g cap P W hA hW => by
    have := msum_any c (some ⟨g, 0, none⟩) n cap (P.map fun x => (x, c)) (by rw [List.length_map, hW.1, hl]) (by have := (sumE_0 hS).1; omega) W (am_amts hA)
    rwa [sum_whole hE hW] at this
  obtain ⟨hn, n0, hw, hD⟩ := sumE_0 hS
  rw [hl] at hn n0
  have hub := inU_iff.1 (amE_in hE)
  have hDs := (sumI_bd hw).2
  have HW := Lib.hid (wOK_iff.1 hw)
  obtain ⟨gw, ow, hA, hgw, -⟩ := T.2.2 0 _ (List.getElem?_eq_getElem (by omega))
  subst hA
  have WS : Hid (∀ W, Below w.heap.size w W → ∀ k x, ws[k]? = some x → W.cell? ⟨gw, ow + k, none⟩ = some (.int .i64 x)) := Lib.hid fun W hb k x hx => by
    obtain ⟨b, off, e, _, hc⟩ := (T.below hb).2.2 k x hx
    injection e with e; injection e with e1 e2; subst e1 e2
    exact hc
  have HL := Lib.hid hl
  have HSUM : Hid (∀ k, 0 ≤ sumI (ws.take k) ∧ sumI (ws.take k) ≤ 2147483648 * 100) := Lib.hid fun k => by
    have := sumI_bd (wOK_take hw k)
    have h2 : (ws.take k).length ≤ 100 := by simp; omega
    omega
  have zc : ¬ (200 : Int) < ((⟨c.toArray⟩ : ByteArray).size : Int) := by rw [ba_szP]; omega
  have zn : ¬ (110 : Int) < (n : Int) := by omega
  have hD64 : sumI ws ≤ 2147483648 * 100 := by rw [hl] at hDs; omega
  have hDl : Hid (sumI ws = sumI (ws.take n)) := Lib.hid (by rw [List.take_of_length_le (by omega)])
  clear E T hl lc hE hS hw hDs
  generalize (⟨c.toArray⟩ : ByteArray) = C at *
  go_enter Tryz.func7, Tryz.ntmps7
  go_upto_region 10 with (first | (go_at_call 18; refine (F0.out _ (by repeat (first | exact Below.refl _ _ | refine Below.setCell ?_ (by first | (simp; done) | (simp; omega) | omega) _ | refine Below.alloc ?_ (by first | (simp; done) | (simp; omega) | omega) _ | refine Below.drew ?_ | assumption | refine Below.trans ?_ (Below.mono (by assumption) (by first | (simp; done) | (simp; omega) | omega))))).mono ?_; rintro e w1 ⟨rfl, hb1⟩; obtain ⟨hc1, hf1⟩ := bcell hb1; have hs1 := hb1.size; (try simp at hs1); have hz1 : w.heap.size < w1.heap.size := by have := hb1.size; (try simp at this); omega) | (go_at_call 19; (with_reducible refine (AL.out _ (by repeat (first | exact Below.refl _ _ | refine Below.setCell ?_ (by first | (simp; done) | (simp; omega) | omega) _ | refine Below.alloc ?_ (by first | (simp; done) | (simp; omega) | omega) _ | refine Below.drew ?_ | assumption | refine Below.trans ?_ (Below.mono (by assumption) (by first | (simp; done) | (simp; omega) | omega))))).mono ?_); rintro e w2 ⟨⟨g, cap, P, rfl, hAm, hWo⟩, hb2⟩; obtain ⟨hc2, hf2⟩ := bcell hb2; have hs2 := hb2.size; (try simp at hs2); have hz2 : w.heap.size < w2.heap.size := (by omega); have HAm := Lib.hid hAm; have HWo := Lib.hid hWo; clear hAm hWo) | (go_at_call 17; refine (NU.out _ _).mono ?_; rintro e w3 ⟨rfl, hb3⟩; obtain ⟨hc3, hf3⟩ := bcell hb3; have hs3 := hb3.size; (try simp at hs3); have hz3 : w.heap.size < w3.heap.size := by have := hb3.size; (try simp at this); omega) | (go_at_call 35; (with_reducible refine (SU.out _ _ _ _ (HAm.out.below (by repeat (first | exact Below.refl _ _ | refine Below.setCell ?_ (by first | (simp; done) | (simp; omega) | omega) _ | refine Below.alloc ?_ (by first | (simp; done) | (simp; omega) | omega) _ | refine Below.drew ?_ | assumption | refine Below.trans ?_ (Below.mono (by assumption) (by first | (simp; done) | (simp; omega) | omega))))) HWo.out).mono ?_); rintro e w4 ⟨rfl, hb4⟩; obtain ⟨hc4, hf4⟩ := bcell hb4; have hs4 := hb4.size; (try simp at hs4); have hz4 : w.heap.size < w4.heap.size := (by omega)) | (go_at_call 17; (with_reducible refine (NU.out _ _).mono ?_); rintro e w5 ⟨rfl, hb5⟩; obtain ⟨hc5, hf5⟩ := bcell hb5; have hs5 := hb5.size; (try simp at hs5); have hz5 : w.heap.size < w5.heap.size := (by omega)))
  have GA : Hid (Amts w3 g C P) := Lib.hid (HAm.out.below (by repeat (first | exact Below.refl _ _ | refine Below.setCell ?_ (by first | (simp; done) | (simp; omega) | omega) _ | refine Below.alloc ?_ (by first | (simp; done) | (simp; omega) | omega) _ | refine Below.drew ?_ | assumption | refine Below.trans ?_ (Below.mono (by assumption) (by first | (simp; done) | (simp; omega) | omega)))))
  have BW : Below w.heap.size w w3 := (by repeat (first | exact Below.refl _ _ | refine Below.setCell ?_ (by first | (simp; done) | (simp; omega) | omega) _ | refine Below.alloc ?_ (by first | (simp; done) | (simp; omega) | omega) _ | refine Below.drew ?_ | assumption | refine Below.trans ?_ (Below.mono (by assumption) (by first | (simp; done) | (simp; omega) | omega))))
  have BA : Hid (Bx w3 (w.heap.size) u C) := Lib.hid ⟨by omega, by simp [go_sem, *], by simp [go_sem, *]⟩
  have hsk := BW.size
  obtain ⟨wp, hwp⟩ : ∃ wp : World, w3 = wp := ⟨_, rfl⟩
  rw [hwp] at GA BW BA hsk ⊢
  clear hwp HAm AL SU F0
  go_wp2
  go_loopw [10, 11] (fun s i wr => ∃ (k : Nat) (z : Int), k ≤ n ∧ i = .int .i64 k ∧ s = .int .i64 z ∧ Hid (z = sumI (ws.take k)) ∧ Below wp.heap.size wp wr) (fun _ i _ => n - (intOf i).toNat)
  case atStart => exact ⟨0, 0, by omega, rfl, rfl, Lib.hid rfl, Below.refl _ _⟩
  case round =>
    obtain ⟨k, z, hk, rfl, rfl, HZ, hB⟩ := hrel
    obtain ⟨wo, rfl⟩ : ∃ wo : World, wo = wr := ⟨_, rfl⟩
    have hso := hB.size
    by_cases hlt : k < n
    · have hlt' : (k : Int) < (n : Int) := by omega
      obtain ⟨x, hx⟩ : ∃ x, ws[k]? = some x := ⟨_, List.getElem?_eq_getElem (by rw [HL.out]; exact hlt)⟩
      have cx := WS.out wo (BW.trans (hB.mono hsk)) k x hx
      have hgo : gw < wo.heap.size := by omega
      obtain ⟨z0, z1⟩ := HSUM.out (k + 1)
      rw [sumI_take hx, ← HZ.out] at z0 z1
      have hzw : IntKind.i64.wrap (z + x) = z + x := by rw [IntKind.wrap_i64]; omega
      have NZ : Hid (z + x = sumI (ws.take (k + 1))) := Lib.hid (by rw [sumI_take hx, HZ.out])
      clear hx
      go_wp2
      go_roundw
      case rel => exact ⟨k + 1, z + x, by omega, by go_num, by go_num, NZ, hB⟩
      case measure => first | (simp [intOf]; done) | (simp [intOf]; omega)
    · obtain rfl : k = n := by omega
      have hlt' : ¬ (k : Int) < (k : Int) := by omega
      replace BA := Lib.hid (BA.out.below hB)
      replace GA := Lib.hid (GA.out.below hB)
      replace BW := BW.trans (hB.mono hsk)
      obtain ⟨D, hD1⟩ : ∃ D, sumI ws = D := ⟨_, rfl⟩
      have hzD : z = D := by rw [HZ.out, ← hDl.out, hD1]
      rw [hD1] at hD hD64
      subst hzD
      have HD1 := Lib.hid hD1
      clear hD1 hDl HSUM HZ hB hsk hso hk
      obtain ⟨wp, rfl⟩ : ∃ wp : World, wp = wo := ⟨_, rfl⟩
      have hsk := BW.size
      have BD := Lib.hid (fun W => bigOf_any z ⟨by omega, by omega⟩ W)
      have BU := Lib.hid (fun W => bigOf_any u ⟨by omega, by omega⟩ W)
      go_wp2
      go_loopw [12] (fun i wr => ∃ k1 : Nat, k1 ≤ k ∧ i = .int .i64 k1 ∧ Below wp.heap.size wp wr) (fun i _ => k - (intOf i).toNat)
      case atStart => exact ⟨0, by omega, rfl, Below.refl _ _⟩
      case round =>
        obtain ⟨i, hi, rfl, hB⟩ := hrel
        obtain ⟨wo, rfl⟩ : ∃ wo : World, wo = wr := ⟨_, rfl⟩
        have hso := hB.size
        by_cases hlt : i < k
        · have hlti : (i : Int) < (k : Int) := by omega
          have BW2 : Below w.heap.size w wo := BW.trans (hB.mono hsk)
          obtain ⟨x, hx⟩ : ∃ x, ws[i]? = some x := ⟨_, List.getElem?_eq_getElem (by rw [HL.out]; exact hlt)⟩
          obtain ⟨q, hq⟩ : ∃ q, P[i]? = some q := ⟨_, List.getElem?_eq_getElem (by rw [HWo.out.1, HL.out]; exact hlt)⟩
          have cx := WS.out wo BW2 i x hx
          have ga := GA.out.below hB
          obtain ⟨cq, _⟩ := ga.2 i q hq
          obtain ⟨qa0, qa1, qa2⟩ := BA.out.below hB
          have hgo : gw < wo.heap.size ∧ g < wo.heap.size := ⟨by omega, ga.1⟩
          obtain ⟨x0, x1⟩ := HW.out x (List.mem_of_getElem? hx)
          obtain ⟨q0, q1⟩ := HWo.out.2.2.1 i
          obtain ⟨d0, d1, d2⟩ := HWo.out.2.2.2.1 i x hx
          rw [getD_of hq] at q0 q1 d0 d1 d2
          rw [HD1.out] at d0 d1
          have BP := Lib.hid (fun W => bigOf_any q ⟨by omega, by omega⟩ W)
          have BX := Lib.hid (fun W => bigOf_any x ⟨by omega, by omega⟩ W)
          have pb1 := prod_bd q0 q1 (n := z) ⟨by omega, by omega⟩
          have pb2 := prod_bd hub.1 hub.2 (n := x) ⟨by omega, by omega⟩
          have M1 : Hid (∀ s3 A3 n3 c3 s4 A4 n4 c4 b3 b4 W, Pt b3 W s3 A3 n3 c3 (q) → Pt b4 W s4 A4 n4 c4 (z) → Calls Tryz.prog 37 #[.agg #[.bool s3, .slice A3 n3 c3], .agg #[.bool s4, .slice A4 n4 c4]] W fun e w' => Res W.heap.size w' e (q * z) ∧ Below W.heap.size W w') := Lib.hid fun s3 A3 n3 c3 s4 A4 n4 c4 b3 b4 W X Y =>
        bigMul_any s3 s4 A3 A4 n3 n4 c3 c4 (q) (z) (by have := pt_n X (by omega); omega) (by have := pt_n Y (by omega); omega) W (X.mono (Nat.zero_le _)) (Y.mono (Nat.zero_le _))
          have M2 : Hid (∀ s3 A3 n3 c3 s4 A4 n4 c4 b3 b4 W, Pt b3 W s3 A3 n3 c3 (u) → Pt b4 W s4 A4 n4 c4 (x) → Calls Tryz.prog 37 #[.agg #[.bool s3, .slice A3 n3 c3], .agg #[.bool s4, .slice A4 n4 c4]] W fun e w' => Res W.heap.size w' e (u * x) ∧ Below W.heap.size W w') := Lib.hid fun s3 A3 n3 c3 s4 A4 n4 c4 b3 b4 W X Y =>
        bigMul_any s3 s4 A3 A4 n3 n4 c3 c4 (u) (x) (by have := pt_n X (by omega); omega) (by have := pt_n Y (by omega); omega) W (X.mono (Nat.zero_le _)) (Y.mono (Nat.zero_le _))
          have S1 : Hid (∀ s3 A3 n3 c3 s4 A4 n4 c4 b3 b4 W, Pt b3 W s3 A3 n3 c3 (q * z) → Pt b4 W s4 A4 n4 c4 (u * x) → Calls Tryz.prog 36 #[.agg #[.bool s3, .slice A3 n3 c3], .agg #[.bool s4, .slice A4 n4 c4]] W fun e w' => Res W.heap.size w' e (q * z - u * x) ∧ Below W.heap.size W w') := Lib.hid fun s3 A3 n3 c3 s4 A4 n4 c4 b3 b4 W X Y =>
        bigSub_any s3 s4 A3 A4 n3 n4 c3 c4 (q * z) (u * x) (by have := pt_n X (by omega); omega) (by have := pt_n Y (by omega); omega) W (X.mono (Nat.zero_le _)) (Y.mono (Nat.zero_le _))
          obtain ⟨r, hr⟩ : ∃ r, q * z - u * x = r := ⟨_, rfl⟩
          rw [hr] at S1 d0 d1
          have NG : Hid (∀ s A n c b W, Pt b W s A n c r → Calls Tryz.prog 39 #[.agg #[.bool s, .slice A n c]] W fun e w' => Res W.heap.size w' e (-r) ∧ Below W.heap.size W w') := Lib.hid fun s A n c b W X => bigNeg_any s A n c r (by have := pt_n X (by omega); omega) W (X.mono (Nat.zero_le _))
          have CM : Hid (∀ rr, 0 ≤ rr → rr < z → ∀ s3 A3 n3 c3 s4 A4 n4 c4 b3 b4 W, Pt b3 W s3 A3 n3 c3 rr → Pt b4 W s4 A4 n4 c4 z → Calls Tryz.prog 40 #[.agg #[.bool s3, .slice A3 n3 c3], .agg #[.bool s4, .slice A4 n4 c4]] W fun e w' => e = .returned (.int .i64 (-1)) ∧ Below W.heap.size W w') := Lib.hid fun rr h0 h1 s3 A3 n3 c3 s4 A4 n4 c4 b3 b4 W X Y => by
            have := bigCmp_any s3 s4 A3 A4 n3 n4 c3 c4 rr z (by have := pt_n X (by omega); omega) (by have := pt_n Y (by omega); omega) W (X.mono (Nat.zero_le _)) (Y.mono (Nat.zero_le _))
            rwa [show cmpI rr z = -1 by unfold cmpI; rw [if_pos h1]] at this
          have HX := Lib.hid hx
          have HQ := Lib.hid hq
          have D2 := Lib.hid d2
          clear hx hq pb1 pb2 hr d2 q0 q1 ga
          generalize q * z = qz at *
          generalize u * x = ux at *
          go_upto_region 18 with (fail)
          go_cut [13] from 82 to 100 (fun p wx => ∃ b : Nat, p = .pointer (some ⟨b, 0, none⟩) ∧ Hid (Bg wx b r) ∧ wo.heap.size ≤ b ∧ Below wo.heap.size wo wx)
          case first =>
            clear NG CM
            go_region_held3 (fun w' => w'.cell? ⟨g, i * 2, none⟩ = some (.int .i64 q) ∧ w'.cell? ⟨w.heap.size, 0, none⟩ = some (.int .i64 u) ∧ w'.cell? ⟨gw, ow + i, none⟩ = some (.int .i64 x) ∧ w.heap.size < w'.heap.size ∧ g < w'.heap.size ∧ gw < w'.heap.size ∧ Below wo.heap.size wo w')
      (first | (refine ⟨?_, ?_, ?_, ?_, ?_, ?_, ?_⟩ <;> first | (simp [go_sem, *]; done) | omega | (simp; omega) | exact (by repeat (first | exact Below.refl _ _ | refine Below.setCell ?_ (by first | (simp; done) | (simp; omega) | omega) _ | refine Below.alloc ?_ (by first | (simp; done) | (simp; omega) | omega) _ | refine Below.drew ?_ | assumption | refine Below.trans ?_ (Below.mono (by assumption) (by first | (simp; done) | (simp; omega) | omega))))))
      (first | (first | (go_at_call 38; (with_reducible refine (BP.out _).mono ?_); rintro e w10 ⟨⟨s10, A10, n10, c10, rfl, hP10⟩, hb10⟩; obtain ⟨hc10, hf10⟩ := bcell hb10; (try simp only [drew_size, drew_cell, drew_frozen] at hc10 hf10); have hs10 := hb10.size; (try simp at hs10); have hz10 : w.heap.size < w10.heap.size ∧ g < w10.heap.size ∧ gw < w10.heap.size := (by omega); have HP10 := Lib.hid hP10; clear hP10; (try have hyo_10 : wo.heap.size < w10.heap.size := by omega)) | (go_at_call 38; (with_reducible refine (BD.out _).mono ?_); rintro e w11 ⟨⟨s11, A11, n11, c11, rfl, hP11⟩, hb11⟩; obtain ⟨hc11, hf11⟩ := bcell hb11; (try simp only [drew_size, drew_cell, drew_frozen] at hc11 hf11); have hs11 := hb11.size; (try simp at hs11); have hz11 : w.heap.size < w11.heap.size ∧ g < w11.heap.size ∧ gw < w11.heap.size := (by omega); have HP11 := Lib.hid hP11; clear hP11; (try have hyo_11 : wo.heap.size < w11.heap.size := by omega); (try have hy10_11 : w10.heap.size < w11.heap.size := by omega)) | (go_at_call 37; (with_reducible refine (M1.out _ _ _ _ _ _ _ _ _ _ _ (HP10.out.below (by repeat (first | exact Below.refl _ _ | refine Below.setCell ?_ (by first | (simp; done) | (simp; omega) | omega) _ | refine Below.alloc ?_ (by first | (simp; done) | (simp; omega) | omega) _ | refine Below.drew ?_ | assumption | refine Below.trans ?_ (Below.mono (by assumption) (by first | (simp; done) | (simp; omega) | omega))))) (HP11.out.below (by repeat (first | exact Below.refl _ _ | refine Below.setCell ?_ (by first | (simp; done) | (simp; omega) | omega) _ | refine Below.alloc ?_ (by first | (simp; done) | (simp; omega) | omega) _ | refine Below.drew ?_ | assumption | refine Below.trans ?_ (Below.mono (by assumption) (by first | (simp; done) | (simp; omega) | omega)))))).mono ?_); rintro e w12 ⟨⟨s12, A12, n12, c12, rfl, hP12⟩, hb12⟩; obtain ⟨hc12, hf12⟩ := bcell hb12; (try simp only [drew_size, drew_cell, drew_frozen] at hc12 hf12); have hs12 := hb12.size; (try simp at hs12); have hz12 : w.heap.size < w12.heap.size ∧ g < w12.heap.size ∧ gw < w12.heap.size := (by omega); have HP12 := Lib.hid hP12; clear hP12; (try have hyo_12 : wo.heap.size < w12.heap.size := by omega); (try have hy10_12 : w10.heap.size < w12.heap.size := by omega); (try have hy11_12 : w11.heap.size < w12.heap.size := by omega)) | (go_at_call 38; (with_reducible refine (BU.out _).mono ?_); rintro e w13 ⟨⟨s13, A13, n13, c13, rfl, hP13⟩, hb13⟩; obtain ⟨hc13, hf13⟩ := bcell hb13; (try simp only [drew_size, drew_cell, drew_frozen] at hc13 hf13); have hs13 := hb13.size; (try simp at hs13); have hz13 : w.heap.size < w13.heap.size ∧ g < w13.heap.size ∧ gw < w13.heap.size := (by omega); have HP13 := Lib.hid hP13; clear hP13; (try have hyo_13 : wo.heap.size < w13.heap.size := by omega); (try have hy10_13 : w10.heap.size < w13.heap.size := by omega); (try have hy11_13 : w11.heap.size < w13.heap.size := by omega); (try have hy12_13 : w12.heap.size < w13.heap.size := by omega)) | (go_at_call 38; (with_reducible refine (BX.out _).mono ?_); rintro e w14 ⟨⟨s14, A14, n14, c14, rfl, hP14⟩, hb14⟩; obtain ⟨hc14, hf14⟩ := bcell hb14; (try simp only [drew_size, drew_cell, drew_frozen] at hc14 hf14); have hs14 := hb14.size; (try simp at hs14); have hz14 : w.heap.size < w14.heap.size ∧ g < w14.heap.size ∧ gw < w14.heap.size := (by omega); have HP14 := Lib.hid hP14; clear hP14; (try have hyo_14 : wo.heap.size < w14.heap.size := by omega); (try have hy10_14 : w10.heap.size < w14.heap.size := by omega); (try have hy11_14 : w11.heap.size < w14.heap.size := by omega); (try have hy12_14 : w12.heap.size < w14.heap.size := by omega); (try have hy13_14 : w13.heap.size < w14.heap.size := by omega)) | (go_at_call 37; (with_reducible refine (M2.out _ _ _ _ _ _ _ _ _ _ _ (HP13.out.below (by repeat (first | exact Below.refl _ _ | refine Below.setCell ?_ (by first | (simp; done) | (simp; omega) | omega) _ | refine Below.alloc ?_ (by first | (simp; done) | (simp; omega) | omega) _ | refine Below.drew ?_ | assumption | refine Below.trans ?_ (Below.mono (by assumption) (by first | (simp; done) | (simp; omega) | omega))))) (HP14.out.below (by repeat (first | exact Below.refl _ _ | refine Below.setCell ?_ (by first | (simp; done) | (simp; omega) | omega) _ | refine Below.alloc ?_ (by first | (simp; done) | (simp; omega) | omega) _ | refine Below.drew ?_ | assumption | refine Below.trans ?_ (Below.mono (by assumption) (by first | (simp; done) | (simp; omega) | omega)))))).mono ?_); rintro e w15 ⟨⟨s15, A15, n15, c15, rfl, hP15⟩, hb15⟩; obtain ⟨hc15, hf15⟩ := bcell hb15; (try simp only [drew_size, drew_cell, drew_frozen] at hc15 hf15); have hs15 := hb15.size; (try simp at hs15); have hz15 : w.heap.size < w15.heap.size ∧ g < w15.heap.size ∧ gw < w15.heap.size := (by omega); have HP15 := Lib.hid hP15; clear hP15; (try have hyo_15 : wo.heap.size < w15.heap.size := by omega); (try have hy10_15 : w10.heap.size < w15.heap.size := by omega); (try have hy11_15 : w11.heap.size < w15.heap.size := by omega); (try have hy12_15 : w12.heap.size < w15.heap.size := by omega); (try have hy13_15 : w13.heap.size < w15.heap.size := by omega); (try have hy14_15 : w14.heap.size < w15.heap.size := by omega)) | (go_at_call 36; (with_reducible refine (S1.out _ _ _ _ _ _ _ _ _ _ _ (HP12.out.below (by repeat (first | exact Below.refl _ _ | refine Below.setCell ?_ (by first | (simp; done) | (simp; omega) | omega) _ | refine Below.alloc ?_ (by first | (simp; done) | (simp; omega) | omega) _ | refine Below.drew ?_ | assumption | refine Below.trans ?_ (Below.mono (by assumption) (by first | (simp; done) | (simp; omega) | omega))))) (HP15.out.below (by repeat (first | exact Below.refl _ _ | refine Below.setCell ?_ (by first | (simp; done) | (simp; omega) | omega) _ | refine Below.alloc ?_ (by first | (simp; done) | (simp; omega) | omega) _ | refine Below.drew ?_ | assumption | refine Below.trans ?_ (Below.mono (by assumption) (by first | (simp; done) | (simp; omega) | omega)))))).mono ?_); rintro e w16 ⟨⟨s16, A16, n16, c16, rfl, hP16⟩, hb16⟩; obtain ⟨hc16, hf16⟩ := bcell hb16; (try simp only [drew_size, drew_cell, drew_frozen] at hc16 hf16); have hs16 := hb16.size; (try simp at hs16); have hz16 : w.heap.size < w16.heap.size ∧ g < w16.heap.size ∧ gw < w16.heap.size := (by omega); have HP16 := Lib.hid hP16; clear hP16; (try have hyo_16 : wo.heap.size < w16.heap.size := by omega); (try have hy10_16 : w10.heap.size < w16.heap.size := by omega); (try have hy11_16 : w11.heap.size < w16.heap.size := by omega); (try have hy12_16 : w12.heap.size < w16.heap.size := by omega); (try have hy13_16 : w13.heap.size < w16.heap.size := by omega); (try have hy14_16 : w14.heap.size < w16.heap.size := by omega); (try have hy15_16 : w15.heap.size < w16.heap.size := by omega))))
            all_goals (
              go_wp2_with (fail)
              go_meet
              exact ⟨_, rfl, Lib.hid ⟨s16, A16, n16, c16, _, by first | (simp; done) | (simp; omega) | omega, by simp [go_sem, *], by simp [go_sem, *], by simp [go_sem, *], by simp [go_sem, *], by first | (refine (HP16.out.setCell _ ?_).setCell _ ?_ <;> (first | (simp; done) | (simp; omega) | omega)) | (refine HP16.out.below ?_; exact (by repeat (first | exact Below.refl _ _ | refine Below.setCell ?_ (by first | (simp; done) | (simp; omega) | omega) _ | refine Below.alloc ?_ (by first | (simp; done) | (simp; omega) | omega) _ | refine Below.drew ?_ | assumption | refine Below.trans ?_ (Below.mono (by assumption) (by first | (simp; done) | (simp; omega) | omega)))))⟩, by first | (simp; done) | (simp; omega) | omega, (by repeat (first | exact Below.refl _ _ | refine Below.setCell ?_ (by first | (simp; done) | (simp; omega) | omega) _ | refine Below.alloc ?_ (by first | (simp; done) | (simp; omega) | omega) _ | refine Below.drew ?_ | assumption | refine Below.trans ?_ (Below.mono (by assumption) (by first | (simp; done) | (simp; omega) | omega))))⟩)
          case rest =>
          obtain ⟨b, rfl, QB, hbo, hC1⟩ := hcut
          obtain ⟨wn1, rfl⟩ : ∃ wn1 : World, wn1 = wc := ⟨_, rfl⟩
          clear BP BX M1 M2 S1 cq cx
          have hS1 := hC1.size
          have hwb : w.heap.size < b := by omega
          obtain ⟨s9, A9, n9, c9, base9, b9, cc0, cc1, ff0, ff1, PT⟩ := QB.out
          have HPT := Lib.hid PT
          clear PT
          go_upto_if 102 with (fail)
          go_cut [] from 103 to 104 (fun wx => Hid (∃ r2, (0 ≤ r2 ∧ r2 < z) ∧ Bg wx b r2) ∧ Below wo.heap.size wo wx)
          case first =>
            clear CM BD BU
            rcases pt_neg HPT.out with ⟨rfl, hn⟩ | ⟨rfl, hn⟩
            · go_wp2_with (first | (go_at_call 39; (with_reducible refine (NG.out _ _ _ _ _ _ (HPT.out.below (by repeat (first | exact Below.refl _ _ | refine Below.setCell ?_ (by first | (simp; done) | (simp; omega) | omega) _ | refine Below.alloc ?_ (by first | (simp; done) | (simp; omega) | omega) _ | refine Below.drew ?_ | assumption | refine Below.trans ?_ (Below.mono (by assumption) (by first | (simp; done) | (simp; omega) | omega)))))).mono ?_); rintro e w11 ⟨⟨s11, A11, n11, c11, rfl, hP11⟩, hb11⟩; obtain ⟨hc11, hf11⟩ := bcell hb11; have hs11 := hb11.size; (try simp at hs11); have hz11 : b < w11.heap.size ∧ w.heap.size < w11.heap.size := (by omega); have HP11 := Lib.hid hP11; clear hP11))
              go_meet
              exact ⟨Lib.hid ⟨-r, by omega, s11, A11, n11, c11, _, by first | (simp; done) | (simp; omega) | omega, by simp [go_sem, *], by simp [go_sem, *], by simp [go_sem, *], by simp [go_sem, *], (HP11.out.setCell _ (by first | (simp; done) | (simp; omega) | omega)).setCell _ (by first | (simp; done) | (simp; omega) | omega)⟩, (by repeat (first | exact Below.refl _ _ | refine Below.setCell ?_ (by first | (simp; done) | (simp; omega) | omega) _ | refine Below.alloc ?_ (by first | (simp; done) | (simp; omega) | omega) _ | refine Below.drew ?_ | assumption | refine Below.trans ?_ (Below.mono (by assumption) (by first | (simp; done) | (simp; omega) | omega))))⟩
            · go_wp2_with (fail)
              go_meet
              exact ⟨Lib.hid ⟨r, by omega, QB.out⟩, hC1⟩
          case rest =>
          obtain ⟨QB2, hC2⟩ := hcut
          obtain ⟨wn2, rfl⟩ : ∃ wn2 : World, wn2 = wc := ⟨_, rfl⟩
          obtain ⟨r2, hr2, s8, A8, n8, c8, base8, b8, dd0, dd1, _, _, PT8⟩ := QB2.out
          have HPT8 := Lib.hid PT8
          have CM2 := Lib.hid (CM.out r2 hr2.1 hr2.2)
          have hS2 := hC2.size
          have BW3 : Below w.heap.size w wn2 := BW2.trans (hC2.mono BW2.size)
          have cx := WS.out wn2 BW3 i x HX.out
          obtain ⟨qa3, qa4, qa5⟩ := BA.out.below (hB.trans (hC2.mono hB.size))
          obtain ⟨cq, _⟩ := (GA.out.below (hB.trans (hC2.mono hB.size))).2 i q HQ.out
          have hgo2 : gw < wn2.heap.size ∧ g < wn2.heap.size := by omega
          clear PT8 QB QB2 NG CM HPT cc0 cc1 ff0 ff1 hc2 hf2 qa0 qa1 qa2
          have xq : (x = 0 ∧ q = 0) ∨ (x == 0) = false := by
            by_cases h : x = 0
            · exact .inl ⟨h, D2.out h⟩
            · exact .inr (by simpa using h)
          go_upto_region 21 with (fail)
          have XQ := Lib.hid xq
          clear xq
          go_cut [124] from 105 to 123 (fun p wx => p = .bool false ∧ Below wn2.heap.size wn2 wx)
          case first =>
            clear BU NU
            rcases XQ.out with ⟨rfl, rfl⟩ | hx0
            · (first | go_region_law (first | (go_simp; go_at_call 38; (with_reducible refine (BD.out _).mono ?_); rintro e w20 ⟨⟨s20, A20, n20, c20, rfl, hP20⟩, hb20⟩; obtain ⟨hc20, hf20⟩ := bcell hb20; (try simp only [drew_size, drew_cell, drew_frozen] at hc20 hf20); have hs20 := hb20.size; (try simp at hs20); have hz20 : b < w20.heap.size ∧ g < w20.heap.size ∧ gw < w20.heap.size := (by omega); have HP20 := Lib.hid hP20; clear hP20) | (go_simp; go_at_call 40; (with_reducible refine (CM2.out _ _ _ _ _ _ _ _ _ _ _ (HPT8.out.below (by repeat (first | exact Below.refl _ _ | refine Below.setCell ?_ (by first | (simp; done) | (simp; omega) | omega) _ | refine Below.alloc ?_ (by first | (simp; done) | (simp; omega) | omega) _ | refine Below.drew ?_ | assumption | refine Below.trans ?_ (Below.mono (by assumption) (by first | (simp; done) | (simp; omega) | omega))))) (HP20.out.below (by repeat (first | exact Below.refl _ _ | refine Below.setCell ?_ (by first | (simp; done) | (simp; omega) | omega) _ | refine Below.alloc ?_ (by first | (simp; done) | (simp; omega) | omega) _ | refine Below.drew ?_ | assumption | refine Below.trans ?_ (Below.mono (by assumption) (by first | (simp; done) | (simp; omega) | omega)))))).mono ?_); rintro e w21 ⟨rfl, hb21⟩; obtain ⟨hc21, hf21⟩ := bcell hb21; (try simp only [drew_size, drew_cell, drew_frozen] at hc21 hf21); have hs21 := hb21.size; (try simp at hs21); have hz21 : b < w21.heap.size ∧ g < w21.heap.size ∧ gw < w21.heap.size := (by omega))) | fail)
              all_goals (
                go_wp2_with (fail)
                go_meet
                exact ⟨rfl, (by repeat (first | exact Below.refl _ _ | refine Below.setCell ?_ (by first | (simp; done) | (simp; omega) | omega) _ | refine Below.alloc ?_ (by first | (simp; done) | (simp; omega) | omega) _ | refine Below.drew ?_ | assumption | refine Below.trans ?_ (Below.mono (by assumption) (by first | (simp; done) | (simp; omega) | omega))))⟩)
            · (first | go_region_law (first | (go_simp; go_at_call 38; (with_reducible refine (BD.out _).mono ?_); rintro e w20 ⟨⟨s20, A20, n20, c20, rfl, hP20⟩, hb20⟩; obtain ⟨hc20, hf20⟩ := bcell hb20; (try simp only [drew_size, drew_cell, drew_frozen] at hc20 hf20); have hs20 := hb20.size; (try simp at hs20); have hz20 : b < w20.heap.size ∧ g < w20.heap.size ∧ gw < w20.heap.size := (by omega); have HP20 := Lib.hid hP20; clear hP20) | (go_simp; go_at_call 40; (with_reducible refine (CM2.out _ _ _ _ _ _ _ _ _ _ _ (HPT8.out.below (by repeat (first | exact Below.refl _ _ | refine Below.setCell ?_ (by first | (simp; done) | (simp; omega) | omega) _ | refine Below.alloc ?_ (by first | (simp; done) | (simp; omega) | omega) _ | refine Below.drew ?_ | assumption | refine Below.trans ?_ (Below.mono (by assumption) (by first | (simp; done) | (simp; omega) | omega))))) (HP20.out.below (by repeat (first | exact Below.refl _ _ | refine Below.setCell ?_ (by first | (simp; done) | (simp; omega) | omega) _ | refine Below.alloc ?_ (by first | (simp; done) | (simp; omega) | omega) _ | refine Below.drew ?_ | assumption | refine Below.trans ?_ (Below.mono (by assumption) (by first | (simp; done) | (simp; omega) | omega)))))).mono ?_); rintro e w21 ⟨rfl, hb21⟩; obtain ⟨hc21, hf21⟩ := bcell hb21; (try simp only [drew_size, drew_cell, drew_frozen] at hc21 hf21); have hs21 := hb21.size; (try simp at hs21); have hz21 : b < w21.heap.size ∧ g < w21.heap.size ∧ gw < w21.heap.size := (by omega))) | fail)
              all_goals (
                go_wp2_with (fail)
                go_meet
                exact ⟨rfl, (by repeat (first | exact Below.refl _ _ | refine Below.setCell ?_ (by first | (simp; done) | (simp; omega) | omega) _ | refine Below.alloc ?_ (by first | (simp; done) | (simp; omega) | omega) _ | refine Below.drew ?_ | assumption | refine Below.trans ?_ (Below.mono (by assumption) (by first | (simp; done) | (simp; omega) | omega))))⟩)
          case rest =>
          obtain ⟨rfl, hC3⟩ := hcut
          obtain ⟨wn3, rfl⟩ : ∃ wn3 : World, wn3 = wc := ⟨_, rfl⟩
          have hC4 := hC2.trans (hC3.mono hC2.size)
          have HC5 := Lib.hid (hB.trans (hC4.mono hB.size))
          have hC6 := HC5.out
          have hs6 := hC6.size
          clear hC2 hC3 hC1 CM2 HPT8 XQ dd0 dd1 cx cq qa3 qa4 qa5 hC4 D2
          go_wp2
          go_loopw [14] (fun j wr => ∃ k2 : Nat, k2 ≤ k ∧ j = .int .i64 k2 ∧ Below wp.heap.size wp wr) (fun j _ => k - (intOf j).toNat)
          case atStart => exact ⟨0, by omega, rfl, hC6⟩
          case round =>
            obtain ⟨j, hj, rfl, hBj⟩ := hrel
            obtain ⟨wq, rfl⟩ : ∃ wq : World, wq = wr := ⟨_, rfl⟩
            have hsq := hBj.size
            by_cases hltj : j < k
            · have hltj' : (j : Int) < (k : Int) := by omega
              have BW4 : Below w.heap.size w wq := BW.trans (hBj.mono hsk)
              obtain ⟨y, hy⟩ : ∃ y, ws[j]? = some y := ⟨_, List.getElem?_eq_getElem (by rw [HL.out]; exact hltj)⟩
              obtain ⟨p, hp⟩ : ∃ p, P[j]? = some p := ⟨_, List.getElem?_eq_getElem (by rw [HWo.out.1, HL.out]; exact hltj)⟩
              have cy := WS.out wq BW4 j y hy
              have cx := WS.out wq BW4 i x HX.out
              have ga := GA.out.below hBj
              have cp1 := (ga.2 j p hp).1
              have cq1 := (ga.2 i q HQ.out).1
              obtain ⟨qa0, qa1, qa2⟩ := BA.out.below hBj
              have hgo3 : gw < wq.heap.size ∧ g < wq.heap.size := ⟨by omega, ga.1⟩
              have W4 := HWo.out.2.2.2.2 i j x y HX.out hy
              rw [getD_of HQ.out, getD_of hp] at W4
              have CS : (¬ x < y) ∨ (x < y ∧ 0 ≤ u ∧ ¬ u < 0 ∧ ¬ p < q) ∨ (x < y ∧ ¬ 0 ≤ u ∧ u < 0 ∧ ¬ q < p) := by
                by_cases h1 : x < y
                · have := W4 h1
                  by_cases h2 : u < 0
                  · right; right; exact ⟨h1, by omega, h2, by have := this.2 h2; omega⟩
                  · right; left; exact ⟨h1, by omega, h2, by have := this.1 (by omega); omega⟩
                · exact .inl h1
              clear W4 hy hp ga
              rcases CS with h1 | ⟨h1, h2, h3, h4⟩ | ⟨h1, h2, h3, h4⟩
              · skip
                have d1 : decide (x < y) = false := decide_eq_false h1
                go_upto_region 26 with (fail)
                go_big_region
                all_goals (
                  go_wp2
                  go_roundw
                  case rel => exact ⟨j + 1, by omega, by go_num, hBj.trans (Below.mono (show Below wq.heap.size wq _ from (by repeat (first | exact Below.refl _ _ | refine Below.setCell ?_ (by first | (simp; done) | (simp; omega) | omega) _ | refine Below.alloc ?_ (by first | (simp; done) | (simp; omega) | omega) _ | refine below_drewN ?_ _ | refine Below.drew ?_ | assumption | refine Below.trans ?_ (Below.mono (by assumption) (by first | (simp; done) | (simp; omega) | omega))))) hsq)⟩
                  case measure => first | (simp [intOf]; done) | (simp [intOf]; omega))
              · skip
                have d1 : decide (x < y) = true := decide_eq_true h1
                have d2 : decide (0 ≤ u) = true := decide_eq_true h2
                have d3 : decide (u < 0) = false := decide_eq_false h3
                have d4 : decide (p < q) = false := decide_eq_false h4
                go_upto_region 26 with (fail)
                go_big_region
                all_goals (
                  go_wp2
                  go_roundw
                  case rel => exact ⟨j + 1, by omega, by go_num, hBj.trans (Below.mono (show Below wq.heap.size wq _ from (by repeat (first | exact Below.refl _ _ | refine Below.setCell ?_ (by first | (simp; done) | (simp; omega) | omega) _ | refine Below.alloc ?_ (by first | (simp; done) | (simp; omega) | omega) _ | refine below_drewN ?_ _ | refine Below.drew ?_ | assumption | refine Below.trans ?_ (Below.mono (by assumption) (by first | (simp; done) | (simp; omega) | omega))))) hsq)⟩
                  case measure => first | (simp [intOf]; done) | (simp [intOf]; omega))
              · skip
                have d1 : decide (x < y) = true := decide_eq_true h1
                have d2 : decide (0 ≤ u) = false := decide_eq_false h2
                have d3 : decide (u < 0) = true := decide_eq_true h3
                have d4 : decide (q < p) = false := decide_eq_false h4
                go_upto_region 26 with (fail)
                go_big_region
                all_goals (
                  go_wp2
                  go_roundw
                  case rel => exact ⟨j + 1, by omega, by go_num, hBj.trans (Below.mono (show Below wq.heap.size wq _ from (by repeat (first | exact Below.refl _ _ | refine Below.setCell ?_ (by first | (simp; done) | (simp; omega) | omega) _ | refine Below.alloc ?_ (by first | (simp; done) | (simp; omega) | omega) _ | refine below_drewN ?_ _ | refine Below.drew ?_ | assumption | refine Below.trans ?_ (Below.mono (by assumption) (by first | (simp; done) | (simp; omega) | omega))))) hsq)⟩
                  case measure => first | (simp [intOf]; done) | (simp [intOf]; omega))
            · obtain rfl : j = k := by omega
              have hltj' : ¬ (j : Int) < (j : Int) := by omega
              go_wp2
              go_roundw
              case rel => exact ⟨i + 1, by omega, by go_num, hBj⟩
              case measure => first | (simp [intOf]; done) | (simp [intOf]; omega)
        · obtain rfl : i = k := by omega
          have hlti : ¬ (i : Int) < (i : Int) := by omega
          go_wp2
          go_ret
          exact ⟨rfl, BW.trans (hB.mono hsk)⟩
theorem whole_walk6 (u : Int) (c : List UInt8) (A : Option Addr) (n cp : Nat) (ws : List Int) (hl : ws.length = n) (_hm : n ≤ 9223372036854775807) (_hu : In64 u) (_hw : ∀ x ∈ ws, In64 x) (w : World) (T : Sl w A cp ws) (E : Env w) :
    Calls Tryz.prog 7 #[.agg #[.int .i64 u, .string ⟨c.toArray⟩], .slice A n cp] w fun e w' => e = .returned (.bool true) ∧ Below w.heap.size w w' := by
  by_cases h1 : 110 < n
  · exact whole_big u c A n cp w E (.inl h1)
  by_cases h2 : 200 < c.length
  · exact whole_big u c A n cp w E (.inr ⟨by omega, h2⟩)
  by_cases h3 : alE u c ws = 0
  · have hE : amE u c = 0 := by
      unfold alE at h3
      by_cases k : amE u c = 0
      · exact k
      · rw [if_neg k] at h3; exact h3
    have hS : sumE ws = 0 := by unfold alE at h3; rwa [if_pos hE] at h3
    exact whole_main u c A n cp ws hl (by omega) hE hS w T E
  · exact whole_bad u c A n cp ws hl (by omega) (by omega) h3 w T E
end Go.Proofs.YtdpoahfjiomhbaaGreatDoor
