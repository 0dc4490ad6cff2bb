/-
  What Allocate's first loop keeps: three rows of its own, a cell that holds the third.
-/
import Derived.Test.YtakfjdnpfhcgkaaGreatDoorDk3
import Derived.Test.YtakfjdnpfhcgkaaGreatDoorMc4
import Derived.Test.YtakfjdnpfhcgkaaGreatDoorPw3
import Derived.Laws.OwnMore
/-
  Contract of wide.Int.QuoRem, of a number not below 0 by one above 0.
-/
namespace Go.Proofs.YtakfjdnpfhcgkaaGreatDoor
set_option linter.all false
open Go.RowKit Go.Sort
attribute [local go_sem] cell_set_self lt_1 lt_2 lt_3 lt_4 lt_5 lt_6

set_option maxHeartbeats 4000000 in
set_option maxRecDepth 100000 in
theorem quoRem_any (a d : Int) (h0 : 0 ≤ a) (h1 : a ≤ 85070591730234615865843651857942052864) (hd : In64 d) (hd0 : 0 < d) (w : World) :
    Calls Tryz.prog 17 #[.agg #[.int .u64 (hiOf a), .int .u64 (loOf a)], .int .i64 d] w fun e w' => e = .returned (.tuple #[.agg #[.int .u64 (hiOf (a / d)), .int .u64 (loOf (a / d))], .int .i64 (a % d), .int .i64 0]) ∧ Below w.heap.size w w' := by
  have ha : In128 a := by unfold In128; omega
  have ab : absI a = a := by unfold absI; rw [if_neg (by omega)]
  have ad : absI d = d := by unfold absI; rw [if_neg (by omega)]
  have hn := negW_eq a ha
  rw [decide_eq_false (by omega)] at hn
  have q0 := Int.ediv_nonneg h0 (show 0 ≤ d by omega)
  have q1 := Int.ediv_le_self d h0
  have r0 := Int.emod_nonneg a (show d ≠ 0 by omega)
  have r1 := Int.emod_lt_of_pos a hd0
  have hd2 := hd.2
  have SZ := Lib.hid (fun W => size_any a ha W)
  rw [ab] at SZ
  have WO := Lib.hid (fun W => wordOf_any d hd W)
  rw [ad] at WO
  have QU := Lib.hid (fun W => quo_any a d (by unfold Sz128; omega) hd0 (by omega) W)
  have S1 := Lib.hid (fun W => signed_fits (a / d) false (by unfold Sz128; omega) (a / d) rfl (by unfold In128; omega) W)
  have S2 := Lib.hid (fun W => signed_fits (a % d) false (by unfold Sz128; omega) (a % d) rfl (by unfold In128; omega) W)
  have BL := Lib.hid (fun W => below_any a W)
  rw [hn] at BL
  have e1 : hiOf (a % d) = 0 := by unfold hiOf; omega
  have e2 : loOf (a % d) = a % d := by unfold loOf; omega
  rw [e1, e2] at S2
  have e3 : IntKind.i64.wrap (a % d) = a % d := by rw [IntKind.wrap_i64]; omega
  have d0 : (d == 0) = false := by simp; omega
  have d1 : decide (d < 0) = false := by simp; omega
  obtain ⟨x, hx⟩ : ∃ x, hiOf a = x := ⟨_, rfl⟩
  obtain ⟨y, hy⟩ : ∃ y, loOf a = y := ⟨_, rfl⟩
  rw [hx, hy] at SZ BL ⊢
  rw [hx, hy] at QU
  clear ha ab ad hn q0 q1 hd e1 e2 hx hy h0 h1
  generalize hiOf (a / d) = hq at *
  generalize loOf (a / d) = lq at *
  generalize a % d = r at *
  go_enter Tryz.func17, Tryz.ntmps17
  go_wp2_with (first | (go_at_call 41; refine (WO.out _).mono ?_; rintro e w1 ⟨rfl, hb1⟩; obtain ⟨hc1, hf1⟩ := bcell hb1; have hs1 := hb1.size; (try simp at hs1); have hz1 : w.heap.size < w1.heap.size ∧ w.heap.size + 1 < w1.heap.size := by have := hb1.size; (try simp at this); omega) | (go_at_call 43; refine (SZ.out _).mono ?_; rintro e w2 ⟨rfl, hb2⟩; obtain ⟨hc2, hf2⟩ := bcell hb2; have hs2 := hb2.size; (try simp at hs2); have hz2 : w.heap.size < w2.heap.size ∧ w.heap.size + 1 < w2.heap.size := by have := hb2.size; (try simp at this); omega) | (go_at_call 44; refine (QU.out _).mono ?_; rintro e w3 ⟨rfl, hb3⟩; obtain ⟨hc3, hf3⟩ := bcell hb3; have hs3 := hb3.size; (try simp at hs3); have hz3 : w.heap.size < w3.heap.size ∧ w.heap.size + 1 < w3.heap.size := by have := hb3.size; (try simp at this); omega))
  have hzz : w.heap.size < w3.heap.size + 1 ∧ w.heap.size + 1 < w3.heap.size + 1 ∧ w.heap.size < w3.heap.size + 1 + 1 ∧ w.heap.size + 1 < w3.heap.size + 1 + 1 := by omega
  go_cut [9, 10] from 24 to 33 (fun p e wc => ∃ b : Nat, p = .pointer (some ⟨b, 0, none⟩) ∧ e = .int .i64 0 ∧ (wc.cell? ⟨b, 0, none⟩ = some (.int .u64 hq) ∧ wc.cell? ⟨b, 1, none⟩ = some (.int .u64 lq)) ∧ (wc.cell? ⟨w.heap.size, 0, none⟩ = some (.int .u64 x) ∧ wc.cell? ⟨w.heap.size, 1, none⟩ = some (.int .u64 y)) ∧ (wc.cell? ⟨w.heap.size + 1, 0, none⟩ = some (.int .u64 0) ∧ wc.cell? ⟨w.heap.size + 1, 1, none⟩ = some (.int .u64 0)) ∧ (wc.frozen? ⟨w.heap.size + 1, 0, none⟩ = false ∧ wc.frozen? ⟨w.heap.size + 1, 1, none⟩ = false) ∧ b < wc.heap.size ∧ w.heap.size + 1 < b ∧ w.heap.size + 1 < wc.heap.size ∧ Below w.heap.size w wc)
  case first =>
    go_region_law (first | (go_simp; go_at_call 45; (refine (BL.out _).mono ?_); rintro e w4 ⟨rfl, hb4⟩; obtain ⟨hc4, hf4⟩ := bcell hb4; (try simp only [drew_sizeM, drew_cellM, drew_frozenM] at hc4 hf4); have hs4 := hb4.size; (try simp at hs4); have hz4 : w.heap.size < w4.heap.size ∧ w.heap.size + 1 < w4.heap.size ∧ w3.heap.size < w4.heap.size := (by omega); (try have hy34 : w3.heap.size + 1 < w4.heap.size := by omega)) | (go_simp; go_at_call 42; (refine (S1.out _).mono ?_); rintro e w5 ⟨rfl, hb5⟩; obtain ⟨hc5, hf5⟩ := bcell hb5; (try simp only [drew_sizeM, drew_cellM, drew_frozenM] at hc5 hf5); have hs5 := hb5.size; (try simp at hs5); have hz5 : w.heap.size < w5.heap.size ∧ w.heap.size + 1 < w5.heap.size ∧ w3.heap.size < w5.heap.size := (by omega); (try have hy35 : w3.heap.size + 1 < w5.heap.size := by omega); (try have hy45 : w4.heap.size < w5.heap.size := by omega)))
    all_goals (go_wp2_with (fail); go_meet; exact ⟨_, rfl, rfl, (by refine ⟨?_, ?_⟩ <;> (simp [go_sem, *]; done)), (by refine ⟨?_, ?_⟩ <;> (simp [go_sem, *]; done)), (by refine ⟨?_, ?_⟩ <;> (simp [go_sem, *]; done)), (by refine ⟨?_, ?_⟩ <;> (simp [go_sem, *]; done)), (by first | (simp; done) | (simp; omega) | omega), (by first | (simp; done) | (simp; omega) | omega), (by first | (simp; done) | (simp; omega) | omega), (by repeat (first | exact Below.refl _ _ | refine Below.setCell ?_ (by first | (simp; done) | (simp; omega) | omega) _ | refine Below.alloc ?_ (by first | (simp; done) | (simp; omega) | omega) _ | refine Below.drew ?_ | assumption | refine Below.trans ?_ (Below.mono (by assumption) (by first | (simp; done) | (simp; omega) | omega))))⟩)
  case rest =>
  obtain ⟨b, rfl, rfl, ⟨g0, g1⟩, ⟨g2, g3⟩, ⟨g4, g5⟩, ⟨f0, f1⟩, hbz, hbb, h1z, hBc⟩ := hcut
  have h0z : w.heap.size < wc.heap.size := by omega
  go_wp2_with (first | (go_at_call 45; (refine (BL.out _).mono ?_); rintro e w6 ⟨rfl, hb6⟩; obtain ⟨hc6, hf6⟩ := bcell hb6; have hs6 := hb6.size; (try simp at hs6); have hz6 : w.heap.size < w6.heap.size ∧ w.heap.size + 1 < w6.heap.size ∧ b < w6.heap.size := (by omega)) | (go_at_call 42; (refine (S2.out _).mono ?_); rintro e w7 ⟨rfl, hb7⟩; obtain ⟨hc7, hf7⟩ := bcell hb7; have hs7 := hb7.size; (try simp at hs7); have hz7 : w.heap.size < w7.heap.size ∧ w.heap.size + 1 < w7.heap.size ∧ b < w7.heap.size := (by omega)))
  have hne : ¬ b = w.heap.size + 1 := by omega
  have hzy : w.heap.size + 1 < w7.heap.size + 1 ∧ b < w7.heap.size + 1 := by omega
  go_cut [5, 6] from 46 to 49 (fun p e wd => p = .int .i64 r ∧ e = .int .i64 0 ∧ (wd.cell? ⟨w.heap.size + 1, 0, none⟩ = some (.int .u64 hq) ∧ wd.cell? ⟨w.heap.size + 1, 1, none⟩ = some (.int .u64 lq)) ∧ w.heap.size + 1 < wd.heap.size ∧ Below w.heap.size w wd)
  case first =>
    go_region_law (fail)
    all_goals (go_wp2_with (fail); go_meet; exact ⟨by first | rfl | (simp [e3]), rfl, (by refine ⟨?_, ?_⟩ <;> (simp [go_sem, *]; done)), (by first | (simp; done) | (simp; omega) | omega), (by repeat (first | exact Below.refl _ _ | refine Below.setCell ?_ (by first | (simp; done) | (simp; omega) | omega) _ | refine Below.alloc ?_ (by first | (simp; done) | (simp; omega) | omega) _ | refine Below.drew ?_ | assumption | refine Below.trans ?_ (Below.mono (by assumption) (by first | (simp; done) | (simp; omega) | omega))))⟩)
  case rest =>
  obtain ⟨rfl, rfl, ⟨k0, k1⟩, hwz, hBd⟩ := hcut
  go_wp2
  exact bodyPost_ret (v := .tuple #[.agg #[.int .u64 hq, .int .u64 lq], .int .i64 r, .int .i64 0]) (by simp [results, Tryz.results17, go_sem, *]) rfl ⟨rfl, (by repeat (first | exact Below.refl _ _ | refine Below.setCell ?_ (by first | (simp; done) | (simp; omega) | omega) _ | refine Below.alloc ?_ (by first | (simp; done) | (simp; omega) | omega) _ | refine Below.drew ?_ | assumption | refine Below.trans ?_ (Below.mono (by assumption) (by first | (simp; done) | (simp; omega) | omega))))⟩
end Go.Proofs.YtakfjdnpfhcgkaaGreatDoor

/-
  Contract of money.sumOf.
-/
namespace Go.Proofs.YtakfjdnpfhcgkaaGreatDoor
set_option linter.all false
open Go.RowKit Go.Sort
attribute [local go_sem] cell_set_self lt_1 lt_2 lt_3 lt_4 lt_5 lt_6

def sumI : List Int → Int
  | [] => 0
  | x :: r => x + sumI r
theorem sumI_app (a b : List Int) : sumI (a ++ b) = sumI a + sumI b := by
  induction a with
  | nil => simp [sumI]
  | cons x r ih => simp [sumI, ih]; omega
theorem sumI_take {l : List Int} {k : Nat} {x : Int} (h : l[k]? = some x) : sumI (l.take (k + 1)) = sumI (l.take k) + x := by
  rw [List.take_succ, h, Option.toList_some, sumI_app]; simp [sumI]
def wOK (l : List Int) : Bool := l.all (fun w => decide (0 ≤ w) && decide (w ≤ 2147483648))
theorem wOK_iff {l : List Int} : wOK l = true ↔ ∀ x ∈ l, 0 ≤ x ∧ x ≤ 2147483648 := by simp [wOK]
theorem sumI_bd : ∀ {l : List Int}, wOK l = true → 0 ≤ sumI l ∧ sumI l ≤ 2147483648 * l.length
  | [], _ => by simp [sumI]
  | x :: r, h => by
    have h' := wOK_iff.1 h
    have hx := h' x (List.mem_cons_self ..)
    have ih := sumI_bd (l := r) (wOK_iff.2 fun y hy => h' y (List.mem_cons_of_mem _ hy))
    simp only [sumI, List.length_cons]; omega
theorem wOK_take {l : List Int} (h : wOK l = true) (k : Nat) : wOK (l.take k) = true := wOK_iff.2 fun x hx => wOK_iff.1 h x (List.mem_of_mem_take hx)
def sumE (l : List Int) : Int := if 100 < l.length then 9 else if l.length = 0 then 17 else if wOK l = true then (if sumI l = 0 then 17 else 0) else 6
def sumV (l : List Int) : Value := .tuple #[.int .i64 (if sumE l = 0 then sumI l else 0), .int .i64 (sumE l)]
theorem sumV_0 {l : List Int} (h : sumE l = 0) : sumV l = .tuple #[.int .i64 (sumI l), .int .i64 0] := by unfold sumV; rw [h]; rfl
theorem sumV_n {l : List Int} {x : Int} (h : sumE l = x) (hx : x ≠ 0) : sumV l = .tuple #[.int .i64 0, .int .i64 x] := by subst h; unfold sumV; rw [if_neg hx]
theorem ret_v {a b : Value} (h : a = b) : Ending.returned b = .returned a := by rw [h]
set_option maxHeartbeats 2000000 in
set_option maxRecDepth 100000 in
theorem sumOf_any (A : Option Addr) (n c : Nat) (l : List Int) (hl : l.length = n) (hn : n ≤ 9223372036854775807) (w : World) (T : Sl w A c l) :
    Calls Tryz.prog 15 #[.slice A n c] w fun e w' => e = .returned (sumV l) ∧ Below w.heap.size w w' := by
  by_cases h100 : 100 < n
  · rw [sumV_n (x := 9) (by unfold sumE; rw [if_pos (by omega)]) (by decide)]
    have d1 : (100 : Int) < (n : Int) := by omega
    clear T hl
    go_enter Tryz.func15, Tryz.ntmps15
    go_wp2
    go_ret2
    exact ⟨rfl, (by repeat (first | exact Below.refl _ _ | refine Below.setCell ?_ (by first | (simp; done) | (simp; omega) | omega) _ | refine Below.alloc ?_ (by first | (simp; done) | (simp; omega) | omega) _ | refine Below.drew ?_ | assumption | refine Below.trans ?_ (Below.mono (by assumption) (by first | (simp; done) | (simp; omega) | omega))))⟩
  by_cases h0 : n = 0
  · subst h0
    rw [sumV_n (x := 17) (by unfold sumE; rw [if_neg (by omega), if_pos hl]) (by decide)]
    clear T hl
    go_enter Tryz.func15, Tryz.ntmps15
    go_wp2
    go_ret2
    exact ⟨rfl, (by repeat (first | exact Below.refl _ _ | refine Below.setCell ?_ (by first | (simp; done) | (simp; omega) | omega) _ | refine Below.alloc ?_ (by first | (simp; done) | (simp; omega) | omega) _ | refine Below.drew ?_ | assumption | refine Below.trans ?_ (Below.mono (by assumption) (by first | (simp; done) | (simp; omega) | omega))))⟩
  have d1 : ¬ (100 : Int) < (n : Int) := by omega
  have d2 : ((n : Int) == 0) = false := by simp; omega
  have HL := Lib.hid hl
  have TT := Lib.hid (fun W (hb : Below w.heap.size w W) => (T.below hb).2.2)
  have hn100 : n ≤ 100 := by omega
  clear T hl
  go_enter Tryz.func15, Tryz.ntmps15
  go_wp2
  go_loopw [4, 15] (fun s i wr => ∃ (k : Nat) (z : Int), k ≤ n ∧ i = .int .i64 k ∧ s = .int .i64 z ∧ (0 ≤ z ∧ z ≤ 2147483648 * k) ∧ Hid (wOK (l.take k) = true ∧ z = sumI (l.take k)) ∧ Below w.heap.size w wr) (fun _ i _ => n - (intOf i).toNat)
  case atStart => exact ⟨0, 0, by omega, rfl, rfl, by omega, Lib.hid ⟨rfl, rfl⟩, (by repeat (first | exact Below.refl _ _ | refine Below.setCell ?_ (by first | (simp; done) | (simp; omega) | omega) _ | refine Below.alloc ?_ (by first | (simp; done) | (simp; omega) | omega) _ | refine Below.drew ?_ | assumption | refine Below.trans ?_ (Below.mono (by assumption) (by first | (simp; done) | (simp; omega) | omega))))⟩
  case round =>
    obtain ⟨k, z, hk, rfl, rfl, ⟨z0, z1⟩, HK, hB⟩ := hrel
    obtain ⟨wo, rfl⟩ : ∃ wo : World, wo = wr := ⟨_, rfl⟩
    have hsl := hB.size
    by_cases hlt : k < n
    · have hlt' : (k : Int) < (n : Int) := by omega
      obtain ⟨x, hx⟩ : ∃ x, l[k]? = some x := ⟨_, List.getElem?_eq_getElem (by rw [HL.out]; exact hlt)⟩
      obtain ⟨b, off, rfl, hbw, hc⟩ := TT.out wo hB k x hx
      have HX := Lib.hid hx
      clear hx
      by_cases hok : 0 ≤ x ∧ x ≤ 2147483648
      · obtain ⟨x0, x1⟩ := hok
        have N : Hid (wOK (l.take (k + 1)) = true ∧ z + x = sumI (l.take (k + 1))) := Lib.hid ⟨wOK_iff.2 fun y hy => by
          rw [List.take_succ, HX.out, Option.toList_some] at hy
          rcases List.mem_append.1 hy with h | h
          · exact wOK_iff.1 HK.out.1 y h
          · simp at h; subst h; exact ⟨x0, x1⟩, by rw [sumI_take HX.out, ← HK.out.2]⟩
        go_wp2
        go_roundw
        case rel => exact ⟨k + 1, z + x, by omega, by go_num, by go_num, by omega, N, (by repeat (first | exact Below.refl _ _ | refine Below.setCell ?_ (by first | (simp; done) | (simp; omega) | omega) _ | refine Below.alloc ?_ (by first | (simp; done) | (simp; omega) | omega) _ | refine Below.drew ?_ | assumption | refine Below.trans ?_ (Below.mono (by assumption) (by first | (simp; done) | (simp; omega) | omega))))⟩
        case measure => first | (simp [intOf]; done) | (simp [intOf]; omega)
      · have E := Lib.hid (sumV_n (l := l) (x := 6) (by
          unfold sumE
          have hl := HL.out
          rw [if_neg (by omega), if_neg (by omega), if_neg (fun h => hok (wOK_iff.1 h x (List.mem_of_getElem? HX.out)))]) (by decide))
        rcases (show x < 0 ∨ (0 ≤ x ∧ 2147483648 < x) by omega) with h | ⟨h, h2⟩
        · clear hok
          go_wp2
          go_ret2
          exact ⟨ret_v E.out, (by repeat (first | exact Below.refl _ _ | refine Below.setCell ?_ (by first | (simp; done) | (simp; omega) | omega) _ | refine Below.alloc ?_ (by first | (simp; done) | (simp; omega) | omega) _ | refine Below.drew ?_ | assumption | refine Below.trans ?_ (Below.mono (by assumption) (by first | (simp; done) | (simp; omega) | omega))))⟩
        · clear hok
          go_wp2
          go_ret2
          exact ⟨ret_v E.out, (by repeat (first | exact Below.refl _ _ | refine Below.setCell ?_ (by first | (simp; done) | (simp; omega) | omega) _ | refine Below.alloc ?_ (by first | (simp; done) | (simp; omega) | omega) _ | refine Below.drew ?_ | assumption | refine Below.trans ?_ (Below.mono (by assumption) (by first | (simp; done) | (simp; omega) | omega))))⟩
    · obtain rfl : k = n := by omega
      have hk' : ¬ (k : Int) < (k : Int) := by omega
      have htk : l.take k = l := List.take_of_length_le (by rw [HL.out]; exact Nat.le_refl _)
      have hz := HK.out.2
      have hw := HK.out.1
      rw [htk] at hz hw
      have hl := HL.out
      by_cases z00 : z = 0
      · have E := Lib.hid (sumV_n (l := l) (x := 17) (by unfold sumE; rw [if_neg (by omega), if_neg (by omega), if_pos hw, if_pos (by rw [← hz]; exact z00)]) (by decide))
        clear hz hw htk hl HK TT
        subst z00
        go_wp2
        go_ret2
        exact ⟨ret_v E.out, (by repeat (first | exact Below.refl _ _ | refine Below.setCell ?_ (by first | (simp; done) | (simp; omega) | omega) _ | refine Below.alloc ?_ (by first | (simp; done) | (simp; omega) | omega) _ | refine Below.drew ?_ | assumption | refine Below.trans ?_ (Below.mono (by assumption) (by first | (simp; done) | (simp; omega) | omega))))⟩
      · have E := sumV_0 (l := l) (by unfold sumE; rw [if_neg (by omega), if_neg (by omega), if_pos hw, if_neg (by rw [← hz]; exact z00)])
        rw [← hz] at E
        replace E := Lib.hid E
        have z2 : (z == 0) = false := by simpa using z00
        clear hz hw htk hl HK TT
        go_wp2
        go_ret2
        exact ⟨ret_v E.out, (by repeat (first | exact Below.refl _ _ | refine Below.setCell ?_ (by first | (simp; done) | (simp; omega) | omega) _ | refine Below.alloc ?_ (by first | (simp; done) | (simp; omega) | omega) _ | refine Below.drew ?_ | assumption | refine Below.trans ?_ (Below.mono (by assumption) (by first | (simp; done) | (simp; omega) | omega))))⟩
end Go.Proofs.YtakfjdnpfhcgkaaGreatDoor

/-
  Contract of the closure by which Allocate sorts.
-/
namespace Go.Proofs.YtakfjdnpfhcgkaaGreatDoor
set_option linter.all false
open Go.RowKit Go.Sort
attribute [local go_sem] cell_set_self lt_1 lt_2 lt_3 lt_4 lt_5 lt_6

theorem cmpI_any (x y : Int) (w : World) : Calls Tryz.prog 21 #[.int .i64 x, .int .i64 y] w fun e w' => e = .returned (.int .i64 (Lib.compareInt x y)) ∧ Below w.heap.size w w' :=
  (Tryz.cmp_Compare_int x y w).mono fun e w' ⟨h1, h2⟩ => ⟨h1, by subst h2; exact Below.refl _ _⟩
set_option maxHeartbeats 1000000 in
theorem clo_any (i k n cp bL g : Nat) (x y : Int) (hi : i < n) (hk : k < n) (w : World) (hb : bL < w.heap.size) (hg : g < w.heap.size) (h0 : w.cell? ⟨bL, 0, none⟩ = some (.slice (some ⟨g, 0, none⟩) n cp)) (hx : w.cell? ⟨g, i, none⟩ = some (.int .i64 x)) (hy : w.cell? ⟨g, k, none⟩ = some (.int .i64 y)) :
    Calls Tryz.prog 20 #[.int .i64 i, .int .i64 k, .pointer (some ⟨bL, 0, none⟩)] w fun e w' => e = .returned (.int .i64 (Lib.compareInt y x)) ∧ Below w.heap.size w w' := by
  have CI := Lib.hid (fun W => cmpI_any y x W)
  have hi' : (i : Int) < (n : Int) := by omega
  have hk' : (k : Int) < (n : Int) := by omega
  generalize Lib.compareInt y x = z at *
  go_enter Tryz.func20, Tryz.ntmps20
  go_wp2
  go_region_held3 (fun w' => w'.cell? ⟨bL, 0, none⟩ = some (.slice (some ⟨g, 0, none⟩) n cp) ∧ w'.cell? ⟨g, i, none⟩ = some (.int .i64 x) ∧ w'.cell? ⟨g, k, none⟩ = some (.int .i64 y) ∧ bL < w'.heap.size ∧ g < w'.heap.size ∧ Below w.heap.size w w')
      (first | (refine ⟨?_, ?_, ?_, ?_, ?_, ?_⟩ <;> first | (simp [go_sem, *]; done) | omega | (simp; omega) | exact (by repeat (first | exact Below.refl _ _ | refine Below.setCell ?_ (by first | (simp; done) | (simp; omega) | omega) _ | refine Below.alloc ?_ (by first | (simp; done) | (simp; omega) | omega) _ | refine Below.drew ?_ | assumption | refine Below.trans ?_ (Below.mono (by assumption) (by first | (simp; done) | (simp; omega) | omega))))))
      (first | (first | (go_at_call 21; refine (CI.out _).mono ?_; rintro e w1 ⟨rfl, hb1⟩; obtain ⟨hc1, hf1⟩ := bcell hb1; (try simp only [drew_sizeM, drew_cellM, drew_frozenM] at hc1 hf1); have hs1 := hb1.size; (try simp at hs1); have hz1 : bL < w1.heap.size ∧ g < w1.heap.size := by have := hb1.size; (try simp at this); omega)))
  go_wp2
  go_ret
  exact ⟨rfl, (by repeat (first | exact Below.refl _ _ | refine Below.setCell ?_ (by first | (simp; done) | (simp; omega) | omega) _ | refine Below.alloc ?_ (by first | (simp; done) | (simp; omega) | omega) _ | refine Below.drew ?_ | assumption | refine Below.trans ?_ (Below.mono (by assumption) (by first | (simp; done) | (simp; omega) | omega))))⟩
end Go.Proofs.YtakfjdnpfhcgkaaGreatDoor

/-
  The stable sort of a row that stands in its order: nothing turns (up to 19 elements).
-/
namespace Go.Proofs.YtakfjdnpfhcgkaaGreatDoor
set_option linter.all false
open Go.RowKit Go.Sort
attribute [local go_sem] cell_set_self lt_1 lt_2 lt_3 lt_4 lt_5 lt_6

set_option maxHeartbeats 4000000 in
set_option maxRecDepth 100000 in
theorem insertion_sorted (h n c bL : Nat) (ord : Nat → Int) (z : Nat → Int) (hn : n ≤ 19) (w : World) (hh : h < w.heap.size) (hc : ∀ j, j < n → w.cell? ⟨h, j, none⟩ = some (.int .i64 (ord j)))
    (CMP : ∀ j, j + 1 < n → ∀ W, Below w.heap.size w W → Calls Tryz.prog 20 #[.int .i64 (ord (j + 1)), .int .i64 (ord j), .pointer (some ⟨bL, 0, none⟩)] W fun e w' => e = .returned (.int .i64 (z j)) ∧ Below W.heap.size W w') (hz : ∀ j, j + 1 < n → 0 ≤ z j) :
    Calls Tryz.prog 76 #[.slice (some ⟨h, 0, none⟩) n c, .int .i64 0, .int .i64 n, .func (.func 20) #[] #[.pointer (some ⟨bL, 0, none⟩)]] w fun e w' => e = .returned (.tuple #[]) ∧ Below w.heap.size w w' := by
  have HC := Lib.hid (fun j (hj : j < n) W (hB : Below w.heap.size w W) => (hB.cell (p := ⟨h, j, none⟩) hh).trans (hc j hj))
  have CM := Lib.hid CMP
  have HZ := Lib.hid hz
  clear hc CMP hz
  go_enter Tryz.func76, Tryz.ntmps76
  go_wp2
  go_loopw [8] (fun i wr => ∃ K : Nat, K ≤ n + 1 ∧ 1 ≤ K ∧ i = .int .i64 K ∧ Below w.heap.size w wr) (fun i _ => n + 2 - (intOf i).toNat)
  case atStart => exact ⟨1, by omega, by omega, by simp, (by repeat (first | exact Below.refl _ _ | refine Below.setCell ?_ (by first | (simp; done) | (simp; omega) | omega) _ | refine Below.alloc ?_ (by first | (simp; done) | (simp; omega) | omega) _ | refine Below.drew ?_ | assumption | refine Below.trans ?_ (Below.mono (by assumption) (by first | (simp; done) | (simp; omega) | omega))))⟩
  case round =>
    obtain ⟨K, hK, hK1, rfl, hB⟩ := hrel
    obtain ⟨wo, rfl⟩ : ∃ wo : World, wo = wr := ⟨_, rfl⟩
    have hsl := hB.size
    by_cases hlt : K < n
    · obtain ⟨k, hKk⟩ : ∃ k, K = k + 1 := ⟨K - 1, by omega⟩
      have hlt' : (K : Int) < (n : Int) := by omega
      have hk' : (k : Int) < (n : Int) := by omega
      have c1 := HC.out K hlt wo hB
      have c0 := HC.out k (by omega) wo hB
      have CK := Lib.hid (CM.out k (by omega))
      have z0 := HZ.out k (by omega)
      rw [← hKk] at CK
      have hbw : h < wo.heap.size := by omega
      have kN : 0 < K := by omega
      have kT : decide (0 < K) = true := decide_eq_true kN
      have ke : (K : Int) - 1 = (k : Int) := by omega
      have kw : IntKind.i64.wrap (k : Int) = (k : Int) := by rw [IntKind.wrap_i64]; omega
      generalize ord K = y at *
      generalize ord k = x at *
      generalize z k = zz at *
      clear HC CM HZ hKk
      go_wp2
      go_loopw [9] (fun j wi => j = .int .i64 (K : Int) ∧ Below wo.heap.size wo wi) (fun _ _ => 0)
      case atStart => exact ⟨rfl, Below.refl _ _⟩
      case round =>
        obtain ⟨rfl, hBi⟩ := hrel
        obtain ⟨wi, rfl⟩ : ∃ wi : World, wi = wr := ⟨_, rfl⟩
        have hsi := hBi.size
        have q1 := (hBi.cell (p := ⟨h, K, none⟩) hbw).trans c1
        have q0 := (hBi.cell (p := ⟨h, k, none⟩) hbw).trans c0
        have hbi : h < wi.heap.size := by omega
        have hBw : Below w.heap.size w wi := hB.trans (hBi.mono hsl)
        clear c1 c0
        go_wp2
        go_region_held3 (fun w' => w'.cell? ⟨h, K, none⟩ = some (.int .i64 y) ∧ w'.cell? ⟨h, k, none⟩ = some (.int .i64 x) ∧ h < w'.heap.size ∧ Below w.heap.size w w')
      (first | (refine ⟨?_, ?_, ?_, ?_⟩ <;> first | (simp [go_sem, *]; done) | omega | (simp; omega) | exact (by repeat (first | exact Below.refl _ _ | refine Below.setCell ?_ (by first | (simp; done) | (simp; omega) | omega) _ | refine Below.alloc ?_ (by first | (simp; done) | (simp; omega) | omega) _ | refine Below.drew ?_ | assumption | refine Below.trans ?_ (Below.mono (by assumption) (by first | (simp; done) | (simp; omega) | omega))))))
      (first | (first | (go_at_call 20; refine (CK.out _ (by repeat (first | exact Below.refl _ _ | refine Below.setCell ?_ (by first | (simp; done) | (simp; omega) | omega) _ | refine Below.alloc ?_ (by first | (simp; done) | (simp; omega) | omega) _ | refine Below.drew ?_ | assumption | refine Below.trans ?_ (Below.mono (by assumption) (by first | (simp; done) | (simp; omega) | omega))))).mono ?_; rintro e w1 ⟨rfl, hb1⟩; obtain ⟨hc1, hf1⟩ := bcell hb1; (try simp only [drew_sizeM, drew_cellM, drew_frozenM] at hc1 hf1); have hs1 := hb1.size; (try simp at hs1); have hz1 : h < w1.heap.size := by have := hb1.size; (try simp at this); omega)))
        go_wp2
        go_roundw
        case rel => exact ⟨K + 1, by omega, by omega, by go_num, (by repeat (first | exact Below.refl _ _ | refine Below.setCell ?_ (by first | (simp; done) | (simp; omega) | omega) _ | refine Below.alloc ?_ (by first | (simp; done) | (simp; omega) | omega) _ | refine Below.drew ?_ | assumption | refine Below.trans ?_ (Below.mono (by assumption) (by first | (simp; done) | (simp; omega) | omega))))⟩
        case measure => first | (simp [intOf]; done) | (simp [intOf]; omega)
    · have hlt' : ¬ (K : Int) < (n : Int) := by omega
      go_wp2
      first
        | (refine bodyPost_ret (results_none rfl _ _ _) rfl ?_; exact ⟨rfl, (by repeat (first | exact Below.refl _ _ | refine Below.setCell ?_ (by first | (simp; done) | (simp; omega) | omega) _ | refine Below.alloc ?_ (by first | (simp; done) | (simp; omega) | omega) _ | refine Below.drew ?_ | assumption | refine Below.trans ?_ (Below.mono (by assumption) (by first | (simp; done) | (simp; omega) | omega))))⟩)
        | (refine bodyPost_end (results_none rfl _ _ _) rfl ?_; exact ⟨rfl, (by repeat (first | exact Below.refl _ _ | refine Below.setCell ?_ (by first | (simp; done) | (simp; omega) | omega) _ | refine Below.alloc ?_ (by first | (simp; done) | (simp; omega) | omega) _ | refine Below.drew ?_ | assumption | refine Below.trans ?_ (Below.mono (by assumption) (by first | (simp; done) | (simp; omega) | omega))))⟩)
set_option maxHeartbeats 2000000 in
set_option maxRecDepth 100000 in
theorem stable_sorted (h n c bL : Nat) (ord : Nat → Int) (z : Nat → Int) (hn : n ≤ 19) (w : World) (hh : h < w.heap.size) (hc : ∀ j, j < n → w.cell? ⟨h, j, none⟩ = some (.int .i64 (ord j)))
    (CMP : ∀ j, j + 1 < n → ∀ W, Below w.heap.size w W → Calls Tryz.prog 20 #[.int .i64 (ord (j + 1)), .int .i64 (ord j), .pointer (some ⟨bL, 0, none⟩)] W fun e w' => e = .returned (.int .i64 (z j)) ∧ Below W.heap.size W w') (hz : ∀ j, j + 1 < n → 0 ≤ z j) :
    Calls Tryz.prog 47 #[.slice (some ⟨h, 0, none⟩) n c, .int .i64 n, .func (.func 20) #[] #[.pointer (some ⟨bL, 0, none⟩)]] w fun e w' => e = .returned (.tuple #[]) ∧ Below w.heap.size w w' := by
  have IS : Hid (∀ W, Below w.heap.size w W → Calls Tryz.prog 76 #[.slice (some ⟨h, 0, none⟩) n c, .int .i64 0, .int .i64 n, .func (.func 20) #[] #[.pointer (some ⟨bL, 0, none⟩)]] W fun e w' => e = .returned (.tuple #[]) ∧ Below W.heap.size W w') := Lib.hid fun W hB =>
    insertion_sorted h n c bL ord z hn W (Nat.lt_of_lt_of_le hh hB.size) (fun j hj => (hB.cell (p := ⟨h, j, none⟩) hh).trans (hc j hj)) (fun j hj W' hb => CMP j hj W' (hB.trans (hb.mono hB.size))) hz
  have n20 : ¬ (20 : Int) ≤ (n : Int) := by omega
  have n21 : ¬ (20 : Int) < (n : Int) := by omega
  clear hc CMP hz hn
  go_enter Tryz.func47, Tryz.ntmps47
  go_wp2
  go_loopw [7, 8] (fun a b wr => a = .int .i64 0 ∧ b = .int .i64 20 ∧ Below w.heap.size w wr) (fun _ _ _ => 0)
  case atStart => exact ⟨rfl, rfl, (by repeat (first | exact Below.refl _ _ | refine Below.setCell ?_ (by first | (simp; done) | (simp; omega) | omega) _ | refine Below.alloc ?_ (by first | (simp; done) | (simp; omega) | omega) _ | refine Below.drew ?_ | assumption | refine Below.trans ?_ (Below.mono (by assumption) (by first | (simp; done) | (simp; omega) | omega))))⟩
  case round =>
    obtain ⟨rfl, rfl, hB⟩ := hrel
    obtain ⟨wo, rfl⟩ : ∃ wo : World, wo = wr := ⟨_, rfl⟩
    have hsl := hB.size
    go_wp2_with (first | (go_at_call 76; refine (IS.out _ (by repeat (first | exact Below.refl _ _ | refine Below.setCell ?_ (by first | (simp; done) | (simp; omega) | omega) _ | refine Below.alloc ?_ (by first | (simp; done) | (simp; omega) | omega) _ | refine Below.drew ?_ | assumption | refine Below.trans ?_ (Below.mono (by assumption) (by first | (simp; done) | (simp; omega) | omega))))).mono ?_; rintro e w1 ⟨rfl, hb1⟩; obtain ⟨hc1, hf1⟩ := bcell hb1; have hs1 := hb1.size; (try simp at hs1)))
    go_loopw [6] (fun s wi => s = .int .i64 20 ∧ Below w.heap.size w wi) (fun _ _ => 0)
    case atStart => exact ⟨rfl, (by repeat (first | exact Below.refl _ _ | refine Below.setCell ?_ (by first | (simp; done) | (simp; omega) | omega) _ | refine Below.alloc ?_ (by first | (simp; done) | (simp; omega) | omega) _ | refine Below.drew ?_ | assumption | refine Below.trans ?_ (Below.mono (by assumption) (by first | (simp; done) | (simp; omega) | omega))))⟩
    case round =>
      obtain ⟨rfl, hBi⟩ := hrel
      obtain ⟨wi, rfl⟩ : ∃ wi : World, wi = wr := ⟨_, rfl⟩
      go_wp2
      first
        | (refine bodyPost_ret (results_none rfl _ _ _) rfl ?_; exact ⟨rfl, (by repeat (first | exact Below.refl _ _ | refine Below.setCell ?_ (by first | (simp; done) | (simp; omega) | omega) _ | refine Below.alloc ?_ (by first | (simp; done) | (simp; omega) | omega) _ | refine Below.drew ?_ | assumption | refine Below.trans ?_ (Below.mono (by assumption) (by first | (simp; done) | (simp; omega) | omega))))⟩)
        | (refine bodyPost_end (results_none rfl _ _ _) rfl ?_; exact ⟨rfl, (by repeat (first | exact Below.refl _ _ | refine Below.setCell ?_ (by first | (simp; done) | (simp; omega) | omega) _ | refine Below.alloc ?_ (by first | (simp; done) | (simp; omega) | omega) _ | refine Below.drew ?_ | assumption | refine Below.trans ?_ (Below.mono (by assumption) (by first | (simp; done) | (simp; omega) | omega))))⟩)
set_option maxHeartbeats 2000000 in
theorem sort_sorted (h n c bL : Nat) (ord : Nat → Int) (z : Nat → Int) (hn : n ≤ 19) (w : World) (hh : h < w.heap.size) (hc : ∀ j, j < n → w.cell? ⟨h, j, none⟩ = some (.int .i64 (ord j)))
    (CMP : ∀ j, j + 1 < n → ∀ W, Below w.heap.size w W → Calls Tryz.prog 20 #[.int .i64 (ord (j + 1)), .int .i64 (ord j), .pointer (some ⟨bL, 0, none⟩)] W fun e w' => e = .returned (.int .i64 (z j)) ∧ Below W.heap.size W w') (hz : ∀ j, j + 1 < n → 0 ≤ z j) :
    Calls Tryz.prog 19 #[.slice (some ⟨h, 0, none⟩) n c, .func (.func 20) #[] #[.pointer (some ⟨bL, 0, none⟩)]] w fun e w' => e = .returned (.tuple #[]) ∧ Below w.heap.size w w' := by
  have IS : Hid (∀ W, Below w.heap.size w W → Calls Tryz.prog 47 #[.slice (some ⟨h, 0, none⟩) n c, .int .i64 n, .func (.func 20) #[] #[.pointer (some ⟨bL, 0, none⟩)]] W fun e w' => e = .returned (.tuple #[]) ∧ Below W.heap.size W w') := Lib.hid fun W hB =>
    stable_sorted h n c bL ord z hn W (Nat.lt_of_lt_of_le hh hB.size) (fun j hj => (hB.cell (p := ⟨h, j, none⟩) hh).trans (hc j hj)) (fun j hj W' hb => CMP j hj W' (hB.trans (hb.mono hB.size))) hz
  clear hc CMP hz hn
  go_enter Tryz.func19, Tryz.ntmps19
  go_wp2_with (first | (go_at_call 47; refine (IS.out _ (by repeat (first | exact Below.refl _ _ | refine Below.setCell ?_ (by first | (simp; done) | (simp; omega) | omega) _ | refine Below.alloc ?_ (by first | (simp; done) | (simp; omega) | omega) _ | refine Below.drew ?_ | assumption | refine Below.trans ?_ (Below.mono (by assumption) (by first | (simp; done) | (simp; omega) | omega))))).mono ?_; rintro e w1 ⟨rfl, hb1⟩; obtain ⟨hc1, hf1⟩ := bcell hb1; have hs1 := hb1.size; (try simp at hs1)))
  first
    | (refine bodyPost_ret (results_none rfl _ _ _) rfl ?_; exact ⟨rfl, (by repeat (first | exact Below.refl _ _ | refine Below.setCell ?_ (by first | (simp; done) | (simp; omega) | omega) _ | refine Below.alloc ?_ (by first | (simp; done) | (simp; omega) | omega) _ | refine Below.drew ?_ | assumption | refine Below.trans ?_ (Below.mono (by assumption) (by first | (simp; done) | (simp; omega) | omega))))⟩)
    | (refine bodyPost_end (results_none rfl _ _ _) rfl ?_; exact ⟨rfl, (by repeat (first | exact Below.refl _ _ | refine Below.setCell ?_ (by first | (simp; done) | (simp; omega) | omega) _ | refine Below.alloc ?_ (by first | (simp; done) | (simp; omega) | omega) _ | refine Below.drew ?_ | assumption | refine Below.trans ?_ (Below.mono (by assumption) (by first | (simp; done) | (simp; omega) | omega))))⟩)
end Go.Proofs.YtakfjdnpfhcgkaaGreatDoor

/-
  What Allocate's first loop keeps: three rows of its own, a cell that holds the third.
-/
namespace Go.Proofs.YtakfjdnpfhcgkaaGreatDoor
set_option linter.all false
open Go.RowKit Go.Sort
attribute [local go_sem] cell_set_self lt_1 lt_2 lt_3 lt_4 lt_5 lt_6

theorem Tryz.infoAmt : (Tryz.prog.info? 23).map (fun i => (i.zero, i.size, i.bytes)) = some (some (.agg #[.int .i64 0, .string ⟨#[]⟩]), 2, 24) := by kernel_rfl
theorem own_types {W : World} {b1 b2 s1 s2 n1 n2 : Nat} {e1 e2 : TypeId} {v1 v2 : Value} {x1 x2 : List Value} (h1 : W.ownsRow b1 e1 s1 v1 n1 x1) (h2 : W.ownsRow b2 e2 s2 v2 n2 x2) (ne : e1 ≠ e2) : v1.ownBlock = none ∨ v1.ownBlock ≠ v2.ownBlock := by
  rcases h1.2 with ⟨rfl, _⟩ | ⟨g, cap, cur, rfl, _, hg, _⟩
  · exact .inl rfl
  · right
    rcases h2.2 with ⟨rfl, _⟩ | ⟨g', cap', cur', rfl, _, hg', _⟩
    · simp [Value.ownBlock]
    · intro e
      simp only [Value.ownBlock, Option.some.injEq] at e
      subst e
      rw [hg] at hg'
      injection hg' with hg'
      injection hg' with _ h _
      exact ne h
/-- The rows out (vO), order (vR), lost (vL), the cell bL that holds vC; below bL all is as in wA. -/
def ASt (wA W : World) (bL : Nat) (vO vR vL vC : Value) (kO kR kL : Nat) (xO xR xL : List Value) : Prop :=
  (Below bL wA W ∧ bL < W.heap.size) ∧ W.ownsRow (bL + 1) 23 2 vO kO xO ∧ W.ownsRow (bL + 1) 3 1 vR kR xR ∧ W.ownsRow (bL + 1) 3 1 vL kL xL ∧ (∀ a, vR.ownBlock = some a → vL.ownBlock ≠ some a) ∧ W.cell? ⟨bL, 0, none⟩ = some vC ∧ W.frozen? ⟨bL, 0, none⟩ = false
section
variable {wA W W' : World} {bL kO kR kL : Nat} {vO vR vL vC : Value} {xO xR xL : List Value}
theorem ASt.below (h : ASt wA W bL vO vR vL vC kO kR kL xO xR xL) (hb : Below W.heap.size W W') : ASt wA W' bL vO vR vL vC kO kR kL xO xR xL := by
  obtain ⟨⟨h1, h1'⟩, h2, h3, h4, h5, h6, h7⟩ := h
  refine ⟨⟨h1.trans (hb.mono (by omega)), Nat.lt_of_lt_of_le h1' hb.size⟩, own_below h2 hb, own_below h3 hb, own_below h4 hb, h5, ?_, ?_⟩
  · rw [hb.cell (p := ⟨bL, 0, none⟩) h1']; exact h6
  · rw [← h7]; exact World.frozen?_of_block (hb.block bL h1')
theorem ASt.lt (h : ASt wA W bL vO vR vL vC kO kR kL xO xR xL) : bL < W.heap.size := h.1.2
theorem ASt.cell (h : ASt wA W bL vO vR vL vC kO kR kL xO xR xL) : W.cell? ⟨bL, 0, none⟩ = some vC := h.2.2.2.2.2.1
theorem ASt.froz (h : ASt wA W bL vO vR vL vC kO kR kL xO xR xL) : W.frozen? ⟨bL, 0, none⟩ = false := h.2.2.2.2.2.2
theorem ASt.bel (h : ASt wA W bL vO vR vL vC kO kR kL xO xR xL) : Below bL wA W := h.1.1
theorem grown_bL {row : Option Nat} (h1 : bL < W.heap.size) (hg : W.grownBy W' row) (hr : ∀ k, row = some k → bL + 1 ≤ k ∧ k < W.heap.size) (c : Value) (h6 : W.cell? ⟨bL, 0, none⟩ = some c) (h7 : W.frozen? ⟨bL, 0, none⟩ = false) : W'.cell? ⟨bL, 0, none⟩ = some c ∧ W'.frozen? ⟨bL, 0, none⟩ = false := by
  have ne : some bL ≠ row := fun e => by have := hr bL e.symm; omega
  exact ⟨by rw [← h6]; exact World.cell?_of_block (hg.block bL h1 ne), by rw [← h7]; exact World.frozen?_of_block (hg.block bL h1 ne)⟩
theorem ASt.appO {vO' : Value} {kO' : Nat} {xO' : List Value} (h : ASt wA W bL vO vR vL vC kO kR kL xO xR xL) (hown : W'.ownsRow (bL + 1) 23 2 vO' kO' xO') (hg : W.grownBy W' vO.ownBlock) : ASt wA W' bL vO' vR vL vC kO' kR kL xO' xR xL := by
  obtain ⟨⟨h1, h1'⟩, h2, h3, h4, h5, h6, h7⟩ := h
  obtain ⟨c, f⟩ := grown_bL h1' hg h2.lt vC h6 h7
  refine ⟨⟨h1.grown hg (by omega) (fun k hk => by have := h2.lt k hk; omega), Nat.lt_of_lt_of_le h1' hg.size⟩, hown, h3.kept hg (own_types h3 h2 (by decide)), h4.kept hg (own_types h4 h2 (by decide)), h5, c, f⟩
theorem ASt.appR {vR' : Value} {kR' g : Nat} {xR' : List Value} (h : ASt wA W bL vO vR vL vC kO kR kL xO xR xL) (hown : W'.ownsRow (bL + 1) 3 1 vR' kR' xR') (hg : W.grownBy W' vR.ownBlock) (hv : vR'.ownBlock = some g) (hat : vR.ownBlock = some g ∨ g = W.heap.size) : ASt wA W' bL vO vR' vL vC kO kR' kL xO xR' xL := by
  obtain ⟨⟨h1, h1'⟩, h2, h3, h4, h5, h6, h7⟩ := h
  obtain ⟨c, f⟩ := grown_bL h1' hg h3.lt vC h6 h7
  have d : vL.ownBlock = none ∨ vL.ownBlock ≠ vR.ownBlock := by
    cases hL : vL.ownBlock with
    | none => exact .inl rfl
    | some a => exact .inr fun e => h5 a e.symm hL
  refine ⟨⟨h1.grown hg (by omega) (fun k hk => by have := h3.lt k hk; omega), Nat.lt_of_lt_of_le h1' hg.size⟩, h2.kept hg (own_types h2 h3 (by decide)), hown, h4.kept hg d, ?_, c, f⟩
  intro a ha
  rw [hv] at ha
  obtain rfl : g = a := Option.some.inj ha
  rcases hat with k | k
  · exact h5 g k
  · intro e; have := h4.lt g e; omega
theorem ASt.appL {vL' : Value} {kL' g : Nat} {xL' : List Value} (h : ASt wA W bL vO vR vL vC kO kR kL xO xR xL) (hown : W'.ownsRow (bL + 1) 3 1 vL' kL' xL') (hg : W.grownBy W' vL.ownBlock) (hv : vL'.ownBlock = some g) (hat : vL.ownBlock = some g ∨ g = W.heap.size) : ASt wA W' bL vO vR vL' vC kO kR kL' xO xR xL' := by
  obtain ⟨⟨h1, h1'⟩, h2, h3, h4, h5, h6, h7⟩ := h
  obtain ⟨c, f⟩ := grown_bL h1' hg h4.lt vC h6 h7
  have d : vR.ownBlock = none ∨ vR.ownBlock ≠ vL.ownBlock := by
    cases hR : vR.ownBlock with
    | none => exact .inl rfl
    | some a => exact .inr fun e => h5 a hR e.symm
  refine ⟨⟨h1.grown hg (by omega) (fun k hk => by have := h4.lt k hk; omega), Nat.lt_of_lt_of_le h1' hg.size⟩, h2.kept hg (own_types h2 h4 (by decide)), h3.kept hg d, hown, ?_, c, f⟩
  intro a ha e
  rw [hv] at e
  obtain rfl : g = a := Option.some.inj e
  rcases hat with k | k
  · exact h5 g ha k
  · have := h3.lt g ha; omega
theorem ASt.store (h : ASt wA W bL vO vR vL vC kO kR kL xO xR xL) (u : Value) : ASt wA (W.setCell ⟨bL, 0, none⟩ u) bL vO vR vL u kO kR kL xO xR xL := by
  obtain ⟨⟨h1, h1'⟩, h2, h3, h4, h5, h6, h7⟩ := h
  refine ⟨⟨h1.setCell (Nat.le_refl _) _, by simpa using h1'⟩, ownsRow_setCell_below h2 (by simp) _, ownsRow_setCell_below h3 (by simp) _, ownsRow_setCell_below h4 (by simp) _, h5, ?_, ?_⟩
  · simp [go_sem, h6]
  · simpa [go_sem] using h7
end
/-- The amounts of a row, as memory has them. -/
def cellsM (cl : ByteArray) (l : List Int) : List Value := l.flatMap fun x => [.int .i64 x, .string cl]
theorem cellsM_app (cl : ByteArray) (a : List Int) (x : Int) : cellsM cl (a ++ [x]) = cellsM cl a ++ [.int .i64 x, .string cl] := by simp [cellsM]
theorem cellsM_at {cl : ByteArray} : ∀ {l : List Int} {i : Nat} {x : Int}, l[i]? = some x → (cellsM cl l)[i * 2]? = some (.int .i64 x) ∧ (cellsM cl l)[i * 2 + 1]? = some (.string cl)
  | [], i, x, h => by simp at h
  | y :: l, 0, x, h => by simp at h; subst h; simp [cellsM]
  | y :: l, i + 1, x, h => by
    have ih := cellsM_at (cl := cl) (l := l) (i := i) (x := x) (by simpa using h)
    have e : cellsM cl (y :: l) = .int .i64 y :: .string cl :: cellsM cl l := rfl
    rw [e, show (i + 1) * 2 = i * 2 + 1 + 1 by omega]
    exact ih
def Amts (w : World) (g : Nat) (cl : ByteArray) (l : List Int) : Prop := g < w.heap.size ∧ ∀ i x, l[i]? = some x → w.cell? ⟨g, i * 2, none⟩ = some (.int .i64 x) ∧ w.cell? ⟨g, i * 2 + 1, none⟩ = some (.string cl)
theorem Amts.below {w W : World} {g : Nat} {cl : ByteArray} {l : List Int} (h : Amts w g cl l) (hb : Below w.heap.size w W) : Amts W g cl l :=
  ⟨Nat.lt_of_lt_of_le h.1 hb.size, fun i x hi => ⟨(hb.cell (p := ⟨g, i * 2, none⟩) h.1).trans (h.2 i x hi).1, (hb.cell (p := ⟨g, i * 2 + 1, none⟩) h.1).trans (h.2 i x hi).2⟩⟩
theorem amts_own {w : World} {base g cap n : Nat} {cl : ByteArray} {l : List Int} (h : w.ownsRow base 23 2 (.slice (some ⟨g, 0, none⟩) n cap) n (cellsM cl l)) : Amts w g cl l ∧ (∀ j, w.frozen? ⟨g, j, none⟩ = false) ∧ base ≤ g := by
  have hl := h.lt g rfl
  refine ⟨⟨hl.2, fun i x hi => ?_⟩, fun j => h.frozenAt j, hl.1⟩
  obtain ⟨h1, h2⟩ := cellsM_at (cl := cl) hi
  have hc := h.cells (g := g) rfl
  exact ⟨by have := hc _ _ h1; rw [addr0] at this; simpa using this, by have := hc _ _ h2; rw [addr0] at this; simpa using this⟩
theorem Amts.set {w : World} {g : Nat} {cl : ByteArray} {l : List Int} (h : Amts w g cl l) {i : Nat} {x : Int} (y : Int) (hi : l[i]? = some x) : Amts (w.setCell ⟨g, i * 2, none⟩ (.int .i64 y)) g cl (l.set i y) := by
  refine ⟨by simpa using h.1, fun j z hj => ?_⟩
  have hc := (h.2 i x hi).1
  by_cases hij : i = j
  · subst hij
    have hlt := (List.getElem?_eq_some_iff.1 hi).1
    rw [List.getElem?_set_self hlt] at hj
    obtain rfl := Option.some.inj hj
    refine ⟨by simp [go_sem, hc], ?_⟩
    have := (h.2 i x hi).2
    simp [go_sem, this]
  · rw [List.getElem?_set_ne hij] at hj
    obtain ⟨a, b⟩ := h.2 j z hj
    have n1 : ¬ j * 2 = i * 2 := by omega
    have n2 : ¬ j * 2 + 1 = i * 2 := by omega
    exact ⟨by simp [go_sem, a, n1], by simp [go_sem, b, n2]⟩
end Go.Proofs.YtakfjdnpfhcgkaaGreatDoor
