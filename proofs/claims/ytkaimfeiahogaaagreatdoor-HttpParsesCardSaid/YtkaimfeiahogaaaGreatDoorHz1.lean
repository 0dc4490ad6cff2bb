/-
  Contracts of exref22.small, letter, digit, line.
-/
import Derived.Test.YtkaimfeiahogaaaGreatDoorHc2
namespace Go.Proofs.YtkaimfeiahogaaaGreatDoor
set_option linter.all false
open Go.RowKit Go.Shelf
attribute [local go_sem] cell_set_self lt_1 lt_2 lt_3 lt_4 lt_5 lt_6 drew_cell drew_frozen drew_size

theorem lowerB_cases (x : UInt8) : (x.toNat < 65 ∧ Lib.lowerB x = x) ∨ (65 ≤ x.toNat ∧ x.toNat ≤ 90 ∧ (Lib.lowerB x).toNat = x.toNat + 32) ∨ (91 ≤ x.toNat ∧ Lib.lowerB x = x) := by
  have hx := UInt8.toNat_lt x
  have key : ∀ n : Fin 256, ((UInt8.ofNat n.val).toNat < 65 ∧ Lib.lowerB (UInt8.ofNat n.val) = UInt8.ofNat n.val) ∨ (65 ≤ (UInt8.ofNat n.val).toNat ∧ (UInt8.ofNat n.val).toNat ≤ 90 ∧ (Lib.lowerB (UInt8.ofNat n.val)).toNat = (UInt8.ofNat n.val).toNat + 32) ∨ (91 ≤ (UInt8.ofNat n.val).toNat ∧ Lib.lowerB (UInt8.ofNat n.val) = UInt8.ofNat n.val) := by decide +kernel
  have := key ⟨x.toNat, hx⟩
  simp only [show UInt8.ofNat x.toNat = x by simp] at this
  exact this
set_option maxHeartbeats 4000000 in
set_option maxRecDepth 100000 in
theorem small_any (l : List UInt8) (hl : l.length ≤ 100000) (w : World) : Calls Tryz.prog 44 #[.string ⟨l.toArray⟩] w fun e w' => e = .returned (.string ⟨(small l).toArray⟩) ∧ Below w.heap.size w w' := by
  unfold small
  have hc := run_conv l w
  have HN := Lib.hid (edit_new w l (by omega) w (by repeat (first | exact Below.refl _ _ | refine Below.setCell ?_ (by first | (simp; done) | (simp; omega) | omega) _ | refine Below.alloc ?_ (by first | (simp; done) | (simp; omega) | omega) _ | refine Below.drew ?_ | assumption | refine Below.trans ?_ (Below.mono (by assumption) (by first | (simp; done) | (simp; omega) | omega)))))
  have hge := grownCap_ge w l.length 0 5
  obtain ⟨n, hn⟩ : ∃ n, l.length = n := ⟨_, rfl⟩
  have HLN := Lib.hid hn
  rw [hn] at hc HN hge hl
  generalize grownCap w n 0 5 = c at *
  generalize w.drew.alloc (.cells (bytesRow ⟨l.toArray⟩ c) 5 ((bytesRow ⟨l.toArray⟩ c).size, (bytesRow ⟨l.toArray⟩ c).size + 1)) = W1 at *
  generalize hg : w.heap.size = g at *
  have HG := Lib.hid hg
  clear hg hn
  generalize (⟨l.toArray⟩ : ByteArray) = sl at *
  go_enter Tryz.func44, Tryz.ntmps44
  go_wp2
  go_loopw [4] (fun i wr => ∃ k : Nat, k ≤ n ∧ i = .int .i64 k ∧ Edit w g ((l.take k).map Lib.lowerB ++ l.drop k) wr) (fun i _ => n - (intOf i).toNat)
  case atStart => exact ⟨0, by omega, rfl, HN.out⟩
  case round =>
    obtain ⟨k, hk, rfl, hE⟩ := hrel
    have HE := Lib.hid hE
    clear hE
    by_cases hlt : k < n
    · have hlt' : (k : Int) < (n : Int) := by omega
      obtain ⟨x, hx⟩ : ∃ x, l[k]? = some x := ⟨_, List.getElem?_eq_getElem (by rw [HLN.out]; exact hlt)⟩
      obtain ⟨-, m2, m3⟩ := map_front Lib.lowerB hx
      have e0 := HE.out.at' k x m2
      have u0 := HE.out.unf k (List.getElem?_eq_some_iff.1 m2).1
      have HX := Lib.hid hx
      have hxx := UInt8.toNat_lt x
      clear hx m2 m3
      rcases lowerB_cases x with ⟨q1, q2⟩ | ⟨q1, q2, q3⟩ | ⟨q1, q2⟩
      · have HQ := Lib.hid q2
        generalize x.toNat = xx at *
        have a2 : ¬ (65 : Int) ≤ (xx : Int) := by omega
        clear q2
        go_wp2
        go_roundw
        case rel => exact ⟨k + 1, by omega, by go_num, HE.out.same HX.out HQ.out⟩
        case measure => first | (simp [intOf]; done) | (simp [intOf]; omega)
      · have HQ := Lib.hid q3
        generalize x.toNat = xx at *
        have a2 : (65 : Int) ≤ (xx : Int) := by omega
        have a3 : (xx : Int) ≤ 90 := by omega
        have hw : IntKind.u8.wrap ((xx : Int) + 32) = (xx : Int) + 32 := by rw [IntKind.wrap_u8]; omega
        clear q3
        go_wp2
        go_roundw
        case rel => exact ⟨k + 1, by omega, by go_num, HE.out.step HX.out (by have := HQ.out; omega)⟩
        case measure => first | (simp [intOf]; done) | (simp [intOf]; omega)
      · have HQ := Lib.hid q2
        generalize x.toNat = xx at *
        have a2 : (65 : Int) ≤ (xx : Int) := by omega
        have a3 : ¬ (xx : Int) ≤ 90 := by omega
        clear q2
        go_wp2
        go_roundw
        case rel => exact ⟨k + 1, by omega, by go_num, HE.out.same HX.out HQ.out⟩
        case measure => first | (simp [intOf]; done) | (simp [intOf]; omega)
    · obtain rfl : k = n := by omega
      have hlt' : ¬ (k : Int) < (k : Int) := by omega
      have hfin : (l.take k).map Lib.lowerB ++ l.drop k = l.map Lib.lowerB := by rw [← HLN.out]; simp
      have hB : Bs wr (some ⟨g, 0, none⟩) c (l.map Lib.lowerB) := by
        have := HE.out.bs (c := c) (by simp; have := HLN.out; omega)
        rw [hfin] at this; exact this
      have hc2 := conv_bs hB
      rw [List.length_map, HLN.out] at hc2
      clear hc
      have hbel := HE.out.below
      clear hB hfin
      go_wp2
      go_ret
      exact ⟨rfl, HG.out ▸ hbel⟩
/-- A letter. -/
def letB (c : UInt8) : Bool := (decide (65 ≤ c.toNat) && decide (c.toNat ≤ 90)) || (decide (97 ≤ c.toNat) && decide (c.toNat ≤ 122))
set_option maxHeartbeats 2000000 in
theorem rletter_any (c : UInt8) (w : World) : Calls Tryz.prog 62 #[.int .u8 (c.toNat : Int)] w fun e w' => e = .returned (.bool (letB c)) ∧ w = w' := by
  have hx := UInt8.toNat_lt c
  unfold letB
  generalize c.toNat = x at *
  by_cases h1 : 65 ≤ x
  · have h1' : (65 : Int) ≤ (x : Int) := by omega
    by_cases h2 : x ≤ 90
    · have h2' : (x : Int) ≤ 90 := by omega
      have e : ((decide (65 ≤ x) && decide (x ≤ 90)) || (decide (97 ≤ x) && decide (x ≤ 122))) = true := by simp [h1, h2]
      rw [e]
      go_enter Tryz.func62, Tryz.ntmps62
      go_wp2
      go_ret
      exact ⟨rfl, rfl⟩
    · have h2' : ¬ (x : Int) ≤ 90 := by omega
      by_cases h3 : 97 ≤ x
      · have h3' : (97 : Int) ≤ (x : Int) := by omega
        by_cases h4 : x ≤ 122
        · have h4' : (x : Int) ≤ 122 := by omega
          have e : ((decide (65 ≤ x) && decide (x ≤ 90)) || (decide (97 ≤ x) && decide (x ≤ 122))) = true := by simp [h3, h4]
          rw [e]
          go_enter Tryz.func62, Tryz.ntmps62
          go_wp2
          go_ret
          exact ⟨rfl, rfl⟩
        · have h4' : ¬ (x : Int) ≤ 122 := by omega
          have e : ((decide (65 ≤ x) && decide (x ≤ 90)) || (decide (97 ≤ x) && decide (x ≤ 122))) = false := by simp [h2, h4]
          rw [e]
          go_enter Tryz.func62, Tryz.ntmps62
          go_wp2
          go_ret
          exact ⟨rfl, rfl⟩
      · have h3' : ¬ (97 : Int) ≤ (x : Int) := by omega
        have e : ((decide (65 ≤ x) && decide (x ≤ 90)) || (decide (97 ≤ x) && decide (x ≤ 122))) = false := by simp [h2, h3]
        rw [e]
        go_enter Tryz.func62, Tryz.ntmps62
        go_wp2
        go_ret
        exact ⟨rfl, rfl⟩
  · have h1' : ¬ (65 : Int) ≤ (x : Int) := by omega
    have h3' : ¬ (97 : Int) ≤ (x : Int) := by omega
    have e : ((decide (65 ≤ x) && decide (x ≤ 90)) || (decide (97 ≤ x) && decide (x ≤ 122))) = false := by
      have : ¬ 97 ≤ x := by omega
      simp [h1, this]
    rw [e]
    go_enter Tryz.func62, Tryz.ntmps62
    go_wp2
    go_ret
    exact ⟨rfl, rfl⟩
set_option maxHeartbeats 2000000 in
theorem rdigit_any (c : UInt8) (w : World) : Calls Tryz.prog 52 #[.int .u8 (c.toNat : Int)] w fun e w' => e = .returned (.bool (digB c)) ∧ w = w' := by
  unfold digB
  generalize c.toNat = x at *
  by_cases h1 : 48 ≤ x
  · have h1' : (48 : Int) ≤ (x : Int) := by omega
    by_cases h2 : x ≤ 57
    · have h2' : (x : Int) ≤ 57 := by omega
      rw [decide_eq_true h1, decide_eq_true h2]
      go_enter Tryz.func52, Tryz.ntmps52
      go_wp2
      go_ret
      exact ⟨rfl, rfl⟩
    · have h2' : ¬ (x : Int) ≤ 57 := by omega
      rw [decide_eq_true h1, decide_eq_false h2]
      go_enter Tryz.func52, Tryz.ntmps52
      go_wp2
      go_ret
      exact ⟨rfl, rfl⟩
  · have h1' : ¬ (48 : Int) ≤ (x : Int) := by omega
    rw [decide_eq_false h1, Bool.false_and]
    go_enter Tryz.func52, Tryz.ntmps52
    go_wp2
    go_ret
    exact ⟨rfl, rfl⟩
/-- What exref22.line answers. -/
def rlineV (at' : Nat) (l : List UInt8) : LR → Value
  | .wait => .tuple #[.string ⟨#[]⟩, .int .i64 (-1), .int .i64 0]
  | .bad e => .tuple #[.string ⟨#[]⟩, .int .i64 (-1), .int .i64 e]
  | .got k => .tuple #[.string ⟨((l.drop at').take k).toArray⟩, .int .i64 ((at' + k + 2 : Nat) : Int), .int .i64 0]
theorem lineF_at {l : List UInt8} {j : Nat} {x : UInt8} (h : l[j]? = some x) (n : Nat) : lineF n (l.drop j) = if x = 10 then .bad 10 else if x = 13 then (if l.drop (j + 1) = [] then .wait else if (l.drop (j + 1)).head? = some 10 then .got n else .bad 10) else if n = 1000 then .bad 8 else lineF (n + 1) (l.drop (j + 1)) := by
  obtain ⟨h1, h2⟩ := List.getElem?_eq_some_iff.1 h
  rw [List.drop_eq_getElem_cons h1, h2, lineF]
set_option maxHeartbeats 8000000 in
set_option maxRecDepth 100000 in
theorem rline_any (A : Option Addr) (n c at' : Nat) (l : List UInt8) (hl : l.length = n) (hn : n ≤ 1000000000) (ha : at' ≤ n) (w : World) (T : Bs w A c l) :
    Calls Tryz.prog 40 #[.slice A n c, .int .i64 (at' : Int)] w fun e w' => e = .returned (rlineV at' l (lineF 0 (l.drop at'))) ∧ w = w' := by
  have HL := Lib.hid hl
  have HT := Lib.hid T
  have hA : A = none → c = 0 := T.2.1
  have hnc : (n : Int) ≤ (c : Int) := by have := T.1; omega
  clear hl T
  go_enter Tryz.func40, Tryz.ntmps40
  go_wp2
  go_loop [7] (fun i => ∃ k : Nat, at' + k ≤ n ∧ i = .int .i64 ((at' + k : Nat) : Int) ∧ k ≤ 1000 ∧ Hid (lineF 0 (l.drop at') = lineF k (l.drop (at' + k)))) (fun i => n - (intOf i).toNat)
  case atStart => exact ⟨0, by omega, rfl, by omega, Lib.hid rfl⟩
  case round =>
    obtain ⟨k, hk, rfl, hk1, HF⟩ := hrel
    obtain ⟨j, hj⟩ : ∃ j, at' + k = j := ⟨_, rfl⟩
    rw [hj] at hk HF ⊢
    by_cases hlt : j < n
    · have hlt' : (j : Int) < (n : Int) := by omega
      obtain ⟨x, hx⟩ : ∃ x, l[j]? = some x := ⟨_, List.getElem?_eq_getElem (by rw [HL.out]; exact hlt)⟩
      obtain ⟨b, off, rfl, hbl, e0⟩ := HT.out.2.2 j x hx
      have hstep := lineF_at hx k
      have hxx := UInt8.toNat_lt x
      have HJ := Lib.hid hj
      by_cases h10 : x = 10
      · have hR : Hid (lineF 0 (l.drop at') = .bad 10) := Lib.hid (by rw [HF.out, hstep, if_pos h10])
        rw [h10] at e0
        clear hstep hx h10 hj
        go_wp2
        exact bodyPost_ret (v := .tuple #[.string ⟨#[]⟩, .int .i64 (-1), .int .i64 10]) (by simp [results, Tryz.results40, go_sem, *]) rfl ⟨by rw [hR.out]; rfl, rfl⟩
      · rw [if_neg h10] at hstep
        have hx10 : ((x.toNat : Int) == 10) = false := by
          rw [beq_eq_false_iff_ne]; intro e; exact h10 (UInt8.toNat_inj.1 (show x.toNat = (10 : UInt8).toNat by rw [show (10 : UInt8).toNat = 10 from rfl]; omega))
        have hx10' : ¬ (x.toNat : Int) = 10 := by simpa using hx10
        by_cases h13 : x = 13
        · rw [if_pos h13] at hstep
          rw [h13] at e0
          by_cases hend : j + 1 = n
          · have hR : Hid (lineF 0 (l.drop at') = .wait) := Lib.hid (by rw [HF.out, hstep, if_pos (List.drop_of_length_le (by rw [HL.out]; omega))])
            have hge : (n : Int) ≤ (j : Int) + 1 := by omega
            clear hstep hx h10 h13 hx10 hx10' hj
            go_wp2
            exact bodyPost_ret (v := .tuple #[.string ⟨#[]⟩, .int .i64 (-1), .int .i64 0]) (by simp [results, Tryz.results40, go_sem, *]) rfl ⟨by rw [hR.out]; rfl, rfl⟩
          · have hge : ¬ (n : Int) ≤ (j : Int) + 1 := by omega
            have hlt2 : (j : Int) + 1 < (n : Int) := by omega
            obtain ⟨y, hy⟩ : ∃ y, l[j + 1]? = some y := ⟨_, List.getElem?_eq_getElem (by rw [HL.out]; omega)⟩
            obtain ⟨b', off', hA', hbl', e1⟩ := HT.out.2.2 (j + 1) y hy
            obtain ⟨rfl, rfl⟩ : b = b' ∧ off = off' := by simpa using hA'
            have hhd : (l.drop (j + 1)).head? = some y := by rw [List.head?_drop]; exact hy
            have hne : l.drop (j + 1) ≠ [] := fun e => by rw [e] at hhd; cases hhd
            rw [if_neg hne, hhd] at hstep
            by_cases hy10 : y = 10
            · have hR : Hid (lineF 0 (l.drop at') = .got k) := Lib.hid (by rw [HF.out, hstep, if_pos (by rw [hy10])])
              rw [hy10] at e1
              have hcv : (convert 22 9 (.slice (some ⟨b, off + at', none⟩) (j - at') (c - at'))).run Tryz.prog w = .ok (.string ⟨((l.drop at').take k).toArray⟩) w := by
                have := conv_bs ((HT.out.drop at' (by rw [HL.out]; exact ha)).take k)
                rw [List.length_take, List.length_drop, HL.out, Nat.min_eq_left (by omega)] at this
                rw [show j - at' = k by omega]
                exact this
              have haj : (at' : Int) ≤ (j : Int) := by omega
              have hjc : (j : Int) ≤ (c : Int) := by omega
              have hac : ¬ (c : Int) - (at' : Int) = 0 := by omega
              clear hstep hx h10 h13 hx10 hx10' hhd hne hy hA' hy10 hj
              go_wp2
              exact bodyPost_ret (v := .tuple #[.string ⟨((l.drop at').take k).toArray⟩, .int .i64 ((j : Int) + 2), .int .i64 0]) (by simp [results, Tryz.results40, go_sem, *]) rfl ⟨by rw [hR.out]; show _ = Ending.returned (.tuple #[.string ⟨((l.drop at').take k).toArray⟩, .int .i64 ((at' + k + 2 : Nat) : Int), .int .i64 0]); rw [HJ.out]; rfl, rfl⟩
            · have hR : Hid (lineF 0 (l.drop at') = .bad 10) := Lib.hid (by rw [HF.out, hstep, if_neg (by simpa using hy10)])
              have hy1 : ((y.toNat : Int) == 10) = false := by
                rw [beq_eq_false_iff_ne]; intro e; exact hy10 (UInt8.toNat_inj.1 (show y.toNat = (10 : UInt8).toNat by rw [show (10 : UInt8).toNat = 10 from rfl]; omega))
              have hy1' : ((y.toNat : Int) != 10) = true := by rw [bne, hy1]; rfl
              have hy1'' : ¬ (y.toNat : Int) = 10 := by simpa using hy1
              generalize y.toNat = yy at *
              clear hstep hx h10 h13 hx10 hx10' hhd hne hy hA' hy10 hj
              go_wp2
              exact bodyPost_ret (v := .tuple #[.string ⟨#[]⟩, .int .i64 (-1), .int .i64 10]) (by simp [results, Tryz.results40, go_sem, *]) rfl ⟨by rw [hR.out]; rfl, rfl⟩
        · rw [if_neg h13] at hstep
          have hx13 : ((x.toNat : Int) == 13) = false := by
            rw [beq_eq_false_iff_ne]; intro e; exact h13 (UInt8.toNat_inj.1 (show x.toNat = (13 : UInt8).toNat by rw [show (13 : UInt8).toNat = 13 from rfl]; omega))
          have hx13' : ¬ (x.toNat : Int) = 13 := by simpa using hx13
          have hsub : (j : Int) - (at' : Int) = (k : Int) := by omega
          generalize x.toNat = xx at *
          by_cases hk0 : k = 1000
          · have hR : Hid (lineF 0 (l.drop at') = .bad 8) := Lib.hid (by rw [HF.out, hstep, if_pos hk0])
            subst hk0
            clear hstep hx h10 h13 hj
            go_wp2
            exact bodyPost_ret (v := .tuple #[.string ⟨#[]⟩, .int .i64 (-1), .int .i64 8]) (by simp [results, Tryz.results40, go_sem, *]) rfl ⟨by rw [hR.out]; rfl, rfl⟩
          · rw [if_neg hk0] at hstep
            have hk2 : ¬ (1000 : Int) ≤ (k : Int) := by omega
            have HS := Lib.hid hstep
            clear hstep hx h10 h13 hj
            go_wp2
            go_roundw
            case rel => exact ⟨k + 1, by have := HJ.out; omega, by have := HJ.out; rw [show at' + (k + 1) = j + 1 by omega]; go_num, by omega, Lib.hid (by rw [HF.out, HS.out, ← HJ.out]; rfl)⟩
            case measure => first | (simp [intOf]; done) | (simp [intOf]; omega)
    · obtain rfl : j = n := by omega
      have hlt' : ¬ (j : Int) < (j : Int) := by omega
      have hR : Hid (lineF 0 (l.drop at') = .wait) := Lib.hid (by rw [HF.out, List.drop_of_length_le (by rw [HL.out]; exact Nat.le_refl _)]; rfl)
      clear hj
      go_wp2
      exact bodyPost_ret (v := .tuple #[.string ⟨#[]⟩, .int .i64 (-1), .int .i64 0]) (by simp [results, Tryz.results40, go_sem, *]) rfl ⟨by rw [hR.out]; rfl, rfl⟩
end Go.Proofs.YtkaimfeiahogaaaGreatDoor
