/-
  Contract of exref6.Sum. (Printed by tools/mkxu1.py.)
-/
import Derived.Test.YtdpoahfjiomhbaaGreatDoorXs2
import Derived.Test.YtdpoahfjiomhbaaGreatDoorMb2
namespace Go.Proofs.YtdpoahfjiomhbaaGreatDoor
set_option linter.all false
open Go.RowKit Go.Sort
attribute [local go_sem] cell_set_self lt_1 lt_2 lt_3 lt_4 lt_5 lt_6

set_option maxHeartbeats 8000000 in
set_option maxRecDepth 100000 in
theorem rsum_any (c : List UInt8) (A : Option Addr) (n cp : Nat) (l : List (Int × List UInt8)) (hl : l.length = n) (hn : n ≤ 9223372036854775807) (w : World) (T : Am w A l) :
    Calls Tryz.prog 48 #[.string ⟨c.toArray⟩, .slice A n cp] w fun e w' => e = .returned (amR (sumCode c l) (totA l) c) ∧ Below w.heap.size w w' := by
  have SC := Lib.hid (fun W => rscale_any c W)
  rcases scX_cases c with ⟨hs, hsn, h0⟩ | ⟨hs, hx⟩
  · have HL := Lib.hid hl
    have TT := Lib.hid (fun W (hb : Below w.heap.size w W) => T.below hb)
    have CK := Lib.hid (fun (t : Int × List UInt8) W => rcheck_any t.1 t.2 W)
    have HS := Lib.hid hs
    have x0 : ¬ scX c < 0 := by omega
    have PE : Hid (∀ t : Int × List UInt8, pairE t.1 t.2 0 c = if amE t.1 t.2 = 0 then (if t.2 = c then 0 else 18) else amE t.1 t.2) := Lib.hid fun t => by
      have a0 : amE 0 c = 0 := by unfold amE; rw [if_pos hs]; rfl
      unfold pairE fstE
      by_cases k : amE t.1 t.2 = 0
      · rw [if_pos k, a0, if_pos rfl, if_pos k]
      · rw [if_neg k, if_neg k]; try rw [if_neg k]
    have MA : Hid (∀ s A n k b W z, z.natAbs < 1000000000000000000000000000000000000000000000000 → Pt b W s A n k z → Calls Tryz.prog 99 #[.agg #[.bool s, .slice A n k], .string ⟨c.toArray⟩] W fun e w' => e = .returned (amR (maE z) z c) ∧ Below W.heap.size W w') := Lib.hid fun s A n k b W z hz X => rmade_any s A n k z hz c b W X
    have SB : Hid (∀ t : Int × List UInt8, ((⟨t.2.toArray⟩ : ByteArray).toList == (⟨c.toArray⟩ : ByteArray).toList) = decide (t.2 = c)) := Lib.hid fun t => str_beq t.2 c
    clear hs hsn hl T h0
    obtain ⟨C, hC⟩ : ∃ C : ByteArray, (⟨c.toArray⟩ : ByteArray) = C := ⟨_, rfl⟩
    rw [hC] at MA SB
    obtain ⟨RV, hRV⟩ : ∃ RV, amR (sumCode c l) (totA l) c = RV := ⟨_, rfl⟩
    have HRV := Lib.hid hRV
    rw [hRV]
    have HC := Lib.hid hC
    rw [hC] at SC
    rw [hC]
    clear hRV hC
    generalize scX c = sc at *
    go_enter Tryz.func48, Tryz.ntmps48
    go_wp2_with (first | (go_at_call 26; refine (SC.out _).mono ?_; rintro e w1 ⟨rfl, hb1⟩; obtain ⟨hc1, hf1⟩ := bcell hb1; have hs1 := hb1.size; (try simp at hs1); have hz1 : w.heap.size < w1.heap.size := by have := hb1.size; (try simp at this); omega))
    go_loopw [7] (fun i wr => ∃ (k : Nat) (S : Int) (s0 : Bool) (A0 : Option Addr) (n0 c0 : Nat), k ≤ n ∧ i = .int .i64 k ∧ (-4611686018427387904 * k ≤ S ∧ S ≤ 4611686018427387904 * k) ∧ Hid (S = totA (l.take k) ∧ sumC c l = sumC c (l.drop k)) ∧ Hid (Pt (w1.heap.size + 1) wr s0 A0 n0 c0 S) ∧ (wr.cell? ⟨w1.heap.size, 0, none⟩ = some (.bool s0) ∧ wr.cell? ⟨w1.heap.size, 1, none⟩ = some (.slice A0 n0 c0) ∧ wr.frozen? ⟨w1.heap.size, 0, none⟩ = false ∧ wr.frozen? ⟨w1.heap.size, 1, none⟩ = false) ∧ (wr.cell? ⟨w.heap.size, 0, none⟩ = some (.int .i64 0) ∧ wr.cell? ⟨w.heap.size, 1, none⟩ = some (.string ⟨#[]⟩) ∧ wr.frozen? ⟨w.heap.size, 0, none⟩ = false ∧ wr.frozen? ⟨w.heap.size, 1, none⟩ = false) ∧ w.heap.size < wr.heap.size ∧ w1.heap.size < wr.heap.size ∧ Below w.heap.size w wr) (fun i _ => n - (intOf i).toNat)
    case atStart => exact ⟨0, 0, false, none, 0, 0, by omega, rfl, by omega, Lib.hid ⟨rfl, rfl⟩, Lib.hid (Pt.zero _ _), (by refine ⟨?_, ?_, ?_, ?_⟩ <;> (simp [go_sem, *]; done)), (by refine ⟨?_, ?_, ?_, ?_⟩ <;> (simp [go_sem, *]; done)), (by first | (simp; done) | (simp; omega) | omega), (by first | (simp; done) | (simp; omega) | omega), (by repeat (first | exact Below.refl _ _ | refine Below.setCell ?_ (by first | (simp; done) | (simp; omega) | omega) _ | refine Below.alloc ?_ (by first | (simp; done) | (simp; omega) | omega) _ | refine Below.drew ?_ | assumption | refine Below.trans ?_ (Below.mono (by assumption) (by first | (simp; done) | (simp; omega) | omega))))⟩
    case round =>
      obtain ⟨k, S, s0, A0, n0, c0', hk, rfl, ⟨v0, v1⟩, HK, HP, ⟨a0, a1, a2, a3⟩, ⟨b0, b1, b2, b3⟩, hz0, hzw, hB⟩ := hrel
      obtain ⟨wo, rfl⟩ : ∃ wo : World, wo = wr := ⟨_, rfl⟩
      have hso := hB.size
      have hne : ¬ w1.heap.size = w.heap.size := by omega
      have hzz : w.heap.size < wo.heap.size + 1 ∧ w1.heap.size < wo.heap.size + 1 := by omega
      by_cases hlt : k < n
      · have hlt' : (k : Int) < (n : Int) := by omega
        obtain ⟨t, ht⟩ : ∃ t, l[k]? = some t := ⟨_, List.getElem?_eq_getElem (by rw [HL.out]; exact hlt)⟩
        obtain ⟨b, off, rfl, hbw, c0, c1⟩ := TT.out wo hB k t ht
        have CT := Lib.hid (CK.out t)
        have SE := SB.out t
        have PT := PE.out t
        have hd : l.drop k = t :: l.drop (k + 1) := by
          obtain ⟨h1, h2⟩ := List.getElem?_eq_some_iff.1 ht
          rw [List.drop_eq_getElem_cons h1, h2]
        by_cases hp : pairE t.1 t.2 0 c = 0
        · obtain ⟨hu, _, _, _, _⟩ := pairE_in hp
          obtain ⟨u0, u1⟩ := inU_iff.1 hu
          have F1 := Lib.hid (fun W => bigOf_any t.1 ⟨by omega, by omega⟩ W)
          have h2 : amE t.1 t.2 = 0 ∧ t.2 = c := by
            by_cases k1 : amE t.1 t.2 = 0
            · by_cases k2 : t.2 = c
              · exact ⟨k1, k2⟩
              · rw [PT, if_pos k1, if_neg k2] at hp; exact absurd hp (by decide)
            · rw [PT, if_neg k1] at hp; exact absurd hp k1
          have NK : Hid (S + t.1 = totA (l.take (k + 1)) ∧ sumC c l = sumC c (l.drop (k + 1))) := Lib.hid ⟨by rw [totA_take ht, ← HK.out.1], by rw [HK.out.2, hd]; simp [sumC, hp]⟩
          have AO : Hid (∀ t' B m d W b2, Below wo.heap.size wo W → Pt b2 W t' B m d t.1 → Calls Tryz.prog 94 #[.agg #[.bool s0, .slice A0 n0 c0'], .agg #[.bool t', .slice B m d]] W fun e w' => Res W.heap.size w' e (S + t.1) ∧ Below W.heap.size W w') := Lib.hid fun t' B m d W b2 hb X =>
            bigAdd_any s0 t' A0 B n0 m c0' d S t.1 (by have := pt_n HP.out (by omega); omega) (by have := pt_n X (by omega); omega) W ((HP.out.below hb).mono (Nat.zero_le _)) (X.mono (Nat.zero_le _))
          rw [h2.1] at CT
          rw [decide_eq_true h2.2] at SE
          clear hp hu hd ht CK PT h2 HP SB PE
          generalize t.1 = z at *
          generalize (⟨t.2.toArray⟩ : ByteArray) = CU at *
          go_wp2_with (first | (go_at_call 29; refine (CT.out _).mono ?_; rintro e w2 ⟨rfl, hb2⟩; obtain ⟨hc2, hf2⟩ := bcell hb2; have hs2 := hb2.size; (try simp at hs2); have hz2 : w.heap.size < w2.heap.size ∧ w1.heap.size < w2.heap.size := by have := hb2.size; (try simp at this); omega))
          go_region_law (first | (go_simp; go_at_call 38; (with_reducible refine (F1.out _).mono ?_); rintro e w3 ⟨⟨s3, A3, n3, c3, rfl, hP3⟩, hb3⟩; obtain ⟨hc3, hf3⟩ := bcell hb3; (try simp only [drew_size, drew_cell, drew_frozen] at hc3 hf3); have hs3 := hb3.size; (try simp at hs3); have hz3 : w.heap.size < w3.heap.size ∧ w1.heap.size < w3.heap.size := (by omega); have HP3 := Lib.hid hP3; clear hP3) | (go_simp; go_at_call 94; (with_reducible refine (AO.out _ _ _ _ _ _ (by repeat (first | exact Below.refl _ _ | refine Below.setCell ?_ (by first | (simp; done) | (simp; omega) | omega) _ | refine Below.alloc ?_ (by first | (simp; done) | (simp; omega) | omega) _ | refine Below.drew ?_ | assumption | refine Below.trans ?_ (Below.mono (by assumption) (by first | (simp; done) | (simp; omega) | omega)))) (HP3.out.below (by repeat (first | exact Below.refl _ _ | refine Below.setCell ?_ (by first | (simp; done) | (simp; omega) | omega) _ | refine Below.alloc ?_ (by first | (simp; done) | (simp; omega) | omega) _ | refine Below.drew ?_ | assumption | refine Below.trans ?_ (Below.mono (by assumption) (by first | (simp; done) | (simp; omega) | omega)))))).mono ?_); rintro e w4 ⟨⟨s4, A4, n4, c4, rfl, hP4⟩, hb4⟩; obtain ⟨hc4, hf4⟩ := bcell hb4; (try simp only [drew_size, drew_cell, drew_frozen] at hc4 hf4); have hs4 := hb4.size; (try simp at hs4); have hz4 : w.heap.size < w4.heap.size ∧ w1.heap.size < w4.heap.size := (by omega); have HP4 := Lib.hid hP4; clear hP4))
          all_goals (
            go_wp2
            go_roundw
            case rel => exact ⟨k + 1, S + z, s4, A4, n4, c4, by omega, by go_num, by omega, NK, Lib.hid ((((HP4.out.below (by repeat (first | exact Below.refl _ _ | refine Below.setCell ?_ (by first | (simp; done) | (simp; omega) | omega) _ | refine Below.alloc ?_ (by first | (simp; done) | (simp; omega) | omega) _ | refine Below.drew ?_ | assumption | refine Below.trans ?_ (Below.mono (by assumption) (by first | (simp; done) | (simp; omega) | omega))))).setCell _ (by first | (simp; done) | (simp; omega) | omega)).setCell _ (by first | (simp; done) | (simp; omega) | omega)).mono (by first | (simp; done) | (simp; omega) | omega)), (by refine ⟨?_, ?_, ?_, ?_⟩ <;> (simp [go_sem, *]; done)), (by refine ⟨?_, ?_, ?_, ?_⟩ <;> (simp [go_sem, *]; done)), (by first | (simp; done) | (simp; omega) | omega), (by first | (simp; done) | (simp; omega) | omega), (by repeat (first | exact Below.refl _ _ | refine Below.setCell ?_ (by first | (simp; done) | (simp; omega) | omega) _ | refine Below.alloc ?_ (by first | (simp; done) | (simp; omega) | omega) _ | refine Below.drew ?_ | assumption | refine Below.trans ?_ (Below.mono (by assumption) (by first | (simp; done) | (simp; omega) | omega))))⟩
            case measure => first | (simp [intOf]; done) | (simp [intOf]; omega))
        · have e1 : sumC c l = pairE t.1 t.2 0 c := by rw [HK.out.2, hd]; simp [sumC, hp]
          have E : RV = .tuple #[.agg #[.int .i64 0, .string ⟨#[]⟩], .int .i64 (pairE t.1 t.2 0 c)] := by
            rw [← HRV.out]
            have e2 : sumCode c l = pairE t.1 t.2 0 c := by unfold sumCode; rw [if_pos HS.out, e1, if_neg hp]
            rw [e2]; exact amR_n hp
          rw [PT] at E
          clear e1 hd ht CK SB PE HK HP
          by_cases k1 : amE t.1 t.2 = 0
          · rw [if_pos k1] at E
            have k2 : ¬ t.2 = c := fun k2 => hp (by rw [PT, if_pos k1, if_pos k2])
            rw [if_neg k2] at E
            replace E := Lib.hid E
            rw [k1] at CT
            rw [decide_eq_false k2] at SE
            clear k1 k2 PT hp
            generalize t.1 = z at *
            generalize (⟨t.2.toArray⟩ : ByteArray) = CU at *
            go_wp2_with (first | (go_at_call 29; refine (CT.out _).mono ?_; rintro e w2 ⟨rfl, hb2⟩; obtain ⟨hc2, hf2⟩ := bcell hb2; have hs2 := hb2.size; (try simp at hs2); have hz2 : w.heap.size < w2.heap.size ∧ w1.heap.size < w2.heap.size := by have := hb2.size; (try simp at this); omega))
            exact bodyPost_ret (v := .tuple #[.agg #[.int .i64 0, .string ⟨#[]⟩], .int .i64 18]) (by simp [results, Tryz.results48, go_sem, *]) rfl ⟨ret_vU E.out, (by repeat (first | exact Below.refl _ _ | refine Below.setCell ?_ (by first | (simp; done) | (simp; omega) | omega) _ | refine Below.alloc ?_ (by first | (simp; done) | (simp; omega) | omega) _ | refine Below.drew ?_ | assumption | refine Below.trans ?_ (Below.mono (by assumption) (by first | (simp; done) | (simp; omega) | omega))))⟩
          · rw [if_neg k1] at E
            replace E := Lib.hid E
            clear PT hp SE
            generalize amE t.1 t.2 = pe at *
            have x1 : (pe != 0) = true := bne_iff_ne.2 k1
            clear k1
            generalize t.1 = z at *
            generalize (⟨t.2.toArray⟩ : ByteArray) = CU at *
            go_wp2_with (first | (go_at_call 29; refine (CT.out _).mono ?_; rintro e w2 ⟨rfl, hb2⟩; obtain ⟨hc2, hf2⟩ := bcell hb2; have hs2 := hb2.size; (try simp at hs2); have hz2 : w.heap.size < w2.heap.size ∧ w1.heap.size < w2.heap.size := by have := hb2.size; (try simp at this); omega))
            exact bodyPost_ret (v := .tuple #[.agg #[.int .i64 0, .string ⟨#[]⟩], .int .i64 pe]) (by simp [results, Tryz.results48, go_sem, *]) rfl ⟨ret_vU E.out, (by repeat (first | exact Below.refl _ _ | refine Below.setCell ?_ (by first | (simp; done) | (simp; omega) | omega) _ | refine Below.alloc ?_ (by first | (simp; done) | (simp; omega) | omega) _ | refine Below.drew ?_ | assumption | refine Below.trans ?_ (Below.mono (by assumption) (by first | (simp; done) | (simp; omega) | omega))))⟩
      · obtain rfl : k = n := by omega
        have hkk : ¬ (k : Int) < (k : Int) := by omega
        have htk : l.take k = l := List.take_of_length_le (by rw [HL.out]; exact Nat.le_refl _)
        have hdk : l.drop k = [] := List.drop_of_length_le (by rw [HL.out]; exact Nat.le_refl _)
        have hS := HK.out.1
        have hC0 := HK.out.2
        rw [htk] at hS
        rw [hdk] at hC0
        have e2 : sumCode c l = maE (totA l) := by unfold sumCode; rw [if_pos HS.out, hC0, if_pos (show sumC c [] = 0 from rfl)]
        have E : RV = amR (maE S) S c := by rw [← HRV.out, e2, ← hS]
        have M2 : Hid (∀ W, Below wo.heap.size wo W → Calls Tryz.prog 99 #[.agg #[.bool s0, .slice A0 n0 c0'], .string C] W fun e w' => e = .returned (amR (maE S) S c) ∧ Below W.heap.size W w') := Lib.hid fun W hb => MA.out _ _ _ _ _ W S (by omega) (HP.out.below hb)
        have hR : ∃ (r : Int × ByteArray) (q : Int), amR (maE S) S c = .tuple #[.agg #[.int .i64 r.1, .string r.2], .int .i64 q] := ⟨(_, _), _, rfl⟩
        obtain ⟨⟨r, C2⟩, q, hR⟩ := hR
        simp only at hR
        rw [hR] at M2 E
        replace E := Lib.hid E
        clear e2 hS hC0 htk hdk hR HK HP MA SB PE CK
        go_wp2_with (first | (go_at_call 99; refine (M2.out _ (by repeat (first | exact Below.refl _ _ | refine Below.setCell ?_ (by first | (simp; done) | (simp; omega) | omega) _ | refine Below.alloc ?_ (by first | (simp; done) | (simp; omega) | omega) _ | refine Below.drew ?_ | assumption | refine Below.trans ?_ (Below.mono (by assumption) (by first | (simp; done) | (simp; omega) | omega))))).mono ?_; rintro e w5 ⟨rfl, hb5⟩; obtain ⟨hc5, hf5⟩ := bcell hb5; have hs5 := hb5.size; (try simp at hs5); have hz5 : w.heap.size < w5.heap.size ∧ w1.heap.size < w5.heap.size := by have := hb5.size; (try simp at this); omega))
        exact bodyPost_ret (v := .tuple #[.agg #[.int .i64 r, .string C2], .int .i64 q]) (by simp [results, Tryz.results48, go_sem, *]) rfl ⟨ret_vU E.out, (by repeat (first | exact Below.refl _ _ | refine Below.setCell ?_ (by first | (simp; done) | (simp; omega) | omega) _ | refine Below.alloc ?_ (by first | (simp; done) | (simp; omega) | omega) _ | refine Below.drew ?_ | assumption | refine Below.trans ?_ (Below.mono (by assumption) (by first | (simp; done) | (simp; omega) | omega))))⟩
  · have e : sumCode c l = 18 := by unfold sumCode; rw [hs]; rfl
    rw [e, amR_n (by decide)]
    rw [hx] at SC
    clear e hs T hl hx
    generalize (⟨c.toArray⟩ : ByteArray) = C at *
    go_enter Tryz.func48, Tryz.ntmps48
    go_wp2_with (first | (go_at_call 26; refine (SC.out _).mono ?_; rintro e w1 ⟨rfl, hb1⟩; obtain ⟨hc1, hf1⟩ := bcell hb1; have hs1 := hb1.size; (try simp at hs1); have hz1 : w.heap.size < w1.heap.size := by have := hb1.size; (try simp at this); omega))
    exact bodyPost_ret (v := .tuple #[.agg #[.int .i64 0, .string ⟨#[]⟩], .int .i64 18]) (by simp [results, Tryz.results48, go_sem, *]) rfl ⟨rfl, (by repeat (first | exact Below.refl _ _ | refine Below.setCell ?_ (by first | (simp; done) | (simp; omega) | omega) _ | refine Below.alloc ?_ (by first | (simp; done) | (simp; omega) | omega) _ | refine Below.drew ?_ | assumption | refine Below.trans ?_ (Below.mono (by assumption) (by first | (simp; done) | (simp; omega) | omega))))⟩
end Go.Proofs.YtdpoahfjiomhbaaGreatDoor

