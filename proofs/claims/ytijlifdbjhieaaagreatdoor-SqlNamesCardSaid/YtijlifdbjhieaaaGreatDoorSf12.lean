/-
  Contract of sql.Format. (Printed by tools/mksf12.py.)
-/
import Derived.Test.YtijlifdbjhieaaaGreatDoorSf11
namespace Go.Proofs.YtijlifdbjhieaaaGreatDoor
set_option linter.all false
open Go.RowKit Go.Shelf Go.Sort
attribute [local go_sem] cell_set_self lt_1 lt_2 lt_3 lt_4 lt_5 lt_6

/-- A text grown by a text, as the program does it. -/
theorem cat3 (a b c : List UInt8) : (⟨a.toArray⟩ : ByteArray) ++ (⟨b.toArray⟩ ++ ⟨c.toArray⟩) = ⟨(a ++ (b ++ c)).toArray⟩ := by rw [cat, cat]
set_option maxHeartbeats 16000000 in
set_option maxRecDepth 100000 in
theorem format_any (q : QueryT) (AI AG AO : Option Addr) (cI cG cO : Nat) (cs : List Value) (w : World) (H : QV w q AI AG AO cs) (S : QShort q) (E : Env w) (hcG : q.group.length ≤ cG) (hX : formQ q = 0 → (queryX q).length ≤ 1000000000) :
    Calls Tryz.prog 9 #[.agg (qCells AI q.items.length cI q.table cs AG q.group.length cG AO q.order.length cO q.limit).toArray] w fun e w' => e = .returned (.tuple #[.string ⟨(formatX q).toArray⟩, .int .i64 (formatE q)]) ∧ Below w.heap.size w w' := by
  suffices key : ∀ Q : Ending → World → Prop, Hid (∀ w', Below w.heap.size w w' → Q (.returned (.tuple #[.string ⟨(formatX q).toArray⟩, .int .i64 (formatE q)])) w') → Calls Tryz.prog 9 #[.agg (qCells AI q.items.length cI q.table cs AG q.group.length cG AO q.order.length cO q.limit).toArray] w Q from key _ (Lib.hid fun _ h => ⟨rfl, h⟩)
  intro Q HQ
  have FN := Lib.hid (fun W (hb : Below w.heap.size w W) => form_any q AI AG AO cI cG cO cs W (H.below hb) S)
  by_cases hf : formQ q = 0
  · have hX' := hX hf
    have F := Pl.form_ok hf
    have HQ8 : Hid (65536 < (queryX q).length → ∀ w', Below w.heap.size w w' → Q (.returned (.tuple #[.string ⟨#[]⟩, .int .i64 8])) w') := Lib.hid fun h w' hb => by
      have e1 : formatE q = 8 := by unfold formatE; rw [if_neg (by simp [hf]), if_pos h]
      have e2 : formatX q = [] := by unfold formatX; rw [e1]; rfl
      have := HQ.out w' hb
      rw [e1, e2] at this
      exact this
    have HQ0 : Hid (¬ 65536 < (queryX q).length → ∀ w', Below w.heap.size w w' → Q (.returned (.tuple #[.string ⟨(queryX q).toArray⟩, .int .i64 0])) w') := Lib.hid fun h w' hb => by
      have e1 := Pl.format_0 F (by omega)
      have := HQ.out w' hb
      rw [e1.1, e1.2] at this
      exact this
    rw [hf] at FN
    clear hf HQ hX
    obtain ⟨I, T, C, G, O, lim⟩ := q
    have QX : queryX ⟨I, T, C, G, O, lim⟩ = [115, 101, 108, 101, 99, 116, 32] ++ Lib.join (I.map itemX) [44, 32] ++ [32, 102, 114, 111, 109, 32] ++ T ++ (if C.op = 0 then [] else [32, 119, 104, 101, 114, 101, 32] ++ condX C) ++ (if G = [] then [] else [32, 103, 114, 111, 117, 112, 32, 98, 121, 32] ++ Lib.join G [44, 32]) ++ (if O = [] then [] else [32, 111, 114, 100, 101, 114, 32, 98, 121, 32] ++ Lib.join (O.map orderX) [44, 32]) ++ (if 0 ≤ lim then [32, 108, 105, 109, 105, 116, 32] ++ Lib.itoa lim else []) := rfl
    have hn1 := F.i1; have hn2 := F.g1; have hn3 := F.o1; have hl0 := F.l0; have hl1 := F.l1
    dsimp only at hn1 hn2 hn3 hl0 hl1 hcG
    have hb1 : ∀ x ∈ I, x.agg.length ≤ 1000000000 ∧ x.col.length ≤ 1000000000 := fun x hx => Pl.item_len (F.it x hx)
    have hb3 : ∀ x ∈ O, x.col.length ≤ 1000000000 := fun x hx => Pl.name_len (F.od x hx)
    rw [QX] at hX' HQ8 HQ0
    clear QX
    have LI := Lib.hid (fun (hj : (Lib.join (I.map itemX) [44, 32]).length ≤ 1000000000) W (hb : Below w.heap.size w W) => listedI_any AI cI I (by omega) hb1 hj W (H.it.below hb))
    have LO := Lib.hid (fun (hj : (Lib.join (O.map orderX) [44, 32]).length ≤ 1000000000) W (hb : Below w.heap.size w W) => listedO_any AO cO O (by omega) hb3 hj W (H.od.below hb))
    have JG := Lib.hid (fun (hj : (Lib.join G [44, 32]).length ≤ 1000000000) W (hb : Below w.heap.size w W) => join_strs AG cG G [44, 32] W (H.gr.below hb) hcG (by omega) hj)
    have CT := Lib.hid (fun (h : C.op ≠ 0) (hj : (condX C).length ≤ 1000000000) W (hb : Below w.heap.size w W) => text_all C (F.wf h) cs W (H.cv.keep (Kp.below hb)) (E.below hb) hj)
    have IT := Lib.hid (fun W (hb : Below w.heap.size w W) => itoa_any lim (by omega) (by omega) W (E.below hb))
    generalize Lib.join (I.map itemX) [44, 32] = XI at *
    generalize Lib.join (O.map orderX) [44, 32] = XO at *
    generalize Lib.join G [44, 32] = XG at *
    generalize Lib.itoa lim = XL at *
    generalize condX C = XC at *
    obtain ⟨W1, hW1⟩ : ∃ W1, (if C.op = 0 then ([] : List UInt8) else [32, 119, 104, 101, 114, 101, 32] ++ XC) = W1 := ⟨_, rfl⟩
    obtain ⟨W2, hW2⟩ : ∃ W2, (if G = [] then ([] : List UInt8) else [32, 103, 114, 111, 117, 112, 32, 98, 121, 32] ++ XG) = W2 := ⟨_, rfl⟩
    obtain ⟨W3, hW3⟩ : ∃ W3, (if O = [] then ([] : List UInt8) else [32, 111, 114, 100, 101, 114, 32, 98, 121, 32] ++ XO) = W3 := ⟨_, rfl⟩
    obtain ⟨W4, hW4⟩ : ∃ W4, (if 0 ≤ lim then [32, 108, 105, 109, 105, 116, 32] ++ XL else []) = W4 := ⟨_, rfl⟩
    rw [hW1, hW2, hW3, hW4] at hX' HQ8 HQ0
    obtain ⟨S0, hS0⟩ : ∃ S0, [115, 101, 108, 101, 99, 116, 32] ++ XI ++ [32, 102, 114, 111, 109, 32] ++ T = S0 := ⟨_, rfl⟩
    rw [hS0] at hX' HQ8 HQ0
    have ls0 : S0.length = 7 + XI.length + 6 + T.length := by rw [← hS0]; simp; omega
    simp only [List.length_append, List.length_cons, List.length_nil] at hX'
    have HS0 := Lib.hid hS0
    have l1 : C.op ≠ 0 → W1.length = 7 + XC.length := fun h => by rw [← hW1, if_neg h]; simp; omega
    have l2 : G ≠ [] → W2.length = 10 + XG.length := fun h => by rw [← hW2, if_neg h]; simp; omega
    have l3 : O ≠ [] → W3.length = 10 + XO.length := fun h => by rw [← hW3, if_neg h]; simp; omega
    have l4 : 0 ≤ lim → W4.length = 7 + XL.length := fun h => by rw [← hW4, if_pos h]; simp; omega
    have LI := Lib.hid (LI.out (by omega))
    have LO := Lib.hid (fun h => LO.out (by have := l3 h; omega))
    have JG := Lib.hid (fun h => JG.out (by have := l2 h; omega))
    have CT := Lib.hid (fun h => CT.out h (by have := l1 h; omega))
    have HN1 := Lib.hid (show C.op = 0 → W1 = [] from fun h => by rw [← hW1, if_pos h])
    have HW1 := Lib.hid (show ¬ C.op = 0 → W1 = _ from fun h => by rw [← hW1, if_neg h])
    have HN2 := Lib.hid (show G = [] → W2 = [] from fun h => by rw [← hW2, if_pos h])
    have HW2 := Lib.hid (show ¬ G = [] → W2 = _ from fun h => by rw [← hW2, if_neg h])
    have HN3 := Lib.hid (show O = [] → W3 = [] from fun h => by rw [← hW3, if_pos h])
    have HW3 := Lib.hid (show ¬ O = [] → W3 = _ from fun h => by rw [← hW3, if_neg h])
    have HN4 := Lib.hid (show ¬ 0 ≤ lim → W4 = [] from fun h => by rw [← hW4, if_neg h])
    have HW4 := Lib.hid (show 0 ≤ lim → W4 = _ from fun h => by rw [← hW4, if_pos h])
    have L1 := Lib.hid l1
    have L2 := Lib.hid l2
    have L3 := Lib.hid l3
    have L4 := Lib.hid l4
    have hcv := H.cv
    obtain ⟨op, args, ⟨lc, lt, ln, ls⟩, ⟨rc, rt, rn, rs⟩⟩ := C
    obtain ⟨AC, cC, rfl, -⟩ := hcv.open
    dsimp only [CondT.op] at CT L1 HW1 HN1
    dsimp only [qCells, condC, termC, List.cons_append, List.nil_append] at FN CT ⊢
    obtain ⟨nI, hnI⟩ : ∃ n, I.length = n := ⟨_, rfl⟩
    obtain ⟨nG, hnG⟩ : ∃ n, G.length = n := ⟨_, rfl⟩
    obtain ⟨nO, hnO⟩ : ∃ n, O.length = n := ⟨_, rfl⟩
    have gG : nG = 0 ↔ G = [] := by rw [← hnG]; exact List.length_eq_zero_iff
    have gO : nO = 0 ↔ O = [] := by rw [← hnO]; exact List.length_eq_zero_iff
    have GG := Lib.hid gG
    have GO := Lib.hid gO
    rw [hnI] at hn1 LI; rw [hnG] at hn2 JG hcG; rw [hnO] at hn3 LO
    rw [hnI, hnG, hnO] at FN
    simp only [hnI, hnG, hnO]
    obtain ⟨TB, hTB⟩ : ∃ t : ByteArray, (⟨T.toArray⟩ : ByteArray) = t := ⟨_, rfl⟩
    have hTs : TB.size = T.length := by rw [← hTB]; simp [ByteArray.size]
    have HTB := Lib.hid hTB
    simp only [hTB] at FN ⊢
    generalize (⟨lc.toArray⟩ : ByteArray) = U1 at *
    generalize (⟨ls.toArray⟩ : ByteArray) = U2 at *
    generalize (⟨rc.toArray⟩ : ByteArray) = U3 at *
    generalize (⟨rs.toArray⟩ : ByteArray) = U4 at *
    clear hS0 H S F E hb1 hb3 hcv hW1 hW2 hW3 hW4 l1 l2 l3 l4 hnI hnG hnO gG gO hTB hcG
    have z0 : w.heap.size < w.heap.size + 1 := by omega
    have z1 : ¬ 9223372036854775807 < 7 + XI.length := by omega
    have z2 : ¬ 9223372036854775807 < 7 + XI.length + 6 := by omega
    have z3 : ¬ 9223372036854775807 < 7 + XI.length + 6 + T.length := by omega
    go_enter Tryz.func9, Tryz.ntmps9
    go_upto_region 4 with (go_at_call 18; (with_reducible refine (FN.out _ (by repeat (first | exact Below.refl _ _ | refine Below.setCell ?_ (by first | (simp; done) | (simp; omega) | omega) _ | refine Below.alloc ?_ (by first | (simp; done) | (simp; omega) | omega) _ | refine Below.drew ?_ | assumption | refine Below.trans ?_ (Below.mono (by assumption) (by first | (simp; done) | (simp; omega) | omega))))).mono ?_); rintro e w1 ⟨rfl, hb1⟩; obtain ⟨hc1, hf1⟩ := bcell hb1; have hs1 := hb1.size; (try simp only [World.size_alloc] at hc1 hf1 hs1))
    have hz1 : w.heap.size < w1.heap.size := by omega
    refine name_world ?_; intro Wa hWa; have kWa : Wa.cell? ⟨w.heap.size, 0, none⟩ = some (.slice AI nI cI) ∧ Wa.cell? ⟨w.heap.size, 1, none⟩ = some (.string TB) ∧ Wa.cell? ⟨w.heap.size, 2, none⟩ = some (.int .i64 op) ∧ Wa.cell? ⟨w.heap.size, 3, none⟩ = some (.slice AC args.length cC) ∧ Wa.cell? ⟨w.heap.size, 4, none⟩ = some (.string U1) ∧ Wa.cell? ⟨w.heap.size, 5, none⟩ = some (.int .i64 lt) ∧ Wa.cell? ⟨w.heap.size, 6, none⟩ = some (.int .i64 ln) ∧ Wa.cell? ⟨w.heap.size, 7, none⟩ = some (.string U2) ∧ Wa.cell? ⟨w.heap.size, 8, none⟩ = some (.string U3) ∧ Wa.cell? ⟨w.heap.size, 9, none⟩ = some (.int .i64 rt) ∧ Wa.cell? ⟨w.heap.size, 10, none⟩ = some (.int .i64 rn) ∧ Wa.cell? ⟨w.heap.size, 11, none⟩ = some (.string U4) ∧ Wa.cell? ⟨w.heap.size, 12, none⟩ = some (.slice AG nG cG) ∧ Wa.cell? ⟨w.heap.size, 13, none⟩ = some (.slice AO nO cO) ∧ Wa.cell? ⟨w.heap.size, 14, none⟩ = some (.int .i64 lim) ∧ w.heap.size < Wa.heap.size ∧ Below w.heap.size w Wa := by { rw [hWa]; exact (by refine ⟨?_, ?_, ?_, ?_, ?_, ?_, ?_, ?_, ?_, ?_, ?_, ?_, ?_, ?_, ?_, ?_, ?_⟩ <;> first | (simp [go_sem, *]; done) | omega | (simp; omega) | exact (by repeat (first | exact Below.refl _ _ | refine Below.setCell ?_ (by first | (simp; done) | (simp; omega) | omega) _ | refine Below.alloc ?_ (by first | (simp; done) | (simp; omega) | omega) _ | refine Below.drew ?_ | assumption | refine Below.trans ?_ (Below.mono (by assumption) (by first | (simp; done) | (simp; omega) | omega))))) }; clear hWa; obtain ⟨cWa_0, cWa_1, cWa_2, cWa_3, cWa_4, cWa_5, cWa_6, cWa_7, cWa_8, cWa_9, cWa_10, cWa_11, cWa_12, cWa_13, cWa_14, zWa_0, bWa⟩ := kWa
    have gc0 := grown_cell cWa_0; have gc1 := grown_cell cWa_1; have gc2 := grown_cell cWa_2; have gc3 := grown_cell cWa_3; have gc4 := grown_cell cWa_4; have gc5 := grown_cell cWa_5; have gc6 := grown_cell cWa_6; have gc7 := grown_cell cWa_7; have gc8 := grown_cell cWa_8; have gc9 := grown_cell cWa_9; have gc10 := grown_cell cWa_10; have gc11 := grown_cell cWa_11; have gc12 := grown_cell cWa_12; have gc13 := grown_cell cWa_13; have gc14 := grown_cell cWa_14; have gz0 := grown_size zWa_0; refine wp_region_quiet_below (by kernel_rfl) (by kernel_rfl) ?_; (try simp only [List.take_succ_cons, List.take_zero]); (repeat (any_goals (first | go_big_quiet_step ((go_at_call 19; with_reducible exact Calls.regrown_of (LI.out _ (bWa.trans ((below_regrown Wa _ _).mono bWa.size))))) | quiet_step ((go_at_call 19; with_reducible exact Calls.regrown_of (LI.out _ (bWa.trans ((below_regrown Wa _ _).mono bWa.size)))))))); refine wpQuiet_nil ?_; intro _ hw'; obtain ⟨⟨dq, osq⟩, hw''⟩ := hw'; subst hw''; have kWb : (grow (redrawn Wa dq) osq).cell? ⟨w.heap.size, 0, none⟩ = some (.slice AI nI cI) ∧ (grow (redrawn Wa dq) osq).cell? ⟨w.heap.size, 1, none⟩ = some (.string TB) ∧ (grow (redrawn Wa dq) osq).cell? ⟨w.heap.size, 2, none⟩ = some (.int .i64 op) ∧ (grow (redrawn Wa dq) osq).cell? ⟨w.heap.size, 3, none⟩ = some (.slice AC args.length cC) ∧ (grow (redrawn Wa dq) osq).cell? ⟨w.heap.size, 4, none⟩ = some (.string U1) ∧ (grow (redrawn Wa dq) osq).cell? ⟨w.heap.size, 5, none⟩ = some (.int .i64 lt) ∧ (grow (redrawn Wa dq) osq).cell? ⟨w.heap.size, 6, none⟩ = some (.int .i64 ln) ∧ (grow (redrawn Wa dq) osq).cell? ⟨w.heap.size, 7, none⟩ = some (.string U2) ∧ (grow (redrawn Wa dq) osq).cell? ⟨w.heap.size, 8, none⟩ = some (.string U3) ∧ (grow (redrawn Wa dq) osq).cell? ⟨w.heap.size, 9, none⟩ = some (.int .i64 rt) ∧ (grow (redrawn Wa dq) osq).cell? ⟨w.heap.size, 10, none⟩ = some (.int .i64 rn) ∧ (grow (redrawn Wa dq) osq).cell? ⟨w.heap.size, 11, none⟩ = some (.string U4) ∧ (grow (redrawn Wa dq) osq).cell? ⟨w.heap.size, 12, none⟩ = some (.slice AG nG cG) ∧ (grow (redrawn Wa dq) osq).cell? ⟨w.heap.size, 13, none⟩ = some (.slice AO nO cO) ∧ (grow (redrawn Wa dq) osq).cell? ⟨w.heap.size, 14, none⟩ = some (.int .i64 lim) ∧ w.heap.size < (grow (redrawn Wa dq) osq).heap.size ∧ Below w.heap.size w (grow (redrawn Wa dq) osq) := ⟨gc0 dq osq, gc1 dq osq, gc2 dq osq, gc3 dq osq, gc4 dq osq, gc5 dq osq, gc6 dq osq, gc7 dq osq, gc8 dq osq, gc9 dq osq, gc10 dq osq, gc11 dq osq, gc12 dq osq, gc13 dq osq, gc14 dq osq, gz0 dq osq, bWa.trans ((below_regrown Wa dq osq).mono bWa.size)⟩; clear gc0 gc1 gc2 gc3 gc4 gc5 gc6 gc7 gc8 gc9 gc10 gc11 gc12 gc13 gc14 gz0 cWa_0 cWa_1 cWa_2 cWa_3 cWa_4 cWa_5 cWa_6 cWa_7 cWa_8 cWa_9 cWa_10 cWa_11 cWa_12 cWa_13 cWa_14 zWa_0 bWa; generalize grow (redrawn Wa dq) osq = Wb at *; obtain ⟨cWb_0, cWb_1, cWb_2, cWb_3, cWb_4, cWb_5, cWb_6, cWb_7, cWb_8, cWb_9, cWb_10, cWb_11, cWb_12, cWb_13, cWb_14, zWb_0, bWb⟩ := kWb
    have e0 : ((⟨#[115, 101, 108, 101, 99, 116, 32]⟩ : ByteArray) ++ ⟨XI.toArray⟩ ++ ⟨#[32, 102, 114, 111, 109, 32]⟩ ++ TB) = ⟨S0.toArray⟩ := by
      rw [← HTB.out, ← HS0.out]; exact cat_l _ _ T (cat_l _ _ [32, 102, 114, 111, 109, 32] (cat [115, 101, 108, 101, 99, 116, 32] XI))
    rw [e0]
    clear e0 LI FN HTB HS0 ls0 z1 z2 z3 cWb_0 cWb_1 hTs
    go_upto_if 22 with (fail)
    go_cut [5] from 22 to 28 (fun v5 wx => v5 = .string ⟨(S0 ++ W1).toArray⟩ ∧ wx.cell? ⟨w.heap.size, 2, none⟩ = some (.int .i64 op) ∧ wx.cell? ⟨w.heap.size, 3, none⟩ = some (.slice AC args.length cC) ∧ wx.cell? ⟨w.heap.size, 4, none⟩ = some (.string U1) ∧ wx.cell? ⟨w.heap.size, 5, none⟩ = some (.int .i64 lt) ∧ wx.cell? ⟨w.heap.size, 6, none⟩ = some (.int .i64 ln) ∧ wx.cell? ⟨w.heap.size, 7, none⟩ = some (.string U2) ∧ wx.cell? ⟨w.heap.size, 8, none⟩ = some (.string U3) ∧ wx.cell? ⟨w.heap.size, 9, none⟩ = some (.int .i64 rt) ∧ wx.cell? ⟨w.heap.size, 10, none⟩ = some (.int .i64 rn) ∧ wx.cell? ⟨w.heap.size, 11, none⟩ = some (.string U4) ∧ wx.cell? ⟨w.heap.size, 12, none⟩ = some (.slice AG nG cG) ∧ wx.cell? ⟨w.heap.size, 13, none⟩ = some (.slice AO nO cO) ∧ wx.cell? ⟨w.heap.size, 14, none⟩ = some (.int .i64 lim) ∧ w.heap.size < wx.heap.size ∧ Below w.heap.size w wx)
    case first =>
      by_cases hc : op = 0
      · have e1 : (op != 0) = false := by simp [hc]
        have eW : W1 = [] := HN1.out hc
        have HE : Hid ((⟨S0.toArray⟩ : ByteArray) = ⟨(S0 ++ W1).toArray⟩) := Lib.hid (by rw [eW, List.append_nil])
        clear eW hc
        go_wp2_with (fail)
        go_meet
        exact ⟨congrArg Value.string HE.out, (by refine ⟨?_, ?_, ?_, ?_, ?_, ?_, ?_, ?_, ?_, ?_, ?_, ?_, ?_, ?_, ?_⟩ <;> first | (simp [go_sem, *]; done) | omega | (simp; omega) | exact (by repeat (first | exact Below.refl _ _ | refine Below.setCell ?_ (by first | (simp; done) | (simp; omega) | omega) _ | refine Below.alloc ?_ (by first | (simp; done) | (simp; omega) | omega) _ | refine Below.drew ?_ | assumption | refine Below.trans ?_ (Below.mono (by assumption) (by first | (simp; done) | (simp; omega) | omega)))))⟩
      · have e1 : (op != 0) = true := by simp [hc]
        have eW : W1 = [32, 119, 104, 101, 114, 101, 32] ++ XC := HW1.out hc
        have lW := L1.out hc
        have KC := Lib.hid (CT.out hc)
        have HE : Hid ((⟨S0.toArray⟩ : ByteArray) ++ (⟨#[32, 119, 104, 101, 114, 101, 32]⟩ ++ ⟨XC.toArray⟩) = ⟨(S0 ++ W1).toArray⟩) := Lib.hid (by rw [eW]; exact cat3 S0 [32, 119, 104, 101, 114, 101, 32] XC)
        have y1 : ¬ 9223372036854775807 < 7 + XC.length := by omega
        have y2 : ¬ 9223372036854775807 < S0.length + (7 + XC.length) := by omega
        clear eW lW hc
        go_wp2_with (go_at_call 21; (with_reducible refine (KC.out _ bWb).mono ?_); rintro e w5 ⟨rfl, hb5⟩; obtain ⟨hc5, hf5⟩ := bcell hb5; have hs5 := hb5.size)
        go_meet
        exact ⟨congrArg Value.string HE.out, (by refine ⟨?_, ?_, ?_, ?_, ?_, ?_, ?_, ?_, ?_, ?_, ?_, ?_, ?_, ?_, ?_⟩ <;> first | (simp [go_sem, *]; done) | omega | (simp; omega) | exact (by repeat (first | exact Below.refl _ _ | refine Below.setCell ?_ (by first | (simp; done) | (simp; omega) | omega) _ | refine Below.alloc ?_ (by first | (simp; done) | (simp; omega) | omega) _ | refine Below.drew ?_ | assumption | refine Below.trans ?_ (Below.mono (by assumption) (by first | (simp; done) | (simp; omega) | omega)))))⟩
    case rest =>
    obtain ⟨rfl, m0_0, m0_1, m0_2, m0_3, m0_4, m0_5, m0_6, m0_7, m0_8, m0_9, m0_10, m0_11, m0_12, y0, B1⟩ := hcut
    obtain ⟨w10, rfl⟩ : ∃ wq : World, wq = wc := ⟨_, rfl⟩
    obtain ⟨S1, hS1⟩ : ∃ S, S0 ++ W1 = S := ⟨_, rfl⟩
    have ls1 : S1.length = S0.length + W1.length := by rw [← hS1]; simp
    rw [hS1] at HQ8 HQ0 ⊢
    clear hS1
    clear cWb_2 cWb_3 cWb_4 cWb_5 cWb_6 cWb_7 cWb_8 cWb_9 cWb_10 cWb_11 cWb_12 cWb_13 cWb_14 zWb_0 CT L1 HW1 HN1
    have B0 := B1
    clear B1 bWb
    go_upto_if 32 with (fail)
    go_cut [5] from 32 to 38 (fun v5 wx => v5 = .string ⟨(S1 ++ W2).toArray⟩ ∧ wx.cell? ⟨w.heap.size, 2, none⟩ = some (.int .i64 op) ∧ wx.cell? ⟨w.heap.size, 3, none⟩ = some (.slice AC args.length cC) ∧ wx.cell? ⟨w.heap.size, 4, none⟩ = some (.string U1) ∧ wx.cell? ⟨w.heap.size, 5, none⟩ = some (.int .i64 lt) ∧ wx.cell? ⟨w.heap.size, 6, none⟩ = some (.int .i64 ln) ∧ wx.cell? ⟨w.heap.size, 7, none⟩ = some (.string U2) ∧ wx.cell? ⟨w.heap.size, 8, none⟩ = some (.string U3) ∧ wx.cell? ⟨w.heap.size, 9, none⟩ = some (.int .i64 rt) ∧ wx.cell? ⟨w.heap.size, 10, none⟩ = some (.int .i64 rn) ∧ wx.cell? ⟨w.heap.size, 11, none⟩ = some (.string U4) ∧ wx.cell? ⟨w.heap.size, 12, none⟩ = some (.slice AG nG cG) ∧ wx.cell? ⟨w.heap.size, 13, none⟩ = some (.slice AO nO cO) ∧ wx.cell? ⟨w.heap.size, 14, none⟩ = some (.int .i64 lim) ∧ w.heap.size < wx.heap.size ∧ Below w.heap.size w wx)
    case first =>
      by_cases hc : nG = 0
      · have e1 : ¬ 0 < (nG : Int) := by omega
        have eW : W2 = [] := HN2.out (GG.out.1 hc)
        have HE : Hid ((⟨S1.toArray⟩ : ByteArray) = ⟨(S1 ++ W2).toArray⟩) := Lib.hid (by rw [eW, List.append_nil])
        clear eW hc
        go_wp2_with (fail)
        go_meet
        exact ⟨congrArg Value.string HE.out, (by refine ⟨?_, ?_, ?_, ?_, ?_, ?_, ?_, ?_, ?_, ?_, ?_, ?_, ?_, ?_, ?_⟩ <;> first | (simp [go_sem, *]; done) | omega | (simp; omega) | exact (by repeat (first | exact Below.refl _ _ | refine Below.setCell ?_ (by first | (simp; done) | (simp; omega) | omega) _ | refine Below.alloc ?_ (by first | (simp; done) | (simp; omega) | omega) _ | refine Below.drew ?_ | assumption | refine Below.trans ?_ (Below.mono (by assumption) (by first | (simp; done) | (simp; omega) | omega)))))⟩
      · have e1 : 0 < (nG : Int) := by omega
        have hne : ¬ G = [] := fun h => hc (GG.out.2 h)
        have eW : W2 = [32, 103, 114, 111, 117, 112, 32, 98, 121, 32] ++ XG := HW2.out hne
        have lW := L2.out hne
        have KC := Lib.hid (JG.out hne)
        have HE : Hid ((⟨S1.toArray⟩ : ByteArray) ++ (⟨#[32, 103, 114, 111, 117, 112, 32, 98, 121, 32]⟩ ++ ⟨XG.toArray⟩) = ⟨(S1 ++ W2).toArray⟩) := Lib.hid (by rw [eW]; exact cat3 S1 [32, 103, 114, 111, 117, 112, 32, 98, 121, 32] XG)
        have y1 : ¬ 9223372036854775807 < 10 + XG.length := by omega
        have y2 : ¬ 9223372036854775807 < S1.length + (10 + XG.length) := by omega
        clear eW lW hc
        go_wp2_with (go_at_call 22; (with_reducible refine (KC.out _ B0).mono ?_); rintro e w5 ⟨rfl, hb5⟩; obtain ⟨hc5, hf5⟩ := bcell hb5; have hs5 := hb5.size)
        go_meet
        exact ⟨congrArg Value.string HE.out, (by refine ⟨?_, ?_, ?_, ?_, ?_, ?_, ?_, ?_, ?_, ?_, ?_, ?_, ?_, ?_, ?_⟩ <;> first | (simp [go_sem, *]; done) | omega | (simp; omega) | exact (by repeat (first | exact Below.refl _ _ | refine Below.setCell ?_ (by first | (simp; done) | (simp; omega) | omega) _ | refine Below.alloc ?_ (by first | (simp; done) | (simp; omega) | omega) _ | refine Below.drew ?_ | assumption | refine Below.trans ?_ (Below.mono (by assumption) (by first | (simp; done) | (simp; omega) | omega)))))⟩
    case rest =>
    obtain ⟨rfl, m1_0, m1_1, m1_2, m1_3, m1_4, m1_5, m1_6, m1_7, m1_8, m1_9, m1_10, m1_11, m1_12, y0, B1⟩ := hcut
    obtain ⟨w20, rfl⟩ : ∃ wq : World, wq = wc := ⟨_, rfl⟩
    obtain ⟨S2, hS2⟩ : ∃ S, S1 ++ W2 = S := ⟨_, rfl⟩
    have ls2 : S2.length = S1.length + W2.length := by rw [← hS2]; simp
    rw [hS2] at HQ8 HQ0 ⊢
    clear hS2
    clear B0 m0_0 m0_1 m0_2 m0_3 m0_4 m0_5 m0_6 m0_7 m0_8 m0_9 m0_10 m0_11 m0_12
    have B0 := B1
    clear B1
    go_upto_if 42 with (fail)
    go_cut [5] from 42 to 48 (fun v5 wx => v5 = .string ⟨(S2 ++ W3).toArray⟩ ∧ wx.cell? ⟨w.heap.size, 2, none⟩ = some (.int .i64 op) ∧ wx.cell? ⟨w.heap.size, 3, none⟩ = some (.slice AC args.length cC) ∧ wx.cell? ⟨w.heap.size, 4, none⟩ = some (.string U1) ∧ wx.cell? ⟨w.heap.size, 5, none⟩ = some (.int .i64 lt) ∧ wx.cell? ⟨w.heap.size, 6, none⟩ = some (.int .i64 ln) ∧ wx.cell? ⟨w.heap.size, 7, none⟩ = some (.string U2) ∧ wx.cell? ⟨w.heap.size, 8, none⟩ = some (.string U3) ∧ wx.cell? ⟨w.heap.size, 9, none⟩ = some (.int .i64 rt) ∧ wx.cell? ⟨w.heap.size, 10, none⟩ = some (.int .i64 rn) ∧ wx.cell? ⟨w.heap.size, 11, none⟩ = some (.string U4) ∧ wx.cell? ⟨w.heap.size, 12, none⟩ = some (.slice AG nG cG) ∧ wx.cell? ⟨w.heap.size, 13, none⟩ = some (.slice AO nO cO) ∧ wx.cell? ⟨w.heap.size, 14, none⟩ = some (.int .i64 lim) ∧ w.heap.size < wx.heap.size ∧ Below w.heap.size w wx)
    case first =>
      by_cases hc : nO = 0
      · have e1 : ¬ 0 < (nO : Int) := by omega
        have eW : W3 = [] := HN3.out (GO.out.1 hc)
        have HE : Hid ((⟨S2.toArray⟩ : ByteArray) = ⟨(S2 ++ W3).toArray⟩) := Lib.hid (by rw [eW, List.append_nil])
        clear eW hc
        go_wp2_with (fail)
        go_meet
        exact ⟨congrArg Value.string HE.out, (by refine ⟨?_, ?_, ?_, ?_, ?_, ?_, ?_, ?_, ?_, ?_, ?_, ?_, ?_, ?_, ?_⟩ <;> first | (simp [go_sem, *]; done) | omega | (simp; omega) | exact (by repeat (first | exact Below.refl _ _ | refine Below.setCell ?_ (by first | (simp; done) | (simp; omega) | omega) _ | refine Below.alloc ?_ (by first | (simp; done) | (simp; omega) | omega) _ | refine Below.drew ?_ | assumption | refine Below.trans ?_ (Below.mono (by assumption) (by first | (simp; done) | (simp; omega) | omega)))))⟩
      · have e1 : 0 < (nO : Int) := by omega
        have hne : ¬ O = [] := fun h => hc (GO.out.2 h)
        have eW : W3 = [32, 111, 114, 100, 101, 114, 32, 98, 121, 32] ++ XO := HW3.out hne
        have lW := L3.out hne
        have KC := Lib.hid (LO.out hne)
        have HE : Hid ((⟨S2.toArray⟩ : ByteArray) ++ (⟨#[32, 111, 114, 100, 101, 114, 32, 98, 121, 32]⟩ ++ ⟨XO.toArray⟩) = ⟨(S2 ++ W3).toArray⟩) := Lib.hid (by rw [eW]; exact cat3 S2 [32, 111, 114, 100, 101, 114, 32, 98, 121, 32] XO)
        have y1 : ¬ 9223372036854775807 < 10 + XO.length := by omega
        have y2 : ¬ 9223372036854775807 < S2.length + (10 + XO.length) := by omega
        clear eW lW hc
        go_wp2_with (go_at_call 23; (with_reducible refine (KC.out _ B0).mono ?_); rintro e w5 ⟨rfl, hb5⟩; obtain ⟨hc5, hf5⟩ := bcell hb5; have hs5 := hb5.size)
        go_meet
        exact ⟨congrArg Value.string HE.out, (by refine ⟨?_, ?_, ?_, ?_, ?_, ?_, ?_, ?_, ?_, ?_, ?_, ?_, ?_, ?_, ?_⟩ <;> first | (simp [go_sem, *]; done) | omega | (simp; omega) | exact (by repeat (first | exact Below.refl _ _ | refine Below.setCell ?_ (by first | (simp; done) | (simp; omega) | omega) _ | refine Below.alloc ?_ (by first | (simp; done) | (simp; omega) | omega) _ | refine Below.drew ?_ | assumption | refine Below.trans ?_ (Below.mono (by assumption) (by first | (simp; done) | (simp; omega) | omega)))))⟩
    case rest =>
    obtain ⟨rfl, m2_0, m2_1, m2_2, m2_3, m2_4, m2_5, m2_6, m2_7, m2_8, m2_9, m2_10, m2_11, m2_12, y0, B1⟩ := hcut
    obtain ⟨w30, rfl⟩ : ∃ wq : World, wq = wc := ⟨_, rfl⟩
    obtain ⟨S3, hS3⟩ : ∃ S, S2 ++ W3 = S := ⟨_, rfl⟩
    have ls3 : S3.length = S2.length + W3.length := by rw [← hS3]; simp
    rw [hS3] at HQ8 HQ0 ⊢
    clear hS3
    clear B0 m1_0 m1_1 m1_2 m1_3 m1_4 m1_5 m1_6 m1_7 m1_8 m1_9 m1_10 m1_11 m1_12
    have B0 := B1
    clear B1
    go_upto_if 51 with (fail)
    go_cut [5] from 51 to 57 (fun v5 wx => v5 = .string ⟨(S3 ++ W4).toArray⟩ ∧ wx.cell? ⟨w.heap.size, 2, none⟩ = some (.int .i64 op) ∧ wx.cell? ⟨w.heap.size, 3, none⟩ = some (.slice AC args.length cC) ∧ wx.cell? ⟨w.heap.size, 4, none⟩ = some (.string U1) ∧ wx.cell? ⟨w.heap.size, 5, none⟩ = some (.int .i64 lt) ∧ wx.cell? ⟨w.heap.size, 6, none⟩ = some (.int .i64 ln) ∧ wx.cell? ⟨w.heap.size, 7, none⟩ = some (.string U2) ∧ wx.cell? ⟨w.heap.size, 8, none⟩ = some (.string U3) ∧ wx.cell? ⟨w.heap.size, 9, none⟩ = some (.int .i64 rt) ∧ wx.cell? ⟨w.heap.size, 10, none⟩ = some (.int .i64 rn) ∧ wx.cell? ⟨w.heap.size, 11, none⟩ = some (.string U4) ∧ wx.cell? ⟨w.heap.size, 12, none⟩ = some (.slice AG nG cG) ∧ wx.cell? ⟨w.heap.size, 13, none⟩ = some (.slice AO nO cO) ∧ wx.cell? ⟨w.heap.size, 14, none⟩ = some (.int .i64 lim) ∧ w.heap.size < wx.heap.size ∧ Below w.heap.size w wx)
    case first =>
      by_cases hc : ¬ 0 ≤ lim
      · have e1 : ¬ 0 ≤ lim := hc
        have eW : W4 = [] := HN4.out (by omega)
        have HE : Hid ((⟨S3.toArray⟩ : ByteArray) = ⟨(S3 ++ W4).toArray⟩) := Lib.hid (by rw [eW, List.append_nil])
        clear eW
        go_wp2_with (fail)
        go_meet
        exact ⟨congrArg Value.string HE.out, (by refine ⟨?_, ?_, ?_, ?_, ?_, ?_, ?_, ?_, ?_, ?_, ?_, ?_, ?_, ?_, ?_⟩ <;> first | (simp [go_sem, *]; done) | omega | (simp; omega) | exact (by repeat (first | exact Below.refl _ _ | refine Below.setCell ?_ (by first | (simp; done) | (simp; omega) | omega) _ | refine Below.alloc ?_ (by first | (simp; done) | (simp; omega) | omega) _ | refine Below.drew ?_ | assumption | refine Below.trans ?_ (Below.mono (by assumption) (by first | (simp; done) | (simp; omega) | omega)))))⟩
      · have hc' : 0 ≤ lim := by omega
        have eW : W4 = [32, 108, 105, 109, 105, 116, 32] ++ XL := HW4.out hc'
        have lW := L4.out hc'
        have KC := Lib.hid IT.out
        have HE : Hid ((⟨S3.toArray⟩ : ByteArray) ++ (⟨#[32, 108, 105, 109, 105, 116, 32]⟩ ++ ⟨XL.toArray⟩) = ⟨(S3 ++ W4).toArray⟩) := Lib.hid (by rw [eW]; exact cat3 S3 [32, 108, 105, 109, 105, 116, 32] XL)
        have y1 : ¬ 9223372036854775807 < 7 + XL.length := by omega
        have y2 : ¬ 9223372036854775807 < S3.length + (7 + XL.length) := by omega
        clear eW lW
        go_wp2_with (go_at_call 25; (with_reducible refine (KC.out _ B0).mono ?_); rintro e w5 ⟨rfl, hb5⟩; obtain ⟨hc5, hf5⟩ := bcell hb5; have hs5 := hb5.size)
        go_meet
        exact ⟨congrArg Value.string HE.out, (by refine ⟨?_, ?_, ?_, ?_, ?_, ?_, ?_, ?_, ?_, ?_, ?_, ?_, ?_, ?_, ?_⟩ <;> first | (simp [go_sem, *]; done) | omega | (simp; omega) | exact (by repeat (first | exact Below.refl _ _ | refine Below.setCell ?_ (by first | (simp; done) | (simp; omega) | omega) _ | refine Below.alloc ?_ (by first | (simp; done) | (simp; omega) | omega) _ | refine Below.drew ?_ | assumption | refine Below.trans ?_ (Below.mono (by assumption) (by first | (simp; done) | (simp; omega) | omega)))))⟩
    case rest =>
    obtain ⟨rfl, m3_0, m3_1, m3_2, m3_3, m3_4, m3_5, m3_6, m3_7, m3_8, m3_9, m3_10, m3_11, m3_12, y0, B1⟩ := hcut
    obtain ⟨w40, rfl⟩ : ∃ wq : World, wq = wc := ⟨_, rfl⟩
    obtain ⟨S4, hS4⟩ : ∃ S, S3 ++ W4 = S := ⟨_, rfl⟩
    have ls4 : S4.length = S3.length + W4.length := by rw [← hS4]; simp
    rw [hS4] at HQ8 HQ0 ⊢
    clear hS4
    clear B0 m2_0 m2_1 m2_2 m2_3 m2_4 m2_5 m2_6 m2_7 m2_8 m2_9 m2_10 m2_11 m2_12
    have B0 := B1
    clear B1
    have hs4 : (⟨S4.toArray⟩ : ByteArray).size = S4.length := by simp [ByteArray.size]
    by_cases hb : 65536 < S4.length
    · have hb' : 65536 < (S4.length : Int) := by omega
      have F8 := Lib.hid (HQ8.out hb)
      generalize (⟨S4.toArray⟩ : ByteArray) = Z at *
      clear HQ8 HQ0
      go_wp2_with (fail)
      exact F8.out _ B0
    · have hb' : ¬ 65536 < (S4.length : Int) := by omega
      have F0 := Lib.hid (HQ0.out hb)
      generalize (⟨S4.toArray⟩ : ByteArray) = Z at *
      clear HQ8 HQ0
      go_wp2_with (fail)
      exact F0.out _ B0
  · have HQ1 : Hid (∀ w', Below w.heap.size w w' → Q (.returned (.tuple #[.string ⟨#[]⟩, .int .i64 (formQ q)])) w') := Lib.hid fun w' hb => by
      have e1 : formatE q = formQ q := by unfold formatE; rw [if_pos hf]
      have e2 : formatX q = [] := by unfold formatX; rw [e1, if_neg hf]
      have := HQ.out w' hb
      rw [e1, e2] at this
      exact this
    obtain ⟨I, T, ⟨op, args, ⟨lc, lt, ln, ls⟩, ⟨rc, rt, rn, rs⟩⟩, G, O, lim⟩ := q
    have hcv := H.cv
    obtain ⟨AC, cC, rfl, -⟩ := hcv.open
    dsimp only [qCells, condC, termC, List.cons_append, List.nil_append] at FN ⊢
    generalize formQ ⟨I, T, .mk op args ⟨lc, lt, ln, ls⟩ ⟨rc, rt, rn, rs⟩, G, O, lim⟩ = fe at *
    have e1 : (fe != 0) = true := by simp [hf]
    generalize (⟨T.toArray⟩ : ByteArray) = TB at *
    generalize (⟨lc.toArray⟩ : ByteArray) = U1 at *
    generalize (⟨ls.toArray⟩ : ByteArray) = U2 at *
    generalize (⟨rc.toArray⟩ : ByteArray) = U3 at *
    generalize (⟨rs.toArray⟩ : ByteArray) = U4 at *
    clear HQ hX H S E hcG hcv hf
    have z0 : w.heap.size < w.heap.size + 1 := by omega
    go_enter Tryz.func9, Tryz.ntmps9
    go_wp2_with (go_at_call 18; (with_reducible refine (FN.out _ (by repeat (first | exact Below.refl _ _ | refine Below.setCell ?_ (by first | (simp; done) | (simp; omega) | omega) _ | refine Below.alloc ?_ (by first | (simp; done) | (simp; omega) | omega) _ | refine Below.drew ?_ | assumption | refine Below.trans ?_ (Below.mono (by assumption) (by first | (simp; done) | (simp; omega) | omega))))).mono ?_); rintro e w1 ⟨rfl, hb1⟩; obtain ⟨hc1, hf1⟩ := bcell hb1; have hs1 := hb1.size; (try simp only [World.size_alloc] at hc1 hf1 hs1))
    exact HQ1.out _ (by repeat (first | exact Below.refl _ _ | refine Below.setCell ?_ (by first | (simp; done) | (simp; omega) | omega) _ | refine Below.alloc ?_ (by first | (simp; done) | (simp; omega) | omega) _ | refine Below.drew ?_ | assumption | refine Below.trans ?_ (Below.mono (by assumption) (by first | (simp; done) | (simp; omega) | omega))))
end Go.Proofs.YtijlifdbjhieaaaGreatDoor
