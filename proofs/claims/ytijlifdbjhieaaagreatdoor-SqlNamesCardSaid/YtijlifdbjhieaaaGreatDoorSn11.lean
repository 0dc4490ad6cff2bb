/-
  The walk of SqlNames. (Printed by tools/mksn11.py.)
-/
import Derived.Test.YtijlifdbjhieaaaGreatDoorSn10
namespace Go.Proofs.YtijlifdbjhieaaaGreatDoor
set_option linter.all false
open Go.RowKit Go.Shelf Go.Sort
attribute [local go_sem] cell_set_self lt_1 lt_2 lt_3 lt_4 lt_5 lt_6

theorem cell_below {W0 W' : World} {p : Addr} {u : Value} (hb : Below W0.heap.size W0 W') (h : W0.cell? p = some u) : W'.cell? p = some u := (hb.cell (p := p) (World.block_lt_of_cell? W0 _ h)).trans h
theorem alloc_blk {W : World} {o : Obj} {k : Nat} (h : k < W.heap.size) : (W.alloc o).heap[k]? = W.heap[k]? := by simp only [World.alloc]; rw [Array.getElem?_push, if_neg (by omega)]
set_option maxHeartbeats 16000000 in
set_option maxRecDepth 100000 in
theorem names_walk (q : QueryT) (AI AG AO : Option Addr) (cI cG cO : Nat) (cs : List Value) (LA : Option Addr) (cL : Nat) (L : List SchT) (m : SchT) (B1 : Option Addr) (d1 : Nat) (B2 : Option Addr) (d2 : Nat) (w : World) (H : QV w q AI AG AO cs) (B : QBig q) (hcG : q.group.length ≤ cG ∧ (AG = none → cG = 0)) (HL : ScL w LA L) (hL : L.length ≤ 1000000000000000 ∧ L.length ≤ cL ∧ (LA = none → cL = 0)) (HM : SchV w m B1 d1 B2 d2) (E : Env w) :
    Calls Tryz.prog 6 #[.agg (qCells AI q.items.length cI q.table cs AG q.group.length cG AO q.order.length cO q.limit).toArray, .slice LA L.length cL, .agg #[.string ⟨m.table.toArray⟩, .slice B1 m.cols.length d1, .slice B2 m.key.length d2]] w fun e w' => e = .returned (.bool true) ∧ Below w.heap.size w w' := by
  suffices key : ∀ Q : Ending → World → Prop, Hid (∀ w', Below w.heap.size w w' → Q (.returned (.bool true)) w') → Calls Tryz.prog 6 #[.agg (qCells AI q.items.length cI q.table cs AG q.group.length cG AO q.order.length cO q.limit).toArray, .slice LA L.length cL, .agg #[.string ⟨m.table.toArray⟩, .slice B1 m.cols.length d1, .slice B2 m.key.length d2]] w Q from key _ (Lib.hid fun _ h => ⟨rfl, h⟩)
  intro Q HQ
  have HE := Lib.hid E
  have FI := Lib.hid (fun W (hb : Below w.heap.size w W) => first_any W (E.below hb))
  have FW := Lib.hid (fun W (hb : Below w.heap.size w W) => few_any q AI AG AO cI cG cO cs W (H.below hb) B)
  have NU := Lib.hid (fun e W => num_any e W)
  have FS := Lib.hid (fun W (hb : Below w.heap.size w W) => fews_any LA cL L hL.1 W (HL.below hb))
  have FS1 : Hid (∀ W blk, ScL W (some ⟨blk, 0, none⟩) [m] → Calls Tryz.prog 15 #[.slice (some ⟨blk, 0, none⟩) 1 1] W fun e w' => ∃ b, e = .returned (.bool b) ∧ W = w' ∧ (b = true → [m].length ≤ 25 ∧ ∀ s ∈ [m], s.cols.length ≤ 30 ∧ s.key.length ≤ 30)) := Lib.hid fun W blk h => fews_any (some ⟨blk, 0, none⟩) 1 [m] (by simp) W h
  have HMM := Lib.hid HM
  have HLL := Lib.hid HL
  have HLA : Hid (LA = none → cL = 0 ∧ L.length = 0) := Lib.hid (fun e => ⟨hL.2.2 e, by have := hL.2.2 e; omega⟩)
  have hcv := H.cv
  obtain ⟨I, T, C, G, O, lim⟩ := q
  obtain ⟨op, args, ⟨lc, lt, ln, ls⟩, ⟨rc, rt, rn, rs⟩⟩ := C
  obtain ⟨AC, cC, rfl, -⟩ := hcv.open
  have CB : Hid (QSm (⟨I, T, .mk op args ⟨lc, lt, ln, ls⟩ ⟨rc, rt, rn, rs⟩, G, O, lim⟩ : QueryT) → L.length ≤ 25 → (∀ s ∈ L, s.cols.length ≤ 30 ∧ s.key.length ≤ 30) → ∀ er, checkE (⟨I, T, .mk op args ⟨lc, lt, ln, ls⟩ ⟨rc, rt, rn, rs⟩, G, O, lim⟩ : QueryT) L = er → er ≠ 0 → ∀ W, Below w.heap.size w W → Calls Tryz.prog 16 #[.agg #[.slice AI I.length cI, .string ⟨T.toArray⟩, .int .i64 op, .slice AC args.length cC, .string ⟨lc.toArray⟩, .int .i64 lt, .int .i64 ln, .string ⟨ls.toArray⟩, .string ⟨rc.toArray⟩, .int .i64 rt, .int .i64 rn, .string ⟨rs.toArray⟩, .slice AG G.length cG, .slice AO O.length cO, .int .i64 lim], .slice LA L.length cL] W fun e w' => e = .returned (.tuple #[.slice none 0 0, .int .i64 er]) ∧ Below W.heap.size W w') := Lib.hid fun SS hl hs er he h0 W hb => by
    have := SS.ni; have := SS.ng; have := SS.no
    dsimp only at *
    exact cols_bad AI AG AO AC LA cI cG cO cC cL I T op args lc lt ln ls rc rt rn rs G O lim L W (H.below hb) (short_sm SS) (HL.below hb) (by omega) (fun s hx => ⟨by have := (hs s hx).1; omega, by have := (hs s hx).2; omega⟩) (by omega) (by omega) (by omega) hcG.1 er he h0
  have CG : Hid (QSm (⟨I, T, .mk op args ⟨lc, lt, ln, ls⟩ ⟨rc, rt, rn, rs⟩, G, O, lim⟩ : QueryT) → ∀ L2 : List SchT, L2.length ≤ 26 → (∀ s ∈ L2, s.cols.length ≤ 30 ∧ s.key.length ≤ 30) → ∀ s, checkE (⟨I, T, .mk op args ⟨lc, lt, ln, ls⟩ ⟨rc, rt, rn, rs⟩, G, O, lim⟩ : QueryT) L2 = 0 → L2.find? (isTab T) = some s → ∀ W A2 c2, ScL W A2 L2 → Below w.heap.size w W → Calls Tryz.prog 16 #[.agg #[.slice AI I.length cI, .string ⟨T.toArray⟩, .int .i64 op, .slice AC args.length cC, .string ⟨lc.toArray⟩, .int .i64 lt, .int .i64 ln, .string ⟨ls.toArray⟩, .string ⟨rc.toArray⟩, .int .i64 rt, .int .i64 rn, .string ⟨rs.toArray⟩, .slice AG G.length cG, .slice AO O.length cO, .int .i64 lim], .slice A2 L2.length c2] W fun e w' => ∃ A c, e = .returned (.tuple #[.slice A I.length c, .int .i64 0]) ∧ ClL w' A (I.map (colF s)) ∧ Below W.heap.size W w') := Lib.hid fun SS L2 hl hs s he hf W A2 c2 hL2 hb => by
    have := SS.ni; have := SS.ng; have := SS.no
    have hit := SS.it
    dsimp only at *
    exact cols_good AI AG AO AC A2 cI cG cO cC c2 I T op args lc lt ln ls rc rt rn rs G O lim L2 W (H.below hb) (short_sm SS) hL2 (by omega) (fun s hx => ⟨by have := (hs s hx).1; omega, by have := (hs s hx).2; omega⟩) (by omega) (by omega) (fun x hx => by obtain ⟨i, hi⟩ := List.getElem?_of_mem hx; have := hit i x hi; omega) (by omega) hcG.1 s he hf
  have HFW := FW
  have eqQ : qCells AI I.length cI T (condC op AC args.length cC ⟨lc, lt, ln, ls⟩ ⟨rc, rt, rn, rs⟩) AG G.length cG AO O.length cO lim = [.slice AI I.length cI, .string ⟨T.toArray⟩, .int .i64 op, .slice AC args.length cC, .string ⟨lc.toArray⟩, .int .i64 lt, .int .i64 ln, .string ⟨ls.toArray⟩, .string ⟨rc.toArray⟩, .int .i64 rt, .int .i64 rn, .string ⟨rs.toArray⟩, .slice AG G.length cG, .slice AO O.length cO, .int .i64 lim] := rfl
  dsimp only at FW CB CG ⊢
  rw [eqQ] at FW ⊢
  clear eqQ HFW
  obtain ⟨TB, hTB⟩ : ∃ t : ByteArray, (⟨T.toArray⟩ : ByteArray) = t := ⟨_, rfl⟩
  obtain ⟨U1, hU1⟩ : ∃ t : ByteArray, (⟨lc.toArray⟩ : ByteArray) = t := ⟨_, rfl⟩
  obtain ⟨U2, hU2⟩ : ∃ t : ByteArray, (⟨ls.toArray⟩ : ByteArray) = t := ⟨_, rfl⟩
  obtain ⟨U3, hU3⟩ : ∃ t : ByteArray, (⟨rc.toArray⟩ : ByteArray) = t := ⟨_, rfl⟩
  obtain ⟨U4, hU4⟩ : ∃ t : ByteArray, (⟨rs.toArray⟩ : ByteArray) = t := ⟨_, rfl⟩
  obtain ⟨MT, hMT⟩ : ∃ t : ByteArray, (⟨m.table.toArray⟩ : ByteArray) = t := ⟨_, rfl⟩
  have HMT := Lib.hid hMT
  rw [hTB, hU1, hU2, hU3, hU4] at FW CB CG
  rw [hTB, hU1, hU2, hU3, hU4, hMT]
  clear hTB hU1 hU2 hU3 hU4 hMT H HL HM B hcG hcv E
  obtain ⟨hLn, hLc, -⟩ := hL
  go_enter Tryz.func6, Tryz.ntmps6
  go_wp2_with (fail)
  go_at_call 7
  refine (FI.out _ (by repeat (first | (with_reducible assumption) | (with_reducible exact Below.refl _ _) | (with_reducible refine Below.setCell ?_ (by first | (simp; done) | (simp; omega) | omega) _) | (with_reducible refine Below.alloc ?_ (by first | (simp; done) | (simp; omega) | omega) _)))).mono ?_
  rintro e w1 ⟨rfl, hb1⟩
  obtain ⟨hc1, hf1⟩ := bcell hb1
  (try simp only [drew_size, drew_cell, drew_frozen, World.size_alloc, World.size_setCell] at hc1 hf1)
  have hz1 : w.heap.size < w1.heap.size ∧ w.heap.size + 1 < w1.heap.size := (by have := hb1.size; (try simp at this); omega)
  have hB1 : Below w.heap.size w w1 := (by refine Below.trans ?_ (hb1.mono (by first | (simp; done) | (simp; omega) | omega)); repeat (first | (with_reducible assumption) | (with_reducible exact Below.refl _ _) | (with_reducible refine Below.alloc ?_ (by first | (simp; done) | (simp; omega) | omega) _)))
  have hs1 := hB1.size
  clear FI
  go_wp2_with (fail)
  go_at_call 8
  refine (FW.out _ (by repeat (first | (with_reducible assumption) | (with_reducible exact Below.refl _ _) | (with_reducible refine Below.setCell ?_ (by first | (simp; done) | (simp; omega) | omega) _) | (with_reducible refine Below.alloc ?_ (by first | (simp; done) | (simp; omega) | omega) _)))).mono ?_
  rintro e w2 ⟨⟨b, rfl, hSm⟩, hb2⟩
  obtain ⟨hc2, hf2⟩ := bcell hb2
  (try simp only [drew_size, drew_cell, drew_frozen, World.size_alloc, World.size_setCell] at hc2 hf2)
  have hz2 : w.heap.size < w2.heap.size ∧ w.heap.size + 1 < w2.heap.size := (by have := hb2.size; (try simp at this); omega)
  have hB2 : Below w.heap.size w w2 := (by refine Below.trans ?_ (hb2.mono (by first | (simp; done) | (simp; omega) | omega)); repeat (first | (with_reducible assumption) | (with_reducible exact Below.refl _ _) | (with_reducible refine Below.alloc ?_ (by first | (simp; done) | (simp; omega) | omega) _)))
  have hs2 := hB2.size
  clear FW
  cases b with
  | false =>
    go_wp2_with (fail)
    exact HQ.out _ (by repeat (first | (with_reducible assumption) | (with_reducible exact Below.refl _ _) | (with_reducible refine Below.setCell ?_ (by first | (simp; done) | (simp; omega) | omega) _) | (with_reducible refine Below.alloc ?_ (by first | (simp; done) | (simp; omega) | omega) _)))
  | true =>
    have SS := Lib.hid (hSm rfl)
    clear hSm
    go_wp2_with (fail)
    go_at_call 15
    refine (FS.out _ (by repeat (first | (with_reducible assumption) | (with_reducible exact Below.refl _ _) | (with_reducible refine Below.setCell ?_ (by first | (simp; done) | (simp; omega) | omega) _) | (with_reducible refine Below.alloc ?_ (by first | (simp; done) | (simp; omega) | omega) _)))).mono ?_
    rintro e w3 ⟨b, rfl, rfl, hS3⟩
    clear FS
    cases b with
    | false =>
      go_wp2_with (fail)
      exact HQ.out _ (by repeat (first | (with_reducible assumption) | (with_reducible exact Below.refl _ _) | (with_reducible refine Below.setCell ?_ (by first | (simp; done) | (simp; omega) | omega) _) | (with_reducible refine Below.alloc ?_ (by first | (simp; done) | (simp; omega) | omega) _)))
    | true =>
      have HS3 := Lib.hid (hS3 rfl)
      clear hS3
      go_wp2_with (fail)
      go_at_call 15
      refine (FS1.out _ _ (by
        have h := HMM.out.below (hB2.alloc hs2 (.cells #[.string MT, .slice B1 m.cols.length d1, .slice B2 m.key.length d2] 59))
        intro i x hi
        cases i with
        | zero =>
          simp at hi; subst hi
          exact ⟨_, 0, B1, d1, B2, d2, rfl, by simp, by rw [HMT.out]; simp [go_sem], by simp [go_sem], by simp [go_sem], h⟩
        | succ i => simp at hi)).mono ?_
      rintro e w4 ⟨b, rfl, rfl, hS4⟩
      clear FS1
      cases b with
      | false =>
        go_wp2_with (fail)
        exact HQ.out _ (by repeat (first | (with_reducible assumption) | (with_reducible exact Below.refl _ _) | (with_reducible refine Below.setCell ?_ (by first | (simp; done) | (simp; omega) | omega) _) | (with_reducible refine Below.alloc ?_ (by first | (simp; done) | (simp; omega) | omega) _)))
      | true =>
        have HS4 := Lib.hid (hS4 rfl)
        clear hS4
        by_cases h20 : 20 < L.length
        · have h20' : (20 : Int) < (L.length : Int) := by omega
          go_wp2_with (fail)
          exact HQ.out _ (by repeat (first | (with_reducible assumption) | (with_reducible exact Below.refl _ _) | (with_reducible refine Below.setCell ?_ (by first | (simp; done) | (simp; omega) | omega) _) | (with_reducible refine Below.alloc ?_ (by first | (simp; done) | (simp; omega) | omega) _)))
        have h20' : ¬ (20 : Int) < (L.length : Int) := by omega
        obtain ⟨ce, hce⟩ : ∃ x, checkE (⟨I, T, .mk op args ⟨lc, lt, ln, ls⟩ ⟨rc, rt, rn, rs⟩, G, O, lim⟩ : QueryT) L = x := ⟨_, rfl⟩
        by_cases hc0 : ce = 0
        · subst hc0
          obtain ⟨s, hs⟩ := check_find hce
          have hs' : L.find? (isTab T) = some s := hs
          obtain ⟨hm1, hm2⟩ := check_more m hce hs
          have hm2' : (L ++ [m]).find? (isTab T) = some s := hm2
          have CG1 := Lib.hid (CG.out SS.out L (by omega) HS3.out.2 s hce hs')
          have hLm : (L ++ [m]).length = L.length + 1 := by simp
          have CG20 := CG.out SS.out (L ++ [m]) (by omega) (fun x hx => by
            rcases List.mem_append.1 hx with h | h
            · exact HS3.out.2 x h
            · exact HS4.out.2 x h) s hm1 hm2'
          rw [hLm] at CG20
          have HLN := Lib.hid hLm
          have CG2 := Lib.hid CG20
          have HCI : I.length ≤ 1000000 := by have := SS.out.ni; dsimp only at this; omega
          clear hce hs hs' hm1 hm2 hm2' hLm CG20 CG CB
          go_wp2_with (fail)
          go_at_call 16
          refine (CG1.out _ LA cL (HLL.out.below (by repeat (first | (with_reducible assumption) | (with_reducible exact Below.refl _ _) | (with_reducible refine Below.setCell ?_ (by first | (simp; done) | (simp; omega) | omega) _) | (with_reducible refine Below.alloc ?_ (by first | (simp; done) | (simp; omega) | omega) _)))) (by repeat (first | (with_reducible assumption) | (with_reducible exact Below.refl _ _) | (with_reducible refine Below.setCell ?_ (by first | (simp; done) | (simp; omega) | omega) _) | (with_reducible refine Below.alloc ?_ (by first | (simp; done) | (simp; omega) | omega) _)))).mono ?_
          rintro e w5 ⟨A5, c5, rfl, hcl5, hb5⟩
          obtain ⟨hc5, hf5⟩ := bcell hb5
          (try simp only [drew_size, drew_cell, drew_frozen, World.size_alloc, World.size_setCell] at hc5 hf5)
          have hz5 : w.heap.size < w5.heap.size ∧ w.heap.size + 1 < w5.heap.size := (by have := hb5.size; (try simp at this); omega)
          have hB5 : Below w.heap.size w w5 := (by refine Below.trans ?_ (hb5.mono (by first | (simp; done) | (simp; omega) | omega)); repeat (first | (with_reducible assumption) | (with_reducible exact Below.refl _ _) | (with_reducible refine Below.alloc ?_ (by first | (simp; done) | (simp; omega) | omega) _)))
          have hs5 := hB5.size
          have HC5 := Lib.hid hcl5
          clear hcl5 CG1
          go_upto_region 7 with ((go_at_call 10; (with_reducible refine (NU.out _ _).mono ?_); rintro e w6 ⟨rfl, hb6⟩; obtain ⟨hc6, hf6⟩ := bcell hb6; (try simp only [drew_size, drew_cell, drew_frozen, World.size_alloc, World.size_setCell] at hc6 hf6); have hz6 : w.heap.size < w6.heap.size ∧ w.heap.size + 1 < w6.heap.size := (by have := hb6.size; (try simp at this); omega); have hB6 : Below w.heap.size w w6 := (by refine Below.trans ?_ (hb6.mono (by first | (simp; done) | (simp; omega) | omega)); repeat (first | (with_reducible assumption) | (with_reducible exact Below.refl _ _) | (with_reducible refine Below.setCell ?_ (by first | (simp; done) | (simp; omega) | omega) _) | (with_reducible refine Below.alloc ?_ (by first | (simp; done) | (simp; omega) | omega) _)))))
          refine name_world ?_; intro W00 hW00
          have kW0 : W00.cell? ⟨w.heap.size, 0, none⟩ = some (.slice AI I.length cI) ∧ W00.cell? ⟨w.heap.size, 1, none⟩ = some (.string TB) ∧ W00.cell? ⟨w.heap.size, 2, none⟩ = some (.int .i64 op) ∧ W00.cell? ⟨w.heap.size, 3, none⟩ = some (.slice AC args.length cC) ∧ W00.cell? ⟨w.heap.size, 4, none⟩ = some (.string U1) ∧ W00.cell? ⟨w.heap.size, 5, none⟩ = some (.int .i64 lt) ∧ W00.cell? ⟨w.heap.size, 6, none⟩ = some (.int .i64 ln) ∧ W00.cell? ⟨w.heap.size, 7, none⟩ = some (.string U2) ∧ W00.cell? ⟨w.heap.size, 8, none⟩ = some (.string U3) ∧ W00.cell? ⟨w.heap.size, 9, none⟩ = some (.int .i64 rt) ∧ W00.cell? ⟨w.heap.size, 10, none⟩ = some (.int .i64 rn) ∧ W00.cell? ⟨w.heap.size, 11, none⟩ = some (.string U4) ∧ W00.cell? ⟨w.heap.size, 12, none⟩ = some (.slice AG G.length cG) ∧ W00.cell? ⟨w.heap.size, 13, none⟩ = some (.slice AO O.length cO) ∧ W00.cell? ⟨w.heap.size, 14, none⟩ = some (.int .i64 lim) ∧ W00.cell? ⟨w.heap.size + 1, 0, none⟩ = some (.string MT) ∧ W00.cell? ⟨w.heap.size + 1, 1, none⟩ = some (.slice B1 m.cols.length d1) ∧ W00.cell? ⟨w.heap.size + 1, 2, none⟩ = some (.slice B2 m.key.length d2) ∧ w.heap.size < W00.heap.size ∧ w.heap.size + 1 < W00.heap.size ∧ Below w.heap.size w W00 := by { rw [hW00]; exact (by (refine ⟨?_, ?_, ?_, ?_, ?_, ?_, ?_, ?_, ?_, ?_, ?_, ?_, ?_, ?_, ?_, ?_, ?_, ?_, ?_, ?_, ?_⟩ <;> first | (simp [go_sem, *]; done) | omega | (simp; omega) | exact (by repeat (first | (with_reducible exact Below.refl _ _) | (with_reducible assumption) | (with_reducible refine Below.setCell ?_ (by first | (simp; done) | (simp; omega) | omega) _) | (with_reducible refine Below.alloc ?_ (by first | (simp; done) | (simp; omega) | omega) _) | (with_reducible refine Below.drew ?_) | (with_reducible refine Below.trans ?_ (Below.mono (by assumption) (by first | (simp; done) | (simp; omega) | omega))))))) }
          have HC6 : Hid (ClL W00 A5 (I.map (colF s))) := Lib.hid (by rw [hW00]; exact HC5.out.below (by first | exact hb6 | exact Below.refl _ _))
          clear hW00
          obtain ⟨W0, rfl⟩ : ∃ W, W = W00 := ⟨_, rfl⟩
          obtain ⟨cW0_0, cW0_1, cW0_2, cW0_3, cW0_4, cW0_5, cW0_6, cW0_7, cW0_8, cW0_9, cW0_10, cW0_11, cW0_12, cW0_13, cW0_14, cW0_15, cW0_16, cW0_17, zW0_0, zW0_1, bW0⟩ := kW0
          obtain ⟨CS, hCS, -, hCN⟩ := (HLL.out.below bW0).cells
          have HSC := Lib.hid hCS
          have HCSN := Lib.hid hCN
          have HCSL := Lib.hid hCS.len
          have HCSO := Lib.hid hCS.one
          have HSM : Hid (SchCs W0 [m] [.string MT, .slice B1 m.cols.length d1, .slice B2 m.key.length d2]) := Lib.hid ⟨_, _, _, [], rfl, ⟨by rw [HMT.out], B1, d1, B2, d2, rfl, rfl, HMM.out.below bW0⟩, rfl⟩
          obtain ⟨i, hi, iz0, iz1, iz2⟩ := info_parts info_sch
          replace CG2 : Hid (∀ W A2 c2, ScL W A2 (L ++ [m]) → Below W0.heap.size W0 W → Calls Tryz.prog 16 #[.agg #[.slice AI I.length cI, .string TB, .int .i64 op, .slice AC args.length cC, .string U1, .int .i64 lt, .int .i64 ln, .string U2, .string U3, .int .i64 rt, .int .i64 rn, .string U4, .slice AG G.length cG, .slice AO O.length cO, .int .i64 lim], .slice A2 (L.length + 1) c2] W fun e w' => ∃ A c, e = .returned (.tuple #[.slice A I.length c, .int .i64 0]) ∧ ClL w' A (I.map (colF s)) ∧ Below W.heap.size W w') := Lib.hid fun W A2 c2 h hb => CG2.out W A2 c2 h (bW0.trans (hb.mono bW0.size))
          clear hCS hCN hc1 hc2 hc5 hf1 hf2 hf5 hb1 hb2 hb5 hB1 hB2 hB5 HS3 HS4 HC5 SS HE
          go_cut [10, 11] from 50 to 60 (fun v10 v11 wx => ∃ A9 c9, v10 = .slice A9 I.length c9 ∧ v11 = .int .i64 0 ∧ Hid (ClL wx A9 (I.map (colF s))) ∧ Hid (Below W0.heap.size W0 wx))
          case first =>
            go_region_held3 (fun w' => (∀ b o, b < W0.heap.size → w'.cell? ⟨b, o, none⟩ = W0.cell? ⟨b, o, none⟩) ∧ Below W0.heap.size W0 w') (exact keepW (by repeat (first | (with_reducible exact Below.refl _ _) | (with_reducible assumption) | (with_reducible refine Below.alloc ?_ (by first | omega | (simp [drew_size]; done) | (simp [drew_size]; omega)) _) | (with_reducible refine Below.drew ?_) | (with_reducible refine Below.setCell ?_ (by first | omega | (simp [drew_size]; done) | (simp [drew_size]; omega)) _)))) (first | (refine step_append_schs _ rfl (.tmp 52) (.tmp 53) 56 rfl W0.heap.size i Tryz.underlying56 hi iz0 iz1 iz2 (.slice (some ⟨_, 0, none⟩) 0 0) 0 [] (by rfl) (own_empty_sch (by (repeat (first | (with_reducible rfl) | (with_reducible exact heap_alloc_at (by first | rfl | omega | (simp [drew_size]; done) | (simp [drew_size]; omega))) | (with_reducible refine (drew_blk _ _).trans ?_) | ((with_reducible refine X7.out _ _ ?hq9 ?_); (case hq9 => (intro h; have h9 := Option.some.inj h; first | omega | (simp [drew_size] at h9; done) | (simp [drew_size] at h9; omega)))) | (with_reducible refine (alloc_blk (by first | omega | (simp [drew_size]; done) | (simp [drew_size]; omega))).trans ?_))); done) (by first | omega | (simp [drew_size]; done) | (simp [drew_size]; omega))) LA L.length cL CS (by rfl) HCSL.out HLA.out (fun ad e j u hj => cell_below (by repeat (first | (with_reducible exact Below.refl _ _) | (with_reducible assumption) | (with_reducible refine Below.alloc ?_ (by first | omega | (simp [drew_size]; done) | (simp [drew_size]; omega)) _) | (with_reducible refine Below.drew ?_) | (with_reducible refine Below.setCell ?_ (by first | omega | (simp [drew_size]; done) | (simp [drew_size]; omega)) _))) (HCSN.out ad e j u hj)) HCSO.out (by unfold maxLen; omega) (by omega) (by first | omega | (simp [drew_size]; done) | (simp [drew_size]; omega)) ?_; intro v7 w7 ho7 hg7; obtain ⟨A7, c7, rfl⟩ := own_form ho7; rw [Nat.zero_add] at ho7 ⊢; rw [List.nil_append] at ho7; have hb7 : Below W0.heap.size W0 w7 := Below.grown (by repeat (first | (with_reducible exact Below.refl _ _) | (with_reducible assumption) | (with_reducible refine Below.alloc ?_ (by first | omega | (simp [drew_size]; done) | (simp [drew_size]; omega)) _) | (with_reducible refine Below.drew ?_) | (with_reducible refine Below.setCell ?_ (by first | omega | (simp [drew_size]; done) | (simp [drew_size]; omega)) _))) hg7 (by first | omega | (simp [drew_size]; done) | (simp [drew_size]; omega)) (fun g e => (by have e2 := Option.some.inj e; subst e2; first | omega | (simp [drew_size]; done) | (simp [drew_size]; omega))); have hs7 := hb7.size; have X7 := Lib.hid (fun (k : Nat) (o : Obj) hne h => grown_blk (k := k) (o := o) hg7 h hne); have R7 := Lib.hid ho7) | (refine step_append_schs _ rfl (.tmp 54) (.tmp 56) 56 rfl W0.heap.size i Tryz.underlying56 hi iz0 iz1 iz2 (.slice A7 L.length c7) L.length CS (by rfl) (by (repeat (first | (with_reducible exact R7.out) | (with_reducible refine own_drew ?_) | (with_reducible refine own_alloc ?_ _))); done) (some ⟨_, 0, none⟩) 1 1 [.string MT, .slice B1 m.cols.length d1, .slice B2 m.key.length d2] (by rfl) rfl (fun h => (by cases h)) (fun ad e j u hj => (by cases e; exact World.news_of_block (cs := #[.string MT, .slice B1 m.cols.length d1, .slice B2 m.key.length d2]) (t := 59) (fr := (0, 0)) (by (repeat (first | (with_reducible rfl) | (with_reducible exact heap_alloc_at (by first | rfl | omega | (simp [drew_size]; done) | (simp [drew_size]; omega))) | (with_reducible refine (drew_blk _ _).trans ?_) | ((with_reducible refine X7.out _ _ ?hq9 ?_); (case hq9 => (intro h; have h9 := Option.some.inj h; first | omega | (simp [drew_size] at h9; done) | (simp [drew_size] at h9; omega)))) | (with_reducible refine (alloc_blk (by first | omega | (simp [drew_size]; done) | (simp [drew_size]; omega))).trans ?_))); done) j u (by simpa using hj))) (by simp [Value.oneCell']) (by unfold maxLen; omega) (by omega) (by first | omega | (simp [drew_size]; done) | (simp [drew_size]; omega)) ?_; intro v8 w8 ho8 hg8; obtain ⟨A8, c8, rfl⟩ := own_form ho8; have hb8 : Below W0.heap.size W0 w8 := Below.grown (by repeat (first | (with_reducible exact Below.refl _ _) | (with_reducible assumption) | (with_reducible refine Below.alloc ?_ (by first | omega | (simp [drew_size]; done) | (simp [drew_size]; omega)) _) | (with_reducible refine Below.drew ?_) | (with_reducible refine Below.setCell ?_ (by first | omega | (simp [drew_size]; done) | (simp [drew_size]; omega)) _))) hg8 (by first | omega | (simp [drew_size]; done) | (simp [drew_size]; omega)) (fun g e => (R7.out.lt g e).1); have hs8 := hb8.size; have R8 := Lib.hid ((own_schs (l := L ++ [m]) (by rw [HLN.out]; exact ho8) ((HSC.out.app HSM.out).below hb8)).1)) | (go_at_call 16; (with_reducible refine (CG2.out _ A8 c8 (R8.out.below (by repeat (first | (with_reducible exact Below.refl _ _) | (with_reducible refine Below.drew ?_)))) (by repeat (first | (with_reducible exact Below.refl _ _) | (with_reducible assumption) | (with_reducible refine Below.alloc ?_ (by first | omega | (simp [drew_size]; done) | (simp [drew_size]; omega)) _) | (with_reducible refine Below.drew ?_) | (with_reducible refine Below.setCell ?_ (by first | omega | (simp [drew_size]; done) | (simp [drew_size]; omega)) _)))).mono ?_); rintro e w9 ⟨A9, c9, rfl, hcl9, hb9⟩; have hB9 : Below W0.heap.size W0 w9 := Below.trans (by repeat (first | (with_reducible exact Below.refl _ _) | (with_reducible assumption) | (with_reducible refine Below.alloc ?_ (by first | omega | (simp [drew_size]; done) | (simp [drew_size]; omega)) _) | (with_reducible refine Below.drew ?_) | (with_reducible refine Below.setCell ?_ (by first | omega | (simp [drew_size]; done) | (simp [drew_size]; omega)) _))) (hb9.mono (by first | omega | (simp [drew_size]; done) | (simp [drew_size]; omega))); have hs9 := hB9.size; have R9 := Lib.hid hcl9) | fail "no arm")
            all_goals (
              go_wp2_with (fail)
              go_meet
              exact ⟨A9, c9, rfl, rfl, R9, Lib.hid hB9⟩)
          obtain ⟨A9, c9, rfl, rfl, HC9, HB9⟩ := hcut
          obtain ⟨w10, rfl⟩ : ∃ wq : World, wq = wc := ⟨_, rfl⟩
          have hB10 : Below w.heap.size w w10 := bW0.trans (HB9.out.mono bW0.size)
          have y0 := ((bcell HB9.out).1 w.heap.size 0 (by omega)).trans cW0_0
          have hz10 : w.heap.size < w10.heap.size ∧ w.heap.size + 1 < w10.heap.size := by have := HB9.out.size; omega
          have hs10 := hB10.size
          have HC5 := Lib.hid (HC6.out.below HB9.out)
          have e1 : (I.length != I.length) = false := by simp
          clear cW0_1 cW0_2 cW0_3 cW0_4 cW0_5 cW0_6 cW0_7 cW0_8 cW0_9 cW0_10 cW0_11 cW0_12 cW0_13 cW0_14 cW0_15 cW0_16 cW0_17 HC6 HB9
          go_wp2_with (first | (go_at_call 10; (with_reducible refine (NU.out _ _).mono ?_); rintro e w11 ⟨rfl, hb11⟩; obtain ⟨hc11, hf11⟩ := bcell hb11; (try simp only [drew_size, drew_cell, drew_frozen, World.size_alloc, World.size_setCell] at hc11 hf11); have hz11 : w.heap.size < w11.heap.size ∧ w.heap.size + 1 < w11.heap.size := (by have := hb11.size; (try simp at this); omega); have hB11 : Below w.heap.size w w11 := (by refine Below.trans ?_ (hb11.mono (by first | (simp; done) | (simp; omega) | omega)); repeat (first | (with_reducible assumption) | (with_reducible exact Below.refl _ _) | (with_reducible refine Below.setCell ?_ (by first | (simp; done) | (simp; omega) | omega) _) | (with_reducible refine Below.alloc ?_ (by first | (simp; done) | (simp; omega) | omega) _)))))
          go_loopw [12] (fun j wr => ∃ k : Nat, k ≤ I.length ∧ j = .int .i64 k ∧ Hid (Below w10.heap.size w10 wr)) (fun j _ => I.length - (intOf j).toNat)
          case atStart => exact ⟨0, by omega, rfl, Lib.hid (by repeat (first | (with_reducible exact Below.refl _ _) | (with_reducible assumption)))⟩
          case round =>
            obtain ⟨k, hk, rfl, HB⟩ := hrel
            obtain ⟨wo, rfl⟩ : ∃ wo : World, wo = wr := ⟨_, rfl⟩
            by_cases hlt : k < I.length
            · have hlt' : (k : Int) < (I.length : Int) := by omega
              obtain ⟨x, hx⟩ : ∃ x, (I.map (colF s))[k]? = some x := ⟨_, List.getElem?_eq_getElem (by rw [List.length_map]; exact hlt)⟩
              obtain ⟨b5, off5, rfl, hb5, p0, p1⟩ := (HC5.out.below HB.out) k x hx
              obtain ⟨b9, off9, rfl, hb9, q0, q1⟩ := (HC9.out.below HB.out) k x hx
              obtain ⟨X, hX⟩ : ∃ t : ByteArray, (⟨x.name.toArray⟩ : ByteArray) = t := ⟨_, rfl⟩
              obtain ⟨ty, hty⟩ : ∃ t, x.ty = t := ⟨_, rfl⟩
              rw [hX] at p0 q0
              rw [hty] at p1 q1
              clear hx hX hty HC5 HC9
              go_wp2_with (fail)
              go_big_region
              all_goals (
                go_wp2_with (fail)
                go_roundw
                case rel => exact ⟨k + 1, by omega, by go_num, Lib.hid (by first | exact HB.out | exact HB.out.drew)⟩
                case measure => first | (simp [intOf]; done) | (simp [intOf]; omega))
            · obtain rfl : k = I.length := by omega
              have hkk : ¬ (I.length : Int) < (I.length : Int) := by omega
              have HF := Lib.hid (HQ.out wo (hB10.trans (HB.out.mono hs10)))
              clear HC5 HC9
              go_wp2_with (fail)
              exact HF.out
        · have e1 : (ce != 0) = true := by simp [hc0]
          have CB1 := Lib.hid (CB.out SS.out HS3.out.1 HS3.out.2 ce hce hc0)
          clear hce hc0 CG CB
          go_wp2_with (fail)
          go_at_call 16
          refine (CB1.out _ (by repeat (first | (with_reducible assumption) | (with_reducible exact Below.refl _ _) | (with_reducible refine Below.setCell ?_ (by first | (simp; done) | (simp; omega) | omega) _) | (with_reducible refine Below.alloc ?_ (by first | (simp; done) | (simp; omega) | omega) _)))).mono ?_
          rintro e w5 ⟨rfl, hb5⟩
          obtain ⟨hc5, hf5⟩ := bcell hb5
          (try simp only [drew_size, drew_cell, drew_frozen, World.size_alloc, World.size_setCell] at hc5 hf5)
          have hz5 : w.heap.size < w5.heap.size ∧ w.heap.size + 1 < w5.heap.size := (by have := hb5.size; (try simp at this); omega)
          have hB5 : Below w.heap.size w w5 := (by refine Below.trans ?_ (hb5.mono (by first | (simp; done) | (simp; omega) | omega)); repeat (first | (with_reducible assumption) | (with_reducible exact Below.refl _ _) | (with_reducible refine Below.alloc ?_ (by first | (simp; done) | (simp; omega) | omega) _)))
          have hs5 := hB5.size
          clear CB1
          go_wp2_with (first | (go_at_call 10; (with_reducible refine (NU.out _ _).mono ?_); rintro e w6 ⟨rfl, hb6⟩; obtain ⟨hc6, hf6⟩ := bcell hb6; (try simp only [drew_size, drew_cell, drew_frozen, World.size_alloc, World.size_setCell] at hc6 hf6); have hz6 : w.heap.size < w6.heap.size ∧ w.heap.size + 1 < w6.heap.size := (by have := hb6.size; (try simp at this); omega); have hB6 : Below w.heap.size w w6 := (by refine Below.trans ?_ (hb6.mono (by first | (simp; done) | (simp; omega) | omega)); repeat (first | (with_reducible assumption) | (with_reducible exact Below.refl _ _) | (with_reducible refine Below.setCell ?_ (by first | (simp; done) | (simp; omega) | omega) _) | (with_reducible refine Below.alloc ?_ (by first | (simp; done) | (simp; omega) | omega) _)))))
          exact HQ.out _ (by first | exact hB6 | (repeat (first | (with_reducible assumption) | (with_reducible exact Below.refl _ _))))
end Go.Proofs.YtijlifdbjhieaaaGreatDoor
