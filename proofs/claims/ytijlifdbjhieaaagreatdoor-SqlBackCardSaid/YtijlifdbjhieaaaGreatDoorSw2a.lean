/-
  The walk of SqlBack up to its second half. (Printed by tools/mksw2.py.)
-/
import Derived.Test.YtijlifdbjhieaaaGreatDoorSw1
namespace Go.Proofs.YtijlifdbjhieaaaGreatDoor
set_option linter.all false
open Go.RowKit Go.Shelf Go.Sort
attribute [local go_sem] cell_set_self lt_1 lt_2 lt_3 lt_4 lt_5 lt_6

set_option maxHeartbeats 16000000 in
set_option maxRecDepth 100000 in
noncomputable def bwA (AI AG AO AC : Option Addr) (cI cG cO cC : Nat) (I : List ItemT) (T : List UInt8) (op : Int) (args : List CondT) (lc : List UInt8) (lt ln : Int) (ls rc : List UInt8) (rt rn : Int) (rs : List UInt8) (G : List (List UInt8)) (O : List OrderT) (lim : Int) (L : List UInt8) (w : World) (Q : Ending → World → Prop) :
    PSigma fun R : Prop => QV w (⟨I, T, .mk op args ⟨lc, lt, ln, ls⟩ ⟨rc, rt, rn, rs⟩, G, O, lim⟩ : QueryT) AI AG AO (condC op AC args.length cC ⟨lc, lt, ln, ls⟩ ⟨rc, rt, rn, rs⟩) → QBig (⟨I, T, .mk op args ⟨lc, lt, ln, ls⟩ ⟨rc, rt, rn, rs⟩, G, O, lim⟩ : QueryT) → (G.length ≤ cG ∧ (AG = none → cG = 0)) → L.length ≤ 1000000000000000 → Env w → Hid (∀ w', Below w.heap.size w w' → Q (.returned (.bool true)) w') → RestP R → Calls Tryz.prog 3 #[.agg #[.slice AI I.length cI, .string ⟨T.toArray⟩, .int .i64 op, .slice AC args.length cC, .string ⟨lc.toArray⟩, .int .i64 lt, .int .i64 ln, .string ⟨ls.toArray⟩, .string ⟨rc.toArray⟩, .int .i64 rt, .int .i64 rn, .string ⟨rs.toArray⟩, .slice AG G.length cG, .slice AO O.length cO, .int .i64 lim], .string ⟨L.toArray⟩] w Q := ⟨_, by
  intro H B hcG hL E HQ hR
  have HE := Lib.hid E
  have FI := Lib.hid (fun W (hb : Below w.heap.size w W) => first_any W (E.below hb))
  have FW := Lib.hid (fun W (hb : Below w.heap.size w W) => few_any (⟨I, T, .mk op args ⟨lc, lt, ln, ls⟩ ⟨rc, rt, rn, rs⟩, G, O, lim⟩ : QueryT) AI AG AO cI cG cO (condC op AC args.length cC ⟨lc, lt, ln, ls⟩ ⟨rc, rt, rn, rs⟩) W (H.below hb) B)
  have NU := Lib.hid (fun e W => num_any e W)
  have FM := Lib.hid (fun (SS : QSm (⟨I, T, .mk op args ⟨lc, lt, ln, ls⟩ ⟨rc, rt, rn, rs⟩, G, O, lim⟩ : QueryT)) W (hb : Below w.heap.size w W) => format_any (⟨I, T, .mk op args ⟨lc, lt, ln, ls⟩ ⟨rc, rt, rn, rs⟩, G, O, lim⟩ : QueryT) AI AG AO cI cG cO (condC op AC args.length cC ⟨lc, lt, ln, ls⟩ ⟨rc, rt, rn, rs⟩) W (H.below hb) (short_sm SS) (E.below hb) hcG.1 (fun h => query_len SS (Pl.form_ok h)))
  have LQ := Lib.hid (fun (SS : QSm (⟨I, T, .mk op args ⟨lc, lt, ln, ls⟩ ⟨rc, rt, rn, rs⟩, G, O, lim⟩ : QueryT)) W (hb : Below w.heap.size w W) => lquery_any (⟨I, T, .mk op args ⟨lc, lt, ln, ls⟩ ⟨rc, rt, rn, rs⟩, G, O, lim⟩ : QueryT) AI AG AO cI cG cO (condC op AC args.length cC ⟨lc, lt, ln, ls⟩ ⟨rc, rt, rn, rs⟩) W (H.below hb) (by have := SS.ni; (try dsimp only at this ⊢); omega) (by have := SS.ng; (try dsimp only at this ⊢); omega) (by have := SS.no; (try dsimp only at this ⊢); omega) (lt_sz _ SS.wh) hcG)
  have LB := Lib.hid (fun (SS : QSm (⟨I, T, .mk op args ⟨lc, lt, ln, ls⟩ ⟨rc, rt, rn, rs⟩, G, O, lim⟩ : QueryT)) (AI' AG' AO' : Option Addr) (cI' cG' cO' : Nat) (cs' : List Value) W (hq : QV W (⟨I, T, .mk op args ⟨lc, lt, ln, ls⟩ ⟨rc, rt, rn, rs⟩, G, O, lim⟩ : QueryT) AI' AG' AO' cs') => lbare_any (⟨I, T, .mk op args ⟨lc, lt, ln, ls⟩ ⟨rc, rt, rn, rs⟩, G, O, lim⟩ : QueryT) AI' AG' AO' cI' cG' cO' cs' W hq (lt_sz _ SS.wh))
  have SM := Lib.hid (fun (SS : QSm (⟨I, T, .mk op args ⟨lc, lt, ln, ls⟩ ⟨rc, rt, rn, rs⟩, G, O, lim⟩ : QueryT)) (AI' AG' AO' AI3 AG3 AO3 : Option Addr) (cI' cG' cO' cI3 cG3 cO3 : Nat) (cs' cs3 : List Value) W (hq : QV W (bareQ (⟨I, T, .mk op args ⟨lc, lt, ln, ls⟩ ⟨rc, rt, rn, rs⟩, G, O, lim⟩ : QueryT)) AI' AG' AO' cs') (hq3 : QV W (bareQ (⟨I, T, .mk op args ⟨lc, lt, ln, ls⟩ ⟨rc, rt, rn, rs⟩, G, O, lim⟩ : QueryT)) AI3 AG3 AO3 cs3) => same_any (bareQ (⟨I, T, .mk op args ⟨lc, lt, ln, ls⟩ ⟨rc, rt, rn, rs⟩, G, O, lim⟩ : QueryT)) AI' AG' AO' AI3 AG3 AO3 cI' cG' cO' cI3 cG3 cO3 cs' cs3 W hq hq3 (by have := SS.ni; (try dsimp only at this ⊢); show I.length ≤ _; omega) (by have := SS.ng; (try dsimp only at this ⊢); show G.length ≤ _; omega) (by have := SS.no; (try dsimp only at this ⊢); show O.length ≤ _; omega))
  have BK := Lib.hid (fun (h : formatE (⟨I, T, .mk op args ⟨lc, lt, ln, ls⟩ ⟨rc, rt, rn, rs⟩, G, O, lim⟩ : QueryT) = 0) => Pl.back_law h)
  have FL := Lib.hid (fun (h : formatE (⟨I, T, .mk op args ⟨lc, lt, ln, ls⟩ ⟨rc, rt, rn, rs⟩, G, O, lim⟩ : QueryT) = 0) => (Pl.format_inv h).2)
  obtain ⟨fe, hfe⟩ : ∃ x, formatE (⟨I, T, .mk op args ⟨lc, lt, ln, ls⟩ ⟨rc, rt, rn, rs⟩, G, O, lim⟩ : QueryT) = x := ⟨_, rfl⟩
  obtain ⟨fx, hfx⟩ : ∃ x, formatX (⟨I, T, .mk op args ⟨lc, lt, ln, ls⟩ ⟨rc, rt, rn, rs⟩, G, O, lim⟩ : QueryT) = x := ⟨_, rfl⟩
  rw [hfe, hfx] at FM BK FL
  obtain ⟨y, hy⟩ : ∃ y, bareC (.mk op args ⟨lc, lt, ln, ls⟩ ⟨rc, rt, rn, rs⟩) = y := ⟨_, rfl⟩
  have hbq : bareQ (⟨I, T, .mk op args ⟨lc, lt, ln, ls⟩ ⟨rc, rt, rn, rs⟩, G, O, lim⟩ : QueryT) = ⟨I, T, y, G, O, lim⟩ := by unfold bareQ; rw [hy]
  rw [hbq] at BK SM LB
  obtain ⟨op8, args8, ⟨lc8, lt8, ln8, ls8⟩, ⟨rc8, rt8, rn8, rs8⟩⟩ := y
  clear hfe hfx H B hcG E hy hbq
  dsimp only at LB SM
  have eqQ : qCells AI I.length cI T (condC op AC args.length cC ⟨lc, lt, ln, ls⟩ ⟨rc, rt, rn, rs⟩) AG G.length cG AO O.length cO lim = [.slice AI I.length cI, .string ⟨T.toArray⟩, .int .i64 op, .slice AC args.length cC, .string ⟨lc.toArray⟩, .int .i64 lt, .int .i64 ln, .string ⟨ls.toArray⟩, .string ⟨rc.toArray⟩, .int .i64 rt, .int .i64 rn, .string ⟨rs.toArray⟩, .slice AG G.length cG, .slice AO O.length cO, .int .i64 lim] := rfl
  dsimp only at FW FM LQ
  rw [eqQ] at FW FM LQ
  clear eqQ
  have hLs : (⟨L.toArray⟩ : ByteArray).size = L.length := by simp [ByteArray.size]
  have z0 : w.heap.size < w.heap.size + 1 := by omega
  obtain ⟨TB, hTB⟩ : ∃ t : ByteArray, (⟨T.toArray⟩ : ByteArray) = t := ⟨_, rfl⟩
  obtain ⟨U1, hU1⟩ : ∃ t : ByteArray, (⟨lc.toArray⟩ : ByteArray) = t := ⟨_, rfl⟩
  obtain ⟨U2, hU2⟩ : ∃ t : ByteArray, (⟨ls.toArray⟩ : ByteArray) = t := ⟨_, rfl⟩
  obtain ⟨U3, hU3⟩ : ∃ t : ByteArray, (⟨rc.toArray⟩ : ByteArray) = t := ⟨_, rfl⟩
  obtain ⟨U4, hU4⟩ : ∃ t : ByteArray, (⟨rs.toArray⟩ : ByteArray) = t := ⟨_, rfl⟩
  rw [hTB, hU1, hU2, hU3, hU4] at FW FM LQ
  rw [hTB, hU1, hU2, hU3, hU4]
  have HTB := Lib.hid hTB
  clear hTB hU1 hU2 hU3 hU4
  go_enter Tryz.func3, Tryz.ntmps3
  go_wp2_with (go_at_call 7; (with_reducible refine (FI.out _ (by repeat (first | (with_reducible assumption) | (with_reducible exact Below.refl _ _) | (with_reducible refine Below.setCell ?_ (by first | (simp; done) | (simp; omega) | omega) _) | (with_reducible refine Below.alloc ?_ (by first | (simp; done) | (simp; omega) | omega) _) | (with_reducible refine Below.drew ?_)))).mono ?_); rintro e w1 ⟨rfl, hb1⟩; obtain ⟨hc1, hf1⟩ := bcell hb1; (try simp only [drew_size, drew_cell, drew_frozen, World.size_alloc, World.size_setCell] at hc1 hf1); have hz1 : w.heap.size < w1.heap.size := (by have := hb1.size; (try simp at this); omega); have hB1 : Below w.heap.size w w1 := (by refine Below.trans ?_ (hb1.mono (by first | (simp; done) | (simp; omega) | omega)); repeat (first | (with_reducible assumption) | (with_reducible exact Below.refl _ _) | (with_reducible refine Below.setCell ?_ (by first | (simp; done) | (simp; omega) | omega) _) | (with_reducible refine Below.alloc ?_ (by first | (simp; done) | (simp; omega) | omega) _) | (with_reducible refine Below.drew ?_))); have hs1 := hB1.size)
  go_at_call 8
  refine (FW.out _ hB1).mono ?_
  rintro e w2 ⟨⟨b, rfl, hQS⟩, hb2⟩
  obtain ⟨hc2, hf2⟩ := bcell hb2; (try simp only [drew_size, drew_cell, drew_frozen, World.size_alloc, World.size_setCell] at hc2 hf2); have hz2 : w.heap.size < w2.heap.size := (by have := hb2.size; (try simp at this); omega)
  have hB2 : Below w.heap.size w w2 := (by refine Below.trans ?_ (hb2.mono (by first | (simp; done) | (simp; omega) | omega)); repeat (first | (with_reducible assumption) | (with_reducible exact Below.refl _ _) | (with_reducible refine Below.setCell ?_ (by first | (simp; done) | (simp; omega) | omega) _) | (with_reducible refine Below.alloc ?_ (by first | (simp; done) | (simp; omega) | omega) _) | (with_reducible refine Below.drew ?_))); have hs2 := hB2.size
  cases b with
  | false =>
    clear hQS
    go_wp2_with (fail)
    exact HQ.out _ hB2
  | true =>
    have SS := hQS rfl
    clear hQS
    by_cases hl : 8000 < L.length
    · have hl' : 8000 < (L.length : Int) := by omega
      clear hl
      go_wp2_with (fail)
      exact HQ.out _ hB2
    have hl' : ¬ 8000 < (L.length : Int) := by omega
    replace FM := Lib.hid (FM.out SS)
    replace LQ := Lib.hid (LQ.out SS)
    replace LB := Lib.hid (LB.out SS)
    replace SM := Lib.hid (SM.out SS)
    clear SS
    obtain ⟨LA, hLA⟩ : ∃ t : ByteArray, (⟨L.toArray⟩ : ByteArray) = t := ⟨_, rfl⟩
    have HLA := Lib.hid hLA
    have HLL : Hid (L.length ≤ 8000) := Lib.hid (by omega)
    rw [hLA] at hLs ⊢
    clear hLA hl hL
    go_upto_if 42 with (first | (go_at_call 9; (with_reducible refine (FM.out _ hB2).mono ?_); rintro e w3 ⟨rfl, hb3⟩; obtain ⟨hc3, hf3⟩ := bcell hb3; (try simp only [drew_size, drew_cell, drew_frozen, World.size_alloc, World.size_setCell] at hc3 hf3); have hz3 : w.heap.size < w3.heap.size := (by have := hb3.size; (try simp at this); omega); have hB3 : Below w.heap.size w w3 := (by refine Below.trans ?_ (hb3.mono (by first | (simp; done) | (simp; omega) | omega)); repeat (first | (with_reducible assumption) | (with_reducible exact Below.refl _ _) | (with_reducible refine Below.setCell ?_ (by first | (simp; done) | (simp; omega) | omega) _) | (with_reducible refine Below.alloc ?_ (by first | (simp; done) | (simp; omega) | omega) _) | (with_reducible refine Below.drew ?_))); have hs3 := hB3.size) | (go_at_call 10; (with_reducible refine (NU.out _ _).mono ?_); rintro e w4 ⟨rfl, hb4⟩; obtain ⟨hc4, hf4⟩ := bcell hb4; (try simp only [drew_size, drew_cell, drew_frozen, World.size_alloc, World.size_setCell] at hc4 hf4); have hz4 : w.heap.size < w4.heap.size := (by have := hb4.size; (try simp at this); omega); have hB4 : Below w.heap.size w w4 := (by refine Below.trans ?_ (hb4.mono (by first | (simp; done) | (simp; omega) | omega)); repeat (first | (with_reducible assumption) | (with_reducible exact Below.refl _ _) | (with_reducible refine Below.setCell ?_ (by first | (simp; done) | (simp; omega) | omega) _) | (with_reducible refine Below.alloc ?_ (by first | (simp; done) | (simp; omega) | omega) _) | (with_reducible refine Below.drew ?_))); have hs4 := hB4.size))
    clear hLs hl'
    go_cut [8, 9, 10] from 42 to 63 (fun v8 v9 v10 wx => Hid (Below w.heap.size w wx))
    case first =>
      by_cases hE : fe = 0
      · have e1 : (fe == 0) = true := by simp [hE]
        obtain ⟨hfl, hfx⟩ := FL.out hE
        have PG := Lib.hid (fun W (hb : Below w.heap.size w W) => by
          obtain ⟨r, hr⟩ := BK.out hE
          exact parse_got fx (by rw [hfx]; omega) hr W (HE.out.below hb))
        clear hE BK FL hfl hfx
        go_wp2_with (fail)
        go_at_call 11
        refine (PG.out _ hB4).mono ?_
        rintro e w5 ⟨⟨AI5, cI5, AG5, cG5, AO5, cO5, cs5, rfl, hq5, -, -⟩, hb5⟩
        obtain ⟨hc5, hf5⟩ := bcell hb5; (try simp only [drew_size, drew_cell, drew_frozen, World.size_alloc, World.size_setCell] at hc5 hf5); have hz5 : w.heap.size < w5.heap.size := (by have := hb5.size; (try simp at this); omega)
        have hB5 : Below w.heap.size w w5 := (by refine Below.trans ?_ (hb5.mono (by first | (simp; done) | (simp; omega) | omega)); repeat (first | (with_reducible assumption) | (with_reducible exact Below.refl _ _) | (with_reducible refine Below.setCell ?_ (by first | (simp; done) | (simp; omega) | omega) _) | (with_reducible refine Below.alloc ?_ (by first | (simp; done) | (simp; omega) | omega) _) | (with_reducible refine Below.drew ?_))); have hs5 := hB5.size
        have hcv5 := hq5.cv
        obtain ⟨A5, c5, rfl, -⟩ := hcv5.open
        have HQ5 := Lib.hid hq5
        have SM5 : Hid (∀ (AI3 AG3 AO3 : Option Addr) (cI3 cG3 cO3 : Nat) (cs3 : List Value) W, QV W ⟨I, T, .mk op8 args8 ⟨lc8, lt8, ln8, ls8⟩ ⟨rc8, rt8, rn8, rs8⟩, G, O, lim⟩ AI5 AG5 AO5 (condC op8 A5 args8.length c5 ⟨lc8, lt8, ln8, ls8⟩ ⟨rc8, rt8, rn8, rs8⟩) → QV W ⟨I, T, .mk op8 args8 ⟨lc8, lt8, ln8, ls8⟩ ⟨rc8, rt8, rn8, rs8⟩, G, O, lim⟩ AI3 AG3 AO3 cs3 → Calls Tryz.prog 12 #[.agg #[.slice AI5 I.length cI5, .string ⟨T.toArray⟩, .int .i64 op8, .slice A5 args8.length c5, .string ⟨lc8.toArray⟩, .int .i64 lt8, .int .i64 ln8, .string ⟨ls8.toArray⟩, .string ⟨rc8.toArray⟩, .int .i64 rt8, .int .i64 rn8, .string ⟨rs8.toArray⟩, .slice AG5 G.length cG5, .slice AO5 O.length cO5, .int .i64 lim], .agg (qCells AI3 I.length cI3 T cs3 AG3 G.length cG3 AO3 O.length cO3 lim).toArray] W fun e w' => e = .returned (.bool true) ∧ Below W.heap.size W w') := Lib.hid (by
          intro AI3 AG3 AO3 cI3 cG3 cO3 cs3 W h1 h2
          have h := SM.out AI5 AG5 AO5 AI3 AG3 AO3 cI5 cG5 cO5 cI3 cG3 cO3 _ cs3 W h1 h2
          have eq5 : qCells AI5 I.length cI5 T (condC op8 A5 args8.length c5 ⟨lc8, lt8, ln8, ls8⟩ ⟨rc8, rt8, rn8, rs8⟩) AG5 G.length cG5 AO5 O.length cO5 lim = [.slice AI5 I.length cI5, .string ⟨T.toArray⟩, .int .i64 op8, .slice A5 args8.length c5, .string ⟨lc8.toArray⟩, .int .i64 lt8, .int .i64 ln8, .string ⟨ls8.toArray⟩, .string ⟨rc8.toArray⟩, .int .i64 rt8, .int .i64 rn8, .string ⟨rs8.toArray⟩, .slice AG5 G.length cG5, .slice AO5 O.length cO5, .int .i64 lim] := rfl
          rw [eq5] at h
          exact h)
        dsimp only [qCells, condC, termC, List.cons_append, List.nil_append]
        clear hq5 hcv5 PG FM SM
        have HQ5W0 : Hid (∀ W, Below w5.heap.size w5 W → QV W ⟨I, T, .mk op8 args8 ⟨lc8, lt8, ln8, ls8⟩ ⟨rc8, rt8, rn8, rs8⟩, G, O, lim⟩ AI5 AG5 AO5 (condC op8 A5 args8.length c5 ⟨lc8, lt8, ln8, ls8⟩ ⟨rc8, rt8, rn8, rs8⟩)) := Lib.hid fun W hb => HQ5.out.below hb
        go_upto_region 7 with (fail)
        refine name_world ?_; intro W00 hW00
        have HQ5W1 : Hid (QV W00 ⟨I, T, .mk op8 args8 ⟨lc8, lt8, ln8, ls8⟩ ⟨rc8, rt8, rn8, rs8⟩, G, O, lim⟩ AI5 AG5 AO5 (condC op8 A5 args8.length c5 ⟨lc8, lt8, ln8, ls8⟩ ⟨rc8, rt8, rn8, rs8⟩)) := Lib.hid (by rw [hW00]; exact HQ5W0.out _ (by repeat (first | (with_reducible exact Below.refl _ _) | (with_reducible refine Below.setCell ?_ (by first | (simp; done) | (simp; omega)) _) | (with_reducible refine Below.alloc ?_ (by first | (simp; done) | (simp; omega)) _))))
        have kW0 : W00.cell? ⟨w.heap.size, 0, none⟩ = some (.slice AI I.length cI) ∧ W00.cell? ⟨w.heap.size, 1, none⟩ = some (.string TB) ∧ W00.cell? ⟨w.heap.size, 2, none⟩ = some (.int .i64 op) ∧ W00.cell? ⟨w.heap.size, 3, none⟩ = some (.slice AC args.length cC) ∧ W00.cell? ⟨w.heap.size, 4, none⟩ = some (.string U1) ∧ W00.cell? ⟨w.heap.size, 5, none⟩ = some (.int .i64 lt) ∧ W00.cell? ⟨w.heap.size, 6, none⟩ = some (.int .i64 ln) ∧ W00.cell? ⟨w.heap.size, 7, none⟩ = some (.string U2) ∧ W00.cell? ⟨w.heap.size, 8, none⟩ = some (.string U3) ∧ W00.cell? ⟨w.heap.size, 9, none⟩ = some (.int .i64 rt) ∧ W00.cell? ⟨w.heap.size, 10, none⟩ = some (.int .i64 rn) ∧ W00.cell? ⟨w.heap.size, 11, none⟩ = some (.string U4) ∧ W00.cell? ⟨w.heap.size, 12, none⟩ = some (.slice AG G.length cG) ∧ W00.cell? ⟨w.heap.size, 13, none⟩ = some (.slice AO O.length cO) ∧ W00.cell? ⟨w.heap.size, 14, none⟩ = some (.int .i64 lim) ∧ W00.cell? ⟨w5.heap.size, 0, none⟩ = some (.slice AI5 I.length cI5) ∧ W00.cell? ⟨w5.heap.size, 1, none⟩ = some (.string ⟨T.toArray⟩) ∧ W00.cell? ⟨w5.heap.size, 2, none⟩ = some (.int .i64 op8) ∧ W00.cell? ⟨w5.heap.size, 3, none⟩ = some (.slice A5 args8.length c5) ∧ W00.cell? ⟨w5.heap.size, 4, none⟩ = some (.string ⟨lc8.toArray⟩) ∧ W00.cell? ⟨w5.heap.size, 5, none⟩ = some (.int .i64 lt8) ∧ W00.cell? ⟨w5.heap.size, 6, none⟩ = some (.int .i64 ln8) ∧ W00.cell? ⟨w5.heap.size, 7, none⟩ = some (.string ⟨ls8.toArray⟩) ∧ W00.cell? ⟨w5.heap.size, 8, none⟩ = some (.string ⟨rc8.toArray⟩) ∧ W00.cell? ⟨w5.heap.size, 9, none⟩ = some (.int .i64 rt8) ∧ W00.cell? ⟨w5.heap.size, 10, none⟩ = some (.int .i64 rn8) ∧ W00.cell? ⟨w5.heap.size, 11, none⟩ = some (.string ⟨rs8.toArray⟩) ∧ W00.cell? ⟨w5.heap.size, 12, none⟩ = some (.slice AG5 G.length cG5) ∧ W00.cell? ⟨w5.heap.size, 13, none⟩ = some (.slice AO5 O.length cO5) ∧ W00.cell? ⟨w5.heap.size, 14, none⟩ = some (.int .i64 lim) ∧ w.heap.size < W00.heap.size ∧ w5.heap.size < W00.heap.size ∧ Below w.heap.size w W00 := by { rw [hW00]; exact (by (refine ⟨?_, ?_, ?_, ?_, ?_, ?_, ?_, ?_, ?_, ?_, ?_, ?_, ?_, ?_, ?_, ?_, ?_, ?_, ?_, ?_, ?_, ?_, ?_, ?_, ?_, ?_, ?_, ?_, ?_, ?_, ?_, ?_, ?_⟩ <;> first | (simp [go_sem, *]; done) | omega | (simp; omega) | exact (by repeat (first | (with_reducible exact Below.refl _ _) | (with_reducible assumption) | (with_reducible refine Below.setCell ?_ (by first | (simp; done) | (simp; omega) | omega) _) | (with_reducible refine Below.alloc ?_ (by first | (simp; done) | (simp; omega) | omega) _) | (with_reducible refine Below.drew ?_) | (with_reducible refine Below.trans ?_ (Below.mono (by assumption) (by first | (simp; done) | (simp; omega) | omega))))))) }
        clear hW00
        obtain ⟨W0, rfl⟩ : ∃ W, W = W00 := ⟨_, rfl⟩
        obtain ⟨cW0_0, cW0_1, cW0_2, cW0_3, cW0_4, cW0_5, cW0_6, cW0_7, cW0_8, cW0_9, cW0_10, cW0_11, cW0_12, cW0_13, cW0_14, cW0_15, cW0_16, cW0_17, cW0_18, cW0_19, cW0_20, cW0_21, cW0_22, cW0_23, cW0_24, cW0_25, cW0_26, cW0_27, cW0_28, cW0_29, zW0_0, zW0_1, bW0⟩ := kW0
        have HQ5W : Hid (∀ W, Below W0.heap.size W0 W → QV W ⟨I, T, .mk op8 args8 ⟨lc8, lt8, ln8, ls8⟩ ⟨rc8, rt8, rn8, rs8⟩, G, O, lim⟩ AI5 AG5 AO5 (condC op8 A5 args8.length c5 ⟨lc8, lt8, ln8, ls8⟩ ⟨rc8, rt8, rn8, rs8⟩)) := Lib.hid fun W hb => HQ5W1.out.below hb
        clear HQ5W0 HQ5W1 HQ5
        go_region_held3 (fun w' => (∀ b o, b < W0.heap.size → w'.cell? ⟨b, o, none⟩ = W0.cell? ⟨b, o, none⟩) ∧ Below W0.heap.size W0 w') (exact keepW (by repeat (first | (with_reducible exact Below.refl _ _) | (with_reducible assumption) | (with_reducible refine Below.setCell ?_ (by first | (simp; done) | (simp; omega) | omega) _) | (with_reducible refine Below.alloc ?_ (by first | (simp; done) | (simp; omega) | omega) _) | (with_reducible refine Below.drew ?_) | (with_reducible refine Below.trans ?_ (Below.mono (by assumption) (by first | (simp; done) | (simp; omega) | omega)))))) ((first | (go_at_call 10; (with_reducible refine (NU.out _ _).mono ?_); rintro e w6 ⟨rfl, hb6⟩; have hB6 : Below W0.heap.size W0 w6 := (Below.trans (by repeat (first | (with_reducible exact Below.refl _ _) | (with_reducible assumption) | (with_reducible refine Below.setCell ?_ (by first | (simp; done) | (simp; omega) | omega) _) | (with_reducible refine Below.alloc ?_ (by first | (simp; done) | (simp; omega) | omega) _) | (with_reducible refine Below.drew ?_))) (hb6.mono (by first | (simp; done) | (simp; omega) | omega))); have hs6 := hB6.size) | (go_at_call 14; (with_reducible refine (LQ.out _ (bW0.trans (Below.mono (by repeat (first | (with_reducible exact Below.refl _ _) | (with_reducible assumption) | (with_reducible refine Below.setCell ?_ (by first | (simp; done) | (simp; omega) | omega) _) | (with_reducible refine Below.alloc ?_ (by first | (simp; done) | (simp; omega) | omega) _) | (with_reducible refine Below.drew ?_))) bW0.size))).mono ?_); rintro e w7 ⟨⟨AI7, cI7, AG7, cG7, AO7, cO7, cs7, rfl, hq7⟩, hb7⟩; have HQ7 := Lib.hid hq7; clear hq7; have hB7 : Below W0.heap.size W0 w7 := (Below.trans (by repeat (first | (with_reducible exact Below.refl _ _) | (with_reducible assumption) | (with_reducible refine Below.setCell ?_ (by first | (simp; done) | (simp; omega) | omega) _) | (with_reducible refine Below.alloc ?_ (by first | (simp; done) | (simp; omega) | omega) _) | (with_reducible refine Below.drew ?_))) (hb7.mono (by first | (simp; done) | (simp; omega) | omega))); have hs7 := hB7.size) | (go_at_call 13; (with_reducible refine (LB.out _ _ _ _ _ _ _ _ HQ7.out).mono ?_); rintro e w8 ⟨⟨cs8, rfl, hq8⟩, hb8⟩; have HQ8 := Lib.hid hq8; clear hq8; have hB8 : Below W0.heap.size W0 w8 := (Below.trans (by repeat (first | (with_reducible exact Below.refl _ _) | (with_reducible assumption) | (with_reducible refine Below.setCell ?_ (by first | (simp; done) | (simp; omega) | omega) _) | (with_reducible refine Below.alloc ?_ (by first | (simp; done) | (simp; omega) | omega) _) | (with_reducible refine Below.drew ?_))) (hb8.mono (by first | (simp; done) | (simp; omega) | omega))); have hs8 := hB8.size) | (go_at_call 12; (with_reducible refine (SM5.out _ _ _ _ _ _ _ _ (HQ5W.out _ (by repeat (first | (with_reducible exact Below.refl _ _) | (with_reducible assumption) | (with_reducible refine Below.setCell ?_ (by first | (simp; done) | (simp; omega) | omega) _) | (with_reducible refine Below.alloc ?_ (by first | (simp; done) | (simp; omega) | omega) _) | (with_reducible refine Below.drew ?_)))) HQ8.out).mono ?_); rintro e w9 ⟨rfl, hb9⟩; have hB9 : Below W0.heap.size W0 w9 := (Below.trans (by repeat (first | (with_reducible exact Below.refl _ _) | (with_reducible assumption) | (with_reducible refine Below.setCell ?_ (by first | (simp; done) | (simp; omega) | omega) _) | (with_reducible refine Below.alloc ?_ (by first | (simp; done) | (simp; omega) | omega) _) | (with_reducible refine Below.drew ?_))) (hb9.mono (by first | (simp; done) | (simp; omega) | omega))); have hs9 := hB9.size)))
        all_goals (
          go_wp2_with (fail)
          go_meet
          exact Lib.hid (bW0.trans (Below.mono hB9 bW0.size)))
      · have e1 : (fe == 0) = false := by simp [hE]
        clear hE BK FL
        go_wp2_with (fail)
        go_meet
        exact Lib.hid hB4
    case rest =>
      rename_i K hK
      refine hK _ _ ?_
      clear hK K
      clear BK FL LQ LB SM FM FW FI HTB hb1 hb2 hb3 hb4 hc1 hc2 hc3 hc4 hf1 hf2 hf3 hf4 hB1 hB2 hB3 hB4
      revert hcut
      revert u63
      revert u62
      revert u61
      revert u60
      revert u59
      revert u58
      revert u57
      revert u56
      revert u55
      revert u54
      revert u53
      revert u52
      revert u51
      revert u50
      revert u49
      revert u48
      revert u47
      revert u46
      revert u45
      revert u44
      revert u43
      revert u42
      revert u10
      revert u9
      revert u8
      revert u4
      revert wc
      revert HLL
      revert HLA
      revert LA
      revert U4
      revert U3
      revert U2
      revert U1
      revert TB
      revert fx
      revert fe
      exact hR.out⟩
end Go.Proofs.YtijlifdbjhieaaaGreatDoor
