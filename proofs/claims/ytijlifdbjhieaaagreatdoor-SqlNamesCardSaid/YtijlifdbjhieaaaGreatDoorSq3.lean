/-
  Contract of sql.Parse.
-/
import Derived.Test.YtijlifdbjhieaaaGreatDoorSq2
namespace Go.Proofs.YtijlifdbjhieaaaGreatDoor
set_option linter.all false
open Go.RowKit Go.Shelf
attribute [local go_sem] cell_set_self lt_1 lt_2 lt_3 lt_4 lt_5 lt_6 fld_k fld_s fld_n fld_p

theorem cellsT_at : ∀ {l : List Tok} {i : Nat} {t : Tok}, l[i]? = some t → (cellsT l)[i * 4]? = some (.int .u8 t.k) ∧ (cellsT l)[i * 4 + 1]? = some (.string ⟨t.s.toArray⟩) ∧ (cellsT l)[i * 4 + 2]? = some (.int .i64 t.n) ∧ (cellsT l)[i * 4 + 3]? = some (.int .i64 (t.p : Int))
  | a :: l, 0, t, h => by
    simp at h; subst h
    exact ⟨rfl, rfl, rfl, rfl⟩
  | a :: l, i + 1, t, h => by
    have := cellsT_at (l := l) (i := i) (t := t) (by simpa using h)
    rw [show (i + 1) * 4 = i * 4 + 4 by omega]
    exact this
theorem rdR_mk {W : World} {base : Nat} {ts : List Tok} {V : Value} (ho : W.ownsRow base 83 4 V ts.length (cellsT ts)) (hne : ts ≠ []) (hl : ts.length ≤ 1000000) :
    ∃ g cap, V = .slice (some ⟨g, 0, none⟩) ts.length cap ∧ g < W.heap.size ∧ RdR (W.alloc (.cells #[.slice (some ⟨g, 0, none⟩) ts.length cap, .int .i64 0] 88)) W.heap.size g ts := by
  have hp : 0 < ts.length := List.length_pos_iff.2 hne
  rcases ho.2 with ⟨-, h0⟩ | ⟨g, cap, cur, rfl, hg, hh, hc, hm, hz, ht⟩
  · omega
  · have hlt := (Array.getElem?_eq_some_iff.1 hh).1
    refine ⟨g, cap, rfl, hlt, ts.length, cap, ts, 0, ⟨?_, ?_, ?_, rfl, Nat.zero_le _, hc, by omega, by omega, fun i t hi => ?_⟩, rfl, by simp; omega, by simp, by omega⟩
    · simp [go_sem]
    · simp [go_sem]
    · simp [go_sem]
    · have hb : (W.alloc (.cells #[.slice (some ⟨g, 0, none⟩) ts.length cap, .int .i64 0] 88)).heap[g]? = some (.cells cur 83 (0, 0)) := (((Below.refl _ _).alloc (Nat.le_refl _) _).block _ hlt).trans hh
      have hi' := (List.getElem?_eq_some_iff.1 hi).1
      have hcell : ∀ o v, o < ts.length * 4 → (cellsT ts)[o]? = some v → (W.alloc (.cells #[.slice (some ⟨g, 0, none⟩) ts.length cap, .int .i64 0] 88)).cell? ⟨g, o, none⟩ = some v := fun o v ho' hv => by
        rw [← ht, List.getElem?_take, if_pos ho'] at hv
        simp only [World.cell?, hb]
        simpa using hv
      obtain ⟨k1, k2, k3, k4⟩ := cellsT_at hi
      exact ⟨hcell _ _ (by omega) k1, hcell _ _ (by omega) k2, hcell _ _ (by omega) k3, hcell _ _ (by omega) k4⟩
/-- What Parse hands back. -/
def ParseP (w : World) : PR QueryT → Ending → World → Prop
  | .no p er, e, _ => e = .returned (.tuple #[.agg zeroQ, .int .i64 (p : Int), .int .i64 er])
  | .ok q _, e, w' => ∃ V, e = .returned (.tuple #[V, .int .i64 0, .int .i64 0]) ∧ encQ w q w' V
set_option maxHeartbeats 4000000 in
theorem parse_res {W : World} {b2 b3 b4 : Nat} {AI AC AG AO : Option Addr} {nI cI nA cC nG cG nO cO : Nat} {tb lc ls rc rs : List UInt8} {op lt ln rt rn lim x y : Int} {tmps : Array Value}
    (h2 : W.heap[b2]? = some (.cells (qCells AI nI cI tb (condC op AC nA cC ⟨lc, lt, ln, ls⟩ ⟨rc, rt, rn, rs⟩) AG nG cG AO nO cO lim).toArray 31 (0, 0))) (h3 : W.heap[b3]? = some (.cells #[.int .i64 x] 3 (0, 0))) (h4 : W.heap[b4]? = some (.cells #[.int .i64 y] 34 (0, 0)))
    (t2 : tmps[2]? = some (.pointer (some ⟨b2, 0, none⟩))) (t3 : tmps[3]? = some (.pointer (some ⟨b3, 0, none⟩))) (t4 : tmps[4]? = some (.pointer (some ⟨b4, 0, none⟩))) :
    (results Tryz.f11 tmps).run Tryz.prog W = .ok (.tuple #[.agg (qCells AI nI cI tb (condC op AC nA cC ⟨lc, lt, ln, ls⟩ ⟨rc, rt, rn, rs⟩) AG nG cG AO nO cO lim).toArray, .int .i64 x, .int .i64 y]) W := by
  obtain ⟨c3, -⟩ := qbox (l := [.int .i64 x]) h3 0 _ rfl
  obtain ⟨c4, -⟩ := qbox (l := [.int .i64 y]) h4 0 _ rfl
  obtain ⟨cz0, -⟩ := qbox h2 0 _ rfl
  obtain ⟨cz1, -⟩ := qbox h2 1 _ rfl
  obtain ⟨cz2, -⟩ := qbox h2 2 _ rfl
  obtain ⟨cz3, -⟩ := qbox h2 3 _ rfl
  obtain ⟨cz4, -⟩ := qbox h2 4 _ rfl
  obtain ⟨cz5, -⟩ := qbox h2 5 _ rfl
  obtain ⟨cz6, -⟩ := qbox h2 6 _ rfl
  obtain ⟨cz7, -⟩ := qbox h2 7 _ rfl
  obtain ⟨cz8, -⟩ := qbox h2 8 _ rfl
  obtain ⟨cz9, -⟩ := qbox h2 9 _ rfl
  obtain ⟨cz10, -⟩ := qbox h2 10 _ rfl
  obtain ⟨cz11, -⟩ := qbox h2 11 _ rfl
  obtain ⟨cz12, -⟩ := qbox h2 12 _ rfl
  obtain ⟨cz13, -⟩ := qbox h2 13 _ rfl
  obtain ⟨cz14, -⟩ := qbox h2 14 _ rfl
  clear h2 h3 h4
  simp [results, Tryz.f11, go_sem, t2, t3, t4, *, qCells, condC, termC]
set_option maxHeartbeats 8000000 in
set_option maxRecDepth 100000 in
theorem parse_any (L : List UInt8) (hL : L.length ≤ 1000000000) (w : World) (E : Env w) :
    Calls Tryz.prog 11 #[.string ⟨L.toArray⟩] w fun e w' => ParseP w (parseF L) e w' ∧ Below w.heap.size w w' := by
  suffices key : ∀ Q : Ending → World → Prop, Hid (∀ e w', (ParseP w (parseF L) e w' ∧ Below w.heap.size w w') → Q e w') → Calls Tryz.prog 11 #[.string ⟨L.toArray⟩] w Q from key _ (Lib.hid fun _ _ h => h)
  intro Q HQQ
  have hmf : ∀ (fn : Fn) (first cap : Array Value) (w : World), (Instr.makeFunc fn first cap).run Tryz.prog w = .ok (.func fn first cap) w := fun _ _ _ _ => rfl
  have HLl : (L.toArray.size : Int) = (L.length : Int) := by simp
  by_cases hb : 65536 < L.length
  · have hb' : 65536 < (L.length : Int) := by omega
    have HX : Hid (parseF L = .no 0 8) := Lib.hid (by unfold parseF; rw [if_pos hb])
    clear hb E
    go_enter_defers Tryz.func11, Tryz.ntmps11
    go_wp2
    have al := fun (X : World) (o : Obj) (k : Nat) (h : k < X.heap.size) => (((Below.refl _ X).alloc (Nat.le_refl _) o).block k h)
    refine ⟨_, parse_res (b2 := w.heap.size) (b3 := w.heap.size + 1) (b4 := w.heap.size + 1 + 1) (AI := none) (nI := 0) (cI := 0) (tb := []) (op := 0) (AC := none) (nA := 0) (cC := 0) (lc := []) (lt := 0) (ln := 0) (ls := []) (rc := []) (rt := 0) (rn := 0) (rs := []) (AG := none) (nG := 0) (cG := 0) (AO := none) (nO := 0) (cO := 0) (lim := 0) (x := 0) (y := 8) ?_ ?_ ?_ rfl rfl rfl, HQQ.out _ _ ⟨by rw [HX.out]; exact rfl, ?_⟩⟩
    · exact (al _ _ _ (by first | (simp; done) | (simp; omega))).trans ((al _ _ _ (by simp)).trans (heap_alloc_at rfl))
    · exact (al _ _ _ (by simp)).trans (heap_alloc_at (by simp))
    · exact heap_alloc_at (by simp)
    · repeat (first | (with_reducible exact Below.refl _ _) | (with_reducible refine Below.alloc ?_ (by first | (simp; done) | (simp; omega)) _))
  · have hb' : ¬ 65536 < (L.length : Int) := by omega
    obtain ⟨hE, hS, hN⟩ := lexL_facts (L := L) (by omega)
    have HX : Hid (parseF L = queryF (3 * L.length + 10) (lexL L)) := Lib.hid (by unfold parseF; rw [if_neg hb])
    have HES := Lib.hid (And.intro hE hS)
    have HE := Lib.hid E
    have TK := Lib.hid (fun W => tokens_any ⟨L.toArray⟩ W)
    have CL := Lib.hid (fun Bb W E' h1 h2 => collect_any Bb L (by omega) W E' h1 h2)
    have QA := Lib.hid (fun rb gt W R => query_any rb gt (3 * L.length + 10) (lexL L) (by omega) W R hE hS (by omega))
    have HNE := Lib.hid hE.ne
    have hz0 : w.heap.size < w.heap.size + 1 + 1 + 1 + 1 := by omega
    clear hb E hE hS
    go_enter_defers Tryz.func11, Tryz.ntmps11
    go_wp2_with (first | (go_at_call 28; (with_reducible refine (TK.out _).mono ?_); rintro e w1 ⟨rfl, rfl⟩))
    go_at_call 27
    refine (CL.out _ _ (HE.out.below (by repeat (first | exact Below.refl _ _ | refine Below.setCell ?_ (by first | (simp; done) | (simp; omega) | omega) _ | refine Below.alloc ?_ (by first | (simp; done) | (simp; omega) | omega) _ | refine Below.drew ?_ | assumption | refine Below.trans ?_ (Below.mono (by assumption) (by first | (simp; done) | (simp; omega) | omega))))) (by simp) (by simp [go_sem])).mono ?_
    rintro e w5 ⟨⟨V, rfl, hO⟩, hb5⟩
    obtain ⟨g, cap, rfl, hgl, R⟩ := rdR_mk hO HNE.out (by omega)
    have al := fun (X : World) (o : Obj) (k : Nat) (h : k < X.heap.size) => (((Below.refl _ X).alloc (Nat.le_refl _) o).block k h)
    have k2 : w5.heap[w.heap.size]? = some (.cells zeroQ 31 (0, 0)) := (hb5.block _ (by first | (simp; done) | (simp; omega))).trans ((al _ _ _ (by first | (simp; done) | (simp; omega))).trans ((al _ _ _ (by first | (simp; done) | (simp; omega))).trans ((al _ _ _ (by simp)).trans (heap_alloc_at rfl))))
    have k3 : w5.heap[w.heap.size + 1]? = some (.cells #[.int .i64 0] 3 (0, 0)) := (hb5.block _ (by first | (simp; done) | (simp; omega))).trans ((al _ _ _ (by first | (simp; done) | (simp; omega))).trans ((al _ _ _ (by simp)).trans (heap_alloc_at (by simp))))
    have k4 : w5.heap[w.heap.size + 1 + 1]? = some (.cells #[.int .i64 0] 34 (0, 0)) := (hb5.block _ (by first | (simp; done) | (simp; omega))).trans ((al _ _ _ (by simp)).trans (heap_alloc_at (by simp)))
    have hs5 := hb5.size
    simp only [World.size_alloc] at hs5
    have HB5 : Hid (Below w.heap.size w w5) := Lib.hid (Below.trans (by repeat (first | (with_reducible exact Below.refl _ _) | (with_reducible refine Below.alloc ?_ (by first | (simp; done) | (simp; omega)) _))) (hb5.mono (by first | (simp; done) | (simp; omega))))
    have HR := Lib.hid R
    have HK2 := Lib.hid k2
    have HK3 := Lib.hid k3
    have HK4 := Lib.hid k4
    clear R k2 k3 k4 hO hb5 TK CL HE
    go_wp2_with (fail)
    go_at_call 29
    refine (QA.out _ g _ HR.out).mono ?_
    rintro e w6 hP
    cases hq : queryF (3 * L.length + 10) (lexL L) with
    | no p er =>
      rw [hq] at hP HX
      obtain ⟨rfl, hg6⟩ := hP
      have h2 := (hg6.block w.heap.size (by first | (simp; done) | (simp; omega)) (by omega)).trans ((al _ _ _ (by omega)).trans HK2.out)
      have h3 := (hg6.block (w.heap.size + 1) (by first | (simp; done) | (simp; omega)) (by omega)).trans ((al _ _ _ (by omega)).trans HK3.out)
      have h4 := (hg6.block (w.heap.size + 1 + 1) (by first | (simp; done) | (simp; omega)) (by omega)).trans ((al _ _ _ (by omega)).trans HK4.out)
      have hs6 := hg6.size
      simp only [World.size_alloc] at hs6
      have HG6 : Hid (Below w.heap.size w w6) := Lib.hid (by
        have hg : Gr w.heap.size w5.heap.size w w6 := ((Gr.of_below HB5.out).alloc (by omega) _).trans hg6 (by first | (simp; done) | (simp; omega))
        exact ⟨hg.os, hg.tape, hg.output, hg.size, fun k hk => hg.block k hk (by omega)⟩)
      clear hq
      go_wp2
      refine leaves_cons (f := 26) (args := #[.pointer (some ⟨w.heap.size, 0, none⟩), .pointer (some ⟨w.heap.size + 1, 0, none⟩), .pointer (some ⟨w.heap.size + 1 + 1, 0, none⟩)]) (by simp) (by simp [go_sem]) ?_
      refine (catch_fault w.heap.size (w.heap.size + 1) (w.heap.size + 1 + 1) p er _ h2 h3 h4 (by omega) (by omega)).mono ?_
      rintro e u' w7 ⟨rfl, rfl, j2, j3, j4, jb⟩
      refine ⟨_, parse_res (AI := none) (nI := 0) (cI := 0) (tb := []) (op := 0) (AC := none) (nA := 0) (cC := 0) (lc := []) (lt := 0) (ln := 0) (ls := []) (rc := []) (rt := 0) (rn := 0) (rs := []) (AG := none) (nG := 0) (cG := 0) (AO := none) (nO := 0) (cO := 0) (lim := 0) j2 j3 j4 rfl rfl rfl, HQQ.out _ _ ⟨by rw [HX.out]; exact rfl, HG6.out.trans jb⟩⟩
    | ok q r' =>
      rw [hq] at hP HX
      obtain ⟨⟨V6, rfl, AI, cI, AG, cG, AO, cO, cs, rfl, o1, o2, o3, hcv⟩, hR6, hg6⟩ := hP
      clear hq hR6
      obtain ⟨I, T, ⟨op, args, ⟨lc, lt, ln, ls⟩, ⟨rc, rt, rn, rs⟩⟩, G, O, lim⟩ := q
      obtain ⟨AC, cC, rfl, -⟩ := hcv.open
      have h2 := (hg6.block w.heap.size (by first | (simp; done) | (simp; omega)) (by omega)).trans ((al _ _ _ (by omega)).trans HK2.out)
      have h3 := (hg6.block (w.heap.size + 1) (by first | (simp; done) | (simp; omega)) (by omega)).trans ((al _ _ _ (by omega)).trans HK3.out)
      have h4 := (hg6.block (w.heap.size + 1 + 1) (by first | (simp; done) | (simp; omega)) (by omega)).trans ((al _ _ _ (by omega)).trans HK4.out)
      have hs6 := hg6.size
      simp only [World.size_alloc] at hs6 o1 o2 o3 hcv
      have HG6 : Hid (Below w.heap.size w w6) := Lib.hid (by
        have hg : Gr w.heap.size w5.heap.size w w6 := ((Gr.of_below HB5.out).alloc (by omega) _).trans hg6 (by first | (simp; done) | (simp; omega))
        exact ⟨hg.os, hg.tape, hg.output, hg.size, fun k hk => hg.block k hk (by omega)⟩)
      dsimp only [condC, termC, List.cons_append, List.nil_append, qCells] at hcv o1 o2 o3 ⊢
      have HO1 := Lib.hid o1
      have HO2 := Lib.hid o2
      have HO3 := Lib.hid o3
      have HCV := Lib.hid hcv
      obtain ⟨c3, f3⟩ := qbox (l := [.int .i64 0]) h3 0 _ rfl
      obtain ⟨c4, f4⟩ := qbox (l := [.int .i64 0]) h4 0 _ rfl
      obtain ⟨cz0, fz0⟩ := qbox (l := zeroQ.toList) h2 0 _ rfl
      obtain ⟨cz1, fz1⟩ := qbox (l := zeroQ.toList) h2 1 _ rfl
      obtain ⟨cz2, fz2⟩ := qbox (l := zeroQ.toList) h2 2 _ rfl
      obtain ⟨cz3, fz3⟩ := qbox (l := zeroQ.toList) h2 3 _ rfl
      obtain ⟨cz4, fz4⟩ := qbox (l := zeroQ.toList) h2 4 _ rfl
      obtain ⟨cz5, fz5⟩ := qbox (l := zeroQ.toList) h2 5 _ rfl
      obtain ⟨cz6, fz6⟩ := qbox (l := zeroQ.toList) h2 6 _ rfl
      obtain ⟨cz7, fz7⟩ := qbox (l := zeroQ.toList) h2 7 _ rfl
      obtain ⟨cz8, fz8⟩ := qbox (l := zeroQ.toList) h2 8 _ rfl
      obtain ⟨cz9, fz9⟩ := qbox (l := zeroQ.toList) h2 9 _ rfl
      obtain ⟨cz10, fz10⟩ := qbox (l := zeroQ.toList) h2 10 _ rfl
      obtain ⟨cz11, fz11⟩ := qbox (l := zeroQ.toList) h2 11 _ rfl
      obtain ⟨cz12, fz12⟩ := qbox (l := zeroQ.toList) h2 12 _ rfl
      obtain ⟨cz13, fz13⟩ := qbox (l := zeroQ.toList) h2 13 _ rfl
      obtain ⟨cz14, fz14⟩ := qbox (l := zeroQ.toList) h2 14 _ rfl
      have H2 := Lib.hid h2
      have H3 := Lib.hid h3
      have H4 := Lib.hid h4
      clear o1 o2 o3 hcv h2 h3 h4 hg6
      go_wp2
      refine leaves_cons (f := 26) (args := #[.pointer (some ⟨w.heap.size, 0, none⟩), .pointer (some ⟨w.heap.size + 1, 0, none⟩), .pointer (some ⟨w.heap.size + 1 + 1, 0, none⟩)]) (by simp) (by simp [go_sem]) ?_
      refine (catch_idle w.heap.size (w.heap.size + 1) (w.heap.size + 1 + 1) _).mono ?_
      rintro e u' w7 ⟨rfl, rfl, rfl⟩
      refine ⟨_, parse_res (b2 := w.heap.size) (b3 := w.heap.size + 1) (b4 := w.heap.size + 1 + 1) (AI := AI) (nI := I.length) (cI := cI) (tb := T) (op := op) (AC := AC) (nA := args.length) (cC := cC) (lc := lc) (lt := lt) (ln := ln) (ls := ls) (rc := rc) (rt := rt) (rn := rn) (rs := rs) (AG := AG) (nG := G.length) (cG := cG) (AO := AO) (nO := O.length) (cO := cO) (lim := lim) (x := 0) (y := 0) ?_ ?_ ?_ rfl rfl rfl, HQQ.out _ _ ⟨?_, ?_⟩⟩
      · exact (setCell_block _ _ _ _ (by omega)).trans ((setCell_block _ _ _ _ (by omega)).trans (set15 H2.out _ _ _ _ _ _ _ _ _ _ _ _ _ _ _))
      · refine (setCell_block _ _ _ _ (by omega)).trans (set_at (cs := #[.int .i64 0]) ?_ 0 _)
        repeat (first | (with_reducible exact H3.out) | (with_reducible refine (setCell_block _ _ _ _ (by omega)).trans ?_))
      · refine set_at (cs := #[.int .i64 0]) ?_ 0 _
        repeat (first | (with_reducible exact H4.out) | (with_reducible refine (setCell_block _ _ _ _ (by omega)).trans ?_))
      · rw [HX.out]
        refine ⟨_, rfl, AI, cI, AG, cG, AO, cO, _, rfl, own_mono (B := w5.heap.size + 1) (by repeat (first | (with_reducible exact HO1.out) | (with_reducible refine own_set ?_ (by omega) _ _))) (by omega), own_mono (B := w5.heap.size + 1) (by repeat (first | (with_reducible exact HO2.out) | (with_reducible refine own_set ?_ (by omega) _ _))) (by omega), own_mono (B := w5.heap.size + 1) (by repeat (first | (with_reducible exact HO3.out) | (with_reducible refine own_set ?_ (by omega) _ _))) (by omega), ?_⟩
        refine CV.mono (P := fun k => w5.heap.size + 1 ≤ k) (fun k _ hk => by omega) ?_
        repeat (with_reducible refine CV.keep (Kp.set (Kp.refl (fun k => w5.heap.size + 1 ≤ k) _) (by dsimp only; omega) _) ?_)
        exact HCV.out
      · repeat (first | (with_reducible exact HG6.out) | (with_reducible refine Below.setCell ?_ (by dsimp only; omega) _))
end Go.Proofs.YtijlifdbjhieaaaGreatDoor
