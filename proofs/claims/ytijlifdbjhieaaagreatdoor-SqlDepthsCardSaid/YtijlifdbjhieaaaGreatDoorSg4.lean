/-
  The law's bare and Same.
-/
import Derived.Test.YtijlifdbjhieaaaGreatDoorSg2
import Derived.Test.YtijlifdbjhieaaaGreatDoorSl2
namespace Go.Proofs.YtijlifdbjhieaaaGreatDoor
set_option linter.all false
open Go.RowKit Go.Shelf Go.Sort
attribute [local go_sem] cell_set_self lt_1 lt_2 lt_3 lt_4 lt_5 lt_6

set_option maxHeartbeats 8000000 in
set_option maxRecDepth 100000 in
theorem lbare_any (q : QueryT) (AI AG AO : Option Addr) (cI cG cO : Nat) (cs : List Value) (w : World) (H : QV w q AI AG AO cs) (hwh : LtC 1000000 q.wh) :
    Calls Tryz.prog 13 #[.agg (qCells AI q.items.length cI q.table cs AG q.group.length cG AO q.order.length cO q.limit).toArray] w fun e w' => (∃ cs', e = .returned (.agg (qCells AI q.items.length cI q.table cs' AG q.group.length cG AO q.order.length cO q.limit).toArray) ∧ QV w' (bareQ q) AI AG AO cs') ∧ Below w.heap.size w w' := by
  suffices key : ∀ Q : Ending → World → Prop, Hid (∀ cs' w', CV (fun _ => True) w' (bareC q.wh) cs' → Below w.heap.size w w' → Q (.returned (.agg (qCells AI q.items.length cI q.table cs' AG q.group.length cG AO q.order.length cO q.limit).toArray)) w') → Calls Tryz.prog 13 #[.agg (qCells AI q.items.length cI q.table cs AG q.group.length cG AO q.order.length cO q.limit).toArray] w Q from key _ (Lib.hid fun cs' w' h1 h2 => ⟨⟨cs', rfl, ⟨H.it.below h2, H.gr.below h2, H.od.below h2, h1⟩⟩, h2⟩)
  intro Q HQQ
  obtain ⟨I, T, C, G, O, lim⟩ := q
  have LC := Lib.hid (fun W (hb : Below w.heap.size w W) => lbareC_any (fun _ => True) _ C cs W (Nat.le_refl _) (H.cv.keep (Kp.below hb)) hwh)
  have hcv := H.cv
  dsimp only at HQQ ⊢
  obtain ⟨op, args, ⟨lc, lt, ln, ls⟩, ⟨rc, rt, rn, rs⟩⟩ := C
  obtain ⟨AC, cC, rfl, -⟩ := hcv.open
  obtain ⟨y, hy⟩ : ∃ y, bareC (.mk op args ⟨lc, lt, ln, ls⟩ ⟨rc, rt, rn, rs⟩) = y := ⟨_, rfl⟩
  rw [hy] at LC HQQ
  obtain ⟨op8, args8, ⟨lc8, lt8, ln8, ls8⟩, ⟨rc8, rt8, rn8, rs8⟩⟩ := y
  dsimp only [qCells, condC, termC, List.cons_append, List.nil_append] at LC HQQ ⊢
  generalize (⟨T.toArray⟩ : ByteArray) = TB at *
  generalize (⟨lc.toArray⟩ : ByteArray) = U1 at *
  generalize (⟨ls.toArray⟩ : ByteArray) = U2 at *
  generalize (⟨rc.toArray⟩ : ByteArray) = U3 at *
  generalize (⟨rs.toArray⟩ : ByteArray) = U4 at *
  clear H hcv hwh hy
  have z0 : w.heap.size < w.heap.size + 1 + 1 ∧ w.heap.size + 1 < w.heap.size + 1 + 1 := by omega
  go_enter Tryz.func13, Tryz.ntmps13
  go_wp2_with (first | (go_at_call 32; (with_reducible refine (LC.out _ (by repeat (first | (with_reducible exact Below.refl _ _) | (with_reducible assumption) | (with_reducible refine Below.setCell ?_ (by first | (simp; done) | (simp; omega) | omega) _) | (with_reducible refine Below.alloc ?_ (by first | (simp; done) | (simp; omega) | omega) _) | (with_reducible refine Below.drew ?_) | (with_reducible refine Below.trans ?_ (Below.mono (by assumption) (by first | (simp; done) | (simp; omega) | omega)))))).mono ?_); rintro e w5 ⟨⟨cs5, rfl, hv5⟩, hb5⟩; obtain ⟨A5, c5, rfl, -⟩ := hv5.open; dsimp only [condC, termC, List.cons_append, List.nil_append] at hv5 ⊢; have HV5 := Lib.hid hv5; clear hv5; obtain ⟨hc5, hf5⟩ := bcell hb5; (try simp only [World.size_alloc] at hc5 hf5); have hs5 := hb5.size; (try simp at hs5); have hz5 : w.heap.size < w5.heap.size ∧ w.heap.size + 1 < w5.heap.size := (by omega)))
  have hB5 : Below w.heap.size w w5 := Below.trans (by repeat (first | (with_reducible exact Below.refl _ _) | (with_reducible refine Below.alloc ?_ (by first | (simp; done) | (simp; omega)) _))) (hb5.mono (by first | (simp; done) | (simp; omega)))
  have hv := HV5.out
  simp only [World.size_alloc] at hv
  have HFF : Hid (∀ W', Kp (fun b => w.heap.size + 1 + 1 ≤ b) w5 W' → Below w.heap.size w W' → Q (.returned (.agg #[.slice AI I.length cI, .string TB, .int .i64 op8, .slice A5 args8.length c5, .string ⟨lc8.toArray⟩, .int .i64 lt8, .int .i64 ln8, .string ⟨ls8.toArray⟩, .string ⟨rc8.toArray⟩, .int .i64 rt8, .int .i64 rn8, .string ⟨rs8.toArray⟩, .slice AG G.length cG, .slice AO O.length cO, .int .i64 lim])) W') := Lib.hid fun W' hk hb => HQQ.out [.int .i64 op8, .slice A5 args8.length c5, .string ⟨lc8.toArray⟩, .int .i64 lt8, .int .i64 ln8, .string ⟨ls8.toArray⟩, .string ⟨rc8.toArray⟩, .int .i64 rt8, .int .i64 rn8, .string ⟨rs8.toArray⟩] W' ((hv.keep hk).mono fun _ _ _ => trivial) hb
  clear hv HV5 HQQ LC
  exact bodyPost_ret (v := .agg #[.slice AI I.length cI, .string TB, .int .i64 op8, .slice A5 args8.length c5, .string ⟨lc8.toArray⟩, .int .i64 lt8, .int .i64 ln8, .string ⟨ls8.toArray⟩, .string ⟨rc8.toArray⟩, .int .i64 rt8, .int .i64 rn8, .string ⟨rs8.toArray⟩, .slice AG G.length cG, .slice AO O.length cO, .int .i64 lim]) (by simp [results, Tryz.results13, go_sem, *]) rfl (HFF.out _ (by repeat (first | (with_reducible exact Kp.refl _ _) | (with_reducible refine Kp.set ?_ (by dsimp only; omega) _))) (by repeat (first | (with_reducible exact hB5) | (with_reducible refine Below.setCell ?_ (by first | (simp; done) | (simp; omega) | (dsimp only; omega)) _))))
set_option maxHeartbeats 8000000 in
set_option maxRecDepth 100000 in
theorem same_any (q : QueryT) (AI AG AO AI' AG' AO' : Option Addr) (cI cG cO cI' cG' cO' : Nat) (cs cs' : List Value) (w : World) (H : QV w q AI AG AO cs) (H' : QV w q AI' AG' AO' cs') (hni : q.items.length ≤ 1000000) (hng : q.group.length ≤ 1000000) (hno : q.order.length ≤ 1000000) :
    Calls Tryz.prog 12 #[.agg (qCells AI q.items.length cI q.table cs AG q.group.length cG AO q.order.length cO q.limit).toArray, .agg (qCells AI' q.items.length cI' q.table cs' AG' q.group.length cG' AO' q.order.length cO' q.limit).toArray] w fun e w' => e = .returned (.bool true) ∧ Below w.heap.size w w' := by
  suffices key : ∀ Q : Ending → World → Prop, Hid (∀ w', Below w.heap.size w w' → Q (.returned (.bool true)) w') → Calls Tryz.prog 12 #[.agg (qCells AI q.items.length cI q.table cs AG q.group.length cG AO q.order.length cO q.limit).toArray, .agg (qCells AI' q.items.length cI' q.table cs' AG' q.group.length cG' AO' q.order.length cO' q.limit).toArray] w Q from key _ (Lib.hid fun _ h => ⟨rfl, h⟩)
  intro Q HQ
  obtain ⟨I, T, C, G, O, lim⟩ := q
  have SC := Lib.hid (fun W (hb : Below w.heap.size w W) => sameC_any (fun _ => True) (fun _ => True) _ C cs cs' W (Nat.le_refl _) (H.cv.keep (Kp.below hb)) (H'.cv.keep (Kp.below hb)))
  have ST := Lib.hid (fun W (hb : Below w.heap.size w W) => sameTexts_any AG AG' cG cG' G G (by dsimp only at hng; omega) (by dsimp only at hng; omega) W (H.gr.below hb) (H'.gr.below hb))
  have HI := Lib.hid H.it
  have HI' := Lib.hid H'.it
  have HO := Lib.hid H.od
  have HO' := Lib.hid H'.od
  have hcv := H.cv
  have hcv' := H'.cv
  dsimp only at hni hng hno HI HI' HO HO' ⊢
  obtain ⟨op, args, ⟨lc, lt, ln, ls⟩, ⟨rc, rt, rn, rs⟩⟩ := C
  obtain ⟨AC, cC, rfl, -⟩ := hcv.open
  obtain ⟨AC', cC', rfl, -⟩ := hcv'.open
  dsimp only [qCells, condC, termC, List.cons_append, List.nil_append] at SC ⊢
  generalize (⟨T.toArray⟩ : ByteArray) = TB at *
  generalize (⟨lc.toArray⟩ : ByteArray) = U1 at *
  generalize (⟨ls.toArray⟩ : ByteArray) = U2 at *
  generalize (⟨rc.toArray⟩ : ByteArray) = U3 at *
  generalize (⟨rs.toArray⟩ : ByteArray) = U4 at *
  clear H H' hcv hcv'
  have z0 : w.heap.size < w.heap.size + 1 + 1 ∧ w.heap.size + 1 < w.heap.size + 1 + 1 := by omega
  go_enter Tryz.func12, Tryz.ntmps12
  go_wp2_with (first | (go_at_call 30; (with_reducible refine (ST.out _ (by repeat (first | (with_reducible exact Below.refl _ _) | (with_reducible assumption) | (with_reducible refine Below.setCell ?_ (by first | (simp; done) | (simp; omega) | omega) _) | (with_reducible refine Below.alloc ?_ (by first | (simp; done) | (simp; omega) | omega) _) | (with_reducible refine Below.drew ?_) | (with_reducible refine Below.trans ?_ (Below.mono (by assumption) (by first | (simp; done) | (simp; omega) | omega)))))).mono ?_); rintro e w5 ⟨⟨b5, rfl, hb5'⟩, hb5⟩; obtain rfl : b5 = true := hb5'.2 rfl; clear hb5'; obtain ⟨hc5, hf5⟩ := bcell hb5; (try simp only [World.size_alloc] at hc5 hf5); have hs5 := hb5.size; (try simp at hs5); have hz5 : w.heap.size < w5.heap.size ∧ w.heap.size + 1 < w5.heap.size := (by omega)))
  go_loopw [5] (fun j wr => ∃ k : Nat, k ≤ I.length ∧ j = .int .i64 k ∧ Hid (wr.cell? ⟨w.heap.size, 0, none⟩ = some (.slice AI I.length cI) ∧ wr.cell? ⟨w.heap.size, 2, none⟩ = some (.int .i64 op) ∧ wr.cell? ⟨w.heap.size, 3, none⟩ = some (.slice AC args.length cC) ∧ wr.cell? ⟨w.heap.size, 4, none⟩ = some (.string U1) ∧ wr.cell? ⟨w.heap.size, 5, none⟩ = some (.int .i64 lt) ∧ wr.cell? ⟨w.heap.size, 6, none⟩ = some (.int .i64 ln) ∧ wr.cell? ⟨w.heap.size, 7, none⟩ = some (.string U2) ∧ wr.cell? ⟨w.heap.size, 8, none⟩ = some (.string U3) ∧ wr.cell? ⟨w.heap.size, 9, none⟩ = some (.int .i64 rt) ∧ wr.cell? ⟨w.heap.size, 10, none⟩ = some (.int .i64 rn) ∧ wr.cell? ⟨w.heap.size, 11, none⟩ = some (.string U4) ∧ wr.cell? ⟨w.heap.size, 13, none⟩ = some (.slice AO O.length cO) ∧ wr.cell? ⟨w.heap.size + 1, 0, none⟩ = some (.slice AI' I.length cI') ∧ wr.cell? ⟨w.heap.size + 1, 2, none⟩ = some (.int .i64 op) ∧ wr.cell? ⟨w.heap.size + 1, 3, none⟩ = some (.slice AC' args.length cC') ∧ wr.cell? ⟨w.heap.size + 1, 4, none⟩ = some (.string U1) ∧ wr.cell? ⟨w.heap.size + 1, 5, none⟩ = some (.int .i64 lt) ∧ wr.cell? ⟨w.heap.size + 1, 6, none⟩ = some (.int .i64 ln) ∧ wr.cell? ⟨w.heap.size + 1, 7, none⟩ = some (.string U2) ∧ wr.cell? ⟨w.heap.size + 1, 8, none⟩ = some (.string U3) ∧ wr.cell? ⟨w.heap.size + 1, 9, none⟩ = some (.int .i64 rt) ∧ wr.cell? ⟨w.heap.size + 1, 10, none⟩ = some (.int .i64 rn) ∧ wr.cell? ⟨w.heap.size + 1, 11, none⟩ = some (.string U4) ∧ wr.cell? ⟨w.heap.size + 1, 13, none⟩ = some (.slice AO' O.length cO') ∧ w.heap.size < wr.heap.size ∧ w.heap.size + 1 < wr.heap.size ∧ Below w.heap.size w wr)) (fun j _ => I.length - (intOf j).toNat)
  case atStart => exact ⟨0, by omega, rfl, Lib.hid (by (refine ⟨?_, ?_, ?_, ?_, ?_, ?_, ?_, ?_, ?_, ?_, ?_, ?_, ?_, ?_, ?_, ?_, ?_, ?_, ?_, ?_, ?_, ?_, ?_, ?_, ?_, ?_, ?_⟩ <;> first | (simp [go_sem, *]; done) | omega | (simp; omega) | exact (by repeat (first | (with_reducible exact Below.refl _ _) | (with_reducible assumption) | (with_reducible refine Below.setCell ?_ (by first | (simp; done) | (simp; omega) | omega) _) | (with_reducible refine Below.alloc ?_ (by first | (simp; done) | (simp; omega) | omega) _) | (with_reducible refine Below.drew ?_) | (with_reducible refine Below.trans ?_ (Below.mono (by assumption) (by first | (simp; done) | (simp; omega) | omega)))))))⟩
  case round =>
    obtain ⟨k, hk, rfl, HC⟩ := hrel
    obtain ⟨wo, rfl⟩ : ∃ wo : World, wo = wr := ⟨_, rfl⟩
    obtain ⟨o0, o1, o2, o3, o4, o5, o6, o7, o8, o9, o10, o11, o12, o13, o14, o15, o16, o17, o18, o19, o20, o21, o22, o23, y0, y1, B0⟩ := HC.out
    by_cases hlt : k < I.length
    · have hlt' : (k : Int) < (I.length : Int) := by omega
      obtain ⟨x, hx⟩ : ∃ x, I[k]? = some x := ⟨_, List.getElem?_eq_getElem hlt⟩
      obtain ⟨b, off, rfl, hb, k0, k1⟩ := (HI.out.below B0) k x hx
      obtain ⟨b', off', rfl, hb', j0, j1⟩ := (HI'.out.below B0) k x hx
      obtain ⟨xa, xc⟩ := x
      dsimp only at k0 k1 j0 j1
      generalize (⟨xa.toArray⟩ : ByteArray) = X1 at *
      generalize (⟨xc.toArray⟩ : ByteArray) = X2 at *
      clear hx
      go_upto_region 6 with (fail)
      go_big_region
      go_wp2_with (fail)
      refine ⟨⟨k + 1, by omega, by go_num, Lib.hid (by (refine ⟨?_, ?_, ?_, ?_, ?_, ?_, ?_, ?_, ?_, ?_, ?_, ?_, ?_, ?_, ?_, ?_, ?_, ?_, ?_, ?_, ?_, ?_, ?_, ?_, ?_, ?_, ?_⟩ <;> first | (simp [go_sem, *]; done) | omega | (simp; omega) | exact (by repeat (first | (with_reducible exact Below.refl _ _) | (with_reducible assumption) | (with_reducible refine Below.setCell ?_ (by first | (simp; done) | (simp; omega) | omega) _) | (with_reducible refine Below.alloc ?_ (by first | (simp; done) | (simp; omega) | omega) _) | (with_reducible refine Below.drew ?_) | (with_reducible refine Below.trans ?_ (Below.mono (by assumption) (by first | (simp; done) | (simp; omega) | omega)))))))⟩, ?_⟩
      first | (simp [intOf]; done) | (simp [intOf]; omega)
    · obtain rfl : k = I.length := by omega
      have hkk : ¬ (I.length : Int) < (I.length : Int) := by omega
      go_wp2_with (fail)
      go_loopw [6] (fun j wr => ∃ k : Nat, k ≤ O.length ∧ j = .int .i64 k ∧ Hid (wr.cell? ⟨w.heap.size, 0, none⟩ = some (.slice AI I.length cI) ∧ wr.cell? ⟨w.heap.size, 2, none⟩ = some (.int .i64 op) ∧ wr.cell? ⟨w.heap.size, 3, none⟩ = some (.slice AC args.length cC) ∧ wr.cell? ⟨w.heap.size, 4, none⟩ = some (.string U1) ∧ wr.cell? ⟨w.heap.size, 5, none⟩ = some (.int .i64 lt) ∧ wr.cell? ⟨w.heap.size, 6, none⟩ = some (.int .i64 ln) ∧ wr.cell? ⟨w.heap.size, 7, none⟩ = some (.string U2) ∧ wr.cell? ⟨w.heap.size, 8, none⟩ = some (.string U3) ∧ wr.cell? ⟨w.heap.size, 9, none⟩ = some (.int .i64 rt) ∧ wr.cell? ⟨w.heap.size, 10, none⟩ = some (.int .i64 rn) ∧ wr.cell? ⟨w.heap.size, 11, none⟩ = some (.string U4) ∧ wr.cell? ⟨w.heap.size, 13, none⟩ = some (.slice AO O.length cO) ∧ wr.cell? ⟨w.heap.size + 1, 0, none⟩ = some (.slice AI' I.length cI') ∧ wr.cell? ⟨w.heap.size + 1, 2, none⟩ = some (.int .i64 op) ∧ wr.cell? ⟨w.heap.size + 1, 3, none⟩ = some (.slice AC' args.length cC') ∧ wr.cell? ⟨w.heap.size + 1, 4, none⟩ = some (.string U1) ∧ wr.cell? ⟨w.heap.size + 1, 5, none⟩ = some (.int .i64 lt) ∧ wr.cell? ⟨w.heap.size + 1, 6, none⟩ = some (.int .i64 ln) ∧ wr.cell? ⟨w.heap.size + 1, 7, none⟩ = some (.string U2) ∧ wr.cell? ⟨w.heap.size + 1, 8, none⟩ = some (.string U3) ∧ wr.cell? ⟨w.heap.size + 1, 9, none⟩ = some (.int .i64 rt) ∧ wr.cell? ⟨w.heap.size + 1, 10, none⟩ = some (.int .i64 rn) ∧ wr.cell? ⟨w.heap.size + 1, 11, none⟩ = some (.string U4) ∧ wr.cell? ⟨w.heap.size + 1, 13, none⟩ = some (.slice AO' O.length cO') ∧ w.heap.size < wr.heap.size ∧ w.heap.size + 1 < wr.heap.size ∧ Below w.heap.size w wr)) (fun j _ => O.length - (intOf j).toNat)
      case atStart => exact ⟨0, by omega, rfl, HC⟩
      case round =>
        clear o0 o1 o2 o3 o4 o5 o6 o7 o8 o9 o10 o11 o12 o13 o14 o15 o16 o17 o18 o19 o20 o21 o22 o23 y0 y1 B0
        obtain ⟨k, hk, rfl, HC⟩ := hrel
        obtain ⟨wo2, rfl⟩ : ∃ wo : World, wo = wr := ⟨_, rfl⟩
        obtain ⟨o0, o1, o2, o3, o4, o5, o6, o7, o8, o9, o10, o11, o12, o13, o14, o15, o16, o17, o18, o19, o20, o21, o22, o23, y0, y1, B0⟩ := HC.out
        by_cases hlt : k < O.length
        · have hlt' : (k : Int) < (O.length : Int) := by omega
          obtain ⟨x, hx⟩ : ∃ x, O[k]? = some x := ⟨_, List.getElem?_eq_getElem hlt⟩
          obtain ⟨b, off, rfl, hb, k0, k1⟩ := (HO.out.below B0) k x hx
          obtain ⟨b', off', rfl, hb', j0, j1⟩ := (HO'.out.below B0) k x hx
          obtain ⟨xc, xd⟩ := x
          dsimp only at k0 k1 j0 j1
          generalize (⟨xc.toArray⟩ : ByteArray) = X1 at *
          clear hx
          go_upto_region 11 with (fail)
          go_big_region
          go_wp2_with (fail)
          refine ⟨⟨k + 1, by omega, by go_num, Lib.hid (by (refine ⟨?_, ?_, ?_, ?_, ?_, ?_, ?_, ?_, ?_, ?_, ?_, ?_, ?_, ?_, ?_, ?_, ?_, ?_, ?_, ?_, ?_, ?_, ?_, ?_, ?_, ?_, ?_⟩ <;> first | (simp [go_sem, *]; done) | omega | (simp; omega) | exact (by repeat (first | (with_reducible exact Below.refl _ _) | (with_reducible assumption) | (with_reducible refine Below.setCell ?_ (by first | (simp; done) | (simp; omega) | omega) _) | (with_reducible refine Below.alloc ?_ (by first | (simp; done) | (simp; omega) | omega) _) | (with_reducible refine Below.drew ?_) | (with_reducible refine Below.trans ?_ (Below.mono (by assumption) (by first | (simp; done) | (simp; omega) | omega)))))))⟩, ?_⟩
          first | (simp [intOf]; done) | (simp [intOf]; omega)
        · obtain rfl : k = O.length := by omega
          have hkk : ¬ (O.length : Int) < (O.length : Int) := by omega
          go_wp2_with (first | (go_at_call 31; (with_reducible refine (SC.out _ B0).mono ?_); rintro e w8 ⟨rfl, hb8⟩))
          exact HQ.out _ (B0.trans (hb8.mono B0.size))
end Go.Proofs.YtijlifdbjhieaaaGreatDoor
