/-
  What sql.Check answers, plainly. (Printed by tools/mksn6.py.)
-/
import Derived.Test.YtijlifdbjhieaaaGreatDoorSn5
import Derived.Test.YtijlifdbjhieaaaGreatDoorQh2
import Derived.Test.YtijlifdbjhieaaaGreatDoorSn7
import Derived.Laws.EntriesVeiled
namespace Go.Proofs.YtijlifdbjhieaaaGreatDoor
set_option linter.all false
open Go.RowKit Go.Shelf Go.Sort
attribute [local go_sem] cell_set_self lt_1 lt_2 lt_3 lt_4 lt_5 lt_6

def firstE : List Int → Int
  | [] => 0
  | e :: r => if e ≠ 0 then e else firstE r
def colsO (O : List OrderT) : List (List UInt8) := O.map OrderT.col
/-- A query's error over its schema. -/
def chkS (q : QueryT) (s : SchT) : Int :=
  if firstE [itemsE s q.items, condE s q.wh, onceE s q.group 0 q.group, onceE s (colsO q.order) 0 (colsO q.order)] ≠ 0 then firstE [itemsE s q.items, condE s q.wh, onceE s q.group 0 q.group, onceE s (colsO q.order) 0 (colsO q.order)]
  else if sumsB q = true ∧ (q.items.all (pA q.group) = false ∨ (colsO q.order).all (pN q.group) = false) then 10 else 0
def checkE (q : QueryT) (L : List SchT) : Int := if formQ q ≠ 0 then formQ q else match L.find? (isTab q.table) with | none => 23 | some s => chkS q s
set_option maxHeartbeats 16000000 in
set_option maxRecDepth 100000 in
noncomputable def chkA (AI AG AO AC LA : Option Addr) (cI cG cO cC cL : Nat) (I : List ItemT) (T : List UInt8) (op : Int) (args : List CondT) (lc : List UInt8) (lt ln : Int) (ls rc : List UInt8) (rt rn : Int) (rs : List UInt8) (G : List (List UInt8)) (O : List OrderT) (lim : Int) (L : List SchT) (w : World) (Q : Ending → World → Prop) :
    PSigma fun R : Prop => (QV w (⟨I, T, .mk op args ⟨lc, lt, ln, ls⟩ ⟨rc, rt, rn, rs⟩, G, O, lim⟩ : QueryT) AI AG AO (condC op AC args.length cC ⟨lc, lt, ln, ls⟩ ⟨rc, rt, rn, rs⟩)) → (QShort (⟨I, T, .mk op args ⟨lc, lt, ln, ls⟩ ⟨rc, rt, rn, rs⟩, G, O, lim⟩ : QueryT)) → (ScL w LA L) → (L.length ≤ 1000000) → (∀ s ∈ L, s.cols.length ≤ 1000000 ∧ s.key.length ≤ 1000000) → (O.length ≤ 1000000) → (I.length ≤ 1000000) → (G.length ≤ 1000000) → (G.length ≤ cG) → (Hid (∀ s A1 c1 A2 c2 w', checkE (⟨I, T, .mk op args ⟨lc, lt, ln, ls⟩ ⟨rc, rt, rn, rs⟩, G, O, lim⟩ : QueryT) L = 0 → L.find? (isTab T) = some s → SchV w' s A1 c1 A2 c2 → Below w.heap.size w w' → Q (.returned (.tuple #[.agg #[.string ⟨s.table.toArray⟩, .slice A1 s.cols.length c1, .slice A2 s.key.length c2], .int .i64 0])) w')) → (Hid (∀ er w', checkE (⟨I, T, .mk op args ⟨lc, lt, ln, ls⟩ ⟨rc, rt, rn, rs⟩, G, O, lim⟩ : QueryT) L = er → er ≠ 0 → Below w.heap.size w w' → Q (.returned (.tuple #[.agg #[.string ⟨#[]⟩, .slice none 0 0, .slice none 0 0], .int .i64 er])) w')) → RestP R → Calls Tryz.prog 34 #[.agg #[.slice AI I.length cI, .string ⟨T.toArray⟩, .int .i64 op, .slice AC args.length cC, .string ⟨lc.toArray⟩, .int .i64 lt, .int .i64 ln, .string ⟨ls.toArray⟩, .string ⟨rc.toArray⟩, .int .i64 rt, .int .i64 rn, .string ⟨rs.toArray⟩, .slice AG G.length cG, .slice AO O.length cO, .int .i64 lim], .slice LA L.length cL] w Q := ⟨_, by
  intro H SQ HL hL hLs hO hI hG hcG HGOOD HBAD hR
  obtain ⟨LB, hLB⟩ : ∃ X : Option Addr, LA = X := ⟨_, rfl⟩
  rw [hLB] at HL ⊢
  clear hLB
  have HE := Lib.hid (fun W (hb : Below w.heap.size w W) => form_any (⟨I, T, .mk op args ⟨lc, lt, ln, ls⟩ ⟨rc, rt, rn, rs⟩, G, O, lim⟩ : QueryT) AI AG AO cI cG cO (condC op AC args.length cC ⟨lc, lt, ln, ls⟩ ⟨rc, rt, rn, rs⟩) W (H.below hb) SQ)
  have IX := Lib.hid (fun qb W (hb : Below w.heap.size w W) hqb hq => idxS_at LB cL L (by omega) T qb W (HL.below hb) hqb hq)
  obtain ⟨fq, hfq⟩ : ∃ x, formQ (⟨I, T, .mk op args ⟨lc, lt, ln, ls⟩ ⟨rc, rt, rn, rs⟩, G, O, lim⟩ : QueryT) = x := ⟨_, rfl⟩
  have hce : checkE (⟨I, T, .mk op args ⟨lc, lt, ln, ls⟩ ⟨rc, rt, rn, rs⟩, G, O, lim⟩ : QueryT) L = if fq ≠ 0 then fq else match L.find? (isTab T) with | none => 23 | some s => chkS (⟨I, T, .mk op args ⟨lc, lt, ln, ls⟩ ⟨rc, rt, rn, rs⟩, G, O, lim⟩ : QueryT) s := by unfold checkE; rw [hfq]
  have HCE := Lib.hid hce
  rw [hfq] at HE
  clear hfq hce
  have HH := Lib.hid H
  have HLL := Lib.hid HL
  have HOO := Lib.hid H.od
  have eqQ : qCells AI I.length cI T (condC op AC args.length cC ⟨lc, lt, ln, ls⟩ ⟨rc, rt, rn, rs⟩) AG G.length cG AO O.length cO lim = [.slice AI I.length cI, .string ⟨T.toArray⟩, .int .i64 op, .slice AC args.length cC, .string ⟨lc.toArray⟩, .int .i64 lt, .int .i64 ln, .string ⟨ls.toArray⟩, .string ⟨rc.toArray⟩, .int .i64 rt, .int .i64 rn, .string ⟨rs.toArray⟩, .slice AG G.length cG, .slice AO O.length cO, .int .i64 lim] := rfl
  dsimp only at HE
  rw [eqQ] at HE
  clear eqQ H SQ HL
  obtain ⟨TB, hTB⟩ : ∃ t : ByteArray, (⟨T.toArray⟩ : ByteArray) = t := ⟨_, rfl⟩
  obtain ⟨U1, hU1⟩ : ∃ t : ByteArray, (⟨lc.toArray⟩ : ByteArray) = t := ⟨_, rfl⟩
  obtain ⟨U2, hU2⟩ : ∃ t : ByteArray, (⟨ls.toArray⟩ : ByteArray) = t := ⟨_, rfl⟩
  obtain ⟨U3, hU3⟩ : ∃ t : ByteArray, (⟨rc.toArray⟩ : ByteArray) = t := ⟨_, rfl⟩
  obtain ⟨U4, hU4⟩ : ∃ t : ByteArray, (⟨rs.toArray⟩ : ByteArray) = t := ⟨_, rfl⟩
  rw [hTB, hU1, hU2, hU3, hU4] at HE
  rw [hTB] at IX
  rw [hTB, hU1, hU2, hU3, hU4]
  have z0 : w.heap.size < w.heap.size + 1 := by omega
  go_enter Tryz.func34, Tryz.ntmps34
  go_wp2_with (fail)
  go_at_call 18
  refine (HE.out _ (by repeat (first | (with_reducible assumption) | (with_reducible exact Below.refl _ _) | (with_reducible refine Below.setCell ?_ (by first | (simp; done) | (simp; omega) | omega) _) | (with_reducible refine Below.alloc ?_ (by first | (simp; done) | (simp; omega) | omega) _)))).mono ?_
  rintro e w1 ⟨rfl, hb1⟩
  obtain ⟨hc1, hf1⟩ := bcell hb1; (try simp only [drew_size, drew_cell, drew_frozen, World.size_alloc, World.size_setCell] at hc1 hf1); have hz1 : w.heap.size < w1.heap.size ∧ w.heap.size + 1 < w1.heap.size := (by have := hb1.size; (try simp at this); omega)
  have hB1 : Below w.heap.size w w1 := (by refine Below.trans ?_ (hb1.mono (by first | (simp; done) | (simp; omega) | omega)); repeat (first | (with_reducible assumption) | (with_reducible exact Below.refl _ _) | (with_reducible refine Below.setCell ?_ (by first | (simp; done) | (simp; omega) | omega) _) | (with_reducible refine Below.alloc ?_ (by first | (simp; done) | (simp; omega) | omega) _)))
  have hs1 := hB1.size
  by_cases hf : fq = 0
  · subst hf
    go_wp2_with (fail)
    go_at_call 72
    refine (IX.out (w.heap.size) _ (by repeat (first | (with_reducible assumption) | (with_reducible exact Below.refl _ _) | (with_reducible refine Below.setCell ?_ (by first | (simp; done) | (simp; omega) | omega) _) | (with_reducible refine Below.alloc ?_ (by first | (simp; done) | (simp; omega) | omega) _))) (by omega) (by rw [hc1 _ _ (by omega)]; simp [go_sem])).mono ?_
    rintro e w2 ⟨rfl, hb2⟩
    obtain ⟨hc2, hf2⟩ := bcell hb2; (try simp only [drew_size, drew_cell, drew_frozen, World.size_alloc, World.size_setCell] at hc2 hf2); have hz2 : w.heap.size < w2.heap.size ∧ w.heap.size + 1 < w2.heap.size := (by have := hb2.size; (try simp at this); omega)
    have hB2 : Below w.heap.size w w2 := (by refine Below.trans ?_ (hb2.mono (by first | (simp; done) | (simp; omega) | omega)); repeat (first | (with_reducible assumption) | (with_reducible exact Below.refl _ _) | (with_reducible refine Below.setCell ?_ (by first | (simp; done) | (simp; omega) | omega) _) | (with_reducible refine Below.alloc ?_ (by first | (simp; done) | (simp; omega) | omega) _)))
    have hs2 := hB2.size
    obtain ⟨z, hz⟩ : ∃ z, idxF (isTab T) 0 L = z := ⟨_, rfl⟩
    have hneg := Lib.hid (fun (h : z < 0) => idxF_neg (p := isTab T) (l := L) (n := 0) (by rw [hz]; exact h))
    have hpos := Lib.hid (fun (h : 0 ≤ z) => idxF_some (p := isTab T) (l := L) (n := 0) (by rw [hz]; exact h))
    rw [hz] at hneg hpos ⊢
    clear hz
    by_cases hlt : z < 0
    · obtain ⟨rfl, hno⟩ := hneg.out hlt
      have hE : checkE (⟨I, T, .mk op args ⟨lc, lt, ln, ls⟩ ⟨rc, rt, rn, rs⟩, G, O, lim⟩ : QueryT) L = 23 := by rw [HCE.out, if_neg (by simp), List.find?_eq_none.2 (fun x hx => by rw [hno x hx]; decide)]
      have HB23 := Lib.hid (fun w' => HBAD.out 23 w' hE (by decide))
      clear hno hE hneg hpos
      go_wp2_with (fail)
      exact bodyPost_ret (v := .tuple #[.agg #[.string ⟨#[]⟩, .slice none 0 0, .slice none 0 0], .int .i64 23]) (by simp [results, Tryz.results34, go_sem, *]) rfl (HB23.out _ (by repeat (first | (with_reducible assumption) | (with_reducible exact Below.refl _ _) | (with_reducible refine Below.setCell ?_ (by first | (simp; done) | (simp; omega) | omega) _) | (with_reducible refine Below.alloc ?_ (by first | (simp; done) | (simp; omega) | omega) _))))
    · obtain ⟨k, s, hk, hx, hp, hbf⟩ := hpos.out (by omega)
      have hkl := (List.getElem?_eq_some_iff.1 hx).1
      obtain rfl : z = (k : Int) := by rw [hk]; simp
      have hfind := find_idx hx hp hbf
      have hce2 := HCE.out
      rw [if_neg (by simp), hfind] at hce2
      have HCS : Hid (checkE (⟨I, T, .mk op args ⟨lc, lt, ln, ls⟩ ⟨rc, rt, rn, rs⟩, G, O, lim⟩ : QueryT) L = chkS (⟨I, T, .mk op args ⟨lc, lt, ln, ls⟩ ⟨rc, rt, rn, rs⟩, G, O, lim⟩ : QueryT) s) := Lib.hid hce2
      have HFD := Lib.hid hfind
      obtain ⟨b, off, A1, c1, A2, c2, rfl, hb, k0, k1, k2, -⟩ := (HLL.out.below hB2) k s hx
      obtain ⟨b', off', A1', c1', A2', c2', e', hb', -, k1', k2', hsv⟩ := HLL.out k s hx
      injection e' with e'; injection e' with e1 e2; subst e1 e2
      replace k1' := (hB2.cell (p := ⟨b, off + k * 3 + 1, none⟩) hb').trans k1'
      replace k2' := (hB2.cell (p := ⟨b, off + k * 3 + 2, none⟩) hb').trans k2'
      rw [k1] at k1'; rw [k2] at k2'
      injection k1' with k1'; injection k1' with e3 _ e4; subst e3 e4
      injection k2' with k2'; injection k2' with e5 _ e6; subst e5 e6
      have HSV := Lib.hid hsv
      obtain ⟨hcs, hks⟩ := hLs s (List.mem_of_getElem? hx)
      have hkl' : (k : Int) < (L.length : Int) := by omega
      have hk0 : ¬ (k : Int) < 0 := by omega
      obtain ⟨ST, hST⟩ : ∃ t : ByteArray, (⟨s.table.toArray⟩ : ByteArray) = t := ⟨_, rfl⟩
      rw [hST] at k0
      have HST := Lib.hid hST
      obtain ⟨n2, hn2⟩ : ∃ n, w2.heap.size = n := ⟨_, rfl⟩
      have HN2 := Lib.hid hn2
      have hn2w : w.heap.size + 1 < n2 ∧ w.heap.size < n2 := by omega
      clear hb' hk hx hp hbf hfind hce2 hneg hpos hlt hsv hST
      go_wp2_with (fail)
      refine name_world ?_; intro W00 hW00
      have hs3 : W00.heap.size = n2 + 1 := by rw [hW00]; simp [hn2]
      have kW3 : W00.cell? ⟨w.heap.size, 0, none⟩ = some (.slice AI I.length cI) ∧ W00.cell? ⟨w.heap.size, 1, none⟩ = some (.string TB) ∧ W00.cell? ⟨w.heap.size, 2, none⟩ = some (.int .i64 op) ∧ W00.cell? ⟨w.heap.size, 3, none⟩ = some (.slice AC args.length cC) ∧ W00.cell? ⟨w.heap.size, 4, none⟩ = some (.string U1) ∧ W00.cell? ⟨w.heap.size, 5, none⟩ = some (.int .i64 lt) ∧ W00.cell? ⟨w.heap.size, 6, none⟩ = some (.int .i64 ln) ∧ W00.cell? ⟨w.heap.size, 7, none⟩ = some (.string U2) ∧ W00.cell? ⟨w.heap.size, 8, none⟩ = some (.string U3) ∧ W00.cell? ⟨w.heap.size, 9, none⟩ = some (.int .i64 rt) ∧ W00.cell? ⟨w.heap.size, 10, none⟩ = some (.int .i64 rn) ∧ W00.cell? ⟨w.heap.size, 11, none⟩ = some (.string U4) ∧ W00.cell? ⟨w.heap.size, 12, none⟩ = some (.slice AG G.length cG) ∧ W00.cell? ⟨w.heap.size, 13, none⟩ = some (.slice AO O.length cO) ∧ W00.cell? ⟨w.heap.size, 14, none⟩ = some (.int .i64 lim) ∧ W00.cell? ⟨w.heap.size + 1, 0, none⟩ = some (.string ⟨#[]⟩) ∧ W00.cell? ⟨w.heap.size + 1, 1, none⟩ = some (.slice none 0 0) ∧ W00.cell? ⟨w.heap.size + 1, 2, none⟩ = some (.slice none 0 0) ∧ W00.cell? ⟨n2, 0, none⟩ = some (.string ST) ∧ W00.cell? ⟨n2, 1, none⟩ = some (.slice A1 s.cols.length c1) ∧ W00.cell? ⟨n2, 2, none⟩ = some (.slice A2 s.key.length c2) ∧ W00.frozen? ⟨w.heap.size + 1, 0, none⟩ = false ∧ W00.frozen? ⟨w.heap.size + 1, 1, none⟩ = false ∧ W00.frozen? ⟨w.heap.size + 1, 2, none⟩ = false ∧ w.heap.size < W00.heap.size ∧ w.heap.size + 1 < W00.heap.size ∧ n2 < W00.heap.size ∧ Below w.heap.size w W00 := by { rw [hW00]; exact (by (refine ⟨?_, ?_, ?_, ?_, ?_, ?_, ?_, ?_, ?_, ?_, ?_, ?_, ?_, ?_, ?_, ?_, ?_, ?_, ?_, ?_, ?_, ?_, ?_, ?_, ?_, ?_, ?_, ?_⟩ <;> first | (simp [go_sem, *]; done) | omega | (simp; omega) | exact (by repeat (first | (with_reducible exact Below.refl _ _) | (with_reducible assumption) | (with_reducible refine Below.setCell ?_ (by first | (simp; done) | (simp; omega) | omega) _) | (with_reducible refine Below.alloc ?_ (by first | (simp; done) | (simp; omega) | omega) _) | (with_reducible refine Below.drew ?_) | (with_reducible refine Below.trans ?_ (Below.mono (by assumption) (by first | (simp; done) | (simp; omega) | omega))))))) }
      have kB2 : Below w2.heap.size w2 W00 := by rw [hW00]; exact (Below.refl _ _).alloc (Nat.le_refl _) _
      clear hW00
      obtain ⟨W3, rfl⟩ : ∃ W, W = W00 := ⟨_, rfl⟩
      obtain ⟨cW3_0, cW3_1, cW3_2, cW3_3, cW3_4, cW3_5, cW3_6, cW3_7, cW3_8, cW3_9, cW3_10, cW3_11, cW3_12, cW3_13, cW3_14, cW3_15, cW3_16, cW3_17, cW3_18, cW3_19, cW3_20, fW3_0, fW3_1, fW3_2, zW3_0, zW3_1, zW3_2, bW3⟩ := kW3
      obtain ⟨i, hi, iz0, iz1, iz2⟩ := info_parts info_str
      clear hb1 hb2 hc1 hc2 hf1 hf2 k0 k1 k2 hb HE IX
      go_loopw [9, 35] (fun tv j wr => ∃ (k : Nat) (V : Value), k ≤ O.length ∧ j = .int .i64 k ∧ V = tv ∧ Hid (wr.ownsRow (n2 + 1) 9 1 V k (cellsN ((colsO O).take k))) ∧ Hid (Below (n2 + 1) W3 wr)) (fun _ j _ => O.length - (intOf j).toNat)
      case atStart => exact ⟨0, _, by omega, rfl, rfl, Lib.hid (World.ownsRow_nil _ _ _ _), Lib.hid (Below.refl _ _)⟩
      case round =>
        obtain ⟨m, V, hm, rfl, hV, HO, HB⟩ := hrel
        subst hV
        obtain ⟨wo, rfl⟩ : ∃ wo : World, wo = wr := ⟨_, rfl⟩
        have hBW : Below w.heap.size w wo := bW3.trans (HB.out.mono (by omega))
        have hso : n2 + 1 ≤ wo.heap.size := by have := HB.out.size; omega
        by_cases hmt : m < O.length
        · have hmt' : (m : Int) < (O.length : Int) := by omega
          obtain ⟨x, hx⟩ : ∃ x, O[m]? = some x := ⟨_, List.getElem?_eq_getElem hmt⟩
          have htk : Hid (cellsN ((colsO O).take (m + 1)) = cellsN ((colsO O).take m) ++ [.string ⟨x.col.toArray⟩]) := Lib.hid (by
            have h2 : (colsO O)[m]? = some x.col := by unfold colsO; rw [List.getElem?_map, hx]; rfl
            rw [List.take_succ, h2]; exact cellsN_app _ _)
          obtain ⟨ob, oo, rfl, hob, oc0, oc1⟩ := (HOO.out.below hBW) m x hx
          obtain ⟨xc, xd⟩ := x
          dsimp only at htk oc0 oc1
          generalize (⟨xc.toArray⟩ : ByteArray) = X1 at *
          obtain ⟨xs, hxs⟩ : ∃ xs, cellsN ((colsO O).take m) = xs := ⟨_, rfl⟩
          rw [hxs] at HO htk
          clear hx hxs
          go_wp2_with (first | (at_builtin; refine wpList_append_lies _ rfl _ _ _ rfl (n2 + 1) 9 i _ 1 16 Tryz.underlying28 hi iz0 iz1 iz2 rfl (by decide) V m _ rfl ((own_alloc HO.out (.cells #[.string X1, .bool xd] 68)).alloc _) ⟨wo.heap.size + 1, 0, none⟩ 1 1 [.string X1] rfl rfl (World.news_of_block (cs := #[.string X1]) (t := 9) (fr := (0, 0)) (heap_alloc_at (by simp))) (by simp [Value.oneCell']) (by omega) (by unfold maxLen; omega) (by omega) (by simp; omega) (wo.heap.size + 1 + 1) (by simp) ?_; intro gg cap w1' hown1 hgrow hat hlt'))
          go_roundw
          case rel => exact ⟨m + 1, _, by omega, by go_num, rfl, Lib.hid (by rw [htk.out]; exact hown1), Lib.hid (below_push (HB.out.alloc (by omega) _) (by simp; omega) hgrow (fun j hj => (HO.out.lt j hj).1))⟩
          case measure => first | (simp [intOf]; done) | (simp [intOf]; omega)
        · obtain rfl : m = O.length := by omega
          have hmm : ¬ (O.length : Int) < (O.length : Int) := by omega
          have hlc : (colsO O).length = O.length := by simp [colsO]
          obtain ⟨A9, c9, rfl, h9, HS9⟩ := own_strs (l := colsO O) (by rw [hlc]; have h := HO.out; rw [List.take_of_length_le (by rw [hlc]; exact Nat.le_refl _)] at h; exact h)
          rw [hlc] at h9 ⊢
          have HS9' := Lib.hid HS9
          obtain ⟨hcb, hfb⟩ := bcell (W := W3) (w1 := wo) (by rw [hs3]; exact HB.out)
          obtain ⟨w5, rfl⟩ : ∃ w5 : World, w5 = wo := ⟨_, rfl⟩
          have kw5 : w5.cell? ⟨w.heap.size, 0, none⟩ = some (.slice AI I.length cI) ∧ w5.cell? ⟨w.heap.size, 1, none⟩ = some (.string TB) ∧ w5.cell? ⟨w.heap.size, 2, none⟩ = some (.int .i64 op) ∧ w5.cell? ⟨w.heap.size, 3, none⟩ = some (.slice AC args.length cC) ∧ w5.cell? ⟨w.heap.size, 4, none⟩ = some (.string U1) ∧ w5.cell? ⟨w.heap.size, 5, none⟩ = some (.int .i64 lt) ∧ w5.cell? ⟨w.heap.size, 6, none⟩ = some (.int .i64 ln) ∧ w5.cell? ⟨w.heap.size, 7, none⟩ = some (.string U2) ∧ w5.cell? ⟨w.heap.size, 8, none⟩ = some (.string U3) ∧ w5.cell? ⟨w.heap.size, 9, none⟩ = some (.int .i64 rt) ∧ w5.cell? ⟨w.heap.size, 10, none⟩ = some (.int .i64 rn) ∧ w5.cell? ⟨w.heap.size, 11, none⟩ = some (.string U4) ∧ w5.cell? ⟨w.heap.size, 12, none⟩ = some (.slice AG G.length cG) ∧ w5.cell? ⟨w.heap.size, 13, none⟩ = some (.slice AO O.length cO) ∧ w5.cell? ⟨w.heap.size, 14, none⟩ = some (.int .i64 lim) ∧ w5.cell? ⟨w.heap.size + 1, 0, none⟩ = some (.string ⟨#[]⟩) ∧ w5.cell? ⟨w.heap.size + 1, 1, none⟩ = some (.slice none 0 0) ∧ w5.cell? ⟨w.heap.size + 1, 2, none⟩ = some (.slice none 0 0) ∧ w5.cell? ⟨n2, 0, none⟩ = some (.string ST) ∧ w5.cell? ⟨n2, 1, none⟩ = some (.slice A1 s.cols.length c1) ∧ w5.cell? ⟨n2, 2, none⟩ = some (.slice A2 s.key.length c2) ∧ w5.frozen? ⟨w.heap.size + 1, 0, none⟩ = false ∧ w5.frozen? ⟨w.heap.size + 1, 1, none⟩ = false ∧ w5.frozen? ⟨w.heap.size + 1, 2, none⟩ = false ∧ w.heap.size < w5.heap.size ∧ w.heap.size + 1 < w5.heap.size ∧ n2 < w5.heap.size ∧ Below w.heap.size w w5 := ⟨(hcb _ _ (by omega)).trans cW3_0, (hcb _ _ (by omega)).trans cW3_1, (hcb _ _ (by omega)).trans cW3_2, (hcb _ _ (by omega)).trans cW3_3, (hcb _ _ (by omega)).trans cW3_4, (hcb _ _ (by omega)).trans cW3_5, (hcb _ _ (by omega)).trans cW3_6, (hcb _ _ (by omega)).trans cW3_7, (hcb _ _ (by omega)).trans cW3_8, (hcb _ _ (by omega)).trans cW3_9, (hcb _ _ (by omega)).trans cW3_10, (hcb _ _ (by omega)).trans cW3_11, (hcb _ _ (by omega)).trans cW3_12, (hcb _ _ (by omega)).trans cW3_13, (hcb _ _ (by omega)).trans cW3_14, (hcb _ _ (by omega)).trans cW3_15, (hcb _ _ (by omega)).trans cW3_16, (hcb _ _ (by omega)).trans cW3_17, (hcb _ _ (by omega)).trans cW3_18, (hcb _ _ (by omega)).trans cW3_19, (hcb _ _ (by omega)).trans cW3_20, (hfb _ _ (by omega)).trans fW3_0, (hfb _ _ (by omega)).trans fW3_1, (hfb _ _ (by omega)).trans fW3_2, by omega, by omega, by omega, hBW⟩
          obtain ⟨cw5_0, cw5_1, cw5_2, cw5_3, cw5_4, cw5_5, cw5_6, cw5_7, cw5_8, cw5_9, cw5_10, cw5_11, cw5_12, cw5_13, cw5_14, cw5_15, cw5_16, cw5_17, cw5_18, cw5_19, cw5_20, fw5_0, fw5_1, fw5_2, zw5_0, zw5_1, zw5_2, bw5⟩ := kw5
          have hB25 : Below w2.heap.size w2 w5 := kB2.trans (HB.out.mono (by omega))
          clear hcb hfb HS9 HO HB cW3_0 cW3_1 cW3_2 cW3_3 cW3_4 cW3_5 cW3_6 cW3_7 cW3_8 cW3_9 cW3_10 cW3_11 cW3_12 cW3_13 cW3_14 cW3_15 cW3_16 cW3_17 cW3_18 cW3_19 cW3_20 fW3_0 fW3_1 fW3_2 zW3_0 zW3_1 zW3_2 bW3
          go_wp2_with (fail)
          obtain ⟨e1, he1⟩ : ∃ x, itemsE s I = x := ⟨_, rfl⟩
          obtain ⟨e2, he2⟩ : ∃ x, condE s (.mk op args ⟨lc, lt, ln, ls⟩ ⟨rc, rt, rn, rs⟩) = x := ⟨_, rfl⟩
          obtain ⟨e3, he3⟩ : ∃ x, onceE s G 0 G = x := ⟨_, rfl⟩
          obtain ⟨e4, he4⟩ : ∃ x, onceE s (colsO O) 0 (colsO O) = x := ⟨_, rfl⟩
          have IT : Hid (∀ W, Below w5.heap.size w5 W → Calls Tryz.prog 74 #[.agg #[.string ST, .slice A1 s.cols.length c1, .slice A2 s.key.length c2], .slice AI I.length cI] W fun e w' => e = .returned (.int .i64 e1) ∧ Below W.heap.size W w') := Lib.hid fun W hb => by
            have h := items_any s A1 c1 A2 c2 AI cI I hI (by omega) W (HSV.out.below (bw5.trans (hb.mono bw5.size))) (HH.out.it.below (bw5.trans (hb.mono bw5.size)))
            rw [he1, HST.out] at h; exact h
          have CO : Hid (∀ W, Below w5.heap.size w5 W → Calls Tryz.prog 75 #[.agg #[.string ST, .slice A1 s.cols.length c1, .slice A2 s.key.length c2], .agg #[.int .i64 op, .slice AC args.length cC, .string U1, .int .i64 lt, .int .i64 ln, .string U2, .string U3, .int .i64 rt, .int .i64 rn, .string U4]] W fun e w' => e = .returned (.int .i64 e2) ∧ Below W.heap.size W w') := Lib.hid fun W hb => by
            have h := scond_any s A1 c1 A2 c2 (by omega) _ (.mk op args ⟨lc, lt, ln, ls⟩ ⟨rc, rt, rn, rs⟩) (condC op AC args.length cC ⟨lc, lt, ln, ls⟩ ⟨rc, rt, rn, rs⟩) W (Nat.le_refl _) (HH.out.cv.keep (Kp.below (bw5.trans (hb.mono bw5.size)))) (HSV.out.cl.below (bw5.trans (hb.mono bw5.size)))
            rw [he2, HST.out] at h
            rw [show (condC op AC args.length cC ⟨lc, lt, ln, ls⟩ ⟨rc, rt, rn, rs⟩).toArray = #[.int .i64 op, .slice AC args.length cC, .string ⟨lc.toArray⟩, .int .i64 lt, .int .i64 ln, .string ⟨ls.toArray⟩, .string ⟨rc.toArray⟩, .int .i64 rt, .int .i64 rn, .string ⟨rs.toArray⟩] from rfl, hU1, hU2, hU3, hU4] at h
            exact h
          have O1 : Hid (∀ W, Below w5.heap.size w5 W → Calls Tryz.prog 76 #[.agg #[.string ST, .slice A1 s.cols.length c1, .slice A2 s.key.length c2], .slice AG G.length cG] W fun e w' => e = .returned (.int .i64 e3) ∧ Below W.heap.size W w') := Lib.hid fun W hb => by
            have h := once_any s A1 c1 A2 c2 AG cG G hG (by omega) W (HSV.out.below (bw5.trans (hb.mono bw5.size))) (HH.out.gr.below (bw5.trans (hb.mono bw5.size))) hcG
            rw [he3, HST.out] at h; exact h
          have O2 : Hid (∀ W, Below w5.heap.size w5 W → Calls Tryz.prog 76 #[.agg #[.string ST, .slice A1 s.cols.length c1, .slice A2 s.key.length c2], .slice A9 O.length c9] W fun e w' => e = .returned (.int .i64 e4) ∧ Below W.heap.size W w') := Lib.hid fun W hb => by
            have h := once_any s A1 c1 A2 c2 A9 c9 (colsO O) (by omega) (by omega) W (HSV.out.below (bw5.trans (hb.mono bw5.size))) (HS9'.out.below hb) (by omega)
            rw [he4, HST.out, hlc] at h; exact h
          have HCK : Hid (checkE (⟨I, T, .mk op args ⟨lc, lt, ln, ls⟩ ⟨rc, rt, rn, rs⟩, G, O, lim⟩ : QueryT) L = if firstE [e1, e2, e3, e4] ≠ 0 then firstE [e1, e2, e3, e4] else if sumsB (⟨I, T, .mk op args ⟨lc, lt, ln, ls⟩ ⟨rc, rt, rn, rs⟩, G, O, lim⟩ : QueryT) = true ∧ (I.all (pA G) = false ∨ (colsO O).all (pN G) = false) then 10 else 0) := Lib.hid (by rw [HCS.out]; unfold chkS; dsimp only; rw [he1, he2, he3, he4])
          clear he1 he2 he3 he4
          have gc0 := grown_cell cw5_0; have gc1 := grown_cell cw5_1; have gc2 := grown_cell cw5_2; have gc3 := grown_cell cw5_3; have gc4 := grown_cell cw5_4; have gc5 := grown_cell cw5_5; have gc6 := grown_cell cw5_6; have gc7 := grown_cell cw5_7; have gc8 := grown_cell cw5_8; have gc9 := grown_cell cw5_9; have gc10 := grown_cell cw5_10; have gc11 := grown_cell cw5_11; have gc12 := grown_cell cw5_12; have gc13 := grown_cell cw5_13; have gc14 := grown_cell cw5_14; have gc15 := grown_cell cw5_15; have gc16 := grown_cell cw5_16; have gc17 := grown_cell cw5_17; have gc18 := grown_cell cw5_18; have gc19 := grown_cell cw5_19; have gc20 := grown_cell cw5_20; have gf0 := grown_frozen fw5_0 zw5_1; have gf1 := grown_frozen fw5_1 zw5_1; have gf2 := grown_frozen fw5_2 zw5_1; have gz0 := grown_size zw5_0; have gz1 := grown_size zw5_1; have gz2 := grown_size zw5_2; refine wp_region_below_head2 15 2 17 #[true, true, true, true, true, true, true, true, true, true, true, true, true, true, true, false, false, true] _ (.int .i64 0) (by kernel_rfl) (by kernel_rfl) rfl rfl (fun _ _ _ h => h) (Or.inl ⟨rfl, fun _ => rfl⟩) ?_; (try simp only [List.take_succ_cons, List.take_zero]); (repeat (any_goals (first | go_big_quiet_step ((first | (go_at_call 74; with_reducible exact Calls.regrown_of (IT.out _ (below_regrown w5 _ _))) | (go_at_call 75; with_reducible exact Calls.regrown_of (CO.out _ (below_regrown w5 _ _))) | (go_at_call 76; with_reducible exact Calls.regrown_of (O1.out _ (below_regrown w5 _ _))) | (go_at_call 76; with_reducible exact Calls.regrown_of (O2.out _ (below_regrown w5 _ _))))) | quiet_step ((first | (go_at_call 74; with_reducible exact Calls.regrown_of (IT.out _ (below_regrown w5 _ _))) | (go_at_call 75; with_reducible exact Calls.regrown_of (CO.out _ (below_regrown w5 _ _))) | (go_at_call 76; with_reducible exact Calls.regrown_of (O1.out _ (below_regrown w5 _ _))) | (go_at_call 76; with_reducible exact Calls.regrown_of (O2.out _ (below_regrown w5 _ _)))))))); refine wpQuiet_nil ?_; intro _ hw'; obtain ⟨⟨dq, osq⟩, hw''⟩ := hw'; subst hw''; have kw6 : (grow (redrawn w5 dq) osq).cell? ⟨w.heap.size, 0, none⟩ = some (.slice AI I.length cI) ∧ (grow (redrawn w5 dq) osq).cell? ⟨w.heap.size, 1, none⟩ = some (.string TB) ∧ (grow (redrawn w5 dq) osq).cell? ⟨w.heap.size, 2, none⟩ = some (.int .i64 op) ∧ (grow (redrawn w5 dq) osq).cell? ⟨w.heap.size, 3, none⟩ = some (.slice AC args.length cC) ∧ (grow (redrawn w5 dq) osq).cell? ⟨w.heap.size, 4, none⟩ = some (.string U1) ∧ (grow (redrawn w5 dq) osq).cell? ⟨w.heap.size, 5, none⟩ = some (.int .i64 lt) ∧ (grow (redrawn w5 dq) osq).cell? ⟨w.heap.size, 6, none⟩ = some (.int .i64 ln) ∧ (grow (redrawn w5 dq) osq).cell? ⟨w.heap.size, 7, none⟩ = some (.string U2) ∧ (grow (redrawn w5 dq) osq).cell? ⟨w.heap.size, 8, none⟩ = some (.string U3) ∧ (grow (redrawn w5 dq) osq).cell? ⟨w.heap.size, 9, none⟩ = some (.int .i64 rt) ∧ (grow (redrawn w5 dq) osq).cell? ⟨w.heap.size, 10, none⟩ = some (.int .i64 rn) ∧ (grow (redrawn w5 dq) osq).cell? ⟨w.heap.size, 11, none⟩ = some (.string U4) ∧ (grow (redrawn w5 dq) osq).cell? ⟨w.heap.size, 12, none⟩ = some (.slice AG G.length cG) ∧ (grow (redrawn w5 dq) osq).cell? ⟨w.heap.size, 13, none⟩ = some (.slice AO O.length cO) ∧ (grow (redrawn w5 dq) osq).cell? ⟨w.heap.size, 14, none⟩ = some (.int .i64 lim) ∧ (grow (redrawn w5 dq) osq).cell? ⟨w.heap.size + 1, 0, none⟩ = some (.string ⟨#[]⟩) ∧ (grow (redrawn w5 dq) osq).cell? ⟨w.heap.size + 1, 1, none⟩ = some (.slice none 0 0) ∧ (grow (redrawn w5 dq) osq).cell? ⟨w.heap.size + 1, 2, none⟩ = some (.slice none 0 0) ∧ (grow (redrawn w5 dq) osq).cell? ⟨n2, 0, none⟩ = some (.string ST) ∧ (grow (redrawn w5 dq) osq).cell? ⟨n2, 1, none⟩ = some (.slice A1 s.cols.length c1) ∧ (grow (redrawn w5 dq) osq).cell? ⟨n2, 2, none⟩ = some (.slice A2 s.key.length c2) ∧ (grow (redrawn w5 dq) osq).frozen? ⟨w.heap.size + 1, 0, none⟩ = false ∧ (grow (redrawn w5 dq) osq).frozen? ⟨w.heap.size + 1, 1, none⟩ = false ∧ (grow (redrawn w5 dq) osq).frozen? ⟨w.heap.size + 1, 2, none⟩ = false ∧ w.heap.size < (grow (redrawn w5 dq) osq).heap.size ∧ w.heap.size + 1 < (grow (redrawn w5 dq) osq).heap.size ∧ n2 < (grow (redrawn w5 dq) osq).heap.size ∧ Below w.heap.size w (grow (redrawn w5 dq) osq) := ⟨gc0 dq osq, gc1 dq osq, gc2 dq osq, gc3 dq osq, gc4 dq osq, gc5 dq osq, gc6 dq osq, gc7 dq osq, gc8 dq osq, gc9 dq osq, gc10 dq osq, gc11 dq osq, gc12 dq osq, gc13 dq osq, gc14 dq osq, gc15 dq osq, gc16 dq osq, gc17 dq osq, gc18 dq osq, gc19 dq osq, gc20 dq osq, gf0 dq osq, gf1 dq osq, gf2 dq osq, gz0 dq osq, gz1 dq osq, gz2 dq osq, bw5.trans ((below_regrown w5 dq osq).mono bw5.size)⟩; clear gc0 gc1 gc2 gc3 gc4 gc5 gc6 gc7 gc8 gc9 gc10 gc11 gc12 gc13 gc14 gc15 gc16 gc17 gc18 gc19 gc20 gf0 gf1 gf2 gz0 gz1 gz2 cw5_0 cw5_1 cw5_2 cw5_3 cw5_4 cw5_5 cw5_6 cw5_7 cw5_8 cw5_9 cw5_10 cw5_11 cw5_12 cw5_13 cw5_14 cw5_15 cw5_16 cw5_17 cw5_18 cw5_19 cw5_20 fw5_0 fw5_1 fw5_2 zw5_0 zw5_1 zw5_2 bw5; have hbX := below_regrown w5 dq osq; generalize grow (redrawn w5 dq) osq = w6 at *; obtain ⟨cw6_0, cw6_1, cw6_2, cw6_3, cw6_4, cw6_5, cw6_6, cw6_7, cw6_8, cw6_9, cw6_10, cw6_11, cw6_12, cw6_13, cw6_14, cw6_15, cw6_16, cw6_17, cw6_18, cw6_19, cw6_20, fw6_0, fw6_1, fw6_2, zw6_0, zw6_1, zw6_2, bw6⟩ := kw6
          have HB56 := Lib.hid hbX
          clear hbX
          refine wpAny_ready (rs := [15]) (by kernel_rfl) (by simp) ?_; refine AllReady.cons rfl (fun K hK => ?_) AllReady.nil; go_simp; refine hK _ _ ?_; clear hK K
          refine wpAny_take (i := 16) (v := .int .i64 4) rfl (by kernel_rfl) (by kernel_rfl) (by kernel_rfl) (fun _ _ _ h => h) (Or.inl ⟨by rfl, (by intro w; go_simp)⟩) ?_
          refine wpAny_done (by kernel_rfl) ?_ _
          go_simp
          go_wp2_with (fail)
          refine name_world ?_; intro W00 hW00
          have hs7 : W00.heap.size = w6.heap.size + 1 := by rw [hW00]; simp
          have kB57 : Below w5.heap.size w5 W00 := by rw [hW00]; exact HB56.out.alloc HB56.out.size _
          have kW7 : W00.cell? ⟨w.heap.size, 0, none⟩ = some (.slice AI I.length cI) ∧ W00.cell? ⟨w.heap.size, 1, none⟩ = some (.string TB) ∧ W00.cell? ⟨w.heap.size, 2, none⟩ = some (.int .i64 op) ∧ W00.cell? ⟨w.heap.size, 3, none⟩ = some (.slice AC args.length cC) ∧ W00.cell? ⟨w.heap.size, 4, none⟩ = some (.string U1) ∧ W00.cell? ⟨w.heap.size, 5, none⟩ = some (.int .i64 lt) ∧ W00.cell? ⟨w.heap.size, 6, none⟩ = some (.int .i64 ln) ∧ W00.cell? ⟨w.heap.size, 7, none⟩ = some (.string U2) ∧ W00.cell? ⟨w.heap.size, 8, none⟩ = some (.string U3) ∧ W00.cell? ⟨w.heap.size, 9, none⟩ = some (.int .i64 rt) ∧ W00.cell? ⟨w.heap.size, 10, none⟩ = some (.int .i64 rn) ∧ W00.cell? ⟨w.heap.size, 11, none⟩ = some (.string U4) ∧ W00.cell? ⟨w.heap.size, 12, none⟩ = some (.slice AG G.length cG) ∧ W00.cell? ⟨w.heap.size, 13, none⟩ = some (.slice AO O.length cO) ∧ W00.cell? ⟨w.heap.size, 14, none⟩ = some (.int .i64 lim) ∧ W00.cell? ⟨w.heap.size + 1, 0, none⟩ = some (.string ⟨#[]⟩) ∧ W00.cell? ⟨w.heap.size + 1, 1, none⟩ = some (.slice none 0 0) ∧ W00.cell? ⟨w.heap.size + 1, 2, none⟩ = some (.slice none 0 0) ∧ W00.cell? ⟨n2, 0, none⟩ = some (.string ST) ∧ W00.cell? ⟨n2, 1, none⟩ = some (.slice A1 s.cols.length c1) ∧ W00.cell? ⟨n2, 2, none⟩ = some (.slice A2 s.key.length c2) ∧ W00.cell? ⟨w6.heap.size, 0, none⟩ = some (.int .i64 e1) ∧ W00.cell? ⟨w6.heap.size, 1, none⟩ = some (.int .i64 e2) ∧ W00.cell? ⟨w6.heap.size, 2, none⟩ = some (.int .i64 e3) ∧ W00.cell? ⟨w6.heap.size, 3, none⟩ = some (.int .i64 e4) ∧ W00.frozen? ⟨w.heap.size + 1, 0, none⟩ = false ∧ W00.frozen? ⟨w.heap.size + 1, 1, none⟩ = false ∧ W00.frozen? ⟨w.heap.size + 1, 2, none⟩ = false ∧ w.heap.size < W00.heap.size ∧ w.heap.size + 1 < W00.heap.size ∧ n2 < W00.heap.size ∧ w6.heap.size < W00.heap.size ∧ Below w.heap.size w W00 := by { rw [hW00]; exact (by (refine ⟨?_, ?_, ?_, ?_, ?_, ?_, ?_, ?_, ?_, ?_, ?_, ?_, ?_, ?_, ?_, ?_, ?_, ?_, ?_, ?_, ?_, ?_, ?_, ?_, ?_, ?_, ?_, ?_, ?_, ?_, ?_, ?_, ?_⟩ <;> first | (simp [go_sem, *]; done) | omega | (simp; omega) | exact (by repeat (first | (with_reducible exact Below.refl _ _) | (with_reducible assumption) | (with_reducible refine Below.setCell ?_ (by first | (simp; done) | (simp; omega) | omega) _) | (with_reducible refine Below.alloc ?_ (by first | (simp; done) | (simp; omega) | omega) _) | (with_reducible refine Below.drew ?_) | (with_reducible refine Below.trans ?_ (Below.mono (by assumption) (by first | (simp; done) | (simp; omega) | omega))))))) }
          clear hW00 cw6_0 cw6_1 cw6_2 cw6_3 cw6_4 cw6_5 cw6_6 cw6_7 cw6_8 cw6_9 cw6_10 cw6_11 cw6_12 cw6_13 cw6_14 cw6_15 cw6_16 cw6_17 cw6_18 cw6_19 cw6_20 fw6_0 fw6_1 fw6_2 zw6_0 zw6_1 zw6_2 bw6
          obtain ⟨W7, rfl⟩ : ∃ W, W = W00 := ⟨_, rfl⟩
          have HS7 := Lib.hid hs7
          have hn7 : w.heap.size < W7.heap.size ∧ w.heap.size + 1 < W7.heap.size ∧ n2 < W7.heap.size := by omega
          clear hs7
          obtain ⟨cW7_0, cW7_1, cW7_2, cW7_3, cW7_4, cW7_5, cW7_6, cW7_7, cW7_8, cW7_9, cW7_10, cW7_11, cW7_12, cW7_13, cW7_14, cW7_15, cW7_16, cW7_17, cW7_18, cW7_19, cW7_20, cW7_21, cW7_22, cW7_23, cW7_24, fW7_0, fW7_1, fW7_2, zW7_0, zW7_1, zW7_2, zW7_3, bW7⟩ := kW7
          go_loopw [62] (fun j wr => ∃ k : Nat, k ≤ 4 ∧ j = .int .i64 k ∧ W7 = wr ∧ Hid ((0 < k → e1 = 0) ∧ (1 < k → e2 = 0) ∧ (2 < k → e3 = 0) ∧ (3 < k → e4 = 0))) (fun j _ => 4 - (intOf j).toNat)
          case atStart => exact ⟨0, by omega, rfl, rfl, Lib.hid ⟨fun h => by omega, fun h => by omega, fun h => by omega, fun h => by omega⟩⟩
          case round =>
            obtain ⟨k, hk, rfl, hwr, HZ⟩ := hrel
            subst hwr
            rcases (by omega : k = 0 ∨ k = 1 ∨ k = 2 ∨ k = 3 ∨ k = 4) with rfl | rfl | rfl | rfl | rfl
            · have hz := HZ.out
              by_cases hx : e1 = 0
              · have e0 : (e1 != 0) = false := by simp [hx]
                have HZ2 : Hid ((0 < 1 → e1 = 0) ∧ (1 < 1 → e2 = 0) ∧ (2 < 1 → e3 = 0) ∧ (3 < 1 → e4 = 0)) := Lib.hid ⟨fun _ => hx, fun h => by omega, fun h => by omega, fun h => by omega⟩
                clear hz hx HZ
                go_wp2_with (fail)
                go_roundw
                case rel => exact ⟨1, by omega, by go_num, (by first | rfl | trivial), HZ2⟩
                case measure => first | (simp [intOf]; done) | (simp [intOf]; omega)
              · have e0 : (e1 != 0) = true := by simp [hx]
                have hf0 : firstE [e1, e2, e3, e4] = e1 := by simp only [firstE]; rw [if_pos hx]
                have hE := HCK.out
                rw [if_pos (by rw [hf0]; exact hx), hf0] at hE
                have HBE := Lib.hid (fun w' => HBAD.out e1 w' hE hx)
                clear hE hf0 hz hx HZ HCK
                go_wp2_with (fail)
                exact bodyPost_ret (v := .tuple #[.agg #[.string ⟨#[]⟩, .slice none 0 0, .slice none 0 0], .int .i64 e1]) (by simp [results, Tryz.results34, go_sem, *]) rfl (HBE.out _ (by repeat (first | (with_reducible assumption) | (with_reducible exact Below.refl _ _) | (with_reducible refine Below.setCell ?_ (by first | (simp; done) | (simp; omega) | omega) _) | (with_reducible refine Below.alloc ?_ (by first | (simp; done) | (simp; omega) | omega) _))))
            · have hz := HZ.out
              by_cases hx : e2 = 0
              · have e0 : (e2 != 0) = false := by simp [hx]
                have HZ2 : Hid ((0 < 2 → e1 = 0) ∧ (1 < 2 → e2 = 0) ∧ (2 < 2 → e3 = 0) ∧ (3 < 2 → e4 = 0)) := Lib.hid ⟨fun _ => hz.1 (by omega), fun _ => hx, fun h => by omega, fun h => by omega⟩
                clear hz hx HZ
                go_wp2_with (fail)
                go_roundw
                case rel => exact ⟨2, by omega, by go_num, (by first | rfl | trivial), HZ2⟩
                case measure => first | (simp [intOf]; done) | (simp [intOf]; omega)
              · have e0 : (e2 != 0) = true := by simp [hx]
                have hf0 : firstE [e1, e2, e3, e4] = e2 := by simp only [firstE]; rw [if_neg (by simp [hz.1 (by omega)])]; rw [if_pos hx]
                have hE := HCK.out
                rw [if_pos (by rw [hf0]; exact hx), hf0] at hE
                have HBE := Lib.hid (fun w' => HBAD.out e2 w' hE hx)
                clear hE hf0 hz hx HZ HCK
                go_wp2_with (fail)
                exact bodyPost_ret (v := .tuple #[.agg #[.string ⟨#[]⟩, .slice none 0 0, .slice none 0 0], .int .i64 e2]) (by simp [results, Tryz.results34, go_sem, *]) rfl (HBE.out _ (by repeat (first | (with_reducible assumption) | (with_reducible exact Below.refl _ _) | (with_reducible refine Below.setCell ?_ (by first | (simp; done) | (simp; omega) | omega) _) | (with_reducible refine Below.alloc ?_ (by first | (simp; done) | (simp; omega) | omega) _))))
            · have hz := HZ.out
              by_cases hx : e3 = 0
              · have e0 : (e3 != 0) = false := by simp [hx]
                have HZ2 : Hid ((0 < 3 → e1 = 0) ∧ (1 < 3 → e2 = 0) ∧ (2 < 3 → e3 = 0) ∧ (3 < 3 → e4 = 0)) := Lib.hid ⟨fun _ => hz.1 (by omega), fun _ => hz.2.1 (by omega), fun _ => hx, fun h => by omega⟩
                clear hz hx HZ
                go_wp2_with (fail)
                go_roundw
                case rel => exact ⟨3, by omega, by go_num, (by first | rfl | trivial), HZ2⟩
                case measure => first | (simp [intOf]; done) | (simp [intOf]; omega)
              · have e0 : (e3 != 0) = true := by simp [hx]
                have hf0 : firstE [e1, e2, e3, e4] = e3 := by simp only [firstE]; rw [if_neg (by simp [hz.1 (by omega)])]; rw [if_neg (by simp [hz.2.1 (by omega)])]; rw [if_pos hx]
                have hE := HCK.out
                rw [if_pos (by rw [hf0]; exact hx), hf0] at hE
                have HBE := Lib.hid (fun w' => HBAD.out e3 w' hE hx)
                clear hE hf0 hz hx HZ HCK
                go_wp2_with (fail)
                exact bodyPost_ret (v := .tuple #[.agg #[.string ⟨#[]⟩, .slice none 0 0, .slice none 0 0], .int .i64 e3]) (by simp [results, Tryz.results34, go_sem, *]) rfl (HBE.out _ (by repeat (first | (with_reducible assumption) | (with_reducible exact Below.refl _ _) | (with_reducible refine Below.setCell ?_ (by first | (simp; done) | (simp; omega) | omega) _) | (with_reducible refine Below.alloc ?_ (by first | (simp; done) | (simp; omega) | omega) _))))
            · have hz := HZ.out
              by_cases hx : e4 = 0
              · have e0 : (e4 != 0) = false := by simp [hx]
                have HZ2 : Hid ((0 < 4 → e1 = 0) ∧ (1 < 4 → e2 = 0) ∧ (2 < 4 → e3 = 0) ∧ (3 < 4 → e4 = 0)) := Lib.hid ⟨fun _ => hz.1 (by omega), fun _ => hz.2.1 (by omega), fun _ => hz.2.2.1 (by omega), fun _ => hx⟩
                clear hz hx HZ
                go_wp2_with (fail)
                go_roundw
                case rel => exact ⟨4, by omega, by go_num, (by first | rfl | trivial), HZ2⟩
                case measure => first | (simp [intOf]; done) | (simp [intOf]; omega)
              · have e0 : (e4 != 0) = true := by simp [hx]
                have hf0 : firstE [e1, e2, e3, e4] = e4 := by simp only [firstE]; rw [if_neg (by simp [hz.1 (by omega)])]; rw [if_neg (by simp [hz.2.1 (by omega)])]; rw [if_neg (by simp [hz.2.2.1 (by omega)])]; rw [if_pos hx]
                have hE := HCK.out
                rw [if_pos (by rw [hf0]; exact hx), hf0] at hE
                have HBE := Lib.hid (fun w' => HBAD.out e4 w' hE hx)
                clear hE hf0 hz hx HZ HCK
                go_wp2_with (fail)
                exact bodyPost_ret (v := .tuple #[.agg #[.string ⟨#[]⟩, .slice none 0 0, .slice none 0 0], .int .i64 e4]) (by simp [results, Tryz.results34, go_sem, *]) rfl (HBE.out _ (by repeat (first | (with_reducible assumption) | (with_reducible exact Below.refl _ _) | (with_reducible refine Below.setCell ?_ (by first | (simp; done) | (simp; omega) | omega) _) | (with_reducible refine Below.alloc ?_ (by first | (simp; done) | (simp; omega) | omega) _))))
            · obtain ⟨q1, q2, q3, q4⟩ := HZ.out
              have q1 := q1 (by omega)
              have q2 := q2 (by omega)
              have q3 := q3 (by omega)
              have q4 := q4 (by omega)
              have hf0 : firstE [e1, e2, e3, e4] = 0 := by rw [q1, q2, q3, q4]; rfl
              have hck := HCK.out
              rw [if_neg (by rw [hf0]; simp)] at hck
              have HCK2 := Lib.hid hck
              clear hck hf0 q1 q2 q3 q4 HZ HCK IT CO O1 O2
              go_upto_region 21 with (fail)
              refine name_world ?_; intro W00 hW00
              have kAP : ApV W00 W7.heap.size w.heap.size AG cG G := by
                refine ⟨by rw [hW00]; simp, by rw [hW00]; simp [go_sem], by rw [hW00]; simp; omega, ?_, ?_, by omega⟩
                · rw [hW00]; exact (bcell ((Below.refl _ W7).alloc (Nat.le_refl _) _)).1 _ _ hn7.1 |>.trans cW7_12
                · rw [hW00]; exact HH.out.gr.below (bW7.alloc (by omega) _)
              have kB58 : Below w5.heap.size w5 W00 := by rw [hW00]; exact kB57.alloc kB57.size _
              have kW8 : W00.cell? ⟨w.heap.size, 0, none⟩ = some (.slice AI I.length cI) ∧ W00.cell? ⟨w.heap.size, 1, none⟩ = some (.string TB) ∧ W00.cell? ⟨w.heap.size, 2, none⟩ = some (.int .i64 op) ∧ W00.cell? ⟨w.heap.size, 3, none⟩ = some (.slice AC args.length cC) ∧ W00.cell? ⟨w.heap.size, 4, none⟩ = some (.string U1) ∧ W00.cell? ⟨w.heap.size, 5, none⟩ = some (.int .i64 lt) ∧ W00.cell? ⟨w.heap.size, 6, none⟩ = some (.int .i64 ln) ∧ W00.cell? ⟨w.heap.size, 7, none⟩ = some (.string U2) ∧ W00.cell? ⟨w.heap.size, 8, none⟩ = some (.string U3) ∧ W00.cell? ⟨w.heap.size, 9, none⟩ = some (.int .i64 rt) ∧ W00.cell? ⟨w.heap.size, 10, none⟩ = some (.int .i64 rn) ∧ W00.cell? ⟨w.heap.size, 11, none⟩ = some (.string U4) ∧ W00.cell? ⟨w.heap.size, 12, none⟩ = some (.slice AG G.length cG) ∧ W00.cell? ⟨w.heap.size, 13, none⟩ = some (.slice AO O.length cO) ∧ W00.cell? ⟨w.heap.size, 14, none⟩ = some (.int .i64 lim) ∧ W00.cell? ⟨w.heap.size + 1, 0, none⟩ = some (.string ⟨#[]⟩) ∧ W00.cell? ⟨w.heap.size + 1, 1, none⟩ = some (.slice none 0 0) ∧ W00.cell? ⟨w.heap.size + 1, 2, none⟩ = some (.slice none 0 0) ∧ W00.cell? ⟨n2, 0, none⟩ = some (.string ST) ∧ W00.cell? ⟨n2, 1, none⟩ = some (.slice A1 s.cols.length c1) ∧ W00.cell? ⟨n2, 2, none⟩ = some (.slice A2 s.key.length c2) ∧ W00.cell? ⟨W7.heap.size, 0, none⟩ = some (.func (.func 77) #[] #[.pointer (some ⟨w.heap.size, 0, none⟩)]) ∧ W00.frozen? ⟨w.heap.size + 1, 0, none⟩ = false ∧ W00.frozen? ⟨w.heap.size + 1, 1, none⟩ = false ∧ W00.frozen? ⟨w.heap.size + 1, 2, none⟩ = false ∧ w.heap.size < W00.heap.size ∧ w.heap.size + 1 < W00.heap.size ∧ n2 < W00.heap.size ∧ W7.heap.size < W00.heap.size ∧ Below w.heap.size w W00 := by { rw [hW00]; exact (by (refine ⟨?_, ?_, ?_, ?_, ?_, ?_, ?_, ?_, ?_, ?_, ?_, ?_, ?_, ?_, ?_, ?_, ?_, ?_, ?_, ?_, ?_, ?_, ?_, ?_, ?_, ?_, ?_, ?_, ?_, ?_⟩ <;> first | (simp [go_sem, *]; done) | omega | (simp; omega) | exact (by repeat (first | (with_reducible exact Below.refl _ _) | (with_reducible assumption) | (with_reducible refine Below.setCell ?_ (by first | (simp; done) | (simp; omega) | omega) _) | (with_reducible refine Below.alloc ?_ (by first | (simp; done) | (simp; omega) | omega) _) | (with_reducible refine Below.drew ?_) | (with_reducible refine Below.trans ?_ (Below.mono (by assumption) (by first | (simp; done) | (simp; omega) | omega))))))) }
              clear hW00 cW7_0 cW7_1 cW7_2 cW7_3 cW7_4 cW7_5 cW7_6 cW7_7 cW7_8 cW7_9 cW7_10 cW7_11 cW7_12 cW7_13 cW7_14 cW7_15 cW7_16 cW7_17 cW7_18 cW7_19 cW7_20 cW7_21 cW7_22 cW7_23 cW7_24 fW7_0 fW7_1 fW7_2 zW7_0 zW7_1 zW7_2 zW7_3 bW7
              obtain ⟨W8, rfl⟩ : ∃ W, W = W00 := ⟨_, rfl⟩
              obtain ⟨cW8_0, cW8_1, cW8_2, cW8_3, cW8_4, cW8_5, cW8_6, cW8_7, cW8_8, cW8_9, cW8_10, cW8_11, cW8_12, cW8_13, cW8_14, cW8_15, cW8_16, cW8_17, cW8_18, cW8_19, cW8_20, cW8_21, fW8_0, fW8_1, fW8_2, zW8_0, zW8_1, zW8_2, zW8_3, bW8⟩ := kW8
              have HAP := Lib.hid kAP
              have HB58 := Lib.hid kB58
              have AA := Lib.hid (fun W (hb : Below W8.heap.size W8 W) => anyA W7.heap.size w.heap.size AG cG G AI cI I (by omega) W (HH.out.it.below (bW8.trans (hb.mono bW8.size))) (HAP.out.below hb))
              have AM := Lib.hid (fun W (hb : Below W8.heap.size W8 W) => anyM W7.heap.size w.heap.size AG cG G A9 c9 (colsO O) (by omega) W (HS9'.out.below (Below.trans HB58.out (hb.mono (HB58.out.size)))) (HAP.out.below hb))
              have SU := Lib.hid (fun W (hb : Below W8.heap.size W8 W) => sums_any (⟨I, T, .mk op args ⟨lc, lt, ln, ls⟩ ⟨rc, rt, rn, rs⟩, G, O, lim⟩ : QueryT) AI AG AO cI cG cO (condC op AC args.length cC ⟨lc, lt, ln, ls⟩ ⟨rc, rt, rn, rs⟩) W (HH.out.below (bW8.trans (hb.mono bW8.size))) hI)
              clear kAP kB58 kB57
              obtain ⟨oa, hoa⟩ : ∃ x, I.all (pA G) = x := ⟨_, rfl⟩
              obtain ⟨om, hom⟩ : ∃ x, (colsO O).all (pN G) = x := ⟨_, rfl⟩
              obtain ⟨sb, hsb⟩ : ∃ x, sumsB (⟨I, T, .mk op args ⟨lc, lt, ln, ls⟩ ⟨rc, rt, rn, rs⟩, G, O, lim⟩ : QueryT) = x := ⟨_, rfl⟩
              rw [hoa, hom, hsb] at HCK2
              rw [hoa] at AA
              rw [hom, hlc] at AM
              rw [hsb] at SU
              have eqQ : qCells AI I.length cI T (condC op AC args.length cC ⟨lc, lt, ln, ls⟩ ⟨rc, rt, rn, rs⟩) AG G.length cG AO O.length cO lim = [.slice AI I.length cI, .string ⟨T.toArray⟩, .int .i64 op, .slice AC args.length cC, .string ⟨lc.toArray⟩, .int .i64 lt, .int .i64 ln, .string ⟨ls.toArray⟩, .string ⟨rc.toArray⟩, .int .i64 rt, .int .i64 rn, .string ⟨rs.toArray⟩, .slice AG G.length cG, .slice AO O.length cO, .int .i64 lim] := rfl
              dsimp only at SU
              rw [eqQ, hTB, hU1, hU2, hU3, hU4] at SU
              clear eqQ hoa hom hsb hTB hU1 hU2 hU3 hU4
              go_wp2_with (fail)
              go_at_call 36
              refine (AA.out _ (Below.refl _ _)).mono ?_
              rintro e w9 ⟨rfl, hb9⟩
              obtain ⟨hc9, hf9⟩ := bcell hb9; (try simp only [drew_size, drew_cell, drew_frozen, World.size_alloc, World.size_setCell] at hc9 hf9); have hz9 : w.heap.size < w9.heap.size ∧ w.heap.size + 1 < w9.heap.size ∧ n2 < w9.heap.size ∧ W7.heap.size < w9.heap.size := (by have := hb9.size; (try simp at this); omega)
              have hB9 : Below w.heap.size w w9 := bW8.trans (hb9.mono bW8.size)
              have hs9 := hB9.size
              have hz9' : w.heap.size < w9.heap.size := by omega
              go_upto_region 22 with (fail)
              go_cut [85] from 76 to 84 (fun v85 wx => ∃ rb : Bool, v85 = .bool rb ∧ Hid (rb = true ↔ (sb = true ∧ (oa = false ∨ om = false))) ∧ wx.cell? ⟨w.heap.size, 0, none⟩ = some (.slice AI I.length cI) ∧ wx.cell? ⟨w.heap.size, 1, none⟩ = some (.string TB) ∧ wx.cell? ⟨w.heap.size, 2, none⟩ = some (.int .i64 op) ∧ wx.cell? ⟨w.heap.size, 3, none⟩ = some (.slice AC args.length cC) ∧ wx.cell? ⟨w.heap.size, 4, none⟩ = some (.string U1) ∧ wx.cell? ⟨w.heap.size, 5, none⟩ = some (.int .i64 lt) ∧ wx.cell? ⟨w.heap.size, 6, none⟩ = some (.int .i64 ln) ∧ wx.cell? ⟨w.heap.size, 7, none⟩ = some (.string U2) ∧ wx.cell? ⟨w.heap.size, 8, none⟩ = some (.string U3) ∧ wx.cell? ⟨w.heap.size, 9, none⟩ = some (.int .i64 rt) ∧ wx.cell? ⟨w.heap.size, 10, none⟩ = some (.int .i64 rn) ∧ wx.cell? ⟨w.heap.size, 11, none⟩ = some (.string U4) ∧ wx.cell? ⟨w.heap.size, 12, none⟩ = some (.slice AG G.length cG) ∧ wx.cell? ⟨w.heap.size, 13, none⟩ = some (.slice AO O.length cO) ∧ wx.cell? ⟨w.heap.size, 14, none⟩ = some (.int .i64 lim) ∧ wx.cell? ⟨w.heap.size + 1, 0, none⟩ = some (.string ⟨#[]⟩) ∧ wx.cell? ⟨w.heap.size + 1, 1, none⟩ = some (.slice none 0 0) ∧ wx.cell? ⟨w.heap.size + 1, 2, none⟩ = some (.slice none 0 0) ∧ wx.cell? ⟨n2, 0, none⟩ = some (.string ST) ∧ wx.cell? ⟨n2, 1, none⟩ = some (.slice A1 s.cols.length c1) ∧ wx.cell? ⟨n2, 2, none⟩ = some (.slice A2 s.key.length c2) ∧ wx.frozen? ⟨w.heap.size + 1, 0, none⟩ = false ∧ wx.frozen? ⟨w.heap.size + 1, 1, none⟩ = false ∧ wx.frozen? ⟨w.heap.size + 1, 2, none⟩ = false ∧ w.heap.size < wx.heap.size ∧ w.heap.size + 1 < wx.heap.size ∧ n2 < wx.heap.size ∧ Below w.heap.size w wx)
              case first =>
                cases sb with
                | false =>
                  go_wp2_with (first | (go_at_call 80; (with_reducible refine (SU.out _ (by repeat (first | (with_reducible exact hb9) | (with_reducible refine Below.alloc ?_ (by first | (simp; done) | (simp; omega) | omega) _)))).mono ?_); rintro e w10 ⟨rfl, hb10⟩; obtain ⟨hc10, hf10⟩ := bcell hb10; (try simp only [drew_size, drew_cell, drew_frozen, World.size_alloc, World.size_setCell] at hc10 hf10); have hz10 : w.heap.size < w10.heap.size ∧ w.heap.size + 1 < w10.heap.size ∧ n2 < w10.heap.size ∧ W7.heap.size < w10.heap.size := (by have := hb10.size; (try simp at this); omega); have hB10 : Below w.heap.size w w10 := (by refine Below.trans ?_ (hb10.mono (by first | (simp; done) | (simp; omega) | omega)); repeat (first | (with_reducible assumption) | (with_reducible exact Below.refl _ _) | (with_reducible refine Below.setCell ?_ (by first | (simp; done) | (simp; omega) | omega) _) | (with_reducible refine Below.alloc ?_ (by first | (simp; done) | (simp; omega) | omega) _)))))
                  go_meet
                  exact ⟨_, rfl, Lib.hid (by simp), (by (refine ⟨?_, ?_, ?_, ?_, ?_, ?_, ?_, ?_, ?_, ?_, ?_, ?_, ?_, ?_, ?_, ?_, ?_, ?_, ?_, ?_, ?_, ?_, ?_, ?_, ?_, ?_, ?_, ?_⟩ <;> first | (simp [go_sem, *]; done) | omega | (simp; omega) | exact (by repeat (first | (with_reducible exact Below.refl _ _) | (with_reducible assumption) | (with_reducible refine Below.setCell ?_ (by first | (simp; done) | (simp; omega) | omega) _) | (with_reducible refine Below.alloc ?_ (by first | (simp; done) | (simp; omega) | omega) _) | (with_reducible refine Below.drew ?_) | (with_reducible refine Below.trans ?_ (Below.mono (by assumption) (by first | (simp; done) | (simp; omega) | omega)))))))⟩
                | true =>
                  cases oa with
                  | false =>
                    go_wp2_with (first | (go_at_call 80; (with_reducible refine (SU.out _ (by repeat (first | (with_reducible exact hb9) | (with_reducible refine Below.alloc ?_ (by first | (simp; done) | (simp; omega) | omega) _)))).mono ?_); rintro e w10 ⟨rfl, hb10⟩; obtain ⟨hc10, hf10⟩ := bcell hb10; (try simp only [drew_size, drew_cell, drew_frozen, World.size_alloc, World.size_setCell] at hc10 hf10); have hz10 : w.heap.size < w10.heap.size ∧ w.heap.size + 1 < w10.heap.size ∧ n2 < w10.heap.size ∧ W7.heap.size < w10.heap.size := (by have := hb10.size; (try simp at this); omega); have hB10 : Below w.heap.size w w10 := (by refine Below.trans ?_ (hb10.mono (by first | (simp; done) | (simp; omega) | omega)); repeat (first | (with_reducible assumption) | (with_reducible exact Below.refl _ _) | (with_reducible refine Below.setCell ?_ (by first | (simp; done) | (simp; omega) | omega) _) | (with_reducible refine Below.alloc ?_ (by first | (simp; done) | (simp; omega) | omega) _)))))
                    go_meet
                    exact ⟨_, rfl, Lib.hid (by simp), (by (refine ⟨?_, ?_, ?_, ?_, ?_, ?_, ?_, ?_, ?_, ?_, ?_, ?_, ?_, ?_, ?_, ?_, ?_, ?_, ?_, ?_, ?_, ?_, ?_, ?_, ?_, ?_, ?_, ?_⟩ <;> first | (simp [go_sem, *]; done) | omega | (simp; omega) | exact (by repeat (first | (with_reducible exact Below.refl _ _) | (with_reducible assumption) | (with_reducible refine Below.setCell ?_ (by first | (simp; done) | (simp; omega) | omega) _) | (with_reducible refine Below.alloc ?_ (by first | (simp; done) | (simp; omega) | omega) _) | (with_reducible refine Below.drew ?_) | (with_reducible refine Below.trans ?_ (Below.mono (by assumption) (by first | (simp; done) | (simp; omega) | omega)))))))⟩
                  | true =>
                    go_wp2_with (first | (go_at_call 80; (with_reducible refine (SU.out _ (by repeat (first | (with_reducible exact hb9) | (with_reducible refine Below.alloc ?_ (by first | (simp; done) | (simp; omega) | omega) _)))).mono ?_); rintro e w10 ⟨rfl, hb10⟩; obtain ⟨hc10, hf10⟩ := bcell hb10; (try simp only [drew_size, drew_cell, drew_frozen, World.size_alloc, World.size_setCell] at hc10 hf10); have hz10 : w.heap.size < w10.heap.size ∧ w.heap.size + 1 < w10.heap.size ∧ n2 < w10.heap.size ∧ W7.heap.size < w10.heap.size := (by have := hb10.size; (try simp at this); omega); have hB10 : Below w.heap.size w w10 := (by refine Below.trans ?_ (hb10.mono (by first | (simp; done) | (simp; omega) | omega)); repeat (first | (with_reducible assumption) | (with_reducible exact Below.refl _ _) | (with_reducible refine Below.setCell ?_ (by first | (simp; done) | (simp; omega) | omega) _) | (with_reducible refine Below.alloc ?_ (by first | (simp; done) | (simp; omega) | omega) _)))) | (go_at_call 40; (with_reducible refine (AM.out _ (hb9.trans (hb10.mono hb9.size))).mono ?_); rintro e w11 ⟨rfl, hb11⟩; obtain ⟨hc11, hf11⟩ := bcell hb11; (try simp only [drew_size, drew_cell, drew_frozen, World.size_alloc, World.size_setCell] at hc11 hf11); have hz11 : w.heap.size < w11.heap.size ∧ w.heap.size + 1 < w11.heap.size ∧ n2 < w11.heap.size ∧ W7.heap.size < w11.heap.size := (by have := hb11.size; (try simp at this); omega); have hB11 : Below w.heap.size w w11 := (by refine Below.trans ?_ (hb11.mono (by first | (simp; done) | (simp; omega) | omega)); repeat (first | (with_reducible assumption) | (with_reducible exact Below.refl _ _) | (with_reducible refine Below.setCell ?_ (by first | (simp; done) | (simp; omega) | omega) _) | (with_reducible refine Below.alloc ?_ (by first | (simp; done) | (simp; omega) | omega) _)))))
                    go_meet
                    exact ⟨_, rfl, Lib.hid (by cases om <;> simp), (by (refine ⟨?_, ?_, ?_, ?_, ?_, ?_, ?_, ?_, ?_, ?_, ?_, ?_, ?_, ?_, ?_, ?_, ?_, ?_, ?_, ?_, ?_, ?_, ?_, ?_, ?_, ?_, ?_, ?_⟩ <;> first | (simp [go_sem, *]; done) | omega | (simp; omega) | exact (by repeat (first | (with_reducible exact Below.refl _ _) | (with_reducible assumption) | (with_reducible refine Below.setCell ?_ (by first | (simp; done) | (simp; omega) | omega) _) | (with_reducible refine Below.alloc ?_ (by first | (simp; done) | (simp; omega) | omega) _) | (with_reducible refine Below.drew ?_) | (with_reducible refine Below.trans ?_ (Below.mono (by assumption) (by first | (simp; done) | (simp; omega) | omega)))))))⟩
              obtain ⟨rb, rfl, HRB, v0, v1, v2, v3, v4, v5, v6, v7, v8, v9, v10, v11, v12, v13, v14, v15, v16, v17, v18, v19, v20, vf0, vf1, vf2, vz0, vz1, vz2, vB⟩ := hcut
              obtain ⟨w12, rfl⟩ : ∃ wq : World, wq = wc := ⟨_, rfl⟩
              cases rb with
              | true =>
                have hE : checkE (⟨I, T, .mk op args ⟨lc, lt, ln, ls⟩ ⟨rc, rt, rn, rs⟩, G, O, lim⟩ : QueryT) L = 10 := by rw [HCK2.out, if_pos (HRB.out.1 rfl)]
                have HB10 := Lib.hid (fun w' => HBAD.out 10 w' hE (by decide))
                clear hE HCK2 HRB
                go_wp2_with (fail)
                exact bodyPost_ret (v := .tuple #[.agg #[.string ⟨#[]⟩, .slice none 0 0, .slice none 0 0], .int .i64 10]) (by simp [results, Tryz.results34, go_sem, *]) rfl (HB10.out _ (by repeat (first | (with_reducible assumption) | (with_reducible exact Below.refl _ _) | (with_reducible refine Below.setCell ?_ (by first | (simp; done) | (simp; omega) | omega) _) | (with_reducible refine Below.alloc ?_ (by first | (simp; done) | (simp; omega) | omega) _))))
              | false =>
                have hE : checkE (⟨I, T, .mk op args ⟨lc, lt, ln, ls⟩ ⟨rc, rt, rn, rs⟩, G, O, lim⟩ : QueryT) L = 0 := by
                  rw [HCK2.out, if_neg]
                  intro h; have := HRB.out.2 h; cases this
                have HE0 := Lib.hid hE
                clear hE HCK2 HRB
                obtain ⟨j1, hj1, jz0, jz1, jz2⟩ := info_parts info_scol
                have HG2 : Hid (∀ A15 c15 A16 c16 w', w'.ownsRow w12.heap.size 64 2 (.slice A15 s.cols.length c15) s.cols.length (cellsC s.cols) → w'.ownsRow w12.heap.size 9 1 (.slice A16 s.key.length c16) s.key.length (cellsN s.key) → Below w.heap.size w w' → Q (.returned (.tuple #[.agg #[.string ST, .slice A15 s.cols.length c15, .slice A16 s.key.length c16], .int .i64 0])) w') := Lib.hid fun A15 c15 A16 c16 w' h1 h2 h3 => by
                  obtain ⟨q1, -, q2⟩ := own_cols h1
                  have q3 := cap_of h2
                  obtain ⟨A, c, e, -, q4⟩ := own_strs h2
                  injection e with e5 _ e6; subst e5 e6
                  have h := HGOOD.out s A15 c15 A16 c16 w' HE0.out HFD.out ⟨q1, q4, q2, q3⟩ h3
                  rw [HST.out] at h; exact h
                obtain ⟨CS1, hcs1, hMK1⟩ := make_law (P := Tryz.prog) 57 64 j1 _ 2 s.cols.length Tryz.underlying57 hj1 jz0 jz1 (by rw [jz2]; omega) (by unfold maxLen; omega)
                obtain ⟨CS2, hcs2, hMK2⟩ := make_law (P := Tryz.prog) 28 9 i _ 1 s.key.length Tryz.underlying28 hi iz0 iz1 (by rw [iz2]; omega) (by unfold maxLen; omega)
                have HCS1 := Lib.hid hcs1
                have HCS2 := Lib.hid hcs2
                clear hcs1 hcs2
                have hKX : KX w w12 (w.heap.size + 1) w12 := ⟨fun b o _ _ => rfl, Nat.le_refl _, vB⟩
                have hw12 : w.heap.size ≤ w12.heap.size ∧ w.heap.size + 1 < w12.heap.size := by omega
                have hn2n : n2 ≠ w.heap.size + 1 := by omega
                clear HE0 HFD HGOOD HBAD AA AM SU HAP HB58 HB56 HS9' HOO HLL HH
                go_upto_region 24 with (fail)
                rename_i hkk K4 Qp1 K3 a2 K2 Qp K1 a1 K hK
                clear a1 a2 K1 K3 Qp Qp1 K2 K4 HST v0 v1 v2 v3 v4 v5 v6 v7 v8 v9 v10 v11 v12 v13 v14 hz1 hB1 hs1 HCE hz2 hB2 hs2 hn2 HN2 hkl HCS hkl' hkk hk0 hs3 kB2 hm hmt hlc h9 hBW hso hB25 hmm HS7 hn7 hk q1 q2 q3 q4 cW8_0 cW8_1 cW8_2 cW8_3 cW8_4 cW8_5 cW8_6 cW8_7 cW8_8 cW8_9 cW8_10 cW8_11 cW8_12 cW8_13 cW8_14 cW8_15 cW8_16 cW8_17 cW8_18 cW8_19 cW8_20 cW8_21 fW8_0 fW8_1 fW8_2 zW8_0 zW8_1 zW8_2 zW8_3 bW8 hb9 hc9 hf9 hz9 hB9 hs9 hz9'
                revert hK
                revert K
                revert hn2n
                revert hw12
                revert hKX
                revert HCS2
                revert HCS1
                revert hMK2
                revert CS2
                revert hMK1
                revert CS1
                revert HG2
                revert jz2
                revert jz1
                revert jz0
                revert hj1
                revert j1
                revert vB
                revert vz2
                revert vz1
                revert vz0
                revert vf2
                revert vf1
                revert vf0
                revert v20
                revert v19
                revert v18
                revert v17
                revert v16
                revert v15
                revert w12
                revert u84
                revert u83
                revert u82
                revert u81
                revert u80
                revert u79
                revert u78
                revert u77
                revert u76
                revert w9
                revert sb
                revert om
                revert oa
                revert W8
                revert u70
                revert u69
                revert u68
                revert u67
                revert u66
                revert u65
                revert u64
                revert u63
                revert u13
                revert u5
                revert W7
                revert w6
                revert osq
                revert dq
                revert e4
                revert e3
                revert e2
                revert e1
                revert w5
                revert c9
                revert A9
                revert u44
                revert u43
                revert u42
                revert u41
                revert u40
                revert u39
                revert u38
                revert u37
                revert u36
                revert u11
                revert iz2
                revert iz1
                revert iz0
                revert hi
                revert i
                revert W3
                revert hn2w
                revert n2
                revert ST
                revert hks
                revert hcs
                revert HSV
                revert c2
                revert A2
                revert c1
                revert A1
                revert off
                revert b
                revert s
                revert k
                revert w2
                revert w1
                revert U4
                revert U3
                revert U2
                revert U1
                revert TB
                exact hR.out
  · have hE : checkE (⟨I, T, .mk op args ⟨lc, lt, ln, ls⟩ ⟨rc, rt, rn, rs⟩, G, O, lim⟩ : QueryT) L = fq := by rw [HCE.out, if_pos hf]
    have HBF := Lib.hid (fun w' => HBAD.out fq w' hE hf)
    have e1 : (fq != 0) = true := by simp [hf]
    clear hE hf
    go_wp2_with (fail)
    exact bodyPost_ret (v := .tuple #[.agg #[.string ⟨#[]⟩, .slice none 0 0, .slice none 0 0], .int .i64 fq]) (by simp [results, Tryz.results34, go_sem, *]) rfl (HBF.out _ (by repeat (first | (with_reducible assumption) | (with_reducible exact Below.refl _ _) | (with_reducible refine Below.setCell ?_ (by first | (simp; done) | (simp; omega) | omega) _) | (with_reducible refine Below.alloc ?_ (by first | (simp; done) | (simp; omega) | omega) _))))⟩
end Go.Proofs.YtijlifdbjhieaaaGreatDoor
