/-
  Contract of sql.Columns. (Printed by tools/mksn8.py.)
-/
import Derived.Test.YtijlifdbjhieaaaGreatDoorSn6
namespace Go.Proofs.YtijlifdbjhieaaaGreatDoor
set_option linter.all false
open Go.RowKit Go.Shelf Go.Sort
attribute [local go_sem] cell_set_self lt_1 lt_2 lt_3 lt_4 lt_5 lt_6

/-- A column of an answer. -/
def colF (s : SchT) (x : ItemT) : ColT :=
  if x.agg = wCount then ⟨wCount, 1⟩ else if x.agg = [115, 117, 109] ∨ x.agg = [109, 105, 110] ∨ x.agg = [109, 97, 120] then ⟨x.agg ++ [95] ++ x.col, typT s x.col⟩ else ⟨x.col, typT s x.col⟩
theorem cellsC_app (l : List ColT) (x : ColT) : cellsC (l ++ [x]) = cellsC l ++ [.string ⟨x.name.toArray⟩, .int .i64 x.ty] := by
  induction l with
  | nil => rfl
  | cons y l ih => simp only [List.cons_append, cellsC, ih]
theorem check_good (AI AG AO AC LA : Option Addr) (cI cG cO cC cL : Nat) (I : List ItemT) (T : List UInt8) (op : Int) (args : List CondT) (lc : List UInt8) (lt ln : Int) (ls rc : List UInt8) (rt rn : Int) (rs : List UInt8) (G : List (List UInt8)) (O : List OrderT) (lim : Int) (L : List SchT) (w : World) (H : QV w (⟨I, T, .mk op args ⟨lc, lt, ln, ls⟩ ⟨rc, rt, rn, rs⟩, G, O, lim⟩ : QueryT) AI AG AO (condC op AC args.length cC ⟨lc, lt, ln, ls⟩ ⟨rc, rt, rn, rs⟩)) (SQ : QShort (⟨I, T, .mk op args ⟨lc, lt, ln, ls⟩ ⟨rc, rt, rn, rs⟩, G, O, lim⟩ : QueryT)) (HL : ScL w LA L) (hL : L.length ≤ 1000000) (hLs : ∀ s ∈ L, s.cols.length ≤ 1000000 ∧ s.key.length ≤ 1000000) (hO : O.length ≤ 1000000) (hI : I.length ≤ 1000000) (hG : G.length ≤ 1000000) (hcG : G.length ≤ cG) (s : SchT) (hE : checkE (⟨I, T, .mk op args ⟨lc, lt, ln, ls⟩ ⟨rc, rt, rn, rs⟩, G, O, lim⟩ : QueryT) L = 0) (hs : L.find? (isTab T) = some s) :
    Calls Tryz.prog 34 #[.agg #[.slice AI I.length cI, .string ⟨T.toArray⟩, .int .i64 op, .slice AC args.length cC, .string ⟨lc.toArray⟩, .int .i64 lt, .int .i64 ln, .string ⟨ls.toArray⟩, .string ⟨rc.toArray⟩, .int .i64 rt, .int .i64 rn, .string ⟨rs.toArray⟩, .slice AG G.length cG, .slice AO O.length cO, .int .i64 lim], .slice LA L.length cL] w fun e w' => ∃ A1 c1 A2 c2, e = .returned (.tuple #[.agg #[.string ⟨s.table.toArray⟩, .slice A1 s.cols.length c1, .slice A2 s.key.length c2], .int .i64 0]) ∧ SchV w' s A1 c1 A2 c2 ∧ Below w.heap.size w w' := by
  refine check1 AI AG AO AC LA cI cG cO cC cL I T op args lc lt ln ls rc rt rn rs G O lim L w _ H SQ HL hL hLs hO hI hG hcG (Lib.hid ?_) (Lib.hid ?_)
  · intro s' A1 c1 A2 c2 w' _ h2 h3 h4
    rw [hs] at h2
    injection h2 with h2
    subst h2
    exact ⟨A1, c1, A2, c2, rfl, h3, h4⟩
  · intro er w' h1 h2
    rw [hE] at h1
    exact absurd h1.symm h2
theorem check_bad (AI AG AO AC LA : Option Addr) (cI cG cO cC cL : Nat) (I : List ItemT) (T : List UInt8) (op : Int) (args : List CondT) (lc : List UInt8) (lt ln : Int) (ls rc : List UInt8) (rt rn : Int) (rs : List UInt8) (G : List (List UInt8)) (O : List OrderT) (lim : Int) (L : List SchT) (w : World) (H : QV w (⟨I, T, .mk op args ⟨lc, lt, ln, ls⟩ ⟨rc, rt, rn, rs⟩, G, O, lim⟩ : QueryT) AI AG AO (condC op AC args.length cC ⟨lc, lt, ln, ls⟩ ⟨rc, rt, rn, rs⟩)) (SQ : QShort (⟨I, T, .mk op args ⟨lc, lt, ln, ls⟩ ⟨rc, rt, rn, rs⟩, G, O, lim⟩ : QueryT)) (HL : ScL w LA L) (hL : L.length ≤ 1000000) (hLs : ∀ s ∈ L, s.cols.length ≤ 1000000 ∧ s.key.length ≤ 1000000) (hO : O.length ≤ 1000000) (hI : I.length ≤ 1000000) (hG : G.length ≤ 1000000) (hcG : G.length ≤ cG) (er : Int) (hE : checkE (⟨I, T, .mk op args ⟨lc, lt, ln, ls⟩ ⟨rc, rt, rn, rs⟩, G, O, lim⟩ : QueryT) L = er) (h0 : er ≠ 0) :
    Calls Tryz.prog 34 #[.agg #[.slice AI I.length cI, .string ⟨T.toArray⟩, .int .i64 op, .slice AC args.length cC, .string ⟨lc.toArray⟩, .int .i64 lt, .int .i64 ln, .string ⟨ls.toArray⟩, .string ⟨rc.toArray⟩, .int .i64 rt, .int .i64 rn, .string ⟨rs.toArray⟩, .slice AG G.length cG, .slice AO O.length cO, .int .i64 lim], .slice LA L.length cL] w fun e w' => e = .returned (.tuple #[.agg #[.string ⟨#[]⟩, .slice none 0 0, .slice none 0 0], .int .i64 er]) ∧ Below w.heap.size w w' := by
  refine check1 AI AG AO AC LA cI cG cO cC cL I T op args lc lt ln ls rc rt rn rs G O lim L w _ H SQ HL hL hLs hO hI hG hcG (Lib.hid ?_) (Lib.hid ?_)
  · intro s' A1 c1 A2 c2 w' h1
    rw [hE] at h1
    exact absurd h1 h0
  · intro er' w' h1 _ h3
    rw [hE] at h1
    subst h1
    exact ⟨rfl, h3⟩
theorem check_find {q : QueryT} {L : List SchT} (h : checkE q L = 0) : ∃ s, L.find? (isTab q.table) = some s := by
  unfold checkE at h
  split at h
  · rename_i h1; exact absurd h h1
  · split at h
    · cases h
    · rename_i s hs; exact ⟨s, hs⟩
set_option maxHeartbeats 4000000 in
set_option maxRecDepth 100000 in
theorem cols_bad (AI AG AO AC LA : Option Addr) (cI cG cO cC cL : Nat) (I : List ItemT) (T : List UInt8) (op : Int) (args : List CondT) (lc : List UInt8) (lt ln : Int) (ls rc : List UInt8) (rt rn : Int) (rs : List UInt8) (G : List (List UInt8)) (O : List OrderT) (lim : Int) (L : List SchT) (w : World) (H : QV w (⟨I, T, .mk op args ⟨lc, lt, ln, ls⟩ ⟨rc, rt, rn, rs⟩, G, O, lim⟩ : QueryT) AI AG AO (condC op AC args.length cC ⟨lc, lt, ln, ls⟩ ⟨rc, rt, rn, rs⟩)) (SQ : QShort (⟨I, T, .mk op args ⟨lc, lt, ln, ls⟩ ⟨rc, rt, rn, rs⟩, G, O, lim⟩ : QueryT)) (HL : ScL w LA L) (hL : L.length ≤ 1000000) (hLs : ∀ s ∈ L, s.cols.length ≤ 1000000 ∧ s.key.length ≤ 1000000) (hO : O.length ≤ 1000000) (hI : I.length ≤ 1000000) (hG : G.length ≤ 1000000) (hcG : G.length ≤ cG) (er : Int) (hE : checkE (⟨I, T, .mk op args ⟨lc, lt, ln, ls⟩ ⟨rc, rt, rn, rs⟩, G, O, lim⟩ : QueryT) L = er) (h0 : er ≠ 0) :
    Calls Tryz.prog 16 #[.agg #[.slice AI I.length cI, .string ⟨T.toArray⟩, .int .i64 op, .slice AC args.length cC, .string ⟨lc.toArray⟩, .int .i64 lt, .int .i64 ln, .string ⟨ls.toArray⟩, .string ⟨rc.toArray⟩, .int .i64 rt, .int .i64 rn, .string ⟨rs.toArray⟩, .slice AG G.length cG, .slice AO O.length cO, .int .i64 lim], .slice LA L.length cL] w fun e w' => e = .returned (.tuple #[.slice none 0 0, .int .i64 er]) ∧ Below w.heap.size w w' := by
  suffices key : ∀ Q : Ending → World → Prop, Hid (∀ w', Below w.heap.size w w' → Q (.returned (.tuple #[.slice none 0 0, .int .i64 er])) w') → Calls Tryz.prog 16 #[.agg #[.slice AI I.length cI, .string ⟨T.toArray⟩, .int .i64 op, .slice AC args.length cC, .string ⟨lc.toArray⟩, .int .i64 lt, .int .i64 ln, .string ⟨ls.toArray⟩, .string ⟨rc.toArray⟩, .int .i64 rt, .int .i64 rn, .string ⟨rs.toArray⟩, .slice AG G.length cG, .slice AO O.length cO, .int .i64 lim], .slice LA L.length cL] w Q from key _ (Lib.hid fun _ h => ⟨rfl, h⟩)
  intro Q HQ
  have CK := Lib.hid (fun W (hb : Below w.heap.size w W) => check_bad AI AG AO AC LA cI cG cO cC cL I T op args lc lt ln ls rc rt rn rs G O lim L W (H.below hb) SQ (HL.below hb) hL hLs hO hI hG hcG er hE h0)
  have e1 : (er != 0) = true := by simp [h0]
  clear H SQ HL hLs hE h0
  generalize (⟨T.toArray⟩ : ByteArray) = TB at *
  generalize (⟨lc.toArray⟩ : ByteArray) = U1 at *
  generalize (⟨ls.toArray⟩ : ByteArray) = U2 at *
  generalize (⟨rc.toArray⟩ : ByteArray) = U3 at *
  generalize (⟨rs.toArray⟩ : ByteArray) = U4 at *
  go_enter Tryz.func16, Tryz.ntmps16
  go_wp2_with (fail)
  go_at_call 34
  refine (CK.out _ (by repeat (first | (with_reducible exact Below.refl _ _) | (with_reducible refine Below.alloc ?_ (by first | (simp; done) | (simp; omega) | omega) _)))).mono ?_
  rintro e w2 ⟨rfl, hb2⟩
  have hB2 : Below w.heap.size w w2 := Below.trans (by repeat (first | (with_reducible exact Below.refl _ _) | (with_reducible refine Below.alloc ?_ (by first | (simp; done) | (simp; omega) | omega) _))) (hb2.mono (by first | (simp; done) | (simp; omega) | omega))
  have hs2 := hB2.size
  go_wp2_with (fail)
  exact HQ.out _ (by repeat (first | (with_reducible exact hB2) | (with_reducible refine Below.setCell ?_ (by first | (simp; done) | (simp; omega) | omega) _) | (with_reducible refine Below.alloc ?_ (by first | (simp; done) | (simp; omega) | omega) _)))
set_option maxHeartbeats 16000000 in
set_option maxRecDepth 100000 in
theorem cols_good (AI AG AO AC LA : Option Addr) (cI cG cO cC cL : Nat) (I : List ItemT) (T : List UInt8) (op : Int) (args : List CondT) (lc : List UInt8) (lt ln : Int) (ls rc : List UInt8) (rt rn : Int) (rs : List UInt8) (G : List (List UInt8)) (O : List OrderT) (lim : Int) (L : List SchT) (w : World) (H : QV w (⟨I, T, .mk op args ⟨lc, lt, ln, ls⟩ ⟨rc, rt, rn, rs⟩, G, O, lim⟩ : QueryT) AI AG AO (condC op AC args.length cC ⟨lc, lt, ln, ls⟩ ⟨rc, rt, rn, rs⟩)) (SQ : QShort (⟨I, T, .mk op args ⟨lc, lt, ln, ls⟩ ⟨rc, rt, rn, rs⟩, G, O, lim⟩ : QueryT)) (HL : ScL w LA L) (hL : L.length ≤ 1000000) (hLs : ∀ s ∈ L, s.cols.length ≤ 1000000 ∧ s.key.length ≤ 1000000) (hO : O.length ≤ 1000000) (hI : I.length ≤ 1000000) (hIs : ∀ x ∈ I, x.agg.length ≤ 1000000 ∧ x.col.length ≤ 1000000) (hG : G.length ≤ 1000000) (hcG : G.length ≤ cG) (s : SchT) (hE : checkE (⟨I, T, .mk op args ⟨lc, lt, ln, ls⟩ ⟨rc, rt, rn, rs⟩, G, O, lim⟩ : QueryT) L = 0) (hs : L.find? (isTab T) = some s) :
    Calls Tryz.prog 16 #[.agg #[.slice AI I.length cI, .string ⟨T.toArray⟩, .int .i64 op, .slice AC args.length cC, .string ⟨lc.toArray⟩, .int .i64 lt, .int .i64 ln, .string ⟨ls.toArray⟩, .string ⟨rc.toArray⟩, .int .i64 rt, .int .i64 rn, .string ⟨rs.toArray⟩, .slice AG G.length cG, .slice AO O.length cO, .int .i64 lim], .slice LA L.length cL] w fun e w' => ∃ A c, e = .returned (.tuple #[.slice A I.length c, .int .i64 0]) ∧ ClL w' A (I.map (colF s)) ∧ Below w.heap.size w w' := by
  suffices key : ∀ Q : Ending → World → Prop, Hid (∀ A c w', ClL w' A (I.map (colF s)) → Below w.heap.size w w' → Q (.returned (.tuple #[.slice A I.length c, .int .i64 0])) w') → Calls Tryz.prog 16 #[.agg #[.slice AI I.length cI, .string ⟨T.toArray⟩, .int .i64 op, .slice AC args.length cC, .string ⟨lc.toArray⟩, .int .i64 lt, .int .i64 ln, .string ⟨ls.toArray⟩, .string ⟨rc.toArray⟩, .int .i64 rt, .int .i64 rn, .string ⟨rs.toArray⟩, .slice AG G.length cG, .slice AO O.length cO, .int .i64 lim], .slice LA L.length cL] w Q from key _ (Lib.hid fun A c _ h h2 => ⟨A, c, rfl, h, h2⟩)
  intro Q HQ
  have CK := Lib.hid (fun W (hb : Below w.heap.size w W) => check_good AI AG AO AC LA cI cG cO cC cL I T op args lc lt ln ls rc rt rn rs G O lim L W (H.below hb) SQ (HL.below hb) hL hLs hO hI hG hcG s hE hs)
  have HIT := Lib.hid H.it
  have HIS := Lib.hid hIs
  have hsl := (hLs s (List.mem_of_find?_eq_some hs)).1
  clear H SQ HL hLs hE hs hIs
  obtain ⟨ST, hST⟩ : ∃ t : ByteArray, (⟨s.table.toArray⟩ : ByteArray) = t := ⟨_, rfl⟩
  have HST := Lib.hid hST
  rw [hST] at CK
  clear hST
  generalize (⟨T.toArray⟩ : ByteArray) = TB at *
  generalize (⟨lc.toArray⟩ : ByteArray) = U1 at *
  generalize (⟨ls.toArray⟩ : ByteArray) = U2 at *
  generalize (⟨rc.toArray⟩ : ByteArray) = U3 at *
  generalize (⟨rs.toArray⟩ : ByteArray) = U4 at *
  go_enter Tryz.func16, Tryz.ntmps16
  go_wp2_with (fail)
  go_at_call 34
  refine (CK.out _ (by repeat (first | (with_reducible exact Below.refl _ _) | (with_reducible refine Below.alloc ?_ (by first | (simp; done) | (simp; omega) | omega) _)))).mono ?_
  rintro e w2 ⟨A1, c1, A2, c2, rfl, hsv, hb2⟩
  have hB2 : Below w.heap.size w w2 := Below.trans (by repeat (first | (with_reducible exact Below.refl _ _) | (with_reducible refine Below.alloc ?_ (by first | (simp; done) | (simp; omega) | omega) _))) (hb2.mono (by first | (simp; done) | (simp; omega) | omega))
  obtain ⟨hc2, hf2⟩ := bcell hb2
  (try simp only [drew_size, drew_cell, drew_frozen, World.size_alloc, World.size_setCell] at hc2 hf2)
  have hz2 : w.heap.size < w2.heap.size := by have := hb2.size; simp at this; omega
  have HSV := Lib.hid hsv.cl
  clear hsv CK
  obtain ⟨n3, hn3⟩ : ∃ n, w2.heap.size = n := ⟨_, rfl⟩
  have HN3 := Lib.hid hn3
  go_upto_region 5 with (fail)
  refine name_world ?_; intro W00 hW00
  have hs3 : W00.heap.size = n3 + 1 := by rw [hW00]; simp [hn3]
  have hn3w : w.heap.size < n3 := by omega
  have k0 : W00.cell? ⟨n3, 0, none⟩ = some (.string ST) ∧ W00.cell? ⟨n3, 1, none⟩ = some (.slice A1 s.cols.length c1) ∧ W00.cell? ⟨n3, 2, none⟩ = some (.slice A2 s.key.length c2) ∧ W00.cell? ⟨w.heap.size, 0, none⟩ = some (.slice AI I.length cI) := by
    rw [hW00, ← hn3]; refine ⟨by simp [go_sem], by simp [go_sem], by simp [go_sem], ?_⟩
    simp [go_sem, *]
  have kB2 : Below w2.heap.size w2 W00 := by rw [hW00]; exact (Below.refl _ _).alloc (Nat.le_refl _) _
  clear hW00
  obtain ⟨W3, rfl⟩ : ∃ W, W = W00 := ⟨_, rfl⟩
  obtain ⟨k0, k1, k2, k3⟩ := k0
  have bW3 : Below w.heap.size w W3 := hB2.trans (kB2.mono (by omega))
  have TO := Lib.hid (fun W n (hb : Below W3.heap.size W3 W) => typeOf_any s A1 c1 A2 c2 n W ((HSV.out.below kB2).below hb) (by omega))
  rw [HST.out] at TO
  obtain ⟨i, hi, iz0, iz1, iz2⟩ := info_parts info_scol
  clear hc2 hf2 hb2 hB2 kB2 hn3
  go_wp2_with (fail)
  go_loopw [8, 26] (fun tv j wr => ∃ (k : Nat) (V : Value), k ≤ I.length ∧ j = .int .i64 k ∧ V = tv ∧ Hid (wr.ownsRow (n3 + 1) 64 2 V k (cellsC ((I.map (colF s)).take k))) ∧ Hid (Below (n3 + 1) W3 wr)) (fun _ j _ => I.length - (intOf j).toNat)
  case atStart => exact ⟨0, _, by omega, rfl, rfl, Lib.hid (World.ownsRow_nil _ _ _ _), Lib.hid (Below.refl _ _)⟩
  case round =>
    obtain ⟨k, V, hk, rfl, hV, HO, HB⟩ := hrel
    subst hV
    obtain ⟨wo, rfl⟩ : ∃ wo : World, wo = wr := ⟨_, rfl⟩
    have hso : n3 + 1 ≤ wo.heap.size := by have := HB.out.size; omega
    have hBW : Below W3.heap.size W3 wo := by rw [hs3]; exact HB.out
    obtain ⟨hcb, hfb⟩ := bcell hBW
    have y0 := (hcb n3 0 (by omega)).trans k0
    have y1 := (hcb n3 1 (by omega)).trans k1
    have y2 := (hcb n3 2 (by omega)).trans k2
    have y4 : n3 < wo.heap.size ∧ n3 < wo.heap.size + 1 := by omega
    clear hcb hfb
    by_cases hlt : k < I.length
    · have hlt' : (k : Int) < (I.length : Int) := by omega
      obtain ⟨x, hx⟩ : ∃ x, I[k]? = some x := ⟨_, List.getElem?_eq_getElem hlt⟩
      obtain ⟨b, off, rfl, hb, q0, q1⟩ := ((HIT.out.below bW3).below hBW) k x hx
      obtain ⟨g1, g2⟩ := HIS.out x (List.mem_of_getElem? hx)
      have htk : Hid (cellsC ((I.map (colF s)).take (k + 1)) = cellsC ((I.map (colF s)).take k) ++ [.string ⟨(colF s x).name.toArray⟩, .int .i64 (colF s x).ty]) := Lib.hid (by
        have h2 : (I.map (colF s))[k]? = some (colF s x) := by rw [List.getElem?_map, hx]; rfl
        rw [List.take_succ, h2]; exact cellsC_app _ _)
      obtain ⟨xa, xc⟩ := x
      dsimp only at q0 q1 g1 g2
      have S1 := str_beq2 xa wCount
      have S3 := str_beq2 xa [115, 117, 109]
      have S4 := str_beq2 xa [109, 105, 110]
      have S5 := str_beq2 xa [109, 97, 120]
      obtain ⟨xs, hxs⟩ : ∃ xs, cellsC ((I.map (colF s)).take k) = xs := ⟨_, rfl⟩
      rw [hxs] at HO htk
      clear hx hxs
      obtain ⟨cf, hcf⟩ : ∃ y, colF s ⟨xa, xc⟩ = y := ⟨_, rfl⟩
      rw [hcf] at htk
      unfold colF at hcf
      dsimp only at hcf
      obtain ⟨ty, hty⟩ : ∃ t, typT s xc = t := ⟨_, rfl⟩
      have TO2 := Lib.hid (fun W hb => TO.out W xc hb)
      rw [hty] at TO2 hcf
      have hfin := TO2
      clear hty hfin
      obtain ⟨ti, hti⟩ : ∃ t, typI s xc = t := ⟨_, rfl⟩
      rw [hti] at TO2
      clear hti TO
      have hU := (rfl : (⟨xa.toArray⟩ : ByteArray) = ⟨xa.toArray⟩)
      obtain ⟨U, hU⟩ : ∃ U : ByteArray, (⟨xa.toArray⟩ : ByteArray) = U := ⟨_, rfl⟩
      obtain ⟨VV, hVV⟩ : ∃ U : ByteArray, (⟨xc.toArray⟩ : ByteArray) = U := ⟨_, rfl⟩
      have hsU : U.size = xa.length := by rw [← hU]; simp [ByteArray.size]
      have hsV : VV.size = xc.length := by rw [← hVV]; simp [ByteArray.size]
      rw [hU] at q0 S1 S3 S4 S5
      rw [hVV] at q1 TO2
      by_cases h1 : xa = wCount
      · rw [decide_eq_true h1] at S1
        rw [if_pos h1] at hcf
        subst hcf
        clear h1 S3 S4 S5 hU hVV hsU hsV g1 g2
        dsimp only at htk
        go_wp2_with (first | (go_at_call 35; (with_reducible refine (TO2.out _ (by repeat (first | (with_reducible exact hBW) | (with_reducible refine Below.alloc ?_ (by first | (simp; done) | (simp; omega) | omega) _)))).mono ?_); rintro e w4 ⟨rfl, hb4⟩; obtain ⟨hc4, hf4⟩ := bcell hb4; (try simp only [drew_size, drew_cell, drew_frozen, World.size_alloc, World.size_setCell] at hc4 hf4); have hz4 : wo.heap.size < w4.heap.size ∧ n3 < w4.heap.size ∧ w.heap.size < w4.heap.size := (by have := hb4.size; (try simp at this); omega); have hB4 : Below wo.heap.size wo w4 := (by refine Below.trans ?_ (hb4.mono (by first | (simp; done) | (simp; omega) | omega)); repeat (first | (with_reducible exact Below.refl _ _) | (with_reducible refine Below.alloc ?_ (by first | (simp; done) | (simp; omega) | omega) _)))) | (at_builtin; refine wpList_append_lies _ rfl _ _ _ rfl (n3 + 1) 64 i _ 2 24 Tryz.underlying57 hi iz0 iz1 iz2 rfl (by decide) V k _ rfl (own_below HO.out (by repeat (first | (with_reducible exact hB4) | (with_reducible refine Below.setCell ?_ (by first | (simp; done) | (simp; omega) | omega) _) | (with_reducible refine Below.alloc ?_ (by first | (simp; done) | (simp; omega) | omega) _)))) ⟨w4.heap.size + 1, 0, none⟩ 1 1 [.string ⟨#[99, 111, 117, 110, 116]⟩, .int .i64 1] rfl rfl (World.news_of_block (cs := #[.string ⟨#[99, 111, 117, 110, 116]⟩, .int .i64 1]) (t := 64) (fr := (0, 0)) (heap_alloc_at (by simp))) (by simp [Value.oneCell']) (by omega) (by unfold maxLen; omega) (by omega) (by simp; omega) (w4.heap.size + 1 + 1) (by simp) ?_; intro gg cap w1' hown1 hgrow hat hlt'))
        go_roundw
        case rel => exact ⟨k + 1, _, by omega, by go_num, rfl, Lib.hid (by rw [htk.out]; exact hown1), Lib.hid (below_push (B := n3 + 1) (HB.out.trans (Below.mono (by repeat (first | (with_reducible exact hB4) | (with_reducible refine Below.setCell ?_ (by first | (simp; done) | (simp; omega) | omega) _) | (with_reducible refine Below.alloc ?_ (by first | (simp; done) | (simp; omega) | omega) _))) hso)) (by simp; omega) hgrow (fun j hj => (HO.out.lt j hj).1))⟩
        case measure => first | (simp [intOf]; done) | (simp [intOf]; omega)
      · rw [decide_eq_false h1] at S1
        rw [if_neg h1] at hcf
        by_cases gS3 : xa = [115, 117, 109]
        · rw [decide_eq_true gS3] at S3
          rw [if_pos (by simp [gS3])] at hcf
          subst hcf
          dsimp only at htk
          obtain ⟨Z, hZ⟩ : ∃ Z : ByteArray, (⟨(xa ++ [95] ++ xc).toArray⟩ : ByteArray) = Z := ⟨_, rfl⟩
          have hcat : U ++ ⟨#[95]⟩ ++ VV = Z := by rw [← hU, ← hVV, ← hZ]; exact cat_l _ _ xc (cat_l _ xa [95] rfl)
          rw [hZ] at htk
          have z1 : ¬ 9223372036854775807 < xa.length + 1 := by omega
          have z2 : ¬ 9223372036854775807 < xa.length + 1 + xc.length := by omega
          clear h1 hU hVV hZ g1 g2 gS3 
          go_wp2_with (first | (go_at_call 35; (with_reducible refine (TO2.out _ (by repeat (first | (with_reducible exact hBW) | (with_reducible refine Below.alloc ?_ (by first | (simp; done) | (simp; omega) | omega) _)))).mono ?_); rintro e w4 ⟨rfl, hb4⟩; obtain ⟨hc4, hf4⟩ := bcell hb4; (try simp only [drew_size, drew_cell, drew_frozen, World.size_alloc, World.size_setCell] at hc4 hf4); have hz4 : wo.heap.size < w4.heap.size ∧ n3 < w4.heap.size ∧ w.heap.size < w4.heap.size := (by have := hb4.size; (try simp at this); omega); have hB4 : Below wo.heap.size wo w4 := (by refine Below.trans ?_ (hb4.mono (by first | (simp; done) | (simp; omega) | omega)); repeat (first | (with_reducible exact Below.refl _ _) | (with_reducible refine Below.alloc ?_ (by first | (simp; done) | (simp; omega) | omega) _)))) | (at_builtin; refine wpList_append_lies _ rfl _ _ _ rfl (n3 + 1) 64 i _ 2 24 Tryz.underlying57 hi iz0 iz1 iz2 rfl (by decide) V k _ rfl (own_below HO.out (by repeat (first | (with_reducible exact hB4) | (with_reducible refine Below.setCell ?_ (by first | (simp; done) | (simp; omega) | omega) _) | (with_reducible refine Below.alloc ?_ (by first | (simp; done) | (simp; omega) | omega) _)))) ⟨w4.heap.size + 1, 0, none⟩ 1 1 [.string Z, .int .i64 ty] rfl rfl (World.news_of_block (cs := #[.string Z, .int .i64 ty]) (t := 64) (fr := (0, 0)) (heap_alloc_at (by simp))) (by simp [Value.oneCell']) (by omega) (by unfold maxLen; omega) (by omega) (by simp; omega) (w4.heap.size + 1 + 1) (by simp) ?_; intro gg cap w1' hown1 hgrow hat hlt'))
          go_roundw
          case rel => exact ⟨k + 1, _, by omega, by go_num, rfl, Lib.hid (by rw [htk.out]; exact hown1), Lib.hid (below_push (B := n3 + 1) (HB.out.trans (Below.mono (by repeat (first | (with_reducible exact hB4) | (with_reducible refine Below.setCell ?_ (by first | (simp; done) | (simp; omega) | omega) _) | (with_reducible refine Below.alloc ?_ (by first | (simp; done) | (simp; omega) | omega) _))) hso)) (by simp; omega) hgrow (fun j hj => (HO.out.lt j hj).1))⟩
          case measure => first | (simp [intOf]; done) | (simp [intOf]; omega)
        · rw [decide_eq_false gS3] at S3
          by_cases gS4 : xa = [109, 105, 110]
          · rw [decide_eq_true gS4] at S4
            rw [if_pos (by simp [gS4])] at hcf
            subst hcf
            dsimp only at htk
            obtain ⟨Z, hZ⟩ : ∃ Z : ByteArray, (⟨(xa ++ [95] ++ xc).toArray⟩ : ByteArray) = Z := ⟨_, rfl⟩
            have hcat : U ++ ⟨#[95]⟩ ++ VV = Z := by rw [← hU, ← hVV, ← hZ]; exact cat_l _ _ xc (cat_l _ xa [95] rfl)
            rw [hZ] at htk
            have z1 : ¬ 9223372036854775807 < xa.length + 1 := by omega
            have z2 : ¬ 9223372036854775807 < xa.length + 1 + xc.length := by omega
            clear h1 hU hVV hZ g1 g2 gS3 gS4
            go_wp2_with (first | (go_at_call 35; (with_reducible refine (TO2.out _ (by repeat (first | (with_reducible exact hBW) | (with_reducible refine Below.alloc ?_ (by first | (simp; done) | (simp; omega) | omega) _)))).mono ?_); rintro e w4 ⟨rfl, hb4⟩; obtain ⟨hc4, hf4⟩ := bcell hb4; (try simp only [drew_size, drew_cell, drew_frozen, World.size_alloc, World.size_setCell] at hc4 hf4); have hz4 : wo.heap.size < w4.heap.size ∧ n3 < w4.heap.size ∧ w.heap.size < w4.heap.size := (by have := hb4.size; (try simp at this); omega); have hB4 : Below wo.heap.size wo w4 := (by refine Below.trans ?_ (hb4.mono (by first | (simp; done) | (simp; omega) | omega)); repeat (first | (with_reducible exact Below.refl _ _) | (with_reducible refine Below.alloc ?_ (by first | (simp; done) | (simp; omega) | omega) _)))) | (at_builtin; refine wpList_append_lies _ rfl _ _ _ rfl (n3 + 1) 64 i _ 2 24 Tryz.underlying57 hi iz0 iz1 iz2 rfl (by decide) V k _ rfl (own_below HO.out (by repeat (first | (with_reducible exact hB4) | (with_reducible refine Below.setCell ?_ (by first | (simp; done) | (simp; omega) | omega) _) | (with_reducible refine Below.alloc ?_ (by first | (simp; done) | (simp; omega) | omega) _)))) ⟨w4.heap.size + 1, 0, none⟩ 1 1 [.string Z, .int .i64 ty] rfl rfl (World.news_of_block (cs := #[.string Z, .int .i64 ty]) (t := 64) (fr := (0, 0)) (heap_alloc_at (by simp))) (by simp [Value.oneCell']) (by omega) (by unfold maxLen; omega) (by omega) (by simp; omega) (w4.heap.size + 1 + 1) (by simp) ?_; intro gg cap w1' hown1 hgrow hat hlt'))
            go_roundw
            case rel => exact ⟨k + 1, _, by omega, by go_num, rfl, Lib.hid (by rw [htk.out]; exact hown1), Lib.hid (below_push (B := n3 + 1) (HB.out.trans (Below.mono (by repeat (first | (with_reducible exact hB4) | (with_reducible refine Below.setCell ?_ (by first | (simp; done) | (simp; omega) | omega) _) | (with_reducible refine Below.alloc ?_ (by first | (simp; done) | (simp; omega) | omega) _))) hso)) (by simp; omega) hgrow (fun j hj => (HO.out.lt j hj).1))⟩
            case measure => first | (simp [intOf]; done) | (simp [intOf]; omega)
          · rw [decide_eq_false gS4] at S4
            by_cases gS5 : xa = [109, 97, 120]
            · rw [decide_eq_true gS5] at S5
              rw [if_pos (by simp [gS5])] at hcf
              subst hcf
              dsimp only at htk
              obtain ⟨Z, hZ⟩ : ∃ Z : ByteArray, (⟨(xa ++ [95] ++ xc).toArray⟩ : ByteArray) = Z := ⟨_, rfl⟩
              have hcat : U ++ ⟨#[95]⟩ ++ VV = Z := by rw [← hU, ← hVV, ← hZ]; exact cat_l _ _ xc (cat_l _ xa [95] rfl)
              rw [hZ] at htk
              have z1 : ¬ 9223372036854775807 < xa.length + 1 := by omega
              have z2 : ¬ 9223372036854775807 < xa.length + 1 + xc.length := by omega
              clear h1 hU hVV hZ g1 g2 gS3 gS4 gS5
              go_wp2_with (first | (go_at_call 35; (with_reducible refine (TO2.out _ (by repeat (first | (with_reducible exact hBW) | (with_reducible refine Below.alloc ?_ (by first | (simp; done) | (simp; omega) | omega) _)))).mono ?_); rintro e w4 ⟨rfl, hb4⟩; obtain ⟨hc4, hf4⟩ := bcell hb4; (try simp only [drew_size, drew_cell, drew_frozen, World.size_alloc, World.size_setCell] at hc4 hf4); have hz4 : wo.heap.size < w4.heap.size ∧ n3 < w4.heap.size ∧ w.heap.size < w4.heap.size := (by have := hb4.size; (try simp at this); omega); have hB4 : Below wo.heap.size wo w4 := (by refine Below.trans ?_ (hb4.mono (by first | (simp; done) | (simp; omega) | omega)); repeat (first | (with_reducible exact Below.refl _ _) | (with_reducible refine Below.alloc ?_ (by first | (simp; done) | (simp; omega) | omega) _)))) | (at_builtin; refine wpList_append_lies _ rfl _ _ _ rfl (n3 + 1) 64 i _ 2 24 Tryz.underlying57 hi iz0 iz1 iz2 rfl (by decide) V k _ rfl (own_below HO.out (by repeat (first | (with_reducible exact hB4) | (with_reducible refine Below.setCell ?_ (by first | (simp; done) | (simp; omega) | omega) _) | (with_reducible refine Below.alloc ?_ (by first | (simp; done) | (simp; omega) | omega) _)))) ⟨w4.heap.size + 1, 0, none⟩ 1 1 [.string Z, .int .i64 ty] rfl rfl (World.news_of_block (cs := #[.string Z, .int .i64 ty]) (t := 64) (fr := (0, 0)) (heap_alloc_at (by simp))) (by simp [Value.oneCell']) (by omega) (by unfold maxLen; omega) (by omega) (by simp; omega) (w4.heap.size + 1 + 1) (by simp) ?_; intro gg cap w1' hown1 hgrow hat hlt'))
              go_roundw
              case rel => exact ⟨k + 1, _, by omega, by go_num, rfl, Lib.hid (by rw [htk.out]; exact hown1), Lib.hid (below_push (B := n3 + 1) (HB.out.trans (Below.mono (by repeat (first | (with_reducible exact hB4) | (with_reducible refine Below.setCell ?_ (by first | (simp; done) | (simp; omega) | omega) _) | (with_reducible refine Below.alloc ?_ (by first | (simp; done) | (simp; omega) | omega) _))) hso)) (by simp; omega) hgrow (fun j hj => (HO.out.lt j hj).1))⟩
              case measure => first | (simp [intOf]; done) | (simp [intOf]; omega)
            · rw [decide_eq_false gS5] at S5
              rw [if_neg (by rintro (h | h | h); exact gS3 h; exact gS4 h; exact gS5 h)] at hcf
              subst hcf
              dsimp only at htk
              rw [hVV] at htk
              clear h1 hU hVV g1 g2 gS3 gS4 gS5 hsU hsV
              go_wp2_with (first | (go_at_call 35; (with_reducible refine (TO2.out _ (by repeat (first | (with_reducible exact hBW) | (with_reducible refine Below.alloc ?_ (by first | (simp; done) | (simp; omega) | omega) _)))).mono ?_); rintro e w4 ⟨rfl, hb4⟩; obtain ⟨hc4, hf4⟩ := bcell hb4; (try simp only [drew_size, drew_cell, drew_frozen, World.size_alloc, World.size_setCell] at hc4 hf4); have hz4 : wo.heap.size < w4.heap.size ∧ n3 < w4.heap.size ∧ w.heap.size < w4.heap.size := (by have := hb4.size; (try simp at this); omega); have hB4 : Below wo.heap.size wo w4 := (by refine Below.trans ?_ (hb4.mono (by first | (simp; done) | (simp; omega) | omega)); repeat (first | (with_reducible exact Below.refl _ _) | (with_reducible refine Below.alloc ?_ (by first | (simp; done) | (simp; omega) | omega) _)))) | (at_builtin; refine wpList_append_lies _ rfl _ _ _ rfl (n3 + 1) 64 i _ 2 24 Tryz.underlying57 hi iz0 iz1 iz2 rfl (by decide) V k _ rfl (own_below HO.out (by repeat (first | (with_reducible exact hB4) | (with_reducible refine Below.setCell ?_ (by first | (simp; done) | (simp; omega) | omega) _) | (with_reducible refine Below.alloc ?_ (by first | (simp; done) | (simp; omega) | omega) _)))) ⟨w4.heap.size + 1, 0, none⟩ 1 1 [.string VV, .int .i64 ty] rfl rfl (World.news_of_block (cs := #[.string VV, .int .i64 ty]) (t := 64) (fr := (0, 0)) (heap_alloc_at (by simp))) (by simp [Value.oneCell']) (by omega) (by unfold maxLen; omega) (by omega) (by simp; omega) (w4.heap.size + 1 + 1) (by simp) ?_; intro gg cap w1' hown1 hgrow hat hlt'))
              go_roundw
              case rel => exact ⟨k + 1, _, by omega, by go_num, rfl, Lib.hid (by rw [htk.out]; exact hown1), Lib.hid (below_push (B := n3 + 1) (HB.out.trans (Below.mono (by repeat (first | (with_reducible exact hB4) | (with_reducible refine Below.setCell ?_ (by first | (simp; done) | (simp; omega) | omega) _) | (with_reducible refine Below.alloc ?_ (by first | (simp; done) | (simp; omega) | omega) _))) hso)) (by simp; omega) hgrow (fun j hj => (HO.out.lt j hj).1))⟩
              case measure => first | (simp [intOf]; done) | (simp [intOf]; omega)
    · obtain rfl : k = I.length := by omega
      have hkk : ¬ (I.length : Int) < (I.length : Int) := by omega
      have ho := HO.out
      have hln : (I.map (colF s)).length = I.length := List.length_map ..
      rw [List.take_of_length_le (by rw [hln]; exact Nat.le_refl _)] at ho
      obtain ⟨A9, c9, rfl⟩ := own_form ho
      have ho2 : wo.ownsRow (n3 + 1) 64 2 (.slice A9 I.length c9) (I.map (colF s)).length (cellsC (I.map (colF s))) := by rw [hln]; exact ho
      obtain ⟨hcl, -, -⟩ := own_cols ho2
      have HF := Lib.hid (HQ.out A9 c9 wo hcl (bW3.trans (HB.out.mono (by omega))))
      clear ho ho2 hcl HO hln
      go_wp2_with (fail)
      exact HF.out
end Go.Proofs.YtijlifdbjhieaaaGreatDoor
