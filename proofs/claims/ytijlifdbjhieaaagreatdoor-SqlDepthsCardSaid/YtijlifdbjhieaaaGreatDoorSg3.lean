/-
  The law's Query: a query made anew. (Printed by tools/mksg3.py.)
-/
import Derived.Test.YtijlifdbjhieaaaGreatDoorSg3a
namespace Go.Proofs.YtijlifdbjhieaaaGreatDoor
set_option linter.all false
open Go.RowKit Go.Shelf Go.Sort
attribute [local go_sem] cell_set_self lt_1 lt_2 lt_3 lt_4 lt_5 lt_6

set_option maxHeartbeats 16000000 in
set_option maxRecDepth 100000 in
theorem lquery_any (q : QueryT) (AI AG AO : Option Addr) (cI cG cO : Nat) (cs : List Value) (w : World) (H : QV w q AI AG AO cs) (hni : q.items.length ≤ 1000000) (hng : q.group.length ≤ 1000000) (hno : q.order.length ≤ 1000000) (hwh : LtC 1000000 q.wh) (hcG : q.group.length ≤ cG ∧ (AG = none → cG = 0)) :
    Calls Tryz.prog 14 #[.agg (qCells AI q.items.length cI q.table cs AG q.group.length cG AO q.order.length cO q.limit).toArray] w fun e w' => (∃ AI' cI' AG' cG' AO' cO' cs', e = .returned (.agg (qCells AI' q.items.length cI' q.table cs' AG' q.group.length cG' AO' q.order.length cO' q.limit).toArray) ∧ QV w' q AI' AG' AO' cs') ∧ Below w.heap.size w w' := by
  suffices key : ∀ Q : Ending → World → Prop, Hid (∀ AI' cI' AG' cG' AO' cO' cs' w', QV w' q AI' AG' AO' cs' → Below w.heap.size w w' → Q (.returned (.agg (qCells AI' q.items.length cI' q.table cs' AG' q.group.length cG' AO' q.order.length cO' q.limit).toArray)) w') → Calls Tryz.prog 14 #[.agg (qCells AI q.items.length cI q.table cs AG q.group.length cG AO q.order.length cO q.limit).toArray] w Q from key _ (Lib.hid fun AI' cI' AG' cG' AO' cO' cs' w' h1 h2 => ⟨⟨AI', cI', AG', cG', AO', cO', cs', rfl, h1⟩, h2⟩)
  intro Q HQQ
  obtain ⟨I, T, C, G, O, lim⟩ := q
  have LC := Lib.hid (fun W (hb : Below w.heap.size w W) => lcond_any (fun _ => True) _ C cs W (Nat.le_refl _) (H.cv.keep (Kp.below hb)) hwh)
  have HI := Lib.hid H.it
  have HG := Lib.hid H.gr
  have HO := Lib.hid H.od
  have hcv := H.cv
  dsimp only at hni hng hno hcG HI HG HO HQQ ⊢
  obtain ⟨op, args, ⟨lc, lt, ln, ls⟩, ⟨rc, rt, rn, rs⟩⟩ := C
  obtain ⟨AC, cC, rfl, -⟩ := hcv.open
  dsimp only [qCells, condC, termC, List.cons_append, List.nil_append] at LC ⊢
  obtain ⟨hcG1, hcG2⟩ := hcG
  have HCG := Lib.hid hcG2
  have SPG := Lib.hid (fun W (hb : Below w.heap.size w W) => strs_spot (HG.out.below hb))
  obtain ⟨nI, hnI⟩ : ∃ n, I.length = n := ⟨_, rfl⟩
  obtain ⟨nG, hnG⟩ : ∃ n, G.length = n := ⟨_, rfl⟩
  obtain ⟨nO, hnO⟩ : ∃ n, O.length = n := ⟨_, rfl⟩
  obtain ⟨nC, hnC⟩ : ∃ n, args.length = n := ⟨_, rfl⟩
  have HNI := Lib.hid hnI; have HNG := Lib.hid hnG; have HNO := Lib.hid hnO; have HNC := Lib.hid hnC
  rw [hnI] at hni; rw [hnG] at hng hcG1; rw [hnO] at hno
  simp only [hnI, hnG, hnO] at HQQ ⊢
  rw [hnC] at LC ⊢
  have HFIN : Hid (∀ AI' cI' AG' cG' AO' cO' A5 c5 w', ItL w' AI' I → Strs w' AG' G → OrL w' AO' O → CV (fun _ => True) w' (.mk op args ⟨lc, lt, ln, ls⟩ ⟨rc, rt, rn, rs⟩) [.int .i64 op, .slice A5 nC c5, .string ⟨lc.toArray⟩, .int .i64 lt, .int .i64 ln, .string ⟨ls.toArray⟩, .string ⟨rc.toArray⟩, .int .i64 rt, .int .i64 rn, .string ⟨rs.toArray⟩] → Below w.heap.size w w' → Q (.returned (.agg #[.slice AI' nI cI', .string ⟨T.toArray⟩, .int .i64 op, .slice A5 nC c5, .string ⟨lc.toArray⟩, .int .i64 lt, .int .i64 ln, .string ⟨ls.toArray⟩, .string ⟨rc.toArray⟩, .int .i64 rt, .int .i64 rn, .string ⟨rs.toArray⟩, .slice AG' nG cG', .slice AO' nO cO', .int .i64 lim])) w') :=
    Lib.hid fun AI' cI' AG' cG' AO' cO' A5 c5 w' h1 h2 h3 h4 h5 => HQQ.out AI' cI' AG' cG' AO' cO' _ w' ⟨h1, h2, h3, h4⟩ h5
  clear HQQ hnI hnG hnO hnC H hcv hwh hcG2
  generalize (⟨T.toArray⟩ : ByteArray) = TB at *
  obtain ⟨U1, hU1⟩ : ∃ U : ByteArray, (⟨lc.toArray⟩ : ByteArray) = U := ⟨_, rfl⟩
  obtain ⟨U2, hU2⟩ : ∃ U : ByteArray, (⟨ls.toArray⟩ : ByteArray) = U := ⟨_, rfl⟩
  obtain ⟨U3, hU3⟩ : ∃ U : ByteArray, (⟨rc.toArray⟩ : ByteArray) = U := ⟨_, rfl⟩
  obtain ⟨U4, hU4⟩ : ∃ U : ByteArray, (⟨rs.toArray⟩ : ByteArray) = U := ⟨_, rfl⟩
  rw [hU1, hU2, hU3, hU4] at LC HFIN
  rw [hU1, hU2, hU3, hU4]
  have LC2 : Hid (∀ W, Below w.heap.size w W → Calls Tryz.prog 33 #[.agg #[.int .i64 op, .slice AC nC cC, .string U1, .int .i64 lt, .int .i64 ln, .string U2, .string U3, .int .i64 rt, .int .i64 rn, .string U4]] W fun e w' => (∃ A5 c5, e = .returned (.agg #[.int .i64 op, .slice A5 nC c5, .string U1, .int .i64 lt, .int .i64 ln, .string U2, .string U3, .int .i64 rt, .int .i64 rn, .string U4]) ∧ CV (fun b => W.heap.size ≤ b) w' (.mk op args ⟨lc, lt, ln, ls⟩ ⟨rc, rt, rn, rs⟩) [.int .i64 op, .slice A5 nC c5, .string U1, .int .i64 lt, .int .i64 ln, .string U2, .string U3, .int .i64 rt, .int .i64 rn, .string U4]) ∧ Below W.heap.size W w') := Lib.hid fun W hb => (LC.out W hb).mono fun e w' ⟨⟨cs', he, hv⟩, hb'⟩ => by
    obtain ⟨A5, c5, rfl, -⟩ := hv.open
    dsimp only [condC, termC, List.cons_append, List.nil_append] at he hv
    rw [HNC.out, hU1, hU2, hU3, hU4] at he hv
    exact ⟨⟨A5, c5, he, hv⟩, hb'⟩
  clear LC hU1 hU2 hU3 hU4
  have z0 : w.heap.size < w.heap.size + 1 + 1 ∧ w.heap.size + 1 < w.heap.size + 1 + 1 := by omega
  obtain ⟨i0, hi0, iz0, iz1, iz2⟩ := info_parts info_str
  have al := fun (X : World) (o : Obj) (k : Nat) (h : k < X.heap.size) => (((Below.refl _ X).alloc (Nat.le_refl _) o).block k h)
  refine (lqA AI AG AO AC cI cG cO cC nI nG nO nC op lt ln rt rn lim TB U1 U2 U3 U4 G args lc ls rc rs w Q).2 hcG1 hng HNG HCG HG LC2 ⟨?_⟩
  delta lqA
  intro wc u3 u6 u7 u8 u9 u10 u11 u12 u13 u14 u15 u16 u17 hcut
  obtain ⟨b3, A5, A6, c5, c6, rfl, h32, h3l, HB3, HB1, HS6, HV5, o1, o13, y0, B0⟩ := hcut
  obtain ⟨w3, rfl⟩ : ∃ wq : World, wq = wc := ⟨_, rfl⟩
  obtain ⟨i1, hi1, jz0, jz1, jz2⟩ := info_parts info_litem
  obtain ⟨i2, hi2, kz0, kz1, kz2⟩ := info_parts info_lorder
  obtain ⟨n3, hn3⟩ : ∃ n, w3.heap.size = n := ⟨_, rfl⟩
  have HN3 := Lib.hid hn3
  have h3n : b3 < n3 := by omega
  have HK0 : Hid (Kp (fun q => q ≠ b3) w3 w3) := Lib.hid (Kp.refl _ _)
  clear hn3 h3l
  go_wp2_with (fail)
  go_loopw [4] (fun j wr => ∃ (k : Nat) (V : Value), k ≤ nI ∧ j = .int .i64 k ∧ Hid (wr.ownsRow n3 91 2 V k (cellsI (I.take k))) ∧ Hid (wr.heap[b3]? = some (.cells #[V, .string TB, .int .i64 op, .slice A5 nC c5, .string U1, .int .i64 lt, .int .i64 ln, .string U2, .string U3, .int .i64 rt, .int .i64 rn, .string U4, .slice A6 nG c6, .slice none 0 0, .int .i64 lim] 48 (0, 0))) ∧ Hid (wr.heap[w.heap.size + 1]? = some (.cells #[.slice none 0 0, .string ⟨#[]⟩, .int .i64 0, .slice none 0 0, .string ⟨#[]⟩, .int .i64 0, .int .i64 0, .string ⟨#[]⟩, .string ⟨#[]⟩, .int .i64 0, .int .i64 0, .string ⟨#[]⟩, .slice none 0 0, .slice none 0 0, .int .i64 0] 48 (0, 0))) ∧ Hid (Kp (fun q => q ≠ b3) w3 wr) ∧ n3 ≤ wr.heap.size ∧ Hid (wr.cell? ⟨w.heap.size, 0, none⟩ = some (.slice AI nI cI) ∧ wr.cell? ⟨w.heap.size, 13, none⟩ = some (.slice AO nO cO) ∧ w.heap.size < wr.heap.size ∧ Below w.heap.size w wr)) (fun j _ => nI - (intOf j).toNat)
  case atStart => exact ⟨0, _, by omega, rfl, Lib.hid (World.ownsRow_nil _ _ _ _), HB3, HB1, HK0, by have := HN3.out; omega, Lib.hid ⟨o1, o13, y0, B0⟩⟩
  case round =>
    clear HB3 HB1 HK0 o1 o13 y0 B0
    obtain ⟨k, V, hk, rfl, HR, HB3, HB1, HK, hnw, HC⟩ := hrel
    obtain ⟨wo, rfl⟩ : ∃ wo : World, wo = wr := ⟨_, rfl⟩
    obtain ⟨o1, o13, y0, B0⟩ := HC.out
    obtain ⟨A2, c2, rfl⟩ := own_form HR.out
    obtain ⟨o31, f31⟩ := qbox (l := [.slice A2 k c2, .string TB, .int .i64 op, .slice A5 nC c5, .string U1, .int .i64 lt, .int .i64 ln, .string U2, .string U3, .int .i64 rt, .int .i64 rn, .string U4, .slice A6 nG c6, .slice none 0 0, .int .i64 lim]) HB3.out 0 _ rfl
    have h3w : b3 < wo.heap.size := by omega
    by_cases hlt : k < nI
    · have hlt' : (k : Int) < (nI : Int) := by omega
      obtain ⟨x, hx⟩ : ∃ x, I[k]? = some x := ⟨_, List.getElem?_eq_getElem (by rw [HNI.out]; exact hlt)⟩
      have htk : Hid (cellsI (I.take (k + 1)) = cellsI (I.take k) ++ [.string ⟨x.agg.toArray⟩, .string ⟨x.col.toArray⟩]) := Lib.hid (by rw [List.take_succ, hx]; exact cellsI_app _ _)
      obtain ⟨b, off, rfl, hb, k0, k1⟩ := (HI.out.below B0) k x hx
      obtain ⟨b0, off0, e0, hb0, -⟩ := HI.out k x hx
      injection e0 with e0; injection e0 with e1 e2; subst e1 e2
      obtain ⟨xa, xc⟩ := x
      dsimp only at htk k0 k1
      generalize (⟨xa.toArray⟩ : ByteArray) = X1 at *
      generalize (⟨xc.toArray⟩ : ByteArray) = X2 at *
      have hne0 : b ≠ w.heap.size ∧ b3 ≠ b ∧ b3 ≠ w.heap.size ∧ b < b3 := by omega
      have HRO := HR
      obtain ⟨xs, hxs⟩ : ∃ xs, cellsI (I.take k) = xs := ⟨_, rfl⟩
      rw [hxs] at HRO htk
      clear hx hxs
      go_wp2_with (fail)
      (refine wp_region_last_held ((fun w' => w'.cell? ⟨w.heap.size, 0, none⟩ = some (.slice (some ⟨b, off, none⟩) nI cI) ∧ w'.cell? ⟨w.heap.size, 13, none⟩ = some (.slice AO nO cO) ∧ w'.cell? ⟨b3, 0, none⟩ = some (.slice A2 k c2) ∧ w'.cell? ⟨b, off + k * 2, none⟩ = some (.string X1) ∧ w'.cell? ⟨b, off + k * 2 + 1, none⟩ = some (.string X2) ∧ w.heap.size < w'.heap.size ∧ b < w'.heap.size ∧ b3 < w'.heap.size ∧ Below w.heap.size w w')) rfl (by kernel_rfl) (by kernel_rfl) ?hS0 (fun hHeld => ?_); (case hS0 => ((try dsimp only); (refine ⟨?_, ?_, ?_, ?_, ?_, ?_, ?_, ?_, ?_⟩ <;> first | (simp [go_sem, *]; done) | omega | (simp; omega) | exact (by repeat (first | (with_reducible exact Below.refl _ _) | (with_reducible assumption) | (with_reducible refine Below.setCell ?_ (by first | (simp; done) | (simp; omega) | omega) _) | (with_reducible refine Below.alloc ?_ (by first | (simp; done) | (simp; omega) | omega) _) | (with_reducible refine Below.drew ?_) | (with_reducible refine Below.trans ?_ (Below.mono (by assumption) (by first | (simp; done) | (simp; omega) | omega)))))))); simp only [List.dropLast_cons_cons, List.dropLast_singleton, List.length_cons, List.length_nil, Nat.zero_add, Nat.reduceAdd])
      (refine take2 0 (some 25) (.pointer (some ⟨b3, 0, none⟩)) rfl (by kernel_rfl) (by kernel_rfl) (by kernel_rfl) rfl (fun _ _ _ h => h) (Or.inl ⟨by rfl, fun W' hSw => (by (try dsimp only at hSw); go_simp)⟩) (by assumption) ?_; (try simp only [Act.put, List.setIfInBounds_toArray, List.set_cons_zero, List.set_cons_succ]))
      (refine take2 1 (some 26) (.slice A2 k c2) rfl (by kernel_rfl) (by kernel_rfl) (by kernel_rfl) rfl (fun _ _ _ h => h) (Or.inl ⟨by rfl, fun W' hSw => (by (try dsimp only at hSw); go_simp)⟩) (by assumption) ?_; (try simp only [Act.put, List.setIfInBounds_toArray, List.set_cons_zero, List.set_cons_succ]))
      (refine take2 2 (some 27) (.pointer (some ⟨w.heap.size, 0, none⟩)) rfl (by kernel_rfl) (by kernel_rfl) (by kernel_rfl) rfl (fun _ _ _ h => h) (Or.inl ⟨by rfl, fun W' hSw => (by (try dsimp only at hSw); go_simp)⟩) (by assumption) ?_; (try simp only [Act.put, List.setIfInBounds_toArray, List.set_cons_zero, List.set_cons_succ]))
      (refine take2 3 (some 28) (.slice (some ⟨b, off, none⟩) nI cI) rfl (by kernel_rfl) (by kernel_rfl) (by kernel_rfl) rfl (fun _ _ _ h => h) (Or.inl ⟨by rfl, fun W' hSw => (by (try dsimp only at hSw); go_simp)⟩) (by assumption) ?_; (try simp only [Act.put, List.setIfInBounds_toArray, List.set_cons_zero, List.set_cons_succ]))
      (refine take2 4 (some 29) (.int .i64 k) rfl (by kernel_rfl) (by kernel_rfl) (by kernel_rfl) rfl (fun _ _ _ h => h) (Or.inl ⟨by rfl, fun W' hSw => (by (try dsimp only at hSw); go_simp)⟩) (by assumption) ?_; (try simp only [Act.put, List.setIfInBounds_toArray, List.set_cons_zero, List.set_cons_succ]))
      (refine take2 5 (some 30) (.pointer (some ⟨b, off + k * 2, none⟩)) rfl (by kernel_rfl) (by kernel_rfl) (by kernel_rfl) rfl (fun _ _ _ h => h) (Or.inl ⟨by rfl, fun W' hSw => (by (try dsimp only at hSw); go_simp)⟩) (by assumption) ?_; (try simp only [Act.put, List.setIfInBounds_toArray, List.set_cons_zero, List.set_cons_succ]))
      (refine take2 6 (some 31) (.pointer (some ⟨b, off + k * 2, none⟩)) rfl (by kernel_rfl) (by kernel_rfl) (by kernel_rfl) rfl (fun _ _ _ h => h) (Or.inl ⟨by rfl, fun W' hSw => (by (try dsimp only at hSw); go_simp)⟩) (by assumption) ?_; (try simp only [Act.put, List.setIfInBounds_toArray, List.set_cons_zero, List.set_cons_succ]))
      (refine take2 7 (some 32) (.string X1) rfl (by kernel_rfl) (by kernel_rfl) (by kernel_rfl) rfl (fun _ _ _ h => h) (Or.inl ⟨by rfl, fun W' hSw => (by (try dsimp only at hSw); go_simp)⟩) (by assumption) ?_; (try simp only [Act.put, List.setIfInBounds_toArray, List.set_cons_zero, List.set_cons_succ]))
      (refine take2 8 (some 33) (.pointer (some ⟨w.heap.size, 0, none⟩)) rfl (by kernel_rfl) (by kernel_rfl) (by kernel_rfl) rfl (fun _ _ _ h => h) (Or.inl ⟨by rfl, fun W' hSw => (by (try dsimp only at hSw); go_simp)⟩) (by assumption) ?_; (try simp only [Act.put, List.setIfInBounds_toArray, List.set_cons_zero, List.set_cons_succ]))
      (refine take2 9 (some 34) (.slice (some ⟨b, off, none⟩) nI cI) rfl (by kernel_rfl) (by kernel_rfl) (by kernel_rfl) rfl (fun _ _ _ h => h) (Or.inl ⟨by rfl, fun W' hSw => (by (try dsimp only at hSw); go_simp)⟩) (by assumption) ?_; (try simp only [Act.put, List.setIfInBounds_toArray, List.set_cons_zero, List.set_cons_succ]))
      (refine take2 10 (some 35) (.int .i64 k) rfl (by kernel_rfl) (by kernel_rfl) (by kernel_rfl) rfl (fun _ _ _ h => h) (Or.inl ⟨by rfl, fun W' hSw => (by (try dsimp only at hSw); go_simp)⟩) (by assumption) ?_; (try simp only [Act.put, List.setIfInBounds_toArray, List.set_cons_zero, List.set_cons_succ]))
      (refine take2 11 (some 36) (.pointer (some ⟨b, off + k * 2, none⟩)) rfl (by kernel_rfl) (by kernel_rfl) (by kernel_rfl) rfl (fun _ _ _ h => h) (Or.inl ⟨by rfl, fun W' hSw => (by (try dsimp only at hSw); go_simp)⟩) (by assumption) ?_; (try simp only [Act.put, List.setIfInBounds_toArray, List.set_cons_zero, List.set_cons_succ]))
      (refine take2 12 (some 37) (.pointer (some ⟨b, off + k * 2 + 1, none⟩)) rfl (by kernel_rfl) (by kernel_rfl) (by kernel_rfl) rfl (fun _ _ _ h => h) (Or.inl ⟨by rfl, fun W' hSw => (by (try dsimp only at hSw); go_simp)⟩) (by assumption) ?_; (try simp only [Act.put, List.setIfInBounds_toArray, List.set_cons_zero, List.set_cons_succ]))
      (refine take2 13 (some 38) (.string X2) rfl (by kernel_rfl) (by kernel_rfl) (by kernel_rfl) rfl (fun _ _ _ h => h) (Or.inl ⟨by rfl, fun W' hSw => (by (try dsimp only at hSw); go_simp)⟩) (by assumption) ?_; (try simp only [Act.put, List.setIfInBounds_toArray, List.set_cons_zero, List.set_cons_succ]))
      (refine take2 14 (some 39) (.agg #[.string X1, .string X2]) rfl (by kernel_rfl) (by kernel_rfl) (by kernel_rfl) rfl (fun _ _ _ h => h) (Or.inl ⟨by rfl, fun W' hSw => (by (try dsimp only at hSw); go_simp)⟩) (by assumption) ?_; (try simp only [Act.put, List.setIfInBounds_toArray, List.set_cons_zero, List.set_cons_succ]))
      (refine wpAnyH_ready (rs := [15]) (by kernel_rfl) (by simp) ?_; refine AllReadyH.cons rfl (fun K hK => ?_) AllReadyH.nil; (go_simp); refine hK.out _ _ ?hS1 (fun hHeld1 => ?_); (case hS1 => ((try dsimp only); (refine ⟨?_, ?_, ?_, ?_, ?_, ?_, ?_, ?_, ?_⟩ <;> first | (simp [go_sem, *]; done) | omega | (simp; omega) | exact (by repeat (first | (with_reducible exact Below.refl _ _) | (with_reducible assumption) | (with_reducible refine Below.setCell ?_ (by first | (simp; done) | (simp; omega) | omega) _) | (with_reducible refine Below.alloc ?_ (by first | (simp; done) | (simp; omega) | omega) _) | (with_reducible refine Below.drew ?_) | (with_reducible refine Below.trans ?_ (Below.mono (by assumption) (by first | (simp; done) | (simp; omega) | omega)))))))); clear hK K hHeld; have hHeld := hHeld1; clear hHeld1; (try simp only [Act.put, List.setIfInBounds_toArray, List.set_cons_zero, List.set_cons_succ]))
      (refine wpAnyH_ready (rs := [16]) (by kernel_rfl) (by simp) ?_; refine AllReadyH.cons rfl (fun K hK => ?_) AllReadyH.nil; (refine step_append_lies _ rfl (.tmp 26) (.tmp 40) 41 rfl n3 91 i1 _ 2 32 Tryz.underlying41 hi1 jz0 jz1 jz2 rfl (by decide) (.slice A2 k c2) k xs rfl (own_alloc (own_below HRO.out ((Below.refl _ _).drew)) _) ⟨wo.heap.size, 0, none⟩ 1 1 [.string X1, .string X2] rfl rfl (World.news_of_block (cs := #[.string X1, .string X2]) (t := 91) (fr := (0, 0)) (heap_alloc_new wo.drew _)) (by simp [Value.oneCell']) (by omega) (by unfold maxLen; omega) (by omega) (by simp; omega) (wo.heap.size + 1) (by simp) ?_; intro gg cap w9 hown1 hgrow hat hlt9; change K (Act.put _ (some 41) _) _; have hr9 : ∀ q, (Value.slice A2 k c2).ownBlock = some q → n3 ≤ q := (fun q hq => (HRO.out.lt q hq).1); have hc9 := grown_low hgrow hr9; have hs9 : wo.heap.size < w9.heap.size := (by have := hgrow.size; simp at this; omega); have hb9 : Below w.heap.size w w9 := (Below.grown (Below.alloc (B0.drew) (by simp; omega) _) hgrow (by simp; omega) (fun j hj => by have := hr9 j hj; omega))); refine hK.out _ _ ?hS1 (fun hHeld1 => ?_); (case hS1 => ((try dsimp only); (obtain ⟨e0, e1, e2, e3, e4, -⟩ := hHeld; exact ⟨(hc9 _ _ (by omega) (by simp; omega)).trans e0, (hc9 _ _ (by omega) (by simp; omega)).trans e1, (hc9 _ _ (by omega) (by simp; omega)).trans e2, (hc9 _ _ (by omega) (by simp; omega)).trans e3, (hc9 _ _ (by omega) (by simp; omega)).trans e4, by omega, by omega, by omega, hb9⟩))); clear hK K hHeld; have hHeld := hHeld1; clear hHeld1; (try simp only [Act.put, List.setIfInBounds_toArray, List.set_cons_zero, List.set_cons_succ]))
      (refine take2 17 (some 42) (.pointer (some ⟨b3, 0, none⟩)) rfl (by kernel_rfl) (by kernel_rfl) (by kernel_rfl) rfl (fun _ _ _ h => h) (Or.inl ⟨by rfl, fun W' hSw => (by (try dsimp only at hSw); go_simp)⟩) (by assumption) ?_; (try simp only [Act.put, List.setIfInBounds_toArray, List.set_cons_zero, List.set_cons_succ]))
      have HEL := Lib.hid hHeld
      (refine wpAnyH_done (by kernel_rfl) ?_ _; simp only [lastQ]; clear hHeld; change Oper.wp _ (Oper.mk none (Op.store 41 (Operand.tmp 42) (Operand.tmp 41)) _ _ _ none) _ _ _ _)
      obtain ⟨e0, e1, e2, e3, e4, x0, x1, x2, -⟩ := HEL.out
      have blk9 : ∀ q, q < n3 → q < wo.heap.size → w9.heap[q]? = wo.heap[q]? := fun q hq hqs => (hgrow.block q (by simp; omega) (fun e => by have := hr9 q e.symm; omega)).trans (al wo.drew _ q hqs)
      have HB39 := Lib.hid ((blk9 b3 (by omega) (by omega)).trans HB3.out)
      have HB19 := Lib.hid ((blk9 (w.heap.size + 1) (by omega) (by omega)).trans HB1.out)
      obtain ⟨-, f39⟩ := qbox (l := [.slice A2 k c2, .string TB, .int .i64 op, .slice A5 nC c5, .string U1, .int .i64 lt, .int .i64 ln, .string U2, .string U3, .int .i64 rt, .int .i64 rn, .string U4, .slice A6 nG c6, .slice none 0 0, .int .i64 lim]) HB39.out 0 _ rfl
      have HRN : Hid (w9.ownsRow n3 91 2 (.slice (some ⟨gg, 0, none⟩) (k + 1) cap) (k + 1) (cellsI (I.take (k + 1)))) := Lib.hid (by rw [htk.out]; exact hown1)
      have HKN : Hid (Kp (fun q => q ≠ b3) w3 w9) := Lib.hid ⟨by have := HK.out.size; omega, fun q hq hqs => (blk9 q (by have := HN3.out; omega) (by have := HK.out.size; omega)).trans (HK.out.block q hq hqs)⟩
      clear hgrow hat hown1 hc9 hr9 HRO
      go_simp
      go_wp2_with (fail)
      refine ⟨⟨k + 1, _, by omega, by go_num, Lib.hid (own_set HRN.out (by omega) _ _), Lib.hid (set_at HB39.out 0 _), Lib.hid ((setCell_block _ _ _ _ (by omega)).trans HB19.out), Lib.hid (HKN.out.set (by dsimp only; omega) _), by simp; omega, Lib.hid ⟨(World.cell?_setCell_far _ _ _ _ (by dsimp only; omega)).trans e0, (World.cell?_setCell_far _ _ _ _ (by dsimp only; omega)).trans e1, by simp; omega, ?_⟩⟩, ?_⟩
      · exact Below.setCell hb9 (by dsimp only; omega) _
      · first | (simp [intOf]; done) | (simp [intOf]; omega)
    · obtain rfl : nI = k := by omega
      have hkk : ¬ (nI : Int) < (nI : Int) := by omega
      have HR8 : Hid (wo.ownsRow n3 91 2 (.slice A2 nI c2) nI (cellsI I)) := Lib.hid (by have h := HR.out; rw [List.take_of_length_le (by rw [HNI.out]; exact Nat.le_refl _)] at h; exact h)
      have HK8 := HK
      obtain ⟨w4, rfl⟩ : ∃ w4 : World, w4 = wo := ⟨_, rfl⟩
      obtain ⟨A8, rfl⟩ : ∃ A, A = A2 := ⟨_, rfl⟩
      obtain ⟨c8, rfl⟩ : ∃ c, c = c2 := ⟨_, rfl⟩
      obtain ⟨n4, hn4⟩ : ∃ n, w4.heap.size = n := ⟨_, rfl⟩
      have HN4 := Lib.hid hn4
      have h34 : b3 < n4 := by omega
      have HK0 : Hid (Kp (fun q => q ≠ b3) w4 w4) := Lib.hid (Kp.refl _ _)
      clear hn4 o31 f31 HR HK hnw h3w
      go_wp2_with (fail)
      clear o1
      go_loopw [5] (fun j wr => ∃ (k : Nat) (V : Value), k ≤ nO ∧ j = .int .i64 k ∧ Hid (wr.ownsRow n4 92 2 V k (cellsO (O.take k))) ∧ Hid (wr.heap[b3]? = some (.cells #[.slice A8 nI c8, .string TB, .int .i64 op, .slice A5 nC c5, .string U1, .int .i64 lt, .int .i64 ln, .string U2, .string U3, .int .i64 rt, .int .i64 rn, .string U4, .slice A6 nG c6, V, .int .i64 lim] 48 (0, 0))) ∧ Hid (wr.heap[w.heap.size + 1]? = some (.cells #[.slice none 0 0, .string ⟨#[]⟩, .int .i64 0, .slice none 0 0, .string ⟨#[]⟩, .int .i64 0, .int .i64 0, .string ⟨#[]⟩, .string ⟨#[]⟩, .int .i64 0, .int .i64 0, .string ⟨#[]⟩, .slice none 0 0, .slice none 0 0, .int .i64 0] 48 (0, 0))) ∧ Hid (Kp (fun q => q ≠ b3) w4 wr) ∧ n4 ≤ wr.heap.size ∧ Hid (wr.cell? ⟨w.heap.size, 13, none⟩ = some (.slice AO nO cO) ∧ w.heap.size < wr.heap.size ∧ Below w.heap.size w wr)) (fun j _ => nO - (intOf j).toNat)
      case atStart => exact ⟨0, _, by omega, rfl, Lib.hid (World.ownsRow_nil _ _ _ _), HB3, HB1, HK0, by have := HN4.out; omega, Lib.hid ⟨o13, y0, B0⟩⟩
      case round =>
        clear HB3 HB1 HK0 o13 y0 B0
        obtain ⟨k, V, hk, rfl, HR, HB3, HB1, HK, hnw, HC⟩ := hrel
        obtain ⟨wo, rfl⟩ : ∃ wo : World, wo = wr := ⟨_, rfl⟩
        obtain ⟨o13, y0, B0⟩ := HC.out
        obtain ⟨A2, c2, rfl⟩ := own_form HR.out
        obtain ⟨o31, f31⟩ := qbox (l := [.slice A8 nI c8, .string TB, .int .i64 op, .slice A5 nC c5, .string U1, .int .i64 lt, .int .i64 ln, .string U2, .string U3, .int .i64 rt, .int .i64 rn, .string U4, .slice A6 nG c6, .slice A2 k c2, .int .i64 lim]) HB3.out 13 _ rfl
        have h3w : b3 < wo.heap.size := by omega
        by_cases hlt : k < nO
        · have hlt' : (k : Int) < (nO : Int) := by omega
          obtain ⟨x, hx⟩ : ∃ x, O[k]? = some x := ⟨_, List.getElem?_eq_getElem (by rw [HNO.out]; exact hlt)⟩
          have htk : Hid (cellsO (O.take (k + 1)) = cellsO (O.take k) ++ [.string ⟨x.col.toArray⟩, .bool x.desc]) := Lib.hid (by rw [List.take_succ, hx]; exact cellsO_app _ _)
          obtain ⟨b, off, rfl, hb, k0, k1⟩ := (HO.out.below B0) k x hx
          obtain ⟨b0, off0, e0, hb0, -⟩ := HO.out k x hx
          injection e0 with e0; injection e0 with e1 e2; subst e1 e2
          obtain ⟨xc, xd⟩ := x
          dsimp only at htk k0 k1
          generalize (⟨xc.toArray⟩ : ByteArray) = X1 at *
          have hne0 : b ≠ w.heap.size ∧ b3 ≠ b ∧ b3 ≠ w.heap.size ∧ b < b3 := by omega
          have HRO := HR
          obtain ⟨xs, hxs⟩ : ∃ xs, cellsO (O.take k) = xs := ⟨_, rfl⟩
          rw [hxs] at HRO htk
          clear hx hxs
          go_wp2_with (fail)
          (refine wp_region_last_held ((fun w' => w'.cell? ⟨w.heap.size, 13, none⟩ = some (.slice (some ⟨b, off, none⟩) nO cO) ∧ w'.cell? ⟨b3, 13, none⟩ = some (.slice A2 k c2) ∧ w'.cell? ⟨b, off + k * 2, none⟩ = some (.string X1) ∧ w'.cell? ⟨b, off + k * 2 + 1, none⟩ = some (.bool xd) ∧ w.heap.size < w'.heap.size ∧ b < w'.heap.size ∧ b3 < w'.heap.size ∧ Below w.heap.size w w')) rfl (by kernel_rfl) (by kernel_rfl) ?hS0 (fun hHeld => ?_); (case hS0 => ((try dsimp only); (refine ⟨?_, ?_, ?_, ?_, ?_, ?_, ?_, ?_⟩ <;> first | (simp [go_sem, *]; done) | omega | (simp; omega) | exact (by repeat (first | (with_reducible exact Below.refl _ _) | (with_reducible assumption) | (with_reducible refine Below.setCell ?_ (by first | (simp; done) | (simp; omega) | omega) _) | (with_reducible refine Below.alloc ?_ (by first | (simp; done) | (simp; omega) | omega) _) | (with_reducible refine Below.drew ?_) | (with_reducible refine Below.trans ?_ (Below.mono (by assumption) (by first | (simp; done) | (simp; omega) | omega)))))))); simp only [List.dropLast_cons_cons, List.dropLast_singleton, List.length_cons, List.length_nil, Nat.zero_add, Nat.reduceAdd])
          (refine take2 0 (some 50) (.pointer (some ⟨b3, 13, none⟩)) rfl (by kernel_rfl) (by kernel_rfl) (by kernel_rfl) rfl (fun _ _ _ h => h) (Or.inl ⟨by rfl, fun W' hSw => (by (try dsimp only at hSw); go_simp)⟩) (by assumption) ?_; (try simp only [Act.put, List.setIfInBounds_toArray, List.set_cons_zero, List.set_cons_succ]))
          (refine take2 1 (some 51) (.slice A2 k c2) rfl (by kernel_rfl) (by kernel_rfl) (by kernel_rfl) rfl (fun _ _ _ h => h) (Or.inl ⟨by rfl, fun W' hSw => (by (try dsimp only at hSw); go_simp)⟩) (by assumption) ?_; (try simp only [Act.put, List.setIfInBounds_toArray, List.set_cons_zero, List.set_cons_succ]))
          (refine take2 2 (some 52) (.pointer (some ⟨w.heap.size, 13, none⟩)) rfl (by kernel_rfl) (by kernel_rfl) (by kernel_rfl) rfl (fun _ _ _ h => h) (Or.inl ⟨by rfl, fun W' hSw => (by (try dsimp only at hSw); go_simp)⟩) (by assumption) ?_; (try simp only [Act.put, List.setIfInBounds_toArray, List.set_cons_zero, List.set_cons_succ]))
          (refine take2 3 (some 53) (.slice (some ⟨b, off, none⟩) nO cO) rfl (by kernel_rfl) (by kernel_rfl) (by kernel_rfl) rfl (fun _ _ _ h => h) (Or.inl ⟨by rfl, fun W' hSw => (by (try dsimp only at hSw); go_simp)⟩) (by assumption) ?_; (try simp only [Act.put, List.setIfInBounds_toArray, List.set_cons_zero, List.set_cons_succ]))
          (refine take2 4 (some 54) (.int .i64 k) rfl (by kernel_rfl) (by kernel_rfl) (by kernel_rfl) rfl (fun _ _ _ h => h) (Or.inl ⟨by rfl, fun W' hSw => (by (try dsimp only at hSw); go_simp)⟩) (by assumption) ?_; (try simp only [Act.put, List.setIfInBounds_toArray, List.set_cons_zero, List.set_cons_succ]))
          (refine take2 5 (some 55) (.pointer (some ⟨b, off + k * 2, none⟩)) rfl (by kernel_rfl) (by kernel_rfl) (by kernel_rfl) rfl (fun _ _ _ h => h) (Or.inl ⟨by rfl, fun W' hSw => (by (try dsimp only at hSw); go_simp)⟩) (by assumption) ?_; (try simp only [Act.put, List.setIfInBounds_toArray, List.set_cons_zero, List.set_cons_succ]))
          (refine take2 6 (some 56) (.pointer (some ⟨b, off + k * 2, none⟩)) rfl (by kernel_rfl) (by kernel_rfl) (by kernel_rfl) rfl (fun _ _ _ h => h) (Or.inl ⟨by rfl, fun W' hSw => (by (try dsimp only at hSw); go_simp)⟩) (by assumption) ?_; (try simp only [Act.put, List.setIfInBounds_toArray, List.set_cons_zero, List.set_cons_succ]))
          (refine take2 7 (some 57) (.string X1) rfl (by kernel_rfl) (by kernel_rfl) (by kernel_rfl) rfl (fun _ _ _ h => h) (Or.inl ⟨by rfl, fun W' hSw => (by (try dsimp only at hSw); go_simp)⟩) (by assumption) ?_; (try simp only [Act.put, List.setIfInBounds_toArray, List.set_cons_zero, List.set_cons_succ]))
          (refine take2 8 (some 58) (.pointer (some ⟨w.heap.size, 13, none⟩)) rfl (by kernel_rfl) (by kernel_rfl) (by kernel_rfl) rfl (fun _ _ _ h => h) (Or.inl ⟨by rfl, fun W' hSw => (by (try dsimp only at hSw); go_simp)⟩) (by assumption) ?_; (try simp only [Act.put, List.setIfInBounds_toArray, List.set_cons_zero, List.set_cons_succ]))
          (refine take2 9 (some 59) (.slice (some ⟨b, off, none⟩) nO cO) rfl (by kernel_rfl) (by kernel_rfl) (by kernel_rfl) rfl (fun _ _ _ h => h) (Or.inl ⟨by rfl, fun W' hSw => (by (try dsimp only at hSw); go_simp)⟩) (by assumption) ?_; (try simp only [Act.put, List.setIfInBounds_toArray, List.set_cons_zero, List.set_cons_succ]))
          (refine take2 10 (some 60) (.int .i64 k) rfl (by kernel_rfl) (by kernel_rfl) (by kernel_rfl) rfl (fun _ _ _ h => h) (Or.inl ⟨by rfl, fun W' hSw => (by (try dsimp only at hSw); go_simp)⟩) (by assumption) ?_; (try simp only [Act.put, List.setIfInBounds_toArray, List.set_cons_zero, List.set_cons_succ]))
          (refine take2 11 (some 61) (.pointer (some ⟨b, off + k * 2, none⟩)) rfl (by kernel_rfl) (by kernel_rfl) (by kernel_rfl) rfl (fun _ _ _ h => h) (Or.inl ⟨by rfl, fun W' hSw => (by (try dsimp only at hSw); go_simp)⟩) (by assumption) ?_; (try simp only [Act.put, List.setIfInBounds_toArray, List.set_cons_zero, List.set_cons_succ]))
          (refine take2 12 (some 62) (.pointer (some ⟨b, off + k * 2 + 1, none⟩)) rfl (by kernel_rfl) (by kernel_rfl) (by kernel_rfl) rfl (fun _ _ _ h => h) (Or.inl ⟨by rfl, fun W' hSw => (by (try dsimp only at hSw); go_simp)⟩) (by assumption) ?_; (try simp only [Act.put, List.setIfInBounds_toArray, List.set_cons_zero, List.set_cons_succ]))
          (refine take2 13 (some 63) (.bool xd) rfl (by kernel_rfl) (by kernel_rfl) (by kernel_rfl) rfl (fun _ _ _ h => h) (Or.inl ⟨by rfl, fun W' hSw => (by (try dsimp only at hSw); go_simp)⟩) (by assumption) ?_; (try simp only [Act.put, List.setIfInBounds_toArray, List.set_cons_zero, List.set_cons_succ]))
          (refine take2 14 (some 64) (.agg #[.string X1, .bool xd]) rfl (by kernel_rfl) (by kernel_rfl) (by kernel_rfl) rfl (fun _ _ _ h => h) (Or.inl ⟨by rfl, fun W' hSw => (by (try dsimp only at hSw); go_simp)⟩) (by assumption) ?_; (try simp only [Act.put, List.setIfInBounds_toArray, List.set_cons_zero, List.set_cons_succ]))
          (refine wpAnyH_ready (rs := [15]) (by kernel_rfl) (by simp) ?_; refine AllReadyH.cons rfl (fun K hK => ?_) AllReadyH.nil; (go_simp); refine hK.out _ _ ?hS1 (fun hHeld1 => ?_); (case hS1 => ((try dsimp only); (refine ⟨?_, ?_, ?_, ?_, ?_, ?_, ?_, ?_⟩ <;> first | (simp [go_sem, *]; done) | omega | (simp; omega) | exact (by repeat (first | (with_reducible exact Below.refl _ _) | (with_reducible assumption) | (with_reducible refine Below.setCell ?_ (by first | (simp; done) | (simp; omega) | omega) _) | (with_reducible refine Below.alloc ?_ (by first | (simp; done) | (simp; omega) | omega) _) | (with_reducible refine Below.drew ?_) | (with_reducible refine Below.trans ?_ (Below.mono (by assumption) (by first | (simp; done) | (simp; omega) | omega)))))))); clear hK K hHeld; have hHeld := hHeld1; clear hHeld1; (try simp only [Act.put, List.setIfInBounds_toArray, List.set_cons_zero, List.set_cons_succ]))
          (refine wpAnyH_ready (rs := [16]) (by kernel_rfl) (by simp) ?_; refine AllReadyH.cons rfl (fun K hK => ?_) AllReadyH.nil; (refine step_append_lies _ rfl (.tmp 51) (.tmp 65) 46 rfl n4 92 i2 _ 2 24 Tryz.underlying46 hi2 kz0 kz1 kz2 rfl (by decide) (.slice A2 k c2) k xs rfl (own_alloc (own_below HRO.out ((Below.refl _ _).drew)) _) ⟨wo.heap.size, 0, none⟩ 1 1 [.string X1, .bool xd] rfl rfl (World.news_of_block (cs := #[.string X1, .bool xd]) (t := 92) (fr := (0, 0)) (heap_alloc_new wo.drew _)) (by simp [Value.oneCell']) (by omega) (by unfold maxLen; omega) (by omega) (by simp; omega) (wo.heap.size + 1) (by simp) ?_; intro gg cap w9 hown1 hgrow hat hlt9; change K (Act.put _ (some 66) _) _; have hr9 : ∀ q, (Value.slice A2 k c2).ownBlock = some q → n4 ≤ q := (fun q hq => (HRO.out.lt q hq).1); have hc9 := grown_low hgrow hr9; have hs9 : wo.heap.size < w9.heap.size := (by have := hgrow.size; simp at this; omega); have hb9 : Below w.heap.size w w9 := (Below.grown (Below.alloc (B0.drew) (by simp; omega) _) hgrow (by simp; omega) (fun j hj => by have := hr9 j hj; omega))); refine hK.out _ _ ?hS1 (fun hHeld1 => ?_); (case hS1 => ((try dsimp only); (obtain ⟨e0, e1, e2, e3, -⟩ := hHeld; exact ⟨(hc9 _ _ (by omega) (by simp; omega)).trans e0, (hc9 _ _ (by omega) (by simp; omega)).trans e1, (hc9 _ _ (by omega) (by simp; omega)).trans e2, (hc9 _ _ (by omega) (by simp; omega)).trans e3, by omega, by omega, by omega, hb9⟩))); clear hK K hHeld; have hHeld := hHeld1; clear hHeld1; (try simp only [Act.put, List.setIfInBounds_toArray, List.set_cons_zero, List.set_cons_succ]))
          (refine take2 17 (some 67) (.pointer (some ⟨b3, 13, none⟩)) rfl (by kernel_rfl) (by kernel_rfl) (by kernel_rfl) rfl (fun _ _ _ h => h) (Or.inl ⟨by rfl, fun W' hSw => (by (try dsimp only at hSw); go_simp)⟩) (by assumption) ?_; (try simp only [Act.put, List.setIfInBounds_toArray, List.set_cons_zero, List.set_cons_succ]))
          have HEL := Lib.hid hHeld
          (refine wpAnyH_done (by kernel_rfl) ?_ _; simp only [lastQ]; clear hHeld; change Oper.wp _ (Oper.mk none (Op.store 46 (Operand.tmp 67) (Operand.tmp 66)) _ _ _ none) _ _ _ _)
          obtain ⟨e0, e1, e2, e3, x0, x1, x2, -⟩ := HEL.out
          have blk9 : ∀ q, q < n4 → q < wo.heap.size → w9.heap[q]? = wo.heap[q]? := fun q hq hqs => (hgrow.block q (by simp; omega) (fun e => by have := hr9 q e.symm; omega)).trans (al wo.drew _ q hqs)
          have HB39 := Lib.hid ((blk9 b3 (by omega) (by omega)).trans HB3.out)
          have HB19 := Lib.hid ((blk9 (w.heap.size + 1) (by omega) (by omega)).trans HB1.out)
          obtain ⟨-, f39⟩ := qbox (l := [.slice A8 nI c8, .string TB, .int .i64 op, .slice A5 nC c5, .string U1, .int .i64 lt, .int .i64 ln, .string U2, .string U3, .int .i64 rt, .int .i64 rn, .string U4, .slice A6 nG c6, .slice A2 k c2, .int .i64 lim]) HB39.out 13 _ rfl
          have HRN : Hid (w9.ownsRow n4 92 2 (.slice (some ⟨gg, 0, none⟩) (k + 1) cap) (k + 1) (cellsO (O.take (k + 1)))) := Lib.hid (by rw [htk.out]; exact hown1)
          have HKN : Hid (Kp (fun q => q ≠ b3) w4 w9) := Lib.hid ⟨by have := HK.out.size; omega, fun q hq hqs => (blk9 q (by have := HN4.out; omega) (by have := HK.out.size; omega)).trans (HK.out.block q hq hqs)⟩
          clear hgrow hat hown1 hc9 hr9 HRO
          go_simp
          go_wp2_with (fail)
          refine ⟨⟨k + 1, _, by omega, by go_num, Lib.hid (own_set HRN.out (by omega) _ _), Lib.hid (set_at HB39.out 13 _), Lib.hid ((setCell_block _ _ _ _ (by omega)).trans HB19.out), Lib.hid (HKN.out.set (by dsimp only; omega) _), by simp; omega, Lib.hid ⟨(World.cell?_setCell_far _ _ _ _ (by dsimp only; omega)).trans e0, by simp; omega, ?_⟩⟩, ?_⟩
          · exact Below.setCell hb9 (by dsimp only; omega) _
          · first | (simp [intOf]; done) | (simp [intOf]; omega)
        · obtain rfl : nO = k := by omega
          have hkk : ¬ (nO : Int) < (nO : Int) := by omega
          have HR9 : Hid (wo.ownsRow n4 92 2 (.slice A2 nO c2) nO (cellsO O)) := Lib.hid (by have h := HR.out; rw [List.take_of_length_le (by rw [HNO.out]; exact Nat.le_refl _)] at h; exact h)
          clear o31 f31
          obtain ⟨p0, -⟩ := qbox (l := [.slice A8 nI c8, .string TB, .int .i64 op, .slice A5 nC c5, .string U1, .int .i64 lt, .int .i64 ln, .string U2, .string U3, .int .i64 rt, .int .i64 rn, .string U4, .slice A6 nG c6, .slice A2 nO c2, .int .i64 lim]) HB3.out 0 _ rfl
          obtain ⟨q0, r0⟩ := qbox (l := [.slice none 0 0, .string ⟨#[]⟩, .int .i64 0, .slice none 0 0, .string ⟨#[]⟩, .int .i64 0, .int .i64 0, .string ⟨#[]⟩, .string ⟨#[]⟩, .int .i64 0, .int .i64 0, .string ⟨#[]⟩, .slice none 0 0, .slice none 0 0, .int .i64 0]) HB1.out 0 _ rfl
          obtain ⟨p1, -⟩ := qbox (l := [.slice A8 nI c8, .string TB, .int .i64 op, .slice A5 nC c5, .string U1, .int .i64 lt, .int .i64 ln, .string U2, .string U3, .int .i64 rt, .int .i64 rn, .string U4, .slice A6 nG c6, .slice A2 nO c2, .int .i64 lim]) HB3.out 1 _ rfl
          obtain ⟨q1, r1⟩ := qbox (l := [.slice none 0 0, .string ⟨#[]⟩, .int .i64 0, .slice none 0 0, .string ⟨#[]⟩, .int .i64 0, .int .i64 0, .string ⟨#[]⟩, .string ⟨#[]⟩, .int .i64 0, .int .i64 0, .string ⟨#[]⟩, .slice none 0 0, .slice none 0 0, .int .i64 0]) HB1.out 1 _ rfl
          obtain ⟨p2, -⟩ := qbox (l := [.slice A8 nI c8, .string TB, .int .i64 op, .slice A5 nC c5, .string U1, .int .i64 lt, .int .i64 ln, .string U2, .string U3, .int .i64 rt, .int .i64 rn, .string U4, .slice A6 nG c6, .slice A2 nO c2, .int .i64 lim]) HB3.out 2 _ rfl
          obtain ⟨q2, r2⟩ := qbox (l := [.slice none 0 0, .string ⟨#[]⟩, .int .i64 0, .slice none 0 0, .string ⟨#[]⟩, .int .i64 0, .int .i64 0, .string ⟨#[]⟩, .string ⟨#[]⟩, .int .i64 0, .int .i64 0, .string ⟨#[]⟩, .slice none 0 0, .slice none 0 0, .int .i64 0]) HB1.out 2 _ rfl
          obtain ⟨p3, -⟩ := qbox (l := [.slice A8 nI c8, .string TB, .int .i64 op, .slice A5 nC c5, .string U1, .int .i64 lt, .int .i64 ln, .string U2, .string U3, .int .i64 rt, .int .i64 rn, .string U4, .slice A6 nG c6, .slice A2 nO c2, .int .i64 lim]) HB3.out 3 _ rfl
          obtain ⟨q3, r3⟩ := qbox (l := [.slice none 0 0, .string ⟨#[]⟩, .int .i64 0, .slice none 0 0, .string ⟨#[]⟩, .int .i64 0, .int .i64 0, .string ⟨#[]⟩, .string ⟨#[]⟩, .int .i64 0, .int .i64 0, .string ⟨#[]⟩, .slice none 0 0, .slice none 0 0, .int .i64 0]) HB1.out 3 _ rfl
          obtain ⟨p4, -⟩ := qbox (l := [.slice A8 nI c8, .string TB, .int .i64 op, .slice A5 nC c5, .string U1, .int .i64 lt, .int .i64 ln, .string U2, .string U3, .int .i64 rt, .int .i64 rn, .string U4, .slice A6 nG c6, .slice A2 nO c2, .int .i64 lim]) HB3.out 4 _ rfl
          obtain ⟨q4, r4⟩ := qbox (l := [.slice none 0 0, .string ⟨#[]⟩, .int .i64 0, .slice none 0 0, .string ⟨#[]⟩, .int .i64 0, .int .i64 0, .string ⟨#[]⟩, .string ⟨#[]⟩, .int .i64 0, .int .i64 0, .string ⟨#[]⟩, .slice none 0 0, .slice none 0 0, .int .i64 0]) HB1.out 4 _ rfl
          obtain ⟨p5, -⟩ := qbox (l := [.slice A8 nI c8, .string TB, .int .i64 op, .slice A5 nC c5, .string U1, .int .i64 lt, .int .i64 ln, .string U2, .string U3, .int .i64 rt, .int .i64 rn, .string U4, .slice A6 nG c6, .slice A2 nO c2, .int .i64 lim]) HB3.out 5 _ rfl
          obtain ⟨q5, r5⟩ := qbox (l := [.slice none 0 0, .string ⟨#[]⟩, .int .i64 0, .slice none 0 0, .string ⟨#[]⟩, .int .i64 0, .int .i64 0, .string ⟨#[]⟩, .string ⟨#[]⟩, .int .i64 0, .int .i64 0, .string ⟨#[]⟩, .slice none 0 0, .slice none 0 0, .int .i64 0]) HB1.out 5 _ rfl
          obtain ⟨p6, -⟩ := qbox (l := [.slice A8 nI c8, .string TB, .int .i64 op, .slice A5 nC c5, .string U1, .int .i64 lt, .int .i64 ln, .string U2, .string U3, .int .i64 rt, .int .i64 rn, .string U4, .slice A6 nG c6, .slice A2 nO c2, .int .i64 lim]) HB3.out 6 _ rfl
          obtain ⟨q6, r6⟩ := qbox (l := [.slice none 0 0, .string ⟨#[]⟩, .int .i64 0, .slice none 0 0, .string ⟨#[]⟩, .int .i64 0, .int .i64 0, .string ⟨#[]⟩, .string ⟨#[]⟩, .int .i64 0, .int .i64 0, .string ⟨#[]⟩, .slice none 0 0, .slice none 0 0, .int .i64 0]) HB1.out 6 _ rfl
          obtain ⟨p7, -⟩ := qbox (l := [.slice A8 nI c8, .string TB, .int .i64 op, .slice A5 nC c5, .string U1, .int .i64 lt, .int .i64 ln, .string U2, .string U3, .int .i64 rt, .int .i64 rn, .string U4, .slice A6 nG c6, .slice A2 nO c2, .int .i64 lim]) HB3.out 7 _ rfl
          obtain ⟨q7, r7⟩ := qbox (l := [.slice none 0 0, .string ⟨#[]⟩, .int .i64 0, .slice none 0 0, .string ⟨#[]⟩, .int .i64 0, .int .i64 0, .string ⟨#[]⟩, .string ⟨#[]⟩, .int .i64 0, .int .i64 0, .string ⟨#[]⟩, .slice none 0 0, .slice none 0 0, .int .i64 0]) HB1.out 7 _ rfl
          obtain ⟨p8, -⟩ := qbox (l := [.slice A8 nI c8, .string TB, .int .i64 op, .slice A5 nC c5, .string U1, .int .i64 lt, .int .i64 ln, .string U2, .string U3, .int .i64 rt, .int .i64 rn, .string U4, .slice A6 nG c6, .slice A2 nO c2, .int .i64 lim]) HB3.out 8 _ rfl
          obtain ⟨q8, r8⟩ := qbox (l := [.slice none 0 0, .string ⟨#[]⟩, .int .i64 0, .slice none 0 0, .string ⟨#[]⟩, .int .i64 0, .int .i64 0, .string ⟨#[]⟩, .string ⟨#[]⟩, .int .i64 0, .int .i64 0, .string ⟨#[]⟩, .slice none 0 0, .slice none 0 0, .int .i64 0]) HB1.out 8 _ rfl
          obtain ⟨p9, -⟩ := qbox (l := [.slice A8 nI c8, .string TB, .int .i64 op, .slice A5 nC c5, .string U1, .int .i64 lt, .int .i64 ln, .string U2, .string U3, .int .i64 rt, .int .i64 rn, .string U4, .slice A6 nG c6, .slice A2 nO c2, .int .i64 lim]) HB3.out 9 _ rfl
          obtain ⟨q9, r9⟩ := qbox (l := [.slice none 0 0, .string ⟨#[]⟩, .int .i64 0, .slice none 0 0, .string ⟨#[]⟩, .int .i64 0, .int .i64 0, .string ⟨#[]⟩, .string ⟨#[]⟩, .int .i64 0, .int .i64 0, .string ⟨#[]⟩, .slice none 0 0, .slice none 0 0, .int .i64 0]) HB1.out 9 _ rfl
          obtain ⟨p10, -⟩ := qbox (l := [.slice A8 nI c8, .string TB, .int .i64 op, .slice A5 nC c5, .string U1, .int .i64 lt, .int .i64 ln, .string U2, .string U3, .int .i64 rt, .int .i64 rn, .string U4, .slice A6 nG c6, .slice A2 nO c2, .int .i64 lim]) HB3.out 10 _ rfl
          obtain ⟨q10, r10⟩ := qbox (l := [.slice none 0 0, .string ⟨#[]⟩, .int .i64 0, .slice none 0 0, .string ⟨#[]⟩, .int .i64 0, .int .i64 0, .string ⟨#[]⟩, .string ⟨#[]⟩, .int .i64 0, .int .i64 0, .string ⟨#[]⟩, .slice none 0 0, .slice none 0 0, .int .i64 0]) HB1.out 10 _ rfl
          obtain ⟨p11, -⟩ := qbox (l := [.slice A8 nI c8, .string TB, .int .i64 op, .slice A5 nC c5, .string U1, .int .i64 lt, .int .i64 ln, .string U2, .string U3, .int .i64 rt, .int .i64 rn, .string U4, .slice A6 nG c6, .slice A2 nO c2, .int .i64 lim]) HB3.out 11 _ rfl
          obtain ⟨q11, r11⟩ := qbox (l := [.slice none 0 0, .string ⟨#[]⟩, .int .i64 0, .slice none 0 0, .string ⟨#[]⟩, .int .i64 0, .int .i64 0, .string ⟨#[]⟩, .string ⟨#[]⟩, .int .i64 0, .int .i64 0, .string ⟨#[]⟩, .slice none 0 0, .slice none 0 0, .int .i64 0]) HB1.out 11 _ rfl
          obtain ⟨p12, -⟩ := qbox (l := [.slice A8 nI c8, .string TB, .int .i64 op, .slice A5 nC c5, .string U1, .int .i64 lt, .int .i64 ln, .string U2, .string U3, .int .i64 rt, .int .i64 rn, .string U4, .slice A6 nG c6, .slice A2 nO c2, .int .i64 lim]) HB3.out 12 _ rfl
          obtain ⟨q12, r12⟩ := qbox (l := [.slice none 0 0, .string ⟨#[]⟩, .int .i64 0, .slice none 0 0, .string ⟨#[]⟩, .int .i64 0, .int .i64 0, .string ⟨#[]⟩, .string ⟨#[]⟩, .int .i64 0, .int .i64 0, .string ⟨#[]⟩, .slice none 0 0, .slice none 0 0, .int .i64 0]) HB1.out 12 _ rfl
          obtain ⟨p13, -⟩ := qbox (l := [.slice A8 nI c8, .string TB, .int .i64 op, .slice A5 nC c5, .string U1, .int .i64 lt, .int .i64 ln, .string U2, .string U3, .int .i64 rt, .int .i64 rn, .string U4, .slice A6 nG c6, .slice A2 nO c2, .int .i64 lim]) HB3.out 13 _ rfl
          obtain ⟨q13, r13⟩ := qbox (l := [.slice none 0 0, .string ⟨#[]⟩, .int .i64 0, .slice none 0 0, .string ⟨#[]⟩, .int .i64 0, .int .i64 0, .string ⟨#[]⟩, .string ⟨#[]⟩, .int .i64 0, .int .i64 0, .string ⟨#[]⟩, .slice none 0 0, .slice none 0 0, .int .i64 0]) HB1.out 13 _ rfl
          obtain ⟨p14, -⟩ := qbox (l := [.slice A8 nI c8, .string TB, .int .i64 op, .slice A5 nC c5, .string U1, .int .i64 lt, .int .i64 ln, .string U2, .string U3, .int .i64 rt, .int .i64 rn, .string U4, .slice A6 nG c6, .slice A2 nO c2, .int .i64 lim]) HB3.out 14 _ rfl
          obtain ⟨q14, r14⟩ := qbox (l := [.slice none 0 0, .string ⟨#[]⟩, .int .i64 0, .slice none 0 0, .string ⟨#[]⟩, .int .i64 0, .int .i64 0, .string ⟨#[]⟩, .string ⟨#[]⟩, .int .i64 0, .int .i64 0, .string ⟨#[]⟩, .slice none 0 0, .slice none 0 0, .int .i64 0]) HB1.out 14 _ rfl
          have hz9 : w.heap.size + 1 ≠ b3 ∧ b3 ≠ w.heap.size + 1 := by omega
          clear HR
          have I8 := own_items (by rw [HNI.out]; exact HR8.out : w4.ownsRow n3 91 2 (.slice A8 nI c8) I.length (cellsI I))
          have O9 := own_orders (by rw [HNO.out]; exact HR9.out : wo.ownsRow n4 92 2 (.slice A2 nO c2) O.length (cellsO O))
          have hs3 := HN3.out
          have hs4 := HN4.out
          have HFF : Hid (∀ W', Kp (fun q => q ≠ w.heap.size + 1) wo W' → Below w.heap.size w W' → Q (.returned (.agg #[.slice A8 nI c8, .string TB, .int .i64 op, .slice A5 nC c5, .string U1, .int .i64 lt, .int .i64 ln, .string U2, .string U3, .int .i64 rt, .int .i64 rn, .string U4, .slice A6 nG c6, .slice A2 nO c2, .int .i64 lim])) W') := Lib.hid fun W' hk hb => HFIN.out A8 c8 A6 c6 A2 c2 A5 c5 W'
            ((I8.1.keep HK.out (fun b off sp e => by have := I8.2 b off sp e; omega)).keep hk (fun b off sp e => by have := I8.2 b off sp e; omega))
            (((HS6.out.1.keep HK8.out (fun b off sp e => (HS6.out.2 b off sp e).1)).keep HK.out (fun b off sp e => (HS6.out.2 b off sp e).1)).keep hk (fun b off sp e => by have := (HS6.out.2 b off sp e).2; omega))
            (O9.1.keep hk (fun b off sp e => by have := O9.2 b off sp e; omega))
            ((((HV5.out.keep (HK8.out.weaken (fun b h => h.1))).keep (HK.out.weaken (fun b h => h.1))).keep (hk.weaken (fun b h => by omega))).mono fun _ _ _ => trivial) hb
          clear HR8 HR9 HFIN I8 O9 hs3 hs4 HS6 HV5 HK HK8
          go_wp2_with (fail)
          exact bodyPost_ret (v := .agg #[.slice A8 nI c8, .string TB, .int .i64 op, .slice A5 nC c5, .string U1, .int .i64 lt, .int .i64 ln, .string U2, .string U3, .int .i64 rt, .int .i64 rn, .string U4, .slice A6 nG c6, .slice A2 nO c2, .int .i64 lim]) (by simp [results, Tryz.results14, go_sem, *]) rfl (HFF.out _ (by repeat (first | (with_reducible exact Kp.refl _ _) | (with_reducible refine Kp.set ?_ (by dsimp only; omega) _))) (by repeat (first | (with_reducible exact B0) | (with_reducible refine Below.setCell ?_ (by dsimp only; omega) _))))
end Go.Proofs.YtijlifdbjhieaaaGreatDoor
