/-
  Contract of exref.BigOf.
-/
import Derived.Test.YtkaimfeiahogaaaGreatDoorBw1
namespace Go.Proofs.YtkaimfeiahogaaaGreatDoor
set_option linter.all false
open Go.RowKit Go.Sort
attribute [local go_sem] cell_set_self lt_1 lt_2 lt_3 lt_4 lt_5 lt_6

/-- One round: the digit and what is left. -/
theorem of_round {z : Int} {out L : List Int} (h : z ≠ 0) (e : out ++ dgs z.natAbs = L) :
    ∃ x z', z.tmod 10000 = x ∧ z.tdiv 10000 = z' ∧ (-10000 < x ∧ x < 10000) ∧ (-z.natAbs ≤ z' ∧ z' ≤ z.natAbs) ∧ z'.natAbs < z.natAbs ∧ (x < 0 → (out ++ [-x]) ++ dgs z'.natAbs = L) ∧ (¬ x < 0 → (out ++ [x]) ++ dgs z'.natAbs = L) := by
  rw [dgs_pos (by omega)] at e
  rcases Int.lt_or_le z 0 with k | k
  · have e1 : z.tmod 10000 = -((-z) % 10000) := by
      have := Int.neg_tmod (-z) 10000; rw [Int.neg_neg] at this; rw [this, Int.tmod_eq_emod_of_nonneg (by omega)]
    have e2 : z.tdiv 10000 = -((-z) / 10000) := by
      have := Int.neg_tdiv (-z) 10000; rw [Int.neg_neg] at this; rw [this, Int.tdiv_eq_ediv_of_nonneg (by omega)]
    refine ⟨-((-z) % 10000), -((-z) / 10000), e1, e2, by omega, by omega, by omega, fun h => ?_, fun h => ?_⟩
    · rw [← e, List.append_assoc, show ((z.natAbs % 10000 : Nat) : Int) = - -((-z) % 10000) by omega, show z.natAbs / 10000 = (-((-z) / 10000)).natAbs by omega]; rfl
    · rw [← e, List.append_assoc, show ((z.natAbs % 10000 : Nat) : Int) = -((-z) % 10000) by omega, show z.natAbs / 10000 = (-((-z) / 10000)).natAbs by omega]; rfl
  · refine ⟨z % 10000, z / 10000, Int.tmod_eq_emod_of_nonneg k, Int.tdiv_eq_ediv_of_nonneg k, by omega, by omega, by omega, fun h => by omega, fun h => ?_⟩
    rw [← e, List.append_assoc, show ((z.natAbs % 10000 : Nat) : Int) = z % 10000 by omega, show z.natAbs / 10000 = (z / 10000).natAbs by omega]; rfl

set_option maxHeartbeats 4000000 in
set_option maxRecDepth 100000 in
theorem bigOf_any (n : Int) (hn : In64 n) (w : World) :
    Calls Tryz.prog 16 #[.int .i64 n] w fun e w' => Res w.heap.size w' e n ∧ Below w.heap.size w w' := by
  obtain ⟨i0, hi0, hz0, hz1, hz2⟩ := info_parts Tryz.infoInt
  obtain ⟨L, hLL⟩ : ∃ L, dgs n.natAbs = L := ⟨_, rfl⟩
  have hL5 : L.length ≤ 5 := by rw [← hLL]; exact dgs_len (by have := hn.1; have := hn.2; omega)
  have dL : Dgt L := by rw [← hLL]; exact dgs_dig _
  have vL : vl L = n.natAbs := by rw [← hLL]; exact vl_dgs _
  have HN := Lib.hid hn; have HLL := Lib.hid hLL; have DL := Lib.hid dL; have VL := Lib.hid vL
  have n0 : -9223372036854775808 ≤ n := hn.1
  have n1 : n < 9223372036854775808 := hn.2
  clear hLL hn dL vL
  by_cases hneg : n < 0
  all_goals
    have TR := Lib.hid (fun A c W S => trim_dgs (decide (n < 0)) n.natAbs n (by simp only [decide_eq_true_eq]; split <;> omega) A L.length c L rfl (by omega) DL.out VL.out W S)
    (first | rw [decide_eq_true hneg] at TR | rw [decide_eq_false hneg] at TR)
    go_enter Tryz.func16, Tryz.ntmps16
    go_wp2
    go_loopw [0, 4] (fun zz u wr => ∃ (k : Nat) (z : Int) (out : List Int) (v : Value), k ≤ 5 ∧ zz = .int .i64 z ∧ v = u ∧ -9223372036854775808 ≤ z ∧ z < 9223372036854775808 ∧ Hid (out ++ dgs z.natAbs = L ∧ out.length = k) ∧ wr.ownsRow (w.heap.size + 1) 3 1 v k (out.map (Value.int .i64)) ∧ wr.cell? ⟨w.heap.size, 0, none⟩ = some (.bool false) ∧ wr.cell? ⟨w.heap.size, 1, none⟩ = some (.slice none 0 0) ∧ wr.frozen? ⟨w.heap.size, 0, none⟩ = false ∧ wr.frozen? ⟨w.heap.size, 1, none⟩ = false ∧ w.heap.size < wr.heap.size ∧ Below w.heap.size w wr) (fun z _ _ => (intOf z).natAbs)
    case atStart => exact ⟨0, n, [], _, by omega, rfl, rfl, n0, n1, Lib.hid ⟨HLL.out, rfl⟩, World.ownsRow_nil _ _ _ _, (by refine ⟨?_, ?_, ?_, ?_, ?_, ?_⟩ <;> first | (simp [go_sem, *]; done) | omega | (simp; omega) | exact (by repeat (first | exact Below.refl _ _ | refine Below.setCell ?_ (by first | (simp; done) | (simp; omega) | omega) _ | refine Below.alloc ?_ (by first | (simp; done) | (simp; omega) | omega) _ | refine Below.drew ?_ | assumption | refine Below.trans ?_ (Below.mono (by assumption) (by first | (simp; done) | (simp; omega) | omega)))))⟩
    case round =>
      obtain ⟨k, z, out, v, hk, rfl, hv, z0, z1, he, hown, c0, c1, f0, f1, zb, hB⟩ := hrel; subst hv
      have hs9 := hB.size
      have LT := Lib.hid hown.lt
      by_cases hz : z = 0
      · subst hz
        have eL : out = L := by have := he.out.1; simpa [dgs_0] using this
        have ek := he.out.2
        subst eL; subst ek
        obtain ⟨C, c, rfl, hS, _⟩ := sl_own (l := out) hown rfl rfl
        have HS := Lib.hid hS
        clear hown LT he hS HLL
        go_wp2_with (first
          | (go_at_call 36; refine (TR.out C c wr HS.out).mono ?_
             rintro e w2 ⟨⟨s2, A2, n2, c2, rfl, hP⟩, hb2⟩
             have HP := Lib.hid hP
             have d0 := (hb2.cell (p := ⟨w.heap.size, 0, none⟩) zb).trans c0
             have d1 := (hb2.cell (p := ⟨w.heap.size, 1, none⟩) zb).trans c1
             have g0 := (hb2.frozen (p := ⟨w.heap.size, 0, none⟩) zb).trans f0
             have g1 := (hb2.frozen (p := ⟨w.heap.size, 1, none⟩) zb).trans f1
             have hs2 := hb2.size
             have hB3 := hB.trans (hb2.mono hs9)
             clear hP c0 c1 f0 f1))
        exact bodyPost_ret (v := .agg #[.bool s2, .slice A2 n2 c2]) (by simp [results, Tryz.results16, go_sem, *]) rfl ⟨⟨_, _, _, _, rfl, (((HP.out.setCell _ (by simp; omega)).setCell _ (by simp; omega)).mono (by omega))⟩, (by repeat (first | exact Below.refl _ _ | refine Below.setCell ?_ (by first | (simp; done) | (simp; omega) | omega) _ | refine Below.alloc ?_ (by first | (simp; done) | (simp; omega) | omega) _ | refine Below.drew ?_ | assumption | refine Below.trans ?_ (Below.mono (by assumption) (by first | (simp; done) | (simp; omega) | omega))))⟩
      · obtain ⟨x, z', hx, hz', ⟨x0, x1⟩, ⟨y0, y1⟩, hm, l1, l2⟩ := of_round hz he.out.1
        have k5 : k + 1 ≤ 5 := by
          have := congrArg List.length he.out.1
          rw [List.length_append, he.out.2, dgs_pos (by omega)] at this
          simp at this; omega
        have ol := he.out.2
        have OW := Lib.hid hown
        have HM := Lib.hid hm
        have y0' : -9223372036854775808 ≤ z' := by omega
        have y1' : z' < 9223372036854775808 := by omega
        clear he hown hm y0 y1
        have hzd : (z != 0) = true := by simpa using hz
        by_cases hX : x < 0
        · have HL := Lib.hid (l1 hX)
          clear l1 l2
          go_wp2_with (first | (at_builtin; refine wpList_append_lies _ rfl _ _ _ rfl (w.heap.size + 1) 3 i0 _ 1 8 Tryz.underlying35 hi0 hz0 hz1 hz2 rfl (by decide) v (k) _ rfl (OW.out.alloc _) ⟨wr.heap.size, 0, none⟩ 1 1 [.int .i64 (-x)] rfl rfl (World.news_of_block (cs := #[.int .i64 (-x)]) (t := 3) (fr := (0, 0)) (heap_alloc_new wr _)) (by simp [Value.oneCell']) (by omega) (by unfold maxLen; omega) (by omega) (by simp; omega) (wr.heap.size + 1) (by simp) ?_; intro gg cap w1' hown1 hgrow hat hlt'))
          have hne : some w.heap.size ≠ Value.ownBlock v := fun e => by have := (LT.out _ e.symm).1; omega
          have d0 := push_cell hgrow c0 hne
          have d1 := push_cell hgrow c1 hne
          have g0 := push_frozen hgrow f0 zb hne
          have g1 := push_frozen hgrow f1 zb hne
          have hB4 := Below.grown (Below.alloc hB hs9 _) hgrow (by simp; omega) (fun j hj => by have := (LT.out j hj).1; omega)
          have hs4 := hgrow.size
          go_roundw
          case rel => exact ⟨k + 1, z', out ++ [-x], _, by omega, rfl, rfl, y0', y1', Lib.hid ⟨HL.out, by simp [ol]⟩, by simpa using hown1, d0, d1, g0, g1, by simp at hs4; omega, hB4⟩
          case measure => simp [intOf]; exact HM.out
        · have HL := Lib.hid (l2 hX)
          clear l1 l2
          go_wp2_with (first | (at_builtin; refine wpList_append_lies _ rfl _ _ _ rfl (w.heap.size + 1) 3 i0 _ 1 8 Tryz.underlying35 hi0 hz0 hz1 hz2 rfl (by decide) v (k) _ rfl (OW.out.alloc _) ⟨wr.heap.size, 0, none⟩ 1 1 [.int .i64 x] rfl rfl (World.news_of_block (cs := #[.int .i64 x]) (t := 3) (fr := (0, 0)) (heap_alloc_new wr _)) (by simp [Value.oneCell']) (by omega) (by unfold maxLen; omega) (by omega) (by simp; omega) (wr.heap.size + 1) (by simp) ?_; intro gg cap w1' hown1 hgrow hat hlt'))
          have hne : some w.heap.size ≠ Value.ownBlock v := fun e => by have := (LT.out _ e.symm).1; omega
          have d0 := push_cell hgrow c0 hne
          have d1 := push_cell hgrow c1 hne
          have g0 := push_frozen hgrow f0 zb hne
          have g1 := push_frozen hgrow f1 zb hne
          have hB4 := Below.grown (Below.alloc hB hs9 _) hgrow (by simp; omega) (fun j hj => by have := (LT.out j hj).1; omega)
          have hs4 := hgrow.size
          go_roundw
          case rel => exact ⟨k + 1, z', out ++ [x], _, by omega, rfl, rfl, y0', y1', Lib.hid ⟨HL.out, by simp [ol]⟩, by simpa using hown1, d0, d1, g0, g1, by simp at hs4; omega, hB4⟩
          case measure => simp [intOf]; exact HM.out
end Go.Proofs.YtkaimfeiahogaaaGreatDoor
