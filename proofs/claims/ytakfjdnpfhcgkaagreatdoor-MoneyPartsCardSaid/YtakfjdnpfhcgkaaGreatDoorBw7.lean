/-
  Contracts of exref.BigNeg, BigCmp, BigSub.
-/
import Derived.Test.YtakfjdnpfhcgkaaGreatDoorBw1
import Derived.Test.YtakfjdnpfhcgkaaGreatDoorBw4
import Derived.Test.YtakfjdnpfhcgkaaGreatDoorWk5
import Derived.Deep.RegionHeld3
/-
  Contract of exref.BigOf.
-/
namespace Go.Proofs.YtakfjdnpfhcgkaaGreatDoor
set_option linter.all false
open Go.RowKit Go.Sort
attribute [local go_sem] cell_set_self lt_1 lt_2 lt_3 lt_4 lt_5 lt_6

/-- One round: the digit and what is left. -/
theorem of_round {z : Int} {out L : List Int} (h : z ≠ 0) (e : out ++ dgs z.natAbs = L) :
    ∃ x z', z.tmod 10000 = x ∧ z.tdiv 10000 = z' ∧ (-10000 < x ∧ x < 10000) ∧ (-z.natAbs ≤ z' ∧ z' ≤ z.natAbs) ∧ z'.natAbs < z.natAbs ∧ (x < 0 → (out ++ [-x]) ++ dgs z'.natAbs = L) ∧ (¬ x < 0 → (out ++ [x]) ++ dgs z'.natAbs = L) := by
  rw [dgs_pos (by omega)] at e
  rcases Int.lt_or_le z 0 with k | k
  · have e1 : z.tmod 10000 = -((-z) % 10000) := by
      have := Int.neg_tmod (-z) 10000; rw [Int.neg_neg] at this; rw [this, Int.tmod_eq_emod_of_nonneg (by omega)]
    have e2 : z.tdiv 10000 = -((-z) / 10000) := by
      have := Int.neg_tdiv (-z) 10000; rw [Int.neg_neg] at this; rw [this, Int.tdiv_eq_ediv_of_nonneg (by omega)]
    refine ⟨-((-z) % 10000), -((-z) / 10000), e1, e2, by omega, by omega, by omega, fun h => ?_, fun h => ?_⟩
    · rw [← e, List.append_assoc, show ((z.natAbs % 10000 : Nat) : Int) = - -((-z) % 10000) by omega, show z.natAbs / 10000 = (-((-z) / 10000)).natAbs by omega]; rfl
    · rw [← e, List.append_assoc, show ((z.natAbs % 10000 : Nat) : Int) = -((-z) % 10000) by omega, show z.natAbs / 10000 = (-((-z) / 10000)).natAbs by omega]; rfl
  · refine ⟨z % 10000, z / 10000, Int.tmod_eq_emod_of_nonneg k, Int.tdiv_eq_ediv_of_nonneg k, by omega, by omega, by omega, fun h => by omega, fun h => ?_⟩
    rw [← e, List.append_assoc, show ((z.natAbs % 10000 : Nat) : Int) = z % 10000 by omega, show z.natAbs / 10000 = (z / 10000).natAbs by omega]; rfl

set_option maxHeartbeats 4000000 in
set_option maxRecDepth 100000 in
theorem bigOf_any (n : Int) (hn : In64 n) (w : World) :
    Calls Tryz.prog 25 #[.int .i64 n] w fun e w' => Res w.heap.size w' e n ∧ Below w.heap.size w w' := by
  obtain ⟨i0, hi0, hz0, hz1, hz2⟩ := info_parts Tryz.infoInt
  obtain ⟨L, hLL⟩ : ∃ L, dgs n.natAbs = L := ⟨_, rfl⟩
  have hL5 : L.length ≤ 5 := by rw [← hLL]; exact dgs_len (by have := hn.1; have := hn.2; omega)
  have dL : Dgt L := by rw [← hLL]; exact dgs_dig _
  have vL : vl L = n.natAbs := by rw [← hLL]; exact vl_dgs _
  have HN := Lib.hid hn; have HLL := Lib.hid hLL; have DL := Lib.hid dL; have VL := Lib.hid vL
  have n0 : -9223372036854775808 ≤ n := hn.1
  have n1 : n < 9223372036854775808 := hn.2
  clear hLL hn dL vL
  by_cases hneg : n < 0
  all_goals
    have TR := Lib.hid (fun A c W S => trim_dgs (decide (n < 0)) n.natAbs n (by simp only [decide_eq_true_eq]; split <;> omega) A L.length c L rfl (by omega) DL.out VL.out W S)
    (first | rw [decide_eq_true hneg] at TR | rw [decide_eq_false hneg] at TR)
    go_enter Tryz.func25, Tryz.ntmps25
    go_wp2
    go_loopw [0, 4] (fun zz u wr => ∃ (k : Nat) (z : Int) (out : List Int) (v : Value), k ≤ 5 ∧ zz = .int .i64 z ∧ v = u ∧ -9223372036854775808 ≤ z ∧ z < 9223372036854775808 ∧ Hid (out ++ dgs z.natAbs = L ∧ out.length = k) ∧ wr.ownsRow (w.heap.size + 1) 3 1 v k (out.map (Value.int .i64)) ∧ wr.cell? ⟨w.heap.size, 0, none⟩ = some (.bool false) ∧ wr.cell? ⟨w.heap.size, 1, none⟩ = some (.slice none 0 0) ∧ wr.frozen? ⟨w.heap.size, 0, none⟩ = false ∧ wr.frozen? ⟨w.heap.size, 1, none⟩ = false ∧ w.heap.size < wr.heap.size ∧ Below w.heap.size w wr) (fun z _ _ => (intOf z).natAbs)
    case atStart => exact ⟨0, n, [], _, by omega, rfl, rfl, n0, n1, Lib.hid ⟨HLL.out, rfl⟩, World.ownsRow_nil _ _ _ _, (by refine ⟨?_, ?_, ?_, ?_, ?_, ?_⟩ <;> first | (simp [go_sem, *]; done) | omega | (simp; omega) | exact (by repeat (first | exact Below.refl _ _ | refine Below.setCell ?_ (by first | (simp; done) | (simp; omega) | omega) _ | refine Below.alloc ?_ (by first | (simp; done) | (simp; omega) | omega) _ | refine Below.drew ?_ | assumption | refine Below.trans ?_ (Below.mono (by assumption) (by first | (simp; done) | (simp; omega) | omega)))))⟩
    case round =>
      obtain ⟨k, z, out, v, hk, rfl, hv, z0, z1, he, hown, c0, c1, f0, f1, zb, hB⟩ := hrel; subst hv
      have hs9 := hB.size
      have LT := Lib.hid hown.lt
      by_cases hz : z = 0
      · subst hz
        have eL : out = L := by have := he.out.1; simpa [dgs_0] using this
        have ek := he.out.2
        subst eL; subst ek
        obtain ⟨C, c, rfl, hS, _⟩ := sl_own (l := out) hown rfl rfl
        have HS := Lib.hid hS
        clear hown LT he hS HLL
        go_wp2_with (first
          | (go_at_call 51; refine (TR.out C c wr HS.out).mono ?_
             rintro e w2 ⟨⟨s2, A2, n2, c2, rfl, hP⟩, hb2⟩
             have HP := Lib.hid hP
             have d0 := (hb2.cell (p := ⟨w.heap.size, 0, none⟩) zb).trans c0
             have d1 := (hb2.cell (p := ⟨w.heap.size, 1, none⟩) zb).trans c1
             have g0 := (hb2.frozen (p := ⟨w.heap.size, 0, none⟩) zb).trans f0
             have g1 := (hb2.frozen (p := ⟨w.heap.size, 1, none⟩) zb).trans f1
             have hs2 := hb2.size
             have hB3 := hB.trans (hb2.mono hs9)
             clear hP c0 c1 f0 f1))
        exact bodyPost_ret (v := .agg #[.bool s2, .slice A2 n2 c2]) (by simp [results, Tryz.results25, go_sem, *]) rfl ⟨⟨_, _, _, _, rfl, (((HP.out.setCell _ (by simp; omega)).setCell _ (by simp; omega)).mono (by omega))⟩, (by repeat (first | exact Below.refl _ _ | refine Below.setCell ?_ (by first | (simp; done) | (simp; omega) | omega) _ | refine Below.alloc ?_ (by first | (simp; done) | (simp; omega) | omega) _ | refine Below.drew ?_ | assumption | refine Below.trans ?_ (Below.mono (by assumption) (by first | (simp; done) | (simp; omega) | omega))))⟩
      · obtain ⟨x, z', hx, hz', ⟨x0, x1⟩, ⟨y0, y1⟩, hm, l1, l2⟩ := of_round hz he.out.1
        have k5 : k + 1 ≤ 5 := by
          have := congrArg List.length he.out.1
          rw [List.length_append, he.out.2, dgs_pos (by omega)] at this
          simp at this; omega
        have ol := he.out.2
        have OW := Lib.hid hown
        have HM := Lib.hid hm
        have y0' : -9223372036854775808 ≤ z' := by omega
        have y1' : z' < 9223372036854775808 := by omega
        clear he hown hm y0 y1
        have hzd : (z != 0) = true := by simpa using hz
        by_cases hX : x < 0
        · have HL := Lib.hid (l1 hX)
          clear l1 l2
          go_wp2_with (first | (at_builtin; refine wpList_append_lies _ rfl _ _ _ rfl (w.heap.size + 1) 3 i0 _ 1 8 Tryz.underlying24 hi0 hz0 hz1 hz2 rfl (by decide) v (k) _ rfl (OW.out.alloc _) ⟨wr.heap.size, 0, none⟩ 1 1 [.int .i64 (-x)] rfl rfl (World.news_of_block (cs := #[.int .i64 (-x)]) (t := 3) (fr := (0, 0)) (heap_alloc_new wr _)) (by simp [Value.oneCell']) (by omega) (by unfold maxLen; omega) (by omega) (by simp; omega) (wr.heap.size + 1) (by simp) ?_; intro gg cap w1' hown1 hgrow hat hlt'))
          have hne : some w.heap.size ≠ Value.ownBlock v := fun e => by have := (LT.out _ e.symm).1; omega
          have d0 := push_cell hgrow c0 hne
          have d1 := push_cell hgrow c1 hne
          have g0 := push_frozen hgrow f0 zb hne
          have g1 := push_frozen hgrow f1 zb hne
          have hB4 := Below.grown (Below.alloc hB hs9 _) hgrow (by simp; omega) (fun j hj => by have := (LT.out j hj).1; omega)
          have hs4 := hgrow.size
          go_roundw
          case rel => exact ⟨k + 1, z', out ++ [-x], _, by omega, rfl, rfl, y0', y1', Lib.hid ⟨HL.out, by simp [ol]⟩, by simpa using hown1, d0, d1, g0, g1, by simp at hs4; omega, hB4⟩
          case measure => simp [intOf]; exact HM.out
        · have HL := Lib.hid (l2 hX)
          clear l1 l2
          go_wp2_with (first | (at_builtin; refine wpList_append_lies _ rfl _ _ _ rfl (w.heap.size + 1) 3 i0 _ 1 8 Tryz.underlying24 hi0 hz0 hz1 hz2 rfl (by decide) v (k) _ rfl (OW.out.alloc _) ⟨wr.heap.size, 0, none⟩ 1 1 [.int .i64 x] rfl rfl (World.news_of_block (cs := #[.int .i64 x]) (t := 3) (fr := (0, 0)) (heap_alloc_new wr _)) (by simp [Value.oneCell']) (by omega) (by unfold maxLen; omega) (by omega) (by simp; omega) (wr.heap.size + 1) (by simp) ?_; intro gg cap w1' hown1 hgrow hat hlt'))
          have hne : some w.heap.size ≠ Value.ownBlock v := fun e => by have := (LT.out _ e.symm).1; omega
          have d0 := push_cell hgrow c0 hne
          have d1 := push_cell hgrow c1 hne
          have g0 := push_frozen hgrow f0 zb hne
          have g1 := push_frozen hgrow f1 zb hne
          have hB4 := Below.grown (Below.alloc hB hs9 _) hgrow (by simp; omega) (fun j hj => by have := (LT.out j hj).1; omega)
          have hs4 := hgrow.size
          go_roundw
          case rel => exact ⟨k + 1, z', out ++ [x], _, by omega, rfl, rfl, y0', y1', Lib.hid ⟨HL.out, by simp [ol]⟩, by simpa using hown1, d0, d1, g0, g1, by simp at hs4; omega, hB4⟩
          case measure => simp [intOf]; exact HM.out
end Go.Proofs.YtakfjdnpfhcgkaaGreatDoor

/-
  Contract of exref.BigAdd.
-/
namespace Go.Proofs.YtakfjdnpfhcgkaaGreatDoor
set_option linter.all false
open Go.RowKit Go.Sort
attribute [local go_sem] cell_set_self lt_1 lt_2 lt_3 lt_4 lt_5 lt_6

theorem drew_size (w : World) : w.drew.heap.size = w.heap.size := rfl
theorem drew_cell (w : World) (a : Addr) : w.drew.cell? a = w.cell? a := rfl
theorem drew_frozen (w : World) (a : Addr) : w.drew.frozen? a = w.frozen? a := rfl

set_option maxHeartbeats 4000000 in
set_option maxRecDepth 100000 in
theorem bigAdd_same (s : Bool) (A B : Option Addr) (na nb ca cb : Nat) (za zb : Int) (hna : na ≤ 900) (hnb : nb ≤ 900) (w : World) (P : Pt 0 w s A na ca za) (Q : Pt 0 w s B nb cb zb) :
    Calls Tryz.prog 79 #[.agg #[.bool s, .slice A na ca], .agg #[.bool s, .slice B nb cb]] w fun e w' => Res w.heap.size w' e (za + zb) ∧ Below w.heap.size w w' := by
  obtain ⟨hs1, hna1, S, _⟩ := P
  obtain ⟨hs2, hnb1, T, _⟩ := Q
  have eN := addL_dgs za.natAbs zb.natAbs
  obtain ⟨N, hN⟩ : ∃ N, za.natAbs + zb.natAbs = N := ⟨_, rfl⟩
  rw [hN] at eN
  have len := (addL_spec (dgs za.natAbs) (dgs zb.natAbs) 0 (dgs_dig _) (dgs_dig _) (by omega) (by omega)).2.2.1
  rw [eN] at len
  obtain ⟨nn, hnn⟩ : ∃ nn, (dgs N).length = nn := ⟨_, rfl⟩
  have AD := Lib.hid (fun W (hb : Below w.heap.size w W) => add_any A B (dgs za.natAbs) (dgs zb.natAbs) na nb ca cb hna1.symm hnb1.symm (by omega) (by omega) (dgs_dig _) (dgs_dig _) W (S.below hb) (T.below hb))
  rw [eN, hnn] at AD
  have sg : (if s then -(N : Int) else N) = za + zb := by
    subst hs1
    by_cases k : za < 0
    · rw [decide_eq_true k, if_pos rfl]
      have : zb < 0 := by rw [decide_eq_true k] at hs2; simpa using hs2.symm
      omega
    · rw [decide_eq_false k, if_neg (by simp)]
      have : ¬ zb < 0 := by rw [decide_eq_false k] at hs2; simpa using hs2.symm
      omega
  have TR := Lib.hid (fun C c W (X : Sl W C c (dgs N)) => trim_dgs s N (za + zb) sg C nn c (dgs N) hnn (by omega) (dgs_dig _) (vl_dgs _) W X)
  have HNN := Lib.hid hnn
  clear eN len S T hnn hN hs1 hs2 hna1 hnb1 sg
  rcases s
  · go_enter Tryz.func79, Tryz.ntmps79
    go_wp2
    go_region_held3 (fun w' => w'.cell? ⟨w.heap.size, 0, none⟩ = some (.bool false) ∧ w'.cell? ⟨w.heap.size, 1, none⟩ = some (.slice A na ca) ∧ w'.cell? ⟨w.heap.size + 1, 0, none⟩ = some (.bool false) ∧ w'.cell? ⟨w.heap.size + 1, 1, none⟩ = some (.slice B nb cb) ∧ w.heap.size < w'.heap.size ∧ w.heap.size + 1 < w'.heap.size ∧ w.heap.size + 1 + 1 < w'.heap.size ∧ Below w.heap.size w w')
      (first | (refine ⟨?_, ?_, ?_, ?_, ?_, ?_, ?_, ?_⟩ <;> first | (simp [go_sem, *]; done) | omega | (simp; omega) | exact (by repeat (first | exact Below.refl _ _ | refine Below.setCell ?_ (by first | (simp; done) | (simp; omega) | omega) _ | refine Below.alloc ?_ (by first | (simp; done) | (simp; omega) | omega) _ | refine Below.drew ?_ | assumption | refine Below.trans ?_ (Below.mono (by assumption) (by first | (simp; done) | (simp; omega) | omega))))))
      (first | (first | (go_at_call 96; refine (AD.out _ (by repeat (first | exact Below.refl _ _ | refine Below.setCell ?_ (by first | (simp; done) | (simp; omega) | omega) _ | refine Below.alloc ?_ (by first | (simp; done) | (simp; omega) | omega) _ | refine Below.drew ?_ | assumption | refine Below.trans ?_ (Below.mono (by assumption) (by first | (simp; done) | (simp; omega) | omega))))).mono ?_; rintro e w5 ⟨⟨C, cc, rfl, hS⟩, hb5⟩; obtain ⟨hc5, hf5⟩ := bcell hb5; (try simp only [drew_size, drew_cell, drew_frozen] at hc5 hf5); have hs5 := hb5.size; (try simp at hs5); have hz5 : w.heap.size < w5.heap.size ∧ w.heap.size + 1 < w5.heap.size ∧ w.heap.size + 1 + 1 < w5.heap.size := (by have := hb5.size; (try simp at this); omega); have HS := Lib.hid hS; clear hS) | (go_at_call 51; refine (TR.out _ _ _ HS.out).mono ?_; rintro e w6 ⟨⟨s2, A2, n2, c2, rfl, hP⟩, hb6⟩; obtain ⟨hc6, hf6⟩ := bcell hb6; (try simp only [drew_size, drew_cell, drew_frozen] at hc6 hf6); have hs6 := hb6.size; (try simp at hs6); have hz6 : w.heap.size < w6.heap.size ∧ w.heap.size + 1 < w6.heap.size ∧ w.heap.size + 1 + 1 < w6.heap.size := (by have := hb6.size; (try simp at this); omega); have HP := Lib.hid hP; clear hP)))
    go_wp2
    exact bodyPost_ret (v := .agg #[.bool s2, .slice A2 n2 c2]) (by simp [results, Tryz.results79, go_sem, *]) rfl ⟨⟨_, _, _, _, rfl, ((HP.out.setCell _ (by first | (simp; done) | (simp; omega) | omega)).setCell _ (by first | (simp; done) | (simp; omega) | omega)).mono (by first | (simp; done) | (simp; omega) | omega)⟩, (by repeat (first | exact Below.refl _ _ | refine Below.setCell ?_ (by first | (simp; done) | (simp; omega) | omega) _ | refine Below.alloc ?_ (by first | (simp; done) | (simp; omega) | omega) _ | refine Below.drew ?_ | assumption | refine Below.trans ?_ (Below.mono (by assumption) (by first | (simp; done) | (simp; omega) | omega))))⟩
  · go_enter Tryz.func79, Tryz.ntmps79
    go_wp2
    go_region_held3 (fun w' => w'.cell? ⟨w.heap.size, 0, none⟩ = some (.bool true) ∧ w'.cell? ⟨w.heap.size, 1, none⟩ = some (.slice A na ca) ∧ w'.cell? ⟨w.heap.size + 1, 0, none⟩ = some (.bool true) ∧ w'.cell? ⟨w.heap.size + 1, 1, none⟩ = some (.slice B nb cb) ∧ w.heap.size < w'.heap.size ∧ w.heap.size + 1 < w'.heap.size ∧ w.heap.size + 1 + 1 < w'.heap.size ∧ Below w.heap.size w w')
      (first | (refine ⟨?_, ?_, ?_, ?_, ?_, ?_, ?_, ?_⟩ <;> first | (simp [go_sem, *]; done) | omega | (simp; omega) | exact (by repeat (first | exact Below.refl _ _ | refine Below.setCell ?_ (by first | (simp; done) | (simp; omega) | omega) _ | refine Below.alloc ?_ (by first | (simp; done) | (simp; omega) | omega) _ | refine Below.drew ?_ | assumption | refine Below.trans ?_ (Below.mono (by assumption) (by first | (simp; done) | (simp; omega) | omega))))))
      (first | (first | (go_at_call 96; refine (AD.out _ (by repeat (first | exact Below.refl _ _ | refine Below.setCell ?_ (by first | (simp; done) | (simp; omega) | omega) _ | refine Below.alloc ?_ (by first | (simp; done) | (simp; omega) | omega) _ | refine Below.drew ?_ | assumption | refine Below.trans ?_ (Below.mono (by assumption) (by first | (simp; done) | (simp; omega) | omega))))).mono ?_; rintro e w5 ⟨⟨C, cc, rfl, hS⟩, hb5⟩; obtain ⟨hc5, hf5⟩ := bcell hb5; (try simp only [drew_size, drew_cell, drew_frozen] at hc5 hf5); have hs5 := hb5.size; (try simp at hs5); have hz5 : w.heap.size < w5.heap.size ∧ w.heap.size + 1 < w5.heap.size ∧ w.heap.size + 1 + 1 < w5.heap.size := (by have := hb5.size; (try simp at this); omega); have HS := Lib.hid hS; clear hS) | (go_at_call 51; refine (TR.out _ _ _ HS.out).mono ?_; rintro e w6 ⟨⟨s2, A2, n2, c2, rfl, hP⟩, hb6⟩; obtain ⟨hc6, hf6⟩ := bcell hb6; (try simp only [drew_size, drew_cell, drew_frozen] at hc6 hf6); have hs6 := hb6.size; (try simp at hs6); have hz6 : w.heap.size < w6.heap.size ∧ w.heap.size + 1 < w6.heap.size ∧ w.heap.size + 1 + 1 < w6.heap.size := (by have := hb6.size; (try simp at this); omega); have HP := Lib.hid hP; clear hP)))
    go_wp2
    exact bodyPost_ret (v := .agg #[.bool s2, .slice A2 n2 c2]) (by simp [results, Tryz.results79, go_sem, *]) rfl ⟨⟨_, _, _, _, rfl, ((HP.out.setCell _ (by first | (simp; done) | (simp; omega) | omega)).setCell _ (by first | (simp; done) | (simp; omega) | omega)).mono (by first | (simp; done) | (simp; omega) | omega)⟩, (by repeat (first | exact Below.refl _ _ | refine Below.setCell ?_ (by first | (simp; done) | (simp; omega) | omega) _ | refine Below.alloc ?_ (by first | (simp; done) | (simp; omega) | omega) _ | refine Below.drew ?_ | assumption | refine Below.trans ?_ (Below.mono (by assumption) (by first | (simp; done) | (simp; omega) | omega))))⟩

set_option maxHeartbeats 4000000 in
set_option maxRecDepth 100000 in
theorem bigAdd_diff (s t : Bool) (hst : t = !s) (A B : Option Addr) (na nb ca cb : Nat) (za zb : Int) (hna : na ≤ 900) (hnb : nb ≤ 900) (w : World) (P : Pt 0 w s A na ca za) (Q : Pt 0 w t B nb cb zb) :
    Calls Tryz.prog 79 #[.agg #[.bool s, .slice A na ca], .agg #[.bool t, .slice B nb cb]] w fun e w' => Res w.heap.size w' e (za + zb) ∧ Below w.heap.size w w' := by
  subst hst
  obtain ⟨hs1, hna1, S, _⟩ := P
  obtain ⟨hs2, hnb1, T, _⟩ := Q
  have CM := Lib.hid (fun W (hb : Below w.heap.size w W) => cmp_any A B za.natAbs zb.natAbs na nb ca cb hna1.symm hnb1.symm (by omega) (by omega) W (S.below hb) (T.below hb))
  have sgn : (s = true ∧ za < 0 ∧ 0 ≤ zb) ∨ (s = false ∧ 0 ≤ za ∧ zb < 0) := by
    cases s
    · right; simp at hs1 hs2; exact ⟨rfl, hs1, hs2⟩
    · left; simp at hs1 hs2; exact ⟨rfl, hs1, hs2⟩
  by_cases h : zb.natAbs ≤ za.natAbs
  · have cv : cmpN za.natAbs zb.natAbs = if zb.natAbs = za.natAbs then 0 else 1 := by
      by_cases k : zb.natAbs = za.natAbs
      · rw [if_pos k, cmpN_eq k.symm]
      · rw [if_neg k, cmpN_gt (by omega)]
    obtain ⟨v, hv⟩ : ∃ v, cmpN za.natAbs zb.natAbs = v := ⟨_, rfl⟩
    have v0 : 0 ≤ v := by rw [← hv, cv]; split <;> omega
    rw [hv] at CM
    obtain ⟨e1, e2, e3⟩ := subL_spec (dgs za.natAbs) (dgs zb.natAbs) 0 (dgs_dig _) (dgs_dig _) (by omega) (by omega) (by rw [vl_dgs, vl_dgs]; omega)
    rw [vl_dgs, vl_dgs] at e1
    have SU := Lib.hid (fun W (hb : Below w.heap.size w W) => sub_any A B (dgs za.natAbs) (dgs zb.natAbs) na nb ca cb hna1.symm hnb1.symm (by omega) (by omega) (dgs_dig _) (dgs_dig _) W (S.below hb) (T.below hb))
    generalize subL (dgs za.natAbs) (dgs zb.natAbs) 0 = L at *
    rw [← hna1] at e3
    rw [e3] at SU
    have TR := Lib.hid (fun C c W (X : Sl W C c L) => trim_dgs s (za.natAbs - zb.natAbs) (za + zb) (by rcases sgn with ⟨rfl, _⟩ | ⟨rfl, _⟩ <;> simp <;> omega) C na c L e3 (by omega) e2 (by omega) W X)
    clear S T hs1 hs2 hna1 hnb1 e1 e2 e3 cv hv h sgn
    rcases s
    · go_enter Tryz.func79, Tryz.ntmps79
      go_wp2_with (first | (go_at_call 55; refine (CM.out _ (by repeat (first | exact Below.refl _ _ | refine Below.setCell ?_ (by first | (simp; done) | (simp; omega) | omega) _ | refine Below.alloc ?_ (by first | (simp; done) | (simp; omega) | omega) _ | refine Below.drew ?_ | assumption | refine Below.trans ?_ (Below.mono (by assumption) (by first | (simp; done) | (simp; omega) | omega))))).mono ?_; rintro e w4 ⟨rfl, hb4⟩; obtain ⟨hc4, hf4⟩ := bcell hb4; have hs4 := hb4.size; (try simp at hs4); have hz4 : w.heap.size < w4.heap.size ∧ w.heap.size + 1 < w4.heap.size ∧ w.heap.size + 1 + 1 < w4.heap.size := by have := hb4.size; (try simp at this); omega))
      go_region_held3 (fun w' => w'.cell? ⟨w.heap.size, 0, none⟩ = some (.bool false) ∧ w'.cell? ⟨w.heap.size, 1, none⟩ = some (.slice A na ca) ∧ w'.cell? ⟨w.heap.size + 1, 0, none⟩ = some (.bool true) ∧ w'.cell? ⟨w.heap.size + 1, 1, none⟩ = some (.slice B nb cb) ∧ w.heap.size < w'.heap.size ∧ w.heap.size + 1 < w'.heap.size ∧ w.heap.size + 1 + 1 < w'.heap.size ∧ Below w.heap.size w w')
      (first | (refine ⟨?_, ?_, ?_, ?_, ?_, ?_, ?_, ?_⟩ <;> first | (simp [go_sem, *]; done) | omega | (simp; omega) | exact (by repeat (first | exact Below.refl _ _ | refine Below.setCell ?_ (by first | (simp; done) | (simp; omega) | omega) _ | refine Below.alloc ?_ (by first | (simp; done) | (simp; omega) | omega) _ | refine Below.drew ?_ | assumption | refine Below.trans ?_ (Below.mono (by assumption) (by first | (simp; done) | (simp; omega) | omega))))))
      (first | (first | (go_at_call 97; refine (SU.out _ (by repeat (first | exact Below.refl _ _ | refine Below.setCell ?_ (by first | (simp; done) | (simp; omega) | omega) _ | refine Below.alloc ?_ (by first | (simp; done) | (simp; omega) | omega) _ | refine Below.drew ?_ | assumption | refine Below.trans ?_ (Below.mono (by assumption) (by first | (simp; done) | (simp; omega) | omega))))).mono ?_; rintro e w5 ⟨⟨C, cc, rfl, hS⟩, hb5⟩; obtain ⟨hc5, hf5⟩ := bcell hb5; (try simp only [drew_size, drew_cell, drew_frozen] at hc5 hf5); have hs5 := hb5.size; (try simp at hs5); have hz5 : w.heap.size < w5.heap.size ∧ w.heap.size + 1 < w5.heap.size ∧ w.heap.size + 1 + 1 < w5.heap.size := (by have := hb5.size; (try simp at this); omega); have HS := Lib.hid hS; clear hS) | (go_at_call 51; refine (TR.out _ _ _ HS.out).mono ?_; rintro e w6 ⟨⟨s2, A2, n2, c2, rfl, hP⟩, hb6⟩; obtain ⟨hc6, hf6⟩ := bcell hb6; (try simp only [drew_size, drew_cell, drew_frozen] at hc6 hf6); have hs6 := hb6.size; (try simp at hs6); have hz6 : w.heap.size < w6.heap.size ∧ w.heap.size + 1 < w6.heap.size ∧ w.heap.size + 1 + 1 < w6.heap.size := (by have := hb6.size; (try simp at this); omega); have HP := Lib.hid hP; clear hP)))
      go_wp2
      exact bodyPost_ret (v := .agg #[.bool s2, .slice A2 n2 c2]) (by simp [results, Tryz.results79, go_sem, *]) rfl ⟨⟨_, _, _, _, rfl, ((HP.out.setCell _ (by first | (simp; done) | (simp; omega) | omega)).setCell _ (by first | (simp; done) | (simp; omega) | omega)).mono (by first | (simp; done) | (simp; omega) | omega)⟩, (by repeat (first | exact Below.refl _ _ | refine Below.setCell ?_ (by first | (simp; done) | (simp; omega) | omega) _ | refine Below.alloc ?_ (by first | (simp; done) | (simp; omega) | omega) _ | refine Below.drew ?_ | assumption | refine Below.trans ?_ (Below.mono (by assumption) (by first | (simp; done) | (simp; omega) | omega))))⟩
    · go_enter Tryz.func79, Tryz.ntmps79
      go_wp2_with (first | (go_at_call 55; refine (CM.out _ (by repeat (first | exact Below.refl _ _ | refine Below.setCell ?_ (by first | (simp; done) | (simp; omega) | omega) _ | refine Below.alloc ?_ (by first | (simp; done) | (simp; omega) | omega) _ | refine Below.drew ?_ | assumption | refine Below.trans ?_ (Below.mono (by assumption) (by first | (simp; done) | (simp; omega) | omega))))).mono ?_; rintro e w4 ⟨rfl, hb4⟩; obtain ⟨hc4, hf4⟩ := bcell hb4; have hs4 := hb4.size; (try simp at hs4); have hz4 : w.heap.size < w4.heap.size ∧ w.heap.size + 1 < w4.heap.size ∧ w.heap.size + 1 + 1 < w4.heap.size := by have := hb4.size; (try simp at this); omega))
      go_region_held3 (fun w' => w'.cell? ⟨w.heap.size, 0, none⟩ = some (.bool true) ∧ w'.cell? ⟨w.heap.size, 1, none⟩ = some (.slice A na ca) ∧ w'.cell? ⟨w.heap.size + 1, 0, none⟩ = some (.bool false) ∧ w'.cell? ⟨w.heap.size + 1, 1, none⟩ = some (.slice B nb cb) ∧ w.heap.size < w'.heap.size ∧ w.heap.size + 1 < w'.heap.size ∧ w.heap.size + 1 + 1 < w'.heap.size ∧ Below w.heap.size w w')
      (first | (refine ⟨?_, ?_, ?_, ?_, ?_, ?_, ?_, ?_⟩ <;> first | (simp [go_sem, *]; done) | omega | (simp; omega) | exact (by repeat (first | exact Below.refl _ _ | refine Below.setCell ?_ (by first | (simp; done) | (simp; omega) | omega) _ | refine Below.alloc ?_ (by first | (simp; done) | (simp; omega) | omega) _ | refine Below.drew ?_ | assumption | refine Below.trans ?_ (Below.mono (by assumption) (by first | (simp; done) | (simp; omega) | omega))))))
      (first | (first | (go_at_call 97; refine (SU.out _ (by repeat (first | exact Below.refl _ _ | refine Below.setCell ?_ (by first | (simp; done) | (simp; omega) | omega) _ | refine Below.alloc ?_ (by first | (simp; done) | (simp; omega) | omega) _ | refine Below.drew ?_ | assumption | refine Below.trans ?_ (Below.mono (by assumption) (by first | (simp; done) | (simp; omega) | omega))))).mono ?_; rintro e w5 ⟨⟨C, cc, rfl, hS⟩, hb5⟩; obtain ⟨hc5, hf5⟩ := bcell hb5; (try simp only [drew_size, drew_cell, drew_frozen] at hc5 hf5); have hs5 := hb5.size; (try simp at hs5); have hz5 : w.heap.size < w5.heap.size ∧ w.heap.size + 1 < w5.heap.size ∧ w.heap.size + 1 + 1 < w5.heap.size := (by have := hb5.size; (try simp at this); omega); have HS := Lib.hid hS; clear hS) | (go_at_call 51; refine (TR.out _ _ _ HS.out).mono ?_; rintro e w6 ⟨⟨s2, A2, n2, c2, rfl, hP⟩, hb6⟩; obtain ⟨hc6, hf6⟩ := bcell hb6; (try simp only [drew_size, drew_cell, drew_frozen] at hc6 hf6); have hs6 := hb6.size; (try simp at hs6); have hz6 : w.heap.size < w6.heap.size ∧ w.heap.size + 1 < w6.heap.size ∧ w.heap.size + 1 + 1 < w6.heap.size := (by have := hb6.size; (try simp at this); omega); have HP := Lib.hid hP; clear hP)))
      go_wp2
      exact bodyPost_ret (v := .agg #[.bool s2, .slice A2 n2 c2]) (by simp [results, Tryz.results79, go_sem, *]) rfl ⟨⟨_, _, _, _, rfl, ((HP.out.setCell _ (by first | (simp; done) | (simp; omega) | omega)).setCell _ (by first | (simp; done) | (simp; omega) | omega)).mono (by first | (simp; done) | (simp; omega) | omega)⟩, (by repeat (first | exact Below.refl _ _ | refine Below.setCell ?_ (by first | (simp; done) | (simp; omega) | omega) _ | refine Below.alloc ?_ (by first | (simp; done) | (simp; omega) | omega) _ | refine Below.drew ?_ | assumption | refine Below.trans ?_ (Below.mono (by assumption) (by first | (simp; done) | (simp; omega) | omega))))⟩
  · have cv : cmpN za.natAbs zb.natAbs = -1 := cmpN_lt (by omega)
    rw [cv] at CM
    obtain ⟨e1, e2, e3⟩ := subL_spec (dgs zb.natAbs) (dgs za.natAbs) 0 (dgs_dig _) (dgs_dig _) (by omega) (by omega) (by rw [vl_dgs, vl_dgs]; omega)
    rw [vl_dgs, vl_dgs] at e1
    have SU := Lib.hid (fun W (hb : Below w.heap.size w W) => sub_any B A (dgs zb.natAbs) (dgs za.natAbs) nb na cb ca hnb1.symm hna1.symm (by omega) (by omega) (dgs_dig _) (dgs_dig _) W (T.below hb) (S.below hb))
    generalize subL (dgs zb.natAbs) (dgs za.natAbs) 0 = L at *
    rw [← hnb1] at e3
    rw [e3] at SU
    have TR := Lib.hid (fun C c W (X : Sl W C c L) => trim_dgs (!s) (zb.natAbs - za.natAbs) (za + zb) (by rcases sgn with ⟨rfl, _⟩ | ⟨rfl, _⟩ <;> simp <;> omega) C nb c L e3 (by omega) e2 (by omega) W X)
    clear S T hs1 hs2 hna1 hnb1 e1 e2 e3 cv h sgn
    rcases s
    · go_enter Tryz.func79, Tryz.ntmps79
      go_wp2_with (first | (go_at_call 55; refine (CM.out _ (by repeat (first | exact Below.refl _ _ | refine Below.setCell ?_ (by first | (simp; done) | (simp; omega) | omega) _ | refine Below.alloc ?_ (by first | (simp; done) | (simp; omega) | omega) _ | refine Below.drew ?_ | assumption | refine Below.trans ?_ (Below.mono (by assumption) (by first | (simp; done) | (simp; omega) | omega))))).mono ?_; rintro e w4 ⟨rfl, hb4⟩; obtain ⟨hc4, hf4⟩ := bcell hb4; have hs4 := hb4.size; (try simp at hs4); have hz4 : w.heap.size < w4.heap.size ∧ w.heap.size + 1 < w4.heap.size ∧ w.heap.size + 1 + 1 < w4.heap.size := by have := hb4.size; (try simp at this); omega))
      go_region_held3 (fun w' => w'.cell? ⟨w.heap.size, 0, none⟩ = some (.bool false) ∧ w'.cell? ⟨w.heap.size, 1, none⟩ = some (.slice A na ca) ∧ w'.cell? ⟨w.heap.size + 1, 0, none⟩ = some (.bool true) ∧ w'.cell? ⟨w.heap.size + 1, 1, none⟩ = some (.slice B nb cb) ∧ w.heap.size < w'.heap.size ∧ w.heap.size + 1 < w'.heap.size ∧ w.heap.size + 1 + 1 < w'.heap.size ∧ Below w.heap.size w w')
      (first | (refine ⟨?_, ?_, ?_, ?_, ?_, ?_, ?_, ?_⟩ <;> first | (simp [go_sem, *]; done) | omega | (simp; omega) | exact (by repeat (first | exact Below.refl _ _ | refine Below.setCell ?_ (by first | (simp; done) | (simp; omega) | omega) _ | refine Below.alloc ?_ (by first | (simp; done) | (simp; omega) | omega) _ | refine Below.drew ?_ | assumption | refine Below.trans ?_ (Below.mono (by assumption) (by first | (simp; done) | (simp; omega) | omega))))))
      (first | (first | (go_at_call 97; refine (SU.out _ (by repeat (first | exact Below.refl _ _ | refine Below.setCell ?_ (by first | (simp; done) | (simp; omega) | omega) _ | refine Below.alloc ?_ (by first | (simp; done) | (simp; omega) | omega) _ | refine Below.drew ?_ | assumption | refine Below.trans ?_ (Below.mono (by assumption) (by first | (simp; done) | (simp; omega) | omega))))).mono ?_; rintro e w5 ⟨⟨C, cc, rfl, hS⟩, hb5⟩; obtain ⟨hc5, hf5⟩ := bcell hb5; (try simp only [drew_size, drew_cell, drew_frozen] at hc5 hf5); have hs5 := hb5.size; (try simp at hs5); have hz5 : w.heap.size < w5.heap.size ∧ w.heap.size + 1 < w5.heap.size ∧ w.heap.size + 1 + 1 < w5.heap.size := (by have := hb5.size; (try simp at this); omega); have HS := Lib.hid hS; clear hS) | (go_at_call 51; refine (TR.out _ _ _ HS.out).mono ?_; rintro e w6 ⟨⟨s2, A2, n2, c2, rfl, hP⟩, hb6⟩; obtain ⟨hc6, hf6⟩ := bcell hb6; (try simp only [drew_size, drew_cell, drew_frozen] at hc6 hf6); have hs6 := hb6.size; (try simp at hs6); have hz6 : w.heap.size < w6.heap.size ∧ w.heap.size + 1 < w6.heap.size ∧ w.heap.size + 1 + 1 < w6.heap.size := (by have := hb6.size; (try simp at this); omega); have HP := Lib.hid hP; clear hP)))
      go_wp2
      exact bodyPost_ret (v := .agg #[.bool s2, .slice A2 n2 c2]) (by simp [results, Tryz.results79, go_sem, *]) rfl ⟨⟨_, _, _, _, rfl, ((HP.out.setCell _ (by first | (simp; done) | (simp; omega) | omega)).setCell _ (by first | (simp; done) | (simp; omega) | omega)).mono (by first | (simp; done) | (simp; omega) | omega)⟩, (by repeat (first | exact Below.refl _ _ | refine Below.setCell ?_ (by first | (simp; done) | (simp; omega) | omega) _ | refine Below.alloc ?_ (by first | (simp; done) | (simp; omega) | omega) _ | refine Below.drew ?_ | assumption | refine Below.trans ?_ (Below.mono (by assumption) (by first | (simp; done) | (simp; omega) | omega))))⟩
    · go_enter Tryz.func79, Tryz.ntmps79
      go_wp2_with (first | (go_at_call 55; refine (CM.out _ (by repeat (first | exact Below.refl _ _ | refine Below.setCell ?_ (by first | (simp; done) | (simp; omega) | omega) _ | refine Below.alloc ?_ (by first | (simp; done) | (simp; omega) | omega) _ | refine Below.drew ?_ | assumption | refine Below.trans ?_ (Below.mono (by assumption) (by first | (simp; done) | (simp; omega) | omega))))).mono ?_; rintro e w4 ⟨rfl, hb4⟩; obtain ⟨hc4, hf4⟩ := bcell hb4; have hs4 := hb4.size; (try simp at hs4); have hz4 : w.heap.size < w4.heap.size ∧ w.heap.size + 1 < w4.heap.size ∧ w.heap.size + 1 + 1 < w4.heap.size := by have := hb4.size; (try simp at this); omega))
      go_region_held3 (fun w' => w'.cell? ⟨w.heap.size, 0, none⟩ = some (.bool true) ∧ w'.cell? ⟨w.heap.size, 1, none⟩ = some (.slice A na ca) ∧ w'.cell? ⟨w.heap.size + 1, 0, none⟩ = some (.bool false) ∧ w'.cell? ⟨w.heap.size + 1, 1, none⟩ = some (.slice B nb cb) ∧ w.heap.size < w'.heap.size ∧ w.heap.size + 1 < w'.heap.size ∧ w.heap.size + 1 + 1 < w'.heap.size ∧ Below w.heap.size w w')
      (first | (refine ⟨?_, ?_, ?_, ?_, ?_, ?_, ?_, ?_⟩ <;> first | (simp [go_sem, *]; done) | omega | (simp; omega) | exact (by repeat (first | exact Below.refl _ _ | refine Below.setCell ?_ (by first | (simp; done) | (simp; omega) | omega) _ | refine Below.alloc ?_ (by first | (simp; done) | (simp; omega) | omega) _ | refine Below.drew ?_ | assumption | refine Below.trans ?_ (Below.mono (by assumption) (by first | (simp; done) | (simp; omega) | omega))))))
      (first | (first | (go_at_call 97; refine (SU.out _ (by repeat (first | exact Below.refl _ _ | refine Below.setCell ?_ (by first | (simp; done) | (simp; omega) | omega) _ | refine Below.alloc ?_ (by first | (simp; done) | (simp; omega) | omega) _ | refine Below.drew ?_ | assumption | refine Below.trans ?_ (Below.mono (by assumption) (by first | (simp; done) | (simp; omega) | omega))))).mono ?_; rintro e w5 ⟨⟨C, cc, rfl, hS⟩, hb5⟩; obtain ⟨hc5, hf5⟩ := bcell hb5; (try simp only [drew_size, drew_cell, drew_frozen] at hc5 hf5); have hs5 := hb5.size; (try simp at hs5); have hz5 : w.heap.size < w5.heap.size ∧ w.heap.size + 1 < w5.heap.size ∧ w.heap.size + 1 + 1 < w5.heap.size := (by have := hb5.size; (try simp at this); omega); have HS := Lib.hid hS; clear hS) | (go_at_call 51; refine (TR.out _ _ _ HS.out).mono ?_; rintro e w6 ⟨⟨s2, A2, n2, c2, rfl, hP⟩, hb6⟩; obtain ⟨hc6, hf6⟩ := bcell hb6; (try simp only [drew_size, drew_cell, drew_frozen] at hc6 hf6); have hs6 := hb6.size; (try simp at hs6); have hz6 : w.heap.size < w6.heap.size ∧ w.heap.size + 1 < w6.heap.size ∧ w.heap.size + 1 + 1 < w6.heap.size := (by have := hb6.size; (try simp at this); omega); have HP := Lib.hid hP; clear hP)))
      go_wp2
      exact bodyPost_ret (v := .agg #[.bool s2, .slice A2 n2 c2]) (by simp [results, Tryz.results79, go_sem, *]) rfl ⟨⟨_, _, _, _, rfl, ((HP.out.setCell _ (by first | (simp; done) | (simp; omega) | omega)).setCell _ (by first | (simp; done) | (simp; omega) | omega)).mono (by first | (simp; done) | (simp; omega) | omega)⟩, (by repeat (first | exact Below.refl _ _ | refine Below.setCell ?_ (by first | (simp; done) | (simp; omega) | omega) _ | refine Below.alloc ?_ (by first | (simp; done) | (simp; omega) | omega) _ | refine Below.drew ?_ | assumption | refine Below.trans ?_ (Below.mono (by assumption) (by first | (simp; done) | (simp; omega) | omega))))⟩

/-- exref.BigAdd. -/
theorem bigAdd_any (s t : Bool) (A B : Option Addr) (na nb ca cb : Nat) (za zb : Int) (hna : na ≤ 900) (hnb : nb ≤ 900) (w : World) (P : Pt 0 w s A na ca za) (Q : Pt 0 w t B nb cb zb) :
    Calls Tryz.prog 79 #[.agg #[.bool s, .slice A na ca], .agg #[.bool t, .slice B nb cb]] w fun e w' => Res w.heap.size w' e (za + zb) ∧ Below w.heap.size w w' := by
  by_cases h : t = s
  · subst h; exact bigAdd_same t A B na nb ca cb za zb hna hnb w P Q
  · exact bigAdd_diff s t (by cases s <;> cases t <;> simp_all) A B na nb ca cb za zb hna hnb w P Q
end Go.Proofs.YtakfjdnpfhcgkaaGreatDoor

/-
  Contracts of exref.BigNeg, BigCmp, BigSub.
-/
namespace Go.Proofs.YtakfjdnpfhcgkaaGreatDoor
set_option linter.all false
open Go.RowKit Go.Sort
attribute [local go_sem] cell_set_self lt_1 lt_2 lt_3 lt_4 lt_5 lt_6

set_option maxHeartbeats 4000000 in
set_option maxRecDepth 100000 in
theorem bigNeg_any (s : Bool) (A : Option Addr) (n c : Nat) (z : Int) (hn : n ≤ 900) (w : World) (P : Pt 0 w s A n c z) :
    Calls Tryz.prog 27 #[.agg #[.bool s, .slice A n c]] w fun e w' => Res w.heap.size w' e (-z) ∧ Below w.heap.size w w' := by
  obtain ⟨hs, hl, S, _⟩ := P
  have TR := Lib.hid (fun W (hb : Below w.heap.size w W) => trim_dgs (!s) z.natAbs (-z) (by
    subst hs; by_cases k : z < 0
    · rw [decide_eq_true k]; simp; omega
    · rw [decide_eq_false k]; simp; omega) A n c (dgs z.natAbs) hl.symm (by omega) (dgs_dig _) (vl_dgs _) W (S.below hb))
  clear hs hl S
  rcases s
  all_goals
    go_enter Tryz.func27, Tryz.ntmps27
    go_wp2_with (first | (go_at_call 51; refine (TR.out _ (by repeat (first | exact Below.refl _ _ | refine Below.setCell ?_ (by first | (simp; done) | (simp; omega) | omega) _ | refine Below.alloc ?_ (by first | (simp; done) | (simp; omega) | omega) _ | refine Below.drew ?_ | assumption | refine Below.trans ?_ (Below.mono (by assumption) (by first | (simp; done) | (simp; omega) | omega))))).mono ?_; rintro e w6 ⟨⟨s2, A2, n2, c2, rfl, hP⟩, hb6⟩; obtain ⟨hc6, hf6⟩ := bcell hb6; have hs6 := hb6.size; (try simp at hs6); have hz6 : w.heap.size < w6.heap.size ∧ w.heap.size + 1 < w6.heap.size := (by have := hb6.size; (try simp at this); omega); have HP := Lib.hid hP; clear hP))
    exact bodyPost_ret (v := .agg #[.bool s2, .slice A2 n2 c2]) (by simp [results, Tryz.results27, go_sem, *]) rfl ⟨⟨_, _, _, _, rfl, ((HP.out.setCell _ (by first | (simp; done) | (simp; omega) | omega)).setCell _ (by first | (simp; done) | (simp; omega) | omega)).mono (by first | (simp; done) | (simp; omega) | omega)⟩, (by repeat (first | exact Below.refl _ _ | refine Below.setCell ?_ (by first | (simp; done) | (simp; omega) | omega) _ | refine Below.alloc ?_ (by first | (simp; done) | (simp; omega) | omega) _ | refine Below.drew ?_ | assumption | refine Below.trans ?_ (Below.mono (by assumption) (by first | (simp; done) | (simp; omega) | omega))))⟩

/-- The order of two whole numbers. -/
def cmpI (a b : Int) : Int := if a < b then -1 else if b < a then 1 else 0

set_option maxHeartbeats 4000000 in
set_option maxRecDepth 100000 in
theorem bigCmp_any (s t : Bool) (A B : Option Addr) (na nb ca cb : Nat) (za zb : Int) (hna : na ≤ 900) (hnb : nb ≤ 900) (w : World) (P : Pt 0 w s A na ca za) (Q : Pt 0 w t B nb cb zb) :
    Calls Tryz.prog 28 #[.agg #[.bool s, .slice A na ca], .agg #[.bool t, .slice B nb cb]] w fun e w' => e = .returned (.int .i64 (cmpI za zb)) ∧ Below w.heap.size w w' := by
  obtain ⟨hs1, hna1, S, _⟩ := P
  obtain ⟨hs2, hnb1, T, _⟩ := Q
  have CM := Lib.hid (fun W (hb : Below w.heap.size w W) => cmp_any A B za.natAbs zb.natAbs na nb ca cb hna1.symm hnb1.symm (by omega) (by omega) W (S.below hb) (T.below hb))
  obtain ⟨v, hv⟩ : ∃ v, cmpN za.natAbs zb.natAbs = v := ⟨_, rfl⟩
  have vb : -1 ≤ v ∧ v ≤ 1 := by
    rw [← hv]; unfold cmpN
    repeat' split
    all_goals omega
  rw [hv] at CM
  have R : Hid ((s = true → t = false → cmpI za zb = -1) ∧ (s = false → t = true → cmpI za zb = 1) ∧ (s = false → t = false → cmpI za zb = v) ∧ (s = true → t = true → cmpI za zb = -v)) := Lib.hid (by
    subst hs1; subst hs2; subst hv
    unfold cmpI cmpN
    simp only [decide_eq_true_eq, decide_eq_false_iff_not]
    refine ⟨fun h k => ?_, fun h k => ?_, fun h k => ?_, fun h k => ?_⟩
    · rw [if_pos (by omega)]
    · rw [if_neg (by omega), if_pos (by omega)]
    · repeat' split
      all_goals omega
    · repeat' split
      all_goals omega)
  clear hs1 hs2 hna1 hnb1 S T hv
  obtain ⟨v0, v1⟩ := vb
  rcases s <;> rcases t
  · go_enter Tryz.func28, Tryz.ntmps28
    go_wp2_with (first | (go_at_call 55; refine (CM.out _ (by repeat (first | exact Below.refl _ _ | refine Below.setCell ?_ (by first | (simp; done) | (simp; omega) | omega) _ | refine Below.alloc ?_ (by first | (simp; done) | (simp; omega) | omega) _ | refine Below.drew ?_ | assumption | refine Below.trans ?_ (Below.mono (by assumption) (by first | (simp; done) | (simp; omega) | omega))))).mono ?_; rintro e w6 ⟨rfl, hb6⟩; obtain ⟨hc6, hf6⟩ := bcell hb6; have hs6 := hb6.size; (try simp at hs6); have hz6 : w.heap.size < w6.heap.size ∧ w.heap.size + 1 < w6.heap.size := by have := hb6.size; (try simp at this); omega))
    go_ret
    exact ⟨ret_int (R.out.2.2.1 (by simp) (by simp)).symm, (by repeat (first | exact Below.refl _ _ | refine Below.setCell ?_ (by first | (simp; done) | (simp; omega) | omega) _ | refine Below.alloc ?_ (by first | (simp; done) | (simp; omega) | omega) _ | refine Below.drew ?_ | assumption | refine Below.trans ?_ (Below.mono (by assumption) (by first | (simp; done) | (simp; omega) | omega))))⟩
  · go_enter Tryz.func28, Tryz.ntmps28
    go_wp2
    go_ret
    exact ⟨ret_int (R.out.2.1 (by simp) (by simp)).symm, (by repeat (first | exact Below.refl _ _ | refine Below.setCell ?_ (by first | (simp; done) | (simp; omega) | omega) _ | refine Below.alloc ?_ (by first | (simp; done) | (simp; omega) | omega) _ | refine Below.drew ?_ | assumption | refine Below.trans ?_ (Below.mono (by assumption) (by first | (simp; done) | (simp; omega) | omega))))⟩
  · go_enter Tryz.func28, Tryz.ntmps28
    go_wp2
    go_ret
    exact ⟨ret_int (R.out.1 (by simp) (by simp)).symm, (by repeat (first | exact Below.refl _ _ | refine Below.setCell ?_ (by first | (simp; done) | (simp; omega) | omega) _ | refine Below.alloc ?_ (by first | (simp; done) | (simp; omega) | omega) _ | refine Below.drew ?_ | assumption | refine Below.trans ?_ (Below.mono (by assumption) (by first | (simp; done) | (simp; omega) | omega))))⟩
  · go_enter Tryz.func28, Tryz.ntmps28
    go_wp2_with (first | (go_at_call 55; refine (CM.out _ (by repeat (first | exact Below.refl _ _ | refine Below.setCell ?_ (by first | (simp; done) | (simp; omega) | omega) _ | refine Below.alloc ?_ (by first | (simp; done) | (simp; omega) | omega) _ | refine Below.drew ?_ | assumption | refine Below.trans ?_ (Below.mono (by assumption) (by first | (simp; done) | (simp; omega) | omega))))).mono ?_; rintro e w6 ⟨rfl, hb6⟩; obtain ⟨hc6, hf6⟩ := bcell hb6; have hs6 := hb6.size; (try simp at hs6); have hz6 : w.heap.size < w6.heap.size ∧ w.heap.size + 1 < w6.heap.size := by have := hb6.size; (try simp at this); omega))
    go_ret
    exact ⟨ret_int (R.out.2.2.2 (by simp) (by simp)).symm, (by repeat (first | exact Below.refl _ _ | refine Below.setCell ?_ (by first | (simp; done) | (simp; omega) | omega) _ | refine Below.alloc ?_ (by first | (simp; done) | (simp; omega) | omega) _ | refine Below.drew ?_ | assumption | refine Below.trans ?_ (Below.mono (by assumption) (by first | (simp; done) | (simp; omega) | omega))))⟩

set_option maxHeartbeats 4000000 in
set_option maxRecDepth 100000 in
theorem bigSub_any (s t : Bool) (A B : Option Addr) (na nb ca cb : Nat) (za zb : Int) (hna : na ≤ 900) (hnb : nb ≤ 900) (w : World) (P : Pt 0 w s A na ca za) (Q : Pt 0 w t B nb cb zb) :
    Calls Tryz.prog 52 #[.agg #[.bool s, .slice A na ca], .agg #[.bool t, .slice B nb cb]] w fun e w' => Res w.heap.size w' e (za - zb) ∧ Below w.heap.size w w' := by
  have NG := Lib.hid (fun W (hb : Below w.heap.size w W) => bigNeg_any t B nb cb zb hnb W (Q.below hb))
  have AD := Lib.hid (fun s' A' n' c' W b (hb : Below w.heap.size w W) (R : Pt b W s' A' n' c' (-zb)) => by
    have := bigAdd_any s s' A A' na n' ca c' za (-zb) hna (by rw [R.2.1, Int.natAbs_neg, ← Q.2.1]; exact hnb) W (P.below hb) (R.mono (Nat.zero_le _))
    rw [← Int.sub_eq_add_neg] at this; exact this)
  clear P Q
  go_enter Tryz.func52, Tryz.ntmps52
  go_wp2
  go_region_held3 (fun w' => w'.cell? ⟨w.heap.size, 0, none⟩ = some (.bool s) ∧ w'.cell? ⟨w.heap.size, 1, none⟩ = some (.slice A na ca) ∧ w'.cell? ⟨w.heap.size + 1, 0, none⟩ = some (.bool t) ∧ w'.cell? ⟨w.heap.size + 1, 1, none⟩ = some (.slice B nb cb) ∧ w.heap.size < w'.heap.size ∧ w.heap.size + 1 < w'.heap.size ∧ w.heap.size + 1 + 1 < w'.heap.size ∧ Below w.heap.size w w')
      (first | (refine ⟨?_, ?_, ?_, ?_, ?_, ?_, ?_, ?_⟩ <;> first | (simp [go_sem, *]; done) | omega | (simp; omega) | exact (by repeat (first | exact Below.refl _ _ | refine Below.setCell ?_ (by first | (simp; done) | (simp; omega) | omega) _ | refine Below.alloc ?_ (by first | (simp; done) | (simp; omega) | omega) _ | refine Below.drew ?_ | assumption | refine Below.trans ?_ (Below.mono (by assumption) (by first | (simp; done) | (simp; omega) | omega))))))
      (first | (first | (go_at_call 27; refine (NG.out _ (by repeat (first | exact Below.refl _ _ | refine Below.setCell ?_ (by first | (simp; done) | (simp; omega) | omega) _ | refine Below.alloc ?_ (by first | (simp; done) | (simp; omega) | omega) _ | refine Below.drew ?_ | assumption | refine Below.trans ?_ (Below.mono (by assumption) (by first | (simp; done) | (simp; omega) | omega))))).mono ?_; rintro e w5 ⟨⟨s5, A5, n5, c5, rfl, hP5⟩, hb5⟩; obtain ⟨hc5, hf5⟩ := bcell hb5; (try simp only [drew_size, drew_cell, drew_frozen] at hc5 hf5); have hs5 := hb5.size; (try simp at hs5); have hz5 : w.heap.size < w5.heap.size ∧ w.heap.size + 1 < w5.heap.size ∧ w.heap.size + 1 + 1 < w5.heap.size := (by have := hb5.size; (try simp at this); omega); have HP5 := Lib.hid hP5; clear hP5) | (go_at_call 79; refine (AD.out _ _ _ _ _ _ (by repeat (first | exact Below.refl _ _ | refine Below.setCell ?_ (by first | (simp; done) | (simp; omega) | omega) _ | refine Below.alloc ?_ (by first | (simp; done) | (simp; omega) | omega) _ | refine Below.drew ?_ | assumption | refine Below.trans ?_ (Below.mono (by assumption) (by first | (simp; done) | (simp; omega) | omega)))) HP5.out).mono ?_; rintro e w6 ⟨⟨s2, A2, n2, c2, rfl, hP⟩, hb6⟩; obtain ⟨hc6, hf6⟩ := bcell hb6; (try simp only [drew_size, drew_cell, drew_frozen] at hc6 hf6); have hs6 := hb6.size; (try simp at hs6); have hz6 : w.heap.size < w6.heap.size ∧ w.heap.size + 1 < w6.heap.size ∧ w.heap.size + 1 + 1 < w6.heap.size := (by have := hb6.size; (try simp at this); omega); have HP := Lib.hid hP; clear hP)))
  go_wp2
  exact bodyPost_ret (v := .agg #[.bool s2, .slice A2 n2 c2]) (by simp [results, Tryz.results52, go_sem, *]) rfl ⟨⟨_, _, _, _, rfl, ((HP.out.setCell _ (by first | (simp; done) | (simp; omega) | omega)).setCell _ (by first | (simp; done) | (simp; omega) | omega)).mono (by first | (simp; done) | (simp; omega) | omega)⟩, (by repeat (first | exact Below.refl _ _ | refine Below.setCell ?_ (by first | (simp; done) | (simp; omega) | omega) _ | refine Below.alloc ?_ (by first | (simp; done) | (simp; omega) | omega) _ | refine Below.drew ?_ | assumption | refine Below.trans ?_ (Below.mono (by assumption) (by first | (simp; done) | (simp; omega) | omega))))⟩
end Go.Proofs.YtakfjdnpfhcgkaaGreatDoor
