/-
  Contract of exref.BigMul.
-/
import Derived.Test.YtakfjdnpfhcgkaaGreatDoorBw7
import Derived.Test.YtakfjdnpfhcgkaaGreatDoorBd2
import Derived.Deep.OwnRows
namespace Go.Proofs.YtakfjdnpfhcgkaaGreatDoor
set_option linter.all false
open Go.RowKit Go.Sort Go.Deep
attribute [local go_sem] cell_set_self lt_1 lt_2 lt_3 lt_4 lt_5 lt_6

theorem sl_rowIs {w : World} {g N : Nat} {l : List Int} (h : w.rowIs g 3 N (fun j => .int .i64 (l.getD j 0))) (hN : N = l.length) : Sl w (some ⟨g, 0, none⟩) N l := ⟨by omega, (fun h => by cases h), fun i v hi => by
  have hl := (List.getElem?_eq_some_iff.1 hi).1
  refine ⟨g, 0, rfl, h.lt, ?_⟩
  rw [Nat.zero_add, h.cell (i := i) (by omega), List.getD_eq_getElem?_getD, hi]; rfl⟩
theorem row_set {w : World} {g N : Nat} {l : List Int} (h : w.rowIs g 3 N (fun j => .int .i64 (l.getD j 0))) (i : Nat) (v : Int) (hN : N = l.length) : (w.setCell ⟨g, i, none⟩ (.int .i64 v)).rowIs g 3 N (fun j => .int .i64 ((l.set i v).getD j 0)) :=
  (h.set i (.int .i64 v)).congr fun j hj => by
    simp only [List.getD_eq_getElem?_getD]
    by_cases e : j = i
    · subst e; rw [if_pos rfl, List.getElem?_set_self (by omega)]; rfl
    · rw [if_neg e, List.getElem?_set_ne (Ne.symm e)]

set_option maxHeartbeats 8000000 in
set_option maxRecDepth 100000 in
theorem bigMul_any (s t : Bool) (A B : Option Addr) (na nb ca cb : Nat) (za zb : Int) (hna : na ≤ 400) (hnb : nb ≤ 400) (w : World) (P : Pt 0 w s A na ca za) (Q : Pt 0 w t B nb cb zb) :
    Calls Tryz.prog 24 #[.agg #[.bool s, .slice A na ca], .agg #[.bool t, .slice B nb cb]] w fun e w' => Res w.heap.size w' e (za * zb) ∧ Below w.heap.size w w' := by
  obtain ⟨hs1, hna1, S, _⟩ := P
  obtain ⟨hs2, hnb1, T, _⟩ := Q
  have hmk := run_make_row' (P := Tryz.prog) 24 3 (.int .i64 0) 8 Tryz.underlying24 Tryz.infoInt rfl .i64 .i64 (na + nb + 1) (by omega) (by omega)
  rw [show ((na + nb + 1 : Nat) : Int) = (na : Int) + nb + 1 by omega] at hmk
  have DA := Lib.hid (dgs_dig za.natAbs); have DB := Lib.hid (dgs_dig zb.natAbs)
  have HA := Lib.hid hna1.symm; have HB := Lib.hid hnb1.symm
  obtain ⟨D, o0, dl, dd, dv⟩ := out_start (dgs za.natAbs) (dgs zb.natAbs) (na + nb + 1) (by rw [HA.out, HB.out]; omega) DA.out DB.out
  rw [vl_dgs, vl_dgs] at dv
  have sg : (if (s != t) then -((za.natAbs * zb.natAbs : Nat) : Int) else (za.natAbs * zb.natAbs : Nat)) = za * zb := by
    subst hs1; subst hs2
    have e := Int.natAbs_mul za zb
    rw [← e]
    by_cases ka : za < 0 <;> by_cases kb : zb < 0
    · have := Int.mul_nonneg_of_nonpos_of_nonpos (Int.le_of_lt ka) (Int.le_of_lt kb); simp [ka, kb]; omega
    · have := Int.mul_nonpos_of_nonpos_of_nonneg (Int.le_of_lt ka) (by omega : 0 ≤ zb); simp [ka, kb]; omega
    · have := Int.mul_nonpos_of_nonneg_of_nonpos (by omega : 0 ≤ za) (Int.le_of_lt kb); simp [ka, kb]; omega
    · have := Int.mul_nonneg (by omega : 0 ≤ za) (by omega : 0 ≤ zb); simp [ka, kb]; omega
  have TR := Lib.hid (fun C c W (X : Sl W C c D) => trim_dgs (s != t) (za.natAbs * zb.natAbs) (za * zb) sg C (na + nb + 1) c D dl (by omega) dd (by rw [dv]; simp) W X)
  have O0 := Lib.hid o0; have DL := Lib.hid dl
  generalize dgs za.natAbs = a at *
  generalize dgs zb.natAbs = b at *
  obtain ⟨W0, hW0⟩ : ∃ W0, W0 = ((w.alloc (.cells #[.bool s, .slice A na ca] 58)).alloc (.cells #[.bool t, .slice B nb cb] 58)).alloc (.cells #[.bool false, .slice none 0 0] 58) := ⟨_, rfl⟩
  have K0 : Below w.heap.size w W0 := by rw [hW0]; exact (by repeat (first | exact Below.refl _ _ | refine Below.setCell ?_ (by first | (simp; done) | (simp; omega) | omega) _ | refine Below.alloc ?_ (by first | (simp; done) | (simp; omega) | omega) _ | refine Below.drew ?_ | assumption | refine Below.trans ?_ (Below.mono (by assumption) (by first | (simp; done) | (simp; omega) | omega))))
  have K1 : W0.heap.size = w.heap.size + 1 + 1 + 1 := by rw [hW0]; simp
  have CL : Hid (∀ W, Below (w.heap.size + 1 + 1 + 1) W0 W → (W.cell? ⟨w.heap.size, 0, none⟩ = some (.bool s) ∧ W.cell? ⟨w.heap.size, 1, none⟩ = some (.slice A na ca) ∧ W.cell? ⟨w.heap.size + 1, 0, none⟩ = some (.bool t) ∧ W.cell? ⟨w.heap.size + 1, 1, none⟩ = some (.slice B nb cb) ∧ W.cell? ⟨w.heap.size + 1 + 1, 0, none⟩ = some (.bool false) ∧ W.cell? ⟨w.heap.size + 1 + 1, 1, none⟩ = some (.slice none 0 0) ∧ W.frozen? ⟨w.heap.size + 1 + 1, 0, none⟩ = false ∧ W.frozen? ⟨w.heap.size + 1 + 1, 1, none⟩ = false) ∧ Below w.heap.size w W ∧ w.heap.size + 1 + 1 + 1 ≤ W.heap.size) := Lib.hid fun W hb => by
    refine ⟨?_, K0.trans (hb.mono (by omega)), by have := hb.size; omega⟩
    rw [hb.cell (by first | (simp; done) | (simp; omega) | omega), hb.cell (by first | (simp; done) | (simp; omega) | omega), hb.cell (by first | (simp; done) | (simp; omega) | omega), hb.cell (by first | (simp; done) | (simp; omega) | omega), hb.cell (by first | (simp; done) | (simp; omega) | omega), hb.cell (by first | (simp; done) | (simp; omega) | omega), hb.frozen (by first | (simp; done) | (simp; omega) | omega), hb.frozen (by first | (simp; done) | (simp; omega) | omega), hW0]
    simp [go_sem]
  have HW := Lib.hid hW0
  have S := S.2.2; have T := T.2.2
  have n0 : na ≤ 400 := hna
  clear hs1 hs2 hna1 hnb1 sg dv o0 dl dd hW0 K0
  go_enter Tryz.func24, Tryz.ntmps24
  go_wp2
  go_loopw [6] (fun i wr => ∃ (k : Nat) (dl : List Int), k ≤ na ∧ i = .int .i64 k ∧ Hid (Out a b k dl D) ∧ wr.rowIs (w.heap.size + 1 + 1 + 1) 3 (na + nb + 1) (fun j => .int .i64 (dl.getD j 0)) ∧ Below (w.heap.size + 1 + 1 + 1) W0 wr) (fun i _ => na - (intOf i).toNat)
  case atStart => exact ⟨0, List.replicate (na + nb + 1) 0, by omega, rfl, O0, by
    have := World.rowIs_made (((w.alloc (.cells #[.bool s, .slice A na ca] 58)).alloc (.cells #[.bool t, .slice B nb cb] 58)).alloc (.cells #[.bool false, .slice none 0 0] 58)) (.int .i64 0) (na + nb + 1) 3
    simp at this
    exact this.congr (fun j hj => by rw [List.getD_eq_getElem?_getD, List.getElem?_replicate, if_pos hj]; rfl), by rw [HW.out]; exact Below.alloc (Below.refl _ _) (by simp) _⟩
  case round =>
    obtain ⟨i, dl, hi, rfl, ho, hrow, hB⟩ := hrel
    obtain ⟨⟨c0, c1, c2, c3, c4, c5, f4, f5⟩, hBw, hs9⟩ := CL.out _ hB
    by_cases hend : i = na
    · subst hend
      have eD := out_end ho.out (by rw [HA.out]; exact Nat.le_refl _)
      subst eD
      have XX := Lib.hid (sl_rowIs hrow DL.out.symm)
      have hz9 : w.heap.size < wr.heap.size ∧ w.heap.size + 1 < wr.heap.size ∧ w.heap.size + 1 + 1 < wr.heap.size := by omega
      clear hrow ho HA HB DA DB S T O0 CL hmk
      rcases s <;> rcases t
      all_goals
        go_wp2_with (first | (go_at_call 51; refine (TR.out _ _ _ XX.out).mono ?_; rintro e w6 ⟨⟨s2, A2, n2, c2', rfl, hP⟩, hb6⟩; obtain ⟨hc6, hf6⟩ := bcell hb6; have hs6 := hb6.size; (try simp at hs6); have hz6 : w.heap.size < w6.heap.size ∧ w.heap.size + 1 < w6.heap.size ∧ w.heap.size + 1 + 1 < w6.heap.size := (by have := hb6.size; (try simp at this); omega); have HP := Lib.hid hP; clear hP))
        exact bodyPost_ret (v := .agg #[.bool s2, .slice A2 n2 c2']) (by simp [results, Tryz.results24, go_sem, *]) rfl ⟨⟨_, _, _, _, rfl, ((HP.out.setCell _ (by first | (simp; done) | (simp; omega) | omega)).setCell _ (by first | (simp; done) | (simp; omega) | omega)).mono (by first | (simp; done) | (simp; omega) | omega)⟩, (by repeat (first | exact Below.refl _ _ | refine Below.setCell ?_ (by first | (simp; done) | (simp; omega) | omega) _ | refine Below.alloc ?_ (by first | (simp; done) | (simp; omega) | omega) _ | refine Below.drew ?_ | assumption | refine Below.trans ?_ (Below.mono (by assumption) (by first | (simp; done) | (simp; omega) | omega))))⟩
    · have hlt : i < na := by omega
      obtain ⟨x, hx⟩ : ∃ x, a[i]? = some x := ⟨_, List.getElem?_eq_getElem (by rw [HA.out]; exact hlt)⟩
      obtain ⟨g, off, rfl, hb, hc⟩ := S i x hx
      have IN := Lib.hid (inn_start (x := x) ho.out)
      have HX := Lib.hid hx
      have bx := DA.out.at_ hx
      obtain ⟨M, hM⟩ : ∃ M, dl.take i ++ macc (dl.drop i) b x 0 = M := ⟨_, rfl⟩
      rw [hM] at IN
      have HM := Lib.hid hM
      clear hx hM S TR O0
      obtain ⟨bx0, bx1⟩ := bx
      go_wp2
      go_loopw [7, 8] (fun c k2 wi => ∃ (k : Nat) (cr : Int) (dl2 : List Int), k ≤ nb + 1 ∧ k2 = .int .i64 k ∧ c = .int .i64 cr ∧ 0 ≤ cr ∧ cr < 10000 ∧ (k = nb + 1 → cr = 0) ∧ Hid (Inn b x i k cr dl2 M) ∧ wi.rowIs (w.heap.size + 1 + 1 + 1) 3 (na + nb + 1) (fun j => .int .i64 (dl2.getD j 0)) ∧ Below (w.heap.size + 1 + 1 + 1) W0 wi) (fun _ k2 _ => nb + 2 - (intOf k2).toNat)
      case atStart => exact ⟨0, 0, dl, by omega, rfl, rfl, by omega, by omega, by omega, IN, hrow, hB⟩
      case round =>
        obtain ⟨k, cr, dl2, hk, rfl, rfl, hc0, hc1, hck, hin, hrow2, hB2⟩ := hrel
        obtain ⟨⟨d0, d1, d2, d3, d4, d5, g4, g5⟩, hBw2, hs2⟩ := CL.out _ hB2
        have hlen : dl2.length = na + nb + 1 := by
          rw [hin.out.len, ← IN.out.len, ho.out.len, DL.out]
        by_cases hex : nb ≤ k ∧ cr = 0
        · obtain ⟨h1, rfl⟩ := hex
          have O2 := Lib.hid (inn_end ho.out HX.out DA.out DB.out (by rw [HB.out, ho.out.len, DL.out]; omega) (by rw [HB.out]; exact h1) (by rw [HM.out]; exact hin.out))
          clear c0 c1 c2 c3 c4 c5 f4 f5 hB hBw hs9 hrow hc
          go_wp2
          go_roundw
          case rel => exact ⟨i + 1, dl2, by omega, by go_num, O2, hrow2, hB2⟩
          case measure => first | (simp [intOf]; done) | (simp [intOf]; omega)
        · have q0 := (hBw2.cell (p := ⟨g, off + i, none⟩) hb).trans hc
          obtain ⟨r, hr⟩ : ∃ r, dl2[i + k]? = some r := ⟨_, List.getElem?_eq_getElem (by rw [hlen]; omega)⟩
          have qd := hrow2.cell (i := i + k) (by omega)
          rw [List.getD_eq_getElem?_getD, hr, Option.getD_some] at qd
          have fd := hrow2.frozen (i + k)
          by_cases kb : k < nb
          · obtain ⟨y, hy⟩ : ∃ y, b[k]? = some y := ⟨_, List.getElem?_eq_getElem (by rw [HB.out]; exact kb)⟩
            obtain ⟨g', off', rfl, hb', hc'⟩ := T k y hy
            have q1 := (hBw2.cell (p := ⟨g', off' + k, none⟩) hb').trans hc'
            obtain ⟨X, hX, X0, X1, ⟨r0, r1⟩, ⟨y0, y1⟩, ⟨xy0, xy1⟩, C0, C1, hN⟩ := inn_step hin.out ⟨bx0, bx1⟩ ⟨hc0, hc1⟩ DB.out hr hy
            obtain ⟨rr, hrr⟩ : ∃ rr, X % 10000 = rr := ⟨_, rfl⟩
            obtain ⟨cc, hcc⟩ : ∃ cc, X / 10000 = cc := ⟨_, rfl⟩
            rw [hrr, hcc] at hN
            rw [hcc] at C0 C1
            have hm1 : X.tmod 10000 = rr := by rw [Int.tmod_eq_emod_of_nonneg X0]; exact hrr
            have hm2 : X.tdiv 10000 = cc := by rw [Int.tdiv_eq_ediv_of_nonneg X0]; exact hcc
            have HN := Lib.hid hN; have HR := Lib.hid hrow2
            clear hN hrow2 hrr hcc hy hr c0 c1 c2 c3 c4 c5 f4 f5 hB hBw hs9 hrow hc hc' T hex
            go_wp2
            go_quiet (fail)
            go_wp2
            go_roundw
            case rel => exact ⟨k + 1, cc, _, by omega, by go_num, rfl, C0, C1, by omega, HN, row_set HR.out _ _ hlen.symm, (by repeat (first | exact Below.refl _ _ | refine Below.setCell ?_ (by first | (simp; done) | (simp; omega) | omega) _ | refine Below.alloc ?_ (by first | (simp; done) | (simp; omega) | omega) _ | refine below_drewN ?_ _ | refine Below.drew ?_ | assumption | refine Below.trans ?_ (Below.mono (by assumption) (by first | (simp; done) | (simp; omega) | omega))))⟩
            case measure => first | (simp [intOf]; done) | (simp [intOf]; omega)
          · have hk3 : k ≤ nb := by omega
            obtain ⟨r0, hN⟩ := inn_last hin.out ⟨by omega, hc1⟩ (by rw [HB.out]; omega) hr
            subst r0
            have hm1 : cr.tmod 10000 = cr := by rw [Int.tmod_eq_emod_of_nonneg hc0]; omega
            have hm2 : cr.tdiv 10000 = 0 := by rw [Int.tdiv_eq_ediv_of_nonneg hc0]; omega
            have cp : 0 < cr := by omega
            have HN := Lib.hid hN; have HR := Lib.hid hrow2
            clear hN hrow2 hr c0 c1 c2 c3 c4 c5 f4 f5 hB hBw hs9 hrow hc T hex hck
            go_wp2
            go_roundw
            case rel => exact ⟨k + 1, 0, _, by omega, by go_num, rfl, by omega, by omega, by omega, HN, row_set HR.out _ _ hlen.symm, (by repeat (first | exact Below.refl _ _ | refine Below.setCell ?_ (by first | (simp; done) | (simp; omega) | omega) _ | refine Below.alloc ?_ (by first | (simp; done) | (simp; omega) | omega) _ | refine below_drewN ?_ _ | refine Below.drew ?_ | assumption | refine Below.trans ?_ (Below.mono (by assumption) (by first | (simp; done) | (simp; omega) | omega))))⟩
            case measure => first | (simp [intOf]; done) | (simp [intOf]; omega)
end Go.Proofs.YtakfjdnpfhcgkaaGreatDoor
