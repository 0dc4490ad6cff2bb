/-
  Contract of exref.BigText.
-/
import Derived.Test.YtkaimfeiahogaaaGreatDoorBw1
import Derived.Test.YtkaimfeiahogaaaGreatDoorBt
namespace Go.Proofs.YtkaimfeiahogaaaGreatDoor
set_option linter.all false
open Go.RowKit Go.Sort
attribute [local go_sem] cell_set_self lt_1 lt_2 lt_3 lt_4 lt_5 lt_6

theorem vl_top : ∀ {l : List Int}, Dgt l → Top l → l ≠ [] → 0 < vl l
  | [], _, _, h => absurd rfl h
  | x :: r, d, t, _ => by
    have hx := d.head
    by_cases k : r = []
    · subst k; have := t.1 rfl; simp only [vl]; omega
    · have := vl_top d.tail t.2 k; simp only [vl]; omega
theorem top_drop : ∀ {l : List Int} (k : Nat), Top l → Top (l.drop k)
  | l, 0, h => h
  | [], k + 1, h => trivial
  | x :: r, k + 1, h => top_drop (l := r) k h.2
theorem drop_dig {l : List Int} (h : Dgt l) (k : Nat) : Dgt (l.drop k) := fun x hx => h x (List.mem_of_mem_drop hx)

set_option maxHeartbeats 4000000 in
set_option maxRecDepth 100000 in
theorem bigText_any (s : Bool) (A : Option Addr) (n c : Nat) (z : Int) (hn : n ≤ 12) (w : World) (P : Pt 0 w s A n c z) :
    Calls Tryz.prog 15 #[.agg #[.bool s, .slice A n c]] w fun e w' => e = .returned (.string ⟨(txt z).toArray⟩) ∧ Below w.heap.size w w' := by
  obtain ⟨hs, hl, S, _⟩ := P
  by_cases hz : z = 0
  · subst hz
    have e : n = 0 := by rw [hl]; simp [dgs_0]
    subst e
    clear hl S hs
    go_enter Tryz.func15, Tryz.ntmps15
    go_wp2
    go_ret
    exact ⟨rfl, (by repeat (first | exact Below.refl _ _ | refine Below.setCell ?_ (by first | (simp; done) | (simp; omega) | omega) _ | refine Below.alloc ?_ (by first | (simp; done) | (simp; omega) | omega) _ | refine Below.drew ?_ | assumption | refine Below.trans ?_ (Below.mono (by assumption) (by first | (simp; done) | (simp; omega) | omega))))⟩
  · obtain ⟨M, hM⟩ : ∃ M, z.natAbs = M := ⟨_, rfl⟩
    have hM0 : M ≠ 0 := by omega
    rw [hM] at hl S
    have S := S.2.2
    have HL := Lib.hid hl.symm
    have HD := Lib.hid (dgs_dig M); have HT := Lib.hid (dgs_top M); have HV := Lib.hid (vl_dgs M)
    have n0 : 0 < n := by rw [hl]; exact vl_pos.2 (by omega)
    have FIN : Hid ((s = true → txt z = 45 :: dec M) ∧ (s = false → txt z = dec M)) := Lib.hid ⟨fun h => by
      have : z < 0 := by rw [hs] at h; simpa using h
      unfold txt; rw [if_neg hz, if_pos this, hM], fun h => by
      have : ¬ z < 0 := by rw [hs] at h; simpa using h
      unfold txt; rw [if_neg hz, if_neg this, hM]⟩
    generalize dgs M = d at *
    obtain ⟨W0, hW0⟩ : ∃ W0, W0 = w.alloc (.cells #[.bool s, .slice A n c] 37) := ⟨_, rfl⟩
    have K0 : Below w.heap.size w W0 := by rw [hW0]; exact (by repeat (first | exact Below.refl _ _ | refine Below.setCell ?_ (by first | (simp; done) | (simp; omega) | omega) _ | refine Below.alloc ?_ (by first | (simp; done) | (simp; omega) | omega) _ | refine Below.drew ?_ | assumption | refine Below.trans ?_ (Below.mono (by assumption) (by first | (simp; done) | (simp; omega) | omega))))
    have K1 : W0.heap.size = w.heap.size + 1 := by rw [hW0]; simp
    have CL : Hid (∀ W, Below (w.heap.size + 1) W0 W → (W.cell? ⟨w.heap.size, 0, none⟩ = some (.bool s) ∧ W.cell? ⟨w.heap.size, 1, none⟩ = some (.slice A n c)) ∧ Below w.heap.size w W) := Lib.hid fun W hb => by
      refine ⟨?_, K0.trans (hb.mono (by omega))⟩
      rw [hb.cell (p := ⟨w.heap.size, 0, none⟩) (by simp), hb.cell (p := ⟨w.heap.size, 1, none⟩) (by simp), hW0]; simp [go_sem]
    have HW := Lib.hid hW0
    have nd : ((n : Int) == 0) = false := by simp; omega
    clear hs hl hM hW0 K0 hz
    go_enter Tryz.func15, Tryz.ntmps15
    go_wp2
    go_loopw [3, 4] (fun t i wr => ∃ (k : Nat) (o : List UInt8) (St : ByteArray), k ≤ n ∧ i = .int .i64 k ∧ t = .string St ∧ Hid (St = ⟨o.toArray⟩ ∧ dec (vl (d.drop k)).toNat ++ o = dec M ∧ o.length ≤ 4 * k) ∧ Below (w.heap.size + 1) W0 wr) (fun _ i _ => n - (intOf i).toNat)
    case atStart => exact ⟨0, [], ⟨#[]⟩, by omega, rfl, rfl, Lib.hid ⟨rfl, by rw [List.drop_zero, HV.out]; simp, by simp⟩, by rw [HW.out]; exact Below.refl _ _⟩
    case round =>
      obtain ⟨i, o, St, hi, rfl, rfl, hI, hB⟩ := hrel
      obtain ⟨⟨c0, c1⟩, hBw⟩ := CL.out _ hB
      by_cases hend : i = n
      · subst hend
        have eo : o = dec M := by
          have e := hI.out.2.1
          rw [List.drop_eq_nil_of_le (by rw [HL.out]; exact Nat.le_refl _)] at e
          simpa [vl, dec_0] using e
        have eS := hI.out.1
        have ol := hI.out.2.2
        rw [eo] at eS ol
        rcases s
        · have R : Hid (St = ⟨(txt z).toArray⟩) := Lib.hid (by rw [FIN.out.2 (by simp), eS])
          clear eo eS ol
          go_wp2
          go_ret
          exact ⟨ret_str R.out, (by repeat (first | exact Below.refl _ _ | refine Below.setCell ?_ (by first | (simp; done) | (simp; omega) | omega) _ | refine Below.alloc ?_ (by first | (simp; done) | (simp; omega) | omega) _ | refine Below.drew ?_ | assumption | refine Below.trans ?_ (Below.mono (by assumption) (by first | (simp; done) | (simp; omega) | omega))))⟩
        · obtain ⟨S3, hS3⟩ : ∃ S3 : ByteArray, S3 = ⟨(45 :: dec M).toArray⟩ := ⟨_, rfl⟩
          have hadd : ∀ W : World, (Op.stringOp .add ⟨#[45]⟩ St).run Tryz.prog W = .ok (.string S3) W := fun W => by
            rw [eS, hS3]
            exact run_string_add_lists (P := Tryz.prog) W [45] (dec M) (by simp) (by omega)
          have R : Hid (S3 = ⟨(txt z).toArray⟩) := Lib.hid (by rw [FIN.out.1 (by simp), hS3])
          clear eo eS ol hS3
          go_wp2
          go_ret
          exact ⟨ret_str R.out, (by repeat (first | exact Below.refl _ _ | refine Below.setCell ?_ (by first | (simp; done) | (simp; omega) | omega) _ | refine Below.alloc ?_ (by first | (simp; done) | (simp; omega) | omega) _ | refine Below.drew ?_ | assumption | refine Below.trans ?_ (Below.mono (by assumption) (by first | (simp; done) | (simp; omega) | omega))))⟩
      · have hlt : i < n := by omega
        obtain ⟨x, hx⟩ : ∃ x, d[i]? = some x := ⟨_, List.getElem?_eq_getElem (by rw [HL.out]; exact hlt)⟩
        obtain ⟨g, off, rfl, hgb, hc⟩ := S i x hx
        have q0 := (hBw.cell (p := ⟨g, off + i, none⟩) hgb).trans hc
        obtain ⟨bx0, bx1⟩ := HD.out.at_ hx
        obtain ⟨y, rfl⟩ := Int.eq_ofNat_of_zero_le bx0
        obtain ⟨v, hv⟩ : ∃ v, (vl (d.drop (i + 1))).toNat = v := ⟨_, rfl⟩
        have hv0 : i < n - 1 → 0 < v := fun h => by
          have := vl_top (drop_dig HD.out (i + 1)) (top_drop (i + 1) HT.out) (fun e => by have := congrArg List.length e; simp at this; have := HL.out; omega)
          omega
        have hv1 : ¬ i < n - 1 → v = 0 := fun h => by rw [← hv, List.drop_eq_nil_of_le (by rw [HL.out]; omega)]; rfl
        have st : dec (y + pw 0 * v) ++ o = dec M := by
          have e := hI.out.2.1
          obtain ⟨hj, ej⟩ := List.getElem?_eq_some_iff.1 hx
          rw [List.drop_eq_getElem_cons hj, ej] at e
          have nn := vl_nonneg (drop_dig HD.out (i + 1))
          rw [pw_0, show y + 10000 * v = (vl ((y : Int) :: d.drop (i + 1))).toNat by simp only [vl]; omega]
          exact e
        have ST := Lib.hid st; have HV' := Lib.hid hv
        have HV0 := Lib.hid hv0; have HV1 := Lib.hid hv1
        clear st hv hv0 hv1 hx hc S
        go_wp2
        go_loopw [3, 5, 6] (fun t xx kk wi => ∃ (k x : Nat) (o : List UInt8) (St : ByteArray), k ≤ 4 ∧ kk = .int .i64 k ∧ xx = .int .i64 x ∧ t = .string St ∧ x < 10000 ∧ Hid (St = ⟨o.toArray⟩ ∧ dec (x + pw k * v) ++ o = dec M ∧ o.length ≤ 4 * i + k ∧ x < pw k) ∧ Below (w.heap.size + 1) W0 wi) (fun _ _ k _ => 4 - (intOf k).toNat)
        case atStart => exact ⟨0, y, o, St, by omega, rfl, rfl, rfl, by omega, Lib.hid ⟨hI.out.1, ST.out, by have := hI.out.2.2; omega, by rw [pw_0]; omega⟩, hB⟩
        case round =>
          obtain ⟨k, x, o2, St2, hk, rfl, rfl, rfl, hx, hJ, hB2⟩ := hrel
          obtain ⟨⟨d0, d1⟩, hBw2⟩ := CL.out _ hB2
          clear c0 c1 hB hBw q0
          by_cases go : k < 4 ∧ (i < n - 1 ∨ 0 < x)
          · obtain ⟨k4, hor⟩ := go
            obtain ⟨r, hr⟩ : ∃ r, x % 10 = r := ⟨_, rfl⟩
            have hr10 : r < 10 := by omega
            have hm1 : (x : Int).tmod 10 = (r : Int) := by rw [Int.tmod_eq_emod_of_nonneg (by omega)]; omega
            obtain ⟨x', hx'⟩ : ∃ x', x / 10 = x' := ⟨_, rfl⟩
            have hm2 : (x : Int).tdiv 10 = (x' : Int) := by rw [Int.tdiv_eq_ediv_of_nonneg (by omega)]; omega
            obtain ⟨Bb, hBb⟩ : ∃ Bb : ByteArray, Bb = ⟨[dg8 r].toArray⟩ := ⟨_, rfl⟩
            obtain ⟨S3, hS3⟩ : ∃ S3 : ByteArray, S3 = ⟨(dg8 r :: o2).toArray⟩ := ⟨_, rfl⟩
            have hl2 : o2.length ≤ 60 := by have := hJ.out.2.2.1; omega
            have hcv : ∀ W : World, (convert 22 9 (.slice (some ⟨W.heap.size, 0, none⟩) 1 1)).run Tryz.prog (W.alloc (.cells #[.int .u8 (48 + (r : Int))] 5)) = .ok (.string Bb) (W.alloc (.cells #[.int .u8 (48 + (r : Int))] 5)) := fun W => by
              rw [hBb]
              exact run_convert_bytes_back (P := Tryz.prog) _ 22 9 5 ⟨W.heap.size, 0, none⟩ 1 [dg8 r] Tryz.underlying22 Tryz.underlying5 Tryz.underlying9 (fun j hj => by
                have : j = 0 := by simpa using hj
                subst this
                simp [Addr.add, byte_digit r hr10, go_sem])
            have hadd : ∀ W : World, (Op.stringOp .add Bb St2).run Tryz.prog W = .ok (.string S3) W := fun W => by
              rw [hBb, hJ.out.1, hS3]
              exact run_string_add_lists (P := Tryz.prog) W [dg8 r] o2 (by simp) (by omega)
            have nx : dec (x' + pw (k + 1) * v) ++ (dg8 r :: o2) = dec M := by
              rw [← hx', ← hr]
              refine txt_step k4 hJ.out.2.1 ?_
              rcases hor with h | h
              · have := HV0.out h
                have p := pw_bd (k := k) (by omega)
                have := Nat.mul_pos (show 0 < pw k by omega) this
                omega
              · omega
            have HN : Hid (S3 = ⟨(dg8 r :: o2).toArray⟩ ∧ dec (x' + pw (k + 1) * v) ++ (dg8 r :: o2) = dec M ∧ (dg8 r :: o2).length ≤ 4 * i + (k + 1) ∧ x' < pw (k + 1)) := Lib.hid ⟨hS3, nx, by have := hJ.out.2.2.1; simp; omega, by have := hJ.out.2.2.2; rw [pw_step k4] at this; omega⟩
            have x10 : x' < 10000 := by omega
            clear nx hBb hS3 hr hx'
            by_cases hin : i < n - 1
            · have g1 : (i : Int) < (n : Int) - 1 := by omega
              clear hor
              go_wp2
              go_roundw
              case rel => exact ⟨k + 1, x', dg8 r :: o2, S3, by omega, by go_num, rfl, rfl, x10, HN, Below.alloc hB2 (by have := hB2.size; omega) _⟩
              case measure => first | (simp [intOf]; done) | (simp [intOf]; omega)
            · have g1 : ¬ (i : Int) < (n : Int) - 1 := by omega
              have g2 : 0 < x := by omega
              clear hor
              go_wp2
              go_roundw
              case rel => exact ⟨k + 1, x', dg8 r :: o2, S3, by omega, by go_num, rfl, rfl, x10, HN, Below.alloc hB2 (by have := hB2.size; omega) _⟩
              case measure => first | (simp [intOf]; done) | (simp [intOf]; omega)
          · have vn : dec (vl (d.drop (i + 1))).toNat ++ o2 = dec M := by
              rw [HV'.out]
              have e := hJ.out.2.1
              by_cases k4 : k = 4
              · subst k4
                have x0 : x = 0 := by have := hJ.out.2.2.2; rw [pw_4] at this; omega
                rw [x0, pw_4] at e; simpa using e
              · have x0 : x = 0 := by omega
                have v0 := HV1.out (by omega)
                rw [x0, v0] at e; rw [v0]; simpa using e
            have HO : Hid (St2 = ⟨o2.toArray⟩ ∧ dec (vl (d.drop (i + 1))).toNat ++ o2 = dec M ∧ o2.length ≤ 4 * (i + 1)) := Lib.hid ⟨hJ.out.1, vn, by have := hJ.out.2.2.1; omega⟩
            clear vn
            by_cases k4 : k = 4
            · subst k4
              clear go
              go_wp2
              go_roundw
              case rel => exact ⟨i + 1, o2, St2, by omega, by go_num, rfl, HO, hB2⟩
              case measure => first | (simp [intOf]; done) | (simp [intOf]; omega)
            · have k5 : k < 4 := by omega
              have g1 : ¬ (i : Int) < (n : Int) - 1 := by omega
              have x0 : x = 0 := by omega
              subst x0
              clear go k4
              go_wp2
              go_roundw
              case rel => exact ⟨i + 1, o2, St2, by omega, by go_num, rfl, HO, hB2⟩
              case measure => first | (simp [intOf]; done) | (simp [intOf]; omega)
end Go.Proofs.YtkaimfeiahogaaaGreatDoor

