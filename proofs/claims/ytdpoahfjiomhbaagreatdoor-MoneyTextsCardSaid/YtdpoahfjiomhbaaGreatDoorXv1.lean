/-
  The walk of the statement MoneyTexts: it returns true, whatever it is given.
-/
import Derived.Test.YtdpoahfjiomhbaaGreatDoorBw14
import Derived.Test.YtdpoahfjiomhbaaGreatDoorPw11
import Derived.Test.YtdpoahfjiomhbaaGreatDoorMp1
import Derived.Test.YtdpoahfjiomhbaaGreatDoorXs1
import Derived.Test.YtdpoahfjiomhbaaGreatDoorMb2
import Derived.Deep.CutBlock
import Derived.BigRegion
import Derived.Test.YtdpoahfjiomhbaaGreatDoorXb

/-
  Contracts of exref.BigText and Units at longer numbers, of exref.BigParse and of exref6.digits. (Printed by tools/mkxt1.py.)
-/
namespace Go.Proofs.YtdpoahfjiomhbaaGreatDoor
set_option linter.all false
open Go.RowKit Go.Sort
attribute [local go_sem] cell_set_self lt_1 lt_2 lt_3 lt_4 lt_5 lt_6

set_option maxHeartbeats 4000000 in
set_option maxRecDepth 100000 in
theorem bigText_60 (s : Bool) (A : Option Addr) (n c : Nat) (z : Int) (hn : n ≤ 60) (w : World) (P : Pt 0 w s A n c z) :
    Calls Tryz.prog 59 #[.agg #[.bool s, .slice A n c]] w fun e w' => e = .returned (.string ⟨(txt z).toArray⟩) ∧ Below w.heap.size w w' := by
  obtain ⟨hs, hl, S, _⟩ := P
  by_cases hz : z = 0
  · subst hz
    have e : n = 0 := by rw [hl]; simp [dgs_0]
    subst e
    clear hl S hs
    go_enter Tryz.func59, Tryz.ntmps59
    go_wp2
    go_ret
    exact ⟨rfl, (by repeat (first | exact Below.refl _ _ | refine Below.setCell ?_ (by first | (simp; done) | (simp; omega) | omega) _ | refine Below.alloc ?_ (by first | (simp; done) | (simp; omega) | omega) _ | refine Below.drew ?_ | assumption | refine Below.trans ?_ (Below.mono (by assumption) (by first | (simp; done) | (simp; omega) | omega))))⟩
  · obtain ⟨M, hM⟩ : ∃ M, z.natAbs = M := ⟨_, rfl⟩
    have hM0 : M ≠ 0 := by omega
    rw [hM] at hl S
    have S := S.2.2
    have HL := Lib.hid hl.symm
    have HD := Lib.hid (dgs_dig M); have HT := Lib.hid (dgs_top M); have HV := Lib.hid (vl_dgs M)
    have n0 : 0 < n := by rw [hl]; exact vl_pos.2 (by omega)
    have FIN : Hid ((s = true → txt z = 45 :: dec M) ∧ (s = false → txt z = dec M)) := Lib.hid ⟨fun h => by
      have : z < 0 := by rw [hs] at h; simpa using h
      unfold txt; rw [if_neg hz, if_pos this, hM], fun h => by
      have : ¬ z < 0 := by rw [hs] at h; simpa using h
      unfold txt; rw [if_neg hz, if_neg this, hM]⟩
    generalize dgs M = d at *
    obtain ⟨W0, hW0⟩ : ∃ W0, W0 = w.alloc (.cells #[.bool s, .slice A n c] 76) := ⟨_, rfl⟩
    have K0 : Below w.heap.size w W0 := by rw [hW0]; exact (by repeat (first | exact Below.refl _ _ | refine Below.setCell ?_ (by first | (simp; done) | (simp; omega) | omega) _ | refine Below.alloc ?_ (by first | (simp; done) | (simp; omega) | omega) _ | refine Below.drew ?_ | assumption | refine Below.trans ?_ (Below.mono (by assumption) (by first | (simp; done) | (simp; omega) | omega))))
    have K1 : W0.heap.size = w.heap.size + 1 := by rw [hW0]; simp
    have CL : Hid (∀ W, Below (w.heap.size + 1) W0 W → (W.cell? ⟨w.heap.size, 0, none⟩ = some (.bool s) ∧ W.cell? ⟨w.heap.size, 1, none⟩ = some (.slice A n c)) ∧ Below w.heap.size w W) := Lib.hid fun W hb => by
      refine ⟨?_, K0.trans (hb.mono (by omega))⟩
      rw [hb.cell (p := ⟨w.heap.size, 0, none⟩) (by simp), hb.cell (p := ⟨w.heap.size, 1, none⟩) (by simp), hW0]; simp [go_sem]
    have HW := Lib.hid hW0
    have nd : ((n : Int) == 0) = false := by simp; omega
    clear hs hl hM hW0 K0 hz
    go_enter Tryz.func59, Tryz.ntmps59
    go_wp2
    go_loopw [3, 4] (fun t i wr => ∃ (k : Nat) (o : List UInt8) (St : ByteArray), k ≤ n ∧ i = .int .i64 k ∧ t = .string St ∧ Hid (St = ⟨o.toArray⟩ ∧ dec (vl (d.drop k)).toNat ++ o = dec M ∧ o.length ≤ 4 * k) ∧ Below (w.heap.size + 1) W0 wr) (fun _ i _ => n - (intOf i).toNat)
    case atStart => exact ⟨0, [], ⟨#[]⟩, by omega, rfl, rfl, Lib.hid ⟨rfl, by rw [List.drop_zero, HV.out]; simp, by simp⟩, by rw [HW.out]; exact Below.refl _ _⟩
    case round =>
      obtain ⟨i, o, St, hi, rfl, rfl, hI, hB⟩ := hrel
      obtain ⟨⟨c0, c1⟩, hBw⟩ := CL.out _ hB
      by_cases hend : i = n
      · subst hend
        have eo : o = dec M := by
          have e := hI.out.2.1
          rw [List.drop_eq_nil_of_le (by rw [HL.out]; exact Nat.le_refl _)] at e
          simpa [vl, dec_0] using e
        have eS := hI.out.1
        have ol := hI.out.2.2
        rw [eo] at eS ol
        rcases s
        · have R : Hid (St = ⟨(txt z).toArray⟩) := Lib.hid (by rw [FIN.out.2 (by simp), eS])
          clear eo eS ol
          go_wp2
          go_ret
          exact ⟨ret_str R.out, (by repeat (first | exact Below.refl _ _ | refine Below.setCell ?_ (by first | (simp; done) | (simp; omega) | omega) _ | refine Below.alloc ?_ (by first | (simp; done) | (simp; omega) | omega) _ | refine Below.drew ?_ | assumption | refine Below.trans ?_ (Below.mono (by assumption) (by first | (simp; done) | (simp; omega) | omega))))⟩
        · obtain ⟨S3, hS3⟩ : ∃ S3 : ByteArray, S3 = ⟨(45 :: dec M).toArray⟩ := ⟨_, rfl⟩
          have hadd : ∀ W : World, (Op.stringOp .add ⟨#[45]⟩ St).run Tryz.prog W = .ok (.string S3) W := fun W => by
            rw [eS, hS3]
            exact run_string_add_lists (P := Tryz.prog) W [45] (dec M) (by simp) (by omega)
          have R : Hid (S3 = ⟨(txt z).toArray⟩) := Lib.hid (by rw [FIN.out.1 (by simp), hS3])
          clear eo eS ol hS3
          go_wp2
          go_ret
          exact ⟨ret_str R.out, (by repeat (first | exact Below.refl _ _ | refine Below.setCell ?_ (by first | (simp; done) | (simp; omega) | omega) _ | refine Below.alloc ?_ (by first | (simp; done) | (simp; omega) | omega) _ | refine Below.drew ?_ | assumption | refine Below.trans ?_ (Below.mono (by assumption) (by first | (simp; done) | (simp; omega) | omega))))⟩
      · have hlt : i < n := by omega
        obtain ⟨x, hx⟩ : ∃ x, d[i]? = some x := ⟨_, List.getElem?_eq_getElem (by rw [HL.out]; exact hlt)⟩
        obtain ⟨g, off, rfl, hgb, hc⟩ := S i x hx
        have q0 := (hBw.cell (p := ⟨g, off + i, none⟩) hgb).trans hc
        obtain ⟨bx0, bx1⟩ := HD.out.at_ hx
        obtain ⟨y, rfl⟩ := Int.eq_ofNat_of_zero_le bx0
        obtain ⟨v, hv⟩ : ∃ v, (vl (d.drop (i + 1))).toNat = v := ⟨_, rfl⟩
        have hv0 : i < n - 1 → 0 < v := fun h => by
          have := vl_top (drop_dig HD.out (i + 1)) (top_drop (i + 1) HT.out) (fun e => by have := congrArg List.length e; simp at this; have := HL.out; omega)
          omega
        have hv1 : ¬ i < n - 1 → v = 0 := fun h => by rw [← hv, List.drop_eq_nil_of_le (by rw [HL.out]; omega)]; rfl
        have st : dec (y + pw 0 * v) ++ o = dec M := by
          have e := hI.out.2.1
          obtain ⟨hj, ej⟩ := List.getElem?_eq_some_iff.1 hx
          rw [List.drop_eq_getElem_cons hj, ej] at e
          have nn := vl_nonneg (drop_dig HD.out (i + 1))
          rw [pw_0, show y + 10000 * v = (vl ((y : Int) :: d.drop (i + 1))).toNat by simp only [vl]; omega]
          exact e
        have ST := Lib.hid st; have HV' := Lib.hid hv
        have HV0 := Lib.hid hv0; have HV1 := Lib.hid hv1
        clear st hv hv0 hv1 hx hc S
        go_wp2
        go_loopw [3, 5, 6] (fun t xx kk wi => ∃ (k x : Nat) (o : List UInt8) (St : ByteArray), k ≤ 4 ∧ kk = .int .i64 k ∧ xx = .int .i64 x ∧ t = .string St ∧ x < 10000 ∧ Hid (St = ⟨o.toArray⟩ ∧ dec (x + pw k * v) ++ o = dec M ∧ o.length ≤ 4 * i + k ∧ x < pw k) ∧ Below (w.heap.size + 1) W0 wi) (fun _ _ k _ => 4 - (intOf k).toNat)
        case atStart => exact ⟨0, y, o, St, by omega, rfl, rfl, rfl, by omega, Lib.hid ⟨hI.out.1, ST.out, by have := hI.out.2.2; omega, by rw [pw_0]; omega⟩, hB⟩
        case round =>
          obtain ⟨k, x, o2, St2, hk, rfl, rfl, rfl, hx, hJ, hB2⟩ := hrel
          obtain ⟨⟨d0, d1⟩, hBw2⟩ := CL.out _ hB2
          clear c0 c1 hB hBw q0
          by_cases go : k < 4 ∧ (i < n - 1 ∨ 0 < x)
          · obtain ⟨k4, hor⟩ := go
            obtain ⟨r, hr⟩ : ∃ r, x % 10 = r := ⟨_, rfl⟩
            have hr10 : r < 10 := by omega
            have hm1 : (x : Int).tmod 10 = (r : Int) := by rw [Int.tmod_eq_emod_of_nonneg (by omega)]; omega
            obtain ⟨x', hx'⟩ : ∃ x', x / 10 = x' := ⟨_, rfl⟩
            have hm2 : (x : Int).tdiv 10 = (x' : Int) := by rw [Int.tdiv_eq_ediv_of_nonneg (by omega)]; omega
            obtain ⟨Bb, hBb⟩ : ∃ Bb : ByteArray, Bb = ⟨[dg8 r].toArray⟩ := ⟨_, rfl⟩
            obtain ⟨S3, hS3⟩ : ∃ S3 : ByteArray, S3 = ⟨(dg8 r :: o2).toArray⟩ := ⟨_, rfl⟩
            have hl2 : o2.length ≤ 300 := by have := hJ.out.2.2.1; omega
            have hcv : ∀ W : World, (convert 154 9 (.slice (some ⟨W.heap.size, 0, none⟩) 1 1)).run Tryz.prog (W.alloc (.cells #[.int .u8 (48 + (r : Int))] 5)) = .ok (.string Bb) (W.alloc (.cells #[.int .u8 (48 + (r : Int))] 5)) := fun W => by
              rw [hBb]
              exact run_convert_bytes_back (P := Tryz.prog) _ 154 9 5 ⟨W.heap.size, 0, none⟩ 1 [dg8 r] Tryz.underlying154 Tryz.underlying5 Tryz.underlying9 (fun j hj => by
                have : j = 0 := by simpa using hj
                subst this
                simp [Addr.add, byte_digit r hr10, go_sem])
            have hadd : ∀ W : World, (Op.stringOp .add Bb St2).run Tryz.prog W = .ok (.string S3) W := fun W => by
              rw [hBb, hJ.out.1, hS3]
              exact run_string_add_lists (P := Tryz.prog) W [dg8 r] o2 (by simp) (by omega)
            have nx : dec (x' + pw (k + 1) * v) ++ (dg8 r :: o2) = dec M := by
              rw [← hx', ← hr]
              refine txt_step k4 hJ.out.2.1 ?_
              rcases hor with h | h
              · have := HV0.out h
                have p := pw_bd (k := k) (by omega)
                have := Nat.mul_pos (show 0 < pw k by omega) this
                omega
              · omega
            have HN : Hid (S3 = ⟨(dg8 r :: o2).toArray⟩ ∧ dec (x' + pw (k + 1) * v) ++ (dg8 r :: o2) = dec M ∧ (dg8 r :: o2).length ≤ 4 * i + (k + 1) ∧ x' < pw (k + 1)) := Lib.hid ⟨hS3, nx, by have := hJ.out.2.2.1; simp; omega, by have := hJ.out.2.2.2; rw [pw_step k4] at this; omega⟩
            have x10 : x' < 10000 := by omega
            clear nx hBb hS3 hr hx'
            by_cases hin : i < n - 1
            · have g1 : (i : Int) < (n : Int) - 1 := by omega
              clear hor
              go_wp2
              go_roundw
              case rel => exact ⟨k + 1, x', dg8 r :: o2, S3, by omega, by go_num, rfl, rfl, x10, HN, Below.alloc hB2 (by have := hB2.size; omega) _⟩
              case measure => first | (simp [intOf]; done) | (simp [intOf]; omega)
            · have g1 : ¬ (i : Int) < (n : Int) - 1 := by omega
              have g2 : 0 < x := by omega
              clear hor
              go_wp2
              go_roundw
              case rel => exact ⟨k + 1, x', dg8 r :: o2, S3, by omega, by go_num, rfl, rfl, x10, HN, Below.alloc hB2 (by have := hB2.size; omega) _⟩
              case measure => first | (simp [intOf]; done) | (simp [intOf]; omega)
          · have vn : dec (vl (d.drop (i + 1))).toNat ++ o2 = dec M := by
              rw [HV'.out]
              have e := hJ.out.2.1
              by_cases k4 : k = 4
              · subst k4
                have x0 : x = 0 := by have := hJ.out.2.2.2; rw [pw_4] at this; omega
                rw [x0, pw_4] at e; simpa using e
              · have x0 : x = 0 := by omega
                have v0 := HV1.out (by omega)
                rw [x0, v0] at e; rw [v0]; simpa using e
            have HO : Hid (St2 = ⟨o2.toArray⟩ ∧ dec (vl (d.drop (i + 1))).toNat ++ o2 = dec M ∧ o2.length ≤ 4 * (i + 1)) := Lib.hid ⟨hJ.out.1, vn, by have := hJ.out.2.2.1; omega⟩
            clear vn
            by_cases k4 : k = 4
            · subst k4
              clear go
              go_wp2
              go_roundw
              case rel => exact ⟨i + 1, o2, St2, by omega, by go_num, rfl, HO, hB2⟩
              case measure => first | (simp [intOf]; done) | (simp [intOf]; omega)
            · have k5 : k < 4 := by omega
              have g1 : ¬ (i : Int) < (n : Int) - 1 := by omega
              have x0 : x = 0 := by omega
              subst x0
              clear go k4
              go_wp2
              go_roundw
              case rel => exact ⟨i + 1, o2, St2, by omega, by go_num, rfl, HO, hB2⟩
              case measure => first | (simp [intOf]; done) | (simp [intOf]; omega)

theorem numF_txt (M : Nat) : numF (txt (M : Int)) = true := by
  rw [numF_iff]
  unfold txt
  by_cases h : (M : Int) = 0
  · rw [if_pos h]; exact ⟨by simp, fun b hb => by simp at hb; subst hb; decide, .inl rfl⟩
  · rw [if_neg h, if_neg (by omega), Int.natAbs_natCast]
    refine ⟨dec_ne (by omega), dec_dig _, .inr fun e => ?_⟩
    cases hd : dec M with
    | nil => rw [hd] at e; simp at e
    | cons x r =>
      rw [hd] at e; simp at e
      exact dec_head hd (by rw [e]; rfl)
theorem dv_txt (M : Nat) : dv (txt (M : Int)) = M := by
  unfold txt
  by_cases h : (M : Int) = 0
  · rw [if_pos h]; have : M = 0 := by omega
    subst this; rfl
  · rw [if_neg h, if_neg (by omega), Int.natAbs_natCast]; exact dv_dec M
theorem txt_len60 {M n : Nat} (h : M < 10000 ^ n) (hn : n ≤ 60) : (txt (M : Int)).length ≤ 1000000 := by
  unfold txt
  by_cases h0 : (M : Int) = 0
  · rw [if_pos h0]; simp
  · rw [if_neg h0, if_neg (by omega), Int.natAbs_natCast]
    have : (10000 : Nat) ^ n = 10 ^ (4 * n) := by rw [Nat.pow_mul]
    rw [this] at h
    have := dec_len_le (4 * n) M h
    omega
set_option maxHeartbeats 4000000 in
set_option maxRecDepth 100000 in
theorem bigInt_60 (A : Option Addr) (n c M : Nat) (hn : n ≤ 60) (w : World) (P : Pt 0 w false A n c (M : Int)) :
    Calls Tryz.prog 76 #[.agg #[.bool false, .slice A n c]] w fun e w' => e = .returned (.tuple #[.int .i64 (intN (M : Int)), .bool (intB (M : Int))]) ∧ Below w.heap.size w w' := by
  have TX := Lib.hid (fun W (hb : Below w.heap.size w W) => bigText_60 false A n c M hn W (P.below hb))
  have ml : M < 10000 ^ n := by
    have h1 := vl_lt (dgs_dig M)
    rw [vl_dgs] at h1
    have h2 : (dgs M).length = n := by have := P.2.1; rw [Int.natAbs_natCast] at this; exact this.symm
    rw [h2] at h1
    have : ((10000 ^ n : Nat) : Int) = (10000 : Int) ^ n := by rw [Int.natCast_pow]; rfl
    omega
  have AT : Hid (∀ W, Calls Tryz.prog 66 #[.string ⟨(txt (M : Int)).toArray⟩] W fun e w' => e = .returned (.tuple #[.int .i64 (intN (M : Int)), .bool (intB (M : Int))]) ∧ Below W.heap.size W w') := Lib.hid fun W => by
    have h := atoi_plain (txt (M : Int)) (numF_txt M) (txt_len60 ml hn) W
    have e1 : valN 0 (txt (M : Int)) = intN (M : Int) := by
      unfold valN intN; rw [dv_txt]
      by_cases k : M < 9223372036854775808
      · rw [if_pos k, if_pos (by omega)]
      · rw [if_neg k, if_neg (by omega)]
    have e2 : fitsN (txt (M : Int)) = intB (M : Int) := by
      unfold fitsN intB; rw [dv_txt]
      by_cases k : M < 9223372036854775808
      · rw [decide_eq_true k, decide_eq_true (by omega)]
      · rw [decide_eq_false k, decide_eq_false (by omega)]
    rw [e1, e2] at h; exact h
  obtain ⟨t, ht⟩ : ∃ t : ByteArray, t = ⟨(txt (M : Int)).toArray⟩ := ⟨_, rfl⟩
  rw [← ht] at TX AT
  clear P ht ml
  generalize intN (M : Int) = iz at *
  generalize intB (M : Int) = bz at *
  go_enter Tryz.func76, Tryz.ntmps76
  go_wp2_with (first | (go_at_call 59; refine (TX.out _ (by repeat (first | exact Below.refl _ _ | refine Below.setCell ?_ (by first | (simp; done) | (simp; omega) | omega) _ | refine Below.alloc ?_ (by first | (simp; done) | (simp; omega) | omega) _ | refine Below.drew ?_ | assumption | refine Below.trans ?_ (Below.mono (by assumption) (by first | (simp; done) | (simp; omega) | omega))))).mono ?_; rintro e w1 ⟨rfl, hb1⟩; obtain ⟨hc1, hf1⟩ := bcell hb1; have hs1 := hb1.size; (try simp at hs1); have hz1 : w.heap.size < w1.heap.size := by have := hb1.size; (try simp at this); omega) | (go_at_call 66; refine (AT.out _).mono ?_; rintro e w2 ⟨rfl, hb2⟩; obtain ⟨hc2, hf2⟩ := bcell hb2; have hs2 := hb2.size; (try simp at hs2); have hz2 : w.heap.size < w2.heap.size := by have := hb2.size; (try simp at this); omega))
  go_ret2
  exact ⟨rfl, (by repeat (first | exact Below.refl _ _ | refine Below.setCell ?_ (by first | (simp; done) | (simp; omega) | omega) _ | refine Below.alloc ?_ (by first | (simp; done) | (simp; omega) | omega) _ | refine Below.drew ?_ | assumption | refine Below.trans ?_ (Below.mono (by assumption) (by first | (simp; done) | (simp; omega) | omega))))⟩
set_option maxHeartbeats 4000000 in
set_option maxRecDepth 100000 in
theorem units_60 (A : Option Addr) (n c M : Nat) (hn : n ≤ 60) (w : World) (P : Pt 0 w false A n c (M : Int)) :
    Calls Tryz.prog 88 #[.agg #[.bool false, .slice A n c]] w fun e w' => e = .returned (.tuple #[.int .i64 (intN (M : Int)), .bool (unB (M : Int))]) ∧ Below w.heap.size w w' := by
  have BI := Lib.hid (fun W (hb : Below w.heap.size w W) => bigInt_60 A n c M hn W (P.below hb))
  clear P hn
  generalize (M : Int) = z at *
  have ib : -9223372036854775808 ≤ intN z ∧ intN z ≤ 9223372036854775807 := by unfold intN; split <;> omega
  by_cases h : -4611686018427387904 ≤ z ∧ z ≤ 4611686018427387904
  · have e1 : intN z = z := by unfold intN; rw [if_pos (by omega)]
    have e2 : intB z = true := decide_eq_true (by omega)
    have R : Hid (intN z = z ∧ unB z = true) := Lib.hid ⟨e1, decide_eq_true h⟩
    rw [e1, e2] at BI
    clear e1 e2 ib
    obtain ⟨h0, h1⟩ := h
    go_enter Tryz.func88, Tryz.ntmps88
    go_wp2_with (first | (go_at_call 76; refine (BI.out _ (by repeat (first | exact Below.refl _ _ | refine Below.setCell ?_ (by first | (simp; done) | (simp; omega) | omega) _ | refine Below.alloc ?_ (by first | (simp; done) | (simp; omega) | omega) _ | refine Below.drew ?_ | assumption | refine Below.trans ?_ (Below.mono (by assumption) (by first | (simp; done) | (simp; omega) | omega))))).mono ?_; rintro e w1 ⟨rfl, hb1⟩; obtain ⟨hc1, hf1⟩ := bcell hb1; have hs1 := hb1.size; (try simp at hs1); have hz1 : w.heap.size < w1.heap.size := by have := hb1.size; (try simp at this); omega))
    go_ret2
    exact ⟨ret_ib R.out, (by repeat (first | exact Below.refl _ _ | refine Below.setCell ?_ (by first | (simp; done) | (simp; omega) | omega) _ | refine Below.alloc ?_ (by first | (simp; done) | (simp; omega) | omega) _ | refine Below.drew ?_ | assumption | refine Below.trans ?_ (Below.mono (by assumption) (by first | (simp; done) | (simp; omega) | omega))))⟩
  · obtain ⟨iz, hiz⟩ : ∃ iz, intN z = iz := ⟨_, rfl⟩
    have R : Hid (intN z = iz ∧ unB z = false) := Lib.hid ⟨hiz, decide_eq_false h⟩
    by_cases hb : intB z = true
    · have e : iz = z := by rw [← hiz]; unfold intN; rw [if_pos (of_decide_eq_true hb)]
      rw [hiz, hb] at BI
      rw [hiz] at ib
      obtain ⟨i0, i1⟩ := ib
      have h' : iz < -4611686018427387904 ∨ 4611686018427387904 < iz := by omega
      clear hiz e h hb
      rcases h' with h' | h'
      all_goals
        (try have d := decide_eq_false (show ¬ (-4611686018427387904 ≤ iz) by omega))
        go_enter Tryz.func88, Tryz.ntmps88
        go_wp2_with (first | (go_at_call 76; refine (BI.out _ (by repeat (first | exact Below.refl _ _ | refine Below.setCell ?_ (by first | (simp; done) | (simp; omega) | omega) _ | refine Below.alloc ?_ (by first | (simp; done) | (simp; omega) | omega) _ | refine Below.drew ?_ | assumption | refine Below.trans ?_ (Below.mono (by assumption) (by first | (simp; done) | (simp; omega) | omega))))).mono ?_; rintro e w1 ⟨rfl, hb1⟩; obtain ⟨hc1, hf1⟩ := bcell hb1; have hs1 := hb1.size; (try simp at hs1); have hz1 : w.heap.size < w1.heap.size := by have := hb1.size; (try simp at this); omega))
        go_ret2
        exact ⟨ret_ib R.out, (by repeat (first | exact Below.refl _ _ | refine Below.setCell ?_ (by first | (simp; done) | (simp; omega) | omega) _ | refine Below.alloc ?_ (by first | (simp; done) | (simp; omega) | omega) _ | refine Below.drew ?_ | assumption | refine Below.trans ?_ (Below.mono (by assumption) (by first | (simp; done) | (simp; omega) | omega))))⟩
    · have hb' : intB z = false := by simpa using hb
      rw [hiz, hb'] at BI
      clear hiz h hb hb' ib
      go_enter Tryz.func88, Tryz.ntmps88
      go_wp2_with (first | (go_at_call 76; refine (BI.out _ (by repeat (first | exact Below.refl _ _ | refine Below.setCell ?_ (by first | (simp; done) | (simp; omega) | omega) _ | refine Below.alloc ?_ (by first | (simp; done) | (simp; omega) | omega) _ | refine Below.drew ?_ | assumption | refine Below.trans ?_ (Below.mono (by assumption) (by first | (simp; done) | (simp; omega) | omega))))).mono ?_; rintro e w1 ⟨rfl, hb1⟩; obtain ⟨hc1, hf1⟩ := bcell hb1; have hs1 := hb1.size; (try simp at hs1); have hz1 : w.heap.size < w1.heap.size := by have := hb1.size; (try simp at this); omega))
      go_ret2
      exact ⟨ret_ib R.out, (by repeat (first | exact Below.refl _ _ | refine Below.setCell ?_ (by first | (simp; done) | (simp; omega) | omega) _ | refine Below.alloc ?_ (by first | (simp; done) | (simp; omega) | omega) _ | refine Below.drew ?_ | assumption | refine Below.trans ?_ (Below.mono (by assumption) (by first | (simp; done) | (simp; omega) | omega))))⟩


theorem digA_false {l : List UInt8} {k : Nat} {b : UInt8} (hk : l[k]? = some b) (h : ¬ (48 ≤ b.toNat ∧ b.toNat ≤ 57)) : digA l = false := by
  refine Bool.eq_false_iff.2 fun e => h (digA_iff.1 e b (List.mem_of_getElem? hk))
set_option maxHeartbeats 4000000 in
set_option maxRecDepth 100000 in
theorem rdigits_any (l : List UInt8) (hlen : l.length ≤ 1000000) (w : World) : Calls Tryz.prog 86 #[.string ⟨l.toArray⟩] w fun e w' => e = .returned (.bool (digS l)) ∧ Below w.heap.size w w' := by
  obtain ⟨n, hn⟩ : ∃ n, l.length = n := ⟨_, rfl⟩
  have HN := Lib.hid hn
  have hts : (⟨l.toArray⟩ : ByteArray).size = n := by rw [ba_szP, hn]
  have AT : Hid (∀ i b (_ : l[i]? = some b) (hi : i < (⟨l.toArray⟩ : ByteArray).size), ((⟨l.toArray⟩ : ByteArray)[i]'hi).toNat = b.toNat) := Lib.hid (fun i b h hi => ba_at (i := i) (b := b) rfl h hi)
  have END : Hid (digA (l.take n) = true → (!((⟨l.toArray⟩ : ByteArray).toList == [])) = digS l) := Lib.hid fun h => by
    rw [List.take_of_length_le (by rw [hn]; exact Nat.le_refl _)] at h
    unfold digS; rw [h, ByteArray.toList_mk, Bool.and_true]
    cases l <;> rfl
  have e0 : ∃ q : Bool, ((⟨l.toArray⟩ : ByteArray).toList == []) = q := ⟨_, rfl⟩
  obtain ⟨q, e0⟩ := e0
  rw [e0] at END
  have BAD : Hid (∀ (k : Nat) (b : UInt8), l[k]? = some b → ¬ (48 ≤ b.toNat ∧ b.toNat ≤ 57) → false = digS l) := Lib.hid fun k b hk h => by
    unfold digS; rw [digA_false hk h, Bool.and_false]
  have STEP := Lib.hid (fun (k : Nat) (b : UInt8) (hk : l[k]? = some b) h ht => digA_step hk h ht)
  have hn1 : n ≤ 1000000 := by omega
  have e1 : ((⟨l.toArray⟩ : ByteArray).toList != []) = !q := by rw [bne, e0]
  clear hn hlen
  generalize (⟨l.toArray⟩ : ByteArray) = t at *
  go_enter Tryz.func86, Tryz.ntmps86
  go_wp2
  go_loopw [3] (fun i wr => ∃ k : Nat, k ≤ n ∧ i = .int .i64 k ∧ Hid (digA (l.take k) = true) ∧ Below w.heap.size w wr) (fun i _ => n - (intOf i).toNat)
  case atStart => exact ⟨0, by omega, rfl, Lib.hid rfl, (by repeat (first | exact Below.refl _ _ | refine Below.setCell ?_ (by first | (simp; done) | (simp; omega) | omega) _ | refine Below.alloc ?_ (by first | (simp; done) | (simp; omega) | omega) _ | refine Below.drew ?_ | assumption | refine Below.trans ?_ (Below.mono (by assumption) (by first | (simp; done) | (simp; omega) | omega))))⟩
  case round =>
    obtain ⟨k, hk, rfl, hI, hB⟩ := hrel
    by_cases hlt : k < n
    · obtain ⟨b, hb⟩ : ∃ b, l[k]? = some b := ⟨_, List.getElem?_eq_getElem (by rw [HN.out]; exact hlt)⟩
      have pk : k < t.size := by omega
      have fk := AT.out k b hb pk
      obtain ⟨kk, hkk⟩ : ∃ kk, b.toNat = kk := ⟨_, rfl⟩
      rw [hkk] at fk
      by_cases g : 48 ≤ kk ∧ kk ≤ 57
      · have NX := Lib.hid (STEP.out k b hb (by rw [hkk]; exact g) hI.out)
        obtain ⟨g0, g1⟩ := g
        clear hb hkk AT HN hI END BAD STEP
        go_wp2
        go_roundw
        case rel => exact ⟨k + 1, by omega, by go_num, NX, hB⟩
        case measure => first | (simp [intOf]; done) | (simp [intOf]; omega)
      · have R := Lib.hid (BAD.out k b hb (by rw [hkk]; exact g))
        clear hb hkk AT HN hI END BAD STEP
        by_cases g0 : kk < 48
        · clear g
          go_wp2
          go_ret
          exact ⟨ret_b1 R.out.symm, (by repeat (first | exact Below.refl _ _ | refine Below.setCell ?_ (by first | (simp; done) | (simp; omega) | omega) _ | refine Below.alloc ?_ (by first | (simp; done) | (simp; omega) | omega) _ | refine Below.drew ?_ | assumption | refine Below.trans ?_ (Below.mono (by assumption) (by first | (simp; done) | (simp; omega) | omega))))⟩
        · have g1 : 57 < kk := by omega
          have g2 : 48 ≤ kk := by omega
          clear g g0
          go_wp2
          go_ret
          exact ⟨ret_b1 R.out.symm, (by repeat (first | exact Below.refl _ _ | refine Below.setCell ?_ (by first | (simp; done) | (simp; omega) | omega) _ | refine Below.alloc ?_ (by first | (simp; done) | (simp; omega) | omega) _ | refine Below.drew ?_ | assumption | refine Below.trans ?_ (Below.mono (by assumption) (by first | (simp; done) | (simp; omega) | omega))))⟩
    · obtain rfl : k = n := by omega
      have R := Lib.hid (END.out hI.out)
      clear AT HN hI END BAD STEP
      go_wp2
      go_ret
      exact ⟨ret_b1 R.out.symm, (by repeat (first | exact Below.refl _ _ | refine Below.setCell ?_ (by first | (simp; done) | (simp; omega) | omega) _ | refine Below.alloc ?_ (by first | (simp; done) | (simp; omega) | omega) _ | refine Below.drew ?_ | assumption | refine Below.trans ?_ (Below.mono (by assumption) (by first | (simp; done) | (simp; omega) | omega))))⟩
/-- A number's digits, parted. -/
theorem dv_parts (l : List UInt8) : ∀ (m f : Nat), f ≤ m → m ≤ l.length → dv (l.take m) = dv (l.take f) * 10 ^ (m - f) + dv ((l.take m).drop f) := fun m f hf hm => by
  obtain ⟨j, rfl⟩ : ∃ j, m = f + j := ⟨m - f, by omega⟩
  rw [Nat.add_sub_cancel_left]
  induction j with
  | zero => rw [Nat.add_zero, List.drop_of_length_le (by simp; omega)]; simp [dv]
  | succ j ih =>
    obtain ⟨b, hb⟩ : ∃ b, l[f + j]? = some b := ⟨_, List.getElem?_eq_getElem (by omega)⟩
    have h1 := dv_take hb
    have h2 := ih (by omega) (by omega)
    have h3 : (l.take (f + j + 1)).drop f = (l.take (f + j)).drop f ++ [b] := by
      rw [List.take_succ, hb, Option.toList_some, List.drop_append_of_le_length (by simp; omega)]
    rw [show f + (j + 1) = f + j + 1 by omega, h1, h3, dv_snoc, h2, Nat.pow_succ, Nat.mul_add, ← Nat.mul_assoc, Nat.mul_comm 10, Nat.mul_assoc _ 10, Nat.mul_comm 10]
    omega
theorem dv_lt : ∀ (n : Nat) (l : List UInt8), l.length = n → DigB l → dv l < 10 ^ n
  | 0, l, h, _ => by rw [List.length_eq_zero_iff.1 h]; simp [dv]
  | n + 1, l, h, d => by
    have hne : l ≠ [] := fun e => by rw [e] at h; simp at h
    rw [← List.dropLast_concat_getLast hne, dv_snoc]
    have ih := dv_lt n l.dropLast (by rw [List.length_dropLast, h]; rfl) (fun b hb => d b ((List.dropLast_sublist l).subset hb))
    have := d (l.getLast hne) (List.getLast_mem hne)
    rw [Nat.pow_succ]; omega
theorem dv_mid {l : List UInt8} {i f : Nat} {b : UInt8} (hb : l[i]? = some b) (hf : f ≤ i) : dv ((l.take (i + 1)).drop f) = 10 * dv ((l.take i).drop f) + (b.toNat - 48) := by
  have := (List.getElem?_eq_some_iff.1 hb).1
  rw [List.take_succ, hb, Option.toList_some, List.drop_append_of_le_length (by simp; omega), dv_snoc]
theorem dv_mid_lt {l : List UInt8} (hd : DigB l) (f i : Nat) (hf : f ≤ i) (hi : i ≤ l.length) (h4 : i ≤ f + 4) : dv ((l.take i).drop f) < 10000 := by
  have h1 := dv_lt (i - f) ((l.take i).drop f) (by simp; omega) (fun b hb => hd b (List.mem_of_mem_take (List.mem_of_mem_drop hb)))
  have h2 : 10 ^ (i - f) ≤ 10 ^ 4 := Nat.pow_le_pow_right (by omega) (by omega)
  omega
set_option maxHeartbeats 4000000 in
set_option maxRecDepth 100000 in
theorem bigParse_any (l : List UInt8) (hlen : l.length ≤ 240) (hF : numF l = true) (w : World) : Calls Tryz.prog 87 #[.string ⟨l.toArray⟩] w fun e w' => (∃ A n c, e = .returned (.tuple #[.agg #[.bool false, .slice A n c], .bool true]) ∧ Pt w.heap.size w' false A n c (dv l : Int)) ∧ Below w.heap.size w w' := by
  obtain ⟨i0, hi0, hz0, hz1, hz2⟩ := info_parts Tryz.infoInt
  obtain ⟨hne, hd, h0⟩ := numF_iff.1 hF
  have FO : Hid (∀ W, Calls Tryz.prog 114 #[.string ⟨l.toArray⟩] W fun e w' => e = .returned (.bool true) ∧ Below W.heap.size W w') := Lib.hid fun W => by
    have := form_free l (by omega) (fun ch r e => .inl fun h => by have := hd ch (by rw [e]; simp); rw [h] at this; exact absurd this (by decide)) W
    rw [hF] at this; exact this
  have TR := Lib.hid (fun A n c ds (a : ds.length = n) (b : n ≤ 1000) (d : Dgt ds) (v : vl ds = ((dv l : Nat) : Int)) W (T : Sl W A c ds) => trim_dgs false (dv l) (dv l) rfl A n c ds a b d v W T)
  obtain ⟨m0, hm0⟩ : ∃ m, l.length = m := ⟨_, rfl⟩
  have m1 : 0 < m0 := by rw [← hm0]; exact List.length_pos_iff.2 hne
  have HM := Lib.hid hm0
  obtain ⟨C, hC⟩ : ∃ C : ByteArray, C = ⟨l.toArray⟩ := ⟨_, rfl⟩
  have hts : C.size = m0 := by rw [hC, ba_szP, hm0]
  obtain ⟨b0, hb0⟩ : ∃ b, l[0]? = some b := ⟨_, List.getElem?_eq_getElem (by omega)⟩
  have p1 : 0 < C.size := by omega
  have f0 := ba_at hC hb0 p1
  obtain ⟨k0, hk0⟩ : ∃ k, b0.toNat = k := ⟨_, rfl⟩
  rw [hk0] at f0
  have kb : 48 ≤ k0 ∧ k0 ≤ 57 := by rw [← hk0]; exact hd b0 (List.mem_of_getElem? hb0)
  have d45 : ((k0 : Int) == 45) = false := by simp; omega
  have HD := Lib.hid hd
  have HC : Hid (C = ⟨l.toArray⟩) := Lib.hid hC
  rw [← hC] at FO ⊢
  have mm : m0 ≤ 240 := by omega
  clear hC hF hd hne h0 hb0 hk0 hm0 kb hlen
  go_enter Tryz.func87, Tryz.ntmps87
  go_wp2_with (first | (go_at_call 114; refine (FO.out _).mono ?_; rintro e w9 ⟨rfl, hb9⟩; obtain ⟨hc9, hf9⟩ := bcell hb9; have hs9 := hb9.size; (try simp at hs9); have hz9 : w.heap.size < w9.heap.size := by have := hb9.size; (try simp at this); omega))
  go_loopw [0, 6] (fun s v wr => ∃ (m : Nat) (S : ByteArray) (ds : List Int) (k : Nat) (vO : Value), m ≤ m0 ∧ s = .string S ∧ S.size = m ∧ k + m ≤ 240 ∧ vO = v ∧ Hid (S = ⟨(l.take m).toArray⟩ ∧ ds.length = k ∧ Dgt ds ∧ ((dv (l.take m) : Nat) : Int) * 10000 ^ k + vl ds = ((dv l : Nat) : Int)) ∧ wr.ownsRow (w.heap.size + 1) 3 1 vO k (ds.map (Value.int .i64)) ∧ Hid ((wr.cell? ⟨w.heap.size, 0, none⟩ = some (.bool false) ∧ wr.cell? ⟨w.heap.size, 1, none⟩ = some (.slice none 0 0)) ∧ (wr.frozen? ⟨w.heap.size, 0, none⟩ = false ∧ wr.frozen? ⟨w.heap.size, 1, none⟩ = false)) ∧ w.heap.size < wr.heap.size ∧ Below w.heap.size w wr) (fun s _ _ => match s with | .string S => S.size | _ => 0)
  case atStart => exact ⟨m0, C, [], 0, _, by omega, rfl, by omega, by omega, rfl, Lib.hid ⟨by rw [List.take_of_length_le (by rw [HM.out]; exact Nat.le_refl _)]; exact HC.out, rfl, Dgt.nil, by rw [List.take_of_length_le (by rw [HM.out]; exact Nat.le_refl _)]; simp [vl]⟩, World.ownsRow_nil _ _ _ _, Lib.hid (by refine ⟨⟨?_, ?_⟩, ⟨?_, ?_⟩⟩ <;> (simp [go_sem, *]; done)), (by first | (simp; done) | (simp; omega) | omega), (by repeat (first | exact Below.refl _ _ | refine Below.setCell ?_ (by first | (simp; done) | (simp; omega) | omega) _ | refine Below.alloc ?_ (by first | (simp; done) | (simp; omega) | omega) _ | refine Below.drew ?_ | assumption | refine Below.trans ?_ (Below.mono (by assumption) (by first | (simp; done) | (simp; omega) | omega))))⟩
  case round =>
    obtain ⟨m, S, ds, k, vO, hm, rfl, hS, hkm, hv, HI, HO, HCE, hz0', hB⟩ := hrel; subst hv
    obtain ⟨wo, rfl⟩ : ∃ wo : World, wo = wr := ⟨_, rfl⟩
    have hso := hB.size
    by_cases hend : m = 0
    · subst hend
      obtain ⟨⟨q0, q1⟩, ⟨q2, q3⟩⟩ := HCE.out
      obtain ⟨_, hdl, hdd, hdv⟩ := HI.out
      have hvl : vl ds = ((dv l : Nat) : Int) := by rw [← hdv]; simp [dv]
      obtain ⟨A, c, rfl, hSl, _⟩ := sl_own (l := ds) HO hdl.symm rfl
      have TM : Hid (∀ W, Below wo.heap.size wo W → Calls Tryz.prog 95 #[.bool false, .slice A k c] W fun e w' => Res W.heap.size w' e ((dv l : Nat) : Int) ∧ Below W.heap.size W w') := Lib.hid fun W hb => TR.out A k c ds hdl (by omega) hdd hvl W (hSl.below hb)
      clear HI hdl hdd hdv hvl hSl HO HCE TR FO HM HD HC f0 d45
      have z0 : ¬ ((dv l : Nat) : Int) < 0 := by omega
      go_wp2_with (first | (go_at_call 95; refine (TM.out _ (by repeat (first | exact Below.refl _ _ | refine Below.setCell ?_ (by first | (simp; done) | (simp; omega) | omega) _ | refine Below.alloc ?_ (by first | (simp; done) | (simp; omega) | omega) _ | refine Below.drew ?_ | assumption | refine Below.trans ?_ (Below.mono (by assumption) (by first | (simp; done) | (simp; omega) | omega))))).mono ?_; rintro e w5 ⟨⟨s5, A5, n5, c5, rfl, hP5⟩, hb5⟩; obtain ⟨hc5, hf5⟩ := bcell hb5; have hs5 := hb5.size; (try simp at hs5); have hz5 : w.heap.size < w5.heap.size := (by have := hb5.size; (try simp at this); omega); have HP5 := Lib.hid hP5; clear hP5))
      obtain rfl : s5 = false := by rw [HP5.out.1]; exact decide_eq_false (by omega)
      exact bodyPost_ret (v := .tuple #[.agg #[.bool false, .slice A5 n5 c5], .bool true]) (by simp [results, Tryz.results87, go_sem, *]) rfl ⟨⟨A5, n5, c5, rfl, ((HP5.out.setCell _ (by first | (simp; done) | (simp; omega) | omega)).setCell _ (by first | (simp; done) | (simp; omega) | omega)).mono (by first | (simp; done) | (simp; omega) | omega)⟩, (by repeat (first | exact Below.refl _ _ | refine Below.setCell ?_ (by first | (simp; done) | (simp; omega) | omega) _ | refine Below.alloc ?_ (by first | (simp; done) | (simp; omega) | omega) _ | refine Below.drew ?_ | assumption | refine Below.trans ?_ (Below.mono (by assumption) (by first | (simp; done) | (simp; omega) | omega))))⟩
    · have hpos : 0 < m := by omega
      obtain ⟨f, hf⟩ : ∃ f, m - 4 = f := ⟨_, rfl⟩
      have fm : f < m := by omega
      have m4 : m ≤ f + 4 := by omega
      have wf : max ((m : Int) - 4) 0 = (f : Int) := by omega
      have wr4 : IntKind.i64.wrap ((m : Int) - 4) = (m : Int) - 4 := by rw [IntKind.wrap_i64]; omega
      obtain ⟨S2, hS2⟩ : ∃ S2, S.extract 0 f = S2 := ⟨_, rfl⟩
      have AT : Hid (∀ i b (_ : i < m) (_ : l[i]? = some b) (hi : i < S.size), (S[i]'hi).toNat = b.toNat) := Lib.hid fun i b him hb hi => ba_at HI.out.1 (by rw [List.getElem?_take_of_lt him]; exact hb) hi
      have hfS : f ≤ S.size := by omega
      clear TR FO HC f0 d45
      go_wp2
      go_loopw [8, 9] (fun xx ii wi => ∃ i x : Nat, f ≤ i ∧ i ≤ m ∧ ii = .int .i64 i ∧ xx = .int .i64 x ∧ x < 10000 ∧ Hid (x = dv ((l.take i).drop f)) ∧ wo = wi) (fun _ i _ => m - (intOf i).toNat)
      case atStart => exact ⟨f, 0, Nat.le_refl _, by omega, rfl, rfl, by omega, Lib.hid (by rw [List.drop_of_length_le (by simp; omega)]; rfl), rfl⟩
      case round =>
        obtain ⟨i, x, hfi, him, rfl, rfl, hx, HX, hw⟩ := hrel; subst hw
        by_cases hlt : i < m
        · obtain ⟨b, hb⟩ : ∃ b, l[i]? = some b := ⟨_, List.getElem?_eq_getElem (by rw [HM.out]; omega)⟩
          have pk : i < S.size := by omega
          have fk := AT.out i b hlt hb pk
          obtain ⟨kk, hkk⟩ : ∃ kk, b.toNat = kk := ⟨_, rfl⟩
          have bd : 48 ≤ kk ∧ kk ≤ 57 := by rw [← hkk]; exact HD.out b (List.mem_of_getElem? hb)
          have tk := dv_mid (f := f) hb hfi
          have tl := dv_mid_lt HD.out f (i + 1) (by omega) (by rw [HM.out]; omega) (by omega)
          rw [hkk] at fk tk
          obtain ⟨y, rfl⟩ : ∃ y, kk = y + 48 := ⟨kk - 48, by omega⟩
          rw [Nat.add_sub_cancel, ← HX.out] at tk
          have NX : Hid (10 * x + y = dv ((l.take (i + 1)).drop f)) := Lib.hid tk.symm
          have x1 : 10 * x + y < 10000 := by omega
          have y9 : y ≤ 9 := by omega
          clear hb hkk AT bd tk tl HX HI HO HCE HD HM wf wr4
          go_wp2
          go_roundw
          case rel => exact ⟨i + 1, 10 * x + y, by omega, by omega, by first | rfl | trivial | go_num, by first | rfl | trivial | go_num, x1, NX, by first | rfl | trivial⟩
          case measure => first | (simp [intOf]; done) | (simp [intOf]; omega)
        · obtain rfl : i = m := by omega
          obtain ⟨hSe, hdl, hdd, hdv⟩ := HI.out
          have NX : Hid (S2 = ⟨(l.take f).toArray⟩ ∧ (ds ++ [(x : Int)]).length = k + 1 ∧ Dgt (ds ++ [(x : Int)]) ∧ ((dv (l.take f) : Nat) : Int) * 10000 ^ (k + 1) + vl (ds ++ [(x : Int)]) = ((dv l : Nat) : Int)) := Lib.hid ⟨by rw [← hS2, hSe, ext_mid]; simp [List.take_take]; omega, by simp [hdl], hdd.append (Dgt.cons (by omega) (by omega) Dgt.nil), by
            rw [vl_append, hdl, ← hdv]
            have hp := dv_parts l i f (by omega) (by rw [HM.out]; exact hm)
            rw [← HX.out] at hp
            have e1 : vl [(x : Int)] = x := by simp [vl]
            rw [e1, Int.pow_succ]
            by_cases h4 : 4 ≤ i
            · rw [show i - f = 4 by omega] at hp
              have hp' : ((dv (l.take i) : Nat) : Int) = ((dv (l.take f) : Nat) : Int) * 10000 + x := by omega
              rw [hp', Int.add_mul, Int.mul_assoc, Int.mul_comm 10000 (10000 ^ k), Int.mul_comm (x : Int)]
              omega
            · have f0 : f = 0 := by omega
              subst f0
              have d0 : dv (l.take 0) = 0 := rfl
              rw [d0] at hp ⊢
              have hp' : dv (l.take i) = x := by omega
              rw [hp', Int.mul_comm (x : Int)]; simp; omega⟩
          have hS3 : S2.size = f := by rw [NX.out.1, ba_szP, List.length_take, HM.out]; omega
          have OW := Lib.hid HO
          have LT := Lib.hid HO.lt
          have HF := HCE.out.2
          clear hSe hdl hdd hdv HI HO HX AT HD HM
          go_wp2_with (first | (at_builtin; refine wpList_append_lies _ rfl _ _ _ rfl (w.heap.size + 1) 3 i0 _ 1 8 Tryz.underlying42 hi0 hz0 hz1 hz2 rfl (by decide) vO (k) _ rfl (OW.out.alloc _) ⟨wo.heap.size, 0, none⟩ 1 1 [.int .i64 (x : Int)] rfl rfl (World.news_of_block (cs := #[.int .i64 (x : Int)]) (t := 3) (fr := (0, 0)) (heap_alloc_new wo _)) (by simp [Value.oneCell']) (by omega) (by unfold maxLen; omega) (by omega) (by simp; omega) (wo.heap.size + 1) (by simp) ?_; intro gg cap w1' hown1 hgrow hat hlt'))
          go_roundw
          case rel =>
            have hno : some w.heap.size ≠ vO.ownBlock := fun e => by have := (LT.out _ e.symm).1; omega
            obtain ⟨⟨c0, c1⟩, ⟨c2, c3⟩⟩ := HCE.out
            have hsz9 : w.heap.size < w1'.heap.size := by
              rcases hat with h | h
              · have := (LT.out _ h).1; omega
              · omega
            exact ⟨f, S2, ds ++ [(x : Int)], k + 1, _, by omega, rfl, hS3, by omega, rfl, NX, by simpa using hown1, Lib.hid ⟨⟨push_cell hgrow c0 hno, push_cell hgrow c1 hno⟩, ⟨push_frozen hgrow c2 hz0' hno, push_frozen hgrow c3 hz0' hno⟩⟩, hsz9, Below.grown (Below.alloc hB hso _) hgrow (by simp; omega) (fun j hj => by have := (LT.out j hj).1; omega)⟩
          case measure => first | (simp; done) | (simp; omega)
end Go.Proofs.YtdpoahfjiomhbaaGreatDoor

/-
  Contract of exref6.Parse. (Printed by tools/mkxt2.py.)
-/
namespace Go.Proofs.YtdpoahfjiomhbaaGreatDoor
set_option linter.all false
open Go.RowKit Go.Sort
attribute [local go_sem] cell_set_self lt_1 lt_2 lt_3 lt_4 lt_5 lt_6

theorem hasB_no {c : UInt8} {l : List UInt8} (h : ∀ b ∈ l, b ≠ c) : hasB c l = false := by
  unfold hasB
  rw [List.any_eq_false]
  intro b hb; simp [h b hb]
theorem hasB_yes {c : UInt8} (z r : List UInt8) : hasB c (z ++ c :: r) = true := by simp [hasB]
theorem pieces2 (c : UInt8) (l : List UInt8) : (pieces c l = [(cutW c l).1, (cutW c l).2.1] ∧ (cutW c l).2.2 = true ∧ hasB c (cutW c l).2.1 = false) ∨ ((pieces c l).length ≠ 2 ∧ ((cutW c l).2.2 = false ∨ hasB c (cutW c l).2.1 = true)) := by
  rcases cutW_cases c l with ⟨h1, h2⟩ | ⟨z, r, h1, h2, h3⟩
  · right; rw [pieces_free h2, h1]; exact ⟨by simp, .inl rfl⟩
  · rw [h3]
    rcases cutW_cases c r with ⟨k1, k2⟩ | ⟨z', r', k1, k2, k3⟩
    · left; rw [h1, pieces_cut r h2, pieces_free k2]; exact ⟨rfl, rfl, hasB_no k2⟩
    · right
      have := List.length_pos_iff.2 (pieces_ne c r')
      rw [h1, pieces_cut r h2, k1, pieces_cut r' k2]
      exact ⟨fun e => by simp only [List.length_cons] at e; omega, .inr (hasB_yes z' r')⟩
theorem dig_no46 {l : List UInt8} (z r : List UInt8) (h : l = z ++ 46 :: r) : digS l = false := by
  refine Bool.eq_false_iff.2 fun e => ?_
  have := (digS_iff.1 e).2 46 (by rw [h]; simp)
  exact absurd this.1 (by decide)
theorem pieces3 (l : List UInt8) : (pieces 46 l = [(cutW 46 l).1] ∧ (cutW 46 l).2.2 = false ∧ (cutW 46 l).2.1 = []) ∨ (pieces 46 l = [(cutW 46 l).1, (cutW 46 l).2.1] ∧ (cutW 46 l).2.2 = true) ∨ (∃ q r, pieces 46 l = q :: r ∧ 2 < (pieces 46 l).length ∧ (cutW 46 l).2.2 = true ∧ digS (cutW 46 l).2.1 = false) := by
  rcases cutW_cases 46 l with ⟨h1, h2⟩ | ⟨z, r, h1, h2, h3⟩
  · left; rw [h1]; exact ⟨pieces_free h2, rfl, rfl⟩
  · rw [h3]
    rcases cutW_cases 46 r with ⟨k1, k2⟩ | ⟨z', r', k1, k2, k3⟩
    · right; left; rw [h1, pieces_cut r h2, pieces_free k2]; exact ⟨rfl, rfl⟩
    · right; right
      have := List.length_pos_iff.2 (pieces_ne 46 r')
      have e : pieces 46 l = z :: z' :: pieces 46 r' := by rw [h1, pieces_cut r h2, k1, pieces_cut r' k2]
      exact ⟨z, _, e, by rw [e]; simp; omega, rfl, dig_no46 z' r' k1⟩
theorem size_bd {V : Nat} {L : List UInt8} (h : dv L = V) (hd : DigB L) (hl : L.length ≤ 240) {w : World} {base n c : Nat} {A : Option Addr} {s : Bool} (P : Pt base w s A n c (V : Int)) : n ≤ 60 := by
  have h1 := dv_lt _ L rfl hd
  rw [h] at h1
  have h2 : 10 ^ L.length ≤ 10 ^ 240 := Nat.pow_le_pow_right (by omega) hl
  have h3 : V < 10000 ^ 60 := by
    have : (10000 : Nat) ^ 60 = 10 ^ 240 := by rw [show (10000 : Nat) = 10 ^ 4 by rfl, ← Nat.pow_mul]
    omega
  rw [P.2.1, Int.natAbs_natCast]; exact dgs_len h3
/-- What is wrong with the number of a text. -/
def bdM (s : List UInt8) : Bool := !digS (mC s).1 || (zlead (mC s).1 || ((mC s).2.2 && !digS (mC s).2.1))
set_option maxHeartbeats 16000000 in
set_option maxRecDepth 100000 in
theorem rparse6_any (s : List UInt8) (hs : s.length ≤ 200) (w : World) : Calls Tryz.prog 31 #[.string ⟨s.toArray⟩] w fun e w' => e = .returned (amR (codeM s) (numM s) (mA s).2.1) ∧ Below w.heap.size w w' := by
  obtain ⟨RV, hRV⟩ : ∃ RV, amR (codeM s) (numM s) (mA s).2.1 = RV := ⟨_, rfl⟩
  have ER : Hid (∀ k, codeM s = k → k ≠ 0 → RV = .tuple #[.agg #[.int .i64 0, .string ⟨#[]⟩], .int .i64 k]) := Lib.hid fun k h h0 => by rw [← hRV, h]; exact amR_n h0
  have OK : Hid (codeM s = 0 → RV = .tuple #[.agg #[.int .i64 (numM s), .string ⟨(mA s).2.1.toArray⟩], .int .i64 0]) := Lib.hid fun h => by rw [← hRV]; exact amR_0 h
  rw [hRV]
  clear hRV
  have C1 : Hid (∀ W, Calls Tryz.prog 64 #[.string ⟨s.toArray⟩, .int .u8 32] W fun e w' => (∃ A d, e = .returned (.slice A (pieces 32 s).length d) ∧ Strs w' A (pieces 32 s)) ∧ Below W.heap.size W w') := Lib.hid fun W => cut_any 32 s (by omega) W
  rcases pieces2 32 s with ⟨hp, hc, hh⟩ | ⟨hn, hb⟩
  · obtain ⟨lA1, lA2⟩ := cutW_len 32 s
    have lB := pf_len (mA s).1
    obtain ⟨lC1, lC2⟩ := cutW_len 46 (mB s).1
    have l3 : (mB s).1.length ≤ 200 := Nat.le_trans lB (Nat.le_trans lA1 hs)
    have l4 : (mC s).1.length ≤ 200 := Nat.le_trans lC1 l3
    have l5 : (mC s).2.1.length ≤ 200 := Nat.le_trans lC2 l3
    have lS : (mC s).1.length + (mC s).2.1.length ≤ 200 := by
      rcases cutW_cases 46 (mB s).1 with ⟨k, _⟩ | ⟨z, r, k1, _, k2⟩
      · have : mC s = ((mB s).1, [], false) := k
        rw [this]; simpa using l3
      · have : mC s = (z, r, true) := k2
        rw [this]; rw [k1] at l3; simp at l3 ⊢; omega
    have hcode : codeM s = if bdM s = true then 10 else if scE (mA s).2.1 = 18 then 18 else if scN (mA s).2.1 < ((mC s).2.1.length : Int) then 19 else if 4611686018427387904 < dv (allM s) then 6 else if dv (allM s) = 0 ∧ (mB s).2 = true then 10 else 0 := by
      have e : badM s = bdM s := by
        have h1 : (mA s).2.2 = true := hc
        have h2 : hasB 32 (mA s).2.1 = false := hh
        unfold badM bdM; rw [h1, h2]; rfl
      unfold codeM; rw [e]
    have PP : Hid (pieces 32 s = [(mA s).1, (mA s).2.1]) := Lib.hid hp
    have C2 : Hid (∀ W, Calls Tryz.prog 64 #[.string ⟨(mB s).1.toArray⟩, .int .u8 46] W fun e w' => (∃ A d, e = .returned (.slice A (pieces 46 (mB s).1).length d) ∧ Strs w' A (pieces 46 (mB s).1)) ∧ Below W.heap.size W w') := Lib.hid fun W => cut_any 46 (mB s).1 (by omega) W
    have P3 := Lib.hid (pieces3 (mB s).1)
    rw [show pieces 32 s = [(mA s).1, (mA s).2.1] from hp] at C1
    clear hp hc hh lA1 lA2 lB lC1 lC2
    have SC := Lib.hid (fun W => rscale_any (mA s).2.1 W)
    have D1 := Lib.hid (fun W => rdigits_any (mC s).1 (by omega) W)
    have D2 := Lib.hid (fun W => rdigits_any (mC s).2.1 (by omega) W)
    -- the sign
    have hT : ((⟨(mA s).1.toArray⟩ : ByteArray).size = 0 ∧ (mB s).2 = false ∧ (⟨(mA s).1.toArray⟩ : ByteArray) = ⟨(mB s).1.toArray⟩) ∨ ∃ (y : Nat) (p0 : 0 < (⟨(mA s).1.toArray⟩ : ByteArray).size), ((⟨(mA s).1.toArray⟩ : ByteArray)[0]'p0).toNat = y ∧ ((y = 45 ∧ (mB s).2 = true ∧ (⟨(mA s).1.toArray⟩ : ByteArray).extract 1 (⟨(mA s).1.toArray⟩ : ByteArray).size = ⟨(mB s).1.toArray⟩) ∨ (((y : Int) == 45) = false ∧ (mB s).2 = false ∧ (⟨(mA s).1.toArray⟩ : ByteArray) = ⟨(mB s).1.toArray⟩)) := by
      unfold mB pf
      cases hl : (mA s).1 with
      | nil => left; exact ⟨by rw [ba_szP]; rfl, rfl, rfl⟩
      | cons b r =>
        right
        refine ⟨b.toNat, by rw [ba_szP]; simp, rfl, ?_⟩
        by_cases h : b = 45
        · left; subst h
          refine ⟨rfl, rfl, ?_⟩
          rw [ext_drop (45 :: r) 1 _ (ba_szP _).symm]; rfl
        · right
          have h' : ¬ (b :: r).head? = some 45 := by simpa using h
          rw [if_neg h']
          have : b.toNat ≠ 45 := fun e => h (UInt8.toNat_inj.1 (by rw [e]; rfl))
          exact ⟨by simp; omega, rfl, rfl⟩
    -- the number's front
    have sW : (⟨(mC s).1.toArray⟩ : ByteArray).size = (mC s).1.length := ba_szP _
    have hW : ((mC s).1.length ≤ 1 ∧ zlead (mC s).1 = false) ∨ ∃ (y : Nat) (p0 : 0 < (⟨(mC s).1.toArray⟩ : ByteArray).size), 1 < (mC s).1.length ∧ ((⟨(mC s).1.toArray⟩ : ByteArray)[0]'p0).toNat = y ∧ ((y = 48 ∧ zlead (mC s).1 = true) ∨ (((y : Int) == 48) = false ∧ zlead (mC s).1 = false)) := by
      unfold zlead
      clear sW
      cases hl : (mC s).1 with
      | nil => left; simp
      | cons b r =>
        by_cases h : r = []
        · left; subst h; simp
        · right
          have h1 : 1 < (b :: r).length := by
            have : r.length ≠ 0 := fun e => h (List.eq_nil_of_length_eq_zero e)
            simp; omega
          refine ⟨b.toNat, by rw [ba_szP]; simp, h1, rfl, ?_⟩
          rw [decide_eq_true h1]
          by_cases k : b = 48
          · left; subst k; exact ⟨rfl, rfl⟩
          · right
            have : b.toNat ≠ 48 := fun e => k (UInt8.toNat_inj.1 (by rw [e]; rfl))
            exact ⟨by simp; omega, by simp [k]⟩
    have hBD : bdM s = (!digS (mC s).1 || (zlead (mC s).1 || ((mC s).2.2 && !digS (mC s).2.1))) := rfl
    -- the digits
    have GD : Hid (bdM s = false → (mC s).1 ≠ [] ∧ DigB (mC s).1 ∧ DigB (mC s).2.1) := Lib.hid fun h => by
      rw [hBD] at h
      have h1 : digS (mC s).1 = true := by cases k : digS (mC s).1 <;> simp_all
      obtain ⟨a, b⟩ := digS_iff.1 h1
      refine ⟨a, b, ?_⟩
      rcases P3.out with ⟨_, _, k⟩ | ⟨_, k⟩ | ⟨_, _, _, _, k, k2⟩
      · have : (mC s).2.1 = [] := k
        rw [this]; intro x hx; cases hx
      · have k' : (mC s).2.2 = true := k
        rw [k'] at h
        have : digS (mC s).2.1 = true := by cases k : digS (mC s).2.1 <;> simp_all
        exact (digS_iff.1 this).2
      · have k' : (mC s).2.2 = true := k
        have k2' : digS (mC s).2.1 = false := k2
        rw [k', k2'] at h; simp at h
    obtain ⟨n0, n3⟩ := scN_bd (mA s).2.1
    -- what the tail may be
    have AL : Hid (∀ j : Nat, ((mC s).2.1.length : Int) + j = scN (mA s).2.1 → (mC s).1 ++ ((mC s).2.1 ++ List.replicate j 48) = allM s) := Lib.hid fun j h => by
      unfold allM
      rw [show (scN (mA s).2.1 - ((mC s).2.1.length : Int)).toNat = j by omega, List.append_assoc]
    have sP : (⟨(mC s).2.1.toArray⟩ : ByteArray).size = (mC s).2.1.length := ba_szP _
    have AD : Hid (∀ T : List UInt8, T.length ≤ 240 → ∀ W, (Op.stringOp .add ⟨T.toArray⟩ ⟨#[48]⟩).run Tryz.prog W = .ok (.string ⟨(T ++ [48]).toArray⟩) W) := Lib.hid fun T h W => run_string_add_lists (P := Tryz.prog) W T [48] (by omega) (by simp)
    have AD2 : Hid (∀ T : List UInt8, T.length ≤ 240 → ∀ W, (Op.stringOp .add ⟨(mC s).1.toArray⟩ ⟨T.toArray⟩).run Tryz.prog W = .ok (.string ⟨((mC s).1 ++ T).toArray⟩) W) := Lib.hid fun T h W => run_string_add_lists (P := Tryz.prog) W (mC s).1 T (by omega) (by omega)
    have alen : (allM s).length ≤ 240 := by unfold allM; simp; omega
    have NM : Hid (numM s = if (mB s).2 = true then -(dv (allM s) : Int) else dv (allM s)) := Lib.hid rfl
    have BP := Lib.hid (fun (L : List UInt8) (h : L.length ≤ 240) (hF : numF L = true) W => bigParse_any L h hF W)
    have HCD := Lib.hid hcode
    have HT := Lib.hid hT
    have HW := Lib.hid hW
    have HBD := Lib.hid hBD
    have QA : Hid (∀ (A : Option Addr) (W : World), Strs W A [(mA s).1, (mA s).2.1] → ∃ g off, A = some ⟨g, off, none⟩ ∧ g < W.heap.size ∧ W.cell? ⟨g, off, none⟩ = some (.string ⟨(mA s).1.toArray⟩) ∧ W.cell? ⟨g, off + 1, none⟩ = some (.string ⟨(mA s).2.1.toArray⟩)) := Lib.hid fun A W h => by
      obtain ⟨g, off, rfl, h1, h2⟩ := h 0 _ rfl
      obtain ⟨g', off', e, _, h3⟩ := h 1 _ rfl
      injection e with e; injection e with e1 e2; subst e1 e2
      exact ⟨g, off, rfl, h1, h2, h3⟩
    have QB : Hid (∀ (A : Option Addr) (W : World), Strs W A (pieces 46 (mB s).1) → (pieces 46 (mB s).1).length ≤ 2 → ∃ g off, A = some ⟨g, off, none⟩ ∧ g < W.heap.size ∧ W.cell? ⟨g, off, none⟩ = some (.string ⟨(mC s).1.toArray⟩) ∧ ((pieces 46 (mB s).1).length = 2 → W.cell? ⟨g, off + 1, none⟩ = some (.string ⟨(mC s).2.1.toArray⟩))) := Lib.hid fun A W h hl => by
      rcases P3.out with ⟨k, _, _⟩ | ⟨k, _⟩ | ⟨_, _, _, k, _⟩
      · rw [k] at h ⊢
        obtain ⟨g, off, rfl, h1, h2⟩ := h 0 _ rfl
        exact ⟨g, off, rfl, h1, h2, fun e => by simp at e⟩
      · rw [k] at h ⊢
        obtain ⟨g, off, rfl, h1, h2⟩ := h 0 _ rfl
        obtain ⟨g', off', e, _, h3⟩ := h 1 _ rfl
        injection e with e; injection e with e1 e2; subst e1 e2
        exact ⟨g, off, rfl, h1, h2, fun _ => h3⟩
      · omega
    have N3 : Hid ((pieces 46 (mB s).1).length = 1 ∧ (mC s).2.2 = false ∧ (⟨(mC s).2.1.toArray⟩ : ByteArray) = ⟨#[]⟩ ∨ (pieces 46 (mB s).1).length = 2 ∧ (mC s).2.2 = true ∨ 2 < (pieces 46 (mB s).1).length ∧ (mC s).2.2 = true ∧ digS (mC s).2.1 = false) := Lib.hid (by
      rcases P3.out with ⟨k, k1, k2⟩ | ⟨k, k1⟩ | ⟨_, _, _, k, k1, k2⟩
      · exact .inl ⟨by rw [k]; rfl, k1, by rw [show (mC s).2.1 = [] from k2]⟩
      · exact .inr (.inl ⟨by rw [k]; rfl, k1⟩)
      · exact .inr (.inr ⟨k, k1, k2⟩))
    clear hcode hT hW hBD l3 l4 hs P3 PP
    generalize (pieces 46 (mB s).1) = p46 at *
    generalize (⟨(mA s).1.toArray⟩ : ByteArray) = T1 at *
    generalize (⟨(mB s).1.toArray⟩ : ByteArray) = B1 at *
    generalize (⟨s.toArray⟩ : ByteArray) = S at *
    generalize (mC s).1 = LW at *
    generalize (mC s).2.1 = LP at *
    generalize (mC s).2.2 = pnt at *
    generalize allM s = LA at *
    generalize zlead LW = zl at *
    generalize digS LW = dw at *
    generalize digS LP = dp at *
    generalize (mA s).2.1 = cur at *
    generalize (mB s).2 = NG at *
    generalize bdM s = BD at *
    generalize codeM s = code at *
    generalize numM s = num at *
    generalize (⟨LW.toArray⟩ : ByteArray) = WH at *
    generalize hPT : (⟨LP.toArray⟩ : ByteArray) = PT at *
    have HPT : Hid (PT = ⟨LP.toArray⟩) := Lib.hid hPT.symm
    generalize (⟨cur.toArray⟩ : ByteArray) = CU at *
    generalize p46.length = n46 at *
    clear hPT
    go_enter Tryz.func31, Tryz.ntmps31
    go_upto_region 5 with (first | ((go_at_call 64; refine (C1.out _).mono ?_; rintro e w1 ⟨⟨A1, d1, rfl, hP1⟩, hb1⟩; obtain ⟨hc1, hf1⟩ := bcell hb1; have hs1 := hb1.size; (try simp at hs1); have hz1 : w.heap.size < w1.heap.size := (by have := hb1.size; (try simp at this); omega); obtain ⟨g1, o1, rfl, hg1, qa, qb⟩ := QA.out _ _ hP1; clear hP1)))
    go_cut [6] from 24 to 31 (fun ng wx => ng = .bool NG ∧ w1 = wx)
    case first =>
      rcases HT.out with ⟨k0, rfl, -⟩ | ⟨y, p0, f0, ⟨rfl, rfl, -⟩ | ⟨y1, rfl, -⟩⟩
      · have k1 : ¬ (0 : Int) < (T1.size : Int) := by omega
        go_wp2_with (fail)
        go_meet
        exact ⟨rfl, rfl⟩
      · go_wp2_with (fail)
        go_meet
        exact ⟨rfl, rfl⟩
      · go_wp2_with (fail)
        go_meet
        exact ⟨rfl, rfl⟩
    case rest =>
    obtain ⟨rfl, rfl⟩ := hcut
    go_upto_if 32 with (fail)
    go_cut [5] from 33 to 34 (fun t wx => t = .string B1 ∧ w1 = wx)
    case first =>
      rcases HT.out with ⟨k0, rfl, rfl⟩ | ⟨y, p0, f0, ⟨rfl, rfl, hx⟩ | ⟨y1, rfl, rfl⟩⟩
      · go_wp2_with (fail)
        go_meet
        exact ⟨rfl, rfl⟩
      · have p1 : 1 ≤ T1.size := p0
        go_wp2_with (fail)
        go_meet
        exact ⟨rfl, rfl⟩
      · go_wp2_with (fail)
        go_meet
        exact ⟨rfl, rfl⟩
    case rest =>
    obtain ⟨rfl, rfl⟩ := hcut
    clear HT
    go_upto_region 9 with (first | (go_at_call 64; refine (C2.out _).mono ?_; rintro e w2 ⟨⟨A2, d2, rfl, hP2⟩, hb2⟩; obtain ⟨hc2, hf2⟩ := bcell hb2; have hs2 := hb2.size; (try simp at hs2); have hz2 : w.heap.size < w2.heap.size ∧ g1 < w2.heap.size := (by have := hb2.size; (try simp at this); omega); have HP2 := Lib.hid hP2; clear hP2))
    by_cases h3 : 2 < n46
    · have k3 : (2 : Int) < (n46 : Int) := by omega
      obtain ⟨k4, k5⟩ : pnt = true ∧ dp = false := by
        rcases N3.out with ⟨k, _⟩ | ⟨k, _⟩ | ⟨_, k⟩
        · omega
        · omega
        · exact k
      have E : Hid (RV = .tuple #[.agg #[.int .i64 0, .string ⟨#[]⟩], .int .i64 10]) := Lib.hid (ER.out 10 (by rw [HCD.out, HBD.out, k4, k5]; simp) (by decide))
      clear C1 C2 SC D1 D2 HCD HBD HW GD AL AD AD2 NM BP QA QB N3 HP2 ER OK HPT k4 k5
      go_wp2_with (fail)
      exact bodyPost_ret (v := .tuple #[.agg #[.int .i64 0, .string ⟨#[]⟩], .int .i64 10]) (by simp [results, Tryz.results31, go_sem, *]) rfl ⟨ret_vU (E.out), (by repeat (first | exact Below.refl _ _ | refine Below.setCell ?_ (by first | (simp; done) | (simp; omega) | omega) _ | refine Below.alloc ?_ (by first | (simp; done) | (simp; omega) | omega) _ | refine Below.drew ?_ | assumption | refine Below.trans ?_ (Below.mono (by assumption) (by first | (simp; done) | (simp; omega) | omega))))⟩
    have l2 : n46 ≤ 2 := by omega
    have hn0 : 0 < n46 := by
      rcases N3.out with ⟨k, _⟩ | ⟨k, _⟩ | ⟨k, _⟩ <;> omega
    obtain ⟨g2, o2, rfl, hg2, qc, qd⟩ := QB.out _ _ HP2.out l2
    have QD := Lib.hid qd
    clear qd HP2
    go_cut [72] from 37 to 71 (fun u wx => u = .bool BD ∧ Below w2.heap.size w2 wx)
    case first =>
      clear C1 C2 SC HCD GD AL AD AD2 NM BP QA QB ER OK HPT
      rcases N3.out with ⟨rfl, rfl, _⟩ | ⟨rfl, rfl⟩ | ⟨k, _⟩
      · cases dw
        · have e := HBD.out
          simp at e
          subst e
          go_wp2_with (first | (go_at_call 86; (with_reducible refine (D1.out _).mono ?_); rintro e w5 ⟨rfl, hb5⟩; obtain ⟨hc5, hf5⟩ := bcell hb5; have hs5 := hb5.size; (try simp at hs5); have hz5 : w.heap.size < w5.heap.size ∧ w.heap.size < w5.heap.size + 1 ∧ g1 < w5.heap.size ∧ g1 < w5.heap.size + 1 ∧ g2 < w5.heap.size ∧ g2 < w5.heap.size + 1 := (by omega)))
          go_meet
          exact ⟨rfl, (by repeat (first | exact Below.refl _ _ | refine Below.setCell ?_ (by first | (simp; done) | (simp; omega) | omega) _ | refine Below.alloc ?_ (by first | (simp; done) | (simp; omega) | omega) _ | refine Below.drew ?_ | assumption | refine Below.trans ?_ (Below.mono (by assumption) (by first | (simp; done) | (simp; omega) | omega))))⟩
        · rcases HW.out with ⟨s1, rfl⟩ | ⟨y, p0, s1, f0, ⟨rfl, rfl⟩ | ⟨y1, rfl⟩⟩
          all_goals (
            have e := HBD.out
            simp at e
            subst e
            (try have s2 : ¬ (1 : Int) < (WH.size : Int) := by omega)
            (try have s3 : (1 : Int) < (WH.size : Int) := by omega)
            go_wp2_with (first | (go_at_call 86; (with_reducible refine (D1.out _).mono ?_); rintro e w5 ⟨rfl, hb5⟩; obtain ⟨hc5, hf5⟩ := bcell hb5; have hs5 := hb5.size; (try simp at hs5); have hz5 : w.heap.size < w5.heap.size ∧ w.heap.size < w5.heap.size + 1 ∧ g1 < w5.heap.size ∧ g1 < w5.heap.size + 1 ∧ g2 < w5.heap.size ∧ g2 < w5.heap.size + 1 := (by omega)))
            go_meet
            exact ⟨rfl, (by repeat (first | exact Below.refl _ _ | refine Below.setCell ?_ (by first | (simp; done) | (simp; omega) | omega) _ | refine Below.alloc ?_ (by first | (simp; done) | (simp; omega) | omega) _ | refine Below.drew ?_ | assumption | refine Below.trans ?_ (Below.mono (by assumption) (by first | (simp; done) | (simp; omega) | omega))))⟩)
      · have qe := QD.out rfl
        cases dw
        · have e := HBD.out
          simp at e
          subst e
          go_wp2_with (first | (go_at_call 86; (with_reducible refine (D1.out _).mono ?_); rintro e w5 ⟨rfl, hb5⟩; obtain ⟨hc5, hf5⟩ := bcell hb5; have hs5 := hb5.size; (try simp at hs5); have hz5 : w.heap.size < w5.heap.size ∧ w.heap.size < w5.heap.size + 1 ∧ g1 < w5.heap.size ∧ g1 < w5.heap.size + 1 ∧ g2 < w5.heap.size ∧ g2 < w5.heap.size + 1 := (by omega)))
          go_meet
          exact ⟨rfl, (by repeat (first | exact Below.refl _ _ | refine Below.setCell ?_ (by first | (simp; done) | (simp; omega) | omega) _ | refine Below.alloc ?_ (by first | (simp; done) | (simp; omega) | omega) _ | refine Below.drew ?_ | assumption | refine Below.trans ?_ (Below.mono (by assumption) (by first | (simp; done) | (simp; omega) | omega))))⟩
        · rcases HW.out with ⟨s1, rfl⟩ | ⟨y, p0, s1, f0, ⟨rfl, rfl⟩ | ⟨y1, rfl⟩⟩
          all_goals (
            cases dp
            all_goals (
              have e := HBD.out
              simp at e
              subst e
              (try have s2 : ¬ (1 : Int) < (WH.size : Int) := by omega)
              (try have s3 : (1 : Int) < (WH.size : Int) := by omega)
              go_wp2_with (first | (go_at_call 86; (with_reducible refine (D1.out _).mono ?_); rintro e w5 ⟨rfl, hb5⟩; obtain ⟨hc5, hf5⟩ := bcell hb5; have hs5 := hb5.size; (try simp at hs5); have hz5 : w.heap.size < w5.heap.size ∧ w.heap.size < w5.heap.size + 1 ∧ g1 < w5.heap.size ∧ g1 < w5.heap.size + 1 ∧ g2 < w5.heap.size ∧ g2 < w5.heap.size + 1 := (by omega)) | (go_at_call 86; (with_reducible refine (D2.out _).mono ?_); rintro e w6 ⟨rfl, hb6⟩; obtain ⟨hc6, hf6⟩ := bcell hb6; have hs6 := hb6.size; (try simp at hs6); have hz6 : w.heap.size < w6.heap.size ∧ w.heap.size < w6.heap.size + 1 ∧ g1 < w6.heap.size ∧ g1 < w6.heap.size + 1 ∧ g2 < w6.heap.size ∧ g2 < w6.heap.size + 1 := (by omega)))
              go_meet
              exact ⟨rfl, (by repeat (first | exact Below.refl _ _ | refine Below.setCell ?_ (by first | (simp; done) | (simp; omega) | omega) _ | refine Below.alloc ?_ (by first | (simp; done) | (simp; omega) | omega) _ | refine Below.drew ?_ | assumption | refine Below.trans ?_ (Below.mono (by assumption) (by first | (simp; done) | (simp; omega) | omega))))⟩))
      · omega
    case rest =>
    obtain ⟨rfl, hB3⟩ := hcut
    obtain ⟨w3, rfl⟩ : ∃ w3 : World, w3 = wc := ⟨_, rfl⟩
    obtain ⟨hc3, hf3⟩ := bcell hB3
    have hs3 := hB3.size
    have hz3 : w.heap.size < w3.heap.size ∧ g1 < w3.heap.size ∧ g2 < w3.heap.size := by omega
    go_upto_if 72 with (fail)
    cases BD
    case true =>
      have E : Hid (RV = .tuple #[.agg #[.int .i64 0, .string ⟨#[]⟩], .int .i64 10]) := Lib.hid (ER.out 10 (by rw [HCD.out]; rfl) (by decide))
      clear C1 C2 SC D1 D2 HCD HBD HW GD AL AD AD2 NM BP QA QB N3 ER OK HPT QD
      go_wp2_with (fail)
      exact bodyPost_ret (v := .tuple #[.agg #[.int .i64 0, .string ⟨#[]⟩], .int .i64 10]) (by simp [results, Tryz.results31, go_sem, *]) rfl ⟨ret_vU (E.out), (by repeat (first | exact Below.refl _ _ | refine Below.setCell ?_ (by first | (simp; done) | (simp; omega) | omega) _ | refine Below.alloc ?_ (by first | (simp; done) | (simp; omega) | omega) _ | refine Below.drew ?_ | assumption | refine Below.trans ?_ (Below.mono (by assumption) (by first | (simp; done) | (simp; omega) | omega))))⟩
    case false =>
    obtain ⟨wne, wd, pd⟩ := GD.out rfl
    have HGD := Lib.hid (And.intro wne (And.intro wd pd))
    have CD2 : Hid (code = if scE cur = 18 then 18 else if scN cur < (LP.length : Int) then 19 else if 4611686018427387904 < dv LA then 6 else if dv LA = 0 ∧ NG = true then 10 else 0) := Lib.hid (by rw [HCD.out, if_neg (by decide)])
    clear HCD HBD HW GD D1 D2 C1 C2 wne wd pd QA QB
    rcases scX_cases cur with ⟨he, hsn, h0⟩ | ⟨he, hx⟩
    case inr =>
      have E : Hid (RV = .tuple #[.agg #[.int .i64 0, .string ⟨#[]⟩], .int .i64 18]) := Lib.hid (ER.out 18 (by rw [CD2.out, if_pos he]) (by decide))
      rw [hx] at SC
      clear AL AD AD2 NM BP N3 ER OK HPT QD CD2 he hx n0 n3
      go_wp2_with (first | (go_at_call 26; (with_reducible refine (SC.out _).mono ?_); rintro e w4 ⟨rfl, hb4⟩; obtain ⟨hc4, hf4⟩ := bcell hb4; have hs4 := hb4.size; (try simp at hs4); have hz4 : w.heap.size < w4.heap.size ∧ w.heap.size < w4.heap.size + 1 ∧ g1 < w4.heap.size ∧ g1 < w4.heap.size + 1 ∧ g2 < w4.heap.size ∧ g2 < w4.heap.size + 1 := (by omega)))
      exact bodyPost_ret (v := .tuple #[.agg #[.int .i64 0, .string ⟨#[]⟩], .int .i64 18]) (by simp [results, Tryz.results31, go_sem, *]) rfl ⟨ret_vU (E.out), (by repeat (first | exact Below.refl _ _ | refine Below.setCell ?_ (by first | (simp; done) | (simp; omega) | omega) _ | refine Below.alloc ?_ (by first | (simp; done) | (simp; omega) | omega) _ | refine Below.drew ?_ | assumption | refine Below.trans ?_ (Below.mono (by assumption) (by first | (simp; done) | (simp; omega) | omega))))⟩
    case inl =>
    have CD3 : Hid (code = if scN cur < (LP.length : Int) then 19 else if 4611686018427387904 < dv LA then 6 else if dv LA = 0 ∧ NG = true then 10 else 0) := Lib.hid (by rw [CD2.out, if_neg (by omega)])
    rw [hsn] at SC
    obtain ⟨sc, hsc⟩ := Int.eq_ofNat_of_zero_le n0
    rw [hsc] at SC CD3 AL n3
    clear CD2 he hsn h0 n0 hsc
    go_upto_if 83 with (first | (go_at_call 26; (with_reducible refine (SC.out _).mono ?_); rintro e w4 ⟨rfl, hb4⟩; obtain ⟨hc4, hf4⟩ := bcell hb4; have hs4 := hb4.size; (try simp at hs4); have hz4 : w.heap.size < w4.heap.size ∧ w.heap.size < w4.heap.size + 1 ∧ g1 < w4.heap.size ∧ g1 < w4.heap.size + 1 ∧ g2 < w4.heap.size ∧ g2 < w4.heap.size + 1 := (by omega)))
    go_cut [9] from 84 to 93 (fun t wx => t = .string PT ∧ w4 = wx ∧ PT.size ≤ sc)
    case first =>
      rcases N3.out with ⟨rfl, _, hP0⟩ | ⟨rfl, _⟩ | ⟨k, _⟩
      · have hsz : PT.size = 0 := by rw [hP0]; rfl
        have HP0 := Lib.hid hP0
        clear hP0 AL AD AD2 NM BP N3 ER OK CD3 HGD
        go_wp2_with (fail)
        go_meet
        exact ⟨by rw [HP0.out], rfl, by omega⟩
      · have qe := QD.out rfl
        by_cases hlt : sc < PT.size
        · have E : Hid (RV = .tuple #[.agg #[.int .i64 0, .string ⟨#[]⟩], .int .i64 19]) := Lib.hid (ER.out 19 (by rw [CD3.out, if_pos (by omega)]) (by decide))
          have hlt' : (sc : Int) < (PT.size : Int) := by omega
          clear AL AD AD2 NM BP N3 ER OK CD3 HGD
          go_wp2_with (fail)
          exact bodyPost_ret (v := .tuple #[.agg #[.int .i64 0, .string ⟨#[]⟩], .int .i64 19]) (by simp [results, Tryz.results31, go_sem, *]) rfl ⟨ret_vU (E.out), (by repeat (first | exact Below.refl _ _ | refine Below.setCell ?_ (by first | (simp; done) | (simp; omega) | omega) _ | refine Below.alloc ?_ (by first | (simp; done) | (simp; omega) | omega) _ | refine Below.drew ?_ | assumption | refine Below.trans ?_ (Below.mono (by assumption) (by first | (simp; done) | (simp; omega) | omega))))⟩
        · have hlt' : ¬ (sc : Int) < (PT.size : Int) := by omega
          clear AL AD AD2 NM BP N3 ER OK CD3 HGD
          go_wp2_with (fail)
          go_meet
          exact ⟨rfl, rfl, by omega⟩
      · omega
    case rest =>
    obtain ⟨rfl, rfl, hle⟩ := hcut
    clear QD N3
    have CD4 : Hid (code = if 4611686018427387904 < dv LA then 6 else if dv LA = 0 ∧ NG = true then 10 else 0) := Lib.hid (by rw [CD3.out, if_neg (by omega)])
    clear CD3
    go_wp2
    go_loopw [9] (fun t wr => ∃ (j : Nat) (T : ByteArray), t = .string T ∧ T.size = PT.size + j ∧ PT.size + j ≤ sc ∧ Hid (T = ⟨(LP ++ List.replicate j 48).toArray⟩) ∧ w4 = wr) (fun t _ => match t with | .string T => sc - T.size | _ => 0)
    case atStart => exact ⟨0, PT, rfl, by omega, by omega, Lib.hid (by rw [HPT.out]; simp), rfl⟩
    case round =>
      obtain ⟨j, T, rfl, hT, hj, HT2, hw⟩ := hrel; subst hw
      by_cases hlt : PT.size + j < sc
      · obtain ⟨T', hT'⟩ : ∃ T' : ByteArray, (⟨(LP ++ List.replicate (j + 1) 48).toArray⟩ : ByteArray) = T' := ⟨_, rfl⟩
        have had : ∀ W : World, (Op.stringOp .add T ⟨#[48]⟩).run Tryz.prog W = .ok (.string T') W := fun W => by
          rw [HT2.out, ← hT', show List.replicate (j + 1) (48 : UInt8) = List.replicate j 48 ++ [48] by rw [← List.replicate_succ'], ← List.append_assoc]
          exact AD.out _ (by simp; omega) W
        have hs' : T'.size = PT.size + (j + 1) := by rw [← hT', ba_szP]; simp; omega
        have NT := Lib.hid hT'.symm
        have lt2 : (T.size : Int) < (sc : Int) := by omega
        clear hT' AL AD AD2 NM BP ER OK CD4 HGD HT2
        go_wp2
        go_roundw
        case rel => exact ⟨j + 1, T', rfl, hs', by omega, NT, by first | rfl | trivial⟩
        case measure => (simp; omega)
      · have ej : PT.size + j = sc := by omega
        have nlt : ¬ (T.size : Int) < (sc : Int) := by omega
        have had : ∀ W : World, (Op.stringOp .add WH T).run Tryz.prog W = .ok (.string ⟨LA.toArray⟩) W := fun W => by
          rw [HT2.out, AD2.out _ (by simp; omega) W, AL.out j (by omega)]
        have LAf : Hid (LA ≠ [] ∧ DigB LA) := Lib.hid (by
          rw [← AL.out j (by omega)]
          obtain ⟨a, b, c⟩ := HGD.out
          exact ⟨by simp [a], digB_app b (digB_app c (digB_zeros _))⟩)
        have aln : (⟨LA.toArray⟩ : ByteArray).size = LA.length := ba_szP _
        have la0 : 0 < LA.length := List.length_pos_iff.2 LAf.out.1
        clear AL AD AD2 HGD HT2
        generalize hALL : (⟨LA.toArray⟩ : ByteArray) = ALL at *
        have HALL := Lib.hid hALL.symm
        clear hALL
        go_upto_block 2 with (fail)
        go_cut [10] from 105 to 114 (fun t wx => ∃ LB : ByteArray, t = .string LB ∧ Hid (∃ L, LB = ⟨L.toArray⟩ ∧ numF L = true ∧ dv L = dv LA ∧ L.length ≤ 240) ∧ w4 = wx)
        case first =>
          clear BP NM ER OK CD4
          go_wp2
          go_loopw [10] (fun t wr => ∃ (m : Nat) (LB : ByteArray), t = .string LB ∧ LB.size = m ∧ 0 < m ∧ Hid (∃ L, LB = ⟨L.toArray⟩ ∧ L.length = m ∧ DigB L ∧ dv L = dv LA ∧ m ≤ 240) ∧ w4 = wr) (fun t _ => match t with | .string T => T.size | _ => 0)
          case atStart => exact ⟨LA.length, ALL, rfl, aln, la0, Lib.hid ⟨LA, HALL.out, rfl, LAf.out.2, rfl, alen⟩, rfl⟩
          case round =>
            obtain ⟨m, LB, rfl, hm, m0, HL, hw⟩ := hrel; subst hw
            by_cases m1 : m = 1
            · have E : Hid (∃ L, LB = ⟨L.toArray⟩ ∧ numF L = true ∧ dv L = dv LA ∧ L.length ≤ 240) := Lib.hid (by
                obtain ⟨L, a, b, c, d, e⟩ := HL.out
                exact ⟨L, a, numF_iff.2 ⟨fun k => by rw [k] at b; simp at b; omega, c, .inl (by omega)⟩, d, by omega⟩)
              have g1' : ¬ (1 : Int) < (LB.size : Int) := by omega
              clear HL
              go_wp2_with (fail)
              go_meet
              exact ⟨LB, rfl, E, rfl⟩
            · have p0 : 0 < LB.size := by omega
              have g1' : (1 : Int) < (LB.size : Int) := by omega
              obtain ⟨y, hy⟩ : ∃ y, (LB[0]'p0).toNat = y := ⟨_, rfl⟩
              by_cases y48 : y = 48
              · obtain ⟨LB2, hLB2⟩ : ∃ LB2, LB.extract 1 LB.size = LB2 := ⟨_, rfl⟩
                have NX : Hid (∃ L, LB2 = ⟨L.toArray⟩ ∧ L.length = m - 1 ∧ DigB L ∧ dv L = dv LA ∧ m - 1 ≤ 240) := Lib.hid (by
                  obtain ⟨L, a, b, c, d, e⟩ := HL.out
                  cases L with
                  | nil => simp at b; omega
                  | cons x r =>
                    have hx : x = 48 := by
                      have h1 := ba_at (t := LB) (l := x :: r) a (i := 0) (b := x) rfl p0
                      exact UInt8.toNat_inj.1 (by rw [← h1, hy, y48]; rfl)
                    refine ⟨r, ?_, by simp at b; omega, fun z hz => c z (List.mem_cons_of_mem _ hz), ?_, by omega⟩
                    · rw [← hLB2, hm, a, ext_drop (x :: r) 1 m (by omega)]; rfl
                    · rw [← d, hx, dv_zero_cons])
                have sz2 : LB2.size = m - 1 := by obtain ⟨L, a, b, _⟩ := NX.out; rw [a, ba_szP, b]
                have p1 : 1 ≤ LB.size := by omega
                have hLB3 : LB.extract 1 m = LB2 := by rw [← hLB2, hm]
                subst y48
                clear HL
                go_wp2
                go_roundw
                case rel => exact ⟨m - 1, LB2, rfl, sz2, by omega, NX, by first | rfl | trivial⟩
                case measure => (simp; omega)
              · have E : Hid (∃ L, LB = ⟨L.toArray⟩ ∧ numF L = true ∧ dv L = dv LA ∧ L.length ≤ 240) := Lib.hid (by
                  obtain ⟨L, a, b, c, d, e⟩ := HL.out
                  refine ⟨L, a, numF_iff.2 ⟨fun k => by rw [k] at b; simp at b; omega, c, .inr fun k => ?_⟩, d, by omega⟩
                  cases L with
                  | nil => simp at k
                  | cons x r =>
                    simp at k; subst k
                    have h1 := ba_at (t := LB) (l := 48 :: r) a (i := 0) (b := 48) rfl p0
                    exact y48 (by rw [← hy, h1]; rfl))
                have y49 : ((y : Int) == 48) = false := by simp; omega
                clear HL y48
                go_wp2_with (fail)
                go_meet
                exact ⟨LB, rfl, E, rfl⟩
        case rest =>
        obtain ⟨LB, rfl, HLB, rfl⟩ := hcut
        obtain ⟨V, hV⟩ : ∃ V, dv LA = V := ⟨_, rfl⟩
        have BP2 : Hid (∀ W, Calls Tryz.prog 87 #[.string LB] W fun e w' => (∃ A n c, e = .returned (.tuple #[.agg #[.bool false, .slice A n c], .bool true]) ∧ Pt W.heap.size w' false A n c (V : Int) ∧ n ≤ 60) ∧ Below W.heap.size W w') := Lib.hid fun W => by
          obtain ⟨L, a, b, c, d⟩ := HLB.out
          rw [a]
          refine (BP.out L d b W).mono fun e w9 hh => ?_
          obtain ⟨⟨A, n, c', h1, h2⟩, h3⟩ := hh
          rw [c, hV] at h2
          exact ⟨⟨A, n, c', h1, h2, size_bd (by rw [c, hV]) (numF_iff.1 b).2.1 d h2⟩, h3⟩
        have UN2 : Hid (∀ A n c b W, Pt b W false A n c (V : Int) → n ≤ 60 → Calls Tryz.prog 88 #[.agg #[.bool false, .slice A n c]] W fun e w' => e = .returned (.tuple #[.int .i64 (intN (V : Int)), .bool (unB (V : Int))]) ∧ Below W.heap.size W w') := Lib.hid fun A n c b W X hn => units_60 A n c V hn W (X.mono (Nat.zero_le _))
        have NM2 : Hid (num = if NG = true then -(V : Int) else V) := Lib.hid (by rw [NM.out, hV])
        have CD5 : Hid (code = if 4611686018427387904 < V then 6 else if V = 0 ∧ NG = true then 10 else 0) := Lib.hid (by rw [CD4.out, hV])
        clear BP NM CD4 HLB hV LAf aln la0 HALL alen HPT
        by_cases hv : 4611686018427387904 < V
        · have E : Hid (RV = .tuple #[.agg #[.int .i64 0, .string ⟨#[]⟩], .int .i64 6]) := Lib.hid (ER.out 6 (by rw [CD5.out, if_pos hv]) (by decide))
          have e1 : unB (V : Int) = false := decide_eq_false (by omega)
          rw [e1] at UN2
          generalize intN (V : Int) = iz at *
          clear ER OK NM2 CD5 e1 hv
          go_wp2_with (first | (go_at_call 87; (with_reducible refine (BP2.out _).mono ?_); rintro e w7 ⟨⟨A7, n7, c7, rfl, hP7, hn7⟩, hb7⟩; obtain ⟨hc7, hf7⟩ := bcell hb7; have hs7 := hb7.size; (try simp at hs7); have hz7 : w.heap.size < w7.heap.size ∧ w.heap.size < w7.heap.size + 1 ∧ g1 < w7.heap.size ∧ g1 < w7.heap.size + 1 := (by omega); have HP7 := Lib.hid hP7; clear hP7) | (go_at_call 88; (with_reducible refine (UN2.out _ _ _ _ _ (HP7.out.below (by repeat (first | exact Below.refl _ _ | refine Below.setCell ?_ (by first | (simp; done) | (simp; omega) | omega) _ | refine Below.alloc ?_ (by first | (simp; done) | (simp; omega) | omega) _ | refine Below.drew ?_ | assumption | refine Below.trans ?_ (Below.mono (by assumption) (by first | (simp; done) | (simp; omega) | omega))))) hn7).mono ?_); rintro e w8 ⟨rfl, hb8⟩; obtain ⟨hc8, hf8⟩ := bcell hb8; have hs8 := hb8.size; (try simp at hs8); have hz8 : w.heap.size < w8.heap.size ∧ w.heap.size < w8.heap.size + 1 ∧ g1 < w8.heap.size ∧ g1 < w8.heap.size + 1 := (by omega)))
          exact bodyPost_ret (v := .tuple #[.agg #[.int .i64 0, .string ⟨#[]⟩], .int .i64 6]) (by simp [results, Tryz.results31, go_sem, *]) rfl ⟨ret_vU (E.out), (by repeat (first | exact Below.refl _ _ | refine Below.setCell ?_ (by first | (simp; done) | (simp; omega) | omega) _ | refine Below.alloc ?_ (by first | (simp; done) | (simp; omega) | omega) _ | refine Below.drew ?_ | assumption | refine Below.trans ?_ (Below.mono (by assumption) (by first | (simp; done) | (simp; omega) | omega))))⟩
        · have e1 : unB (V : Int) = true := decide_eq_true (by omega)
          have e2 : intN (V : Int) = V := by unfold intN; rw [if_pos (by omega)]
          rw [e1, e2] at UN2
          have CD6 : Hid (code = if V = 0 ∧ NG = true then 10 else 0) := Lib.hid (by rw [CD5.out, if_neg hv])
          clear CD5 e1 e2
          cases NG
          · have E : Hid (RV = .tuple #[.agg #[.int .i64 (V : Int), .string CU], .int .i64 0]) := Lib.hid (by rw [OK.out (by rw [CD6.out, if_neg (by simp)]), NM2.out, if_neg (by decide)])
            clear ER OK NM2 CD6
            go_wp2_with (first | (go_at_call 87; (with_reducible refine (BP2.out _).mono ?_); rintro e w7 ⟨⟨A7, n7, c7, rfl, hP7, hn7⟩, hb7⟩; obtain ⟨hc7, hf7⟩ := bcell hb7; have hs7 := hb7.size; (try simp at hs7); have hz7 : w.heap.size < w7.heap.size ∧ w.heap.size < w7.heap.size + 1 ∧ g1 < w7.heap.size ∧ g1 < w7.heap.size + 1 := (by omega); have HP7 := Lib.hid hP7; clear hP7) | (go_at_call 88; (with_reducible refine (UN2.out _ _ _ _ _ (HP7.out.below (by repeat (first | exact Below.refl _ _ | refine Below.setCell ?_ (by first | (simp; done) | (simp; omega) | omega) _ | refine Below.alloc ?_ (by first | (simp; done) | (simp; omega) | omega) _ | refine Below.drew ?_ | assumption | refine Below.trans ?_ (Below.mono (by assumption) (by first | (simp; done) | (simp; omega) | omega))))) hn7).mono ?_); rintro e w8 ⟨rfl, hb8⟩; obtain ⟨hc8, hf8⟩ := bcell hb8; have hs8 := hb8.size; (try simp at hs8); have hz8 : w.heap.size < w8.heap.size ∧ w.heap.size < w8.heap.size + 1 ∧ g1 < w8.heap.size ∧ g1 < w8.heap.size + 1 := (by omega)))
            exact bodyPost_ret (v := .tuple #[.agg #[.int .i64 (V : Int), .string CU], .int .i64 0]) (by simp [results, Tryz.results31, go_sem, *]) rfl ⟨ret_vU E.out, (by repeat (first | exact Below.refl _ _ | refine Below.setCell ?_ (by first | (simp; done) | (simp; omega) | omega) _ | refine Below.alloc ?_ (by first | (simp; done) | (simp; omega) | omega) _ | refine Below.drew ?_ | assumption | refine Below.trans ?_ (Below.mono (by assumption) (by first | (simp; done) | (simp; omega) | omega))))⟩
          · by_cases v0 : V = 0
            · have E : Hid (RV = .tuple #[.agg #[.int .i64 0, .string ⟨#[]⟩], .int .i64 10]) := Lib.hid (ER.out 10 (by rw [CD6.out, if_pos ⟨v0, rfl⟩]) (by decide))
              subst v0
              clear ER OK NM2 CD6 hv
              go_wp2_with (first | (go_at_call 87; (with_reducible refine (BP2.out _).mono ?_); rintro e w7 ⟨⟨A7, n7, c7, rfl, hP7, hn7⟩, hb7⟩; obtain ⟨hc7, hf7⟩ := bcell hb7; have hs7 := hb7.size; (try simp at hs7); have hz7 : w.heap.size < w7.heap.size ∧ w.heap.size < w7.heap.size + 1 ∧ g1 < w7.heap.size ∧ g1 < w7.heap.size + 1 := (by omega); have HP7 := Lib.hid hP7; clear hP7) | (go_at_call 88; (with_reducible refine (UN2.out _ _ _ _ _ (HP7.out.below (by repeat (first | exact Below.refl _ _ | refine Below.setCell ?_ (by first | (simp; done) | (simp; omega) | omega) _ | refine Below.alloc ?_ (by first | (simp; done) | (simp; omega) | omega) _ | refine Below.drew ?_ | assumption | refine Below.trans ?_ (Below.mono (by assumption) (by first | (simp; done) | (simp; omega) | omega))))) hn7).mono ?_); rintro e w8 ⟨rfl, hb8⟩; obtain ⟨hc8, hf8⟩ := bcell hb8; have hs8 := hb8.size; (try simp at hs8); have hz8 : w.heap.size < w8.heap.size ∧ w.heap.size < w8.heap.size + 1 ∧ g1 < w8.heap.size ∧ g1 < w8.heap.size + 1 := (by omega)))
              exact bodyPost_ret (v := .tuple #[.agg #[.int .i64 0, .string ⟨#[]⟩], .int .i64 10]) (by simp [results, Tryz.results31, go_sem, *]) rfl ⟨ret_vU (E.out), (by repeat (first | exact Below.refl _ _ | refine Below.setCell ?_ (by first | (simp; done) | (simp; omega) | omega) _ | refine Below.alloc ?_ (by first | (simp; done) | (simp; omega) | omega) _ | refine Below.drew ?_ | assumption | refine Below.trans ?_ (Below.mono (by assumption) (by first | (simp; done) | (simp; omega) | omega))))⟩
            · have E : Hid (RV = .tuple #[.agg #[.int .i64 (-(V : Int)), .string CU], .int .i64 0]) := Lib.hid (by rw [OK.out (by rw [CD6.out, if_neg (fun h => v0 h.1)]), NM2.out, if_pos rfl])
              have v1 : ((V : Int) == 0) = false := by simp; omega
              have v2 : IntKind.i64.wrap (-(V : Int)) = -(V : Int) := by rw [IntKind.wrap_i64]; omega
              clear ER OK NM2 CD6 v0
              go_wp2_with (first | (go_at_call 87; (with_reducible refine (BP2.out _).mono ?_); rintro e w7 ⟨⟨A7, n7, c7, rfl, hP7, hn7⟩, hb7⟩; obtain ⟨hc7, hf7⟩ := bcell hb7; have hs7 := hb7.size; (try simp at hs7); have hz7 : w.heap.size < w7.heap.size ∧ w.heap.size < w7.heap.size + 1 ∧ g1 < w7.heap.size ∧ g1 < w7.heap.size + 1 := (by omega); have HP7 := Lib.hid hP7; clear hP7) | (go_at_call 88; (with_reducible refine (UN2.out _ _ _ _ _ (HP7.out.below (by repeat (first | exact Below.refl _ _ | refine Below.setCell ?_ (by first | (simp; done) | (simp; omega) | omega) _ | refine Below.alloc ?_ (by first | (simp; done) | (simp; omega) | omega) _ | refine Below.drew ?_ | assumption | refine Below.trans ?_ (Below.mono (by assumption) (by first | (simp; done) | (simp; omega) | omega))))) hn7).mono ?_); rintro e w8 ⟨rfl, hb8⟩; obtain ⟨hc8, hf8⟩ := bcell hb8; have hs8 := hb8.size; (try simp at hs8); have hz8 : w.heap.size < w8.heap.size ∧ w.heap.size < w8.heap.size + 1 ∧ g1 < w8.heap.size ∧ g1 < w8.heap.size + 1 := (by omega)))
              exact bodyPost_ret (v := .tuple #[.agg #[.int .i64 (-(V : Int)), .string CU], .int .i64 0]) (by simp [results, Tryz.results31, go_sem, *]) rfl ⟨ret_vU E.out, (by repeat (first | exact Below.refl _ _ | refine Below.setCell ?_ (by first | (simp; done) | (simp; omega) | omega) _ | refine Below.alloc ?_ (by first | (simp; done) | (simp; omega) | omega) _ | refine Below.drew ?_ | assumption | refine Below.trans ?_ (Below.mono (by assumption) (by first | (simp; done) | (simp; omega) | omega))))⟩
  · have h10 : codeM s = 10 := by
      have : badM s = true := by
        unfold badM
        rcases hb with h | h
        · have h' : (mA s).2.2 = false := h
          rw [h']; rfl
        · have h' : hasB 32 (mA s).2.1 = true := h
          rw [h', Bool.true_or, Bool.or_true]
      unfold codeM; rw [if_pos this]
    have E := Lib.hid (ER.out 10 h10 (by decide))
    clear h10 hb ER OK hs
    generalize (pieces 32 s).length = n1 at *
    have n2 : ((n1 : Int) != 2) = true := by rw [bne_iff_ne]; omega
    generalize (⟨s.toArray⟩ : ByteArray) = S at *
    go_enter Tryz.func31, Tryz.ntmps31
    go_wp2_with (first | (go_at_call 64; refine (C1.out _).mono ?_; rintro e w1 ⟨⟨A1, d1, rfl, _⟩, hb1⟩; obtain ⟨hc1, hf1⟩ := bcell hb1; have hs1 := hb1.size; (try simp at hs1); have hz1 : w.heap.size < w1.heap.size := by have := hb1.size; (try simp at this); omega))
    exact bodyPost_ret (v := .tuple #[.agg #[.int .i64 0, .string ⟨#[]⟩], .int .i64 10]) (by simp [results, Tryz.results31, go_sem, *]) rfl ⟨ret_vU (E.out), (by repeat (first | exact Below.refl _ _ | refine Below.setCell ?_ (by first | (simp; done) | (simp; omega) | omega) _ | refine Below.alloc ?_ (by first | (simp; done) | (simp; omega) | omega) _ | refine Below.drew ?_ | assumption | refine Below.trans ?_ (Below.mono (by assumption) (by first | (simp; done) | (simp; omega) | omega))))⟩
end Go.Proofs.YtdpoahfjiomhbaaGreatDoor

/-
  Contract of exref6.String.
-/
namespace Go.Proofs.YtdpoahfjiomhbaaGreatDoor
set_option linter.all false
open Go.RowKit Go.Sort
attribute [local go_sem] cell_set_self lt_1 lt_2 lt_3 lt_4 lt_5 lt_6

theorem txt_neg {u : Int} (h : u < 0) : txt u = 45 :: txt u.natAbs := by
  have k := pf_txt u
  rw [decide_eq_true h] at k
  unfold pf at k
  split at k
  · rename_i h1
    cases hl : txt u with
    | nil => rw [hl] at h1; simp at h1
    | cons b r =>
      rw [hl] at h1 k
      simp at h1 k
      rw [h1, k]
  · injection k with _ k; simp at k
theorem txt_pos {u : Int} (h : ¬ u < 0) : txt u = txt u.natAbs ∧ (txt u).head? ≠ some 45 := by
  have k := pf_txt u
  rw [decide_eq_false h] at k
  unfold pf at k
  split at k
  · injection k with _ k; simp at k
  · rename_i h1
    injection k with k _
    exact ⟨k, h1⟩
set_option maxHeartbeats 8000000 in
set_option maxRecDepth 100000 in
theorem rstring_any (u : Int) (c : List UInt8) (w : World) : Calls Tryz.prog 33 #[.agg #[.int .i64 u, .string ⟨c.toArray⟩]] w fun e w' => e = .returned (.string ⟨(strM u c).toArray⟩) ∧ Below w.heap.size w w' := by
  have CK := Lib.hid (fun W => rcheck_any u c W)
  by_cases h : amE u c = 0
  · obtain ⟨hu, k, t, hk, rfl⟩ := amE_0 h
    obtain ⟨s1, s2, s3, s4⟩ := cur_sc hk
    obtain ⟨t1, t21⟩ := txt_abs_len u hu
    obtain ⟨u0, u1⟩ := inU_iffS.1 hu
    have hX : scX t.1 = t.2 := by
      rcases scX_cases t.1 with ⟨_, e, _⟩ | ⟨e, _⟩
      · rw [e, s1]
      · rw [s2] at e; simp at e
    have SC := Lib.hid (fun W => rscale_any t.1 W)
    rw [hX] at SC
    have BU := Lib.hid (fun W => bigOf_any u ⟨by omega, by omega⟩ W)
    have BT : Hid (∀ s A n k b W, Pt b W s A n k u → Calls Tryz.prog 59 #[.agg #[.bool s, .slice A n k]] W fun e w' => e = .returned (.string ⟨(txt u).toArray⟩) ∧ Below W.heap.size W w') := Lib.hid fun s A n k b W X => bigText_any s A n k u (pt_n X (by omega)) W (X.mono (Nat.zero_le _))
    have OUT : Hid (strM u t.1 = (if u < 0 then [45] else []) ++ (ptM t.2.toNat (padM t.2.toNat (txt u.natAbs)) ++ 32 :: t.1)) := Lib.hid (by unfold strM; rw [if_pos h, s1])
    -- the sign
    have hT : ∃ (y : Nat) (SG : ByteArray) (p0 : 0 < (⟨(txt u).toArray⟩ : ByteArray).size), ((⟨(txt u).toArray⟩ : ByteArray)[0]'p0).toNat = y ∧ SG = ⟨((if u < 0 then [45] else []) : List UInt8).toArray⟩ ∧ ((y = 45 ∧ SG = ⟨#[45]⟩ ∧ 1 ≤ (⟨(txt u).toArray⟩ : ByteArray).size ∧ (⟨(txt u).toArray⟩ : ByteArray).extract 1 (⟨(txt u).toArray⟩ : ByteArray).size = ⟨(txt u.natAbs).toArray⟩) ∨ (((y : Int) == 45) = false ∧ SG = ⟨#[]⟩ ∧ (⟨(txt u).toArray⟩ : ByteArray) = ⟨(txt u.natAbs).toArray⟩)) := by
      by_cases hn : u < 0
      · rw [if_pos hn]
        have e := txt_neg hn
        have p0 : 0 < (⟨(txt u).toArray⟩ : ByteArray).size := by rw [ba_szP, e]; simp
        refine ⟨45, _, p0, ?_, rfl, .inl ⟨rfl, rfl, p0, ?_⟩⟩
        · exact ba_at (l := 45 :: txt u.natAbs) (i := 0) (b := 45) (by rw [e]) rfl p0
        · rw [ext_drop (txt u) 1 _ (ba_szP _).symm, e]; rfl
      · rw [if_neg hn]
        obtain ⟨e, hh⟩ := txt_pos hn
        have p0 : 0 < (⟨(txt u).toArray⟩ : ByteArray).size := by rw [ba_szP, e]; omega
        obtain ⟨b, r, hl⟩ : ∃ b r, txt u = b :: r := by
          cases hl : txt u with
          | nil => rw [e] at hl; rw [hl] at t1; simp at t1
          | cons b r => exact ⟨b, r, rfl⟩
        have h1 := ba_at (t := ⟨(txt u).toArray⟩) (l := b :: r) (by rw [hl]) (i := 0) (b := b) rfl p0
        refine ⟨_, _, p0, rfl, rfl, .inr ⟨?_, rfl, by rw [e]⟩⟩
        · rw [hl] at hh
          rw [h1]
          have : b.toNat ≠ 45 := fun k => hh (by rw [UInt8.toNat_inj.1 (show b.toNat = (45 : UInt8).toNat by rw [k]; rfl)]; rfl)
          simp; omega
    obtain ⟨y, SG, p0, hy, hSG, hT⟩ := hT
    have hT2 : ∃ B : Bool, ((y : Int) == 45) = B ∧ ((B = true ∧ SG = ⟨#[45]⟩ ∧ 1 ≤ (⟨(txt u).toArray⟩ : ByteArray).size ∧ (⟨(txt u).toArray⟩ : ByteArray).extract 1 (⟨(txt u).toArray⟩ : ByteArray).size = ⟨(txt u.natAbs).toArray⟩) ∨ (B = false ∧ SG = ⟨#[]⟩ ∧ (⟨(txt u).toArray⟩ : ByteArray) = ⟨(txt u.natAbs).toArray⟩)) := by
      rcases hT with ⟨rfl, k⟩ | ⟨k, k2⟩
      · exact ⟨true, rfl, .inl ⟨rfl, k⟩⟩
      · exact ⟨false, k, .inr ⟨rfl, k2⟩⟩
    clear hT
    obtain ⟨B, hB, hT⟩ := hT2
    have HT := Lib.hid hT
    have HSG := Lib.hid hSG
    obtain ⟨τ, hτ⟩ : ∃ τ, txt u.natAbs = τ := ⟨_, rfl⟩
    rw [hτ] at OUT t1 t21 HT
    rw [h] at CK
    obtain ⟨F, hF⟩ : ∃ F : ByteArray, ⟨(strM u t.1).toArray⟩ = F := ⟨_, rfl⟩
    have FIN := Lib.hid hF
    rw [hF]
    have zc : t.1.length = 3 := s4
    clear h hu hk s1 s2 s4 hτ hF u0 u1 hX hT hSG
    generalize (⟨(txt u).toArray⟩ : ByteArray) = TU at *
    generalize strM u t.1 = sm at *
    have hsc : ∃ sc : Nat, t.2 = (sc : Int) ∧ sc ≤ 3 := by
      rcases s3 with e | e | e
      · exact ⟨0, e, by omega⟩
      · exact ⟨2, e, by omega⟩
      · exact ⟨3, e, by omega⟩
    obtain ⟨sc, hsc, sc3⟩ := hsc
    rw [hsc] at SC OUT
    rw [Int.toNat_natCast] at OUT
    clear hsc s3
    generalize t.1 = cl at *
    obtain ⟨CU, hCU⟩ : ∃ CU : ByteArray, (⟨cl.toArray⟩ : ByteArray) = CU := ⟨_, rfl⟩
    have HCU := Lib.hid hCU.symm
    rw [hCU] at SC CK ⊢
    clear hCU
    go_enter Tryz.func33, Tryz.ntmps33
    go_upto_if 15 with (first | (go_at_call 29; refine (CK.out _).mono ?_; rintro e w1 ⟨rfl, hb1⟩; obtain ⟨hc1, hf1⟩ := bcell hb1; have hs1 := hb1.size; (try simp at hs1); have hz1 : w.heap.size < w1.heap.size := by have := hb1.size; (try simp at this); omega) | (go_at_call 38; (with_reducible refine (BU.out _).mono ?_); rintro e w2 ⟨⟨s2, A2, n2, c2, rfl, hP2⟩, hb2⟩; obtain ⟨hc2, hf2⟩ := bcell hb2; have hs2 := hb2.size; (try simp at hs2); have hz2 : w.heap.size < w2.heap.size := (by omega); have HP2 := Lib.hid hP2; clear hP2) | (go_at_call 59; (with_reducible refine (BT.out _ _ _ _ _ _ (HP2.out.below (by repeat (first | exact Below.refl _ _ | refine Below.setCell ?_ (by first | (simp; done) | (simp; omega) | omega) _ | refine Below.alloc ?_ (by first | (simp; done) | (simp; omega) | omega) _ | refine Below.drew ?_ | assumption | refine Below.trans ?_ (Below.mono (by assumption) (by first | (simp; done) | (simp; omega) | omega)))))).mono ?_); rintro e w3 ⟨rfl, hb3⟩; obtain ⟨hc3, hf3⟩ := bcell hb3; have hs3 := hb3.size; (try simp at hs3); have hz3 : w.heap.size < w3.heap.size := (by omega)))
    go_cut [3, 4] from 16 to 17 (fun s g wx => s = .string ⟨τ.toArray⟩ ∧ g = .string SG ∧ w3 = wx)
    case first =>
      rcases HT.out with ⟨rfl, rfl, hx1, hx⟩ | ⟨rfl, rfl, rfl⟩
      · go_wp2_with (fail)
        go_meet
        exact ⟨rfl, rfl, rfl⟩
      · go_wp2_with (fail)
        go_meet
        exact ⟨rfl, rfl, rfl⟩
    case rest =>
    obtain ⟨rfl, rfl, rfl⟩ := hcut
    clear HT hy hB
    go_wp2_with (first | (go_at_call 26; refine (SC.out _).mono ?_; rintro e w4 ⟨rfl, hb4⟩; obtain ⟨hc4, hf4⟩ := bcell hb4; have hs4 := hb4.size; (try simp at hs4); have hz4 : w.heap.size < w4.heap.size := by have := hb4.size; (try simp at this); omega))
    go_loopw [3] (fun t wr => ∃ (j : Nat) (T : ByteArray), t = .string T ∧ T.size = τ.length + j ∧ (j = 0 ∨ τ.length + j ≤ sc + 1) ∧ Hid (T = ⟨(List.replicate j 48 ++ τ).toArray⟩) ∧ w4 = wr) (fun t _ => match t with | .string T => sc + 1 - T.size | _ => 0)
    case atStart => exact ⟨0, _, rfl, ba_szP τ, .inl rfl, Lib.hid rfl, rfl⟩
    case round =>
      obtain ⟨j, T, rfl, hsz, hj, HT, hw⟩ := hrel; subst hw
      by_cases hle : T.size ≤ sc
      · obtain ⟨T', hT'⟩ : ∃ T' : ByteArray, (⟨(List.replicate (j + 1) 48 ++ τ).toArray⟩ : ByteArray) = T' := ⟨_, rfl⟩
        have had : ∀ W : World, (Op.stringOp .add ⟨#[48]⟩ T).run Tryz.prog W = .ok (.string T') W := fun W => by
          rw [HT.out, ← hT', show List.replicate (j + 1) (48 : UInt8) ++ τ = [48] ++ (List.replicate j 48 ++ τ) by rw [List.replicate_succ]; rfl]
          exact run_string_add_lists (P := Tryz.prog) W [48] _ (by simp) (by simp; omega)
        have hs' : T'.size = τ.length + (j + 1) := by rw [← hT', ba_szP]; simp; omega
        have NT := Lib.hid hT'.symm
        have lt2 : (T.size : Int) ≤ (sc : Int) := by omega
        clear hT' OUT FIN HSG HCU HT
        go_wp2
        go_roundw
        case rel => exact ⟨j + 1, T', rfl, hs', by omega, NT, by first | rfl | trivial⟩
        case measure => (simp; omega)
      · have nle : ¬ (T.size : Int) ≤ (sc : Int) := by omega
        have HP : Hid (T = ⟨(padM sc τ).toArray⟩) := Lib.hid (by
          rw [HT.out]; unfold padM; rw [show sc + 1 - τ.length = j by omega])
        have tl : T.size ≤ 40 := by omega
        clear HT
        obtain ⟨F3, hF3⟩ : ∃ F3 : ByteArray, (⟨(ptM sc (padM sc τ)).toArray⟩ : ByteArray) = F3 := ⟨_, rfl⟩
        have PL : (padM sc τ).length ≤ 40 ∧ sc + 1 ≤ (padM sc τ).length ∧ (padM sc τ).length = T.size := by
          have e : T.size = (padM sc τ).length := by rw [HP.out, ba_szP]
          have := padM_len sc τ
          omega
        have PTL : (ptM sc (padM sc τ)).length ≤ 41 := by
          rw [ptM_len sc _ PL.2.1]; split <;> omega
        have A1 : Hid (∀ W : World, (Op.stringOp .add SG F3).run Tryz.prog W = .ok (.string ⟨((if u < 0 then [45] else []) ++ ptM sc (padM sc τ)).toArray⟩) W) := Lib.hid fun W => by
          rw [HSG.out, ← hF3]
          exact run_string_add_lists (P := Tryz.prog) W _ _ (by split <;> simp) (by omega)
        obtain ⟨Q1, hQ1⟩ : ∃ Q : ByteArray, (⟨((if u < 0 then [45] else []) ++ ptM sc (padM sc τ)).toArray⟩ : ByteArray) = Q := ⟨_, rfl⟩
        obtain ⟨Q2, hQ2⟩ : ∃ Q : ByteArray, (⟨(((if u < 0 then [45] else []) ++ ptM sc (padM sc τ)) ++ [32]).toArray⟩ : ByteArray) = Q := ⟨_, rfl⟩
        have sgl : (if u < 0 then [(45 : UInt8)] else []).length ≤ 1 := by split <;> simp
        have A2 : Hid (∀ W : World, (Op.stringOp .add Q1 ⟨#[32]⟩).run Tryz.prog W = .ok (.string Q2) W) := Lib.hid fun W => by
          rw [← hQ1, ← hQ2]
          exact run_string_add_lists (P := Tryz.prog) W _ [32] (by simp only [List.length_append]; omega) (by simp)
        have A3 : Hid (∀ W : World, (Op.stringOp .add Q2 CU).run Tryz.prog W = .ok (.string F) W) := Lib.hid fun W => by
          rw [← hQ2, HCU.out, ← FIN.out, OUT.out]
          have := run_string_add_lists (P := Tryz.prog) W (((if u < 0 then [45] else []) ++ ptM sc (padM sc τ)) ++ [32]) cl (by simp only [List.length_append, List.length_singleton]; omega) (by omega)
          rw [this]
          simp only [List.append_assoc, List.singleton_append]
        rw [hQ1] at A1
        have HF3 := Lib.hid hF3
        clear hF3 hQ1 hQ2 FIN OUT HSG HCU
        obtain ⟨B2, hB2⟩ : ∃ B2, decide (0 < sc) = B2 := ⟨_, rfl⟩
        go_upto_if 28 with (fail)
        go_cut [3] from 29 to 42 (fun t wx => t = .string F3 ∧ Below w4.heap.size w4 wx)
        case first =>
          clear A1 A2 A3
          cases B2
          case true =>
            have s0 : 0 < sc := of_decide_eq_true hB2
            obtain ⟨m, hm⟩ : ∃ m, T.size - sc = m := ⟨_, rfl⟩
            have m1 : (T.size : Int) - (sc : Int) = (m : Int) := by omega
            have m2 : IntKind.i64.wrap (m : Int) = (m : Int) := by rw [IntKind.wrap_i64]; omega
            have m3 : (m : Int) ≤ (T.size : Int) := by omega
            have m4 : m ≤ T.size := by omega
            obtain ⟨X, hX⟩ : ∃ X, T.extract 0 m = X := ⟨_, rfl⟩
            obtain ⟨Y, hY⟩ : ∃ Y, T.extract m T.size = Y := ⟨_, rfl⟩
            have X1 : X = ⟨((padM sc τ).take m).toArray⟩ := by rw [← hX, HP.out, ext_take]
            have Y1 : Y = ⟨((padM sc τ).drop m).toArray⟩ := by rw [← hY, HP.out, ext_drop _ _ _ (ba_szP _).symm]
            obtain ⟨Z, hZ⟩ : ∃ Z : ByteArray, (⟨((padM sc τ).take m ++ [46]).toArray⟩ : ByteArray) = Z := ⟨_, rfl⟩
            have D1 : ∀ W : World, (Op.stringOp .add X ⟨#[46]⟩).run Tryz.prog W = .ok (.string Z) W := fun W => by
              rw [X1, ← hZ]
              exact run_string_add_lists (P := Tryz.prog) W _ [46] (by simp; omega) (by simp)
            have D2 : ∀ W : World, (Op.stringOp .add Z Y).run Tryz.prog W = .ok (.string F3) W := fun W => by
              rw [Y1, ← hZ, ← HF3.out]
              have := run_string_add_lists (P := Tryz.prog) W ((padM sc τ).take m ++ [46]) ((padM sc τ).drop m) (by simp; omega) (by simp; omega)
              rw [this]
              unfold ptM
              rw [if_neg (by omega), show (padM sc τ).length - sc = m by omega]
              simp
            clear X1 Y1 hZ HP HF3 hm PL PTL hsz hj nle hle
            go_wp2_with (fail)
            go_big_region
            all_goals (
              go_wp2_with (fail)
              go_meet
              exact ⟨rfl, (by repeat (first | exact Below.refl _ _ | refine Below.setCell ?_ (by first | (simp; done) | (simp; omega) | omega) _ | refine Below.alloc ?_ (by first | (simp; done) | (simp; omega) | omega) _ | refine Below.drew ?_ | assumption | refine Below.trans ?_ (Below.mono (by assumption) (by first | (simp; done) | (simp; omega) | omega))))⟩)
          case false =>
            have s0 : ¬ 0 < sc := of_decide_eq_false hB2
            have e : T = F3 := by
              rw [HP.out, ← HF3.out]; unfold ptM; rw [if_pos (by omega)]
            subst e
            go_wp2_with (fail)
            go_meet
            exact ⟨rfl, (by repeat (first | exact Below.refl _ _ | refine Below.setCell ?_ (by first | (simp; done) | (simp; omega) | omega) _ | refine Below.alloc ?_ (by first | (simp; done) | (simp; omega) | omega) _ | refine Below.drew ?_ | assumption | refine Below.trans ?_ (Below.mono (by assumption) (by first | (simp; done) | (simp; omega) | omega))))⟩
        case rest =>
        obtain ⟨rfl, hB5⟩ := hcut
        obtain ⟨w5, rfl⟩ : ∃ w5 : World, w5 = wc := ⟨_, rfl⟩
        obtain ⟨hc5, hf5⟩ := bcell hB5
        have hs5 := hB5.size
        have hz5 : w.heap.size < w5.heap.size := by omega
        have A1' := A1.out
        have A2' := A2.out
        have A3' := A3.out
        clear A1 A2 A3 HP HF3 PL PTL hB2
        go_wp2_with (fail)
        exact bodyPost_ret (v := .string F) (by simp [results, Tryz.results33, go_sem, *]) rfl ⟨rfl, (by repeat (first | exact Below.refl _ _ | refine Below.setCell ?_ (by first | (simp; done) | (simp; omega) | omega) _ | refine Below.alloc ?_ (by first | (simp; done) | (simp; omega) | omega) _ | refine Below.drew ?_ | assumption | refine Below.trans ?_ (Below.mono (by assumption) (by first | (simp; done) | (simp; omega) | omega))))⟩
  · have e : strM u c = [] := by unfold strM; rw [if_neg h]
    rw [e]
    generalize amE u c = x at *
    have x0 : (x != 0) = true := bne_iff_ne.2 h
    clear h e
    generalize (⟨c.toArray⟩ : ByteArray) = C at *
    go_enter Tryz.func33, Tryz.ntmps33
    go_wp2_with (first | (go_at_call 29; refine (CK.out _).mono ?_; rintro e w1 ⟨rfl, hb1⟩; obtain ⟨hc1, hf1⟩ := bcell hb1; have hs1 := hb1.size; (try simp at hs1); have hz1 : w.heap.size < w1.heap.size := by have := hb1.size; (try simp at this); omega))
    exact bodyPost_ret (v := .string ⟨#[]⟩) (by simp [results, Tryz.results33, go_sem, *]) rfl ⟨rfl, (by repeat (first | exact Below.refl _ _ | refine Below.setCell ?_ (by first | (simp; done) | (simp; omega) | omega) _ | refine Below.alloc ?_ (by first | (simp; done) | (simp; omega) | omega) _ | refine Below.drew ?_ | assumption | refine Below.trans ?_ (Below.mono (by assumption) (by first | (simp; done) | (simp; omega) | omega))))⟩
end Go.Proofs.YtdpoahfjiomhbaaGreatDoor

/-
  The walk of the statement MoneyTexts: it returns true, whatever it is given.
-/
namespace Go.Proofs.YtdpoahfjiomhbaaGreatDoor
set_option linter.all false
open Go.RowKit Go.Sort
attribute [local go_sem] cell_set_self lt_1 lt_2 lt_3 lt_4 lt_5 lt_6

theorem scN_18 {c : List UInt8} (h : scE c = 18) : scN c = 0 := by
  unfold scE at h
  unfold scN
  cases hp : scP c with
  | none => rfl
  | some x => rw [hp] at h; simp at h
theorem ba_bne (a : ByteArray) : (a.toList != a.toList) = false := by simp
set_option maxHeartbeats 16000000 in
set_option maxRecDepth 100000 in
theorem texts_big (u : Int) (c s : List UInt8) (w : World) (E : Env w) (big : 200 < s.length ∨ (s.length ≤ 200 ∧ 200 < c.length)) :
    Calls Tryz.prog 5 #[.agg #[.int .i64 u, .string ⟨c.toArray⟩], .string ⟨s.toArray⟩] w fun e w' => e = .returned (.bool true) ∧ Below w.heap.size w w' := by
  have F0 := Lib.hid (fun W (hb : Below w.heap.size w W) => first6_any W (E.below hb))
  have e1 := ba_szP c
  have e2 := ba_szP s
  rw [← e1, ← e2] at big
  clear E e1 e2
  generalize (⟨c.toArray⟩ : ByteArray) = C at *
  generalize (⟨s.toArray⟩ : ByteArray) = S at *
  rcases big with h1 | ⟨h1, h2⟩
  · have k0 : (200 : Int) < (S.size : Int) := by omega
    go_enter Tryz.func5, Tryz.ntmps5
    go_wp2_with (first | (go_at_call 18; refine (F0.out _ (by repeat (first | exact Below.refl _ _ | refine Below.setCell ?_ (by first | (simp; done) | (simp; omega) | omega) _ | refine Below.alloc ?_ (by first | (simp; done) | (simp; omega) | omega) _ | refine Below.drew ?_ | assumption | refine Below.trans ?_ (Below.mono (by assumption) (by first | (simp; done) | (simp; omega) | omega))))).mono ?_; rintro e w1 ⟨rfl, hb1⟩; obtain ⟨hc1, hf1⟩ := bcell hb1; have hs1 := hb1.size; (try simp at hs1); have hz1 : w.heap.size < w1.heap.size := by have := hb1.size; (try simp at this); omega))
    go_ret
    exact ⟨rfl, (by repeat (first | exact Below.refl _ _ | refine Below.setCell ?_ (by first | (simp; done) | (simp; omega) | omega) _ | refine Below.alloc ?_ (by first | (simp; done) | (simp; omega) | omega) _ | refine Below.drew ?_ | assumption | refine Below.trans ?_ (Below.mono (by assumption) (by first | (simp; done) | (simp; omega) | omega))))⟩
  · have k0 : ¬ (200 : Int) < (S.size : Int) := by omega
    have k1 : (200 : Int) < (C.size : Int) := by omega
    go_enter Tryz.func5, Tryz.ntmps5
    go_wp2_with (first | (go_at_call 18; refine (F0.out _ (by repeat (first | exact Below.refl _ _ | refine Below.setCell ?_ (by first | (simp; done) | (simp; omega) | omega) _ | refine Below.alloc ?_ (by first | (simp; done) | (simp; omega) | omega) _ | refine Below.drew ?_ | assumption | refine Below.trans ?_ (Below.mono (by assumption) (by first | (simp; done) | (simp; omega) | omega))))).mono ?_; rintro e w1 ⟨rfl, hb1⟩; obtain ⟨hc1, hf1⟩ := bcell hb1; have hs1 := hb1.size; (try simp at hs1); have hz1 : w.heap.size < w1.heap.size := by have := hb1.size; (try simp at this); omega))
    go_ret
    exact ⟨rfl, (by repeat (first | exact Below.refl _ _ | refine Below.setCell ?_ (by first | (simp; done) | (simp; omega) | omega) _ | refine Below.alloc ?_ (by first | (simp; done) | (simp; omega) | omega) _ | refine Below.drew ?_ | assumption | refine Below.trans ?_ (Below.mono (by assumption) (by first | (simp; done) | (simp; omega) | omega))))⟩
set_option maxHeartbeats 32000000 in
set_option maxRecDepth 100000 in
theorem texts_main (u : Int) (c s : List UInt8) (ls : s.length ≤ 200) (lc : c.length ≤ 200) (w : World) (E : Env w) :
    Calls Tryz.prog 5 #[.agg #[.int .i64 u, .string ⟨c.toArray⟩], .string ⟨s.toArray⟩] w fun e w' => e = .returned (.bool true) ∧ Below w.heap.size w w' := by
  have F0 := Lib.hid (fun W (hb : Below w.heap.size w W) => first6_any W (E.below hb))
  have NU := Lib.hid (fun n W => num_any n W)
  have AM := Lib.hid (fun W => amount6_any u ⟨c.toArray⟩ W)
  have SM := Lib.hid (fun x X W => same6_any x X W)
  have CU := Lib.hid (fun W => currencies_any W)
  have CO := Lib.hid (fun W => codes_any W)
  have SC := Lib.hid (fun (k : Nat) (t : List UInt8 × Int) (hk : curL[k]? = some t) W => (rscale_any t.1 W))
  have SX : Hid (∀ (k : Nat) (t : List UInt8 × Int), curL[k]? = some t → scX t.1 = t.2) := Lib.hid fun k t hk => by
    obtain ⟨s1, s2, _, _⟩ := cur_sc hk
    rcases scX_cases t.1 with ⟨_, e, _⟩ | ⟨e, _⟩
    · rw [e, s1]
    · rw [s2] at e; simp at e
  have SA := Lib.hid (fun W => scale_any c W)
  have SB := Lib.hid (fun W => rscale_any c W)
  have SS : Hid ((scE c = 0 ∧ scX c = scN c ∧ 0 ≤ scX c) ∨ (scE c = 18 ∧ scX c = -1 ∧ scN c = 0)) := Lib.hid (by
    rcases scX_cases c with k | ⟨k, k2⟩
    · exact .inl k
    · exact .inr ⟨k, k2, scN_18 k⟩)
  have RC := Lib.hid (fun W => rcheck_any u c W)
  obtain ⟨x1, X1, hX1, hn1⟩ : ∃ x X, amR (amE u c) u c = .tuple #[.agg #[.int .i64 x, .string X], .int .i64 (amE u c)] ∧ ((amE u c = 0 ∧ x = u ∧ X = ⟨c.toArray⟩) ∨ (amE u c ≠ 0 ∧ x = 0 ∧ X = ⟨#[]⟩)) := by
    by_cases h : amE u c = 0
    · exact ⟨u, ⟨c.toArray⟩, by rw [h]; exact amR_0 rfl, .inl ⟨h, rfl, rfl⟩⟩
    · exact ⟨0, ⟨#[]⟩, amR_n h, .inr ⟨h, rfl, rfl⟩⟩
  have HN1 := Lib.hid hn1
  have NW : Hid (∀ W, Calls Tryz.prog 28 #[.int .i64 u, .string ⟨c.toArray⟩] W fun e w' => e = .returned (.tuple #[.agg #[.int .i64 x1, .string X1], .int .i64 (amE u c)]) ∧ Below W.heap.size W w') := Lib.hid fun W => by rw [← hX1]; exact new_any u c W
  obtain ⟨x2, X2, q2, hX2⟩ : ∃ x X q, amR (codeM s) (numM s) (mA s).2.1 = .tuple #[.agg #[.int .i64 x, .string X], .int .i64 q] := ⟨_, _, _, rfl⟩
  have PA : Hid (∀ W, Below w.heap.size w W → Calls Tryz.prog 30 #[.string ⟨s.toArray⟩] W fun e w' => e = .returned (.tuple #[.agg #[.int .i64 x2, .string X2], .int .i64 q2]) ∧ Below W.heap.size W w') := Lib.hid fun W hb => by rw [← hX2]; exact mparse_any s (by omega) W (E.below hb)
  have PB : Hid (∀ W, Calls Tryz.prog 31 #[.string ⟨s.toArray⟩] W fun e w' => e = .returned (.tuple #[.agg #[.int .i64 x2, .string X2], .int .i64 q2]) ∧ Below W.heap.size W w') := Lib.hid fun W => by rw [← hX2]; exact rparse6_any s ls W
  have ST := Lib.hid (fun W (hb : Below w.heap.size w W) => mstring_any u c W (E.below hb))
  have SR := Lib.hid (fun W => rstring_any u c W)
  have zc : ¬ (200 : Int) < ((⟨c.toArray⟩ : ByteArray).size : Int) := by rw [ba_szP]; omega
  have zs : ¬ (200 : Int) < ((⟨s.toArray⟩ : ByteArray).size : Int) := by rw [ba_szP]; omega
  clear E hX1 hX2 hn1 lc ls
  generalize amE u c = e1 at *
  generalize scE c = sce at *
  generalize scX c = scx at *
  generalize scN c = scn at *
  generalize (⟨(strM u c).toArray⟩ : ByteArray) = ST1 at *
  generalize (⟨c.toArray⟩ : ByteArray) = C at *
  generalize (⟨s.toArray⟩ : ByteArray) = S at *
  go_enter Tryz.func5, Tryz.ntmps5
  go_wp2_with (first | (go_at_call 18; refine (F0.out _ (by repeat (first | exact Below.refl _ _ | refine Below.setCell ?_ (by first | (simp; done) | (simp; omega) | omega) _ | refine Below.alloc ?_ (by first | (simp; done) | (simp; omega) | omega) _ | refine Below.drew ?_ | assumption | refine Below.trans ?_ (Below.mono (by assumption) (by first | (simp; done) | (simp; omega) | omega))))).mono ?_; rintro e w1 ⟨rfl, hb1⟩; obtain ⟨hc1, hf1⟩ := bcell hb1; have hs1 := hb1.size; (try simp at hs1); have hz1 : w.heap.size < w1.heap.size := by have := hb1.size; (try simp at this); omega) | (go_at_call 24; (with_reducible refine (CU.out _).mono ?_); rintro e w2 ⟨⟨g1, rfl, hC2⟩, hb2⟩; obtain ⟨hc2, hf2⟩ := bcell hb2; have hs2 := hb2.size; (try simp at hs2); have hz2 : w.heap.size < w2.heap.size := (by omega); have HC2 := Lib.hid hC2; clear hC2) | (go_at_call 25; (with_reducible refine (CO.out _).mono ?_); rintro e w3 ⟨⟨g2, rfl, hC3⟩, hb3⟩; obtain ⟨hc3, hf3⟩ := bcell hb3; have hs3 := hb3.size; (try simp at hs3); have hz3 : w.heap.size < w3.heap.size := (by omega); have HC3 := Lib.hid hC3; clear hC3))
  have BW : Below w.heap.size w w3 := (by repeat (first | exact Below.refl _ _ | refine Below.setCell ?_ (by first | (simp; done) | (simp; omega) | omega) _ | refine Below.alloc ?_ (by first | (simp; done) | (simp; omega) | omega) _ | refine Below.drew ?_ | assumption | refine Below.trans ?_ (Below.mono (by assumption) (by first | (simp; done) | (simp; omega) | omega))))
  have BA : Hid (Bx w3 (w.heap.size) u C) := Lib.hid ⟨by omega, by simp [go_sem, *], by simp [go_sem, *]⟩
  have GA : Hid (Curs w3 g1) := Lib.hid (HC2.out.below hb3)
  have hsk := BW.size
  clear hb1 hc1 hf1 hz1 hs1 hb2 hc2 hf2 hs2 hz2 hb3 hc3 hf3 hs3 hz3 HC2 F0
  go_loopw [8] (fun i wr => ∃ k : Nat, i = .int .i64 k ∧ k ≤ 6 ∧ Below w3.heap.size w3 wr) (fun i _ => 6 - (intOf i).toNat)
  case atStart => exact ⟨0, rfl, by omega, Below.refl _ _⟩
  case round =>
    obtain ⟨k, rfl, hk, hB⟩ := hrel
    obtain ⟨wo, rfl⟩ : ∃ wo : World, wo = wr := ⟨_, rfl⟩
    have hso := hB.size
    have ga := GA.out.below hB
    have gb := HC3.out.below hB
    by_cases hlt : k < 6
    · have hlt' : (k : Int) < 6 := by omega
      obtain ⟨t, ht⟩ : ∃ t, curL[k]? = some t := ⟨_, List.getElem?_eq_getElem (by show k < 6; exact hlt)⟩
      obtain ⟨ga0, ga1⟩ := ga.2 k t ht
      have gb0 := gb.2 k t ht
      have ga2 := ga.1
      have gb2 := gb.1
      have S1 := Lib.hid (SC.out k t ht)
      rw [SX.out k t ht] at S1
      have hbn := ba_bne ⟨t.1.toArray⟩
      have hbw : w.heap.size < wo.heap.size := by have := BA.out.1; omega
      clear ga gb ht
      generalize (⟨t.1.toArray⟩ : ByteArray) = T at *
      generalize t.2 = sc at *
      go_wp2_with (fail)
      go_region_held3 (fun w' => w'.cell? ⟨g1, k * 2, none⟩ = some (.string T) ∧ w'.cell? ⟨g1, k * 2 + 1, none⟩ = some (.int .i64 sc) ∧ w'.cell? ⟨g2, k, none⟩ = some (.string T) ∧ g1 < w'.heap.size ∧ g2 < w'.heap.size ∧ Below wo.heap.size wo w')
      (first | (refine ⟨?_, ?_, ?_, ?_, ?_, ?_⟩ <;> first | (simp [go_sem, *]; done) | omega | (simp; omega) | exact (by repeat (first | exact Below.refl _ _ | refine Below.setCell ?_ (by first | (simp; done) | (simp; omega) | omega) _ | refine Below.alloc ?_ (by first | (simp; done) | (simp; omega) | omega) _ | refine Below.drew ?_ | assumption | refine Below.trans ?_ (Below.mono (by assumption) (by first | (simp; done) | (simp; omega) | omega))))))
      (first | (first | (go_at_call 26; refine (S1.out _).mono ?_; rintro e w5 ⟨rfl, hb5⟩; obtain ⟨hc5, hf5⟩ := bcell hb5; (try simp only [drew_size, drew_cell, drew_frozen] at hc5 hf5); have hs5 := hb5.size; (try simp at hs5); have hz5 : g1 < w5.heap.size ∧ g2 < w5.heap.size := by have := hb5.size; (try simp at this); omega)))
      have hB5 : Below w3.heap.size w3 w5 := (by repeat (first | exact Below.refl _ _ | refine Below.setCell ?_ (by first | (simp; done) | (simp; omega) | omega) _ | refine Below.alloc ?_ (by first | (simp; done) | (simp; omega) | omega) _ | refine Below.drew ?_ | assumption | refine Below.trans ?_ (Below.mono (by assumption) (by first | (simp; done) | (simp; omega) | omega))))
      go_wp2
      go_roundw
      case rel => exact ⟨k + 1, by go_num, by omega, hB5⟩
      case measure => first | (simp [intOf]; done) | (simp [intOf]; omega)
    · obtain rfl : k = 6 := by omega
      replace BA := Lib.hid (BA.out.below hB)
      replace BW := BW.trans (hB.mono hsk)
      clear ga gb GA HC3 hB hsk hso SC SX CU CO
      have hB0 : w.heap.size < wo.heap.size := BA.out.1
      go_upto_region 13 with (fail)
      go_cut [9, 10] from 73 to 79 (fun p q wx => p = .int .i64 scn ∧ q = .int .i64 sce ∧ Below wo.heap.size wo wx)
      case first =>
        obtain ⟨qa0, qa1, qa2⟩ := BA.out
        go_wp2_with (first | (go_at_call 27; (with_reducible refine (SA.out _).mono ?_); rintro e w10 ⟨rfl, hb10⟩; obtain ⟨hc10, hf10⟩ := bcell hb10; have hs10 := hb10.size; (try simp at hs10); have hz10 : w.heap.size < w10.heap.size ∧ w.heap.size < w10.heap.size + 1 := (by omega)))
        go_meet; exact ⟨rfl, rfl, (by repeat (first | exact Below.refl _ _ | refine Below.setCell ?_ (by first | (simp; done) | (simp; omega) | omega) _ | refine Below.alloc ?_ (by first | (simp; done) | (simp; omega) | omega) _ | refine Below.drew ?_ | assumption | refine Below.trans ?_ (Below.mono (by assumption) (by first | (simp; done) | (simp; omega) | omega))))⟩
      case rest =>
      obtain ⟨rfl, rfl, hC1⟩ := hcut
      obtain ⟨wn1, rfl⟩ : ∃ wn1 : World, wn1 = wc := ⟨_, rfl⟩
      replace BA := Lib.hid (BA.out.below hC1)
      replace BW := BW.trans (hC1.mono (by first | (simp; done) | (simp; omega) | omega))
      have hS1 := hC1.size
      go_upto_region 14 with (fail)
      go_cut [11] from 78 to 80 (fun p wx => p = .int .i64 scx ∧ Below wn1.heap.size wn1 wx)
      case first =>
        obtain ⟨qa0, qa1, qa2⟩ := BA.out
        go_wp2_with (first | (go_at_call 26; (with_reducible refine (SB.out _).mono ?_); rintro e w10 ⟨rfl, hb10⟩; obtain ⟨hc10, hf10⟩ := bcell hb10; have hs10 := hb10.size; (try simp at hs10); have hz10 : w.heap.size < w10.heap.size ∧ w.heap.size < w10.heap.size + 1 := (by omega)))
        go_meet; exact ⟨rfl, (by repeat (first | exact Below.refl _ _ | refine Below.setCell ?_ (by first | (simp; done) | (simp; omega) | omega) _ | refine Below.alloc ?_ (by first | (simp; done) | (simp; omega) | omega) _ | refine Below.drew ?_ | assumption | refine Below.trans ?_ (Below.mono (by assumption) (by first | (simp; done) | (simp; omega) | omega))))⟩
      case rest =>
      obtain ⟨rfl, hC2⟩ := hcut
      obtain ⟨wn2, rfl⟩ : ∃ wn2 : World, wn2 = wc := ⟨_, rfl⟩
      replace BA := Lib.hid (BA.out.below hC2)
      replace BW := BW.trans (hC2.mono (by first | (simp; done) | (simp; omega) | omega))
      have hS2 := hC2.size
      go_upto_region 15 with (fail)
      go_cut [12] from 81 to 105 (fun p wx => p = .bool true ∧ Below wn2.heap.size wn2 wx)
      case first =>
        rcases SS.out with ⟨rfl, rfl, h0⟩ | ⟨rfl, rfl, rfl⟩
        · have h1 : ¬ scx < 0 := by omega
          go_wp2_with (first | (go_at_call 17; (with_reducible refine (NU.out _ _).mono ?_); rintro e w11 ⟨rfl, hb11⟩; obtain ⟨hc11, hf11⟩ := bcell hb11; have hs11 := hb11.size; (try simp at hs11)))
          go_meet
          exact ⟨rfl, (by repeat (first | exact Below.refl _ _ | refine Below.setCell ?_ (by first | (simp; done) | (simp; omega) | omega) _ | refine Below.alloc ?_ (by first | (simp; done) | (simp; omega) | omega) _ | refine Below.drew ?_ | assumption | refine Below.trans ?_ (Below.mono (by assumption) (by first | (simp; done) | (simp; omega) | omega))))⟩
        · skip
          go_wp2_with (first | (go_at_call 17; (with_reducible refine (NU.out _ _).mono ?_); rintro e w11 ⟨rfl, hb11⟩; obtain ⟨hc11, hf11⟩ := bcell hb11; have hs11 := hb11.size; (try simp at hs11)))
          go_meet
          exact ⟨rfl, (by repeat (first | exact Below.refl _ _ | refine Below.setCell ?_ (by first | (simp; done) | (simp; omega) | omega) _ | refine Below.alloc ?_ (by first | (simp; done) | (simp; omega) | omega) _ | refine Below.drew ?_ | assumption | refine Below.trans ?_ (Below.mono (by assumption) (by first | (simp; done) | (simp; omega) | omega))))⟩
      case rest =>
      obtain ⟨rfl, hC3⟩ := hcut
      obtain ⟨wn3, rfl⟩ : ∃ wn3 : World, wn3 = wc := ⟨_, rfl⟩
      replace BA := Lib.hid (BA.out.below hC3)
      replace BW := BW.trans (hC3.mono (by first | (simp; done) | (simp; omega) | omega))
      have hS3 := hC3.size
      clear SS SA SB
      go_upto_region 16 with (fail)
      go_cut [13, 14] from 107 to 113 (fun p q wx => ∃ b : Nat, p = .pointer (some ⟨b, 0, none⟩) ∧ q = .int .i64 e1 ∧ Hid (Bx wx b x1 X1) ∧ Below wn3.heap.size wn3 wx)
      case first =>
        obtain ⟨qa0, qa1, qa2⟩ := BA.out
        go_wp2_with (first | (go_at_call 28; (with_reducible refine (NW.out _).mono ?_); rintro e w10 ⟨rfl, hb10⟩; obtain ⟨hc10, hf10⟩ := bcell hb10; have hs10 := hb10.size; (try simp at hs10); have hz10 : w.heap.size < w10.heap.size ∧ w.heap.size < w10.heap.size + 1 := (by omega)))
        go_meet; exact ⟨_, rfl, rfl, Lib.hid ⟨(by first | (simp; done) | (simp; omega) | omega), by simp [go_sem, *], by simp [go_sem, *]⟩, (by repeat (first | exact Below.refl _ _ | refine Below.setCell ?_ (by first | (simp; done) | (simp; omega) | omega) _ | refine Below.alloc ?_ (by first | (simp; done) | (simp; omega) | omega) _ | refine Below.drew ?_ | assumption | refine Below.trans ?_ (Below.mono (by assumption) (by first | (simp; done) | (simp; omega) | omega))))⟩
      case rest =>
      obtain ⟨b1, rfl, rfl, Qb1, hC4⟩ := hcut
      obtain ⟨wn4, rfl⟩ : ∃ wn4 : World, wn4 = wc := ⟨_, rfl⟩
      replace BA := Lib.hid (BA.out.below hC4)
      replace BW := BW.trans (hC4.mono (by first | (simp; done) | (simp; omega) | omega))
      have hS4 := hC4.size
      go_upto_region 17 with (fail)
      go_cut [15] from 114 to 116 (fun p wx => p = .int .i64 e1 ∧ Below wn4.heap.size wn4 wx)
      case first =>
        obtain ⟨qa0, qa1, qa2⟩ := BA.out
        go_wp2_with (first | (go_at_call 21; (with_reducible refine (AM.out _).mono ?_); rintro e w10 ⟨rfl, hb10⟩; obtain ⟨hc10, hf10⟩ := bcell hb10; have hs10 := hb10.size; (try simp at hs10); have hz10 : w.heap.size < w10.heap.size ∧ w.heap.size < w10.heap.size + 1 := (by omega)) | (go_at_call 29; (with_reducible refine (RC.out _).mono ?_); rintro e w11 ⟨rfl, hb11⟩; obtain ⟨hc11, hf11⟩ := bcell hb11; have hs11 := hb11.size; (try simp at hs11); have hz11 : w.heap.size < w11.heap.size ∧ w.heap.size < w11.heap.size + 1 := (by omega)))
        go_meet; exact ⟨rfl, (by repeat (first | exact Below.refl _ _ | refine Below.setCell ?_ (by first | (simp; done) | (simp; omega) | omega) _ | refine Below.alloc ?_ (by first | (simp; done) | (simp; omega) | omega) _ | refine Below.drew ?_ | assumption | refine Below.trans ?_ (Below.mono (by assumption) (by first | (simp; done) | (simp; omega) | omega))))⟩
      case rest =>
      obtain ⟨rfl, hC5⟩ := hcut
      obtain ⟨wn5, rfl⟩ : ∃ wn5 : World, wn5 = wc := ⟨_, rfl⟩
      replace BA := Lib.hid (BA.out.below hC5)
      replace Qb1 := Lib.hid (Qb1.out.below hC5)
      replace BW := BW.trans (hC5.mono (by first | (simp; done) | (simp; omega) | omega))
      have hS5 := hC5.size
      go_upto_region 18 with (fail)
      go_cut [16] from 117 to 138 (fun p wx => p = .bool true ∧ Below wn5.heap.size wn5 wx)
      case first =>
        obtain ⟨qa0, qa1, qa2⟩ := BA.out
        obtain ⟨qb0, qb1, qb2⟩ := Qb1.out
        rcases HN1.out with ⟨rfl, rfl, rfl⟩ | ⟨h6, rfl, rfl⟩
        · skip
          go_wp2_with (first | (go_at_call 17; (with_reducible refine (NU.out _ _).mono ?_); rintro e w11 ⟨rfl, hb11⟩; obtain ⟨hc11, hf11⟩ := bcell hb11; have hs11 := hb11.size; (try simp at hs11); have hz11 : w.heap.size < w11.heap.size ∧ w.heap.size < w11.heap.size + 1 ∧ b1 < w11.heap.size ∧ b1 < w11.heap.size + 1 := (by omega)))
          go_meet
          exact ⟨rfl, (by repeat (first | exact Below.refl _ _ | refine Below.setCell ?_ (by first | (simp; done) | (simp; omega) | omega) _ | refine Below.alloc ?_ (by first | (simp; done) | (simp; omega) | omega) _ | refine Below.drew ?_ | assumption | refine Below.trans ?_ (Below.mono (by assumption) (by first | (simp; done) | (simp; omega) | omega))))⟩
        · have h6a : (e1 == 0) = false := beq_eq_false_iff_ne.2 h6
          have h6b : (e1 != 0) = true := bne_iff_ne.2 h6
          go_wp2_with (first | (go_at_call 17; (with_reducible refine (NU.out _ _).mono ?_); rintro e w11 ⟨rfl, hb11⟩; obtain ⟨hc11, hf11⟩ := bcell hb11; have hs11 := hb11.size; (try simp at hs11); have hz11 : w.heap.size < w11.heap.size ∧ w.heap.size < w11.heap.size + 1 ∧ b1 < w11.heap.size ∧ b1 < w11.heap.size + 1 := (by omega)))
          go_meet
          exact ⟨rfl, (by repeat (first | exact Below.refl _ _ | refine Below.setCell ?_ (by first | (simp; done) | (simp; omega) | omega) _ | refine Below.alloc ?_ (by first | (simp; done) | (simp; omega) | omega) _ | refine Below.drew ?_ | assumption | refine Below.trans ?_ (Below.mono (by assumption) (by first | (simp; done) | (simp; omega) | omega))))⟩
      case rest =>
      obtain ⟨rfl, hC6⟩ := hcut
      obtain ⟨wn6, rfl⟩ : ∃ wn6 : World, wn6 = wc := ⟨_, rfl⟩
      replace BA := Lib.hid (BA.out.below hC6)
      replace BW := BW.trans (hC6.mono (by first | (simp; done) | (simp; omega) | omega))
      have hS6 := hC6.size
      clear HN1 NW RC Qb1
      go_upto_region 19 with (fail)
      go_cut [17, 18] from 140 to 143 (fun p q wx => ∃ b : Nat, p = .pointer (some ⟨b, 0, none⟩) ∧ q = .int .i64 q2 ∧ Hid (Bx wx b x2 X2) ∧ Below wn6.heap.size wn6 wx)
      case first =>
        obtain ⟨qa0, qa1, qa2⟩ := BA.out
        go_wp2_with (first | (go_at_call 30; (with_reducible refine (PA.out _ (by repeat (first | exact Below.refl _ _ | refine Below.setCell ?_ (by first | (simp; done) | (simp; omega) | omega) _ | refine Below.alloc ?_ (by first | (simp; done) | (simp; omega) | omega) _ | refine Below.drew ?_ | assumption | refine Below.trans ?_ (Below.mono (by assumption) (by first | (simp; done) | (simp; omega) | omega))))).mono ?_); rintro e w10 ⟨rfl, hb10⟩; obtain ⟨hc10, hf10⟩ := bcell hb10; have hs10 := hb10.size; (try simp at hs10); have hz10 : w.heap.size < w10.heap.size ∧ w.heap.size < w10.heap.size + 1 := (by omega)))
        go_meet; exact ⟨_, rfl, rfl, Lib.hid ⟨(by first | (simp; done) | (simp; omega) | omega), by simp [go_sem, *], by simp [go_sem, *]⟩, (by repeat (first | exact Below.refl _ _ | refine Below.setCell ?_ (by first | (simp; done) | (simp; omega) | omega) _ | refine Below.alloc ?_ (by first | (simp; done) | (simp; omega) | omega) _ | refine Below.drew ?_ | assumption | refine Below.trans ?_ (Below.mono (by assumption) (by first | (simp; done) | (simp; omega) | omega))))⟩
      case rest =>
      obtain ⟨b2, rfl, rfl, Qb2, hC7⟩ := hcut
      obtain ⟨wn7, rfl⟩ : ∃ wn7 : World, wn7 = wc := ⟨_, rfl⟩
      replace BA := Lib.hid (BA.out.below hC7)
      replace BW := BW.trans (hC7.mono (by first | (simp; done) | (simp; omega) | omega))
      have hS7 := hC7.size
      go_upto_region 20 with (fail)
      go_cut [19, 20] from 145 to 148 (fun p q wx => ∃ b : Nat, p = .pointer (some ⟨b, 0, none⟩) ∧ q = .int .i64 q2 ∧ Hid (Bx wx b x2 X2) ∧ Below wn7.heap.size wn7 wx)
      case first =>
        obtain ⟨qa0, qa1, qa2⟩ := BA.out
        go_wp2_with (first | (go_at_call 31; (with_reducible refine (PB.out _).mono ?_); rintro e w10 ⟨rfl, hb10⟩; obtain ⟨hc10, hf10⟩ := bcell hb10; have hs10 := hb10.size; (try simp at hs10); have hz10 : w.heap.size < w10.heap.size ∧ w.heap.size < w10.heap.size + 1 := (by omega)))
        go_meet; exact ⟨_, rfl, rfl, Lib.hid ⟨(by first | (simp; done) | (simp; omega) | omega), by simp [go_sem, *], by simp [go_sem, *]⟩, (by repeat (first | exact Below.refl _ _ | refine Below.setCell ?_ (by first | (simp; done) | (simp; omega) | omega) _ | refine Below.alloc ?_ (by first | (simp; done) | (simp; omega) | omega) _ | refine Below.drew ?_ | assumption | refine Below.trans ?_ (Below.mono (by assumption) (by first | (simp; done) | (simp; omega) | omega))))⟩
      case rest =>
      obtain ⟨b3, rfl, rfl, Qb3, hC8⟩ := hcut
      obtain ⟨wn8, rfl⟩ : ∃ wn8 : World, wn8 = wc := ⟨_, rfl⟩
      replace BA := Lib.hid (BA.out.below hC8)
      replace Qb2 := Lib.hid (Qb2.out.below hC8)
      replace BW := BW.trans (hC8.mono (by first | (simp; done) | (simp; omega) | omega))
      have hS8 := hC8.size
      obtain ⟨qa0, qa1, qa2⟩ := BA.out
      obtain ⟨qb0, qb1, qb2⟩ := Qb2.out
      obtain ⟨qc0, qc1, qc2⟩ := Qb3.out
      have SM2 := Lib.hid (fun W => SM.out x2 X2 W)
      have NU2 := Lib.hid (fun W => NU.out q2 W)
      have ST2 := Lib.hid (fun W (hb : Below wn8.heap.size wn8 W) => ST.out W (BW.trans (hb.mono BW.size)))
      have hle := BW.size
      have HBW := Lib.hid BW
      have hbne : (ST1.toList == ST1.toList) = true := by simp
      clear hC1 hC2 hC3 hC4 hC5 hC6 hC7 hC8 hS1 hS2 hS3 hS4 hS5 hS6 hS7 hS8 hB0 SM NU ST PA PB BA Qb2 Qb3 BW
      go_upto_region 21 with (fail)
      go_region_held3 (fun w' => w'.cell? ⟨w.heap.size, 0, none⟩ = some (.int .i64 u) ∧ w'.cell? ⟨w.heap.size, 1, none⟩ = some (.string C) ∧ w'.cell? ⟨b2, 0, none⟩ = some (.int .i64 x2) ∧ w'.cell? ⟨b2, 1, none⟩ = some (.string X2) ∧ w'.cell? ⟨b3, 0, none⟩ = some (.int .i64 x2) ∧ w'.cell? ⟨b3, 1, none⟩ = some (.string X2) ∧ w.heap.size < w'.heap.size ∧ b2 < w'.heap.size ∧ b3 < w'.heap.size ∧ Below wn8.heap.size wn8 w')
      (first | (refine ⟨?_, ?_, ?_, ?_, ?_, ?_, ?_, ?_, ?_, ?_⟩ <;> first | (simp [go_sem, *]; done) | omega | (simp; omega) | exact (by repeat (first | exact Below.refl _ _ | refine Below.setCell ?_ (by first | (simp; done) | (simp; omega) | omega) _ | refine Below.alloc ?_ (by first | (simp; done) | (simp; omega) | omega) _ | refine Below.drew ?_ | assumption | refine Below.trans ?_ (Below.mono (by assumption) (by first | (simp; done) | (simp; omega) | omega))))))
      (first | (first | (go_at_call 32; refine (ST2.out _ (by repeat (first | exact Below.refl _ _ | refine Below.setCell ?_ (by first | (simp; done) | (simp; omega) | omega) _ | refine Below.alloc ?_ (by first | (simp; done) | (simp; omega) | omega) _ | refine Below.drew ?_ | assumption | refine Below.trans ?_ (Below.mono (by assumption) (by first | (simp; done) | (simp; omega) | omega))))).mono ?_; rintro e w20 ⟨rfl, hb20⟩; obtain ⟨hc20, hf20⟩ := bcell hb20; (try simp only [drew_size, drew_cell, drew_frozen] at hc20 hf20); have hs20 := hb20.size; (try simp at hs20); have hz20 : w.heap.size < w20.heap.size ∧ b2 < w20.heap.size ∧ b3 < w20.heap.size := by have := hb20.size; (try simp at this); omega) | (go_at_call 21; refine (AM.out _).mono ?_; rintro e w21 ⟨rfl, hb21⟩; obtain ⟨hc21, hf21⟩ := bcell hb21; (try simp only [drew_size, drew_cell, drew_frozen] at hc21 hf21); have hs21 := hb21.size; (try simp at hs21); have hz21 : w.heap.size < w21.heap.size ∧ b2 < w21.heap.size ∧ b3 < w21.heap.size := by have := hb21.size; (try simp at this); omega) | (go_at_call 33; refine (SR.out _).mono ?_; rintro e w22 ⟨rfl, hb22⟩; obtain ⟨hc22, hf22⟩ := bcell hb22; (try simp only [drew_size, drew_cell, drew_frozen] at hc22 hf22); have hs22 := hb22.size; (try simp at hs22); have hz22 : w.heap.size < w22.heap.size ∧ b2 < w22.heap.size ∧ b3 < w22.heap.size := by have := hb22.size; (try simp at this); omega) | (go_at_call 23; refine (SM2.out _).mono ?_; rintro e w23 ⟨rfl, hb23⟩; obtain ⟨hc23, hf23⟩ := bcell hb23; (try simp only [drew_size, drew_cell, drew_frozen] at hc23 hf23); have hs23 := hb23.size; (try simp at hs23); have hz23 : w.heap.size < w23.heap.size ∧ b2 < w23.heap.size ∧ b3 < w23.heap.size := by have := hb23.size; (try simp at this); omega) | (go_at_call 17; refine (NU2.out _).mono ?_; rintro e w24 ⟨rfl, hb24⟩; obtain ⟨hc24, hf24⟩ := bcell hb24; (try simp only [drew_size, drew_cell, drew_frozen] at hc24 hf24); have hs24 := hb24.size; (try simp at hs24); have hz24 : w.heap.size < w24.heap.size ∧ b2 < w24.heap.size ∧ b3 < w24.heap.size := by have := hb24.size; (try simp at this); omega)))
      all_goals (
        go_wp2
        go_ret
        exact ⟨rfl, HBW.out.trans (Below.mono (by first | assumption | (show Below wn8.heap.size wn8 _; exact (by repeat (first | exact Below.refl _ _ | refine Below.setCell ?_ (by first | (simp; done) | (simp; omega) | omega) _ | refine Below.alloc ?_ (by first | (simp; done) | (simp; omega) | omega) _ | refine Below.drew ?_ | assumption | refine Below.trans ?_ (Below.mono (by assumption) (by first | (simp; done) | (simp; omega) | omega)))))) hle)⟩)
theorem texts_walk6 (u : Int) (c s : List UInt8) (_hu : In64 u) (w : World) (E : Env w) :
    Calls Tryz.prog 5 #[.agg #[.int .i64 u, .string ⟨c.toArray⟩], .string ⟨s.toArray⟩] w fun e w' => e = .returned (.bool true) ∧ Below w.heap.size w w' := by
  by_cases h1 : 200 < s.length
  · exact texts_big u c s w E (.inl h1)
  by_cases h2 : 200 < c.length
  · exact texts_big u c s w E (.inr ⟨by omega, h2⟩)
  exact texts_main u c s (by omega) (by omega) w E
end Go.Proofs.YtdpoahfjiomhbaaGreatDoor
