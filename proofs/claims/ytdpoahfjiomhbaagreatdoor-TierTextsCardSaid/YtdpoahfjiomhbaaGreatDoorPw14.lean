/-
  The walk of the statement TierTexts: it returns true, whatever it is given.
-/
import Derived.Test.YtdpoahfjiomhbaaGreatDoorWk4
import Derived.Test.YtdpoahfjiomhbaaGreatDoorTk6
import Derived.Test.YtdpoahfjiomhbaaGreatDoorTp
import Derived.Test.YtdpoahfjiomhbaaGreatDoorQh
import Derived.Test.YtdpoahfjiomhbaaGreatDoorLa1
import Derived.Test.YtdpoahfjiomhbaaGreatDoorPw3
import Derived.Test.YtdpoahfjiomhbaaGreatDoorBw14
import Derived.Test.YtdpoahfjiomhbaaGreatDoorBw16
import Derived.Test.YtdpoahfjiomhbaaGreatDoorPw12
/-
  Contract of exref14.Format.
-/
namespace Go.Proofs.YtdpoahfjiomhbaaGreatDoor
set_option linter.all false
open Go.RowKit Go.Sort
attribute [local go_sem] cell_set_self lt_1 lt_2 lt_3 lt_4 lt_5 lt_6

theorem join_last (c : UInt8) : ∀ (xs : List (List UInt8)) (y : List UInt8), Lib.join (xs ++ [y]) [c] = xs.flatMap (fun x => x ++ [c]) ++ y
  | [], y => by simp [join_one]
  | [x], y => by simp [join_more, join_one]
  | x :: x' :: xs, y => by
    have ih := join_last c (x' :: xs) y
    rw [List.cons_append] at ih
    rw [List.cons_append, List.cons_append, join_more, ih, List.flatMap_cons]; simp
def preT (l : List (Int × Int)) (k : Nat) : List UInt8 := ((l.take k).map tierTxt).flatMap (fun x => x ++ [44])
theorem preT_0 (l : List (Int × Int)) : preT l 0 = [] := rfl
theorem preT_succ {l : List (Int × Int)} {k : Nat} {t : Int × Int} (h : l[k]? = some t) : preT l (k + 1) = preT l k ++ (tierTxt t ++ [44]) := by
  unfold preT
  rw [List.take_succ, h, Option.toList_some, List.map_append, List.flatMap_append]; simp
theorem fmtT_last {l : List (Int × Int)} {m : Nat} {t : Int × Int} (hl : l.length = m + 1) (h : l[m]? = some t) : fmtT l = preT l m ++ tierTxt t := by
  have e : l = l.take m ++ [t] := by
    have := List.take_append_drop m l
    have h2 : l.drop m = [t] := by
      obtain ⟨h1, h2⟩ := List.getElem?_eq_some_iff.1 h
      rw [List.drop_eq_getElem_cons h1, h2, List.drop_of_length_le (by omega)]
    rw [h2] at this; exact this.symm
  unfold fmtT preT
  conv => lhs; rw [e]
  rw [List.map_append, List.map_cons, List.map_nil, join_last]
theorem preT_len {l : List (Int × Int)} (h : ∀ t ∈ l, In64 t.1 ∧ In64 t.2) : ∀ k, (preT l k).length ≤ 44 * k
  | 0 => by simp [preT_0]
  | k + 1 => by
    have ih := preT_len h k
    cases hk : l[k]? with
    | none =>
      have : l.length ≤ k := List.getElem?_eq_none_iff.1 hk
      have e : preT l (k + 1) = preT l k := by unfold preT; rw [List.take_of_length_le (by omega), List.take_of_length_le (by omega)]
      rw [e]; omega
    | some t =>
      have ht := h t (List.mem_of_getElem? hk)
      have := tierTxt_len ht.1 ht.2
      rw [preT_succ hk]; simp; omega
theorem okFrom_at : ∀ {l : List (Int × Int)} {ah : Int} {k : Nat} {t : Int × Int}, 0 ≤ ah → okFrom ah l = true → l[k]? = some t → (k + 1 < l.length → 0 < t.1) ∧ (k + 1 = l.length → t.1 = 0)
  | [], _, k, t, _, _, h => by simp at h
  | [x], ah, k, t, h0, h, hk => by
    simp [okFrom] at h
    cases k with
    | zero => simp at hk; subst hk; exact ⟨fun h => by simp at h, fun _ => h.1.1⟩
    | succ k => simp at hk
  | x :: u :: r, ah, k, t, h0, h, hk => by
    simp [okFrom] at h
    obtain ⟨⟨⟨⟨h1, h2⟩, h3⟩, h4⟩, h5⟩ := h
    cases k with
    | zero => simp at hk; subst hk; exact ⟨fun _ => by omega, fun h => by simp at h⟩
    | succ k =>
      simp only [List.getElem?_cons_succ] at hk
      have := okFrom_at (l := u :: r) (by omega) h5 hk
      simp only [List.length_cons] at this ⊢
      exact ⟨fun h => this.1 (by omega), fun h => this.2 (by omega)⟩

set_option maxHeartbeats 4000000 in
set_option maxRecDepth 100000 in
theorem format14_any (A : Option Addr) (n c : Nat) (l : List (Int × Int)) (hl : l.length = n) (hn : n ≤ 1000000) (hin : ∀ t ∈ l, In64 t.1 ∧ In64 t.2) (w : World) (T : Tiers w A l) :
    Calls Tryz.prog 13 #[.slice A n c] w fun e w' => e = .returned (.tuple #[.string ⟨(fmtV l).toArray⟩, .int .i64 (checkT l)]) ∧ Below w.heap.size w w' := by
  have CK := Lib.hid (check14_any A n c l hl hn w T)
  have HL := Lib.hid hl
  have HT := Lib.hid (fun W (hb : Below w.heap.size w W) => T.below hb)
  have HIN := Lib.hid hin
  clear T hl hin
  by_cases h0 : checkT l = 0
  · have H0 := Lib.hid h0
    have HV := Lib.hid (fmtV_0 h0)
    rw [h0] at CK
    have hok : n ≤ 20 ∧ n ≠ 0 ∧ okFrom 0 l = true := by
      rcases chk_cases l with e | e | ⟨_, e1, e2, e3⟩
      · omega
      · omega
      · have := HL.out; exact ⟨by omega, by omega, e3⟩
    obtain ⟨n20, n1, ok⟩ := hok
    obtain ⟨m, rfl⟩ : ∃ m, n = m + 1 := ⟨n - 1, by omega⟩
    have OK := Lib.hid ok
    have PL := Lib.hid (preT_len HIN.out)
    have BT : Hid (∀ z, In64 z → ∀ s A n c base W, Pt base W s A n c z → Calls Tryz.prog 59 #[.agg #[.bool s, .slice A n c]] W fun e w' => e = .returned (.string ⟨(txt z).toArray⟩) ∧ Below W.heap.size W w') := Lib.hid fun z h s A n c base W P => bigText_any s A n c z (by rw [P.2.1]; have : (dgs z.natAbs).length ≤ 5 := dgs_len (by have := h.1; have := h.2; omega); omega) W (P.mono (Nat.zero_le _))
    clear h0 n1 ok hn
    go_enter Tryz.func13, Tryz.ntmps13
    go_wp2_with (first | (go_at_call 58; refine (CK.out).mono ?_; rintro e w1 ⟨rfl, hb1⟩; obtain ⟨hc1, hf1⟩ := bcell hb1; have hs1 := hb1.size; (try simp at hs1)))
    go_loopw [5, 6] (fun s i wr => ∃ (k : Nat), k ≤ m ∧ i = .int .i64 k ∧ s = .string ⟨(preT l k).toArray⟩ ∧ Below w.heap.size w wr) (fun _ i _ => m - (intOf i).toNat)
    case atStart => exact ⟨0, by omega, rfl, rfl, (by repeat (first | exact Below.refl _ _ | refine Below.setCell ?_ (by first | (simp; done) | (simp; omega) | omega) _ | refine Below.alloc ?_ (by first | (simp; done) | (simp; omega) | omega) _ | refine Below.drew ?_ | assumption | refine Below.trans ?_ (Below.mono (by assumption) (by first | (simp; done) | (simp; omega) | omega))))⟩
    case round =>
      obtain ⟨k, hk, rfl, rfl, hB⟩ := hrel
      obtain ⟨wo, rfl⟩ : ∃ wo : World, wo = wr := ⟨_, rfl⟩
      have hsl := hB.size
      have hkn : (k : Int) < (m : Int) + 1 := by omega
      obtain ⟨⟨u, p⟩, hg⟩ : ∃ t, l[k]? = some t := ⟨_, List.getElem?_eq_getElem (by rw [HL.out]; omega)⟩
      obtain ⟨b, off, rfl, hbs, hc0, hc1⟩ := HT.out wo hB k (u, p) hg
      have hi := HIN.out (u, p) (List.mem_of_getElem? hg)
      have lu := txt_len (z := u) hi.1.1 (by have := hi.1.2; omega)
      have lp := txt_len (z := p) hi.2.1 (by have := hi.2.2; omega)
      have ls := PL.out k
      have lz := PL.out (k + 1)
      have hS0 : (⟨(preT l k).toArray⟩ : ByteArray).size ≤ 100000 := by rw [ba_szP]; omega
      have TP : Hid (∀ s A n c base W, Pt base W s A n c p → Calls Tryz.prog 59 #[.agg #[.bool s, .slice A n c]] W fun e w' => e = .returned (.string ⟨(txt p).toArray⟩) ∧ Below W.heap.size W w') := Lib.hid (BT.out p hi.2)
      have BP : Hid (∀ W, Calls Tryz.prog 38 #[.int .i64 p] W fun e w' => Res W.heap.size w' e p ∧ Below W.heap.size W w') := Lib.hid fun W => bigOf_any p hi.2 W
      have hX2 : (⟨(txt p).toArray⟩ : ByteArray).size ≤ 100 := by rw [ba_szP]; omega
      by_cases hlt : k < m
      · have hlt' : (k : Int) < (m : Int) := by omega
        have up := (okFrom_at (by omega) OK.out hg).1 (by rw [HL.out]; omega)
        have hT : tierTxt (u, p) = txt u ++ 58 :: txt p := by unfold tierTxt; rw [if_pos up]
        have hZ := preT_succ hg
        rw [hT] at hZ
        have TU : Hid (∀ s A n c base W, Pt base W s A n c u → Calls Tryz.prog 59 #[.agg #[.bool s, .slice A n c]] W fun e w' => e = .returned (.string ⟨(txt u).toArray⟩) ∧ Below W.heap.size W w') := Lib.hid (BT.out u hi.1)
        have BU : Hid (∀ W, Calls Tryz.prog 38 #[.int .i64 u] W fun e w' => Res W.heap.size w' e u ∧ Below W.heap.size W w') := Lib.hid fun W => bigOf_any u hi.1 W
        have hX1 : (⟨(txt u).toArray⟩ : ByteArray).size ≤ 100 := by rw [ba_szP]; omega
        obtain ⟨Y1, a1⟩ : ∃ Y, (⟨(preT l k).toArray⟩ : ByteArray) ++ ⟨(txt u).toArray⟩ = Y := ⟨_, rfl⟩
        obtain ⟨Y2, a2⟩ : ∃ Y, Y1 ++ (⟨#[58]⟩ : ByteArray) = Y := ⟨_, rfl⟩
        obtain ⟨Y3, a3⟩ : ∃ Y, Y2 ++ (⟨(txt p).toArray⟩ : ByteArray) = Y := ⟨_, rfl⟩
        have a4 : Y3 ++ (⟨#[44]⟩ : ByteArray) = ⟨(preT l (k + 1)).toArray⟩ := by
          rw [← a3, ← a2, ← a1, hZ, show (⟨#[58]⟩ : ByteArray) = ⟨([58] : List UInt8).toArray⟩ from rfl, show (⟨#[44]⟩ : ByteArray) = ⟨([44] : List UInt8).toArray⟩ from rfl, app_str, app_str, app_str, app_str]; simp
        have s58 : (⟨#[58]⟩ : ByteArray).size = 1 := rfl
        have z1 : Y1.size ≤ 100100 := by rw [← a1, ByteArray.size_append]; omega
        have z2 : Y2.size ≤ 100101 := by rw [← a2, ByteArray.size_append]; omega
        have z3 : Y3.size ≤ 100201 := by rw [← a3, ByteArray.size_append]; omega
        have s44 : (⟨#[44]⟩ : ByteArray).size = 1 := rfl
        have b1 : ∀ W : World, (Op.stringOp .add ⟨(preT l k).toArray⟩ ⟨(txt u).toArray⟩).run Tryz.prog W = .ok (.string Y1) W := fun W => by rw [← a1]; exact run_string_add_sum W _ _ (by omega)
        have b2 : ∀ W : World, (Op.stringOp .add Y1 ⟨#[58]⟩).run Tryz.prog W = .ok (.string Y2) W := fun W => by rw [← a2]; exact run_string_add_sum W _ _ (by omega)
        have b3 : ∀ W : World, (Op.stringOp .add Y2 ⟨(txt p).toArray⟩).run Tryz.prog W = .ok (.string Y3) W := fun W => by rw [← a3]; exact run_string_add_sum W _ _ (by omega)
        have b4 : ∀ W : World, (Op.stringOp .add Y3 ⟨#[44]⟩).run Tryz.prog W = .ok (.string ⟨(preT l (k + 1)).toArray⟩) W := fun W => by rw [← a4]; exact run_string_add_sum W _ _ (by omega)
        clear hg hi lu lp ls lz hZ hT s58 s44 up a1 a2 a3 a4
        obtain ⟨Z, hZe⟩ : ∃ Z, (⟨(preT l (k + 1)).toArray⟩ : ByteArray) = Z := ⟨_, rfl⟩
        have HZ := Lib.hid hZe
        rw [hZe] at b4
        clear hZe
        generalize (⟨(preT l k).toArray⟩ : ByteArray) = S at *
        generalize (⟨(txt p).toArray⟩ : ByteArray) = X2 at *
        generalize (⟨(txt u).toArray⟩ : ByteArray) = X1 at *
        have hbw : b < wo.heap.size := hbs
        go_wp2
        go_region_held3 (fun w' => w'.cell? ⟨b, off + k * 2, none⟩ = some (.int .i64 u) ∧ w'.cell? ⟨b, off + k * 2 + 1, none⟩ = some (.int .i64 p) ∧ b < w'.heap.size ∧ Below w.heap.size w w')
      (first | (refine ⟨?_, ?_, ?_, ?_⟩ <;> first | (simp [go_sem, *]; done) | omega | (simp; omega) | exact (by repeat (first | exact Below.refl _ _ | refine Below.setCell ?_ (by first | (simp; done) | (simp; omega) | omega) _ | refine Below.alloc ?_ (by first | (simp; done) | (simp; omega) | omega) _ | refine Below.drew ?_ | assumption | refine Below.trans ?_ (Below.mono (by assumption) (by first | (simp; done) | (simp; omega) | omega))))))
      (first | (first
          | (go_at_call 38; (with_reducible refine (BU.out _).mono ?_); rintro e w9 ⟨⟨s9, A9, n9, c9, rfl, hP9⟩, hb9⟩; obtain ⟨hc9, hf9⟩ := bcell hb9; (try simp only [drew_size, drew_cell, drew_frozen] at hc9 hf9); have hs9 := hb9.size; (try simp at hs9); have hz9 : b < w9.heap.size := (by omega); have HP9 := Lib.hid hP9; clear hP9)
          | (go_at_call 59; (with_reducible refine (TU.out _ _ _ _ _ _ (HP9.out.below (by repeat (first | exact Below.refl _ _ | refine Below.setCell ?_ (by first | (simp; done) | (simp; omega) | omega) _ | refine Below.alloc ?_ (by first | (simp; done) | (simp; omega) | omega) _ | refine Below.drew ?_ | assumption | refine Below.trans ?_ (Below.mono (by assumption) (by first | (simp; done) | (simp; omega) | omega)))))).mono ?_); rintro e w10 ⟨rfl, hb10⟩; obtain ⟨hc10, hf10⟩ := bcell hb10; (try simp only [drew_size, drew_cell, drew_frozen] at hc10 hf10); have hs10 := hb10.size; (try simp at hs10); have hz10 : b < w10.heap.size := (by omega))
          | (go_at_call 38; (with_reducible refine (BP.out _).mono ?_); rintro e w11 ⟨⟨s11, A11, n11, c11, rfl, hP11⟩, hb11⟩; obtain ⟨hc11, hf11⟩ := bcell hb11; (try simp only [drew_size, drew_cell, drew_frozen] at hc11 hf11); have hs11 := hb11.size; (try simp at hs11); have hz11 : b < w11.heap.size := (by omega); have HP11 := Lib.hid hP11; clear hP11)
          | (go_at_call 59; (with_reducible refine (TP.out _ _ _ _ _ _ (HP11.out.below (by repeat (first | exact Below.refl _ _ | refine Below.setCell ?_ (by first | (simp; done) | (simp; omega) | omega) _ | refine Below.alloc ?_ (by first | (simp; done) | (simp; omega) | omega) _ | refine Below.drew ?_ | assumption | refine Below.trans ?_ (Below.mono (by assumption) (by first | (simp; done) | (simp; omega) | omega)))))).mono ?_); rintro e w12 ⟨rfl, hb12⟩; obtain ⟨hc12, hf12⟩ := bcell hb12; (try simp only [drew_size, drew_cell, drew_frozen] at hc12 hf12); have hs12 := hb12.size; (try simp at hs12); have hz12 : b < w12.heap.size := (by omega))))
        go_wp2
        go_roundw
        case rel => exact ⟨k + 1, by omega, by go_num, by rw [HZ.out], (by repeat (first | exact Below.refl _ _ | refine Below.setCell ?_ (by first | (simp; done) | (simp; omega) | omega) _ | refine Below.alloc ?_ (by first | (simp; done) | (simp; omega) | omega) _ | refine Below.drew ?_ | assumption | refine Below.trans ?_ (Below.mono (by assumption) (by first | (simp; done) | (simp; omega) | omega))))⟩
        case measure => first | (simp [intOf]; done) | (simp [intOf]; omega)
      · obtain rfl : k = m := by omega
        have u0 : u = 0 := (okFrom_at (by omega) OK.out hg).2 (by rw [HL.out])
        have hT : tierTxt (u, p) = 42 :: 58 :: txt p := by unfold tierTxt; rw [u0]; rfl
        have hZ := fmtT_last HL.out hg
        rw [hT] at hZ
        obtain ⟨Y1, a1⟩ : ∃ Y, (⟨(preT l k).toArray⟩ : ByteArray) ++ ⟨#[42, 58]⟩ = Y := ⟨_, rfl⟩
        have a2 : Y1 ++ (⟨(txt p).toArray⟩ : ByteArray) = ⟨(fmtT l).toArray⟩ := by
          rw [← a1, hZ, show (⟨#[42, 58]⟩ : ByteArray) = ⟨([42, 58] : List UInt8).toArray⟩ from rfl, app_str, app_str]; simp
        have s58 : (⟨#[42, 58]⟩ : ByteArray).size = 2 := rfl
        have z1 : Y1.size ≤ 100002 := by rw [← a1, ByteArray.size_append]; omega
        clear hg hi lu lp ls lz hZ hT s58 u0
        generalize (⟨(preT l k).toArray⟩ : ByteArray) = S at *
        generalize (⟨(txt p).toArray⟩ : ByteArray) = X2 at *
        obtain ⟨F, hF⟩ : ∃ F, (⟨(fmtT l).toArray⟩ : ByteArray) = F := ⟨_, rfl⟩
        have HF := Lib.hid hF
        rw [hF] at a2
        clear hF
        have hbw : b < wo.heap.size := hbs
        go_wp2_with (first
          | (go_at_call 38; (with_reducible refine (BP.out _).mono ?_); rintro e w11 ⟨⟨s11, A11, n11, c11, rfl, hP11⟩, hb11⟩; obtain ⟨hc11, hf11⟩ := bcell hb11; have hs11 := hb11.size; (try simp at hs11); have HP11 := Lib.hid hP11; clear hP11)
          | (go_at_call 59; (with_reducible refine (TP.out _ _ _ _ _ _ (HP11.out.below (by repeat (first | exact Below.refl _ _ | refine Below.setCell ?_ (by first | (simp; done) | (simp; omega) | omega) _ | refine Below.alloc ?_ (by first | (simp; done) | (simp; omega) | omega) _ | refine Below.drew ?_ | assumption | refine Below.trans ?_ (Below.mono (by assumption) (by first | (simp; done) | (simp; omega) | omega)))))).mono ?_); rintro e w12 ⟨rfl, hb12⟩; have hs12 := hb12.size; (try simp at hs12)))
        go_ret2
        exact ⟨by rw [← HF.out]; exact ret_si HV.out H0.out, (by repeat (first | exact Below.refl _ _ | refine Below.setCell ?_ (by first | (simp; done) | (simp; omega) | omega) _ | refine Below.alloc ?_ (by first | (simp; done) | (simp; omega) | omega) _ | refine Below.drew ?_ | assumption | refine Below.trans ?_ (Below.mono (by assumption) (by first | (simp; done) | (simp; omega) | omega))))⟩
  · have HX := Lib.hid h0
    obtain ⟨x, hx⟩ : ∃ x, checkT l = x := ⟨_, rfl⟩
    have HXX := Lib.hid hx
    rw [hx] at CK h0
    have x0 : (x != 0) = true := by simpa using h0
    clear hx h0
    go_enter Tryz.func13, Tryz.ntmps13
    go_wp2_with (first | (go_at_call 58; refine (CK.out).mono ?_; rintro e w1 ⟨rfl, hb1⟩; obtain ⟨hc1, hf1⟩ := bcell hb1; have hs1 := hb1.size; (try simp at hs1)))
    go_ret2
    exact ⟨ret_si (m := []) (fmtV_n HX.out) HXX.out, (by repeat (first | exact Below.refl _ _ | refine Below.setCell ?_ (by first | (simp; done) | (simp; omega) | omega) _ | refine Below.alloc ?_ (by first | (simp; done) | (simp; omega) | omega) _ | refine Below.drew ?_ | assumption | refine Below.trans ?_ (Below.mono (by assumption) (by first | (simp; done) | (simp; omega) | omega))))⟩
end Go.Proofs.YtdpoahfjiomhbaaGreatDoor

/-
  The walk of the statement TierTexts: it returns true, whatever it is given.
-/
namespace Go.Proofs.YtdpoahfjiomhbaaGreatDoor
set_option linter.all false
open Go.RowKit Go.Sort
attribute [local go_sem] cell_set_self lt_1 lt_2 lt_3 lt_4 lt_5 lt_6

theorem parseL_len (s : List UInt8) : (parseL s).length ≤ s.length + 1 := by
  unfold parseL
  cases hg : goT 0 (pieces 44 s) with
  | none => simp
  | some x =>
    obtain ⟨l, f⟩ := x
    have h1 := goT_length hg
    have h2 := (pieces_len (c := 44) s).1
    show (if parseE s = 0 then l else []).length ≤ _
    split
    · omega
    · simp
def TxRel (w w8 wr : World) (n k : Nat) : Prop := k ≤ n ∧ Below w.heap.size w w8 ∧ Below w8.heap.size w8 wr
set_option maxHeartbeats 2000000 in
set_option maxRecDepth 100000 in
theorem texts_big (A : Option Addr) (n c : Nat) (s : List UInt8) (big : 60 < n ∨ 1100 < s.length) (w : World) :
    Calls Tryz.prog 3 #[.slice A n c, .string ⟨s.toArray⟩] w fun e w' => e = .returned (.bool true) ∧ Below w.heap.size w w' := by
  have hsz := ba_szP s
  have K0 := Lib.hid (fun W => first_any W)
  have hb1' : 60 < n ∨ (¬ 60 < n ∧ 1100 < (⟨s.toArray⟩ : ByteArray).size) := by rw [hsz]; omega
  clear big hsz
  generalize (⟨s.toArray⟩ : ByteArray) = SB at *
  rcases hb1' with h | ⟨h1, h2⟩
  · have d1 : (60 : Int) < (n : Int) := by omega
    go_enter Tryz.func3, Tryz.ntmps3
    go_wp2_with (first | (go_at_call 11; refine (K0.out _).mono ?_; rintro e w1 ⟨rfl, hb1⟩; obtain ⟨hc1, hf1⟩ := bcell hb1; have hs1 := hb1.size; (try simp at hs1)))
    go_ret
    exact ⟨rfl, (by repeat (first | exact Below.refl _ _ | refine Below.setCell ?_ (by first | (simp; done) | (simp; omega) | omega) _ | refine Below.alloc ?_ (by first | (simp; done) | (simp; omega) | omega) _ | refine Below.drew ?_ | assumption | refine Below.trans ?_ (Below.mono (by assumption) (by first | (simp; done) | (simp; omega) | omega))))⟩
  · have d1 : ¬ (60 : Int) < (n : Int) := by omega
    have d2 : (1100 : Int) < (SB.size : Int) := by omega
    go_enter Tryz.func3, Tryz.ntmps3
    go_wp2_with (first | (go_at_call 11; refine (K0.out _).mono ?_; rintro e w1 ⟨rfl, hb1⟩; obtain ⟨hc1, hf1⟩ := bcell hb1; have hs1 := hb1.size; (try simp at hs1)))
    go_ret
    exact ⟨rfl, (by repeat (first | exact Below.refl _ _ | refine Below.setCell ?_ (by first | (simp; done) | (simp; omega) | omega) _ | refine Below.alloc ?_ (by first | (simp; done) | (simp; omega) | omega) _ | refine Below.drew ?_ | assumption | refine Below.trans ?_ (Below.mono (by assumption) (by first | (simp; done) | (simp; omega) | omega))))⟩
set_option maxHeartbeats 8000000 in
set_option maxRecDepth 100000 in
theorem texts_main (A : Option Addr) (n c : Nat) (l : List (Int × Int)) (s : List UInt8) (hl : l.length = n) (hn : n ≤ 60) (hs : s.length ≤ 1100) (hin : ∀ t ∈ l, In64 t.1 ∧ In64 t.2) (w : World) (T : Tiers w A l) (E : Env w) :
    Calls Tryz.prog 3 #[.slice A n c, .string ⟨s.toArray⟩] w fun e w' => e = .returned (.bool true) ∧ Below w.heap.size w w' := by
  have hsz := ba_szP s
  have K0 := Lib.hid (fun W => first_any W)
  have KN := Lib.hid (fun n W => num_any n W)
  have CF : Hid (∀ W, Below w.heap.size w W → Calls Tryz.prog 12 #[.slice A n c] W fun e w' => e = .returned (.tuple #[.string ⟨(fmtV l).toArray⟩, .int .i64 (checkT l)]) ∧ Below W.heap.size W w') := Lib.hid fun W hb => format_any A n c l hl (by omega) hin W (T.below hb) (E.below hb)
  have CT : Hid (∀ W, Below w.heap.size w W → Calls Tryz.prog 14 #[.slice A n c] W fun e w' => (∃ B d, e = .returned (.slice B n d) ∧ Tiers w' B l) ∧ Below W.heap.size W w') := Lib.hid fun W hb => tiers14_any A n c l hl (by omega) W (T.below hb)
  have CG : Hid (∀ B d W, Tiers W B l → Calls Tryz.prog 13 #[.slice B n d] W fun e w' => e = .returned (.tuple #[.string ⟨(fmtV l).toArray⟩, .int .i64 (checkT l)]) ∧ Below W.heap.size W w') := Lib.hid fun B d W hB => format14_any B n d l hl (by omega) hin W hB
  have CB : Hid (checkT l = 0 → (⟨(fmtV l).toArray⟩ : ByteArray).size ≤ 1000 → ∀ W, Below w.heap.size w W → Calls Tryz.prog 15 #[.string ⟨(fmtV l).toArray⟩] W fun e w' => (∃ B d, e = .returned (.tuple #[.slice B n d, .int .i64 0]) ∧ Tiers w' B l) ∧ Below W.heap.size W w') := Lib.hid fun h0 h1 W hb => by
    rw [ba_szP] at h1
    rw [fmtV_0 h0] at h1 ⊢
    refine (parse_any (fmtT l) (by omega) W (E.below hb)).mono ?_
    rintro e w' ⟨⟨B, m, d, rfl, h2, h3⟩, hb'⟩
    obtain ⟨p1, p2⟩ := parse_fmt h0 h1
    rw [p2, hl] at h2
    rw [p2] at h3
    subst h2
    exact ⟨⟨B, d, by rw [p1], h3⟩, hb'⟩
  obtain ⟨r, hr⟩ : ∃ r, (parseL s).length = r := ⟨_, rfl⟩
  have CP : Hid (∀ W, Below w.heap.size w W → Calls Tryz.prog 15 #[.string ⟨s.toArray⟩] W fun e w' => (∃ B d, e = .returned (.tuple #[.slice B r d, .int .i64 (parseE s)]) ∧ Tiers w' B (parseL s)) ∧ Below W.heap.size W w') := Lib.hid fun W hb => by
    refine (parse_any s (by omega) W (E.below hb)).mono ?_
    rintro e w' ⟨⟨B, m, d, rfl, h2, h3⟩, hb'⟩
    rw [hr] at h2; subst h2
    exact ⟨⟨B, d, rfl, h3⟩, hb'⟩
  have CR : Hid (∀ W, Calls Tryz.prog 16 #[.string ⟨s.toArray⟩] W fun e w' => (∃ B d, e = .returned (.tuple #[.slice B r d, .int .i64 (parseE s)]) ∧ Tiers w' B (parseL s)) ∧ Below W.heap.size W w') := Lib.hid fun W => by
    refine (rparse_any s (by omega) W).mono ?_
    rintro e w' ⟨⟨B, m, d, rfl, h2, h3⟩, hb'⟩
    rw [hr] at h2; subst h2
    exact ⟨⟨B, d, rfl, h3⟩, hb'⟩
  have HT := Lib.hid (fun W (hb : Below w.heap.size w W) => T.below hb)
  have HL := Lib.hid hl
  have HR := Lib.hid hr
  have hr1 : r ≤ 2000 := by have := parseL_len s; omega
  have hs' : ¬ (1100 : Int) < ((⟨s.toArray⟩ : ByteArray).size : Int) := by omega
  have hn' : ¬ (60 : Int) < (n : Int) := by omega
  clear hsz hr hl hin T E hs
  generalize (⟨s.toArray⟩ : ByteArray) = SB at *
  generalize (⟨(fmtV l).toArray⟩ : ByteArray) = Z at *
  generalize checkT l = ck at *
  generalize parseE s = pe at *
  generalize parseL s = L at *
  go_enter Tryz.func3, Tryz.ntmps3
  go_wp2_with (first
    | (go_at_call 11; refine (K0.out _).mono ?_; rintro e w1 ⟨rfl, hb1⟩; obtain ⟨hc1, hf1⟩ := bcell hb1; have hs1 := hb1.size; (try simp at hs1))
    | (go_at_call 12; (with_reducible refine (CF.out _ (by repeat (first | exact Below.refl _ _ | refine Below.setCell ?_ (by first | (simp; done) | (simp; omega) | omega) _ | refine Below.alloc ?_ (by first | (simp; done) | (simp; omega) | omega) _ | refine Below.drew ?_ | assumption | refine Below.trans ?_ (Below.mono (by assumption) (by first | (simp; done) | (simp; omega) | omega))))).mono ?_); rintro e w2 ⟨rfl, hb2⟩; have hs2 := hb2.size; (try simp at hs2))
    | (go_at_call 14; (with_reducible refine (CT.out _ (by repeat (first | exact Below.refl _ _ | refine Below.setCell ?_ (by first | (simp; done) | (simp; omega) | omega) _ | refine Below.alloc ?_ (by first | (simp; done) | (simp; omega) | omega) _ | refine Below.drew ?_ | assumption | refine Below.trans ?_ (Below.mono (by assumption) (by first | (simp; done) | (simp; omega) | omega))))).mono ?_); rintro e w3 ⟨⟨B3, d3, rfl, hX3⟩, hb3⟩; have hs3 := hb3.size; (try simp at hs3); have HX3 := Lib.hid hX3; clear hX3)
    | (go_at_call 13; (with_reducible refine (CG.out _ _ _ (HX3.out.below (by repeat (first | exact Below.refl _ _ | refine Below.setCell ?_ (by first | (simp; done) | (simp; omega) | omega) _ | refine Below.alloc ?_ (by first | (simp; done) | (simp; omega) | omega) _ | refine Below.drew ?_ | assumption | refine Below.trans ?_ (Below.mono (by assumption) (by first | (simp; done) | (simp; omega) | omega)))))).mono ?_); rintro e w4 ⟨rfl, hb4⟩; have hs4 := hb4.size; (try simp at hs4))
    | (go_at_call 15; (with_reducible refine (CP.out _ (by repeat (first | exact Below.refl _ _ | refine Below.setCell ?_ (by first | (simp; done) | (simp; omega) | omega) _ | refine Below.alloc ?_ (by first | (simp; done) | (simp; omega) | omega) _ | refine Below.drew ?_ | assumption | refine Below.trans ?_ (Below.mono (by assumption) (by first | (simp; done) | (simp; omega) | omega))))).mono ?_); rintro e w7 ⟨⟨D1, c1, rfl, hD1⟩, hb7⟩; have hs7 := hb7.size; (try simp at hs7); have HD1 := Lib.hid hD1; clear hD1)
    | (go_at_call 16; (with_reducible refine (CR.out _).mono ?_); rintro e w8 ⟨⟨D2, c2, rfl, hD2⟩, hb8⟩; have hs8 := hb8.size; (try simp at hs8); have HD2 := Lib.hid hD2; clear hD2)
    | (go_at_call 17; refine (KN.out _ _).mono ?_; rintro e w9 ⟨rfl, hb9⟩; obtain ⟨hc9, hf9⟩ := bcell hb9; have hs9 := hb9.size; (try simp at hs9)))
  have hbw8 : Below w.heap.size w w8 := (by repeat (first | exact Below.refl _ _ | refine Below.setCell ?_ (by first | (simp; done) | (simp; omega) | omega) _ | refine Below.alloc ?_ (by first | (simp; done) | (simp; omega) | omega) _ | refine Below.drew ?_ | assumption | refine Below.trans ?_ (Below.mono (by assumption) (by first | (simp; done) | (simp; omega) | omega))))
  have HB8 := Lib.hid hbw8
  have HP1 : Hid (∀ W, Below w8.heap.size w8 W → Tiers W D1 L) := Lib.hid fun W hb => (HD1.out.below (by repeat (first | exact Below.refl _ _ | refine Below.setCell ?_ (by first | (simp; done) | (simp; omega) | omega) _ | refine Below.alloc ?_ (by first | (simp; done) | (simp; omega) | omega) _ | refine Below.drew ?_ | assumption | refine Below.trans ?_ (Below.mono (by assumption) (by first | (simp; done) | (simp; omega) | omega))))).below hb
  have HP2 : Hid (∀ W, Below w8.heap.size w8 W → Tiers W D2 L) := Lib.hid fun W hb => (HD2.out.below (by repeat (first | exact Below.refl _ _ | refine Below.setCell ?_ (by first | (simp; done) | (simp; omega) | omega) _ | refine Below.alloc ?_ (by first | (simp; done) | (simp; omega) | omega) _ | refine Below.drew ?_ | assumption | refine Below.trans ?_ (Below.mono (by assumption) (by first | (simp; done) | (simp; omega) | omega))))).below hb
  go_loopw [14] (fun i wr => ∃ k : Nat, i = .int .i64 k ∧ TxRel w w8 wr r k) (fun i _ => r - (intOf i).toNat)
  case atStart => exact ⟨0, rfl, Nat.zero_le _, HB8.out, (by repeat (first | exact Below.refl _ _ | refine Below.setCell ?_ (by first | (simp; done) | (simp; omega) | omega) _ | refine Below.alloc ?_ (by first | (simp; done) | (simp; omega) | omega) _ | refine Below.drew ?_ | assumption | refine Below.trans ?_ (Below.mono (by assumption) (by first | (simp; done) | (simp; omega) | omega))))⟩
  case round =>
    obtain ⟨k, rfl, hk, -, hbl⟩ := hrel
    obtain ⟨wo, rfl⟩ : ∃ wo : World, wo = wr := ⟨_, rfl⟩
    have hsl := hbl.size
    have hws := HB8.out.size
    have hwr : Below w.heap.size w wo := HB8.out.trans (hbl.mono hws)
    by_cases hkr : k < r
    · have hkr' : (k : Int) < r := by omega
      obtain ⟨⟨u, p⟩, hp⟩ : ∃ p, L[k]? = some p := ⟨_, List.getElem?_eq_getElem (by rw [HR.out]; exact hkr)⟩
      obtain ⟨b, off, rfl, hbw, x0, x1⟩ := HP1.out wo hbl k (u, p) hp
      obtain ⟨b', off', rfl, hbw', y0, y1⟩ := HP2.out wo hbl k (u, p) hp
      clear hp
      go_wp2
      go_quiet (fail)
      go_wp2
      go_roundw
      case rel => exact ⟨k + 1, by go_num, by omega, HB8.out, (by repeat (first | exact Below.refl _ _ | refine Below.setCell ?_ (by first | (simp; done) | (simp; omega) | omega) _ | refine Below.alloc ?_ (by first | (simp; done) | (simp; omega) | omega) _ | refine below_drewN ?_ _ | refine Below.drew ?_ | assumption | refine Below.trans ?_ (Below.mono (by assumption) (by first | (simp; done) | (simp; omega) | omega))))⟩
      case measure => first | (simp [intOf]; done) | (simp [intOf]; omega)
    · have hkr' : ¬ (k : Int) < r := by omega
      by_cases h0 : ck = 0
      · subst h0
        by_cases hz : Z.size ≤ 1000
        · have hz' : ¬ (1000 : Int) < (Z.size : Int) := by omega
          have CB' := Lib.hid (CB.out rfl hz)
          clear CB CP hz
          go_wp2_with (first
            | (go_at_call 15; (with_reducible refine (CB'.out _ (by repeat (first | exact Below.refl _ _ | refine Below.setCell ?_ (by first | (simp; done) | (simp; omega) | omega) _ | refine Below.alloc ?_ (by first | (simp; done) | (simp; omega) | omega) _ | refine Below.drew ?_ | assumption | refine Below.trans ?_ (Below.mono (by assumption) (by first | (simp; done) | (simp; omega) | omega))))).mono ?_); rintro e w10 ⟨⟨D3, c3, rfl, hD3⟩, hb10⟩; have hs10 := hb10.size; (try simp at hs10); have HD3 := Lib.hid hD3; clear hD3)
            | (go_at_call 17; refine (KN.out _ _).mono ?_; rintro e w11 ⟨rfl, hb11⟩; obtain ⟨hc11, hf11⟩ := bcell hb11; have hs11 := hb11.size; (try simp at hs11)))
          have hbw11 : Below w.heap.size w w11 := (by repeat (first | exact Below.refl _ _ | refine Below.setCell ?_ (by first | (simp; done) | (simp; omega) | omega) _ | refine Below.alloc ?_ (by first | (simp; done) | (simp; omega) | omega) _ | refine Below.drew ?_ | assumption | refine Below.trans ?_ (Below.mono (by assumption) (by first | (simp; done) | (simp; omega) | omega))))
          have HB11 := Lib.hid hbw11
          have HP3 : Hid (∀ W, Below w11.heap.size w11 W → Tiers W D3 l) := Lib.hid fun W hb => (HD3.out.below (by repeat (first | exact Below.refl _ _ | refine Below.setCell ?_ (by first | (simp; done) | (simp; omega) | omega) _ | refine Below.alloc ?_ (by first | (simp; done) | (simp; omega) | omega) _ | refine Below.drew ?_ | assumption | refine Below.trans ?_ (Below.mono (by assumption) (by first | (simp; done) | (simp; omega) | omega))))).below hb
          go_loopw [17] (fun i wr => ∃ k : Nat, i = .int .i64 k ∧ TxRel w w11 wr n k) (fun i _ => n - (intOf i).toNat)
          case atStart => exact ⟨0, rfl, Nat.zero_le _, HB11.out, (by repeat (first | exact Below.refl _ _ | refine Below.setCell ?_ (by first | (simp; done) | (simp; omega) | omega) _ | refine Below.alloc ?_ (by first | (simp; done) | (simp; omega) | omega) _ | refine Below.drew ?_ | assumption | refine Below.trans ?_ (Below.mono (by assumption) (by first | (simp; done) | (simp; omega) | omega))))⟩
          case round =>
            obtain ⟨j, rfl, hj, -, hbl2⟩ := hrel
            obtain ⟨wq, rfl⟩ : ∃ wq : World, wq = wr := ⟨_, rfl⟩
            have hsl2 := hbl2.size
            have hws2 := HB11.out.size
            have hwr2 : Below w.heap.size w wq := HB11.out.trans (hbl2.mono hws2)
            by_cases hjn : j < n
            · have hjn' : (j : Int) < n := by omega
              obtain ⟨⟨u, p⟩, hp⟩ : ∃ p, l[j]? = some p := ⟨_, List.getElem?_eq_getElem (by rw [HL.out]; exact hjn)⟩
              obtain ⟨b3, off3, rfl, hbw3, x0, x1⟩ := HP3.out wq hbl2 j (u, p) hp
              obtain ⟨b, off, rfl, hbw, y0, y1⟩ := HT.out wq hwr2 j (u, p) hp
              clear hp
              go_wp2
              go_quiet (fail)
              go_wp2
              go_roundw
              case rel => exact ⟨j + 1, by go_num, by omega, HB11.out, (by repeat (first | exact Below.refl _ _ | refine Below.setCell ?_ (by first | (simp; done) | (simp; omega) | omega) _ | refine Below.alloc ?_ (by first | (simp; done) | (simp; omega) | omega) _ | refine below_drewN ?_ _ | refine Below.drew ?_ | assumption | refine Below.trans ?_ (Below.mono (by assumption) (by first | (simp; done) | (simp; omega) | omega))))⟩
              case measure => first | (simp [intOf]; done) | (simp [intOf]; omega)
            · have hjn' : ¬ (j : Int) < n := by omega
              go_wp2
              go_ret
              exact ⟨rfl, (by repeat (first | exact Below.refl _ _ | refine Below.setCell ?_ (by first | (simp; done) | (simp; omega) | omega) _ | refine Below.alloc ?_ (by first | (simp; done) | (simp; omega) | omega) _ | refine Below.drew ?_ | assumption | refine Below.trans ?_ (Below.mono (by assumption) (by first | (simp; done) | (simp; omega) | omega))))⟩
        · have hz' : (1000 : Int) < (Z.size : Int) := by omega
          clear CB CP hz
          go_wp2
          go_ret
          exact ⟨rfl, (by repeat (first | exact Below.refl _ _ | refine Below.setCell ?_ (by first | (simp; done) | (simp; omega) | omega) _ | refine Below.alloc ?_ (by first | (simp; done) | (simp; omega) | omega) _ | refine Below.drew ?_ | assumption | refine Below.trans ?_ (Below.mono (by assumption) (by first | (simp; done) | (simp; omega) | omega))))⟩
      · have x0 : (ck != 0) = true := by simpa using h0
        clear CB CP h0
        go_wp2
        go_ret
        exact ⟨rfl, (by repeat (first | exact Below.refl _ _ | refine Below.setCell ?_ (by first | (simp; done) | (simp; omega) | omega) _ | refine Below.alloc ?_ (by first | (simp; done) | (simp; omega) | omega) _ | refine Below.drew ?_ | assumption | refine Below.trans ?_ (Below.mono (by assumption) (by first | (simp; done) | (simp; omega) | omega))))⟩
theorem texts_walk (A : Option Addr) (n c : Nat) (l : List (Int × Int)) (s : List UInt8) (hl : l.length = n) (hin : ∀ t ∈ l, In64 t.1 ∧ In64 t.2) (w : World) (T : Tiers w A l) (E : Env w) :
    Calls Tryz.prog 3 #[.slice A n c, .string ⟨s.toArray⟩] w fun e w' => e = .returned (.bool true) ∧ Below w.heap.size w w' := by
  by_cases big : 60 < n ∨ 1100 < s.length
  · exact texts_big A n c s big w
  · exact texts_main A n c l s hl (by omega) (by omega) hin w T E
end Go.Proofs.YtdpoahfjiomhbaaGreatDoor
