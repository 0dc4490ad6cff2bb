/-
  Contract of exref.Atoi at a number's text.
-/
import Derived.Test.YtakfjdnpfhcgkaaGreatDoorBw1
import Derived.Test.YtakfjdnpfhcgkaaGreatDoorBt
import Derived.Laws.IdiomStrings
import Derived.Laws.Concat
import Derived.Test.YtakfjdnpfhcgkaaGreatDoorTk7
import Derived.Laws.DeepStrings4
/-
  Contract of exref.BigText.
-/
namespace Go.Proofs.YtakfjdnpfhcgkaaGreatDoor
set_option linter.all false
open Go.RowKit Go.Sort
attribute [local go_sem] cell_set_self lt_1 lt_2 lt_3 lt_4 lt_5 lt_6

theorem ret_str {a b : ByteArray} (h : a = b) : Ending.returned (.string a) = .returned (.string b) := by rw [h]
theorem vl_top : ∀ {l : List Int}, Dgt l → Top l → l ≠ [] → 0 < vl l
  | [], _, _, h => absurd rfl h
  | x :: r, d, t, _ => by
    have hx := d.head
    by_cases k : r = []
    · subst k; have := t.1 rfl; simp only [vl]; omega
    · have := vl_top d.tail t.2 k; simp only [vl]; omega
theorem top_drop : ∀ {l : List Int} (k : Nat), Top l → Top (l.drop k)
  | l, 0, h => h
  | [], k + 1, h => trivial
  | x :: r, k + 1, h => top_drop (l := r) k h.2
theorem drop_dig {l : List Int} (h : Dgt l) (k : Nat) : Dgt (l.drop k) := fun x hx => h x (List.mem_of_mem_drop hx)

set_option maxHeartbeats 4000000 in
set_option maxRecDepth 100000 in
theorem bigText_any (s : Bool) (A : Option Addr) (n c : Nat) (z : Int) (hn : n ≤ 12) (w : World) (P : Pt 0 w s A n c z) :
    Calls Tryz.prog 54 #[.agg #[.bool s, .slice A n c]] w fun e w' => e = .returned (.string ⟨(txt z).toArray⟩) ∧ Below w.heap.size w w' := by
  obtain ⟨hs, hl, S, _⟩ := P
  by_cases hz : z = 0
  · subst hz
    have e : n = 0 := by rw [hl]; simp [dgs_0]
    subst e
    clear hl S hs
    go_enter Tryz.func54, Tryz.ntmps54
    go_wp2
    go_ret
    exact ⟨rfl, (by repeat (first | exact Below.refl _ _ | refine Below.setCell ?_ (by first | (simp; done) | (simp; omega) | omega) _ | refine Below.alloc ?_ (by first | (simp; done) | (simp; omega) | omega) _ | refine Below.drew ?_ | assumption | refine Below.trans ?_ (Below.mono (by assumption) (by first | (simp; done) | (simp; omega) | omega))))⟩
  · obtain ⟨M, hM⟩ : ∃ M, z.natAbs = M := ⟨_, rfl⟩
    have hM0 : M ≠ 0 := by omega
    rw [hM] at hl S
    have S := S.2.2
    have HL := Lib.hid hl.symm
    have HD := Lib.hid (dgs_dig M); have HT := Lib.hid (dgs_top M); have HV := Lib.hid (vl_dgs M)
    have n0 : 0 < n := by rw [hl]; exact vl_pos.2 (by omega)
    have FIN : Hid ((s = true → txt z = 45 :: dec M) ∧ (s = false → txt z = dec M)) := Lib.hid ⟨fun h => by
      have : z < 0 := by rw [hs] at h; simpa using h
      unfold txt; rw [if_neg hz, if_pos this, hM], fun h => by
      have : ¬ z < 0 := by rw [hs] at h; simpa using h
      unfold txt; rw [if_neg hz, if_neg this, hM]⟩
    generalize dgs M = d at *
    obtain ⟨W0, hW0⟩ : ∃ W0, W0 = w.alloc (.cells #[.bool s, .slice A n c] 58) := ⟨_, rfl⟩
    have K0 : Below w.heap.size w W0 := by rw [hW0]; exact (by repeat (first | exact Below.refl _ _ | refine Below.setCell ?_ (by first | (simp; done) | (simp; omega) | omega) _ | refine Below.alloc ?_ (by first | (simp; done) | (simp; omega) | omega) _ | refine Below.drew ?_ | assumption | refine Below.trans ?_ (Below.mono (by assumption) (by first | (simp; done) | (simp; omega) | omega))))
    have K1 : W0.heap.size = w.heap.size + 1 := by rw [hW0]; simp
    have CL : Hid (∀ W, Below (w.heap.size + 1) W0 W → (W.cell? ⟨w.heap.size, 0, none⟩ = some (.bool s) ∧ W.cell? ⟨w.heap.size, 1, none⟩ = some (.slice A n c)) ∧ Below w.heap.size w W) := Lib.hid fun W hb => by
      refine ⟨?_, K0.trans (hb.mono (by omega))⟩
      rw [hb.cell (p := ⟨w.heap.size, 0, none⟩) (by simp), hb.cell (p := ⟨w.heap.size, 1, none⟩) (by simp), hW0]; simp [go_sem]
    have HW := Lib.hid hW0
    have nd : ((n : Int) == 0) = false := by simp; omega
    clear hs hl hM hW0 K0 hz
    go_enter Tryz.func54, Tryz.ntmps54
    go_wp2
    go_loopw [3, 4] (fun t i wr => ∃ (k : Nat) (o : List UInt8) (St : ByteArray), k ≤ n ∧ i = .int .i64 k ∧ t = .string St ∧ Hid (St = ⟨o.toArray⟩ ∧ dec (vl (d.drop k)).toNat ++ o = dec M ∧ o.length ≤ 4 * k) ∧ Below (w.heap.size + 1) W0 wr) (fun _ i _ => n - (intOf i).toNat)
    case atStart => exact ⟨0, [], ⟨#[]⟩, by omega, rfl, rfl, Lib.hid ⟨rfl, by rw [List.drop_zero, HV.out]; simp, by simp⟩, by rw [HW.out]; exact Below.refl _ _⟩
    case round =>
      obtain ⟨i, o, St, hi, rfl, rfl, hI, hB⟩ := hrel
      obtain ⟨⟨c0, c1⟩, hBw⟩ := CL.out _ hB
      by_cases hend : i = n
      · subst hend
        have eo : o = dec M := by
          have e := hI.out.2.1
          rw [List.drop_eq_nil_of_le (by rw [HL.out]; exact Nat.le_refl _)] at e
          simpa [vl, dec_0] using e
        have eS := hI.out.1
        have ol := hI.out.2.2
        rw [eo] at eS ol
        rcases s
        · have R : Hid (St = ⟨(txt z).toArray⟩) := Lib.hid (by rw [FIN.out.2 (by simp), eS])
          clear eo eS ol
          go_wp2
          go_ret
          exact ⟨ret_str R.out, (by repeat (first | exact Below.refl _ _ | refine Below.setCell ?_ (by first | (simp; done) | (simp; omega) | omega) _ | refine Below.alloc ?_ (by first | (simp; done) | (simp; omega) | omega) _ | refine Below.drew ?_ | assumption | refine Below.trans ?_ (Below.mono (by assumption) (by first | (simp; done) | (simp; omega) | omega))))⟩
        · obtain ⟨S3, hS3⟩ : ∃ S3 : ByteArray, S3 = ⟨(45 :: dec M).toArray⟩ := ⟨_, rfl⟩
          have hadd : ∀ W : World, (Op.stringOp .add ⟨#[45]⟩ St).run Tryz.prog W = .ok (.string S3) W := fun W => by
            rw [eS, hS3]
            exact run_string_add_lists (P := Tryz.prog) W [45] (dec M) (by simp) (by omega)
          have R : Hid (S3 = ⟨(txt z).toArray⟩) := Lib.hid (by rw [FIN.out.1 (by simp), hS3])
          clear eo eS ol hS3
          go_wp2
          go_ret
          exact ⟨ret_str R.out, (by repeat (first | exact Below.refl _ _ | refine Below.setCell ?_ (by first | (simp; done) | (simp; omega) | omega) _ | refine Below.alloc ?_ (by first | (simp; done) | (simp; omega) | omega) _ | refine Below.drew ?_ | assumption | refine Below.trans ?_ (Below.mono (by assumption) (by first | (simp; done) | (simp; omega) | omega))))⟩
      · have hlt : i < n := by omega
        obtain ⟨x, hx⟩ : ∃ x, d[i]? = some x := ⟨_, List.getElem?_eq_getElem (by rw [HL.out]; exact hlt)⟩
        obtain ⟨g, off, rfl, hgb, hc⟩ := S i x hx
        have q0 := (hBw.cell (p := ⟨g, off + i, none⟩) hgb).trans hc
        obtain ⟨bx0, bx1⟩ := HD.out.at_ hx
        obtain ⟨y, rfl⟩ := Int.eq_ofNat_of_zero_le bx0
        obtain ⟨v, hv⟩ : ∃ v, (vl (d.drop (i + 1))).toNat = v := ⟨_, rfl⟩
        have hv0 : i < n - 1 → 0 < v := fun h => by
          have := vl_top (drop_dig HD.out (i + 1)) (top_drop (i + 1) HT.out) (fun e => by have := congrArg List.length e; simp at this; have := HL.out; omega)
          omega
        have hv1 : ¬ i < n - 1 → v = 0 := fun h => by rw [← hv, List.drop_eq_nil_of_le (by rw [HL.out]; omega)]; rfl
        have st : dec (y + pw 0 * v) ++ o = dec M := by
          have e := hI.out.2.1
          obtain ⟨hj, ej⟩ := List.getElem?_eq_some_iff.1 hx
          rw [List.drop_eq_getElem_cons hj, ej] at e
          have nn := vl_nonneg (drop_dig HD.out (i + 1))
          rw [pw_0, show y + 10000 * v = (vl ((y : Int) :: d.drop (i + 1))).toNat by simp only [vl]; omega]
          exact e
        have ST := Lib.hid st; have HV' := Lib.hid hv
        have HV0 := Lib.hid hv0; have HV1 := Lib.hid hv1
        clear st hv hv0 hv1 hx hc S
        go_wp2
        go_loopw [3, 5, 6] (fun t xx kk wi => ∃ (k x : Nat) (o : List UInt8) (St : ByteArray), k ≤ 4 ∧ kk = .int .i64 k ∧ xx = .int .i64 x ∧ t = .string St ∧ x < 10000 ∧ Hid (St = ⟨o.toArray⟩ ∧ dec (x + pw k * v) ++ o = dec M ∧ o.length ≤ 4 * i + k ∧ x < pw k) ∧ Below (w.heap.size + 1) W0 wi) (fun _ _ k _ => 4 - (intOf k).toNat)
        case atStart => exact ⟨0, y, o, St, by omega, rfl, rfl, rfl, by omega, Lib.hid ⟨hI.out.1, ST.out, by have := hI.out.2.2; omega, by rw [pw_0]; omega⟩, hB⟩
        case round =>
          obtain ⟨k, x, o2, St2, hk, rfl, rfl, rfl, hx, hJ, hB2⟩ := hrel
          obtain ⟨⟨d0, d1⟩, hBw2⟩ := CL.out _ hB2
          clear c0 c1 hB hBw q0
          by_cases go : k < 4 ∧ (i < n - 1 ∨ 0 < x)
          · obtain ⟨k4, hor⟩ := go
            obtain ⟨r, hr⟩ : ∃ r, x % 10 = r := ⟨_, rfl⟩
            have hr10 : r < 10 := by omega
            have hm1 : (x : Int).tmod 10 = (r : Int) := by rw [Int.tmod_eq_emod_of_nonneg (by omega)]; omega
            obtain ⟨x', hx'⟩ : ∃ x', x / 10 = x' := ⟨_, rfl⟩
            have hm2 : (x : Int).tdiv 10 = (x' : Int) := by rw [Int.tdiv_eq_ediv_of_nonneg (by omega)]; omega
            obtain ⟨Bb, hBb⟩ : ∃ Bb : ByteArray, Bb = ⟨[dg8 r].toArray⟩ := ⟨_, rfl⟩
            obtain ⟨S3, hS3⟩ : ∃ S3 : ByteArray, S3 = ⟨(dg8 r :: o2).toArray⟩ := ⟨_, rfl⟩
            have hl2 : o2.length ≤ 60 := by have := hJ.out.2.2.1; omega
            have hcv : ∀ W : World, (convert 115 9 (.slice (some ⟨W.heap.size, 0, none⟩) 1 1)).run Tryz.prog (W.alloc (.cells #[.int .u8 (48 + (r : Int))] 5)) = .ok (.string Bb) (W.alloc (.cells #[.int .u8 (48 + (r : Int))] 5)) := fun W => by
              rw [hBb]
              exact run_convert_bytes_back (P := Tryz.prog) _ 115 9 5 ⟨W.heap.size, 0, none⟩ 1 [dg8 r] Tryz.underlying115 Tryz.underlying5 Tryz.underlying9 (fun j hj => by
                have : j = 0 := by simpa using hj
                subst this
                simp [Addr.add, byte_digit r hr10, go_sem])
            have hadd : ∀ W : World, (Op.stringOp .add Bb St2).run Tryz.prog W = .ok (.string S3) W := fun W => by
              rw [hBb, hJ.out.1, hS3]
              exact run_string_add_lists (P := Tryz.prog) W [dg8 r] o2 (by simp) (by omega)
            have nx : dec (x' + pw (k + 1) * v) ++ (dg8 r :: o2) = dec M := by
              rw [← hx', ← hr]
              refine txt_step k4 hJ.out.2.1 ?_
              rcases hor with h | h
              · have := HV0.out h
                have p := pw_bd (k := k) (by omega)
                have := Nat.mul_pos (show 0 < pw k by omega) this
                omega
              · omega
            have HN : Hid (S3 = ⟨(dg8 r :: o2).toArray⟩ ∧ dec (x' + pw (k + 1) * v) ++ (dg8 r :: o2) = dec M ∧ (dg8 r :: o2).length ≤ 4 * i + (k + 1) ∧ x' < pw (k + 1)) := Lib.hid ⟨hS3, nx, by have := hJ.out.2.2.1; simp; omega, by have := hJ.out.2.2.2; rw [pw_step k4] at this; omega⟩
            have x10 : x' < 10000 := by omega
            clear nx hBb hS3 hr hx'
            by_cases hin : i < n - 1
            · have g1 : (i : Int) < (n : Int) - 1 := by omega
              clear hor
              go_wp2
              go_roundw
              case rel => exact ⟨k + 1, x', dg8 r :: o2, S3, by omega, by go_num, rfl, rfl, x10, HN, Below.alloc hB2 (by have := hB2.size; omega) _⟩
              case measure => first | (simp [intOf]; done) | (simp [intOf]; omega)
            · have g1 : ¬ (i : Int) < (n : Int) - 1 := by omega
              have g2 : 0 < x := by omega
              clear hor
              go_wp2
              go_roundw
              case rel => exact ⟨k + 1, x', dg8 r :: o2, S3, by omega, by go_num, rfl, rfl, x10, HN, Below.alloc hB2 (by have := hB2.size; omega) _⟩
              case measure => first | (simp [intOf]; done) | (simp [intOf]; omega)
          · have vn : dec (vl (d.drop (i + 1))).toNat ++ o2 = dec M := by
              rw [HV'.out]
              have e := hJ.out.2.1
              by_cases k4 : k = 4
              · subst k4
                have x0 : x = 0 := by have := hJ.out.2.2.2; rw [pw_4] at this; omega
                rw [x0, pw_4] at e; simpa using e
              · have x0 : x = 0 := by omega
                have v0 := HV1.out (by omega)
                rw [x0, v0] at e; rw [v0]; simpa using e
            have HO : Hid (St2 = ⟨o2.toArray⟩ ∧ dec (vl (d.drop (i + 1))).toNat ++ o2 = dec M ∧ o2.length ≤ 4 * (i + 1)) := Lib.hid ⟨hJ.out.1, vn, by have := hJ.out.2.2.1; omega⟩
            clear vn
            by_cases k4 : k = 4
            · subst k4
              clear go
              go_wp2
              go_roundw
              case rel => exact ⟨i + 1, o2, St2, by omega, by go_num, rfl, HO, hB2⟩
              case measure => first | (simp [intOf]; done) | (simp [intOf]; omega)
            · have k5 : k < 4 := by omega
              have g1 : ¬ (i : Int) < (n : Int) - 1 := by omega
              have x0 : x = 0 := by omega
              subst x0
              clear go k4
              go_wp2
              go_roundw
              case rel => exact ⟨i + 1, o2, St2, by omega, by go_num, rfl, HO, hB2⟩
              case measure => first | (simp [intOf]; done) | (simp [intOf]; omega)
end Go.Proofs.YtakfjdnpfhcgkaaGreatDoor

/-
  Contracts of exref.NumberForm and exref.Atoi at a number's text.
-/
namespace Go.Proofs.YtakfjdnpfhcgkaaGreatDoor
set_option linter.all false
open Go.RowKit Go.Sort
attribute [local go_sem] cell_set_self lt_1 lt_2 lt_3 lt_4 lt_5 lt_6

theorem ba_size (l : List UInt8) : (⟨l.toArray⟩ : ByteArray).size = l.length := by simp [ByteArray.size]
theorem ba_at {t : ByteArray} {l : List UInt8} (e : t = ⟨l.toArray⟩) {i : Nat} {b : UInt8} (h : l[i]? = some b) (hi : i < t.size) : (t[i]'hi).toNat = b.toNat := by
  subst e
  obtain ⟨h1, h2⟩ := List.getElem?_eq_some_iff.1 h
  show ((l.toArray)[i]'_).toNat = _
  rw [List.getElem_toArray, h2]
theorem ba_list {t : ByteArray} {l : List UInt8} (e : t = ⟨l.toArray⟩) : t.toList = l := by
  subst e; exact ByteArray.toList_mk l
theorem ba_tail {t d : ByteArray} {b : UInt8} {l : List UInt8} (e : t = ⟨(b :: l).toArray⟩) (h : d = ⟨l.toArray⟩) {n : Nat} (hn : n = l.length) : t.extract 1 (n + 1) = d := by
  subst e; subst h; subst hn
  refine ByteArray.ext ?_
  rw [ByteArray.data_extract]
  simp

set_option maxHeartbeats 4000000 in
set_option maxRecDepth 100000 in
theorem form_pos (t : ByteArray) (l : List UInt8) (n : Nat) (ht : t = ⟨l.toArray⟩) (hl : l.length = n) (hn : n ≤ 60) (n0 : 0 < n) (hd : DigB l) (hh : n = 1 ∨ ∀ b, l[0]? = some b → b.toNat ≠ 48) (w : World) :
    Calls Tryz.prog 80 #[.string t] w fun e w' => e = .returned (.bool true) ∧ Below w.heap.size w w' := by
  have hs : t.size = n := by rw [ht, ba_size, hl]
  have tl := ba_list ht
  have AT := Lib.hid (fun i b h hi => ba_at (i := i) (b := b) ht h hi)
  have HD := Lib.hid hd; have HL := Lib.hid hl
  obtain ⟨b0, hb0⟩ : ∃ b, l[0]? = some b := ⟨_, List.getElem?_eq_getElem (by omega)⟩
  have p0 : 0 < t.size := by omega
  have f0 := AT.out 0 b0 hb0 p0
  obtain ⟨k0, hk0⟩ : ∃ k, b0.toNat = k := ⟨_, rfl⟩
  rw [hk0] at f0
  have hb48 : n = 1 ∨ k0 ≠ 48 := by rcases hh with h | h; exact .inl h; exact .inr (by rw [← hk0]; exact h b0 hb0)
  have kb : 48 ≤ k0 ∧ k0 ≤ 57 := by rw [← hk0]; exact hd b0 (List.mem_of_getElem? hb0)
  clear hd hl hh
  obtain ⟨kb0, kb1⟩ := kb
  have e1 : (t.toList == []) = false := by rw [tl]; have := HL.out; cases l with
    | nil => simp at this; omega
    | cons _ _ => rfl
  have d45 : ((k0 : Int) == 45) = false := by simp; omega
  by_cases one : n = 1
  · subst one
    by_cases k48 : k0 = 48
    · subst k48
      have e2 : (t.toList == [48]) = true := by
        rw [tl]; have hl := HL.out
        match l, hl, hb0, hk0 with
        | [x], _, hb0, hk0 =>
          have : x = b0 := by simpa using hb0
          subst this
          have : x = 48 := UInt8.toNat_inj.1 (by rw [hk0]; rfl)
          subst this; rfl
      clear tl ht hb48 hb0 hk0
      go_enter Tryz.func80, Tryz.ntmps80
      go_wp2
      go_loopw [4] (fun i wr => ∃ k : Nat, k ≤ 1 ∧ i = .int .i64 k ∧ Below w.heap.size w wr) (fun i _ => 1 - (intOf i).toNat)
      case atStart => exact ⟨0, by omega, rfl, (by repeat (first | exact Below.refl _ _ | refine Below.setCell ?_ (by first | (simp; done) | (simp; omega) | omega) _ | refine Below.alloc ?_ (by first | (simp; done) | (simp; omega) | omega) _ | refine Below.drew ?_ | assumption | refine Below.trans ?_ (Below.mono (by assumption) (by first | (simp; done) | (simp; omega) | omega))))⟩
      case round =>
        obtain ⟨k, hk, rfl, hB⟩ := hrel
        by_cases hlt : k < 1
        · obtain ⟨b, hb⟩ : ∃ b, l[k]? = some b := ⟨_, List.getElem?_eq_getElem (by rw [HL.out]; exact hlt)⟩
          have pk : k < t.size := by omega
          have fk := AT.out k b hb pk
          obtain ⟨kk, hkk⟩ : ∃ kk, b.toNat = kk := ⟨_, rfl⟩
          have bd : 48 ≤ kk ∧ kk ≤ 57 := by rw [← hkk]; exact HD.out b (List.mem_of_getElem? hb)
          rw [hkk] at fk
          obtain ⟨bd0, bd1⟩ := bd
          clear hb hkk AT HL HD
          go_wp2
          go_roundw
          case rel => exact ⟨k + 1, by omega, by go_num, (by repeat (first | exact Below.refl _ _ | refine Below.setCell ?_ (by first | (simp; done) | (simp; omega) | omega) _ | refine Below.alloc ?_ (by first | (simp; done) | (simp; omega) | omega) _ | refine Below.drew ?_ | assumption | refine Below.trans ?_ (Below.mono (by assumption) (by first | (simp; done) | (simp; omega) | omega))))⟩
          case measure => first | (simp [intOf]; done) | (simp [intOf]; omega)
        · have hkn : k = 1 := by omega
          subst hkn
          go_wp2
          go_ret
          exact ⟨rfl, (by repeat (first | exact Below.refl _ _ | refine Below.setCell ?_ (by first | (simp; done) | (simp; omega) | omega) _ | refine Below.alloc ?_ (by first | (simp; done) | (simp; omega) | omega) _ | refine Below.drew ?_ | assumption | refine Below.trans ?_ (Below.mono (by assumption) (by first | (simp; done) | (simp; omega) | omega))))⟩
    · have e2 : (t.toList == [48]) = false := by
        rw [tl]; have hl := HL.out
        match l, hl, hb0, hk0 with
        | [x], _, hb0, hk0 =>
          have : x = b0 := by simpa using hb0
          subst this
          simp only [beq_eq_false_iff_ne]
          intro h
          have : x = 48 := by injection h
          subst this; exact k48 hk0.symm
      have d48 : ((k0 : Int) == 48) = false := by simp; omega
      clear tl ht hb48 hb0 hk0
      go_enter Tryz.func80, Tryz.ntmps80
      go_wp2
      go_loopw [4] (fun i wr => ∃ k : Nat, k ≤ 1 ∧ i = .int .i64 k ∧ Below w.heap.size w wr) (fun i _ => 1 - (intOf i).toNat)
      case atStart => exact ⟨0, by omega, rfl, (by repeat (first | exact Below.refl _ _ | refine Below.setCell ?_ (by first | (simp; done) | (simp; omega) | omega) _ | refine Below.alloc ?_ (by first | (simp; done) | (simp; omega) | omega) _ | refine Below.drew ?_ | assumption | refine Below.trans ?_ (Below.mono (by assumption) (by first | (simp; done) | (simp; omega) | omega))))⟩
      case round =>
        obtain ⟨k, hk, rfl, hB⟩ := hrel
        by_cases hlt : k < 1
        · obtain ⟨b, hb⟩ : ∃ b, l[k]? = some b := ⟨_, List.getElem?_eq_getElem (by rw [HL.out]; exact hlt)⟩
          have pk : k < t.size := by omega
          have fk := AT.out k b hb pk
          obtain ⟨kk, hkk⟩ : ∃ kk, b.toNat = kk := ⟨_, rfl⟩
          have bd : 48 ≤ kk ∧ kk ≤ 57 := by rw [← hkk]; exact HD.out b (List.mem_of_getElem? hb)
          rw [hkk] at fk
          obtain ⟨bd0, bd1⟩ := bd
          clear hb hkk AT HL HD
          go_wp2
          go_roundw
          case rel => exact ⟨k + 1, by omega, by go_num, (by repeat (first | exact Below.refl _ _ | refine Below.setCell ?_ (by first | (simp; done) | (simp; omega) | omega) _ | refine Below.alloc ?_ (by first | (simp; done) | (simp; omega) | omega) _ | refine Below.drew ?_ | assumption | refine Below.trans ?_ (Below.mono (by assumption) (by first | (simp; done) | (simp; omega) | omega))))⟩
          case measure => first | (simp [intOf]; done) | (simp [intOf]; omega)
        · have hkn : k = 1 := by omega
          subst hkn
          go_wp2
          go_ret
          exact ⟨rfl, (by repeat (first | exact Below.refl _ _ | refine Below.setCell ?_ (by first | (simp; done) | (simp; omega) | omega) _ | refine Below.alloc ?_ (by first | (simp; done) | (simp; omega) | omega) _ | refine Below.drew ?_ | assumption | refine Below.trans ?_ (Below.mono (by assumption) (by first | (simp; done) | (simp; omega) | omega))))⟩
  · have k48 : k0 ≠ 48 := by omega
    have n2 : 1 < n := by omega
    have e2 : (t.toList == [48]) = false := by rw [tl]; have := HL.out; cases l with
      | nil => rfl
      | cons _ r => cases r with
        | nil => simp at this; omega
        | cons _ _ => simp
    have d48 : ((k0 : Int) == 48) = false := by simp; omega
    clear tl ht hb48 one hb0 hk0
    go_enter Tryz.func80, Tryz.ntmps80
    go_wp2
    go_loopw [4] (fun i wr => ∃ k : Nat, k ≤ n ∧ i = .int .i64 k ∧ Below w.heap.size w wr) (fun i _ => n - (intOf i).toNat)
    case atStart => exact ⟨0, by omega, rfl, (by repeat (first | exact Below.refl _ _ | refine Below.setCell ?_ (by first | (simp; done) | (simp; omega) | omega) _ | refine Below.alloc ?_ (by first | (simp; done) | (simp; omega) | omega) _ | refine Below.drew ?_ | assumption | refine Below.trans ?_ (Below.mono (by assumption) (by first | (simp; done) | (simp; omega) | omega))))⟩
    case round =>
      obtain ⟨k, hk, rfl, hB⟩ := hrel
      by_cases hlt : k < n
      · obtain ⟨b, hb⟩ : ∃ b, l[k]? = some b := ⟨_, List.getElem?_eq_getElem (by rw [HL.out]; exact hlt)⟩
        have pk : k < t.size := by omega
        have fk := AT.out k b hb pk
        obtain ⟨kk, hkk⟩ : ∃ kk, b.toNat = kk := ⟨_, rfl⟩
        have bd : 48 ≤ kk ∧ kk ≤ 57 := by rw [← hkk]; exact HD.out b (List.mem_of_getElem? hb)
        rw [hkk] at fk
        obtain ⟨bd0, bd1⟩ := bd
        clear hb hkk AT HL HD
        go_wp2
        go_roundw
        case rel => exact ⟨k + 1, by omega, by go_num, (by repeat (first | exact Below.refl _ _ | refine Below.setCell ?_ (by first | (simp; done) | (simp; omega) | omega) _ | refine Below.alloc ?_ (by first | (simp; done) | (simp; omega) | omega) _ | refine Below.drew ?_ | assumption | refine Below.trans ?_ (Below.mono (by assumption) (by first | (simp; done) | (simp; omega) | omega))))⟩
        case measure => first | (simp [intOf]; done) | (simp [intOf]; omega)
      · have hkn : k = n := by omega
        subst hkn
        go_wp2
        go_ret
        exact ⟨rfl, (by repeat (first | exact Below.refl _ _ | refine Below.setCell ?_ (by first | (simp; done) | (simp; omega) | omega) _ | refine Below.alloc ?_ (by first | (simp; done) | (simp; omega) | omega) _ | refine Below.drew ?_ | assumption | refine Below.trans ?_ (Below.mono (by assumption) (by first | (simp; done) | (simp; omega) | omega))))⟩

set_option maxHeartbeats 4000000 in
set_option maxRecDepth 100000 in
theorem form_neg (t t2 : ByteArray) (l : List UInt8) (n : Nat) (ht : t = ⟨(45 :: l).toArray⟩) (ht2 : t2 = ⟨l.toArray⟩) (hl : l.length = n) (hn : n ≤ 60) (n0 : 0 < n) (hd : DigB l) (hh : ∀ b, l[0]? = some b → b.toNat ≠ 48) (w : World) :
    Calls Tryz.prog 80 #[.string t] w fun e w' => e = .returned (.bool true) ∧ Below w.heap.size w w' := by
  have hs : t.size = n + 1 := by rw [ht, ba_size]; simp [hl]
  have hs2 : t2.size = n := by rw [ht2, ba_size, hl]
  have hx := ba_tail ht ht2 hl.symm
  have tl := ba_list ht2
  have p00 : 0 < t.size := by omega
  have f00 : (t[0]'p00).toNat = 45 := ba_at ht (i := 0) (b := 45) rfl p00
  have AT := Lib.hid (fun i b h hi => ba_at (i := i) (b := b) ht2 h hi)
  have HD := Lib.hid hd; have HL := Lib.hid hl
  obtain ⟨b0, hb0⟩ : ∃ b, l[0]? = some b := ⟨_, List.getElem?_eq_getElem (by omega)⟩
  have p0 : 0 < t2.size := by omega
  have f0 := AT.out 0 b0 hb0 p0
  obtain ⟨k0, hk0⟩ : ∃ k, b0.toNat = k := ⟨_, rfl⟩
  rw [hk0] at f0
  have k48 : k0 ≠ 48 := by rw [← hk0]; exact hh b0 hb0
  have kb : 48 ≤ k0 ∧ k0 ≤ 57 := by rw [← hk0]; exact hd b0 (List.mem_of_getElem? hb0)
  have e1 : (t2.toList == []) = false := by rw [tl]; have := HL.out; cases l with
    | nil => simp at this; omega
    | cons _ _ => rfl
  have e2 : (t2.toList == [48]) = false := by
    rw [tl]
    simp only [beq_eq_false_iff_ne]
    intro h
    rw [h] at hb0
    have : (48 : UInt8) = b0 := by simpa using hb0
    subst this; exact k48 hk0.symm
  have d48 : ((k0 : Int) == 48) = false := by simp; omega
  clear hd hl hh hb0 hk0 tl ht ht2
  obtain ⟨kb0, kb1⟩ := kb
  by_cases one : 1 < n
  · go_enter Tryz.func80, Tryz.ntmps80
    go_wp2
    go_loopw [4] (fun i wr => ∃ k : Nat, k ≤ n ∧ i = .int .i64 k ∧ Below w.heap.size w wr) (fun i _ => n - (intOf i).toNat)
    case atStart => exact ⟨0, by omega, rfl, (by repeat (first | exact Below.refl _ _ | refine Below.setCell ?_ (by first | (simp; done) | (simp; omega) | omega) _ | refine Below.alloc ?_ (by first | (simp; done) | (simp; omega) | omega) _ | refine Below.drew ?_ | assumption | refine Below.trans ?_ (Below.mono (by assumption) (by first | (simp; done) | (simp; omega) | omega))))⟩
    case round =>
      obtain ⟨k, hk, rfl, hB⟩ := hrel
      by_cases hlt : k < n
      · obtain ⟨b, hb⟩ : ∃ b, l[k]? = some b := ⟨_, List.getElem?_eq_getElem (by rw [HL.out]; exact hlt)⟩
        have pk : k < t2.size := by omega
        have fk := AT.out k b hb pk
        obtain ⟨kk, hkk⟩ : ∃ kk, b.toNat = kk := ⟨_, rfl⟩
        have bd : 48 ≤ kk ∧ kk ≤ 57 := by rw [← hkk]; exact HD.out b (List.mem_of_getElem? hb)
        rw [hkk] at fk
        obtain ⟨bd0, bd1⟩ := bd
        clear hb hkk AT HL HD
        go_wp2
        go_roundw
        case rel => exact ⟨k + 1, by omega, by go_num, (by repeat (first | exact Below.refl _ _ | refine Below.setCell ?_ (by first | (simp; done) | (simp; omega) | omega) _ | refine Below.alloc ?_ (by first | (simp; done) | (simp; omega) | omega) _ | refine Below.drew ?_ | assumption | refine Below.trans ?_ (Below.mono (by assumption) (by first | (simp; done) | (simp; omega) | omega))))⟩
        case measure => first | (simp [intOf]; done) | (simp [intOf]; omega)
      · have hkn : k = n := by omega
        subst hkn
        go_wp2
        go_ret
        exact ⟨rfl, (by repeat (first | exact Below.refl _ _ | refine Below.setCell ?_ (by first | (simp; done) | (simp; omega) | omega) _ | refine Below.alloc ?_ (by first | (simp; done) | (simp; omega) | omega) _ | refine Below.drew ?_ | assumption | refine Below.trans ?_ (Below.mono (by assumption) (by first | (simp; done) | (simp; omega) | omega))))⟩
  · go_enter Tryz.func80, Tryz.ntmps80
    go_wp2
    go_loopw [4] (fun i wr => ∃ k : Nat, k ≤ n ∧ i = .int .i64 k ∧ Below w.heap.size w wr) (fun i _ => n - (intOf i).toNat)
    case atStart => exact ⟨0, by omega, rfl, (by repeat (first | exact Below.refl _ _ | refine Below.setCell ?_ (by first | (simp; done) | (simp; omega) | omega) _ | refine Below.alloc ?_ (by first | (simp; done) | (simp; omega) | omega) _ | refine Below.drew ?_ | assumption | refine Below.trans ?_ (Below.mono (by assumption) (by first | (simp; done) | (simp; omega) | omega))))⟩
    case round =>
      obtain ⟨k, hk, rfl, hB⟩ := hrel
      by_cases hlt : k < n
      · obtain ⟨b, hb⟩ : ∃ b, l[k]? = some b := ⟨_, List.getElem?_eq_getElem (by rw [HL.out]; exact hlt)⟩
        have pk : k < t2.size := by omega
        have fk := AT.out k b hb pk
        obtain ⟨kk, hkk⟩ : ∃ kk, b.toNat = kk := ⟨_, rfl⟩
        have bd : 48 ≤ kk ∧ kk ≤ 57 := by rw [← hkk]; exact HD.out b (List.mem_of_getElem? hb)
        rw [hkk] at fk
        obtain ⟨bd0, bd1⟩ := bd
        clear hb hkk AT HL HD
        go_wp2
        go_roundw
        case rel => exact ⟨k + 1, by omega, by go_num, (by repeat (first | exact Below.refl _ _ | refine Below.setCell ?_ (by first | (simp; done) | (simp; omega) | omega) _ | refine Below.alloc ?_ (by first | (simp; done) | (simp; omega) | omega) _ | refine Below.drew ?_ | assumption | refine Below.trans ?_ (Below.mono (by assumption) (by first | (simp; done) | (simp; omega) | omega))))⟩
        case measure => first | (simp [intOf]; done) | (simp [intOf]; omega)
      · have hkn : k = n := by omega
        subst hkn
        go_wp2
        go_ret
        exact ⟨rfl, (by repeat (first | exact Below.refl _ _ | refine Below.setCell ?_ (by first | (simp; done) | (simp; omega) | omega) _ | refine Below.alloc ?_ (by first | (simp; done) | (simp; omega) | omega) _ | refine Below.drew ?_ | assumption | refine Below.trans ?_ (Below.mono (by assumption) (by first | (simp; done) | (simp; omega) | omega))))⟩
end Go.Proofs.YtakfjdnpfhcgkaaGreatDoor

/-
  Contract of exref.Atoi at a number's text.
-/
namespace Go.Proofs.YtakfjdnpfhcgkaaGreatDoor
set_option linter.all false
open Go.RowKit Go.Sort
attribute [local go_sem] cell_set_self lt_1 lt_2 lt_3 lt_4 lt_5 lt_6

theorem ret_ib {a b : Int} {p q : Bool} (h : a = b ∧ p = q) : Ending.returned (.tuple #[.int .i64 b, .bool q]) = .returned (.tuple #[.int .i64 a, .bool p]) := by rw [h.1, h.2]

set_option maxHeartbeats 4000000 in
set_option maxRecDepth 100000 in
theorem atoi_pos (t : ByteArray) (l : List UInt8) (n M : Nat) (ht : t = ⟨l.toArray⟩) (hl : l.length = n) (hn : n ≤ 60) (n0 : 0 < n) (hd : DigB l) (hh : n = 1 ∨ ∀ b, l[0]? = some b → b.toNat ≠ 48) (hM : dv l = M) (hbig : 19 < n → 10000000000000000000 ≤ M) (w : World) :
    Calls Tryz.prog 53 #[.string t] w fun e w' => e = .returned (.tuple #[.int .i64 (intN (M : Int)), .bool (intB (M : Int))]) ∧ Below w.heap.size w w' := by
  have FO := Lib.hid (fun W => form_pos t l n ht hl hn n0 hd hh W)
  have hs : t.size = n := by rw [ht, ba_size, hl]
  have AT := Lib.hid (fun i b h hi => ba_at (i := i) (b := b) ht h hi)
  have HD := Lib.hid hd; have HL := Lib.hid hl; have HM := Lib.hid hM
  obtain ⟨b0, hb0⟩ : ∃ b, l[0]? = some b := ⟨_, List.getElem?_eq_getElem (by omega)⟩
  have p0 : 0 < t.size := by omega
  have f0 := AT.out 0 b0 hb0 p0
  obtain ⟨k0, hk0⟩ : ∃ k, b0.toNat = k := ⟨_, rfl⟩
  rw [hk0] at f0
  have kb : 48 ≤ k0 ∧ k0 ≤ 57 := by rw [← hk0]; exact hd b0 (List.mem_of_getElem? hb0)
  obtain ⟨kb0, kb1⟩ := kb
  have d45 : ((k0 : Int) == 45) = false := by simp; omega
  clear hd hl hh hb0 hk0 ht hM
  by_cases big : 19 < n
  · have hm := hbig big
    have R : Hid (intN (M : Int) = 0 ∧ intB (M : Int) = false) := Lib.hid (by unfold intN intB; exact ⟨by rw [if_neg (by omega)], decide_eq_false (by omega)⟩)
    clear hbig hm HM
    go_enter Tryz.func53, Tryz.ntmps53
    go_wp2_with (first | (go_at_call 80; refine (FO.out _).mono ?_; rintro e w1 ⟨rfl, hb1⟩; obtain ⟨hc1, hf1⟩ := bcell hb1; have hs1 := hb1.size; (try simp at hs1)))
    go_ret2
    exact ⟨ret_ib R.out, (by repeat (first | exact Below.refl _ _ | refine Below.setCell ?_ (by first | (simp; done) | (simp; omega) | omega) _ | refine Below.alloc ?_ (by first | (simp; done) | (simp; omega) | omega) _ | refine Below.drew ?_ | assumption | refine Below.trans ?_ (Below.mono (by assumption) (by first | (simp; done) | (simp; omega) | omega))))⟩
  · clear hbig
    go_enter Tryz.func53, Tryz.ntmps53
    go_wp2_with (first | (go_at_call 80; refine (FO.out _).mono ?_; rintro e w1 ⟨rfl, hb1⟩; obtain ⟨hc1, hf1⟩ := bcell hb1; have hs1 := hb1.size; (try simp at hs1)))
    go_loopw [7, 8] (fun u i wr => ∃ (k : Nat) (z : Int), k ≤ n ∧ i = .int .i64 k ∧ u = .int .i64 z ∧ -9223372036854775808 ≤ z ∧ z ≤ 0 ∧ Hid (z = -((dv (l.take k) : Nat) : Int)) ∧ Below w.heap.size w wr) (fun _ i _ => n - (intOf i).toNat)
    case atStart => exact ⟨0, 0, by omega, rfl, rfl, by omega, by omega, Lib.hid (by simp [dv]), (by repeat (first | exact Below.refl _ _ | refine Below.setCell ?_ (by first | (simp; done) | (simp; omega) | omega) _ | refine Below.alloc ?_ (by first | (simp; done) | (simp; omega) | omega) _ | refine Below.drew ?_ | assumption | refine Below.trans ?_ (Below.mono (by assumption) (by first | (simp; done) | (simp; omega) | omega))))⟩
    case round =>
      obtain ⟨k, z, hk, rfl, rfl, z0, z1, hz, hB⟩ := hrel
      by_cases hlt : k < n
      · obtain ⟨b, hb⟩ : ∃ b, l[k]? = some b := ⟨_, List.getElem?_eq_getElem (by rw [HL.out]; exact hlt)⟩
        have pk : k < t.size := by omega
        have fk := AT.out k b hb pk
        obtain ⟨kk, hkk⟩ : ∃ kk, b.toNat = kk := ⟨_, rfl⟩
        have bd : 48 ≤ kk ∧ kk ≤ 57 := by rw [← hkk]; exact HD.out b (List.mem_of_getElem? hb)
        have tk := dv_take hb
        rw [hkk] at fk tk
        obtain ⟨x, rfl⟩ : ∃ x, kk = x + 48 := ⟨kk - 48, by omega⟩
        rw [Nat.add_sub_cancel] at tk
        have x9 : x ≤ 9 := by omega
        have mono := dv_mono l (k + 1) n (by omega)
        rw [List.take_of_length_le (show l.length ≤ n by rw [HL.out]; exact Nat.le_refl _), HM.out] at mono
        obtain ⟨q, hq⟩ : ∃ q, (-9223372036854775808 + (x : Int)).tdiv 10 = q := ⟨_, rfl⟩
        have hq2 : q = -((9223372036854775808 - (x : Int)) / 10) := by
          rw [← hq, show (-9223372036854775808 + (x : Int)) = -(9223372036854775808 - (x : Int)) by omega, Int.neg_tdiv, Int.tdiv_eq_ediv_of_nonneg (by omega)]
        have q0 : -922337203685477581 ≤ q ∧ q ≤ 0 := by omega
        obtain ⟨q1, q2⟩ := q0
        have hz' := hz.out
        by_cases ov : z < q
        · have R : Hid (intN ((M : Int)) = 0 ∧ intB ((M : Int)) = false) := Lib.hid (by unfold intN intB; exact ⟨by rw [if_neg (by omega)], decide_eq_false (by omega)⟩)
          clear hb hkk AT HL HD HM bd tk mono hq2 hz hz'
          go_wp2
          go_ret2
          exact ⟨ret_ib R.out, (by repeat (first | exact Below.refl _ _ | refine Below.setCell ?_ (by first | (simp; done) | (simp; omega) | omega) _ | refine Below.alloc ?_ (by first | (simp; done) | (simp; omega) | omega) _ | refine Below.drew ?_ | assumption | refine Below.trans ?_ (Below.mono (by assumption) (by first | (simp; done) | (simp; omega) | omega))))⟩
        · obtain ⟨z', hz2⟩ : ∃ z', 10 * z - (x : Int) = z' := ⟨_, rfl⟩
          have b0 : -9223372036854775808 ≤ z' ∧ z' ≤ 0 := by omega
          have HN : Hid (z' = -((dv (l.take (k + 1)) : Nat) : Int)) := Lib.hid (by omega)
          have b2 : -9223372036854775808 ≤ 10 * z := by omega
          obtain ⟨b0, b1⟩ := b0
          clear hb hkk AT HL HD HM bd tk mono hq2 hz hz'
          go_wp2
          go_roundw
          case rel => exact ⟨k + 1, z', by omega, by go_num, rfl, b0, b1, HN, (by repeat (first | exact Below.refl _ _ | refine Below.setCell ?_ (by first | (simp; done) | (simp; omega) | omega) _ | refine Below.alloc ?_ (by first | (simp; done) | (simp; omega) | omega) _ | refine Below.drew ?_ | assumption | refine Below.trans ?_ (Below.mono (by assumption) (by first | (simp; done) | (simp; omega) | omega))))⟩
          case measure => first | (simp [intOf]; done) | (simp [intOf]; omega)
      · have hkn : k = n := by omega
        subst hkn
        have hz' := hz.out
        rw [List.take_of_length_le (by rw [HL.out]; exact Nat.le_refl _), HM.out] at hz'
        clear AT HD hz
        by_cases top : z = -9223372036854775808
        · subst top
          have R : Hid (intN ((M : Int)) = 0 ∧ intB ((M : Int)) = false) := Lib.hid (by unfold intN intB; exact ⟨by rw [if_neg (by omega)], decide_eq_false (by omega)⟩)
          clear hz' HM HL
          go_wp2
          go_ret2
          exact ⟨ret_ib R.out, (by repeat (first | exact Below.refl _ _ | refine Below.setCell ?_ (by first | (simp; done) | (simp; omega) | omega) _ | refine Below.alloc ?_ (by first | (simp; done) | (simp; omega) | omega) _ | refine Below.drew ?_ | assumption | refine Below.trans ?_ (Below.mono (by assumption) (by first | (simp; done) | (simp; omega) | omega))))⟩
        · have R : Hid (intN ((M : Int)) = -z ∧ intB ((M : Int)) = true) := Lib.hid (by unfold intN intB; exact ⟨by rw [if_pos (by omega)]; omega, decide_eq_true (by omega)⟩)
          clear hz' HM HL
          go_wp2
          go_ret2
          exact ⟨ret_ib R.out, (by repeat (first | exact Below.refl _ _ | refine Below.setCell ?_ (by first | (simp; done) | (simp; omega) | omega) _ | refine Below.alloc ?_ (by first | (simp; done) | (simp; omega) | omega) _ | refine Below.drew ?_ | assumption | refine Below.trans ?_ (Below.mono (by assumption) (by first | (simp; done) | (simp; omega) | omega))))⟩

set_option maxHeartbeats 4000000 in
set_option maxRecDepth 100000 in
theorem atoi_neg (t t2 : ByteArray) (l : List UInt8) (n M : Nat) (ht : t = ⟨(45 :: l).toArray⟩) (ht2 : t2 = ⟨l.toArray⟩) (hl : l.length = n) (hn : n ≤ 60) (n0 : 0 < n) (hd : DigB l) (hh : ∀ b, l[0]? = some b → b.toNat ≠ 48) (hM : dv l = M) (hbig : 19 < n → 10000000000000000000 ≤ M) (w : World) :
    Calls Tryz.prog 53 #[.string t] w fun e w' => e = .returned (.tuple #[.int .i64 (intN (-(M : Int))), .bool (intB (-(M : Int)))]) ∧ Below w.heap.size w w' := by
  have FO := Lib.hid (fun W => form_neg t t2 l n ht ht2 hl hn n0 hd hh W)
  have hs : t.size = n + 1 := by rw [ht, ba_size]; simp [hl]
  have hs2 : t2.size = n := by rw [ht2, ba_size, hl]
  have hx := ba_tail ht ht2 hl.symm
  have p00 : 0 < t.size := by omega
  have f00 : (t[0]'p00).toNat = 45 := ba_at ht (i := 0) (b := 45) rfl p00
  have AT := Lib.hid (fun i b h hi => ba_at (i := i) (b := b) ht2 h hi)
  have HD := Lib.hid hd; have HL := Lib.hid hl; have HM := Lib.hid hM
  clear hd hl hh ht ht2 hM
  by_cases big : 19 < n
  · have hm := hbig big
    have R : Hid (intN (-(M : Int)) = 0 ∧ intB (-(M : Int)) = false) := Lib.hid (by unfold intN intB; exact ⟨by rw [if_neg (by omega)], decide_eq_false (by omega)⟩)
    clear hbig hm HM
    go_enter Tryz.func53, Tryz.ntmps53
    go_wp2_with (first | (go_at_call 80; refine (FO.out _).mono ?_; rintro e w1 ⟨rfl, hb1⟩; obtain ⟨hc1, hf1⟩ := bcell hb1; have hs1 := hb1.size; (try simp at hs1)))
    go_ret2
    exact ⟨ret_ib R.out, (by repeat (first | exact Below.refl _ _ | refine Below.setCell ?_ (by first | (simp; done) | (simp; omega) | omega) _ | refine Below.alloc ?_ (by first | (simp; done) | (simp; omega) | omega) _ | refine Below.drew ?_ | assumption | refine Below.trans ?_ (Below.mono (by assumption) (by first | (simp; done) | (simp; omega) | omega))))⟩
  · clear hbig
    go_enter Tryz.func53, Tryz.ntmps53
    go_wp2_with (first | (go_at_call 80; refine (FO.out _).mono ?_; rintro e w1 ⟨rfl, hb1⟩; obtain ⟨hc1, hf1⟩ := bcell hb1; have hs1 := hb1.size; (try simp at hs1)))
    go_loopw [7, 8] (fun u i wr => ∃ (k : Nat) (z : Int), k ≤ n ∧ i = .int .i64 k ∧ u = .int .i64 z ∧ -9223372036854775808 ≤ z ∧ z ≤ 0 ∧ Hid (z = -((dv (l.take k) : Nat) : Int)) ∧ Below w.heap.size w wr) (fun _ i _ => n - (intOf i).toNat)
    case atStart => exact ⟨0, 0, by omega, rfl, rfl, by omega, by omega, Lib.hid (by simp [dv]), (by repeat (first | exact Below.refl _ _ | refine Below.setCell ?_ (by first | (simp; done) | (simp; omega) | omega) _ | refine Below.alloc ?_ (by first | (simp; done) | (simp; omega) | omega) _ | refine Below.drew ?_ | assumption | refine Below.trans ?_ (Below.mono (by assumption) (by first | (simp; done) | (simp; omega) | omega))))⟩
    case round =>
      obtain ⟨k, z, hk, rfl, rfl, z0, z1, hz, hB⟩ := hrel
      by_cases hlt : k < n
      · obtain ⟨b, hb⟩ : ∃ b, l[k]? = some b := ⟨_, List.getElem?_eq_getElem (by rw [HL.out]; exact hlt)⟩
        have pk : k < t2.size := by omega
        have fk := AT.out k b hb pk
        obtain ⟨kk, hkk⟩ : ∃ kk, b.toNat = kk := ⟨_, rfl⟩
        have bd : 48 ≤ kk ∧ kk ≤ 57 := by rw [← hkk]; exact HD.out b (List.mem_of_getElem? hb)
        have tk := dv_take hb
        rw [hkk] at fk tk
        obtain ⟨x, rfl⟩ : ∃ x, kk = x + 48 := ⟨kk - 48, by omega⟩
        rw [Nat.add_sub_cancel] at tk
        have x9 : x ≤ 9 := by omega
        have mono := dv_mono l (k + 1) n (by omega)
        rw [List.take_of_length_le (show l.length ≤ n by rw [HL.out]; exact Nat.le_refl _), HM.out] at mono
        obtain ⟨q, hq⟩ : ∃ q, (-9223372036854775808 + (x : Int)).tdiv 10 = q := ⟨_, rfl⟩
        have hq2 : q = -((9223372036854775808 - (x : Int)) / 10) := by
          rw [← hq, show (-9223372036854775808 + (x : Int)) = -(9223372036854775808 - (x : Int)) by omega, Int.neg_tdiv, Int.tdiv_eq_ediv_of_nonneg (by omega)]
        have q0 : -922337203685477581 ≤ q ∧ q ≤ 0 := by omega
        obtain ⟨q1, q2⟩ := q0
        have hz' := hz.out
        by_cases ov : z < q
        · have R : Hid (intN ((-(M : Int))) = 0 ∧ intB ((-(M : Int))) = false) := Lib.hid (by unfold intN intB; exact ⟨by rw [if_neg (by omega)], decide_eq_false (by omega)⟩)
          clear hb hkk AT HL HD HM bd tk mono hq2 hz hz'
          go_wp2
          go_ret2
          exact ⟨ret_ib R.out, (by repeat (first | exact Below.refl _ _ | refine Below.setCell ?_ (by first | (simp; done) | (simp; omega) | omega) _ | refine Below.alloc ?_ (by first | (simp; done) | (simp; omega) | omega) _ | refine Below.drew ?_ | assumption | refine Below.trans ?_ (Below.mono (by assumption) (by first | (simp; done) | (simp; omega) | omega))))⟩
        · obtain ⟨z', hz2⟩ : ∃ z', 10 * z - (x : Int) = z' := ⟨_, rfl⟩
          have b0 : -9223372036854775808 ≤ z' ∧ z' ≤ 0 := by omega
          have HN : Hid (z' = -((dv (l.take (k + 1)) : Nat) : Int)) := Lib.hid (by omega)
          have b2 : -9223372036854775808 ≤ 10 * z := by omega
          obtain ⟨b0, b1⟩ := b0
          clear hb hkk AT HL HD HM bd tk mono hq2 hz hz'
          go_wp2
          go_roundw
          case rel => exact ⟨k + 1, z', by omega, by go_num, rfl, b0, b1, HN, (by repeat (first | exact Below.refl _ _ | refine Below.setCell ?_ (by first | (simp; done) | (simp; omega) | omega) _ | refine Below.alloc ?_ (by first | (simp; done) | (simp; omega) | omega) _ | refine Below.drew ?_ | assumption | refine Below.trans ?_ (Below.mono (by assumption) (by first | (simp; done) | (simp; omega) | omega))))⟩
          case measure => first | (simp [intOf]; done) | (simp [intOf]; omega)
      · have hkn : k = n := by omega
        subst hkn
        have hz' := hz.out
        rw [List.take_of_length_le (by rw [HL.out]; exact Nat.le_refl _), HM.out] at hz'
        clear AT HD hz
        have R : Hid (intN ((-(M : Int))) = z ∧ intB ((-(M : Int))) = true) := Lib.hid (by unfold intN intB; exact ⟨by rw [if_pos (by omega)]; omega, decide_eq_true (by omega)⟩)
        clear hz' HM HL
        go_wp2
        go_ret2
        exact ⟨ret_ib R.out, (by repeat (first | exact Below.refl _ _ | refine Below.setCell ?_ (by first | (simp; done) | (simp; omega) | omega) _ | refine Below.alloc ?_ (by first | (simp; done) | (simp; omega) | omega) _ | refine Below.drew ?_ | assumption | refine Below.trans ?_ (Below.mono (by assumption) (by first | (simp; done) | (simp; omega) | omega))))⟩
end Go.Proofs.YtakfjdnpfhcgkaaGreatDoor
