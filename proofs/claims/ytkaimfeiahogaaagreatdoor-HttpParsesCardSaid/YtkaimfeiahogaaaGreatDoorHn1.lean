/-
  Contracts of exref.NumberForm and exref.Atoi at any text.
-/
import Derived.Test.YtkaimfeiahogaaaGreatDoorHk2
import Derived.Test.YtkaimfeiahogaaaGreatDoorPt2
import Derived.Laws.IdiomStrings
import Derived.Laws.DeepStrings4
namespace Go.Proofs.YtkaimfeiahogaaaGreatDoor
set_option linter.all false
open Go.RowKit Go.Sort
attribute [local go_sem] cell_set_self lt_1 lt_2 lt_3 lt_4 lt_5 lt_6

def digA (l : List UInt8) : Bool := l.all (fun b => decide (48 ≤ b.toNat) && decide (b.toNat ≤ 57))
theorem digA_iff {l : List UInt8} : digA l = true ↔ DigB l := by simp [digA, DigB]
theorem ba_szP (l : List UInt8) : (⟨l.toArray⟩ : ByteArray).size = l.length := by simp [ByteArray.size]
theorem ba_size (l : List UInt8) : (⟨l.toArray⟩ : ByteArray).size = l.length := by simp [ByteArray.size]
theorem ba_at {t : ByteArray} {l : List UInt8} (e : t = ⟨l.toArray⟩) {i : Nat} {b : UInt8} (h : l[i]? = some b) (hi : i < t.size) : (t[i]'hi).toNat = b.toNat := by
  subst e
  obtain ⟨h1, h2⟩ := List.getElem?_eq_some_iff.1 h
  show ((l.toArray)[i]'_).toNat = _
  rw [List.getElem_toArray, h2]
theorem ba_list {t : ByteArray} {l : List UInt8} (e : t = ⟨l.toArray⟩) : t.toList = l := by
  subst e; exact ByteArray.toList_mk l
theorem ba_tail {t d : ByteArray} {b : UInt8} {l : List UInt8} (e : t = ⟨(b :: l).toArray⟩) (h : d = ⟨l.toArray⟩) {n : Nat} (hn : n = l.length) : t.extract 1 (n + 1) = d := by
  subst e; subst h; subst hn
  refine ByteArray.ext ?_
  rw [ByteArray.data_extract]
  simp

set_option maxHeartbeats 4000000 in
set_option maxRecDepth 100000 in
theorem form_pos (t : ByteArray) (l : List UInt8) (n : Nat) (ht : t = ⟨l.toArray⟩) (hl : l.length = n) (hn : n ≤ 60) (n0 : 0 < n) (hd : DigB l) (hh : n = 1 ∨ ∀ b, l[0]? = some b → b.toNat ≠ 48) (w : World) :
    Calls Tryz.prog 45 #[.string t] w fun e w' => e = .returned (.bool true) ∧ Below w.heap.size w w' := by
  have hs : t.size = n := by rw [ht, ba_size, hl]
  have tl := ba_list ht
  have AT := Lib.hid (fun i b h hi => ba_at (i := i) (b := b) ht h hi)
  have HD := Lib.hid hd; have HL := Lib.hid hl
  obtain ⟨b0, hb0⟩ : ∃ b, l[0]? = some b := ⟨_, List.getElem?_eq_getElem (by omega)⟩
  have p0 : 0 < t.size := by omega
  have f0 := AT.out 0 b0 hb0 p0
  obtain ⟨k0, hk0⟩ : ∃ k, b0.toNat = k := ⟨_, rfl⟩
  rw [hk0] at f0
  have hb48 : n = 1 ∨ k0 ≠ 48 := by rcases hh with h | h; exact .inl h; exact .inr (by rw [← hk0]; exact h b0 hb0)
  have kb : 48 ≤ k0 ∧ k0 ≤ 57 := by rw [← hk0]; exact hd b0 (List.mem_of_getElem? hb0)
  clear hd hl hh
  obtain ⟨kb0, kb1⟩ := kb
  have e1 : (t.toList == []) = false := by rw [tl]; have := HL.out; cases l with
    | nil => simp at this; omega
    | cons _ _ => rfl
  have d45 : ((k0 : Int) == 45) = false := by simp; omega
  by_cases one : n = 1
  · subst one
    by_cases k48 : k0 = 48
    · subst k48
      have e2 : (t.toList == [48]) = true := by
        rw [tl]; have hl := HL.out
        match l, hl, hb0, hk0 with
        | [x], _, hb0, hk0 =>
          have : x = b0 := by simpa using hb0
          subst this
          have : x = 48 := UInt8.toNat_inj.1 (by rw [hk0]; rfl)
          subst this; rfl
      clear tl ht hb48 hb0 hk0
      go_enter Tryz.func45, Tryz.ntmps45
      go_wp2
      go_loopw [4] (fun i wr => ∃ k : Nat, k ≤ 1 ∧ i = .int .i64 k ∧ Below w.heap.size w wr) (fun i _ => 1 - (intOf i).toNat)
      case atStart => exact ⟨0, by omega, rfl, (by repeat (first | exact Below.refl _ _ | refine Below.setCell ?_ (by first | (simp; done) | (simp; omega) | omega) _ | refine Below.alloc ?_ (by first | (simp; done) | (simp; omega) | omega) _ | refine Below.drew ?_ | assumption | refine Below.trans ?_ (Below.mono (by assumption) (by first | (simp; done) | (simp; omega) | omega))))⟩
      case round =>
        obtain ⟨k, hk, rfl, hB⟩ := hrel
        by_cases hlt : k < 1
        · obtain ⟨b, hb⟩ : ∃ b, l[k]? = some b := ⟨_, List.getElem?_eq_getElem (by rw [HL.out]; exact hlt)⟩
          have pk : k < t.size := by omega
          have fk := AT.out k b hb pk
          obtain ⟨kk, hkk⟩ : ∃ kk, b.toNat = kk := ⟨_, rfl⟩
          have bd : 48 ≤ kk ∧ kk ≤ 57 := by rw [← hkk]; exact HD.out b (List.mem_of_getElem? hb)
          rw [hkk] at fk
          obtain ⟨bd0, bd1⟩ := bd
          clear hb hkk AT HL HD
          go_wp2
          go_roundw
          case rel => exact ⟨k + 1, by omega, by go_num, (by repeat (first | exact Below.refl _ _ | refine Below.setCell ?_ (by first | (simp; done) | (simp; omega) | omega) _ | refine Below.alloc ?_ (by first | (simp; done) | (simp; omega) | omega) _ | refine Below.drew ?_ | assumption | refine Below.trans ?_ (Below.mono (by assumption) (by first | (simp; done) | (simp; omega) | omega))))⟩
          case measure => first | (simp [intOf]; done) | (simp [intOf]; omega)
        · have hkn : k = 1 := by omega
          subst hkn
          go_wp2
          go_ret
          exact ⟨rfl, (by repeat (first | exact Below.refl _ _ | refine Below.setCell ?_ (by first | (simp; done) | (simp; omega) | omega) _ | refine Below.alloc ?_ (by first | (simp; done) | (simp; omega) | omega) _ | refine Below.drew ?_ | assumption | refine Below.trans ?_ (Below.mono (by assumption) (by first | (simp; done) | (simp; omega) | omega))))⟩
    · have e2 : (t.toList == [48]) = false := by
        rw [tl]; have hl := HL.out
        match l, hl, hb0, hk0 with
        | [x], _, hb0, hk0 =>
          have : x = b0 := by simpa using hb0
          subst this
          simp only [beq_eq_false_iff_ne]
          intro h
          have : x = 48 := by injection h
          subst this; exact k48 hk0.symm
      have d48 : ((k0 : Int) == 48) = false := by simp; omega
      clear tl ht hb48 hb0 hk0
      go_enter Tryz.func45, Tryz.ntmps45
      go_wp2
      go_loopw [4] (fun i wr => ∃ k : Nat, k ≤ 1 ∧ i = .int .i64 k ∧ Below w.heap.size w wr) (fun i _ => 1 - (intOf i).toNat)
      case atStart => exact ⟨0, by omega, rfl, (by repeat (first | exact Below.refl _ _ | refine Below.setCell ?_ (by first | (simp; done) | (simp; omega) | omega) _ | refine Below.alloc ?_ (by first | (simp; done) | (simp; omega) | omega) _ | refine Below.drew ?_ | assumption | refine Below.trans ?_ (Below.mono (by assumption) (by first | (simp; done) | (simp; omega) | omega))))⟩
      case round =>
        obtain ⟨k, hk, rfl, hB⟩ := hrel
        by_cases hlt : k < 1
        · obtain ⟨b, hb⟩ : ∃ b, l[k]? = some b := ⟨_, List.getElem?_eq_getElem (by rw [HL.out]; exact hlt)⟩
          have pk : k < t.size := by omega
          have fk := AT.out k b hb pk
          obtain ⟨kk, hkk⟩ : ∃ kk, b.toNat = kk := ⟨_, rfl⟩
          have bd : 48 ≤ kk ∧ kk ≤ 57 := by rw [← hkk]; exact HD.out b (List.mem_of_getElem? hb)
          rw [hkk] at fk
          obtain ⟨bd0, bd1⟩ := bd
          clear hb hkk AT HL HD
          go_wp2
          go_roundw
          case rel => exact ⟨k + 1, by omega, by go_num, (by repeat (first | exact Below.refl _ _ | refine Below.setCell ?_ (by first | (simp; done) | (simp; omega) | omega) _ | refine Below.alloc ?_ (by first | (simp; done) | (simp; omega) | omega) _ | refine Below.drew ?_ | assumption | refine Below.trans ?_ (Below.mono (by assumption) (by first | (simp; done) | (simp; omega) | omega))))⟩
          case measure => first | (simp [intOf]; done) | (simp [intOf]; omega)
        · have hkn : k = 1 := by omega
          subst hkn
          go_wp2
          go_ret
          exact ⟨rfl, (by repeat (first | exact Below.refl _ _ | refine Below.setCell ?_ (by first | (simp; done) | (simp; omega) | omega) _ | refine Below.alloc ?_ (by first | (simp; done) | (simp; omega) | omega) _ | refine Below.drew ?_ | assumption | refine Below.trans ?_ (Below.mono (by assumption) (by first | (simp; done) | (simp; omega) | omega))))⟩
  · have k48 : k0 ≠ 48 := by omega
    have n2 : 1 < n := by omega
    have e2 : (t.toList == [48]) = false := by rw [tl]; have := HL.out; cases l with
      | nil => rfl
      | cons _ r => cases r with
        | nil => simp at this; omega
        | cons _ _ => simp
    have d48 : ((k0 : Int) == 48) = false := by simp; omega
    clear tl ht hb48 one hb0 hk0
    go_enter Tryz.func45, Tryz.ntmps45
    go_wp2
    go_loopw [4] (fun i wr => ∃ k : Nat, k ≤ n ∧ i = .int .i64 k ∧ Below w.heap.size w wr) (fun i _ => n - (intOf i).toNat)
    case atStart => exact ⟨0, by omega, rfl, (by repeat (first | exact Below.refl _ _ | refine Below.setCell ?_ (by first | (simp; done) | (simp; omega) | omega) _ | refine Below.alloc ?_ (by first | (simp; done) | (simp; omega) | omega) _ | refine Below.drew ?_ | assumption | refine Below.trans ?_ (Below.mono (by assumption) (by first | (simp; done) | (simp; omega) | omega))))⟩
    case round =>
      obtain ⟨k, hk, rfl, hB⟩ := hrel
      by_cases hlt : k < n
      · obtain ⟨b, hb⟩ : ∃ b, l[k]? = some b := ⟨_, List.getElem?_eq_getElem (by rw [HL.out]; exact hlt)⟩
        have pk : k < t.size := by omega
        have fk := AT.out k b hb pk
        obtain ⟨kk, hkk⟩ : ∃ kk, b.toNat = kk := ⟨_, rfl⟩
        have bd : 48 ≤ kk ∧ kk ≤ 57 := by rw [← hkk]; exact HD.out b (List.mem_of_getElem? hb)
        rw [hkk] at fk
        obtain ⟨bd0, bd1⟩ := bd
        clear hb hkk AT HL HD
        go_wp2
        go_roundw
        case rel => exact ⟨k + 1, by omega, by go_num, (by repeat (first | exact Below.refl _ _ | refine Below.setCell ?_ (by first | (simp; done) | (simp; omega) | omega) _ | refine Below.alloc ?_ (by first | (simp; done) | (simp; omega) | omega) _ | refine Below.drew ?_ | assumption | refine Below.trans ?_ (Below.mono (by assumption) (by first | (simp; done) | (simp; omega) | omega))))⟩
        case measure => first | (simp [intOf]; done) | (simp [intOf]; omega)
      · have hkn : k = n := by omega
        subst hkn
        go_wp2
        go_ret
        exact ⟨rfl, (by repeat (first | exact Below.refl _ _ | refine Below.setCell ?_ (by first | (simp; done) | (simp; omega) | omega) _ | refine Below.alloc ?_ (by first | (simp; done) | (simp; omega) | omega) _ | refine Below.drew ?_ | assumption | refine Below.trans ?_ (Below.mono (by assumption) (by first | (simp; done) | (simp; omega) | omega))))⟩

theorem ret_ib {a b : Int} {p q : Bool} (h : a = b ∧ p = q) : Ending.returned (.tuple #[.int .i64 b, .bool q]) = .returned (.tuple #[.int .i64 a, .bool p]) := by rw [h.1, h.2]

set_option maxHeartbeats 4000000 in
set_option maxRecDepth 100000 in
theorem atoi_pos (t : ByteArray) (l : List UInt8) (n M : Nat) (ht : t = ⟨l.toArray⟩) (hl : l.length = n) (hn : n ≤ 60) (n0 : 0 < n) (hd : DigB l) (hh : n = 1 ∨ ∀ b, l[0]? = some b → b.toNat ≠ 48) (hM : dv l = M) (hbig : 19 < n → 10000000000000000000 ≤ M) (w : World) :
    Calls Tryz.prog 46 #[.string t] w fun e w' => e = .returned (.tuple #[.int .i64 (intN (M : Int)), .bool (intB (M : Int))]) ∧ Below w.heap.size w w' := by
  have FO := Lib.hid (fun W => form_pos t l n ht hl hn n0 hd hh W)
  have hs : t.size = n := by rw [ht, ba_size, hl]
  have AT := Lib.hid (fun i b h hi => ba_at (i := i) (b := b) ht h hi)
  have HD := Lib.hid hd; have HL := Lib.hid hl; have HM := Lib.hid hM
  obtain ⟨b0, hb0⟩ : ∃ b, l[0]? = some b := ⟨_, List.getElem?_eq_getElem (by omega)⟩
  have p0 : 0 < t.size := by omega
  have f0 := AT.out 0 b0 hb0 p0
  obtain ⟨k0, hk0⟩ : ∃ k, b0.toNat = k := ⟨_, rfl⟩
  rw [hk0] at f0
  have kb : 48 ≤ k0 ∧ k0 ≤ 57 := by rw [← hk0]; exact hd b0 (List.mem_of_getElem? hb0)
  obtain ⟨kb0, kb1⟩ := kb
  have d45 : ((k0 : Int) == 45) = false := by simp; omega
  clear hd hl hh hb0 hk0 ht hM
  by_cases big : 19 < n
  · have hm := hbig big
    have R : Hid (intN (M : Int) = 0 ∧ intB (M : Int) = false) := Lib.hid (by unfold intN intB; exact ⟨by rw [if_neg (by omega)], decide_eq_false (by omega)⟩)
    clear hbig hm HM
    go_enter Tryz.func46, Tryz.ntmps46
    go_wp2_with (first | (go_at_call 45; refine (FO.out _).mono ?_; rintro e w1 ⟨rfl, hb1⟩; obtain ⟨hc1, hf1⟩ := bcell hb1; have hs1 := hb1.size; (try simp at hs1)))
    go_ret2
    exact ⟨ret_ib R.out, (by repeat (first | exact Below.refl _ _ | refine Below.setCell ?_ (by first | (simp; done) | (simp; omega) | omega) _ | refine Below.alloc ?_ (by first | (simp; done) | (simp; omega) | omega) _ | refine Below.drew ?_ | assumption | refine Below.trans ?_ (Below.mono (by assumption) (by first | (simp; done) | (simp; omega) | omega))))⟩
  · clear hbig
    go_enter Tryz.func46, Tryz.ntmps46
    go_wp2_with (first | (go_at_call 45; refine (FO.out _).mono ?_; rintro e w1 ⟨rfl, hb1⟩; obtain ⟨hc1, hf1⟩ := bcell hb1; have hs1 := hb1.size; (try simp at hs1)))
    go_loopw [7, 8] (fun u i wr => ∃ (k : Nat) (z : Int), k ≤ n ∧ i = .int .i64 k ∧ u = .int .i64 z ∧ -9223372036854775808 ≤ z ∧ z ≤ 0 ∧ Hid (z = -((dv (l.take k) : Nat) : Int)) ∧ Below w.heap.size w wr) (fun _ i _ => n - (intOf i).toNat)
    case atStart => exact ⟨0, 0, by omega, rfl, rfl, by omega, by omega, Lib.hid (by simp [dv]), (by repeat (first | exact Below.refl _ _ | refine Below.setCell ?_ (by first | (simp; done) | (simp; omega) | omega) _ | refine Below.alloc ?_ (by first | (simp; done) | (simp; omega) | omega) _ | refine Below.drew ?_ | assumption | refine Below.trans ?_ (Below.mono (by assumption) (by first | (simp; done) | (simp; omega) | omega))))⟩
    case round =>
      obtain ⟨k, z, hk, rfl, rfl, z0, z1, hz, hB⟩ := hrel
      by_cases hlt : k < n
      · obtain ⟨b, hb⟩ : ∃ b, l[k]? = some b := ⟨_, List.getElem?_eq_getElem (by rw [HL.out]; exact hlt)⟩
        have pk : k < t.size := by omega
        have fk := AT.out k b hb pk
        obtain ⟨kk, hkk⟩ : ∃ kk, b.toNat = kk := ⟨_, rfl⟩
        have bd : 48 ≤ kk ∧ kk ≤ 57 := by rw [← hkk]; exact HD.out b (List.mem_of_getElem? hb)
        have tk := dv_take hb
        rw [hkk] at fk tk
        obtain ⟨x, rfl⟩ : ∃ x, kk = x + 48 := ⟨kk - 48, by omega⟩
        rw [Nat.add_sub_cancel] at tk
        have x9 : x ≤ 9 := by omega
        have mono := dv_mono l (k + 1) n (by omega)
        rw [List.take_of_length_le (show l.length ≤ n by rw [HL.out]; exact Nat.le_refl _), HM.out] at mono
        obtain ⟨q, hq⟩ : ∃ q, (-9223372036854775808 + (x : Int)).tdiv 10 = q := ⟨_, rfl⟩
        have hq2 : q = -((9223372036854775808 - (x : Int)) / 10) := by
          rw [← hq, show (-9223372036854775808 + (x : Int)) = -(9223372036854775808 - (x : Int)) by omega, Int.neg_tdiv, Int.tdiv_eq_ediv_of_nonneg (by omega)]
        have q0 : -922337203685477581 ≤ q ∧ q ≤ 0 := by omega
        obtain ⟨q1, q2⟩ := q0
        have hz' := hz.out
        by_cases ov : z < q
        · have R : Hid (intN ((M : Int)) = 0 ∧ intB ((M : Int)) = false) := Lib.hid (by unfold intN intB; exact ⟨by rw [if_neg (by omega)], decide_eq_false (by omega)⟩)
          clear hb hkk AT HL HD HM bd tk mono hq2 hz hz'
          go_wp2
          go_ret2
          exact ⟨ret_ib R.out, (by repeat (first | exact Below.refl _ _ | refine Below.setCell ?_ (by first | (simp; done) | (simp; omega) | omega) _ | refine Below.alloc ?_ (by first | (simp; done) | (simp; omega) | omega) _ | refine Below.drew ?_ | assumption | refine Below.trans ?_ (Below.mono (by assumption) (by first | (simp; done) | (simp; omega) | omega))))⟩
        · obtain ⟨z', hz2⟩ : ∃ z', 10 * z - (x : Int) = z' := ⟨_, rfl⟩
          have b0 : -9223372036854775808 ≤ z' ∧ z' ≤ 0 := by omega
          have HN : Hid (z' = -((dv (l.take (k + 1)) : Nat) : Int)) := Lib.hid (by omega)
          have b2 : -9223372036854775808 ≤ 10 * z := by omega
          obtain ⟨b0, b1⟩ := b0
          clear hb hkk AT HL HD HM bd tk mono hq2 hz hz'
          go_wp2
          go_roundw
          case rel => exact ⟨k + 1, z', by omega, by go_num, rfl, b0, b1, HN, (by repeat (first | exact Below.refl _ _ | refine Below.setCell ?_ (by first | (simp; done) | (simp; omega) | omega) _ | refine Below.alloc ?_ (by first | (simp; done) | (simp; omega) | omega) _ | refine Below.drew ?_ | assumption | refine Below.trans ?_ (Below.mono (by assumption) (by first | (simp; done) | (simp; omega) | omega))))⟩
          case measure => first | (simp [intOf]; done) | (simp [intOf]; omega)
      · have hkn : k = n := by omega
        subst hkn
        have hz' := hz.out
        rw [List.take_of_length_le (by rw [HL.out]; exact Nat.le_refl _), HM.out] at hz'
        clear AT HD hz
        by_cases top : z = -9223372036854775808
        · subst top
          have R : Hid (intN ((M : Int)) = 0 ∧ intB ((M : Int)) = false) := Lib.hid (by unfold intN intB; exact ⟨by rw [if_neg (by omega)], decide_eq_false (by omega)⟩)
          clear hz' HM HL
          go_wp2
          go_ret2
          exact ⟨ret_ib R.out, (by repeat (first | exact Below.refl _ _ | refine Below.setCell ?_ (by first | (simp; done) | (simp; omega) | omega) _ | refine Below.alloc ?_ (by first | (simp; done) | (simp; omega) | omega) _ | refine Below.drew ?_ | assumption | refine Below.trans ?_ (Below.mono (by assumption) (by first | (simp; done) | (simp; omega) | omega))))⟩
        · have R : Hid (intN ((M : Int)) = -z ∧ intB ((M : Int)) = true) := Lib.hid (by unfold intN intB; exact ⟨by rw [if_pos (by omega)]; omega, decide_eq_true (by omega)⟩)
          clear hz' HM HL
          go_wp2
          go_ret2
          exact ⟨ret_ib R.out, (by repeat (first | exact Below.refl _ _ | refine Below.setCell ?_ (by first | (simp; done) | (simp; omega) | omega) _ | refine Below.alloc ?_ (by first | (simp; done) | (simp; omega) | omega) _ | refine Below.drew ?_ | assumption | refine Below.trans ?_ (Below.mono (by assumption) (by first | (simp; done) | (simp; omega) | omega))))⟩

theorem ret_b {a b : Bool} (h : a = b) : Ending.returned (.bool b) = .returned (.bool a) := by rw [h]
theorem numF_bad {l : List UInt8} {k : Nat} {b : UInt8} (hk : l[k]? = some b) (h : ¬ (48 ≤ b.toNat ∧ b.toNat ≤ 57)) : numF l = false := by
  rw [Bool.eq_false_iff]; intro hn
  exact h ((numF_iff.1 hn).2.1 b (List.mem_of_getElem? hk))
theorem numF_zero {r : List UInt8} (h : r ≠ []) : numF (48 :: r) = false := by
  rw [Bool.eq_false_iff]; intro hn
  rcases (numF_iff.1 hn).2.2 with h1 | h1
  · exact h (List.eq_nil_of_length_eq_zero (by simpa using h1))
  · simp at h1
theorem numF_good {ch : UInt8} {r : List UInt8} (h : digA (ch :: r) = true) (h0 : r = [] ∨ ch ≠ 48) : numF (ch :: r) = true := by
  refine numF_iff.2 ⟨by simp, digA_iff.1 h, ?_⟩
  rcases h0 with rfl | h0
  · exact .inl rfl
  · exact .inr (by simpa using h0)
theorem digA_step {l : List UInt8} {k : Nat} {b : UInt8} (hk : l[k]? = some b) (h : 48 ≤ b.toNat ∧ b.toNat ≤ 57) (ht : digA (l.take k) = true) : digA (l.take (k + 1)) = true := by
  rw [List.take_succ, hk, Option.toList_some]
  unfold digA at ht ⊢
  rw [List.all_append, ht]
  simp [h]

set_option maxHeartbeats 4000000 in
set_option maxRecDepth 100000 in
theorem form_free (l : List UInt8) (hlen : l.length ≤ 1000000) (hm : ∀ ch r, l = ch :: r → ch ≠ 45 ∨ r = []) (w : World) :
    Calls Tryz.prog 45 #[.string ⟨l.toArray⟩] w fun e w' => e = .returned (.bool (numF l)) ∧ Below w.heap.size w w' := by
  cases l with
  | nil =>
    go_enter Tryz.func45, Tryz.ntmps45
    go_wp2
    go_ret
    exact ⟨rfl, (by repeat (first | exact Below.refl _ _ | refine Below.setCell ?_ (by first | (simp; done) | (simp; omega) | omega) _ | refine Below.alloc ?_ (by first | (simp; done) | (simp; omega) | omega) _ | refine Below.drew ?_ | assumption | refine Below.trans ?_ (Below.mono (by assumption) (by first | (simp; done) | (simp; omega) | omega))))⟩
  | cons ch r =>
    have AT : Hid (∀ i (h : i < (⟨(ch :: r).toArray⟩ : ByteArray).size) (c : UInt8), (ch :: r)[i]? = some c → ((⟨(ch :: r).toArray⟩ : ByteArray)[i]'h).toNat = c.toNat) := Lib.hid fun i h c hc => by
      obtain ⟨h1, h2⟩ := List.getElem?_eq_some_iff.1 hc
      rw [← h2]; rfl
    obtain ⟨n, hn⟩ : ∃ n, (ch :: r).length = n := ⟨_, rfl⟩
    have HN := Lib.hid hn
    have hts : (⟨(ch :: r).toArray⟩ : ByteArray).size = n := by rw [ba_szP, hn]
    have n0 : 0 < n := by rw [← hn]; simp
    have n1 : n ≤ 1000000 := by omega
    have p0 : 0 < (⟨(ch :: r).toArray⟩ : ByteArray).size := by omega
    have f0 := AT.out 0 p0 ch rfl
    have hr : r = [] ↔ n = 1 := by rw [← hn]; simp
    have e1 : ((⟨(ch :: r).toArray⟩ : ByteArray).toList == []) = false := by rw [ByteArray.toList_mk]; rfl
    have e2 : ((⟨(ch :: r).toArray⟩ : ByteArray).toList == [48]) = decide (ch = 48 ∧ r = []) := by
      rw [ByteArray.toList_mk]
      by_cases h : ch = 48 ∧ r = []
      · obtain ⟨rfl, rfl⟩ := h; rfl
      · rw [decide_eq_false h, beq_eq_false_iff_ne]
        intro e; injection e with a b; exact h ⟨a, b⟩
    have hm' := hm ch r rfl
    have GOOD : Hid (digA ((ch :: r).take n) = true → n = 1 ∨ ch ≠ 48 → true = numF (ch :: r)) := Lib.hid fun h h0 => by
      rw [List.take_of_length_le (by rw [hn]; exact Nat.le_refl _)] at h
      exact (numF_good h (by rw [hr]; exact h0)).symm
    have BAD : Hid (∀ (k : Nat) (b : UInt8), (ch :: r)[k]? = some b → ¬ (48 ≤ b.toNat ∧ b.toNat ≤ 57) → false = numF (ch :: r)) := Lib.hid fun k b hk h => (numF_bad hk h).symm
    have STEP := Lib.hid (fun (k : Nat) (b : UInt8) (hk : (ch :: r)[k]? = some b) h ht => digA_step hk h ht)
    have D0 : Hid (digA ((ch :: r).take 0) = true) := Lib.hid rfl
    have BZ : Hid (n ≠ 1 → ch = 48 → false = numF (ch :: r)) := Lib.hid fun h1 h2 => by
      subst h2; exact (numF_zero (fun e => h1 (hr.1 e))).symm
    have hz : (ch = 48 ∧ r = []) ↔ (ch = 48 ∧ n = 1) := by rw [hr]
    rw [hr] at hm'
    simp only [hz] at e2
    clear hm hlen hn hr hz
    obtain ⟨k0, hk0⟩ : ∃ k, ch.toNat = k := ⟨_, rfl⟩
    rw [hk0] at f0
    have h48 : ch = 48 ↔ k0 = 48 := by rw [← hk0]; exact ⟨fun h => by rw [h]; rfl, fun h => UInt8.toNat_inj.1 (by rw [h]; rfl)⟩
    have h45 : ch ≠ 45 → k0 ≠ 45 := fun h e => h (UInt8.toNat_inj.1 (by rw [hk0, e]; rfl))
    have G2 : Hid (digA ((ch :: r).take n) = true → n = 1 ∨ k0 ≠ 48 → true = numF (ch :: r)) := Lib.hid fun a b => GOOD.out a (b.imp id (fun h e => h (h48.1 e)))
    have B2 : Hid (n ≠ 1 → k0 = 48 → false = numF (ch :: r)) := Lib.hid fun a b => BZ.out a (h48.2 b)
    have hm2 : k0 ≠ 45 ∨ n = 1 := hm'.imp h45 id
    simp only [h48] at e2
    clear GOOD BZ h48 h45 hm' hk0
    generalize (ch :: r) = l at *
    generalize (⟨l.toArray⟩ : ByteArray) = t at *
    by_cases hbz : n ≠ 1 ∧ k0 = 48
    · obtain ⟨hn1, rfl⟩ := hbz
      have n2 : 1 < n := by omega
      have X := B2.out hn1 rfl
      have XX := Lib.hid X
      clear X
      go_enter Tryz.func45, Tryz.ntmps45
      go_wp2
      go_ret
      exact ⟨ret_b XX.out.symm, (by repeat (first | exact Below.refl _ _ | refine Below.setCell ?_ (by first | (simp; done) | (simp; omega) | omega) _ | refine Below.alloc ?_ (by first | (simp; done) | (simp; omega) | omega) _ | refine Below.drew ?_ | assumption | refine Below.trans ?_ (Below.mono (by assumption) (by first | (simp; done) | (simp; omega) | omega))))⟩
    · have G3 : Hid (digA (l.take n) = true → true = numF l) := Lib.hid fun a => G2.out a (by omega)
      clear B2 G2
      have hcs : (n = 1 ∧ ∃ z, decide (k0 = 48 ∧ n = 1) = z) ∨ (1 < n ∧ k0 ≠ 45 ∧ k0 ≠ 48 ∧ decide (k0 = 48 ∧ n = 1) = false) := by
        by_cases h1 : n = 1
        · exact .inl ⟨h1, _, rfl⟩
        · refine .inr ⟨by omega, by omega, by omega, decide_eq_false (by omega)⟩
      have key : ∀ z, decide (k0 = 48 ∧ n = 1) = z → (n = 1 ∨ (1 < n ∧ k0 ≠ 45 ∧ k0 ≠ 48 ∧ z = false)) → Calls Tryz.prog 45 #[.string t] w fun e w' => e = .returned (.bool (numF l)) ∧ Below w.heap.size w w' := by
        intro z hz hc
        rw [hz] at e2
        clear hz hcs hbz hm2
        rcases hc with rfl | ⟨n2, d45, d48, rfl⟩
        · cases z
          all_goals (
            go_enter Tryz.func45, Tryz.ntmps45
            go_wp2
            go_loopw [4] (fun i wr => ∃ k : Nat, k ≤ 1 ∧ i = .int .i64 k ∧ Hid (digA (l.take k) = true) ∧ Below w.heap.size w wr) (fun i _ => 1 - (intOf i).toNat)
            case atStart => exact ⟨0, by omega, rfl, D0, (by repeat (first | exact Below.refl _ _ | refine Below.setCell ?_ (by first | (simp; done) | (simp; omega) | omega) _ | refine Below.alloc ?_ (by first | (simp; done) | (simp; omega) | omega) _ | refine Below.drew ?_ | assumption | refine Below.trans ?_ (Below.mono (by assumption) (by first | (simp; done) | (simp; omega) | omega))))⟩
            case round =>
              obtain ⟨k, hk, rfl, HD, hB⟩ := hrel
              by_cases hlt : k < 1
              · obtain ⟨b, hb⟩ : ∃ b, l[k]? = some b := ⟨_, List.getElem?_eq_getElem (by rw [HN.out]; exact hlt)⟩
                have pk : k < t.size := by omega
                have fk := AT.out k pk b hb
                have ST2 := Lib.hid (fun h => STEP.out k b hb h HD.out)
                have BD2 := Lib.hid (fun h => BAD.out k b hb h)
                obtain ⟨kk, hkk⟩ : ∃ kk, b.toNat = kk := ⟨_, rfl⟩
                rw [hkk] at fk ST2 BD2
                clear hb hkk
                by_cases hdig : 48 ≤ kk ∧ kk ≤ 57
                · have H1 := Lib.hid (ST2.out hdig)
                  obtain ⟨bd0, bd1⟩ := hdig
                  go_wp2
                  go_roundw
                  case rel => exact ⟨k + 1, by omega, by go_num, H1, (by repeat (first | exact Below.refl _ _ | refine Below.setCell ?_ (by first | (simp; done) | (simp; omega) | omega) _ | refine Below.alloc ?_ (by first | (simp; done) | (simp; omega) | omega) _ | refine Below.drew ?_ | assumption | refine Below.trans ?_ (Below.mono (by assumption) (by first | (simp; done) | (simp; omega) | omega))))⟩
                  case measure => first | (simp [intOf]; done) | (simp [intOf]; omega)
                · have H1 := Lib.hid (BD2.out hdig)
                  by_cases hlow : kk < 48
                  · go_wp2
                    go_ret
                    exact ⟨ret_b H1.out.symm, (by repeat (first | exact Below.refl _ _ | refine Below.setCell ?_ (by first | (simp; done) | (simp; omega) | omega) _ | refine Below.alloc ?_ (by first | (simp; done) | (simp; omega) | omega) _ | refine Below.drew ?_ | assumption | refine Below.trans ?_ (Below.mono (by assumption) (by first | (simp; done) | (simp; omega) | omega))))⟩
                  · have hhi : 57 < kk := by omega
                    go_wp2
                    go_ret
                    exact ⟨ret_b H1.out.symm, (by repeat (first | exact Below.refl _ _ | refine Below.setCell ?_ (by first | (simp; done) | (simp; omega) | omega) _ | refine Below.alloc ?_ (by first | (simp; done) | (simp; omega) | omega) _ | refine Below.drew ?_ | assumption | refine Below.trans ?_ (Below.mono (by assumption) (by first | (simp; done) | (simp; omega) | omega))))⟩
              · obtain rfl : k = 1 := by omega
                go_wp2
                go_ret
                exact ⟨ret_b (G3.out HD.out).symm, (by repeat (first | exact Below.refl _ _ | refine Below.setCell ?_ (by first | (simp; done) | (simp; omega) | omega) _ | refine Below.alloc ?_ (by first | (simp; done) | (simp; omega) | omega) _ | refine Below.drew ?_ | assumption | refine Below.trans ?_ (Below.mono (by assumption) (by first | (simp; done) | (simp; omega) | omega))))⟩)
        · have e45 : ((k0 : Int) == 45) = false := by simp; omega
          have e48 : ((k0 : Int) == 48) = false := by simp; omega
          go_enter Tryz.func45, Tryz.ntmps45
          go_wp2
          go_loopw [4] (fun i wr => ∃ k : Nat, k ≤ n ∧ i = .int .i64 k ∧ Hid (digA (l.take k) = true) ∧ Below w.heap.size w wr) (fun i _ => n - (intOf i).toNat)
          case atStart => exact ⟨0, by omega, rfl, D0, (by repeat (first | exact Below.refl _ _ | refine Below.setCell ?_ (by first | (simp; done) | (simp; omega) | omega) _ | refine Below.alloc ?_ (by first | (simp; done) | (simp; omega) | omega) _ | refine Below.drew ?_ | assumption | refine Below.trans ?_ (Below.mono (by assumption) (by first | (simp; done) | (simp; omega) | omega))))⟩
          case round =>
            obtain ⟨k, hk, rfl, HD, hB⟩ := hrel
            by_cases hlt : k < n
            · obtain ⟨b, hb⟩ : ∃ b, l[k]? = some b := ⟨_, List.getElem?_eq_getElem (by rw [HN.out]; exact hlt)⟩
              have pk : k < t.size := by omega
              have fk := AT.out k pk b hb
              have ST2 := Lib.hid (fun h => STEP.out k b hb h HD.out)
              have BD2 := Lib.hid (fun h => BAD.out k b hb h)
              obtain ⟨kk, hkk⟩ : ∃ kk, b.toNat = kk := ⟨_, rfl⟩
              rw [hkk] at fk ST2 BD2
              clear hb hkk
              by_cases hdig : 48 ≤ kk ∧ kk ≤ 57
              · have H1 := Lib.hid (ST2.out hdig)
                obtain ⟨bd0, bd1⟩ := hdig
                go_wp2
                go_roundw
                case rel => exact ⟨k + 1, by omega, by go_num, H1, (by repeat (first | exact Below.refl _ _ | refine Below.setCell ?_ (by first | (simp; done) | (simp; omega) | omega) _ | refine Below.alloc ?_ (by first | (simp; done) | (simp; omega) | omega) _ | refine Below.drew ?_ | assumption | refine Below.trans ?_ (Below.mono (by assumption) (by first | (simp; done) | (simp; omega) | omega))))⟩
                case measure => first | (simp [intOf]; done) | (simp [intOf]; omega)
              · have H1 := Lib.hid (BD2.out hdig)
                by_cases hlow : kk < 48
                · go_wp2
                  go_ret
                  exact ⟨ret_b H1.out.symm, (by repeat (first | exact Below.refl _ _ | refine Below.setCell ?_ (by first | (simp; done) | (simp; omega) | omega) _ | refine Below.alloc ?_ (by first | (simp; done) | (simp; omega) | omega) _ | refine Below.drew ?_ | assumption | refine Below.trans ?_ (Below.mono (by assumption) (by first | (simp; done) | (simp; omega) | omega))))⟩
                · have hhi : 57 < kk := by omega
                  go_wp2
                  go_ret
                  exact ⟨ret_b H1.out.symm, (by repeat (first | exact Below.refl _ _ | refine Below.setCell ?_ (by first | (simp; done) | (simp; omega) | omega) _ | refine Below.alloc ?_ (by first | (simp; done) | (simp; omega) | omega) _ | refine Below.drew ?_ | assumption | refine Below.trans ?_ (Below.mono (by assumption) (by first | (simp; done) | (simp; omega) | omega))))⟩
            · obtain rfl : k = n := by omega
              go_wp2
              go_ret
              exact ⟨ret_b (G3.out HD.out).symm, (by repeat (first | exact Below.refl _ _ | refine Below.setCell ?_ (by first | (simp; done) | (simp; omega) | omega) _ | refine Below.alloc ?_ (by first | (simp; done) | (simp; omega) | omega) _ | refine Below.drew ?_ | assumption | refine Below.trans ?_ (Below.mono (by assumption) (by first | (simp; done) | (simp; omega) | omega))))⟩
      rcases hcs with ⟨h1, z, hz⟩ | ⟨h1, h2, h3, h4⟩
      · exact key z hz (.inl h1)
      · exact key false h4 (.inr ⟨h1, h2, h3, rfl⟩)
end Go.Proofs.YtkaimfeiahogaaaGreatDoor

/-
  Contract of exref.NumberForm at a minus with something behind it; exref14.plain.
-/
namespace Go.Proofs.YtkaimfeiahogaaaGreatDoor
set_option linter.all false
open Go.RowKit Go.Sort
attribute [local go_sem] cell_set_self lt_1 lt_2 lt_3 lt_4 lt_5 lt_6

/-- What NumberForm answers at a minus and d. -/
def mF (d : List UInt8) : Bool := numF d && decide (d ≠ [48])
theorem mF_bad {d : List UInt8} (h : numF d = false) : mF d = false := by unfold mF; rw [h]; rfl
theorem ba_tail9 {t d : ByteArray} {b : UInt8} {l : List UInt8} (e : t = ⟨(b :: l).toArray⟩) (h : d = ⟨l.toArray⟩) {n : Nat} (hn : n = l.length) : t.extract 1 (n + 1) = d := by
  subst e; subst h; subst hn
  refine ByteArray.ext ?_
  rw [ByteArray.data_extract]
  simp
set_option maxHeartbeats 4000000 in
set_option maxRecDepth 100000 in
theorem form_minus (ch : UInt8) (r : List UInt8) (hlen : (ch :: r).length ≤ 1000000) (w : World) :
    Calls Tryz.prog 45 #[.string ⟨(45 :: ch :: r).toArray⟩] w fun e w' => e = .returned (.bool (mF (ch :: r))) ∧ Below w.heap.size w w' := by
  have AT : Hid (∀ i (h : i < (⟨(ch :: r).toArray⟩ : ByteArray).size) (c : UInt8), (ch :: r)[i]? = some c → ((⟨(ch :: r).toArray⟩ : ByteArray)[i]'h).toNat = c.toNat) := Lib.hid fun i h c hc => by
    obtain ⟨h1, h2⟩ := List.getElem?_eq_some_iff.1 hc
    rw [← h2]; rfl
  obtain ⟨n, hn⟩ : ∃ n, (ch :: r).length = n := ⟨_, rfl⟩
  have HN := Lib.hid hn
  have ht2 : (⟨(ch :: r).toArray⟩ : ByteArray).size = n := by rw [ba_szP, hn]
  have hts : (⟨(45 :: ch :: r).toArray⟩ : ByteArray).size = n + 1 := by rw [ba_szP, List.length_cons, hn]
  have ex : (⟨(45 :: ch :: r).toArray⟩ : ByteArray).extract 1 (n + 1) = ⟨(ch :: r).toArray⟩ := ba_tail9 rfl rfl hn.symm
  have pt0 : 0 < (⟨(45 :: ch :: r).toArray⟩ : ByteArray).size := by omega
  have ft0 : ((⟨(45 :: ch :: r).toArray⟩ : ByteArray)[0]'pt0).toNat = 45 := rfl
  have n0 : 0 < n := by rw [← hn]; simp
  have n1 : n ≤ 1000000 := by omega
  have p0 : 0 < (⟨(ch :: r).toArray⟩ : ByteArray).size := by omega
  have f0 := AT.out 0 p0 ch rfl
  have hr : r = [] ↔ n = 1 := by rw [← hn]; simp
  have e1 : ((⟨(ch :: r).toArray⟩ : ByteArray).toList == []) = false := by rw [ByteArray.toList_mk]; rfl
  have h12 : (ch :: r) = [48] ↔ (ch = 48 ∧ r = []) := by simp
  have e2 : ((⟨(ch :: r).toArray⟩ : ByteArray).toList == [48]) = decide (ch = 48 ∧ r = []) := by
    rw [ByteArray.toList_mk]
    by_cases h : ch = 48 ∧ r = []
    · obtain ⟨rfl, rfl⟩ := h; rfl
    · rw [decide_eq_false h, beq_eq_false_iff_ne]
      intro e; injection e with a b; exact h ⟨a, b⟩
  have GOOD : Hid (digA ((ch :: r).take n) = true → ch ≠ 48 → true = mF (ch :: r)) := Lib.hid fun h h0 => by
    rw [List.take_of_length_le (by rw [hn]; exact Nat.le_refl _)] at h
    have hne : ch :: r ≠ [48] := fun e => h0 (h12.1 e).1
    unfold mF
    rw [numF_good h (.inr h0), decide_eq_true hne]; rfl
  have BAD : Hid (∀ (k : Nat) (b : UInt8), (ch :: r)[k]? = some b → ¬ (48 ≤ b.toNat ∧ b.toNat ≤ 57) → false = mF (ch :: r)) := Lib.hid fun k b hk h => (mF_bad (numF_bad hk h)).symm
  have STEP := Lib.hid (fun (k : Nat) (b : UInt8) (hk : (ch :: r)[k]? = some b) h ht => digA_step hk h ht)
  have D0 : Hid (digA ((ch :: r).take 0) = true) := Lib.hid rfl
  have BZ : Hid (ch = 48 → false = mF (ch :: r)) := Lib.hid fun h2 => by
    subst h2
    by_cases h1 : r = []
    · subst h1; rfl
    · exact (mF_bad (numF_zero h1)).symm
  have hz : (ch = 48 ∧ r = []) ↔ (ch = 48 ∧ n = 1) := by rw [hr]
  simp only [hz] at e2
  clear hlen hn hr hz h12
  obtain ⟨k0, hk0⟩ : ∃ k, ch.toNat = k := ⟨_, rfl⟩
  rw [hk0] at f0
  have h48 : ch = 48 ↔ k0 = 48 := by rw [← hk0]; exact ⟨fun h => by rw [h]; rfl, fun h => UInt8.toNat_inj.1 (by rw [h]; rfl)⟩
  have G2 : Hid (digA ((ch :: r).take n) = true → k0 ≠ 48 → true = mF (ch :: r)) := Lib.hid fun a b => GOOD.out a (fun e => b (h48.1 e))
  have B2 : Hid (k0 = 48 → false = mF (ch :: r)) := Lib.hid fun b => BZ.out (h48.2 b)
  simp only [h48] at e2
  clear GOOD BZ h48 hk0
  generalize (⟨(45 :: ch :: r).toArray⟩ : ByteArray) = t at *
  generalize (ch :: r) = l at *
  generalize (⟨l.toArray⟩ : ByteArray) = t2 at *
  by_cases hbz : k0 = 48
  · have XX := Lib.hid (B2.out hbz)
    by_cases h1 : n = 1
    · have e3 : (t2.toList == [48]) = true := by rw [e2]; exact decide_eq_true ⟨hbz, h1⟩
      clear e2
      subst h1
      subst hbz
      go_enter Tryz.func45, Tryz.ntmps45
      go_wp2
      go_ret
      exact ⟨ret_b XX.out.symm, (by repeat (first | exact Below.refl _ _ | refine Below.setCell ?_ (by first | (simp; done) | (simp; omega) | omega) _ | refine Below.alloc ?_ (by first | (simp; done) | (simp; omega) | omega) _ | refine Below.drew ?_ | assumption | refine Below.trans ?_ (Below.mono (by assumption) (by first | (simp; done) | (simp; omega) | omega))))⟩
    · have n2 : 1 < n := by omega
      have e3 : (t2.toList == [48]) = false := by rw [e2]; exact decide_eq_false (by omega)
      clear e2 h1
      subst hbz
      go_enter Tryz.func45, Tryz.ntmps45
      go_wp2
      go_ret
      exact ⟨ret_b XX.out.symm, (by repeat (first | exact Below.refl _ _ | refine Below.setCell ?_ (by first | (simp; done) | (simp; omega) | omega) _ | refine Below.alloc ?_ (by first | (simp; done) | (simp; omega) | omega) _ | refine Below.drew ?_ | assumption | refine Below.trans ?_ (Below.mono (by assumption) (by first | (simp; done) | (simp; omega) | omega))))⟩
  · have G3 : Hid (digA (l.take n) = true → true = mF l) := Lib.hid fun a => G2.out a hbz
    have e3 : (t2.toList == [48]) = false := by rw [e2]; exact decide_eq_false (by omega)
    clear B2 G2 e2
    by_cases h1 : n = 1
    · subst h1
      go_enter Tryz.func45, Tryz.ntmps45
      go_wp2
      go_loopw [4] (fun i wr => ∃ k : Nat, k ≤ 1 ∧ i = .int .i64 k ∧ Hid (digA (l.take k) = true) ∧ Below w.heap.size w wr) (fun i _ => 1 - (intOf i).toNat)
      case atStart => exact ⟨0, by omega, rfl, D0, (by repeat (first | exact Below.refl _ _ | refine Below.setCell ?_ (by first | (simp; done) | (simp; omega) | omega) _ | refine Below.alloc ?_ (by first | (simp; done) | (simp; omega) | omega) _ | refine Below.drew ?_ | assumption | refine Below.trans ?_ (Below.mono (by assumption) (by first | (simp; done) | (simp; omega) | omega))))⟩
      case round =>
        obtain ⟨k, hk, rfl, HD, hB⟩ := hrel
        by_cases hlt : k < 1
        · obtain ⟨b, hb⟩ : ∃ b, l[k]? = some b := ⟨_, List.getElem?_eq_getElem (by rw [HN.out]; exact hlt)⟩
          have pk : k < t2.size := by omega
          have fk := AT.out k pk b hb
          have ST2 := Lib.hid (fun h => STEP.out k b hb h HD.out)
          have BD2 := Lib.hid (fun h => BAD.out k b hb h)
          obtain ⟨kk, hkk⟩ : ∃ kk, b.toNat = kk := ⟨_, rfl⟩
          rw [hkk] at fk ST2 BD2
          clear hb hkk
          by_cases hdig : 48 ≤ kk ∧ kk ≤ 57
          · have H1 := Lib.hid (ST2.out hdig)
            obtain ⟨bd0, bd1⟩ := hdig
            go_wp2
            go_roundw
            case rel => exact ⟨k + 1, by omega, by go_num, H1, (by repeat (first | exact Below.refl _ _ | refine Below.setCell ?_ (by first | (simp; done) | (simp; omega) | omega) _ | refine Below.alloc ?_ (by first | (simp; done) | (simp; omega) | omega) _ | refine Below.drew ?_ | assumption | refine Below.trans ?_ (Below.mono (by assumption) (by first | (simp; done) | (simp; omega) | omega))))⟩
            case measure => first | (simp [intOf]; done) | (simp [intOf]; omega)
          · have H1 := Lib.hid (BD2.out hdig)
            by_cases hlow : kk < 48
            · go_wp2
              go_ret
              exact ⟨ret_b H1.out.symm, (by repeat (first | exact Below.refl _ _ | refine Below.setCell ?_ (by first | (simp; done) | (simp; omega) | omega) _ | refine Below.alloc ?_ (by first | (simp; done) | (simp; omega) | omega) _ | refine Below.drew ?_ | assumption | refine Below.trans ?_ (Below.mono (by assumption) (by first | (simp; done) | (simp; omega) | omega))))⟩
            · have hhi : 57 < kk := by omega
              go_wp2
              go_ret
              exact ⟨ret_b H1.out.symm, (by repeat (first | exact Below.refl _ _ | refine Below.setCell ?_ (by first | (simp; done) | (simp; omega) | omega) _ | refine Below.alloc ?_ (by first | (simp; done) | (simp; omega) | omega) _ | refine Below.drew ?_ | assumption | refine Below.trans ?_ (Below.mono (by assumption) (by first | (simp; done) | (simp; omega) | omega))))⟩
        · obtain rfl : k = 1 := by omega
          go_wp2
          go_ret
          exact ⟨ret_b (G3.out HD.out).symm, (by repeat (first | exact Below.refl _ _ | refine Below.setCell ?_ (by first | (simp; done) | (simp; omega) | omega) _ | refine Below.alloc ?_ (by first | (simp; done) | (simp; omega) | omega) _ | refine Below.drew ?_ | assumption | refine Below.trans ?_ (Below.mono (by assumption) (by first | (simp; done) | (simp; omega) | omega))))⟩
    · have n2 : 1 < n := by omega
      have e48 : ((k0 : Int) == 48) = false := by simp; omega
      clear h1
      go_enter Tryz.func45, Tryz.ntmps45
      go_wp2
      go_loopw [4] (fun i wr => ∃ k : Nat, k ≤ n ∧ i = .int .i64 k ∧ Hid (digA (l.take k) = true) ∧ Below w.heap.size w wr) (fun i _ => n - (intOf i).toNat)
      case atStart => exact ⟨0, by omega, rfl, D0, (by repeat (first | exact Below.refl _ _ | refine Below.setCell ?_ (by first | (simp; done) | (simp; omega) | omega) _ | refine Below.alloc ?_ (by first | (simp; done) | (simp; omega) | omega) _ | refine Below.drew ?_ | assumption | refine Below.trans ?_ (Below.mono (by assumption) (by first | (simp; done) | (simp; omega) | omega))))⟩
      case round =>
        obtain ⟨k, hk, rfl, HD, hB⟩ := hrel
        by_cases hlt : k < n
        · obtain ⟨b, hb⟩ : ∃ b, l[k]? = some b := ⟨_, List.getElem?_eq_getElem (by rw [HN.out]; exact hlt)⟩
          have pk : k < t2.size := by omega
          have fk := AT.out k pk b hb
          have ST2 := Lib.hid (fun h => STEP.out k b hb h HD.out)
          have BD2 := Lib.hid (fun h => BAD.out k b hb h)
          obtain ⟨kk, hkk⟩ : ∃ kk, b.toNat = kk := ⟨_, rfl⟩
          rw [hkk] at fk ST2 BD2
          clear hb hkk
          by_cases hdig : 48 ≤ kk ∧ kk ≤ 57
          · have H1 := Lib.hid (ST2.out hdig)
            obtain ⟨bd0, bd1⟩ := hdig
            go_wp2
            go_roundw
            case rel => exact ⟨k + 1, by omega, by go_num, H1, (by repeat (first | exact Below.refl _ _ | refine Below.setCell ?_ (by first | (simp; done) | (simp; omega) | omega) _ | refine Below.alloc ?_ (by first | (simp; done) | (simp; omega) | omega) _ | refine Below.drew ?_ | assumption | refine Below.trans ?_ (Below.mono (by assumption) (by first | (simp; done) | (simp; omega) | omega))))⟩
            case measure => first | (simp [intOf]; done) | (simp [intOf]; omega)
          · have H1 := Lib.hid (BD2.out hdig)
            by_cases hlow : kk < 48
            · go_wp2
              go_ret
              exact ⟨ret_b H1.out.symm, (by repeat (first | exact Below.refl _ _ | refine Below.setCell ?_ (by first | (simp; done) | (simp; omega) | omega) _ | refine Below.alloc ?_ (by first | (simp; done) | (simp; omega) | omega) _ | refine Below.drew ?_ | assumption | refine Below.trans ?_ (Below.mono (by assumption) (by first | (simp; done) | (simp; omega) | omega))))⟩
            · have hhi : 57 < kk := by omega
              go_wp2
              go_ret
              exact ⟨ret_b H1.out.symm, (by repeat (first | exact Below.refl _ _ | refine Below.setCell ?_ (by first | (simp; done) | (simp; omega) | omega) _ | refine Below.alloc ?_ (by first | (simp; done) | (simp; omega) | omega) _ | refine Below.drew ?_ | assumption | refine Below.trans ?_ (Below.mono (by assumption) (by first | (simp; done) | (simp; omega) | omega))))⟩
        · obtain rfl : k = n := by omega
          go_wp2
          go_ret
          exact ⟨ret_b (G3.out HD.out).symm, (by repeat (first | exact Below.refl _ _ | refine Below.setCell ?_ (by first | (simp; done) | (simp; omega) | omega) _ | refine Below.alloc ?_ (by first | (simp; done) | (simp; omega) | omega) _ | refine Below.drew ?_ | assumption | refine Below.trans ?_ (Below.mono (by assumption) (by first | (simp; done) | (simp; omega) | omega))))⟩
/-- exref14.plain: a number's form without a minus. -/
theorem dvA_low : ∀ (l : List UInt8) (a : Nat), a * 10 ^ l.length ≤ dvA a l
  | [], a => by simp [dvA]
  | b :: l, a => by
    rw [dvA_cons, List.length_cons, Nat.pow_succ]
    have h := dvA_low l (10 * a + (b.toNat - 48))
    have : a * (10 ^ l.length * 10) ≤ (10 * a + (b.toNat - 48)) * 10 ^ l.length := by
      rw [Nat.add_mul, show a * (10 ^ l.length * 10) = 10 * a * 10 ^ l.length by rw [Nat.mul_comm (10 ^ l.length) 10, ← Nat.mul_assoc, Nat.mul_comm a 10]]
      exact Nat.le_add_right _ _
    omega
theorem dv_big {l : List UInt8} (hF : numF l = true) (h : 19 < l.length) : 10000000000000000000 ≤ dv l := by
  obtain ⟨_, hd, h0⟩ := numF_iff.1 hF
  cases l with
  | nil => simp at h
  | cons c r =>
    have hc := hd c (List.mem_cons_self ..)
    have hne : c ≠ 48 := by
      rcases h0 with h1 | h1
      · omega
      · simpa using h1
    have hne' : c.toNat ≠ 48 := fun e => hne (UInt8.toNat_inj.1 e)
    have e : dv (c :: r) = dvA (10 * 0 + (c.toNat - 48)) r := by rw [← dvA_cons]; rfl
    have low := dvA_low r (10 * 0 + (c.toNat - 48))
    rw [e]
    have hp : (10 : Nat) ^ 19 ≤ 10 ^ r.length := Nat.pow_le_pow_right (by decide) (by simp at h; omega)
    have h10 : 1 * 10 ^ r.length ≤ (10 * 0 + (c.toNat - 48)) * 10 ^ r.length := Nat.mul_le_mul_right _ (by omega)
    have : (10 : Nat) ^ 19 = 10000000000000000000 := by decide
    omega
theorem ret_ib2 {a b : Int} {p q : Bool} (h1 : a = b) (h2 : p = q) : Ending.returned (.tuple #[.int .i64 b, .bool q]) = .returned (.tuple #[.int .i64 a, .bool p]) := by rw [h1, h2]
set_option maxHeartbeats 4000000 in
set_option maxRecDepth 100000 in
theorem atoi_plain (l : List UInt8) (hF : numF l = true) (hlen : l.length ≤ 1000000) (w : World) :
    Calls Tryz.prog 46 #[.string ⟨l.toArray⟩] w fun e w' => e = .returned (.tuple #[.int .i64 (valN 0 l), .bool (fitsN l)]) ∧ Below w.heap.size w w' := by
  obtain ⟨hne, hd, h0⟩ := numF_iff.1 hF
  have hv : valN 0 l = intN (dv l : Int) := by
    unfold valN intN
    by_cases h : dv l < 9223372036854775808
    · rw [if_pos h, if_pos (by omega)]
    · rw [if_neg h, if_neg (by omega)]
  have hf : fitsN l = intB (dv l : Int) := by
    unfold fitsN intB
    rw [decide_eq_decide]; omega
  by_cases h60 : l.length ≤ 60
  · rw [hv, hf]
    refine atoi_pos _ l l.length (dv l) rfl rfl h60 (by have : l.length ≠ 0 := fun e => hne (List.eq_nil_of_length_eq_zero e); omega) hd ?_ rfl (fun h => dv_big hF h) w
    rcases h0 with h0 | h0
    · exact .inl h0
    · refine .inr fun b hb e => h0 ?_
      cases l with
      | nil => simp at hb
      | cons c r => simp at hb; subst hb; rw [List.head?_cons, UInt8.toNat_inj.1 (show c.toNat = (48 : UInt8).toNat from e)]
  · have hbig := dv_big hF (by omega)
    have R1 : valN 0 l = 0 := by unfold valN; rw [if_neg (by omega)]
    have R2 : fitsN l = false := by unfold fitsN; exact decide_eq_false (by omega)
    rw [R1, R2]
    cases l with
    | nil => simp at h60
    | cons ch r =>
      have hc := hd ch (List.mem_cons_self ..)
      have FO := form_free (ch :: r) hlen (fun c' r' h => by injection h with h _; subst h; exact .inl (fun e => by rw [e] at hc; exact absurd hc (by decide))) w
      rw [hF] at FO
      have FO := Lib.hid FO
      have hsz := ba_szP (ch :: r)
      have p0 : 0 < (⟨(ch :: r).toArray⟩ : ByteArray).size := by rw [hsz]; simp
      have p0' : (0 : Int) < (⟨(ch :: r).toArray⟩ : ByteArray).size := by omega
      have h19 : (19 : Int) < (⟨(ch :: r).toArray⟩ : ByteArray).size := by omega
      have f0 : ((⟨(ch :: r).toArray⟩ : ByteArray)[0]'p0).toNat = ch.toNat := rfl
      have d45 : ((ch.toNat : Int) == 45) = false := by simp; omega
      generalize ch.toNat = k0 at f0 d45
      clear hsz hv hf h60 hbig R1 R2 hF hne hd h0 hc hlen
      generalize (⟨(ch :: r).toArray⟩ : ByteArray) = t at *
      go_enter Tryz.func46, Tryz.ntmps46
      go_wp2_with (first | (go_at_call 45; refine (FO.out).mono ?_; rintro e w1 ⟨rfl, hb1⟩; obtain ⟨hc1, hf1⟩ := bcell hb1; have hs1 := hb1.size; (try simp at hs1)))
      go_ret2
      exact ⟨rfl, (by repeat (first | exact Below.refl _ _ | refine Below.setCell ?_ (by first | (simp; done) | (simp; omega) | omega) _ | refine Below.alloc ?_ (by first | (simp; done) | (simp; omega) | omega) _ | refine Below.drew ?_ | assumption | refine Below.trans ?_ (Below.mono (by assumption) (by first | (simp; done) | (simp; omega) | omega))))⟩
end Go.Proofs.YtkaimfeiahogaaaGreatDoor
