/-
  Contract of exref.Atoi at a number's text.
-/
import Derived.Test.YtdpoahfjiomhbaaGreatDoorBw12
namespace Go.Proofs.YtdpoahfjiomhbaaGreatDoor
set_option linter.all false
open Go.RowKit Go.Sort
attribute [local go_sem] cell_set_self lt_1 lt_2 lt_3 lt_4 lt_5 lt_6

theorem ret_ib {a b : Int} {p q : Bool} (h : a = b ∧ p = q) : Ending.returned (.tuple #[.int .i64 b, .bool q]) = .returned (.tuple #[.int .i64 a, .bool p]) := by rw [h.1, h.2]

set_option maxHeartbeats 4000000 in
set_option maxRecDepth 100000 in
theorem atoi_pos (t : ByteArray) (l : List UInt8) (n M : Nat) (ht : t = ⟨l.toArray⟩) (hl : l.length = n) (hn : n ≤ 60) (n0 : 0 < n) (hd : DigB l) (hh : n = 1 ∨ ∀ b, l[0]? = some b → b.toNat ≠ 48) (hM : dv l = M) (hbig : 19 < n → 10000000000000000000 ≤ M) (w : World) :
    Calls Tryz.prog 66 #[.string t] w fun e w' => e = .returned (.tuple #[.int .i64 (intN (M : Int)), .bool (intB (M : Int))]) ∧ Below w.heap.size w w' := by
  have FO := Lib.hid (fun W => form_pos t l n ht hl hn n0 hd hh W)
  have hs : t.size = n := by rw [ht, ba_size, hl]
  have AT := Lib.hid (fun i b h hi => ba_at (i := i) (b := b) ht h hi)
  have HD := Lib.hid hd; have HL := Lib.hid hl; have HM := Lib.hid hM
  obtain ⟨b0, hb0⟩ : ∃ b, l[0]? = some b := ⟨_, List.getElem?_eq_getElem (by omega)⟩
  have p0 : 0 < t.size := by omega
  have f0 := AT.out 0 b0 hb0 p0
  obtain ⟨k0, hk0⟩ : ∃ k, b0.toNat = k := ⟨_, rfl⟩
  rw [hk0] at f0
  have kb : 48 ≤ k0 ∧ k0 ≤ 57 := by rw [← hk0]; exact hd b0 (List.mem_of_getElem? hb0)
  obtain ⟨kb0, kb1⟩ := kb
  have d45 : ((k0 : Int) == 45) = false := by simp; omega
  clear hd hl hh hb0 hk0 ht hM
  by_cases big : 19 < n
  · have hm := hbig big
    have R : Hid (intN (M : Int) = 0 ∧ intB (M : Int) = false) := Lib.hid (by unfold intN intB; exact ⟨by rw [if_neg (by omega)], decide_eq_false (by omega)⟩)
    clear hbig hm HM
    go_enter Tryz.func66, Tryz.ntmps66
    go_wp2_with (first | (go_at_call 114; refine (FO.out _).mono ?_; rintro e w1 ⟨rfl, hb1⟩; obtain ⟨hc1, hf1⟩ := bcell hb1; have hs1 := hb1.size; (try simp at hs1)))
    go_ret2
    exact ⟨ret_ib R.out, (by repeat (first | exact Below.refl _ _ | refine Below.setCell ?_ (by first | (simp; done) | (simp; omega) | omega) _ | refine Below.alloc ?_ (by first | (simp; done) | (simp; omega) | omega) _ | refine Below.drew ?_ | assumption | refine Below.trans ?_ (Below.mono (by assumption) (by first | (simp; done) | (simp; omega) | omega))))⟩
  · clear hbig
    go_enter Tryz.func66, Tryz.ntmps66
    go_wp2_with (first | (go_at_call 114; refine (FO.out _).mono ?_; rintro e w1 ⟨rfl, hb1⟩; obtain ⟨hc1, hf1⟩ := bcell hb1; have hs1 := hb1.size; (try simp at hs1)))
    go_loopw [7, 8] (fun u i wr => ∃ (k : Nat) (z : Int), k ≤ n ∧ i = .int .i64 k ∧ u = .int .i64 z ∧ -9223372036854775808 ≤ z ∧ z ≤ 0 ∧ Hid (z = -((dv (l.take k) : Nat) : Int)) ∧ Below w.heap.size w wr) (fun _ i _ => n - (intOf i).toNat)
    case atStart => exact ⟨0, 0, by omega, rfl, rfl, by omega, by omega, Lib.hid (by simp [dv]), (by repeat (first | exact Below.refl _ _ | refine Below.setCell ?_ (by first | (simp; done) | (simp; omega) | omega) _ | refine Below.alloc ?_ (by first | (simp; done) | (simp; omega) | omega) _ | refine Below.drew ?_ | assumption | refine Below.trans ?_ (Below.mono (by assumption) (by first | (simp; done) | (simp; omega) | omega))))⟩
    case round =>
      obtain ⟨k, z, hk, rfl, rfl, z0, z1, hz, hB⟩ := hrel
      by_cases hlt : k < n
      · obtain ⟨b, hb⟩ : ∃ b, l[k]? = some b := ⟨_, List.getElem?_eq_getElem (by rw [HL.out]; exact hlt)⟩
        have pk : k < t.size := by omega
        have fk := AT.out k b hb pk
        obtain ⟨kk, hkk⟩ : ∃ kk, b.toNat = kk := ⟨_, rfl⟩
        have bd : 48 ≤ kk ∧ kk ≤ 57 := by rw [← hkk]; exact HD.out b (List.mem_of_getElem? hb)
        have tk := dv_take hb
        rw [hkk] at fk tk
        obtain ⟨x, rfl⟩ : ∃ x, kk = x + 48 := ⟨kk - 48, by omega⟩
        rw [Nat.add_sub_cancel] at tk
        have x9 : x ≤ 9 := by omega
        have mono := dv_mono l (k + 1) n (by omega)
        rw [List.take_of_length_le (show l.length ≤ n by rw [HL.out]; exact Nat.le_refl _), HM.out] at mono
        obtain ⟨q, hq⟩ : ∃ q, (-9223372036854775808 + (x : Int)).tdiv 10 = q := ⟨_, rfl⟩
        have hq2 : q = -((9223372036854775808 - (x : Int)) / 10) := by
          rw [← hq, show (-9223372036854775808 + (x : Int)) = -(9223372036854775808 - (x : Int)) by omega, Int.neg_tdiv, Int.tdiv_eq_ediv_of_nonneg (by omega)]
        have q0 : -922337203685477581 ≤ q ∧ q ≤ 0 := by omega
        obtain ⟨q1, q2⟩ := q0
        have hz' := hz.out
        by_cases ov : z < q
        · have R : Hid (intN ((M : Int)) = 0 ∧ intB ((M : Int)) = false) := Lib.hid (by unfold intN intB; exact ⟨by rw [if_neg (by omega)], decide_eq_false (by omega)⟩)
          clear hb hkk AT HL HD HM bd tk mono hq2 hz hz'
          go_wp2
          go_ret2
          exact ⟨ret_ib R.out, (by repeat (first | exact Below.refl _ _ | refine Below.setCell ?_ (by first | (simp; done) | (simp; omega) | omega) _ | refine Below.alloc ?_ (by first | (simp; done) | (simp; omega) | omega) _ | refine Below.drew ?_ | assumption | refine Below.trans ?_ (Below.mono (by assumption) (by first | (simp; done) | (simp; omega) | omega))))⟩
        · obtain ⟨z', hz2⟩ : ∃ z', 10 * z - (x : Int) = z' := ⟨_, rfl⟩
          have b0 : -9223372036854775808 ≤ z' ∧ z' ≤ 0 := by omega
          have HN : Hid (z' = -((dv (l.take (k + 1)) : Nat) : Int)) := Lib.hid (by omega)
          have b2 : -9223372036854775808 ≤ 10 * z := by omega
          obtain ⟨b0, b1⟩ := b0
          clear hb hkk AT HL HD HM bd tk mono hq2 hz hz'
          go_wp2
          go_roundw
          case rel => exact ⟨k + 1, z', by omega, by go_num, rfl, b0, b1, HN, (by repeat (first | exact Below.refl _ _ | refine Below.setCell ?_ (by first | (simp; done) | (simp; omega) | omega) _ | refine Below.alloc ?_ (by first | (simp; done) | (simp; omega) | omega) _ | refine Below.drew ?_ | assumption | refine Below.trans ?_ (Below.mono (by assumption) (by first | (simp; done) | (simp; omega) | omega))))⟩
          case measure => first | (simp [intOf]; done) | (simp [intOf]; omega)
      · have hkn : k = n := by omega
        subst hkn
        have hz' := hz.out
        rw [List.take_of_length_le (by rw [HL.out]; exact Nat.le_refl _), HM.out] at hz'
        clear AT HD hz
        by_cases top : z = -9223372036854775808
        · subst top
          have R : Hid (intN ((M : Int)) = 0 ∧ intB ((M : Int)) = false) := Lib.hid (by unfold intN intB; exact ⟨by rw [if_neg (by omega)], decide_eq_false (by omega)⟩)
          clear hz' HM HL
          go_wp2
          go_ret2
          exact ⟨ret_ib R.out, (by repeat (first | exact Below.refl _ _ | refine Below.setCell ?_ (by first | (simp; done) | (simp; omega) | omega) _ | refine Below.alloc ?_ (by first | (simp; done) | (simp; omega) | omega) _ | refine Below.drew ?_ | assumption | refine Below.trans ?_ (Below.mono (by assumption) (by first | (simp; done) | (simp; omega) | omega))))⟩
        · have R : Hid (intN ((M : Int)) = -z ∧ intB ((M : Int)) = true) := Lib.hid (by unfold intN intB; exact ⟨by rw [if_pos (by omega)]; omega, decide_eq_true (by omega)⟩)
          clear hz' HM HL
          go_wp2
          go_ret2
          exact ⟨ret_ib R.out, (by repeat (first | exact Below.refl _ _ | refine Below.setCell ?_ (by first | (simp; done) | (simp; omega) | omega) _ | refine Below.alloc ?_ (by first | (simp; done) | (simp; omega) | omega) _ | refine Below.drew ?_ | assumption | refine Below.trans ?_ (Below.mono (by assumption) (by first | (simp; done) | (simp; omega) | omega))))⟩

set_option maxHeartbeats 4000000 in
set_option maxRecDepth 100000 in
theorem atoi_neg (t t2 : ByteArray) (l : List UInt8) (n M : Nat) (ht : t = ⟨(45 :: l).toArray⟩) (ht2 : t2 = ⟨l.toArray⟩) (hl : l.length = n) (hn : n ≤ 60) (n0 : 0 < n) (hd : DigB l) (hh : ∀ b, l[0]? = some b → b.toNat ≠ 48) (hM : dv l = M) (hbig : 19 < n → 10000000000000000000 ≤ M) (w : World) :
    Calls Tryz.prog 66 #[.string t] w fun e w' => e = .returned (.tuple #[.int .i64 (intN (-(M : Int))), .bool (intB (-(M : Int)))]) ∧ Below w.heap.size w w' := by
  have FO := Lib.hid (fun W => form_neg t t2 l n ht ht2 hl hn n0 hd hh W)
  have hs : t.size = n + 1 := by rw [ht, ba_size]; simp [hl]
  have hs2 : t2.size = n := by rw [ht2, ba_size, hl]
  have hx := ba_tail ht ht2 hl.symm
  have p00 : 0 < t.size := by omega
  have f00 : (t[0]'p00).toNat = 45 := ba_at ht (i := 0) (b := 45) rfl p00
  have AT := Lib.hid (fun i b h hi => ba_at (i := i) (b := b) ht2 h hi)
  have HD := Lib.hid hd; have HL := Lib.hid hl; have HM := Lib.hid hM
  clear hd hl hh ht ht2 hM
  by_cases big : 19 < n
  · have hm := hbig big
    have R : Hid (intN (-(M : Int)) = 0 ∧ intB (-(M : Int)) = false) := Lib.hid (by unfold intN intB; exact ⟨by rw [if_neg (by omega)], decide_eq_false (by omega)⟩)
    clear hbig hm HM
    go_enter Tryz.func66, Tryz.ntmps66
    go_wp2_with (first | (go_at_call 114; refine (FO.out _).mono ?_; rintro e w1 ⟨rfl, hb1⟩; obtain ⟨hc1, hf1⟩ := bcell hb1; have hs1 := hb1.size; (try simp at hs1)))
    go_ret2
    exact ⟨ret_ib R.out, (by repeat (first | exact Below.refl _ _ | refine Below.setCell ?_ (by first | (simp; done) | (simp; omega) | omega) _ | refine Below.alloc ?_ (by first | (simp; done) | (simp; omega) | omega) _ | refine Below.drew ?_ | assumption | refine Below.trans ?_ (Below.mono (by assumption) (by first | (simp; done) | (simp; omega) | omega))))⟩
  · clear hbig
    go_enter Tryz.func66, Tryz.ntmps66
    go_wp2_with (first | (go_at_call 114; refine (FO.out _).mono ?_; rintro e w1 ⟨rfl, hb1⟩; obtain ⟨hc1, hf1⟩ := bcell hb1; have hs1 := hb1.size; (try simp at hs1)))
    go_loopw [7, 8] (fun u i wr => ∃ (k : Nat) (z : Int), k ≤ n ∧ i = .int .i64 k ∧ u = .int .i64 z ∧ -9223372036854775808 ≤ z ∧ z ≤ 0 ∧ Hid (z = -((dv (l.take k) : Nat) : Int)) ∧ Below w.heap.size w wr) (fun _ i _ => n - (intOf i).toNat)
    case atStart => exact ⟨0, 0, by omega, rfl, rfl, by omega, by omega, Lib.hid (by simp [dv]), (by repeat (first | exact Below.refl _ _ | refine Below.setCell ?_ (by first | (simp; done) | (simp; omega) | omega) _ | refine Below.alloc ?_ (by first | (simp; done) | (simp; omega) | omega) _ | refine Below.drew ?_ | assumption | refine Below.trans ?_ (Below.mono (by assumption) (by first | (simp; done) | (simp; omega) | omega))))⟩
    case round =>
      obtain ⟨k, z, hk, rfl, rfl, z0, z1, hz, hB⟩ := hrel
      by_cases hlt : k < n
      · obtain ⟨b, hb⟩ : ∃ b, l[k]? = some b := ⟨_, List.getElem?_eq_getElem (by rw [HL.out]; exact hlt)⟩
        have pk : k < t2.size := by omega
        have fk := AT.out k b hb pk
        obtain ⟨kk, hkk⟩ : ∃ kk, b.toNat = kk := ⟨_, rfl⟩
        have bd : 48 ≤ kk ∧ kk ≤ 57 := by rw [← hkk]; exact HD.out b (List.mem_of_getElem? hb)
        have tk := dv_take hb
        rw [hkk] at fk tk
        obtain ⟨x, rfl⟩ : ∃ x, kk = x + 48 := ⟨kk - 48, by omega⟩
        rw [Nat.add_sub_cancel] at tk
        have x9 : x ≤ 9 := by omega
        have mono := dv_mono l (k + 1) n (by omega)
        rw [List.take_of_length_le (show l.length ≤ n by rw [HL.out]; exact Nat.le_refl _), HM.out] at mono
        obtain ⟨q, hq⟩ : ∃ q, (-9223372036854775808 + (x : Int)).tdiv 10 = q := ⟨_, rfl⟩
        have hq2 : q = -((9223372036854775808 - (x : Int)) / 10) := by
          rw [← hq, show (-9223372036854775808 + (x : Int)) = -(9223372036854775808 - (x : Int)) by omega, Int.neg_tdiv, Int.tdiv_eq_ediv_of_nonneg (by omega)]
        have q0 : -922337203685477581 ≤ q ∧ q ≤ 0 := by omega
        obtain ⟨q1, q2⟩ := q0
        have hz' := hz.out
        by_cases ov : z < q
        · have R : Hid (intN ((-(M : Int))) = 0 ∧ intB ((-(M : Int))) = false) := Lib.hid (by unfold intN intB; exact ⟨by rw [if_neg (by omega)], decide_eq_false (by omega)⟩)
          clear hb hkk AT HL HD HM bd tk mono hq2 hz hz'
          go_wp2
          go_ret2
          exact ⟨ret_ib R.out, (by repeat (first | exact Below.refl _ _ | refine Below.setCell ?_ (by first | (simp; done) | (simp; omega) | omega) _ | refine Below.alloc ?_ (by first | (simp; done) | (simp; omega) | omega) _ | refine Below.drew ?_ | assumption | refine Below.trans ?_ (Below.mono (by assumption) (by first | (simp; done) | (simp; omega) | omega))))⟩
        · obtain ⟨z', hz2⟩ : ∃ z', 10 * z - (x : Int) = z' := ⟨_, rfl⟩
          have b0 : -9223372036854775808 ≤ z' ∧ z' ≤ 0 := by omega
          have HN : Hid (z' = -((dv (l.take (k + 1)) : Nat) : Int)) := Lib.hid (by omega)
          have b2 : -9223372036854775808 ≤ 10 * z := by omega
          obtain ⟨b0, b1⟩ := b0
          clear hb hkk AT HL HD HM bd tk mono hq2 hz hz'
          go_wp2
          go_roundw
          case rel => exact ⟨k + 1, z', by omega, by go_num, rfl, b0, b1, HN, (by repeat (first | exact Below.refl _ _ | refine Below.setCell ?_ (by first | (simp; done) | (simp; omega) | omega) _ | refine Below.alloc ?_ (by first | (simp; done) | (simp; omega) | omega) _ | refine Below.drew ?_ | assumption | refine Below.trans ?_ (Below.mono (by assumption) (by first | (simp; done) | (simp; omega) | omega))))⟩
          case measure => first | (simp [intOf]; done) | (simp [intOf]; omega)
      · have hkn : k = n := by omega
        subst hkn
        have hz' := hz.out
        rw [List.take_of_length_le (by rw [HL.out]; exact Nat.le_refl _), HM.out] at hz'
        clear AT HD hz
        have R : Hid (intN ((-(M : Int))) = z ∧ intB ((-(M : Int))) = true) := Lib.hid (by unfold intN intB; exact ⟨by rw [if_pos (by omega)]; omega, decide_eq_true (by omega)⟩)
        clear hz' HM HL
        go_wp2
        go_ret2
        exact ⟨ret_ib R.out, (by repeat (first | exact Below.refl _ _ | refine Below.setCell ?_ (by first | (simp; done) | (simp; omega) | omega) _ | refine Below.alloc ?_ (by first | (simp; done) | (simp; omega) | omega) _ | refine Below.drew ?_ | assumption | refine Below.trans ?_ (Below.mono (by assumption) (by first | (simp; done) | (simp; omega) | omega))))⟩
end Go.Proofs.YtdpoahfjiomhbaaGreatDoor
