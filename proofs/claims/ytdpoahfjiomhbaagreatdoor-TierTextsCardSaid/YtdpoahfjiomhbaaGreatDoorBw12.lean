/-
  Contracts of exref.NumberForm and exref.Atoi at a number's text.
-/
import Derived.Test.YtdpoahfjiomhbaaGreatDoorBw1
import Derived.Test.YtdpoahfjiomhbaaGreatDoorBt
import Derived.Test.YtdpoahfjiomhbaaGreatDoorTk7
import Derived.Laws.IdiomStrings
import Derived.Laws.DeepStrings4
namespace Go.Proofs.YtdpoahfjiomhbaaGreatDoor
set_option linter.all false
open Go.RowKit Go.Sort
attribute [local go_sem] cell_set_self lt_1 lt_2 lt_3 lt_4 lt_5 lt_6

theorem ba_size (l : List UInt8) : (⟨l.toArray⟩ : ByteArray).size = l.length := by simp [ByteArray.size]
theorem ba_at {t : ByteArray} {l : List UInt8} (e : t = ⟨l.toArray⟩) {i : Nat} {b : UInt8} (h : l[i]? = some b) (hi : i < t.size) : (t[i]'hi).toNat = b.toNat := by
  subst e
  obtain ⟨h1, h2⟩ := List.getElem?_eq_some_iff.1 h
  show ((l.toArray)[i]'_).toNat = _
  rw [List.getElem_toArray, h2]
theorem ba_list {t : ByteArray} {l : List UInt8} (e : t = ⟨l.toArray⟩) : t.toList = l := by
  subst e; exact ByteArray.toList_mk l
theorem ba_tail {t d : ByteArray} {b : UInt8} {l : List UInt8} (e : t = ⟨(b :: l).toArray⟩) (h : d = ⟨l.toArray⟩) {n : Nat} (hn : n = l.length) : t.extract 1 (n + 1) = d := by
  subst e; subst h; subst hn
  refine ByteArray.ext ?_
  rw [ByteArray.data_extract]
  simp

set_option maxHeartbeats 4000000 in
set_option maxRecDepth 100000 in
theorem form_pos (t : ByteArray) (l : List UInt8) (n : Nat) (ht : t = ⟨l.toArray⟩) (hl : l.length = n) (hn : n ≤ 60) (n0 : 0 < n) (hd : DigB l) (hh : n = 1 ∨ ∀ b, l[0]? = some b → b.toNat ≠ 48) (w : World) :
    Calls Tryz.prog 114 #[.string t] w fun e w' => e = .returned (.bool true) ∧ Below w.heap.size w w' := by
  have hs : t.size = n := by rw [ht, ba_size, hl]
  have tl := ba_list ht
  have AT := Lib.hid (fun i b h hi => ba_at (i := i) (b := b) ht h hi)
  have HD := Lib.hid hd; have HL := Lib.hid hl
  obtain ⟨b0, hb0⟩ : ∃ b, l[0]? = some b := ⟨_, List.getElem?_eq_getElem (by omega)⟩
  have p0 : 0 < t.size := by omega
  have f0 := AT.out 0 b0 hb0 p0
  obtain ⟨k0, hk0⟩ : ∃ k, b0.toNat = k := ⟨_, rfl⟩
  rw [hk0] at f0
  have hb48 : n = 1 ∨ k0 ≠ 48 := by rcases hh with h | h; exact .inl h; exact .inr (by rw [← hk0]; exact h b0 hb0)
  have kb : 48 ≤ k0 ∧ k0 ≤ 57 := by rw [← hk0]; exact hd b0 (List.mem_of_getElem? hb0)
  clear hd hl hh
  obtain ⟨kb0, kb1⟩ := kb
  have e1 : (t.toList == []) = false := by rw [tl]; have := HL.out; cases l with
    | nil => simp at this; omega
    | cons _ _ => rfl
  have d45 : ((k0 : Int) == 45) = false := by simp; omega
  by_cases one : n = 1
  · subst one
    by_cases k48 : k0 = 48
    · subst k48
      have e2 : (t.toList == [48]) = true := by
        rw [tl]; have hl := HL.out
        match l, hl, hb0, hk0 with
        | [x], _, hb0, hk0 =>
          have : x = b0 := by simpa using hb0
          subst this
          have : x = 48 := UInt8.toNat_inj.1 (by rw [hk0]; rfl)
          subst this; rfl
      clear tl ht hb48 hb0 hk0
      go_enter Tryz.func114, Tryz.ntmps114
      go_wp2
      go_loopw [4] (fun i wr => ∃ k : Nat, k ≤ 1 ∧ i = .int .i64 k ∧ Below w.heap.size w wr) (fun i _ => 1 - (intOf i).toNat)
      case atStart => exact ⟨0, by omega, rfl, (by repeat (first | exact Below.refl _ _ | refine Below.setCell ?_ (by first | (simp; done) | (simp; omega) | omega) _ | refine Below.alloc ?_ (by first | (simp; done) | (simp; omega) | omega) _ | refine Below.drew ?_ | assumption | refine Below.trans ?_ (Below.mono (by assumption) (by first | (simp; done) | (simp; omega) | omega))))⟩
      case round =>
        obtain ⟨k, hk, rfl, hB⟩ := hrel
        by_cases hlt : k < 1
        · obtain ⟨b, hb⟩ : ∃ b, l[k]? = some b := ⟨_, List.getElem?_eq_getElem (by rw [HL.out]; exact hlt)⟩
          have pk : k < t.size := by omega
          have fk := AT.out k b hb pk
          obtain ⟨kk, hkk⟩ : ∃ kk, b.toNat = kk := ⟨_, rfl⟩
          have bd : 48 ≤ kk ∧ kk ≤ 57 := by rw [← hkk]; exact HD.out b (List.mem_of_getElem? hb)
          rw [hkk] at fk
          obtain ⟨bd0, bd1⟩ := bd
          clear hb hkk AT HL HD
          go_wp2
          go_roundw
          case rel => exact ⟨k + 1, by omega, by go_num, (by repeat (first | exact Below.refl _ _ | refine Below.setCell ?_ (by first | (simp; done) | (simp; omega) | omega) _ | refine Below.alloc ?_ (by first | (simp; done) | (simp; omega) | omega) _ | refine Below.drew ?_ | assumption | refine Below.trans ?_ (Below.mono (by assumption) (by first | (simp; done) | (simp; omega) | omega))))⟩
          case measure => first | (simp [intOf]; done) | (simp [intOf]; omega)
        · have hkn : k = 1 := by omega
          subst hkn
          go_wp2
          go_ret
          exact ⟨rfl, (by repeat (first | exact Below.refl _ _ | refine Below.setCell ?_ (by first | (simp; done) | (simp; omega) | omega) _ | refine Below.alloc ?_ (by first | (simp; done) | (simp; omega) | omega) _ | refine Below.drew ?_ | assumption | refine Below.trans ?_ (Below.mono (by assumption) (by first | (simp; done) | (simp; omega) | omega))))⟩
    · have e2 : (t.toList == [48]) = false := by
        rw [tl]; have hl := HL.out
        match l, hl, hb0, hk0 with
        | [x], _, hb0, hk0 =>
          have : x = b0 := by simpa using hb0
          subst this
          simp only [beq_eq_false_iff_ne]
          intro h
          have : x = 48 := by injection h
          subst this; exact k48 hk0.symm
      have d48 : ((k0 : Int) == 48) = false := by simp; omega
      clear tl ht hb48 hb0 hk0
      go_enter Tryz.func114, Tryz.ntmps114
      go_wp2
      go_loopw [4] (fun i wr => ∃ k : Nat, k ≤ 1 ∧ i = .int .i64 k ∧ Below w.heap.size w wr) (fun i _ => 1 - (intOf i).toNat)
      case atStart => exact ⟨0, by omega, rfl, (by repeat (first | exact Below.refl _ _ | refine Below.setCell ?_ (by first | (simp; done) | (simp; omega) | omega) _ | refine Below.alloc ?_ (by first | (simp; done) | (simp; omega) | omega) _ | refine Below.drew ?_ | assumption | refine Below.trans ?_ (Below.mono (by assumption) (by first | (simp; done) | (simp; omega) | omega))))⟩
      case round =>
        obtain ⟨k, hk, rfl, hB⟩ := hrel
        by_cases hlt : k < 1
        · obtain ⟨b, hb⟩ : ∃ b, l[k]? = some b := ⟨_, List.getElem?_eq_getElem (by rw [HL.out]; exact hlt)⟩
          have pk : k < t.size := by omega
          have fk := AT.out k b hb pk
          obtain ⟨kk, hkk⟩ : ∃ kk, b.toNat = kk := ⟨_, rfl⟩
          have bd : 48 ≤ kk ∧ kk ≤ 57 := by rw [← hkk]; exact HD.out b (List.mem_of_getElem? hb)
          rw [hkk] at fk
          obtain ⟨bd0, bd1⟩ := bd
          clear hb hkk AT HL HD
          go_wp2
          go_roundw
          case rel => exact ⟨k + 1, by omega, by go_num, (by repeat (first | exact Below.refl _ _ | refine Below.setCell ?_ (by first | (simp; done) | (simp; omega) | omega) _ | refine Below.alloc ?_ (by first | (simp; done) | (simp; omega) | omega) _ | refine Below.drew ?_ | assumption | refine Below.trans ?_ (Below.mono (by assumption) (by first | (simp; done) | (simp; omega) | omega))))⟩
          case measure => first | (simp [intOf]; done) | (simp [intOf]; omega)
        · have hkn : k = 1 := by omega
          subst hkn
          go_wp2
          go_ret
          exact ⟨rfl, (by repeat (first | exact Below.refl _ _ | refine Below.setCell ?_ (by first | (simp; done) | (simp; omega) | omega) _ | refine Below.alloc ?_ (by first | (simp; done) | (simp; omega) | omega) _ | refine Below.drew ?_ | assumption | refine Below.trans ?_ (Below.mono (by assumption) (by first | (simp; done) | (simp; omega) | omega))))⟩
  · have k48 : k0 ≠ 48 := by omega
    have n2 : 1 < n := by omega
    have e2 : (t.toList == [48]) = false := by rw [tl]; have := HL.out; cases l with
      | nil => rfl
      | cons _ r => cases r with
        | nil => simp at this; omega
        | cons _ _ => simp
    have d48 : ((k0 : Int) == 48) = false := by simp; omega
    clear tl ht hb48 one hb0 hk0
    go_enter Tryz.func114, Tryz.ntmps114
    go_wp2
    go_loopw [4] (fun i wr => ∃ k : Nat, k ≤ n ∧ i = .int .i64 k ∧ Below w.heap.size w wr) (fun i _ => n - (intOf i).toNat)
    case atStart => exact ⟨0, by omega, rfl, (by repeat (first | exact Below.refl _ _ | refine Below.setCell ?_ (by first | (simp; done) | (simp; omega) | omega) _ | refine Below.alloc ?_ (by first | (simp; done) | (simp; omega) | omega) _ | refine Below.drew ?_ | assumption | refine Below.trans ?_ (Below.mono (by assumption) (by first | (simp; done) | (simp; omega) | omega))))⟩
    case round =>
      obtain ⟨k, hk, rfl, hB⟩ := hrel
      by_cases hlt : k < n
      · obtain ⟨b, hb⟩ : ∃ b, l[k]? = some b := ⟨_, List.getElem?_eq_getElem (by rw [HL.out]; exact hlt)⟩
        have pk : k < t.size := by omega
        have fk := AT.out k b hb pk
        obtain ⟨kk, hkk⟩ : ∃ kk, b.toNat = kk := ⟨_, rfl⟩
        have bd : 48 ≤ kk ∧ kk ≤ 57 := by rw [← hkk]; exact HD.out b (List.mem_of_getElem? hb)
        rw [hkk] at fk
        obtain ⟨bd0, bd1⟩ := bd
        clear hb hkk AT HL HD
        go_wp2
        go_roundw
        case rel => exact ⟨k + 1, by omega, by go_num, (by repeat (first | exact Below.refl _ _ | refine Below.setCell ?_ (by first | (simp; done) | (simp; omega) | omega) _ | refine Below.alloc ?_ (by first | (simp; done) | (simp; omega) | omega) _ | refine Below.drew ?_ | assumption | refine Below.trans ?_ (Below.mono (by assumption) (by first | (simp; done) | (simp; omega) | omega))))⟩
        case measure => first | (simp [intOf]; done) | (simp [intOf]; omega)
      · have hkn : k = n := by omega
        subst hkn
        go_wp2
        go_ret
        exact ⟨rfl, (by repeat (first | exact Below.refl _ _ | refine Below.setCell ?_ (by first | (simp; done) | (simp; omega) | omega) _ | refine Below.alloc ?_ (by first | (simp; done) | (simp; omega) | omega) _ | refine Below.drew ?_ | assumption | refine Below.trans ?_ (Below.mono (by assumption) (by first | (simp; done) | (simp; omega) | omega))))⟩

set_option maxHeartbeats 4000000 in
set_option maxRecDepth 100000 in
theorem form_neg (t t2 : ByteArray) (l : List UInt8) (n : Nat) (ht : t = ⟨(45 :: l).toArray⟩) (ht2 : t2 = ⟨l.toArray⟩) (hl : l.length = n) (hn : n ≤ 60) (n0 : 0 < n) (hd : DigB l) (hh : ∀ b, l[0]? = some b → b.toNat ≠ 48) (w : World) :
    Calls Tryz.prog 114 #[.string t] w fun e w' => e = .returned (.bool true) ∧ Below w.heap.size w w' := by
  have hs : t.size = n + 1 := by rw [ht, ba_size]; simp [hl]
  have hs2 : t2.size = n := by rw [ht2, ba_size, hl]
  have hx := ba_tail ht ht2 hl.symm
  have tl := ba_list ht2
  have p00 : 0 < t.size := by omega
  have f00 : (t[0]'p00).toNat = 45 := ba_at ht (i := 0) (b := 45) rfl p00
  have AT := Lib.hid (fun i b h hi => ba_at (i := i) (b := b) ht2 h hi)
  have HD := Lib.hid hd; have HL := Lib.hid hl
  obtain ⟨b0, hb0⟩ : ∃ b, l[0]? = some b := ⟨_, List.getElem?_eq_getElem (by omega)⟩
  have p0 : 0 < t2.size := by omega
  have f0 := AT.out 0 b0 hb0 p0
  obtain ⟨k0, hk0⟩ : ∃ k, b0.toNat = k := ⟨_, rfl⟩
  rw [hk0] at f0
  have k48 : k0 ≠ 48 := by rw [← hk0]; exact hh b0 hb0
  have kb : 48 ≤ k0 ∧ k0 ≤ 57 := by rw [← hk0]; exact hd b0 (List.mem_of_getElem? hb0)
  have e1 : (t2.toList == []) = false := by rw [tl]; have := HL.out; cases l with
    | nil => simp at this; omega
    | cons _ _ => rfl
  have e2 : (t2.toList == [48]) = false := by
    rw [tl]
    simp only [beq_eq_false_iff_ne]
    intro h
    rw [h] at hb0
    have : (48 : UInt8) = b0 := by simpa using hb0
    subst this; exact k48 hk0.symm
  have d48 : ((k0 : Int) == 48) = false := by simp; omega
  clear hd hl hh hb0 hk0 tl ht ht2
  obtain ⟨kb0, kb1⟩ := kb
  by_cases one : 1 < n
  · go_enter Tryz.func114, Tryz.ntmps114
    go_wp2
    go_loopw [4] (fun i wr => ∃ k : Nat, k ≤ n ∧ i = .int .i64 k ∧ Below w.heap.size w wr) (fun i _ => n - (intOf i).toNat)
    case atStart => exact ⟨0, by omega, rfl, (by repeat (first | exact Below.refl _ _ | refine Below.setCell ?_ (by first | (simp; done) | (simp; omega) | omega) _ | refine Below.alloc ?_ (by first | (simp; done) | (simp; omega) | omega) _ | refine Below.drew ?_ | assumption | refine Below.trans ?_ (Below.mono (by assumption) (by first | (simp; done) | (simp; omega) | omega))))⟩
    case round =>
      obtain ⟨k, hk, rfl, hB⟩ := hrel
      by_cases hlt : k < n
      · obtain ⟨b, hb⟩ : ∃ b, l[k]? = some b := ⟨_, List.getElem?_eq_getElem (by rw [HL.out]; exact hlt)⟩
        have pk : k < t2.size := by omega
        have fk := AT.out k b hb pk
        obtain ⟨kk, hkk⟩ : ∃ kk, b.toNat = kk := ⟨_, rfl⟩
        have bd : 48 ≤ kk ∧ kk ≤ 57 := by rw [← hkk]; exact HD.out b (List.mem_of_getElem? hb)
        rw [hkk] at fk
        obtain ⟨bd0, bd1⟩ := bd
        clear hb hkk AT HL HD
        go_wp2
        go_roundw
        case rel => exact ⟨k + 1, by omega, by go_num, (by repeat (first | exact Below.refl _ _ | refine Below.setCell ?_ (by first | (simp; done) | (simp; omega) | omega) _ | refine Below.alloc ?_ (by first | (simp; done) | (simp; omega) | omega) _ | refine Below.drew ?_ | assumption | refine Below.trans ?_ (Below.mono (by assumption) (by first | (simp; done) | (simp; omega) | omega))))⟩
        case measure => first | (simp [intOf]; done) | (simp [intOf]; omega)
      · have hkn : k = n := by omega
        subst hkn
        go_wp2
        go_ret
        exact ⟨rfl, (by repeat (first | exact Below.refl _ _ | refine Below.setCell ?_ (by first | (simp; done) | (simp; omega) | omega) _ | refine Below.alloc ?_ (by first | (simp; done) | (simp; omega) | omega) _ | refine Below.drew ?_ | assumption | refine Below.trans ?_ (Below.mono (by assumption) (by first | (simp; done) | (simp; omega) | omega))))⟩
  · go_enter Tryz.func114, Tryz.ntmps114
    go_wp2
    go_loopw [4] (fun i wr => ∃ k : Nat, k ≤ n ∧ i = .int .i64 k ∧ Below w.heap.size w wr) (fun i _ => n - (intOf i).toNat)
    case atStart => exact ⟨0, by omega, rfl, (by repeat (first | exact Below.refl _ _ | refine Below.setCell ?_ (by first | (simp; done) | (simp; omega) | omega) _ | refine Below.alloc ?_ (by first | (simp; done) | (simp; omega) | omega) _ | refine Below.drew ?_ | assumption | refine Below.trans ?_ (Below.mono (by assumption) (by first | (simp; done) | (simp; omega) | omega))))⟩
    case round =>
      obtain ⟨k, hk, rfl, hB⟩ := hrel
      by_cases hlt : k < n
      · obtain ⟨b, hb⟩ : ∃ b, l[k]? = some b := ⟨_, List.getElem?_eq_getElem (by rw [HL.out]; exact hlt)⟩
        have pk : k < t2.size := by omega
        have fk := AT.out k b hb pk
        obtain ⟨kk, hkk⟩ : ∃ kk, b.toNat = kk := ⟨_, rfl⟩
        have bd : 48 ≤ kk ∧ kk ≤ 57 := by rw [← hkk]; exact HD.out b (List.mem_of_getElem? hb)
        rw [hkk] at fk
        obtain ⟨bd0, bd1⟩ := bd
        clear hb hkk AT HL HD
        go_wp2
        go_roundw
        case rel => exact ⟨k + 1, by omega, by go_num, (by repeat (first | exact Below.refl _ _ | refine Below.setCell ?_ (by first | (simp; done) | (simp; omega) | omega) _ | refine Below.alloc ?_ (by first | (simp; done) | (simp; omega) | omega) _ | refine Below.drew ?_ | assumption | refine Below.trans ?_ (Below.mono (by assumption) (by first | (simp; done) | (simp; omega) | omega))))⟩
        case measure => first | (simp [intOf]; done) | (simp [intOf]; omega)
      · have hkn : k = n := by omega
        subst hkn
        go_wp2
        go_ret
        exact ⟨rfl, (by repeat (first | exact Below.refl _ _ | refine Below.setCell ?_ (by first | (simp; done) | (simp; omega) | omega) _ | refine Below.alloc ?_ (by first | (simp; done) | (simp; omega) | omega) _ | refine Below.drew ?_ | assumption | refine Below.trans ?_ (Below.mono (by assumption) (by first | (simp; done) | (simp; omega) | omega))))⟩
end Go.Proofs.YtdpoahfjiomhbaaGreatDoor
