/-
  HttpFronts holds: the walk of the law. (Printed by tools/mkhl1.py.)
-/
import Derived.Test.YtkaimfeiahogaaaGreatDoorHs3
namespace Go.Proofs.YtkaimfeiahogaaaGreatDoor
set_option linter.all false
open Go.RowKit Go.Shelf
attribute [local go_sem] cell_set_self lt_1 lt_2 lt_3 lt_4 lt_5 lt_6

theorem scan_bad_ne : ∀ (f : Nat) (st : St) (l : List UInt8) (e : Int), scanF f st l = .bad e → e ≠ 0
  | 0, st, l, e, h => by cases h
  | f + 1, st, l, e, h => by
    cases hl : lineF 0 l with
    | wait => rw [scan_wait hl] at h; cases h
    | bad x =>
      rw [scan_bad hl] at h
      injection h with h
      rw [← h]
      rcases lineF_bad hl with h | h <;> (rw [h]; decide)
    | got k =>
      by_cases hn : st.n = 0
      · by_cases he : headE (l.take k) = 0
        · rw [scan_head hl hn he] at h; exact scan_bad_ne f _ _ _ h
        · rw [scan_headE hl hn he] at h; injection h with h; rw [← h]; exact he
      · by_cases hz : k = 0
        · subst hz
          rw [scan_end hl hn] at h
          split at h <;> cases h
        · by_cases he : stepE st (l.take k) = 0
          · rw [scan_step hl hn hz he] at h; exact scan_bad_ne f _ _ _ h
          · rw [scan_stepE hl hn hz he] at h; injection h with h; rw [← h]; exact he
set_option maxHeartbeats 16000000 in
set_option maxRecDepth 100000 in
theorem fronts_wait (A : Option Addr) (n c : Nat) (l : List UInt8) (hl : l.length = n) (hn : n ≤ 1500) (w : World) (E : Env w) (T : Bs w A c l) (hp : parseF l = .wait) :
    Calls Tryz.prog 3 #[.slice A n c] w fun e w' => e = .returned (.bool true) ∧ Below w.heap.size w w' := by
  have FO := Lib.hid (fun W (hb : Below w.heap.size w W) => first_ok W (E.below hb))
  have P0 := Lib.hid (fun W (hb : Below w.heap.size w W) => pcall_wait A n c l hl (by omega) W (E.below hb) (T.below hb) hp)
  have HTE := Lib.hid (show Env w ∧ Bs w A c l from ⟨E, T⟩)
  have HP := Lib.hid hp
  have HL := Lib.hid hl
  have hA : A = none → c = 0 := T.2.1
  have hnc : n ≤ c := by have := T.1; omega
  have hnc' : (n : Int) ≤ (c : Int) := by omega
  have hn15 : ¬ (1500 : Int) < (n : Int) := by omega
  clear hp E T hl
  go_enter Tryz.func3, Tryz.ntmps3
  go_upto_region 6 with (first | (go_at_call 10; refine (FO.out _ (by repeat (first | exact Below.refl _ _ | refine Below.setCell ?_ (by first | (simp; done) | (simp; omega) | omega) _ | refine Below.alloc ?_ (by first | (simp; done) | (simp; omega) | omega) _ | refine Below.drew ?_ | assumption | refine Below.trans ?_ (Below.mono (by assumption) (by first | (simp; done) | (simp; omega) | omega))))).mono ?_; rintro e w4 ⟨rfl, hb4⟩; obtain ⟨hc4, hf4⟩ := bcell hb4; have hs4 := hb4.size; (try simp at hs4)) | (go_at_call 11; refine (P0.out _ (by repeat (first | exact Below.refl _ _ | refine Below.setCell ?_ (by first | (simp; done) | (simp; omega) | omega) _ | refine Below.alloc ?_ (by first | (simp; done) | (simp; omega) | omega) _ | refine Below.drew ?_ | assumption | refine Below.trans ?_ (Below.mono (by assumption) (by first | (simp; done) | (simp; omega) | omega))))).mono ?_; rintro e w5 ⟨rfl, hb5⟩; obtain ⟨hc5, hf5⟩ := bcell hb5; have hs5 := hb5.size; (try simp at hs5)))
  obtain ⟨s, hs⟩ : ∃ s : Nat, max ((n : Int) / 60) 1 = (s : Int) := ⟨(max ((n : Int) / 60) 1).toNat, by omega⟩
  have hs1 : 1 ≤ s ∧ s ≤ 26 := by omega
  rw [hs]
  have HS := Lib.hid hs
  clear hs
  refine name_world ?_
  intro Wa hWa
  have bWa : Below w.heap.size w Wa := by rw [hWa]; exact (by repeat (first | exact Below.refl _ _ | refine Below.setCell ?_ (by first | (simp; done) | (simp; omega) | omega) _ | refine Below.alloc ?_ (by first | (simp; done) | (simp; omega) | omega) _ | refine Below.drew ?_ | assumption | refine Below.trans ?_ (Below.mono (by assumption) (by first | (simp; done) | (simp; omega) | omega))))
  have zWa : w5.heap.size < Wa.heap.size := by rw [hWa]; simp
  clear hWa hb4 hc4 hf4 hs4 hb5 hc5 hf5 hs5
  generalize w5.heap.size = rb at *
  go_wp2
  go_loopw [9] (fun i wr => ∃ k : Nat, k ≤ n + 30 ∧ i = .int .i64 k ∧ Below Wa.heap.size Wa wr) (fun i _ => n + 40 - (intOf i).toNat)
  case atStart => exact ⟨0, by omega, rfl, Below.refl _ _⟩
  case round =>
    obtain ⟨k, hk, rfl, hBr⟩ := hrel
    have hBw : Below w.heap.size w wr := bWa.trans (hBr.mono bWa.size)
    have hzr : rb < wr.heap.size := Nat.lt_of_lt_of_le zWa hBr.size
    by_cases hlt : k ≤ n
    · have hle : (k : Int) ≤ (n : Int) := by omega
      have hkc : (k : Int) ≤ (c : Int) := by omega
      have LK : Hid ((l.take k).length = k) := Lib.hid (by rw [List.length_take, HL.out]; omega)
      have hq : parseF (l.take k) = .wait := by
        cases h : parseF (l.take k) with
        | wait => rfl
        | bad e => have := front_bad h; rw [HP.out] at this; cases this
        | done s r => have := front_done h; rw [HP.out] at this; cases this
      have PK := Lib.hid (fun W (hb : Below w.heap.size w W) => pcall_wait A k c (l.take k) LK.out (by omega) W (HTE.out.1.below hb) ((HTE.out.2.below hb).take k) hq)
      clear hq
      go_upto_region 12 with (first | (go_at_call 11; refine (PK.out _ (by repeat (first | exact Below.refl _ _ | refine Below.setCell ?_ (by first | (simp; done) | (simp; omega) | omega) _ | refine Below.alloc ?_ (by first | (simp; done) | (simp; omega) | omega) _ | refine Below.drew ?_ | assumption | refine Below.trans ?_ (Below.mono (by assumption) (by first | (simp; done) | (simp; omega) | omega))))).mono ?_; rintro e w7 ⟨rfl, hb7⟩; obtain ⟨hc7, hf7⟩ := bcell hb7; have hs7 := hb7.size; (try simp at hs7); have hz7 : rb < w7.heap.size := (by omega)) | (go_at_call 12; (with_reducible refine (num_same _ _).mono ?_); rintro e w9 ⟨rfl, rfl⟩))
      go_big_region
      all_goals
        go_wp2_with (first | (go_at_call 12; (with_reducible refine (num_same _ _).mono ?_); rintro e w9 ⟨rfl, rfl⟩))
        all_goals
          go_roundw
          case rel => exact ⟨k + s, by omega, by go_num, hBr.trans (Below.mono (show Below wr.heap.size wr _ from (by repeat (first | exact Below.refl _ _ | refine Below.setCell ?_ (by first | (simp; done) | (simp; omega) | omega) _ | refine Below.alloc ?_ (by first | (simp; done) | (simp; omega) | omega) _ | refine Below.drew ?_ | assumption | refine Below.trans ?_ (Below.mono (by assumption) (by first | (simp; done) | (simp; omega) | omega))))) hBr.size)⟩
          case measure => first | (simp [intOf]; done) | (simp [intOf]; omega)
    · have hle : ¬ (k : Int) ≤ (n : Int) := by omega
      go_wp2
      go_ret
      exact ⟨rfl, hBw⟩
set_option maxHeartbeats 16000000 in
set_option maxRecDepth 100000 in
theorem fronts_bad (A : Option Addr) (n c : Nat) (l : List UInt8) (hl : l.length = n) (hn : n ≤ 1500) (w : World) (E : Env w) (T : Bs w A c l) {x : Int} (hp : parseF l = .bad x) :
    Calls Tryz.prog 3 #[.slice A n c] w fun e w' => e = .returned (.bool true) ∧ Below w.heap.size w w' := by
  have FO := Lib.hid (fun W (hb : Below w.heap.size w W) => first_ok W (E.below hb))
  have P0 := Lib.hid (fun W (hb : Below w.heap.size w W) => pcall_bad A n c l hl (by omega) W (E.below hb) (T.below hb) hp)
  have hx0 : (x == 0) = false := beq_eq_false_iff_ne.2 (scan_bad_ne _ _ _ _ hp)
  have hx1 : (x != 0) = true := by rw [bne, hx0]; rfl
  have HTE := Lib.hid (show Env w ∧ Bs w A c l from ⟨E, T⟩)
  have HP := Lib.hid hp
  have HL := Lib.hid hl
  have hA : A = none → c = 0 := T.2.1
  have hnc : n ≤ c := by have := T.1; omega
  have hnc' : (n : Int) ≤ (c : Int) := by omega
  have hn15 : ¬ (1500 : Int) < (n : Int) := by omega
  clear hp E T hl
  go_enter Tryz.func3, Tryz.ntmps3
  go_upto_region 6 with (first | (go_at_call 10; refine (FO.out _ (by repeat (first | exact Below.refl _ _ | refine Below.setCell ?_ (by first | (simp; done) | (simp; omega) | omega) _ | refine Below.alloc ?_ (by first | (simp; done) | (simp; omega) | omega) _ | refine Below.drew ?_ | assumption | refine Below.trans ?_ (Below.mono (by assumption) (by first | (simp; done) | (simp; omega) | omega))))).mono ?_; rintro e w4 ⟨rfl, hb4⟩; obtain ⟨hc4, hf4⟩ := bcell hb4; have hs4 := hb4.size; (try simp at hs4)) | (go_at_call 11; refine (P0.out _ (by repeat (first | exact Below.refl _ _ | refine Below.setCell ?_ (by first | (simp; done) | (simp; omega) | omega) _ | refine Below.alloc ?_ (by first | (simp; done) | (simp; omega) | omega) _ | refine Below.drew ?_ | assumption | refine Below.trans ?_ (Below.mono (by assumption) (by first | (simp; done) | (simp; omega) | omega))))).mono ?_; rintro e w5 ⟨rfl, hb5⟩; obtain ⟨hc5, hf5⟩ := bcell hb5; have hs5 := hb5.size; (try simp at hs5)))
  obtain ⟨s, hs⟩ : ∃ s : Nat, max ((n : Int) / 60) 1 = (s : Int) := ⟨(max ((n : Int) / 60) 1).toNat, by omega⟩
  have hs1 : 1 ≤ s ∧ s ≤ 26 := by omega
  rw [hs]
  have HS := Lib.hid hs
  clear hs
  refine name_world ?_
  intro Wa hWa
  have bWa : Below w.heap.size w Wa := by rw [hWa]; exact (by repeat (first | exact Below.refl _ _ | refine Below.setCell ?_ (by first | (simp; done) | (simp; omega) | omega) _ | refine Below.alloc ?_ (by first | (simp; done) | (simp; omega) | omega) _ | refine Below.drew ?_ | assumption | refine Below.trans ?_ (Below.mono (by assumption) (by first | (simp; done) | (simp; omega) | omega))))
  have zWa : w5.heap.size < Wa.heap.size := by rw [hWa]; simp
  clear hWa hb4 hc4 hf4 hs4 hb5 hc5 hf5 hs5
  generalize w5.heap.size = rb at *
  go_wp2
  go_loopw [9] (fun i wr => ∃ k : Nat, k ≤ n + 30 ∧ i = .int .i64 k ∧ Below Wa.heap.size Wa wr) (fun i _ => n + 40 - (intOf i).toNat)
  case atStart => exact ⟨0, by omega, rfl, Below.refl _ _⟩
  case round =>
    obtain ⟨k, hk, rfl, hBr⟩ := hrel
    have hBw : Below w.heap.size w wr := bWa.trans (hBr.mono bWa.size)
    have hzr : rb < wr.heap.size := Nat.lt_of_lt_of_le zWa hBr.size
    by_cases hlt : k ≤ n
    · have hle : (k : Int) ≤ (n : Int) := by omega
      have hkc : (k : Int) ≤ (c : Int) := by omega
      have LK : Hid ((l.take k).length = k) := Lib.hid (by rw [List.length_take, HL.out]; omega)
      have hq : parseF (l.take k) = .wait ∨ parseF (l.take k) = .bad x := by
        cases h : parseF (l.take k) with
        | wait => exact .inl rfl
        | bad e => have := front_bad h; rw [HP.out] at this; injection this with this; rw [this]; exact .inr rfl
        | done s r => have := front_done h; rw [HP.out] at this; cases this
      rcases hq with hq | hq
      · skip
        have PK := Lib.hid (fun W (hb : Below w.heap.size w W) => pcall_wait A k c (l.take k) LK.out (by omega) W (HTE.out.1.below hb) ((HTE.out.2.below hb).take k) hq)
        clear hq
        go_upto_region 12 with (first | (go_at_call 11; refine (PK.out _ (by repeat (first | exact Below.refl _ _ | refine Below.setCell ?_ (by first | (simp; done) | (simp; omega) | omega) _ | refine Below.alloc ?_ (by first | (simp; done) | (simp; omega) | omega) _ | refine Below.drew ?_ | assumption | refine Below.trans ?_ (Below.mono (by assumption) (by first | (simp; done) | (simp; omega) | omega))))).mono ?_; rintro e w7 ⟨rfl, hb7⟩; obtain ⟨hc7, hf7⟩ := bcell hb7; have hs7 := hb7.size; (try simp at hs7); have hz7 : rb < w7.heap.size := (by omega)) | (go_at_call 12; (with_reducible refine (num_same _ _).mono ?_); rintro e w9 ⟨rfl, rfl⟩))
        go_big_region
        all_goals
          go_wp2_with (first | (go_at_call 12; (with_reducible refine (num_same _ _).mono ?_); rintro e w9 ⟨rfl, rfl⟩))
          all_goals
            go_roundw
            case rel => exact ⟨k + s, by omega, by go_num, hBr.trans (Below.mono (show Below wr.heap.size wr _ from (by repeat (first | exact Below.refl _ _ | refine Below.setCell ?_ (by first | (simp; done) | (simp; omega) | omega) _ | refine Below.alloc ?_ (by first | (simp; done) | (simp; omega) | omega) _ | refine Below.drew ?_ | assumption | refine Below.trans ?_ (Below.mono (by assumption) (by first | (simp; done) | (simp; omega) | omega))))) hBr.size)⟩
            case measure => first | (simp [intOf]; done) | (simp [intOf]; omega)
      · skip
        have PK := Lib.hid (fun W (hb : Below w.heap.size w W) => pcall_bad A k c (l.take k) LK.out (by omega) W (HTE.out.1.below hb) ((HTE.out.2.below hb).take k) hq)
        clear hq
        go_upto_region 12 with (first | (go_at_call 11; refine (PK.out _ (by repeat (first | exact Below.refl _ _ | refine Below.setCell ?_ (by first | (simp; done) | (simp; omega) | omega) _ | refine Below.alloc ?_ (by first | (simp; done) | (simp; omega) | omega) _ | refine Below.drew ?_ | assumption | refine Below.trans ?_ (Below.mono (by assumption) (by first | (simp; done) | (simp; omega) | omega))))).mono ?_; rintro e w7 ⟨rfl, hb7⟩; obtain ⟨hc7, hf7⟩ := bcell hb7; have hs7 := hb7.size; (try simp at hs7); have hz7 : rb < w7.heap.size := (by omega)) | (go_at_call 12; (with_reducible refine (num_same _ _).mono ?_); rintro e w9 ⟨rfl, rfl⟩))
        go_big_region
        all_goals
          go_wp2_with (first | (go_at_call 12; (with_reducible refine (num_same _ _).mono ?_); rintro e w9 ⟨rfl, rfl⟩))
          all_goals
            go_roundw
            case rel => exact ⟨k + s, by omega, by go_num, hBr.trans (Below.mono (show Below wr.heap.size wr _ from (by repeat (first | exact Below.refl _ _ | refine Below.setCell ?_ (by first | (simp; done) | (simp; omega) | omega) _ | refine Below.alloc ?_ (by first | (simp; done) | (simp; omega) | omega) _ | refine Below.drew ?_ | assumption | refine Below.trans ?_ (Below.mono (by assumption) (by first | (simp; done) | (simp; omega) | omega))))) hBr.size)⟩
            case measure => first | (simp [intOf]; done) | (simp [intOf]; omega)
    · have hle : ¬ (k : Int) ≤ (n : Int) := by omega
      go_wp2
      go_ret
      exact ⟨rfl, hBw⟩
set_option maxHeartbeats 16000000 in
set_option maxRecDepth 100000 in
theorem fronts_done (A : Option Addr) (n c : Nat) (l : List UInt8) (hl : l.length = n) (hn : n ≤ 1500) (w : World) (E : Env w) (T : Bs w A c l) {st : St} {r : List UInt8} (hp : parseF l = .done st r) :
    Calls Tryz.prog 3 #[.slice A n c] w fun e w' => e = .returned (.bool true) ∧ Below w.heap.size w w' := by
  have FO := Lib.hid (fun W (hb : Below w.heap.size w W) => first_ok W (E.below hb))
  obtain ⟨hd1, hd2, hd3⟩ := done_len hp
  obtain ⟨N, hN⟩ : ∃ N, n - r.length + st.len = N := ⟨_, rfl⟩
  have P0 := Lib.hid (fun W (hb : Below w.heap.size w W) => pcall_done A n c l hl (by omega) W (E.below hb) (T.below hb) hp N hN)
  obtain ⟨m, hm⟩ : ∃ m, st.m = m := ⟨_, rfl⟩
  obtain ⟨p, hpp⟩ : ∃ p, st.p = p := ⟨_, rfl⟩
  obtain ⟨M, hM⟩ : ∃ M : ByteArray, (⟨m.toArray⟩ : ByteArray) = M := ⟨_, rfl⟩
  obtain ⟨P, hP⟩ : ∃ P : ByteArray, (⟨p.toArray⟩ : ByteArray) = P := ⟨_, rfl⟩
  obtain ⟨cl, hCL⟩ : ∃ cl : Bool, st.close = cl := ⟨_, rfl⟩
  obtain ⟨L, hLL⟩ : ∃ L : Nat, st.len = L := ⟨_, rfl⟩
  obtain ⟨bl, hbl⟩ : ∃ bl, r.take st.len = bl := ⟨_, rfl⟩
  rw [hbl, hm, hpp, hM, hP, hCL, hLL] at P0
  rw [hbl, hLL] at hd3
  rw [hLL] at hd1 hN hbl
  have HBL := Lib.hid hd3
  have HLS := Lib.hid (show L ≤ r.length ∧ r.length ≤ n ∧ n - r.length + L = N from ⟨hd1, by omega, hN⟩)
  have HM := Lib.hid hM
  have HPP := Lib.hid hP
  have HV := Lib.hid (show st.m = m ∧ st.p = p ∧ st.close = cl ∧ st.len = L ∧ r.take L = bl from ⟨hm, hpp, hCL, hLL, hbl⟩)
  clear hd1 hd2 hd3 hN hm hpp hM hP hCL hLL hbl
  have HTE := Lib.hid (show Env w ∧ Bs w A c l from ⟨E, T⟩)
  have HP := Lib.hid hp
  have HL := Lib.hid hl
  have hA : A = none → c = 0 := T.2.1
  have hnc : n ≤ c := by have := T.1; omega
  have hnc' : (n : Int) ≤ (c : Int) := by omega
  have hn15 : ¬ (1500 : Int) < (n : Int) := by omega
  clear hp E T hl
  go_enter Tryz.func3, Tryz.ntmps3
  go_upto_region 6 with (first | (go_at_call 10; refine (FO.out _ (by repeat (first | exact Below.refl _ _ | refine Below.setCell ?_ (by first | (simp; done) | (simp; omega) | omega) _ | refine Below.alloc ?_ (by first | (simp; done) | (simp; omega) | omega) _ | refine Below.drew ?_ | assumption | refine Below.trans ?_ (Below.mono (by assumption) (by first | (simp; done) | (simp; omega) | omega))))).mono ?_; rintro e w4 ⟨rfl, hb4⟩; obtain ⟨hc4, hf4⟩ := bcell hb4; have hs4 := hb4.size; (try simp at hs4)) | (go_at_call 11; refine (P0.out _ (by repeat (first | exact Below.refl _ _ | refine Below.setCell ?_ (by first | (simp; done) | (simp; omega) | omega) _ | refine Below.alloc ?_ (by first | (simp; done) | (simp; omega) | omega) _ | refine Below.drew ?_ | assumption | refine Below.trans ?_ (Below.mono (by assumption) (by first | (simp; done) | (simp; omega) | omega))))).mono ?_; rintro e w5 ⟨⟨A5, c5, rfl, hT5⟩, hb5⟩; obtain ⟨hc5, hf5⟩ := bcell hb5; have hs5 := hb5.size; (try simp at hs5)))
  obtain ⟨s, hs⟩ : ∃ s : Nat, max ((n : Int) / 60) 1 = (s : Int) := ⟨(max ((n : Int) / 60) 1).toNat, by omega⟩
  have hs1 : 1 ≤ s ∧ s ≤ 26 := by omega
  rw [hs]
  have HS := Lib.hid hs
  clear hs
  refine name_world ?_
  intro Wa hWa
  have d0 : Wa.cell? ⟨w5.heap.size, 0, none⟩ = some (.string M) := by rw [hWa]; simp [go_sem]
  have d1 : Wa.cell? ⟨w5.heap.size, 1, none⟩ = some (.string P) := by rw [hWa]; simp [go_sem]
  have d2 : Wa.cell? ⟨w5.heap.size, 2, none⟩ = some (.slice A5 L c5) := by rw [hWa]; simp [go_sem]
  have d3 : Wa.cell? ⟨w5.heap.size, 3, none⟩ = some (.bool cl) := by rw [hWa]; simp [go_sem]
  have HBody : Hid (Bs Wa A5 c5 bl) := Lib.hid (by rw [hWa]; exact hT5.1.below (by repeat (first | exact Below.refl _ _ | refine Below.setCell ?_ (by first | (simp; done) | (simp; omega) | omega) _ | refine Below.alloc ?_ (by first | (simp; done) | (simp; omega) | omega) _ | refine Below.drew ?_ | assumption | refine Below.trans ?_ (Below.mono (by assumption) (by first | (simp; done) | (simp; omega) | omega)))))
  clear hT5
  have bWa : Below w.heap.size w Wa := by rw [hWa]; exact (by repeat (first | exact Below.refl _ _ | refine Below.setCell ?_ (by first | (simp; done) | (simp; omega) | omega) _ | refine Below.alloc ?_ (by first | (simp; done) | (simp; omega) | omega) _ | refine Below.drew ?_ | assumption | refine Below.trans ?_ (Below.mono (by assumption) (by first | (simp; done) | (simp; omega) | omega))))
  have zWa : w5.heap.size < Wa.heap.size := by rw [hWa]; simp
  clear hWa hb4 hc4 hf4 hs4 hb5 hc5 hf5 hs5
  generalize w5.heap.size = rb at *
  go_wp2
  go_loopw [9] (fun i wr => ∃ k : Nat, k ≤ n + 30 ∧ i = .int .i64 k ∧ Below Wa.heap.size Wa wr) (fun i _ => n + 40 - (intOf i).toNat)
  case atStart => exact ⟨0, by omega, rfl, Below.refl _ _⟩
  case round =>
    obtain ⟨k, hk, rfl, hBr⟩ := hrel
    have hBw : Below w.heap.size w wr := bWa.trans (hBr.mono bWa.size)
    have hzr : rb < wr.heap.size := Nat.lt_of_lt_of_le zWa hBr.size
    by_cases hlt : k ≤ n
    · have hle : (k : Int) ≤ (n : Int) := by omega
      have hkc : (k : Int) ≤ (c : Int) := by omega
      have LK : Hid ((l.take k).length = k) := Lib.hid (by rw [List.length_take, HL.out]; omega)
      have hq : (parseF (l.take k) = .wait ∧ k < N) ∨ ∃ r2, parseF (l.take k) = .done st r2 ∧ r = r2 ++ l.drop k := by
        cases h : parseF (l.take k) with
        | wait =>
          refine .inl ⟨rfl, ?_⟩
          rcases Nat.lt_or_ge k N with h2 | h2
          · exact h2
          · obtain ⟨q, hq⟩ := front_less (i := k) HP.out (by rw [HL.out, HV.out.2.2.2.1]; have := HLS.out; omega)
            rw [h] at hq; cases hq
        | bad e => have := front_bad h; rw [HP.out] at this; cases this
        | done s r2 =>
          have := front_done h
          rw [HP.out] at this
          injection this with h1 h2
          exact .inr ⟨r2, by rw [h1], h2⟩
      rcases hq with ⟨hq, hkN⟩ | ⟨r2, hq, hr2⟩
      · have hkN' : (k : Int) < (N : Int) := by omega
        have PK := Lib.hid (fun W (hb : Below w.heap.size w W) => pcall_wait A k c (l.take k) LK.out (by omega) W (HTE.out.1.below hb) ((HTE.out.2.below hb).take k) hq)
        clear hq
        go_upto_region 12 with (first | (go_at_call 11; refine (PK.out _ (by repeat (first | exact Below.refl _ _ | refine Below.setCell ?_ (by first | (simp; done) | (simp; omega) | omega) _ | refine Below.alloc ?_ (by first | (simp; done) | (simp; omega) | omega) _ | refine Below.drew ?_ | assumption | refine Below.trans ?_ (Below.mono (by assumption) (by first | (simp; done) | (simp; omega) | omega))))).mono ?_; rintro e w7 ⟨rfl, hb7⟩; obtain ⟨hc7, hf7⟩ := bcell hb7; have hs7 := hb7.size; (try simp at hs7); have hz7 : rb < w7.heap.size := (by omega)) | (go_at_call 12; (with_reducible refine (num_same _ _).mono ?_); rintro e w9 ⟨rfl, rfl⟩))
        go_big_region
        all_goals
          go_wp2_with (first | (go_at_call 12; (with_reducible refine (num_same _ _).mono ?_); rintro e w9 ⟨rfl, rfl⟩))
          all_goals
            go_roundw
            case rel => exact ⟨k + s, by omega, by go_num, hBr.trans (Below.mono (show Below wr.heap.size wr _ from (by repeat (first | exact Below.refl _ _ | refine Below.setCell ?_ (by first | (simp; done) | (simp; omega) | omega) _ | refine Below.alloc ?_ (by first | (simp; done) | (simp; omega) | omega) _ | refine Below.drew ?_ | assumption | refine Below.trans ?_ (Below.mono (by assumption) (by first | (simp; done) | (simp; omega) | omega))))) hBr.size)⟩
            case measure => first | (simp [intOf]; done) | (simp [intOf]; omega)
      · obtain ⟨g1, g2, g3⟩ := done_len hq
        have hst := HV.out.2.2.2.1
        have hM := HM.out
        have hP := HPP.out
        have hCL := HV.out.2.2.1
        have hrl : r.length = r2.length + (n - k) := by rw [hr2, List.length_append, List.length_drop, HL.out]
        have hNk : k - r2.length + st.len = N := by
          rw [LK.out] at g2
          have := HLS.out
          rw [hst] at g1 ⊢
          omega
        have hbl2 : r2.take L = bl := by
          rw [← HV.out.2.2.2.2, hr2, List.take_append_of_le_length (by rw [hst] at g1; exact g1)]
        clear g1 g2 g3 hr2 hrl
        have PK := Lib.hid (fun W (hb : Below w.heap.size w W) => pcall_done A k c (l.take k) LK.out (by omega) W (HTE.out.1.below hb) ((HTE.out.2.below hb).take k) hq N hNk)
        rw [hst, HV.out.1, HV.out.2.1, hM, hP, hCL, hbl2] at PK
        clear hst hM hP hCL hNk hbl2
        clear hq
        go_upto_region 12 with (first | (go_at_call 11; refine (PK.out _ (by repeat (first | exact Below.refl _ _ | refine Below.setCell ?_ (by first | (simp; done) | (simp; omega) | omega) _ | refine Below.alloc ?_ (by first | (simp; done) | (simp; omega) | omega) _ | refine Below.drew ?_ | assumption | refine Below.trans ?_ (Below.mono (by assumption) (by first | (simp; done) | (simp; omega) | omega))))).mono ?_; rintro e w7 ⟨⟨A7, c7, rfl, hT7⟩, hb7⟩; obtain ⟨hc7, hf7⟩ := bcell hb7; have hs7 := hb7.size; (try simp at hs7); have hz7 : rb < w7.heap.size := (by omega)) | (go_at_call 12; (with_reducible refine (num_same _ _).mono ?_); rintro e w9 ⟨rfl, rfl⟩))
        refine name_world ?_
        intro Wk hWk
        have hBk : Below wr.heap.size wr Wk := by rw [hWk]; exact (by repeat (first | exact Below.refl _ _ | refine Below.setCell ?_ (by first | (simp; done) | (simp; omega) | omega) _ | refine Below.alloc ?_ (by first | (simp; done) | (simp; omega) | omega) _ | refine Below.drew ?_ | assumption | refine Below.trans ?_ (Below.mono (by assumption) (by first | (simp; done) | (simp; omega) | omega))))
        have y0 : Wk.cell? ⟨w7.heap.size, 0, none⟩ = some (.string M) := by rw [hWk]; simp [go_sem]
        have y1 : Wk.cell? ⟨w7.heap.size, 1, none⟩ = some (.string P) := by rw [hWk]; simp [go_sem]
        have y2 : Wk.cell? ⟨w7.heap.size, 2, none⟩ = some (.slice A7 L c7) := by rw [hWk]; simp [go_sem]
        have y3 : Wk.cell? ⟨w7.heap.size, 3, none⟩ = some (.bool cl) := by rw [hWk]; simp [go_sem]
        have zk : w7.heap.size < Wk.heap.size ∧ rb < Wk.heap.size := ⟨by rw [hWk]; simp, Nat.lt_of_lt_of_le hzr hBk.size⟩
        obtain ⟨zk1, zk2⟩ := zk
        have HT7 : Hid (Bs Wk A7 c7 bl) := Lib.hid (hT7.1.below (by rw [hWk]; exact (by repeat (first | exact Below.refl _ _ | refine Below.setCell ?_ (by first | (simp; done) | (simp; omega) | omega) _ | refine Below.alloc ?_ (by first | (simp; done) | (simp; omega) | omega) _ | refine Below.drew ?_ | assumption | refine Below.trans ?_ (Below.mono (by assumption) (by first | (simp; done) | (simp; omega) | omega))))))
        have hBak : Below Wa.heap.size Wa Wk := hBr.trans (hBk.mono hBr.size)
        have HT5 : Hid (Bs Wk A5 c5 bl) := Lib.hid (HBody.out.below hBak)
        have e0 := cellB hBak d0
        have e1 := cellB hBak d1
        have e2 := cellB hBak d2
        have e3 := cellB hBak d3
        have hBwk : Below w.heap.size w Wk := hBw.trans (hBk.mono hBw.size)
        have RQ := Lib.hid (fun W (hb : Below Wk.heap.size Wk W) => request_any m p cl A5 L c5 bl HBL.out (by have := HLS.out; omega) W (HT5.out.below hb))
        have SQ := Lib.hid (fun W (hb : Below Wk.heap.size Wk W) (B d) (hT : Bs W B d bl) => same_eq m p cl A7 B L c7 d bl HBL.out (by have := HLS.out; omega) W (HT7.out.below hb) hT)
        unfold rqB at RQ SQ
        rw [HM.out, HPP.out] at RQ SQ
        clear hWk hT7 hb7 hc7 hf7 hs7 hz7
        generalize w7.heap.size = qb at *
        go_region_held3 (fun w' => w'.cell? ⟨qb, 0, none⟩ = some (.string M) ∧ w'.cell? ⟨qb, 1, none⟩ = some (.string P) ∧ w'.cell? ⟨qb, 2, none⟩ = some (.slice A7 L c7) ∧ w'.cell? ⟨qb, 3, none⟩ = some (.bool cl) ∧ w'.cell? ⟨rb, 0, none⟩ = some (.string M) ∧ w'.cell? ⟨rb, 1, none⟩ = some (.string P) ∧ w'.cell? ⟨rb, 2, none⟩ = some (.slice A5 L c5) ∧ w'.cell? ⟨rb, 3, none⟩ = some (.bool cl) ∧ qb < w'.heap.size ∧ rb < w'.heap.size ∧ Below Wk.heap.size Wk w')
      (first | (refine ⟨?_, ?_, ?_, ?_, ?_, ?_, ?_, ?_, ?_, ?_, ?_⟩ <;> first | (simp [go_sem, *]; done) | omega | (simp; omega) | exact (by repeat (first | exact Below.refl _ _ | refine Below.setCell ?_ (by first | (simp; done) | (simp; omega) | omega) _ | refine Below.alloc ?_ (by first | (simp; done) | (simp; omega) | omega) _ | refine Below.drew ?_ | assumption | refine Below.trans ?_ (Below.mono (by assumption) (by first | (simp; done) | (simp; omega) | omega))))))
      (first | (first | (go_at_call 14; refine (RQ.out _ (by repeat (first | exact Below.refl _ _ | refine Below.setCell ?_ (by first | (simp; done) | (simp; omega) | omega) _ | refine Below.alloc ?_ (by first | (simp; done) | (simp; omega) | omega) _ | refine Below.drew ?_ | assumption | refine Below.trans ?_ (Below.mono (by assumption) (by first | (simp; done) | (simp; omega) | omega))))).mono ?_; rintro e w8 ⟨⟨A8, c8, rfl, hT8⟩, hb8⟩; obtain ⟨hc8, hf8⟩ := bcell hb8; (try simp only [drew_size, drew_cell, drew_frozen] at hc8 hf8); have hs8 := hb8.size; (try simp at hs8); have hz8 : qb < w8.heap.size ∧ rb < w8.heap.size := (by have := hb8.size; (try simp at this); omega); have HT8 := Lib.hid hT8; clear hT8) | (go_at_call 13; refine (SQ.out _ (by repeat (first | exact Below.refl _ _ | refine Below.setCell ?_ (by first | (simp; done) | (simp; omega) | omega) _ | refine Below.alloc ?_ (by first | (simp; done) | (simp; omega) | omega) _ | refine Below.drew ?_ | assumption | refine Below.trans ?_ (Below.mono (by assumption) (by first | (simp; done) | (simp; omega) | omega)))) A8 c8 (HT8.out.1.below (by repeat (first | exact Below.refl _ _ | refine Below.setCell ?_ (by first | (simp; done) | (simp; omega) | omega) _ | refine Below.alloc ?_ (by first | (simp; done) | (simp; omega) | omega) _ | refine Below.drew ?_ | assumption | refine Below.trans ?_ (Below.mono (by assumption) (by first | (simp; done) | (simp; omega) | omega)))))).mono ?_; rintro e w9 ⟨rfl, hb9⟩; obtain ⟨hc9, hf9⟩ := bcell hb9; (try simp only [drew_size, drew_cell, drew_frozen] at hc9 hf9); have hs9 := hb9.size; (try simp at hs9); have hz9 : qb < w9.heap.size ∧ rb < w9.heap.size := by have := hb9.size; (try simp at this); omega)))
        all_goals
          go_wp2_with (first | (go_at_call 12; (with_reducible refine (num_same _ _).mono ?_); rintro e w9 ⟨rfl, rfl⟩))
          all_goals
            go_roundw
            case rel => exact ⟨k + s, by omega, by go_num, hBak.trans (Below.mono (show Below Wk.heap.size Wk _ from (by repeat (first | exact Below.refl _ _ | refine Below.setCell ?_ (by first | (simp; done) | (simp; omega) | omega) _ | refine Below.alloc ?_ (by first | (simp; done) | (simp; omega) | omega) _ | refine Below.drew ?_ | assumption | refine Below.trans ?_ (Below.mono (by assumption) (by first | (simp; done) | (simp; omega) | omega))))) hBak.size)⟩
            case measure => first | (simp [intOf]; done) | (simp [intOf]; omega)
    · have hle : ¬ (k : Int) ≤ (n : Int) := by omega
      go_wp2
      go_ret
      exact ⟨rfl, hBw⟩

theorem fronts_walk (A : Option Addr) (n c : Nat) (l : List UInt8) (hl : l.length = n) (w : World) (E : Env w) (T : Bs w A c l) :
    Calls Tryz.prog 3 #[.slice A n c] w fun e w' => e = .returned (.bool true) ∧ Below w.heap.size w w' := by
  by_cases hn : n ≤ 1500
  · cases hp : parseF l with
    | wait => exact fronts_wait A n c l hl hn w E T hp
    | bad x => exact fronts_bad A n c l hl hn w E T hp
    | done st r => exact fronts_done A n c l hl hn w E T hp
  · have h15 : (1500 : Int) < (n : Int) := by omega
    have FO := Lib.hid (fun W (hb : Below w.heap.size w W) => first_ok W (E.below hb))
    clear E T hl
    go_enter Tryz.func3, Tryz.ntmps3
    go_wp2_with (first | (go_at_call 10; refine (FO.out _ (by repeat (first | exact Below.refl _ _ | refine Below.setCell ?_ (by first | (simp; done) | (simp; omega) | omega) _ | refine Below.alloc ?_ (by first | (simp; done) | (simp; omega) | omega) _ | refine Below.drew ?_ | assumption | refine Below.trans ?_ (Below.mono (by assumption) (by first | (simp; done) | (simp; omega) | omega))))).mono ?_; rintro e w4 ⟨rfl, hb4⟩; obtain ⟨hc4, hf4⟩ := bcell hb4; have hs4 := hb4.size; (try simp at hs4)))
    go_ret
    exact ⟨rfl, (by repeat (first | exact Below.refl _ _ | refine Below.setCell ?_ (by first | (simp; done) | (simp; omega) | omega) _ | refine Below.alloc ?_ (by first | (simp; done) | (simp; omega) | omega) _ | refine Below.drew ?_ | assumption | refine Below.trans ?_ (Below.mono (by assumption) (by first | (simp; done) | (simp; omega) | omega))))⟩
end Go.Proofs.YtkaimfeiahogaaaGreatDoor
