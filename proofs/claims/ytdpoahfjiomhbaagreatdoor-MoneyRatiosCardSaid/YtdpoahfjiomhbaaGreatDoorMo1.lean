/-
  The walk of the statement MoneyOrder: it returns true, whatever it is given.
-/
import Derived.Test.YtdpoahfjiomhbaaGreatDoorMf1
import Derived.Test.YtdpoahfjiomhbaaGreatDoorMc5
namespace Go.Proofs.YtdpoahfjiomhbaaGreatDoor
set_option linter.all false
open Go.RowKit Go.Sort
attribute [local go_sem] cell_set_self lt_1 lt_2 lt_3 lt_4 lt_5 lt_6

theorem pairE_sym {u : Int} {c : List UInt8} {v : Int} {d : List UInt8} (h : pairE u c v d = 0) : pairE v d u c = 0 := by
  obtain ⟨h1, h2, h3, h4, h5⟩ := pairE_in h
  have a1 : amE u c = 0 := by unfold amE; rw [if_pos h3, h1]; rfl
  have a2 : amE v d = 0 := by unfold amE; rw [if_pos h4, h2]; rfl
  unfold pairE fstE
  rw [if_pos a2, a1, if_pos rfl, if_pos h5.symm]
theorem pairE_ne {u : Int} {c : List UInt8} {v : Int} {d : List UInt8} (h : pairE u c v d ≠ 0) : pairE v d u c ≠ 0 := fun k => h (pairE_sym k)
/-- Is an amount's currency longer than a law takes? -/
theorem cur_big (c : List UInt8) : (200 < c.length ∧ (200 : Int) < ((⟨c.toArray⟩ : ByteArray).size : Int)) ∨ (c.length ≤ 200 ∧ ¬ (200 : Int) < ((⟨c.toArray⟩ : ByteArray).size : Int)) := by
  rw [ba_szP]; omega
theorem cmp3 (u v : Int) : (u < v ∧ Lib.compareInt u v = -1 ∧ Lib.compareInt v u = 1) ∨ (u = v ∧ Lib.compareInt u v = 0 ∧ Lib.compareInt v u = 0) ∨ (v < u ∧ Lib.compareInt u v = 1 ∧ Lib.compareInt v u = -1) := by
  unfold Lib.compareInt
  rcases Int.lt_trichotomy u v with h | h | h
  · left; refine ⟨h, by rw [if_pos h], by rw [if_neg (by omega), if_pos h]⟩
  · right; left; subst h; simp
  · right; right; refine ⟨h, by rw [if_neg (by omega), if_pos h], by rw [if_pos h]⟩
set_option maxHeartbeats 8000000 in
set_option maxRecDepth 100000 in
theorem order_walk6 (u : Int) (c : List UInt8) (v : Int) (d : List UInt8) (_hu : In64 u) (_hv : In64 v) (w : World) (E : Env w) :
    Calls Tryz.prog 8 #[.agg #[.int .i64 u, .string ⟨c.toArray⟩], .agg #[.int .i64 v, .string ⟨d.toArray⟩]] w fun e w' => e = .returned (.bool true) ∧ Below w.heap.size w w' := by
  have F0 := Lib.hid (fun W (hb : Below w.heap.size w W) => first6_any W (E.below hb))
  clear E
  rcases cur_big c with ⟨_, hc⟩ | ⟨_, hc⟩
  · generalize (⟨c.toArray⟩ : ByteArray) = C at *
    generalize (⟨d.toArray⟩ : ByteArray) = D at *
    go_enter Tryz.func8, Tryz.ntmps8
    go_wp2_with (first | (go_at_call 18; refine (F0.out _ (by repeat (first | exact Below.refl _ _ | refine Below.setCell ?_ (by first | (simp; done) | (simp; omega) | omega) _ | refine Below.alloc ?_ (by first | (simp; done) | (simp; omega) | omega) _ | refine Below.drew ?_ | assumption | refine Below.trans ?_ (Below.mono (by assumption) (by first | (simp; done) | (simp; omega) | omega))))).mono ?_; rintro e w1 ⟨rfl, hb1⟩; obtain ⟨hc1, hf1⟩ := bcell hb1; have hs1 := hb1.size; (try simp at hs1); have hz1 : w.heap.size < w1.heap.size ∧ w.heap.size + 1 < w1.heap.size := by have := hb1.size; (try simp at this); omega))
    go_ret
    exact ⟨rfl, (by repeat (first | exact Below.refl _ _ | refine Below.setCell ?_ (by first | (simp; done) | (simp; omega) | omega) _ | refine Below.alloc ?_ (by first | (simp; done) | (simp; omega) | omega) _ | refine Below.drew ?_ | assumption | refine Below.trans ?_ (Below.mono (by assumption) (by first | (simp; done) | (simp; omega) | omega))))⟩
  rcases cur_big d with ⟨_, hd⟩ | ⟨_, hd⟩
  · generalize (⟨c.toArray⟩ : ByteArray) = C at *
    generalize (⟨d.toArray⟩ : ByteArray) = D at *
    go_enter Tryz.func8, Tryz.ntmps8
    go_wp2_with (first | (go_at_call 18; refine (F0.out _ (by repeat (first | exact Below.refl _ _ | refine Below.setCell ?_ (by first | (simp; done) | (simp; omega) | omega) _ | refine Below.alloc ?_ (by first | (simp; done) | (simp; omega) | omega) _ | refine Below.drew ?_ | assumption | refine Below.trans ?_ (Below.mono (by assumption) (by first | (simp; done) | (simp; omega) | omega))))).mono ?_; rintro e w1 ⟨rfl, hb1⟩; obtain ⟨hc1, hf1⟩ := bcell hb1; have hs1 := hb1.size; (try simp at hs1); have hz1 : w.heap.size < w1.heap.size ∧ w.heap.size + 1 < w1.heap.size := by have := hb1.size; (try simp at this); omega))
    go_ret
    exact ⟨rfl, (by repeat (first | exact Below.refl _ _ | refine Below.setCell ?_ (by first | (simp; done) | (simp; omega) | omega) _ | refine Below.alloc ?_ (by first | (simp; done) | (simp; omega) | omega) _ | refine Below.drew ?_ | assumption | refine Below.trans ?_ (Below.mono (by assumption) (by first | (simp; done) | (simp; omega) | omega))))⟩
  have C1 := Lib.hid (fun W => mcmp_any u c v d W)
  have C2 := Lib.hid (fun W => mcmp_any v d u c W)
  have SB := Lib.hid (fun W => msub_any u c v d W)
  have NU := Lib.hid (fun n W => num_any n W)
  by_cases hp : pairE u c v d = 0
  · have hp2 := pairE_sym hp
    have hcd := (pairE_in hp).2.2.2.2
    have e1 : mcmpN u c v d = Lib.compareInt u v := by unfold mcmpN; rw [if_pos hp]
    have e2 : mcmpN v d u c = Lib.compareInt v u := by unfold mcmpN; rw [if_pos hp2]
    have e3 : opE (pairE u c v d) (u - v) = maE (u - v) := by unfold opE; rw [if_pos hp]
    rw [e1, hp] at C1
    rw [e2, hp2] at C2
    rw [e3] at SB
    subst hcd
    clear e1 e2 e3 hp hp2
    have hin : inU (u - v) = true ∨ inU (u - v) = false := by cases inU (u - v) <;> simp
    rcases hin with hi | hi
    · have m0 : maE (u - v) = 0 := by unfold maE; rw [hi]; rfl
      rw [amR_0 m0] at SB
      clear m0 hi
      obtain ⟨z, hz⟩ : ∃ z, u - v = z := ⟨_, rfl⟩
      rw [hz] at SB
      rcases cmp3 u v with ⟨h, k1, k2⟩ | ⟨h, k1, k2⟩ | ⟨h, k1, k2⟩
      · have z0 : z < 0 := by omega
        have z1 : ¬ 0 < z := by omega
        have z2 : (z == 0) = false := by simp; omega
        rw [k1] at C1
        rw [k2] at C2
        clear k1 k2 h hz
        generalize (⟨c.toArray⟩ : ByteArray) = C at *
        go_enter Tryz.func8, Tryz.ntmps8
        go_wp2_with (first | (go_at_call 18; refine (F0.out _ (by repeat (first | exact Below.refl _ _ | refine Below.setCell ?_ (by first | (simp; done) | (simp; omega) | omega) _ | refine Below.alloc ?_ (by first | (simp; done) | (simp; omega) | omega) _ | refine Below.drew ?_ | assumption | refine Below.trans ?_ (Below.mono (by assumption) (by first | (simp; done) | (simp; omega) | omega))))).mono ?_; rintro e w1 ⟨rfl, hb1⟩; obtain ⟨hc1, hf1⟩ := bcell hb1; have hs1 := hb1.size; (try simp at hs1); have hz1 : w.heap.size < w1.heap.size ∧ w.heap.size + 1 < w1.heap.size := by have := hb1.size; (try simp at this); omega) | (go_at_call 41; (with_reducible refine (C1.out _).mono ?_); rintro e w2 ⟨rfl, hb2⟩; obtain ⟨hc2, hf2⟩ := bcell hb2; have hs2 := hb2.size; (try simp at hs2); have hz2 : w.heap.size < w2.heap.size ∧ w.heap.size + 1 < w2.heap.size := (by omega)) | (go_at_call 41; (with_reducible refine (C2.out _).mono ?_); rintro e w3 ⟨rfl, hb3⟩; obtain ⟨hc3, hf3⟩ := bcell hb3; have hs3 := hb3.size; (try simp at hs3); have hz3 : w.heap.size < w3.heap.size ∧ w.heap.size + 1 < w3.heap.size := (by omega)) | (go_at_call 42; (refine (SB.out _).mono ?_); rintro e w4 ⟨rfl, hb4⟩; obtain ⟨hc4, hf4⟩ := bcell hb4; have hs4 := hb4.size; (try simp at hs4); have hz4 : w.heap.size < w4.heap.size ∧ w.heap.size + 1 < w4.heap.size ∧ w.heap.size < w4.heap.size + 1 ∧ w.heap.size + 1 < w4.heap.size + 1 := (by omega)) | (go_at_call 17; (refine (NU.out _ _).mono ?_); rintro e w5 ⟨rfl, hb5⟩; obtain ⟨hc5, hf5⟩ := bcell hb5; have hs5 := hb5.size; (try simp at hs5); have hz5 : w.heap.size < w5.heap.size ∧ w.heap.size + 1 < w5.heap.size ∧ w4.heap.size < w5.heap.size := (by omega)) | (go_at_call 17; (refine (NU.out _ _).mono ?_); rintro e w5 ⟨rfl, hb5⟩; obtain ⟨hc5, hf5⟩ := bcell hb5; have hs5 := hb5.size; (try simp at hs5); have hz5 : w.heap.size < w5.heap.size ∧ w.heap.size + 1 < w5.heap.size := (by omega)))
        go_ret
        exact ⟨rfl, (by repeat (first | exact Below.refl _ _ | refine Below.setCell ?_ (by first | (simp; done) | (simp; omega) | omega) _ | refine Below.alloc ?_ (by first | (simp; done) | (simp; omega) | omega) _ | refine Below.drew ?_ | assumption | refine Below.trans ?_ (Below.mono (by assumption) (by first | (simp; done) | (simp; omega) | omega))))⟩
      · have z0 : z = 0 := by omega
        rw [k1] at C1
        rw [k2] at C2
        rw [z0] at SB
        clear k1 k2 h hz z0
        generalize (⟨c.toArray⟩ : ByteArray) = C at *
        go_enter Tryz.func8, Tryz.ntmps8
        go_wp2_with (first | (go_at_call 18; refine (F0.out _ (by repeat (first | exact Below.refl _ _ | refine Below.setCell ?_ (by first | (simp; done) | (simp; omega) | omega) _ | refine Below.alloc ?_ (by first | (simp; done) | (simp; omega) | omega) _ | refine Below.drew ?_ | assumption | refine Below.trans ?_ (Below.mono (by assumption) (by first | (simp; done) | (simp; omega) | omega))))).mono ?_; rintro e w1 ⟨rfl, hb1⟩; obtain ⟨hc1, hf1⟩ := bcell hb1; have hs1 := hb1.size; (try simp at hs1); have hz1 : w.heap.size < w1.heap.size ∧ w.heap.size + 1 < w1.heap.size := by have := hb1.size; (try simp at this); omega) | (go_at_call 41; (with_reducible refine (C1.out _).mono ?_); rintro e w2 ⟨rfl, hb2⟩; obtain ⟨hc2, hf2⟩ := bcell hb2; have hs2 := hb2.size; (try simp at hs2); have hz2 : w.heap.size < w2.heap.size ∧ w.heap.size + 1 < w2.heap.size := (by omega)) | (go_at_call 41; (with_reducible refine (C2.out _).mono ?_); rintro e w3 ⟨rfl, hb3⟩; obtain ⟨hc3, hf3⟩ := bcell hb3; have hs3 := hb3.size; (try simp at hs3); have hz3 : w.heap.size < w3.heap.size ∧ w.heap.size + 1 < w3.heap.size := (by omega)) | (go_at_call 42; (refine (SB.out _).mono ?_); rintro e w4 ⟨rfl, hb4⟩; obtain ⟨hc4, hf4⟩ := bcell hb4; have hs4 := hb4.size; (try simp at hs4); have hz4 : w.heap.size < w4.heap.size ∧ w.heap.size + 1 < w4.heap.size ∧ w.heap.size < w4.heap.size + 1 ∧ w.heap.size + 1 < w4.heap.size + 1 := (by omega)) | (go_at_call 17; (refine (NU.out _ _).mono ?_); rintro e w5 ⟨rfl, hb5⟩; obtain ⟨hc5, hf5⟩ := bcell hb5; have hs5 := hb5.size; (try simp at hs5); have hz5 : w.heap.size < w5.heap.size ∧ w.heap.size + 1 < w5.heap.size ∧ w4.heap.size < w5.heap.size := (by omega)) | (go_at_call 17; (refine (NU.out _ _).mono ?_); rintro e w5 ⟨rfl, hb5⟩; obtain ⟨hc5, hf5⟩ := bcell hb5; have hs5 := hb5.size; (try simp at hs5); have hz5 : w.heap.size < w5.heap.size ∧ w.heap.size + 1 < w5.heap.size := (by omega)))
        go_ret
        exact ⟨rfl, (by repeat (first | exact Below.refl _ _ | refine Below.setCell ?_ (by first | (simp; done) | (simp; omega) | omega) _ | refine Below.alloc ?_ (by first | (simp; done) | (simp; omega) | omega) _ | refine Below.drew ?_ | assumption | refine Below.trans ?_ (Below.mono (by assumption) (by first | (simp; done) | (simp; omega) | omega))))⟩
      · have z0 : ¬ z < 0 := by omega
        have z1 : 0 < z := by omega
        have z2 : (z == 0) = false := by simp; omega
        rw [k1] at C1
        rw [k2] at C2
        clear k1 k2 h hz
        generalize (⟨c.toArray⟩ : ByteArray) = C at *
        go_enter Tryz.func8, Tryz.ntmps8
        go_wp2_with (first | (go_at_call 18; refine (F0.out _ (by repeat (first | exact Below.refl _ _ | refine Below.setCell ?_ (by first | (simp; done) | (simp; omega) | omega) _ | refine Below.alloc ?_ (by first | (simp; done) | (simp; omega) | omega) _ | refine Below.drew ?_ | assumption | refine Below.trans ?_ (Below.mono (by assumption) (by first | (simp; done) | (simp; omega) | omega))))).mono ?_; rintro e w1 ⟨rfl, hb1⟩; obtain ⟨hc1, hf1⟩ := bcell hb1; have hs1 := hb1.size; (try simp at hs1); have hz1 : w.heap.size < w1.heap.size ∧ w.heap.size + 1 < w1.heap.size := by have := hb1.size; (try simp at this); omega) | (go_at_call 41; (with_reducible refine (C1.out _).mono ?_); rintro e w2 ⟨rfl, hb2⟩; obtain ⟨hc2, hf2⟩ := bcell hb2; have hs2 := hb2.size; (try simp at hs2); have hz2 : w.heap.size < w2.heap.size ∧ w.heap.size + 1 < w2.heap.size := (by omega)) | (go_at_call 41; (with_reducible refine (C2.out _).mono ?_); rintro e w3 ⟨rfl, hb3⟩; obtain ⟨hc3, hf3⟩ := bcell hb3; have hs3 := hb3.size; (try simp at hs3); have hz3 : w.heap.size < w3.heap.size ∧ w.heap.size + 1 < w3.heap.size := (by omega)) | (go_at_call 42; (refine (SB.out _).mono ?_); rintro e w4 ⟨rfl, hb4⟩; obtain ⟨hc4, hf4⟩ := bcell hb4; have hs4 := hb4.size; (try simp at hs4); have hz4 : w.heap.size < w4.heap.size ∧ w.heap.size + 1 < w4.heap.size ∧ w.heap.size < w4.heap.size + 1 ∧ w.heap.size + 1 < w4.heap.size + 1 := (by omega)) | (go_at_call 17; (refine (NU.out _ _).mono ?_); rintro e w5 ⟨rfl, hb5⟩; obtain ⟨hc5, hf5⟩ := bcell hb5; have hs5 := hb5.size; (try simp at hs5); have hz5 : w.heap.size < w5.heap.size ∧ w.heap.size + 1 < w5.heap.size ∧ w4.heap.size < w5.heap.size := (by omega)) | (go_at_call 17; (refine (NU.out _ _).mono ?_); rintro e w5 ⟨rfl, hb5⟩; obtain ⟨hc5, hf5⟩ := bcell hb5; have hs5 := hb5.size; (try simp at hs5); have hz5 : w.heap.size < w5.heap.size ∧ w.heap.size + 1 < w5.heap.size := (by omega)))
        go_ret
        exact ⟨rfl, (by repeat (first | exact Below.refl _ _ | refine Below.setCell ?_ (by first | (simp; done) | (simp; omega) | omega) _ | refine Below.alloc ?_ (by first | (simp; done) | (simp; omega) | omega) _ | refine Below.drew ?_ | assumption | refine Below.trans ?_ (Below.mono (by assumption) (by first | (simp; done) | (simp; omega) | omega))))⟩
    · have m0 : maE (u - v) = 16 := by unfold maE; rw [hi]; rfl
      rw [amR_n (by rw [m0]; decide), m0] at SB
      clear m0 hi
      rcases cmp3 u v with ⟨h, k1, k2⟩ | ⟨h, k1, k2⟩ | ⟨h, k1, k2⟩
      all_goals (
        rw [k1] at C1
        rw [k2] at C2
        clear k1 k2 h
        generalize (⟨c.toArray⟩ : ByteArray) = C at *
        go_enter Tryz.func8, Tryz.ntmps8
        go_wp2_with (first | (go_at_call 18; refine (F0.out _ (by repeat (first | exact Below.refl _ _ | refine Below.setCell ?_ (by first | (simp; done) | (simp; omega) | omega) _ | refine Below.alloc ?_ (by first | (simp; done) | (simp; omega) | omega) _ | refine Below.drew ?_ | assumption | refine Below.trans ?_ (Below.mono (by assumption) (by first | (simp; done) | (simp; omega) | omega))))).mono ?_; rintro e w1 ⟨rfl, hb1⟩; obtain ⟨hc1, hf1⟩ := bcell hb1; have hs1 := hb1.size; (try simp at hs1); have hz1 : w.heap.size < w1.heap.size ∧ w.heap.size + 1 < w1.heap.size := by have := hb1.size; (try simp at this); omega) | (go_at_call 41; (with_reducible refine (C1.out _).mono ?_); rintro e w2 ⟨rfl, hb2⟩; obtain ⟨hc2, hf2⟩ := bcell hb2; have hs2 := hb2.size; (try simp at hs2); have hz2 : w.heap.size < w2.heap.size ∧ w.heap.size + 1 < w2.heap.size := (by omega)) | (go_at_call 41; (with_reducible refine (C2.out _).mono ?_); rintro e w3 ⟨rfl, hb3⟩; obtain ⟨hc3, hf3⟩ := bcell hb3; have hs3 := hb3.size; (try simp at hs3); have hz3 : w.heap.size < w3.heap.size ∧ w.heap.size + 1 < w3.heap.size := (by omega)) | (go_at_call 42; (refine (SB.out _).mono ?_); rintro e w4 ⟨rfl, hb4⟩; obtain ⟨hc4, hf4⟩ := bcell hb4; have hs4 := hb4.size; (try simp at hs4); have hz4 : w.heap.size < w4.heap.size ∧ w.heap.size + 1 < w4.heap.size ∧ w.heap.size < w4.heap.size + 1 ∧ w.heap.size + 1 < w4.heap.size + 1 := (by omega)) | (go_at_call 17; (refine (NU.out _ _).mono ?_); rintro e w5 ⟨rfl, hb5⟩; obtain ⟨hc5, hf5⟩ := bcell hb5; have hs5 := hb5.size; (try simp at hs5); have hz5 : w.heap.size < w5.heap.size ∧ w.heap.size + 1 < w5.heap.size ∧ w4.heap.size < w5.heap.size := (by omega)) | (go_at_call 17; (refine (NU.out _ _).mono ?_); rintro e w5 ⟨rfl, hb5⟩; obtain ⟨hc5, hf5⟩ := bcell hb5; have hs5 := hb5.size; (try simp at hs5); have hz5 : w.heap.size < w5.heap.size ∧ w.heap.size + 1 < w5.heap.size := (by omega)))
        go_ret
        exact ⟨rfl, (by repeat (first | exact Below.refl _ _ | refine Below.setCell ?_ (by first | (simp; done) | (simp; omega) | omega) _ | refine Below.alloc ?_ (by first | (simp; done) | (simp; omega) | omega) _ | refine Below.drew ?_ | assumption | refine Below.trans ?_ (Below.mono (by assumption) (by first | (simp; done) | (simp; omega) | omega))))⟩)
  · have hp2 := pairE_ne hp
    have e1 : mcmpN u c v d = 0 := by unfold mcmpN; rw [if_neg hp]
    have e2 : mcmpN v d u c = 0 := by unfold mcmpN; rw [if_neg hp2]
    have e3 : opE (pairE u c v d) (u - v) = pairE u c v d := by unfold opE; rw [if_neg hp]
    rw [e1] at C1
    rw [e2] at C2
    rw [e3, amR_n hp] at SB
    have x1 : (pairE u c v d == 0) = false := by simpa using hp
    have x2 : (pairE v d u c == 0) = false := by simpa using hp2
    have x3 : (pairE u c v d != 0) = true := by simpa using hp
    clear e1 e2 e3 hp hp2
    generalize pairE u c v d = p1 at *
    generalize pairE v d u c = p2 at *
    generalize (⟨c.toArray⟩ : ByteArray) = C at *
    generalize (⟨d.toArray⟩ : ByteArray) = D at *
    go_enter Tryz.func8, Tryz.ntmps8
    go_wp2_with (first | (go_at_call 18; refine (F0.out _ (by repeat (first | exact Below.refl _ _ | refine Below.setCell ?_ (by first | (simp; done) | (simp; omega) | omega) _ | refine Below.alloc ?_ (by first | (simp; done) | (simp; omega) | omega) _ | refine Below.drew ?_ | assumption | refine Below.trans ?_ (Below.mono (by assumption) (by first | (simp; done) | (simp; omega) | omega))))).mono ?_; rintro e w1 ⟨rfl, hb1⟩; obtain ⟨hc1, hf1⟩ := bcell hb1; have hs1 := hb1.size; (try simp at hs1); have hz1 : w.heap.size < w1.heap.size ∧ w.heap.size + 1 < w1.heap.size := by have := hb1.size; (try simp at this); omega) | (go_at_call 41; (with_reducible refine (C1.out _).mono ?_); rintro e w2 ⟨rfl, hb2⟩; obtain ⟨hc2, hf2⟩ := bcell hb2; have hs2 := hb2.size; (try simp at hs2); have hz2 : w.heap.size < w2.heap.size ∧ w.heap.size + 1 < w2.heap.size := (by omega)) | (go_at_call 41; (with_reducible refine (C2.out _).mono ?_); rintro e w3 ⟨rfl, hb3⟩; obtain ⟨hc3, hf3⟩ := bcell hb3; have hs3 := hb3.size; (try simp at hs3); have hz3 : w.heap.size < w3.heap.size ∧ w.heap.size + 1 < w3.heap.size := (by omega)) | (go_at_call 42; (refine (SB.out _).mono ?_); rintro e w4 ⟨rfl, hb4⟩; obtain ⟨hc4, hf4⟩ := bcell hb4; have hs4 := hb4.size; (try simp at hs4); have hz4 : w.heap.size < w4.heap.size ∧ w.heap.size + 1 < w4.heap.size ∧ w.heap.size < w4.heap.size + 1 ∧ w.heap.size + 1 < w4.heap.size + 1 := (by omega)) | (go_at_call 17; (refine (NU.out _ _).mono ?_); rintro e w5 ⟨rfl, hb5⟩; obtain ⟨hc5, hf5⟩ := bcell hb5; have hs5 := hb5.size; (try simp at hs5); have hz5 : w.heap.size < w5.heap.size ∧ w.heap.size + 1 < w5.heap.size ∧ w4.heap.size < w5.heap.size := (by omega)) | (go_at_call 17; (refine (NU.out _ _).mono ?_); rintro e w5 ⟨rfl, hb5⟩; obtain ⟨hc5, hf5⟩ := bcell hb5; have hs5 := hb5.size; (try simp at hs5); have hz5 : w.heap.size < w5.heap.size ∧ w.heap.size + 1 < w5.heap.size := (by omega)))
    go_ret
    exact ⟨rfl, (by repeat (first | exact Below.refl _ _ | refine Below.setCell ?_ (by first | (simp; done) | (simp; omega) | omega) _ | refine Below.alloc ?_ (by first | (simp; done) | (simp; omega) | omega) _ | refine Below.drew ?_ | assumption | refine Below.trans ?_ (Below.mono (by assumption) (by first | (simp; done) | (simp; omega) | omega))))⟩
end Go.Proofs.YtdpoahfjiomhbaaGreatDoor
