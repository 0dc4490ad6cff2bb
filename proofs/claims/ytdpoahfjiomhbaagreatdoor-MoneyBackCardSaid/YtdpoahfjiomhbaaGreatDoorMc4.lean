/-
  Contracts of money.Amount's Cmp, Neg, Add, Sub.
-/
import Derived.Test.YtdpoahfjiomhbaaGreatDoorMc3
import Derived.Test.YtdpoahfjiomhbaaGreatDoorMs1
import Derived.Test.YtdpoahfjiomhbaaGreatDoorWk3
namespace Go.Proofs.YtdpoahfjiomhbaaGreatDoor
set_option linter.all false
open Go.RowKit Go.Sort
attribute [local go_sem] cell_set_self lt_1 lt_2 lt_3 lt_4 lt_5 lt_6

theorem pairE_in {u : Int} {c : List UInt8} {v : Int} {d : List UInt8} (h : pairE u c v d = 0) : inU u = true ∧ inU v = true ∧ scE c = 0 ∧ scE d = 0 ∧ c = d := by
  unfold pairE at h
  have h1 : fstE (amE u c) (amE v d) = 0 := by
    by_cases k : fstE (amE u c) (amE v d) = 0
    · exact k
    · rw [if_neg k] at h; exact absurd h k
  rw [if_pos h1] at h
  have hcd : c = d := by
    by_cases k : c = d
    · exact k
    · rw [if_neg k] at h; simp at h
  have h2 : amE u c = 0 := by
    unfold fstE at h1
    by_cases k : amE u c = 0
    · exact k
    · rw [if_neg k] at h1; exact h1
  have h3 : amE v d = 0 := by unfold fstE at h1; rw [if_pos h2] at h1; exact h1
  have amI : ∀ u c, amE u c = 0 → inU u = true ∧ scE c = 0 := fun u c h => by
    unfold amE at h
    rcases scE_cases c with k | k
    · rw [if_pos k] at h
      cases hu : inU u with
      | true => exact ⟨rfl, k⟩
      | false => rw [hu] at h; simp at h
    · rw [k] at h; simp at h
  exact ⟨(amI u c h2).1, (amI v d h3).1, (amI u c h2).2, (amI v d h3).2, hcd⟩
theorem inU_iff {u : Int} : inU u = true ↔ (-4611686018427387904 ≤ u ∧ u ≤ 4611686018427387904) := by unfold inU; simp
def mcmpN (u : Int) (c : List UInt8) (v : Int) (d : List UInt8) : Int := if pairE u c v d = 0 then Lib.compareInt u v else 0
set_option maxHeartbeats 4000000 in
theorem mcmp_any (u : Int) (c : List UInt8) (v : Int) (d : List UInt8) (w : World) : Calls Tryz.prog 41 #[.agg #[.int .i64 u, .string ⟨c.toArray⟩], .agg #[.int .i64 v, .string ⟨d.toArray⟩]] w fun e w' => e = .returned (.tuple #[.int .i64 (mcmpN u c v d), .int .i64 (pairE u c v d)]) ∧ Below w.heap.size w w' := by
  have PA := Lib.hid (fun W => pair_any u c v d W)
  have CI := Lib.hid (fun W => Tryz.cmp_Compare_int u v W)
  by_cases h : pairE u c v d = 0
  · have E := Lib.hid (And.intro (show mcmpN u c v d = Lib.compareInt u v by unfold mcmpN; rw [if_pos h]) h)
    rw [h] at PA
    clear h
    generalize (⟨c.toArray⟩ : ByteArray) = C at *
    generalize (⟨d.toArray⟩ : ByteArray) = D at *
    generalize Lib.compareInt u v = x at *
    go_enter Tryz.func41, Tryz.ntmps41
    go_wp2_with (first | (go_at_call 91; refine (PA.out _).mono ?_; rintro e w1 ⟨rfl, hb1⟩; obtain ⟨hc1, hf1⟩ := bcell hb1; have hs1 := hb1.size; (try simp at hs1); have hz1 : w.heap.size < w1.heap.size ∧ w.heap.size + 1 < w1.heap.size := by have := hb1.size; (try simp at this); omega) | (go_at_call 74; refine (CI.out _).mono ?_; rintro e w2 ⟨rfl, rfl⟩))
    go_ret2
    exact ⟨ret_n2 E.out.1 E.out.2, (by repeat (first | exact Below.refl _ _ | refine Below.setCell ?_ (by first | (simp; done) | (simp; omega) | omega) _ | refine Below.alloc ?_ (by first | (simp; done) | (simp; omega) | omega) _ | refine Below.drew ?_ | assumption | refine Below.trans ?_ (Below.mono (by assumption) (by first | (simp; done) | (simp; omega) | omega))))⟩
  · have E := Lib.hid (show mcmpN u c v d = 0 by unfold mcmpN; rw [if_neg h])
    have x0 : (pairE u c v d != 0) = true := by simpa using h
    clear h CI
    generalize mcmpN u c v d = z at *
    generalize pairE u c v d = y at *
    generalize (⟨c.toArray⟩ : ByteArray) = C at *
    generalize (⟨d.toArray⟩ : ByteArray) = D at *
    go_enter Tryz.func41, Tryz.ntmps41
    go_wp2_with (first | (go_at_call 91; refine (PA.out _).mono ?_; rintro e w1 ⟨rfl, hb1⟩; obtain ⟨hc1, hf1⟩ := bcell hb1; have hs1 := hb1.size; (try simp at hs1); have hz1 : w.heap.size < w1.heap.size ∧ w.heap.size + 1 < w1.heap.size := by have := hb1.size; (try simp at this); omega))
    go_ret2
    exact ⟨ret_n2 E.out rfl, (by repeat (first | exact Below.refl _ _ | refine Below.setCell ?_ (by first | (simp; done) | (simp; omega) | omega) _ | refine Below.alloc ?_ (by first | (simp; done) | (simp; omega) | omega) _ | refine Below.drew ?_ | assumption | refine Below.trans ?_ (Below.mono (by assumption) (by first | (simp; done) | (simp; omega) | omega))))⟩
set_option maxHeartbeats 2000000 in
theorem neg_any (u : Int) (c : List UInt8) (w : World) : Calls Tryz.prog 49 #[.agg #[.int .i64 u, .string ⟨c.toArray⟩]] w fun e w' => e = .returned (amR (amE u c) (-u) c) ∧ Below w.heap.size w w' := by
  have CK := Lib.hid (fun W => mcheck_any u c W)
  by_cases h : amE u c = 0
  · rw [amR_0 h]
    have hu : inU u = true := by
      unfold amE at h
      cases hu : inU u with
      | true => rfl
      | false =>
        rw [hu] at h
        rcases scE_cases c with k | k
        · rw [if_pos k] at h; simp at h
        · rw [k] at h; simp at h
    obtain ⟨u0, u1⟩ := inU_iff.1 hu
    rw [h] at CK
    clear h hu
    generalize (⟨c.toArray⟩ : ByteArray) = C at *
    go_enter Tryz.func49, Tryz.ntmps49
    go_wp2_with (first | (go_at_call 67; refine (CK.out _).mono ?_; rintro e w1 ⟨rfl, hb1⟩; obtain ⟨hc1, hf1⟩ := bcell hb1; have hs1 := hb1.size; (try simp at hs1); have hz1 : w.heap.size < w1.heap.size ∧ w.heap.size + 1 < w1.heap.size := by have := hb1.size; (try simp at this); omega))
    exact bodyPost_ret (v := .tuple #[.agg #[.int .i64 (-u), .string C], .int .i64 0]) (by simp [results, Tryz.results49, go_sem, *]) rfl ⟨rfl, (by repeat (first | exact Below.refl _ _ | refine Below.setCell ?_ (by first | (simp; done) | (simp; omega) | omega) _ | refine Below.alloc ?_ (by first | (simp; done) | (simp; omega) | omega) _ | refine Below.drew ?_ | assumption | refine Below.trans ?_ (Below.mono (by assumption) (by first | (simp; done) | (simp; omega) | omega))))⟩
  · rw [amR_n h]
    generalize amE u c = x at *
    have x0 : (x != 0) = true := by simpa using h
    clear h
    generalize (⟨c.toArray⟩ : ByteArray) = C at *
    go_enter Tryz.func49, Tryz.ntmps49
    go_wp2_with (first | (go_at_call 67; refine (CK.out _).mono ?_; rintro e w1 ⟨rfl, hb1⟩; obtain ⟨hc1, hf1⟩ := bcell hb1; have hs1 := hb1.size; (try simp at hs1); have hz1 : w.heap.size < w1.heap.size ∧ w.heap.size + 1 < w1.heap.size := by have := hb1.size; (try simp at this); omega))
    exact bodyPost_ret (v := .tuple #[.agg #[.int .i64 0, .string ⟨#[]⟩], .int .i64 x]) (by simp [results, Tryz.results49, go_sem, *]) rfl ⟨rfl, (by repeat (first | exact Below.refl _ _ | refine Below.setCell ?_ (by first | (simp; done) | (simp; omega) | omega) _ | refine Below.alloc ?_ (by first | (simp; done) | (simp; omega) | omega) _ | refine Below.drew ?_ | assumption | refine Below.trans ?_ (Below.mono (by assumption) (by first | (simp; done) | (simp; omega) | omega))))⟩
end Go.Proofs.YtdpoahfjiomhbaaGreatDoor
