/-
  Contract of money.Amount.Ratio.
-/
import Derived.Test.YtdpoahfjiomhbaaGreatDoorMc5
import Derived.Test.YtdpoahfjiomhbaaGreatDoorMd1
namespace Go.Proofs.YtdpoahfjiomhbaaGreatDoor
set_option linter.all false
open Go.RowKit Go.Sort
attribute [local go_sem] cell_set_self lt_1 lt_2 lt_3 lt_4 lt_5 lt_6

theorem prod_bd {u n : Int} (h0 : -4611686018427387904 ≤ u) (h1 : u ≤ 4611686018427387904) (hn : In64 n) : (u * n).natAbs ≤ 42535295865117307932921825928971026432 := by
  rw [Int.natAbs_mul]
  have a : u.natAbs ≤ 4611686018427387904 := by omega
  have b : n.natAbs ≤ 9223372036854775808 := by have := hn.1; have := hn.2; omega
  have := Nat.mul_le_mul a b
  omega
theorem rhZ_abs (a d : Int) (h : d ≠ 0) : (rhZ a d).natAbs ≤ a.natAbs + 1 := by
  unfold rhZ
  split
  · have := rhe_absM (-a) (-d) (by omega); omega
  · have := rhe_absM a d (by omega); omega
def ratE (u : Int) (c : List UInt8) (n d : Int) : Int := if amE u c = 0 then (if d = 0 then 17 else maE (rhZ (u * n) d)) else amE u c
set_option maxHeartbeats 4000000 in
set_option maxRecDepth 100000 in
theorem ratio_any (u : Int) (c : List UInt8) (n d : Int) (hn : In64 n) (hd : In64 d) (w : World) : Calls Tryz.prog 34 #[.agg #[.int .i64 u, .string ⟨c.toArray⟩], .int .i64 n, .int .i64 d] w fun e w' => e = .returned (amR (ratE u c n d) (rhZ (u * n) d) c) ∧ Below w.heap.size w w' := by
  have CK := Lib.hid (fun W => mcheck_any u c W)
  by_cases h : amE u c = 0
  · have hu : inU u = true := by
      unfold amE at h
      cases hu : inU u with
      | true => rfl
      | false =>
        rw [hu] at h
        rcases scE_cases c with k | k
        · rw [if_pos k] at h; simp at h
        · rw [k] at h; simp at h
    obtain ⟨u0, u1⟩ := inU_iff.1 hu
    have bd := prod_bd u0 u1 hn
    have MU := Lib.hid (fun W => mul_any u n (by unfold In64; omega) hn W)
    rw [h] at CK
    by_cases d0 : d = 0
    · have E : ratE u c n d = 17 := by unfold ratE; rw [if_pos h, if_pos d0]
      rw [E, amR_n (by decide)]
      subst d0
      have DV := Lib.hid (fun W => divEven_0 (u * n) W)
      clear E h hu u0 u1 bd
      generalize (⟨c.toArray⟩ : ByteArray) = C at *
      generalize hiOf (u * n) = hz at *
      generalize loOf (u * n) = lz at *
      go_enter Tryz.func34, Tryz.ntmps34
      go_wp2_with (first | (go_at_call 67; refine (CK.out _).mono ?_; rintro e w1 ⟨rfl, hb1⟩; obtain ⟨hc1, hf1⟩ := bcell hb1; have hs1 := hb1.size; (try simp at hs1); have hz1 : w.heap.size < w1.heap.size ∧ w.heap.size + 1 < w1.heap.size := by have := hb1.size; (try simp at this); omega) | (go_at_call 69; refine (MU.out _).mono ?_; rintro e w2 ⟨rfl, hb2⟩; obtain ⟨hc2, hf2⟩ := bcell hb2; have hs2 := hb2.size; (try simp at hs2); have hz2 : w.heap.size < w2.heap.size ∧ w.heap.size + 1 < w2.heap.size := by have := hb2.size; (try simp at this); omega) | (go_at_call 89; refine (DV.out _).mono ?_; rintro e w3 ⟨rfl, hb3⟩; obtain ⟨hc3, hf3⟩ := bcell hb3; have hs3 := hb3.size; (try simp at hs3); have hz3 : w.heap.size < w3.heap.size ∧ w.heap.size + 1 < w3.heap.size := by have := hb3.size; (try simp at this); omega))
      exact bodyPost_ret (v := .tuple #[.agg #[.int .i64 0, .string ⟨#[]⟩], .int .i64 17]) (by simp [results, Tryz.results34, go_sem, *]) rfl ⟨rfl, (by repeat (first | exact Below.refl _ _ | refine Below.setCell ?_ (by first | (simp; done) | (simp; omega) | omega) _ | refine Below.alloc ?_ (by first | (simp; done) | (simp; omega) | omega) _ | refine Below.drew ?_ | assumption | refine Below.trans ?_ (Below.mono (by assumption) (by first | (simp; done) | (simp; omega) | omega))))⟩
    · have E : ratE u c n d = maE (rhZ (u * n) d) := by unfold ratE; rw [if_pos h, if_neg d0]
      rw [E]
      have rb := rhZ_abs (u * n) d d0
      have DV := Lib.hid (fun W => divEven_z (u * n) d (by omega) hd d0 W)
      have MA := Lib.hid (fun W => made_any (rhZ (u * n) d) (by unfold In128; omega) c W)
      have hR : ∃ (r : Int × ByteArray) (q : Int), amR (maE (rhZ (u * n) d)) (rhZ (u * n) d) c = .tuple #[.agg #[.int .i64 r.1, .string r.2], .int .i64 q] := ⟨(_, _), _, rfl⟩
      obtain ⟨⟨r, C2⟩, q, hR⟩ := hR
      simp only at hR
      rw [hR] at MA ⊢
      clear E h hu u0 u1 bd d0 rb hR
      generalize (⟨c.toArray⟩ : ByteArray) = C at *
      generalize hiOf (rhZ (u * n) d) = hq at *
      generalize loOf (rhZ (u * n) d) = lq at *
      generalize hiOf (u * n) = hz at *
      generalize loOf (u * n) = lz at *
      go_enter Tryz.func34, Tryz.ntmps34
      go_wp2_with (first | (go_at_call 67; refine (CK.out _).mono ?_; rintro e w1 ⟨rfl, hb1⟩; obtain ⟨hc1, hf1⟩ := bcell hb1; have hs1 := hb1.size; (try simp at hs1); have hz1 : w.heap.size < w1.heap.size ∧ w.heap.size + 1 < w1.heap.size := by have := hb1.size; (try simp at this); omega) | (go_at_call 69; refine (MU.out _).mono ?_; rintro e w2 ⟨rfl, hb2⟩; obtain ⟨hc2, hf2⟩ := bcell hb2; have hs2 := hb2.size; (try simp at hs2); have hz2 : w.heap.size < w2.heap.size ∧ w.heap.size + 1 < w2.heap.size := by have := hb2.size; (try simp at this); omega) | (go_at_call 89; refine (DV.out _).mono ?_; rintro e w3 ⟨rfl, hb3⟩; obtain ⟨hc3, hf3⟩ := bcell hb3; have hs3 := hb3.size; (try simp at hs3); have hz3 : w.heap.size < w3.heap.size ∧ w.heap.size + 1 < w3.heap.size := by have := hb3.size; (try simp at this); omega) | (go_at_call 90; refine (MA.out _).mono ?_; rintro e w4 ⟨rfl, hb4⟩; obtain ⟨hc4, hf4⟩ := bcell hb4; have hs4 := hb4.size; (try simp at hs4); have hz4 : w.heap.size < w4.heap.size ∧ w.heap.size + 1 < w4.heap.size := by have := hb4.size; (try simp at this); omega))
      exact bodyPost_ret (v := .tuple #[.agg #[.int .i64 r, .string C2], .int .i64 q]) (by simp [results, Tryz.results34, go_sem, *]) rfl ⟨rfl, (by repeat (first | exact Below.refl _ _ | refine Below.setCell ?_ (by first | (simp; done) | (simp; omega) | omega) _ | refine Below.alloc ?_ (by first | (simp; done) | (simp; omega) | omega) _ | refine Below.drew ?_ | assumption | refine Below.trans ?_ (Below.mono (by assumption) (by first | (simp; done) | (simp; omega) | omega))))⟩
  · have E : ratE u c n d = amE u c := by unfold ratE; rw [if_neg h]
    rw [E, amR_n h]
    clear E
    generalize amE u c = x at *
    have x0 : (x != 0) = true := by simpa using h
    clear h
    generalize (⟨c.toArray⟩ : ByteArray) = C at *
    go_enter Tryz.func34, Tryz.ntmps34
    go_wp2_with (first | (go_at_call 67; refine (CK.out _).mono ?_; rintro e w1 ⟨rfl, hb1⟩; obtain ⟨hc1, hf1⟩ := bcell hb1; have hs1 := hb1.size; (try simp at hs1); have hz1 : w.heap.size < w1.heap.size ∧ w.heap.size + 1 < w1.heap.size := by have := hb1.size; (try simp at this); omega))
    exact bodyPost_ret (v := .tuple #[.agg #[.int .i64 0, .string ⟨#[]⟩], .int .i64 x]) (by simp [results, Tryz.results34, go_sem, *]) rfl ⟨rfl, (by repeat (first | exact Below.refl _ _ | refine Below.setCell ?_ (by first | (simp; done) | (simp; omega) | omega) _ | refine Below.alloc ?_ (by first | (simp; done) | (simp; omega) | omega) _ | refine Below.drew ?_ | assumption | refine Below.trans ?_ (Below.mono (by assumption) (by first | (simp; done) | (simp; omega) | omega))))⟩
end Go.Proofs.YtdpoahfjiomhbaaGreatDoor
