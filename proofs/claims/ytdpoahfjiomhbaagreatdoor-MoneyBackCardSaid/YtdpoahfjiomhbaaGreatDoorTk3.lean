/-
  Contract of tier.byVolume.
-/
import Derived.Test.YtdpoahfjiomhbaaGreatDoorTk1
import Derived.Test.YtdpoahfjiomhbaaGreatDoorWk3
import Derived.Test.YtdpoahfjiomhbaaGreatDoorWk4
namespace Go.Proofs.YtdpoahfjiomhbaaGreatDoor
set_option linter.all false
open Go.RowKit Go.Sort
attribute [local go_sem] cell_set_self lt_1 lt_2 lt_3 lt_4 lt_5 lt_6




set_option maxHeartbeats 1000000 in
theorem byVolume_any (A : Option Addr) (n c : Nat) (l : List (Int × Int)) (q : Int) (hl : l.length = n) (hn : n ≤ 20) (hq0 : 0 ≤ q) (hq : q ≤ 1125899906842624) (hok : okFrom 0 l = true) (w : World) (T : Tiers w A l) :
    Calls Tryz.prog 103 #[.slice A n c, .int .i64 q] w fun e w' => e = .returned (.agg #[.int .u64 (hiOf (byV l q)), .int .u64 (loOf (byV l q))]) ∧ Below w.heap.size w w' := by
  have HL := Lib.hid hl
  clear hl
  have HK := Lib.hid hok
  clear hok
  go_enter Tryz.func103, Tryz.ntmps103
  go_wp2
  go_loopw [9] (fun i wr => ∃ (k : Nat) (ah : Int), k ≤ n ∧ i = .int .i64 k ∧ byV (l.drop k) q = byV l q ∧ okFrom ah (l.drop k) = true ∧
     wr.cell? ⟨w.heap.size, 0, none⟩ = some (.int .u64 0) ∧ wr.cell? ⟨w.heap.size, 1, none⟩ = some (.int .u64 0) ∧ wr.frozen? ⟨w.heap.size, 0, none⟩ = false ∧ wr.frozen? ⟨w.heap.size, 1, none⟩ = false ∧ w.heap.size < wr.heap.size ∧ Below w.heap.size w wr) (fun i _ => n - (intOf i).toNat)
  case atStart => exact ⟨0, 0, Nat.zero_le _, rfl, rfl, by simpa using HK.out, (by refine ⟨?_, ?_, ?_, ?_, ?_, ?_⟩ <;> first | (simp [go_sem, *]; done) | omega | (simp; omega) | exact (by repeat (first | exact Below.refl _ _ | refine Below.setCell ?_ (by first | (simp; done) | (simp; omega) | omega) _ | refine Below.alloc ?_ (by first | (simp; done) | (simp; omega) | omega) _ | refine Below.drew ?_ | assumption | refine Below.trans ?_ (Below.mono (by assumption) (by first | (simp; done) | (simp; omega) | omega)))))⟩
  case round =>
    obtain ⟨k, ah, hk, rfl, hs, hok, c2, c3, f0, f1, z0, hB⟩ := hrel
    have Hs := Lib.hid hs; have Hok := Lib.hid hok
    clear hs hok
    by_cases hlt : k < n
    · have hg : l[k]? = some (l[k]'(by have := HL.out; omega)) := List.getElem?_eq_getElem _
      obtain ⟨⟨u, p⟩, hup⟩ : ∃ t, t = (l[k]'(by have := HL.out; omega)) := ⟨_, rfl⟩
      rw [← hup] at hg
      obtain ⟨b, off, hA, hbs, hc0, hc1⟩ := T k (u, p) hg
      subst hA
      have q0 : wr.cell? ⟨b, off + k * 2, none⟩ = some (.int .i64 u) := (hB.cell (p := ⟨b, off + k * 2, none⟩) hbs).trans hc0
      have q1 : wr.cell? ⟨b, off + k * 2 + 1, none⟩ = some (.int .i64 p) := (hB.cell (p := ⟨b, off + k * 2 + 1, none⟩) hbs).trans hc1
      obtain ⟨hpos, hp0, hp1, hok'⟩ := tier_facts hg Hok.out
      rw [HL.out] at hpos
      have Hok' := Lib.hid hok'; have Hg := Lib.hid hg
      clear hok' hg hup hc0 hc1 T HK Hok hpos
      have i1 : In64 q := by unfold In64; omega
      have i2 : In64 p := by unfold In64; omega
      by_cases hqu : q ≤ u
      · have E := Lib.hid ((byV_hit (q := q) Hg.out (.inl hqu)).symm.trans Hs.out)
        go_wp2_with (first | (go_at_call 69; refine (mul_any _ _ i1 i2 _).mono ?_; rintro e w1 ⟨rfl, hb1⟩; obtain ⟨hc1, hf1⟩ := bcell hb1; have hs1 := hb1.size; (try simp at hs1); have hz1 : w.heap.size < w1.heap.size := by have := hb1.size; (try simp at this); omega))
        rw [← E.out]
        exact bodyPost_ret (v := .agg #[.int .u64 (hiOf (q * p)), .int .u64 (loOf (q * p))]) (by simp [results, Tryz.results103, go_sem, *]) rfl ⟨rfl, (by repeat (first | exact Below.refl _ _ | refine Below.setCell ?_ (by first | (simp; done) | (simp; omega) | omega) _ | refine Below.alloc ?_ (by first | (simp; done) | (simp; omega) | omega) _ | refine Below.drew ?_ | assumption | refine Below.trans ?_ (Below.mono (by assumption) (by first | (simp; done) | (simp; omega) | omega))))⟩
      · by_cases hu : u = 0
        · have E := Lib.hid ((byV_hit (q := q) Hg.out (.inr hu)).symm.trans Hs.out)
          have d0 : (u == 0) = true := by simp [hu]
          clear hu
          go_wp2_with (first | (go_at_call 69; refine (mul_any _ _ i1 i2 _).mono ?_; rintro e w1 ⟨rfl, hb1⟩; obtain ⟨hc1, hf1⟩ := bcell hb1; have hs1 := hb1.size; (try simp at hs1); have hz1 : w.heap.size < w1.heap.size := by have := hb1.size; (try simp at this); omega))
          rw [← E.out]
          exact bodyPost_ret (v := .agg #[.int .u64 (hiOf (q * p)), .int .u64 (loOf (q * p))]) (by simp [results, Tryz.results103, go_sem, *]) rfl ⟨rfl, (by repeat (first | exact Below.refl _ _ | refine Below.setCell ?_ (by first | (simp; done) | (simp; omega) | omega) _ | refine Below.alloc ?_ (by first | (simp; done) | (simp; omega) | omega) _ | refine Below.drew ?_ | assumption | refine Below.trans ?_ (Below.mono (by assumption) (by first | (simp; done) | (simp; omega) | omega))))⟩
        · have E := Lib.hid ((byV_miss (q := q) Hg.out hqu hu).symm.trans Hs.out)
          have d0 : (u == 0) = false := by simp [hu]
          clear hu
          go_wp2
          go_roundw
          case rel => exact ⟨k + 1, u, by omega, by go_num, E.out, Hok'.out, (by refine ⟨?_, ?_, ?_, ?_, ?_, ?_⟩ <;> first | (simp [go_sem, *]; done) | omega | (simp; omega) | exact (by repeat (first | exact Below.refl _ _ | refine Below.setCell ?_ (by first | (simp; done) | (simp; omega) | omega) _ | refine Below.alloc ?_ (by first | (simp; done) | (simp; omega) | omega) _ | refine Below.drew ?_ | assumption | refine Below.trans ?_ (Below.mono (by assumption) (by first | (simp; done) | (simp; omega) | omega)))))⟩
          case measure => simp [intOf]; omega
    · have hkn : k = n := by omega
      subst hkn
      have e : byV l q = 0 := by rw [← Hs.out, List.drop_of_length_le (by rw [HL.out]; exact Nat.le_refl _)]; rfl
      have E := Lib.hid e
      clear e
      have q1 := hiOf_0
      have q2 := loOf_0
      go_wp2
      rw [E.out]
      exact bodyPost_ret (v := .agg #[.int .u64 (hiOf 0), .int .u64 (loOf 0)]) (by simp [results, Tryz.results103, go_sem, *]) rfl ⟨rfl, (by repeat (first | exact Below.refl _ _ | refine Below.setCell ?_ (by first | (simp; done) | (simp; omega) | omega) _ | refine Below.alloc ?_ (by first | (simp; done) | (simp; omega) | omega) _ | refine Below.drew ?_ | assumption | refine Below.trans ?_ (Below.mono (by assumption) (by first | (simp; done) | (simp; omega) | omega))))⟩
end Go.Proofs.YtdpoahfjiomhbaaGreatDoor
