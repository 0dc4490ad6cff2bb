/-
  Contracts of money.Amount's Sub and Add.
-/
import Derived.Test.YtdpoahfjiomhbaaGreatDoorMc4
namespace Go.Proofs.YtdpoahfjiomhbaaGreatDoor
set_option linter.all false
open Go.RowKit Go.Sort
attribute [local go_sem] cell_set_self lt_1 lt_2 lt_3 lt_4 lt_5 lt_6

def opE (p z : Int) : Int := if p = 0 then maE z else p
set_option maxHeartbeats 4000000 in
set_option maxRecDepth 100000 in
theorem msub_any (u : Int) (c : List UInt8) (v : Int) (d : List UInt8) (w : World) : Calls Tryz.prog 42 #[.agg #[.int .i64 u, .string ⟨c.toArray⟩], .agg #[.int .i64 v, .string ⟨d.toArray⟩]] w fun e w' => e = .returned (amR (opE (pairE u c v d) (u - v)) (u - v) c) ∧ Below w.heap.size w w' := by
  have PA := Lib.hid (fun W => pair_any u c v d W)
  by_cases h : pairE u c v d = 0
  · obtain ⟨hu, hv, _, _, _⟩ := pairE_in h
    obtain ⟨u0, u1⟩ := inU_iff.1 hu
    obtain ⟨v0, v1⟩ := inU_iff.1 hv
    have F1 := Lib.hid (fun W => fromInt_any u (by omega) (by omega) W)
    have F2 := Lib.hid (fun W => fromInt_any v (by omega) (by omega) W)
    have SU := Lib.hid (fun W => sub_fits u v (by unfold In128; omega) (by unfold In128; omega) (by unfold In128; omega) W)
    have MA := Lib.hid (fun W => made_any (u - v) (by unfold In128; omega) c W)
    have E := Lib.hid (show opE (pairE u c v d) (u - v) = maE (u - v) by unfold opE; rw [if_pos h])
    rw [h] at PA
    rw [E.out]
    have wu := hiOf_word u; have wu' := loOf_word u; have wv := hiOf_word v; have wv' := loOf_word v
    have hR : ∃ (r : Int × ByteArray) (q : Int), amR (maE (u - v)) (u - v) c = .tuple #[.agg #[.int .i64 r.1, .string r.2], .int .i64 q] := ⟨(_, _), _, rfl⟩
    obtain ⟨⟨r, C2⟩, q, hR⟩ := hR
    simp only at hR
    rw [hR] at MA ⊢
    clear h hu hv u0 u1 v0 v1 hR
    generalize u - v = z at *
    generalize (⟨c.toArray⟩ : ByteArray) = C at *
    generalize (⟨d.toArray⟩ : ByteArray) = D at *
    generalize hiOf u = hu at *
    generalize loOf u = lu at *
    generalize hiOf v = hv at *
    generalize loOf v = lv at *
    generalize hiOf z = hz at *
    generalize loOf z = lz at *
    clear wu wu' wv wv'
    go_enter Tryz.func42, Tryz.ntmps42
    go_wp2_with (first | (go_at_call 91; refine (PA.out _).mono ?_; rintro e w1 ⟨rfl, hb1⟩; obtain ⟨hc1, hf1⟩ := bcell hb1; have hs1 := hb1.size; (try simp at hs1); have hz1 : w.heap.size < w1.heap.size ∧ w.heap.size + 1 < w1.heap.size ∧ w.heap.size + 1 + 1 < w1.heap.size := by have := hb1.size; (try simp at this); omega))
    go_cut [7, 8] from 16 to 25 (fun p e wc => ∃ b : Nat, p = .pointer (some ⟨b, 0, none⟩) ∧ e = .int .i64 0 ∧ (wc.cell? ⟨b, 0, none⟩ = some (.int .u64 hz) ∧ wc.cell? ⟨b, 1, none⟩ = some (.int .u64 lz)) ∧ (wc.cell? ⟨w.heap.size, 0, none⟩ = some (.int .i64 u) ∧ wc.cell? ⟨w.heap.size, 1, none⟩ = some (.string C)) ∧ (wc.cell? ⟨w.heap.size + 1 + 1, 0, none⟩ = some (.int .i64 0) ∧ wc.cell? ⟨w.heap.size + 1 + 1, 1, none⟩ = some (.string ⟨#[]⟩)) ∧ (wc.frozen? ⟨w.heap.size + 1 + 1, 0, none⟩ = false ∧ wc.frozen? ⟨w.heap.size + 1 + 1, 1, none⟩ = false) ∧ b < wc.heap.size ∧ w.heap.size < wc.heap.size ∧ w.heap.size + 1 + 1 < wc.heap.size ∧ Below w.heap.size w wc)
    case first =>
      go_region_law (first | (go_simp; go_at_call 93; (with_reducible refine (F1.out _).mono ?_); rintro e w3 ⟨rfl, hb3⟩; obtain ⟨hc3, hf3⟩ := bcell hb3; (try simp only [drew_sizeM, drew_cellM, drew_frozenM] at hc3 hf3); have hs3 := hb3.size; (try simp at hs3); have hz3 : w1.heap.size ≤ w3.heap.size ∧ w.heap.size < w3.heap.size ∧ w.heap.size + 1 < w3.heap.size ∧ w.heap.size + 1 + 1 < w3.heap.size := (by omega); (try have hy13 : w1.heap.size < w3.heap.size := by omega)) | (go_simp; go_at_call 93; (with_reducible refine (F2.out _).mono ?_); rintro e w4 ⟨rfl, hb4⟩; obtain ⟨hc4, hf4⟩ := bcell hb4; (try simp only [drew_sizeM, drew_cellM, drew_frozenM] at hc4 hf4); have hs4 := hb4.size; (try simp at hs4); have hz4 : w1.heap.size ≤ w4.heap.size ∧ w.heap.size < w4.heap.size ∧ w.heap.size + 1 < w4.heap.size ∧ w.heap.size + 1 + 1 < w4.heap.size := (by omega); (try have hy14 : w1.heap.size < w4.heap.size := by omega); (try have hy34 : w3.heap.size < w4.heap.size := by omega)) | (go_simp; go_at_call 97; (with_reducible refine (SU.out _).mono ?_); rintro e w5 ⟨rfl, hb5⟩; obtain ⟨hc5, hf5⟩ := bcell hb5; (try simp only [drew_sizeM, drew_cellM, drew_frozenM] at hc5 hf5); have hs5 := hb5.size; (try simp at hs5); have hz5 : w1.heap.size ≤ w5.heap.size ∧ w.heap.size < w5.heap.size ∧ w.heap.size + 1 < w5.heap.size ∧ w.heap.size + 1 + 1 < w5.heap.size := (by omega); (try have hy15 : w1.heap.size < w5.heap.size := by omega); (try have hy35 : w3.heap.size < w5.heap.size := by omega); (try have hy45 : w4.heap.size < w5.heap.size := by omega)))
      all_goals (go_wp2_with (fail); go_meet; exact ⟨_, rfl, rfl, (by refine ⟨?_, ?_⟩ <;> (simp [go_sem, *]; done)), (by refine ⟨?_, ?_⟩ <;> (simp [go_sem, *]; done)), (by refine ⟨?_, ?_⟩ <;> (simp [go_sem, *]; done)), (by refine ⟨?_, ?_⟩ <;> (simp [go_sem, *]; done)), (by first | (simp; done) | (simp; omega) | omega), (by first | (simp; done) | (simp; omega) | omega), (by first | (simp; done) | (simp; omega) | omega), (by repeat (first | exact Below.refl _ _ | refine Below.setCell ?_ (by first | (simp; done) | (simp; omega) | omega) _ | refine Below.alloc ?_ (by first | (simp; done) | (simp; omega) | omega) _ | refine Below.drew ?_ | assumption | refine Below.trans ?_ (Below.mono (by assumption) (by first | (simp; done) | (simp; omega) | omega))))⟩)
    case rest =>
    obtain ⟨b, rfl, rfl, ⟨e0, e1⟩, ⟨e2, e3⟩, ⟨e4, e5⟩, ⟨g0, g1⟩, hbz, h0z, h2z, hBc⟩ := hcut
    go_wp2_with (first | (go_at_call 90; refine (MA.out _).mono ?_; rintro e w6 ⟨rfl, hb6⟩; obtain ⟨hc6, hf6⟩ := bcell hb6; have hs6 := hb6.size; (try simp at hs6); have hz6 : w.heap.size < w6.heap.size ∧ w.heap.size + 1 + 1 < w6.heap.size := by have := hb6.size; (try simp at this); omega))
    exact bodyPost_ret (v := .tuple #[.agg #[.int .i64 r, .string C2], .int .i64 q]) (by simp [results, Tryz.results42, go_sem, *]) rfl ⟨rfl, (by repeat (first | exact Below.refl _ _ | refine Below.setCell ?_ (by first | (simp; done) | (simp; omega) | omega) _ | refine Below.alloc ?_ (by first | (simp; done) | (simp; omega) | omega) _ | refine Below.drew ?_ | assumption | refine Below.trans ?_ (Below.mono (by assumption) (by first | (simp; done) | (simp; omega) | omega))))⟩
  · have E := Lib.hid (show opE (pairE u c v d) (u - v) = pairE u c v d by unfold opE; rw [if_neg h])
    rw [E.out, amR_n h]
    generalize pairE u c v d = x at *
    have x0 : (x != 0) = true := by simpa using h
    clear h E
    generalize (⟨c.toArray⟩ : ByteArray) = C at *
    generalize (⟨d.toArray⟩ : ByteArray) = D at *
    go_enter Tryz.func42, Tryz.ntmps42
    go_wp2_with (first | (go_at_call 91; refine (PA.out _).mono ?_; rintro e w1 ⟨rfl, hb1⟩; obtain ⟨hc1, hf1⟩ := bcell hb1; have hs1 := hb1.size; (try simp at hs1); have hz1 : w.heap.size < w1.heap.size ∧ w.heap.size + 1 < w1.heap.size ∧ w.heap.size + 1 + 1 < w1.heap.size := by have := hb1.size; (try simp at this); omega))
    exact bodyPost_ret (v := .tuple #[.agg #[.int .i64 0, .string ⟨#[]⟩], .int .i64 x]) (by simp [results, Tryz.results42, go_sem, *]) rfl ⟨rfl, (by repeat (first | exact Below.refl _ _ | refine Below.setCell ?_ (by first | (simp; done) | (simp; omega) | omega) _ | refine Below.alloc ?_ (by first | (simp; done) | (simp; omega) | omega) _ | refine Below.drew ?_ | assumption | refine Below.trans ?_ (Below.mono (by assumption) (by first | (simp; done) | (simp; omega) | omega))))⟩
set_option maxHeartbeats 4000000 in
set_option maxRecDepth 100000 in
theorem madd_any (u : Int) (c : List UInt8) (v : Int) (d : List UInt8) (w : World) : Calls Tryz.prog 43 #[.agg #[.int .i64 u, .string ⟨c.toArray⟩], .agg #[.int .i64 v, .string ⟨d.toArray⟩]] w fun e w' => e = .returned (amR (opE (pairE u c v d) (u + v)) (u + v) c) ∧ Below w.heap.size w w' := by
  have PA := Lib.hid (fun W => pair_any u c v d W)
  by_cases h : pairE u c v d = 0
  · obtain ⟨hu, hv, _, _, _⟩ := pairE_in h
    obtain ⟨u0, u1⟩ := inU_iff.1 hu
    obtain ⟨v0, v1⟩ := inU_iff.1 hv
    have F1 := Lib.hid (fun W => fromInt_any u (by omega) (by omega) W)
    have F2 := Lib.hid (fun W => fromInt_any v (by omega) (by omega) W)
    have SU := Lib.hid (fun W => add_fits u v (by unfold In128; omega) (by unfold In128; omega) (by unfold In128; omega) W)
    have MA := Lib.hid (fun W => made_any (u + v) (by unfold In128; omega) c W)
    have E := Lib.hid (show opE (pairE u c v d) (u + v) = maE (u + v) by unfold opE; rw [if_pos h])
    rw [h] at PA
    rw [E.out]
    have wu := hiOf_word u; have wu' := loOf_word u; have wv := hiOf_word v; have wv' := loOf_word v
    have hR : ∃ (r : Int × ByteArray) (q : Int), amR (maE (u + v)) (u + v) c = .tuple #[.agg #[.int .i64 r.1, .string r.2], .int .i64 q] := ⟨(_, _), _, rfl⟩
    obtain ⟨⟨r, C2⟩, q, hR⟩ := hR
    simp only at hR
    rw [hR] at MA ⊢
    clear h hu hv u0 u1 v0 v1 hR
    generalize u + v = z at *
    generalize (⟨c.toArray⟩ : ByteArray) = C at *
    generalize (⟨d.toArray⟩ : ByteArray) = D at *
    generalize hiOf u = hu at *
    generalize loOf u = lu at *
    generalize hiOf v = hv at *
    generalize loOf v = lv at *
    generalize hiOf z = hz at *
    generalize loOf z = lz at *
    clear wu wu' wv wv'
    go_enter Tryz.func43, Tryz.ntmps43
    go_wp2_with (first | (go_at_call 91; refine (PA.out _).mono ?_; rintro e w1 ⟨rfl, hb1⟩; obtain ⟨hc1, hf1⟩ := bcell hb1; have hs1 := hb1.size; (try simp at hs1); have hz1 : w.heap.size < w1.heap.size ∧ w.heap.size + 1 < w1.heap.size ∧ w.heap.size + 1 + 1 < w1.heap.size := by have := hb1.size; (try simp at this); omega))
    go_cut [7, 8] from 16 to 25 (fun p e wc => ∃ b : Nat, p = .pointer (some ⟨b, 0, none⟩) ∧ e = .int .i64 0 ∧ (wc.cell? ⟨b, 0, none⟩ = some (.int .u64 hz) ∧ wc.cell? ⟨b, 1, none⟩ = some (.int .u64 lz)) ∧ (wc.cell? ⟨w.heap.size, 0, none⟩ = some (.int .i64 u) ∧ wc.cell? ⟨w.heap.size, 1, none⟩ = some (.string C)) ∧ (wc.cell? ⟨w.heap.size + 1 + 1, 0, none⟩ = some (.int .i64 0) ∧ wc.cell? ⟨w.heap.size + 1 + 1, 1, none⟩ = some (.string ⟨#[]⟩)) ∧ (wc.frozen? ⟨w.heap.size + 1 + 1, 0, none⟩ = false ∧ wc.frozen? ⟨w.heap.size + 1 + 1, 1, none⟩ = false) ∧ b < wc.heap.size ∧ w.heap.size < wc.heap.size ∧ w.heap.size + 1 + 1 < wc.heap.size ∧ Below w.heap.size w wc)
    case first =>
      go_region_law (first | (go_simp; go_at_call 93; (with_reducible refine (F1.out _).mono ?_); rintro e w3 ⟨rfl, hb3⟩; obtain ⟨hc3, hf3⟩ := bcell hb3; (try simp only [drew_sizeM, drew_cellM, drew_frozenM] at hc3 hf3); have hs3 := hb3.size; (try simp at hs3); have hz3 : w1.heap.size ≤ w3.heap.size ∧ w.heap.size < w3.heap.size ∧ w.heap.size + 1 < w3.heap.size ∧ w.heap.size + 1 + 1 < w3.heap.size := (by omega); (try have hy13 : w1.heap.size < w3.heap.size := by omega)) | (go_simp; go_at_call 93; (with_reducible refine (F2.out _).mono ?_); rintro e w4 ⟨rfl, hb4⟩; obtain ⟨hc4, hf4⟩ := bcell hb4; (try simp only [drew_sizeM, drew_cellM, drew_frozenM] at hc4 hf4); have hs4 := hb4.size; (try simp at hs4); have hz4 : w1.heap.size ≤ w4.heap.size ∧ w.heap.size < w4.heap.size ∧ w.heap.size + 1 < w4.heap.size ∧ w.heap.size + 1 + 1 < w4.heap.size := (by omega); (try have hy14 : w1.heap.size < w4.heap.size := by omega); (try have hy34 : w3.heap.size < w4.heap.size := by omega)) | (go_simp; go_at_call 92; (with_reducible refine (SU.out _).mono ?_); rintro e w5 ⟨rfl, hb5⟩; obtain ⟨hc5, hf5⟩ := bcell hb5; (try simp only [drew_sizeM, drew_cellM, drew_frozenM] at hc5 hf5); have hs5 := hb5.size; (try simp at hs5); have hz5 : w1.heap.size ≤ w5.heap.size ∧ w.heap.size < w5.heap.size ∧ w.heap.size + 1 < w5.heap.size ∧ w.heap.size + 1 + 1 < w5.heap.size := (by omega); (try have hy15 : w1.heap.size < w5.heap.size := by omega); (try have hy35 : w3.heap.size < w5.heap.size := by omega); (try have hy45 : w4.heap.size < w5.heap.size := by omega)))
      all_goals (go_wp2_with (fail); go_meet; exact ⟨_, rfl, rfl, (by refine ⟨?_, ?_⟩ <;> (simp [go_sem, *]; done)), (by refine ⟨?_, ?_⟩ <;> (simp [go_sem, *]; done)), (by refine ⟨?_, ?_⟩ <;> (simp [go_sem, *]; done)), (by refine ⟨?_, ?_⟩ <;> (simp [go_sem, *]; done)), (by first | (simp; done) | (simp; omega) | omega), (by first | (simp; done) | (simp; omega) | omega), (by first | (simp; done) | (simp; omega) | omega), (by repeat (first | exact Below.refl _ _ | refine Below.setCell ?_ (by first | (simp; done) | (simp; omega) | omega) _ | refine Below.alloc ?_ (by first | (simp; done) | (simp; omega) | omega) _ | refine Below.drew ?_ | assumption | refine Below.trans ?_ (Below.mono (by assumption) (by first | (simp; done) | (simp; omega) | omega))))⟩)
    case rest =>
    obtain ⟨b, rfl, rfl, ⟨e0, e1⟩, ⟨e2, e3⟩, ⟨e4, e5⟩, ⟨g0, g1⟩, hbz, h0z, h2z, hBc⟩ := hcut
    go_wp2_with (first | (go_at_call 90; refine (MA.out _).mono ?_; rintro e w6 ⟨rfl, hb6⟩; obtain ⟨hc6, hf6⟩ := bcell hb6; have hs6 := hb6.size; (try simp at hs6); have hz6 : w.heap.size < w6.heap.size ∧ w.heap.size + 1 + 1 < w6.heap.size := by have := hb6.size; (try simp at this); omega))
    exact bodyPost_ret (v := .tuple #[.agg #[.int .i64 r, .string C2], .int .i64 q]) (by simp [results, Tryz.results43, go_sem, *]) rfl ⟨rfl, (by repeat (first | exact Below.refl _ _ | refine Below.setCell ?_ (by first | (simp; done) | (simp; omega) | omega) _ | refine Below.alloc ?_ (by first | (simp; done) | (simp; omega) | omega) _ | refine Below.drew ?_ | assumption | refine Below.trans ?_ (Below.mono (by assumption) (by first | (simp; done) | (simp; omega) | omega))))⟩
  · have E := Lib.hid (show opE (pairE u c v d) (u + v) = pairE u c v d by unfold opE; rw [if_neg h])
    rw [E.out, amR_n h]
    generalize pairE u c v d = x at *
    have x0 : (x != 0) = true := by simpa using h
    clear h E
    generalize (⟨c.toArray⟩ : ByteArray) = C at *
    generalize (⟨d.toArray⟩ : ByteArray) = D at *
    go_enter Tryz.func43, Tryz.ntmps43
    go_wp2_with (first | (go_at_call 91; refine (PA.out _).mono ?_; rintro e w1 ⟨rfl, hb1⟩; obtain ⟨hc1, hf1⟩ := bcell hb1; have hs1 := hb1.size; (try simp at hs1); have hz1 : w.heap.size < w1.heap.size ∧ w.heap.size + 1 < w1.heap.size ∧ w.heap.size + 1 + 1 < w1.heap.size := by have := hb1.size; (try simp at this); omega))
    exact bodyPost_ret (v := .tuple #[.agg #[.int .i64 0, .string ⟨#[]⟩], .int .i64 x]) (by simp [results, Tryz.results43, go_sem, *]) rfl ⟨rfl, (by repeat (first | exact Below.refl _ _ | refine Below.setCell ?_ (by first | (simp; done) | (simp; omega) | omega) _ | refine Below.alloc ?_ (by first | (simp; done) | (simp; omega) | omega) _ | refine Below.drew ?_ | assumption | refine Below.trans ?_ (Below.mono (by assumption) (by first | (simp; done) | (simp; omega) | omega))))⟩
end Go.Proofs.YtdpoahfjiomhbaaGreatDoor
