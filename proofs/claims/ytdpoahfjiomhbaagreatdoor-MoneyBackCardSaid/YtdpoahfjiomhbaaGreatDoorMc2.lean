/-
  Contracts of money.Scale, within, check, New, made, first, pair.
-/
import Derived.Test.YtdpoahfjiomhbaaGreatDoorMc1
import Derived.Test.YtdpoahfjiomhbaaGreatDoorWk5
import Derived.Test.YtdpoahfjiomhbaaGreatDoorBw1
namespace Go.Proofs.YtdpoahfjiomhbaaGreatDoor
set_option linter.all false
open Go.RowKit Go.Sort
attribute [local go_sem] cell_set_self lt_1 lt_2 lt_3 lt_4 lt_5 lt_6

theorem ret_n2 {a b p q : Int} (h1 : a = b) (h2 : p = q) : Ending.returned (.tuple #[.int .i64 b, .int .i64 q]) = .returned (.tuple #[.int .i64 a, .int .i64 p]) := by rw [h1, h2]
set_option maxHeartbeats 2000000 in
set_option maxRecDepth 100000 in
theorem scale_any (c : List UInt8) (w : World) : Calls Tryz.prog 27 #[.string ⟨c.toArray⟩] w fun e w' => e = .returned (.tuple #[.int .i64 (scN c), .int .i64 (scE c)]) ∧ Below w.heap.size w w' := by
  have CU := Lib.hid (fun W => currencies_any W)
  rcases cur_cases c with ⟨k, t, hk, rfl⟩ | hm
  · have e1 : scN t.1 = t.2 := by unfold scN; rw [cur_hit hk]; rfl
    have e2 : scE t.1 = 0 := by unfold scE; rw [cur_hit hk]; rfl
    have E := Lib.hid (And.intro e1 e2)
    have hk6 := cur_lt hk
    have IX := Lib.hid (fun g b W hc hb hbc => idx_hit k t hk g b W hc hb hbc)
    have CK : Hid (∀ g W, Curs W g → g < W.heap.size ∧ W.cell? ⟨g, k * 2 + 1, none⟩ = some (.int .i64 t.2)) := Lib.hid fun g W h => ⟨h.1, (h.2 k t hk).2⟩
    clear e1 e2 hk
    generalize t.2 = z at *
    generalize (⟨t.1.toArray⟩ : ByteArray) = C at *
    go_enter Tryz.func27, Tryz.ntmps27
    go_wp2_with (first
      | (go_at_call 24; refine (CU.out _).mono ?_; rintro e w1 ⟨⟨g, rfl, hg⟩, hb1⟩; obtain ⟨hc1, hf1⟩ := bcell hb1; have hs1 := hb1.size; (try simp at hs1); have hz1 : w.heap.size < w1.heap.size := (by have := hb1.size; (try simp at this); omega); have HG := Lib.hid hg; clear hg)
      | (go_at_call 77; refine (IX.out _ _ _ (HG.out.below (by repeat (first | exact Below.refl _ _ | refine Below.setCell ?_ (by first | (simp; done) | (simp; omega) | omega) _ | refine Below.alloc ?_ (by first | (simp; done) | (simp; omega) | omega) _ | refine Below.drew ?_ | assumption | refine Below.trans ?_ (Below.mono (by assumption) (by first | (simp; done) | (simp; omega) | omega))))) (by omega) (by simp [go_sem, *])).mono ?_; rintro e w2 ⟨rfl, hb2⟩; have hcell := CK.out _ _ ((HG.out.below (by repeat (first | exact Below.refl _ _ | refine Below.setCell ?_ (by first | (simp; done) | (simp; omega) | omega) _ | refine Below.alloc ?_ (by first | (simp; done) | (simp; omega) | omega) _ | refine Below.drew ?_ | assumption | refine Below.trans ?_ (Below.mono (by assumption) (by first | (simp; done) | (simp; omega) | omega))))).below hb2); obtain ⟨hcl, hcell⟩ := hcell; have hs2 := hb2.size; (try simp at hs2)))
    go_ret2
    exact ⟨ret_n2 E.out.1 E.out.2, (by repeat (first | exact Below.refl _ _ | refine Below.setCell ?_ (by first | (simp; done) | (simp; omega) | omega) _ | refine Below.alloc ?_ (by first | (simp; done) | (simp; omega) | omega) _ | refine Below.drew ?_ | assumption | refine Below.trans ?_ (Below.mono (by assumption) (by first | (simp; done) | (simp; omega) | omega))))⟩
  · have e1 : scN c = 0 := by unfold scN; rw [cur_miss hm]; rfl
    have e2 : scE c = 18 := by unfold scE; rw [cur_miss hm]; rfl
    have E := Lib.hid (And.intro e1 e2)
    have IX := Lib.hid (fun g b W hc hb hbc => idx_miss c hm g b W hc hb hbc)
    clear e1 e2 hm
    generalize (⟨c.toArray⟩ : ByteArray) = C at *
    go_enter Tryz.func27, Tryz.ntmps27
    go_wp2_with (first
      | (go_at_call 24; refine (CU.out _).mono ?_; rintro e w1 ⟨⟨g, rfl, hg⟩, hb1⟩; obtain ⟨hc1, hf1⟩ := bcell hb1; have hs1 := hb1.size; (try simp at hs1); have hz1 : w.heap.size < w1.heap.size := (by have := hb1.size; (try simp at this); omega); have HG := Lib.hid hg; clear hg)
      | (go_at_call 77; refine (IX.out _ _ _ (HG.out.below (by repeat (first | exact Below.refl _ _ | refine Below.setCell ?_ (by first | (simp; done) | (simp; omega) | omega) _ | refine Below.alloc ?_ (by first | (simp; done) | (simp; omega) | omega) _ | refine Below.drew ?_ | assumption | refine Below.trans ?_ (Below.mono (by assumption) (by first | (simp; done) | (simp; omega) | omega))))) (by omega) (by simp [go_sem, *])).mono ?_; rintro e w2 ⟨rfl, hb2⟩; have hs2 := hb2.size; (try simp at hs2)))
    go_ret2
    exact ⟨ret_n2 E.out.1 E.out.2, (by repeat (first | exact Below.refl _ _ | refine Below.setCell ?_ (by first | (simp; done) | (simp; omega) | omega) _ | refine Below.alloc ?_ (by first | (simp; done) | (simp; omega) | omega) _ | refine Below.drew ?_ | assumption | refine Below.trans ?_ (Below.mono (by assumption) (by first | (simp; done) | (simp; omega) | omega))))⟩

def inU (u : Int) : Bool := decide (-4611686018427387904 ≤ u ∧ u ≤ 4611686018427387904)
theorem within_any (u : Int) (w : World) : Calls Tryz.prog 85 #[.int .i64 u] w fun e w' => e = .returned (.bool (inU u)) ∧ Below w.heap.size w w' := by
  by_cases h1 : -4611686018427387904 ≤ u
  · by_cases h2 : u ≤ 4611686018427387904
    · have e : inU u = true := decide_eq_true ⟨h1, h2⟩
      rw [e]
      clear e
      go_enter Tryz.func85, Tryz.ntmps85
      go_wp2
      go_ret
      exact ⟨rfl, (by repeat (first | exact Below.refl _ _ | refine Below.setCell ?_ (by first | (simp; done) | (simp; omega) | omega) _ | refine Below.alloc ?_ (by first | (simp; done) | (simp; omega) | omega) _ | refine Below.drew ?_ | assumption | refine Below.trans ?_ (Below.mono (by assumption) (by first | (simp; done) | (simp; omega) | omega))))⟩
    · have e : inU u = false := decide_eq_false (by omega)
      have d := decide_eq_false h2
      rw [e]
      clear e
      go_enter Tryz.func85, Tryz.ntmps85
      go_wp2
      go_ret
      exact ⟨rfl, (by repeat (first | exact Below.refl _ _ | refine Below.setCell ?_ (by first | (simp; done) | (simp; omega) | omega) _ | refine Below.alloc ?_ (by first | (simp; done) | (simp; omega) | omega) _ | refine Below.drew ?_ | assumption | refine Below.trans ?_ (Below.mono (by assumption) (by first | (simp; done) | (simp; omega) | omega))))⟩
  · have e : inU u = false := decide_eq_false (by omega)
    have d := decide_eq_false h1
    rw [e]
    clear e
    go_enter Tryz.func85, Tryz.ntmps85
    go_wp2
    go_ret
    exact ⟨rfl, (by repeat (first | exact Below.refl _ _ | refine Below.setCell ?_ (by first | (simp; done) | (simp; omega) | omega) _ | refine Below.alloc ?_ (by first | (simp; done) | (simp; omega) | omega) _ | refine Below.drew ?_ | assumption | refine Below.trans ?_ (Below.mono (by assumption) (by first | (simp; done) | (simp; omega) | omega))))⟩

/-- The error of an amount that may not be. -/
def amE (u : Int) (c : List UInt8) : Int := if scE c = 0 then (if inU u then 0 else 6) else scE c
theorem ret_i1 {a b : Int} (h : a = b) : Ending.returned (.int .i64 b) = .returned (.int .i64 a) := by rw [h]
theorem scE_cases (c : List UInt8) : scE c = 0 ∨ scE c = 18 := by unfold scE; split <;> simp
set_option maxHeartbeats 2000000 in
theorem mcheck_any (u : Int) (c : List UInt8) (w : World) : Calls Tryz.prog 67 #[.agg #[.int .i64 u, .string ⟨c.toArray⟩]] w fun e w' => e = .returned (.int .i64 (amE u c)) ∧ Below w.heap.size w w' := by
  have SC := Lib.hid (fun W => scale_any c W)
  have WI := Lib.hid (fun W => within_any u W)
  rcases scE_cases c with h | h
  · cases hu : inU u with
    | true =>
      have e : amE u c = 0 := by unfold amE; rw [if_pos h, hu]; rfl
      rw [e]
      rw [h] at SC
      rw [hu] at WI
      clear e h hu
      generalize scN c = z at *
      generalize (⟨c.toArray⟩ : ByteArray) = C at *
      go_enter Tryz.func67, Tryz.ntmps67
      go_wp2_with (first | (go_at_call 27; refine (SC.out _).mono ?_; rintro e w1 ⟨rfl, hb1⟩; obtain ⟨hc1, hf1⟩ := bcell hb1; have hs1 := hb1.size; (try simp at hs1); have hz1 : w.heap.size < w1.heap.size := by have := hb1.size; (try simp at this); omega) | (go_at_call 85; refine (WI.out _).mono ?_; rintro e w2 ⟨rfl, hb2⟩; obtain ⟨hc2, hf2⟩ := bcell hb2; have hs2 := hb2.size; (try simp at hs2); have hz2 : w.heap.size < w2.heap.size := by have := hb2.size; (try simp at this); omega))
      go_ret
      exact ⟨rfl, (by repeat (first | exact Below.refl _ _ | refine Below.setCell ?_ (by first | (simp; done) | (simp; omega) | omega) _ | refine Below.alloc ?_ (by first | (simp; done) | (simp; omega) | omega) _ | refine Below.drew ?_ | assumption | refine Below.trans ?_ (Below.mono (by assumption) (by first | (simp; done) | (simp; omega) | omega))))⟩
    | false =>
      have e : amE u c = 6 := by unfold amE; rw [if_pos h, hu]; rfl
      rw [e]
      rw [h] at SC
      rw [hu] at WI
      clear e h hu
      generalize scN c = z at *
      generalize (⟨c.toArray⟩ : ByteArray) = C at *
      go_enter Tryz.func67, Tryz.ntmps67
      go_wp2_with (first | (go_at_call 27; refine (SC.out _).mono ?_; rintro e w1 ⟨rfl, hb1⟩; obtain ⟨hc1, hf1⟩ := bcell hb1; have hs1 := hb1.size; (try simp at hs1); have hz1 : w.heap.size < w1.heap.size := by have := hb1.size; (try simp at this); omega) | (go_at_call 85; refine (WI.out _).mono ?_; rintro e w2 ⟨rfl, hb2⟩; obtain ⟨hc2, hf2⟩ := bcell hb2; have hs2 := hb2.size; (try simp at hs2); have hz2 : w.heap.size < w2.heap.size := by have := hb2.size; (try simp at this); omega))
      go_ret
      exact ⟨rfl, (by repeat (first | exact Below.refl _ _ | refine Below.setCell ?_ (by first | (simp; done) | (simp; omega) | omega) _ | refine Below.alloc ?_ (by first | (simp; done) | (simp; omega) | omega) _ | refine Below.drew ?_ | assumption | refine Below.trans ?_ (Below.mono (by assumption) (by first | (simp; done) | (simp; omega) | omega))))⟩
  · have e : amE u c = 18 := by unfold amE; rw [h]; rfl
    rw [e]
    rw [h] at SC
    clear e h WI
    generalize scN c = z at *
    generalize (⟨c.toArray⟩ : ByteArray) = C at *
    go_enter Tryz.func67, Tryz.ntmps67
    go_wp2_with (first | (go_at_call 27; refine (SC.out _).mono ?_; rintro e w1 ⟨rfl, hb1⟩; obtain ⟨hc1, hf1⟩ := bcell hb1; have hs1 := hb1.size; (try simp at hs1); have hz1 : w.heap.size < w1.heap.size := by have := hb1.size; (try simp at this); omega))
    go_ret
    exact ⟨rfl, (by repeat (first | exact Below.refl _ _ | refine Below.setCell ?_ (by first | (simp; done) | (simp; omega) | omega) _ | refine Below.alloc ?_ (by first | (simp; done) | (simp; omega) | omega) _ | refine Below.drew ?_ | assumption | refine Below.trans ?_ (Below.mono (by assumption) (by first | (simp; done) | (simp; omega) | omega))))⟩

/-- What a function answers that answers an amount: u units of c, or an error. -/
def amR (e u : Int) (c : List UInt8) : Value := .tuple #[.agg #[.int .i64 (if e = 0 then u else 0), .string ⟨(if e = 0 then c else []).toArray⟩], .int .i64 e]
theorem amR_0 {e u : Int} {c : List UInt8} (h : e = 0) : amR e u c = .tuple #[.agg #[.int .i64 u, .string ⟨c.toArray⟩], .int .i64 0] := by subst h; rfl
theorem amR_n {e u : Int} {c : List UInt8} (h : e ≠ 0) : amR e u c = .tuple #[.agg #[.int .i64 0, .string ⟨#[]⟩], .int .i64 e] := by unfold amR; rw [if_neg h, if_neg h]
set_option maxHeartbeats 2000000 in
theorem new_any (u : Int) (c : List UInt8) (w : World) : Calls Tryz.prog 28 #[.int .i64 u, .string ⟨c.toArray⟩] w fun e w' => e = .returned (amR (amE u c) u c) ∧ Below w.heap.size w w' := by
  have CK := Lib.hid (fun W => mcheck_any u c W)
  by_cases h : amE u c = 0
  · rw [amR_0 h]
    rw [h] at CK
    clear h
    generalize (⟨c.toArray⟩ : ByteArray) = C at *
    go_enter Tryz.func28, Tryz.ntmps28
    go_wp2_with (first | (go_at_call 67; refine (CK.out _).mono ?_; rintro e w1 ⟨rfl, hb1⟩; obtain ⟨hc1, hf1⟩ := bcell hb1; have hs1 := hb1.size; (try simp at hs1); have hz1 : w.heap.size < w1.heap.size ∧ w.heap.size + 1 < w1.heap.size := by have := hb1.size; (try simp at this); omega))
    exact bodyPost_ret (v := .tuple #[.agg #[.int .i64 u, .string C], .int .i64 0]) (by simp [results, Tryz.results28, go_sem, *]) rfl ⟨rfl, (by repeat (first | exact Below.refl _ _ | refine Below.setCell ?_ (by first | (simp; done) | (simp; omega) | omega) _ | refine Below.alloc ?_ (by first | (simp; done) | (simp; omega) | omega) _ | refine Below.drew ?_ | assumption | refine Below.trans ?_ (Below.mono (by assumption) (by first | (simp; done) | (simp; omega) | omega))))⟩
  · rw [amR_n h]
    generalize amE u c = x at *
    have x0 : (x != 0) = true := by simpa using h
    clear h
    generalize (⟨c.toArray⟩ : ByteArray) = C at *
    go_enter Tryz.func28, Tryz.ntmps28
    go_wp2_with (first | (go_at_call 67; refine (CK.out _).mono ?_; rintro e w1 ⟨rfl, hb1⟩; obtain ⟨hc1, hf1⟩ := bcell hb1; have hs1 := hb1.size; (try simp at hs1); have hz1 : w.heap.size < w1.heap.size ∧ w.heap.size + 1 < w1.heap.size := by have := hb1.size; (try simp at this); omega))
    exact bodyPost_ret (v := .tuple #[.agg #[.int .i64 0, .string ⟨#[]⟩], .int .i64 x]) (by simp [results, Tryz.results28, go_sem, *]) rfl ⟨rfl, (by repeat (first | exact Below.refl _ _ | refine Below.setCell ?_ (by first | (simp; done) | (simp; omega) | omega) _ | refine Below.alloc ?_ (by first | (simp; done) | (simp; omega) | omega) _ | refine Below.drew ?_ | assumption | refine Below.trans ?_ (Below.mono (by assumption) (by first | (simp; done) | (simp; omega) | omega))))⟩

/-- money.made: of a wide number. -/
def maE (z : Int) : Int := if inU z then 0 else 16
set_option maxHeartbeats 2000000 in
theorem made_any (z : Int) (hz : In128 z) (c : List UInt8) (w : World) : Calls Tryz.prog 90 #[.agg #[.int .u64 (hiOf z), .int .u64 (loOf z)], .string ⟨c.toArray⟩] w fun e w' => e = .returned (amR (maE z) z c) ∧ Below w.heap.size w w' := by
  have WI := Lib.hid (fun W => within_any z W)
  obtain ⟨a1, a2⟩ := hiOf_word z
  obtain ⟨b1, b2⟩ := loOf_word z
  by_cases g : In64 z
  · have WF := Lib.hid (fun W => int_fits z g W)
    clear g hz a1 a2 b1 b2
    generalize hiOf z = hi at *
    generalize loOf z = lo at *
    cases hu : inU z with
    | true =>
      rw [amR_0 (show maE z = 0 by unfold maE; rw [hu]; rfl)]
      rw [hu] at WI
      clear hu
      generalize (⟨c.toArray⟩ : ByteArray) = C at *
      go_enter Tryz.func90, Tryz.ntmps90
      go_wp2_with (first | (go_at_call 71; refine (WF.out _).mono ?_; rintro e w1 ⟨rfl, hb1⟩; obtain ⟨hc1, hf1⟩ := bcell hb1; have hs1 := hb1.size; (try simp at hs1); have hz1 : w.heap.size < w1.heap.size ∧ w.heap.size + 1 < w1.heap.size := by have := hb1.size; (try simp at this); omega) | (go_at_call 85; refine (WI.out _).mono ?_; rintro e w2 ⟨rfl, hb2⟩; obtain ⟨hc2, hf2⟩ := bcell hb2; have hs2 := hb2.size; (try simp at hs2); have hz2 : w.heap.size < w2.heap.size ∧ w.heap.size + 1 < w2.heap.size := by have := hb2.size; (try simp at this); omega))
      exact bodyPost_ret (v := .tuple #[.agg #[.int .i64 z, .string C], .int .i64 0]) (by simp [results, Tryz.results90, go_sem, *]) rfl ⟨rfl, (by repeat (first | exact Below.refl _ _ | refine Below.setCell ?_ (by first | (simp; done) | (simp; omega) | omega) _ | refine Below.alloc ?_ (by first | (simp; done) | (simp; omega) | omega) _ | refine Below.drew ?_ | assumption | refine Below.trans ?_ (Below.mono (by assumption) (by first | (simp; done) | (simp; omega) | omega))))⟩
    | false =>
      have e : maE z = 16 := by unfold maE; rw [hu]; rfl
      rw [amR_n (by rw [e]; decide), e]
      rw [hu] at WI
      clear hu e
      generalize (⟨c.toArray⟩ : ByteArray) = C at *
      go_enter Tryz.func90, Tryz.ntmps90
      go_wp2_with (first | (go_at_call 71; refine (WF.out _).mono ?_; rintro e w1 ⟨rfl, hb1⟩; obtain ⟨hc1, hf1⟩ := bcell hb1; have hs1 := hb1.size; (try simp at hs1); have hz1 : w.heap.size < w1.heap.size ∧ w.heap.size + 1 < w1.heap.size := by have := hb1.size; (try simp at this); omega) | (go_at_call 85; refine (WI.out _).mono ?_; rintro e w2 ⟨rfl, hb2⟩; obtain ⟨hc2, hf2⟩ := bcell hb2; have hs2 := hb2.size; (try simp at hs2); have hz2 : w.heap.size < w2.heap.size ∧ w.heap.size + 1 < w2.heap.size := by have := hb2.size; (try simp at this); omega))
      exact bodyPost_ret (v := .tuple #[.agg #[.int .i64 0, .string ⟨#[]⟩], .int .i64 16]) (by simp [results, Tryz.results90, go_sem, *]) rfl ⟨rfl, (by repeat (first | exact Below.refl _ _ | refine Below.setCell ?_ (by first | (simp; done) | (simp; omega) | omega) _ | refine Below.alloc ?_ (by first | (simp; done) | (simp; omega) | omega) _ | refine Below.drew ?_ | assumption | refine Below.trans ?_ (Below.mono (by assumption) (by first | (simp; done) | (simp; omega) | omega))))⟩
  · have WO := Lib.hid (fun W => int_over z hz g W)
    have e : maE z = 16 := by unfold maE inU; rw [decide_eq_false (by unfold In64 at g; omega)]; rfl
    rw [amR_n (by rw [e]; decide), e]
    clear g hz a1 a2 b1 b2 e WI
    generalize hiOf z = hi at *
    generalize loOf z = lo at *
    generalize (⟨c.toArray⟩ : ByteArray) = C at *
    go_enter Tryz.func90, Tryz.ntmps90
    go_wp2_with (first | (go_at_call 71; refine (WO.out _).mono ?_; rintro e w1 ⟨rfl, hb1⟩; obtain ⟨hc1, hf1⟩ := bcell hb1; have hs1 := hb1.size; (try simp at hs1); have hz1 : w.heap.size < w1.heap.size ∧ w.heap.size + 1 < w1.heap.size := by have := hb1.size; (try simp at this); omega))
    exact bodyPost_ret (v := .tuple #[.agg #[.int .i64 0, .string ⟨#[]⟩], .int .i64 16]) (by simp [results, Tryz.results90, go_sem, *]) rfl ⟨rfl, (by repeat (first | exact Below.refl _ _ | refine Below.setCell ?_ (by first | (simp; done) | (simp; omega) | omega) _ | refine Below.alloc ?_ (by first | (simp; done) | (simp; omega) | omega) _ | refine Below.drew ?_ | assumption | refine Below.trans ?_ (Below.mono (by assumption) (by first | (simp; done) | (simp; omega) | omega))))⟩
end Go.Proofs.YtdpoahfjiomhbaaGreatDoor
