/-
  Contract of the reader's expr: an expression that isn't too deep.
-/
import Derived.Test.YtnjlggleaocbdaaGreatDoorDk4
import Derived.Test.YtnjlggleaocbdaaGreatDoorDk5
import Derived.Test.YtnjlggleaocbdaaGreatDoorDd1

/-
  All six together. (Printed by tools/mkdk3.py.)
-/
namespace Go.Proofs.YtnjlggleaocbdaaGreatDoor
set_option linter.all false
open Go.RowKit Go.Shelf
attribute [local go_sem] cell_set_self lt_1 lt_2 lt_3 lt_4 lt_5 lt_6 fld_k fld_s fld_n fld_p

theorem expr_ok (rb gt : Nat) : ∀ f, ExprOk rb gt f
  | 0 => by
    refine ⟨?_, ?_, ?_, ?_, ?_, ?_⟩ <;> intro r w hf R hE hS <;> (have := List.length_pos_iff.2 hE.ne; omega)
  | f + 1 => ⟨fun r w hf R hE hS => or_step rb gt f (expr_ok rb gt f) r w hf R hE hS, fun r w hf R hE hS => and_step rb gt f (expr_ok rb gt f) r w hf R hE hS, fun r w hf R hE hS => not_step rb gt f (expr_ok rb gt f) r w hf R hE hS, fun r w hf R hE hS => sum_step rb gt f (expr_ok rb gt f) r w hf R hE hS, fun r w hf R hE hS => term_step rb gt f (expr_ok rb gt f) r w hf R hE hS, fun r w hf R hE hS => factor_step rb gt f (expr_ok rb gt f) r w hf R hE hS⟩
end Go.Proofs.YtnjlggleaocbdaaGreatDoor

/-
  Contract of the reader's expr: an expression that isn't too deep.
-/
namespace Go.Proofs.YtnjlggleaocbdaaGreatDoor
set_option linter.all false
open Go.RowKit Go.Shelf
attribute [local go_sem] cell_set_self lt_1 lt_2 lt_3 lt_4 lt_5 lt_6 fld_k fld_s fld_n fld_p

theorem exprD_takes (f : Nat) : Takes (exprD f) := bind_takes (expr_takes f 0) fun c ts a r h => by
  split at h
  · cases h
  · exact ok_takes c ts a r h
set_option maxHeartbeats 8000000 in
set_option maxRecDepth 100000 in
theorem expr_any (rb gt f : Nat) (r : List Tok) (w : World) (hf : 6 * r.length + 6 ≤ f) (hd : f ≤ 1000000000) (R : RdR w rb gt r) (hE : EndsT r) (hS : ShortT r) (hdep : ∀ c r', exprF f 0 r = .ok c r' → depthE c ≤ 1000000000) :
    Calls Tryz.prog 30 #[.pointer (some ⟨rb, 0, none⟩)] w (POut rb gt w (encE w) (exprD f r)) := by
  suffices key : ∀ Q : Ending → World → Prop, Hid (∀ e w', POut rb gt w (encE w) (exprD f r) e w' → Q e w') → Calls Tryz.prog 30 #[.pointer (some ⟨rb, 0, none⟩)] w Q from key _ (Lib.hid fun _ _ h => h)
  intro Q HQQ
  obtain ⟨hrb, hgt, hgr⟩ := R.lens
  have hn0 : ¬ w.heap.size = rb ∧ ¬ rb = w.heap.size ∧ ¬ w.heap.size = gt := by omega
  have CN := Lib.hid ((expr_ok rb gt f).1 r (w.alloc (.cells #[.int .i64 0, .int .i64 0, .string ⟨#[]⟩, .slice none 0 0] 24)) hf (R.alloc _) hE hS)
  have hTk := expr_takes f 0 r
  obtain ⟨X, hX⟩ : ∃ X, exprD f r = X := ⟨_, rfl⟩
  rw [hX] at HQQ
  unfold exprD at hX
  cases hY : exprF f 0 r with
  | no p er =>
    rw [hY] at CN hX
    have HN : Hid (X = PR.no p er) := Lib.hid hX.symm
    clear hX hY hTk hdep hf R hE hS
    go_enter Tryz.func30, Tryz.ntmps30
    go_wp2_with (fail)
    go_at_call 50
    refine CN.out.mono ?_
    rintro e w5 hP
    obtain ⟨rfl, hg5⟩ := hP
    go_wp2
    exact ⟨rfl, HQQ.out _ _ (by rw [HN.out]; exact ⟨rfl, ((Gr.refl _ _ _).alloc (Nat.le_refl _) _).trans hg5 (by simp)⟩)⟩
  | ok c r5 =>
    have hT5 := hTk _ _ hY
    have hE5 := hT5.2.1 hE
    have hdc := hdep c r5 hY
    rw [hY] at CN hX
    dsimp only [PR.bind] at hX
    clear hY hTk hdep hf R hE hS hT5
    go_enter Tryz.func30, Tryz.ntmps30
    go_wp2_with (fail)
    go_at_call 50
    refine CN.out.mono ?_
    rintro e w5 hP
    obtain ⟨A4, cc, rfl, hv5, hR5, hg5⟩ := pout_ok hP
    have DP0 := fun W (hb : Below w5.heap.size w5 W) => depth_any (fun b => (w.alloc (.cells #[.int .i64 0, .int .i64 0, .string ⟨#[]⟩, .slice none 0 0] 24)).heap.size ≤ b) _ c _ W (Nat.le_refl _) (hv5.out.keep (Kp.below hb)) hdc
    clear hP CN
    obtain ⟨op, nn, ss, args⟩ := c
    dsimp only [exprC, ExprT.op, ExprT.n, ExprT.s, ExprT.args, List.cons_append, List.nil_append] at hv5 DP0 ⊢
    have hs5 := hg5.size
    simp at hs5
    have hz8 : w5.heap[w.heap.size]? = some (.cells zeroE 24 (0, 0)) := (hg5.block _ (by simp) hn0.1).trans (heap_alloc_new w _)
    obtain ⟨⟨z0, z1, z2, z3⟩, zf⟩ := four_cells hz8
    have HG5 : Hid (Gr w.heap.size rb w w5) := Lib.hid (((Gr.refl _ _ _).alloc (Nat.le_refl _) _).trans hg5 (by simp))
    have hv5' := Lib.hid (hv5.out.mono (P' := fun b => w.heap.size < b) (fun b h1 h2 => by simp at h2; omega))
    have hz0 : w.heap.size < w5.heap.size + 1 ∧ w.heap.size < w5.heap.size ∧ w5.heap.size < w5.heap.size + 1 := by omega
    have hb5 : ¬ w5.heap.size = rb ∧ ¬ rb = w5.heap.size ∧ ¬ w5.heap.size = gt ∧ ¬ w5.heap.size = w.heap.size ∧ ¬ w.heap.size = w5.heap.size := by omega
    generalize hdE : depthE (.mk op nn ss args) = D at *
    have DP := Lib.hid DP0
    clear hz8 hg5 DP0 hdE
    by_cases hD : 32 < D
    · rw [if_pos hD] at hX
      have HN := Lib.hid hX
      have hD' : (32 : Int) < (D : Int) := by omega
      obtain ⟨t, r6, rfl⟩ : ∃ t r6, r5 = t :: r6 := by
        cases r5 with
        | nil => exact absurd rfl hE5.ne
        | cons t r6 => exact ⟨t, r6, rfl⟩
      have FA := Lib.hid (fun W R' => fail_any rb gt t r6 20 W R')
      clear hX hE5 hD
      go_wp2_with (first | (go_at_call 23; (with_reducible refine (DP.out _ (by repeat (first | exact Below.refl _ _ | refine Below.setCell ?_ (by first | (simp; done) | (simp; omega) | omega) _ | refine Below.alloc ?_ (by first | (simp; done) | (simp; omega) | omega) _ | refine Below.drew ?_ | assumption | refine Below.trans ?_ (Below.mono (by assumption) (by first | (simp; done) | (simp; omega) | omega))))).mono ?_); rintro e w6 ⟨rfl, hb6⟩; have hs6 := hb6.size; (try simp at hs6)))
      go_at_call 32
      have hR6 : RdR w6 rb gt (t :: r6) := (hR5.out.alloc _).below hb6
      have hG6 : Gr w.heap.size rb w w6 := (HG5.out.alloc (by omega) _).below hb6 (by simp; omega)
      refine (FA.out _ hR6).mono ?_
      rintro e w7 ⟨rfl, hg7⟩
      go_wp2
      exact ⟨rfl, HQQ.out _ _ (by rw [← HN.out]; exact ⟨rfl, hG6.below hg7 hG6.size⟩)⟩
    · rw [if_neg hD] at hX
      have HN := Lib.hid hX
      have hD' : ¬ (32 : Int) < (D : Int) := by omega
      clear hX hD hE5
      go_wp2_with (first | (go_at_call 23; (with_reducible refine (DP.out _ (by repeat (first | exact Below.refl _ _ | refine Below.setCell ?_ (by first | (simp; done) | (simp; omega) | omega) _ | refine Below.alloc ?_ (by first | (simp; done) | (simp; omega) | omega) _ | refine Below.drew ?_ | assumption | refine Below.trans ?_ (Below.mono (by assumption) (by first | (simp; done) | (simp; omega) | omega))))).mono ?_); rintro e w6 ⟨rfl, hb6⟩; obtain ⟨hc6, hf6⟩ := bcell hb6; simp only [World.size_alloc] at hc6 hf6; have hs6 := hb6.size; (try simp at hs6); have hz6 : w5.heap.size < w6.heap.size ∧ w.heap.size < w6.heap.size := (by omega)))
      have hR6 : RdR w6 rb gt r5 := (hR5.out.alloc _).below hb6
      have hg6 : Gr w.heap.size rb w w6 := (HG5.out.alloc (by omega) _).below hb6 (by simp; omega)
      have hv6 := (hv5'.out.keep (Kp.alloc (Kp.refl _ _) _)).keep (Kp.below hb6)
      clear hb6
      exact bodyPost_ret (v := .agg #[.int .i64 op, .int .i64 nn, .string ⟨ss.toArray⟩, .slice A4 args.length cc]) (by simp [results, Tryz.results30, go_sem, *]) rfl (HQQ.out _ _ (by rw [← HN.out]; exact ⟨⟨_, rfl, _, rfl, (hv6.keep (by repeat (first | (with_reducible exact Kp.refl _ _) | (with_reducible assumption) | ((with_reducible refine Kp.set ?_ ?hq1 _); (case hq1 => (first | (simp; done) | (simp; omega) | (dsimp only; omega)))) | (with_reducible refine Kp.alloc ?_ _) | (with_reducible refine Kp.drew ?_) | refine Kp.trans ?_ (Kp.gr (by assumption) (by first | (simp; done) | (simp; omega) | (dsimp only; omega)))))).mono (fun b h1 h2 => by (try dsimp only at h2 ⊢); omega)⟩, (by repeat (first | (with_reducible exact hR6) | ((with_reducible refine RdR.setCell ?_ ?hq1 ?hq2 _); (case hq1 => (first | (simp; done) | (simp; omega) | omega)); (case hq2 => (first | (simp; done) | (simp; omega) | omega))) | (with_reducible refine RdR.alloc ?_ _) | (with_reducible refine RdR.drew ?_) | refine RdR.below ?_ (by assumption))), (by repeat (first | (with_reducible exact Gr.refl _ _ _) | (with_reducible assumption) | ((with_reducible refine Gr.setCell ?_ ?hq1 _); (case hq1 => (first | (right; rfl) | (left; (first | (simp; done) | (simp; omega) | omega))))) | ((with_reducible refine Gr.alloc ?_ ?hq1 _); (case hq1 => (first | (simp; done) | (simp; omega) | omega))) | (with_reducible refine Gr.drew ?_) | exact Gr.of_below (by assumption) | refine Gr.trans ?_ (by assumption) (by first | (simp; done) | (simp; omega) | omega) | refine Gr.below ?_ (by assumption) (by first | (simp; done) | (simp; omega) | omega)))⟩))
end Go.Proofs.YtnjlggleaocbdaaGreatDoor
