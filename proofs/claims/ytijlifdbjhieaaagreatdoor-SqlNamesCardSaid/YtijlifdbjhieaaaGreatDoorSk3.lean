/-
  Contracts of the reader's or, and, not. (Printed by tools/mksk3.py.)
-/
import Derived.Test.YtijlifdbjhieaaaGreatDoorSk2
namespace Go.Proofs.YtijlifdbjhieaaaGreatDoor
set_option linter.all false
open Go.RowKit Go.Shelf
attribute [local go_sem] cell_set_self lt_1 lt_2 lt_3 lt_4 lt_5 lt_6 fld_k fld_s fld_n fld_p

theorem ok_takes {α : Type} (a : α) : Takes (fun r => PR.ok a r) := fun ts b r h => by injection h with h1 h2; subst h2; exact ⟨Nat.le_refl _, id, id⟩
theorem loop_takes {part : List Tok → PR CondT} (hp : Takes part) (op : Int) (w : List UInt8) : ∀ (n : Nat) (c : CondT), Takes (loopF part op w n c)
  | n, c => fun ts a r h => by
    cases hm : mayF w ts with
    | none =>
      rw [loop_no hm] at h
      exact ok_takes c ts a r h
    | some r1 =>
      cases n with
      | zero => rw [loopF.eq_def] at h; simp only [hm] at h; cases h
      | succ n =>
        rw [loop_yes hm] at h
        have t1 := may_len hm
        have t2 := bind_takes hp (fun d => loop_takes hp op w n (.mk op [c, d] term0 term0)) r1 a r h
        exact ⟨by omega, fun k => t2.2.1 (may_ends hm k), fun k => t2.2.2 (t1.2 k)⟩
theorem sign_takes : ∀ (l : List (List UInt8)) (i : Int) (ts : List Tok) (j : Int) (r : List Tok), signF l i ts = some (j, r) → r.length ≤ ts.length ∧ (EndsT ts → EndsT r) ∧ (ShortT ts → ShortT r)
  | [], i, ts, j, r, h => by cases h
  | s :: l, i, ts, j, r, h => by
    unfold signF at h
    cases hm : mayF s ts with
    | none => rw [hm] at h; exact sign_takes l _ ts j r h
    | some r1 =>
      rw [hm] at h
      injection h with h; injection h with h1 h2; subst h2
      have t1 := may_len hm
      exact ⟨by omega, may_ends hm, t1.2⟩
theorem comp_takes : Takes compF := bind_takes term_takes fun l ts a r h => by
  cases hs : signF signsL 4 ts with
  | none => simp only [hs] at h; cases h
  | some x =>
    obtain ⟨op, r1⟩ := x
    simp only [hs] at h
    have t1 := sign_takes _ _ _ _ _ hs
    have t2 := bind_takes term_takes (fun x => ok_takes (CondT.mk op [] l x)) r1 a r h
    exact ⟨by omega, fun k => t2.2.1 (t1.2.1 k), fun k => t2.2.2 (t1.2.2 k)⟩
theorem cond_takes : ∀ (f lvl : Nat), Takes (condF f lvl)
  | 0, lvl => fun ts a r h => by cases lvl <;> cases h
  | f + 1, 0 => bind_takes (cond_takes f 1) fun c ts a r h => loop_takes (cond_takes f 1) 1 wOr ts.length c ts a r h
  | f + 1, 1 => bind_takes (cond_takes f 2) fun c ts a r h => loop_takes (cond_takes f 2) 2 wAnd ts.length c ts a r h
  | f + 1, lvl + 2 => fun ts a r h => by
    rw [condF] at h
    cases hm : mayF wNot ts with
    | some r1 =>
      rw [hm] at h
      have t1 := may_len hm
      have t2 := bind_takes (cond_takes f 2) (fun c => ok_takes (CondT.mk 3 [c] term0 term0)) r1 a r h
      exact ⟨by omega, fun k => t2.2.1 (may_ends hm k), fun k => t2.2.2 (t1.2 k)⟩
    | none =>
      rw [hm] at h
      simp only at h
      cases hm2 : mayF [40] ts with
      | some r1 =>
        rw [hm2] at h
        have t1 := may_len hm2
        have t2 := bind_takes (cond_takes f 0) (fun c => bind_takes (must_takes [41]) (fun _ => ok_takes c)) r1 a r h
        exact ⟨by omega, fun k => t2.2.1 (may_ends hm2 k), fun k => t2.2.2 (t1.2 k)⟩
      | none =>
        rw [hm2] at h
        exact comp_takes ts a r h
/-- What a reading of a condition answers, taken apart. -/
theorem pout_ok {rb gt : Nat} {W w' : World} {e : Ending} {d : CondT} {r : List Tok} (h : POut rb gt W (encC W) (.ok d r) e w') : ∃ A cc, e = .returned (.agg (condC d.op A d.args.length cc d.l d.r).toArray) ∧ Hid (CV (fun b => W.heap.size ≤ b) w' d (condC d.op A d.args.length cc d.l d.r)) ∧ Hid (RdR w' rb gt r) ∧ Gr W.heap.size rb W w' := by
  obtain ⟨⟨V, h1, cs, h2, h3⟩, h4, h5⟩ := h
  have h6 := h3
  obtain ⟨op, args, l, rr⟩ := d
  unfold CV at h6
  obtain ⟨A, cc, h7, -⟩ := h6
  subst h7
  exact ⟨A, cc, by rw [h1, h2]; rfl, Lib.hid h3, Lib.hid h4, h5⟩
/-- What is asked of the three, with fuel f. -/
def CondOk (rb gt f : Nat) : Prop :=
  (∀ r w, 3 * r.length + 3 ≤ f → RdR w rb gt r → EndsT r → ShortT r → Calls Tryz.prog 63 #[.pointer (some ⟨rb, 0, none⟩)] w (POut rb gt w (encC w) (condF f 0 r))) ∧
  (∀ r w, 3 * r.length + 2 ≤ f → RdR w rb gt r → EndsT r → ShortT r → Calls Tryz.prog 102 #[.pointer (some ⟨rb, 0, none⟩)] w (POut rb gt w (encC w) (condF f 1 r))) ∧
  (∀ r w, 3 * r.length + 1 ≤ f → RdR w rb gt r → EndsT r → ShortT r → Calls Tryz.prog 117 #[.pointer (some ⟨rb, 0, none⟩)] w (POut rb gt w (encC w) (condF f 2 r)))
set_option maxHeartbeats 8000000 in
set_option maxRecDepth 100000 in
theorem or_step (rb gt f : Nat) (ih : CondOk rb gt f) (r : List Tok) (w : World) (hf : 3 * r.length + 3 ≤ f + 1) (R : RdR w rb gt r) (hE : EndsT r) (hS : ShortT r) :
    Calls Tryz.prog 63 #[.pointer (some ⟨rb, 0, none⟩)] w (POut rb gt w (encC w) (condF (f + 1) 0 r)) := by
  suffices key : ∀ Q : Ending → World → Prop, Hid (∀ e w', POut rb gt w (encC w) (condF (f + 1) 0 r) e w' → Q e w') → Calls Tryz.prog 63 #[.pointer (some ⟨rb, 0, none⟩)] w Q from key _ (Lib.hid fun _ _ h => h)
  intro Q HQQ
  have TW0 := twoOr_any rb gt (condF f 1) (cond_takes f 1) r (w.alloc (.cells zeroC 27)) (R.alloc _) hE hS (fun r' W hE' hS' hl R' => ih.2.1 r' W (by omega) R' hE' hS')
  obtain ⟨hrb, hgt, -⟩ := R.lens
  have hn0 : ¬ w.heap.size = rb ∧ ¬ rb = w.heap.size ∧ ¬ w.heap.size = gt := by omega
  have hc : condF (f + 1) 0 r = (condF f 1 r).bind fun c r => loopF (condF f 1) 1 wOr r.length c r := rfl
  rw [hc] at HQQ
  generalize (condF f 1 r).bind (fun c r => loopF (condF f 1) 1 wOr r.length c r) = X at *
  have TW := Lib.hid TW0
  clear TW0 hc ih hE hS R hf
  unfold zeroC at TW
  go_enter Tryz.func63, Tryz.ntmps63
  go_wp2_with (fail)
  go_at_call 101
  refine TW.out.mono ?_
  rintro e w5 hP
  cases X with
  | no p er =>
    obtain ⟨rfl, hg5⟩ := hP
    go_wp2
    exact ⟨rfl, HQQ.out _ _ ⟨rfl, ((Gr.refl _ _ _).alloc (Nat.le_refl _) _).trans hg5 (by simp)⟩⟩
  | ok c r5 =>
    obtain ⟨A, cc, rfl, hv5, hR5, hg5⟩ := pout_ok hP
    clear hP TW
    obtain ⟨op, args, ⟨lc, lt, ln, ls⟩, ⟨rc, rt, rn, rs⟩⟩ := c
    dsimp only [condC, termC, CondT.op, CondT.args, CondT.l, CondT.r, List.cons_append, List.nil_append] at hv5 ⊢
    have hs5 := hg5.size
    simp at hs5
    have hz8 : w5.heap[w.heap.size]? = some (.cells zeroC 27 (0, 0)) := (hg5.block _ (by simp) hn0.1).trans (heap_alloc_new w _)
    obtain ⟨⟨z0, z1, z2, z3, z4, z5, z6, z7, z8, z9⟩, zf⟩ := ten_cells hz8
    clear hz8
    go_wp2
    have hg5' : Gr w.heap.size rb w w5 := ((Gr.refl _ _ _).alloc (Nat.le_refl _) _).trans hg5 (by simp)
    have hR5' := hR5.out
    exact bodyPost_ret (v := .agg #[.int .i64 op, .slice A args.length cc, .string ⟨lc.toArray⟩, .int .i64 lt, .int .i64 ln, .string ⟨ls.toArray⟩, .string ⟨rc.toArray⟩, .int .i64 rt, .int .i64 rn, .string ⟨rs.toArray⟩]) (by simp [results, Tryz.results63, go_sem, *]) rfl (HQQ.out _ _ ⟨⟨_, rfl, _, rfl, (hv5.out.keep (by repeat (first | (with_reducible exact Kp.refl _ _) | (with_reducible assumption) | ((with_reducible refine Kp.set ?_ ?hq1 _); (case hq1 => (first | (simp; done) | (simp; omega) | (dsimp only; omega)))) | (with_reducible refine Kp.alloc ?_ _) | (with_reducible refine Kp.drew ?_) | refine Kp.trans ?_ (Kp.gr (by assumption) (by first | (simp; done) | (simp; omega) | (dsimp only; omega)))))).mono (fun b h1 h2 => by simp at h2; omega)⟩, (by repeat (first | (with_reducible exact hR5') | ((with_reducible refine RdR.setCell ?_ ?hq1 ?hq2 _); (case hq1 => (first | (simp; done) | (simp; omega) | omega)); (case hq2 => (first | (simp; done) | (simp; omega) | omega))) | (with_reducible refine RdR.alloc ?_ _) | (with_reducible refine RdR.drew ?_) | refine RdR.below ?_ (by assumption))), (by repeat (first | (with_reducible exact Gr.refl _ _ _) | (with_reducible assumption) | ((with_reducible refine Gr.setCell ?_ ?hq1 _); (case hq1 => (first | (right; rfl) | (left; (first | (simp; done) | (simp; omega) | omega))))) | ((with_reducible refine Gr.alloc ?_ ?hq1 _); (case hq1 => (first | (simp; done) | (simp; omega) | omega))) | (with_reducible refine Gr.drew ?_) | exact Gr.of_below (by assumption) | refine Gr.trans ?_ (by assumption) (by first | (simp; done) | (simp; omega) | omega) | refine Gr.below ?_ (by assumption) (by first | (simp; done) | (simp; omega) | omega)))⟩)
set_option maxHeartbeats 8000000 in
set_option maxRecDepth 100000 in
theorem and_step (rb gt f : Nat) (ih : CondOk rb gt f) (r : List Tok) (w : World) (hf : 3 * r.length + 2 ≤ f + 1) (R : RdR w rb gt r) (hE : EndsT r) (hS : ShortT r) :
    Calls Tryz.prog 102 #[.pointer (some ⟨rb, 0, none⟩)] w (POut rb gt w (encC w) (condF (f + 1) 1 r)) := by
  suffices key : ∀ Q : Ending → World → Prop, Hid (∀ e w', POut rb gt w (encC w) (condF (f + 1) 1 r) e w' → Q e w') → Calls Tryz.prog 102 #[.pointer (some ⟨rb, 0, none⟩)] w Q from key _ (Lib.hid fun _ _ h => h)
  intro Q HQQ
  have TW0 := twoAnd_any rb gt (condF f 2) (cond_takes f 2) r (w.alloc (.cells zeroC 27)) (R.alloc _) hE hS (fun r' W hE' hS' hl R' => ih.2.2 r' W (by omega) R' hE' hS')
  obtain ⟨hrb, hgt, -⟩ := R.lens
  have hn0 : ¬ w.heap.size = rb ∧ ¬ rb = w.heap.size ∧ ¬ w.heap.size = gt := by omega
  have hc : condF (f + 1) 1 r = (condF f 2 r).bind fun c r => loopF (condF f 2) 2 wAnd r.length c r := rfl
  rw [hc] at HQQ
  generalize (condF f 2 r).bind (fun c r => loopF (condF f 2) 2 wAnd r.length c r) = X at *
  have TW := Lib.hid TW0
  clear TW0 hc ih hE hS R hf
  unfold zeroC at TW
  go_enter Tryz.func102, Tryz.ntmps102
  go_wp2_with (fail)
  go_at_call 101
  refine TW.out.mono ?_
  rintro e w5 hP
  cases X with
  | no p er =>
    obtain ⟨rfl, hg5⟩ := hP
    go_wp2
    exact ⟨rfl, HQQ.out _ _ ⟨rfl, ((Gr.refl _ _ _).alloc (Nat.le_refl _) _).trans hg5 (by simp)⟩⟩
  | ok c r5 =>
    obtain ⟨A, cc, rfl, hv5, hR5, hg5⟩ := pout_ok hP
    clear hP TW
    obtain ⟨op, args, ⟨lc, lt, ln, ls⟩, ⟨rc, rt, rn, rs⟩⟩ := c
    dsimp only [condC, termC, CondT.op, CondT.args, CondT.l, CondT.r, List.cons_append, List.nil_append] at hv5 ⊢
    have hs5 := hg5.size
    simp at hs5
    have hz8 : w5.heap[w.heap.size]? = some (.cells zeroC 27 (0, 0)) := (hg5.block _ (by simp) hn0.1).trans (heap_alloc_new w _)
    obtain ⟨⟨z0, z1, z2, z3, z4, z5, z6, z7, z8, z9⟩, zf⟩ := ten_cells hz8
    clear hz8
    go_wp2
    have hg5' : Gr w.heap.size rb w w5 := ((Gr.refl _ _ _).alloc (Nat.le_refl _) _).trans hg5 (by simp)
    have hR5' := hR5.out
    exact bodyPost_ret (v := .agg #[.int .i64 op, .slice A args.length cc, .string ⟨lc.toArray⟩, .int .i64 lt, .int .i64 ln, .string ⟨ls.toArray⟩, .string ⟨rc.toArray⟩, .int .i64 rt, .int .i64 rn, .string ⟨rs.toArray⟩]) (by simp [results, Tryz.results102, go_sem, *]) rfl (HQQ.out _ _ ⟨⟨_, rfl, _, rfl, (hv5.out.keep (by repeat (first | (with_reducible exact Kp.refl _ _) | (with_reducible assumption) | ((with_reducible refine Kp.set ?_ ?hq1 _); (case hq1 => (first | (simp; done) | (simp; omega) | (dsimp only; omega)))) | (with_reducible refine Kp.alloc ?_ _) | (with_reducible refine Kp.drew ?_) | refine Kp.trans ?_ (Kp.gr (by assumption) (by first | (simp; done) | (simp; omega) | (dsimp only; omega)))))).mono (fun b h1 h2 => by simp at h2; omega)⟩, (by repeat (first | (with_reducible exact hR5') | ((with_reducible refine RdR.setCell ?_ ?hq1 ?hq2 _); (case hq1 => (first | (simp; done) | (simp; omega) | omega)); (case hq2 => (first | (simp; done) | (simp; omega) | omega))) | (with_reducible refine RdR.alloc ?_ _) | (with_reducible refine RdR.drew ?_) | refine RdR.below ?_ (by assumption))), (by repeat (first | (with_reducible exact Gr.refl _ _ _) | (with_reducible assumption) | ((with_reducible refine Gr.setCell ?_ ?hq1 _); (case hq1 => (first | (right; rfl) | (left; (first | (simp; done) | (simp; omega) | omega))))) | ((with_reducible refine Gr.alloc ?_ ?hq1 _); (case hq1 => (first | (simp; done) | (simp; omega) | omega))) | (with_reducible refine Gr.drew ?_) | exact Gr.of_below (by assumption) | refine Gr.trans ?_ (by assumption) (by first | (simp; done) | (simp; omega) | omega) | refine Gr.below ?_ (by assumption) (by first | (simp; done) | (simp; omega) | omega)))⟩)
theorem heap_alloc_at {W : World} {o : Obj} {k : Nat} (h : W.heap.size = k) : (W.alloc o).heap[k]? = some o := by subst h; exact heap_alloc_new W o
theorem sign_at {k : Nat} {s : List UInt8} {l : List (List UInt8)} {i : Int} {r : List Tok} (hd : l = s :: signsL.drop (k + 1)) : (mayF s r = none → signF l i r = signF (signsL.drop (k + 1)) (i + 1) r) ∧ ∀ r1, mayF s r = some r1 → signF l i r = some (i, r1) := by
  subst hd
  exact ⟨fun h => by rw [signF, h], fun r1 h => by rw [signF, h]⟩
set_option maxHeartbeats 16000000 in
set_option maxRecDepth 100000 in
theorem not_step (rb gt f : Nat) (ih : CondOk rb gt f) (r : List Tok) (w : World) (hf : 3 * r.length + 1 ≤ f + 1) (R : RdR w rb gt r) (hE : EndsT r) (hS : ShortT r) :
    Calls Tryz.prog 117 #[.pointer (some ⟨rb, 0, none⟩)] w (POut rb gt w (encC w) (condF (f + 1) 2 r)) := by
  suffices key : ∀ Q : Ending → World → Prop, Hid (∀ e w', POut rb gt w (encC w) (condF (f + 1) 2 r) e w' → Q e w') → Calls Tryz.prog 117 #[.pointer (some ⟨rb, 0, none⟩)] w Q from key _ (Lib.hid fun _ _ h => h)
  intro Q HQQ
  have hc : condF (f + 1) 2 r = match mayF wNot r with
    | some r => (condF f 2 r).bind fun c r' => .ok (.mk 3 [c] term0 term0) r'
    | none => match mayF [40] r with
      | some r => (condF f 0 r).bind fun c r' => (mustF [41] r').bind fun _ r'' => .ok c r''
      | none => compF r := rfl
  obtain ⟨X, hX⟩ : ∃ X, condF (f + 1) 2 r = X := ⟨_, rfl⟩
  rw [hX] at HQQ hc
  obtain ⟨hrb, hgt, -⟩ := R.lens
  have hn0 : ¬ w.heap.size = rb ∧ ¬ rb = w.heap.size ∧ ¬ w.heap.size = gt := by omega
  have MY := Lib.hid (fun s r hr W R' => may_any rb gt s r hr W R')
  have MU := Lib.hid (fun s r hr W R' => must_any rb gt s r hr W R')
  have TA := Lib.hid (fun r hr hS W R' => term_any rb gt r hr hS W R')
  have HR := Lib.hid R
  have HES := Lib.hid (And.intro hE hS)
  have IH := Lib.hid ih
  clear hX ih R hE hS
  cases hm : mayF wNot r with
  | some r1 =>
    have hml := may_len hm
    have CN0 := fun W R' => IH.out.2.2 r1 W (by omega) R' (may_ends hm HES.out.1) (hml.2 HES.out.2)
    have MY1 := Lib.hid (fun W R' => MY.out wNot r HES.out.1.ne W R')
    rw [(may_yes hm).1, (may_yes hm).2] at MY1
    rw [hm] at hc
    dsimp only at hc
    generalize condF f 2 r1 = Y at *
    have CN := Lib.hid CN0
    clear CN0 hm hml hf
    go_enter Tryz.func117, Tryz.ntmps117
    go_wp2_with (first | (go_at_call 62; (with_reducible refine (MY1.out _ (HR.out.alloc _)).mono ?_); rintro e w3 ⟨rfl, hR3, hg3⟩; have hs3 := hg3.size; (try simp at hs3)))
    have hg3' : Gr w.heap.size rb w w3 := ((Gr.refl _ _ _).alloc (Nat.le_refl _) _).trans hg3 (by simp)
    have hz3 : w3.heap[w.heap.size]? = some (.cells zeroC 27 (0, 0)) := (hg3.block _ (by simp) hn0.1).trans (heap_alloc_new w _)
    go_at_call 117
    refine (CN.out _ hR3).mono ?_
    rintro e w5 hP
    cases Y with
    | no p er =>
      obtain ⟨rfl, hg5⟩ := hP
      have HN : Hid (X = PR.no p er) := Lib.hid hc
      clear hc
      go_wp2
      exact ⟨rfl, HQQ.out _ _ (by rw [HN.out]; exact ⟨rfl, hg3'.trans hg5 (by omega)⟩)⟩
    | ok c r5 =>
      obtain ⟨A, cc, rfl, hv5, hR5, hg5⟩ := pout_ok hP
      clear hP CN
      obtain ⟨op, args, ⟨lc, lt, ln, ls⟩, ⟨rc, rt, rn, rs⟩⟩ := c
      dsimp only [condC, termC, CondT.op, CondT.args, CondT.l, CondT.r, List.cons_append, List.nil_append] at hv5 ⊢
      have hs5 := hg5.size
      have hz8 : w5.heap[w.heap.size]? = some (.cells zeroC 27 (0, 0)) := (hg5.block _ (by omega) hn0.1).trans hz3
      obtain ⟨⟨z0, z1, z2, z3, z4, z5, z6, z7, z8, z9⟩, zf⟩ := ten_cells hz8
      have HN : Hid (X = PR.ok (.mk 3 [.mk op args ⟨lc, lt, ln, ls⟩ ⟨rc, rt, rn, rs⟩] term0 term0) r5) := Lib.hid hc
      have hzl : w.heap.size < w5.heap.size := by omega
      clear hz8 hz3 hc
      go_wp2
      have hg5' : Gr w.heap.size rb w w5 := hg3'.trans hg5 (by omega)
      have hR5' := hR5.out
      exact bodyPost_ret (v := .agg #[.int .i64 3, .slice (some ⟨w5.heap.size, 0, none⟩) 1 1, .string ⟨#[]⟩, .int .i64 0, .int .i64 0, .string ⟨#[]⟩, .string ⟨#[]⟩, .int .i64 0, .int .i64 0, .string ⟨#[]⟩]) (by simp [results, Tryz.results117, go_sem, *]) rfl (HQQ.out _ _ (by rw [HN.out]; exact ⟨⟨_, rfl, [.int .i64 3, .slice (some ⟨w5.heap.size, 0, none⟩) 1 1, .string ⟨#[]⟩, .int .i64 0, .int .i64 0, .string ⟨#[]⟩, .string ⟨#[]⟩, .int .i64 0, .int .i64 0, .string ⟨#[]⟩], rfl, (by
        have kv := (hv5.out.mono (P' := fun b => w.heap.size < b) (fun b h1 h2 => by omega))
        unfold CV
        refine ⟨_, _, rfl, ⟨Nat.le_refl _, by simp⟩, (fun h => by cases h), CVL.one (cx := [.int .i64 op, .slice A args.length cc, .string ⟨lc.toArray⟩, .int .i64 lt, .int .i64 ln, .string ⟨ls.toArray⟩, .string ⟨rc.toArray⟩, .int .i64 rt, .int .i64 rn, .string ⟨rs.toArray⟩]) (by omega) ?_ ((kv.keep (by repeat (first | (with_reducible exact Kp.refl _ _) | (with_reducible assumption) | ((with_reducible refine Kp.set ?_ ?hq1 _); (case hq1 => (first | (simp; done) | (simp; omega) | (dsimp only; omega)))) | (with_reducible refine Kp.alloc ?_ _) | (with_reducible refine Kp.drew ?_) | refine Kp.trans ?_ (Kp.gr (by assumption) (by first | (simp; done) | (simp; omega) | (dsimp only; omega)))))).mono (fun b h1 h2 => by omega))⟩
        exact heap_alloc_at (by simp))⟩, (by repeat (first | (with_reducible exact hR5') | ((with_reducible refine RdR.setCell ?_ ?hq1 ?hq2 _); (case hq1 => (first | (simp; done) | (simp; omega) | omega)); (case hq2 => (first | (simp; done) | (simp; omega) | omega))) | (with_reducible refine RdR.alloc ?_ _) | (with_reducible refine RdR.drew ?_) | refine RdR.below ?_ (by assumption))), (by repeat (first | (with_reducible exact Gr.refl _ _ _) | (with_reducible assumption) | ((with_reducible refine Gr.setCell ?_ ?hq1 _); (case hq1 => (first | (right; rfl) | (left; (first | (simp; done) | (simp; omega) | omega))))) | ((with_reducible refine Gr.alloc ?_ ?hq1 _); (case hq1 => (first | (simp; done) | (simp; omega) | omega))) | (with_reducible refine Gr.drew ?_) | exact Gr.of_below (by assumption) | refine Gr.trans ?_ (by assumption) (by first | (simp; done) | (simp; omega) | omega) | refine Gr.below ?_ (by assumption) (by first | (simp; done) | (simp; omega) | omega)))⟩))
  | none =>
    rw [hm] at hc
    dsimp only at hc
    have MY1 := Lib.hid (fun W R' => MY.out wNot r HES.out.1.ne W R')
    rw [(may_no hm).1, (may_no hm).2] at MY1
    clear hm
    cases hm2 : mayF [40] r with
    | some r1 =>
      have hml := may_len hm2
      have CN0 := fun W R' => IH.out.1 r1 W (by omega) R' (may_ends hm2 HES.out.1) (hml.2 HES.out.2)
      have MY2 := Lib.hid (fun W R' => MY.out [40] r HES.out.1.ne W R')
      rw [(may_yes hm2).1, (may_yes hm2).2] at MY2
      rw [hm2] at hc
      dsimp only at hc
      have hTk := cond_takes f 0 r1
      have HE1 : Hid (EndsT r1 ∧ ShortT r1) := Lib.hid ⟨may_ends hm2 HES.out.1, hml.2 HES.out.2⟩
      generalize condF f 0 r1 = Y at *
      have CN := Lib.hid CN0
      clear CN0 hm2 hml hf
      go_enter Tryz.func117, Tryz.ntmps117
      go_wp2_with (first | (go_at_call_of 62 (Value.string ⟨#[110, 111, 116]⟩); (with_reducible refine (MY1.out _ (HR.out.alloc _)).mono ?_); rintro e w3 ⟨rfl, hR3, hg3⟩; have hs3 := hg3.size; (try simp at hs3); have hg3' : Gr w.heap.size rb w w3 := ((Gr.refl _ _ _).alloc (Nat.le_refl _) _).trans hg3 (by simp)) | (go_at_call_of 62 (Value.string ⟨#[40]⟩); (with_reducible refine (MY2.out _ hR3).mono ?_); rintro e w4 ⟨rfl, hR4, hg4⟩; have hs4 := hg4.size; have hg4' : Gr w.heap.size rb w w4 := hg3'.trans hg4 (by omega)))
      have hz4 : w4.heap[w.heap.size]? = some (.cells zeroC 27 (0, 0)) := (hg4.block _ (by omega) hn0.1).trans ((hg3.block _ (by simp) hn0.1).trans (heap_alloc_new w _))
      go_at_call 63
      refine (CN.out _ hR4).mono ?_
      rintro e w5 hP
      cases Y with
      | no p er =>
        obtain ⟨rfl, hg5⟩ := hP
        have HN : Hid (X = PR.no p er) := Lib.hid hc
        clear hc
        go_wp2
        exact ⟨rfl, HQQ.out _ _ (by rw [HN.out]; exact ⟨rfl, hg4'.trans hg5 (by omega)⟩)⟩
      | ok c r5 =>
        obtain ⟨A, cc, rfl, hv5, hR5, hg5⟩ := pout_ok hP
        have hT5 := hTk _ _ rfl
        have HE5 : Hid (EndsT r5 ∧ ShortT r5) := Lib.hid ⟨hT5.2.1 HE1.out.1, hT5.2.2 HE1.out.2⟩
        clear hP CN hTk hT5
        dsimp only [PR.bind] at hc
        obtain ⟨op, args, ⟨lc, lt, ln, ls⟩, ⟨rc, rt, rn, rs⟩⟩ := c
        dsimp only [condC, termC, CondT.op, CondT.args, CondT.l, CondT.r, List.cons_append, List.nil_append] at hv5 ⊢
        have hs5 := hg5.size
        have hz5 : w5.heap[w.heap.size]? = some (.cells zeroC 27 (0, 0)) := (hg5.block _ (by omega) hn0.1).trans hz4
        have hg5' : Gr w.heap.size rb w w5 := hg4'.trans hg5 (by omega)
        have HC := Lib.hid hc
        have MU5 := Lib.hid (fun W R' => MU.out [41] r5 HE5.out.1.ne W R')
        clear hc hz4
        go_wp2_with (fail)
        go_at_call 57
        refine (MU5.out _ (hR5.out.alloc _)).mono ?_
        rintro e w7 hP
        cases hp : mustF [41] r5 with
        | no p er =>
          rw [hp] at hP
          obtain ⟨rfl, hg7⟩ := hP
          have HN : Hid (X = PR.no p er) := Lib.hid (by have h := HC.out; rw [hp] at h; exact h)
          clear hp
          go_wp2
          exact ⟨rfl, HQQ.out _ _ (by rw [HN.out]; exact ⟨rfl, (by repeat (first | (with_reducible exact Gr.refl _ _ _) | (with_reducible assumption) | ((with_reducible refine Gr.setCell ?_ ?hq1 _); (case hq1 => (first | (right; rfl) | (left; (first | (simp; done) | (simp; omega) | omega))))) | ((with_reducible refine Gr.alloc ?_ ?hq1 _); (case hq1 => (first | (simp; done) | (simp; omega) | omega))) | (with_reducible refine Gr.drew ?_) | exact Gr.of_below (by assumption) | refine Gr.trans ?_ (by assumption) (by first | (simp; done) | (simp; omega) | omega) | refine Gr.below ?_ (by assumption) (by first | (simp; done) | (simp; omega) | omega)))⟩)⟩
        | ok u r7 =>
          rw [hp] at hP
          obtain ⟨⟨V7, rfl, hV7⟩, hR7, hg7⟩ := hP
          obtain rfl := hV7
          have HN : Hid (X = PR.ok (.mk op args ⟨lc, lt, ln, ls⟩ ⟨rc, rt, rn, rs⟩) r7) := Lib.hid (by have h := HC.out; rw [hp] at h; exact h)
          have hs7 := hg7.size
          simp at hs7
          have hb5 : ¬ w5.heap.size = rb := by omega
          have hz7 : w7.heap[w.heap.size]? = some (.cells zeroC 27 (0, 0)) := (hg7.block _ (by simp; omega) hn0.1).trans ((((Below.refl _ _).alloc (Nat.le_refl _) _).block _ (by omega)).trans hz5)
          have hk7 : w7.heap[w5.heap.size]? = some (.cells #[.int .i64 op, .slice A args.length cc, .string ⟨lc.toArray⟩, .int .i64 lt, .int .i64 ln, .string ⟨ls.toArray⟩, .string ⟨rc.toArray⟩, .int .i64 rt, .int .i64 rn, .string ⟨rs.toArray⟩] 27 (0, 0)) := (hg7.block _ (by simp) hb5).trans (heap_alloc_new w5 _)
          obtain ⟨⟨z0, z1, z2, z3, z4, z5, z6, z7, z8, z9⟩, zf⟩ := ten_cells hz7
          obtain ⟨⟨k0, k1, k2, k3, k4, k5, k6, k7, k8, k9⟩, kf⟩ := ten_cells hk7
          clear hz7 hk7 hz5 hp
          go_wp2
          have hg7' : Gr w.heap.size rb w w7 := (hg5'.alloc (by omega) _).trans hg7 (by simp; omega)
          have hR7' := hR7
          have kv := ((hv5.out.mono (P' := fun b => w.heap.size < b ∧ b < w5.heap.size) (fun b h1 h2 => ⟨by omega, h1⟩)).keep ((Kp.refl _ _).alloc (.cells #[.int .i64 op, .slice A args.length cc, .string ⟨lc.toArray⟩, .int .i64 lt, .int .i64 ln, .string ⟨ls.toArray⟩, .string ⟨rc.toArray⟩, .int .i64 rt, .int .i64 rn, .string ⟨rs.toArray⟩] 27))).keep (Kp.gr hg7 (by omega))
          exact bodyPost_ret (v := .agg #[.int .i64 op, .slice A args.length cc, .string ⟨lc.toArray⟩, .int .i64 lt, .int .i64 ln, .string ⟨ls.toArray⟩, .string ⟨rc.toArray⟩, .int .i64 rt, .int .i64 rn, .string ⟨rs.toArray⟩]) (by simp [results, Tryz.results117, go_sem, *]) rfl (HQQ.out _ _ (by rw [HN.out]; exact ⟨⟨_, rfl, [.int .i64 op, .slice A args.length cc, .string ⟨lc.toArray⟩, .int .i64 lt, .int .i64 ln, .string ⟨ls.toArray⟩, .string ⟨rc.toArray⟩, .int .i64 rt, .int .i64 rn, .string ⟨rs.toArray⟩], rfl, (kv.keep (by repeat (first | (with_reducible exact Kp.refl _ _) | (with_reducible assumption) | ((with_reducible refine Kp.set ?_ ?hq1 _); (case hq1 => (first | (simp; done) | (simp; omega) | (dsimp only; omega)))) | (with_reducible refine Kp.alloc ?_ _) | (with_reducible refine Kp.drew ?_) | refine Kp.trans ?_ (Kp.gr (by assumption) (by first | (simp; done) | (simp; omega) | (dsimp only; omega)))))).mono (fun b h1 h2 => by (try dsimp only at h2 ⊢); omega)⟩, (by repeat (first | (with_reducible exact hR7') | ((with_reducible refine RdR.setCell ?_ ?hq1 ?hq2 _); (case hq1 => (first | (simp; done) | (simp; omega) | omega)); (case hq2 => (first | (simp; done) | (simp; omega) | omega))) | (with_reducible refine RdR.alloc ?_ _) | (with_reducible refine RdR.drew ?_) | refine RdR.below ?_ (by assumption))), (by repeat (first | (with_reducible exact Gr.refl _ _ _) | (with_reducible assumption) | ((with_reducible refine Gr.setCell ?_ ?hq1 _); (case hq1 => (first | (right; rfl) | (left; (first | (simp; done) | (simp; omega) | omega))))) | ((with_reducible refine Gr.alloc ?_ ?hq1 _); (case hq1 => (first | (simp; done) | (simp; omega) | omega))) | (with_reducible refine Gr.drew ?_) | exact Gr.of_below (by assumption) | refine Gr.trans ?_ (by assumption) (by first | (simp; done) | (simp; omega) | omega) | refine Gr.below ?_ (by assumption) (by first | (simp; done) | (simp; omega) | omega)))⟩))
    | none =>
      rw [hm2] at hc
      dsimp only at hc
      have MY2 := Lib.hid (fun W R' => MY.out [40] r HES.out.1.ne W R')
      rw [(may_no hm2).1, (may_no hm2).2] at MY2
      have TA1 := Lib.hid (fun W R' => TA.out r HES.out.1.ne HES.out.2 W R')
      have SG := Lib.hid (fun W => signs_any W)
      clear hm2 hf IH
      unfold compF at hc
      go_enter Tryz.func117, Tryz.ntmps117
      go_wp2_with (first | (go_at_call_of 62 (Value.string ⟨#[110, 111, 116]⟩); (with_reducible refine (MY1.out _ (HR.out.alloc _)).mono ?_); rintro e w3 ⟨rfl, hR3, hg3⟩; have hs3 := hg3.size; (try simp at hs3); have hg3' : Gr w.heap.size rb w w3 := ((Gr.refl _ _ _).alloc (Nat.le_refl _) _).trans hg3 (by simp)) | (go_at_call_of 62 (Value.string ⟨#[40]⟩); (with_reducible refine (MY2.out _ hR3).mono ?_); rintro e w4 ⟨rfl, hR4, hg4⟩; have hs4 := hg4.size; have hg4' : Gr w.heap.size rb w w4 := hg3'.trans hg4 (by omega)))
      have hz4 : w4.heap[w.heap.size]? = some (.cells zeroC 27 (0, 0)) := (hg4.block _ (by omega) hn0.1).trans ((hg3.block _ (by simp) hn0.1).trans (heap_alloc_new w _))
      go_at_call 130
      refine (TA1.out _ hR4).mono ?_
      rintro e w5 hP
      cases hp : termF r with
      | no p er =>
        rw [hp] at hP hc
        obtain ⟨rfl, hg5⟩ := hP
        have HN : Hid (X = PR.no p er) := Lib.hid hc
        clear hp hc
        go_wp2
        exact ⟨rfl, HQQ.out _ _ (by rw [HN.out]; exact ⟨rfl, hg4'.trans hg5 (by omega)⟩)⟩
      | ok l r2 =>
        rw [hp] at hP hc
        obtain ⟨⟨V5, rfl, hV5⟩, hR5, hg5⟩ := hP
        obtain rfl := hV5
        have hT5 := term_takes _ _ _ hp
        have HE5 : Hid (EndsT r2 ∧ ShortT r2) := Lib.hid ⟨hT5.2.1 HES.out.1, hT5.2.2 HES.out.2⟩
        dsimp only [PR.bind] at hc
        obtain ⟨lc, lt, ln, ls⟩ := l
        dsimp only [termC] at hc ⊢
        have hs5 := hg5.size
        have hz5 : w5.heap[w.heap.size]? = some (.cells zeroC 27 (0, 0)) := (hg5.block _ (by omega) hn0.1).trans hz4
        have hg5' : Gr w.heap.size rb w w5 := hg4'.trans hg5 (by omega)
        have HX0 : Hid ((match signF (signsL.drop 0) (4 + ((0 : Nat) : Int)) r2 with
          | none => PR.no (headP r2) 11
          | some (op, r') => (termF r').bind fun x r'' => PR.ok (CondT.mk op [] ⟨lc, lt, ln, ls⟩ x) r'') = X) := Lib.hid hc.symm
        have HR5 := Lib.hid hR5
        clear hc hp hT5 hz4 hR5
        go_wp2_with (first | (go_at_call 48; (with_reducible refine (SG.out _).mono ?_); rintro e w6 ⟨rfl, hS6, hb6⟩; have hs6 := hb6.size; simp at hs6; simp only [World.size_alloc] at hS6; have HS6 := Lib.hid hS6; clear hS6))
        have hK0 : Hid (w6.heap[w5.heap.size]? = some (.cells #[.string ⟨lc.toArray⟩, .int .i64 lt, .int .i64 ln, .string ⟨ls.toArray⟩] 25 (0, 0)) ∧ w6.heap[w.heap.size]? = some (.cells zeroC 27 (0, 0))) := Lib.hid ⟨(hb6.block _ (by simp)).trans (heap_alloc_new w5 _), (hb6.block _ (by simp; omega)).trans ((((Below.refl _ _).alloc (Nat.le_refl _) _).block _ (by omega)).trans hz5)⟩
        have HG6 : Hid (Gr w.heap.size rb w w6) := Lib.hid ((hg5'.alloc (by omega) _).below hb6 (by simp; omega))
        have HR6 : Hid (RdR w6 rb gt r2) := Lib.hid ((HR5.out.alloc _).below hb6)
        have hb5 : ¬ w5.heap.size = rb ∧ ¬ w5.heap.size + 1 = rb ∧ ¬ w5.heap.size = w.heap.size ∧ ¬ w.heap.size = w5.heap.size ∧ ¬ w5.heap.size = gt := by omega
        clear hz5 hb6 hg5 hg5' hg4' hg4 hg3 hR3 hR4
        go_loopw [24] (fun j wr => ∃ k : Nat, k ≤ 6 ∧ j = .int .i64 k ∧ Hid ((match signF (signsL.drop k) (4 + (k : Int)) r2 with
          | none => PR.no (headP r2) 11
          | some (op, r') => (termF r').bind fun x r'' => PR.ok (CondT.mk op [] ⟨lc, lt, ln, ls⟩ x) r'') = X) ∧ Hid (RdR wr rb gt r2) ∧ Hid (Strs wr (some ⟨w5.heap.size + 1, 0, none⟩) signsL) ∧ Hid (wr.heap[w5.heap.size]? = some (.cells #[.string ⟨lc.toArray⟩, .int .i64 lt, .int .i64 ln, .string ⟨ls.toArray⟩] 25 (0, 0)) ∧ wr.heap[w.heap.size]? = some (.cells zeroC 27 (0, 0))) ∧ Hid (Gr w.heap.size rb w wr ∧ w6.heap.size ≤ wr.heap.size)) (fun j _ => 6 - (intOf j).toNat)
        case atStart => exact ⟨0, by omega, rfl, HX0, HR6, HS6, hK0, Lib.hid ⟨HG6.out, Nat.le_refl _⟩⟩
        case round =>
          obtain ⟨k, hk, rfl, HX, HRk, HSk, HKk, HGk⟩ := hrel
          obtain ⟨wo, rfl⟩ : ∃ wo : World, wo = wr := ⟨_, rfl⟩
          have hso := HGk.out.2
          have hgw := HGk.out.1
          by_cases hk6 : k < 6
          · have hk6' : (k : Int) < 6 := by omega
            obtain ⟨g, hg⟩ : ∃ g, signsL[k]? = some g := ⟨_, List.getElem?_eq_getElem (by simpa [signsL] using hk6)⟩
            obtain ⟨b, off, e, hb, cg⟩ := HSk.out k g hg
            injection e with e; injection e with e1 e2; subst e1 e2
            rw [Nat.zero_add] at cg
            have hd : signsL.drop k = g :: signsL.drop (k + 1) := by
              obtain ⟨h1, h2⟩ := List.getElem?_eq_some_iff.1 hg
              rw [List.drop_eq_getElem_cons h1, h2]
            obtain ⟨SA1, SA2⟩ := sign_at (i := 4 + (k : Int)) (r := r2) hd
            have MYk := Lib.hid (fun W R' => MY.out g r2 HE5.out.1.ne W R')
            have hkw : IntKind.i64.wrap (4 + (k : Int)) = 4 + (k : Int) := by rw [IntKind.wrap_i64]; omega
            clear hg hd
            cases hm : mayF g r2 with
            | none =>
              have HX2 : Hid ((match signF (signsL.drop (k + 1)) (4 + ((k + 1 : Nat) : Int)) r2 with
                | none => PR.no (headP r2) 11
                | some (op, r') => (termF r').bind fun x r'' => PR.ok (CondT.mk op [] ⟨lc, lt, ln, ls⟩ x) r'') = X) := Lib.hid (by have h := HX.out; rw [SA1 hm] at h; rw [show (4 : Int) + ((k + 1 : Nat) : Int) = 4 + (k : Int) + 1 by omega]; exact h)
              rw [(may_no hm).1, (may_no hm).2] at MYk
              clear hm SA1 SA2 hkw
              generalize (⟨g.toArray⟩ : ByteArray) = G at *
              go_wp2_with (first | (go_at_call 62; (with_reducible refine (MYk.out _ HRk.out).mono ?_); rintro e w7 ⟨rfl, hR7, hg7⟩; have hs7 := hg7.size))
              go_roundw
              case rel => exact ⟨k + 1, by omega, by go_num, HX2, Lib.hid hR7, Lib.hid (strs_gr HSk.out hg7 (fun a e => by cases e; exact hb5.2.1)), Lib.hid ⟨(hg7.block _ (by omega) hb5.1).trans HKk.out.1, (hg7.block _ (by omega) hn0.1).trans HKk.out.2⟩, Lib.hid ⟨HGk.out.1.trans hg7 (by omega), by omega⟩⟩
              case measure => first | (simp [intOf]; done) | (simp [intOf]; omega)
            | some r3 =>
              have HX2 : Hid ((termF r3).bind (fun x r'' => PR.ok (CondT.mk (4 + (k : Int)) [] ⟨lc, lt, ln, ls⟩ x) r'') = X) := Lib.hid (by have h := HX.out; rw [SA2 _ hm] at h; exact h)
              have HE6 : Hid (EndsT r3 ∧ ShortT r3) := Lib.hid ⟨may_ends hm HE5.out.1, (may_len hm).2 HE5.out.2⟩
              rw [(may_yes hm).1, (may_yes hm).2] at MYk
              clear hm SA1 SA2
              generalize (⟨g.toArray⟩ : ByteArray) = G at *
              have PT0 := fun W R' => TA.out r3 HE6.out.1.ne HE6.out.2 W R'
              go_wp2_with (first | (go_at_call 62; (with_reducible refine (MYk.out _ HRk.out).mono ?_); rintro e w7 ⟨rfl, hR7, hg7⟩; have hs7 := hg7.size))
              have HG7 : Hid (Gr w.heap.size rb w w7) := Lib.hid (hgw.trans hg7 (by omega))
              have HR7 := Lib.hid hR7
              have hk7 : w7.heap[w5.heap.size]? = some (.cells #[.string ⟨lc.toArray⟩, .int .i64 lt, .int .i64 ln, .string ⟨ls.toArray⟩] 25 (0, 0)) := (hg7.block _ (by omega) hb5.1).trans HKk.out.1
              have HZ7 : Hid (w7.heap[w.heap.size]? = some (.cells zeroC 27 (0, 0))) := Lib.hid ((hg7.block _ (by omega) hn0.1).trans HKk.out.2)
              have t0 : w7.cell? ⟨w5.heap.size, 0, none⟩ = some (.string ⟨lc.toArray⟩) := by simp [World.cell?, hk7]
              have t1 : w7.cell? ⟨w5.heap.size, 1, none⟩ = some (.int .i64 lt) := by simp [World.cell?, hk7]
              have t2 : w7.cell? ⟨w5.heap.size, 2, none⟩ = some (.int .i64 ln) := by simp [World.cell?, hk7]
              have t3 : w7.cell? ⟨w5.heap.size, 3, none⟩ = some (.string ⟨ls.toArray⟩) := by simp [World.cell?, hk7]
              clear hk7 hg7 hgw hR7
              refine wp_region_held_drew (S := fun W' => W'.cell? ⟨w5.heap.size, 0, none⟩ = some (.string ⟨lc.toArray⟩) ∧ W'.cell? ⟨w5.heap.size, 1, none⟩ = some (.int .i64 lt) ∧ W'.cell? ⟨w5.heap.size, 2, none⟩ = some (.int .i64 ln) ∧ W'.cell? ⟨w5.heap.size, 3, none⟩ = some (.string ⟨ls.toArray⟩)) (by kernel_rfl) ⟨t0, t1, t2, t3⟩ fun hS => ?_
              refine wpAnyH_take (i := 0) (v := .int .i64 (k : Int)) rfl (by kernel_rfl) (by kernel_rfl) (by kernel_rfl) (fun _ _ _ h => h) (Or.inl ⟨by rfl, fun W' hW' => (by go_simp)⟩) hS ?_
              refine wpAnyH_take (i := 1) (v := .int .i64 (4 + (k : Int))) rfl (by kernel_rfl) (by kernel_rfl) (by kernel_rfl) (fun _ _ _ h => h) (Or.inl ⟨by rfl, fun W' hW' => (by simp [go_sem, hkw])⟩) hS ?_
              refine wpAnyH_take (i := 2) (v := .agg #[.string ⟨lc.toArray⟩, .int .i64 lt, .int .i64 ln, .string ⟨ls.toArray⟩]) rfl (by kernel_rfl) (by kernel_rfl) (by kernel_rfl) (fun _ _ _ h => h) (Or.inl ⟨by rfl, fun W' hW' => (by obtain ⟨s0, s1, s2, s3⟩ := hW'; simp [go_sem, s0, s1, s2, s3])⟩) hS ?_
              refine wpAnyH_take (i := 3) (v := .pointer (some ⟨rb, 0, none⟩)) rfl (by kernel_rfl) (by kernel_rfl) (by kernel_rfl) (fun _ _ _ h => h) (Or.inl ⟨by rfl, fun W' hW' => (by go_simp)⟩) hS ?_
              refine wpAnyH_ready (rs := [4]) (by kernel_rfl) (by simp) ?_
              refine AllReadyH.cons rfl (fun K hK => ?_) AllReadyH.nil
              have HK := Lib.hid hK
              clear hK
              go_simp
              go_at_call 130
              refine (PT0 _ HR7.out.drew).mono ?_
              rintro e w8 hP
              cases hq : termF r3 with
              | no p er =>
                rw [hq] at hP
                obtain ⟨rfl, hg8⟩ := hP
                have HN : Hid (X = PR.no p er) := Lib.hid (by have h := HX2.out; rw [hq] at h; exact h.symm)
                exact ⟨rfl, HQQ.out _ _ (by rw [HN.out]; exact ⟨rfl, (Gr.drew HG7.out).trans hg8 (by simp only [drew_size]; omega)⟩)⟩
              | ok l2 r4 =>
                rw [hq] at hP
                obtain ⟨⟨V8, rfl, hV8⟩, hR8, hg8⟩ := hP
                obtain rfl := hV8
                have HN : Hid (X = PR.ok (.mk (4 + (k : Int)) [] ⟨lc, lt, ln, ls⟩ l2) r4) := Lib.hid (by have h := HX2.out; rw [hq] at h; exact h.symm)
                obtain ⟨rc, rt, rn, rs⟩ := l2
                dsimp only [termC]
                have hs8 := hg8.size
                simp only [drew_size] at hs8
                have HG8 : Hid (Gr w.heap.size rb w w8) := Lib.hid ((Gr.drew HG7.out).trans hg8 (by simp only [drew_size]; omega))
                have hz8 : w8.heap[w.heap.size]? = some (.cells zeroC 27 (0, 0)) := (hg8.block _ (by simp only [drew_size]; omega) hn0.1).trans HZ7.out
                obtain ⟨⟨z0, z1, z2, z3, z4, z5, z6, z7, z8, z9⟩, zf⟩ := ten_cells hz8
                have hb8 : w8.heap[w5.heap.size]? = w7.heap[w5.heap.size]? := (hg8.block _ (by simp only [drew_size]; omega) hb5.1)
                have e8 : ∀ o, w8.cell? ⟨w5.heap.size, o, none⟩ = w7.cell? ⟨w5.heap.size, o, none⟩ := fun o => by simp only [World.cell?, hb8]
                have u0 := (e8 0).trans t0
                have u1 := (e8 1).trans t1
                have u2 := (e8 2).trans t2
                have u3 := (e8 3).trans t3
                have HZF := Lib.hid zf
                have HR8 := Lib.hid hR8
                clear hz8 hb8 e8 hq hS zf hR8 hg8 t0 t1 t2 t3
                have f0 := HZF.out 0; have f1 := HZF.out 1; have f2 := HZF.out 2; have f3 := HZF.out 3; have f4 := HZF.out 4
                have f5 := HZF.out 5; have f6 := HZF.out 6; have f7 := HZF.out 7; have f8 := HZF.out 8; have f9 := HZF.out 9
                refine HK.out _ _ ⟨u0, u1, u2, u3⟩ fun hS8 => ?_
                clear HK K
                (try simp only [Act.put, List.setIfInBounds_toArray, List.set_cons_zero, List.set_cons_succ])
                refine wpAnyH_take (i := 5) (v := .agg #[.int .i64 (4 + (k : Int)), .slice none 0 0, .string ⟨lc.toArray⟩, .int .i64 lt, .int .i64 ln, .string ⟨ls.toArray⟩, .string ⟨rc.toArray⟩, .int .i64 rt, .int .i64 rn, .string ⟨rs.toArray⟩]) rfl (by kernel_rfl) (by kernel_rfl) (by kernel_rfl) (fun _ _ _ h => h) (Or.inl ⟨by rfl, fun W' hW' => (by go_simp)⟩) hS8 ?_
                (try simp only [Act.put, List.setIfInBounds_toArray, List.set_cons_zero, List.set_cons_succ])
                refine wpAnyH_ready (rs := [6]) (by kernel_rfl) (by simp) ?_
                refine AllReadyH.cons rfl (fun K hK => ?_) AllReadyH.nil
                have HK := Lib.hid hK
                clear hK
                go_simp
                refine HK.out _ _ (by simp [go_sem, u0, u1, u2, u3, hb5.2.2.1, hb5.2.2.2.1]) fun hS9 => ?_
                clear HK K hS9 hS8
                refine wpAnyH_done (by kernel_rfl) ?_ _
                go_wp2
                have hg8 := HG8.out
                have hR8 := HR8.out
                exact bodyPost_ret (v := .agg #[.int .i64 (4 + (k : Int)), .slice none 0 0, .string ⟨lc.toArray⟩, .int .i64 lt, .int .i64 ln, .string ⟨ls.toArray⟩, .string ⟨rc.toArray⟩, .int .i64 rt, .int .i64 rn, .string ⟨rs.toArray⟩]) (by simp [results, Tryz.results117, go_sem, *]) rfl (HQQ.out _ _ (by rw [HN.out]; exact ⟨⟨_, rfl, [.int .i64 (4 + (k : Int)), .slice none 0 0, .string ⟨lc.toArray⟩, .int .i64 lt, .int .i64 ln, .string ⟨ls.toArray⟩, .string ⟨rc.toArray⟩, .int .i64 rt, .int .i64 rn, .string ⟨rs.toArray⟩], rfl, by unfold CV; exact ⟨none, 0, rfl, ⟨Nat.le_refl _, by simp⟩, fun _ => rfl, by unfold CVL; trivial⟩⟩, (by repeat (first | (with_reducible exact hR8) | ((with_reducible refine RdR.setCell ?_ ?hq1 ?hq2 _); (case hq1 => (first | (simp; done) | (simp; omega) | omega)); (case hq2 => (first | (simp; done) | (simp; omega) | omega))) | (with_reducible refine RdR.alloc ?_ _) | (with_reducible refine RdR.drew ?_) | refine RdR.below ?_ (by assumption))), (by repeat (first | (with_reducible exact Gr.refl _ _ _) | (with_reducible assumption) | ((with_reducible refine Gr.setCell ?_ ?hq1 _); (case hq1 => (first | (right; rfl) | (left; (first | (simp; done) | (simp; omega) | omega))))) | ((with_reducible refine Gr.alloc ?_ ?hq1 _); (case hq1 => (first | (simp; done) | (simp; omega) | omega))) | (with_reducible refine Gr.drew ?_) | exact Gr.of_below (by assumption) | refine Gr.trans ?_ (by assumption) (by first | (simp; done) | (simp; omega) | omega) | refine Gr.below ?_ (by assumption) (by first | (simp; done) | (simp; omega) | omega)))⟩))
          · obtain rfl : k = 6 := by omega
            have hk6' : ¬ ((6 : Nat) : Int) < 6 := by omega
            have hk7' : ¬ (6 : Int) < 6 := by omega
            have hne := HE5.out.1.ne
            cases r2 with
            | nil => exact absurd rfl hne
            | cons t2 r3 =>
            have HN : Hid (X = PR.no t2.p 11) := Lib.hid HX.out.symm
            have FL := Lib.hid (fun W R' => fail_any rb gt t2 r3 11 W R')
            clear HX hne
            go_wp2_with (first | (go_at_call 64; (with_reducible refine (FL.out _ HRk.out).mono ?_); rintro e w7 ⟨rfl, hb7⟩))
            exact ⟨rfl, HQQ.out _ _ (by rw [HN.out]; exact ⟨rfl, hgw.below hb7 hgw.size⟩)⟩
theorem cond_ok (rb gt : Nat) : ∀ f, CondOk rb gt f
  | 0 => ⟨fun r w h => by omega, fun r w h => by omega, fun r w h => by omega⟩
  | f + 1 => ⟨fun r w h R hE hS => or_step rb gt f (cond_ok rb gt f) r w h R hE hS, fun r w h R hE hS => and_step rb gt f (cond_ok rb gt f) r w h R hE hS, fun r w h R hE hS => not_step rb gt f (cond_ok rb gt f) r w h R hE hS⟩
end Go.Proofs.YtijlifdbjhieaaaGreatDoor
