/-
  Contracts of the reader's or, and, sum, term. (Printed by tools/mkdk3.py.)
-/
import Derived.Test.YtnjlggleaocbdaaGreatDoorDk2
namespace Go.Proofs.YtnjlggleaocbdaaGreatDoor
set_option linter.all false
open Go.RowKit Go.Shelf
attribute [local go_sem] cell_set_self lt_1 lt_2 lt_3 lt_4 lt_5 lt_6 fld_k fld_s fld_n fld_p

theorem heap_alloc_at {W : World} {o : Obj} {k : Nat} (h : W.heap.size = k) : (W.alloc o).heap[k]? = some o := by subst h; exact heap_alloc_new W o
theorem ok_takes {α : Type} (a : α) : Takes (fun r => PR.ok a r) := fun ts b r h => by injection h with h1 h2; subst h2; exact ⟨Nat.le_refl _, id, id⟩
theorem loop_takes {part : List Tok → PR ExprT} (hp : Takes part) (ops : List Int) : ∀ (n : Nat) (c : ExprT), Takes (loopF part ops n c)
  | n, c => fun ts a r h => by
    cases hm : oneF (ops.map signX) 0 ts with
    | none =>
      rw [loop_no hm] at h
      exact ok_takes c ts a r h
    | some y =>
      obtain ⟨i, r1⟩ := y
      cases n with
      | zero => rw [loopF.eq_def] at h; simp only [hm] at h; cases h
      | succ n =>
        rw [loop_yes hm] at h
        have t1 := (one_take _ _ _ _ _ hm).2
        have t2 := bind_takes hp (fun d => loop_takes hp ops n (.mk (ops.getD i 0) 0 [] [c, d])) r1 a r h
        exact ⟨by omega, fun k => t2.2.1 (t1.2.1 k), fun k => t2.2.2 (t1.2.2 k)⟩
/-- Behind a text that is taken. -/
theorem may_takes {α : Type} {f : List Tok → PR α} (hf : Takes f) {s : List UInt8} {ts r1 : List Tok} (hm : mayF s ts = some r1) {a : α} {r : List Tok} (h : f r1 = .ok a r) : r.length ≤ ts.length ∧ (EndsT ts → EndsT r) ∧ (ShortT ts → ShortT r) := by
  have t1 := may_len hm
  have t2 := hf r1 a r h
  exact ⟨by omega, fun k => t2.2.1 (may_ends hm k), fun k => t2.2.2 (t1.2 k)⟩
theorem expr_takes : ∀ (f lvl : Nat), Takes (exprF f lvl)
  | 0, lvl => fun ts a r h => by rw [exprF.eq_def] at h; cases h
  | f + 1, 0 => bind_takes (expr_takes f 1) fun c ts a r h => loop_takes (expr_takes f 1) opsOr ts.length c ts a r h
  | f + 1, 1 => bind_takes (expr_takes f 2) fun c ts a r h => loop_takes (expr_takes f 2) opsAnd ts.length c ts a r h
  | f + 1, 2 => fun ts a r h => by
    rw [exprF] at h
    cases hm : mayF wNot ts with
    | some r1 =>
      simp only [hm] at h
      exact may_takes (bind_takes (expr_takes f 2) (fun c => ok_takes (ExprT.mk 8 0 [] [c]))) hm h
    | none =>
      simp only [hm] at h
      refine bind_takes (expr_takes f 3) (fun c ts a r h => ?_) ts a r h
      cases ho : oneF (opsCmp.map signX) 0 ts with
      | none => simp only [ho] at h; exact ok_takes c ts a r h
      | some y =>
        obtain ⟨i, r1⟩ := y
        simp only [ho] at h
        have t1 := (one_take _ _ _ _ _ ho).2
        have t2 := bind_takes (expr_takes f 3) (fun d => ok_takes (ExprT.mk (opsCmp.getD i 0) 0 [] [c, d])) r1 a r h
        exact ⟨by omega, fun k => t2.2.1 (t1.2.1 k), fun k => t2.2.2 (t1.2.2 k)⟩
  | f + 1, 3 => bind_takes (expr_takes f 4) fun c ts a r h => loop_takes (expr_takes f 4) opsSum ts.length c ts a r h
  | f + 1, 4 => bind_takes (expr_takes f 5) fun c ts a r h => loop_takes (expr_takes f 5) opsTerm ts.length c ts a r h
  | f + 1, lvl + 5 => fun ts a r h => by
    rw [exprF.eq_def] at h
    simp only at h
    cases h1 : mayF [45] ts with
    | some r1 => simp only [h1] at h; exact may_takes (bind_takes (expr_takes f 5) (fun c => ok_takes (ExprT.mk 20 0 [] [c]))) h1 h
    | none =>
      simp only [h1] at h
      cases h2 : mayF [40] ts with
      | some r1 => simp only [h2] at h; exact may_takes (bind_takes (expr_takes f 0) (fun c => bind_takes (must_takes [41]) (fun _ => ok_takes c))) h2 h
      | none =>
        simp only [h2] at h
        cases h3 : mayF wKnown ts with
        | some r1 => simp only [h3] at h; exact may_takes (bind_takes nm_takes (fun s => ok_takes (ExprT.mk 5 0 s []))) h3 h
        | none =>
          simp only [h3] at h
          cases h4 : mayF wTrue ts with
          | some r1 => simp only [h4] at h; exact may_takes (ok_takes (ExprT.mk 3 1 [] [])) h4 h
          | none =>
            simp only [h4] at h
            cases h5 : mayF wFalse ts with
            | some r1 => simp only [h5] at h; exact may_takes (ok_takes (ExprT.mk 3 0 [] [])) h5 h
            | none =>
              simp only [h5] at h
              cases ts with
              | nil => cases h
              | cons t r0 =>
                simp only at h
                split at h
                · rename_i hk
                  injection h with e1 e2; subst e2
                  exact ⟨by simp, fun hE => hE.tail (by omega), fun hS => hS.tail⟩
                · split at h
                  · rename_i hk
                    injection h with e1 e2; subst e2
                    exact ⟨by simp, fun hE => hE.tail (by omega), fun hS => hS.tail⟩
                  · exact bind_takes nm_takes (fun s => ok_takes (ExprT.mk 4 0 s [])) (t :: r0) a r h
/-- What is asked of the six, with fuel f. -/
def ExprOk (rb gt f : Nat) : Prop :=
  (∀ r w, 6 * r.length + 6 ≤ f + 0 → RdR w rb gt r → EndsT r → ShortT r → Calls Tryz.prog 50 #[.pointer (some ⟨rb, 0, none⟩)] w (POut rb gt w (encE w) (exprF f 0 r))) ∧
  (∀ r w, 6 * r.length + 6 ≤ f + 1 → RdR w rb gt r → EndsT r → ShortT r → Calls Tryz.prog 69 #[.pointer (some ⟨rb, 0, none⟩)] w (POut rb gt w (encE w) (exprF f 1 r))) ∧
  (∀ r w, 6 * r.length + 6 ≤ f + 2 → RdR w rb gt r → EndsT r → ShortT r → Calls Tryz.prog 84 #[.pointer (some ⟨rb, 0, none⟩)] w (POut rb gt w (encE w) (exprF f 2 r))) ∧
  (∀ r w, 6 * r.length + 6 ≤ f + 3 → RdR w rb gt r → EndsT r → ShortT r → Calls Tryz.prog 97 #[.pointer (some ⟨rb, 0, none⟩)] w (POut rb gt w (encE w) (exprF f 3 r))) ∧
  (∀ r w, 6 * r.length + 6 ≤ f + 4 → RdR w rb gt r → EndsT r → ShortT r → Calls Tryz.prog 115 #[.pointer (some ⟨rb, 0, none⟩)] w (POut rb gt w (encE w) (exprF f 4 r))) ∧
  (∀ r w, 6 * r.length + 6 ≤ f + 5 → RdR w rb gt r → EndsT r → ShortT r → Calls Tryz.prog 125 #[.pointer (some ⟨rb, 0, none⟩)] w (POut rb gt w (encE w) (exprF f 5 r)))
theorem ops_cells (W : World) (ops : List Int) (t : TypeId) (cs : Array Value) (hcs : (ops.map fun x => Value.int .i64 x).toArray = cs) (k : Nat) (x : Int) (h : ops[k]? = some x) : (W.alloc (.cells cs t)).cell? ⟨W.heap.size, k, none⟩ = some (.int .i64 x) := by
  have hn := heap_alloc_new W (.cells cs t)
  generalize W.alloc (.cells cs t) = V at *
  subst hcs
  simp [World.cell?, hn, h]
theorem all_bin {ops : List Int} (h : ops.all Pl.binB = true) (k : Nat) (x : Int) (hk : ops[k]? = some x) : Pl.binB x = true := List.all_eq_true.1 h x (List.mem_of_getElem? hk)
set_option maxHeartbeats 8000000 in
set_option maxRecDepth 100000 in
theorem or_step (rb gt f : Nat) (ih : ExprOk rb gt f) (r : List Tok) (w : World) (hf : 6 * r.length + 6 ≤ f + 1 + 0) (R : RdR w rb gt r) (hE : EndsT r) (hS : ShortT r) :
    Calls Tryz.prog 50 #[.pointer (some ⟨rb, 0, none⟩)] w (POut rb gt w (encE w) (exprF (f + 1) 0 r)) := by
  suffices key : ∀ Q : Ending → World → Prop, Hid (∀ e w', POut rb gt w (encE w) (exprF (f + 1) 0 r) e w' → Q e w') → Calls Tryz.prog 50 #[.pointer (some ⟨rb, 0, none⟩)] w Q from key _ (Lib.hid fun _ _ h => h)
  intro Q HQQ
  obtain ⟨hrb, hgt, -⟩ := R.lens
  have hb1 : (w.alloc (.cells zeroE 24)).heap.size = w.heap.size + 1 := by simp
  have TW0 := two_any 69 rb gt opsOr 1 (w.alloc (.cells zeroE 24)).heap.size rfl (by omega) (all_bin (by decide)) (enters_of Tryz.func69 (by kernel_rfl) rfl) (exprF f 1) (expr_takes f 1) r ((w.alloc (.cells zeroE 24)).alloc (.cells #[.int .i64 6] 3)) ((R.alloc _).alloc _) hE hS ⟨by simp, by omega⟩ (fun k x h => ops_cells (w.alloc (.cells zeroE 24)) opsOr 3 #[.int .i64 6] rfl k x h) (fun r' W hE' hS' hl R' => ih.2.1 r' W (by omega) R' hE' hS')
  have hn0 : ¬ w.heap.size = rb ∧ ¬ rb = w.heap.size ∧ ¬ w.heap.size = gt := by omega
  have hc : exprF (f + 1) 0 r = (exprF f 1 r).bind fun c r => loopF (exprF f 1) opsOr r.length c r := rfl
  rw [hc] at HQQ
  generalize (exprF f 1 r).bind (fun c r => loopF (exprF f 1) opsOr r.length c r) = X at *
  rw [hb1] at TW0
  have TW := Lib.hid TW0
  clear TW0 hc ih hE hS R hf
  unfold zeroE at TW
  go_enter Tryz.func50, Tryz.ntmps50
  go_wp2_with (fail)
  go_at_call 68
  refine TW.out.mono ?_
  rintro e w5 hP
  have hgg : Gr w.heap.size rb w (((w.alloc (.cells #[.int .i64 0, .int .i64 0, .string ⟨#[]⟩, .slice none 0 0] 24)).alloc (.cells #[.int .i64 6] 3))) := ((Gr.refl _ _ _).alloc (Nat.le_refl _) _).alloc (by simp) _
  have hsg : (((w.alloc (.cells #[.int .i64 0, .int .i64 0, .string ⟨#[]⟩, .slice none 0 0] 24)).alloc (.cells #[.int .i64 6] 3))).heap.size = w.heap.size + 1 + 1 := by simp
  have hzg : (((w.alloc (.cells #[.int .i64 0, .int .i64 0, .string ⟨#[]⟩, .slice none 0 0] 24)).alloc (.cells #[.int .i64 6] 3))).heap[w.heap.size]? = some (.cells zeroE 24) := ((Below.refl (w.alloc (.cells zeroE 24)).heap.size (w.alloc (.cells zeroE 24))).alloc (Nat.le_refl _) _).block _ (by simp) |>.trans (heap_alloc_new w _)
  generalize ((w.alloc (.cells #[.int .i64 0, .int .i64 0, .string ⟨#[]⟩, .slice none 0 0] 24)).alloc (.cells #[.int .i64 6] 3)) = V2 at *
  cases X with
  | no p er =>
    obtain ⟨rfl, hg5⟩ := hP
    go_wp2
    exact ⟨rfl, HQQ.out _ _ ⟨rfl, hgg.trans hg5 (by omega)⟩⟩
  | ok c r5 =>
    obtain ⟨A4, cc, rfl, hv5, hR5, hg5⟩ := pout_ok hP
    clear hP TW
    obtain ⟨op, nn, ss, args⟩ := c
    dsimp only [exprC, ExprT.op, ExprT.n, ExprT.s, ExprT.args, List.cons_append, List.nil_append] at hv5 ⊢
    have hs5 := hg5.size
    have hz8 : w5.heap[w.heap.size]? = some (.cells zeroE 24) := (hg5.block _ (by omega) hn0.1).trans hzg
    obtain ⟨⟨z0, z1, z2, z3⟩, zf⟩ := four_cells hz8
    clear hz8 hzg
    have hg5' : Gr w.heap.size rb w w5 := hgg.trans hg5 (by omega)
    clear hgg hg5
    go_wp2
    have hR5' := hR5.out
    exact bodyPost_ret (v := .agg #[.int .i64 op, .int .i64 nn, .string ⟨ss.toArray⟩, .slice A4 args.length cc]) (by simp [results, Tryz.results50, go_sem, *]) rfl (HQQ.out _ _ ⟨⟨_, rfl, _, rfl, (hv5.out.keep (by repeat (first | (with_reducible exact Kp.refl _ _) | (with_reducible assumption) | ((with_reducible refine Kp.set ?_ ?hq1 _); (case hq1 => (first | (simp; done) | (simp; omega) | (dsimp only; omega)))) | (with_reducible refine Kp.alloc ?_ _) | (with_reducible refine Kp.drew ?_) | refine Kp.trans ?_ (Kp.gr (by assumption) (by first | (simp; done) | (simp; omega) | (dsimp only; omega)))))).mono (fun b h1 h2 => by (try dsimp only at h2 ⊢); omega)⟩, (by repeat (first | (with_reducible exact hR5') | ((with_reducible refine RdR.setCell ?_ ?hq1 ?hq2 _); (case hq1 => (first | (simp; done) | (simp; omega) | omega)); (case hq2 => (first | (simp; done) | (simp; omega) | omega))) | (with_reducible refine RdR.alloc ?_ _) | (with_reducible refine RdR.drew ?_) | refine RdR.below ?_ (by assumption))), (by repeat (first | (with_reducible exact Gr.refl _ _ _) | (with_reducible assumption) | ((with_reducible refine Gr.setCell ?_ ?hq1 _); (case hq1 => (first | (right; rfl) | (left; (first | (simp; done) | (simp; omega) | omega))))) | ((with_reducible refine Gr.alloc ?_ ?hq1 _); (case hq1 => (first | (simp; done) | (simp; omega) | omega))) | (with_reducible refine Gr.drew ?_) | exact Gr.of_below (by assumption) | refine Gr.trans ?_ (by assumption) (by first | (simp; done) | (simp; omega) | omega) | refine Gr.below ?_ (by assumption) (by first | (simp; done) | (simp; omega) | omega)))⟩)
set_option maxHeartbeats 8000000 in
set_option maxRecDepth 100000 in
theorem and_step (rb gt f : Nat) (ih : ExprOk rb gt f) (r : List Tok) (w : World) (hf : 6 * r.length + 6 ≤ f + 1 + 1) (R : RdR w rb gt r) (hE : EndsT r) (hS : ShortT r) :
    Calls Tryz.prog 69 #[.pointer (some ⟨rb, 0, none⟩)] w (POut rb gt w (encE w) (exprF (f + 1) 1 r)) := by
  suffices key : ∀ Q : Ending → World → Prop, Hid (∀ e w', POut rb gt w (encE w) (exprF (f + 1) 1 r) e w' → Q e w') → Calls Tryz.prog 69 #[.pointer (some ⟨rb, 0, none⟩)] w Q from key _ (Lib.hid fun _ _ h => h)
  intro Q HQQ
  obtain ⟨hrb, hgt, -⟩ := R.lens
  have hb1 : (w.alloc (.cells zeroE 24)).heap.size = w.heap.size + 1 := by simp
  have TW0 := two_any 84 rb gt opsAnd 1 (w.alloc (.cells zeroE 24)).heap.size rfl (by omega) (all_bin (by decide)) (enters_of Tryz.func84 (by kernel_rfl) rfl) (exprF f 2) (expr_takes f 2) r ((w.alloc (.cells zeroE 24)).alloc (.cells #[.int .i64 7] 3)) ((R.alloc _).alloc _) hE hS ⟨by simp, by omega⟩ (fun k x h => ops_cells (w.alloc (.cells zeroE 24)) opsAnd 3 #[.int .i64 7] rfl k x h) (fun r' W hE' hS' hl R' => ih.2.2.1 r' W (by omega) R' hE' hS')
  have hn0 : ¬ w.heap.size = rb ∧ ¬ rb = w.heap.size ∧ ¬ w.heap.size = gt := by omega
  have hc : exprF (f + 1) 1 r = (exprF f 2 r).bind fun c r => loopF (exprF f 2) opsAnd r.length c r := rfl
  rw [hc] at HQQ
  generalize (exprF f 2 r).bind (fun c r => loopF (exprF f 2) opsAnd r.length c r) = X at *
  rw [hb1] at TW0
  have TW := Lib.hid TW0
  clear TW0 hc ih hE hS R hf
  unfold zeroE at TW
  go_enter Tryz.func69, Tryz.ntmps69
  go_wp2_with (fail)
  go_at_call 68
  refine TW.out.mono ?_
  rintro e w5 hP
  have hgg : Gr w.heap.size rb w (((w.alloc (.cells #[.int .i64 0, .int .i64 0, .string ⟨#[]⟩, .slice none 0 0] 24)).alloc (.cells #[.int .i64 7] 3))) := ((Gr.refl _ _ _).alloc (Nat.le_refl _) _).alloc (by simp) _
  have hsg : (((w.alloc (.cells #[.int .i64 0, .int .i64 0, .string ⟨#[]⟩, .slice none 0 0] 24)).alloc (.cells #[.int .i64 7] 3))).heap.size = w.heap.size + 1 + 1 := by simp
  have hzg : (((w.alloc (.cells #[.int .i64 0, .int .i64 0, .string ⟨#[]⟩, .slice none 0 0] 24)).alloc (.cells #[.int .i64 7] 3))).heap[w.heap.size]? = some (.cells zeroE 24) := ((Below.refl (w.alloc (.cells zeroE 24)).heap.size (w.alloc (.cells zeroE 24))).alloc (Nat.le_refl _) _).block _ (by simp) |>.trans (heap_alloc_new w _)
  generalize ((w.alloc (.cells #[.int .i64 0, .int .i64 0, .string ⟨#[]⟩, .slice none 0 0] 24)).alloc (.cells #[.int .i64 7] 3)) = V2 at *
  cases X with
  | no p er =>
    obtain ⟨rfl, hg5⟩ := hP
    go_wp2
    exact ⟨rfl, HQQ.out _ _ ⟨rfl, hgg.trans hg5 (by omega)⟩⟩
  | ok c r5 =>
    obtain ⟨A4, cc, rfl, hv5, hR5, hg5⟩ := pout_ok hP
    clear hP TW
    obtain ⟨op, nn, ss, args⟩ := c
    dsimp only [exprC, ExprT.op, ExprT.n, ExprT.s, ExprT.args, List.cons_append, List.nil_append] at hv5 ⊢
    have hs5 := hg5.size
    have hz8 : w5.heap[w.heap.size]? = some (.cells zeroE 24) := (hg5.block _ (by omega) hn0.1).trans hzg
    obtain ⟨⟨z0, z1, z2, z3⟩, zf⟩ := four_cells hz8
    clear hz8 hzg
    have hg5' : Gr w.heap.size rb w w5 := hgg.trans hg5 (by omega)
    clear hgg hg5
    go_wp2
    have hR5' := hR5.out
    exact bodyPost_ret (v := .agg #[.int .i64 op, .int .i64 nn, .string ⟨ss.toArray⟩, .slice A4 args.length cc]) (by simp [results, Tryz.results69, go_sem, *]) rfl (HQQ.out _ _ ⟨⟨_, rfl, _, rfl, (hv5.out.keep (by repeat (first | (with_reducible exact Kp.refl _ _) | (with_reducible assumption) | ((with_reducible refine Kp.set ?_ ?hq1 _); (case hq1 => (first | (simp; done) | (simp; omega) | (dsimp only; omega)))) | (with_reducible refine Kp.alloc ?_ _) | (with_reducible refine Kp.drew ?_) | refine Kp.trans ?_ (Kp.gr (by assumption) (by first | (simp; done) | (simp; omega) | (dsimp only; omega)))))).mono (fun b h1 h2 => by (try dsimp only at h2 ⊢); omega)⟩, (by repeat (first | (with_reducible exact hR5') | ((with_reducible refine RdR.setCell ?_ ?hq1 ?hq2 _); (case hq1 => (first | (simp; done) | (simp; omega) | omega)); (case hq2 => (first | (simp; done) | (simp; omega) | omega))) | (with_reducible refine RdR.alloc ?_ _) | (with_reducible refine RdR.drew ?_) | refine RdR.below ?_ (by assumption))), (by repeat (first | (with_reducible exact Gr.refl _ _ _) | (with_reducible assumption) | ((with_reducible refine Gr.setCell ?_ ?hq1 _); (case hq1 => (first | (right; rfl) | (left; (first | (simp; done) | (simp; omega) | omega))))) | ((with_reducible refine Gr.alloc ?_ ?hq1 _); (case hq1 => (first | (simp; done) | (simp; omega) | omega))) | (with_reducible refine Gr.drew ?_) | exact Gr.of_below (by assumption) | refine Gr.trans ?_ (by assumption) (by first | (simp; done) | (simp; omega) | omega) | refine Gr.below ?_ (by assumption) (by first | (simp; done) | (simp; omega) | omega)))⟩)
set_option maxHeartbeats 8000000 in
set_option maxRecDepth 100000 in
theorem sum_step (rb gt f : Nat) (ih : ExprOk rb gt f) (r : List Tok) (w : World) (hf : 6 * r.length + 6 ≤ f + 1 + 3) (R : RdR w rb gt r) (hE : EndsT r) (hS : ShortT r) :
    Calls Tryz.prog 97 #[.pointer (some ⟨rb, 0, none⟩)] w (POut rb gt w (encE w) (exprF (f + 1) 3 r)) := by
  suffices key : ∀ Q : Ending → World → Prop, Hid (∀ e w', POut rb gt w (encE w) (exprF (f + 1) 3 r) e w' → Q e w') → Calls Tryz.prog 97 #[.pointer (some ⟨rb, 0, none⟩)] w Q from key _ (Lib.hid fun _ _ h => h)
  intro Q HQQ
  obtain ⟨hrb, hgt, -⟩ := R.lens
  have hb1 : (w.alloc (.cells zeroE 24)).heap.size = w.heap.size + 1 := by simp
  have TW0 := two_any 115 rb gt opsSum 2 (w.alloc (.cells zeroE 24)).heap.size rfl (by omega) (all_bin (by decide)) (enters_of Tryz.func115 (by kernel_rfl) rfl) (exprF f 4) (expr_takes f 4) r ((w.alloc (.cells zeroE 24)).alloc (.cells #[.int .i64 15, .int .i64 16] 3)) ((R.alloc _).alloc _) hE hS ⟨by simp, by omega⟩ (fun k x h => ops_cells (w.alloc (.cells zeroE 24)) opsSum 3 #[.int .i64 15, .int .i64 16] rfl k x h) (fun r' W hE' hS' hl R' => ih.2.2.2.2.1 r' W (by omega) R' hE' hS')
  have hn0 : ¬ w.heap.size = rb ∧ ¬ rb = w.heap.size ∧ ¬ w.heap.size = gt := by omega
  have hc : exprF (f + 1) 3 r = (exprF f 4 r).bind fun c r => loopF (exprF f 4) opsSum r.length c r := rfl
  rw [hc] at HQQ
  generalize (exprF f 4 r).bind (fun c r => loopF (exprF f 4) opsSum r.length c r) = X at *
  rw [hb1] at TW0
  have TW := Lib.hid TW0
  clear TW0 hc ih hE hS R hf
  unfold zeroE at TW
  go_enter Tryz.func97, Tryz.ntmps97
  go_wp2_with (fail)
  go_at_call 68
  refine TW.out.mono ?_
  rintro e w5 hP
  have hgg : Gr w.heap.size rb w (((w.alloc (.cells #[.int .i64 0, .int .i64 0, .string ⟨#[]⟩, .slice none 0 0] 24)).alloc (.cells #[.int .i64 15, .int .i64 16] 3))) := ((Gr.refl _ _ _).alloc (Nat.le_refl _) _).alloc (by simp) _
  have hsg : (((w.alloc (.cells #[.int .i64 0, .int .i64 0, .string ⟨#[]⟩, .slice none 0 0] 24)).alloc (.cells #[.int .i64 15, .int .i64 16] 3))).heap.size = w.heap.size + 1 + 1 := by simp
  have hzg : (((w.alloc (.cells #[.int .i64 0, .int .i64 0, .string ⟨#[]⟩, .slice none 0 0] 24)).alloc (.cells #[.int .i64 15, .int .i64 16] 3))).heap[w.heap.size]? = some (.cells zeroE 24) := ((Below.refl (w.alloc (.cells zeroE 24)).heap.size (w.alloc (.cells zeroE 24))).alloc (Nat.le_refl _) _).block _ (by simp) |>.trans (heap_alloc_new w _)
  generalize ((w.alloc (.cells #[.int .i64 0, .int .i64 0, .string ⟨#[]⟩, .slice none 0 0] 24)).alloc (.cells #[.int .i64 15, .int .i64 16] 3)) = V2 at *
  cases X with
  | no p er =>
    obtain ⟨rfl, hg5⟩ := hP
    go_wp2
    exact ⟨rfl, HQQ.out _ _ ⟨rfl, hgg.trans hg5 (by omega)⟩⟩
  | ok c r5 =>
    obtain ⟨A4, cc, rfl, hv5, hR5, hg5⟩ := pout_ok hP
    clear hP TW
    obtain ⟨op, nn, ss, args⟩ := c
    dsimp only [exprC, ExprT.op, ExprT.n, ExprT.s, ExprT.args, List.cons_append, List.nil_append] at hv5 ⊢
    have hs5 := hg5.size
    have hz8 : w5.heap[w.heap.size]? = some (.cells zeroE 24) := (hg5.block _ (by omega) hn0.1).trans hzg
    obtain ⟨⟨z0, z1, z2, z3⟩, zf⟩ := four_cells hz8
    clear hz8 hzg
    have hg5' : Gr w.heap.size rb w w5 := hgg.trans hg5 (by omega)
    clear hgg hg5
    go_wp2
    have hR5' := hR5.out
    exact bodyPost_ret (v := .agg #[.int .i64 op, .int .i64 nn, .string ⟨ss.toArray⟩, .slice A4 args.length cc]) (by simp [results, Tryz.results97, go_sem, *]) rfl (HQQ.out _ _ ⟨⟨_, rfl, _, rfl, (hv5.out.keep (by repeat (first | (with_reducible exact Kp.refl _ _) | (with_reducible assumption) | ((with_reducible refine Kp.set ?_ ?hq1 _); (case hq1 => (first | (simp; done) | (simp; omega) | (dsimp only; omega)))) | (with_reducible refine Kp.alloc ?_ _) | (with_reducible refine Kp.drew ?_) | refine Kp.trans ?_ (Kp.gr (by assumption) (by first | (simp; done) | (simp; omega) | (dsimp only; omega)))))).mono (fun b h1 h2 => by (try dsimp only at h2 ⊢); omega)⟩, (by repeat (first | (with_reducible exact hR5') | ((with_reducible refine RdR.setCell ?_ ?hq1 ?hq2 _); (case hq1 => (first | (simp; done) | (simp; omega) | omega)); (case hq2 => (first | (simp; done) | (simp; omega) | omega))) | (with_reducible refine RdR.alloc ?_ _) | (with_reducible refine RdR.drew ?_) | refine RdR.below ?_ (by assumption))), (by repeat (first | (with_reducible exact Gr.refl _ _ _) | (with_reducible assumption) | ((with_reducible refine Gr.setCell ?_ ?hq1 _); (case hq1 => (first | (right; rfl) | (left; (first | (simp; done) | (simp; omega) | omega))))) | ((with_reducible refine Gr.alloc ?_ ?hq1 _); (case hq1 => (first | (simp; done) | (simp; omega) | omega))) | (with_reducible refine Gr.drew ?_) | exact Gr.of_below (by assumption) | refine Gr.trans ?_ (by assumption) (by first | (simp; done) | (simp; omega) | omega) | refine Gr.below ?_ (by assumption) (by first | (simp; done) | (simp; omega) | omega)))⟩)
set_option maxHeartbeats 8000000 in
set_option maxRecDepth 100000 in
theorem term_step (rb gt f : Nat) (ih : ExprOk rb gt f) (r : List Tok) (w : World) (hf : 6 * r.length + 6 ≤ f + 1 + 4) (R : RdR w rb gt r) (hE : EndsT r) (hS : ShortT r) :
    Calls Tryz.prog 115 #[.pointer (some ⟨rb, 0, none⟩)] w (POut rb gt w (encE w) (exprF (f + 1) 4 r)) := by
  suffices key : ∀ Q : Ending → World → Prop, Hid (∀ e w', POut rb gt w (encE w) (exprF (f + 1) 4 r) e w' → Q e w') → Calls Tryz.prog 115 #[.pointer (some ⟨rb, 0, none⟩)] w Q from key _ (Lib.hid fun _ _ h => h)
  intro Q HQQ
  obtain ⟨hrb, hgt, -⟩ := R.lens
  have hb1 : (w.alloc (.cells zeroE 24)).heap.size = w.heap.size + 1 := by simp
  have TW0 := two_any 125 rb gt opsTerm 3 (w.alloc (.cells zeroE 24)).heap.size rfl (by omega) (all_bin (by decide)) (enters_of Tryz.func125 (by kernel_rfl) rfl) (exprF f 5) (expr_takes f 5) r ((w.alloc (.cells zeroE 24)).alloc (.cells #[.int .i64 17, .int .i64 18, .int .i64 19] 3)) ((R.alloc _).alloc _) hE hS ⟨by simp, by omega⟩ (fun k x h => ops_cells (w.alloc (.cells zeroE 24)) opsTerm 3 #[.int .i64 17, .int .i64 18, .int .i64 19] rfl k x h) (fun r' W hE' hS' hl R' => ih.2.2.2.2.2 r' W (by omega) R' hE' hS')
  have hn0 : ¬ w.heap.size = rb ∧ ¬ rb = w.heap.size ∧ ¬ w.heap.size = gt := by omega
  have hc : exprF (f + 1) 4 r = (exprF f 5 r).bind fun c r => loopF (exprF f 5) opsTerm r.length c r := rfl
  rw [hc] at HQQ
  generalize (exprF f 5 r).bind (fun c r => loopF (exprF f 5) opsTerm r.length c r) = X at *
  rw [hb1] at TW0
  have TW := Lib.hid TW0
  clear TW0 hc ih hE hS R hf
  unfold zeroE at TW
  go_enter Tryz.func115, Tryz.ntmps115
  go_wp2_with (fail)
  go_at_call 68
  refine TW.out.mono ?_
  rintro e w5 hP
  have hgg : Gr w.heap.size rb w (((w.alloc (.cells #[.int .i64 0, .int .i64 0, .string ⟨#[]⟩, .slice none 0 0] 24)).alloc (.cells #[.int .i64 17, .int .i64 18, .int .i64 19] 3))) := ((Gr.refl _ _ _).alloc (Nat.le_refl _) _).alloc (by simp) _
  have hsg : (((w.alloc (.cells #[.int .i64 0, .int .i64 0, .string ⟨#[]⟩, .slice none 0 0] 24)).alloc (.cells #[.int .i64 17, .int .i64 18, .int .i64 19] 3))).heap.size = w.heap.size + 1 + 1 := by simp
  have hzg : (((w.alloc (.cells #[.int .i64 0, .int .i64 0, .string ⟨#[]⟩, .slice none 0 0] 24)).alloc (.cells #[.int .i64 17, .int .i64 18, .int .i64 19] 3))).heap[w.heap.size]? = some (.cells zeroE 24) := ((Below.refl (w.alloc (.cells zeroE 24)).heap.size (w.alloc (.cells zeroE 24))).alloc (Nat.le_refl _) _).block _ (by simp) |>.trans (heap_alloc_new w _)
  generalize ((w.alloc (.cells #[.int .i64 0, .int .i64 0, .string ⟨#[]⟩, .slice none 0 0] 24)).alloc (.cells #[.int .i64 17, .int .i64 18, .int .i64 19] 3)) = V2 at *
  cases X with
  | no p er =>
    obtain ⟨rfl, hg5⟩ := hP
    go_wp2
    exact ⟨rfl, HQQ.out _ _ ⟨rfl, hgg.trans hg5 (by omega)⟩⟩
  | ok c r5 =>
    obtain ⟨A4, cc, rfl, hv5, hR5, hg5⟩ := pout_ok hP
    clear hP TW
    obtain ⟨op, nn, ss, args⟩ := c
    dsimp only [exprC, ExprT.op, ExprT.n, ExprT.s, ExprT.args, List.cons_append, List.nil_append] at hv5 ⊢
    have hs5 := hg5.size
    have hz8 : w5.heap[w.heap.size]? = some (.cells zeroE 24) := (hg5.block _ (by omega) hn0.1).trans hzg
    obtain ⟨⟨z0, z1, z2, z3⟩, zf⟩ := four_cells hz8
    clear hz8 hzg
    have hg5' : Gr w.heap.size rb w w5 := hgg.trans hg5 (by omega)
    clear hgg hg5
    go_wp2
    have hR5' := hR5.out
    exact bodyPost_ret (v := .agg #[.int .i64 op, .int .i64 nn, .string ⟨ss.toArray⟩, .slice A4 args.length cc]) (by simp [results, Tryz.results115, go_sem, *]) rfl (HQQ.out _ _ ⟨⟨_, rfl, _, rfl, (hv5.out.keep (by repeat (first | (with_reducible exact Kp.refl _ _) | (with_reducible assumption) | ((with_reducible refine Kp.set ?_ ?hq1 _); (case hq1 => (first | (simp; done) | (simp; omega) | (dsimp only; omega)))) | (with_reducible refine Kp.alloc ?_ _) | (with_reducible refine Kp.drew ?_) | refine Kp.trans ?_ (Kp.gr (by assumption) (by first | (simp; done) | (simp; omega) | (dsimp only; omega)))))).mono (fun b h1 h2 => by (try dsimp only at h2 ⊢); omega)⟩, (by repeat (first | (with_reducible exact hR5') | ((with_reducible refine RdR.setCell ?_ ?hq1 ?hq2 _); (case hq1 => (first | (simp; done) | (simp; omega) | omega)); (case hq2 => (first | (simp; done) | (simp; omega) | omega))) | (with_reducible refine RdR.alloc ?_ _) | (with_reducible refine RdR.drew ?_) | refine RdR.below ?_ (by assumption))), (by repeat (first | (with_reducible exact Gr.refl _ _ _) | (with_reducible assumption) | ((with_reducible refine Gr.setCell ?_ ?hq1 _); (case hq1 => (first | (right; rfl) | (left; (first | (simp; done) | (simp; omega) | omega))))) | ((with_reducible refine Gr.alloc ?_ ?hq1 _); (case hq1 => (first | (simp; done) | (simp; omega) | omega))) | (with_reducible refine Gr.drew ?_) | exact Gr.of_below (by assumption) | refine Gr.trans ?_ (by assumption) (by first | (simp; done) | (simp; omega) | omega) | refine Gr.below ?_ (by assumption) (by first | (simp; done) | (simp; omega) | omega)))⟩)
end Go.Proofs.YtnjlggleaocbdaaGreatDoor
