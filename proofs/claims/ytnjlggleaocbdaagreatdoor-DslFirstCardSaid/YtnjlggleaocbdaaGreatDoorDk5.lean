/-
  Contract of the reader's factor. (Printed by tools/mkdk3.py.)
-/
import Derived.Test.YtnjlggleaocbdaaGreatDoorDk3
namespace Go.Proofs.YtnjlggleaocbdaaGreatDoor
set_option linter.all false
open Go.RowKit Go.Shelf
attribute [local go_sem] cell_set_self lt_1 lt_2 lt_3 lt_4 lt_5 lt_6 fld_k fld_s fld_n fld_p

def lastF (r : List Tok) : PR ExprT := match r with
  | [] => .no 0 11
  | t :: r => if t.k = 110 then .ok (.mk 1 t.n [] []) r else if t.k = 116 then .ok (.mk 2 0 t.s []) r else (nmF (t :: r)).bind fun s r' => .ok (.mk 4 0 s []) r'
theorem ev_leaf (P : Nat → Prop) (w : World) (op n : Int) (s : List UInt8) : EV P w (.mk op n s []) [.int .i64 op, .int .i64 n, .string ⟨s.toArray⟩, .slice none 0 0] := by
  unfold EV
  exact ⟨none, 0, rfl, ⟨by simp, by simp⟩, fun _ => rfl, by unfold EVL; trivial⟩
set_option maxHeartbeats 16000000 in
set_option maxRecDepth 100000 in
theorem factor_step (rb gt f : Nat) (ih : ExprOk rb gt f) (r : List Tok) (w : World) (hf : 6 * r.length + 6 ≤ f + 1 + 5) (R : RdR w rb gt r) (hE : EndsT r) (hS : ShortT r) :
    Calls Tryz.prog 125 #[.pointer (some ⟨rb, 0, none⟩)] w (POut rb gt w (encE w) (exprF (f + 1) 5 r)) := by
  suffices key : ∀ Q : Ending → World → Prop, Hid (∀ e w', POut rb gt w (encE w) (exprF (f + 1) 5 r) e w' → Q e w') → Calls Tryz.prog 125 #[.pointer (some ⟨rb, 0, none⟩)] w Q from key _ (Lib.hid fun _ _ h => h)
  intro Q HQQ
  have hc : exprF (f + 1) 5 r = match mayF [45] r with
    | some r => (exprF f 5 r).bind fun c r' => .ok (.mk 20 0 [] [c]) r'
    | none => match mayF [40] r with
      | some r => (exprF f 0 r).bind fun c r' => (mustF [41] r').bind fun _ r'' => .ok c r''
      | none => match mayF wKnown r with
        | some r => (nmF r).bind fun s r' => .ok (.mk 5 0 s []) r'
        | none => match mayF wTrue r with
          | some r => .ok (.mk 3 1 [] []) r
          | none => match mayF wFalse r with
            | some r => .ok (.mk 3 0 [] []) r
            | none => lastF r := rfl
  obtain ⟨X, hX⟩ : ∃ X, exprF (f + 1) 5 r = X := ⟨_, rfl⟩
  rw [hX] at HQQ hc
  obtain ⟨hrb, hgt, hgr⟩ := R.lens
  have hn0 : ¬ w.heap.size = rb ∧ ¬ rb = w.heap.size ∧ ¬ w.heap.size = gt := by omega
  obtain ⟨t, r0, rfl⟩ : ∃ t r0, r = t :: r0 := by
    cases r with
    | nil => exact absurd rfl hE.ne
    | cons t r0 => exact ⟨t, r0, rfl⟩
  have hst := hS t (by simp)
  have MU := Lib.hid (fun s r hr W R' => must_any rb gt s r hr W R')
  have HE0 := fun W R' => here_any rb gt t r0 W R'
  have HR := Lib.hid R
  have HES := Lib.hid (And.intro hE hS)
  have IH := Lib.hid ih
  have HST := Lib.hid (fun W R' => RdR.step (w := W) (rb := rb) (gt := gt) (t := t) (r := r0) R')
  have MYY := Lib.hid (fun s W R' => may_any rb gt s (t :: r0) (by simp) W R')
  obtain ⟨L, hL⟩ : ∃ L, t :: r0 = L := ⟨_, rfl⟩
  have HLL := Lib.hid hL
  rw [hL] at hc hf HR HES HE0 MYY
  dsimp only [tokV] at HE0
  have HE := Lib.hid HE0
  clear hX ih R hE hS HE0
  have MY1 := Lib.hid (fun W R' => MYY.out [45] W R')
  have MY2 := Lib.hid (fun W R' => MYY.out [40] W R')
  have MY3 := Lib.hid (fun W R' => MYY.out wKnown W R')
  have MY4 := Lib.hid (fun W R' => MYY.out wTrue W R')
  have MY5 := Lib.hid (fun W R' => MYY.out wFalse W R')
  clear MYY
  cases hm1 : mayF [45] L with
  | some r1 =>
    rw [hm1] at hc
    dsimp only at hc
    have hml := may_len hm1
    have HE1 : Hid (EndsT r1 ∧ ShortT r1) := Lib.hid ⟨may_ends hm1 HES.out.1, hml.2 HES.out.2⟩
    rw [(may_yes hm1).1, (may_yes hm1).2] at MY1
    have CN0 := fun W R' => IH.out.2.2.2.2.2 r1 W (by omega) R' HE1.out.1 HE1.out.2
    have hTk := expr_takes f 5 r1
    generalize exprF f 5 r1 = Y at *
    have CN := Lib.hid CN0
    clear CN0 hm1 hml hf
    go_enter Tryz.func125, Tryz.ntmps125
    go_wp2_with (first | (go_at_call 31; (with_reducible refine (HE.out _ (HR.out.alloc _)).mono ?_); rintro e w2 ⟨rfl, hb2⟩; obtain ⟨hc2, hf2⟩ := bcell hb2; have hs2 := hb2.size; (try simp at hs2); have hz2 : w.heap.size < w2.heap.size ∧ ¬ w2.heap.size = rb ∧ ¬ rb = w2.heap.size ∧ ¬ w2.heap.size = gt := (by omega)) | (go_at_call_of 72 (Value.string ⟨#[45]⟩); have HR2 := Lib.hid ((HR.out.alloc (.cells #[.int .i64 0, .int .i64 0, .string ⟨#[]⟩, .slice none 0 0] 24)).below hb2); have HGR2 : Hid (Gr w.heap.size rb w w2) := Lib.hid (Gr.below ((Gr.refl _ _ _).alloc (Nat.le_refl _) _) hb2 (by simp)); have hrd2 := (HR2.out.alloc (.cells #[.int .u8 t.k, .string ⟨t.s.toArray⟩, .int .i64 t.n, .int .i64 (t.p : Int)] 83)); have hgd2 := (HGR2.out.alloc (by omega) (.cells #[.int .u8 t.k, .string ⟨t.s.toArray⟩, .int .i64 t.n, .int .i64 (t.p : Int)] 83)); (with_reducible refine (MY1.out _ hrd2).mono ?_); rintro e m1 ⟨rfl, hrm1, hgm1⟩; have HRm1 := Lib.hid hrm1; have HGm1 := Lib.hid (Gr.trans (B := w.heap.size) hgd2 hgm1 (by (try simp only [World.size_alloc]); omega)); obtain ⟨hcm1, hfm1⟩ := gcell hgm1; (try simp only [World.size_alloc] at hcm1 hfm1); have hsm1 := hgm1.size; (try simp at hsm1); have hzm1 : w.heap.size < m1.heap.size ∧ w2.heap.size < m1.heap.size := (by omega); clear hrm1 hgm1))
    go_at_call 125
    refine (CN.out _ HRm1.out).mono ?_
    rintro e w5 hP
    cases Y with
    | no p er =>
      obtain ⟨rfl, hg5⟩ := hP
      have HN : Hid (X = PR.no p er) := Lib.hid hc
      clear hc
      go_wp2
      exact ⟨rfl, HQQ.out _ _ (by rw [HN.out]; exact ⟨rfl, HGm1.out.trans hg5 (by omega)⟩)⟩
    | ok c r5 =>
      obtain ⟨A4, cc, rfl, hv5, hR5, hg5⟩ := pout_ok hP
      have hT5 := hTk _ _ rfl
      have HE5 : Hid (EndsT r5 ∧ ShortT r5) := Lib.hid ⟨hT5.2.1 HE1.out.1, hT5.2.2 HE1.out.2⟩
      clear hP CN hTk hT5
      obtain ⟨op, nn, ss, args⟩ := c
      dsimp only [exprC, ExprT.op, ExprT.n, ExprT.s, ExprT.args, List.cons_append, List.nil_append, PR.bind] at hv5 hc ⊢
      have hs5 := hg5.size
      obtain ⟨hc5, hf5⟩ := gcell hg5
      have hz5 : w.heap.size < w5.heap.size ∧ w2.heap.size < w5.heap.size := by omega
      have HG5 := Lib.hid (HGm1.out.trans hg5 HGm1.out.size)
      have HN := Lib.hid hc
      clear hc hg5
      go_wp2
      have hg5' := HG5.out
      have hR5' := hR5.out
      exact bodyPost_ret (v := .agg #[.int .i64 20, .int .i64 0, .string ⟨#[]⟩, .slice (some ⟨w5.heap.size, 0, none⟩) 1 1]) (by simp [results, Tryz.results125, go_sem, *]) rfl (HQQ.out _ _ (by rw [HN.out]; exact ⟨⟨_, rfl, [.int .i64 20, .int .i64 0, .string ⟨#[]⟩, .slice (some ⟨w5.heap.size, 0, none⟩) 1 1], rfl, (by
        have kv := (hv5.out.mono (P' := fun b => w.heap.size < b) (fun b h1 h2 => by omega))
        unfold EV
        refine ⟨_, _, rfl, ⟨Nat.le_refl _, by simp⟩, (fun h => by cases h), EVL.one (cx := [.int .i64 op, .int .i64 nn, .string ⟨ss.toArray⟩, .slice A4 args.length cc]) (by omega) ?_ ((kv.keep (by repeat (first | (with_reducible exact Kp.refl _ _) | (with_reducible assumption) | ((with_reducible refine Kp.set ?_ ?hq1 _); (case hq1 => (first | (simp; done) | (simp; omega) | (dsimp only; omega)))) | (with_reducible refine Kp.alloc ?_ _) | (with_reducible refine Kp.drew ?_) | refine Kp.trans ?_ (Kp.gr (by assumption) (by first | (simp; done) | (simp; omega) | (dsimp only; omega)))))).mono (fun b h1 h2 => by omega))⟩
        exact heap_alloc_at (by simp))⟩, (by repeat (first | (with_reducible exact hR5') | ((with_reducible refine RdR.setCell ?_ ?hq1 ?hq2 _); (case hq1 => (first | (simp; done) | (simp; omega) | omega)); (case hq2 => (first | (simp; done) | (simp; omega) | omega))) | (with_reducible refine RdR.alloc ?_ _) | (with_reducible refine RdR.drew ?_) | refine RdR.below ?_ (by assumption))), (by repeat (first | (with_reducible exact Gr.refl _ _ _) | (with_reducible assumption) | ((with_reducible refine Gr.setCell ?_ ?hq1 _); (case hq1 => (first | (right; rfl) | (left; (first | (simp; done) | (simp; omega) | omega))))) | ((with_reducible refine Gr.alloc ?_ ?hq1 _); (case hq1 => (first | (simp; done) | (simp; omega) | omega))) | (with_reducible refine Gr.drew ?_) | exact Gr.of_below (by assumption) | refine Gr.trans ?_ (by assumption) (by first | (simp; done) | (simp; omega) | omega) | refine Gr.below ?_ (by assumption) (by first | (simp; done) | (simp; omega) | omega)))⟩))
  | none =>
    rw [hm1] at hc
    dsimp only at hc
    rw [(may_no hm1).1, (may_no hm1).2] at MY1
    clear hm1
    cases hm2 : mayF [40] L with
    | some r1 =>
      rw [hm2] at hc
      dsimp only at hc
      have hml := may_len hm2
      have HE1 : Hid (EndsT r1 ∧ ShortT r1) := Lib.hid ⟨may_ends hm2 HES.out.1, hml.2 HES.out.2⟩
      rw [(may_yes hm2).1, (may_yes hm2).2] at MY2
      have CN0 := fun W R' => IH.out.1 r1 W (by omega) R' HE1.out.1 HE1.out.2
      have hTk := expr_takes f 0 r1
      generalize exprF f 0 r1 = Y at *
      have CN := Lib.hid CN0
      clear CN0 hm2 hml hf
      go_enter Tryz.func125, Tryz.ntmps125
      go_wp2_with (first | (go_at_call 31; (with_reducible refine (HE.out _ (HR.out.alloc _)).mono ?_); rintro e w2 ⟨rfl, hb2⟩; obtain ⟨hc2, hf2⟩ := bcell hb2; have hs2 := hb2.size; (try simp at hs2); have hz2 : w.heap.size < w2.heap.size ∧ ¬ w2.heap.size = rb ∧ ¬ rb = w2.heap.size ∧ ¬ w2.heap.size = gt := (by omega)) | (go_at_call_of 72 (Value.string ⟨#[45]⟩); have HR2 := Lib.hid ((HR.out.alloc (.cells #[.int .i64 0, .int .i64 0, .string ⟨#[]⟩, .slice none 0 0] 24)).below hb2); have HGR2 : Hid (Gr w.heap.size rb w w2) := Lib.hid (Gr.below ((Gr.refl _ _ _).alloc (Nat.le_refl _) _) hb2 (by simp)); have hrd2 := (HR2.out.alloc (.cells #[.int .u8 t.k, .string ⟨t.s.toArray⟩, .int .i64 t.n, .int .i64 (t.p : Int)] 83)); have hgd2 := (HGR2.out.alloc (by omega) (.cells #[.int .u8 t.k, .string ⟨t.s.toArray⟩, .int .i64 t.n, .int .i64 (t.p : Int)] 83)); (with_reducible refine (MY1.out _ hrd2).mono ?_); rintro e m1 ⟨rfl, hrm1, hgm1⟩; have HRm1 := Lib.hid hrm1; have HGm1 := Lib.hid (Gr.trans (B := w.heap.size) hgd2 hgm1 (by (try simp only [World.size_alloc]); omega)); obtain ⟨hcm1, hfm1⟩ := gcell hgm1; (try simp only [World.size_alloc] at hcm1 hfm1); have hsm1 := hgm1.size; (try simp at hsm1); have hzm1 : w.heap.size < m1.heap.size ∧ w2.heap.size < m1.heap.size := (by omega); clear hrm1 hgm1) | (go_at_call_of 72 (Value.string ⟨#[40]⟩); (with_reducible refine (MY2.out _ HRm1.out).mono ?_); rintro e m2 ⟨rfl, hrm2, hgm2⟩; have HRm2 := Lib.hid hrm2; have HGm2 := Lib.hid (Gr.trans (B := w.heap.size) HGm1.out hgm2 (by (try simp only [World.size_alloc]); omega)); obtain ⟨hcm2, hfm2⟩ := gcell hgm2; (try simp only [World.size_alloc] at hcm2 hfm2); have hsm2 := hgm2.size; (try simp at hsm2); have hzm2 : w.heap.size < m2.heap.size ∧ w2.heap.size < m2.heap.size := (by omega); clear hrm2 hgm2))
      go_at_call 50
      refine (CN.out _ HRm2.out).mono ?_
      rintro e w5 hP
      cases Y with
      | no p er =>
        obtain ⟨rfl, hg5⟩ := hP
        have HN : Hid (X = PR.no p er) := Lib.hid hc
        clear hc
        go_wp2
        exact ⟨rfl, HQQ.out _ _ (by rw [HN.out]; exact ⟨rfl, HGm2.out.trans hg5 (by omega)⟩)⟩
      | ok c r5 =>
        obtain ⟨A4, cc, rfl, hv5, hR5, hg5⟩ := pout_ok hP
        have hT5 := hTk _ _ rfl
        have HE5 : Hid (EndsT r5 ∧ ShortT r5) := Lib.hid ⟨hT5.2.1 HE1.out.1, hT5.2.2 HE1.out.2⟩
        clear hP CN hTk hT5
        obtain ⟨op, nn, ss, args⟩ := c
        dsimp only [exprC, ExprT.op, ExprT.n, ExprT.s, ExprT.args, List.cons_append, List.nil_append, PR.bind] at hv5 hc ⊢
        have hs5 := hg5.size
        obtain ⟨hc5, hf5⟩ := gcell hg5
        have hz5 : w.heap.size < w5.heap.size ∧ w2.heap.size < w5.heap.size := by omega
        have HG5 := Lib.hid (HGm2.out.trans hg5 HGm2.out.size)
        have HC := Lib.hid hc
        have MU5 := Lib.hid (fun W R' => MU.out [41] r5 HE5.out.1.ne W R')
        have hb5 : ¬ w5.heap.size = rb ∧ ¬ rb = w5.heap.size ∧ ¬ w5.heap.size = gt ∧ ¬ w5.heap.size = w.heap.size ∧ ¬ w.heap.size = w5.heap.size := by omega
        clear hc hg5
        go_wp2_with (fail)
        go_at_call 71
        refine (MU5.out _ (hR5.out.alloc _)).mono ?_
        rintro e w7 hP
        cases hp : mustF [41] r5 with
        | no p er =>
          rw [hp] at hP
          obtain ⟨rfl, hg7⟩ := hP
          have HN : Hid (X = PR.no p er) := Lib.hid (by have h := HC.out; rw [hp] at h; exact h)
          clear hp
          go_wp2
          exact ⟨rfl, HQQ.out _ _ (by rw [HN.out]; exact ⟨rfl, (HG5.out.alloc (by omega) _).trans hg7 (by simp; omega)⟩)⟩
        | ok u r7 =>
          rw [hp] at hP
          obtain ⟨⟨V7, rfl, hV7⟩, hR7, hg7⟩ := hP
          obtain rfl := hV7
          have HN : Hid (X = PR.ok (.mk op nn ss args) r7) := Lib.hid (by have h := HC.out; rw [hp] at h; exact h)
          have hs7 := hg7.size
          simp at hs7
          obtain ⟨hc7, hf7⟩ := gcell hg7
          simp only [World.size_alloc] at hc7 hf7
          have hz7 : w.heap.size < w7.heap.size ∧ w5.heap.size < w7.heap.size := by omega
          have hv7 := (hv5.out.keep (Kp.alloc (P := fun b => m2.heap.size ≤ b) (Kp.refl _ _) (.cells #[.int .i64 op, .int .i64 nn, .string ⟨ss.toArray⟩, .slice A4 args.length cc] 24))).keep (Kp.gr (P := fun b => m2.heap.size ≤ b) hg7 (by omega))
          have HV7 := Lib.hid (hv7.mono (P' := fun b => w.heap.size < b) (fun b h1 h2 => by omega))
          have HG7 : Hid (Gr w.heap.size rb w w7) := Lib.hid ((HG5.out.alloc (by omega) _).trans hg7 (by simp; omega))
          clear hp hg7 hv7
          go_wp2
          have hg7' := HG7.out
          have hR7' := hR7
          exact bodyPost_ret (v := .agg #[.int .i64 op, .int .i64 nn, .string ⟨ss.toArray⟩, .slice A4 args.length cc]) (by simp [results, Tryz.results125, go_sem, *]) rfl (HQQ.out _ _ (by rw [HN.out]; exact ⟨⟨_, rfl, _, rfl, (HV7.out.keep (by repeat (first | (with_reducible exact Kp.refl _ _) | (with_reducible assumption) | ((with_reducible refine Kp.set ?_ ?hq1 _); (case hq1 => (first | (simp; done) | (simp; omega) | (dsimp only; omega)))) | (with_reducible refine Kp.alloc ?_ _) | (with_reducible refine Kp.drew ?_) | refine Kp.trans ?_ (Kp.gr (by assumption) (by first | (simp; done) | (simp; omega) | (dsimp only; omega)))))).mono (fun b h1 h2 => by (try dsimp only at h2 ⊢); omega)⟩, (by repeat (first | (with_reducible exact hR7') | ((with_reducible refine RdR.setCell ?_ ?hq1 ?hq2 _); (case hq1 => (first | (simp; done) | (simp; omega) | omega)); (case hq2 => (first | (simp; done) | (simp; omega) | omega))) | (with_reducible refine RdR.alloc ?_ _) | (with_reducible refine RdR.drew ?_) | refine RdR.below ?_ (by assumption))), (by repeat (first | (with_reducible exact Gr.refl _ _ _) | (with_reducible assumption) | ((with_reducible refine Gr.setCell ?_ ?hq1 _); (case hq1 => (first | (right; rfl) | (left; (first | (simp; done) | (simp; omega) | omega))))) | ((with_reducible refine Gr.alloc ?_ ?hq1 _); (case hq1 => (first | (simp; done) | (simp; omega) | omega))) | (with_reducible refine Gr.drew ?_) | exact Gr.of_below (by assumption) | refine Gr.trans ?_ (by assumption) (by first | (simp; done) | (simp; omega) | omega) | refine Gr.below ?_ (by assumption) (by first | (simp; done) | (simp; omega) | omega)))⟩))
    | none =>
      rw [hm2] at hc
      dsimp only at hc
      rw [(may_no hm2).1, (may_no hm2).2] at MY2
      clear hm2
      cases hm3 : mayF wKnown L with
      | some r1 =>
        rw [hm3] at hc
        dsimp only at hc
        have hml := may_len hm3
        have HE1 : Hid (EndsT r1 ∧ ShortT r1) := Lib.hid ⟨may_ends hm3 HES.out.1, hml.2 HES.out.2⟩
        rw [(may_yes hm3).1, (may_yes hm3).2] at MY3
        have NMA := Lib.hid (fun W R' => nameR_any rb gt r1 HE1.out.1.ne HE1.out.2 W R')
        clear hm3 hml hf
        go_enter Tryz.func125, Tryz.ntmps125
        go_wp2_with (first | (go_at_call 31; (with_reducible refine (HE.out _ (HR.out.alloc _)).mono ?_); rintro e w2 ⟨rfl, hb2⟩; obtain ⟨hc2, hf2⟩ := bcell hb2; have hs2 := hb2.size; (try simp at hs2); have hz2 : w.heap.size < w2.heap.size ∧ ¬ w2.heap.size = rb ∧ ¬ rb = w2.heap.size ∧ ¬ w2.heap.size = gt := (by omega)) | (go_at_call_of 72 (Value.string ⟨#[45]⟩); have HR2 := Lib.hid ((HR.out.alloc (.cells #[.int .i64 0, .int .i64 0, .string ⟨#[]⟩, .slice none 0 0] 24)).below hb2); have HGR2 : Hid (Gr w.heap.size rb w w2) := Lib.hid (Gr.below ((Gr.refl _ _ _).alloc (Nat.le_refl _) _) hb2 (by simp)); have hrd2 := (HR2.out.alloc (.cells #[.int .u8 t.k, .string ⟨t.s.toArray⟩, .int .i64 t.n, .int .i64 (t.p : Int)] 83)); have hgd2 := (HGR2.out.alloc (by omega) (.cells #[.int .u8 t.k, .string ⟨t.s.toArray⟩, .int .i64 t.n, .int .i64 (t.p : Int)] 83)); (with_reducible refine (MY1.out _ hrd2).mono ?_); rintro e m1 ⟨rfl, hrm1, hgm1⟩; have HRm1 := Lib.hid hrm1; have HGm1 := Lib.hid (Gr.trans (B := w.heap.size) hgd2 hgm1 (by (try simp only [World.size_alloc]); omega)); obtain ⟨hcm1, hfm1⟩ := gcell hgm1; (try simp only [World.size_alloc] at hcm1 hfm1); have hsm1 := hgm1.size; (try simp at hsm1); have hzm1 : w.heap.size < m1.heap.size ∧ w2.heap.size < m1.heap.size := (by omega); clear hrm1 hgm1) | (go_at_call_of 72 (Value.string ⟨#[40]⟩); (with_reducible refine (MY2.out _ HRm1.out).mono ?_); rintro e m2 ⟨rfl, hrm2, hgm2⟩; have HRm2 := Lib.hid hrm2; have HGm2 := Lib.hid (Gr.trans (B := w.heap.size) HGm1.out hgm2 (by (try simp only [World.size_alloc]); omega)); obtain ⟨hcm2, hfm2⟩ := gcell hgm2; (try simp only [World.size_alloc] at hcm2 hfm2); have hsm2 := hgm2.size; (try simp at hsm2); have hzm2 : w.heap.size < m2.heap.size ∧ w2.heap.size < m2.heap.size := (by omega); clear hrm2 hgm2) | (go_at_call_of 72 (Value.string ⟨#[107, 110, 111, 119, 110]⟩); (with_reducible refine (MY3.out _ HRm2.out).mono ?_); rintro e m3 ⟨rfl, hrm3, hgm3⟩; have HRm3 := Lib.hid hrm3; have HGm3 := Lib.hid (Gr.trans (B := w.heap.size) HGm2.out hgm3 (by (try simp only [World.size_alloc]); omega)); obtain ⟨hcm3, hfm3⟩ := gcell hgm3; (try simp only [World.size_alloc] at hcm3 hfm3); have hsm3 := hgm3.size; (try simp at hsm3); have hzm3 : w.heap.size < m3.heap.size ∧ w2.heap.size < m3.heap.size := (by omega); clear hrm3 hgm3))
        go_at_call 70
        refine (NMA.out _ HRm3.out).mono ?_
        rintro e w5 hP
        cases hp : nmF r1 with
        | no p er =>
          rw [hp] at hP hc
          obtain ⟨rfl, hg5⟩ := hP
          have HN : Hid (X = PR.no p er) := Lib.hid hc
          clear hc hp
          go_wp2
          exact ⟨rfl, HQQ.out _ _ (by rw [HN.out]; exact ⟨rfl, HGm3.out.trans hg5 (by omega)⟩)⟩
        | ok s r5 =>
          rw [hp] at hP hc
          obtain ⟨⟨V5, rfl, hV5⟩, hR5, hg5⟩ := hP
          obtain rfl := hV5
          dsimp only [PR.bind] at hc
          have HN := Lib.hid hc
          have hs5 := hg5.size
          obtain ⟨hc5, hf5⟩ := gcell hg5
          have hz5 : w.heap.size < w5.heap.size := by omega
          have HG5 := Lib.hid (HGm3.out.trans hg5 HGm3.out.size)
          clear hc hp hg5
          go_wp2
          have hg5' := HG5.out
          have hR5' := hR5
          exact bodyPost_ret (v := .agg #[.int .i64 5, .int .i64 0, .string ⟨s.toArray⟩, .slice none 0 0]) (by simp [results, Tryz.results125, go_sem, *]) rfl (HQQ.out _ _ (by rw [HN.out]; exact ⟨⟨_, rfl, [.int .i64 5, .int .i64 0, .string ⟨s.toArray⟩, .slice none 0 0], rfl, ev_leaf _ _ _ _ _⟩, (by repeat (first | (with_reducible exact hR5') | ((with_reducible refine RdR.setCell ?_ ?hq1 ?hq2 _); (case hq1 => (first | (simp; done) | (simp; omega) | omega)); (case hq2 => (first | (simp; done) | (simp; omega) | omega))) | (with_reducible refine RdR.alloc ?_ _) | (with_reducible refine RdR.drew ?_) | refine RdR.below ?_ (by assumption))), (by repeat (first | (with_reducible exact Gr.refl _ _ _) | (with_reducible assumption) | ((with_reducible refine Gr.setCell ?_ ?hq1 _); (case hq1 => (first | (right; rfl) | (left; (first | (simp; done) | (simp; omega) | omega))))) | ((with_reducible refine Gr.alloc ?_ ?hq1 _); (case hq1 => (first | (simp; done) | (simp; omega) | omega))) | (with_reducible refine Gr.drew ?_) | exact Gr.of_below (by assumption) | refine Gr.trans ?_ (by assumption) (by first | (simp; done) | (simp; omega) | omega) | refine Gr.below ?_ (by assumption) (by first | (simp; done) | (simp; omega) | omega)))⟩))
      | none =>
        rw [hm3] at hc
        dsimp only at hc
        rw [(may_no hm3).1, (may_no hm3).2] at MY3
        clear hm3
        cases hm4 : mayF wTrue L with
        | some r1 =>
          rw [hm4] at hc
          dsimp only at hc
          have hml := may_len hm4
          have HE1 : Hid (EndsT r1 ∧ ShortT r1) := Lib.hid ⟨may_ends hm4 HES.out.1, hml.2 HES.out.2⟩
          rw [(may_yes hm4).1, (may_yes hm4).2] at MY4
          have HN := Lib.hid hc
          clear hc hm4 hml hf
          go_enter Tryz.func125, Tryz.ntmps125
          go_wp2_with (first | (go_at_call 31; (with_reducible refine (HE.out _ (HR.out.alloc _)).mono ?_); rintro e w2 ⟨rfl, hb2⟩; obtain ⟨hc2, hf2⟩ := bcell hb2; have hs2 := hb2.size; (try simp at hs2); have hz2 : w.heap.size < w2.heap.size ∧ ¬ w2.heap.size = rb ∧ ¬ rb = w2.heap.size ∧ ¬ w2.heap.size = gt := (by omega)) | (go_at_call_of 72 (Value.string ⟨#[45]⟩); have HR2 := Lib.hid ((HR.out.alloc (.cells #[.int .i64 0, .int .i64 0, .string ⟨#[]⟩, .slice none 0 0] 24)).below hb2); have HGR2 : Hid (Gr w.heap.size rb w w2) := Lib.hid (Gr.below ((Gr.refl _ _ _).alloc (Nat.le_refl _) _) hb2 (by simp)); have hrd2 := (HR2.out.alloc (.cells #[.int .u8 t.k, .string ⟨t.s.toArray⟩, .int .i64 t.n, .int .i64 (t.p : Int)] 83)); have hgd2 := (HGR2.out.alloc (by omega) (.cells #[.int .u8 t.k, .string ⟨t.s.toArray⟩, .int .i64 t.n, .int .i64 (t.p : Int)] 83)); (with_reducible refine (MY1.out _ hrd2).mono ?_); rintro e m1 ⟨rfl, hrm1, hgm1⟩; have HRm1 := Lib.hid hrm1; have HGm1 := Lib.hid (Gr.trans (B := w.heap.size) hgd2 hgm1 (by (try simp only [World.size_alloc]); omega)); obtain ⟨hcm1, hfm1⟩ := gcell hgm1; (try simp only [World.size_alloc] at hcm1 hfm1); have hsm1 := hgm1.size; (try simp at hsm1); have hzm1 : w.heap.size < m1.heap.size ∧ w2.heap.size < m1.heap.size := (by omega); clear hrm1 hgm1) | (go_at_call_of 72 (Value.string ⟨#[40]⟩); (with_reducible refine (MY2.out _ HRm1.out).mono ?_); rintro e m2 ⟨rfl, hrm2, hgm2⟩; have HRm2 := Lib.hid hrm2; have HGm2 := Lib.hid (Gr.trans (B := w.heap.size) HGm1.out hgm2 (by (try simp only [World.size_alloc]); omega)); obtain ⟨hcm2, hfm2⟩ := gcell hgm2; (try simp only [World.size_alloc] at hcm2 hfm2); have hsm2 := hgm2.size; (try simp at hsm2); have hzm2 : w.heap.size < m2.heap.size ∧ w2.heap.size < m2.heap.size := (by omega); clear hrm2 hgm2) | (go_at_call_of 72 (Value.string ⟨#[107, 110, 111, 119, 110]⟩); (with_reducible refine (MY3.out _ HRm2.out).mono ?_); rintro e m3 ⟨rfl, hrm3, hgm3⟩; have HRm3 := Lib.hid hrm3; have HGm3 := Lib.hid (Gr.trans (B := w.heap.size) HGm2.out hgm3 (by (try simp only [World.size_alloc]); omega)); obtain ⟨hcm3, hfm3⟩ := gcell hgm3; (try simp only [World.size_alloc] at hcm3 hfm3); have hsm3 := hgm3.size; (try simp at hsm3); have hzm3 : w.heap.size < m3.heap.size ∧ w2.heap.size < m3.heap.size := (by omega); clear hrm3 hgm3) | (go_at_call_of 72 (Value.string ⟨#[116, 114, 117, 101]⟩); (with_reducible refine (MY4.out _ HRm3.out).mono ?_); rintro e m4 ⟨rfl, hrm4, hgm4⟩; have HRm4 := Lib.hid hrm4; have HGm4 := Lib.hid (Gr.trans (B := w.heap.size) HGm3.out hgm4 (by (try simp only [World.size_alloc]); omega)); obtain ⟨hcm4, hfm4⟩ := gcell hgm4; (try simp only [World.size_alloc] at hcm4 hfm4); have hsm4 := hgm4.size; (try simp at hsm4); have hzm4 : w.heap.size < m4.heap.size ∧ w2.heap.size < m4.heap.size := (by omega); clear hrm4 hgm4))
          have hgx := HGm4.out
          have hrx := HRm4.out
          exact bodyPost_ret (v := .agg #[.int .i64 3, .int .i64 1, .string ⟨#[]⟩, .slice none 0 0]) (by simp [results, Tryz.results125, go_sem, *]) rfl (HQQ.out _ _ (by rw [HN.out]; exact ⟨⟨_, rfl, [.int .i64 3, .int .i64 1, .string ⟨#[]⟩, .slice none 0 0], rfl, ev_leaf _ _ _ _ _⟩, (by repeat (first | (with_reducible exact hrx) | ((with_reducible refine RdR.setCell ?_ ?hq1 ?hq2 _); (case hq1 => (first | (simp; done) | (simp; omega) | omega)); (case hq2 => (first | (simp; done) | (simp; omega) | omega))) | (with_reducible refine RdR.alloc ?_ _) | (with_reducible refine RdR.drew ?_) | refine RdR.below ?_ (by assumption))), (by repeat (first | (with_reducible exact Gr.refl _ _ _) | (with_reducible assumption) | ((with_reducible refine Gr.setCell ?_ ?hq1 _); (case hq1 => (first | (right; rfl) | (left; (first | (simp; done) | (simp; omega) | omega))))) | ((with_reducible refine Gr.alloc ?_ ?hq1 _); (case hq1 => (first | (simp; done) | (simp; omega) | omega))) | (with_reducible refine Gr.drew ?_) | exact Gr.of_below (by assumption) | refine Gr.trans ?_ (by assumption) (by first | (simp; done) | (simp; omega) | omega) | refine Gr.below ?_ (by assumption) (by first | (simp; done) | (simp; omega) | omega)))⟩))
        | none =>
          rw [hm4] at hc
          dsimp only at hc
          rw [(may_no hm4).1, (may_no hm4).2] at MY4
          clear hm4
          cases hm5 : mayF wFalse L with
          | some r1 =>
            rw [hm5] at hc
            dsimp only at hc
            have hml := may_len hm5
            have HE1 : Hid (EndsT r1 ∧ ShortT r1) := Lib.hid ⟨may_ends hm5 HES.out.1, hml.2 HES.out.2⟩
            rw [(may_yes hm5).1, (may_yes hm5).2] at MY5
            have HN := Lib.hid hc
            clear hc hm5 hml hf
            go_enter Tryz.func125, Tryz.ntmps125
            go_wp2_with (first | (go_at_call 31; (with_reducible refine (HE.out _ (HR.out.alloc _)).mono ?_); rintro e w2 ⟨rfl, hb2⟩; obtain ⟨hc2, hf2⟩ := bcell hb2; have hs2 := hb2.size; (try simp at hs2); have hz2 : w.heap.size < w2.heap.size ∧ ¬ w2.heap.size = rb ∧ ¬ rb = w2.heap.size ∧ ¬ w2.heap.size = gt := (by omega)) | (go_at_call_of 72 (Value.string ⟨#[45]⟩); have HR2 := Lib.hid ((HR.out.alloc (.cells #[.int .i64 0, .int .i64 0, .string ⟨#[]⟩, .slice none 0 0] 24)).below hb2); have HGR2 : Hid (Gr w.heap.size rb w w2) := Lib.hid (Gr.below ((Gr.refl _ _ _).alloc (Nat.le_refl _) _) hb2 (by simp)); have hrd2 := (HR2.out.alloc (.cells #[.int .u8 t.k, .string ⟨t.s.toArray⟩, .int .i64 t.n, .int .i64 (t.p : Int)] 83)); have hgd2 := (HGR2.out.alloc (by omega) (.cells #[.int .u8 t.k, .string ⟨t.s.toArray⟩, .int .i64 t.n, .int .i64 (t.p : Int)] 83)); (with_reducible refine (MY1.out _ hrd2).mono ?_); rintro e m1 ⟨rfl, hrm1, hgm1⟩; have HRm1 := Lib.hid hrm1; have HGm1 := Lib.hid (Gr.trans (B := w.heap.size) hgd2 hgm1 (by (try simp only [World.size_alloc]); omega)); obtain ⟨hcm1, hfm1⟩ := gcell hgm1; (try simp only [World.size_alloc] at hcm1 hfm1); have hsm1 := hgm1.size; (try simp at hsm1); have hzm1 : w.heap.size < m1.heap.size ∧ w2.heap.size < m1.heap.size := (by omega); clear hrm1 hgm1) | (go_at_call_of 72 (Value.string ⟨#[40]⟩); (with_reducible refine (MY2.out _ HRm1.out).mono ?_); rintro e m2 ⟨rfl, hrm2, hgm2⟩; have HRm2 := Lib.hid hrm2; have HGm2 := Lib.hid (Gr.trans (B := w.heap.size) HGm1.out hgm2 (by (try simp only [World.size_alloc]); omega)); obtain ⟨hcm2, hfm2⟩ := gcell hgm2; (try simp only [World.size_alloc] at hcm2 hfm2); have hsm2 := hgm2.size; (try simp at hsm2); have hzm2 : w.heap.size < m2.heap.size ∧ w2.heap.size < m2.heap.size := (by omega); clear hrm2 hgm2) | (go_at_call_of 72 (Value.string ⟨#[107, 110, 111, 119, 110]⟩); (with_reducible refine (MY3.out _ HRm2.out).mono ?_); rintro e m3 ⟨rfl, hrm3, hgm3⟩; have HRm3 := Lib.hid hrm3; have HGm3 := Lib.hid (Gr.trans (B := w.heap.size) HGm2.out hgm3 (by (try simp only [World.size_alloc]); omega)); obtain ⟨hcm3, hfm3⟩ := gcell hgm3; (try simp only [World.size_alloc] at hcm3 hfm3); have hsm3 := hgm3.size; (try simp at hsm3); have hzm3 : w.heap.size < m3.heap.size ∧ w2.heap.size < m3.heap.size := (by omega); clear hrm3 hgm3) | (go_at_call_of 72 (Value.string ⟨#[116, 114, 117, 101]⟩); (with_reducible refine (MY4.out _ HRm3.out).mono ?_); rintro e m4 ⟨rfl, hrm4, hgm4⟩; have HRm4 := Lib.hid hrm4; have HGm4 := Lib.hid (Gr.trans (B := w.heap.size) HGm3.out hgm4 (by (try simp only [World.size_alloc]); omega)); obtain ⟨hcm4, hfm4⟩ := gcell hgm4; (try simp only [World.size_alloc] at hcm4 hfm4); have hsm4 := hgm4.size; (try simp at hsm4); have hzm4 : w.heap.size < m4.heap.size ∧ w2.heap.size < m4.heap.size := (by omega); clear hrm4 hgm4) | (go_at_call_of 72 (Value.string ⟨#[102, 97, 108, 115, 101]⟩); (with_reducible refine (MY5.out _ HRm4.out).mono ?_); rintro e m5 ⟨rfl, hrm5, hgm5⟩; have HRm5 := Lib.hid hrm5; have HGm5 := Lib.hid (Gr.trans (B := w.heap.size) HGm4.out hgm5 (by (try simp only [World.size_alloc]); omega)); obtain ⟨hcm5, hfm5⟩ := gcell hgm5; (try simp only [World.size_alloc] at hcm5 hfm5); have hsm5 := hgm5.size; (try simp at hsm5); have hzm5 : w.heap.size < m5.heap.size ∧ w2.heap.size < m5.heap.size := (by omega); clear hrm5 hgm5))
            have hgx := HGm5.out
            have hrx := HRm5.out
            exact bodyPost_ret (v := .agg #[.int .i64 3, .int .i64 0, .string ⟨#[]⟩, .slice none 0 0]) (by simp [results, Tryz.results125, go_sem, *]) rfl (HQQ.out _ _ (by rw [HN.out]; exact ⟨⟨_, rfl, [.int .i64 3, .int .i64 0, .string ⟨#[]⟩, .slice none 0 0], rfl, ev_leaf _ _ _ _ _⟩, (by repeat (first | (with_reducible exact hrx) | ((with_reducible refine RdR.setCell ?_ ?hq1 ?hq2 _); (case hq1 => (first | (simp; done) | (simp; omega) | omega)); (case hq2 => (first | (simp; done) | (simp; omega) | omega))) | (with_reducible refine RdR.alloc ?_ _) | (with_reducible refine RdR.drew ?_) | refine RdR.below ?_ (by assumption))), (by repeat (first | (with_reducible exact Gr.refl _ _ _) | (with_reducible assumption) | ((with_reducible refine Gr.setCell ?_ ?hq1 _); (case hq1 => (first | (right; rfl) | (left; (first | (simp; done) | (simp; omega) | omega))))) | ((with_reducible refine Gr.alloc ?_ ?hq1 _); (case hq1 => (first | (simp; done) | (simp; omega) | omega))) | (with_reducible refine Gr.drew ?_) | exact Gr.of_below (by assumption) | refine Gr.trans ?_ (by assumption) (by first | (simp; done) | (simp; omega) | omega) | refine Gr.below ?_ (by assumption) (by first | (simp; done) | (simp; omega) | omega)))⟩))
          | none =>
            rw [hm5] at hc
            dsimp only at hc
            rw [(may_no hm5).1, (may_no hm5).2] at MY5
            clear hm5
            rw [← HLL.out] at hc
            unfold lastF at hc
            dsimp only at hc
            clear hf
            by_cases h110 : t.k = 110
            · rw [if_pos h110] at hc
              have HN := Lib.hid hc
              have ek : (t.k == 110) = true := by simp [h110]
              clear hc h110
              go_enter Tryz.func125, Tryz.ntmps125
              go_wp2_with (first | (go_at_call 31; (with_reducible refine (HE.out _ (HR.out.alloc _)).mono ?_); rintro e w2 ⟨rfl, hb2⟩; obtain ⟨hc2, hf2⟩ := bcell hb2; have hs2 := hb2.size; (try simp at hs2); have hz2 : w.heap.size < w2.heap.size ∧ ¬ w2.heap.size = rb ∧ ¬ rb = w2.heap.size ∧ ¬ w2.heap.size = gt := (by omega)) | (go_at_call_of 72 (Value.string ⟨#[45]⟩); have HR2 := Lib.hid ((HR.out.alloc (.cells #[.int .i64 0, .int .i64 0, .string ⟨#[]⟩, .slice none 0 0] 24)).below hb2); have HGR2 : Hid (Gr w.heap.size rb w w2) := Lib.hid (Gr.below ((Gr.refl _ _ _).alloc (Nat.le_refl _) _) hb2 (by simp)); have hrd2 := (HR2.out.alloc (.cells #[.int .u8 t.k, .string ⟨t.s.toArray⟩, .int .i64 t.n, .int .i64 (t.p : Int)] 83)); have hgd2 := (HGR2.out.alloc (by omega) (.cells #[.int .u8 t.k, .string ⟨t.s.toArray⟩, .int .i64 t.n, .int .i64 (t.p : Int)] 83)); (with_reducible refine (MY1.out _ hrd2).mono ?_); rintro e m1 ⟨rfl, hrm1, hgm1⟩; have HRm1 := Lib.hid hrm1; have HGm1 := Lib.hid (Gr.trans (B := w.heap.size) hgd2 hgm1 (by (try simp only [World.size_alloc]); omega)); obtain ⟨hcm1, hfm1⟩ := gcell hgm1; (try simp only [World.size_alloc] at hcm1 hfm1); have hsm1 := hgm1.size; (try simp at hsm1); have hzm1 : w.heap.size < m1.heap.size ∧ w2.heap.size < m1.heap.size := (by omega); clear hrm1 hgm1) | (go_at_call_of 72 (Value.string ⟨#[40]⟩); (with_reducible refine (MY2.out _ HRm1.out).mono ?_); rintro e m2 ⟨rfl, hrm2, hgm2⟩; have HRm2 := Lib.hid hrm2; have HGm2 := Lib.hid (Gr.trans (B := w.heap.size) HGm1.out hgm2 (by (try simp only [World.size_alloc]); omega)); obtain ⟨hcm2, hfm2⟩ := gcell hgm2; (try simp only [World.size_alloc] at hcm2 hfm2); have hsm2 := hgm2.size; (try simp at hsm2); have hzm2 : w.heap.size < m2.heap.size ∧ w2.heap.size < m2.heap.size := (by omega); clear hrm2 hgm2) | (go_at_call_of 72 (Value.string ⟨#[107, 110, 111, 119, 110]⟩); (with_reducible refine (MY3.out _ HRm2.out).mono ?_); rintro e m3 ⟨rfl, hrm3, hgm3⟩; have HRm3 := Lib.hid hrm3; have HGm3 := Lib.hid (Gr.trans (B := w.heap.size) HGm2.out hgm3 (by (try simp only [World.size_alloc]); omega)); obtain ⟨hcm3, hfm3⟩ := gcell hgm3; (try simp only [World.size_alloc] at hcm3 hfm3); have hsm3 := hgm3.size; (try simp at hsm3); have hzm3 : w.heap.size < m3.heap.size ∧ w2.heap.size < m3.heap.size := (by omega); clear hrm3 hgm3) | (go_at_call_of 72 (Value.string ⟨#[116, 114, 117, 101]⟩); (with_reducible refine (MY4.out _ HRm3.out).mono ?_); rintro e m4 ⟨rfl, hrm4, hgm4⟩; have HRm4 := Lib.hid hrm4; have HGm4 := Lib.hid (Gr.trans (B := w.heap.size) HGm3.out hgm4 (by (try simp only [World.size_alloc]); omega)); obtain ⟨hcm4, hfm4⟩ := gcell hgm4; (try simp only [World.size_alloc] at hcm4 hfm4); have hsm4 := hgm4.size; (try simp at hsm4); have hzm4 : w.heap.size < m4.heap.size ∧ w2.heap.size < m4.heap.size := (by omega); clear hrm4 hgm4) | (go_at_call_of 72 (Value.string ⟨#[102, 97, 108, 115, 101]⟩); (with_reducible refine (MY5.out _ HRm4.out).mono ?_); rintro e m5 ⟨rfl, hrm5, hgm5⟩; have HRm5 := Lib.hid hrm5; have HGm5 := Lib.hid (Gr.trans (B := w.heap.size) HGm4.out hgm5 (by (try simp only [World.size_alloc]); omega)); obtain ⟨hcm5, hfm5⟩ := gcell hgm5; (try simp only [World.size_alloc] at hcm5 hfm5); have hsm5 := hgm5.size; (try simp at hsm5); have hzm5 : w.heap.size < m5.heap.size ∧ w2.heap.size < m5.heap.size := (by omega); clear hrm5 hgm5; obtain ⟨p5, hp5, q0, q1, HSTP0⟩ := HST.out m5 (by rw [HLL.out]; exact HRm5.out); have HSTP := Lib.hid (HSTP0 m5 (Below.refl _ _)); clear HSTP0))
              have hgx := HGm5.out
              have hrx := HSTP.out
              exact bodyPost_ret (v := .agg #[.int .i64 1, .int .i64 t.n, .string ⟨#[]⟩, .slice none 0 0]) (by simp [results, Tryz.results125, go_sem, *]) rfl (HQQ.out _ _ (by rw [HN.out]; exact ⟨⟨_, rfl, [.int .i64 1, .int .i64 t.n, .string ⟨#[]⟩, .slice none 0 0], rfl, ev_leaf _ _ _ _ _⟩, (by repeat (first | (with_reducible exact hrx) | ((with_reducible refine RdR.setCell ?_ ?hq1 ?hq2 _); (case hq1 => (first | (simp; done) | (simp; omega) | omega)); (case hq2 => (first | (simp; done) | (simp; omega) | omega))) | (with_reducible refine RdR.alloc ?_ _) | (with_reducible refine RdR.drew ?_) | refine RdR.below ?_ (by assumption))), (by repeat (first | (with_reducible exact Gr.refl _ _ _) | (with_reducible assumption) | ((with_reducible refine Gr.setCell ?_ ?hq1 _); (case hq1 => (first | (right; rfl) | (left; (first | (simp; done) | (simp; omega) | omega))))) | ((with_reducible refine Gr.alloc ?_ ?hq1 _); (case hq1 => (first | (simp; done) | (simp; omega) | omega))) | (with_reducible refine Gr.drew ?_) | exact Gr.of_below (by assumption) | refine Gr.trans ?_ (by assumption) (by first | (simp; done) | (simp; omega) | omega) | refine Gr.below ?_ (by assumption) (by first | (simp; done) | (simp; omega) | omega)))⟩))
            · rw [if_neg h110] at hc
              have ek : (t.k == 110) = false := by simp [h110]
              clear h110
              by_cases h116 : t.k = 116
              · rw [if_pos h116] at hc
                have HN := Lib.hid hc
                have ek2 : (t.k == 116) = true := by simp [h116]
                clear hc h116
                go_enter Tryz.func125, Tryz.ntmps125
                go_wp2_with (first | (go_at_call 31; (with_reducible refine (HE.out _ (HR.out.alloc _)).mono ?_); rintro e w2 ⟨rfl, hb2⟩; obtain ⟨hc2, hf2⟩ := bcell hb2; have hs2 := hb2.size; (try simp at hs2); have hz2 : w.heap.size < w2.heap.size ∧ ¬ w2.heap.size = rb ∧ ¬ rb = w2.heap.size ∧ ¬ w2.heap.size = gt := (by omega)) | (go_at_call_of 72 (Value.string ⟨#[45]⟩); have HR2 := Lib.hid ((HR.out.alloc (.cells #[.int .i64 0, .int .i64 0, .string ⟨#[]⟩, .slice none 0 0] 24)).below hb2); have HGR2 : Hid (Gr w.heap.size rb w w2) := Lib.hid (Gr.below ((Gr.refl _ _ _).alloc (Nat.le_refl _) _) hb2 (by simp)); have hrd2 := (HR2.out.alloc (.cells #[.int .u8 t.k, .string ⟨t.s.toArray⟩, .int .i64 t.n, .int .i64 (t.p : Int)] 83)); have hgd2 := (HGR2.out.alloc (by omega) (.cells #[.int .u8 t.k, .string ⟨t.s.toArray⟩, .int .i64 t.n, .int .i64 (t.p : Int)] 83)); (with_reducible refine (MY1.out _ hrd2).mono ?_); rintro e m1 ⟨rfl, hrm1, hgm1⟩; have HRm1 := Lib.hid hrm1; have HGm1 := Lib.hid (Gr.trans (B := w.heap.size) hgd2 hgm1 (by (try simp only [World.size_alloc]); omega)); obtain ⟨hcm1, hfm1⟩ := gcell hgm1; (try simp only [World.size_alloc] at hcm1 hfm1); have hsm1 := hgm1.size; (try simp at hsm1); have hzm1 : w.heap.size < m1.heap.size ∧ w2.heap.size < m1.heap.size := (by omega); clear hrm1 hgm1) | (go_at_call_of 72 (Value.string ⟨#[40]⟩); (with_reducible refine (MY2.out _ HRm1.out).mono ?_); rintro e m2 ⟨rfl, hrm2, hgm2⟩; have HRm2 := Lib.hid hrm2; have HGm2 := Lib.hid (Gr.trans (B := w.heap.size) HGm1.out hgm2 (by (try simp only [World.size_alloc]); omega)); obtain ⟨hcm2, hfm2⟩ := gcell hgm2; (try simp only [World.size_alloc] at hcm2 hfm2); have hsm2 := hgm2.size; (try simp at hsm2); have hzm2 : w.heap.size < m2.heap.size ∧ w2.heap.size < m2.heap.size := (by omega); clear hrm2 hgm2) | (go_at_call_of 72 (Value.string ⟨#[107, 110, 111, 119, 110]⟩); (with_reducible refine (MY3.out _ HRm2.out).mono ?_); rintro e m3 ⟨rfl, hrm3, hgm3⟩; have HRm3 := Lib.hid hrm3; have HGm3 := Lib.hid (Gr.trans (B := w.heap.size) HGm2.out hgm3 (by (try simp only [World.size_alloc]); omega)); obtain ⟨hcm3, hfm3⟩ := gcell hgm3; (try simp only [World.size_alloc] at hcm3 hfm3); have hsm3 := hgm3.size; (try simp at hsm3); have hzm3 : w.heap.size < m3.heap.size ∧ w2.heap.size < m3.heap.size := (by omega); clear hrm3 hgm3) | (go_at_call_of 72 (Value.string ⟨#[116, 114, 117, 101]⟩); (with_reducible refine (MY4.out _ HRm3.out).mono ?_); rintro e m4 ⟨rfl, hrm4, hgm4⟩; have HRm4 := Lib.hid hrm4; have HGm4 := Lib.hid (Gr.trans (B := w.heap.size) HGm3.out hgm4 (by (try simp only [World.size_alloc]); omega)); obtain ⟨hcm4, hfm4⟩ := gcell hgm4; (try simp only [World.size_alloc] at hcm4 hfm4); have hsm4 := hgm4.size; (try simp at hsm4); have hzm4 : w.heap.size < m4.heap.size ∧ w2.heap.size < m4.heap.size := (by omega); clear hrm4 hgm4) | (go_at_call_of 72 (Value.string ⟨#[102, 97, 108, 115, 101]⟩); (with_reducible refine (MY5.out _ HRm4.out).mono ?_); rintro e m5 ⟨rfl, hrm5, hgm5⟩; have HRm5 := Lib.hid hrm5; have HGm5 := Lib.hid (Gr.trans (B := w.heap.size) HGm4.out hgm5 (by (try simp only [World.size_alloc]); omega)); obtain ⟨hcm5, hfm5⟩ := gcell hgm5; (try simp only [World.size_alloc] at hcm5 hfm5); have hsm5 := hgm5.size; (try simp at hsm5); have hzm5 : w.heap.size < m5.heap.size ∧ w2.heap.size < m5.heap.size := (by omega); clear hrm5 hgm5; obtain ⟨p5, hp5, q0, q1, HSTP0⟩ := HST.out m5 (by rw [HLL.out]; exact HRm5.out); have HSTP := Lib.hid (HSTP0 m5 (Below.refl _ _)); clear HSTP0))
                have hgx := HGm5.out
                have hrx := HSTP.out
                exact bodyPost_ret (v := .agg #[.int .i64 2, .int .i64 0, .string ⟨t.s.toArray⟩, .slice none 0 0]) (by simp [results, Tryz.results125, go_sem, *]) rfl (HQQ.out _ _ (by rw [HN.out]; exact ⟨⟨_, rfl, [.int .i64 2, .int .i64 0, .string ⟨t.s.toArray⟩, .slice none 0 0], rfl, ev_leaf _ _ _ _ _⟩, (by repeat (first | (with_reducible exact hrx) | ((with_reducible refine RdR.setCell ?_ ?hq1 ?hq2 _); (case hq1 => (first | (simp; done) | (simp; omega) | omega)); (case hq2 => (first | (simp; done) | (simp; omega) | omega))) | (with_reducible refine RdR.alloc ?_ _) | (with_reducible refine RdR.drew ?_) | refine RdR.below ?_ (by assumption))), (by repeat (first | (with_reducible exact Gr.refl _ _ _) | (with_reducible assumption) | ((with_reducible refine Gr.setCell ?_ ?hq1 _); (case hq1 => (first | (right; rfl) | (left; (first | (simp; done) | (simp; omega) | omega))))) | ((with_reducible refine Gr.alloc ?_ ?hq1 _); (case hq1 => (first | (simp; done) | (simp; omega) | omega))) | (with_reducible refine Gr.drew ?_) | exact Gr.of_below (by assumption) | refine Gr.trans ?_ (by assumption) (by first | (simp; done) | (simp; omega) | omega) | refine Gr.below ?_ (by assumption) (by first | (simp; done) | (simp; omega) | omega)))⟩))
              · rw [if_neg h116] at hc
                have ek2 : (t.k == 116) = false := by simp [h116]
                rw [HLL.out] at hc
                have NMA := Lib.hid (fun W R' => nameR_any rb gt L HES.out.1.ne HES.out.2 W R')
                clear h116
                go_enter Tryz.func125, Tryz.ntmps125
                go_wp2_with (first | (go_at_call 31; (with_reducible refine (HE.out _ (HR.out.alloc _)).mono ?_); rintro e w2 ⟨rfl, hb2⟩; obtain ⟨hc2, hf2⟩ := bcell hb2; have hs2 := hb2.size; (try simp at hs2); have hz2 : w.heap.size < w2.heap.size ∧ ¬ w2.heap.size = rb ∧ ¬ rb = w2.heap.size ∧ ¬ w2.heap.size = gt := (by omega)) | (go_at_call_of 72 (Value.string ⟨#[45]⟩); have HR2 := Lib.hid ((HR.out.alloc (.cells #[.int .i64 0, .int .i64 0, .string ⟨#[]⟩, .slice none 0 0] 24)).below hb2); have HGR2 : Hid (Gr w.heap.size rb w w2) := Lib.hid (Gr.below ((Gr.refl _ _ _).alloc (Nat.le_refl _) _) hb2 (by simp)); have hrd2 := (HR2.out.alloc (.cells #[.int .u8 t.k, .string ⟨t.s.toArray⟩, .int .i64 t.n, .int .i64 (t.p : Int)] 83)); have hgd2 := (HGR2.out.alloc (by omega) (.cells #[.int .u8 t.k, .string ⟨t.s.toArray⟩, .int .i64 t.n, .int .i64 (t.p : Int)] 83)); (with_reducible refine (MY1.out _ hrd2).mono ?_); rintro e m1 ⟨rfl, hrm1, hgm1⟩; have HRm1 := Lib.hid hrm1; have HGm1 := Lib.hid (Gr.trans (B := w.heap.size) hgd2 hgm1 (by (try simp only [World.size_alloc]); omega)); obtain ⟨hcm1, hfm1⟩ := gcell hgm1; (try simp only [World.size_alloc] at hcm1 hfm1); have hsm1 := hgm1.size; (try simp at hsm1); have hzm1 : w.heap.size < m1.heap.size ∧ w2.heap.size < m1.heap.size := (by omega); clear hrm1 hgm1) | (go_at_call_of 72 (Value.string ⟨#[40]⟩); (with_reducible refine (MY2.out _ HRm1.out).mono ?_); rintro e m2 ⟨rfl, hrm2, hgm2⟩; have HRm2 := Lib.hid hrm2; have HGm2 := Lib.hid (Gr.trans (B := w.heap.size) HGm1.out hgm2 (by (try simp only [World.size_alloc]); omega)); obtain ⟨hcm2, hfm2⟩ := gcell hgm2; (try simp only [World.size_alloc] at hcm2 hfm2); have hsm2 := hgm2.size; (try simp at hsm2); have hzm2 : w.heap.size < m2.heap.size ∧ w2.heap.size < m2.heap.size := (by omega); clear hrm2 hgm2) | (go_at_call_of 72 (Value.string ⟨#[107, 110, 111, 119, 110]⟩); (with_reducible refine (MY3.out _ HRm2.out).mono ?_); rintro e m3 ⟨rfl, hrm3, hgm3⟩; have HRm3 := Lib.hid hrm3; have HGm3 := Lib.hid (Gr.trans (B := w.heap.size) HGm2.out hgm3 (by (try simp only [World.size_alloc]); omega)); obtain ⟨hcm3, hfm3⟩ := gcell hgm3; (try simp only [World.size_alloc] at hcm3 hfm3); have hsm3 := hgm3.size; (try simp at hsm3); have hzm3 : w.heap.size < m3.heap.size ∧ w2.heap.size < m3.heap.size := (by omega); clear hrm3 hgm3) | (go_at_call_of 72 (Value.string ⟨#[116, 114, 117, 101]⟩); (with_reducible refine (MY4.out _ HRm3.out).mono ?_); rintro e m4 ⟨rfl, hrm4, hgm4⟩; have HRm4 := Lib.hid hrm4; have HGm4 := Lib.hid (Gr.trans (B := w.heap.size) HGm3.out hgm4 (by (try simp only [World.size_alloc]); omega)); obtain ⟨hcm4, hfm4⟩ := gcell hgm4; (try simp only [World.size_alloc] at hcm4 hfm4); have hsm4 := hgm4.size; (try simp at hsm4); have hzm4 : w.heap.size < m4.heap.size ∧ w2.heap.size < m4.heap.size := (by omega); clear hrm4 hgm4) | (go_at_call_of 72 (Value.string ⟨#[102, 97, 108, 115, 101]⟩); (with_reducible refine (MY5.out _ HRm4.out).mono ?_); rintro e m5 ⟨rfl, hrm5, hgm5⟩; have HRm5 := Lib.hid hrm5; have HGm5 := Lib.hid (Gr.trans (B := w.heap.size) HGm4.out hgm5 (by (try simp only [World.size_alloc]); omega)); obtain ⟨hcm5, hfm5⟩ := gcell hgm5; (try simp only [World.size_alloc] at hcm5 hfm5); have hsm5 := hgm5.size; (try simp at hsm5); have hzm5 : w.heap.size < m5.heap.size ∧ w2.heap.size < m5.heap.size := (by omega); clear hrm5 hgm5))
                go_at_call 70
                refine (NMA.out _ HRm5.out).mono ?_
                rintro e w5 hP
                cases hp : nmF L with
                | no p er =>
                  rw [hp] at hP hc
                  obtain ⟨rfl, hg5⟩ := hP
                  have HN : Hid (X = PR.no p er) := Lib.hid hc
                  clear hc hp
                  go_wp2
                  exact ⟨rfl, HQQ.out _ _ (by rw [HN.out]; exact ⟨rfl, HGm5.out.trans hg5 (by omega)⟩)⟩
                | ok s r5 =>
                  rw [hp] at hP hc
                  obtain ⟨⟨V5, rfl, hV5⟩, hR5, hg5⟩ := hP
                  obtain rfl := hV5
                  dsimp only [PR.bind] at hc
                  have HN := Lib.hid hc
                  have hs5 := hg5.size
                  obtain ⟨hc5, hf5⟩ := gcell hg5
                  have hz5 : w.heap.size < w5.heap.size := by omega
                  have HG5 := Lib.hid (HGm5.out.trans hg5 HGm5.out.size)
                  clear hc hp hg5
                  go_wp2
                  have hg5' := HG5.out
                  have hR5' := hR5
                  exact bodyPost_ret (v := .agg #[.int .i64 4, .int .i64 0, .string ⟨s.toArray⟩, .slice none 0 0]) (by simp [results, Tryz.results125, go_sem, *]) rfl (HQQ.out _ _ (by rw [HN.out]; exact ⟨⟨_, rfl, [.int .i64 4, .int .i64 0, .string ⟨s.toArray⟩, .slice none 0 0], rfl, ev_leaf _ _ _ _ _⟩, (by repeat (first | (with_reducible exact hR5') | ((with_reducible refine RdR.setCell ?_ ?hq1 ?hq2 _); (case hq1 => (first | (simp; done) | (simp; omega) | omega)); (case hq2 => (first | (simp; done) | (simp; omega) | omega))) | (with_reducible refine RdR.alloc ?_ _) | (with_reducible refine RdR.drew ?_) | refine RdR.below ?_ (by assumption))), (by repeat (first | (with_reducible exact Gr.refl _ _ _) | (with_reducible assumption) | ((with_reducible refine Gr.setCell ?_ ?hq1 _); (case hq1 => (first | (right; rfl) | (left; (first | (simp; done) | (simp; omega) | omega))))) | ((with_reducible refine Gr.alloc ?_ ?hq1 _); (case hq1 => (first | (simp; done) | (simp; omega) | omega))) | (with_reducible refine Gr.drew ?_) | exact Gr.of_below (by assumption) | refine Gr.trans ?_ (by assumption) (by first | (simp; done) | (simp; omega) | omega) | refine Gr.below ?_ (by assumption) (by first | (simp; done) | (simp; omega) | omega)))⟩))
end Go.Proofs.YtnjlggleaocbdaaGreatDoor
