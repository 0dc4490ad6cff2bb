/-
  Contract of the reader's two: conditions with a word between. (Printed by tools/mksk2.py.)
-/
import Derived.Test.YtijlifdbjhieaaaGreatDoorSk1
import Derived.Deep.LoopGhost
namespace Go.Proofs.YtijlifdbjhieaaaGreatDoor
set_option linter.all false
open Go.RowKit Go.Shelf
attribute [local go_sem] cell_set_self lt_1 lt_2 lt_3 lt_4 lt_5 lt_6 fld_k fld_s fld_n fld_p

def encC (w : World) : CondT → World → Value → Prop := fun t W V => ∃ cs, V = .agg cs.toArray ∧ CV (fun b => w.heap.size ≤ b) W t cs
def zeroC : Array Value := #[.int .i64 0, .slice none 0 0, .string ⟨#[]⟩, .int .i64 0, .int .i64 0, .string ⟨#[]⟩, .string ⟨#[]⟩, .int .i64 0, .int .i64 0, .string ⟨#[]⟩]
theorem loop_no {part : List Tok → PR CondT} {op : Int} {w : List UInt8} {n : Nat} {c : CondT} {ts : List Tok} (h : mayF w ts = none) : loopF part op w n c ts = .ok c ts := by
  conv => lhs; rw [loopF.eq_def]
  simp only [h]
theorem loop_yes {part : List Tok → PR CondT} {op : Int} {w : List UInt8} {n : Nat} {c : CondT} {ts r : List Tok} (h : mayF w ts = some r) : loopF part op w (n + 1) c ts = (part r).bind fun d r' => loopF part op w n (.mk op [c, d] term0 term0) r' := by
  conv => lhs; rw [loopF.eq_def]
  simp only [h]
/-- Ten cells of a block, read. -/
theorem ten_cells {w : World} {b : Nat} {v0 v1 v2 v3 v4 v5 v6 v7 v8 v9 : Value} {t : TypeId} (h : w.heap[b]? = some (.cells #[v0, v1, v2, v3, v4, v5, v6, v7, v8, v9] t (0, 0))) :
    (w.cell? ⟨b, 0, none⟩ = some v0 ∧ w.cell? ⟨b, 1, none⟩ = some v1 ∧ w.cell? ⟨b, 2, none⟩ = some v2 ∧ w.cell? ⟨b, 3, none⟩ = some v3 ∧ w.cell? ⟨b, 4, none⟩ = some v4 ∧ w.cell? ⟨b, 5, none⟩ = some v5 ∧ w.cell? ⟨b, 6, none⟩ = some v6 ∧ w.cell? ⟨b, 7, none⟩ = some v7 ∧ w.cell? ⟨b, 8, none⟩ = some v8 ∧ w.cell? ⟨b, 9, none⟩ = some v9) ∧ ∀ o, w.frozen? ⟨b, o, none⟩ = false := by
  refine ⟨by simp [World.cell?, h], fun o => by simp [World.frozen?, h]⟩
theorem set_at {w : World} {b : Nat} {cs : Array Value} {t : TypeId} {fz : Nat × Nat} (h : w.heap[b]? = some (.cells cs t fz)) (o : Nat) (v : Value) : (w.setCell ⟨b, o, none⟩ v).heap[b]? = some (.cells (cs.setIfInBounds o v) t fz) := by
  simp [World.setCell, Array.getElem?_modify, h]
theorem ten_set {w : World} {b : Nat} {u0 u1 u2 u3 u4 u5 u6 u7 u8 u9 : Value} {t : TypeId} (h : w.heap[b]? = some (.cells #[u0, u1, u2, u3, u4, u5, u6, u7, u8, u9] t (0, 0))) (v0 v1 v2 v3 v4 v5 v6 v7 v8 v9 : Value) :
    ((((((((((w.setCell ⟨b, 0, none⟩ v0).setCell ⟨b, 1, none⟩ v1).setCell ⟨b, 2, none⟩ v2).setCell ⟨b, 3, none⟩ v3).setCell ⟨b, 4, none⟩ v4).setCell ⟨b, 5, none⟩ v5).setCell ⟨b, 6, none⟩ v6).setCell ⟨b, 7, none⟩ v7).setCell ⟨b, 8, none⟩ v8).setCell ⟨b, 9, none⟩ v9).heap[b]? = some (.cells #[v0, v1, v2, v3, v4, v5, v6, v7, v8, v9] t (0, 0)) := by
  have h9 := set_at (set_at (set_at (set_at (set_at (set_at (set_at (set_at (set_at (set_at h 0 v0) 1 v1) 2 v2) 3 v3) 4 v4) 5 v5) 6 v6) 7 v7) 8 v8) 9 v9
  simpa using h9
set_option maxHeartbeats 16000000 in
set_option maxRecDepth 100000 in
theorem twoOr_any (rb gt : Nat) (part : List Tok → PR CondT) (tk : Takes part) (r0 : List Tok) (w : World) (R0 : RdR w rb gt r0) (hE : EndsT r0) (hS : ShortT r0)
    (hp : ∀ r W, EndsT r → ShortT r → r.length ≤ r0.length → RdR W rb gt r → Calls Tryz.prog 102 #[.pointer (some ⟨rb, 0, none⟩)] W (POut rb gt W (encC W) (part r))) :
    Calls Tryz.prog 101 #[.pointer (some ⟨rb, 0, none⟩), .int .i64 1, .string ⟨wOr.toArray⟩, .func (.func 102) #[.pointer (some ⟨rb, 0, none⟩)] #[]] w (POut rb gt w (encC w) ((part r0).bind fun c r => loopF part 1 wOr r.length c r)) := by
  suffices key : ∀ Q : Ending → World → Prop, Hid (∀ e w', POut rb gt w (encC w) ((part r0).bind fun c r => loopF part 1 wOr r.length c r) e w' → Q e w') → Calls Tryz.prog 101 #[.pointer (some ⟨rb, 0, none⟩), .int .i64 1, .string ⟨wOr.toArray⟩, .func (.func 102) #[.pointer (some ⟨rb, 0, none⟩)] #[]] w Q from key _ (Lib.hid fun _ _ h => h)
  intro Q HQQ
  obtain ⟨X, hX⟩ : ∃ X, ((part r0).bind fun c r => loopF part 1 wOr r.length c r) = X := ⟨_, rfl⟩
  rw [hX] at HQQ
  have HP := Lib.hid hp
  have HX := Lib.hid hX
  have HR := Lib.hid R0
  have HES := Lib.hid (And.intro hE hS)
  obtain ⟨hrb, hgt, -⟩ := R0.lens
  have MY := Lib.hid (fun r hr W R' => may_any rb gt wOr r hr W R')
  have TK := Lib.hid tk
  have hn0 : ¬ w.heap.size = rb ∧ ¬ rb = w.heap.size ∧ ¬ w.heap.size = gt := by omega
  clear hX hp R0 hE hS tk
  go_enter Tryz.func101, Tryz.ntmps101
  go_wp2_with (fail)
  go_at_call 102
  refine (HP.out r0 _ HES.out.1 HES.out.2 (Nat.le_refl _) (HR.out.alloc _)).mono ?_
  rintro e w5 hP
  cases hp : part r0 with
  | no p er =>
    rw [hp] at hP
    obtain ⟨rfl, hg5⟩ := hP
    have HN : Hid (PR.no p er = X) := Lib.hid (by have h := HX.out; rw [hp] at h; exact h)
    clear hp
    go_wp2
    exact ⟨rfl, HQQ.out _ _ (by rw [← HN.out]; exact ⟨rfl, (by repeat (first | (with_reducible exact Gr.refl _ _ _) | (with_reducible assumption) | ((with_reducible refine Gr.setCell ?_ ?hq1 _); (case hq1 => (first | (right; rfl) | (left; (first | (simp; done) | (simp; omega) | omega))))) | ((with_reducible refine Gr.alloc ?_ ?hq1 _); (case hq1 => (first | (simp; done) | (simp; omega) | omega))) | (with_reducible refine Gr.drew ?_) | exact Gr.of_below (by assumption) | refine Gr.trans ?_ (by assumption) (by first | (simp; done) | (simp; omega) | omega) | refine Gr.below ?_ (by assumption) (by first | (simp; done) | (simp; omega) | omega)))⟩)⟩
  | ok c5 r5 =>
    rw [hp] at hP
    obtain ⟨⟨V5, rfl, cs5, rfl, hcv5⟩, hR5, hg5⟩ := hP
    have hx5 := HX.out
    rw [hp] at hx5
    dsimp only [PR.bind] at hx5
    have HX5 := Lib.hid hx5
    have hT := TK.out _ _ _ hp
    have hs5 := hg5.size
    simp at hs5
    have hz8 : w5.heap[w.heap.size]? = some (.cells zeroC 27 (0, 0)) := (hg5.block _ (by simp) hn0.1).trans (heap_alloc_new w _)
    have HZ := Lib.hid hz8
    have hE5 : Hid (EndsT r5 ∧ ShortT r5) := Lib.hid ⟨hT.2.1 HES.out.1, hT.2.2 HES.out.2⟩
    have hl5 := hT.1
    have HG5 : Hid (Gr w.heap.size rb w w5) := Lib.hid (((Gr.refl _ _ _).alloc (Nat.le_refl _) _).trans hg5 (by simp))
    have HR5 := Lib.hid hR5
    have HC5 := Lib.hid hcv5
    obtain ⟨op5, args5, ⟨lc5, lt5, ln5, ls5⟩, ⟨rc5, rt5, rn5, rs5⟩⟩ := c5
    have hcv5' := hcv5
    unfold CV at hcv5'
    obtain ⟨A5, cc5, rfl, -⟩ := hcv5'
    dsimp only [condC, termC, List.cons_append, List.nil_append]
    clear hx5 hT hz8 hg5 hR5 hp hcv5
    go_wp2_with (fail)
    generalize hb9 : w5.heap.size = b9 at *
    have HI0 : Hid ((w5.alloc (.cells #[.int .i64 op5, .slice A5 args5.length cc5, .string ⟨lc5.toArray⟩, .int .i64 lt5, .int .i64 ln5, .string ⟨ls5.toArray⟩, .string ⟨rc5.toArray⟩, .int .i64 rt5, .int .i64 rn5, .string ⟨rs5.toArray⟩] 27)).heap[b9]? = some (.cells [.int .i64 op5, .slice A5 args5.length cc5, .string ⟨lc5.toArray⟩, .int .i64 lt5, .int .i64 ln5, .string ⟨ls5.toArray⟩, .string ⟨rc5.toArray⟩, .int .i64 rt5, .int .i64 rn5, .string ⟨rs5.toArray⟩].toArray 27 (0, 0)) ∧ CV (fun b => w.heap.size < b ∧ ¬ b = b9) (w5.alloc (.cells #[.int .i64 op5, .slice A5 args5.length cc5, .string ⟨lc5.toArray⟩, .int .i64 lt5, .int .i64 ln5, .string ⟨ls5.toArray⟩, .string ⟨rc5.toArray⟩, .int .i64 rt5, .int .i64 rn5, .string ⟨rs5.toArray⟩] 27)) (.mk op5 args5 ⟨lc5, lt5, ln5, ls5⟩ ⟨rc5, rt5, rn5, rs5⟩) [.int .i64 op5, .slice A5 args5.length cc5, .string ⟨lc5.toArray⟩, .int .i64 lt5, .int .i64 ln5, .string ⟨ls5.toArray⟩, .string ⟨rc5.toArray⟩, .int .i64 rt5, .int .i64 rn5, .string ⟨rs5.toArray⟩]) := Lib.hid ⟨by subst hb9; exact heap_alloc_new w5 _, (HC5.out.mono (P' := fun b => w.heap.size < b ∧ ¬ b = b9) (fun b h1 h2 => ⟨by simp at h2; omega, by omega⟩)).keep ((Kp.refl _ _).alloc _)⟩
    have HG0 : Hid (Gr w.heap.size rb w (w5.alloc (.cells #[.int .i64 op5, .slice A5 args5.length cc5, .string ⟨lc5.toArray⟩, .int .i64 lt5, .int .i64 ln5, .string ⟨ls5.toArray⟩, .string ⟨rc5.toArray⟩, .int .i64 rt5, .int .i64 rn5, .string ⟨rs5.toArray⟩] 27)) ∧ (w5.alloc (.cells #[.int .i64 op5, .slice A5 args5.length cc5, .string ⟨lc5.toArray⟩, .int .i64 lt5, .int .i64 ln5, .string ⟨ls5.toArray⟩, .string ⟨rc5.toArray⟩, .int .i64 rt5, .int .i64 rn5, .string ⟨rs5.toArray⟩] 27)).heap[w.heap.size]? = some (.cells zeroC 27 (0, 0)) ∧ b9 < (w5.alloc (.cells #[.int .i64 op5, .slice A5 args5.length cc5, .string ⟨lc5.toArray⟩, .int .i64 lt5, .int .i64 ln5, .string ⟨ls5.toArray⟩, .string ⟨rc5.toArray⟩, .int .i64 rt5, .int .i64 rn5, .string ⟨rs5.toArray⟩] 27)).heap.size) := Lib.hid ⟨HG5.out.alloc (by omega) _, (((Below.refl w5.heap.size w5).alloc (Nat.le_refl _) _).block _ (by omega)).trans HZ.out, by simp; omega⟩
    have HS0 := Lib.hid hb9
    clear hb9
    have hb9' : ¬ b9 = rb ∧ ¬ rb = b9 ∧ ¬ b9 = gt ∧ ¬ b9 = w.heap.size ∧ ¬ w.heap.size = b9 ∧ w.heap.size < b9 := by omega
    go_loopg [] r5.length (fun g wx => ∃ (t : CondT) (cs : List Value) (r : List Tok) (n : Nat), g = r.length ∧ r.length ≤ n ∧ r.length ≤ r0.length ∧ Hid (loopF part 1 wOr n t r = X) ∧ Hid (EndsT r ∧ ShortT r ∧ RdR wx rb gt r) ∧ Hid (wx.heap[b9]? = some (.cells cs.toArray 27 (0, 0)) ∧ CV (fun b => w.heap.size < b ∧ ¬ b = b9) wx t cs) ∧ Hid (Gr w.heap.size rb w wx ∧ wx.heap[w.heap.size]? = some (.cells zeroC 27 (0, 0)) ∧ b9 < wx.heap.size))
    case atStart => exact ⟨_, _, r5, r5.length, rfl, Nat.le_refl _, hl5, HX5, Lib.hid ⟨hE5.out.1, hE5.out.2, HR5.out.alloc _⟩, HI0, HG0⟩
    case round =>
      obtain ⟨t, cs, r, n, hgl, hrn, hrl, HM, HI, HC, HG⟩ := hrel
      obtain ⟨wo, rfl⟩ : ∃ wo : World, wo = wr := ⟨_, rfl⟩
      subst hgl
      have hne := HI.out.1.ne
      have MYr := Lib.hid (fun W R' => MY.out r hne W R')
      obtain ⟨op, args, ⟨lc, lt, ln, ls⟩, ⟨rc, rt, rn, rs⟩⟩ := t
      have hcv := HC.out.2
      unfold CV at hcv
      obtain ⟨A, cc, rfl, -⟩ := hcv
      have hk := HC.out.1
      dsimp only [condC, termC, List.cons_append, List.nil_append] at hk
      obtain ⟨⟨k0, k1, k2, k3, k4, k5, k6, k7, k8, k9⟩, kf⟩ := ten_cells hk
      obtain ⟨⟨z0, z1, z2, z3, z4, z5, z6, z7, z8, z9⟩, zf⟩ := ten_cells HG.out.2.1
      have hlt9 := HG.out.2.2
      have hso := HG.out.1.size
      clear hk hne
      cases hm : mayF wOr r with
      | none =>
        have HN : Hid (PR.ok (.mk op args ⟨lc, lt, ln, ls⟩ ⟨rc, rt, rn, rs⟩) r = X) := Lib.hid (by rw [← HM.out, loop_no hm])
        rw [(may_no hm).1, (may_no hm).2] at MYr
        clear hm
        go_wp2_with (first | (go_at_call 62; (with_reducible refine (MYr.out _ HI.out.2.2).mono ?_); rintro e w6 ⟨rfl, hR6, hg6⟩; have hs6 := hg6.size; obtain ⟨hc6, hf6⟩ := gcell hg6; have hz6 : w.heap.size < wo.heap.size ∧ w.heap.size < w6.heap.size ∧ b9 < w6.heap.size := (by omega)))
        have hgo := HG.out.1
        have HR6 := Lib.hid hR6
        have hR6' := hR6
        have hcv := HC.out.2
        exact bodyPost_ret (v := .agg #[.int .i64 op, .slice A args.length cc, .string ⟨lc.toArray⟩, .int .i64 lt, .int .i64 ln, .string ⟨ls.toArray⟩, .string ⟨rc.toArray⟩, .int .i64 rt, .int .i64 rn, .string ⟨rs.toArray⟩]) (by simp [results, Tryz.results101, go_sem, *]) rfl (HQQ.out _ _ (by rw [← HN.out]; exact ⟨⟨_, rfl, _, rfl, (hcv.keep (by repeat (first | (with_reducible exact Kp.refl _ _) | (with_reducible assumption) | ((with_reducible refine Kp.set ?_ ?hq1 _); (case hq1 => (first | (simp; done) | (simp; omega) | (dsimp only; omega)))) | (with_reducible refine Kp.alloc ?_ _) | (with_reducible refine Kp.drew ?_) | refine Kp.trans ?_ (Kp.gr (by assumption) (by first | (simp; done) | (simp; omega) | (dsimp only; omega)))))).mono (fun b h1 h2 => by (try dsimp only at h2 ⊢); omega)⟩, (by repeat (first | (with_reducible exact hR6') | ((with_reducible refine RdR.setCell ?_ ?hq1 ?hq2 _); (case hq1 => (first | (simp; done) | (simp; omega) | omega)); (case hq2 => (first | (simp; done) | (simp; omega) | omega))) | (with_reducible refine RdR.alloc ?_ _) | (with_reducible refine RdR.drew ?_) | refine RdR.below ?_ (by assumption))), (by repeat (first | (with_reducible exact Gr.refl _ _ _) | (with_reducible assumption) | ((with_reducible refine Gr.setCell ?_ ?hq1 _); (case hq1 => (first | (right; rfl) | (left; (first | (simp; done) | (simp; omega) | omega))))) | ((with_reducible refine Gr.alloc ?_ ?hq1 _); (case hq1 => (first | (simp; done) | (simp; omega) | omega))) | (with_reducible refine Gr.drew ?_) | exact Gr.of_below (by assumption) | refine Gr.trans ?_ (by assumption) (by first | (simp; done) | (simp; omega) | omega) | refine Gr.below ?_ (by assumption) (by first | (simp; done) | (simp; omega) | omega)))⟩))
      | some r2 =>
        obtain ⟨n', rfl⟩ : ∃ n', n = n' + 1 := ⟨n - 1, by have := (may_len hm).1; omega⟩
        have HX2 : Hid ((part r2).bind (fun d r' => loopF part 1 wOr n' (.mk 1 [.mk op args ⟨lc, lt, ln, ls⟩ ⟨rc, rt, rn, rs⟩, d] term0 term0) r') = X) := Lib.hid (by rw [← HM.out, loop_yes hm])
        rw [(may_yes hm).1, (may_yes hm).2] at MYr
        have hml := (may_len hm).1
        have HE2 : Hid (EndsT r2 ∧ ShortT r2) := Lib.hid ⟨may_ends hm HI.out.1, (may_len hm).2 HI.out.2.1⟩
        clear hm
        go_wp2_with (first | (go_at_call 62; (with_reducible refine (MYr.out _ HI.out.2.2).mono ?_); rintro e w6 ⟨rfl, hR6, hg6⟩; have hs6 := hg6.size; obtain ⟨hc6, hf6⟩ := gcell hg6; have hz6 : w.heap.size < wo.heap.size ∧ w.heap.size < w6.heap.size ∧ b9 < w6.heap.size := (by omega)))
        have hR6' := hR6
        have PT0 := fun W R' => HP.out r2 W HE2.out.1 HE2.out.2 (by omega) R'
        cases hp : part r2 with
        | no p er =>
          rw [hp] at PT0
          have PT := Lib.hid (fun W R' => (show Calls Tryz.prog 102 #[.pointer (some ⟨rb, 0, none⟩)] W (fun e w' => e = .panicked (fltP p er) ∧ Gr W.heap.size rb W w') from PT0 W R'))
          have HN : Hid (PR.no p er = X) := Lib.hid (by have h := HX2.out; rw [hp] at h; exact h)
          clear PT0 hp
          have hgo := HG.out.1
          have HGO : Hid (Gr w.heap.size rb w w6) := Lib.hid (by repeat (first | (with_reducible exact Gr.refl _ _ _) | (with_reducible assumption) | ((with_reducible refine Gr.setCell ?_ ?hq1 _); (case hq1 => (first | (right; rfl) | (left; (first | (simp; done) | (simp; omega) | omega))))) | ((with_reducible refine Gr.alloc ?_ ?hq1 _); (case hq1 => (first | (simp; done) | (simp; omega) | omega))) | (with_reducible refine Gr.drew ?_) | exact Gr.of_below (by assumption) | refine Gr.trans ?_ (by assumption) (by first | (simp; done) | (simp; omega) | omega) | refine Gr.below ?_ (by assumption) (by first | (simp; done) | (simp; omega) | omega)))
          have HR6 := Lib.hid hR6
          refine wp_region_held_drew (S := (fun W' => W'.cell? ⟨b9, 0, none⟩ = some (.int .i64 op) ∧ W'.cell? ⟨b9, 1, none⟩ = some (.slice A args.length cc) ∧ W'.cell? ⟨b9, 2, none⟩ = some (.string ⟨lc.toArray⟩) ∧ W'.cell? ⟨b9, 3, none⟩ = some (.int .i64 lt) ∧ W'.cell? ⟨b9, 4, none⟩ = some (.int .i64 ln) ∧ W'.cell? ⟨b9, 5, none⟩ = some (.string ⟨ls.toArray⟩) ∧ W'.cell? ⟨b9, 6, none⟩ = some (.string ⟨rc.toArray⟩) ∧ W'.cell? ⟨b9, 7, none⟩ = some (.int .i64 rt) ∧ W'.cell? ⟨b9, 8, none⟩ = some (.int .i64 rn) ∧ W'.cell? ⟨b9, 9, none⟩ = some (.string ⟨rs.toArray⟩) ∧ Hid (RdR W' rb gt r2) ∧ Hid (Gr w.heap.size rb w W'))) (by kernel_rfl) (by refine ⟨?_, ?_, ?_, ?_, ?_, ?_, ?_, ?_, ?_, ?_, Lib.hid HR6.out.drew, Lib.hid HGO.out.drew⟩ <;> simp [go_sem, *]) fun hS => ?_
          refine wpAnyH_take (i := 0) (v := .int .i64 1) rfl (by kernel_rfl) (by kernel_rfl) (by kernel_rfl) (fun _ _ _ h => h) (Or.inl ⟨by rfl, fun W' hW' => (by go_simp)⟩) hS ?_
          refine wpAnyH_take (i := 1) (v := .agg #[.int .i64 op, .slice A args.length cc, .string ⟨lc.toArray⟩, .int .i64 lt, .int .i64 ln, .string ⟨ls.toArray⟩, .string ⟨rc.toArray⟩, .int .i64 rt, .int .i64 rn, .string ⟨rs.toArray⟩]) rfl (by kernel_rfl) (by kernel_rfl) (by kernel_rfl) (fun _ _ _ h => h) (Or.inl ⟨by rfl, fun W' hW' => (by obtain ⟨s0, s1, s2, s3, s4, s5, s6, s7, s8, s9, -, -⟩ := hW'; simp [go_sem, s0, s1, s2, s3, s4, s5, s6, s7, s8, s9])⟩) hS ?_
          refine wpAnyH_take (i := 2) (v := .func (.func 102) #[.pointer (some ⟨rb, 0, none⟩)] #[]) rfl (by kernel_rfl) (by kernel_rfl) (by kernel_rfl) (fun _ _ _ h => h) (Or.inl ⟨by rfl, fun W' hW' => (by go_simp)⟩) hS ?_
          refine wpAnyH_ready (rs := [3]) (by kernel_rfl) (by simp) ?_
          refine AllReadyH.cons rfl (fun K hK => ?_) AllReadyH.nil
          clear hK
          obtain ⟨-, -, -, -, -, -, -, -, -, -, HRD, HGD⟩ := hS
          go_simp
          go_at_call 102
          refine (PT.out _ HRD.out).mono ?_
          rintro e w7 ⟨rfl, hg7⟩
          exact ⟨rfl, HQQ.out _ _ (by rw [← HN.out]; exact ⟨rfl, HGD.out.trans hg7 HGD.out.size⟩)⟩
        | ok d r3 =>
          rw [hp] at PT0
          have hx3 := HX2.out
          rw [hp] at hx3
          dsimp only [PR.bind] at hx3
          have HX3 := Lib.hid hx3
          have hT := TK.out _ _ _ hp
          obtain ⟨op6, args6, ⟨lc6, lt6, ln6, ls6⟩, ⟨rc6, rt6, rn6, rs6⟩⟩ := d
          have PT := Lib.hid (fun W R' => (PT0 W R').mono (R' := fun e w' => (∃ A6 cc6, e = .returned (.agg #[.int .i64 op6, .slice A6 args6.length cc6, .string ⟨lc6.toArray⟩, .int .i64 lt6, .int .i64 ln6, .string ⟨ls6.toArray⟩, .string ⟨rc6.toArray⟩, .int .i64 rt6, .int .i64 rn6, .string ⟨rs6.toArray⟩]) ∧ Hid (CV (fun b => W.heap.size ≤ b) w' (.mk op6 args6 ⟨lc6, lt6, ln6, ls6⟩ ⟨rc6, rt6, rn6, rs6⟩) [.int .i64 op6, .slice A6 args6.length cc6, .string ⟨lc6.toArray⟩, .int .i64 lt6, .int .i64 ln6, .string ⟨ls6.toArray⟩, .string ⟨rc6.toArray⟩, .int .i64 rt6, .int .i64 rn6, .string ⟨rs6.toArray⟩])) ∧ Hid (RdR w' rb gt r3) ∧ Gr W.heap.size rb W w') (fun e w' h => by
            obtain ⟨⟨V, h1, cs, h2, h3⟩, h4, h5⟩ := h
            have h6 := h3
            unfold CV at h6
            obtain ⟨A6, cc6, h7, -⟩ := h6
            subst h7
            exact ⟨⟨A6, cc6, by rw [h1, h2]; rfl, Lib.hid h3⟩, Lib.hid h4, h5⟩))
          clear PT0 hp hx3
          have hgo := HG.out.1
          have HGO : Hid (Gr w.heap.size rb w w6) := Lib.hid (by repeat (first | (with_reducible exact Gr.refl _ _ _) | (with_reducible assumption) | ((with_reducible refine Gr.setCell ?_ ?hq1 _); (case hq1 => (first | (right; rfl) | (left; (first | (simp; done) | (simp; omega) | omega))))) | ((with_reducible refine Gr.alloc ?_ ?hq1 _); (case hq1 => (first | (simp; done) | (simp; omega) | omega))) | (with_reducible refine Gr.drew ?_) | exact Gr.of_below (by assumption) | refine Gr.trans ?_ (by assumption) (by first | (simp; done) | (simp; omega) | omega) | refine Gr.below ?_ (by assumption) (by first | (simp; done) | (simp; omega) | omega)))
          have HK6 : Hid (w6.heap[b9]? = wo.heap[b9]? ∧ w6.heap[w.heap.size]? = wo.heap[w.heap.size]?) := Lib.hid ⟨hg6.block _ (by omega) hb9'.1, hg6.block _ (by omega) hn0.1⟩
          have HV6 : Hid (CV (fun b => w.heap.size < b ∧ ¬ b = b9) w6 (.mk op args ⟨lc, lt, ln, ls⟩ ⟨rc, rt, rn, rs⟩) [.int .i64 op, .slice A args.length cc, .string ⟨lc.toArray⟩, .int .i64 lt, .int .i64 ln, .string ⟨ls.toArray⟩, .string ⟨rc.toArray⟩, .int .i64 rt, .int .i64 rn, .string ⟨rs.toArray⟩]) := Lib.hid (HC.out.2.keep (Kp.gr hg6 (by omega)))
          clear hgo
          go_region_law (first | (go_simp; go_at_call 102; (with_reducible refine (PT.out _ (by repeat (first | (with_reducible exact hR6') | ((with_reducible refine RdR.setCell ?_ ?hq1 ?hq2 _); (case hq1 => (first | (simp; done) | (simp; omega) | omega)); (case hq2 => (first | (simp; done) | (simp; omega) | omega))) | (with_reducible refine RdR.alloc ?_ _) | (with_reducible refine RdR.drew ?_) | refine RdR.below ?_ (by assumption)))).mono ?_); rintro e w7 ⟨⟨A6, cc6, rfl, hv7⟩, hR7, hg7⟩; have hs7 := hg7.size; (try simp only [drew_size] at hs7); obtain ⟨hc7, hf7⟩ := gcell hg7; (try simp only [drew_size, drew_cell, drew_frozen] at hc7 hf7); have hz7 : w.heap.size < w7.heap.size ∧ b9 < w7.heap.size := (by omega)))
          all_goals (
            go_wp2
            have HG7 : Hid (Gr w.heap.size rb w w7) := Lib.hid (Gr.trans (B := w.heap.size) (Gr.drew HGO.out) hg7 (by simp only [drew_size]; omega))
            have hk7 : w7.heap[b9]? = some (.cells #[.int .i64 op, .slice A args.length cc, .string ⟨lc.toArray⟩, .int .i64 lt, .int .i64 ln, .string ⟨ls.toArray⟩, .string ⟨rc.toArray⟩, .int .i64 rt, .int .i64 rn, .string ⟨rs.toArray⟩] 27 (0, 0)) := by
              rw [hg7.block b9 (by simp only [drew_size]; omega) hb9'.1]
              exact HK6.out.1.trans HC.out.1
            have hk8 : w7.heap[w.heap.size]? = some (.cells zeroC 27 (0, 0)) := by
              rw [hg7.block w.heap.size (by simp only [drew_size]; omega) hn0.1]
              exact HK6.out.2.trans HG.out.2.1
            have hcx : CV (fun b => w.heap.size < b ∧ ¬ b = b9) w7 (.mk op args ⟨lc, lt, ln, ls⟩ ⟨rc, rt, rn, rs⟩) [.int .i64 op, .slice A args.length cc, .string ⟨lc.toArray⟩, .int .i64 lt, .int .i64 ln, .string ⟨ls.toArray⟩, .string ⟨rc.toArray⟩, .int .i64 rt, .int .i64 rn, .string ⟨rs.toArray⟩] := (HV6.out.keep (Kp.drew (Kp.refl _ _))).keep (Kp.gr hg7 (by omega))
            have hcy : CV (fun b => w.heap.size < b ∧ ¬ b = b9) w7 (.mk op6 args6 ⟨lc6, lt6, ln6, ls6⟩ ⟨rc6, rt6, rn6, rs6⟩) [.int .i64 op6, .slice A6 args6.length cc6, .string ⟨lc6.toArray⟩, .int .i64 lt6, .int .i64 ln6, .string ⟨ls6.toArray⟩, .string ⟨rc6.toArray⟩, .int .i64 rt6, .int .i64 rn6, .string ⟨rs6.toArray⟩] := hv7.out.mono (fun b h1 h2 => by simp only [drew_size] at h2; omega)
            have HH := Lib.hid (And.intro hk7 (And.intro hk8 (And.intro hcx hcy)))
            clear hk7 hk8 hcx hcy
            go_roundg r3.length
            case measure => have := hT.1; omega
            case rel =>
              obtain ⟨hk7, hk8, hcx, hcy⟩ := HH.out
              have hgg := HG7.out
              have hrr := hR7.out
              have hn := ten_set hk7 (.int .i64 1) (.slice (some ⟨w7.heap.size, 0, none⟩) 2 2) (.string ⟨#[]⟩) (.int .i64 0) (.int .i64 0) (.string ⟨#[]⟩) (.string ⟨#[]⟩) (.int .i64 0) (.int .i64 0) (.string ⟨#[]⟩)
              have kk : Kp (fun b => w.heap.size < b ∧ ¬ b = b9) w7 ((((((((((((w7.setCell ⟨b9, 0, none⟩ (.int .i64 1)).setCell ⟨b9, 1, none⟩ (.slice (some ⟨w7.heap.size, 0, none⟩) 2 2)).setCell ⟨b9, 2, none⟩ (.string ⟨#[]⟩)).setCell ⟨b9, 3, none⟩ (.int .i64 0)).setCell ⟨b9, 4, none⟩ (.int .i64 0)).setCell ⟨b9, 5, none⟩ (.string ⟨#[]⟩)).setCell ⟨b9, 6, none⟩ (.string ⟨#[]⟩)).setCell ⟨b9, 7, none⟩ (.int .i64 0)).setCell ⟨b9, 8, none⟩ (.int .i64 0)).setCell ⟨b9, 9, none⟩ (.string ⟨#[]⟩)).alloc (.cells #[.int .i64 op, .slice A args.length cc, .string ⟨lc.toArray⟩, .int .i64 lt, .int .i64 ln, .string ⟨ls.toArray⟩, .string ⟨rc.toArray⟩, .int .i64 rt, .int .i64 rn, .string ⟨rs.toArray⟩, .int .i64 op6, .slice A6 args6.length cc6, .string ⟨lc6.toArray⟩, .int .i64 lt6, .int .i64 ln6, .string ⟨ls6.toArray⟩, .string ⟨rc6.toArray⟩, .int .i64 rt6, .int .i64 rn6, .string ⟨rs6.toArray⟩] 27))) := (by repeat (first | (with_reducible exact Kp.refl _ _) | (with_reducible assumption) | ((with_reducible refine Kp.set ?_ ?hq1 _); (case hq1 => (first | (simp; done) | (simp; omega) | (dsimp only; omega)))) | (with_reducible refine Kp.alloc ?_ _) | (with_reducible refine Kp.drew ?_) | refine Kp.trans ?_ (Kp.gr (by assumption) (by first | (simp; done) | (simp; omega) | (dsimp only; omega)))))
              refine ⟨.mk 1 [.mk op args ⟨lc, lt, ln, ls⟩ ⟨rc, rt, rn, rs⟩, .mk op6 args6 ⟨lc6, lt6, ln6, ls6⟩ ⟨rc6, rt6, rn6, rs6⟩] term0 term0, [.int .i64 1, .slice (some ⟨w7.heap.size, 0, none⟩) 2 2, .string ⟨#[]⟩, .int .i64 0, .int .i64 0, .string ⟨#[]⟩, .string ⟨#[]⟩, .int .i64 0, .int .i64 0, .string ⟨#[]⟩], r3, n', rfl, by have := hT.1; omega, by have := hT.1; omega, HX3, Lib.hid ⟨hT.2.1 HE2.out.1, hT.2.2 HE2.out.2, (by repeat (first | (with_reducible exact hrr) | ((with_reducible refine RdR.setCell ?_ ?hq1 ?hq2 _); (case hq1 => (first | (simp; done) | (simp; omega) | omega)); (case hq2 => (first | (simp; done) | (simp; omega) | omega))) | (with_reducible refine RdR.alloc ?_ _) | (with_reducible refine RdR.drew ?_) | refine RdR.below ?_ (by assumption)))⟩, Lib.hid ⟨?_, ?_⟩, Lib.hid ⟨(by repeat (first | (with_reducible exact Gr.refl _ _ _) | (with_reducible assumption) | ((with_reducible refine Gr.setCell ?_ ?hq1 _); (case hq1 => (first | (right; rfl) | (left; (first | (simp; done) | (simp; omega) | omega))))) | ((with_reducible refine Gr.alloc ?_ ?hq1 _); (case hq1 => (first | (simp; done) | (simp; omega) | omega))) | (with_reducible refine Gr.drew ?_) | exact Gr.of_below (by assumption) | refine Gr.trans ?_ (by assumption) (by first | (simp; done) | (simp; omega) | omega) | refine Gr.below ?_ (by assumption) (by first | (simp; done) | (simp; omega) | omega))), ?_, by simp; omega⟩⟩
              · exact (((Below.refl _ _).alloc (Nat.le_refl _) _).block _ (by simp; omega)).trans hn
              · unfold CV
                refine ⟨_, _, rfl, ⟨Nat.le_refl _, by simp⟩, (fun h => by cases h), CVL.two ⟨by omega, by omega⟩ ?_ (hcx.keep kk) (hcy.keep kk)⟩
                have := heap_alloc_new (((((((((((w7.setCell ⟨b9, 0, none⟩ (.int .i64 1)).setCell ⟨b9, 1, none⟩ (.slice (some ⟨w7.heap.size, 0, none⟩) 2 2)).setCell ⟨b9, 2, none⟩ (.string ⟨#[]⟩)).setCell ⟨b9, 3, none⟩ (.int .i64 0)).setCell ⟨b9, 4, none⟩ (.int .i64 0)).setCell ⟨b9, 5, none⟩ (.string ⟨#[]⟩)).setCell ⟨b9, 6, none⟩ (.string ⟨#[]⟩)).setCell ⟨b9, 7, none⟩ (.int .i64 0)).setCell ⟨b9, 8, none⟩ (.int .i64 0)).setCell ⟨b9, 9, none⟩ (.string ⟨#[]⟩))) (.cells #[.int .i64 op, .slice A args.length cc, .string ⟨lc.toArray⟩, .int .i64 lt, .int .i64 ln, .string ⟨ls.toArray⟩, .string ⟨rc.toArray⟩, .int .i64 rt, .int .i64 rn, .string ⟨rs.toArray⟩, .int .i64 op6, .slice A6 args6.length cc6, .string ⟨lc6.toArray⟩, .int .i64 lt6, .int .i64 ln6, .string ⟨ls6.toArray⟩, .string ⟨rc6.toArray⟩, .int .i64 rt6, .int .i64 rn6, .string ⟨rs6.toArray⟩] 27)
                simpa using this
              · rw [((Below.refl _ _).alloc (Nat.le_refl _) _).block _ (by simp; omega)]
                repeat rw [setCell_block _ _ _ _ hb9'.2.2.2.2.1]
                exact hk8)
set_option maxHeartbeats 16000000 in
set_option maxRecDepth 100000 in
theorem twoAnd_any (rb gt : Nat) (part : List Tok → PR CondT) (tk : Takes part) (r0 : List Tok) (w : World) (R0 : RdR w rb gt r0) (hE : EndsT r0) (hS : ShortT r0)
    (hp : ∀ r W, EndsT r → ShortT r → r.length ≤ r0.length → RdR W rb gt r → Calls Tryz.prog 117 #[.pointer (some ⟨rb, 0, none⟩)] W (POut rb gt W (encC W) (part r))) :
    Calls Tryz.prog 101 #[.pointer (some ⟨rb, 0, none⟩), .int .i64 2, .string ⟨wAnd.toArray⟩, .func (.func 117) #[.pointer (some ⟨rb, 0, none⟩)] #[]] w (POut rb gt w (encC w) ((part r0).bind fun c r => loopF part 2 wAnd r.length c r)) := by
  suffices key : ∀ Q : Ending → World → Prop, Hid (∀ e w', POut rb gt w (encC w) ((part r0).bind fun c r => loopF part 2 wAnd r.length c r) e w' → Q e w') → Calls Tryz.prog 101 #[.pointer (some ⟨rb, 0, none⟩), .int .i64 2, .string ⟨wAnd.toArray⟩, .func (.func 117) #[.pointer (some ⟨rb, 0, none⟩)] #[]] w Q from key _ (Lib.hid fun _ _ h => h)
  intro Q HQQ
  obtain ⟨X, hX⟩ : ∃ X, ((part r0).bind fun c r => loopF part 2 wAnd r.length c r) = X := ⟨_, rfl⟩
  rw [hX] at HQQ
  have HP := Lib.hid hp
  have HX := Lib.hid hX
  have HR := Lib.hid R0
  have HES := Lib.hid (And.intro hE hS)
  obtain ⟨hrb, hgt, -⟩ := R0.lens
  have MY := Lib.hid (fun r hr W R' => may_any rb gt wAnd r hr W R')
  have TK := Lib.hid tk
  have hn0 : ¬ w.heap.size = rb ∧ ¬ rb = w.heap.size ∧ ¬ w.heap.size = gt := by omega
  clear hX hp R0 hE hS tk
  go_enter Tryz.func101, Tryz.ntmps101
  go_wp2_with (fail)
  go_at_call 117
  refine (HP.out r0 _ HES.out.1 HES.out.2 (Nat.le_refl _) (HR.out.alloc _)).mono ?_
  rintro e w5 hP
  cases hp : part r0 with
  | no p er =>
    rw [hp] at hP
    obtain ⟨rfl, hg5⟩ := hP
    have HN : Hid (PR.no p er = X) := Lib.hid (by have h := HX.out; rw [hp] at h; exact h)
    clear hp
    go_wp2
    exact ⟨rfl, HQQ.out _ _ (by rw [← HN.out]; exact ⟨rfl, (by repeat (first | (with_reducible exact Gr.refl _ _ _) | (with_reducible assumption) | ((with_reducible refine Gr.setCell ?_ ?hq1 _); (case hq1 => (first | (right; rfl) | (left; (first | (simp; done) | (simp; omega) | omega))))) | ((with_reducible refine Gr.alloc ?_ ?hq1 _); (case hq1 => (first | (simp; done) | (simp; omega) | omega))) | (with_reducible refine Gr.drew ?_) | exact Gr.of_below (by assumption) | refine Gr.trans ?_ (by assumption) (by first | (simp; done) | (simp; omega) | omega) | refine Gr.below ?_ (by assumption) (by first | (simp; done) | (simp; omega) | omega)))⟩)⟩
  | ok c5 r5 =>
    rw [hp] at hP
    obtain ⟨⟨V5, rfl, cs5, rfl, hcv5⟩, hR5, hg5⟩ := hP
    have hx5 := HX.out
    rw [hp] at hx5
    dsimp only [PR.bind] at hx5
    have HX5 := Lib.hid hx5
    have hT := TK.out _ _ _ hp
    have hs5 := hg5.size
    simp at hs5
    have hz8 : w5.heap[w.heap.size]? = some (.cells zeroC 27 (0, 0)) := (hg5.block _ (by simp) hn0.1).trans (heap_alloc_new w _)
    have HZ := Lib.hid hz8
    have hE5 : Hid (EndsT r5 ∧ ShortT r5) := Lib.hid ⟨hT.2.1 HES.out.1, hT.2.2 HES.out.2⟩
    have hl5 := hT.1
    have HG5 : Hid (Gr w.heap.size rb w w5) := Lib.hid (((Gr.refl _ _ _).alloc (Nat.le_refl _) _).trans hg5 (by simp))
    have HR5 := Lib.hid hR5
    have HC5 := Lib.hid hcv5
    obtain ⟨op5, args5, ⟨lc5, lt5, ln5, ls5⟩, ⟨rc5, rt5, rn5, rs5⟩⟩ := c5
    have hcv5' := hcv5
    unfold CV at hcv5'
    obtain ⟨A5, cc5, rfl, -⟩ := hcv5'
    dsimp only [condC, termC, List.cons_append, List.nil_append]
    clear hx5 hT hz8 hg5 hR5 hp hcv5
    go_wp2_with (fail)
    generalize hb9 : w5.heap.size = b9 at *
    have HI0 : Hid ((w5.alloc (.cells #[.int .i64 op5, .slice A5 args5.length cc5, .string ⟨lc5.toArray⟩, .int .i64 lt5, .int .i64 ln5, .string ⟨ls5.toArray⟩, .string ⟨rc5.toArray⟩, .int .i64 rt5, .int .i64 rn5, .string ⟨rs5.toArray⟩] 27)).heap[b9]? = some (.cells [.int .i64 op5, .slice A5 args5.length cc5, .string ⟨lc5.toArray⟩, .int .i64 lt5, .int .i64 ln5, .string ⟨ls5.toArray⟩, .string ⟨rc5.toArray⟩, .int .i64 rt5, .int .i64 rn5, .string ⟨rs5.toArray⟩].toArray 27 (0, 0)) ∧ CV (fun b => w.heap.size < b ∧ ¬ b = b9) (w5.alloc (.cells #[.int .i64 op5, .slice A5 args5.length cc5, .string ⟨lc5.toArray⟩, .int .i64 lt5, .int .i64 ln5, .string ⟨ls5.toArray⟩, .string ⟨rc5.toArray⟩, .int .i64 rt5, .int .i64 rn5, .string ⟨rs5.toArray⟩] 27)) (.mk op5 args5 ⟨lc5, lt5, ln5, ls5⟩ ⟨rc5, rt5, rn5, rs5⟩) [.int .i64 op5, .slice A5 args5.length cc5, .string ⟨lc5.toArray⟩, .int .i64 lt5, .int .i64 ln5, .string ⟨ls5.toArray⟩, .string ⟨rc5.toArray⟩, .int .i64 rt5, .int .i64 rn5, .string ⟨rs5.toArray⟩]) := Lib.hid ⟨by subst hb9; exact heap_alloc_new w5 _, (HC5.out.mono (P' := fun b => w.heap.size < b ∧ ¬ b = b9) (fun b h1 h2 => ⟨by simp at h2; omega, by omega⟩)).keep ((Kp.refl _ _).alloc _)⟩
    have HG0 : Hid (Gr w.heap.size rb w (w5.alloc (.cells #[.int .i64 op5, .slice A5 args5.length cc5, .string ⟨lc5.toArray⟩, .int .i64 lt5, .int .i64 ln5, .string ⟨ls5.toArray⟩, .string ⟨rc5.toArray⟩, .int .i64 rt5, .int .i64 rn5, .string ⟨rs5.toArray⟩] 27)) ∧ (w5.alloc (.cells #[.int .i64 op5, .slice A5 args5.length cc5, .string ⟨lc5.toArray⟩, .int .i64 lt5, .int .i64 ln5, .string ⟨ls5.toArray⟩, .string ⟨rc5.toArray⟩, .int .i64 rt5, .int .i64 rn5, .string ⟨rs5.toArray⟩] 27)).heap[w.heap.size]? = some (.cells zeroC 27 (0, 0)) ∧ b9 < (w5.alloc (.cells #[.int .i64 op5, .slice A5 args5.length cc5, .string ⟨lc5.toArray⟩, .int .i64 lt5, .int .i64 ln5, .string ⟨ls5.toArray⟩, .string ⟨rc5.toArray⟩, .int .i64 rt5, .int .i64 rn5, .string ⟨rs5.toArray⟩] 27)).heap.size) := Lib.hid ⟨HG5.out.alloc (by omega) _, (((Below.refl w5.heap.size w5).alloc (Nat.le_refl _) _).block _ (by omega)).trans HZ.out, by simp; omega⟩
    have HS0 := Lib.hid hb9
    clear hb9
    have hb9' : ¬ b9 = rb ∧ ¬ rb = b9 ∧ ¬ b9 = gt ∧ ¬ b9 = w.heap.size ∧ ¬ w.heap.size = b9 ∧ w.heap.size < b9 := by omega
    go_loopg [] r5.length (fun g wx => ∃ (t : CondT) (cs : List Value) (r : List Tok) (n : Nat), g = r.length ∧ r.length ≤ n ∧ r.length ≤ r0.length ∧ Hid (loopF part 2 wAnd n t r = X) ∧ Hid (EndsT r ∧ ShortT r ∧ RdR wx rb gt r) ∧ Hid (wx.heap[b9]? = some (.cells cs.toArray 27 (0, 0)) ∧ CV (fun b => w.heap.size < b ∧ ¬ b = b9) wx t cs) ∧ Hid (Gr w.heap.size rb w wx ∧ wx.heap[w.heap.size]? = some (.cells zeroC 27 (0, 0)) ∧ b9 < wx.heap.size))
    case atStart => exact ⟨_, _, r5, r5.length, rfl, Nat.le_refl _, hl5, HX5, Lib.hid ⟨hE5.out.1, hE5.out.2, HR5.out.alloc _⟩, HI0, HG0⟩
    case round =>
      obtain ⟨t, cs, r, n, hgl, hrn, hrl, HM, HI, HC, HG⟩ := hrel
      obtain ⟨wo, rfl⟩ : ∃ wo : World, wo = wr := ⟨_, rfl⟩
      subst hgl
      have hne := HI.out.1.ne
      have MYr := Lib.hid (fun W R' => MY.out r hne W R')
      obtain ⟨op, args, ⟨lc, lt, ln, ls⟩, ⟨rc, rt, rn, rs⟩⟩ := t
      have hcv := HC.out.2
      unfold CV at hcv
      obtain ⟨A, cc, rfl, -⟩ := hcv
      have hk := HC.out.1
      dsimp only [condC, termC, List.cons_append, List.nil_append] at hk
      obtain ⟨⟨k0, k1, k2, k3, k4, k5, k6, k7, k8, k9⟩, kf⟩ := ten_cells hk
      obtain ⟨⟨z0, z1, z2, z3, z4, z5, z6, z7, z8, z9⟩, zf⟩ := ten_cells HG.out.2.1
      have hlt9 := HG.out.2.2
      have hso := HG.out.1.size
      clear hk hne
      cases hm : mayF wAnd r with
      | none =>
        have HN : Hid (PR.ok (.mk op args ⟨lc, lt, ln, ls⟩ ⟨rc, rt, rn, rs⟩) r = X) := Lib.hid (by rw [← HM.out, loop_no hm])
        rw [(may_no hm).1, (may_no hm).2] at MYr
        clear hm
        go_wp2_with (first | (go_at_call 62; (with_reducible refine (MYr.out _ HI.out.2.2).mono ?_); rintro e w6 ⟨rfl, hR6, hg6⟩; have hs6 := hg6.size; obtain ⟨hc6, hf6⟩ := gcell hg6; have hz6 : w.heap.size < wo.heap.size ∧ w.heap.size < w6.heap.size ∧ b9 < w6.heap.size := (by omega)))
        have hgo := HG.out.1
        have HR6 := Lib.hid hR6
        have hR6' := hR6
        have hcv := HC.out.2
        exact bodyPost_ret (v := .agg #[.int .i64 op, .slice A args.length cc, .string ⟨lc.toArray⟩, .int .i64 lt, .int .i64 ln, .string ⟨ls.toArray⟩, .string ⟨rc.toArray⟩, .int .i64 rt, .int .i64 rn, .string ⟨rs.toArray⟩]) (by simp [results, Tryz.results101, go_sem, *]) rfl (HQQ.out _ _ (by rw [← HN.out]; exact ⟨⟨_, rfl, _, rfl, (hcv.keep (by repeat (first | (with_reducible exact Kp.refl _ _) | (with_reducible assumption) | ((with_reducible refine Kp.set ?_ ?hq1 _); (case hq1 => (first | (simp; done) | (simp; omega) | (dsimp only; omega)))) | (with_reducible refine Kp.alloc ?_ _) | (with_reducible refine Kp.drew ?_) | refine Kp.trans ?_ (Kp.gr (by assumption) (by first | (simp; done) | (simp; omega) | (dsimp only; omega)))))).mono (fun b h1 h2 => by (try dsimp only at h2 ⊢); omega)⟩, (by repeat (first | (with_reducible exact hR6') | ((with_reducible refine RdR.setCell ?_ ?hq1 ?hq2 _); (case hq1 => (first | (simp; done) | (simp; omega) | omega)); (case hq2 => (first | (simp; done) | (simp; omega) | omega))) | (with_reducible refine RdR.alloc ?_ _) | (with_reducible refine RdR.drew ?_) | refine RdR.below ?_ (by assumption))), (by repeat (first | (with_reducible exact Gr.refl _ _ _) | (with_reducible assumption) | ((with_reducible refine Gr.setCell ?_ ?hq1 _); (case hq1 => (first | (right; rfl) | (left; (first | (simp; done) | (simp; omega) | omega))))) | ((with_reducible refine Gr.alloc ?_ ?hq1 _); (case hq1 => (first | (simp; done) | (simp; omega) | omega))) | (with_reducible refine Gr.drew ?_) | exact Gr.of_below (by assumption) | refine Gr.trans ?_ (by assumption) (by first | (simp; done) | (simp; omega) | omega) | refine Gr.below ?_ (by assumption) (by first | (simp; done) | (simp; omega) | omega)))⟩))
      | some r2 =>
        obtain ⟨n', rfl⟩ : ∃ n', n = n' + 1 := ⟨n - 1, by have := (may_len hm).1; omega⟩
        have HX2 : Hid ((part r2).bind (fun d r' => loopF part 2 wAnd n' (.mk 2 [.mk op args ⟨lc, lt, ln, ls⟩ ⟨rc, rt, rn, rs⟩, d] term0 term0) r') = X) := Lib.hid (by rw [← HM.out, loop_yes hm])
        rw [(may_yes hm).1, (may_yes hm).2] at MYr
        have hml := (may_len hm).1
        have HE2 : Hid (EndsT r2 ∧ ShortT r2) := Lib.hid ⟨may_ends hm HI.out.1, (may_len hm).2 HI.out.2.1⟩
        clear hm
        go_wp2_with (first | (go_at_call 62; (with_reducible refine (MYr.out _ HI.out.2.2).mono ?_); rintro e w6 ⟨rfl, hR6, hg6⟩; have hs6 := hg6.size; obtain ⟨hc6, hf6⟩ := gcell hg6; have hz6 : w.heap.size < wo.heap.size ∧ w.heap.size < w6.heap.size ∧ b9 < w6.heap.size := (by omega)))
        have hR6' := hR6
        have PT0 := fun W R' => HP.out r2 W HE2.out.1 HE2.out.2 (by omega) R'
        cases hp : part r2 with
        | no p er =>
          rw [hp] at PT0
          have PT := Lib.hid (fun W R' => (show Calls Tryz.prog 117 #[.pointer (some ⟨rb, 0, none⟩)] W (fun e w' => e = .panicked (fltP p er) ∧ Gr W.heap.size rb W w') from PT0 W R'))
          have HN : Hid (PR.no p er = X) := Lib.hid (by have h := HX2.out; rw [hp] at h; exact h)
          clear PT0 hp
          have hgo := HG.out.1
          have HGO : Hid (Gr w.heap.size rb w w6) := Lib.hid (by repeat (first | (with_reducible exact Gr.refl _ _ _) | (with_reducible assumption) | ((with_reducible refine Gr.setCell ?_ ?hq1 _); (case hq1 => (first | (right; rfl) | (left; (first | (simp; done) | (simp; omega) | omega))))) | ((with_reducible refine Gr.alloc ?_ ?hq1 _); (case hq1 => (first | (simp; done) | (simp; omega) | omega))) | (with_reducible refine Gr.drew ?_) | exact Gr.of_below (by assumption) | refine Gr.trans ?_ (by assumption) (by first | (simp; done) | (simp; omega) | omega) | refine Gr.below ?_ (by assumption) (by first | (simp; done) | (simp; omega) | omega)))
          have HR6 := Lib.hid hR6
          refine wp_region_held_drew (S := (fun W' => W'.cell? ⟨b9, 0, none⟩ = some (.int .i64 op) ∧ W'.cell? ⟨b9, 1, none⟩ = some (.slice A args.length cc) ∧ W'.cell? ⟨b9, 2, none⟩ = some (.string ⟨lc.toArray⟩) ∧ W'.cell? ⟨b9, 3, none⟩ = some (.int .i64 lt) ∧ W'.cell? ⟨b9, 4, none⟩ = some (.int .i64 ln) ∧ W'.cell? ⟨b9, 5, none⟩ = some (.string ⟨ls.toArray⟩) ∧ W'.cell? ⟨b9, 6, none⟩ = some (.string ⟨rc.toArray⟩) ∧ W'.cell? ⟨b9, 7, none⟩ = some (.int .i64 rt) ∧ W'.cell? ⟨b9, 8, none⟩ = some (.int .i64 rn) ∧ W'.cell? ⟨b9, 9, none⟩ = some (.string ⟨rs.toArray⟩) ∧ Hid (RdR W' rb gt r2) ∧ Hid (Gr w.heap.size rb w W'))) (by kernel_rfl) (by refine ⟨?_, ?_, ?_, ?_, ?_, ?_, ?_, ?_, ?_, ?_, Lib.hid HR6.out.drew, Lib.hid HGO.out.drew⟩ <;> simp [go_sem, *]) fun hS => ?_
          refine wpAnyH_take (i := 0) (v := .int .i64 2) rfl (by kernel_rfl) (by kernel_rfl) (by kernel_rfl) (fun _ _ _ h => h) (Or.inl ⟨by rfl, fun W' hW' => (by go_simp)⟩) hS ?_
          refine wpAnyH_take (i := 1) (v := .agg #[.int .i64 op, .slice A args.length cc, .string ⟨lc.toArray⟩, .int .i64 lt, .int .i64 ln, .string ⟨ls.toArray⟩, .string ⟨rc.toArray⟩, .int .i64 rt, .int .i64 rn, .string ⟨rs.toArray⟩]) rfl (by kernel_rfl) (by kernel_rfl) (by kernel_rfl) (fun _ _ _ h => h) (Or.inl ⟨by rfl, fun W' hW' => (by obtain ⟨s0, s1, s2, s3, s4, s5, s6, s7, s8, s9, -, -⟩ := hW'; simp [go_sem, s0, s1, s2, s3, s4, s5, s6, s7, s8, s9])⟩) hS ?_
          refine wpAnyH_take (i := 2) (v := .func (.func 117) #[.pointer (some ⟨rb, 0, none⟩)] #[]) rfl (by kernel_rfl) (by kernel_rfl) (by kernel_rfl) (fun _ _ _ h => h) (Or.inl ⟨by rfl, fun W' hW' => (by go_simp)⟩) hS ?_
          refine wpAnyH_ready (rs := [3]) (by kernel_rfl) (by simp) ?_
          refine AllReadyH.cons rfl (fun K hK => ?_) AllReadyH.nil
          clear hK
          obtain ⟨-, -, -, -, -, -, -, -, -, -, HRD, HGD⟩ := hS
          go_simp
          go_at_call 117
          refine (PT.out _ HRD.out).mono ?_
          rintro e w7 ⟨rfl, hg7⟩
          exact ⟨rfl, HQQ.out _ _ (by rw [← HN.out]; exact ⟨rfl, HGD.out.trans hg7 HGD.out.size⟩)⟩
        | ok d r3 =>
          rw [hp] at PT0
          have hx3 := HX2.out
          rw [hp] at hx3
          dsimp only [PR.bind] at hx3
          have HX3 := Lib.hid hx3
          have hT := TK.out _ _ _ hp
          obtain ⟨op6, args6, ⟨lc6, lt6, ln6, ls6⟩, ⟨rc6, rt6, rn6, rs6⟩⟩ := d
          have PT := Lib.hid (fun W R' => (PT0 W R').mono (R' := fun e w' => (∃ A6 cc6, e = .returned (.agg #[.int .i64 op6, .slice A6 args6.length cc6, .string ⟨lc6.toArray⟩, .int .i64 lt6, .int .i64 ln6, .string ⟨ls6.toArray⟩, .string ⟨rc6.toArray⟩, .int .i64 rt6, .int .i64 rn6, .string ⟨rs6.toArray⟩]) ∧ Hid (CV (fun b => W.heap.size ≤ b) w' (.mk op6 args6 ⟨lc6, lt6, ln6, ls6⟩ ⟨rc6, rt6, rn6, rs6⟩) [.int .i64 op6, .slice A6 args6.length cc6, .string ⟨lc6.toArray⟩, .int .i64 lt6, .int .i64 ln6, .string ⟨ls6.toArray⟩, .string ⟨rc6.toArray⟩, .int .i64 rt6, .int .i64 rn6, .string ⟨rs6.toArray⟩])) ∧ Hid (RdR w' rb gt r3) ∧ Gr W.heap.size rb W w') (fun e w' h => by
            obtain ⟨⟨V, h1, cs, h2, h3⟩, h4, h5⟩ := h
            have h6 := h3
            unfold CV at h6
            obtain ⟨A6, cc6, h7, -⟩ := h6
            subst h7
            exact ⟨⟨A6, cc6, by rw [h1, h2]; rfl, Lib.hid h3⟩, Lib.hid h4, h5⟩))
          clear PT0 hp hx3
          have hgo := HG.out.1
          have HGO : Hid (Gr w.heap.size rb w w6) := Lib.hid (by repeat (first | (with_reducible exact Gr.refl _ _ _) | (with_reducible assumption) | ((with_reducible refine Gr.setCell ?_ ?hq1 _); (case hq1 => (first | (right; rfl) | (left; (first | (simp; done) | (simp; omega) | omega))))) | ((with_reducible refine Gr.alloc ?_ ?hq1 _); (case hq1 => (first | (simp; done) | (simp; omega) | omega))) | (with_reducible refine Gr.drew ?_) | exact Gr.of_below (by assumption) | refine Gr.trans ?_ (by assumption) (by first | (simp; done) | (simp; omega) | omega) | refine Gr.below ?_ (by assumption) (by first | (simp; done) | (simp; omega) | omega)))
          have HK6 : Hid (w6.heap[b9]? = wo.heap[b9]? ∧ w6.heap[w.heap.size]? = wo.heap[w.heap.size]?) := Lib.hid ⟨hg6.block _ (by omega) hb9'.1, hg6.block _ (by omega) hn0.1⟩
          have HV6 : Hid (CV (fun b => w.heap.size < b ∧ ¬ b = b9) w6 (.mk op args ⟨lc, lt, ln, ls⟩ ⟨rc, rt, rn, rs⟩) [.int .i64 op, .slice A args.length cc, .string ⟨lc.toArray⟩, .int .i64 lt, .int .i64 ln, .string ⟨ls.toArray⟩, .string ⟨rc.toArray⟩, .int .i64 rt, .int .i64 rn, .string ⟨rs.toArray⟩]) := Lib.hid (HC.out.2.keep (Kp.gr hg6 (by omega)))
          clear hgo
          go_region_law (first | (go_simp; go_at_call 117; (with_reducible refine (PT.out _ (by repeat (first | (with_reducible exact hR6') | ((with_reducible refine RdR.setCell ?_ ?hq1 ?hq2 _); (case hq1 => (first | (simp; done) | (simp; omega) | omega)); (case hq2 => (first | (simp; done) | (simp; omega) | omega))) | (with_reducible refine RdR.alloc ?_ _) | (with_reducible refine RdR.drew ?_) | refine RdR.below ?_ (by assumption)))).mono ?_); rintro e w7 ⟨⟨A6, cc6, rfl, hv7⟩, hR7, hg7⟩; have hs7 := hg7.size; (try simp only [drew_size] at hs7); obtain ⟨hc7, hf7⟩ := gcell hg7; (try simp only [drew_size, drew_cell, drew_frozen] at hc7 hf7); have hz7 : w.heap.size < w7.heap.size ∧ b9 < w7.heap.size := (by omega)))
          all_goals (
            go_wp2
            have HG7 : Hid (Gr w.heap.size rb w w7) := Lib.hid (Gr.trans (B := w.heap.size) (Gr.drew HGO.out) hg7 (by simp only [drew_size]; omega))
            have hk7 : w7.heap[b9]? = some (.cells #[.int .i64 op, .slice A args.length cc, .string ⟨lc.toArray⟩, .int .i64 lt, .int .i64 ln, .string ⟨ls.toArray⟩, .string ⟨rc.toArray⟩, .int .i64 rt, .int .i64 rn, .string ⟨rs.toArray⟩] 27 (0, 0)) := by
              rw [hg7.block b9 (by simp only [drew_size]; omega) hb9'.1]
              exact HK6.out.1.trans HC.out.1
            have hk8 : w7.heap[w.heap.size]? = some (.cells zeroC 27 (0, 0)) := by
              rw [hg7.block w.heap.size (by simp only [drew_size]; omega) hn0.1]
              exact HK6.out.2.trans HG.out.2.1
            have hcx : CV (fun b => w.heap.size < b ∧ ¬ b = b9) w7 (.mk op args ⟨lc, lt, ln, ls⟩ ⟨rc, rt, rn, rs⟩) [.int .i64 op, .slice A args.length cc, .string ⟨lc.toArray⟩, .int .i64 lt, .int .i64 ln, .string ⟨ls.toArray⟩, .string ⟨rc.toArray⟩, .int .i64 rt, .int .i64 rn, .string ⟨rs.toArray⟩] := (HV6.out.keep (Kp.drew (Kp.refl _ _))).keep (Kp.gr hg7 (by omega))
            have hcy : CV (fun b => w.heap.size < b ∧ ¬ b = b9) w7 (.mk op6 args6 ⟨lc6, lt6, ln6, ls6⟩ ⟨rc6, rt6, rn6, rs6⟩) [.int .i64 op6, .slice A6 args6.length cc6, .string ⟨lc6.toArray⟩, .int .i64 lt6, .int .i64 ln6, .string ⟨ls6.toArray⟩, .string ⟨rc6.toArray⟩, .int .i64 rt6, .int .i64 rn6, .string ⟨rs6.toArray⟩] := hv7.out.mono (fun b h1 h2 => by simp only [drew_size] at h2; omega)
            have HH := Lib.hid (And.intro hk7 (And.intro hk8 (And.intro hcx hcy)))
            clear hk7 hk8 hcx hcy
            go_roundg r3.length
            case measure => have := hT.1; omega
            case rel =>
              obtain ⟨hk7, hk8, hcx, hcy⟩ := HH.out
              have hgg := HG7.out
              have hrr := hR7.out
              have hn := ten_set hk7 (.int .i64 2) (.slice (some ⟨w7.heap.size, 0, none⟩) 2 2) (.string ⟨#[]⟩) (.int .i64 0) (.int .i64 0) (.string ⟨#[]⟩) (.string ⟨#[]⟩) (.int .i64 0) (.int .i64 0) (.string ⟨#[]⟩)
              have kk : Kp (fun b => w.heap.size < b ∧ ¬ b = b9) w7 ((((((((((((w7.setCell ⟨b9, 0, none⟩ (.int .i64 2)).setCell ⟨b9, 1, none⟩ (.slice (some ⟨w7.heap.size, 0, none⟩) 2 2)).setCell ⟨b9, 2, none⟩ (.string ⟨#[]⟩)).setCell ⟨b9, 3, none⟩ (.int .i64 0)).setCell ⟨b9, 4, none⟩ (.int .i64 0)).setCell ⟨b9, 5, none⟩ (.string ⟨#[]⟩)).setCell ⟨b9, 6, none⟩ (.string ⟨#[]⟩)).setCell ⟨b9, 7, none⟩ (.int .i64 0)).setCell ⟨b9, 8, none⟩ (.int .i64 0)).setCell ⟨b9, 9, none⟩ (.string ⟨#[]⟩)).alloc (.cells #[.int .i64 op, .slice A args.length cc, .string ⟨lc.toArray⟩, .int .i64 lt, .int .i64 ln, .string ⟨ls.toArray⟩, .string ⟨rc.toArray⟩, .int .i64 rt, .int .i64 rn, .string ⟨rs.toArray⟩, .int .i64 op6, .slice A6 args6.length cc6, .string ⟨lc6.toArray⟩, .int .i64 lt6, .int .i64 ln6, .string ⟨ls6.toArray⟩, .string ⟨rc6.toArray⟩, .int .i64 rt6, .int .i64 rn6, .string ⟨rs6.toArray⟩] 27))) := (by repeat (first | (with_reducible exact Kp.refl _ _) | (with_reducible assumption) | ((with_reducible refine Kp.set ?_ ?hq1 _); (case hq1 => (first | (simp; done) | (simp; omega) | (dsimp only; omega)))) | (with_reducible refine Kp.alloc ?_ _) | (with_reducible refine Kp.drew ?_) | refine Kp.trans ?_ (Kp.gr (by assumption) (by first | (simp; done) | (simp; omega) | (dsimp only; omega)))))
              refine ⟨.mk 2 [.mk op args ⟨lc, lt, ln, ls⟩ ⟨rc, rt, rn, rs⟩, .mk op6 args6 ⟨lc6, lt6, ln6, ls6⟩ ⟨rc6, rt6, rn6, rs6⟩] term0 term0, [.int .i64 2, .slice (some ⟨w7.heap.size, 0, none⟩) 2 2, .string ⟨#[]⟩, .int .i64 0, .int .i64 0, .string ⟨#[]⟩, .string ⟨#[]⟩, .int .i64 0, .int .i64 0, .string ⟨#[]⟩], r3, n', rfl, by have := hT.1; omega, by have := hT.1; omega, HX3, Lib.hid ⟨hT.2.1 HE2.out.1, hT.2.2 HE2.out.2, (by repeat (first | (with_reducible exact hrr) | ((with_reducible refine RdR.setCell ?_ ?hq1 ?hq2 _); (case hq1 => (first | (simp; done) | (simp; omega) | omega)); (case hq2 => (first | (simp; done) | (simp; omega) | omega))) | (with_reducible refine RdR.alloc ?_ _) | (with_reducible refine RdR.drew ?_) | refine RdR.below ?_ (by assumption)))⟩, Lib.hid ⟨?_, ?_⟩, Lib.hid ⟨(by repeat (first | (with_reducible exact Gr.refl _ _ _) | (with_reducible assumption) | ((with_reducible refine Gr.setCell ?_ ?hq1 _); (case hq1 => (first | (right; rfl) | (left; (first | (simp; done) | (simp; omega) | omega))))) | ((with_reducible refine Gr.alloc ?_ ?hq1 _); (case hq1 => (first | (simp; done) | (simp; omega) | omega))) | (with_reducible refine Gr.drew ?_) | exact Gr.of_below (by assumption) | refine Gr.trans ?_ (by assumption) (by first | (simp; done) | (simp; omega) | omega) | refine Gr.below ?_ (by assumption) (by first | (simp; done) | (simp; omega) | omega))), ?_, by simp; omega⟩⟩
              · exact (((Below.refl _ _).alloc (Nat.le_refl _) _).block _ (by simp; omega)).trans hn
              · unfold CV
                refine ⟨_, _, rfl, ⟨Nat.le_refl _, by simp⟩, (fun h => by cases h), CVL.two ⟨by omega, by omega⟩ ?_ (hcx.keep kk) (hcy.keep kk)⟩
                have := heap_alloc_new (((((((((((w7.setCell ⟨b9, 0, none⟩ (.int .i64 2)).setCell ⟨b9, 1, none⟩ (.slice (some ⟨w7.heap.size, 0, none⟩) 2 2)).setCell ⟨b9, 2, none⟩ (.string ⟨#[]⟩)).setCell ⟨b9, 3, none⟩ (.int .i64 0)).setCell ⟨b9, 4, none⟩ (.int .i64 0)).setCell ⟨b9, 5, none⟩ (.string ⟨#[]⟩)).setCell ⟨b9, 6, none⟩ (.string ⟨#[]⟩)).setCell ⟨b9, 7, none⟩ (.int .i64 0)).setCell ⟨b9, 8, none⟩ (.int .i64 0)).setCell ⟨b9, 9, none⟩ (.string ⟨#[]⟩))) (.cells #[.int .i64 op, .slice A args.length cc, .string ⟨lc.toArray⟩, .int .i64 lt, .int .i64 ln, .string ⟨ls.toArray⟩, .string ⟨rc.toArray⟩, .int .i64 rt, .int .i64 rn, .string ⟨rs.toArray⟩, .int .i64 op6, .slice A6 args6.length cc6, .string ⟨lc6.toArray⟩, .int .i64 lt6, .int .i64 ln6, .string ⟨ls6.toArray⟩, .string ⟨rc6.toArray⟩, .int .i64 rt6, .int .i64 rn6, .string ⟨rs6.toArray⟩] 27)
                simpa using this
              · rw [((Below.refl _ _).alloc (Nat.le_refl _) _).block _ (by simp; omega)]
                repeat rw [setCell_block _ _ _ _ hb9'.2.2.2.2.1]
                exact hk8)
end Go.Proofs.YtijlifdbjhieaaaGreatDoor
