/-
  Conditions in memory; contract of the reader's term.
-/
import Derived.Test.YtijlifdbjhieaaaGreatDoorSr6
namespace Go.Proofs.YtijlifdbjhieaaaGreatDoor
set_option linter.all false
open Go.RowKit Go.Shelf
attribute [local go_sem] cell_set_self lt_1 lt_2 lt_3 lt_4 lt_5 lt_6 fld_k fld_s fld_n fld_p

def termC (t : TermT) : List Value := [.string ⟨t.col.toArray⟩, .int .i64 t.ty, .int .i64 t.n, .string ⟨t.s.toArray⟩]
def condC (op : Int) (A : Option Addr) (n c : Nat) (l r : TermT) : List Value := .int .i64 op :: .slice A n c :: (termC l ++ termC r)
mutual
/-- A condition whose cells are cs, its arguments in blocks of P. -/
def CV (P : Nat → Prop) (w : World) : CondT → List Value → Prop
  | .mk op args l r, cs => ∃ A c, cs = condC op A args.length c l r ∧ (args.length ≤ c ∧ args.length ≤ 1000000000000000) ∧ (A = none → c = 0) ∧ CVL P w A 0 args
def CVL (P : Nat → Prop) (w : World) (A : Option Addr) : Nat → List CondT → Prop
  | _, [] => True
  | i, x :: l => (∃ b off cs, A = some ⟨b, off, none⟩ ∧ P b ∧ b < w.heap.size ∧ (∀ j v, cs[j]? = some v → w.cell? ⟨b, off + i * 10 + j, none⟩ = some v) ∧ CV P w x cs) ∧ CVL P w A (i + 1) l
end
theorem CVL.at {P : Nat → Prop} {w : World} {A : Option Addr} : ∀ {l : List CondT} {i : Nat}, CVL P w A i l → ∀ {k : Nat} {x : CondT}, l[k]? = some x → ∃ b off cs, A = some ⟨b, off, none⟩ ∧ P b ∧ b < w.heap.size ∧ (∀ j v, cs[j]? = some v → w.cell? ⟨b, off + (i + k) * 10 + j, none⟩ = some v) ∧ CV P w x cs
  | [], i, h, k, x, hk => by simp at hk
  | y :: l, i, h, 0, x, hk => by
    simp at hk; subst hk
    unfold CVL at h
    exact h.1
  | y :: l, i, h, k + 1, x, hk => by
    unfold CVL at h
    have := CVL.at h.2 (k := k) (x := x) (by simpa using hk)
    rw [show i + 1 + k = i + (k + 1) by omega] at this
    exact this
theorem CVL.mk {P : Nat → Prop} {w : World} {A : Option Addr} : ∀ {l : List CondT} {i : Nat}, (∀ (k : Nat) (x : CondT), l[k]? = some x → ∃ b off cs, A = some ⟨b, off, none⟩ ∧ P b ∧ b < w.heap.size ∧ (∀ j v, cs[j]? = some v → w.cell? ⟨b, off + (i + k) * 10 + j, none⟩ = some v) ∧ CV P w x cs) → CVL P w A i l
  | [], i, h => by unfold CVL; trivial
  | y :: l, i, h => by
    unfold CVL
    refine ⟨h 0 y rfl, CVL.mk fun k x hk => ?_⟩
    have := h (k + 1) x (by simpa using hk)
    rw [show i + (k + 1) = i + 1 + k by omega] at this
    exact this
/-- What lies in P stays: so do conditions. -/
structure Kp (P : Nat → Prop) (w W : World) : Prop where
  size : w.heap.size ≤ W.heap.size
  block : ∀ k, P k → k < w.heap.size → W.heap[k]? = w.heap[k]?
theorem Kp.cell {P : Nat → Prop} {b o : Nat} {w W : World} {v : Value} (h : Kp P w W) (hB : P b) (hb : b < w.heap.size) (hc : w.cell? ⟨b, o, none⟩ = some v) : W.cell? ⟨b, o, none⟩ = some v := by
  rw [← hc]; simp only [World.cell?, h.block b hB hb]
mutual
theorem CV.keep {P : Nat → Prop} {w W : World} (hk : Kp P w W) : ∀ {t : CondT} {cs : List Value}, CV P w t cs → CV P W t cs
  | .mk op args l r, cs, h => by
    unfold CV at h ⊢
    obtain ⟨A, c, h1, h2, h3, h4⟩ := h
    exact ⟨A, c, h1, h2, h3, CVL.keep hk h4⟩
theorem CVL.keep {P : Nat → Prop} {w W : World} {A : Option Addr} (hk : Kp P w W) : ∀ {l : List CondT} {i : Nat}, CVL P w A i l → CVL P W A i l
  | [], i, h => by unfold CVL; trivial
  | x :: l, i, h => by
    unfold CVL at h ⊢
    obtain ⟨⟨b, off, cs, h1, h2, h3, h4, h5⟩, h6⟩ := h
    exact ⟨⟨b, off, cs, h1, h2, Nat.lt_of_lt_of_le h3 hk.size, fun j v hj => hk.cell h2 h3 (h4 j v hj), CV.keep hk h5⟩, CVL.keep hk h6⟩
end
mutual
theorem CV.mono {P P' : Nat → Prop} {w : World} (hP : ∀ b, b < w.heap.size → P b → P' b) : ∀ {t : CondT} {cs : List Value}, CV P w t cs → CV P' w t cs
  | .mk op args l r, cs, h => by
    unfold CV at h ⊢
    obtain ⟨A, c, h1, h2, h3, h4⟩ := h
    exact ⟨A, c, h1, h2, h3, CVL.mono hP h4⟩
theorem CVL.mono {P P' : Nat → Prop} {w : World} {A : Option Addr} (hP : ∀ b, b < w.heap.size → P b → P' b) : ∀ {l : List CondT} {i : Nat}, CVL P w A i l → CVL P' w A i l
  | [], i, h => by unfold CVL; trivial
  | x :: l, i, h => by
    unfold CVL at h ⊢
    obtain ⟨⟨b, off, cs, h1, h2, h3, h4, h5⟩, h6⟩ := h
    exact ⟨⟨b, off, cs, h1, hP _ h3 h2, h3, h4, CV.mono hP h5⟩, CVL.mono hP h6⟩
end
theorem Kp.below {P : Nat → Prop} {w W : World} (h : Below w.heap.size w W) : Kp P w W := ⟨h.size, fun k _ hk => h.block k hk⟩
theorem Kp.gr {P : Nat → Prop} {rb : Nat} {w W : World} (h : Gr w.heap.size rb w W) (hr : ¬ P rb) : Kp P w W := ⟨h.size, fun k hP hk => h.block k hk (fun e => hr (e ▸ hP))⟩
theorem Kp.set {P : Nat → Prop} {w W : World} (h : Kp P w W) {p : Addr} (hp : ¬ P p.block) (v : Value) : Kp P w (W.setCell p v) := by
  refine ⟨by simpa using h.size, fun k hP hk => ?_⟩
  rw [← h.block k hP hk]
  simp only [World.setCell, Array.getElem?_modify]
  rw [if_neg (by rintro rfl; exact hp hP)]
theorem Kp.alloc {P : Nat → Prop} {w W : World} (h : Kp P w W) (o : Obj) : Kp P w (W.alloc o) := by
  have e := (Below.refl W.heap.size W).alloc (Nat.le_refl _) o
  exact ⟨Nat.le_trans h.size e.size, fun k hP hk => (e.block k (Nat.lt_of_lt_of_le hk h.size)).trans (h.block k hP hk)⟩
theorem Kp.refl (P : Nat → Prop) (w : World) : Kp P w w := ⟨Nat.le_refl _, fun _ _ _ => rfl⟩
theorem Kp.drew {P : Nat → Prop} {w W : World} (h : Kp P w W) : Kp P w W.drew := ⟨h.size, h.block⟩
theorem Kp.trans {P : Nat → Prop} {a b c : World} (h : Kp P a b) (k : Kp P b c) : Kp P a c := ⟨Nat.le_trans h.size k.size, fun i hP hi => (k.block i hP (Nat.lt_of_lt_of_le hi h.size)).trans (h.block i hP hi)⟩
theorem CV.len {P : Nat → Prop} {w : World} {t : CondT} {cs : List Value} (h : CV P w t cs) : cs.length = 10 := by
  cases t with
  | mk op args l r =>
    unfold CV at h
    obtain ⟨A, c, h1, -⟩ := h
    rw [h1]; rfl
/-- Two arguments in a new block. -/
theorem CVL.two {P : Nat → Prop} {b : Nat} {w : World} {x y : CondT} {cx cy : List Value} (hB : P b) (hb : w.heap[b]? = some (.cells (cx ++ cy).toArray 27 (0, 0))) (hx : CV P w x cx) (hy : CV P w y cy) : CVL P w (some ⟨b, 0, none⟩) 0 [x, y] := by
  have hlt := (Array.getElem?_eq_some_iff.1 hb).1
  have hc : ∀ j v, (cx ++ cy)[j]? = some v → w.cell? ⟨b, j, none⟩ = some v := fun j v h => by simp [World.cell?, hb, h]
  have lx := hx.len
  refine CVL.mk fun k z hk => ?_
  match k, hk with
  | 0, hk =>
    simp at hk; subst hk
    refine ⟨b, 0, cx, rfl, hB, hlt, fun j v hj => ?_, hx⟩
    rw [show 0 + (0 + 0) * 10 + j = j by omega]
    exact hc j v (by rw [List.getElem?_append_left (List.getElem?_eq_some_iff.1 hj).1]; exact hj)
  | 1, hk =>
    simp at hk; subst hk
    refine ⟨b, 0, cy, rfl, hB, hlt, fun j v hj => ?_, hy⟩
    rw [show 0 + (0 + 1) * 10 + j = 10 + j by omega]
    exact hc _ v (by rw [List.getElem?_append_right (by omega), lx, Nat.add_sub_cancel_left]; exact hj)
theorem CVL.one {P : Nat → Prop} {b : Nat} {w : World} {x : CondT} {cx : List Value} (hB : P b) (hb : w.heap[b]? = some (.cells cx.toArray 27 (0, 0))) (hx : CV P w x cx) : CVL P w (some ⟨b, 0, none⟩) 0 [x] := by
  have hlt := (Array.getElem?_eq_some_iff.1 hb).1
  have hc : ∀ j v, cx[j]? = some v → w.cell? ⟨b, j, none⟩ = some v := fun j v h => by simp [World.cell?, hb, h]
  refine CVL.mk fun k z hk => ?_
  match k, hk with
  | 0, hk =>
    simp at hk; subst hk
    exact ⟨b, 0, cx, rfl, hB, hlt, fun j v hj => by rw [show 0 + (0 + 0) * 10 + j = j by omega]; exact hc j v hj, hx⟩
def encT : TermT → World → Value → Prop := fun t _ V => V = .agg (termC t).toArray
set_option maxHeartbeats 4000000 in
set_option maxRecDepth 100000 in
theorem term_any (rb gt : Nat) (r : List Tok) (hr : r ≠ []) (hS : ShortT r) (w : World) (R : RdR w rb gt r) :
    Calls Tryz.prog 130 #[.pointer (some ⟨rb, 0, none⟩)] w (POut rb gt w encT (termF r)) := by
  suffices key : ∀ Q : Ending → World → Prop, Hid (∀ e w', POut rb gt w encT (termF r) e w' → Q e w') → Calls Tryz.prog 130 #[.pointer (some ⟨rb, 0, none⟩)] w Q from key _ (Lib.hid fun _ _ h => h)
  intro Q HQQ
  cases r with
  | nil => exact absurd rfl hr
  | cons t r =>
  have TF : termF (t :: r) = if t.k = 110 then .ok ⟨[], 1, t.n, []⟩ r else if t.k = 116 then .ok ⟨[], 2, 0, t.s⟩ r else (nmF (t :: r)).bind fun c r => .ok ⟨c, 0, 0, []⟩ r := by
    unfold termF nmF
    simp only
    split
    · rfl
    · split
      · rfl
      · split <;> rfl
  obtain ⟨X, hX⟩ : ∃ X, termF (t :: r) = X := ⟨_, rfl⟩
  rw [hX] at HQQ TF
  have HH := Lib.hid (fun W R' => here_any rb gt t r W R')
  have NA := Lib.hid (fun W R' => nameR_any rb gt (t :: r) (by simp) hS W R')
  have HR := Lib.hid R
  obtain ⟨hrb, hgt, -⟩ := R.lens
  obtain ⟨p, hp, c1, f1, ST⟩ := R.step
  have HST := Lib.hid ST
  have hn0 : ¬ w.heap.size = rb ∧ ¬ rb = w.heap.size ∧ ¬ w.heap.size = gt := by omega
  clear ST R hX hr hS
  by_cases h1 : t.k = 110
  · rw [if_pos h1] at TF
    have HX := Lib.hid TF
    clear TF NA
    dsimp only [tokV] at HH
    obtain ⟨tk, tS, tn, tp⟩ := t
    dsimp only at HH h1 HX
    have e1 : (tk == 110) = true := by simp [h1]
    clear h1
    generalize (⟨tS.toArray⟩ : ByteArray) = U at *
    go_enter Tryz.func130, Tryz.ntmps130
    go_wp2_with (first | (go_at_call 69; (with_reducible refine (HH.out _ (HR.out.alloc _)).mono ?_); rintro e w3 ⟨rfl, hb3⟩; obtain ⟨hc3, hf3⟩ := bcell hb3; have hs3 := hb3.size; (try simp at hs3); (try simp only [World.size_alloc] at hc3 hf3); have hz3 : ¬ w3.heap.size = rb ∧ ¬ rb = w3.heap.size ∧ rb < w3.heap.size ∧ rb < w3.heap.size + 1 ∧ w.heap.size < w3.heap.size := (by omega); have hb3' : Below w.heap.size w w3 := ((Below.refl _ _).alloc (Nat.le_refl _) _).trans (hb3.mono (by simp)); have d1 : w3.cell? ⟨rb, 1, none⟩ = some (.int .i64 (p : Int)) := (by rw [hb3'.cell (p := ⟨rb, 1, none⟩) hrb]; exact c1); have d2 : w3.frozen? ⟨rb, 1, none⟩ = false := (by rw [hb3'.frozen (p := ⟨rb, 1, none⟩) hrb]; exact f1)))
    have HSX := HST.out _ hb3'
    exact bodyPost_ret (v := .agg #[.string ⟨#[]⟩, .int .i64 1, .int .i64 tn, .string ⟨#[]⟩]) (by simp [results, Tryz.results130, go_sem, *]) rfl (HQQ.out _ _ (by rw [HX.out]; exact ⟨⟨_, rfl, rfl⟩, (by repeat (first | (with_reducible exact HSX) | ((with_reducible refine RdR.setCell ?_ ?hq1 ?hq2 _); (case hq1 => (first | (simp; done) | (simp; omega) | omega)); (case hq2 => (first | (simp; done) | (simp; omega) | omega))) | (with_reducible refine RdR.alloc ?_ _) | (with_reducible refine RdR.drew ?_) | refine RdR.below ?_ (by assumption))), (by repeat (first | (with_reducible exact Gr.refl _ _ _) | (with_reducible assumption) | ((with_reducible refine Gr.setCell ?_ ?hq1 _); (case hq1 => (first | (right; rfl) | (left; (first | (simp; done) | (simp; omega) | omega))))) | ((with_reducible refine Gr.alloc ?_ ?hq1 _); (case hq1 => (first | (simp; done) | (simp; omega) | omega))) | (with_reducible refine Gr.drew ?_) | exact Gr.of_below (by assumption) | refine Gr.trans ?_ (by assumption) (by first | (simp; done) | (simp; omega) | omega) | refine Gr.below ?_ (by assumption) (by first | (simp; done) | (simp; omega) | omega)))⟩))
  · rw [if_neg h1] at TF
    by_cases h2 : t.k = 116
    · rw [if_pos h2] at TF
      have HX := Lib.hid TF
      clear TF NA
      dsimp only [tokV] at HH
      obtain ⟨tk, tS, tn, tp⟩ := t
      dsimp only at HH h1 h2 HX
      have e1 : (tk == 110) = false := by simp [h1]
      have e2 : (tk == 116) = true := by simp [h2]
      clear h1 h2
      obtain ⟨U, hU⟩ : ∃ U : ByteArray, (⟨tS.toArray⟩ : ByteArray) = U := ⟨_, rfl⟩
      have HU := Lib.hid hU
      rw [hU] at HH
      clear hU
      go_enter Tryz.func130, Tryz.ntmps130
      go_wp2_with (first | (go_at_call 69; (with_reducible refine (HH.out _ (HR.out.alloc _)).mono ?_); rintro e w3 ⟨rfl, hb3⟩; obtain ⟨hc3, hf3⟩ := bcell hb3; have hs3 := hb3.size; (try simp at hs3); (try simp only [World.size_alloc] at hc3 hf3); have hz3 : ¬ w3.heap.size = rb ∧ ¬ rb = w3.heap.size ∧ rb < w3.heap.size ∧ rb < w3.heap.size + 1 ∧ w.heap.size < w3.heap.size := (by omega); have hb3' : Below w.heap.size w w3 := ((Below.refl _ _).alloc (Nat.le_refl _) _).trans (hb3.mono (by simp)); have d1 : w3.cell? ⟨rb, 1, none⟩ = some (.int .i64 (p : Int)) := (by rw [hb3'.cell (p := ⟨rb, 1, none⟩) hrb]; exact c1); have d2 : w3.frozen? ⟨rb, 1, none⟩ = false := (by rw [hb3'.frozen (p := ⟨rb, 1, none⟩) hrb]; exact f1)))
      have HSX := HST.out _ hb3'
      exact bodyPost_ret (v := .agg #[.string ⟨#[]⟩, .int .i64 2, .int .i64 0, .string U]) (by simp [results, Tryz.results130, go_sem, *]) rfl (HQQ.out _ _ (by rw [HX.out]; exact ⟨⟨_, rfl, by rw [← HU.out]; rfl⟩, (by repeat (first | (with_reducible exact HSX) | ((with_reducible refine RdR.setCell ?_ ?hq1 ?hq2 _); (case hq1 => (first | (simp; done) | (simp; omega) | omega)); (case hq2 => (first | (simp; done) | (simp; omega) | omega))) | (with_reducible refine RdR.alloc ?_ _) | (with_reducible refine RdR.drew ?_) | refine RdR.below ?_ (by assumption))), (by repeat (first | (with_reducible exact Gr.refl _ _ _) | (with_reducible assumption) | ((with_reducible refine Gr.setCell ?_ ?hq1 _); (case hq1 => (first | (right; rfl) | (left; (first | (simp; done) | (simp; omega) | omega))))) | ((with_reducible refine Gr.alloc ?_ ?hq1 _); (case hq1 => (first | (simp; done) | (simp; omega) | omega))) | (with_reducible refine Gr.drew ?_) | exact Gr.of_below (by assumption) | refine Gr.trans ?_ (by assumption) (by first | (simp; done) | (simp; omega) | omega) | refine Gr.below ?_ (by assumption) (by first | (simp; done) | (simp; omega) | omega)))⟩))
    · rw [if_neg h2] at TF
      have HX := Lib.hid TF.symm
      clear TF HST c1 f1
      dsimp only [tokV] at HH
      obtain ⟨tk, tS, tn, tp⟩ := t
      dsimp only at HH h1 h2 HX
      have e1 : (tk == 110) = false := by simp [h1]
      have e2 : (tk == 116) = false := by simp [h2]
      clear h1 h2
      generalize (⟨tS.toArray⟩ : ByteArray) = U at *
      go_enter Tryz.func130, Tryz.ntmps130
      go_wp2_with (first | (go_at_call 69; (with_reducible refine (HH.out _ (HR.out.alloc _)).mono ?_); rintro e w3 ⟨rfl, hb3⟩; obtain ⟨hc3, hf3⟩ := bcell hb3; have hs3 := hb3.size; (try simp at hs3); (try simp only [World.size_alloc] at hc3 hf3); have hz3 : ¬ w3.heap.size = rb ∧ ¬ rb = w3.heap.size ∧ rb < w3.heap.size ∧ rb < w3.heap.size + 1 ∧ w.heap.size < w3.heap.size := (by omega)))
      go_at_call 61
      refine (NA.out _ (((HR.out.alloc _).below hb3).alloc _)).mono ?_
      rintro e w5 hP
      have hb3' : Below w.heap.size w w3 := ((Below.refl _ _).alloc (Nat.le_refl _) _).trans (hb3.mono (by simp))
      cases hp : nmF (⟨tk, tS, tn, tp⟩ :: r) with
      | no p er =>
        rw [hp] at hP
        obtain ⟨rfl, hg5⟩ := hP
        have HN : Hid (PR.no p er = X) := Lib.hid (by have h := HX.out; rw [hp] at h; exact h)
        clear hp
        go_wp2
        exact ⟨rfl, HQQ.out _ _ (by rw [← HN.out]; exact ⟨rfl, (by repeat (first | (with_reducible exact Gr.refl _ _ _) | (with_reducible assumption) | ((with_reducible refine Gr.setCell ?_ ?hq1 _); (case hq1 => (first | (right; rfl) | (left; (first | (simp; done) | (simp; omega) | omega))))) | ((with_reducible refine Gr.alloc ?_ ?hq1 _); (case hq1 => (first | (simp; done) | (simp; omega) | omega))) | (with_reducible refine Gr.drew ?_) | exact Gr.of_below (by assumption) | refine Gr.trans ?_ (by assumption) (by first | (simp; done) | (simp; omega) | omega) | refine Gr.below ?_ (by assumption) (by first | (simp; done) | (simp; omega) | omega)))⟩)⟩
      | ok a5 r5 =>
        rw [hp] at hP
        obtain ⟨⟨V5, rfl, rfl⟩, hR5, hg5⟩ := hP
        have HN : Hid (PR.ok (⟨a5, 0, 0, []⟩ : TermT) r5 = X) := Lib.hid (by have h := HX.out; rw [hp] at h; exact h)
        have hs5 := hg5.size
        simp at hs5
        obtain ⟨hc5, hf5⟩ := gcell hg5
        simp only [World.size_alloc] at hc5 hf5
        have hz5 : w.heap.size < w5.heap.size ∧ w.heap.size < w3.heap.size + 1 := by omega
        clear hp
        go_wp2
        exact bodyPost_ret (v := .agg #[.string ⟨a5.toArray⟩, .int .i64 0, .int .i64 0, .string ⟨#[]⟩]) (by simp [results, Tryz.results130, go_sem, *]) rfl (HQQ.out _ _ (by rw [← HN.out]; exact ⟨⟨_, rfl, rfl⟩, (by repeat (first | (with_reducible exact hR5) | ((with_reducible refine RdR.setCell ?_ ?hq1 ?hq2 _); (case hq1 => (first | (simp; done) | (simp; omega) | omega)); (case hq2 => (first | (simp; done) | (simp; omega) | omega))) | (with_reducible refine RdR.alloc ?_ _) | (with_reducible refine RdR.drew ?_) | refine RdR.below ?_ (by assumption))), (by repeat (first | (with_reducible exact Gr.refl _ _ _) | (with_reducible assumption) | ((with_reducible refine Gr.setCell ?_ ?hq1 _); (case hq1 => (first | (right; rfl) | (left; (first | (simp; done) | (simp; omega) | omega))))) | ((with_reducible refine Gr.alloc ?_ ?hq1 _); (case hq1 => (first | (simp; done) | (simp; omega) | omega))) | (with_reducible refine Gr.drew ?_) | exact Gr.of_below (by assumption) | refine Gr.trans ?_ (by assumption) (by first | (simp; done) | (simp; omega) | omega) | refine Gr.below ?_ (by assumption) (by first | (simp; done) | (simp; omega) | omega)))⟩))
end Go.Proofs.YtijlifdbjhieaaaGreatDoor
