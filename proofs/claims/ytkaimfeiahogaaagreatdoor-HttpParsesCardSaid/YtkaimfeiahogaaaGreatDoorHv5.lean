/-
  What http.ParseResponse keeps beside its reader; the plain law that joins the stages.
-/
import Derived.Test.YtkaimfeiahogaaaGreatDoorHv4
namespace Go.Proofs.YtkaimfeiahogaaaGreatDoor
set_option linter.all false
open Go.RowKit Go.Shelf
attribute [local go_sem] cell_set_self lt_1 lt_2 lt_3 lt_4 lt_5 lt_6 drew_cell drew_frozen drew_size

/-- The boxes of the response that is made (rb) and of the result (b0). -/
structure RSt (b0 rb : Nat) (W : World) (z : Int) (cl : Bool) : Prop where
  r0 : W.cell? ⟨rb, 0, none⟩ = some (.int .i64 z)
  r1 : W.cell? ⟨rb, 1, none⟩ = some (.slice none 0 0)
  r2 : W.cell? ⟨rb, 2, none⟩ = some (.bool cl)
  q0 : W.cell? ⟨b0, 0, none⟩ = some (.int .i64 0)
  q1 : W.cell? ⟨b0, 1, none⟩ = some (.slice none 0 0)
  q2 : W.cell? ⟨b0, 2, none⟩ = some (.bool false)
  f0 : W.frozen? ⟨rb, 0, none⟩ = false
  f1 : W.frozen? ⟨rb, 1, none⟩ = false
  f2 : W.frozen? ⟨rb, 2, none⟩ = false
  g0 : W.frozen? ⟨b0, 0, none⟩ = false
  g1 : W.frozen? ⟨b0, 1, none⟩ = false
  g2 : W.frozen? ⟨b0, 2, none⟩ = false
  lr : rb < W.heap.size
  l0 : b0 < W.heap.size
theorem grown_frozen {W W' : World} {h : Option Nat} (g : W.grownBy W' h) {b o : Nat} (hb : b < W.heap.size) (hne : some b ≠ h) : W'.frozen? ⟨b, o, none⟩ = W.frozen? ⟨b, o, none⟩ := by
  have := g.block b hb hne
  simp [World.frozen?, this]
theorem grown_cell {W W' : World} {h : Option Nat} (g : W.grownBy W' h) {b o : Nat} (hb : b < W.heap.size) (hne : some b ≠ h) : W'.cell? ⟨b, o, none⟩ = W.cell? ⟨b, o, none⟩ := by
  have := g.block b hb hne
  simp [World.cell?, this]
theorem RSt.grown {b0 rb pb : Nat} {W W' : World} {z : Int} {cl : Bool} (R : RSt b0 rb W z cl) (g : W.grownBy W' (some pb)) (h0 : b0 ≠ pb) (hr : rb ≠ pb) : RSt b0 rb W' z cl := by
  have a : some rb ≠ some pb := fun e => hr (by injection e)
  have b : some b0 ≠ some pb := fun e => h0 (by injection e)
  exact ⟨(grown_cell g R.lr a).trans R.r0, (grown_cell g R.lr a).trans R.r1, (grown_cell g R.lr a).trans R.r2, (grown_cell g R.l0 b).trans R.q0, (grown_cell g R.l0 b).trans R.q1, (grown_cell g R.l0 b).trans R.q2,
    (grown_frozen g R.lr a).trans R.f0, (grown_frozen g R.lr a).trans R.f1, (grown_frozen g R.lr a).trans R.f2, (grown_frozen g R.l0 b).trans R.g0, (grown_frozen g R.l0 b).trans R.g1, (grown_frozen g R.l0 b).trans R.g2, Nat.lt_of_lt_of_le R.lr (grown_size g), Nat.lt_of_lt_of_le R.l0 (grown_size g)⟩
theorem StO.below {α : Type} {o : Tk α} {W W' : World} {pb : Nat} (S : StO W pb o) (hb : Below W.heap.size W W') : StO W' pb o := by
  cases o with
  | wait => obtain ⟨A, n, c, K⟩ := S; exact ⟨A, n, c, K.below hb⟩
  | bad => obtain ⟨A, n, c, K⟩ := S; exact ⟨A, n, c, K.below hb⟩
  | got z l => obtain ⟨A, c, K, T, h⟩ := S; exact ⟨A, c, K.below hb, T.below hb, h⟩
/-- A store beside the reader. -/
theorem Pc.far {W : World} {pb rb : Nat} {A : Option Addr} {n c : Nat} {e x : Bool} (K : Pc W pb A n c e x) (h : rb ≠ pb) (o : Nat) (v : Value) : Pc (W.setCell ⟨rb, o, none⟩ v) pb A n c e x :=
  ⟨(World.cell?_setCell_far W _ ⟨pb, _, none⟩ v h).trans K.c0, (World.cell?_setCell_far W _ ⟨pb, _, none⟩ v h).trans K.c1, (World.cell?_setCell_far W _ ⟨pb, _, none⟩ v h).trans K.c2, by rw [World.frozen?_setCell]; exact K.f0, by rw [World.frozen?_setCell]; exact K.f1, by rw [World.frozen?_setCell]; exact K.f2, by simpa using K.lt⟩
/-- A store into a cell that holds no byte. -/
theorem Bs.setOdd {W : World} {A : Option Addr} {c : Nat} {l : List UInt8} (T : Bs W A c l) {rb j : Nat} {u : Value} (h : W.cell? ⟨rb, j, none⟩ = some u) (hu : ∀ x, u ≠ .int .u8 x) (v : Value) : Bs (W.setCell ⟨rb, j, none⟩ v) A c l :=
  ⟨T.1, T.2.1, fun i x hi => by
    obtain ⟨b, off, e, h1, h2⟩ := T.2.2 i x hi
    refine ⟨b, off, e, by simpa using h1, ?_⟩
    rw [World.cell?_setCell_other W ⟨rb, j, none⟩ ⟨b, off + i, none⟩ v (by
      intro q
      rw [q] at h
      rw [h] at h2
      exact hu _ (Option.some.inj h2))]
    exact h2⟩
theorem StO.far {α : Type} {o : Tk α} {W : World} {pb rb j : Nat} {u : Value} (S : StO W pb o) (h : rb ≠ pb) (hc : W.cell? ⟨rb, j, none⟩ = some u) (hu : ∀ x, u ≠ .int .u8 x) (v : Value) : StO (W.setCell ⟨rb, j, none⟩ v) pb o := by
  cases o with
  | wait => obtain ⟨A, n, c, K⟩ := S; exact ⟨A, n, c, K.far h j v⟩
  | bad => obtain ⟨A, n, c, K⟩ := S; exact ⟨A, n, c, K.far h j v⟩
  | got z l => obtain ⟨A, c, K, T, h2⟩ := S; exact ⟨A, c, K.far h j v, T.setOdd hc hu v, h2⟩
theorem RSt.status {b0 rb : Nat} {W : World} {z : Int} {cl : Bool} (R : RSt b0 rb W z cl) (h : b0 ≠ rb) (v : Int) : RSt b0 rb (W.setCell ⟨rb, 0, none⟩ (.int .i64 v)) v cl :=
  ⟨setCell_eq _ _ _ _ _ R.r0, (setCell_ne _ _ _ _ _ (by decide)).trans R.r1, (setCell_ne _ _ _ _ _ (by decide)).trans R.r2, (World.cell?_setCell_far W _ ⟨b0, _, none⟩ _ h.symm).trans R.q0, (World.cell?_setCell_far W _ ⟨b0, _, none⟩ _ h.symm).trans R.q1, (World.cell?_setCell_far W _ ⟨b0, _, none⟩ _ h.symm).trans R.q2,
    by rw [World.frozen?_setCell]; exact R.f0, by rw [World.frozen?_setCell]; exact R.f1, by rw [World.frozen?_setCell]; exact R.f2, by rw [World.frozen?_setCell]; exact R.g0, by rw [World.frozen?_setCell]; exact R.g1, by rw [World.frozen?_setCell]; exact R.g2, by simpa using R.lr, by simpa using R.l0⟩
theorem RSt.close {b0 rb : Nat} {W : World} {z : Int} {cl : Bool} (R : RSt b0 rb W z cl) (h : b0 ≠ rb) (v : Bool) : RSt b0 rb (W.setCell ⟨rb, 2, none⟩ (.bool v)) z v :=
  ⟨(setCell_ne _ _ _ _ _ (by decide)).trans R.r0, (setCell_ne _ _ _ _ _ (by decide)).trans R.r1, setCell_eq _ _ _ _ _ R.r2, (World.cell?_setCell_far W _ ⟨b0, _, none⟩ _ h.symm).trans R.q0, (World.cell?_setCell_far W _ ⟨b0, _, none⟩ _ h.symm).trans R.q1, (World.cell?_setCell_far W _ ⟨b0, _, none⟩ _ h.symm).trans R.q2,
    by rw [World.frozen?_setCell]; exact R.f0, by rw [World.frozen?_setCell]; exact R.f1, by rw [World.frozen?_setCell]; exact R.f2, by rw [World.frozen?_setCell]; exact R.g0, by rw [World.frozen?_setCell]; exact R.g1, by rw [World.frozen?_setCell]; exact R.g2, by simpa using R.lr, by simpa using R.l0⟩
theorem RSt.below {b0 rb : Nat} {W W' : World} {z : Int} {cl : Bool} (R : RSt b0 rb W z cl) (h : Below W.heap.size W W') : RSt b0 rb W' z cl :=
  ⟨(h.cell (p := ⟨rb, _, none⟩) R.lr).trans R.r0, (h.cell (p := ⟨rb, _, none⟩) R.lr).trans R.r1, (h.cell (p := ⟨rb, _, none⟩) R.lr).trans R.r2, (h.cell (p := ⟨b0, _, none⟩) R.l0).trans R.q0, (h.cell (p := ⟨b0, _, none⟩) R.l0).trans R.q1, (h.cell (p := ⟨b0, _, none⟩) R.l0).trans R.q2,
    (h.frozen (p := ⟨rb, _, none⟩) R.lr).trans R.f0, (h.frozen (p := ⟨rb, _, none⟩) R.lr).trans R.f1, (h.frozen (p := ⟨rb, _, none⟩) R.lr).trans R.f2, (h.frozen (p := ⟨b0, _, none⟩) R.l0).trans R.g0, (h.frozen (p := ⟨b0, _, none⟩) R.l0).trans R.g1, (h.frozen (p := ⟨b0, _, none⟩) R.l0).trans R.g2, Nat.lt_of_lt_of_le R.lr h.size, Nat.lt_of_lt_of_le R.l0 h.size⟩
def clo : List UInt8 := closeLine ++ [13, 10]
/-- The text behind a status, for any number. -/
def tMidI (v : Int) : List UInt8 := [32] ++ reasonF v ++ [13, 10] ++ tCtype ++ [13, 10] ++ tLen ++ [58, 32]
def o2F (l : List UInt8) : Tk Unit := (takeT tStart l).bind fun _ r => if r.head? = some 48 then .bad else .got () r
def o3F (l : List UInt8) : Tk Nat := (o2F l).bind fun _ l => numN 3 [] l
def o4F (l : List UInt8) : Tk Nat := (o3F l).bind fun z q => if z < 100 then .bad else .got z q
theorem o4F_eq (l : List UInt8) : o4F l = (takeT tStart l).bind fun _ r => statN r := by
  unfold o4F o3F o2F statN
  cases takeT tStart l with
  | wait => rfl
  | bad => rfl
  | got u r =>
    show (((if r.head? = some 48 then Tk.bad else Tk.got () r).bind fun _ l => numN 3 [] l).bind _) = if r.head? = some 48 then Tk.bad else _
    split <;> rfl
def o5F (v : Int) (o : Tk Nat) : Tk Nat := o.bind fun z l => (takeT (tMidI v) l).bind fun _ r => .got z r
def o6F (n : Nat) (o : Tk Nat) : Tk Nat := o.bind fun _ l => numN n [13, 10] l
def o7F (o : Tk Nat) : Tk Nat := o.bind fun m r => if r.head? = some 99 then (takeT clo r).bind fun _ q => .got m q else .got m r
def o8F (o : Tk Nat) : Tk Nat := o.bind fun m r => (takeT [13, 10] r).bind fun _ q => .got m q
/-- What the stages tell, joined. -/
theorem resp_join (l : List UInt8) (n : Nat) (hl : l.length ≤ n) (v : Int) (hv : ∀ z r, o4F l = .got z r → v = (z : Int)) (h5 : Short n (o5F v (o4F l))) :
    (o8F (o7F (o6F n (o5F v (o4F l)))) = .wait → respF l = .wait) ∧ (o8F (o7F (o6F n (o5F v (o4F l)))) = .bad → respF l = .bad) ∧
    ∀ m q, o8F (o7F (o6F n (o5F v (o4F l)))) = .got m q → ∃ (z : Nat) (k : Nat) (r : List UInt8), v = (z : Int) ∧ o6F n (o5F v (o4F l)) = .got k r ∧ respF l = (bodyT m q).bind fun _ r' => .got (z, decide (r.head? = some 99), m) r' := by
  rw [respF_eq, ← o4F_eq]
  cases ho : o4F l with
  | wait => exact ⟨fun _ => rfl, fun e => (by cases e), fun m q e => by cases e⟩
  | bad => exact ⟨fun e => (by cases e), fun _ => rfl, fun m q e => by cases e⟩
  | got z r =>
    have hvz := hv z r ho
    subst hvz
    rw [ho] at h5
    have hm : tMidI (z : Int) = tMid z := rfl
    unfold o5F at h5 ⊢
    rw [hm] at h5 ⊢
    show (o8F (o7F (o6F n ((takeT (tMid z) r).bind fun _ r => Tk.got z r))) = .wait → (((takeT (tMid z) r).bind fun _ r => numT okWN okN r).bind _) = .wait) ∧ (o8F (o7F (o6F n ((takeT (tMid z) r).bind fun _ r => Tk.got z r))) = .bad → (((takeT (tMid z) r).bind fun _ r => numT okWN okN r).bind _) = .bad) ∧ ∀ m q, o8F (o7F (o6F n ((takeT (tMid z) r).bind fun _ r => Tk.got z r))) = .got m q → ∃ (z' k : Nat) (r' : List UInt8), (z : Int) = (z' : Int) ∧ o6F n ((takeT (tMid z) r).bind fun _ r => Tk.got z r) = .got k r' ∧ (((takeT (tMid z) r).bind fun _ r => numT okWN okN r).bind _) = _
    have h5' : Short n ((takeT (tMid z) r).bind fun _ r => Tk.got z r) := h5
    cases ht : takeT (tMid z) r with
    | wait => exact ⟨fun _ => rfl, fun e => (by cases e), fun m q e => by cases e⟩
    | bad => exact ⟨fun e => (by cases e), fun _ => rfl, fun m q e => by cases e⟩
    | got u r3 =>
      have hs3 : r3.length ≤ n := h5' z r3 (by rw [ht]; rfl)
      have h6 : o6F n ((Tk.got u r3).bind fun _ r => Tk.got z r) = numN n [13, 10] r3 := rfl
      rw [h6, numN_eq [13, 10] hs3]
      show (o8F (o7F ((numT okWN okN r3).bind _)) = .wait → ((numT okWN okN r3).bind _) = .wait) ∧ (o8F (o7F ((numT okWN okN r3).bind _)) = .bad → ((numT okWN okN r3).bind _) = .bad) ∧ ∀ m q, o8F (o7F ((numT okWN okN r3).bind _)) = .got m q → ∃ (z' k : Nat) (r' : List UInt8), (z : Int) = (z' : Int) ∧ ((numT okWN okN r3).bind _) = .got k r' ∧ ((numT okWN okN r3).bind _) = _
      cases numT okWN okN r3 with
      | wait => exact ⟨fun _ => rfl, fun e => (by cases e), fun m q e => by cases e⟩
      | bad => exact ⟨fun e => (by cases e), fun _ => rfl, fun m q e => by cases e⟩
      | got m r4 =>
        show (o8F (o7F ((takeT [13, 10] r4).bind fun _ q => Tk.got m q)) = .wait → ((closeT r4).bind fun cl r => (bodyT m r).bind fun _ r => Tk.got (z, cl, m) r) = .wait) ∧ (o8F (o7F ((takeT [13, 10] r4).bind fun _ q => Tk.got m q)) = .bad → ((closeT r4).bind fun cl r => (bodyT m r).bind fun _ r => Tk.got (z, cl, m) r) = .bad) ∧ ∀ m' q, o8F (o7F ((takeT [13, 10] r4).bind fun _ q => Tk.got m q)) = .got m' q → ∃ (z' k : Nat) (r' : List UInt8), (z : Int) = (z' : Int) ∧ ((takeT [13, 10] r4).bind fun _ q => Tk.got m q) = .got k r' ∧ ((closeT r4).bind fun cl r => (bodyT m r).bind fun _ r => Tk.got (z, cl, m) r) = (bodyT m' q).bind fun _ r'' => Tk.got (z', decide (r'.head? = some 99), m') r''
        unfold closeT
        cases takeT [13, 10] r4 with
        | wait => exact ⟨fun _ => rfl, fun e => (by cases e), fun m q e => by cases e⟩
        | bad => exact ⟨fun e => (by cases e), fun _ => rfl, fun m q e => by cases e⟩
        | got u5 r5 =>
          unfold o7F o8F clo
          by_cases h99 : r5.head? = some 99
          · simp only [Tk.bind, if_pos h99, decide_eq_true h99]
            cases takeT (closeLine ++ [13, 10]) r5 with
            | wait => exact ⟨fun _ => rfl, fun e => (by cases e), fun m q e => by cases e⟩
            | bad => exact ⟨fun e => (by cases e), fun _ => rfl, fun m q e => by cases e⟩
            | got u6 r6 =>
              simp only
              cases takeT [13, 10] r6 with
              | wait => exact ⟨fun _ => rfl, fun e => (by cases e), fun m q e => by cases e⟩
              | bad => exact ⟨fun e => (by cases e), fun _ => rfl, fun m q e => by cases e⟩
              | got u7 r7 =>
                refine ⟨fun e => (by cases e), fun e => (by cases e), fun m' q e => ?_⟩
                injection e with e1 e2
                subst e1 e2
                exact ⟨z, m, r5, rfl, rfl, by rw [decide_eq_true h99]⟩
          · simp only [Tk.bind, if_neg h99, decide_eq_false h99]
            cases takeT [13, 10] r5 with
            | wait => exact ⟨fun _ => rfl, fun e => (by cases e), fun m q e => by cases e⟩
            | bad => exact ⟨fun e => (by cases e), fun _ => rfl, fun m q e => by cases e⟩
            | got u7 r7 =>
              refine ⟨fun e => (by cases e), fun e => (by cases e), fun m' q e => ?_⟩
              injection e with e1 e2
              subst e1 e2
              exact ⟨z, m, r5, rfl, rfl, by rw [decide_eq_false h99]⟩
end Go.Proofs.YtkaimfeiahogaaaGreatDoor
