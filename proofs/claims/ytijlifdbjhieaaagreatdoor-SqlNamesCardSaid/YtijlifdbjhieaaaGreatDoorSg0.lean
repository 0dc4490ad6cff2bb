/-
  Lemmas for the law's Query. (Printed by tools/mksg3.py.)
-/
import Derived.Test.YtijlifdbjhieaaaGreatDoorSg1
namespace Go.Proofs.YtijlifdbjhieaaaGreatDoor
set_option linter.all false
open Go.RowKit Go.Shelf Go.Sort
attribute [local go_sem] cell_set_self lt_1 lt_2 lt_3 lt_4 lt_5 lt_6

section
variable {P : Program}
theorem strs_news {w : World} {b off : Nat} {l : List (List UInt8)} (T : Strs w (some ⟨b, off, none⟩) l) (j : Nat) (u : Value) (h : (cellsN l)[j]? = some u) : w.cell? ((⟨b, off, none⟩ : Addr).add j) = some u := by
  unfold cellsN at h
  rw [List.getElem?_map] at h
  cases hx : l[j]? with
  | none => rw [hx] at h; cases h
  | some x =>
    rw [hx] at h; injection h with h; subst h
    obtain ⟨b', off', e, -, hc⟩ := T j x hx
    injection e with e; injection e with e1 e2; subst e1 e2
    have ea : (⟨b, off, none⟩ : Addr).add j = ⟨b, off + j, none⟩ := by unfold Addr.add; split <;> simp_all
    rw [ea]; exact hc
theorem step_append_strs {ops : Array Oper} {o : Oper} {a : Act} {K : Act → World → Prop} {Q : Exit → Act → World → Prop} {E : Prop} (w : World) (hgd : o.guard = none) (s x : Operand) (t : TypeId)
    (ho : o.op = .call { callee := .builtin .append, args := #[s, x], argTypes := #[t, t] })
    (base : Nat) (i : TypeInfo) (ht : P.underlying t = some (.slice 9)) (hi : P.info? 9 = some i) (hz : i.zero = some (.string ⟨#[]⟩)) (hsize : i.size = 1) (hby : i.bytes = 16)
    (v : Value) (n : Nat) (xs : List Value) (hs : a.eval s = v) (hown : w.ownsRow base 9 1 v n xs)
    (A : Option Addr) (m c : Nat) (l : List (List UInt8)) (hx : a.eval x = .slice A m c) (hl : l.length = m) (hA : A = none → c = 0) (T : Strs w A l) (hsp : ∀ b off sp, A = some ⟨b, off, sp⟩ → sp = none ∨ l = [])
    (h63 : n + m ≤ maxLen) (hbytes : (n + m) * 16 ≤ 140737488355328) (hbase : base ≤ w.heap.size)
    (h : ∀ v' w', w'.ownsRow base 9 1 v' (n + m) (xs ++ cellsN l) → w.grownBy w' v.ownBlock → K (a.put o.dst v') w') :
    if Region.wanted o (yielded ops a.tmps) = true then Oper.wp P o a w K Q else E := by
  have hw : Region.wanted o (yielded ops a.tmps) = true := by simp [Region.wanted, hgd]
  rw [if_pos hw]
  rcases A with _ | ad
  · obtain rfl := hA rfl
    have hl0 : l = [] := by
      cases l with
      | nil => rfl
      | cons y r => obtain ⟨b, off, e, -⟩ := T 0 y rfl; cases e
    subst hl0
    simp at hl; subst hl
    have hrun := run_append_owned_none (P := P) (w := w) base t o.type 9 i 1 ht hi v n xs hown
    have g := h v w (by simpa [cellsN] using hown) ⟨rfl, rfl, rfl, Nat.le_refl _, fun _ _ _ => rfl⟩
    unfold Oper.wp
    simp [execOp, ho, resolve, invoke, builtin, hs, hx, hrun, Result.andThen]
    exact g
  · obtain ⟨b, off, sp⟩ := ad
    have hone : ∀ u ∈ cellsN l, u.oneCell' = true := by
      intro u hu
      unfold cellsN at hu
      obtain ⟨s, -, rfl⟩ := List.mem_map.1 hu
      rfl
    have nw : ∀ j u, (cellsN l)[j]? = some u → w.cell? ((⟨b, off, sp⟩ : Addr).add j) = some u := by
      intro j u hj
      rcases hsp b off sp rfl with rfl | rfl
      · exact strs_news T j u hj
      · simp [cellsN] at hj
    exact wp_append_own w s x t ho base _ i _ 1 16 ht hi hz hsize hby rfl (by decide) v n xs hs hown ⟨b, off, sp⟩ m c _ hx (by simp [cellsN, hl]) nw hone h63 hbytes hbase fun v' w' h1 h2 _ => h v' w' h1 h2
end
theorem strs_spot {w : World} {A : Option Addr} {l : List (List UInt8)} (T : Strs w A l) (b off : Nat) (sp : Option Nat) (h : A = some ⟨b, off, sp⟩) : sp = none ∨ l = [] := by
  cases l with
  | nil => exact .inr rfl
  | cons y r =>
    obtain ⟨b', off', e, -⟩ := T 0 y rfl
    rw [h] at e; injection e with e; injection e with e1 e2 e3
    exact .inl e3
theorem ItL.keep {P : Nat → Prop} {W W' : World} {A : Option Addr} {l : List ItemT} (h : ItL W A l) (hk : Kp P W W') (hP : ∀ b off sp, A = some ⟨b, off, sp⟩ → P b) : ItL W' A l := fun i x hi => by
  obtain ⟨b, off, h1, h2, h3, h4⟩ := h i x hi
  exact ⟨b, off, h1, Nat.lt_of_lt_of_le h2 hk.size, hk.cell (hP b off none h1) h2 h3, hk.cell (hP b off none h1) h2 h4⟩
theorem OrL.keep {P : Nat → Prop} {W W' : World} {A : Option Addr} {l : List OrderT} (h : OrL W A l) (hk : Kp P W W') (hP : ∀ b off sp, A = some ⟨b, off, sp⟩ → P b) : OrL W' A l := fun i x hi => by
  obtain ⟨b, off, h1, h2, h3, h4⟩ := h i x hi
  exact ⟨b, off, h1, Nat.lt_of_lt_of_le h2 hk.size, hk.cell (hP b off none h1) h2 h3, hk.cell (hP b off none h1) h2 h4⟩
theorem Strs.keep {P : Nat → Prop} {W W' : World} {A : Option Addr} {l : List (List UInt8)} (h : Strs W A l) (hk : Kp P W W') (hP : ∀ b off sp, A = some ⟨b, off, sp⟩ → P b) : Strs W' A l := fun i x hi => by
  obtain ⟨b, off, h1, h2, h3⟩ := h i x hi
  exact ⟨b, off, h1, Nat.lt_of_lt_of_le h2 hk.size, hk.cell (hP b off none h1) h2 h3⟩
theorem cellsI_at : ∀ {l : List ItemT} {i : Nat} {x : ItemT}, l[i]? = some x → (cellsI l)[i * 2]? = some (.string ⟨x.agg.toArray⟩) ∧ (cellsI l)[i * 2 + 1]? = some (.string ⟨x.col.toArray⟩)
  | a :: l, 0, x, h => by simp at h; subst h; exact ⟨rfl, rfl⟩
  | a :: l, i + 1, x, h => by
    have := cellsI_at (l := l) (i := i) (x := x) (by simpa using h)
    rw [show (i + 1) * 2 = i * 2 + 2 by omega]
    exact this
theorem cellsO_at : ∀ {l : List OrderT} {i : Nat} {x : OrderT}, l[i]? = some x → (cellsO l)[i * 2]? = some (.string ⟨x.col.toArray⟩) ∧ (cellsO l)[i * 2 + 1]? = some (.bool x.desc)
  | a :: l, 0, x, h => by simp at h; subst h; exact ⟨rfl, rfl⟩
  | a :: l, i + 1, x, h => by
    have := cellsO_at (l := l) (i := i) (x := x) (by simpa using h)
    rw [show (i + 1) * 2 = i * 2 + 2 by omega]
    exact this
theorem own_items {W : World} {base : Nat} {T : TypeId} {A : Option Addr} {n c : Nat} {l : List ItemT} (h : W.ownsRow base T 2 (.slice A n c) l.length (cellsI l)) : ItL W A l ∧ ∀ b off sp, A = some ⟨b, off, sp⟩ → base ≤ b := by
  refine ⟨fun i x hi => ?_, fun b off sp e => by subst e; exact (h.lt b rfl).1⟩
  have hil := (List.getElem?_eq_some_iff.1 hi).1
  rcases h.2 with ⟨e, h0⟩ | ⟨g, cap, cur, e, hg, hh, -, -, -, ht⟩
  · omega
  · injection e with e1 e2 e3; subst e1
    obtain ⟨k1, k2⟩ := cellsI_at hi
    rw [← ht, List.getElem?_take, if_pos (by omega)] at k1 k2
    exact ⟨g, 0, rfl, (Array.getElem?_eq_some_iff.1 hh).1, by simp only [World.cell?, hh, Nat.zero_add]; simpa using k1, by simp only [World.cell?, hh, Nat.zero_add]; simpa using k2⟩
theorem own_orders {W : World} {base : Nat} {T : TypeId} {A : Option Addr} {n c : Nat} {l : List OrderT} (h : W.ownsRow base T 2 (.slice A n c) l.length (cellsO l)) : OrL W A l ∧ ∀ b off sp, A = some ⟨b, off, sp⟩ → base ≤ b := by
  refine ⟨fun i x hi => ?_, fun b off sp e => by subst e; exact (h.lt b rfl).1⟩
  have hil := (List.getElem?_eq_some_iff.1 hi).1
  rcases h.2 with ⟨e, h0⟩ | ⟨g, cap, cur, e, hg, hh, -, -, -, ht⟩
  · omega
  · injection e with e1 e2 e3; subst e1
    obtain ⟨k1, k2⟩ := cellsO_at hi
    rw [← ht, List.getElem?_take, if_pos (by omega)] at k1 k2
    exact ⟨g, 0, rfl, (Array.getElem?_eq_some_iff.1 hh).1, by simp only [World.cell?, hh, Nat.zero_add]; simpa using k1, by simp only [World.cell?, hh, Nat.zero_add]; simpa using k2⟩
theorem keepW {W0 w' : World} (h : Below W0.heap.size W0 w') : (∀ b o, b < W0.heap.size → w'.cell? ⟨b, o, none⟩ = W0.cell? ⟨b, o, none⟩) ∧ Below W0.heap.size W0 w' := ⟨(bcell h).1, h⟩
/-- What kind of block lies there. -/
def TyAt (W : World) (b : Nat) (t : TypeId) : Prop := ∃ cs fz, W.heap[b]? = some (.cells cs t fz)
theorem TyAt.set {W : World} {b : Nat} {t : TypeId} (h : TyAt W b t) (b' o : Nat) (v : Value) : TyAt (W.setCell ⟨b', o, none⟩ v) b t := by
  obtain ⟨cs, fz, h⟩ := h
  by_cases e : b = b'
  · subst e; exact ⟨_, _, set_at h o v⟩
  · exact ⟨cs, fz, (setCell_block _ _ _ _ e).trans h⟩
theorem own_alloc {W : World} {base size n : Nat} {e : TypeId} {V : Value} {xs : List Value} (h : W.ownsRow base e size V n xs) (o : Obj) : (W.alloc o).ownsRow base e size V n xs := own_below h ((Below.refl _ _).alloc (Nat.le_refl _) o)
end Go.Proofs.YtijlifdbjhieaaaGreatDoor
