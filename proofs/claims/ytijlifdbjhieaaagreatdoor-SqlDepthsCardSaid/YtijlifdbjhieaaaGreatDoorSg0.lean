/-
  Lemmas for the law's Query. (Printed by tools/mksg3.py.)
-/
import Derived.Test.YtijlifdbjhieaaaGreatDoorSg2
namespace Go.Proofs.YtijlifdbjhieaaaGreatDoor
set_option linter.all false
open Go.RowKit Go.Shelf Go.Sort
attribute [local go_sem] cell_set_self lt_1 lt_2 lt_3 lt_4 lt_5 lt_6

section
variable {P : Program}
theorem strs_news {w : World} {b off : Nat} {l : List (List UInt8)} (T : Strs w (some ⟨b, off, none⟩) l) (j : Nat) (u : Value) (h : (cellsN l)[j]? = some u) : w.cell? ((⟨b, off, none⟩ : Addr).add j) = some u := by
  unfold cellsN at h
  rw [List.getElem?_map] at h
  cases hx : l[j]? with
  | none => rw [hx] at h; cases h
  | some x =>
    rw [hx] at h; injection h with h; subst h
    obtain ⟨b', off', e, -, hc⟩ := T j x hx
    injection e with e; injection e with e1 e2; subst e1 e2
    have ea : (⟨b, off, none⟩ : Addr).add j = ⟨b, off + j, none⟩ := by unfold Addr.add; split <;> simp_all
    rw [ea]; exact hc
theorem step_append_strs {ops : Array Oper} {o : Oper} {a : Act} {K : Act → World → Prop} {Q : Exit → Act → World → Prop} {E : Prop} (w : World) (hgd : o.guard = none) (s x : Operand) (t : TypeId)
    (ho : o.op = .call { callee := .builtin .append, args := #[s, x], argTypes := #[t, t] })
    (base : Nat) (i : TypeInfo) (ht : P.underlying t = some (.slice 9)) (hi : P.info? 9 = some i) (hz : i.zero = some (.string ⟨#[]⟩)) (hsize : i.size = 1) (hby : i.bytes = 16)
    (v : Value) (n : Nat) (xs : List Value) (hs : a.eval s = v) (hown : w.ownsRow base 9 1 v n xs)
    (A : Option Addr) (m c : Nat) (l : List (List UInt8)) (hx : a.eval x = .slice A m c) (hl : l.length = m) (hA : A = none → c = 0) (T : Strs w A l) (hsp : ∀ b off sp, A = some ⟨b, off, sp⟩ → sp = none ∨ l = [])
    (h63 : n + m ≤ maxLen) (hbytes : (n + m) * 16 ≤ 140737488355328) (hbase : base ≤ w.heap.size)
    (h : ∀ v' w', w'.ownsRow base 9 1 v' (n + m) (xs ++ cellsN l) → w.grownBy w' v.ownBlock → K (a.put o.dst v') w') :
    if Region.wanted o (yielded ops a.tmps) = true then Oper.wp P o a w K Q else E := by
  have hw : Region.wanted o (yielded ops a.tmps) = true := by simp [Region.wanted, hgd]
  rw [if_pos hw]
  rcases A with _ | ad
  · obtain rfl := hA rfl
    have hl0 : l = [] := by
      cases l with
      | nil => rfl
      | cons y r => obtain ⟨b, off, e, -⟩ := T 0 y rfl; cases e
    subst hl0
    simp at hl; subst hl
    have hrun := run_append_owned_none (P := P) (w := w) base t o.type 9 i 1 ht hi v n xs hown
    have g := h v w (by simpa [cellsN] using hown) ⟨rfl, rfl, rfl, Nat.le_refl _, fun _ _ _ => rfl⟩
    unfold Oper.wp
    simp [execOp, ho, resolve, invoke, builtin, hs, hx, hrun, Result.andThen]
    exact g
  · obtain ⟨b, off, sp⟩ := ad
    have hone : ∀ u ∈ cellsN l, u.oneCell' = true := by
      intro u hu
      unfold cellsN at hu
      obtain ⟨s, -, rfl⟩ := List.mem_map.1 hu
      rfl
    have nw : ∀ j u, (cellsN l)[j]? = some u → w.cell? ((⟨b, off, sp⟩ : Addr).add j) = some u := by
      intro j u hj
      rcases hsp b off sp rfl with rfl | rfl
      · exact strs_news T j u hj
      · simp [cellsN] at hj
    exact wp_append_own w s x t ho base _ i _ 1 16 ht hi hz hsize hby rfl (by decide) v n xs hs hown ⟨b, off, sp⟩ m c _ hx (by simp [cellsN, hl]) nw hone h63 hbytes hbase fun v' w' h1 h2 _ => h v' w' h1 h2
end
theorem strs_spot {w : World} {A : Option Addr} {l : List (List UInt8)} (T : Strs w A l) (b off : Nat) (sp : Option Nat) (h : A = some ⟨b, off, sp⟩) : sp = none ∨ l = [] := by
  cases l with
  | nil => exact .inr rfl
  | cons y r =>
    obtain ⟨b', off', e, -⟩ := T 0 y rfl
    rw [h] at e; injection e with e; injection e with e1 e2 e3
    exact .inl e3
theorem own_empty_at {w : World} {base g : Nat} (hh : w.heap[g]? = some (.cells #[] 9 (0, 0))) (hb : base ≤ g) : w.ownsRow base 9 1 (.slice (some ⟨g, 0, none⟩) 0 0) 0 [] :=
  ⟨by simp, .inr ⟨g, 0, #[], rfl, hb, hh, by omega, by unfold maxLen; omega, by simp, by simp⟩⟩
theorem info_litem : (Tryz.prog.info? 91).map (fun i => (i.zero, i.size, i.bytes)) = some (some (.agg #[.string ⟨#[]⟩, .string ⟨#[]⟩]), 2, 32) := by kernel_rfl
theorem info_lorder : (Tryz.prog.info? 92).map (fun i => (i.zero, i.size, i.bytes)) = some (some (.agg #[.string ⟨#[]⟩, .bool false]), 2, 24) := by kernel_rfl
theorem Kp.weaken {P P' : Nat → Prop} {W W' : World} (h : Kp P' W W') (hp : ∀ b, P b → P' b) : Kp P W W' := ⟨h.size, fun k hk hlt => h.block k (hp k hk) hlt⟩
theorem ItL.keep {P : Nat → Prop} {W W' : World} {A : Option Addr} {l : List ItemT} (h : ItL W A l) (hk : Kp P W W') (hP : ∀ b off sp, A = some ⟨b, off, sp⟩ → P b) : ItL W' A l := fun i x hi => by
  obtain ⟨b, off, h1, h2, h3, h4⟩ := h i x hi
  exact ⟨b, off, h1, Nat.lt_of_lt_of_le h2 hk.size, hk.cell (hP b off none h1) h2 h3, hk.cell (hP b off none h1) h2 h4⟩
theorem OrL.keep {P : Nat → Prop} {W W' : World} {A : Option Addr} {l : List OrderT} (h : OrL W A l) (hk : Kp P W W') (hP : ∀ b off sp, A = some ⟨b, off, sp⟩ → P b) : OrL W' A l := fun i x hi => by
  obtain ⟨b, off, h1, h2, h3, h4⟩ := h i x hi
  exact ⟨b, off, h1, Nat.lt_of_lt_of_le h2 hk.size, hk.cell (hP b off none h1) h2 h3, hk.cell (hP b off none h1) h2 h4⟩
theorem Strs.keep {P : Nat → Prop} {W W' : World} {A : Option Addr} {l : List (List UInt8)} (h : Strs W A l) (hk : Kp P W W') (hP : ∀ b off sp, A = some ⟨b, off, sp⟩ → P b) : Strs W' A l := fun i x hi => by
  obtain ⟨b, off, h1, h2, h3⟩ := h i x hi
  exact ⟨b, off, h1, Nat.lt_of_lt_of_le h2 hk.size, hk.cell (hP b off none h1) h2 h3⟩
theorem cellsI_at : ∀ {l : List ItemT} {i : Nat} {x : ItemT}, l[i]? = some x → (cellsI l)[i * 2]? = some (.string ⟨x.agg.toArray⟩) ∧ (cellsI l)[i * 2 + 1]? = some (.string ⟨x.col.toArray⟩)
  | a :: l, 0, x, h => by simp at h; subst h; exact ⟨rfl, rfl⟩
  | a :: l, i + 1, x, h => by
    have := cellsI_at (l := l) (i := i) (x := x) (by simpa using h)
    rw [show (i + 1) * 2 = i * 2 + 2 by omega]
    exact this
theorem cellsO_at : ∀ {l : List OrderT} {i : Nat} {x : OrderT}, l[i]? = some x → (cellsO l)[i * 2]? = some (.string ⟨x.col.toArray⟩) ∧ (cellsO l)[i * 2 + 1]? = some (.bool x.desc)
  | a :: l, 0, x, h => by simp at h; subst h; exact ⟨rfl, rfl⟩
  | a :: l, i + 1, x, h => by
    have := cellsO_at (l := l) (i := i) (x := x) (by simpa using h)
    rw [show (i + 1) * 2 = i * 2 + 2 by omega]
    exact this
theorem own_items {W : World} {base : Nat} {T : TypeId} {A : Option Addr} {n c : Nat} {l : List ItemT} (h : W.ownsRow base T 2 (.slice A n c) l.length (cellsI l)) : ItL W A l ∧ ∀ b off sp, A = some ⟨b, off, sp⟩ → base ≤ b := by
  refine ⟨fun i x hi => ?_, fun b off sp e => by subst e; exact (h.lt b rfl).1⟩
  have hil := (List.getElem?_eq_some_iff.1 hi).1
  rcases h.2 with ⟨e, h0⟩ | ⟨g, cap, cur, e, hg, hh, -, -, -, ht⟩
  · omega
  · injection e with e1 e2 e3; subst e1
    obtain ⟨k1, k2⟩ := cellsI_at hi
    rw [← ht, List.getElem?_take, if_pos (by omega)] at k1 k2
    exact ⟨g, 0, rfl, (Array.getElem?_eq_some_iff.1 hh).1, by simp only [World.cell?, hh, Nat.zero_add]; simpa using k1, by simp only [World.cell?, hh, Nat.zero_add]; simpa using k2⟩
theorem own_orders {W : World} {base : Nat} {T : TypeId} {A : Option Addr} {n c : Nat} {l : List OrderT} (h : W.ownsRow base T 2 (.slice A n c) l.length (cellsO l)) : OrL W A l ∧ ∀ b off sp, A = some ⟨b, off, sp⟩ → base ≤ b := by
  refine ⟨fun i x hi => ?_, fun b off sp e => by subst e; exact (h.lt b rfl).1⟩
  have hil := (List.getElem?_eq_some_iff.1 hi).1
  rcases h.2 with ⟨e, h0⟩ | ⟨g, cap, cur, e, hg, hh, -, -, -, ht⟩
  · omega
  · injection e with e1 e2 e3; subst e1
    obtain ⟨k1, k2⟩ := cellsO_at hi
    rw [← ht, List.getElem?_take, if_pos (by omega)] at k1 k2
    exact ⟨g, 0, rfl, (Array.getElem?_eq_some_iff.1 hh).1, by simp only [World.cell?, hh, Nat.zero_add]; simpa using k1, by simp only [World.cell?, hh, Nat.zero_add]; simpa using k2⟩
/-- A row that is empty, just made. -/
theorem own_empty (w : World) (base H : Nat) (hb : base ≤ w.heap.size) (hH : w.heap.size = H) : (w.alloc (.cells #[] 9)).ownsRow base 9 1 (.slice (some ⟨H, 0, none⟩) 0 0) 0 [] := by
  subst hH
  exact ⟨by simp, .inr ⟨w.heap.size, 0, #[], rfl, hb, heap_alloc_new w _, by omega, by unfold maxLen; omega, by simp, by simp⟩⟩
theorem grown_row {W W' : World} {g n c B : Nat} (hg : W.grownBy W' (Value.slice (some ⟨g, 0, none⟩) n c).ownBlock) (hB : B ≤ g) : (∀ q o, q < B → q < W.heap.size → W'.cell? ⟨q, o, none⟩ = W.cell? ⟨q, o, none⟩) ∧ (∀ q, q ≠ g → q < W.heap.size → W'.heap[q]? = W.heap[q]?) :=
  ⟨fun q o hq hs => grown_low hg (B := B) (fun j hj => by have h2 : g = j := Option.some.inj hj; omega) q o hq hs, fun q hq hs => hg.block q hs (fun e => hq (Option.some.inj e))⟩
theorem grown_at {W W' : World} {g n c : Nat} (hg : W.grownBy W' (Value.slice (some ⟨g, 0, none⟩) n c).ownBlock) (q : Nat) (hq : q ≠ g) (hs : q < W.heap.size) : W'.heap[q]? = W.heap[q]? ∧ ∀ o, W'.cell? ⟨q, o, none⟩ = W.cell? ⟨q, o, none⟩ ∧ W'.frozen? ⟨q, o, none⟩ = W.frozen? ⟨q, o, none⟩ := by
  have e := hg.block q hs (fun e => hq (Option.some.inj e))
  exact ⟨e, fun o => ⟨by simp only [World.cell?, e], by simp only [World.frozen?, e]⟩⟩
theorem grown_ge {g n c B j : Nat} (hj : (Value.slice (some ⟨g, 0, none⟩) n c).ownBlock = some j) (hB : B ≤ g) : B ≤ j := by have h2 : g = j := Option.some.inj hj; omega
theorem cv_within {n : Nat} {w : World} {t : CondT} {cs : List Value} (h : CV (fun b => n ≤ b) w t cs) : CV (fun b => n ≤ b ∧ b < w.heap.size) w t cs := h.mono fun b h1 h2 => ⟨h2, h1⟩
theorem keepW {W0 w' : World} (h : Below W0.heap.size W0 w') : (∀ b o, b < W0.heap.size → w'.cell? ⟨b, o, none⟩ = W0.cell? ⟨b, o, none⟩) ∧ Below W0.heap.size W0 w' := ⟨(bcell h).1, h⟩
/-- What kind of block lies there. -/
def TyAt (W : World) (b : Nat) (t : TypeId) : Prop := ∃ cs fz, W.heap[b]? = some (.cells cs t fz)
theorem ty_some {W : World} {b : Nat} {cs : Array Value} {t : TypeId} {fz : Nat × Nat} (h : W.heap[b]? = some (.cells cs t fz)) : TyAt W b t := ⟨cs, fz, h⟩
theorem TyAt.set {W : World} {b : Nat} {t : TypeId} (h : TyAt W b t) (b' o : Nat) (v : Value) : TyAt (W.setCell ⟨b', o, none⟩ v) b t := by
  obtain ⟨cs, fz, h⟩ := h
  by_cases e : b = b'
  · subst e; exact ⟨_, _, set_at h o v⟩
  · exact ⟨cs, fz, (setCell_block _ _ _ _ e).trans h⟩
theorem own_set_t {W : World} {base size n : Nat} {e : TypeId} {V : Value} {xs : List Value} (h : W.ownsRow base e size V n xs) {b : Nat} {t : TypeId} (hb : TyAt W b t ∨ W.heap.size ≤ b) (ht : t ≠ e) (o : Nat) (v : Value) : (W.setCell ⟨b, o, none⟩ v).ownsRow base e size V n xs := by
  refine ⟨h.1, ?_⟩
  rcases h.2 with h2 | ⟨g, cap, cur, hv, hg, hh, hr⟩
  · exact .inl h2
  · refine .inr ⟨g, cap, cur, hv, hg, ?_, hr⟩
    rw [setCell_block _ _ _ _ ?_]
    · exact hh
    · rintro rfl
      rcases hb with ⟨cs, fz, hb⟩ | hb
      · rw [hh] at hb; injection hb with hb; injection hb with _ e2; exact ht e2.symm
      · have := (Array.getElem?_eq_some_iff.1 hh).1; omega
theorem own15 {W : World} {base size n : Nat} {e : TypeId} {V : Value} {xs : List Value} (h : W.ownsRow base e size V n xs) {b : Nat} {t : TypeId} (hb : TyAt W b t) (ht : t ≠ e) (v0 v1 v2 v3 v4 v5 v6 v7 v8 v9 v10 v11 v12 v13 v14 : Value) : (((((((((((((((W.setCell ⟨b, 0, none⟩ v0).setCell ⟨b, 1, none⟩ v1).setCell ⟨b, 2, none⟩ v2).setCell ⟨b, 3, none⟩ v3).setCell ⟨b, 4, none⟩ v4).setCell ⟨b, 5, none⟩ v5).setCell ⟨b, 6, none⟩ v6).setCell ⟨b, 7, none⟩ v7).setCell ⟨b, 8, none⟩ v8).setCell ⟨b, 9, none⟩ v9).setCell ⟨b, 10, none⟩ v10).setCell ⟨b, 11, none⟩ v11).setCell ⟨b, 12, none⟩ v12).setCell ⟨b, 13, none⟩ v13).setCell ⟨b, 14, none⟩ v14).ownsRow base e size V n xs := by
  have h0 := own_set_t h (.inl hb) ht 0 v0
  have t0 := hb.set b 0 v0
  have h1 := own_set_t h0 (.inl t0) ht 1 v1
  have t1 := t0.set b 1 v1
  have h2 := own_set_t h1 (.inl t1) ht 2 v2
  have t2 := t1.set b 2 v2
  have h3 := own_set_t h2 (.inl t2) ht 3 v3
  have t3 := t2.set b 3 v3
  have h4 := own_set_t h3 (.inl t3) ht 4 v4
  have t4 := t3.set b 4 v4
  have h5 := own_set_t h4 (.inl t4) ht 5 v5
  have t5 := t4.set b 5 v5
  have h6 := own_set_t h5 (.inl t5) ht 6 v6
  have t6 := t5.set b 6 v6
  have h7 := own_set_t h6 (.inl t6) ht 7 v7
  have t7 := t6.set b 7 v7
  have h8 := own_set_t h7 (.inl t7) ht 8 v8
  have t8 := t7.set b 8 v8
  have h9 := own_set_t h8 (.inl t8) ht 9 v9
  have t9 := t8.set b 9 v9
  have h10 := own_set_t h9 (.inl t9) ht 10 v10
  have t10 := t9.set b 10 v10
  have h11 := own_set_t h10 (.inl t10) ht 11 v11
  have t11 := t10.set b 11 v11
  have h12 := own_set_t h11 (.inl t11) ht 12 v12
  have t12 := t11.set b 12 v12
  have h13 := own_set_t h12 (.inl t12) ht 13 v13
  have t13 := t12.set b 13 v13
  have h14 := own_set_t h13 (.inl t13) ht 14 v14
  have t14 := t13.set b 14 v14
  exact h14
theorem own_alloc {W : World} {base size n : Nat} {e : TypeId} {V : Value} {xs : List Value} (h : W.ownsRow base e size V n xs) (o : Obj) : (W.alloc o).ownsRow base e size V n xs := own_below h ((Below.refl _ _).alloc (Nat.le_refl _) o)
theorem own_ne {W : World} {base size n : Nat} {e : TypeId} {A : Option Addr} {m c : Nat} {xs : List Value} (h : W.ownsRow base e size (.slice A m c) n xs) {b : Nat} {t : TypeId} (hb : TyAt W b t) (ht : t ≠ e) : ∀ b' off sp, A = some ⟨b', off, sp⟩ → b' ≠ b := by
  rintro b' off sp rfl rfl
  rcases h.2 with ⟨e1, -⟩ | ⟨g, cap, cur, e1, -, hh, -⟩
  · cases e1
  · injection e1 with e1; injection e1 with e1; injection e1 with e2
    obtain ⟨cs, fz, hb⟩ := hb
    subst e2
    rw [hh] at hb; injection hb with hb; injection hb with _ e3; exact ht e3.symm
theorem strs_own {W : World} {base : Nat} {A : Option Addr} {c : Nat} {l : List (List UInt8)} {b : Nat} {T' : TypeId} (hT : T' ≠ 9) (h : W.ownsRow base 9 1 (.slice A l.length c) l.length (cellsN l)) (hb : TyAt W b T') : Strs W A l ∧ ∀ b' off sp, A = some ⟨b', off, sp⟩ → b' ≠ b ∧ base ≤ b' := by
  refine ⟨?_, fun b' off sp e => ⟨own_ne h hb hT b' off sp e, by subst e; exact (h.lt b' rfl).1⟩⟩
  obtain ⟨A', c', e, -, hS⟩ := own_strs h
  injection e with e1 e2 e3; subst e1
  exact hS

end Go.Proofs.YtijlifdbjhieaaaGreatDoor
