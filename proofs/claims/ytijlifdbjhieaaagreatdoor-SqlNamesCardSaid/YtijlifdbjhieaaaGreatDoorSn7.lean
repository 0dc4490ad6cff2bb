/-
  What sql.Check's last region makes: two rows, each filled by one append.
-/
import Derived.Test.YtijlifdbjhieaaaGreatDoorSn5
import Derived.Laws.MakeOwn
namespace Go.Proofs.YtijlifdbjhieaaaGreatDoor
set_option linter.all false
open Go.RowKit Go.Shelf Go.Sort

theorem own_cross {W W' : World} {base base2 size size2 n m : Nat} {e e2 : TypeId} {V V2 : Value} {xs ys : List Value} (h : W.ownsRow base e size V n xs) (h2 : W.ownsRow base2 e2 size2 V2 m ys) (hne : e ≠ e2) (hg : W.grownBy W' V2.ownBlock) : W'.ownsRow base e size V n xs := by
  refine ⟨h.1, ?_⟩
  rcases h.2 with h3 | ⟨g, cap, cur, hv, hb, hh, hr⟩
  · exact .inl h3
  · refine .inr ⟨g, cap, cur, hv, hb, ?_, hr⟩
    rw [hg.block g (Array.getElem?_eq_some_iff.1 hh).1 ?_]
    · exact hh
    · intro e3
      rcases h2.2 with ⟨h4, -⟩ | ⟨g2, cap2, cur2, hv2, -, hh2, -⟩
      · rw [h4] at e3; cases e3
      · rw [hv2] at e3
        have e4 : g = g2 := Option.some.inj e3
        subst e4
        rw [hh] at hh2; injection hh2 with hh2; injection hh2 with _ e5; exact hne e5
theorem own_drew {W : World} {base size n : Nat} {e : TypeId} {V : Value} {xs : List Value} (h : W.ownsRow base e size V n xs) : W.drew.ownsRow base e size V n xs := h
def cellsC : List ColT → List Value
  | [] => []
  | x :: l => .string ⟨x.name.toArray⟩ :: .int .i64 x.ty :: cellsC l
theorem cellsC_at : ∀ {l : List ColT} {j : Nat} {u : Value}, (cellsC l)[j]? = some u → ∃ i x, l[i]? = some x ∧ (j = i * 2 ∧ u = .string ⟨x.name.toArray⟩ ∨ j = i * 2 + 1 ∧ u = .int .i64 x.ty)
  | x :: l, 0, u, h => ⟨0, x, rfl, .inl ⟨rfl, by simpa [cellsC] using h.symm⟩⟩
  | x :: l, 1, u, h => ⟨0, x, rfl, .inr ⟨rfl, by simpa [cellsC] using h.symm⟩⟩
  | x :: l, j + 2, u, h => by
    obtain ⟨i, y, h1, h2⟩ := cellsC_at (l := l) (j := j) (u := u) (by simpa [cellsC] using h)
    refine ⟨i + 1, y, by simpa using h1, ?_⟩
    rcases h2 with ⟨e, h2⟩ | ⟨e, h2⟩
    · exact .inl ⟨by omega, h2⟩
    · exact .inr ⟨by omega, h2⟩
theorem cellsC_len : ∀ l : List ColT, (cellsC l).length = l.length * 2
  | [] => rfl
  | x :: l => by simp only [cellsC, List.length_cons, cellsC_len l]; omega
theorem cellsC_get : ∀ {l : List ColT} {i : Nat} {x : ColT}, l[i]? = some x → (cellsC l)[i * 2]? = some (.string ⟨x.name.toArray⟩) ∧ (cellsC l)[i * 2 + 1]? = some (.int .i64 x.ty)
  | a :: l, 0, x, h => by simp at h; subst h; exact ⟨rfl, rfl⟩
  | a :: l, i + 1, x, h => by
    have := cellsC_get (l := l) (i := i) (x := x) (by simpa using h)
    rw [show (i + 1) * 2 = i * 2 + 2 by omega]
    exact this
theorem own_cols {W : World} {base : Nat} {T : TypeId} {A : Option Addr} {n c : Nat} {l : List ColT} (h : W.ownsRow base T 2 (.slice A n c) l.length (cellsC l)) : ClL W A l ∧ n = l.length ∧ l.length ≤ c ∧ (A = none → c = 0) := by
  rcases h.2 with ⟨e, h0⟩ | ⟨g, cap, cur, e, hg, hh, h3, -, -, ht⟩
  · injection e with e1 e2 e3; subst e1 e2 e3
    refine ⟨fun i x hi => ?_, h0.symm, by omega, fun _ => rfl⟩
    have hil := (List.getElem?_eq_some_iff.1 hi).1
    omega
  · injection e with e1 e2 e3; subst e1 e2 e3
    refine ⟨fun i x hi => ?_, rfl, by omega, fun h => by cases h⟩
    have hil := (List.getElem?_eq_some_iff.1 hi).1
    obtain ⟨k1, k2⟩ := cellsC_get hi
    rw [← ht, List.getElem?_take, if_pos (by omega)] at k1 k2
    exact ⟨g, 0, rfl, (Array.getElem?_eq_some_iff.1 hh).1, by simp only [World.cell?, hh, Nat.zero_add]; simpa using k1, by simp only [World.cell?, hh, Nat.zero_add]; simpa using k2⟩
section
variable {P : Program}
theorem step_append_cols {ops : Array Oper} {o : Oper} {a : Act} {K : Act → World → Prop} {Q : Exit → Act → World → Prop} {E : Prop} (w : World) (hgd : o.guard = none) (s x : Operand) (t : TypeId)
    (ho : o.op = .call { callee := .builtin .append, args := #[s, x], argTypes := #[t, t] })
    (base : Nat) (i : TypeInfo) (ht : P.underlying t = some (.slice 64)) (hi : P.info? 64 = some i) (hz : i.zero = some (.agg #[.string ⟨#[]⟩, .int .i64 0])) (hsize : i.size = 2) (hby : i.bytes = 24)
    (v : Value) (n : Nat) (xs : List Value) (hs : a.eval s = v) (hown : w.ownsRow base 64 2 v n xs)
    (A : Option Addr) (m c : Nat) (l : List ColT) (hx : a.eval x = .slice A m c) (hl : l.length = m) (hA : A = none → c = 0) (T : ClL w A l)
    (h63 : n + m ≤ maxLen) (hbytes : (n + m) * 24 ≤ 140737488355328) (hbase : base ≤ w.heap.size)
    (h : ∀ v' w', w'.ownsRow base 64 2 v' (n + m) (xs ++ cellsC l) → w.grownBy w' v.ownBlock → K (a.put o.dst v') w') :
    if Region.wanted o (yielded ops a.tmps) = true then Oper.wp P o a w K Q else E := by
  have hw : Region.wanted o (yielded ops a.tmps) = true := by simp [Region.wanted, hgd]
  rw [if_pos hw]
  rcases A with _ | ad
  · obtain rfl := hA rfl
    have hl0 : l = [] := by
      cases l with
      | nil => rfl
      | cons y r => obtain ⟨b, off, e, -⟩ := T 0 y rfl; cases e
    subst hl0
    simp at hl; subst hl
    have hrun := run_append_owned_none (P := P) (w := w) base t o.type 64 i 2 ht hi v n xs hown
    have g := h v w (by simpa [cellsC] using hown) ⟨rfl, rfl, rfl, Nat.le_refl _, fun _ _ _ => rfl⟩
    unfold Oper.wp
    simp [execOp, ho, resolve, invoke, builtin, hs, hx, hrun, Result.andThen]
    exact g
  · obtain ⟨b, off, sp⟩ := ad
    by_cases hln : l = []
    · subst hln
      simp at hl; subst hl
      have nw : ∀ j u, ([] : List Value)[j]? = some u → w.cell? ((⟨b, off, sp⟩ : Addr).add j) = some u := fun j u hj => by simp at hj
      exact wp_append_own w s x t ho base _ i _ 2 24 ht hi hz hsize hby rfl (by decide) v n xs hs hown ⟨b, off, sp⟩ 0 c [] hx (by simp) nw (fun u hu => by cases hu) h63 hbytes hbase fun v' w' h1 h2 _ => h v' w' (by simpa [cellsC] using h1) h2
    · obtain ⟨y, r, rfl⟩ : ∃ y r, l = y :: r := by cases l with
        | nil => exact absurd rfl hln
        | cons y r => exact ⟨y, r, rfl⟩
      obtain ⟨b', off', e, -⟩ := T 0 y rfl
      injection e with e; injection e with e1 e2 e3; subst e1 e2 e3
      have ea : ∀ j, (⟨b, off, none⟩ : Addr).add j = ⟨b, off + j, none⟩ := fun j => by unfold Addr.add; split <;> simp_all
      have nw : ∀ j u, (cellsC (y :: r))[j]? = some u → w.cell? ((⟨b, off, none⟩ : Addr).add j) = some u := by
        intro j u hj
        obtain ⟨k, x', hk, hu⟩ := cellsC_at hj
        obtain ⟨b', off', e, -, k0, k1⟩ := T k x' hk
        injection e with e; injection e with e1 e2; subst e1 e2
        rw [ea]
        rcases hu with ⟨rfl, rfl⟩ | ⟨rfl, rfl⟩
        · exact k0
        · exact k1
      have hone : ∀ u ∈ cellsC (y :: r), u.oneCell' = true := by
        intro u hu
        obtain ⟨j, hj⟩ := List.getElem?_of_mem hu
        obtain ⟨k, x', -, hu⟩ := cellsC_at hj
        rcases hu with ⟨-, rfl⟩ | ⟨-, rfl⟩ <;> rfl
      exact wp_append_own w s x t ho base _ i _ 2 24 ht hi hz hsize hby rfl (by decide) v n xs hs hown ⟨b, off, none⟩ m c _ hx (by rw [cellsC_len, hl]) nw hone h63 hbytes hbase fun v' w' h1 h2 _ => h v' w' h1 h2
end
/-- What lies below stays, but for one block of the call's own. -/
structure KX (w W0 : World) (n : Nat) (w' : World) : Prop where
  cell : ∀ b o, b < W0.heap.size → b ≠ n → w'.cell? ⟨b, o, none⟩ = W0.cell? ⟨b, o, none⟩
  size : W0.heap.size ≤ w'.heap.size
  bel : Below w.heap.size w w'
theorem KX.out {w W0 w' : World} {n : Nat} (h : KX w W0 n w') : (∀ b o, b < W0.heap.size → b ≠ n → w'.cell? ⟨b, o, none⟩ = W0.cell? ⟨b, o, none⟩) ∧ Below w.heap.size w w' := ⟨h.cell, h.bel⟩
theorem KX.drew {w W0 w' : World} {n : Nat} (h : KX w W0 n w') : KX w W0 n w'.drew := ⟨fun b o h1 h2 => h.cell b o h1 h2, h.size, h.bel.drew⟩
theorem KX.grown {w W0 w' w'' : World} {n : Nat} {r : Option Nat} (h : KX w W0 n w') (hw : w.heap.size ≤ W0.heap.size) (hg : w'.grownBy w'' r) (hr : ∀ g, r = some g → W0.heap.size ≤ g) : KX w W0 n w'' :=
  ⟨fun b o h1 h2 => (by
    have e := hg.block b (Nat.lt_of_lt_of_le h1 h.size) (fun e => by have := hr b e.symm; omega)
    exact (show w''.cell? ⟨b, o, none⟩ = w'.cell? ⟨b, o, none⟩ by simp only [World.cell?, e]).trans (h.cell b o h1 h2)), Nat.le_trans h.size hg.size, h.bel.grown hg (Nat.le_trans hw h.size) (fun g e => Nat.le_trans hw (hr g e))⟩
theorem KX.set {w W0 w' : World} {n : Nat} (h : KX w W0 n w') (hn : w.heap.size ≤ n) (o : Nat) (v : Value) : KX w W0 n (w'.setCell ⟨n, o, none⟩ v) :=
  ⟨fun b o' h1 h2 => (World.cell?_setCell_far _ _ _ _ (by dsimp only; omega)).trans (h.cell b o' h1 h2), by simp; exact h.size, h.bel.setCell (by dsimp only; omega) _⟩
theorem KX.alloc {w W0 w' : World} {n : Nat} (h : KX w W0 n w') (hw : w.heap.size ≤ W0.heap.size) (o : Obj) : KX w W0 n (w'.alloc o) := h.grown hw (World.grownBy_alloc w' o none) (fun g e => by cases e)
theorem own_mk {W : World} {base size cap g : Nat} {e : TypeId} {cur : Array Value} (hg : W.heap.size = g) (hb : base ≤ g) (hm : cap ≤ maxLen) (hs : cur.size = cap * size) : (W.alloc (.cells cur e)).ownsRow base e size (.slice (some ⟨g, 0, none⟩) 0 cap) 0 [] := by
  subst hg; exact World.ownsRow_made W cur cap hb hm hs
theorem make_law {P : Program} (t e : TypeId) (i : TypeInfo) (z : Value) (size c : Nat) (ht : P.underlying t = some (.slice e)) (hi : P.info? e = some i) (hz : i.zero = some z) (hsz : i.size = size) (hb : i.bytes * c ≤ 281474976710656) (h63 : c ≤ maxLen) :
    ∃ CS : Array Value, CS.size = c * size ∧ ∀ W, (Instr.makeSlice t (.int .i64 0) (.int .i64 (c : Int))).run P W = .ok (.slice (some ⟨W.heap.size, 0, none⟩) 0 c) (W.alloc (.cells CS e)) := by
  subst hsz
  refine ⟨madeCells z.cells (c * i.size), size_madeCells _ _, fun W => ?_⟩
  have hb' : (i.bytes : Int) * (c : Int) ≤ 281474976710656 := by
    have h : ((i.bytes * c : Nat) : Int) ≤ 281474976710656 := by omega
    rwa [Int.natCast_mul] at h
  have hr := run_make (P := P) (w := W) t e i z ht hi hz .i64 .i64 0 (c : Int) (Int.le_refl _) (by omega) hb' (by unfold maxLen at h63; omega)
  simpa using hr
theorem grown_low2 {W W' : World} {B : Nat} {r : Option Nat} (hg : W.grownBy W' r) (hr : ∀ g, r = some g → B ≤ g) : (∀ b o, b < B → b < W.heap.size → W'.cell? ⟨b, o, none⟩ = W.cell? ⟨b, o, none⟩) ∧ (∀ b o, b < B → b < W.heap.size → W'.frozen? ⟨b, o, none⟩ = W.frozen? ⟨b, o, none⟩) := by
  have e : ∀ b, b < B → b < W.heap.size → W'.heap[b]? = W.heap[b]? := fun b h1 h2 => hg.block b h2 (fun e => by have := hr b e.symm; omega)
  exact ⟨fun b o h1 h2 => by simp only [World.cell?, e b h1 h2], fun b o h1 h2 => by simp only [World.frozen?, e b h1 h2]⟩
theorem info_scol : (Tryz.prog.info? 64).map (fun i => (i.zero, i.size, i.bytes)) = some (some (.agg #[.string ⟨#[]⟩, .int .i64 0]), 2, 24) := by kernel_rfl
end Go.Proofs.YtijlifdbjhieaaaGreatDoor
