/-
  Contract of http.Parse: it answers what 'parseF' says of the bytes.
-/
import Derived.Test.YtkaimfeiahogaaaGreatDoorHk5
import Derived.Test.YtkaimfeiahogaaaGreatDoorHr0
namespace Go.Proofs.YtkaimfeiahogaaaGreatDoor
set_option linter.all false
open Go.RowKit Go.Shelf Go.Maps
attribute [local go_sem] cell_set_self lt_1 lt_2 lt_3 lt_4 lt_5 lt_6 Oper.semAt_some

theorem name_worldIn {F : Fence} {n : Nat} {P : Program} {c : Code} {Q : Exit → Act → World → Prop} {a : Act} {w : World} (h : ∀ W, W = w → Code.wpIn F n P c Q a W) : Code.wpIn F n P c Q a w := h w rfl
theorem addr_off (g o n : Nat) : ({ block := g, off := o } : Addr).add n = ⟨g, o + n, none⟩ := by unfold Addr.add; split <;> simp_all
theorem conv_bs {W : World} {A : Option Addr} {c : Nat} {l : List UInt8} (T : Bs W A c l) : (convert 22 9 (.slice A l.length c)).run Tryz.prog W = .ok (.string ⟨l.toArray⟩) W := by
  cases A with
  | none =>
    obtain rfl : c = 0 := T.2.1 rfl
    have h0 := T.1
    obtain rfl : l = [] := List.eq_nil_of_length_eq_zero (by omega)
    exact (run_convert_bytes_nil W 22 5 Tryz.underlying22 Tryz.underlying5 0 0 9 Tryz.underlying9).trans rfl
  | some a =>
    refine run_convert_bytes_back (P := Tryz.prog) _ 22 9 5 a c l Tryz.underlying22 Tryz.underlying5 Tryz.underlying9 (fun j hj => ?_)
    obtain ⟨b, off, e, _, hc⟩ := T.2.2 j l[j] (List.getElem?_eq_getElem hj)
    injection e with e
    rw [e, addr_off]; exact hc
theorem info_u8h : (Tryz.prog.info? 5).map (fun i => (i.zero, i.size, i.bytes)) = some (some (.int .u8 0), 1, 1) := by kernel_rfl
section
theorem step_append_bs {ops : Array Oper} {o : Oper} {a : Act} {K : Act → World → Prop} {Q : Exit → Act → World → Prop} {E : Prop} (w : World) (hgd : o.guard = none) (s x : Operand) (t : TypeId)
    (ho : o.op = .call { callee := .builtin .append, args := #[s, x], argTypes := #[t, t] })
    (base : Nat) (i : TypeInfo) (ht : Tryz.prog.underlying t = some (.slice 5)) (hi : Tryz.prog.info? 5 = some i) (hz : i.zero = some (.int .u8 0)) (hsize : i.size = 1) (hby : i.bytes = 1)
    (v : Value) (n : Nat) (xs : List Value) (hs : a.eval s = v) (hown : w.ownsRow base 5 1 v n xs)
    (ad : Addr) (m c : Nat) (l : List UInt8) (hx : a.eval x = .slice (some ad) m c) (hl : l.length = m) (S : Bs w (some ad) c l)
    (h63 : n + m ≤ maxLen) (hbytes : (n + m) * 1 ≤ 140737488355328) (hbase : base ≤ w.heap.size)
    (h : ∀ v' w', w'.ownsRow base 5 1 v' (n + m) (xs ++ Lib.byteCells l) → w.grownBy w' v.ownBlock → K (a.put o.dst v') w') :
    if Region.wanted o (yielded ops a.tmps) = true then Oper.wp Tryz.prog o a w K Q else E := by
  have hw : Region.wanted o (yielded ops a.tmps) = true := by simp [Region.wanted, hgd]
  rw [if_pos hw]
  refine wp_append_own w s x t ho base _ i _ 1 1 ht hi hz hsize hby rfl (by decide) v n xs hs hown ad m c (Lib.byteCells l) hx (by simp [Lib.byteCells, hl]) (fun j u hu => ?_) (fun u hu => ?_) h63 hbytes hbase fun v' w' h1 h2 _ => h v' w' h1 h2
  · simp only [Lib.byteCells, List.getElem?_map, Option.map_eq_some_iff] at hu
    obtain ⟨y, hy, rfl⟩ := hu
    obtain ⟨b, off, e, _, hc⟩ := S.2.2 j y hy
    obtain rfl := Option.some.inj e
    exact (congrArg w.cell? (addr_off b off j)).trans hc
  · simp only [Lib.byteCells, List.mem_map] at hu
    obtain ⟨y, _, rfl⟩ := hu
    simp [Value.oneCell']
end
/-- A request as a value. -/
def rqB (m p : List UInt8) (A : Option Addr) (n c : Nat) (cl : Bool) : Value := .agg #[.string ⟨m.toArray⟩, .string ⟨p.toArray⟩, .slice A n c, .bool cl]
def zReq : Value := .agg #[.string ⟨#[]⟩, .string ⟨#[]⟩, .slice none 0 0, .bool false]
/-- What http.Parse answers; a body lies behind base. -/
def PV (base : Nat) (W : World) (l : List UInt8) : POut → Value → Prop
  | .wait, V => V = .tuple #[zReq, .int .i64 0, .bool false, .int .i64 0]
  | .bad e, V => V = .tuple #[zReq, .int .i64 0, .bool false, .int .i64 e]
  | .done st r, V => ∃ A c, V = .tuple #[rqB st.m st.p A st.len c st.close, .int .i64 ((l.length - r.length + st.len : Nat) : Int), .bool true, .int .i64 0] ∧ Bs W A c (r.take st.len) ∧ ∀ a, A = some a → base ≤ a.block
/-- The cells of http.Parse's own variables that no round turns: the bytes (twice), the reader's box; its results' boxes, empty. -/
structure FixP (b0 b1 b2 b3 b4 b6 b7 b8 : Nat) (A : Option Addr) (n c : Nat) (W : World) : Prop where
  c0 : W.cell? ⟨b0, 0, none⟩ = some (.slice A n c)
  c7 : W.cell? ⟨b7, 0, none⟩ = some (.pointer (some ⟨b6, 0, none⟩))
  c8 : W.cell? ⟨b8, 0, none⟩ = some (.slice A n c)
  r0 : W.cell? ⟨b1, 0, none⟩ = some (.string ⟨#[]⟩)
  r1 : W.cell? ⟨b1, 1, none⟩ = some (.string ⟨#[]⟩)
  r2 : W.cell? ⟨b1, 2, none⟩ = some (.slice none 0 0)
  r3 : W.cell? ⟨b1, 3, none⟩ = some (.bool false)
  r4 : W.cell? ⟨b2, 0, none⟩ = some (.int .i64 0)
  r5 : W.cell? ⟨b3, 0, none⟩ = some (.bool false)
  r6 : W.cell? ⟨b4, 0, none⟩ = some (.int .i64 0)
  f1 : ∀ j, W.frozen? ⟨b1, j, none⟩ = false
  f2 : W.frozen? ⟨b2, 0, none⟩ = false
  f3 : W.frozen? ⟨b3, 0, none⟩ = false
  f4 : W.frozen? ⟨b4, 0, none⟩ = false
theorem heap_kept {W W' : World} {row : Option Nat} {b o : Nat} {v : Value} (h : W.cell? ⟨b, o, none⟩ = some v) (hg : W.grownBy W' row) (hr : ∀ r, row = some r → ∃ o : Obj, W.heap[r]? = some o ∧ o.isCells = false) : W'.heap[b]? = W.heap[b]? := by
  refine hg.block b (World.block_lt_of_cell? W _ h) (fun e => ?_)
  obtain ⟨x, hx, hc⟩ := hr b (by first | exact e | exact e.symm)
  unfold World.cell? at h
  rw [hx] at h
  cases x <;> simp [Obj.isCells] at hc h
theorem FixP.block {b0 b1 b2 b3 b4 b6 b7 b8 : Nat} {A : Option Addr} {n c : Nat} {W W' : World} (h : FixP b0 b1 b2 b3 b4 b6 b7 b8 A n c W)
    (e0 : W'.heap[b0]? = W.heap[b0]?) (e1 : W'.heap[b1]? = W.heap[b1]?) (e2 : W'.heap[b2]? = W.heap[b2]?) (e3 : W'.heap[b3]? = W.heap[b3]?) (e4 : W'.heap[b4]? = W.heap[b4]?) (e7 : W'.heap[b7]? = W.heap[b7]?) (e8 : W'.heap[b8]? = W.heap[b8]?) : FixP b0 b1 b2 b3 b4 b6 b7 b8 A n c W' :=
  ⟨(World.cell?_of_block (a := ⟨b0, 0, none⟩) e0).trans h.c0, (World.cell?_of_block (a := ⟨b7, 0, none⟩) e7).trans h.c7, (World.cell?_of_block (a := ⟨b8, 0, none⟩) e8).trans h.c8, (World.cell?_of_block (a := ⟨b1, 0, none⟩) e1).trans h.r0, (World.cell?_of_block (a := ⟨b1, 1, none⟩) e1).trans h.r1, (World.cell?_of_block (a := ⟨b1, 2, none⟩) e1).trans h.r2, (World.cell?_of_block (a := ⟨b1, 3, none⟩) e1).trans h.r3, (World.cell?_of_block (a := ⟨b2, 0, none⟩) e2).trans h.r4, (World.cell?_of_block (a := ⟨b3, 0, none⟩) e3).trans h.r5, (World.cell?_of_block (a := ⟨b4, 0, none⟩) e4).trans h.r6,
    fun j => (World.frozen?_of_block (a := ⟨b1, j, none⟩) e1).trans (h.f1 j), (World.frozen?_of_block (a := ⟨b2, 0, none⟩) e2).trans h.f2, (World.frozen?_of_block (a := ⟨b3, 0, none⟩) e3).trans h.f3, (World.frozen?_of_block (a := ⟨b4, 0, none⟩) e4).trans h.f4⟩
theorem FixP.kept {b0 b1 b2 b3 b4 b6 b7 b8 : Nat} {A : Option Addr} {n c : Nat} {W W' : World} {row : Option Nat} (h : FixP b0 b1 b2 b3 b4 b6 b7 b8 A n c W) (hg : W.grownBy W' row) (hr : ∀ r, row = some r → ∃ o : Obj, W.heap[r]? = some o ∧ o.isCells = false) : FixP b0 b1 b2 b3 b4 b6 b7 b8 A n c W' :=
  h.block (heap_kept h.c0 hg hr) (heap_kept h.r0 hg hr) (heap_kept h.r4 hg hr) (heap_kept h.r5 hg hr) (heap_kept h.r6 hg hr) (heap_kept h.c7 hg hr) (heap_kept h.c8 hg hr)
theorem RdSt.kept {W W' : World} {row : Option Nat} {b B : Nat} {st : St} {ov : Bool} (h : RdSt W b B st ov) (hg : W.grownBy W' row) (hr : ∀ r, row = some r → ∃ o : Obj, W.heap[r]? = some o ∧ o.isCells = false) (hB : some B ≠ row) : RdSt W' b B st ov := by
  obtain ⟨h1, ⟨r0, c0, c1, c2, c3, c4, c5, c6, c7, fz⟩, D, hD, hd⟩ := h
  have e := heap_kept c0 hg hr
  exact ⟨h1, ⟨Nat.lt_of_lt_of_le r0 hg.size, (World.cell?_of_block (a := ⟨b, 0, none⟩) e).trans c0, (World.cell?_of_block (a := ⟨b, 1, none⟩) e).trans c1, (World.cell?_of_block (a := ⟨b, 2, none⟩) e).trans c2, (World.cell?_of_block (a := ⟨b, 3, none⟩) e).trans c3, (World.cell?_of_block (a := ⟨b, 4, none⟩) e).trans c4, (World.cell?_of_block (a := ⟨b, 5, none⟩) e).trans c5, (World.cell?_of_block (a := ⟨b, 6, none⟩) e).trans c6, (World.cell?_of_block (a := ⟨b, 7, none⟩) e).trans c7, fun j => (World.frozen?_of_block (a := ⟨b, j, none⟩) e).trans (fz j)⟩, D, hD.kept hg hB, hd⟩
theorem PV.kept {base : Nat} {W W' : World} {l : List UInt8} {o : POut} {V : Value} {row : Option Nat} (h : PV base W l o V) (hg : W.grownBy W' row) (hr : ∀ r, row = some r → ∃ o : Obj, W.heap[r]? = some o ∧ o.isCells = false) : PV base W' l o V := by
  cases o with
  | wait => exact h
  | bad e => exact h
  | done st r =>
    obtain ⟨A, c, h1, h2, h3⟩ := h
    refine ⟨A, c, h1, ⟨h2.1, h2.2.1, fun i v hi => ?_⟩, h3⟩
    obtain ⟨b, off, hA, hb, hc⟩ := h2.2.2 i v hi
    exact ⟨b, off, hA, Nat.lt_of_lt_of_le hb hg.size, (World.cell?_of_block (a := ⟨b, off + i, none⟩) (heap_kept hc hg hr)).trans hc⟩
theorem made_at {w : World} {B : Nat} (h : w.heap.size = B) : (w.alloc (.map #[] 0)).ownsMap Tryz.prog 9 (plainElem (H := Unit) Tryz.prog 3) B 0 (.map []) := h ▸ World.ownsMap_made _ _ _ _
theorem cell_putObj {W : World} {D b o : Nat} {x : Obj} (h : ¬ b = D) : (W.putObj D x).cell? ⟨b, o, none⟩ = W.cell? ⟨b, o, none⟩ := World.cell?_of_block (World.putObj_heap_other (by first | exact h | exact fun e => h e.symm))
theorem name_postM {F : Fence} {n : Nat} {P : Program} {f : Func} {R : Ending → World → Prop} {x : Exit} {a : Act} {w : World} (h : ∀ W, W = w → bodyPostM F n P f R x a W) : bodyPostM F n P f R x a w := h w rfl
theorem KeepsFrom.set {B : Nat} {X Y : World} (h : KeepsFrom B X Y) (p : Addr) (v : Value) : KeepsFrom B X (Y.setCell p v) := h.trans ((KeepsOthers.setCell _ _ _).from _)
theorem Only2.from {b B B0 : Nat} {W W' : World} (h : Only2 b B W W') (hb : b < B0) (hB : B < B0) : KeepsFrom B0 W W' :=
  ⟨h.size, fun k o hk ho _ => (h.block k (Array.getElem?_eq_some_iff.1 ho).1 (by omega) (by omega)).trans ho⟩
theorem Only2.low {b B n0 : Nat} {W W' : World} (h : Only2 b B W W') (hb : n0 ≤ b) (hB : n0 ≤ B) (hn : n0 ≤ W.heap.size) : Below n0 W W' :=
  ⟨h.os, h.tape, h.output, h.size, fun k hk => h.block k (by omega) (by omega) (by omega)⟩
/-- The cells of the results. -/
def RsP (b1 b2 b3 b4 : Nat) (W : World) (V : Value) : Prop := ∃ v0 v1 v2 v3 v4 v5 v6, V = .tuple #[.agg #[v0, v1, v2, v3], v4, v5, v6] ∧ W.cell? ⟨b1, 0, none⟩ = some v0 ∧ W.cell? ⟨b1, 1, none⟩ = some v1 ∧ W.cell? ⟨b1, 2, none⟩ = some v2 ∧ W.cell? ⟨b1, 3, none⟩ = some v3 ∧ W.cell? ⟨b2, 0, none⟩ = some v4 ∧ W.cell? ⟨b3, 0, none⟩ = some v5 ∧ W.cell? ⟨b4, 0, none⟩ = some v6
theorem RsP.kept {b1 b2 b3 b4 : Nat} {W W' : World} {V : Value} {row : Option Nat} (h : RsP b1 b2 b3 b4 W V) (hg : W.grownBy W' row) (hr : ∀ r, row = some r → ∃ o : Obj, W.heap[r]? = some o ∧ o.isCells = false) : RsP b1 b2 b3 b4 W' V := by
  obtain ⟨v0, v1, v2, v3, v4, v5, v6, e, h0, h1, h2, h3, h4, h5, h6⟩ := h
  exact ⟨v0, v1, v2, v3, v4, v5, v6, e, cell_kept h0 hg hr, cell_kept h1 hg hr, cell_kept h2 hg hr, cell_kept h3 hg hr, cell_kept h4 hg hr, cell_kept h5 hg hr, cell_kept h6 hg hr⟩
def i0V : It → Value
  | .got p k => .int .i64 ((p : Int) + ((k : Int) + 2))
  | .bad e => .int .i64 (-e)
def i1V (A : Option Addr) (c : Nat) : It → Value
  | .got p k => .slice (subA A p) k (c - p)
  | .bad _ => .slice none 0 0
theorem encI_size (A : Option Addr) (c : Nat) (x : It) : (encI A c x).size = 2 := by cases x <;> rfl
theorem own_bs {w : World} {base n : Nat} {v : Value} {l : List UInt8} (h : w.ownsRow base 5 1 v n (Lib.byteCells l)) : ∃ A c, v = .slice A n c ∧ Bs w A c l ∧ ∀ a, A = some a → base ≤ a.block := by
  have hl : l.length = n := by have := h.1; simpa [Lib.byteCells] using this
  rcases h.2 with ⟨rfl, h0⟩ | ⟨g, cap, cur, rfl, hg, hh, hnc, _⟩
  · obtain rfl : l = [] := List.eq_nil_of_length_eq_zero (by omega)
    subst h0
    exact ⟨none, 0, rfl, ⟨by simp, fun _ => rfl, fun i v hi => by simp at hi⟩, fun a ha => by cases ha⟩
  · refine ⟨_, _, rfl, ⟨by omega, fun hx => (by cases hx), fun i v hi => ?_⟩, fun a ha => by cases ha; exact hg⟩
    have hj := (List.getElem?_eq_some_iff.1 hi).1
    have := h.cells (g := g) rfl i (.int .u8 (v.toNat : Int)) (by simp [Lib.byteCells, hi])
    have t2 := (congrArg w.cell? (addr_off g 0 i)).symm.trans this
    exact ⟨g, 0, rfl, World.block_lt_of_cell? w ⟨g, 0 + i, none⟩ t2, t2⟩
theorem Bs.setFar {W : World} {A : Option Addr} {c : Nat} {l : List UInt8} (T : Bs W A c l) (p : Addr) (v : Value) (h : ∀ a, A = some a → p.block ≠ a.block) : Bs (W.setCell p v) A c l :=
  ⟨T.1, T.2.1, fun i u hi => by
    obtain ⟨b, off, e, h1, h2⟩ := T.2.2 i u hi
    have hne : p.block ≠ b := h _ e
    exact ⟨b, off, e, by simpa using h1, by rw [World.cell?_setCell_far _ _ ⟨b, off + i, none⟩ _ hne]; exact h2⟩⟩
theorem cellB {W W' : World} {a : Addr} {v : Value} (hb : Below W.heap.size W W') (h : W.cell? a = some v) : W'.cell? a = some v := (hb.cell (World.block_lt_of_cell? W a h)).trans h
theorem frozB {W W' : World} {b o o' : Nat} {v : Value} {x : Bool} (hb : Below W.heap.size W W') (h : W.cell? ⟨b, o, none⟩ = some v) (hf : W.frozen? ⟨b, o', none⟩ = x) : W'.frozen? ⟨b, o', none⟩ = x := (hb.frozen (p := ⟨b, o', none⟩) (World.block_lt_of_cell? W ⟨b, o, none⟩ h)).trans hf
theorem Below.from {B : Nat} {W W' : World} (h : Below W.heap.size W W') : KeepsFrom B W W' := ⟨h.size, fun k o _ hk _ => (h.block k (Array.getElem?_eq_some_iff.1 hk).1).trans hk⟩
theorem own_made (w : World) (L : Nat) (hL : L ≤ maxLen) : (w.alloc (.cells (madeCells #[.int .u8 0] L) 5)).ownsRow w.heap.size 5 1 (.slice (some ⟨w.heap.size, 0, none⟩) 0 L) 0 [] :=
  ⟨rfl, .inr ⟨w.heap.size, L, _, rfl, Nat.le_refl _, heap_alloc_new w _, Nat.zero_le _, hL, by simp [size_madeCells], by simp⟩⟩
/-- How the loop stands between two rounds; how a round leaves it. -/
def IP (w : World) (B0 b0 b1 b2 b3 b4 b5 b6 b7 b8 : Nat) (A : Option Addr) (n c : Nat) (l : List UInt8) (pre : List (ItS l)) (W : World) : Prop :=
  (∃ st, goF l st0 (pre.map (·.1)) = some st ∧ RdSt W b6 b5 st false) ∧ FixP b0 b1 b2 b3 b4 b6 b7 b8 A n c W ∧ Below w.heap.size w W ∧ B0 ≤ W.heap.size
def IxP (w : World) (B0 b0 b1 b2 b3 b4 b6 b7 b8 : Nat) (A : Option Addr) (n c : Nat) (l : List UInt8) (cd : Code) (pre : List (ItS l)) (W : World) : Prop :=
  (∃ pre' x s, pre.map (·.1) = pre' ++ [x] ∧ goF l st0 pre' = some s ∧ goF l s [x] = none ∧ ((cd = .ret ∧ ∃ V, RsP b1 b2 b3 b4 W V ∧ PV w.heap.size W l (endF l s x) V) ∨ (cd = .exit 0 ∧ endF l s x = .wait ∧ FixP b0 b1 b2 b3 b4 b6 b7 b8 A n c W))) ∧ Below w.heap.size w W ∧ B0 ≤ W.heap.size
theorem IP.own {w : World} {B0 b0 b1 b2 b3 b4 b5 b6 b7 b8 : Nat} {A : Option Addr} {n c : Nat} {l : List UInt8} (h5 : b5 < B0) (hw : w.heap.size ≤ B0) : OwnFrom B0 (IP w B0 b0 b1 b2 b3 b4 b5 b6 b7 b8 A n c l) := fun pre W W' row h hg hr => by
  obtain ⟨⟨st, h1, h2⟩, h3, h4, h6⟩ := h
  have hr' : ∀ r, row = some r → ∃ o : Obj, W.heap[r]? = some o ∧ o.isCells = false := fun r e => (hr r e).2
  exact ⟨⟨st, h1, h2.kept hg hr' (fun e => by have := (hr _ e.symm).1; omega)⟩, h3.kept hg hr', h4.grown hg h4.size (fun k e => Nat.le_trans hw (hr k e).1), Nat.le_trans h6 hg.size⟩
theorem IxP.own {w : World} {B0 b0 b1 b2 b3 b4 b6 b7 b8 : Nat} {A : Option Addr} {n c : Nat} {l : List UInt8} (hw : w.heap.size ≤ B0) (cd : Code) : OwnFrom B0 (IxP w B0 b0 b1 b2 b3 b4 b6 b7 b8 A n c l cd) := fun pre W W' row h hg hr => by
  obtain ⟨⟨pre', x, s, h1, h2, h3, h4⟩, h5, h6⟩ := h
  have hr' : ∀ r, row = some r → ∃ o : Obj, W.heap[r]? = some o ∧ o.isCells = false := fun r e => (hr r e).2
  refine ⟨⟨pre', x, s, h1, h2, h3, ?_⟩, h5.grown hg h5.size (fun k e => Nat.le_trans hw (hr k e).1), Nat.le_trans h6 hg.size⟩
  rcases h4 with ⟨e, V, h7, h8⟩ | ⟨e, h7, h8⟩
  · exact .inl ⟨e, V, h7.kept hg hr', h8.kept hg hr'⟩
  · exact .inr ⟨e, h7, h8.kept hg hr'⟩
set_option maxHeartbeats 8000000 in
set_option maxRecDepth 100000 in
theorem parse_any (A : Option Addr) (n c : Nat) (l : List UInt8) (hl : l.length = n) (hn : n ≤ 1000000000) (w : World) (E : Env w) (T : Bs w A c l) :
    Calls Tryz.prog 11 #[.slice A n c] w fun e w' => ∃ V, e = .returned V ∧ PV w.heap.size w' l (parseF l) V ∧ Below w.heap.size w w' := by
  have hmm := @run_makeMap Tryz.prog
  obtain ⟨PO, hPO⟩ : ∃ PO, parseF l = PO := ⟨_, rfl⟩
  rw [hPO]
  have HPO := Lib.hid hPO
  clear hPO
  refine (callsIn_wide (n := 9)).1 ?_
  refine callsIn_of_wp_marks Tryz.func11 rfl trivial ?_ rfl
  simp only [Tryz.ntmps11, List.size_toArray, List.length_cons, List.length_nil, Nat.reduceAdd, Nat.reduceSub, Array.replicate_succ, Array.replicate_zero, List.push_toArray, List.append_toArray, List.nil_append, List.cons_append]
  gi_wp2_with (first | (refine ⟨trivial, ?_⟩; gi_at_call 34; refine (callsIn_wide.2 (lines_any A n c _)).mono ?_; rintro e w2 ⟨rfl, rfl⟩))
  refine name_worldIn ?_
  intro W1 hW1
  have hs1 : W1.heap.size = w.heap.size + 1 + 1 + 1 + 1 + 1 + 1 + 1 + 1 + 1 := by rw [hW1]; simp
  have FX0 : FixP w.heap.size (w.heap.size + 1) (w.heap.size + 1 + 1) (w.heap.size + 1 + 1 + 1) (w.heap.size + 1 + 1 + 1 + 1) (w.heap.size + 1 + 1 + 1 + 1 + 1 + 1) (w.heap.size + 1 + 1 + 1 + 1 + 1 + 1 + 1) (w.heap.size + 1 + 1 + 1 + 1 + 1 + 1 + 1 + 1) A n c W1 := by
    constructor <;> (rw [hW1]; simp [go_sem])
  have RD0 : RdSt W1 (w.heap.size + 1 + 1 + 1 + 1 + 1 + 1) (w.heap.size + 1 + 1 + 1 + 1 + 1) st0 false := by
    refine ⟨by omega, ⟨by omega, ?_, ?_, ?_, ?_, ?_, ?_, ?_, ?_, ?_⟩, .map [], ?_, ?_, ?_, ?_⟩
    all_goals first | (rw [hW1]; simp [go_sem, st0]; done) | skip
    · rw [hW1]; exact (((made_at (by simp)).alloc _).alloc _).alloc _
    · exact ⟨[], rfl⟩
    · rfl
    · rfl
  have hBw : Below w.heap.size w W1 := by rw [hW1]; exact (by repeat (first | exact Below.refl _ _ | refine Below.setCell ?_ (by first | (simp; done) | (simp; omega) | omega) _ | refine Below.alloc ?_ (by first | (simp; done) | (simp; omega) | omega) _ | refine Below.drew ?_ | assumption | refine Below.trans ?_ (Below.mono (by assumption) (by first | (simp; done) | (simp; omega) | omega))))
  have hls := lines_stops 8 (w.heap.size + 1 + 1 + 1 + 1 + 1 + 1 + 1 + 1) w A n c l hl hn T W1 hBw (by omega) FX0.c8
  clear hW1 hmm
  generalize hb1 : w.heap.size + 1 = b1 at *
  generalize hb2 : b1 + 1 = b2 at *
  generalize hb3 : b2 + 1 = b3 at *
  generalize hb4 : b3 + 1 = b4 at *
  generalize hb5 : b4 + 1 = b5 at *
  generalize hb6 : b5 + 1 = b6 at *
  generalize hb7 : b6 + 1 = b7 at *
  generalize hb8 : b7 + 1 = b8 at *
  obtain ⟨b0, hb0⟩ : ∃ b0, w.heap.size = b0 := ⟨_, rfl⟩
  have HT := Lib.hid T
  have HE := Lib.hid E
  have HL := Lib.hid hl
  have HBS := Lib.hid (show w.heap.size + 1 = b1 ∧ b1 + 1 = b2 ∧ b2 + 1 = b3 ∧ b3 + 1 = b4 ∧ b4 + 1 = b5 ∧ b5 + 1 = b6 ∧ b6 + 1 = b7 ∧ b7 + 1 = b8 ∧ W1.heap.size = b8 + 1 by omega)
  clear hb1 hb2 hb3 hb4 hb5 hb6 hb7 hb8 hb0 T E hl b0 hs1
  refine wpIn_rangeFunc_ownG rfl (by omega) (gf := 53) (lb := #[.pointer (some ⟨b8, 0, none⟩)]) rfl trivial (enters_of Tryz.func53 (by kernel_rfl) rfl)
    (encs := fun x : ItS l => encI A c x.1) hls (fun h k => ⟨h.1.trans k.1, k.2.trans h.2⟩)
    (fun W l0 o o' hl0 ho hoc _ => ⟨(Below.refl _ W).grown (grownBy_putObj' W l0 o') (by have := (Array.getElem?_eq_some_iff.1 ho).1; have := HBS.out; omega) (fun k e => by cases e; have := HBS.out; omega), World.cell?_of_block (World.putObj_heap_other (by have := HBS.out; dsimp only; omega))⟩) (Below.refl _ _) (fun x => by rw [encI_size]; rfl)
    (IP w W1.heap.size w.heap.size b1 b2 b3 b4 b5 b6 b7 b8 A n c l) (IxP w W1.heap.size w.heap.size b1 b2 b3 b4 b6 b7 b8 A n c l)
    (IP.own (by have := HBS.out; omega) (by have := HBS.out; omega)) (IxP.own (by have := HBS.out; omega)) ⟨⟨st0, rfl, RD0⟩, FX0, hBw, Nat.le_refl _⟩
    (fun x => { tmps := #[.slice A n c, .pointer (some ⟨w.heap.size, 0, none⟩), .pointer (some ⟨b1, 0, none⟩), .pointer (some ⟨b2, 0, none⟩), .pointer (some ⟨b3, 0, none⟩), .pointer (some ⟨b4, 0, none⟩), .pointer (some ⟨b7, 0, none⟩), i0V x.1, i1V A c x.1, undef, .map (some b5), .agg #[.string ⟨#[]⟩, .string ⟨#[]⟩, .slice none 0 0, .bool false, .int .i64 0, .int .i64 0, .map (some b5), .bool false], .pointer (some ⟨b6, 0, none⟩), .slice A n c, .func (.func 53) #[] #[.pointer (some ⟨b8, 0, none⟩)], i0V x.1, i1V A c x.1, undef,undef,undef,undef,undef,undef,undef,undef,undef,undef,undef,undef,undef,undef,undef,undef,undef,undef,undef,undef,undef,undef,undef,undef,undef,undef,undef,undef,undef,undef,undef,undef,undef,undef,undef,undef,undef,undef,undef,undef,undef,undef,undef,undef,undef,undef,undef,undef,undef,undef,undef,undef,undef,undef,undef,undef,undef], defers := [] }) ?assign ?body ?done ?stop
  case assign =>
    rintro l0 ⟨x, hx⟩ W K hK
    cases x
    all_goals
      dsimp only [encI]
      gi_wp2
      exact hK
  case body =>
    rintro l0 pre ⟨x, hx⟩ W ⟨⟨st, hst, R⟩, FX, hB, hsz⟩ hlt
    have hbs := HBS.out
    have HN6 : Hid (¬ b6 = b1 ∧ ¬ b1 = b6 ∧ ¬ b6 = b2 ∧ ¬ b2 = b6 ∧ ¬ b6 = b3 ∧ ¬ b3 = b6 ∧ ¬ b6 = b4 ∧ ¬ b4 = b6 ∧ ¬ b7 = b1 ∧ ¬ b1 = b7 ∧ ¬ b7 = b2 ∧ ¬ b2 = b7 ∧ ¬ b7 = b3 ∧ ¬ b3 = b7 ∧ ¬ b7 = b4 ∧ ¬ b4 = b7 ∧ ¬ b6 = w.heap.size ∧ ¬ w.heap.size = b6 ∧ ¬ b6 = b7 ∧ ¬ b7 = b6) := Lib.hid (by refine ⟨?_, ?_, ?_, ?_, ?_, ?_, ?_, ?_, ?_, ?_, ?_, ?_, ?_, ?_, ?_, ?_, ?_, ?_, ?_, ?_⟩ <;> (have := HBS.out; omega))
    have ND : (¬ b1 = b2 ∧ ¬ b1 = b3 ∧ ¬ b1 = b4) ∧ (¬ b2 = b1 ∧ ¬ b2 = b3 ∧ ¬ b2 = b4) ∧ (¬ b3 = b1 ∧ ¬ b3 = b2 ∧ ¬ b3 = b4) ∧ ¬ b4 = b1 ∧ ¬ b4 = b2 ∧ ¬ b4 = b3 := by omega
    obtain ⟨⟨n12, n13, n14⟩, ⟨n21, n23, n24⟩, ⟨n31, n32, n34⟩, n41, n42, n43⟩ := ND
    have HST := Lib.hid hst
    have HB := Lib.hid hB
    have HSZ := Lib.hid hsz
    have HN := Lib.hid (goF_n l _ st0 st (by decide) hst)
    clear hst hls hB hsz hlt
    cases x with
    | bad e =>
      have he : e = 10 ∨ e = 8 := hx
      obtain ⟨c0, c7, c8, r0, r1, r2, r3, r4, r5, r6, f1, f2, f3, f4⟩ := FX
      have g0 := f1 0; have g1 := f1 1; have g2 := f1 2; have g3 := f1 3
      clear f1 R hbs
      dsimp only [i0V, i1V]
      rcases he with rfl | rfl
      · gi_wp2
        refine ⟨?kf, ⟨pre.map (·.1), .bad 10, st, by simp, HST.out, rfl, .inl ⟨rfl, .tuple #[zReq, .int .i64 0, .bool false, .int .i64 (10)], ?rs, rfl⟩⟩, ?bl, ?sz⟩
        case kf =>
          repeat refine KeepsFrom.set ?_ _ _
          exact KeepsFrom.refl _ _
        case rs => refine ⟨_, _, _, _, _, _, _, rfl, ?_, ?_, ?_, ?_, ?_, ?_, ?_⟩ <;> simp [go_sem, n12, n13, n14, n21, n23, n24, n31, n32, n34, n41, n42, n43, r0, r1, r2, r3, r4, r5, r6]
        case bl =>
          have hbs := HBS.out
          repeat refine Below.setCell ?_ (by dsimp only; omega) _
          exact HB.out
        case sz => simp only [World.size_setCell]; exact HSZ.out
      · gi_wp2
        refine ⟨?kf, ⟨pre.map (·.1), .bad 8, st, by simp, HST.out, rfl, .inl ⟨rfl, .tuple #[zReq, .int .i64 0, .bool false, .int .i64 (8)], ?rs, rfl⟩⟩, ?bl, ?sz⟩
        case kf =>
          repeat refine KeepsFrom.set ?_ _ _
          exact KeepsFrom.refl _ _
        case rs => refine ⟨_, _, _, _, _, _, _, rfl, ?_, ?_, ?_, ?_, ?_, ?_, ?_⟩ <;> simp [go_sem, n12, n13, n14, n21, n23, n24, n31, n32, n34, n41, n42, n43, r0, r1, r2, r3, r4, r5, r6]
        case bl =>
          have hbs := HBS.out
          repeat refine Below.setCell ?_ (by dsimp only; omega) _
          exact HB.out
        case sz => simp only [World.size_setCell]; exact HSZ.out
    | got p k =>
      have hok : p + k + 2 ≤ l.length ∧ k ≤ 1000 := hx
      obtain ⟨x0, hx0⟩ : ∃ x0, l[0]? = some x0 := ⟨_, List.getElem?_eq_getElem (by omega)⟩
      obtain ⟨b, off, rfl, hbw, -⟩ := HT.out.2.2 0 x0 hx0
      clear hx0
      have hpk : p + k + 2 ≤ n := by have := HL.out; omega
      have hBS := HB.out.size
      obtain ⟨ln, hln⟩ : ∃ ln, (l.drop p).take k = ln := ⟨_, rfl⟩
      have hlk : ln.length = k := by rw [← hln, List.length_take, List.length_drop]; omega
      have TS : Bs W (some ⟨b, off + p, none⟩) (c - p) ln := by rw [← hln]; exact ((HT.out.below HB.out).drop p (by omega)).take k
      have CV := conv_bs TS
      rw [hlk] at CV
      have HLN := Lib.hid hln
      have FXK : Hid (∀ w', Only2 b6 b5 W w' → FixP w.heap.size b1 b2 b3 b4 b6 b7 b8 (some ⟨b, off, none⟩) n c w') := Lib.hid fun w' h =>
        FX.block (h.block _ (World.block_lt_of_cell? W _ FX.c0) (by omega) (by omega)) (h.block _ (World.block_lt_of_cell? W _ FX.r0) (by omega) (by omega)) (h.block _ (World.block_lt_of_cell? W _ FX.r4) (by omega) (by omega)) (h.block _ (World.block_lt_of_cell? W _ FX.r5) (by omega) (by omega)) (h.block _ (World.block_lt_of_cell? W _ FX.r6) (by omega) (by omega)) (h.block _ (World.block_lt_of_cell? W _ FX.c7) (by omega) (by omega)) (h.block _ (World.block_lt_of_cell? W _ FX.c8) (by omega) (by omega))
      have hat : ¬ ((p : Int) + ((k : Int) + 2) < 0) := by omega
      have h7 := FX.c7
      have hb6 : b6 < W.heap.size ∧ b7 < W.heap.size := ⟨R.2.1.1, World.block_lt_of_cell? W _ FX.c7⟩
      dsimp only [i0V, i1V, subA, Option.map]
      have n21' := HN.out
      by_cases h0 : st.n = 0
      · have hst0 := goF_zero HST.out h0
        subst hst0
        have LC0 := rline_first b6 b5 st0 h0 ln (by omega) w W HE.out HB.out (by omega) (by omega) R
        clear TS hln hlk FX R hok
        by_cases he : headE ln = 0
        · rw [he] at LC0
          have LC := Lib.hid LC0
          have NX : Hid (goF l st0 ((pre ++ [(⟨.got p k, hx⟩ : ItS l)]).map (·.1)) = some ⟨1, headM ln, headP ln, false, 0, false, false⟩) := Lib.hid (by
            rw [List.map_append, goF_app, HST.out]
            have := goF_head (l := l) (p := p) (k := k) h0 (by rw [HLN.out]; exact he)
            rw [HLN.out] at this
            exact this)
          clear LC0 he h0
          generalize (⟨ln.toArray⟩ : ByteArray) = S at *
          gi_wp2_with (first | (refine ⟨trivial, ?_⟩; gi_at_call 35; refine (CallsIn.inRound l0 (callsIn_wide.2 LC.out)).mono ?_; rintro e w2 ⟨rfl, O2, R2⟩; obtain ⟨⟨_, z0, z1, z2, z3, z4, z5, z6, z7, -⟩, -⟩ := (R2 rfl).2; have R3 := Lib.hid (R2 rfl); clear R2; have HO2 := Lib.hid O2; obtain ⟨c0, c7, c8, r0, r1, r2, r3, r4, r5, r6, f1, f2, f3, f4⟩ := FXK.out _ O2; have g0 := f1 0; have g1 := f1 1; have g2 := f1 2; have g3 := f1 3; clear f1 O2))
          have hbs := HBS.out
          have hsz := HSZ.out
          exact ⟨HO2.out.from (by omega) (by omega), ⟨HO2.out.low (by omega) (by omega) HB.out.size, World.cell?_of_block (HO2.out.block b8 (by omega) (by omega) (by omega))⟩, ⟨_, NX.out, R3.out⟩, FXK.out _ HO2.out, HB.out.trans (HO2.out.low (by omega) (by omega) HB.out.size), Nat.le_trans HSZ.out HO2.out.size⟩
        · have hne : (headE ln != 0) = true := by rw [bne_iff_ne]; exact he
          have GN : Hid (goF l st0 [.got p k] = none) := Lib.hid (by rw [goF, if_pos h0, HLN.out, if_neg he])
          have EN : Hid (endF l st0 (.got p k) = .bad (headE ln)) := Lib.hid (by rw [endF, if_pos h0, HLN.out, if_neg he])
          have LC := Lib.hid LC0
          clear LC0 he h0
          generalize (⟨ln.toArray⟩ : ByteArray) = S at *
          generalize headE ln = E0 at *
          gi_wp2_with (first | (refine ⟨trivial, ?_⟩; gi_at_call 35; refine (CallsIn.inRound l0 (callsIn_wide.2 LC.out)).mono ?_; rintro e w2 ⟨rfl, O2, R2⟩; have R3 := Lib.hid R2; clear R2; have HO2 := Lib.hid O2; obtain ⟨c0, c7, c8, r0, r1, r2, r3, r4, r5, r6, f1, f2, f3, f4⟩ := FXK.out _ O2; have g0 := f1 0; have g1 := f1 1; have g2 := f1 2; have g3 := f1 3; clear f1 O2))
          refine ⟨?kf, ⟨pre.map (·.1), .got p k, st0, by simp, HST.out, GN.out, .inl ⟨rfl, .tuple #[zReq, .int .i64 0, .bool false, .int .i64 (E0)], ?rs, (by rw [EN.out]; rfl)⟩⟩, ?bl, ?sz⟩
          case kf =>
            have hbs := HBS.out
            repeat refine KeepsFrom.set ?_ _ _
            exact HO2.out.from (by omega) (by omega)
          case rs => refine ⟨_, _, _, _, _, _, _, rfl, ?_, ?_, ?_, ?_, ?_, ?_, ?_⟩ <;> simp [go_sem, n12, n13, n14, n21, n23, n24, n31, n32, n34, n41, n42, n43, r0, r1, r2, r3, r4, r5, r6]
          case bl =>
            have hbs := HBS.out
            repeat refine Below.setCell ?_ (by dsimp only; omega) _
            exact HB.out.trans (HO2.out.low (by omega) (by omega) HB.out.size)
          case sz => simp only [World.size_setCell]; exact Nat.le_trans HSZ.out HO2.out.size
      · by_cases hk0 : k = 0
        · subst hk0
          have hlnil : ln = [] := List.length_eq_zero_iff.1 hlk
          subst hlnil
          have LC0 := rline_end b6 b5 st (by omega) (by omega) w W HB.out (by omega) R
          clear TS hln hlk FX R hok
          obtain ⟨q, hq⟩ : ∃ q, p + 2 = q := ⟨_, rfl⟩
          have e2 : ((p : Int) + (((0 : Nat) : Int) + 2)) = (q : Int) := by omega
          rw [e2] at hat ⊢
          clear e2
          have GN : Hid (goF l st0 (pre.map (·.1) ++ [.got p 0]) = none) := Lib.hid (by rw [goF_app, HST.out]; show goF l st [.got p 0] = none; rw [goF, if_neg h0, if_pos rfl])
          have LD : (l.drop q).length = n - q := by rw [List.length_drop, HL.out]
          have GM : Hid (goF l st [.got p 0] = none) := Lib.hid (by rw [goF, if_neg h0, if_pos rfl])
          have EM : Hid (endF l st (.got p 0) = if n - q < st.len then .wait else .done st (l.drop q)) := Lib.hid (by rw [endF, if_neg h0, if_pos rfl, hq, LD])
          obtain ⟨L, hLL⟩ : ∃ L, st.len = L := ⟨_, rfl⟩
          rw [hLL] at LC0 EM
          have HLL := Lib.hid hLL
          have LC := Lib.hid LC0
          have hwn : IntKind.i64.wrap ((n : Int) - (q : Int)) = (n : Int) - (q : Int) := by rw [IntKind.wrap_i64]; omega
          have hqn : q ≤ n := by omega
          have hpos : 0 ≤ (q : Int) := by omega
          clear LC0 h0 hLL LD hq
          gi_wp2_with (first | (refine ⟨trivial, ?_⟩; gi_at_call 35; refine (CallsIn.inRound l0 (callsIn_wide.2 LC.out)).mono ?_; rintro e w2 ⟨rfl, O2, R2⟩; obtain ⟨_, z0, z1, z2, z3, z4, z5, z6, z7, zf⟩ := R2; have ZF := Lib.hid zf; have HO2 := Lib.hid O2; obtain ⟨c0, c7, c8, r0, r1, r2, r3, r4, r5, r6, f1, f2, f3, f4⟩ := FXK.out _ O2; have g0 := f1 0; have g1 := f1 1; have g2 := f1 2; have g3 := f1 3; clear f1 O2 zf))
          by_cases hlt' : n - q < L
          · have hlt : (n : Int) - (q : Int) < (L : Int) := by omega
            refine region_round (fun W' => W'.cell? ⟨w.heap.size, 0, none⟩ = some (.slice (some ⟨b, off, none⟩) n c) ∧ W'.cell? ⟨b7, 0, none⟩ = some (.pointer (some ⟨b6, 0, none⟩)) ∧ W'.cell? ⟨b6, 5, none⟩ = some (.int .i64 (L : Int))) (by kernel_rfl) (by kernel_rfl) (fun ⟨_, _, h⟩ => h) ⟨c0, c7, z5⟩ (fun hS => ?_)
            refine take2 0 (some 35) (.slice (some ⟨b, off, none⟩) n c) rfl (by kernel_rfl) (by kernel_rfl) (by kernel_rfl) rfl (fun _ _ _ h => h) (Or.inl ⟨by rfl, fun W' hW' => (by obtain ⟨s0, s1, s2⟩ := hW'; simp [go_sem, s0, s1, s2, hwn, hlt])⟩) (by assumption) ?_
            simp only [Act.put, List.setIfInBounds_toArray, List.set_cons_zero, List.set_cons_succ]
            refine take2 1 (some 36) (.int .i64 (n : Int)) rfl (by kernel_rfl) (by kernel_rfl) (by kernel_rfl) rfl (fun _ _ _ h => h) (Or.inl ⟨by rfl, fun W' hW' => (by obtain ⟨s0, s1, s2⟩ := hW'; simp [go_sem, s0, s1, s2, hwn, hlt])⟩) (by assumption) ?_
            simp only [Act.put, List.setIfInBounds_toArray, List.set_cons_zero, List.set_cons_succ]
            refine take2 2 (some 37) (.int .i64 (q : Int)) rfl (by kernel_rfl) (by kernel_rfl) (by kernel_rfl) rfl (fun _ _ _ h => h) (Or.inl ⟨by rfl, fun W' hW' => (by obtain ⟨s0, s1, s2⟩ := hW'; simp [go_sem, s0, s1, s2, hwn, hlt])⟩) (by assumption) ?_
            simp only [Act.put, List.setIfInBounds_toArray, List.set_cons_zero, List.set_cons_succ]
            refine take2 3 (some 38) (.int .i64 ((n : Int) - (q : Int))) rfl (by kernel_rfl) (by kernel_rfl) (by kernel_rfl) rfl (fun _ _ _ h => h) (Or.inl ⟨by rfl, fun W' hW' => (by obtain ⟨s0, s1, s2⟩ := hW'; simp [go_sem, s0, s1, s2, hwn, hlt])⟩) (by assumption) ?_
            simp only [Act.put, List.setIfInBounds_toArray, List.set_cons_zero, List.set_cons_succ]
            refine take2 4 (some 39) (.pointer (some ⟨b6, 0, none⟩)) rfl (by kernel_rfl) (by kernel_rfl) (by kernel_rfl) rfl (fun _ _ _ h => h) (Or.inl ⟨by rfl, fun W' hW' => (by obtain ⟨s0, s1, s2⟩ := hW'; simp [go_sem, s0, s1, s2, hwn, hlt])⟩) (by assumption) ?_
            simp only [Act.put, List.setIfInBounds_toArray, List.set_cons_zero, List.set_cons_succ]
            refine take2 5 (some 40) (.pointer (some ⟨b6, 0, none⟩)) rfl (by kernel_rfl) (by kernel_rfl) (by kernel_rfl) rfl (fun _ _ _ h => h) (Or.inl ⟨by rfl, fun W' hW' => (by obtain ⟨s0, s1, s2⟩ := hW'; simp [go_sem, s0, s1, s2, hwn, hlt])⟩) (by assumption) ?_
            simp only [Act.put, List.setIfInBounds_toArray, List.set_cons_zero, List.set_cons_succ]
            refine take2 6 (some 41) (.pointer (some ⟨b6, 5, none⟩)) rfl (by kernel_rfl) (by kernel_rfl) (by kernel_rfl) rfl (fun _ _ _ h => h) (Or.inl ⟨by rfl, fun W' hW' => (by obtain ⟨s0, s1, s2⟩ := hW'; simp [go_sem, s0, s1, s2, hwn, hlt])⟩) (by assumption) ?_
            simp only [Act.put, List.setIfInBounds_toArray, List.set_cons_zero, List.set_cons_succ]
            refine take2 7 (some 42) (.int .i64 (L : Int)) rfl (by kernel_rfl) (by kernel_rfl) (by kernel_rfl) rfl (fun _ _ _ h => h) (Or.inl ⟨by rfl, fun W' hW' => (by obtain ⟨s0, s1, s2⟩ := hW'; simp [go_sem, s0, s1, s2, hwn, hlt])⟩) (by assumption) ?_
            simp only [Act.put, List.setIfInBounds_toArray, List.set_cons_zero, List.set_cons_succ]
            refine take2 8 (some 43) (.bool true) rfl (by kernel_rfl) (by kernel_rfl) (by kernel_rfl) rfl (fun _ _ _ h => h) (Or.inl ⟨by rfl, fun W' hW' => (by obtain ⟨s0, s1, s2⟩ := hW'; simp [go_sem, s0, s1, s2, hwn, hlt])⟩) (by assumption) ?_
            simp only [Act.put, List.setIfInBounds_toArray, List.set_cons_zero, List.set_cons_succ]
            refine wpAnyH_done (by kernel_rfl) ?_ _
            gi_wp2
            have hbs := HBS.out
            exact ⟨(HO2.out.from (by omega) (by omega)).trans ((KeepsOthers.drew _).from _), ⟨pre.map (·.1), .got p 0, st, by simp, HST.out, GM.out, .inr ⟨rfl, by rw [EM.out, if_pos hlt'], (FXK.out _ HO2.out).block rfl rfl rfl rfl rfl rfl rfl⟩⟩, (HB.out.trans (HO2.out.low (by omega) (by omega) HB.out.size)).drew, Nat.le_trans HSZ.out HO2.out.size⟩
          · have hlt : ¬ (n : Int) - (q : Int) < (L : Int) := by omega
            refine region_round (fun W' => W'.cell? ⟨w.heap.size, 0, none⟩ = some (.slice (some ⟨b, off, none⟩) n c) ∧ W'.cell? ⟨b7, 0, none⟩ = some (.pointer (some ⟨b6, 0, none⟩)) ∧ W'.cell? ⟨b6, 5, none⟩ = some (.int .i64 (L : Int))) (by kernel_rfl) (by kernel_rfl) (fun ⟨_, _, h⟩ => h) ⟨c0, c7, z5⟩ (fun hS => ?_)
            refine take2 0 (some 35) (.slice (some ⟨b, off, none⟩) n c) rfl (by kernel_rfl) (by kernel_rfl) (by kernel_rfl) rfl (fun _ _ _ h => h) (Or.inl ⟨by rfl, fun W' hW' => (by obtain ⟨s0, s1, s2⟩ := hW'; simp [go_sem, s0, s1, s2, hwn, hlt])⟩) (by assumption) ?_
            simp only [Act.put, List.setIfInBounds_toArray, List.set_cons_zero, List.set_cons_succ]
            refine take2 1 (some 36) (.int .i64 (n : Int)) rfl (by kernel_rfl) (by kernel_rfl) (by kernel_rfl) rfl (fun _ _ _ h => h) (Or.inl ⟨by rfl, fun W' hW' => (by obtain ⟨s0, s1, s2⟩ := hW'; simp [go_sem, s0, s1, s2, hwn, hlt])⟩) (by assumption) ?_
            simp only [Act.put, List.setIfInBounds_toArray, List.set_cons_zero, List.set_cons_succ]
            refine take2 2 (some 37) (.int .i64 (q : Int)) rfl (by kernel_rfl) (by kernel_rfl) (by kernel_rfl) rfl (fun _ _ _ h => h) (Or.inl ⟨by rfl, fun W' hW' => (by obtain ⟨s0, s1, s2⟩ := hW'; simp [go_sem, s0, s1, s2, hwn, hlt])⟩) (by assumption) ?_
            simp only [Act.put, List.setIfInBounds_toArray, List.set_cons_zero, List.set_cons_succ]
            refine take2 3 (some 38) (.int .i64 ((n : Int) - (q : Int))) rfl (by kernel_rfl) (by kernel_rfl) (by kernel_rfl) rfl (fun _ _ _ h => h) (Or.inl ⟨by rfl, fun W' hW' => (by obtain ⟨s0, s1, s2⟩ := hW'; simp [go_sem, s0, s1, s2, hwn, hlt])⟩) (by assumption) ?_
            simp only [Act.put, List.setIfInBounds_toArray, List.set_cons_zero, List.set_cons_succ]
            refine take2 4 (some 39) (.pointer (some ⟨b6, 0, none⟩)) rfl (by kernel_rfl) (by kernel_rfl) (by kernel_rfl) rfl (fun _ _ _ h => h) (Or.inl ⟨by rfl, fun W' hW' => (by obtain ⟨s0, s1, s2⟩ := hW'; simp [go_sem, s0, s1, s2, hwn, hlt])⟩) (by assumption) ?_
            simp only [Act.put, List.setIfInBounds_toArray, List.set_cons_zero, List.set_cons_succ]
            refine take2 5 (some 40) (.pointer (some ⟨b6, 0, none⟩)) rfl (by kernel_rfl) (by kernel_rfl) (by kernel_rfl) rfl (fun _ _ _ h => h) (Or.inl ⟨by rfl, fun W' hW' => (by obtain ⟨s0, s1, s2⟩ := hW'; simp [go_sem, s0, s1, s2, hwn, hlt])⟩) (by assumption) ?_
            simp only [Act.put, List.setIfInBounds_toArray, List.set_cons_zero, List.set_cons_succ]
            refine take2 6 (some 41) (.pointer (some ⟨b6, 5, none⟩)) rfl (by kernel_rfl) (by kernel_rfl) (by kernel_rfl) rfl (fun _ _ _ h => h) (Or.inl ⟨by rfl, fun W' hW' => (by obtain ⟨s0, s1, s2⟩ := hW'; simp [go_sem, s0, s1, s2, hwn, hlt])⟩) (by assumption) ?_
            simp only [Act.put, List.setIfInBounds_toArray, List.set_cons_zero, List.set_cons_succ]
            refine take2 7 (some 42) (.int .i64 (L : Int)) rfl (by kernel_rfl) (by kernel_rfl) (by kernel_rfl) rfl (fun _ _ _ h => h) (Or.inl ⟨by rfl, fun W' hW' => (by obtain ⟨s0, s1, s2⟩ := hW'; simp [go_sem, s0, s1, s2, hwn, hlt])⟩) (by assumption) ?_
            simp only [Act.put, List.setIfInBounds_toArray, List.set_cons_zero, List.set_cons_succ]
            refine take2 8 (some 43) (.bool false) rfl (by kernel_rfl) (by kernel_rfl) (by kernel_rfl) rfl (fun _ _ _ h => h) (Or.inl ⟨by rfl, fun W' hW' => (by obtain ⟨s0, s1, s2⟩ := hW'; simp [go_sem, s0, s1, s2, hwn, hlt])⟩) (by assumption) ?_
            simp only [Act.put, List.setIfInBounds_toArray, List.set_cons_zero, List.set_cons_succ]
            refine wpAnyH_done (by kernel_rfl) ?_ _
            gi_wp2
            obtain ⟨M, hM⟩ : ∃ M, q + L = M := ⟨_, rfl⟩
            have hwa : IntKind.i64.wrap ((q : Int) + (L : Int)) = (M : Int) := by rw [IntKind.wrap_i64]; omega
            have hqM : (q : Int) ≤ (M : Int) := by omega
            have hMc : (M : Int) ≤ (c : Int) := by have := HT.out.1; have := HL.out; omega
            have hqL : M - q = L := by omega
            obtain ⟨SV, hSV⟩ : ∃ SV, (if c = q then Value.slice (some ⟨b, off, none⟩) 0 0 else .slice (some ⟨b, off + q, none⟩) L (c - q)) = SV := ⟨_, rfl⟩
            have HSV := Lib.hid hSV
            have BW2 : Below w.heap.size w w2 := HB.out.trans (HO2.out.low (by have := HBS.out; omega) (by have := HBS.out; omega) HB.out.size)
            obtain ⟨ad, cc, rfl, SB⟩ : ∃ ad cc, SV = .slice (some ad) L cc ∧ Bs w2 (some ad) cc ((l.drop q).take L) := by
              have T2 := HT.out.below BW2
              by_cases hcq : c = q
              · have hL0 : L = 0 := by omega
                rw [if_pos hcq] at hSV
                subst hL0
                exact ⟨_, _, hSV.symm, by simp, fun h => (by cases h), fun i v hi => by simp at hi⟩
              · rw [if_neg hcq] at hSV
                exact ⟨_, _, hSV.symm, (T2.drop q (by rw [HL.out]; exact hqn)).take L⟩
            have HSB := Lib.hid SB
            have HBW2 := Lib.hid BW2
            have hbl : ((l.drop q).take L).length = L := by rw [List.length_take, List.length_drop, HL.out]; omega
            have HBL := Lib.hid hbl
            have hmk : ∀ W : World, (Instr.makeSlice 22 (.int .i64 0) (.int .i64 (L : Int))).run Tryz.prog W = .ok (.slice (some ⟨W.heap.size, 0, none⟩) 0 L) (W.alloc (.cells (madeCells #[.int .u8 0] L) 5)) := fun W => by
              obtain ⟨i0, hi0, hz0, hz1, hz2⟩ := info_parts info_u8h
              have h := run_make (P := Tryz.prog) (w := W) 22 5 i0 _ Tryz.underlying22 hi0 hz0 .i64 .i64 0 (L : Int) (Int.le_refl _) (by omega) (by rw [hz2]; omega) (by omega)
              have h2 : (Value.int .u8 0).cells = #[.int .u8 0] := rfl
              simpa [hz1, h2] using h
            obtain ⟨i0, hi0, hz0, hz1, hz2⟩ := info_parts info_u8h
            clear hSV SB BW2 hbl
            refine region_round (fun W' => W'.cell? ⟨w.heap.size, 0, none⟩ = some (.slice (some ⟨b, off, none⟩) n c) ∧ W'.cell? ⟨b7, 0, none⟩ = some (.pointer (some ⟨b6, 0, none⟩)) ∧ W'.cell? ⟨b6, 5, none⟩ = some (.int .i64 (L : Int)) ∧ (∃ v, W'.cell? ⟨b6, 2, none⟩ = some v) ∧ W'.frozen? ⟨b6, 2, none⟩ = false) (by kernel_rfl) (by kernel_rfl) (fun ⟨_, _, h⟩ => h) ⟨c0, c7, z5, ⟨_, z2⟩, ZF.out 2⟩ (fun hS => ?_)
            refine take2 0 (some 44) (.pointer (some ⟨b6, 0, none⟩)) rfl (by kernel_rfl) (by kernel_rfl) (by kernel_rfl) rfl (fun _ _ _ h => h) (Or.inl ⟨by rfl, fun W' hW' => (by obtain ⟨s0, s1, s2, ⟨s3, s4⟩, s5⟩ := hW'; simp [go_sem, s0, s1, s2, hwa, hqM, hMc, hqL])⟩) (by assumption) ?_
            simp only [Act.put, List.setIfInBounds_toArray, List.set_cons_zero, List.set_cons_succ]
            refine take2 1 (some 45) (.pointer (some ⟨b6, 0, none⟩)) rfl (by kernel_rfl) (by kernel_rfl) (by kernel_rfl) rfl (fun _ _ _ h => h) (Or.inl ⟨by rfl, fun W' hW' => (by obtain ⟨s0, s1, s2, ⟨s3, s4⟩, s5⟩ := hW'; simp [go_sem, s0, s1, s2, hwa, hqM, hMc, hqL])⟩) (by assumption) ?_
            simp only [Act.put, List.setIfInBounds_toArray, List.set_cons_zero, List.set_cons_succ]
            refine take2 2 (some 46) (.pointer (some ⟨b6, 0, none⟩)) rfl (by kernel_rfl) (by kernel_rfl) (by kernel_rfl) rfl (fun _ _ _ h => h) (Or.inl ⟨by rfl, fun W' hW' => (by obtain ⟨s0, s1, s2, ⟨s3, s4⟩, s5⟩ := hW'; simp [go_sem, s0, s1, s2, hwa, hqM, hMc, hqL])⟩) (by assumption) ?_
            simp only [Act.put, List.setIfInBounds_toArray, List.set_cons_zero, List.set_cons_succ]
            refine take2 3 (some 47) (.pointer (some ⟨b6, 5, none⟩)) rfl (by kernel_rfl) (by kernel_rfl) (by kernel_rfl) rfl (fun _ _ _ h => h) (Or.inl ⟨by rfl, fun W' hW' => (by obtain ⟨s0, s1, s2, ⟨s3, s4⟩, s5⟩ := hW'; simp [go_sem, s0, s1, s2, hwa, hqM, hMc, hqL])⟩) (by assumption) ?_
            simp only [Act.put, List.setIfInBounds_toArray, List.set_cons_zero, List.set_cons_succ]
            refine take2 4 (some 48) (.int .i64 (L : Int)) rfl (by kernel_rfl) (by kernel_rfl) (by kernel_rfl) rfl (fun _ _ _ h => h) (Or.inl ⟨by rfl, fun W' hW' => (by obtain ⟨s0, s1, s2, ⟨s3, s4⟩, s5⟩ := hW'; simp [go_sem, s0, s1, s2, hwa, hqM, hMc, hqL])⟩) (by assumption) ?_
            simp only [Act.put, List.setIfInBounds_toArray, List.set_cons_zero, List.set_cons_succ]
            refine take2 6 (some 50) (.slice (some ⟨b, off, none⟩) n c) rfl (by kernel_rfl) (by kernel_rfl) (by kernel_rfl) rfl (fun _ _ _ h => h) (Or.inl ⟨by rfl, fun W' hW' => (by obtain ⟨s0, s1, s2, ⟨s3, s4⟩, s5⟩ := hW'; simp [go_sem, s0, s1, s2, hwa, hqM, hMc, hqL])⟩) (by assumption) ?_
            simp only [Act.put, List.setIfInBounds_toArray, List.set_cons_zero, List.set_cons_succ]
            refine take2 7 (some 51) (.int .i64 (q : Int)) rfl (by kernel_rfl) (by kernel_rfl) (by kernel_rfl) rfl (fun _ _ _ h => h) (Or.inl ⟨by rfl, fun W' hW' => (by obtain ⟨s0, s1, s2, ⟨s3, s4⟩, s5⟩ := hW'; simp [go_sem, s0, s1, s2, hwa, hqM, hMc, hqL])⟩) (by assumption) ?_
            simp only [Act.put, List.setIfInBounds_toArray, List.set_cons_zero, List.set_cons_succ]
            refine take2 8 (some 52) (.int .i64 (q : Int)) rfl (by kernel_rfl) (by kernel_rfl) (by kernel_rfl) rfl (fun _ _ _ h => h) (Or.inl ⟨by rfl, fun W' hW' => (by obtain ⟨s0, s1, s2, ⟨s3, s4⟩, s5⟩ := hW'; simp [go_sem, s0, s1, s2, hwa, hqM, hMc, hqL])⟩) (by assumption) ?_
            simp only [Act.put, List.setIfInBounds_toArray, List.set_cons_zero, List.set_cons_succ]
            refine take2 9 (some 53) (.pointer (some ⟨b6, 0, none⟩)) rfl (by kernel_rfl) (by kernel_rfl) (by kernel_rfl) rfl (fun _ _ _ h => h) (Or.inl ⟨by rfl, fun W' hW' => (by obtain ⟨s0, s1, s2, ⟨s3, s4⟩, s5⟩ := hW'; simp [go_sem, s0, s1, s2, hwa, hqM, hMc, hqL])⟩) (by assumption) ?_
            simp only [Act.put, List.setIfInBounds_toArray, List.set_cons_zero, List.set_cons_succ]
            refine take2 10 (some 54) (.pointer (some ⟨b6, 0, none⟩)) rfl (by kernel_rfl) (by kernel_rfl) (by kernel_rfl) rfl (fun _ _ _ h => h) (Or.inl ⟨by rfl, fun W' hW' => (by obtain ⟨s0, s1, s2, ⟨s3, s4⟩, s5⟩ := hW'; simp [go_sem, s0, s1, s2, hwa, hqM, hMc, hqL])⟩) (by assumption) ?_
            simp only [Act.put, List.setIfInBounds_toArray, List.set_cons_zero, List.set_cons_succ]
            refine take2 11 (some 55) (.pointer (some ⟨b6, 5, none⟩)) rfl (by kernel_rfl) (by kernel_rfl) (by kernel_rfl) rfl (fun _ _ _ h => h) (Or.inl ⟨by rfl, fun W' hW' => (by obtain ⟨s0, s1, s2, ⟨s3, s4⟩, s5⟩ := hW'; simp [go_sem, s0, s1, s2, hwa, hqM, hMc, hqL])⟩) (by assumption) ?_
            simp only [Act.put, List.setIfInBounds_toArray, List.set_cons_zero, List.set_cons_succ]
            refine take2 12 (some 56) (.int .i64 (L : Int)) rfl (by kernel_rfl) (by kernel_rfl) (by kernel_rfl) rfl (fun _ _ _ h => h) (Or.inl ⟨by rfl, fun W' hW' => (by obtain ⟨s0, s1, s2, ⟨s3, s4⟩, s5⟩ := hW'; simp [go_sem, s0, s1, s2, hwa, hqM, hMc, hqL])⟩) (by assumption) ?_
            simp only [Act.put, List.setIfInBounds_toArray, List.set_cons_zero, List.set_cons_succ]
            refine take2 13 (some 57) (.int .i64 (M : Int)) rfl (by kernel_rfl) (by kernel_rfl) (by kernel_rfl) rfl (fun _ _ _ h => h) (Or.inl ⟨by rfl, fun W' hW' => (by obtain ⟨s0, s1, s2, ⟨s3, s4⟩, s5⟩ := hW'; simp [go_sem, s0, s1, s2, hwa, hqM, hMc, hqL])⟩) (by assumption) ?_
            simp only [Act.put, List.setIfInBounds_toArray, List.set_cons_zero, List.set_cons_succ]
            refine take2 14 (some 58) (.slice (some ad) L cc) rfl (by kernel_rfl) (by kernel_rfl) (by kernel_rfl) rfl (fun _ _ _ h => h) (Or.inl ⟨by rfl, fun W' hW' => (by rw [← HSV.out]; by_cases hcq : c = q; (have h1 : M = q := (by omega); have h2 : L = 0 := (by omega); simp [go_sem, hcq, h1, h2]); simp [go_sem, hqM, hMc, hcq, hqL])⟩) (by assumption) ?_
            simp only [Act.put, List.setIfInBounds_toArray, List.set_cons_zero, List.set_cons_succ]
            have B5 : ∀ o, Below w2.heap.size w2 (w2.drew.drew.alloc o) := fun o => ((Below.refl _ _).drew.drew).alloc (Nat.le_refl _) _
            refine wpAnyH_ready (rs := [5]) (by kernel_rfl) (by simp) ?_
            refine AllReadyH.cons rfl (fun K' hK' => ?_) AllReadyH.nil
            go_simp
            refine hK'.out _ _ ⟨cellB (B5 _) c0, cellB (B5 _) c7, cellB (B5 _) z5, ⟨_, cellB (B5 _) z2⟩, frozB (B5 _) z2 (ZF.out 2)⟩ (fun hS5 => ?_)
            clear hK' K' hS
            refine wpAnyH_ready (rs := [15]) (by kernel_rfl) (by simp) ?_
            refine AllReadyH.cons rfl (fun K' hK' => ?_) AllReadyH.nil
            refine step_append_bs _ rfl (.tmp 49) (.tmp 58) 22 rfl w2.heap.size i0 Tryz.underlying22 hi0 hz0 hz1 hz2 (.slice (some ⟨w2.heap.size, 0, none⟩) 0 L) 0 [] rfl (own_made w2.drew.drew L (by unfold maxLen; omega)) ad L cc ((l.drop q).take L) rfl HBL.out (HSB.out.below (B5 _)) (by unfold maxLen; omega) (by omega) (by simp) ?_
            intro v' w6 hown6 hgrow6
            have B6 : Below w2.heap.size w2 w6 := (B5 _).grown hgrow6 (by simp) (fun k e => by simp [Value.ownBlock] at e; omega)
            have hown6' : w6.ownsRow w2.heap.size 5 1 v' L (Lib.byteCells ((l.drop q).take L)) := by simpa using hown6
            obtain ⟨A', c', rfl, hBs', hge⟩ := own_bs hown6'
            have HB6 := Lib.hid B6
            have HBs' := Lib.hid hBs'
            have HGE := Lib.hid hge
            clear hown6 hgrow6 hown6' hBs' hge
            refine hK'.out _ _ ⟨cellB B6 c0, cellB B6 c7, cellB B6 z5, ⟨_, cellB B6 z2⟩, frozB B6 z2 (ZF.out 2)⟩ (fun hS6 => ?_)
            clear hK' K' hS5 B6
            refine take2 16 (some 60) (.pointer (some ⟨b6, 0, none⟩)) rfl (by kernel_rfl) (by kernel_rfl) (by kernel_rfl) rfl (fun _ _ _ h => h) (Or.inl ⟨by rfl, fun W' hW' => (by obtain ⟨s0, s1, s2, ⟨s3, s4⟩, s5⟩ := hW'; simp [go_sem, s0, s1, s2])⟩) (by assumption) ?_
            simp only [Act.put, List.setIfInBounds_toArray, List.set_cons_zero, List.set_cons_succ]
            refine take2 17 (some 61) (.pointer (some ⟨b6, 0, none⟩)) rfl (by kernel_rfl) (by kernel_rfl) (by kernel_rfl) rfl (fun _ _ _ h => h) (Or.inl ⟨by rfl, fun W' hW' => (by obtain ⟨s0, s1, s2, ⟨s3, s4⟩, s5⟩ := hW'; simp [go_sem, s0, s1, s2])⟩) (by assumption) ?_
            simp only [Act.put, List.setIfInBounds_toArray, List.set_cons_zero, List.set_cons_succ]
            refine take2 18 (some 62) (.pointer (some ⟨b6, 2, none⟩)) rfl (by kernel_rfl) (by kernel_rfl) (by kernel_rfl) rfl (fun _ _ _ h => h) (Or.inl ⟨by rfl, fun W' hW' => (by obtain ⟨s0, s1, s2, ⟨s3, s4⟩, s5⟩ := hW'; simp [go_sem, s0, s1, s2])⟩) (by assumption) ?_
            simp only [Act.put, List.setIfInBounds_toArray, List.set_cons_zero, List.set_cons_succ]
            refine wpAnyH_ready (rs := [19]) (by kernel_rfl) (by simp) ?_
            refine AllReadyH.cons rfl (fun K' hK' => ?_) AllReadyH.nil
            have s3 := cellB HB6.out z2
            have s4 := frozB HB6.out z2 (ZF.out 2)
            have s0 := cellB HB6.out c0
            have s1 := cellB HB6.out c7
            have s2 := cellB HB6.out z5
            have q6 := HN6.out.2.2.2.2.2.2.2.2.2.2.2.2.2.2.2.2
            have n6a := q6.1
            have n6c := q6.2.1
            have n6b := q6.2.2.1
            have n6d := q6.2.2.2
            clear q6
            -- MARKGS
            go_simp
            -- MARKHK
            refine hK'.out _ _ ⟨by simp [go_sem, s0, n6a, n6c], by simp [go_sem, s1, n6b, n6d], by simp [go_sem, s2], ⟨_, World.cell?_setCell_same' _ _ _ (by rw [s3]; rfl)⟩, by simp [go_sem, s4]⟩ (fun _ => ?_)
            clear hK' K' hS6
            refine wpAnyH_done (by kernel_rfl) ?_ _
            gi_wp2
            have m61 := HN6.out.1
            have m16 := HN6.out.2.1
            have m62 := HN6.out.2.2.1
            have m26 := HN6.out.2.2.2.1
            have m63 := HN6.out.2.2.2.2.1
            have m36 := HN6.out.2.2.2.2.2.1
            have m64 := HN6.out.2.2.2.2.2.2.1
            have m46 := HN6.out.2.2.2.2.2.2.2.1
            have m71 := HN6.out.2.2.2.2.2.2.2.2.1
            have m17 := HN6.out.2.2.2.2.2.2.2.2.2.1
            have m72 := HN6.out.2.2.2.2.2.2.2.2.2.2.1
            have m27 := HN6.out.2.2.2.2.2.2.2.2.2.2.2.1
            have m73 := HN6.out.2.2.2.2.2.2.2.2.2.2.2.2.1
            have m37 := HN6.out.2.2.2.2.2.2.2.2.2.2.2.2.2.1
            have m74 := HN6.out.2.2.2.2.2.2.2.2.2.2.2.2.2.2.1
            have m47 := HN6.out.2.2.2.2.2.2.2.2.2.2.2.2.2.2.2.1
            have z6b6 := World.block_lt_of_cell? _ _ z0
            dsimp only at z6b6
            refine name_worldIn ?_
            intro W7 hW7
            have y0 : W7.cell? ⟨b6, 0, none⟩ = some (.string ⟨st.m.toArray⟩) := by rw [hW7]; simp [go_sem, cellB HB6.out z0]
            have y1 : W7.cell? ⟨b6, 1, none⟩ = some (.string ⟨st.p.toArray⟩) := by rw [hW7]; simp [go_sem, cellB HB6.out z1]
            have y2 : W7.cell? ⟨b6, 2, none⟩ = some (.slice A' L c') := by rw [hW7]; exact World.cell?_setCell_same' _ _ _ (by rw [s3]; rfl)
            have y3 : W7.cell? ⟨b6, 3, none⟩ = some (.bool st.close) := by rw [hW7]; simp [go_sem, cellB HB6.out z3]
            have y5 : W7.cell? ⟨b6, 5, none⟩ = some (.int .i64 (L : Int)) := by rw [hW7]; simp [go_sem, cellB HB6.out z5]
            have y7 : W7.cell? ⟨b7, 0, none⟩ = some (.pointer (some ⟨b6, 0, none⟩)) := by rw [hW7]; simp [go_sem, s1, n6b, n6d]
            have x0' : W7.cell? ⟨b1, 0, none⟩ = some (.string ⟨#[]⟩) := by rw [hW7]; simp [go_sem, cellB HB6.out r0, m61, m16]
            have x1' : W7.cell? ⟨b1, 1, none⟩ = some (.string ⟨#[]⟩) := by rw [hW7]; simp [go_sem, cellB HB6.out r1, m61, m16]
            have x2' : W7.cell? ⟨b1, 2, none⟩ = some (.slice none 0 0) := by rw [hW7]; simp [go_sem, cellB HB6.out r2, m61, m16]
            have x3' : W7.cell? ⟨b1, 3, none⟩ = some (.bool false) := by rw [hW7]; simp [go_sem, cellB HB6.out r3, m61, m16]
            have x4' : W7.cell? ⟨b2, 0, none⟩ = some (.int .i64 0) := by rw [hW7]; simp [go_sem, cellB HB6.out r4, m62, m26]
            have x5' : W7.cell? ⟨b3, 0, none⟩ = some (.bool false) := by rw [hW7]; simp [go_sem, cellB HB6.out r5, m63, m36]
            have x6' : W7.cell? ⟨b4, 0, none⟩ = some (.int .i64 0) := by rw [hW7]; simp [go_sem, cellB HB6.out r6, m64, m46]
            have k0 : W7.frozen? ⟨b1, 0, none⟩ = false := by rw [hW7, World.frozen?_setCell]; exact frozB HB6.out r0 g0
            have k1 : W7.frozen? ⟨b1, 1, none⟩ = false := by rw [hW7, World.frozen?_setCell]; exact frozB HB6.out r0 g1
            have k2 : W7.frozen? ⟨b1, 2, none⟩ = false := by rw [hW7, World.frozen?_setCell]; exact frozB HB6.out r0 g2
            have k3 : W7.frozen? ⟨b1, 3, none⟩ = false := by rw [hW7, World.frozen?_setCell]; exact frozB HB6.out r0 g3
            have k4 : W7.frozen? ⟨b2, 0, none⟩ = false := by rw [hW7, World.frozen?_setCell]; exact frozB HB6.out r4 f2
            have k5 : W7.frozen? ⟨b3, 0, none⟩ = false := by rw [hW7, World.frozen?_setCell]; exact frozB HB6.out r5 f3
            have k6 : W7.frozen? ⟨b4, 0, none⟩ = false := by rw [hW7, World.frozen?_setCell]; exact frozB HB6.out r6 f4
            have KF7 : Hid (KeepsFrom W1.heap.size W W7) := Lib.hid (by rw [hW7]; exact KeepsFrom.set ((HO2.out.from (by have := HBS.out; omega) (by have := HBS.out; omega)).trans (Below.from HB6.out)) _ _)
            have BW7 : Hid (Below w.heap.size w W7) := Lib.hid (by rw [hW7]; exact Below.setCell (HBW2.out.trans (HB6.out.mono HBW2.out.size)) (by have := HBS.out; dsimp only; omega) _)
            have SZ7 : Hid (W1.heap.size ≤ W7.heap.size) := Lib.hid (by rw [hW7]; simp only [World.size_setCell]; exact Nat.le_trans HSZ.out (Nat.le_trans HO2.out.size HB6.out.size))
            have BS7 : Hid (Bs W7 A' c' ((l.drop q).take L)) := Lib.hid (by
              rw [hW7]
              refine ⟨HBs'.out.1, HBs'.out.2.1, fun i v hi => ?_⟩
              obtain ⟨gb, go, e1, e2, e3⟩ := HBs'.out.2.2 i v hi
              have e4 := HGE.out _ e1
              exact ⟨gb, go, e1, by simpa using e2, by rw [World.cell?_setCell_far _ _ _ _ (fun e => by dsimp only at e e4; have := z6b6; omega)]; exact e3⟩)
            clear hW7 s0 s1 s2 s3 s4 c0 c7 c8 r0 r1 r2 r3 r4 r5 r6 f2 f3 f4 g0 g1 g2 g3 z0 z1 z2 z3 z4 z5 z6 z7
            obtain ⟨SM, hSM⟩ : ∃ SM : ByteArray, (⟨st.m.toArray⟩ : ByteArray) = SM := ⟨_, rfl⟩
            obtain ⟨SP, hSP⟩ : ∃ SP : ByteArray, (⟨st.p.toArray⟩ : ByteArray) = SP := ⟨_, rfl⟩
            obtain ⟨CL, hCL⟩ : ∃ CL : Bool, st.close = CL := ⟨_, rfl⟩
            rw [hSM] at y0
            rw [hSP] at y1
            rw [hCL] at y3
            have HV := Lib.hid (show (⟨st.m.toArray⟩ : ByteArray) = SM ∧ (⟨st.p.toArray⟩ : ByteArray) = SP ∧ st.close = CL from ⟨hSM, hSP, hCL⟩)
            clear hSM hSP hCL
            refine region_round (fun W' => W'.cell? ⟨b7, 0, none⟩ = some (.pointer (some ⟨b6, 0, none⟩)) ∧ W'.cell? ⟨b6, 0, none⟩ = some (.string SM) ∧ W'.cell? ⟨b6, 1, none⟩ = some (.string SP) ∧ W'.cell? ⟨b6, 2, none⟩ = some (.slice A' L c') ∧ W'.cell? ⟨b6, 3, none⟩ = some (.bool CL) ∧ W'.cell? ⟨b6, 5, none⟩ = some (.int .i64 (L : Int))) (by kernel_rfl) (by kernel_rfl) (fun ⟨_, _, h⟩ => h) ⟨y7, y0, y1, y2, y3, y5⟩ (fun hS => ?_)
            refine take2 0 (some 63) (.pointer (some ⟨b6, 0, none⟩)) rfl (by kernel_rfl) (by kernel_rfl) (by kernel_rfl) rfl (fun _ _ _ h => h) (Or.inl ⟨by rfl, fun W' hW' => (by obtain ⟨s0, s1, s2, s3, s4, s5⟩ := hW'; simp [go_sem, s0, s1, s2, s3, s4, s5, hwa])⟩) (by assumption) ?_
            simp only [Act.put, List.setIfInBounds_toArray, List.set_cons_zero, List.set_cons_succ]
            refine take2 1 (some 64) (.pointer (some ⟨b6, 0, none⟩)) rfl (by kernel_rfl) (by kernel_rfl) (by kernel_rfl) rfl (fun _ _ _ h => h) (Or.inl ⟨by rfl, fun W' hW' => (by obtain ⟨s0, s1, s2, s3, s4, s5⟩ := hW'; simp [go_sem, s0, s1, s2, s3, s4, s5, hwa])⟩) (by assumption) ?_
            simp only [Act.put, List.setIfInBounds_toArray, List.set_cons_zero, List.set_cons_succ]
            refine take2 2 (some 65) (.pointer (some ⟨b6, 0, none⟩)) rfl (by kernel_rfl) (by kernel_rfl) (by kernel_rfl) rfl (fun _ _ _ h => h) (Or.inl ⟨by rfl, fun W' hW' => (by obtain ⟨s0, s1, s2, s3, s4, s5⟩ := hW'; simp [go_sem, s0, s1, s2, s3, s4, s5, hwa])⟩) (by assumption) ?_
            simp only [Act.put, List.setIfInBounds_toArray, List.set_cons_zero, List.set_cons_succ]
            refine take2 3 (some 66) (.agg #[.string SM, .string SP, .slice A' L c', .bool CL]) rfl (by kernel_rfl) (by kernel_rfl) (by kernel_rfl) rfl (fun _ _ _ h => h) (Or.inl ⟨by rfl, fun W' hW' => (by obtain ⟨s0, s1, s2, s3, s4, s5⟩ := hW'; simp [go_sem, s0, s1, s2, s3, s4, s5, hwa])⟩) (by assumption) ?_
            simp only [Act.put, List.setIfInBounds_toArray, List.set_cons_zero, List.set_cons_succ]
            refine take2 4 (some 67) (.int .i64 (q : Int)) rfl (by kernel_rfl) (by kernel_rfl) (by kernel_rfl) rfl (fun _ _ _ h => h) (Or.inl ⟨by rfl, fun W' hW' => (by obtain ⟨s0, s1, s2, s3, s4, s5⟩ := hW'; simp [go_sem, s0, s1, s2, s3, s4, s5, hwa])⟩) (by assumption) ?_
            simp only [Act.put, List.setIfInBounds_toArray, List.set_cons_zero, List.set_cons_succ]
            refine take2 5 (some 68) (.pointer (some ⟨b6, 0, none⟩)) rfl (by kernel_rfl) (by kernel_rfl) (by kernel_rfl) rfl (fun _ _ _ h => h) (Or.inl ⟨by rfl, fun W' hW' => (by obtain ⟨s0, s1, s2, s3, s4, s5⟩ := hW'; simp [go_sem, s0, s1, s2, s3, s4, s5, hwa])⟩) (by assumption) ?_
            simp only [Act.put, List.setIfInBounds_toArray, List.set_cons_zero, List.set_cons_succ]
            refine take2 6 (some 69) (.pointer (some ⟨b6, 0, none⟩)) rfl (by kernel_rfl) (by kernel_rfl) (by kernel_rfl) rfl (fun _ _ _ h => h) (Or.inl ⟨by rfl, fun W' hW' => (by obtain ⟨s0, s1, s2, s3, s4, s5⟩ := hW'; simp [go_sem, s0, s1, s2, s3, s4, s5, hwa])⟩) (by assumption) ?_
            simp only [Act.put, List.setIfInBounds_toArray, List.set_cons_zero, List.set_cons_succ]
            refine take2 7 (some 70) (.pointer (some ⟨b6, 5, none⟩)) rfl (by kernel_rfl) (by kernel_rfl) (by kernel_rfl) rfl (fun _ _ _ h => h) (Or.inl ⟨by rfl, fun W' hW' => (by obtain ⟨s0, s1, s2, s3, s4, s5⟩ := hW'; simp [go_sem, s0, s1, s2, s3, s4, s5, hwa])⟩) (by assumption) ?_
            simp only [Act.put, List.setIfInBounds_toArray, List.set_cons_zero, List.set_cons_succ]
            refine take2 8 (some 71) (.int .i64 (L : Int)) rfl (by kernel_rfl) (by kernel_rfl) (by kernel_rfl) rfl (fun _ _ _ h => h) (Or.inl ⟨by rfl, fun W' hW' => (by obtain ⟨s0, s1, s2, s3, s4, s5⟩ := hW'; simp [go_sem, s0, s1, s2, s3, s4, s5, hwa])⟩) (by assumption) ?_
            simp only [Act.put, List.setIfInBounds_toArray, List.set_cons_zero, List.set_cons_succ]
            refine take2 9 (some 72) (.int .i64 (M : Int)) rfl (by kernel_rfl) (by kernel_rfl) (by kernel_rfl) rfl (fun _ _ _ h => h) (Or.inl ⟨by rfl, fun W' hW' => (by obtain ⟨s0, s1, s2, s3, s4, s5⟩ := hW'; simp [go_sem, s0, s1, s2, s3, s4, s5, hwa])⟩) (by assumption) ?_
            simp only [Act.put, List.setIfInBounds_toArray, List.set_cons_zero, List.set_cons_succ]
            clear hS
            refine wpAnyH_ready (rs := [10]) (by kernel_rfl) (by simp) ?_
            refine AllReadyH.cons rfl (fun K' hK' => ?_) AllReadyH.nil
            go_simp
            refine hK'.out _ _ (by simp [go_sem, y7, y0, y1, y2, y3, y5, m61, m16, m62, m26, m63, m36, m64, m46, m71, m17, m72, m27, m73, m37, m74, m47]) (fun _ => ?_)
            clear hK' K'
            refine wpAnyH_ready (rs := [11]) (by kernel_rfl) (by simp) ?_
            refine AllReadyH.cons rfl (fun K' hK' => ?_) AllReadyH.nil
            go_simp
            refine hK'.out _ _ (by simp [go_sem, y7, y0, y1, y2, y3, y5, m61, m16, m62, m26, m63, m36, m64, m46, m71, m17, m72, m27, m73, m37, m74, m47]) (fun _ => ?_)
            clear hK' K'
            refine wpAnyH_ready (rs := [12]) (by kernel_rfl) (by simp) ?_
            refine AllReadyH.cons rfl (fun K' hK' => ?_) AllReadyH.nil
            go_simp
            refine hK'.out _ _ (by simp [go_sem, y7, y0, y1, y2, y3, y5, m61, m16, m62, m26, m63, m36, m64, m46, m71, m17, m72, m27, m73, m37, m74, m47]) (fun _ => ?_)
            clear hK' K'
            refine wpAnyH_ready (rs := [13]) (by kernel_rfl) (by simp) ?_
            refine AllReadyH.cons rfl (fun K' hK' => ?_) AllReadyH.nil
            go_simp
            refine hK'.out _ _ (by simp [go_sem, y7, y0, y1, y2, y3, y5, m61, m16, m62, m26, m63, m36, m64, m46, m71, m17, m72, m27, m73, m37, m74, m47]) (fun _ => ?_)
            clear hK' K'
            refine wpAnyH_done (by kernel_rfl) ?_ _
            gi_wp2
            refine ⟨?kf, ⟨pre.map (·.1), .got p 0, st, by simp, HST.out, GM.out, .inl ⟨rfl, .tuple #[.agg #[.string SM, .string SP, .slice A' L c', .bool CL], .int .i64 (M : Int), .bool true, .int .i64 0], ?rs, ?pv⟩⟩, ?bl, ?sz⟩
            case kf =>
              refine KeepsFrom.trans ?_ ((KeepsOthers.drew _).from _)
              repeat refine KeepsFrom.set ?_ _ _
              exact KF7.out
            case rs => refine ⟨_, _, _, _, _, _, _, rfl, ?_, ?_, ?_, ?_, ?_, ?_, ?_⟩ <;> simp [go_sem, drew_cell, n12, n13, n14, n21, n23, n24, n31, n32, n34, n41, n42, n43, x0', x1', x2', x3', x4', x5', x6']
            case pv =>
              rw [EM.out, if_neg hlt']
              have hnum : l.length - (l.drop q).length + L = M := by rw [List.length_drop, HL.out]; omega
              have hbk : ∀ k, k ≤ b8 → ∀ a, A' = some a → k ≠ a.block := fun k hk a ha => by
                have h1 := HGE.out a ha
                have h2 := HO2.out.size
                have h3 := HSZ.out
                have h4 := HBS.out.2.2.2.2.2.2.2.2
                omega
              refine ⟨A', c', ?_, ?_, fun a ha => Nat.le_trans HBW2.out.size (HGE.out a ha)⟩
              · unfold rqB
                rw [HLL.out, hnum, HV.out.1, HV.out.2.1, HV.out.2.2]
              · rw [HLL.out]
                refine Bs.below ?_ ((Below.refl _ _).drew)
                refine Bs.setFar (Bs.setFar (Bs.setFar (Bs.setFar (Bs.setFar (Bs.setFar (Bs.setFar BS7.out _ _ ?_) _ _ ?_) _ _ ?_) _ _ ?_) _ _ ?_) _ _ ?_) _ _ ?_
                all_goals
                  refine hbk _ ?_
                  have := HBS.out
                  dsimp only
                  omega
            case bl =>
              refine Below.drew ?_
              have hbs := HBS.out
              repeat refine Below.setCell ?_ (by dsimp only; omega) _
              exact BW7.out
            case sz =>
              simp only [drew_size, World.size_setCell]
              exact SZ7.out
        · have LC0 := rline_rest b6 b5 st (by omega) (by omega) ln (fun e => hk0 (by rw [← hlk, e]; rfl)) (by omega) w W HE.out HB.out (by omega) (by omega) R
          clear TS hln hlk FX R hok
          by_cases he : stepE st ln = 0
          · rw [he] at LC0
            have LC := Lib.hid LC0
            have NX : Hid (goF l st0 ((pre ++ [(⟨.got p k, hx⟩ : ItS l)]).map (·.1)) = some (stepS st ln)) := Lib.hid (by
              rw [List.map_append, goF_app, HST.out]
              have := goF_step (l := l) (p := p) (k := k) h0 hk0 (by rw [HLN.out]; exact he)
              rw [HLN.out] at this
              exact this)
            clear LC0 he h0 hk0
            generalize (⟨ln.toArray⟩ : ByteArray) = S at *
            gi_wp2_with (first | (refine ⟨trivial, ?_⟩; gi_at_call 35; refine (CallsIn.inRound l0 (callsIn_wide.2 LC.out)).mono ?_; rintro e w2 ⟨rfl, O2, R2⟩; obtain ⟨⟨_, z0, z1, z2, z3, z4, z5, z6, z7, -⟩, -⟩ := (R2 rfl).2; have R3 := Lib.hid (R2 rfl); clear R2; have HO2 := Lib.hid O2; obtain ⟨c0, c7, c8, r0, r1, r2, r3, r4, r5, r6, f1, f2, f3, f4⟩ := FXK.out _ O2; have g0 := f1 0; have g1 := f1 1; have g2 := f1 2; have g3 := f1 3; clear f1 O2))
            have hbs := HBS.out
            have hsz := HSZ.out
            exact ⟨HO2.out.from (by omega) (by omega), ⟨HO2.out.low (by omega) (by omega) HB.out.size, World.cell?_of_block (HO2.out.block b8 (by omega) (by omega) (by omega))⟩, ⟨_, NX.out, R3.out⟩, FXK.out _ HO2.out, HB.out.trans (HO2.out.low (by omega) (by omega) HB.out.size), Nat.le_trans HSZ.out HO2.out.size⟩
          · have hne : (stepE st ln != 0) = true := by rw [bne_iff_ne]; exact he
            have GN : Hid (goF l st [.got p k] = none) := Lib.hid (by rw [goF, if_neg h0, if_neg hk0, HLN.out, if_neg he])
            have EN : Hid (endF l st (.got p k) = .bad (stepE st ln)) := Lib.hid (by rw [endF, if_neg h0, if_neg hk0, HLN.out])
            have LC := Lib.hid LC0
            clear LC0 he h0 hk0
            generalize (⟨ln.toArray⟩ : ByteArray) = S at *
            generalize stepE st ln = E0 at *
            gi_wp2_with (first | (refine ⟨trivial, ?_⟩; gi_at_call 35; refine (CallsIn.inRound l0 (callsIn_wide.2 LC.out)).mono ?_; rintro e w2 ⟨rfl, O2, R2⟩; have R3 := Lib.hid R2; clear R2; have HO2 := Lib.hid O2; obtain ⟨c0, c7, c8, r0, r1, r2, r3, r4, r5, r6, f1, f2, f3, f4⟩ := FXK.out _ O2; have g0 := f1 0; have g1 := f1 1; have g2 := f1 2; have g3 := f1 3; clear f1 O2))
            refine ⟨?kf, ⟨pre.map (·.1), .got p k, st, by simp, HST.out, GN.out, .inl ⟨rfl, .tuple #[zReq, .int .i64 0, .bool false, .int .i64 (E0)], ?rs, (by rw [EN.out]; rfl)⟩⟩, ?bl, ?sz⟩
            case kf =>
              have hbs := HBS.out
              repeat refine KeepsFrom.set ?_ _ _
              exact HO2.out.from (by omega) (by omega)
            case rs => refine ⟨_, _, _, _, _, _, _, rfl, ?_, ?_, ?_, ?_, ?_, ?_, ?_⟩ <;> simp [go_sem, n12, n13, n14, n21, n23, n24, n31, n32, n34, n41, n42, n43, r0, r1, r2, r3, r4, r5, r6]
            case bl =>
              have hbs := HBS.out
              repeat refine Below.setCell ?_ (by dsimp only; omega) _
              exact HB.out.trans (HO2.out.low (by omega) (by omega) HB.out.size)
            case sz => simp only [World.size_setCell]; exact Nat.le_trans HSZ.out HO2.out.size
  case done =>
    rintro D ys W hD hys ⟨⟨st, hst, R⟩, FX, hB, hsz⟩ hK
    obtain rfl : PO = .wait := HPO.out.symm.trans (parse_wait (by rw [HL.out, ← hys, hst]; simp))
    clear hys hst R
    obtain ⟨c0, c7, c8, r0, r1, r2, r3, r4, r5, r6, f1, f2, f3, f4⟩ := FX
    have g0 := f1 0; have g1 := f1 1; have g2 := f1 2; have g3 := f1 3
    have ND : ((¬ b1 = D ∧ ¬ b2 = D) ∧ ¬ b3 = D ∧ ¬ b4 = D) ∧ (¬ b1 = b2 ∧ ¬ b1 = b3 ∧ ¬ b1 = b4) ∧ (¬ b2 = b1 ∧ ¬ b2 = b3 ∧ ¬ b2 = b4) ∧ (¬ b3 = b1 ∧ ¬ b3 = b2 ∧ ¬ b3 = b4) ∧ ¬ b4 = b1 ∧ ¬ b4 = b2 ∧ ¬ b4 = b3 := by have := HBS.out; omega
    obtain ⟨⟨⟨d1, d2⟩, d3, d4⟩, ⟨n12, n13, n14⟩, ⟨n21, n23, n24⟩, ⟨n31, n32, n34⟩, n41, n42, n43⟩ := ND
    have HK := Lib.hid hK
    have HB := Lib.hid hB
    have HD := Lib.hid hD
    clear f1 hK hD hls
    gi_wp2
    refine name_postM ?_
    intro We hWe
    have hbs := HBS.out
    have HD1 := HD.out
    have HB1 := HB.out
    have RS : RsP b1 b2 b3 b4 We (.tuple #[zReq, .int .i64 0, .bool false, .int .i64 0]) := by
      refine ⟨_, _, _, _, _, _, _, rfl, ?_, ?_, ?_, ?_, ?_, ?_, ?_⟩ <;> (rw [hWe]; simp [go_sem, n12, n13, n14, n21, n23, n24, n31, n32, n34, n41, n42, n43, r0, r1, r2, r3, r4, r5, r6])
    have KW : We.heap[D]? = some (.deferred (some [])) := by
      have KF : KeepsFrom W1.heap.size W We := by
        rw [hWe]
        repeat refine KeepsFrom.set ?_ _ _
        exact KeepsFrom.refl _ _
      exact KF.same D _ HD.out HK.out rfl
    have BW : Below w.heap.size w We := by
      rw [hWe]
      repeat refine Below.setCell ?_ (by dsimp only; omega) _
      exact HB1
    clear hWe
    have RS' := RS.kept (grownBy_putObj' We D (.deferred none)) (fun r e => by cases e; exact ⟨_, KW, rfl⟩)
    obtain ⟨v0, v1, v2, v3, v4, v5, v6, e, k0, k1, k2, k3, k4, k5, k6⟩ := RS'
    refine ⟨by simp, .inl ⟨_, _, rfl, run_takeDeferred KW, ?_⟩⟩
    refine ⟨.tuple #[.agg #[v0, v1, v2, v3], v4, v5, v6], ?_, _, rfl, e.symm, BW.trans (belowK_b (w := w) (Nat.le_refl _) We D _ _ (by omega) KW rfl rfl)⟩
    simp [results, Tryz.f11, go_sem, k0, k1, k2, k3, k4, k5, k6]
  case stop =>
    rintro D cd pre W hD ⟨post, hpost⟩ ⟨⟨pre', x, s, e1, h2, h3, h4⟩, hB, hsz⟩ hK
    have hPO : PO = endF l s x := HPO.out.symm.trans (parse_end (pre := pre') (post := post) (by rw [HL.out, hpost, e1, List.append_assoc]; rfl) h2 h3)
    clear hpost e1 h2 h3
    rcases h4 with ⟨rfl, V, RS, hV⟩ | ⟨rfl, hw, FX⟩
    · rw [← hPO] at hV
      have HK := Lib.hid hK
      have HV := Lib.hid hV
      have HR := Lib.hid RS
      clear hPO hK hV RS hls
      gi_wp2
      have hbs := HBS.out
      have KW := HK.out
      have RS' := HR.out.kept (grownBy_putObj' W D (.deferred none)) (fun r e => by cases e; exact ⟨_, KW, rfl⟩)
      have PV' := HV.out.kept (grownBy_putObj' W D (.deferred none)) (fun r e => by cases e; exact ⟨_, KW, rfl⟩)
      obtain ⟨v0, v1, v2, v3, v4, v5, v6, e, k0, k1, k2, k3, k4, k5, k6⟩ := RS'
      refine ⟨by simp, .inl ⟨_, _, rfl, run_takeDeferred KW, ?_⟩⟩
      refine ⟨.tuple #[.agg #[v0, v1, v2, v3], v4, v5, v6], ?_, V, by rw [e], PV', hB.trans (belowK_b (w := w) (Nat.le_refl _) W D _ _ (by omega) KW rfl rfl)⟩
      simp [results, Tryz.f11, go_sem, k0, k1, k2, k3, k4, k5, k6]
    · obtain rfl : PO = .wait := hPO.trans hw
      clear hPO hw
      obtain ⟨c0, c7, c8, r0, r1, r2, r3, r4, r5, r6, f1, f2, f3, f4⟩ := FX
      have g0 := f1 0; have g1 := f1 1; have g2 := f1 2; have g3 := f1 3
      have ND : ((¬ b1 = D ∧ ¬ b2 = D) ∧ ¬ b3 = D ∧ ¬ b4 = D) ∧ (¬ b1 = b2 ∧ ¬ b1 = b3 ∧ ¬ b1 = b4) ∧ (¬ b2 = b1 ∧ ¬ b2 = b3 ∧ ¬ b2 = b4) ∧ (¬ b3 = b1 ∧ ¬ b3 = b2 ∧ ¬ b3 = b4) ∧ ¬ b4 = b1 ∧ ¬ b4 = b2 ∧ ¬ b4 = b3 := by have := HBS.out; omega
      obtain ⟨⟨⟨d1, d2⟩, d3, d4⟩, ⟨n12, n13, n14⟩, ⟨n21, n23, n24⟩, ⟨n31, n32, n34⟩, n41, n42, n43⟩ := ND
      have HK := Lib.hid hK
      have HB := Lib.hid hB
      have HD := Lib.hid hD
      clear f1 hK hD hls
      gi_wp2
      refine name_postM ?_
      intro We hWe
      have hbs := HBS.out
      have HD1 := HD.out
      have HB1 := HB.out
      have RS : RsP b1 b2 b3 b4 We (.tuple #[zReq, .int .i64 0, .bool false, .int .i64 0]) := by
        refine ⟨_, _, _, _, _, _, _, rfl, ?_, ?_, ?_, ?_, ?_, ?_, ?_⟩ <;> (rw [hWe]; simp [go_sem, n12, n13, n14, n21, n23, n24, n31, n32, n34, n41, n42, n43, r0, r1, r2, r3, r4, r5, r6])
      have KW : We.heap[D]? = some (.deferred (some [])) := by
        have KF : KeepsFrom W1.heap.size W We := by
          rw [hWe]
          repeat refine KeepsFrom.set ?_ _ _
          exact KeepsFrom.refl _ _
        exact KF.same D _ HD.out HK.out rfl
      have BW : Below w.heap.size w We := by
        rw [hWe]
        repeat refine Below.setCell ?_ (by dsimp only; omega) _
        exact HB1
      clear hWe
      have RS' := RS.kept (grownBy_putObj' We D (.deferred none)) (fun r e => by cases e; exact ⟨_, KW, rfl⟩)
      obtain ⟨v0, v1, v2, v3, v4, v5, v6, e, k0, k1, k2, k3, k4, k5, k6⟩ := RS'
      refine ⟨by simp, .inl ⟨_, _, rfl, run_takeDeferred KW, ?_⟩⟩
      refine ⟨.tuple #[.agg #[v0, v1, v2, v3], v4, v5, v6], ?_, _, rfl, e.symm, BW.trans (belowK_b (w := w) (Nat.le_refl _) We D _ _ (by omega) KW rfl rfl)⟩
      simp [results, Tryz.f11, go_sem, k0, k1, k2, k3, k4, k5, k6]
end Go.Proofs.YtkaimfeiahogaaaGreatDoor
