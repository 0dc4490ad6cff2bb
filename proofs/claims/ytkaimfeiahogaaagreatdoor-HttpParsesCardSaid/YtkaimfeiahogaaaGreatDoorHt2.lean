/-
  A slice of bytes appended to bytes made of a string.
-/
import Derived.Test.YtkaimfeiahogaaaGreatDoorHt1
namespace Go.Proofs.YtkaimfeiahogaaaGreatDoor
set_option linter.all false
open Go.RowKit Go.Shelf
attribute [local go_sem] cell_set_self lt_1 lt_2 lt_3 lt_4 lt_5 lt_6

theorem byteCells_len (l : List UInt8) : (Lib.byteCells l).length = l.length := by simp [Lib.byteCells]
theorem byteCells_one (l : List UInt8) : ∀ v ∈ Lib.byteCells l, v.oneCell' = true := fun v hv => by
  simp only [Lib.byteCells, List.mem_map] at hv
  obtain ⟨y, _, rfl⟩ := hv
  simp [Value.oneCell']
theorem Bs.cells {w : World} {a : Addr} {c : Nat} {l : List UInt8} (B : Bs w (some a) c l) : ∀ j v, (Lib.byteCells l)[j]? = some v → w.cell? (a.add j) = some v := fun j u hu => by
  simp only [Lib.byteCells, List.getElem?_map, Option.map_eq_some_iff] at hu
  obtain ⟨y, hy, rfl⟩ := hu
  obtain ⟨b, off, e, _, hc⟩ := B.2.2 j y hy
  obtain rfl := Option.some.inj e
  exact (congrArg w.cell? (addr_off b off j)).trans hc
theorem run_append_cv (ty : TypeId) (w : World) (g c : Nat) (l : List UInt8) (C : Cv w g c l) (A : Option Addr) (m d : Nat) (x : List UInt8) (hm : x.length = m) (hk : l.length + m ≤ 1000000) (S : Bs w A d x) :
    ∃ g' c' w', (Builtin.append_ #[22, 22] ty #[.slice (some ⟨g, 0, none⟩) l.length c, .slice A m d]).run Tryz.prog w = .ok (.slice (some ⟨g', 0, none⟩) (l.length + m) c') w' ∧ Bs w' (some ⟨g', 0, none⟩) c' (l ++ x) ∧ w.grownBy w' (some g) ∧ (g' = g ∨ g' = w.heap.size) := by
  obtain ⟨i0, hi0, hz0, hz1, hz2⟩ := info_parts info_u8h
  have B := C.bs
  obtain ⟨cur, h1, h2, h3, h4, h5⟩ := C
  cases A with
  | none =>
    obtain rfl : d = 0 := S.2.1 rfl
    have h0 := S.1
    obtain rfl : x = [] := List.eq_nil_of_length_eq_zero (by omega)
    simp at hm
    subst hm
    refine ⟨g, c, w, ?_, by simpa using B, ⟨rfl, rfl, rfl, Nat.le_refl _, fun _ _ _ => rfl⟩, .inl rfl⟩
    simp [Builtin.append_, run_underlying Tryz.underlying22, run_underlying Tryz.underlying5, sizeOf, typeInfo, hi0, Builtin.lenOf, Builtin.firstCells, h3, storeCells]
  | some a =>
    by_cases hr : l.length + m ≤ c
    · have hst := storeT Tryz.prog g l.length 5 (cur.size, cur.size + 1) (Lib.byteCells x) 0 cur w h1 (by rw [byteCells_len]; omega) (by rw [byteCells_len]; omega) (byteCells_one x)
      simp only [Nat.add_zero] at hst
      have hf := run_firstCells_some (P := Tryz.prog) w 1 m a m d (Lib.byteCells x) (by rw [byteCells_len, hm, Nat.mul_one]) S.cells
      refine ⟨g, c, w.setRow g (cur.toList.take l.length ++ Lib.byteCells x ++ cur.toList.drop (l.length + (Lib.byteCells x).length)).toArray, ?_, ?_, ?_, .inl rfl⟩
      · simp [Builtin.append_, run_underlying Tryz.underlying22, sizeOf, typeInfo, hi0, hz1, Builtin.lenOf, hr, hf, Addr.add_lit, hst]
      · refine bs_heap (setRow_heap w g cur _ _ _ h1) (by simp; omega) ?_
        have e1 : (cur.toList.take l.length ++ Lib.byteCells x ++ cur.toList.drop (l.length + (Lib.byteCells x).length)).toArray.toList.take (l ++ x).length = Lib.byteCells (l ++ x) := by
          rw [h5, ← Lib.byteCells_append]
          have : (l ++ x).length = (Lib.byteCells (l ++ x)).length := (byteCells_len _).symm
          rw [this]
          exact List.take_left
        exact e1
      · exact ⟨rfl, rfl, rfl, by simp, fun j _ hj => setRow_other w g j _ (fun e => hj (by rw [e]))⟩
    · have hgr := run_append_grow (P := Tryz.prog) w 22 ty 5 i0 _ Tryz.underlying22 hi0 hz0 ⟨g, 0, none⟩ l.length c (Lib.byteCells l) (by rw [byteCells_len, hz1, Nat.mul_one]) B.cells a m d (Lib.byteCells x) (by rw [byteCells_len, hm, hz1, Nat.mul_one]) S.cells (by omega) (by omega) (growslice_fits (by omega) (by rw [hz2]; omega))
      refine ⟨w.heap.size, _, _, hgr, ?_, ⟨rfl, rfl, rfl, by simp, fun j hj _ => heap_alloc_old w.drew _ hj⟩, .inr rfl⟩
      have hge := grownCap_ge w (l.length + m) c 5
      refine bs_heap (heap_alloc_new w.drew _) (by simp; omega) ?_
      simp only [Array.toList_append, List.toList_toArray, ← Lib.byteCells_append]
      have : (l ++ x).length = (Lib.byteCells (l ++ x)).length := (byteCells_len _).symm
      rw [this]
      exact List.take_left
theorem wpList_append_cv {ops : Array Oper} {rest : List Oper} {o : Oper} {a : Act} {Q : Exit → Act → World → Prop} (w : World) (hgd : o.guard = none) (s x : Operand)
    (ho : o.op = .call { callee := .builtin .append, args := #[s, x], argTypes := #[22, 22] })
    (g c n : Nat) (l : List UInt8) (hn : l.length = n) (hs : a.eval s = .slice (some ⟨g, 0, none⟩) n c) (C : Cv w g c l) (A : Option Addr) (m d : Nat) (y : List UInt8) (hx : a.eval x = .slice A m d) (hm : y.length = m) (hk : n + m ≤ 1000000) (S : Bs w A d y)
    (h : ∀ g' c' w', Bs w' (some ⟨g', 0, none⟩) c' (l ++ y) → w.grownBy w' (some g) → (g' = g ∨ g' = w.heap.size) → wpList Tryz.prog ops Q rest (a.put o.dst (.slice (some ⟨g', 0, none⟩) (n + m) c')) w') : wpList Tryz.prog ops Q (o :: rest) a w := by
  subst hn
  refine wpList_plain hgd fun K hK => ?_
  obtain ⟨g', c', w', hr, h2, h3, h4⟩ := run_append_cv o.type w g c l C A m d y hm hk S
  unfold Oper.wp execOp
  simp only [ho, resolve, invoke, builtin, Sem.run_bind, Sem.run_pure, Result.andThen_ok, List.map_toArray, List.map_cons, List.map_nil, hs, hx, hr]
  exact hK _ _ (h g' c' w' h2 h3 h4)
end Go.Proofs.YtkaimfeiahogaaaGreatDoor
