/-
  Bytes made of a string; zeros appended to them.
-/
import Derived.Test.YtkaimfeiahogaaaGreatDoorHs3
import Derived.Test.YtkaimfeiahogaaaGreatDoorHt0
namespace Go.Proofs.YtkaimfeiahogaaaGreatDoor
set_option linter.all false
open Go.RowKit Go.Shelf
attribute [local go_sem] cell_set_self lt_1 lt_2 lt_3 lt_4 lt_5 lt_6

/-- A row of bytes made of a string (block g, c cells), its frozen mark beyond. -/
def Cv (w : World) (g c : Nat) (l : List UInt8) : Prop := ∃ cur : Array Value, w.heap[g]? = some (.cells cur 5 (cur.size, cur.size + 1)) ∧ cur.size = c ∧ l.length ≤ c ∧ c ≤ maxLen ∧ cur.toList.take l.length = Lib.byteCells l
theorem bs_heap {w : World} {g c : Nat} {l : List UInt8} {cur : Array Value} {fr : Nat × Nat} (h : w.heap[g]? = some (.cells cur 5 fr)) (hc : l.length ≤ c) (ht : cur.toList.take l.length = Lib.byteCells l) : Bs w (some ⟨g, 0, none⟩) c l :=
  ⟨hc, fun h => (by cases h), fun i v hi => ⟨g, 0, rfl, (Array.getElem?_eq_some_iff.1 h).1, by
    have hil := (List.getElem?_eq_some_iff.1 hi).1
    have h1 : (cur.toList.take l.length)[i]? = some (.int .u8 (v.toNat : Int)) := by rw [ht]; simp [Lib.byteCells, hi]
    rw [List.getElem?_take_of_lt hil, Array.getElem?_toList] at h1
    simp [World.cell?, h, h1]⟩⟩
theorem Cv.bs {w : World} {g c : Nat} {l : List UInt8} (h : Cv w g c l) : Bs w (some ⟨g, 0, none⟩) c l := by
  obtain ⟨cur, h1, h2, h3, h4, h5⟩ := h
  exact bs_heap h1 h3 h5
theorem run_conv (l : List UInt8) (W : World) : (convert 9 22 (.string ⟨l.toArray⟩)).run Tryz.prog W = .ok (.slice (some ⟨W.heap.size, 0, none⟩) l.length (grownCap W l.length 0 5))
    (W.drew.alloc (.cells (bytesRow ⟨l.toArray⟩ (grownCap W l.length 0 5)) 5 ((bytesRow ⟨l.toArray⟩ (grownCap W l.length 0 5)).size, (bytesRow ⟨l.toArray⟩ (grownCap W l.length 0 5)).size + 1))) := by
  have h := run_bytes_of_string (P := Tryz.prog) W 9 22 5 ⟨l.toArray⟩ Tryz.underlying9 Tryz.underlying22 Tryz.underlying5
  rw [ba_sz] at h
  exact h
theorem bytesRow_size (l : List UInt8) (c : Nat) (h : l.length ≤ c) : (bytesRow ⟨l.toArray⟩ c).size = c := by
  simp [bytesRow, ByteArray.size]; omega
theorem cv_new (l : List UInt8) (hl : l.length ≤ 1000000) (W : World) (g : Nat) (hg : W.heap.size = g) (C : Nat) (hC : grownCap W l.length 0 5 = C) :
    Cv (W.drew.alloc (.cells (bytesRow ⟨l.toArray⟩ C) 5 ((bytesRow ⟨l.toArray⟩ C).size, (bytesRow ⟨l.toArray⟩ C).size + 1))) g C l := by
  subst hg hC
  have h1 := grownCap_ge W l.length 0 5
  have h2 := grownCap_le_maxLen W l.length 0 5 (by unfold maxLen; omega)
  refine ⟨_, heap_alloc_new W.drew _, bytesRow_size l _ h1, h1, h2, ?_⟩
  simp [bytesRow, Lib.byteCells]
theorem zero_bytes (k : Nat) : Builtin.zeroCells #[.int .u8 0] k = (Lib.byteCells (List.replicate k 0)).toArray := by
  apply Array.ext'
  simp [Builtin.zeroCells, Lib.byteCells]
  apply List.ext_getElem
  · simp
  · intro i h1 h2
    simp [Nat.mod_one]
theorem run_append_z (ty : TypeId) (w : World) (g c k : Nat) (l : List UInt8) (C : Cv w g c l) (h0 : 0 < k) (hk : l.length + k ≤ 1000000) :
    ∃ g' c' w', (Builtin.append_ #[22, 3] ty #[.slice (some ⟨g, 0, none⟩) l.length c, .int .i64 (k : Int)]).run Tryz.prog w = .ok (.slice (some ⟨g', 0, none⟩) (l.length + k) c') w' ∧ Bs w' (some ⟨g', 0, none⟩) c' (l ++ List.replicate k 0) ∧ w.grownBy w' (some g) := by
  obtain ⟨i0, hi0, hz0, hz1, hz2⟩ := info_parts info_u8h
  have B := C.bs
  obtain ⟨cur, h1, h2, h3, h4, h5⟩ := C
  have hbl : ∀ l : List UInt8, (Lib.byteCells l).length = l.length := fun l => by simp [Lib.byteCells]
  by_cases hr : l.length + k ≤ c
  · have hst := storeT Tryz.prog g l.length 5 (cur.size, cur.size + 1) (Lib.byteCells (List.replicate k 0)) 0 cur w h1 (by rw [hbl]; simp; omega) (by rw [hbl]; simp; omega) (fun v hv => by
      simp only [Lib.byteCells, List.mem_map] at hv
      obtain ⟨y, _, rfl⟩ := hv
      simp [Value.oneCell'])
    simp only [Nat.add_zero] at hst
    have hw : IntKind.i64.wrap (k : Int) = k := by rw [IntKind.wrap_i64]; omega
    have hneg : ¬ ((k : Int) < 0) := by omega
    have hns : ¬ (k = 0) := by omega
    have hcl : (Value.int .u8 0).cells = #[.int .u8 0] := rfl
    have h48 : ¬ (281474976710656 < (k : Int)) := by omega
    refine ⟨g, c, w.setRow g (cur.toList.take l.length ++ Lib.byteCells (List.replicate k 0) ++ cur.toList.drop (l.length + (Lib.byteCells (List.replicate k 0)).length)).toArray, ?_, ?_, ?_⟩
    · simp [Builtin.append_, run_underlying Tryz.underlying22, run_underlying Tryz.underlying3, sizeOf, typeInfo, zeroValue, hi0, hz0, hz1, hz2, asInt, asIntOf, hw, hneg, hns, hr, h48, hcl, zero_bytes, Addr.add_lit, hst]
    · refine bs_heap (setRow_heap w g cur _ _ _ h1) (by simp; omega) ?_
      have e1 : (cur.toList.take l.length ++ Lib.byteCells (List.replicate k 0) ++ cur.toList.drop (l.length + (Lib.byteCells (List.replicate k 0)).length)).toArray.toList.take (l ++ List.replicate k 0).length = Lib.byteCells (l ++ List.replicate k 0) := by
        rw [h5, ← Lib.byteCells_append]
        have : (l ++ List.replicate k (0 : UInt8)).length = (Lib.byteCells (l ++ List.replicate k 0)).length := (hbl _).symm
        rw [this]
        exact List.take_left
      exact e1
    · exact ⟨rfl, rfl, rfl, by simp, fun j _ hj => setRow_other w g j _ (fun e => hj (by rw [e]))⟩
  · have hold : ∀ W' : World, W'.heap = w.heap → (Builtin.firstCells i0.size l.length (.slice (some ⟨g, 0, none⟩) l.length c)).run Tryz.prog W' = .ok (Lib.byteCells l).toArray W' := fun W' hW' => by
      refine run_firstCells_some (P := Tryz.prog) W' i0.size l.length ⟨g, 0, none⟩ l.length c (Lib.byteCells l) (by rw [hbl, hz1, Nat.mul_one]) (fun j u hu => ?_)
      simp only [Lib.byteCells, List.getElem?_map, Option.map_eq_some_iff] at hu
      obtain ⟨y, hy, rfl⟩ := hu
      obtain ⟨b, off, e, _, hc⟩ := B.2.2 j y hy
      obtain ⟨rfl, rfl⟩ : b = g ∧ off = 0 := by
        have := Option.some.inj e
        injection this with e1 e2
        exact ⟨e1.symm, e2.symm⟩
      have e3 : W'.cell? ((⟨b, 0, none⟩ : Addr).add j) = w.cell? ((⟨b, 0, none⟩ : Addr).add j) := by simp [World.cell?, hW']
      rw [e3, addr_off]; exact hc
    have hz' := Lib.run_append_grow_zeros (P := Tryz.prog) w 22 3 ty 5 i0 _ .i64 .i64 Tryz.underlying22 Tryz.underlying3 hi0 hz0 (some ⟨g, 0, none⟩) l.length c (Lib.byteCells l) (hold w.drew rfl) k h0 (by omega) (by omega) (by omega) (by rw [hz2]; omega) (growslice_fits (by omega) (by rw [hz2]; omega))
    have hcl : (Value.int .u8 0).cells = #[.int .u8 0] := rfl
    refine ⟨w.heap.size, _, _, hz', ?_, ⟨rfl, rfl, rfl, by simp, fun j hj _ => heap_alloc_old w.drew _ hj⟩⟩
    have hge := grownCap_ge w (l.length + k) c 5
    refine bs_heap (heap_alloc_new w.drew _) (by simp; omega) ?_
    rw [hcl, zero_bytes]
    simp only [Array.toList_append, List.toList_toArray, ← Lib.byteCells_append]
    have : (l ++ List.replicate k (0 : UInt8)).length = (Lib.byteCells (l ++ List.replicate k 0)).length := (hbl _).symm
    rw [this]
    exact List.take_left
theorem wpList_append_z {ops : Array Oper} {rest : List Oper} {o : Oper} {a : Act} {Q : Exit → Act → World → Prop} (w : World) (hgd : o.guard = none) (s x : Operand)
    (ho : o.op = .call { callee := .builtin .append, args := #[s, x], argTypes := #[22, 3] })
    (g c k n : Nat) (l : List UInt8) (hn : l.length = n) (hs : a.eval s = .slice (some ⟨g, 0, none⟩) n c) (hx : a.eval x = .int .i64 (k : Int)) (C : Cv w g c l) (h0 : 0 < k) (hk : n + k ≤ 1000000)
    (h : ∀ g' c' w', Bs w' (some ⟨g', 0, none⟩) c' (l ++ List.replicate k 0) → w.grownBy w' (some g) → wpList Tryz.prog ops Q rest (a.put o.dst (.slice (some ⟨g', 0, none⟩) (n + k) c')) w') : wpList Tryz.prog ops Q (o :: rest) a w := by
  subst hn
  refine wpList_plain hgd fun K hK => ?_
  obtain ⟨g', c', w', hr, h2, h3⟩ := run_append_z o.type w g c k l C h0 hk
  unfold Oper.wp execOp
  simp only [ho, resolve, invoke, builtin, Sem.run_bind, Sem.run_pure, Result.andThen_ok, List.map_toArray, List.map_cons, List.map_nil, hs, hx, hr]
  exact hK _ _ (h g' c' w' h2 h3)
end Go.Proofs.YtkaimfeiahogaaaGreatDoor
