/-
  A status in words: http.Reason, exref22.Reason.
-/
import Derived.Test.YtkaimfeiahogaaaGreatDoorHt2
import Derived.WideMake
namespace Go.Proofs.YtkaimfeiahogaaaGreatDoor
set_option linter.all false
open Go.RowKit Go.Shelf
attribute [local go_sem] cell_set_self lt_1 lt_2 lt_3 lt_4 lt_5 lt_6

def reasons : List (Int × List UInt8) := [(200, [79, 75]), (201, [67, 114, 101, 97, 116, 101, 100]), (400, [66, 97, 100, 32, 82, 101, 113, 117, 101, 115, 116]), (404, [78, 111, 116, 32, 70, 111, 117, 110, 100]), (405, [77, 101, 116, 104, 111, 100, 32, 78, 111, 116, 32, 65, 108, 108, 111, 119, 101, 100]), (409, [67, 111, 110, 102, 108, 105, 99, 116]), (413, [67, 111, 110, 116, 101, 110, 116, 32, 84, 111, 111, 32, 76, 97, 114, 103, 101]), (422, [85, 110, 112, 114, 111, 99, 101, 115, 115, 97, 98, 108, 101, 32, 67, 111, 110, 116, 101, 110, 116]), (500, [73, 110, 116, 101, 114, 110, 97, 108, 32, 83, 101, 114, 118, 101, 114, 32, 69, 114, 114, 111, 114]), (503, [83, 101, 114, 118, 105, 99, 101, 32, 85, 110, 97, 118, 97, 105, 108, 97, 98, 108, 101]), (507, [73, 110, 115, 117, 102, 102, 105, 99, 105, 101, 110, 116, 32, 83, 116, 111, 114, 97, 103, 101])]
/-- A status in words. -/
def reasonF (z : Int) : List UInt8 := match reasons.find? (fun x => x.1 == z) with
  | some x => x.2
  | none => [83, 116, 97, 116, 117, 115]
def mapE (n : Nat) : Array MapEntry := ((reasons.take n).zipIdx.map fun x => ({ key := .int .i64 x.1.1, val := .string ⟨x.1.2.toArray⟩, born := x.2 } : MapEntry)).toArray
theorem set_alloc (W : World) (o o' : Obj) : { (W.alloc o) with heap := (W.alloc o).heap.setIfInBounds W.heap.size o' } = W.alloc o' := by
  have h : (W.heap.push o).setIfInBounds W.heap.size o' = W.heap.push o' := by
    apply Array.ext_getElem?
    intro j
    simp only [Array.getElem?_setIfInBounds, Array.getElem?_push, Array.size_push]
    by_cases e : W.heap.size = j
    · subst e; simp
    · simp [e, Ne.symm e]
  show ({ W with heap := (W.heap.push o).setIfInBounds W.heap.size o' } : World) = { W with heap := W.heap.push o' }
  rw [h]
theorem run_ins (W : World) (es : Array MapEntry) (clock : Nat) (k : Int) (v : Value) (hf : Instr.findNow (.int .i64) (.int .i64 k) es.toList 0 = some none) :
    (Instr.mapUpdate 78 (.map (some W.heap.size)) (.int .i64 k) v).run Tryz.prog (W.alloc (.map es clock)) = .ok () (W.alloc (.map (es.push { key := .int .i64 k, val := v, born := clock }) (clock + 1))) := by
  have hb : (W.alloc (.map es clock)).heap[W.heap.size]? = some (.map es clock) := heap_alloc_new W _
  have hk := Tryz.underlying3
  have hc : (Instr.checkKey false 10000 3 (.int .i64 k)).run Tryz.prog (W.alloc (.map es clock)) = .ok () (W.alloc (.map es clock)) := MapKept.run_checkKey (k := .int .i64 k) hk (by simp [MapKept.IsKey]) false 9999
  have e := set_alloc W (.map es clock) (.map (es.push { key := .int .i64 k, val := v, born := clock }) (clock + 1))
  simp [Instr.mapUpdate, run_underlying Tryz.underlying78, MapKept.run_getObj_map hb, hc, MapKept.run_findKey hk hf, MapKept.run_setObj_map _ hb, Result.andThen]
  exact e
theorem run_insE (W : World) (n : Nat) (k : Int) (v : ByteArray) (hf : Instr.findNow (.int .i64) (.int .i64 k) (mapE n).toList 0 = some none) (he : (mapE n).push { key := .int .i64 k, val := .string v, born := n } = mapE (n + 1)) :
    (Instr.mapUpdate 78 (.map (some W.heap.size)) (.int .i64 k) (.string v)).run Tryz.prog (W.alloc (.map (mapE n) n)) = .ok () (W.alloc (.map (mapE (n + 1)) (n + 1))) := by
  rw [run_ins W (mapE n) n k _ hf, he]
theorem run_look (es : Array MapEntry) (c : Nat) (W : World) (r : Nat) (k : Int) (i : Nat) (v : Value) (hb : W.heap[r]? = some (.map es c)) (hf : Instr.findNow (.int .i64) (.int .i64 k) es.toList 0 = some (some (i, v))) :
    (Instr.lookup 78 (.map (some r)) (.int .i64 k) true).run Tryz.prog W = .ok (.tuple #[v, .bool true]) W := by
  have hk := Tryz.underlying3
  have hc : ∀ e, (Instr.checkKey e 10000 3 (.int .i64 k)).run Tryz.prog W = .ok () W := fun e => MapKept.run_checkKey (k := .int .i64 k) hk (by simp [MapKept.IsKey]) e 9999
  simp [Instr.lookup, run_underlying Tryz.underlying78, MapKept.run_getObj_map hb, hc, MapKept.run_findKey hk hf, Result.andThen]
theorem zero_str (W : World) : (zeroValue 9).run Tryz.prog W = .ok (.string ⟨#[]⟩) W := by kernel_rfl
theorem look_none (es : Array MapEntry) (c : Nat) (W : World) (r : Nat) (k : Int) (hf : Instr.findNow (.int .i64) (.int .i64 k) es.toList 0 = some none) (hb : W.heap[r]? = some (.map es c)) :
    (Instr.lookup 78 (.map (some r)) (.int .i64 k) true).run Tryz.prog W = .ok (.tuple #[.string ⟨#[]⟩, .bool false]) W := by
  have hk := Tryz.underlying3
  have hc : ∀ e, (Instr.checkKey e 10000 3 (.int .i64 k)).run Tryz.prog W = .ok () W := fun e => MapKept.run_checkKey (k := .int .i64 k) hk (by simp [MapKept.IsKey]) e 9999
  simp [Instr.lookup, run_underlying Tryz.underlying78, MapKept.run_getObj_map hb, hc, MapKept.run_findKey hk hf, zero_str, Result.andThen]
/-- The eleven statuses, or none of them. -/
theorem status_cases (z : Int) : (∃ i, i < 11 ∧ ∃ x, reasons[i]? = some x ∧ z = x.1) ∨ ∀ x ∈ reasons, x.1 ≠ z := by
  by_cases h : ∃ x ∈ reasons, x.1 = z
  · obtain ⟨x, hx, e⟩ := h
    obtain ⟨i, hi⟩ := List.getElem?_of_mem hx
    have := (List.getElem?_eq_some_iff.1 hi).1
    exact .inl ⟨i, by simpa [reasons] using this, x, hi, e.symm⟩
  · exact .inr fun x hx e => h ⟨x, hx, e⟩
theorem find_none_l {z : Int} : ∀ (l : List MapEntry) (i : Nat), (∀ e ∈ l, ∃ k, e.key = .int .i64 k ∧ k ≠ z) → Instr.findNow (.int .i64) (.int .i64 z) l i = some none
  | [], i, _ => rfl
  | e :: r, i, h => by
    obtain ⟨k, hk, hne⟩ := h e (by simp)
    have ih := find_none_l r (i + 1) (fun x hx => h x (by simp [hx]))
    simp [Instr.findNow, Instr.sameNow, hk, beq_eq_false_iff_ne.2 hne, beq_eq_false_iff_ne.2 (Ne.symm hne), ih]
theorem find_none {z : Int} (h : ∀ x ∈ reasons, x.1 ≠ z) : Instr.findNow (.int .i64) (.int .i64 z) (mapE 11).toList 0 = some none := by
  refine find_none_l _ 0 fun e he => ?_
  unfold mapE at he
  simp only [List.mem_map] at he
  obtain ⟨x, hx, rfl⟩ := he
  exact ⟨_, rfl, h x.1 (List.mem_of_mem_take (List.fst_mem_of_mem_zipIdx hx))⟩
theorem ret_reason {z : Int} {r : List UInt8} (h : reasonF z = r) : Ending.returned (.string ⟨r.toArray⟩) = .returned (.string ⟨(reasonF z).toArray⟩) := by rw [h]
set_option maxHeartbeats 8000000 in
set_option maxRecDepth 100000 in
/-- http.Reason. -/
theorem reason_any (z : Int) (w : World) : Calls Tryz.prog 25 #[.int .i64 z] w fun e w' => e = .returned (.string ⟨(reasonF z).toArray⟩) ∧ Below w.heap.size w w' := by
  have hm := fun W : World => run_makeMap_plain (P := Tryz.prog) (w := W) 78
  obtain ⟨M0, hM0⟩ : ∃ M : Array MapEntry, #[] = M := ⟨_, rfl⟩
  have hM0' : mapE 0 = M0 := hM0
  obtain ⟨M1, hM1⟩ : ∃ M : Array MapEntry, mapE 1 = M := ⟨_, rfl⟩
  obtain ⟨M2, hM2⟩ : ∃ M : Array MapEntry, mapE 2 = M := ⟨_, rfl⟩
  obtain ⟨M3, hM3⟩ : ∃ M : Array MapEntry, mapE 3 = M := ⟨_, rfl⟩
  obtain ⟨M4, hM4⟩ : ∃ M : Array MapEntry, mapE 4 = M := ⟨_, rfl⟩
  obtain ⟨M5, hM5⟩ : ∃ M : Array MapEntry, mapE 5 = M := ⟨_, rfl⟩
  obtain ⟨M6, hM6⟩ : ∃ M : Array MapEntry, mapE 6 = M := ⟨_, rfl⟩
  obtain ⟨M7, hM7⟩ : ∃ M : Array MapEntry, mapE 7 = M := ⟨_, rfl⟩
  obtain ⟨M8, hM8⟩ : ∃ M : Array MapEntry, mapE 8 = M := ⟨_, rfl⟩
  obtain ⟨M9, hM9⟩ : ∃ M : Array MapEntry, mapE 9 = M := ⟨_, rfl⟩
  obtain ⟨M10, hM10⟩ : ∃ M : Array MapEntry, mapE 10 = M := ⟨_, rfl⟩
  obtain ⟨M11, hM11⟩ : ∃ M : Array MapEntry, mapE 11 = M := ⟨_, rfl⟩
  rw [hM0] at hm
  have i0 : ∀ W : World, (Instr.mapUpdate 78 (.map (some W.heap.size)) (.int .i64 200) (.string ⟨#[79, 75]⟩)).run Tryz.prog (W.alloc (.map M0 0)) = .ok () (W.alloc (.map M1 1)) := fun W => by rw [← hM0', ← hM1]; exact run_insE W 0 200 ⟨#[79, 75]⟩ (by kernel_rfl) (by kernel_rfl)
  have i1 : ∀ W : World, (Instr.mapUpdate 78 (.map (some W.heap.size)) (.int .i64 201) (.string ⟨#[67, 114, 101, 97, 116, 101, 100]⟩)).run Tryz.prog (W.alloc (.map M1 1)) = .ok () (W.alloc (.map M2 2)) := fun W => by rw [← hM1, ← hM2]; exact run_insE W 1 201 ⟨#[67, 114, 101, 97, 116, 101, 100]⟩ (by kernel_rfl) (by kernel_rfl)
  have i2 : ∀ W : World, (Instr.mapUpdate 78 (.map (some W.heap.size)) (.int .i64 400) (.string ⟨#[66, 97, 100, 32, 82, 101, 113, 117, 101, 115, 116]⟩)).run Tryz.prog (W.alloc (.map M2 2)) = .ok () (W.alloc (.map M3 3)) := fun W => by rw [← hM2, ← hM3]; exact run_insE W 2 400 ⟨#[66, 97, 100, 32, 82, 101, 113, 117, 101, 115, 116]⟩ (by kernel_rfl) (by kernel_rfl)
  have i3 : ∀ W : World, (Instr.mapUpdate 78 (.map (some W.heap.size)) (.int .i64 404) (.string ⟨#[78, 111, 116, 32, 70, 111, 117, 110, 100]⟩)).run Tryz.prog (W.alloc (.map M3 3)) = .ok () (W.alloc (.map M4 4)) := fun W => by rw [← hM3, ← hM4]; exact run_insE W 3 404 ⟨#[78, 111, 116, 32, 70, 111, 117, 110, 100]⟩ (by kernel_rfl) (by kernel_rfl)
  have i4 : ∀ W : World, (Instr.mapUpdate 78 (.map (some W.heap.size)) (.int .i64 405) (.string ⟨#[77, 101, 116, 104, 111, 100, 32, 78, 111, 116, 32, 65, 108, 108, 111, 119, 101, 100]⟩)).run Tryz.prog (W.alloc (.map M4 4)) = .ok () (W.alloc (.map M5 5)) := fun W => by rw [← hM4, ← hM5]; exact run_insE W 4 405 ⟨#[77, 101, 116, 104, 111, 100, 32, 78, 111, 116, 32, 65, 108, 108, 111, 119, 101, 100]⟩ (by kernel_rfl) (by kernel_rfl)
  have i5 : ∀ W : World, (Instr.mapUpdate 78 (.map (some W.heap.size)) (.int .i64 409) (.string ⟨#[67, 111, 110, 102, 108, 105, 99, 116]⟩)).run Tryz.prog (W.alloc (.map M5 5)) = .ok () (W.alloc (.map M6 6)) := fun W => by rw [← hM5, ← hM6]; exact run_insE W 5 409 ⟨#[67, 111, 110, 102, 108, 105, 99, 116]⟩ (by kernel_rfl) (by kernel_rfl)
  have i6 : ∀ W : World, (Instr.mapUpdate 78 (.map (some W.heap.size)) (.int .i64 413) (.string ⟨#[67, 111, 110, 116, 101, 110, 116, 32, 84, 111, 111, 32, 76, 97, 114, 103, 101]⟩)).run Tryz.prog (W.alloc (.map M6 6)) = .ok () (W.alloc (.map M7 7)) := fun W => by rw [← hM6, ← hM7]; exact run_insE W 6 413 ⟨#[67, 111, 110, 116, 101, 110, 116, 32, 84, 111, 111, 32, 76, 97, 114, 103, 101]⟩ (by kernel_rfl) (by kernel_rfl)
  have i7 : ∀ W : World, (Instr.mapUpdate 78 (.map (some W.heap.size)) (.int .i64 422) (.string ⟨#[85, 110, 112, 114, 111, 99, 101, 115, 115, 97, 98, 108, 101, 32, 67, 111, 110, 116, 101, 110, 116]⟩)).run Tryz.prog (W.alloc (.map M7 7)) = .ok () (W.alloc (.map M8 8)) := fun W => by rw [← hM7, ← hM8]; exact run_insE W 7 422 ⟨#[85, 110, 112, 114, 111, 99, 101, 115, 115, 97, 98, 108, 101, 32, 67, 111, 110, 116, 101, 110, 116]⟩ (by kernel_rfl) (by kernel_rfl)
  have i8 : ∀ W : World, (Instr.mapUpdate 78 (.map (some W.heap.size)) (.int .i64 500) (.string ⟨#[73, 110, 116, 101, 114, 110, 97, 108, 32, 83, 101, 114, 118, 101, 114, 32, 69, 114, 114, 111, 114]⟩)).run Tryz.prog (W.alloc (.map M8 8)) = .ok () (W.alloc (.map M9 9)) := fun W => by rw [← hM8, ← hM9]; exact run_insE W 8 500 ⟨#[73, 110, 116, 101, 114, 110, 97, 108, 32, 83, 101, 114, 118, 101, 114, 32, 69, 114, 114, 111, 114]⟩ (by kernel_rfl) (by kernel_rfl)
  have i9 : ∀ W : World, (Instr.mapUpdate 78 (.map (some W.heap.size)) (.int .i64 503) (.string ⟨#[83, 101, 114, 118, 105, 99, 101, 32, 85, 110, 97, 118, 97, 105, 108, 97, 98, 108, 101]⟩)).run Tryz.prog (W.alloc (.map M9 9)) = .ok () (W.alloc (.map M10 10)) := fun W => by rw [← hM9, ← hM10]; exact run_insE W 9 503 ⟨#[83, 101, 114, 118, 105, 99, 101, 32, 85, 110, 97, 118, 97, 105, 108, 97, 98, 108, 101]⟩ (by kernel_rfl) (by kernel_rfl)
  have i10 : ∀ W : World, (Instr.mapUpdate 78 (.map (some W.heap.size)) (.int .i64 507) (.string ⟨#[73, 110, 115, 117, 102, 102, 105, 99, 105, 101, 110, 116, 32, 83, 116, 111, 114, 97, 103, 101]⟩)).run Tryz.prog (W.alloc (.map M10 10)) = .ok () (W.alloc (.map M11 11)) := fun W => by rw [← hM10, ← hM11]; exact run_insE W 10 507 ⟨#[73, 110, 115, 117, 102, 102, 105, 99, 105, 101, 110, 116, 32, 83, 116, 111, 114, 97, 103, 101]⟩ (by kernel_rfl) (by kernel_rfl)
  have LK : Hid ((∃ v, (∀ W : World, (Instr.lookup 78 (.map (some W.heap.size)) (.int .i64 z) true).run Tryz.prog (W.alloc (.map M11 11)) = .ok (.tuple #[.string v, .bool true]) (W.alloc (.map M11 11))) ∧ v = ⟨(reasonF z).toArray⟩) ∨
      ((∀ W : World, (Instr.lookup 78 (.map (some W.heap.size)) (.int .i64 z) true).run Tryz.prog (W.alloc (.map M11 11)) = .ok (.tuple #[.string ⟨#[]⟩, .bool false]) (W.alloc (.map M11 11))) ∧ reasonF z = [83, 116, 97, 116, 117, 115])) := Lib.hid (by
    rcases status_cases z with ⟨i, hi, x, hx, rfl⟩ | h
    · refine .inl ⟨⟨x.2.toArray⟩, fun W => run_look M11 11 _ _ _ i _ (heap_alloc_new W _) ?_, ?_⟩
      · rw [← hM11]
        have : i = 0 ∨ i = 1 ∨ i = 2 ∨ i = 3 ∨ i = 4 ∨ i = 5 ∨ i = 6 ∨ i = 7 ∨ i = 8 ∨ i = 9 ∨ i = 10 := by omega
        rcases this with rfl | rfl | rfl | rfl | rfl | rfl | rfl | rfl | rfl | rfl | rfl <;> (obtain rfl := Option.some.inj hx; first | rfl | kernel_rfl)
      · have : i = 0 ∨ i = 1 ∨ i = 2 ∨ i = 3 ∨ i = 4 ∨ i = 5 ∨ i = 6 ∨ i = 7 ∨ i = 8 ∨ i = 9 ∨ i = 10 := by omega
        rcases this with rfl | rfl | rfl | rfl | rfl | rfl | rfl | rfl | rfl | rfl | rfl <;> (obtain rfl := Option.some.inj hx; first | rfl | kernel_rfl)
    · refine .inr ⟨fun W => look_none M11 11 _ _ _ ?_ (heap_alloc_new W _), ?_⟩
      · rw [← hM11]
        exact find_none h
      · unfold reasonF
        have : reasons.find? (fun x => x.1 == z) = none := List.find?_eq_none.2 fun x hx => by simpa using h x hx
        rw [this])
  clear hM0 hM0' hM1 hM2 hM3 hM4 hM5 hM6 hM7 hM8 hM9 hM10 hM11
  have HZ := Lib.hid (show z = z from rfl)
  rcases LK.out with ⟨v, lk, hv⟩ | ⟨lk, hv⟩
  · have HV := Lib.hid hv
    clear hv LK
    go_enter Tryz.func25, Tryz.ntmps25
    go_wp2
    go_ret
    exact ⟨ret_str HV.out, (by repeat (first | exact Below.refl _ _ | refine Below.setCell ?_ (by first | (simp; done) | (simp; omega) | omega) _ | refine Below.alloc ?_ (by first | (simp; done) | (simp; omega) | omega) _ | refine Below.drew ?_ | assumption | refine Below.trans ?_ (Below.mono (by assumption) (by first | (simp; done) | (simp; omega) | omega))))⟩
  · have HV := Lib.hid hv
    clear hv LK
    go_enter Tryz.func25, Tryz.ntmps25
    go_wp2
    go_ret
    exact ⟨ret_reason HV.out, (by repeat (first | exact Below.refl _ _ | refine Below.setCell ?_ (by first | (simp; done) | (simp; omega) | omega) _ | refine Below.alloc ?_ (by first | (simp; done) | (simp; omega) | omega) _ | refine Below.drew ?_ | assumption | refine Below.trans ?_ (Below.mono (by assumption) (by first | (simp; done) | (simp; omega) | omega))))⟩
theorem reasonF_at {z : Int} {r : List UInt8} (i : Nat) (h1 : ∀ j x, j < i → reasons[j]? = some x → x.1 ≠ z) (x : Int × List UInt8) (h2 : reasons[i]? = some x) (h3 : x.1 = z) (h4 : x.2 = r) : reasonF z = r := by
  unfold reasonF
  have : reasons.find? (fun x => x.1 == z) = some x := List.find?_eq_some_iff_getElem.2 ⟨by simpa using h3, i, (List.getElem?_eq_some_iff.1 h2).1, (List.getElem?_eq_some_iff.1 h2).2, fun j hj => by
    have := h1 j _ hj (List.getElem?_eq_getElem (by have := (List.getElem?_eq_some_iff.1 h2).1; omega))
    simpa using this⟩
  rw [this]
  exact h4
set_option maxHeartbeats 16000000 in
set_option maxRecDepth 100000 in
/-- exref22.Reason. -/
theorem rreason_any (z : Int) (w : World) : Calls Tryz.prog 26 #[.int .i64 z] w fun e w' => e = .returned (.string ⟨(reasonF z).toArray⟩) ∧ Below w.heap.size w w' := by
  go_enter Tryz.func26, Tryz.ntmps26
  go_wp2
  go_loopw [5] (fun i wr => ∃ k : Nat, k ≤ 11 ∧ i = .int .i64 k ∧ Hid (∀ j x, j < k → reasons[j]? = some x → x.1 ≠ z) ∧ Hid (∀ j x, reasons[j]? = some x → wr.cell? ⟨w.heap.size, j, none⟩ = some (.int .i64 x.1) ∧ wr.cell? ⟨w.heap.size + 1, j, none⟩ = some (.string ⟨x.2.toArray⟩)) ∧ Below w.heap.size w wr) (fun i _ => 11 - (intOf i).toNat)
  case atStart =>
    refine ⟨0, by omega, rfl, Lib.hid (fun j x h => by omega), Lib.hid (fun j x hx => ?_), (by repeat (first | exact Below.refl _ _ | refine Below.setCell ?_ (by first | (simp; done) | (simp; omega) | omega) _ | refine Below.alloc ?_ (by first | (simp; done) | (simp; omega) | omega) _ | refine Below.drew ?_ | assumption | refine Below.trans ?_ (Below.mono (by assumption) (by first | (simp; done) | (simp; omega) | omega))))⟩
    have h1 := World.news_of_block (cs := (reasons.map (fun x => Value.int .i64 x.1)).toArray) (t := 3) (fr := (0, 0)) (heap_alloc_new w _) j (.int .i64 x.1) (by simp [hx])
    have h2 := World.news_of_block (cs := (reasons.map (fun x => Value.string ⟨x.2.toArray⟩)).toArray) (t := 9) (fr := (0, 0)) (heap_alloc_new (w.alloc (.cells (reasons.map (fun x => Value.int .i64 x.1)).toArray 3)) _) j (.string ⟨x.2.toArray⟩) (by simp [hx])
    rw [addr_off, Nat.zero_add] at h1 h2
    rw [World.size_alloc] at h2
    exact ⟨cellB ((Below.refl _ _).alloc (Nat.le_refl _) _) h1, h2⟩
  case round =>
    obtain ⟨k, hk, rfl, HK, HC, hB⟩ := hrel
    by_cases hlt : k < 11
    · have hlt' : (k : Int) < 11 := by omega
      obtain ⟨x, hx⟩ : ∃ x, reasons[k]? = some x := ⟨_, List.getElem?_eq_getElem (by simpa [reasons] using hlt)⟩
      obtain ⟨c1, c2⟩ := HC.out k x hx
      have HX := Lib.hid hx
      clear hx
      by_cases hz : x.1 = z
      · have RF := Lib.hid (reasonF_at k HK.out x HX.out hz rfl)
        rw [hz] at c1
        clear hz
        obtain ⟨S, hS⟩ : ∃ S : ByteArray, (⟨x.2.toArray⟩ : ByteArray) = S := ⟨_, rfl⟩
        rw [hS] at c2
        have HS := Lib.hid hS
        clear hS HK HX HC
        go_wp2
        go_ret
        exact ⟨by rw [← HS.out]; exact ret_reason RF.out, hB⟩
      · have gz : (x.1 == z) = false := beq_eq_false_iff_ne.2 hz
        have NX : Hid (∀ j y, j < k + 1 → reasons[j]? = some y → y.1 ≠ z) := Lib.hid (fun j y hj hy => by
          rcases Nat.lt_or_eq_of_le (show j ≤ k by omega) with h | h
          · exact HK.out j y h hy
          · subst h
            rw [HX.out] at hy
            obtain rfl := Option.some.inj hy
            exact hz)
        generalize x.1 = a at *
        clear hz c2 HX HK
        go_wp2
        go_roundw
        case rel => exact ⟨k + 1, by omega, by go_num, NX, HC, hB⟩
        case measure => first | (simp [intOf]; done) | (simp [intOf]; omega)
    · obtain rfl : k = 11 := by omega
      have NO : Hid (∀ y ∈ reasons, y.1 ≠ z) := Lib.hid (fun y hy => by
        obtain ⟨j, hj⟩ := List.getElem?_of_mem hy
        exact HK.out j y (by have := (List.getElem?_eq_some_iff.1 hj).1; simpa [reasons] using this) hj)
      clear HK HC
      go_wp2
      go_ret
      exact ⟨ret_reason (by unfold reasonF; rw [List.find?_eq_none.2 (fun y hy => by simpa using NO.out y hy)]), hB⟩
end Go.Proofs.YtkaimfeiahogaaaGreatDoor
