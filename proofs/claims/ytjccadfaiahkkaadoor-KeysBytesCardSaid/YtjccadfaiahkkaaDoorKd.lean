/-
  The map of kinds: what the run does to it.
-/
import Derived.Test.YtjccadfaiahkkaaDoorKc
import Derived.WideMake
namespace Go.Proofs.YtjccadfaiahkkaaDoor
set_option linter.all false
open Go.RowKit
attribute [local go_sem] cell_set_self lt_1 lt_2 lt_3 lt_4 lt_5 lt_6

theorem set_alloc (W : World) (o o' : Obj) : { (W.alloc o) with heap := (W.alloc o).heap.setIfInBounds W.heap.size o' } = W.alloc o' := by
  have h : (W.heap.push o).setIfInBounds W.heap.size o' = W.heap.push o' := by
    apply Array.ext_getElem?
    intro j
    simp only [Array.getElem?_setIfInBounds, Array.getElem?_push, Array.size_push]
    by_cases e : W.heap.size = j
    · subst e; simp
    · simp [e, Ne.symm e]
  show ({ W with heap := (W.heap.push o).setIfInBounds W.heap.size o' } : World) = { W with heap := W.heap.push o' }
  rw [h]
theorem run_ins (W : World) (es : Array MapEntry) (clock : Nat) (k : Int) (v : Value) (hf : Instr.findNow (.int .i64) (.int .i64 k) es.toList 0 = some none) :
    (Instr.mapUpdate 50 (.map (some W.heap.size)) (.int .i64 k) v).run Tryd.prog (W.alloc (.map es clock)) = .ok () (W.alloc (.map (es.push { key := .int .i64 k, val := v, born := clock }) (clock + 1))) := by
  have hb : (W.alloc (.map es clock)).heap[W.heap.size]? = some (.map es clock) := heap_alloc_new W _
  have hk := Tryd.underlying3
  have hc : (Instr.checkKey false 10000 3 (.int .i64 k)).run Tryd.prog (W.alloc (.map es clock)) = .ok () (W.alloc (.map es clock)) := MapKept.run_checkKey (k := .int .i64 k) hk (by simp [MapKept.IsKey]) false 9999
  have e := set_alloc W (.map es clock) (.map (es.push { key := .int .i64 k, val := v, born := clock }) (clock + 1))
  simp [Instr.mapUpdate, run_underlying Tryd.underlying50, MapKept.run_getObj_map hb, hc, MapKept.run_findKey hk hf, MapKept.run_setObj_map _ hb, Result.andThen]
  exact e

/-- What there is to the kind int, and to the kind text. -/
def kindI : Value := .agg #[.func (.func 27) #[] #[], .func (.func 28) #[] #[], .func (.func 29) #[] #[]]
def kindT : Value := .agg #[.func (.func 30) #[] #[], .func (.func 32) #[] #[], .func (.func 33) #[] #[]]
def kindsE : Array MapEntry := #[{ key := .int .i64 1, val := kindI, born := 0 }, { key := .int .i64 2, val := kindT, born := 1 }]
set_option maxHeartbeats 4000000 in
set_option maxRecDepth 100000 in
theorem kinds_any (w : World) : Calls Tryd.prog 21 #[] w fun x w' => x = .returned (.map (some w.heap.size)) ∧ w' = w.alloc (.map kindsE 2) := by
  have hm := fun W : World => run_makeMap_plain (P := Tryd.prog) (w := W) 50
  have h1 : ∀ (W : World) (v : Value), (Instr.mapUpdate 50 (.map (some W.heap.size)) (.int .i64 1) v).run Tryd.prog (W.alloc (.map #[] 0)) = .ok () (W.alloc (.map #[{ key := .int .i64 1, val := v, born := 0 }] 1)) := fun W v => run_ins W #[] 0 1 v rfl
  have h2 : ∀ (W : World) (v u : Value), (Instr.mapUpdate 50 (.map (some W.heap.size)) (.int .i64 2) v).run Tryd.prog (W.alloc (.map #[{ key := .int .i64 1, val := u, born := 0 }] 1)) = .ok () (W.alloc (.map #[{ key := .int .i64 1, val := u, born := 0 }, { key := .int .i64 2, val := v, born := 1 }] 2)) := fun W v u => run_ins W #[{ key := .int .i64 1, val := u, born := 0 }] 1 2 v rfl
  go_enter Tryd.func21, Tryd.ntmps21
  go_wp2
  go_ret
  exact ⟨rfl, rfl⟩

theorem run_look (W : World) (r : Nat) (k : Int) (i : Nat) (v : Value) (hb : W.heap[r]? = some (.map kindsE 2)) (hf : Instr.findNow (.int .i64) (.int .i64 k) kindsE.toList 0 = some (some (i, v))) :
    (Instr.lookup 50 (.map (some r)) (.int .i64 k) true).run Tryd.prog W = .ok (.tuple #[v, .bool true]) W := by
  have hk := Tryd.underlying3
  have hc : ∀ e, (Instr.checkKey e 10000 3 (.int .i64 k)).run Tryd.prog W = .ok () W := fun e => MapKept.run_checkKey (k := .int .i64 k) hk (by simp [MapKept.IsKey]) e 9999
  simp [Instr.lookup, run_underlying Tryd.underlying50, MapKept.run_getObj_map hb, hc, MapKept.run_findKey hk hf, Result.andThen]
theorem look_1 (W : World) (r : Nat) (hb : W.heap[r]? = some (.map kindsE 2)) : (Instr.lookup 50 (.map (some r)) (.int .i64 1) true).run Tryd.prog W = .ok (.tuple #[kindI, .bool true]) W := run_look W r 1 0 kindI hb rfl
theorem look_2 (W : World) (r : Nat) (hb : W.heap[r]? = some (.map kindsE 2)) : (Instr.lookup 50 (.map (some r)) (.int .i64 2) true).run Tryd.prog W = .ok (.tuple #[kindT, .bool true]) W := run_look W r 2 1 kindT hb rfl

theorem zero_kind (W : World) : (zeroValue 60).run Tryd.prog W = .ok (.agg #[.nilFunc, .nilFunc, .nilFunc]) W := by rfl
theorem look_none (W : World) (r : Nat) (k : Int) (h1 : k ≠ 1) (h2 : k ≠ 2) (hb : W.heap[r]? = some (.map kindsE 2)) :
    (Instr.lookup 50 (.map (some r)) (.int .i64 k) true).run Tryd.prog W = .ok (.tuple #[.agg #[.nilFunc, .nilFunc, .nilFunc], .bool false]) W := by
  have hf : Instr.findNow (.int .i64) (.int .i64 k) kindsE.toList 0 = some none := by
    simp [kindsE, Instr.findNow, Instr.sameNow, beq_eq_false_iff_ne.2 h1, beq_eq_false_iff_ne.2 h2]
  have hk := Tryd.underlying3
  have hc : ∀ e, (Instr.checkKey e 10000 3 (.int .i64 k)).run Tryd.prog W = .ok () W := fun e => MapKept.run_checkKey (k := .int .i64 k) hk (by simp [MapKept.IsKey]) e 9999
  simp [Instr.lookup, run_underlying Tryd.underlying50, MapKept.run_getObj_map hb, hc, MapKept.run_findKey hk hf, zero_kind, Result.andThen]
end Go.Proofs.YtjccadfaiahkkaaDoor
