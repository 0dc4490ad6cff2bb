/-
  Contract of dsl.signs; what is looked up there.
-/
import Derived.Test.YtnjlggleaocbdaaGreatDoorDg0
import Derived.Test.YtnjlggleaocbdaaGreatDoorDp2
import Derived.WideMake
namespace Go.Proofs.YtnjlggleaocbdaaGreatDoor
set_option linter.all false
open Go.RowKit Go.Shelf
attribute [local go_sem] cell_set_self lt_1 lt_2 lt_3 lt_4 lt_5 lt_6

def mapS (n : Nat) : Array MapEntry := ((signT.take n).zipIdx.map fun x => ({ key := .int .i64 x.1.1, val := .string ⟨x.1.2.toArray⟩, born := x.2 } : MapEntry)).toArray
theorem set_alloc (W : World) (o o' : Obj) : { (W.alloc o) with heap := (W.alloc o).heap.setIfInBounds W.heap.size o' } = W.alloc o' := by
  have h : (W.heap.push o).setIfInBounds W.heap.size o' = W.heap.push o' := by
    apply Array.ext_getElem?
    intro j
    simp only [Array.getElem?_setIfInBounds, Array.getElem?_push, Array.size_push]
    by_cases e : W.heap.size = j
    · subst e; simp
    · simp [e, Ne.symm e]
  show ({ W with heap := (W.heap.push o).setIfInBounds W.heap.size o' } : World) = { W with heap := W.heap.push o' }
  rw [h]
theorem run_ins (W : World) (es : Array MapEntry) (clock : Nat) (k : Int) (v : Value) (hf : Instr.findNow (.int .i64) (.int .i64 k) es.toList 0 = some none) :
    (Instr.mapUpdate 105 (.map (some W.heap.size)) (.int .i64 k) v).run Tryz.prog (W.alloc (.map es clock)) = .ok () (W.alloc (.map (es.push { key := .int .i64 k, val := v, born := clock }) (clock + 1))) := by
  have hb : (W.alloc (.map es clock)).heap[W.heap.size]? = some (.map es clock) := heap_alloc_new W _
  have hk := Tryz.underlying3
  have hc : (Instr.checkKey false 10000 3 (.int .i64 k)).run Tryz.prog (W.alloc (.map es clock)) = .ok () (W.alloc (.map es clock)) := MapKept.run_checkKey (k := .int .i64 k) hk (by simp [MapKept.IsKey]) false 9999
  have e := set_alloc W (.map es clock) (.map (es.push { key := .int .i64 k, val := v, born := clock }) (clock + 1))
  simp [Instr.mapUpdate, run_underlying Tryz.underlying105, MapKept.run_getObj_map hb, hc, MapKept.run_findKey hk hf, MapKept.run_setObj_map _ hb, Result.andThen]
  exact e
theorem run_insS (W : World) (n : Nat) (k : Int) (v : List UInt8) (hf : Instr.findNow (.int .i64) (.int .i64 k) (mapS n).toList 0 = some none) (he : (mapS n).push { key := .int .i64 k, val := .string ⟨v.toArray⟩, born := n } = mapS (n + 1)) :
    (Instr.mapUpdate 105 (.map (some W.heap.size)) (.int .i64 k) (.string ⟨v.toArray⟩)).run Tryz.prog (W.alloc (.map (mapS n) n)) = .ok () (W.alloc (.map (mapS (n + 1)) (n + 1))) := by
  rw [run_ins W (mapS n) n k _ hf, he]
set_option maxRecDepth 10000 in
theorem ins_at (n : Nat) (k : Int) (v : List UInt8) (h : signT[n]? = some (k, v)) (W : World) :
    (Instr.mapUpdate 105 (.map (some W.heap.size)) (.int .i64 k) (.string ⟨v.toArray⟩)).run Tryz.prog (W.alloc (.map (mapS n) n)) = .ok () (W.alloc (.map (mapS (n + 1)) (n + 1))) := by
  have hn := (List.getElem?_eq_some_iff.1 h).1
  have : n = 0 ∨ n = 1 ∨ n = 2 ∨ n = 3 ∨ n = 4 ∨ n = 5 ∨ n = 6 ∨ n = 7 ∨ n = 8 ∨ n = 9 ∨ n = 10 ∨ n = 11 ∨ n = 12 := by simp [signT] at hn; omega
  rcases this with rfl | rfl | rfl | rfl | rfl | rfl | rfl | rfl | rfl | rfl | rfl | rfl | rfl <;> (obtain ⟨rfl, rfl⟩ := Prod.mk.inj (Option.some.inj h); exact run_insS W _ _ _ (by kernel_rfl) (by kernel_rfl))
theorem run_look (es : Array MapEntry) (c : Nat) (W : World) (r : Nat) (k : Int) (i : Nat) (v : Value) (hb : W.heap[r]? = some (.map es c)) (hf : Instr.findNow (.int .i64) (.int .i64 k) es.toList 0 = some (some (i, v))) :
    (Instr.lookup 105 (.map (some r)) (.int .i64 k) false).run Tryz.prog W = .ok v W := by
  have hk := Tryz.underlying3
  have hc : ∀ e, (Instr.checkKey e 10000 3 (.int .i64 k)).run Tryz.prog W = .ok () W := fun e => MapKept.run_checkKey (k := .int .i64 k) hk (by simp [MapKept.IsKey]) e 9999
  simp [Instr.lookup, run_underlying Tryz.underlying105, MapKept.run_getObj_map hb, hc, MapKept.run_findKey hk hf, Result.andThen]
theorem look_sign (op : Int) (h : Pl.binB op = true) (W : World) (r : Nat) (hb : W.heap[r]? = some (.map (mapS 13) 13)) :
    (Instr.lookup 105 (.map (some r)) (.int .i64 op) false).run Tryz.prog W = .ok (.string ⟨(signX op).toArray⟩) W := by
  refine Pl.bin_cases (P := fun op => (Instr.lookup 105 (.map (some r)) (.int .i64 op) false).run Tryz.prog W = .ok (.string ⟨(signX op).toArray⟩) W) ?_ op h
  refine ⟨?_, ?_, ?_, ?_, ?_, ?_, ?_, ?_, ?_, ?_, ?_, ?_, ?_⟩
  · exact run_look (mapS 13) 13 W r _ 0 _ hb (by kernel_rfl)
  · exact run_look (mapS 13) 13 W r _ 1 _ hb (by kernel_rfl)
  · exact run_look (mapS 13) 13 W r _ 2 _ hb (by kernel_rfl)
  · exact run_look (mapS 13) 13 W r _ 3 _ hb (by kernel_rfl)
  · exact run_look (mapS 13) 13 W r _ 4 _ hb (by kernel_rfl)
  · exact run_look (mapS 13) 13 W r _ 5 _ hb (by kernel_rfl)
  · exact run_look (mapS 13) 13 W r _ 6 _ hb (by kernel_rfl)
  · exact run_look (mapS 13) 13 W r _ 7 _ hb (by kernel_rfl)
  · exact run_look (mapS 13) 13 W r _ 8 _ hb (by kernel_rfl)
  · exact run_look (mapS 13) 13 W r _ 9 _ hb (by kernel_rfl)
  · exact run_look (mapS 13) 13 W r _ 10 _ hb (by kernel_rfl)
  · exact run_look (mapS 13) 13 W r _ 11 _ hb (by kernel_rfl)
  · exact run_look (mapS 13) 13 W r _ 12 _ hb (by kernel_rfl)
set_option maxHeartbeats 4000000 in
set_option maxRecDepth 100000 in
theorem signs_any (w : World) : Calls Tryz.prog 46 #[] w fun e w' => e = .returned (.map (some w.heap.size)) ∧ w' = w.alloc (.map (mapS 13) 13) := by
  have i0 := fun W => ins_at 0 6 _ rfl W
  have i1 := fun W => ins_at 1 7 _ rfl W
  have i2 := fun W => ins_at 2 9 _ rfl W
  have i3 := fun W => ins_at 3 10 _ rfl W
  have i4 := fun W => ins_at 4 11 _ rfl W
  have i5 := fun W => ins_at 5 12 _ rfl W
  have i6 := fun W => ins_at 6 13 _ rfl W
  have i7 := fun W => ins_at 7 14 _ rfl W
  have i8 := fun W => ins_at 8 15 _ rfl W
  have i9 := fun W => ins_at 9 16 _ rfl W
  have i10 := fun W => ins_at 10 17 _ rfl W
  have i11 := fun W => ins_at 11 18 _ rfl W
  have i12 := fun W => ins_at 12 19 _ rfl W
  have hm : ∀ W : World, (Instr.makeMap 105 none).run Tryz.prog W = .ok (.map (some W.heap.size)) (W.alloc (.map (mapS 0) 0)) := fun W => run_makeMap_plain (P := Tryz.prog) (w := W) 105
  go_enter Tryz.func46, Tryz.ntmps46
  go_wp2_with (fail)
  go_ret
  exact ⟨rfl, rfl⟩
end Go.Proofs.YtnjlggleaocbdaaGreatDoor
