/-
  Contracts of sql.term and sql.fine.
-/
import Derived.Test.YtijlifdbjhieaaaGreatDoorSf2
import Derived.WideMake
namespace Go.Proofs.YtijlifdbjhieaaaGreatDoor
set_option linter.all false
open Go.RowKit Go.Shelf
attribute [local go_sem] cell_set_self lt_1 lt_2 lt_3 lt_4 lt_5 lt_6

set_option maxHeartbeats 4000000 in
set_option maxRecDepth 100000 in
theorem termB_any (c : List UInt8) (ty n : Int) (s : List UInt8) (hc : c.length ≤ 9223372036854775807) (hs : s.length ≤ 9223372036854775807) (w : World) :
    Calls Tryz.prog 90 #[.agg #[.string ⟨c.toArray⟩, .int .i64 ty, .int .i64 n, .string ⟨s.toArray⟩]] w fun e w' => e = .returned (.bool (termB ⟨c, ty, n, s⟩)) ∧ Below w.heap.size w w' := by
  suffices key : ∀ Q : Ending → World → Prop, Hid (∀ b, b = termB ⟨c, ty, n, s⟩ → ∀ w', Below w.heap.size w w' → Q (.returned (.bool b)) w') → Calls Tryz.prog 90 #[.agg #[.string ⟨c.toArray⟩, .int .i64 ty, .int .i64 n, .string ⟨s.toArray⟩]] w Q from key _ (Lib.hid fun b h w' h' => ⟨by rw [h], h'⟩)
  intro Q HQ
  have NM := Lib.hid (fun W => isName_any c hc W)
  have TX := Lib.hid (fun W => isText_any s hs W)
  have IB : termB ⟨c, ty, n, s⟩ = if ty = 0 then nameB c else if ty = 1 then decide (-4611686018427387904 ≤ n) && decide (n ≤ 4611686018427387904) else decide (ty = 2) && textB s := rfl
  have FIN : ∀ b, b = termB ⟨c, ty, n, s⟩ → Hid (∀ w', Below w.heap.size w w' → Q (.returned (.bool b)) w') := fun b h => Lib.hid fun w' h' => HQ.out b h w' h'
  clear HQ hc hs
  generalize textB s = ts at *
  generalize nameB c = nc at *
  generalize (⟨c.toArray⟩ : ByteArray) = U at *
  generalize (⟨s.toArray⟩ : ByteArray) = V at *
  by_cases h0 : ty = 0
  · have e0 : (ty == 0) = true := by simp [h0]
    rw [if_pos h0] at IB
    have F := FIN _ IB.symm
    clear FIN IB h0 TX
    go_enter Tryz.func90, Tryz.ntmps90
    go_wp2_with (first | (go_at_call 39; (with_reducible refine (NM.out _).mono ?_); rintro e w4 ⟨rfl, hb4⟩))
    exact F.out _ (by repeat (first | exact Below.refl _ _ | refine Below.setCell ?_ (by first | (simp; done) | (simp; omega) | omega) _ | refine Below.alloc ?_ (by first | (simp; done) | (simp; omega) | omega) _ | refine Below.drew ?_ | assumption | refine Below.trans ?_ (Below.mono (by assumption) (by first | (simp; done) | (simp; omega) | omega))))
  · have e0 : (ty == 0) = false := by simp [h0]
    rw [if_neg h0] at IB
    by_cases h1 : ty = 1
    · have e1 : (ty == 1) = true := by simp [h1]
      rw [if_pos h1] at IB
      clear h0 h1 TX NM
      by_cases g1 : -4611686018427387904 ≤ n
      · rw [decide_eq_true g1, Bool.true_and] at IB
        by_cases g2 : n ≤ 4611686018427387904
        · rw [decide_eq_true g2] at IB
          have F := FIN _ IB.symm
          clear FIN IB
          go_enter Tryz.func90, Tryz.ntmps90
          go_wp2_with (fail)
          exact F.out _ (by repeat (first | exact Below.refl _ _ | refine Below.setCell ?_ (by first | (simp; done) | (simp; omega) | omega) _ | refine Below.alloc ?_ (by first | (simp; done) | (simp; omega) | omega) _ | refine Below.drew ?_ | assumption | refine Below.trans ?_ (Below.mono (by assumption) (by first | (simp; done) | (simp; omega) | omega))))
        · rw [decide_eq_false g2] at IB
          have F := FIN _ IB.symm
          clear FIN IB
          go_enter Tryz.func90, Tryz.ntmps90
          go_wp2_with (fail)
          exact F.out _ (by repeat (first | exact Below.refl _ _ | refine Below.setCell ?_ (by first | (simp; done) | (simp; omega) | omega) _ | refine Below.alloc ?_ (by first | (simp; done) | (simp; omega) | omega) _ | refine Below.drew ?_ | assumption | refine Below.trans ?_ (Below.mono (by assumption) (by first | (simp; done) | (simp; omega) | omega))))
      · rw [decide_eq_false g1, Bool.false_and] at IB
        have F := FIN _ IB.symm
        clear FIN IB
        go_enter Tryz.func90, Tryz.ntmps90
        go_wp2_with (fail)
        exact F.out _ (by repeat (first | exact Below.refl _ _ | refine Below.setCell ?_ (by first | (simp; done) | (simp; omega) | omega) _ | refine Below.alloc ?_ (by first | (simp; done) | (simp; omega) | omega) _ | refine Below.drew ?_ | assumption | refine Below.trans ?_ (Below.mono (by assumption) (by first | (simp; done) | (simp; omega) | omega))))
    · have e1 : (ty == 1) = false := by simp [h1]
      rw [if_neg h1] at IB
      by_cases h2 : ty = 2
      · have e2 : (ty == 2) = true := by simp [h2]
        rw [decide_eq_true h2, Bool.true_and] at IB
        have F := FIN _ IB.symm
        clear FIN IB h0 h1 h2 NM
        go_enter Tryz.func90, Tryz.ntmps90
        go_wp2_with (first | (go_at_call 106; (with_reducible refine (TX.out _).mono ?_); rintro e w4 ⟨rfl, hb4⟩))
        exact F.out _ (by repeat (first | exact Below.refl _ _ | refine Below.setCell ?_ (by first | (simp; done) | (simp; omega) | omega) _ | refine Below.alloc ?_ (by first | (simp; done) | (simp; omega) | omega) _ | refine Below.drew ?_ | assumption | refine Below.trans ?_ (Below.mono (by assumption) (by first | (simp; done) | (simp; omega) | omega))))
      · have e2 : (ty == 2) = false := by simp [h2]
        rw [decide_eq_false h2, Bool.false_and] at IB
        have F := FIN _ IB.symm
        clear FIN IB h0 h1 h2 NM TX
        go_enter Tryz.func90, Tryz.ntmps90
        go_wp2_with (fail)
        exact F.out _ (by repeat (first | exact Below.refl _ _ | refine Below.setCell ?_ (by first | (simp; done) | (simp; omega) | omega) _ | refine Below.alloc ?_ (by first | (simp; done) | (simp; omega) | omega) _ | refine Below.drew ?_ | assumption | refine Below.trans ?_ (Below.mono (by assumption) (by first | (simp; done) | (simp; omega) | omega))))
/-- The arguments that each kind of condition wants. -/
def argT : List (Int × Int) := [(1, 2), (2, 2), (3, 1), (4, 0), (5, 0), (6, 0), (7, 0), (8, 0), (9, 0)]
def mapA (n : Nat) : Array MapEntry := ((argT.take n).zipIdx.map fun x => ({ key := .int .i64 x.1.1, val := .int .i64 x.1.2, born := x.2 } : MapEntry)).toArray
theorem set_alloc (W : World) (o o' : Obj) : { (W.alloc o) with heap := (W.alloc o).heap.setIfInBounds W.heap.size o' } = W.alloc o' := by
  have h : (W.heap.push o).setIfInBounds W.heap.size o' = W.heap.push o' := by
    apply Array.ext_getElem?
    intro j
    simp only [Array.getElem?_setIfInBounds, Array.getElem?_push, Array.size_push]
    by_cases e : W.heap.size = j
    · subst e; simp
    · simp [e, Ne.symm e]
  show ({ W with heap := (W.heap.push o).setIfInBounds W.heap.size o' } : World) = { W with heap := W.heap.push o' }
  rw [h]
theorem run_ins (W : World) (es : Array MapEntry) (clock : Nat) (k : Int) (v : Value) (hf : Instr.findNow (.int .i64) (.int .i64 k) es.toList 0 = some none) :
    (Instr.mapUpdate 149 (.map (some W.heap.size)) (.int .i64 k) v).run Tryz.prog (W.alloc (.map es clock)) = .ok () (W.alloc (.map (es.push { key := .int .i64 k, val := v, born := clock }) (clock + 1))) := by
  have hb : (W.alloc (.map es clock)).heap[W.heap.size]? = some (.map es clock) := heap_alloc_new W _
  have hk := Tryz.underlying3
  have hc : (Instr.checkKey false 10000 3 (.int .i64 k)).run Tryz.prog (W.alloc (.map es clock)) = .ok () (W.alloc (.map es clock)) := MapKept.run_checkKey (k := .int .i64 k) hk (by simp [MapKept.IsKey]) false 9999
  have e := set_alloc W (.map es clock) (.map (es.push { key := .int .i64 k, val := v, born := clock }) (clock + 1))
  simp [Instr.mapUpdate, run_underlying Tryz.underlying149, MapKept.run_getObj_map hb, hc, MapKept.run_findKey hk hf, MapKept.run_setObj_map _ hb, Result.andThen]
  exact e
theorem run_insA (W : World) (n : Nat) (k v : Int) (hf : Instr.findNow (.int .i64) (.int .i64 k) (mapA n).toList 0 = some none) (he : (mapA n).push { key := .int .i64 k, val := .int .i64 v, born := n } = mapA (n + 1)) :
    (Instr.mapUpdate 149 (.map (some W.heap.size)) (.int .i64 k) (.int .i64 v)).run Tryz.prog (W.alloc (.map (mapA n) n)) = .ok () (W.alloc (.map (mapA (n + 1)) (n + 1))) := by
  rw [run_ins W (mapA n) n k _ hf, he]
set_option maxRecDepth 10000 in
theorem ins_at (n : Nat) (k v : Int) (h : argT[n]? = some (k, v)) (W : World) :
    (Instr.mapUpdate 149 (.map (some W.heap.size)) (.int .i64 k) (.int .i64 v)).run Tryz.prog (W.alloc (.map (mapA n) n)) = .ok () (W.alloc (.map (mapA (n + 1)) (n + 1))) := by
  have hn := (List.getElem?_eq_some_iff.1 h).1
  have : n = 0 ∨ n = 1 ∨ n = 2 ∨ n = 3 ∨ n = 4 ∨ n = 5 ∨ n = 6 ∨ n = 7 ∨ n = 8 := by simp [argT] at hn; omega
  rcases this with rfl | rfl | rfl | rfl | rfl | rfl | rfl | rfl | rfl <;> (obtain ⟨rfl, rfl⟩ := Prod.mk.inj (Option.some.inj h); exact run_insA W _ _ _ (by kernel_rfl) (by kernel_rfl))
theorem run_look (es : Array MapEntry) (c : Nat) (W : World) (r : Nat) (k : Int) (i : Nat) (v : Value) (hb : W.heap[r]? = some (.map es c)) (hf : Instr.findNow (.int .i64) (.int .i64 k) es.toList 0 = some (some (i, v))) :
    (Instr.lookup 149 (.map (some r)) (.int .i64 k) true).run Tryz.prog W = .ok (.tuple #[v, .bool true]) W := by
  have hk := Tryz.underlying3
  have hc : ∀ e, (Instr.checkKey e 10000 3 (.int .i64 k)).run Tryz.prog W = .ok () W := fun e => MapKept.run_checkKey (k := .int .i64 k) hk (by simp [MapKept.IsKey]) e 9999
  simp [Instr.lookup, run_underlying Tryz.underlying149, MapKept.run_getObj_map hb, hc, MapKept.run_findKey hk hf, Result.andThen]
theorem zero_int (W : World) : (zeroValue 3).run Tryz.prog W = .ok (.int .i64 0) W := by kernel_rfl
theorem look_none (es : Array MapEntry) (c : Nat) (W : World) (r : Nat) (k : Int) (hf : Instr.findNow (.int .i64) (.int .i64 k) es.toList 0 = some none) (hb : W.heap[r]? = some (.map es c)) :
    (Instr.lookup 149 (.map (some r)) (.int .i64 k) true).run Tryz.prog W = .ok (.tuple #[.int .i64 0, .bool false]) W := by
  have hk := Tryz.underlying3
  have hc : ∀ e, (Instr.checkKey e 10000 3 (.int .i64 k)).run Tryz.prog W = .ok () W := fun e => MapKept.run_checkKey (k := .int .i64 k) hk (by simp [MapKept.IsKey]) e 9999
  simp [Instr.lookup, run_underlying Tryz.underlying149, MapKept.run_getObj_map hb, hc, MapKept.run_findKey hk hf, zero_int, Result.andThen]
theorem find_none_l {z : Int} : ∀ (l : List MapEntry) (i : Nat), (∀ e ∈ l, ∃ k, e.key = .int .i64 k ∧ k ≠ z) → Instr.findNow (.int .i64) (.int .i64 z) l i = some none
  | [], i, _ => rfl
  | e :: r, i, h => by
    obtain ⟨k, hk, hne⟩ := h e (by simp)
    have ih := find_none_l r (i + 1) (fun x hx => h x (by simp [hx]))
    simp [Instr.findNow, Instr.sameNow, hk, beq_eq_false_iff_ne.2 hne, beq_eq_false_iff_ne.2 (Ne.symm hne), ih]
/-- What is looked up: how many arguments, if the kind is known. -/
theorem look_any (op : Int) : (∃ n : Nat, argsN op = some n ∧ n ≤ 2 ∧ ∀ W : World, (Instr.lookup 149 (.map (some W.heap.size)) (.int .i64 op) true).run Tryz.prog (W.alloc (.map (mapA 9) 9)) = .ok (.tuple #[.int .i64 (n : Int), .bool true]) (W.alloc (.map (mapA 9) 9))) ∨
    (argsN op = none ∧ ∀ W : World, (Instr.lookup 149 (.map (some W.heap.size)) (.int .i64 op) true).run Tryz.prog (W.alloc (.map (mapA 9) 9)) = .ok (.tuple #[.int .i64 0, .bool false]) (W.alloc (.map (mapA 9) 9))) := by
  by_cases h : 1 ≤ op ∧ op ≤ 9
  · have : op = 1 ∨ op = 2 ∨ op = 3 ∨ op = 4 ∨ op = 5 ∨ op = 6 ∨ op = 7 ∨ op = 8 ∨ op = 9 := by omega
    refine .inl ?_
    rcases this with rfl | rfl | rfl | rfl | rfl | rfl | rfl | rfl | rfl
    · exact ⟨2, by decide, by decide, fun W => run_look (mapA 9) 9 _ _ _ 0 _ (heap_alloc_new W _) (by kernel_rfl)⟩
    · exact ⟨2, by decide, by decide, fun W => run_look (mapA 9) 9 _ _ _ 1 _ (heap_alloc_new W _) (by kernel_rfl)⟩
    · exact ⟨1, by decide, by decide, fun W => run_look (mapA 9) 9 _ _ _ 2 _ (heap_alloc_new W _) (by kernel_rfl)⟩
    · exact ⟨0, by decide, by decide, fun W => run_look (mapA 9) 9 _ _ _ 3 _ (heap_alloc_new W _) (by kernel_rfl)⟩
    · exact ⟨0, by decide, by decide, fun W => run_look (mapA 9) 9 _ _ _ 4 _ (heap_alloc_new W _) (by kernel_rfl)⟩
    · exact ⟨0, by decide, by decide, fun W => run_look (mapA 9) 9 _ _ _ 5 _ (heap_alloc_new W _) (by kernel_rfl)⟩
    · exact ⟨0, by decide, by decide, fun W => run_look (mapA 9) 9 _ _ _ 6 _ (heap_alloc_new W _) (by kernel_rfl)⟩
    · exact ⟨0, by decide, by decide, fun W => run_look (mapA 9) 9 _ _ _ 7 _ (heap_alloc_new W _) (by kernel_rfl)⟩
    · exact ⟨0, by decide, by decide, fun W => run_look (mapA 9) 9 _ _ _ 8 _ (heap_alloc_new W _) (by kernel_rfl)⟩
  · refine .inr ⟨?_, fun W => look_none (mapA 9) 9 _ _ _ (find_none_l _ 0 fun e he => ?_) (heap_alloc_new W _)⟩
    · unfold argsN cmpB
      rw [if_neg (by omega), if_neg (by omega), if_neg (by simp; omega)]
    · unfold mapA argT at he
      simp only [List.mem_map] at he
      obtain ⟨x, hx, rfl⟩ := he
      have h2 := List.mem_of_mem_take (List.fst_mem_of_mem_zipIdx hx)
      refine ⟨_, rfl, ?_⟩
      simp only [List.mem_cons, List.not_mem_nil, or_false] at h2
      rcases h2 with h2 | h2 | h2 | h2 | h2 | h2 | h2 | h2 | h2 <;> (rw [h2]; simp only; omega)
end Go.Proofs.YtijlifdbjhieaaaGreatDoor
