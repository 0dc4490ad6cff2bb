/-
  Contract of the lexer's take.
-/
import Derived.Test.YtnjlggleaocbdaaGreatDoorDg0
import Derived.Lib.AppendStr
import Derived.Test.YtnjlggleaocbdaaGreatDoorDc3

/-
  The lexer in memory; contract of its take.
-/
namespace Go.Proofs.YtnjlggleaocbdaaGreatDoor
set_option linter.all false
open Go.RowKit Go.Shelf
attribute [local go_sem] cell_set_self lt_1 lt_2 lt_3 lt_4 lt_5 lt_6

/-- The lexer at lb: what is left of the text, and the line. -/
structure LxS (w : World) (lb : Nat) (l : List UInt8) (p : Nat) : Prop where
  c0 : w.cell? ⟨lb, 0, none⟩ = some (.string ⟨l.toArray⟩)
  c1 : w.cell? ⟨lb, 1, none⟩ = some (.int .i64 (p : Int))
  f0 : w.frozen? ⟨lb, 0, none⟩ = false
  f1 : w.frozen? ⟨lb, 1, none⟩ = false
theorem LxS.lt {w : World} {lb : Nat} {l : List UInt8} {p : Nat} (h : LxS w lb l p) : lb < w.heap.size := World.block_lt_of_cell? w _ h.c0
theorem LxS.block {w W : World} {lb : Nat} {l : List UInt8} {p : Nat} (h : LxS w lb l p) (e : W.heap[lb]? = w.heap[lb]?) : LxS W lb l p := by
  have c : ∀ o, W.cell? ⟨lb, o, none⟩ = w.cell? ⟨lb, o, none⟩ := fun o => by simp only [World.cell?, e]
  have f : ∀ o, W.frozen? ⟨lb, o, none⟩ = w.frozen? ⟨lb, o, none⟩ := fun o => by simp only [World.frozen?, e]
  exact ⟨by rw [c]; exact h.c0, by rw [c]; exact h.c1, by rw [f]; exact h.f0, by rw [f]; exact h.f1⟩
theorem LxS.below {w W : World} {lb : Nat} {l : List UInt8} {p : Nat} (h : LxS w lb l p) (hb : Below w.heap.size w W) : LxS W lb l p := h.block (hb.block _ h.lt)
theorem LxS.drew {w : World} {lb : Nat} {l : List UInt8} {p : Nat} (h : LxS w lb l p) : LxS w.drew lb l p := h.block rfl
theorem LxS.alloc {w : World} {lb : Nat} {l : List UInt8} {p : Nat} (h : LxS w lb l p) (o : Obj) : LxS (w.alloc o) lb l p := h.below ((Below.refl _ _).alloc (Nat.le_refl _) o)
theorem LxS.far {w : World} {lb : Nat} {l : List UInt8} {p : Nat} (h : LxS w lb l p) {q : Addr} (hq : ¬ q.block = lb) (v : Value) : LxS (w.setCell q v) lb l p := by
  refine h.block ?_
  simp only [World.setCell, Array.getElem?_modify]; rw [if_neg (by omega)]
theorem LxS.set0 {w : World} {lb : Nat} {l : List UInt8} {p : Nat} (h : LxS w lb l p) (l' : List UInt8) : LxS (w.setCell ⟨lb, 0, none⟩ (.string ⟨l'.toArray⟩)) lb l' p := by
  obtain ⟨c0, c1, f0, f1⟩ := h
  refine ⟨by rw [cell_set_self, c0]; rfl, ?_, ?_, ?_⟩
  · simpa [go_sem] using c1
  · simpa [go_sem] using f0
  · simpa [go_sem] using f1
theorem LxS.set1 {w : World} {lb : Nat} {l : List UInt8} {p : Nat} (h : LxS w lb l p) (p' : Nat) : LxS (w.setCell ⟨lb, 1, none⟩ (.int .i64 (p' : Int))) lb l p' := by
  obtain ⟨c0, c1, f0, f1⟩ := h
  refine ⟨?_, by rw [cell_set_self, c1]; rfl, ?_, ?_⟩
  · simpa [go_sem] using c0
  · simpa [go_sem] using f0
  · simpa [go_sem] using f1
theorem ext_front (L : List UInt8) (n : Nat) : (⟨L.toArray⟩ : ByteArray).extract 0 n = ⟨(L.take n).toArray⟩ := by
  apply ByteArray.ext
  simp
theorem ext_back (L : List UInt8) (k : Nat) : (⟨L.toArray⟩ : ByteArray).extract k (⟨L.toArray⟩ : ByteArray).size = ⟨(L.drop k).toArray⟩ := by
  apply ByteArray.ext
  simp only [ByteArray.data_extract, ByteArray.size, List.size_toArray, List.extract_toArray, List.extract_eq_drop_take]
  rw [List.take_of_length_le (by simp)]
end Go.Proofs.YtnjlggleaocbdaaGreatDoor

/-
  Contract of the lexer's take.
-/
namespace Go.Proofs.YtnjlggleaocbdaaGreatDoor
set_option linter.all false
open Go.RowKit Go.Shelf
attribute [local go_sem] cell_set_self lt_1 lt_2 lt_3 lt_4 lt_5 lt_6

theorem LxS.set0e {w : World} {lb : Nat} {l l' : List UInt8} {p : Nat} {B : ByteArray} (h : LxS w lb l p) (e : B = ⟨l'.toArray⟩) : LxS (w.setCell ⟨lb, 0, none⟩ (.string B)) lb l' p := by subst e; exact h.set0 l'
set_option maxHeartbeats 4000000 in
set_option maxRecDepth 100000 in
theorem take_any (lb : Nat) (l : List UInt8) (p k n : Nat) (hn : n ≤ l.length) (hl : l.length ≤ 1000000000) (w : World) (H : LxS w lb l p) :
    Calls Tryz.prog 81 #[.pointer (some ⟨lb, 0, none⟩), .int .u8 (k : Int), .int .i64 (n : Int)] w fun e w' => e = .returned (.agg #[.int .u8 (k : Int), .string ⟨(l.take n).toArray⟩, .int .i64 0, .int .i64 (p : Int)]) ∧ LxS w' lb (l.drop n) p ∧ Gr w.heap.size lb w w' := by
  suffices key : ∀ Q : Ending → World → Prop, Hid (∀ w', LxS w' lb (l.drop n) p → Gr w.heap.size lb w w' → Q (.returned (.agg #[.int .u8 (k : Int), .string ⟨(l.take n).toArray⟩, .int .i64 0, .int .i64 (p : Int)])) w') → Calls Tryz.prog 81 #[.pointer (some ⟨lb, 0, none⟩), .int .u8 (k : Int), .int .i64 (n : Int)] w Q from key _ (Lib.hid fun _ h1 h2 => ⟨rfl, h1, h2⟩)
  intro Q HQ
  have HH := Lib.hid H
  have hlb := H.lt
  obtain ⟨c0, c1, f0, f1⟩ := H
  have e1 := ext_front l n
  have e2 := ext_back l n
  have hsz : (⟨l.toArray⟩ : ByteArray).size = l.length := by simp [ByteArray.size]
  obtain ⟨t, ht⟩ : ∃ t : ByteArray, (⟨l.toArray⟩ : ByteArray) = t := ⟨_, rfl⟩
  obtain ⟨X, hX⟩ : ∃ t : ByteArray, (⟨(l.take n).toArray⟩ : ByteArray) = t := ⟨_, rfl⟩
  obtain ⟨Y, hY⟩ : ∃ t : ByteArray, (⟨(l.drop n).toArray⟩ : ByteArray) = t := ⟨_, rfl⟩
  rw [ht] at c0 e1 e2 hsz
  rw [hX] at e1 HQ
  rw [hY] at e2
  rw [hsz] at e2
  have HY := Lib.hid hY.symm
  have n1 : (n : Int) ≤ (l.length : Int) := by omega
  have n0 : (0 : Int) ≤ (n : Int) := by omega
  have hne : ¬ w.heap.size = lb ∧ ¬ lb = w.heap.size ∧ ¬ w.heap.size + 1 = lb ∧ ¬ lb = w.heap.size + 1 := by omega
  have hz : lb < w.heap.size + 1 ∧ w.heap.size < w.heap.size + 1 := by omega
  clear ht hX hY
  go_enter Tryz.func81, Tryz.ntmps81
  go_wp2
  go_region_held3 (fun w' => w'.cell? ⟨lb, 0, none⟩ = some (.string t) ∧ w'.cell? ⟨lb, 1, none⟩ = some (.int .i64 (p : Int)) ∧ w'.frozen? ⟨lb, 0, none⟩ = false ∧ w'.frozen? ⟨w.heap.size, 0, none⟩ = false ∧ w'.frozen? ⟨w.heap.size, 1, none⟩ = false ∧ w'.frozen? ⟨w.heap.size, 2, none⟩ = false ∧ w'.frozen? ⟨w.heap.size, 3, none⟩ = false ∧ lb < w'.heap.size ∧ w.heap.size < w'.heap.size ∧ Below w.heap.size w w')
      (first | (refine ⟨?_, ?_, ?_, ?_, ?_, ?_, ?_, ?_, ?_, ?_⟩ <;> first | (simp [go_sem, *]; done) | omega | (simp; omega) | exact (by repeat (first | exact Below.refl _ _ | refine Below.setCell ?_ (by first | (simp; done) | (simp; omega) | omega) _ | refine Below.alloc ?_ (by first | (simp; done) | (simp; omega) | omega) _ | refine Below.drew ?_ | assumption | refine Below.trans ?_ (Below.mono (by assumption) (by first | (simp; done) | (simp; omega) | omega))))))
      (first | (fail))
  go_wp2
  exact bodyPost_ret (v := .agg #[.int .u8 (k : Int), .string X, .int .i64 0, .int .i64 (p : Int)]) (by simp [results, Tryz.results81, go_sem, *]) rfl (HQ.out _ (by repeat (first | (with_reducible exact HH.out) | (with_reducible refine LxS.alloc ?_ _) | (with_reducible refine LxS.drew ?_) | (with_reducible refine LxS.set0e (l := l) ?_ HY.out) | (with_reducible refine LxS.far ?_ (by dsimp only; omega) _))) (by repeat (first | (with_reducible exact Gr.refl _ _ _) | (with_reducible assumption) | ((with_reducible refine Gr.setCell ?_ ?hq1 _); (case hq1 => (first | (right; rfl) | (left; (first | (simp; done) | (simp; omega) | omega))))) | ((with_reducible refine Gr.alloc ?_ ?hq1 _); (case hq1 => (first | (simp; done) | (simp; omega) | omega))) | (with_reducible refine Gr.drew ?_) | exact Gr.of_below (by assumption) | refine Gr.trans ?_ (by assumption) (by first | (simp; done) | (simp; omega) | omega) | refine Gr.below ?_ (by assumption) (by first | (simp; done) | (simp; omega) | omega))))
end Go.Proofs.YtnjlggleaocbdaaGreatDoor
