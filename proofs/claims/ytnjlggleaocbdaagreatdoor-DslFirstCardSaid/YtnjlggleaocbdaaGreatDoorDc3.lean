/-
  Tokens in memory. (Printed by tools/mkdr.py.)
-/
import Derived.Test.YtnjlggleaocbdaaGreatDoorDg0
namespace Go.Proofs.YtnjlggleaocbdaaGreatDoor
set_option linter.all false
open Go.RowKit Go.Shelf
attribute [local go_sem] cell_set_self lt_1 lt_2 lt_3 lt_4 lt_5 lt_6

def tokV (t : Tok) : Value := .agg #[.int .u8 t.k, .string ⟨t.s.toArray⟩, .int .i64 t.n, .int .i64 (t.p : Int)]
/-- Bytes that lie in memory. -/
def Bs (w : World) (A : Option Addr) (c : Nat) (l : List UInt8) : Prop :=
  l.length ≤ c ∧ (A = none → c = 0) ∧ ∀ (i : Nat) (x : UInt8), l[i]? = some x → ∃ b off, A = some ⟨b, off, none⟩ ∧ b < w.heap.size ∧ w.cell? ⟨b, off + i, none⟩ = some (.int .u8 (x.toNat : Int))
theorem Bs.below {w W : World} {A : Option Addr} {c : Nat} {l : List UInt8} (T : Bs w A c l) (h : Below w.heap.size w W) : Bs W A c l := ⟨T.1, T.2.1, fun i v hi => by
  obtain ⟨b, off, hA, hb, hc⟩ := T.2.2 i v hi
  exact ⟨b, off, hA, Nat.lt_of_lt_of_le hb h.size, (h.cell (p := ⟨b, off + i, none⟩) hb).trans hc⟩⟩
theorem addr_off (b off n : Nat) : ({ block := b, off := off } : Addr).add n = ⟨b, off + n, none⟩ := by unfold Addr.add; split <;> simp_all
theorem conv_bs {W : World} {A : Option Addr} {c : Nat} {l : List UInt8} (T : Bs W A c l) : (convert 69 9 (.slice A l.length c)).run Tryz.prog W = .ok (.string ⟨l.toArray⟩) W := by
  cases A with
  | none =>
    obtain rfl : c = 0 := T.2.1 rfl
    have h0 := T.1
    obtain rfl : l = [] := List.eq_nil_of_length_eq_zero (by omega)
    exact (run_convert_bytes_nil W 69 5 Tryz.underlying69 Tryz.underlying5 0 0 9 Tryz.underlying9).trans rfl
  | some a =>
    refine run_convert_bytes_back (P := Tryz.prog) _ 69 9 5 a c l Tryz.underlying69 Tryz.underlying5 Tryz.underlying9 (fun j hj => ?_)
    obtain ⟨b, off, e, _, hc⟩ := T.2.2 j l[j] (List.getElem?_eq_getElem hj)
    injection e with e
    rw [e, addr_off]; exact hc
theorem info_u8h : (Tryz.prog.info? 5).map (fun i => (i.zero, i.size, i.bytes)) = some (some (.int .u8 0), 1, 1) := by kernel_rfl
theorem own_bs {w : World} {base n : Nat} {v : Value} {l : List UInt8} (h : w.ownsRow base 5 1 v n (Lib.byteCells l)) : ∃ A c, v = .slice A n c ∧ Bs w A c l ∧ ∀ a, A = some a → base ≤ a.block := by
  have hl : l.length = n := by have := h.1; simpa [Lib.byteCells] using this
  rcases h.2 with ⟨rfl, h0⟩ | ⟨g, cap, cur, rfl, hg, hh, hnc, _⟩
  · obtain rfl : l = [] := List.eq_nil_of_length_eq_zero (by omega)
    subst h0
    exact ⟨none, 0, rfl, ⟨by simp, fun _ => rfl, fun i v hi => by simp at hi⟩, fun a ha => by cases ha⟩
  · refine ⟨_, _, rfl, ⟨by omega, fun hx => (by cases hx), fun i v hi => ?_⟩, fun a ha => by cases ha; exact hg⟩
    have hj := (List.getElem?_eq_some_iff.1 hi).1
    have := h.cells (g := g) rfl i (.int .u8 (v.toNat : Int)) (by simp [Lib.byteCells, hi])
    have t2 := (congrArg w.cell? (addr_off g 0 i)).symm.trans this
    exact ⟨g, 0, rfl, World.block_lt_of_cell? w ⟨g, 0 + i, none⟩ t2, t2⟩
theorem below_push {B : Nat} {a wr w1 : World} {o : Obj} {row : Option Nat} (h : Below B a wr) (hB : B ≤ wr.heap.size) (hg : (wr.alloc o).grownBy w1 row) (hr : ∀ k, row = some k → B ≤ k) : Below B a w1 :=
  (h.alloc hB o).grown hg (by simp; omega) hr
theorem byteCells_snoc (l : List UInt8) (x : UInt8) : Lib.byteCells (l ++ [x]) = Lib.byteCells l ++ [.int .u8 (x.toNat : Int)] := by simp [Lib.byteCells]
theorem byteCells_len (l : List UInt8) : (Lib.byteCells l).length = l.length := by simp [Lib.byteCells]
def tokC (t : Tok) : List Value := [.int .u8 t.k, .string ⟨t.s.toArray⟩, .int .i64 t.n, .int .i64 (t.p : Int)]
def cellsT : List Tok → List Value
  | [] => []
  | t :: l => tokC t ++ cellsT l
theorem cellsT_app (l : List Tok) (t : Tok) : cellsT (l ++ [t]) = cellsT l ++ tokC t := by
  induction l with
  | nil => simp [cellsT]
  | cons a l ih => simp [cellsT, ih]
theorem cellsT_len (l : List Tok) : (cellsT l).length = 4 * l.length := by
  induction l with
  | nil => rfl
  | cons a l ih => simp [cellsT, tokC, ih]; omega
theorem info_tok : (Tryz.prog.info? 83).map (fun i => (i.zero, i.size, i.bytes)) = some (some (.agg #[.int .u8 0, .string ⟨#[]⟩, .int .i64 0, .int .i64 0]), 4, 40) := by kernel_rfl
theorem setCell_block (w : World) (b o : Nat) (v : Value) {k : Nat} (h : k ≠ b) : (w.setCell ⟨b, o, none⟩ v).heap[k]? = w.heap[k]? := by
  simp only [World.setCell, Array.getElem?_modify]
  rw [if_neg (fun e => h e.symm)]
theorem setCell_one {w : World} {b : Nat} {V v : Value} {t : TypeId} (h : w.heap[b]? = some (.cells #[V] t (0, 0))) : (w.setCell ⟨b, 0, none⟩ v).heap[b]? = some (.cells #[v] t (0, 0)) := by
  simp [World.setCell, Array.getElem?_modify, h]
theorem own_set {W : World} {base size n : Nat} {e : TypeId} {V : Value} {xs : List Value} (h : W.ownsRow base e size V n xs) {b : Nat} (hb : b < base) (o : Nat) (v : Value) : (W.setCell ⟨b, o, none⟩ v).ownsRow base e size V n xs := by
  refine ⟨h.1, ?_⟩
  rcases h.2 with h2 | ⟨g, cap, cur, hv, hg, hh, hr⟩
  · exact .inl h2
  · exact .inr ⟨g, cap, cur, hv, hg, by rw [setCell_block _ _ _ _ (by omega)]; exact hh, hr⟩
end Go.Proofs.YtnjlggleaocbdaaGreatDoor
