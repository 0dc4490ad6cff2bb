/-
  Words for lists of tiers that the call itself makes.
-/
import Derived.Test.YtdpoahfjiomhbaaGreatDoorWk4
import Derived.Test.YtdpoahfjiomhbaaGreatDoorLa1
import Derived.Test.YtdpoahfjiomhbaaGreatDoorTp3
import Derived.Deep.AppendLies
import Derived.Test.YtdpoahfjiomhbaaGreatDoorQh
namespace Go.Proofs.YtdpoahfjiomhbaaGreatDoor
set_option linter.all false
open Go.RowKit Go.Sort
attribute [local go_sem] cell_set_self lt_1 lt_2 lt_3 lt_4 lt_5 lt_6








/-- The cells of a list of tiers. -/
def cellsT : List (Int × Int) → List Value
  | [] => []
  | t :: r => .int .i64 t.1 :: .int .i64 t.2 :: cellsT r
theorem cellsT_length : ∀ (l : List (Int × Int)), (cellsT l).length = l.length * 2
  | [] => rfl
  | t :: r => by simp only [cellsT, List.length_cons, cellsT_length r]; omega
theorem cellsT_append : ∀ (a b : List (Int × Int)), cellsT (a ++ b) = cellsT a ++ cellsT b
  | [], _ => rfl
  | t :: r, b => by simp only [List.cons_append, cellsT, cellsT_append r b]
theorem cellsT_at : ∀ {l : List (Int × Int)} {i : Nat} {t : Int × Int}, l[i]? = some t → (cellsT l)[i * 2]? = some (.int .i64 t.1) ∧ (cellsT l)[i * 2 + 1]? = some (.int .i64 t.2)
  | [], _, _, h => by simp at h
  | x :: r, 0, t, h => by simp at h; subst h; exact ⟨rfl, rfl⟩
  | x :: r, i + 1, t, h => by
    simp at h
    obtain ⟨h1, h2⟩ := cellsT_at (l := r) h
    rw [show (i + 1) * 2 = i * 2 + 1 + 1 by omega]
    exact ⟨h1, h2⟩
theorem Tryz.infoTier : (Tryz.prog.info? 37).map (fun i => (i.zero, i.size, i.bytes)) = some (some (.agg #[.int .i64 0, .int .i64 0]), 2, 16) := by kernel_rfl
theorem addr0 (g n : Nat) : ({ block := g, off := 0 } : Addr).add n = ⟨g, n, none⟩ := by unfold Addr.add; split <;> simp_all
/-- A row that the call has made reads as the list. -/
theorem tiers_own {w : World} {base : Nat} {g cap : Nat} {l : List (Int × Int)} (h : w.ownsRow base 37 2 (.slice (some ⟨g, 0, none⟩) l.length cap) l.length (cellsT l)) (hg : g < w.heap.size) : Tiers w (some ⟨g, 0, none⟩) l := fun i t hi => by
  obtain ⟨h1, h2⟩ := cellsT_at hi
  have hc := h.cells (g := g) rfl
  refine ⟨g, 0, rfl, hg, ?_, ?_⟩
  · have := hc _ _ h1; rw [addr0] at this; simpa using this
  · have := hc _ _ h2; rw [addr0] at this; simpa [Nat.add_assoc] using this
/-- exref.Num leaves memory alone. -/
theorem num_same (e : Int) (w : World) : Calls Tryz.prog 17 #[.int .i64 e] w fun x w' => x = .returned (.int .i64 e) ∧ w = w' := by
  go_enter Tryz.func17, Tryz.ntmps17
  go_wp2
  go_ret
  exact ⟨rfl, rfl⟩
theorem priceN_ok {l : List (Int × Int)} {q x : Int} (h : checkT l = 0) (h0 : 0 ≤ q) (h1 : q ≤ 1125899906842624) : priceN l q x = unitsN (rhe x 1000000) ∧ priceE l q x = unitsE (rhe x 1000000) := by
  unfold priceN priceE; rw [if_pos ⟨h, h0, h1⟩, if_pos h, if_pos ⟨h0, h1⟩]; exact ⟨rfl, rfl⟩
theorem units_mono {x y : Int} (hx : 0 ≤ x) (h : x ≤ y) (hy : unitsE y = 0) : unitsE x = 0 ∧ unitsN x ≤ unitsN y := by
  unfold unitsE at hy
  split at hy
  · rename_i k
    unfold unitsE unitsN
    rw [if_pos (by omega), if_pos (by omega), if_pos k]; exact ⟨rfl, h⟩
  · omega
theorem unitsE_ge (x : Int) : 0 ≤ unitsE x := by unfold unitsE; split <;> omega
end Go.Proofs.YtdpoahfjiomhbaaGreatDoor
