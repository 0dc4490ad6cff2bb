/-
  Append of a slice of ints, nil or not, to a row of the call's own.
-/
import Derived.Test.YtakfjdnpfhcgkaaGreatDoorBw1
namespace Go.Proofs.YtakfjdnpfhcgkaaGreatDoor
set_option linter.all false
open Go.RowKit Go.Sort

section
variable {P : Program}
theorem wp_append_sl {o : Oper} {a : Act} {K : Act → World → Prop} {Q : Exit → Act → World → Prop} (w : World) (s x : Operand) (t : TypeId)
    (ho : o.op = .call { callee := .builtin .append, args := #[s, x], argTypes := #[t, t] })
    (base : Nat) (i : TypeInfo) (ht : P.underlying t = some (.slice 3)) (hi : P.info? 3 = some i) (hz : i.zero = some (.int .i64 0)) (hsize : i.size = 1) (hby : i.bytes = 8)
    (v : Value) (n : Nat) (xs : List Value) (hs : a.eval s = v) (hown : w.ownsRow base 3 1 v n xs)
    (A : Option Addr) (m c : Nat) (l : List Int) (hx : a.eval x = .slice A m c) (hl : l.length = m) (S : Sl w A c l)
    (h63 : n + m ≤ maxLen) (hbytes : (n + m) * 8 ≤ 140737488355328) (hbase : base ≤ w.heap.size)
    (h : ∀ v' w', w'.ownsRow base 3 1 v' (n + m) (xs ++ l.map (Value.int .i64)) → w.grownBy w' v.ownBlock → K (a.put o.dst v') w') : o.wp P a w K Q := by
  rcases A with _ | ad
  · obtain ⟨rfl, rfl⟩ := S.none_nil
    simp at hl; subst hl
    have hrun := run_append_owned_none (P := P) (w := w) base t o.type 3 i 1 ht hi v n xs hown
    have g := h v w (by simpa using hown) ⟨rfl, rfl, rfl, Nat.le_refl _, fun _ _ _ => rfl⟩
    unfold Oper.wp
    simp [execOp, ho, resolve, invoke, builtin, hs, hx, hrun, Result.andThen]
    exact g
  · have nw := S.news (Below.refl _ _) m
    rw [List.take_of_length_le (by omega)] at nw
    exact wp_append_own w s x t ho base _ i _ 1 8 ht hi hz hsize hby rfl (by decide) v n xs hs hown ad m c _ hx (by simp [hl]) nw (ints_one l) h63 hbytes hbase fun v' w' h1 h2 _ => h v' w' h1 h2

theorem wpList_append_sl {ops : Array Oper} {rest : List Oper} {o : Oper} {a : Act} {Q : Exit → Act → World → Prop} (w : World) (hgd : o.guard = none) (s x : Operand) (t : TypeId)
    (ho : o.op = .call { callee := .builtin .append, args := #[s, x], argTypes := #[t, t] })
    (base : Nat) (i : TypeInfo) (ht : P.underlying t = some (.slice 3)) (hi : P.info? 3 = some i) (hz : i.zero = some (.int .i64 0)) (hsize : i.size = 1) (hby : i.bytes = 8)
    (v : Value) (n : Nat) (xs : List Value) (hs : a.eval s = v) (hown : w.ownsRow base 3 1 v n xs)
    (A : Option Addr) (m c : Nat) (l : List Int) (hx : a.eval x = .slice A m c) (hl : l.length = m) (S : Sl w A c l)
    (h63 : n + m ≤ maxLen) (hbytes : (n + m) * 8 ≤ 140737488355328) (hbase : base ≤ w.heap.size)
    (h : ∀ v' w', w'.ownsRow base 3 1 v' (n + m) (xs ++ l.map (Value.int .i64)) → w.grownBy w' v.ownBlock → wpList P ops Q rest (a.put o.dst v') w') : wpList P ops Q (o :: rest) a w :=
  wpList_plain hgd fun _ hK => wp_append_sl w s x t ho base i ht hi hz hsize hby v n xs hs hown A m c l hx hl S h63 hbytes hbase fun v' w' h1 h2 => hK _ _ (h v' w' h1 h2)

theorem step_append_sl {ops : Array Oper} {o : Oper} {a : Act} {K : Act → World → Prop} {Q : Exit → Act → World → Prop} {E : Prop} (w : World) (hgd : o.guard = none) (s x : Operand) (t : TypeId)
    (ho : o.op = .call { callee := .builtin .append, args := #[s, x], argTypes := #[t, t] })
    (base : Nat) (i : TypeInfo) (ht : P.underlying t = some (.slice 3)) (hi : P.info? 3 = some i) (hz : i.zero = some (.int .i64 0)) (hsize : i.size = 1) (hby : i.bytes = 8)
    (v : Value) (n : Nat) (xs : List Value) (hs : a.eval s = v) (hown : w.ownsRow base 3 1 v n xs)
    (A : Option Addr) (m c : Nat) (l : List Int) (hx : a.eval x = .slice A m c) (hl : l.length = m) (S : Sl w A c l)
    (h63 : n + m ≤ maxLen) (hbytes : (n + m) * 8 ≤ 140737488355328) (hbase : base ≤ w.heap.size)
    (h : ∀ v' w', w'.ownsRow base 3 1 v' (n + m) (xs ++ l.map (Value.int .i64)) → w.grownBy w' v.ownBlock → K (a.put o.dst v') w') :
    if Region.wanted o (yielded ops a.tmps) = true then Oper.wp P o a w K Q else E := by
  have hw : Region.wanted o (yielded ops a.tmps) = true := by simp [Region.wanted, hgd]
  rw [if_pos hw]
  exact wp_append_sl w s x t ho base i ht hi hz hsize hby v n xs hs hown A m c l hx hl S h63 hbytes hbase h
end
/-- A row of one element, just made. -/
theorem own_one (w : World) (base H : Nat) (x : Int) (hb : base ≤ w.heap.size) (hH : w.heap.size = H) : (w.alloc (.cells #[.int .i64 x] 3)).ownsRow base 3 1 (.slice (some ⟨H, 0, none⟩) 1 1) 1 [.int .i64 x] := by
  subst hH
  exact ⟨by simp, .inr ⟨w.heap.size, 1, #[.int .i64 x], rfl, hb, heap_alloc_new w _, by omega, by unfold maxLen; omega, by simp, by simp⟩⟩
end Go.Proofs.YtakfjdnpfhcgkaaGreatDoor
