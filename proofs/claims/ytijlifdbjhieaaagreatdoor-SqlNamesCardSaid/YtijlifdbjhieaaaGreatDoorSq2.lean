/-
  Facts of a text's tokens; the reader's fault is caught: contracts of Parse's deferred call; contract of sql.Parse.
-/
import Derived.Test.YtijlifdbjhieaaaGreatDoorSq1
import Derived.Defers
import Derived.Recover
namespace Go.Proofs.YtijlifdbjhieaaaGreatDoor
set_option linter.all false
open Go.RowKit Go.Shelf
attribute [local go_sem] cell_set_self lt_1 lt_2 lt_3 lt_4 lt_5 lt_6 fld_k fld_s fld_n fld_p

theorem ends_cons {t : Tok} {r : List Tok} (h : EndsT r) : EndsT (t :: r) := by
  obtain ⟨u, h1, h2⟩ := h
  cases r with
  | nil => cases h1
  | cons a l => exact ⟨u, by rw [List.getLast?_cons_cons]; exact h1, h2⟩
theorem lex_ends : ∀ (f p : Nat) (l : List UInt8), l.length ≤ f → EndsT (lexF (f + 1) p l)
  | f, p, [], _ => ⟨⟨101, [], 0, p⟩, rfl, by simp⟩
  | 0, p, c :: r, h => by simp at h
  | f + 1, p, c :: r, h => by
    cases hb : blankB c with
    | true => rw [lex_blank hb]; exact lex_ends f _ r (by simpa using h)
    | false =>
      by_cases hk : (nextF c r).1.k = 33
      · rw [lex_bad hb hk]
        exact ⟨_, rfl, by simp [Tk0.at, hk]⟩
      · rw [lex_tok hb hk]
        have := next_len c r
        exact ends_cons (lex_ends f _ _ (by simp at h ⊢; omega))
theorem quo_s : ∀ (n : Nat) (r : List UInt8) (i : Nat) (acc a : List UInt8) (m : Nat), r.length ≤ n → quoF r i acc = some (a, m) → a.length ≤ acc.length + r.length
  | 0, r, i, acc, a, m, hn, h => by
    obtain rfl : r = [] := List.eq_nil_of_length_eq_zero (by omega)
    rw [quoF.eq_def] at h; cases h
  | n + 1, [], i, acc, a, m, hn, h => by rw [quoF.eq_def] at h; cases h
  | n + 1, c :: r, i, acc, a, m, hn, h => by
    rw [quoF.eq_def] at h
    simp only at h
    split at h
    · cases r with
      | nil => injection h with h; injection h with h1 h2; subst h1; simp
      | cons d r' =>
        simp only at h
        split at h
        · have := quo_s n r' _ _ a m (by simp at hn; omega) h
          simp at this ⊢; omega
        · injection h with h; injection h with h1 h2; subst h1; simp
    · have := quo_s n r _ _ a m (by simp at hn; omega) h
      simp at this ⊢; omega
theorem next_s (c : UInt8) (r : List UInt8) : (nextF c r).1.s.length ≤ r.length + 2 := by
  unfold nextF
  split
  · unfold namedF
    split
    · split
      · simp; omega
      · simp [bad0]
    · split <;> simp [bad0]
  · split
    · unfold quotedF
      split
      · rename_i a n h
        have := quo_s _ r 1 [] a n (Nat.le_refl _) h
        split
        · simp at this ⊢; omega
        · simp [bad0]
      · simp [bad0]
    · split
      · simp
      · split <;> simp [bad0]
theorem lex_short : ∀ (f p : Nat) (l : List UInt8), ∀ t ∈ lexF f p l, t.s.length ≤ l.length + 1
  | 0, p, l, t, h => by simp [lexF] at h
  | f + 1, p, [], t, h => by rw [lex_over] at h; simp at h; subst h; simp
  | f + 1, p, c :: r, t, h => by
    cases hb : blankB c with
    | true =>
      rw [lex_blank hb] at h
      have := lex_short f _ r t h
      simp; omega
    | false =>
      have hs := next_s c r
      by_cases hk : (nextF c r).1.k = 33
      · rw [lex_bad hb hk] at h
        simp at h; subst h
        simp [Tk0.at]; omega
      · rw [lex_tok hb hk] at h
        rcases List.mem_cons.1 h with rfl | h
        · simp [Tk0.at]; omega
        · have := lex_short f _ _ t h
          simp at this ⊢; omega
theorem lexL_facts {L : List UInt8} (h : L.length ≤ 100000) : EndsT (lexL L) ∧ ShortT (lexL L) ∧ (lexL L).length ≤ L.length + 1 :=
  ⟨lex_ends _ _ _ (Nat.le_refl _), fun t ht => by have := lex_short _ _ _ t ht; omega, lex_len _ _ _⟩
-- SET15
set_option maxHeartbeats 8000000 in
theorem set15 {w : World} {b : Nat} {a0 a1 a2 a3 a4 a5 a6 a7 a8 a9 a10 a11 a12 a13 a14 : Value} {t : TypeId} (h : w.heap[b]? = some (.cells #[a0, a1, a2, a3, a4, a5, a6, a7, a8, a9, a10, a11, a12, a13, a14] t (0, 0))) (v0 v1 v2 v3 v4 v5 v6 v7 v8 v9 v10 v11 v12 v13 v14 : Value) :
    (((((((((((((((w.setCell ⟨b, 0, none⟩ v0).setCell ⟨b, 1, none⟩ v1).setCell ⟨b, 2, none⟩ v2).setCell ⟨b, 3, none⟩ v3).setCell ⟨b, 4, none⟩ v4).setCell ⟨b, 5, none⟩ v5).setCell ⟨b, 6, none⟩ v6).setCell ⟨b, 7, none⟩ v7).setCell ⟨b, 8, none⟩ v8).setCell ⟨b, 9, none⟩ v9).setCell ⟨b, 10, none⟩ v10).setCell ⟨b, 11, none⟩ v11).setCell ⟨b, 12, none⟩ v12).setCell ⟨b, 13, none⟩ v13).setCell ⟨b, 14, none⟩ v14).heap[b]? = some (.cells #[v0, v1, v2, v3, v4, v5, v6, v7, v8, v9, v10, v11, v12, v13, v14] t (0, 0)) := by
  have h9 := (set_at (set_at (set_at (set_at (set_at (set_at (set_at (set_at (set_at (set_at (set_at (set_at (set_at (set_at (set_at h 0 v0) 1 v1) 2 v2) 3 v3) 4 v4) 5 v5) 6 v6) 7 v7) 8 v8) 9 v9) 10 v10) 11 v11) 12 v12) 13 v13) 14 v14)
  simpa using h9
-- END15
set_option maxHeartbeats 4000000 in
set_option maxRecDepth 100000 in
theorem catch_fault (b2 b3 b4 p : Nat) (er : Int) (w : World) (h2 : w.heap[b2]? = some (.cells zeroQ 31 (0, 0))) (h3 : w.heap[b3]? = some (.cells #[.int .i64 0] 3 (0, 0))) (h4 : w.heap[b4]? = some (.cells #[.int .i64 0] 34 (0, 0))) (l3 : b2 < b3) (l4 : b3 < b4) :
    CallsD Tryz.prog 26 #[.pointer (some ⟨b2, 0, none⟩), .pointer (some ⟨b3, 0, none⟩), .pointer (some ⟨b4, 0, none⟩)] (.panicking (fltP p er)) w fun e u' w' => e = .returned (.tuple #[]) ∧ u' = .panicking [{ v := .iface 78 (.agg #[.int .i64 (p : Int), .int .i64 er]), recovered := true }] ∧ w'.heap[b2]? = some (.cells zeroQ 31 (0, 0)) ∧ w'.heap[b3]? = some (.cells #[.int .i64 (p : Int)] 3 (0, 0)) ∧ w'.heap[b4]? = some (.cells #[.int .i64 er] 34 (0, 0)) ∧ Below b2 w w' := by
  refine callsD_of_wpS Tryz.func26 rfl fun c₀ cs hu => ?_
  have hz2 : w.heap.size ≠ b2 ∧ ¬ b2 = b3 ∧ ¬ b3 = b2 ∧ ¬ b2 = b4 ∧ ¬ b4 = b2 ∧ ¬ b3 = b4 ∧ ¬ b4 = b3 ∧ b2 < w.heap.size ∧ b3 < w.heap.size ∧ b4 < w.heap.size := by
    have e2 := (Array.getElem?_eq_some_iff.1 h2).1
    have e3 := (Array.getElem?_eq_some_iff.1 h3).1
    have e4 := (Array.getElem?_eq_some_iff.1 h4).1
    omega
  obtain ⟨c3, f3⟩ := qbox (l := [.int .i64 0]) h3 0 _ rfl
  obtain ⟨c4, f4⟩ := qbox (l := [.int .i64 0]) h4 0 _ rfl
  obtain ⟨cz0, fz0⟩ := qbox (l := zeroQ.toList) h2 0 _ rfl
  obtain ⟨cz1, fz1⟩ := qbox (l := zeroQ.toList) h2 1 _ rfl
  obtain ⟨cz2, fz2⟩ := qbox (l := zeroQ.toList) h2 2 _ rfl
  obtain ⟨cz3, fz3⟩ := qbox (l := zeroQ.toList) h2 3 _ rfl
  obtain ⟨cz4, fz4⟩ := qbox (l := zeroQ.toList) h2 4 _ rfl
  obtain ⟨cz5, fz5⟩ := qbox (l := zeroQ.toList) h2 5 _ rfl
  obtain ⟨cz6, fz6⟩ := qbox (l := zeroQ.toList) h2 6 _ rfl
  obtain ⟨cz7, fz7⟩ := qbox (l := zeroQ.toList) h2 7 _ rfl
  obtain ⟨cz8, fz8⟩ := qbox (l := zeroQ.toList) h2 8 _ rfl
  obtain ⟨cz9, fz9⟩ := qbox (l := zeroQ.toList) h2 9 _ rfl
  obtain ⟨cz10, fz10⟩ := qbox (l := zeroQ.toList) h2 10 _ rfl
  obtain ⟨cz11, fz11⟩ := qbox (l := zeroQ.toList) h2 11 _ rfl
  obtain ⟨cz12, fz12⟩ := qbox (l := zeroQ.toList) h2 12 _ rfl
  obtain ⟨cz13, fz13⟩ := qbox (l := zeroQ.toList) h2 13 _ rfl
  obtain ⟨cz14, fz14⟩ := qbox (l := zeroQ.toList) h2 14 _ rfl
  have H2 := Lib.hid h2
  have H3 := Lib.hid h3
  have H4 := Lib.hid h4
  clear h2 h3 h4
  unfold fltP at hu
  apply wpS_seq
  apply wpS_region
  simp [wpOpsS, go_sem, recoverD, hu, Tryz.ntmps26, Exit.thenS]
  refine wpS_of_wp ?_
  have TA : ∀ (v : Value) (x : TypeId) (W : World), (Instr.typeAssert (.iface 78 v) x 78 true).run Tryz.prog W = .ok (.tuple #[v, .bool true]) W := fun v x W => by simp [Instr.typeAssert, run_underlying Tryz.underlying78, go_sem, Result.andThen]
  generalize hT : (#[Value.pointer (some ⟨b2, 0, none⟩), Value.pointer (some ⟨b3, 0, none⟩), Value.pointer (some ⟨b4, 0, none⟩)] ++ _ : Array Value) = T
  obtain rfl : T = #[.pointer (some ⟨b2, 0, none⟩), .pointer (some ⟨b3, 0, none⟩), .pointer (some ⟨b4, 0, none⟩), undef, undef, undef, .iface 78 (.agg #[.int .i64 (p : Int), .int .i64 er]), undef, undef, undef, undef, undef, undef, undef, undef, undef, undef] := by rw [← hT]; rfl
  clear hT
  go_wp2_with (fail)
  go_big_region
  go_wp2
  have al := fun (X : World) (o : Obj) (k : Nat) (h : k < X.heap.size) => show (X.alloc o).drew.heap[k]? = X.heap[k]? from ((Below.refl _ X).alloc (Nat.le_refl _) o).block k h
  refine ⟨rfl, _, rfl, .tuple #[], by simp [results, Tryz.f26, go_sem], rfl, rfl, ?_, ?_, ?_, ?_⟩
  · exact (al _ _ _ (by simp; omega)).trans ((setCell_block _ _ _ _ (by omega)).trans ((setCell_block _ _ _ _ (by omega)).trans (set15 H2.out _ _ _ _ _ _ _ _ _ _ _ _ _ _ _)))
  · refine (al _ _ _ (by simp; omega)).trans ((setCell_block _ _ _ _ (by omega)).trans (set_at (cs := #[.int .i64 0]) ?_ 0 _))
    repeat (first | (with_reducible exact H3.out) | (with_reducible refine (setCell_block _ _ _ _ (by omega)).trans ?_))
  · refine (al _ _ _ (by simp; omega)).trans (set_at (cs := #[.int .i64 0]) ?_ 0 _)
    repeat (first | (with_reducible exact H4.out) | (with_reducible refine (setCell_block _ _ _ _ (by omega)).trans ?_))
  · repeat (first | (with_reducible exact Below.refl _ _) | (with_reducible refine Below.drew ?_) | (with_reducible refine Below.alloc ?_ (by simp; omega) _) | (with_reducible refine Below.setCell ?_ (by dsimp only; omega) _))
set_option maxHeartbeats 1000000 in
set_option maxRecDepth 100000 in
theorem catch_idle (b2 b3 b4 : Nat) (w : World) :
    CallsD Tryz.prog 26 #[.pointer (some ⟨b2, 0, none⟩), .pointer (some ⟨b3, 0, none⟩), .pointer (some ⟨b4, 0, none⟩)] .returning w fun e u' w' => e = .returned (.tuple #[]) ∧ u' = .returning ∧ w' = w := by
  refine callsD_of_wpS Tryz.func26 rfl fun c₀ cs hu => ?_
  apply wpS_seq
  apply wpS_region
  simp [wpOpsS, go_sem, recoverD, hu, Tryz.ntmps26, Exit.thenS]
  refine wpS_of_wp ?_
  generalize hT : (#[Value.pointer (some ⟨b2, 0, none⟩), Value.pointer (some ⟨b3, 0, none⟩), Value.pointer (some ⟨b4, 0, none⟩)] ++ _ : Array Value) = T
  obtain rfl : T = #[.pointer (some ⟨b2, 0, none⟩), .pointer (some ⟨b3, 0, none⟩), .pointer (some ⟨b4, 0, none⟩), undef, undef, undef, .nilIface, undef, undef, undef, undef, undef, undef, undef, undef, undef, undef] := by rw [← hT]; rfl
  clear hT
  go_wp2
  exact ⟨rfl, .returning, by rw [← hu], .tuple #[], by simp [results, Tryz.f26, go_sem], rfl, rfl, rfl⟩
end Go.Proofs.YtijlifdbjhieaaaGreatDoor
