/-
  Slices of requests: as memory, as rows that grow; requests printed one behind the other; what http.Format and http.Parse say of one.
-/
import Derived.Test.YtkaimfeiahogaaaGreatDoorHw3
import Derived.Test.YtkaimfeiahogaaaGreatDoorHs3
namespace Go.Proofs.YtkaimfeiahogaaaGreatDoor
set_option linter.all false
open Go.RowKit Go.Shelf

/-- A request that lies in memory. -/
structure Rq where
  m : List UInt8
  p : List UInt8
  A : Option Addr
  n : Nat
  c : Nat
  l : List UInt8
  cl : Bool
def RqL (w : World) (A : Option Addr) (rs : List Rq) : Prop :=
  ∀ (i : Nat) (t : Rq), rs[i]? = some t → ∃ b off, A = some ⟨b, off, none⟩ ∧ b < w.heap.size ∧ w.cell? ⟨b, off + i * 4, none⟩ = some (.string ⟨t.m.toArray⟩) ∧ w.cell? ⟨b, off + i * 4 + 1, none⟩ = some (.string ⟨t.p.toArray⟩) ∧
    w.cell? ⟨b, off + i * 4 + 2, none⟩ = some (.slice t.A t.n t.c) ∧ w.cell? ⟨b, off + i * 4 + 3, none⟩ = some (.bool t.cl) ∧ Bs w t.A t.c t.l ∧ t.l.length = t.n
theorem RqL.below {w W : World} {A : Option Addr} {rs : List Rq} (T : RqL w A rs) (h : Below w.heap.size w W) : RqL W A rs := fun i t hi => by
  obtain ⟨b, off, hA, hb, c0, c1, c2, c3, hB, hn⟩ := T i t hi
  exact ⟨b, off, hA, Nat.lt_of_lt_of_le hb h.size, (h.cell (p := ⟨b, _, none⟩) hb).trans c0, (h.cell (p := ⟨b, _, none⟩) hb).trans c1, (h.cell (p := ⟨b, _, none⟩) hb).trans c2, (h.cell (p := ⟨b, _, none⟩) hb).trans c3, hB.below h, hn⟩
def cellsR (l : List Rq) : List Value := l.flatMap fun t => [.string ⟨t.m.toArray⟩, .string ⟨t.p.toArray⟩, .slice t.A t.n t.c, .bool t.cl]
theorem cellsR_app (a b : List Rq) : cellsR (a ++ b) = cellsR a ++ cellsR b := by simp [cellsR]
theorem cellsR_length (l : List Rq) : (cellsR l).length = l.length * 4 := by
  induction l with
  | nil => rfl
  | cons p l ih => simp only [cellsR, List.flatMap_cons, List.length_append, List.length_cons, List.length_nil] at ih ⊢; omega
theorem cellsR_at : ∀ {l : List Rq} {i : Nat} {t : Rq}, l[i]? = some t → (cellsR l)[i * 4]? = some (.string ⟨t.m.toArray⟩) ∧ (cellsR l)[i * 4 + 1]? = some (.string ⟨t.p.toArray⟩) ∧ (cellsR l)[i * 4 + 2]? = some (.slice t.A t.n t.c) ∧ (cellsR l)[i * 4 + 3]? = some (.bool t.cl)
  | [], i, p, h => by simp at h
  | q :: l, 0, p, h => by simp at h; subst h; simp [cellsR]
  | q :: l, i + 1, p, h => by
    have ih := cellsR_at (l := l) (i := i) (t := p) (by simpa using h)
    have e : ∀ j, (cellsR (q :: l))[j + 4]? = (cellsR l)[j]? := fun j => rfl
    rw [show (i + 1) * 4 = i * 4 + 4 by omega, show i * 4 + 4 + 1 = (i * 4 + 1) + 4 by omega, show i * 4 + 4 + 2 = (i * 4 + 2) + 4 by omega, show i * 4 + 4 + 3 = (i * 4 + 3) + 4 by omega, e, e, e, e]
    exact ih
theorem own_rq {w : World} {base n : Nat} {v : Value} {l : List Rq} (h : w.ownsRow base 25 4 v n (cellsR l)) (hl : l.length = n) (hb : ∀ t ∈ l, Bs w t.A t.c t.l ∧ t.l.length = t.n) : ∃ A c, v = .slice A n c ∧ n ≤ c ∧ (A = none → n = 0) ∧ RqL w A l := by
  rcases h.2 with ⟨rfl, h0⟩ | ⟨g, cap, cur, rfl, hg, hh, hnc, _⟩
  · subst h0
    obtain rfl : l = [] := List.eq_nil_of_length_eq_zero hl
    exact ⟨none, 0, rfl, Nat.le_refl _, fun _ => rfl, fun i v hi => by simp at hi⟩
  · refine ⟨_, _, rfl, hnc, (fun e => by cases e), fun i t hi => ?_⟩
    obtain ⟨h1, h2, h3, h4⟩ := cellsR_at hi
    have hc := h.cells (g := g) rfl
    have ea : ∀ j, (Addr.add ⟨g, 0, none⟩ j) = ⟨g, 0 + j, none⟩ := fun j => by unfold Addr.add; split <;> simp_all
    have lt : g < w.heap.size := (h.lt g rfl).2
    obtain ⟨k1, k2⟩ := hb t (List.mem_of_getElem? hi)
    refine ⟨g, 0, rfl, lt, ?_, ?_, ?_, ?_, k1, k2⟩
    · have := hc _ _ h1; rwa [ea] at this
    · have := hc _ _ h2; rwa [ea] at this
    · have := hc _ _ h3; rwa [ea] at this
    · have := hc _ _ h4; rwa [ea] at this
/-- Two rows of elements of different types lie in different blocks. -/
theorem row_apart {w : World} {b1 b2 : Nat} {e1 e2 : TypeId} {s1 s2 n1 n2 : Nat} {v1 v2 : Value} {x1 x2 : List Value} (h1 : w.ownsRow b1 e1 s1 v1 n1 x1) (h2 : w.ownsRow b2 e2 s2 v2 n2 x2) (he : e1 ≠ e2) : v1.ownBlock = none ∨ v1.ownBlock ≠ v2.ownBlock := by
  rcases h1.2 with ⟨rfl, _⟩ | ⟨g, cap, cur, rfl, _, hg, _⟩
  · exact .inl rfl
  · refine .inr fun e => ?_
    rcases h2.2 with ⟨rfl, _⟩ | ⟨g', cap', cur', rfl, _, hg', _⟩
    · simp [Value.ownBlock] at e
    · simp [Value.ownBlock] at e
      subst e
      rw [hg] at hg'
      simp at hg'
      exact he hg'.2
theorem grown_of_below {w w' : World} (hb : Below w.heap.size w w') : w.grownBy w' none := ⟨hb.os, hb.tape, hb.output, hb.size, fun i hi _ => hb.block i hi⟩
theorem info_req : (Tryz.prog.info? 25).map (fun i => (i.zero, i.size, i.bytes)) = some (some (.agg #[.string ⟨#[]⟩, .string ⟨#[]⟩, .slice none 0 0, .bool false]), 4, 64) := by kernel_rfl
/-- It is printed. -/
def okR (t : Rq) : Bool := decide (fmtE t.m t.p t.l.length = 0)
/-- Its bytes. -/
def prn (t : Rq) : List UInt8 := fmtH t.m t.p t.l.length t.cl ++ t.l
theorem parse_prn {t : Rq} (h : okR t = true) (r : List UInt8) : ∃ st, parseF (prn t ++ r) = .done st (t.l ++ r) ∧ st.m = t.m ∧ st.p = t.p ∧ st.close = t.cl ∧ st.len = t.l.length := by
  obtain ⟨s, h1, h2, h3, h4, h5⟩ := head_fmt t.cl (of_decide_eq_true h)
  refine ⟨s, ?_, h2, h3, h4, h5⟩
  have := parse_head (t := t.l ++ r) h1 (by rw [h5]; simp)
  unfold prn
  rw [List.append_assoc]
  exact this
theorem prn_len {t : Rq} (h : okR t = true) (hn : t.l.length ≤ 40000) : (prn t).length ≤ 44000 := by
  have := fmtH_len t.cl (of_decide_eq_true h)
  unfold prn; rw [List.length_append]; omega
theorem fmt_ok (t : Rq) (h : okR t = true) (hp : t.p.length ≤ 4000) (hn : t.l.length ≤ 4000) (hl : t.l.length = t.n) (w : World) (E : Env w) (T : Bs w t.A t.c t.l) :
    Calls Tryz.prog 17 #[rqB t.m t.p t.A t.n t.c t.cl] w fun e w' => (∃ A' c', e = .returned (.tuple #[.slice A' (prn t).length c', .int .i64 0]) ∧ BsN w.heap.size w' A' c' (prn t)) ∧ Below w.heap.size w w' := by
  have h0 : fmtE t.m t.p t.n = 0 := by rw [← hl]; exact of_decide_eq_true h
  have hO : fmtO t.m t.p t.n t.cl t.l = prn t := by unfold fmtO prn; rw [if_pos h0, hl]
  have := format_any t.m t.p t.cl t.A t.n t.c t.l hl (by omega) (by omega) _ rfl w E T
  rw [hO, h0] at this
  exact this
theorem fmt_no (t : Rq) (h : okR t = false) (hp : t.p.length ≤ 4000) (hn : t.l.length ≤ 4000) (hl : t.l.length = t.n) (w : World) :
    Calls Tryz.prog 17 #[rqB t.m t.p t.A t.n t.c t.cl] w fun e w' => (∃ x, e = .returned (.tuple #[.slice none 0 0, .int .i64 x]) ∧ (x == 0) = false) ∧ Below w.heap.size w w' := by
  have h0 : fmtE t.m t.p t.n ≠ 0 := by rw [← hl]; exact of_decide_eq_false h
  refine (format_bad t.m t.p t.cl t.A t.n t.c (by omega) (by omega) h0 w).mono ?_
  rintro e w' ⟨rfl, hb⟩
  exact ⟨⟨_, rfl, beq_eq_false_iff_ne.2 h0⟩, hb⟩
theorem pcall_prn (t : Rq) (h : okR t = true) (hl : t.l.length = t.n) (r : List UInt8) (A : Option Addr) (n c : Nat) (hn : (prn t ++ r).length = n) (hn9 : n ≤ 1000000000) (N : Nat) (hN : (prn t).length = N) (w : World) (E : Env w) (T : Bs w A c (prn t ++ r)) :
    Calls Tryz.prog 11 #[.slice A n c] w fun e w' => (∃ A' c', e = .returned (.tuple #[rqB t.m t.p A' t.n c' t.cl, .int .i64 (N : Int), .bool true, .int .i64 0]) ∧ BsN w.heap.size w' A' c' t.l) ∧ Below w.heap.size w w' := by
  obtain ⟨st, h1, h2, h3, h4, h5⟩ := parse_prn h r
  have hN' : n - (t.l ++ r).length + st.len = N := by
    rw [← hn, ← hN, h5]; unfold prn; simp only [List.length_append]; omega
  have := pcall_done A n c (prn t ++ r) hn hn9 w E T h1 N hN'
  rw [h2, h3, h4, h5, hl] at this
  rw [show (t.l ++ r).take t.n = t.l by rw [← hl]; simp] at this
  exact this
end Go.Proofs.YtkaimfeiahogaaaGreatDoor
