/-
  Sizes of queries that are small, and of those that are read; what is read lies in memory.
-/
import Derived.Test.YtijlifdbjhieaaaGreatDoorSg3
import Derived.Test.YtijlifdbjhieaaaGreatDoorSg4
import Derived.Test.YtijlifdbjhieaaaGreatDoorSf12
import Derived.Test.YtijlifdbjhieaaaGreatDoorRs1
import Derived.Lib.ItoaLen
namespace Go.Proofs.YtijlifdbjhieaaaGreatDoor
set_option linter.all false
open Go.RowKit Go.Shelf

theorem cap_of {W : World} {base size n m c : Nat} {e : TypeId} {A : Option Addr} {xs : List Value} (h : W.ownsRow base e size (.slice A m c) n xs) : n ≤ c ∧ (A = none → c = 0) := by
  rcases h.2 with ⟨e1, h0⟩ | ⟨g, cap, cur, e1, -, -, hn, -⟩
  · injection e1 with e1 e2 e3; subst e1 e3; exact ⟨by omega, fun _ => rfl⟩
  · injection e1 with e1 e2 e3; subst e1 e3; exact ⟨hn, fun e => by cases e⟩
theorem enc_qv {w W : World} {q : QueryT} {V : Value} (h : encQ w q W V) : ∃ AI cI AG cG AO cO cs, V = .agg (qCells AI q.items.length cI q.table cs AG q.group.length cG AO q.order.length cO q.limit).toArray ∧ QV W q AI AG AO cs ∧ q.group.length ≤ cG ∧ (AG = none → cG = 0) := by
  obtain ⟨AI, cI, AG, cG, AO, cO, cs, rfl, h1, h2, h3, h4⟩ := h
  obtain ⟨A', c', e, -, hS⟩ := own_strs h2
  injection e with e1 e2 e3; subst e1
  exact ⟨AI, cI, AG, cG, AO, cO, cs, rfl, ⟨(own_items h1).1, hS, (own_orders h3).1, h4.mono fun _ _ _ => trivial⟩, (cap_of h2).1, (cap_of h2).2⟩
theorem sh_of_lt {B : Nat} (hB : B ≤ 9223372036854775807) : ∀ {c : CondT}, LtC B c → ShC c
  | .mk op args l r, h => by
    unfold LtC at h
    unfold ShC
    obtain ⟨⟨h1, h2, h3, h4, -⟩, h6⟩ := h
    refine ⟨⟨by omega, by omega, by omega, by omega⟩, ?_⟩
    exact lst h6
where lst : ∀ {l : List CondT}, LtL B l → ShL l
  | [], _ => by unfold ShL; trivial
  | c :: l, h => by
    unfold LtL at h
    unfold ShL
    exact ⟨sh_of_lt hB h.1, lst h.2⟩
theorem lt_bare : ∀ c, fineC c = true → LtC 1000000 (bareC c) := by
  have tt : ∀ t, termB t = true → (bareT t).col.length ≤ 1000000 ∧ (bareT t).s.length ≤ 1000000 := by
    intro t ht
    unfold termB at ht
    unfold bareT
    by_cases h1 : t.ty = 1
    · rw [if_pos h1]; simp
    · rw [if_neg h1]
      by_cases h2 : t.ty = 2
      · rw [if_pos h2]
        rw [if_neg (by omega), if_neg h1] at ht
        simp only [Bool.and_eq_true, textB, decide_eq_true_eq] at ht
        simp only [List.length_nil]
        omega
      · rw [if_neg h2]
        by_cases h0 : t.ty = 0
        · rw [if_pos h0] at ht
          simp only [nameB, Bool.and_eq_true, decide_eq_true_eq] at ht
          simp only [List.length_nil]
          omega
        · rw [if_neg h0, if_neg h1] at ht
          simp [h2] at ht
  have t0 : (term0.col.length ≤ 1000000 ∧ term0.s.length ≤ 1000000) := by decide
  refine Pl.fine_ind ?_ ?_ ?_ ?_
  · intro a b l r _ _ ha hb
    rw [Pl.bare_or]; unfold LtC LtL LtL LtL
    exact ⟨⟨by decide, by decide, by decide, by decide, by simp⟩, ha, hb, trivial⟩
  · intro a b l r _ _ ha hb
    rw [Pl.bare_and]; unfold LtC LtL LtL LtL
    exact ⟨⟨by decide, by decide, by decide, by decide, by simp⟩, ha, hb, trivial⟩
  · intro a l r _ ha
    rw [Pl.bare_not]; unfold LtC LtL LtL
    exact ⟨⟨by decide, by decide, by decide, by decide, by simp⟩, ha, trivial⟩
  · intro op l r h4 h9 hl hr
    rw [Pl.bare_cmp h4]; unfold LtC LtL
    exact ⟨⟨(tt l hl).1, (tt l hl).2, (tt r hr).1, (tt r hr).2, by simp⟩, trivial⟩
theorem cond0_of {c : CondT} (h : c.op = 0) (hb : bareC c = c) : c = cond0 := by
  cases c with
  | mk op args l r =>
    have h' : op = 0 := h
    rw [← hb, bareC.eq_def]; simp only; rw [if_pos h']
theorem lt_read {q : QueryT} (F : Pl.FormQ q) (hb : bareQ q = q) : LtC 1000000 q.wh := by
  have hb' : bareC q.wh = q.wh := congrArg QueryT.wh hb
  by_cases h : q.wh.op = 0
  · rw [cond0_of h hb']; unfold cond0 LtC LtL
    exact ⟨⟨by decide, by decide, by decide, by decide, by simp⟩, trivial⟩
  · rw [← hb']; exact lt_bare _ (F.wf h)
theorem short_read {q : QueryT} (F : Pl.FormQ q) (hb : bareQ q = q) : QShort q := by
  have hb' : bareC q.wh = q.wh := congrArg QueryT.wh hb
  refine ⟨fun x hx => ?_, ?_, fun x hx => ?_, fun x hx => ?_, sh_of_lt (by decide) (lt_read F hb), ?_, by have := F.i1; omega, by have := F.g1; omega, by have := F.o1; omega⟩
  · have := Pl.item_len (F.it x hx); omega
  · have := Pl.name_len F.tb; omega
  · have := Pl.name_len (F.gr x hx); omega
  · have := Pl.name_len (F.od x hx); omega
  · by_cases h : q.wh.op = 0
    · rw [cond0_of h hb']; decide
    · have := F.wd h; omega
mutual
theorem depth_sz : ∀ c : CondT, depthC c ≤ szC c
  | .mk op args l r => by
    have := depthL_sz args
    rw [depthC, szC]
    have h1 : 1 ≤ szN args l r := by unfold szN; omega
    split <;> omega
theorem depthL_sz : ∀ l : List CondT, depthL l ≤ szL l
  | [] => by simp [depthL, szL]
  | c :: l => by
    have h1 := depth_sz c
    have h2 := depthL_sz l
    rw [depthL, szL]
    omega
theorem lt_sz : ∀ c : CondT, szC c ≤ 200 → LtC 1000000 c
  | .mk op args l r, h => by
    rw [szC] at h
    unfold LtC
    have h1 : szN args l r = 1 + (l.col.length + l.s.length + r.col.length + r.s.length) / 20 + args.length / 20 := rfl
    exact ⟨⟨by omega, by omega, by omega, by omega, by omega⟩, ltL_sz args (by omega)⟩
theorem ltL_sz : ∀ l : List CondT, szL l ≤ 200 → LtL 1000000 l
  | [], _ => by unfold LtL; trivial
  | c :: l, h => by
    rw [szL] at h
    unfold LtL
    exact ⟨lt_sz c (by omega), ltL_sz l (by omega)⟩
end
theorem short_sm {q : QueryT} (S : QSm q) : QShort q := by
  refine ⟨fun x hx => ?_, by have := S.tb; omega, fun x hx => ?_, fun x hx => ?_, sh_of_lt (by decide) (lt_sz _ S.wh), ?_, by have := S.ni; omega, by have := S.ng; omega, by have := S.no; omega⟩
  · obtain ⟨i, hi⟩ := List.getElem?_of_mem hx
    have := S.it i x hi; omega
  · obtain ⟨i, hi⟩ := List.getElem?_of_mem hx
    have := S.gr i x hi; omega
  · obtain ⟨i, hi⟩ := List.getElem?_of_mem hx
    have := S.od i x hi; omega
  · have h1 := depth_sz q.wh; have h2 := S.wh; omega
/-- How long a small query's text is. -/
theorem dbl_len2 : ∀ (l : List UInt8), (dblQ l).length ≤ 2 * l.length
  | [] => by simp [dblQ]
  | c :: r => by
    have := dbl_len2 r
    unfold dblQ
    split <;> (simp; omega)
theorem term_len {t : TermT} (h : termB t = true) : (termX t).length ≤ 202 := by
  unfold termB at h
  unfold termX
  by_cases h0 : t.ty = 0
  · rw [if_pos h0] at h ⊢
    simp only [nameB, Bool.and_eq_true, decide_eq_true_eq] at h
    omega
  · rw [if_neg h0] at h ⊢
    by_cases h1 : t.ty = 1
    · rw [if_pos h1] at h ⊢
      simp only [Bool.and_eq_true, decide_eq_true_eq] at h
      have := Lib.itoa_length_le t.n (by omega) (by omega)
      omega
    · rw [if_neg h1] at h ⊢
      simp only [Bool.and_eq_true, textB, decide_eq_true_eq] at h
      have := dbl_len2 t.s
      simp only [List.length_append, List.length_cons, List.length_nil]
      omega
theorem sgn_len {op : Int} (h4 : 4 ≤ op) (h9 : op ≤ 9) : (sgnX op).length ≤ 2 := by
  have : op = 4 ∨ op = 5 ∨ op = 6 ∨ op = 7 ∨ op = 8 ∨ op = 9 := by omega
  rcases this with rfl | rfl | rfl | rfl | rfl | rfl <;> decide
theorem text_len : ∀ c, fineC c = true → (condX c).length ≤ 420 * szC c := by
  have s2 : ∀ a b : CondT, szL [a, b] = szC a + szC b := fun a b => by simp [szL]
  have s1 : ∀ a : CondT, szL [a] = szC a := fun a => by simp [szL]
  refine Pl.fine_ind ?_ ?_ ?_ ?_
  · intro a b l r _ _ ha hb
    have hn : 1 ≤ szN [a, b] l r := by unfold szN; omega
    have := (Pl.par_le (Pl.orP b) (condX b)).2
    rw [Pl.condX_or, szC, s2]
    simp only [List.length_append, List.length_cons, List.length_nil]
    omega
  · intro a b l r _ _ ha hb
    have hn : 1 ≤ szN [a, b] l r := by unfold szN; omega
    have h1 := (Pl.par_le (Pl.orP a) (condX a)).2
    have h2 := (Pl.par_le (Pl.andP b) (condX b)).2
    rw [Pl.condX_and, szC, s2]
    simp only [List.length_append, List.length_cons, List.length_nil]
    omega
  · intro a l r _ ha
    have hn : 1 ≤ szN [a] l r := by unfold szN; omega
    have h1 := (Pl.par_le (Pl.andP a) (condX a)).2
    rw [Pl.condX_not, szC, s1]
    simp only [List.length_append, List.length_cons, List.length_nil]
    omega
  · intro op l r h4 h9 hl hr
    have hn : 1 ≤ szN [] l r := by unfold szN; omega
    have h1 := term_len hl
    have h2 := term_len hr
    have h3 := sgn_len h4 h9
    rw [Pl.condX_cmp h4, szC]
    simp only [List.length_append, List.length_cons, List.length_nil]
    omega
theorem join_le (m : Nat) : ∀ (l : List (List UInt8)), (∀ x ∈ l, x.length ≤ m) → (Lib.join l [44, 32]).length ≤ l.length * (m + 2)
  | [], _ => by simp [Lib.join_nil]
  | [x], h => by rw [Lib.join_one]; have := h x (by simp); simp; omega
  | x :: y :: t, h => by
    rw [Pl.join_two]
    have h1 := h x (by simp)
    have h2 := join_le m (y :: t) (fun z hz => h z (by simp [List.mem_cons.1 hz]))
    have e : (x :: y :: t).length * (m + 2) = (m + 2) + (y :: t).length * (m + 2) := by
      rw [List.length_cons, Nat.add_mul, Nat.one_mul, Nat.add_comm]
    rw [e]
    simp only [List.length_append, List.length_cons, List.length_nil] at h2 ⊢
    omega
theorem name_30 {s : List UInt8} (h : nameB s = true) : s.length ≤ 30 := by
  simp only [nameB, Bool.and_eq_true, decide_eq_true_eq] at h
  exact h.1.1.1.2
theorem itemX_len {x : ItemT} (h : itemB x = true) : (itemX x).length ≤ 40 := by
  unfold itemB at h
  unfold itemX
  split at h
  · rename_i hc
    simp only [decide_eq_true_eq] at h
    rw [hc, h]; decide
  · split at h
    · rename_i hh
      have h30 := name_30 h
      split
      · omega
      · have hl : x.agg.length ≤ 5 := by rcases hh with e | e | e | e <;> rw [e] <;> decide
        simp only [List.length_append, List.length_cons, List.length_nil]
        omega
    · cases h
theorem orderX_len {o : OrderT} (h : nameB o.col = true) : (orderX o).length ≤ 40 := by
  have h30 := name_30 h
  unfold orderX
  split
  · simp only [List.length_append, List.length_cons, List.length_nil]; omega
  · omega
theorem query_len {q : QueryT} (S : QSm q) (F : Pl.FormQ q) : (queryX q).length ≤ 1000000000 := by
  have h1 := join_le 40 (q.items.map itemX) (fun y hy => by obtain ⟨x, hx, rfl⟩ := List.mem_map.1 hy; exact itemX_len (F.it x hx))
  have h2 := join_le 40 q.group (fun y hy => by have := name_30 (F.gr y hy); omega)
  have h3 := join_le 40 (q.order.map orderX) (fun y hy => by obtain ⟨x, hx, rfl⟩ := List.mem_map.1 hy; exact orderX_len (F.od x hx))
  have h4 := name_30 F.tb
  have h5 : q.wh.op ≠ 0 → (condX q.wh).length ≤ 84000 := fun h => by have := text_len q.wh (F.wf h); have := S.wh; omega
  have h6 := Lib.itoa_length_le q.limit (by have := F.l0; omega) (by have := F.l1; omega)
  have i1 := F.i1; have g1 := F.g1; have o1 := F.o1
  rw [List.length_map] at h1 h3
  have e1 : q.items.length * (40 + 2) ≤ 840 := by omega
  have e2 : q.group.length * (40 + 2) ≤ 840 := by omega
  have e3 : q.order.length * (40 + 2) ≤ 840 := by omega
  have w1 : (if q.wh.op = 0 then ([] : List UInt8) else [32, 119, 104, 101, 114, 101, 32] ++ condX q.wh).length ≤ 84007 := by
    split
    · simp
    · rename_i h; have := h5 h; simp only [List.length_append, List.length_cons, List.length_nil]; omega
  have w2 : (if q.group = [] then ([] : List UInt8) else [32, 103, 114, 111, 117, 112, 32, 98, 121, 32] ++ Lib.join q.group [44, 32]).length ≤ 850 := by
    split
    · simp
    · simp only [List.length_append, List.length_cons, List.length_nil]; omega
  have w3 : (if q.order = [] then ([] : List UInt8) else [32, 111, 114, 100, 101, 114, 32, 98, 121, 32] ++ Lib.join (q.order.map orderX) [44, 32]).length ≤ 850 := by
    split
    · simp
    · simp only [List.length_append, List.length_cons, List.length_nil]; omega
  have w4 : (if 0 ≤ q.limit then [32, 108, 105, 109, 105, 116, 32] ++ Lib.itoa q.limit else []).length ≤ 28 := by
    split
    · simp only [List.length_append, List.length_cons, List.length_nil]; omega
    · simp
  unfold queryX
  simp only [List.length_append, List.length_cons, List.length_nil] at w1 w2 w3 w4 ⊢
  omega
end Go.Proofs.YtijlifdbjhieaaaGreatDoor
