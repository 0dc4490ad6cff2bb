/-
  Sizes of queries that are small, and of those that are read; what is read lies in memory.
-/
import Derived.Test.YtijlifdbjhieaaaGreatDoorSg3a
import Derived.Test.YtijlifdbjhieaaaGreatDoorSg1
import Derived.Test.YtijlifdbjhieaaaGreatDoorSf7
import Derived.Test.YtijlifdbjhieaaaGreatDoorQh
import Derived.Test.YtijlifdbjhieaaaGreatDoorSf12
import Derived.Test.YtijlifdbjhieaaaGreatDoorRs1
import Derived.Lib.ItoaLen
namespace Go.Proofs.YtijlifdbjhieaaaGreatDoor
set_option linter.all false
open Go.RowKit Go.Shelf

theorem cap_of {W : World} {base size n m c : Nat} {e : TypeId} {A : Option Addr} {xs : List Value} (h : W.ownsRow base e size (.slice A m c) n xs) : n ≤ c ∧ (A = none → c = 0) := by
  rcases h.2 with ⟨e1, h0⟩ | ⟨g, cap, cur, e1, -, -, hn, -⟩
  · injection e1 with e1 e2 e3; subst e1 e3; exact ⟨by omega, fun _ => rfl⟩
  · injection e1 with e1 e2 e3; subst e1 e3; exact ⟨hn, fun e => by cases e⟩
theorem enc_qv {w W : World} {q : QueryT} {V : Value} (h : encQ w q W V) : ∃ AI cI AG cG AO cO cs, V = .agg (qCells AI q.items.length cI q.table cs AG q.group.length cG AO q.order.length cO q.limit).toArray ∧ QV W q AI AG AO cs ∧ q.group.length ≤ cG ∧ (AG = none → cG = 0) := by
  obtain ⟨AI, cI, AG, cG, AO, cO, cs, rfl, h1, h2, h3, h4⟩ := h
  obtain ⟨A', c', e, -, hS⟩ := own_strs h2
  injection e with e1 e2 e3; subst e1
  exact ⟨AI, cI, AG, cG, AO, cO, cs, rfl, ⟨(own_items h1).1, hS, (own_orders h3).1, h4.mono fun _ _ _ => trivial⟩, (cap_of h2).1, (cap_of h2).2⟩
theorem sh_of_lt {B : Nat} (hB : B ≤ 9223372036854775807) : ∀ {c : CondT}, LtC B c → ShC c
  | .mk op args l r, h => by
    unfold LtC at h
    unfold ShC
    obtain ⟨⟨h1, h2, h3, h4, -⟩, h6⟩ := h
    refine ⟨⟨by omega, by omega, by omega, by omega⟩, ?_⟩
    exact lst h6
where lst : ∀ {l : List CondT}, LtL B l → ShL l
  | [], _ => by unfold ShL; trivial
  | c :: l, h => by
    unfold LtL at h
    unfold ShL
    exact ⟨sh_of_lt hB h.1, lst h.2⟩
theorem lt_bare : ∀ c, fineC c = true → LtC 1000000 (bareC c) := by
  have tt : ∀ t, termB t = true → (bareT t).col.length ≤ 1000000 ∧ (bareT t).s.length ≤ 1000000 := by
    intro t ht
    unfold termB at ht
    unfold bareT
    by_cases h1 : t.ty = 1
    · rw [if_pos h1]; simp
    · rw [if_neg h1]
      by_cases h2 : t.ty = 2
      · rw [if_pos h2]
        rw [if_neg (by omega), if_neg h1] at ht
        simp only [Bool.and_eq_true, textB, decide_eq_true_eq] at ht
        simp only [List.length_nil]
        omega
      · rw [if_neg h2]
        by_cases h0 : t.ty = 0
        · rw [if_pos h0] at ht
          simp only [nameB, Bool.and_eq_true, decide_eq_true_eq] at ht
          simp only [List.length_nil]
          omega
        · rw [if_neg h0, if_neg h1] at ht
          simp [h2] at ht
  have t0 : (term0.col.length ≤ 1000000 ∧ term0.s.length ≤ 1000000) := by decide
  refine Pl.fine_ind ?_ ?_ ?_ ?_
  · intro a b l r _ _ ha hb
    rw [Pl.bare_or]; unfold LtC LtL LtL LtL
    exact ⟨⟨by decide, by decide, by decide, by decide, by simp⟩, ha, hb, trivial⟩
  · intro a b l r _ _ ha hb
    rw [Pl.bare_and]; unfold LtC LtL LtL LtL
    exact ⟨⟨by decide, by decide, by decide, by decide, by simp⟩, ha, hb, trivial⟩
  · intro a l r _ ha
    rw [Pl.bare_not]; unfold LtC LtL LtL
    exact ⟨⟨by decide, by decide, by decide, by decide, by simp⟩, ha, trivial⟩
  · intro op l r h4 h9 hl hr
    rw [Pl.bare_cmp h4]; unfold LtC LtL
    exact ⟨⟨(tt l hl).1, (tt l hl).2, (tt r hr).1, (tt r hr).2, by simp⟩, trivial⟩
theorem cond0_of {c : CondT} (h : c.op = 0) (hb : bareC c = c) : c = cond0 := by
  cases c with
  | mk op args l r =>
    have h' : op = 0 := h
    rw [← hb, bareC.eq_def]; simp only; rw [if_pos h']
theorem lt_read {q : QueryT} (F : Pl.FormQ q) (hb : bareQ q = q) : LtC 1000000 q.wh := by
  have hb' : bareC q.wh = q.wh := congrArg QueryT.wh hb
  by_cases h : q.wh.op = 0
  · rw [cond0_of h hb']; unfold cond0 LtC LtL
    exact ⟨⟨by decide, by decide, by decide, by decide, by simp⟩, trivial⟩
  · rw [← hb']; exact lt_bare _ (F.wf h)
theorem short_read {q : QueryT} (F : Pl.FormQ q) (hb : bareQ q = q) : QShort q := by
  have hb' : bareC q.wh = q.wh := congrArg QueryT.wh hb
  refine ⟨fun x hx => ?_, ?_, fun x hx => ?_, fun x hx => ?_, sh_of_lt (by decide) (lt_read F hb), ?_, by have := F.i1; omega, by have := F.g1; omega, by have := F.o1; omega⟩
  · have := Pl.item_len (F.it x hx); omega
  · have := Pl.name_len F.tb; omega
  · have := Pl.name_len (F.gr x hx); omega
  · have := Pl.name_len (F.od x hx); omega
  · by_cases h : q.wh.op = 0
    · rw [cond0_of h hb']; decide
    · have := F.wd h; omega
mutual
theorem depth_sz : ∀ c : CondT, depthC c ≤ szC c
  | .mk op args l r => by
    have := depthL_sz args
    rw [depthC, szC]
    have h1 : 1 ≤ szN args l r := by unfold szN; omega
    split <;> omega
theorem depthL_sz : ∀ l : List CondT, depthL l ≤ szL l
  | [] => by simp [depthL, szL]
  | c :: l => by
    have h1 := depth_sz c
    have h2 := depthL_sz l
    rw [depthL, szL]
    omega
theorem lt_sz : ∀ c : CondT, szC c ≤ 200 → LtC 1000000 c
  | .mk op args l r, h => by
    rw [szC] at h
    unfold LtC
    have h1 : szN args l r = 1 + (l.col.length + l.s.length + r.col.length + r.s.length) / 20 + args.length / 20 := rfl
    exact ⟨⟨by omega, by omega, by omega, by omega, by omega⟩, ltL_sz args (by omega)⟩
theorem ltL_sz : ∀ l : List CondT, szL l ≤ 200 → LtL 1000000 l
  | [], _ => by unfold LtL; trivial
  | c :: l, h => by
    rw [szL] at h
    unfold LtL
    exact ⟨lt_sz c (by omega), ltL_sz l (by omega)⟩
end
theorem short_sm {q : QueryT} (S : QSm q) : QShort q := by
  refine ⟨fun x hx => ?_, by have := S.tb; omega, fun x hx => ?_, fun x hx => ?_, sh_of_lt (by decide) (lt_sz _ S.wh), ?_, by have := S.ni; omega, by have := S.ng; omega, by have := S.no; omega⟩
  · obtain ⟨i, hi⟩ := List.getElem?_of_mem hx
    have := S.it i x hi; omega
  · obtain ⟨i, hi⟩ := List.getElem?_of_mem hx
    have := S.gr i x hi; omega
  · obtain ⟨i, hi⟩ := List.getElem?_of_mem hx
    have := S.od i x hi; omega
  · have h1 := depth_sz q.wh; have h2 := S.wh; omega
end Go.Proofs.YtijlifdbjhieaaaGreatDoor
