/-
  A region that draws its order: its first n operations only read, or call what leaves old memory alone; all later ones wait for number n - 1: the first n are walked once, in the text's order; the rest is asked behind them.
-/
import Derived.StillTail
import Derived.Deep.Quiet
import Derived.Deep.QuietTactic
import Derived.BigQuiet
import Derived.Lib.QuietBelow
import Derived.RegionTactic
namespace Go.Proofs.YtnjlggleaocbdaaGreatDoor
set_option linter.all false
open Go Go.Sort Go.RowKit

section
variable {P : Program} {ops : Array Oper} {md : Region.Mode} {C : World → Prop}

/-- Every operation from n on waits for number n - 1. -/
def tailB (md : Region.Mode) (ops : Array Oper) (n : Nat) : Bool :=
  (List.range ops.size).all fun t => decide (t < n) || Region.waitsFor md ops t (n - 1)
/-- Every operation ahead of number n - 1 is waited for by one between. -/
def sinkHB (md : Region.Mode) (ops : Array Oper) (n : Nat) : Bool :=
  (List.range (n - 1)).all fun i => (List.range n).any fun j => decide (i < j) && Region.waitsFor md ops j i

theorem tail_waitsH {n : Nat} {listed : Array Bool} (h1n : 0 < n) (hs : sinkHB md ops n = true) (hc : tailB md ops n = true) (inv : HeadInv md ops n listed) :
    ∀ (d i : Nat), n - i = d → i < n → listed.getD i true = false → ∀ t, n ≤ t → t ∉ Region.ready md ops listed := by
  intro d
  induction d using Nat.strongRecOn with
  | _ d ih =>
    intro i hd hi hun t ht hr
    obtain ⟨_, ot, hot, hall⟩ := mem_ready.1 hr
    have htlt : t < ops.size := (Array.getElem?_eq_some_iff.1 hot).1
    by_cases hin : i = n - 1
    · have h1 := List.all_eq_true.1 hc t (List.mem_range.2 htlt)
      simp only [Bool.or_eq_true, decide_eq_true_eq] at h1
      rcases h1 with h1 | h1
      · omega
      · obtain ⟨o', ho', e, he, hb, hon⟩ := Region.waitsFor_spec h1
        have : o' = ot := Option.some.inj (ho'.symm.trans hot)
        subst this
        have h2 := hall e he hb
        rw [hon, ← hin, getD_both hun] at h2
        cases h2
    · have h1 := List.all_eq_true.1 hs i (List.mem_range.2 (by omega))
      obtain ⟨j, hj, hj2⟩ := List.any_eq_true.1 h1
      simp only [Bool.and_eq_true, decide_eq_true_eq] at hj2
      obtain ⟨oj, hoj, e, he, hb, hon⟩ := Region.waitsFor_spec hj2.2
      have hjn : j < n := List.mem_range.1 hj
      have hjs : j < listed.size := by rw [inv.size]; exact (Array.getElem?_eq_some_iff.1 hoj).1
      cases hl : listed.getD j false with
      | true =>
        have h2 := inv.closed j oj hoj hl e he hb
        rw [hon, getD_both hun] at h2
        cases h2
      | false => exact ih (n - j) (by omega) j rfl hjn (getD_in hjs hl) t ht hr

/-- Whatever order is picked, till the first n have come up; then L. -/
def wpAnyH (P : Program) (md : Region.Mode) (ops : Array Oper) (C : World → Prop) (n : Nat) (L : Array Bool → Act → Prop) : Nat → Array Bool → Act → Prop
  | 0, listed, a => L listed a
  | f + 1, listed, a =>
    Region.ready md ops listed ≠ [] ∧ ∀ i ∈ Region.ready md ops listed, i < n ∧ qOp P ops C i (wpAnyH P md ops C n L f (listed.setIfInBounds i true)) a

theorem wpAny_of_headH {n g : Nat} {L : Array Bool → Act → Prop} {Q' : Exit → Act → World → Prop} (hL : ∀ listed a w, C w → L listed a → wpAny P md ops Q' g listed a w) :
    ∀ (f : Nat) (listed : Array Bool) (a : Act) (w : World), C w → wpAnyH P md ops C n L f listed a → wpAny P md ops Q' (f + g) listed a w
  | 0, listed, a, w, hw, h => by rw [Nat.zero_add]; exact hL _ _ _ hw h
  | f + 1, listed, a, w, hw, h => by
    rw [show f + 1 + g = (f + g) + 1 by omega]
    exact ⟨fun h0 => absurd h0 h.1, fun i hi => wpOp_of_qOp hw (fun a' w' hw' h' => wpAny_of_headH hL f _ a' w' hw' h') (h.2 i hi).2⟩

theorem wpAnyH_first {n i : Nat} {oi : Oper} {v : Value} {L : Array Bool → Act → Prop} (hi : ops[i]? = some oi) (hsel : ∀ (j : Nat) (o : Oper) cs b, ops[j]? = some o → o.op ≠ .select cs b)
    (h1n : 0 < n) (hs : sinkHB md ops n = true) (hc : tailB md ops n = true) (hin : i < n)
    (hdone : ∀ listed a, L listed a → ∀ j ∈ Region.ready md ops listed, n ≤ j) :
    ∀ (f : Nat) (listed : Array Bool) (a : Act), HeadInv md ops n listed →
      (∀ j oj, ops[j]? = some oj → j ≠ i → listed.getD j true = false → (∀ e ∈ oj.after, Region.binds md e = true → e.on ≠ i) → oi.apart ops oj = true) →
      i ∈ Region.ready md ops listed → YieldsIn P ops C oi v a →
      wpAnyH P md ops C n L f (listed.setIfInBounds i true) (a.put oi.dst v) → wpAnyH P md ops C n L (f + 1) listed a := by
  intro f
  induction f with
  | zero =>
    intro listed a inv _ hr hy H
    have hun := (mem_ready.1 hr).1
    refine ⟨fun h => (by rw [h] at hr; cases hr), fun j hj => ?_⟩
    have hjn : j < n := by
      rcases Nat.lt_or_ge j n with h | h
      · exact h
      · exact absurd hj (tail_waitsH h1n hs hc inv _ i rfl hin hun j h)
    refine ⟨hjn, ?_⟩
    by_cases hji : j = i
    · subst hji; exact hy.qOp hi H
    · have := hdone _ _ H j (ready_mono hj hji)
      omega
  | succ f ih =>
    intro listed a inv hfree hr hy H
    have hun := (mem_ready.1 hr).1
    refine ⟨fun h => (by rw [h] at hr; cases hr), fun j hj => ?_⟩
    have hjn : j < n := by
      rcases Nat.lt_or_ge j n with h | h
      · exact h
      · exact absurd hj (tail_waitsH h1n hs hc inv _ i rfl hin hun j h)
    refine ⟨hjn, ?_⟩
    by_cases hji : j = i
    · subst hji; exact hy.qOp hi H
    · have h1 := (H.2 j (ready_mono hj hji)).2
      obtain ⟨hjun, oj, hoj, hall⟩ := mem_ready.1 hj
      have hnot : ∀ e ∈ oj.after, Region.binds md e = true → e.on ≠ i := fun e he hb heq => by
        have h1 := hall e he hb
        rw [heq, getD_both hun] at h1
        cases h1
      have h2 := qOp_put hoj (hfree j oj hoj hji hjun hnot) (fun cs b => hsel i oi cs b hi) (fun cs b => hsel j oj cs b hoj) hy h1
      have hfree' : ∀ k ok, ops[k]? = some ok → k ≠ i → (listed.setIfInBounds j true).getD k true = false →
          (∀ e ∈ ok.after, Region.binds md e = true → e.on ≠ i) → oi.apart ops ok = true := fun k ok hk hki hun hno => by
        refine hfree k ok hk hki ?_ hno
        by_cases hjk : j = k
        · subst hjk; exact hjun
        · rw [getD_set_ne true hjk] at hun; exact hun
      refine qOp_mono (fun a' h3 => ih (listed.setIfInBounds j true) a' (inv.set hj hjn) hfree' (ready_mono hr (Ne.symm hji)) h3.1 ?_) h2
      rw [Array.setIfInBounds_comm _ _ hji]
      exact h3.2

/-- The first n may come up in the text's order, each free of those that do not wait for it; behind them the marks are 'fin'. -/
def lexH (md : Region.Mode) (ops : Array Oper) (fin : Array Bool) : Nat → Nat → Array Bool → Bool
  | 0, k, listed => decide (listed = fin) && (Region.ready md ops listed).all fun j => decide (k ≤ j)
  | f + 1, k, listed => (Region.ready md ops listed).contains k && Region.free md ops listed k && lexH md ops fin f (k + 1) (listed.setIfInBounds k true)

theorem wpAnyH_lex {n : Nat} {fin : Array Bool} {Lq : Act → Prop} (hsel : Region.noSelect ops = true) (h1n : 0 < n) (hs : sinkHB md ops n = true) (hc : tailB md ops n = true) :
    ∀ (l : List Oper) (k : Nat) (listed : Array Bool) (a : Act), (∀ j, j < l.length → l[j]? = ops[k + j]?) → k + l.length = n → HeadInv md ops n listed →
    lexH md ops fin l.length k listed = true → wpQuiet P ops C Lq l a →
    wpAnyH P md ops C n (fun listed' a' => (listed' = fin ∧ ∀ j ∈ Region.ready md ops listed', n ≤ j) ∧ Lq a') l.length listed a
  | [], k, listed, a, _, hk, _, hB, h => by
    have : k = n := by simpa using hk
    subst this
    simp only [lexH, List.length_nil, Bool.and_eq_true, decide_eq_true_eq, List.all_eq_true] at hB
    exact ⟨hB, h⟩
  | o :: l, k, listed, a, hl, hk, inv, hB, h => by
    have h0 : ops[k]? = some o := by simpa using (hl 0 (by simp)).symm
    simp only [List.length_cons, lexH, Bool.and_eq_true] at hB
    obtain ⟨⟨hr, hf⟩, hB'⟩ := hB
    have hkn : k < n := by simp only [List.length_cons] at hk; omega
    have hr' : k ∈ Region.ready md ops listed := by simpa using hr
    have hst : qOp P ops C k (wpQuiet P ops C Lq l) a := by unfold qOp; simp only [h0]; exact h
    obtain ⟨v, hy, hK⟩ := yieldsIn_of_qOp h0 hst
    exact wpAnyH_first h0 (Region.noSelect_spec hsel) h1n hs hc hkn (fun listed' a' hL => hL.1.2) l.length listed a inv (Region.free_spec h0 hf) hr' hy
      (wpAnyH_lex hsel h1n hs hc l (k + 1) _ _ (fun j hj => by have := hl (j + 1) (by simp; omega); simpa [Nat.add_assoc, Nat.add_comm 1 j] using this) (by simp only [List.length_cons] at hk; omega) (inv.set hr' hkn) hB' hK)

/-- All that is asked of the region's text. -/
def headQB (ops : Array Oper) (n : Nat) (fin : Array Bool) : Bool :=
  Region.noSelect ops && decide (0 < n) && decide (n ≤ ops.size) && sinkHB .any ops n && tailB .any ops n && lexH .any ops fin n 0 (Array.replicate ops.size false)

theorem wp_region_quiet_head {id : Nat} {Q : Exit → Act → World → Prop} {a : Act} {w : World} {l : List Oper} (n g : Nat) (fin : Array Bool) (hm : P.follows .mixedOrders = true) (hB : headQB l.toArray n fin = true) (hg : n + g = l.length)
    (hC : C { w with drawn := w.drawn + 1 })
    (h : wpQuiet P l.toArray C (fun a' => ∀ w', C w' → wpAny P .any l.toArray Q g fin a' w') (l.take n) a) : (Code.region id l.toArray true).wp P Q a w := by
  simp only [headQB, Bool.and_eq_true, decide_eq_true_eq] at hB
  obtain ⟨⟨⟨⟨⟨hsel, h1n⟩, hn⟩, hs⟩, hc⟩, hlex⟩ := hB
  have hn' : n ≤ l.length := by simpa using hn
  have htl : (l.take n).length = n := by simp; omega
  have inv0 : HeadInv .any l.toArray n (Array.replicate l.toArray.size false) :=
    ⟨by simp, fun j oj _ hl => (by rw [getD_replicate_false] at hl; cases hl), fun t _ ht => getD_in (by simpa using ht) (getD_replicate_false _ _)⟩
  have H := wpAnyH_lex (md := .any) (fin := fin) hsel h1n hs hc (l.take n) 0 _ a (fun j hj => by
    have hj' : j < n := by rw [htl] at hj; exact hj
    simp [hj']) (by simpa using htl) inv0 (by rw [htl]; exact hlex) h
  refine wp_region_any hm ?_
  have := wpAny_of_headH (Q' := Q) (g := g) (fun listed a' w' hw' hL => by
    obtain ⟨⟨rfl, _⟩, hq⟩ := hL
    exact hq w' hw') _ _ _ _ hC H
  rw [htl, hg] at this
  simpa using this
end

/-- The world under a name of its own. -/
theorem name_world {P : Program} {c : Code} {Q : Exit → Act → World → Prop} {a : Act} {w : World} (h : ∀ W, W = w → Code.wp P c Q a W) : Code.wp P c Q a w := h w rfl
theorem name_worldL {P : Program} {ops : Array Oper} {l : List Oper} {Q : Exit → Act → World → Prop} {a : Act} {w : World} (h : ∀ W, W = w → wpList P ops Q l a W) : wpList P ops Q l a w := h w rfl
theorem name_post {P : Program} {f : Func} {R : Ending → World → Prop} {x : Exit} {a : Act} {w : World} (h : ∀ W, W = w → bodyPost P f R x a W) : bodyPost P f R x a w := h w rfl

/-- At the class of the worlds in which of what there was nothing has turned. -/
theorem wp_region_below_head {P : Program} {id : Nat} {Q : Exit → Act → World → Prop} {a : Act} {w : World} {l : List Oper} (n g : Nat) (fin : Array Bool) (hm : P.follows .mixedOrders = true) (hB : headQB l.toArray n fin = true) (hg : n + g = l.length)
    (h : wpQuiet P l.toArray (fun w' => ∃ p : Regrown, w' = grow (redrawn w p.d) p.os) (fun a' => ∀ w', (∃ p : Regrown, w' = grow (redrawn w p.d) p.os) → wpAny P .any l.toArray Q g fin a' w') (l.take n) a) : (Code.region id l.toArray true).wp P Q a w :=
  wp_region_quiet_head (C := fun w' => ∃ p : Regrown, w' = grow (redrawn w p.d) p.os) n g fin hm hB hg ⟨⟨w.drawn + 1, #[]⟩, by rw [grow_empty]; rfl⟩ h

/-- What a world of the class holds of what was there. -/
theorem grown_cell {w : World} {a : Addr} {v : Value} (h : w.cell? a = some v) : ∀ d os, (grow (redrawn w d) os).cell? a = some v := fun d os => cell_regrown h d os
theorem grown_size {w : World} {b : Nat} (h : b < w.heap.size) : ∀ d os, b < (grow (redrawn w d) os).heap.size := fun d os => Nat.lt_of_lt_of_le h (below_regrown w d os).size
theorem grown_frozen {w : World} {a : Addr} {x : Bool} (h : w.frozen? a = x) (hb : a.block < w.heap.size) : ∀ d os, (grow (redrawn w d) os).frozen? a = x := fun d os => by rw [(below_regrown w d os).frozen hb]; exact h
end Go.Proofs.YtnjlggleaocbdaaGreatDoor
