/-
  A region that draws its order: its first n operations only read, or call what leaves old memory alone; number m is a value that waits for nothing; all later ones wait for number n - 1 or for a later one.
-/
import Derived.Test.YtijlifdbjhieaaaGreatDoorQh
namespace Go.Proofs.YtijlifdbjhieaaaGreatDoor
set_option linter.all false
open Go Go.Sort Go.RowKit

section
variable {P : Program} {ops : Array Oper} {md : Region.Mode} {C : World → Prop}

def tailB2 (md : Region.Mode) (ops : Array Oper) (n m : Nat) : Bool :=
  (List.range ops.size).all fun t => decide (t < n) || decide (t = m) || Region.waitsFor md ops t (n - 1) || (List.range ops.size).any fun u => decide (n ≤ u) && decide (u ≠ m) && Region.waitsFor md ops t u
structure HeadInv2 (md : Region.Mode) (ops : Array Oper) (n m : Nat) (listed : Array Bool) : Prop where
  size : listed.size = ops.size
  closed : ∀ j oj, ops[j]? = some oj → listed.getD j false = true → ∀ e ∈ oj.after, Region.binds md e = true → listed.getD e.on false = true
  tail : ∀ t, n ≤ t → t ≠ m → t < ops.size → listed.getD t true = false
  mm : listed.getD m true = true
theorem HeadInv2.set {n m i : Nat} {listed : Array Bool} (inv : HeadInv2 md ops n m listed) (hi : i ∈ Region.ready md ops listed) (hin : i < n) (hm : n ≤ m) : HeadInv2 md ops n m (listed.setIfInBounds i true) := by
  obtain ⟨_, oi, hoi, hall⟩ := mem_ready.1 hi
  refine ⟨by simp [inv.size], fun j oj hj hl e he hb => ?_, fun t ht htm ht' => by rw [getD_set_ne true (by omega)]; exact inv.tail t ht htm ht', by rw [getD_set_ne true (by omega)]; exact inv.mm⟩
  by_cases hij : i = j
  · subst hij
    have : oj = oi := Option.some.inj (hj.symm.trans hoi)
    subst this
    exact getD_set_true (hall e he hb)
  · rw [getD_set_ne false hij] at hl
    exact getD_set_true (inv.closed j oj hj hl e he hb)
theorem tail_waits2 {n m : Nat} {listed : Array Bool} (h1n : 0 < n) (hs : sinkHB md ops n = true) (hc : tailB2 md ops n m = true) (inv : HeadInv2 md ops n m listed) :
    ∀ (d i : Nat), n - i = d → i < n → listed.getD i true = false → ∀ t, n ≤ t → t ∉ Region.ready md ops listed := by
  intro d
  induction d using Nat.strongRecOn with
  | _ d ih =>
    intro i hd hi hun t ht hr
    obtain ⟨hun2, ot, hot, hall⟩ := mem_ready.1 hr
    have htlt : t < ops.size := (Array.getElem?_eq_some_iff.1 hot).1
    by_cases htm : t = m
    · subst htm; rw [inv.mm] at hun2; cases hun2
    have h1 := List.all_eq_true.1 hc t (List.mem_range.2 htlt)
    simp only [Bool.or_eq_true, decide_eq_true_eq, List.any_eq_true, Bool.and_eq_true, List.mem_range] at h1
    rcases h1 with ((h1 | h1) | h1) | ⟨u, hu, ⟨hu1, hu2⟩, h1⟩
    · omega
    · exact htm h1
    · by_cases hin : i = n - 1
      · obtain ⟨o', ho', e, he, hb, hon⟩ := Region.waitsFor_spec h1
        have : o' = ot := Option.some.inj (ho'.symm.trans hot)
        subst this
        have h2 := hall e he hb
        rw [hon, ← hin, getD_both hun] at h2
        cases h2
      · have h1 := List.all_eq_true.1 hs i (List.mem_range.2 (by omega))
        obtain ⟨j, hj, hj2⟩ := List.any_eq_true.1 h1
        simp only [Bool.and_eq_true, decide_eq_true_eq] at hj2
        obtain ⟨oj, hoj, e, he, hb, hon⟩ := Region.waitsFor_spec hj2.2
        have hjn : j < n := List.mem_range.1 hj
        have hjs : j < listed.size := by rw [inv.size]; exact (Array.getElem?_eq_some_iff.1 hoj).1
        cases hl : listed.getD j false with
        | true =>
          have h2 := inv.closed j oj hoj hl e he hb
          rw [hon, getD_both hun] at h2
          cases h2
        | false => exact ih (n - j) (by omega) j rfl hjn (getD_in hjs hl) t ht hr
    · obtain ⟨o', ho', e, he, hb, hon⟩ := Region.waitsFor_spec h1
      have : o' = ot := Option.some.inj (ho'.symm.trans hot)
      subst this
      have h2 := hall e he hb
      rw [hon, getD_both (inv.tail u hu1 hu2 hu)] at h2
      cases h2
theorem wpAnyH_first2 {n m i : Nat} {oi : Oper} {v : Value} {L : Array Bool → Act → Prop} (hi : ops[i]? = some oi) (hsel : ∀ (j : Nat) (o : Oper) cs b, ops[j]? = some o → o.op ≠ .select cs b)
    (h1n : 0 < n) (hm : n ≤ m) (hs : sinkHB md ops n = true) (hc : tailB2 md ops n m = true) (hin : i < n)
    (hdone : ∀ listed a, L listed a → ∀ j ∈ Region.ready md ops listed, n ≤ j) :
    ∀ (f : Nat) (listed : Array Bool) (a : Act), HeadInv2 md ops n m listed →
      (∀ j oj, ops[j]? = some oj → j ≠ i → listed.getD j true = false → (∀ e ∈ oj.after, Region.binds md e = true → e.on ≠ i) → oi.apart ops oj = true) →
      i ∈ Region.ready md ops listed → YieldsIn P ops C oi v a →
      wpAnyH P md ops C n L f (listed.setIfInBounds i true) (a.put oi.dst v) → wpAnyH P md ops C n L (f + 1) listed a := by
  intro f
  induction f with
  | zero =>
    intro listed a inv _ hr hy H
    have hun := (mem_ready.1 hr).1
    refine ⟨fun h => (by rw [h] at hr; cases hr), fun j hj => ?_⟩
    have hjn : j < n := by
      rcases Nat.lt_or_ge j n with h | h
      · exact h
      · exact absurd hj (tail_waits2 h1n hs hc inv _ i rfl hin hun j h)
    refine ⟨hjn, ?_⟩
    by_cases hji : j = i
    · subst hji; exact hy.qOp hi H
    · have := hdone _ _ H j (ready_mono hj hji)
      omega
  | succ f ih =>
    intro listed a inv hfree hr hy H
    have hun := (mem_ready.1 hr).1
    refine ⟨fun h => (by rw [h] at hr; cases hr), fun j hj => ?_⟩
    have hjn : j < n := by
      rcases Nat.lt_or_ge j n with h | h
      · exact h
      · exact absurd hj (tail_waits2 h1n hs hc inv _ i rfl hin hun j h)
    refine ⟨hjn, ?_⟩
    by_cases hji : j = i
    · subst hji; exact hy.qOp hi H
    · have h1 := (H.2 j (ready_mono hj hji)).2
      obtain ⟨hjun, oj, hoj, hall⟩ := mem_ready.1 hj
      have hnot : ∀ e ∈ oj.after, Region.binds md e = true → e.on ≠ i := fun e he hb heq => by
        have h1 := hall e he hb
        rw [heq, getD_both hun] at h1
        cases h1
      have h2 := qOp_put hoj (hfree j oj hoj hji hjun hnot) (fun cs b => hsel i oi cs b hi) (fun cs b => hsel j oj cs b hoj) hy h1
      have hfree' : ∀ k ok, ops[k]? = some ok → k ≠ i → (listed.setIfInBounds j true).getD k true = false →
          (∀ e ∈ ok.after, Region.binds md e = true → e.on ≠ i) → oi.apart ops ok = true := fun k ok hk hki hun hno => by
        refine hfree k ok hk hki ?_ hno
        by_cases hjk : j = k
        · subst hjk; exact hjun
        · rw [getD_set_ne true hjk] at hun; exact hun
      refine qOp_mono (fun a' h3 => ih (listed.setIfInBounds j true) a' (inv.set hj hjn hm) hfree' (ready_mono hr (Ne.symm hji)) h3.1 ?_) h2
      rw [Array.setIfInBounds_comm _ _ hji]
      exact h3.2
theorem wpAnyH_lex2 {n m : Nat} {fin : Array Bool} {Lq : Act → Prop} (hsel : Region.noSelect ops = true) (h1n : 0 < n) (hm : n ≤ m) (hs : sinkHB md ops n = true) (hc : tailB2 md ops n m = true) :
    ∀ (l : List Oper) (k : Nat) (listed : Array Bool) (a : Act), (∀ j, j < l.length → l[j]? = ops[k + j]?) → k + l.length = n → HeadInv2 md ops n m listed →
    lexH md ops fin l.length k listed = true → wpQuiet P ops C Lq l a →
    wpAnyH P md ops C n (fun listed' a' => (listed' = fin ∧ ∀ j ∈ Region.ready md ops listed', n ≤ j) ∧ Lq a') l.length listed a
  | [], k, listed, a, _, hk, _, hB, h => by
    have : k = n := by simpa using hk
    subst this
    simp only [lexH, List.length_nil, Bool.and_eq_true, decide_eq_true_eq, List.all_eq_true] at hB
    exact ⟨hB, h⟩
  | o :: l, k, listed, a, hl, hk, inv, hB, h => by
    have h0 : ops[k]? = some o := by simpa using (hl 0 (by simp)).symm
    simp only [List.length_cons, lexH, Bool.and_eq_true] at hB
    obtain ⟨⟨hr, hf⟩, hB'⟩ := hB
    have hkn : k < n := by simp only [List.length_cons] at hk; omega
    have hr' : k ∈ Region.ready md ops listed := by simpa using hr
    have hst : qOp P ops C k (wpQuiet P ops C Lq l) a := by unfold qOp; simp only [h0]; exact h
    obtain ⟨v, hy, hK⟩ := yieldsIn_of_qOp h0 hst
    exact wpAnyH_first2 h0 (Region.noSelect_spec hsel) h1n hm hs hc hkn (fun listed' a' hL => hL.1.2) l.length listed a inv (Region.free_spec h0 hf) hr' hy
      (wpAnyH_lex2 hsel h1n hm hs hc l (k + 1) _ _ (fun j hj => by have := hl (j + 1) (by simp; omega); simpa [Nat.add_assoc, Nat.add_comm 1 j] using this) (by simp only [List.length_cons] at hk; omega) (inv.set hr' hkn hm) hB' hK)
/-- All that is asked of the region's text. -/
def headQB2 (ops : Array Oper) (n m : Nat) (fin : Array Bool) : Bool :=
  Region.noSelect ops && decide (0 < n) && decide (n ≤ m) && decide (m < ops.size) && sinkHB .any ops n && tailB2 .any ops n m && (match ops[m]? with | some o => o.after.isEmpty | none => false) &&
    Region.free .any ops (Array.replicate ops.size false) m && (Region.ready .any ops (Array.replicate ops.size false)).contains m && lexH .any ops fin n 0 ((Array.replicate ops.size false).setIfInBounds m true)
theorem wp_region_quiet_head2 {id : Nat} {Q : Exit → Act → World → Prop} {a : Act} {w : World} {l : List Oper} (n g m : Nat) (fin : Array Bool) (om : Oper) (v : Value) (hm : P.follows .mixedOrders = true) (hB : headQB2 l.toArray n m fin = true) (hg : n + g + 1 = l.length) (hom : l[m]? = some om)
    (hQ : ∀ c a w, Q (.panic c) (a.put om.dst v) w → Q (.panic c) a w) (hy : Yields P l.toArray om v a)
    (hC : C { w with drawn := w.drawn + 1 })
    (h : wpQuiet P l.toArray C (fun a' => ∀ w', C w' → wpAny P .any l.toArray Q g fin a' w') (l.take n) (a.put om.dst v)) : (Code.region id l.toArray true).wp P Q a w := by
  simp only [headQB2, Bool.and_eq_true, decide_eq_true_eq] at hB
  obtain ⟨⟨⟨⟨⟨⟨⟨⟨⟨hsel, h1n⟩, hnm⟩, hms⟩, hs⟩, hc⟩, hemp⟩, hfr⟩, hrd⟩, hlex⟩ := hB
  have hn' : n ≤ l.length := by omega
  have htl : (l.take n).length = n := by simp; omega
  have hml : m < l.length := by simpa using hms
  have hom' : l.toArray[m]? = some om := by simpa using hom
  have hempty : om.after = #[] := by rw [hom'] at hemp; simpa using hemp
  have hsz : (Array.replicate l.toArray.size false).size = l.length := by simp
  have inv0 : HeadInv2 .any l.toArray n m ((Array.replicate l.toArray.size false).setIfInBounds m true) := by
    refine ⟨by simp, fun j oj hj hl e he hb => ?_, fun t _ htm ht => ?_, ?_⟩
    · by_cases hjm : m = j
      · subst hjm
        have : oj = om := Option.some.inj (hj.symm.trans hom')
        subst this
        rw [hempty] at he; simp at he
      · rw [getD_set_ne false hjm, getD_replicate_false] at hl; cases hl
    · rw [getD_set_ne true (Ne.symm htm)]
      exact getD_in (by simpa using ht) (getD_replicate_false _ _)
    · simp [Array.getD_eq_getD_getElem?, hml]
  have H := wpAnyH_lex2 (md := .any) (fin := fin) hsel h1n hnm hs hc (l.take n) 0 _ (a.put om.dst v) (fun j hj => by
    have hj' : j < n := by rw [htl] at hj; exact hj
    simp [hj']) (by simpa using htl) inv0 (by rw [htl]; exact hlex) h
  refine wp_region_any hm ?_
  have := wpAny_of_headH (Q' := Q) (g := g) (fun listed a' w' hw' hL => by
    obtain ⟨⟨rfl, _⟩, hq⟩ := hL
    exact hq w' hw') _ _ _ _ hC H
  rw [htl] at this
  have e : l.toArray.size = n + g + 1 := by simpa using hg.symm
  rw [e]
  rw [e] at this
  refine wpAny_take (i := m) (v := v) hom' hsel ?_ ?_ hQ hy ?_
  · rw [← e]; exact hfr
  · rw [← e]; exact hrd
  · exact this
end
theorem wp_region_below_head2 {P : Program} {id : Nat} {Q : Exit → Act → World → Prop} {a : Act} {w : World} {l : List Oper} (n g m : Nat) (fin : Array Bool) (om : Oper) (v : Value) (hm : P.follows .mixedOrders = true) (hB : headQB2 l.toArray n m fin = true) (hg : n + g + 1 = l.length) (hom : l[m]? = some om)
    (hQ : ∀ c a w, Q (.panic c) (a.put om.dst v) w → Q (.panic c) a w) (hy : Yields P l.toArray om v a)
    (h : wpQuiet P l.toArray (fun w' => ∃ p : Regrown, w' = grow (redrawn w p.d) p.os) (fun a' => ∀ w', (∃ p : Regrown, w' = grow (redrawn w p.d) p.os) → wpAny P .any l.toArray Q g fin a' w') (l.take n) (a.put om.dst v)) : (Code.region id l.toArray true).wp P Q a w :=
  wp_region_quiet_head2 (C := fun w' => ∃ p : Regrown, w' = grow (redrawn w p.d) p.os) n g m fin om v hm hB hg hom hQ hy ⟨⟨w.drawn + 1, #[]⟩, by rw [grow_empty]; rfl⟩ h
end Go.Proofs.YtijlifdbjhieaaaGreatDoor
