/-
  A region that draws its order and whose last operation waits for all the others: the region without it, then it.
-/
import Derived.StillTail
import Derived.Deep.Quiet
import Derived.OrdersHeld
import Derived.RegionTactic
import Derived.Deep.RegionHeld
namespace Go.Proofs.YtnjlggleaocbdaaGreatDoor
set_option linter.all false
open Go

section
variable {P : Program} {md : Region.Mode}

/-- What is asked behind the region without its last operation. -/
def lastQ (P : Program) (o : Oper) (Q : Exit → Act → World → Prop) : Exit → Act → World → Prop
  | .normal, a, w => o.wp P a w (fun a' w' => Q .normal a' w') Q
  | e, a, w => Q e a w

theorem upon_swap {o : Oper} {a : Act} {K K' : Act → World → Prop} {Q Q' : Exit → Act → World → Prop} (hK : ∀ a w, K a w → K' a w) (hQ : ∀ c a w, Q (.panic c) a w → Q' (.panic c) a w) (hO : LetsOut Q → LetsOut Q')
    {r : Result Next} (h : o.upon P a K Q r) : o.upon P a K' Q' r := by
  cases r with
  | ok n w' =>
    cases n <;> simp only [Oper.upon] at h ⊢
    case value u => exact hK _ _ h
    case skip => exact hK _ _ h
    case defer d => exact hK _ _ h
    case enter f args =>
      refine Calls.mono h fun e w'' he => ?_
      cases e with
      | returned u => exact hK _ _ he
      | panicked c => exact hQ _ _ _ he
      | outgrown => exact hO he
    case row row args => exact Rows.mono h fun u w'' he => hK _ _ he
  | halt x w' =>
    cases x <;> simp only [Oper.upon] at h ⊢
    case panic u => exact hQ _ _ _ h

theorem lastQ_letsOut {o : Oper} {Q : Exit → Act → World → Prop} (h : LetsOut (lastQ P o Q)) : LetsOut Q := by
  obtain ⟨a, w, h⟩ := h; exact ⟨a, w, h⟩

/-- What is asked of the region's text: no guards; every edge goes back; the last operation waits for all the others. -/
def lastB (md : Region.Mode) (pre : List Oper) (o : Oper) : Bool :=
  pre.all (fun x => x.guard.isNone) && o.guard.isNone && (List.range pre.length).all (fun i => match pre[i]? with | some x => x.after.all (fun e => decide (e.on < i)) | none => true) &&
    o.after.all (fun e => decide (e.on < pre.length)) && (List.range pre.length).all (fun i => o.after.any fun e => Region.binds md e && decide (e.on = i))

theorem least_unlisted {listed : Array Bool} {i : Nat} (h : listed.getD i true = false) : ∃ k, k ≤ i ∧ listed.getD k true = false ∧ ∀ j, j < k → listed.getD j true = true := by
  induction i using Nat.strongRecOn with
  | _ i ih =>
    by_cases c : ∃ j, j < i ∧ listed.getD j true = false
    · obtain ⟨j, hj, hf⟩ := c
      obtain ⟨k, h1, h2, h3⟩ := ih j hj hf
      exact ⟨k, by omega, h2, h3⟩
    · exact ⟨i, Nat.le_refl _, h, fun j hj => by
        cases g : listed.getD j true with
        | true => rfl
        | false => exact absurd ⟨j, hj, g⟩ c⟩

theorem push_lt {listed : Array Bool} {i : Nat} {b d : Bool} (h : i < listed.size) : (listed.push b).getD i d = listed.getD i d := by
  simp [Array.getD_eq_getD_getElem?, Array.getElem?_push, Nat.ne_of_lt h]
theorem push_eq {listed : Array Bool} {b d : Bool} : (listed.push b).getD listed.size d = b := by
  simp [Array.getD_eq_getD_getElem?]
theorem getD_default {listed : Array Bool} {i : Nat} (h : i < listed.size) (d e : Bool) : listed.getD i d = listed.getD i e := by
  simp [Array.getD_eq_getD_getElem?, h]
theorem push_set {listed : Array Bool} {i : Nat} {b : Bool} (h : i < listed.size) : (listed.push b).setIfInBounds i true = (listed.setIfInBounds i true).push b := by
  apply Array.ext_getElem?
  intro j
  simp only [Array.getElem?_setIfInBounds, Array.getElem?_push, Array.size_push, Array.size_setIfInBounds]
  by_cases e : i = j
  · subst e; simp [h, Nat.ne_of_lt h]; omega
  · simp [e]
theorem push_set_last {listed : Array Bool} {b : Bool} : (listed.push b).setIfInBounds listed.size true = listed.push true := by
  apply Array.ext_getElem?
  intro j
  simp only [Array.getElem?_setIfInBounds, Array.getElem?_push, Array.size_push]
  by_cases e : listed.size = j
  · subst e; simp
  · simp [e, Ne.symm e]

theorem wpAny_last {pre : List Oper} {o : Oper} {Q : Exit → Act → World → Prop} (hB : lastB md pre o = true) :
    ∀ (fuel : Nat) (listed : Array Bool) (a : Act) (w : World), listed.size = pre.length → wpAny P md pre.toArray (lastQ P o Q) fuel listed a w → wpAny P md (pre ++ [o]).toArray Q (fuel + 1) (listed.push false) a w := by
  simp only [lastB, Bool.and_eq_true, List.all_eq_true, List.mem_range, Array.all_eq_true', Array.any_eq_true', decide_eq_true_eq, Option.isNone_iff_eq_none] at hB
  obtain ⟨⟨⟨⟨hg, hgo⟩, hback⟩, hbo⟩, hall⟩ := hB
  have at_lt : ∀ {i : Nat}, i < pre.length → (pre ++ [o]).toArray[i]? = pre.toArray[i]? := fun h => by simp [List.getElem?_append_left h]
  have at_n : (pre ++ [o]).toArray[pre.length]? = some o := by simp
  -- a smaller one that may come up
  have rdy : ∀ {listed : Array Bool} {i : Nat}, listed.size = pre.length → i ∈ Region.ready md (pre ++ [o]).toArray (listed.push false) → (i < pre.length ∧ i ∈ Region.ready md pre.toArray listed) ∨ (i = pre.length ∧ ∀ j, j < pre.length → listed.getD j true = true) := fun {listed i} hs hi => by
    obtain ⟨h1, oi, h2, h3⟩ := mem_ready.1 hi
    have hlt := (Array.getElem?_eq_some_iff.1 h2).1
    simp at hlt
    by_cases k : i < pre.length
    · left
      refine ⟨k, mem_ready.2 ⟨by rw [push_lt (by omega)] at h1; exact h1, oi, by rw [at_lt k] at h2; exact h2, fun e he hb => ?_⟩⟩
      have := h3 e he hb
      have hon : e.on < i := by
        have := hback i k
        rw [at_lt k] at h2
        have h2' : pre[i]? = some oi := by simpa using h2
        rw [h2'] at this
        simp only [Array.all_eq_true', decide_eq_true_eq] at this
        exact this e he
      rwa [push_lt (by omega)] at this
    · have e : i = pre.length := by omega
      subst e
      right
      refine ⟨rfl, fun j hj => ?_⟩
      rw [at_n] at h2
      injection h2 with h2; subst h2
      obtain ⟨e, he, hb⟩ := hall j hj
      have := h3 e he hb.1
      rw [hb.2, push_lt (by omega)] at this
      rw [getD_default (by omega) true false]; exact this
  have some_ready : ∀ {listed : Array Bool}, listed.size = pre.length → Region.ready md pre.toArray listed = [] → ∀ j, j < pre.length → listed.getD j true = true := fun {listed} hs hr j hj => by
    cases g : listed.getD j true with
    | true => rfl
    | false =>
      obtain ⟨k, hk, hf, hmin⟩ := least_unlisted g
      have hkl : k < pre.length := by omega
      have : k ∈ Region.ready md pre.toArray listed := mem_ready.2 ⟨hf, pre[k], by simp [hkl], fun e he _ => by
        have hb := hback k hkl
        rw [List.getElem?_eq_getElem hkl] at hb
        simp only [Array.all_eq_true', decide_eq_true_eq] at hb
        have := hb e he
        rw [getD_default (by omega) false true]; exact hmin _ this⟩
      rw [hr] at this; cases this
  have last_ready : ∀ {listed : Array Bool}, listed.size = pre.length → (∀ j, j < pre.length → listed.getD j true = true) → pre.length ∈ Region.ready md (pre ++ [o]).toArray (listed.push false) := fun {listed} hs hl => by
    refine mem_ready.2 ⟨by rw [← hs, push_eq], o, at_n, fun e he _ => ?_⟩
    have := hbo e he
    rw [push_lt (by omega), getD_default (by omega) false true]; exact hl _ this
  have done_ : ∀ {listed : Array Bool}, listed.size = pre.length → (∀ j, j < pre.length → listed.getD j true = true) → Region.ready md (pre ++ [o]).toArray (listed.push true) = [] := fun {listed} hs hl => by
    refine List.eq_nil_iff_forall_not_mem.2 fun i hi => ?_
    obtain ⟨h1, oi, h2, _⟩ := mem_ready.1 hi
    have hlt := (Array.getElem?_eq_some_iff.1 h2).1
    simp at hlt
    by_cases k : i < pre.length
    · rw [push_lt (by omega), hl i k] at h1; cases h1
    · have e : i = listed.size := by omega
      subst e; rw [push_eq] at h1; cases h1
  -- the last operation's turn
  have fin_ : ∀ (fuel : Nat) {listed : Array Bool} {a : Act} {w : World}, listed.size = pre.length → (∀ j, j < pre.length → listed.getD j true = true) → lastQ P o Q .normal a w → wpOp P (pre ++ [o]).toArray Q pre.length (wpAny P md (pre ++ [o]).toArray Q fuel ((listed.push false).setIfInBounds pre.length true)) a w := fun fuel {listed a w} hs hl h => by
    unfold wpOp
    rw [at_n]
    have hw : Region.wanted o (yielded (pre ++ [o]).toArray a.tmps) = true := by simp [Region.wanted, hgo]
    simp only [hw, if_true]
    left
    refine Oper.wp_mono (fun a' w' h' => ?_) h
    rw [← hs, push_set_last]
    have hd := done_ hs hl
    cases fuel with
    | zero => exact ⟨hd, h'⟩
    | succ f => exact ⟨fun _ => h', fun i hi => by rw [hd] at hi; cases hi⟩
  intro fuel
  induction fuel with
  | zero =>
    intro listed a w hs h
    have hl := some_ready hs h.1
    refine ⟨fun e => ?_, fun i hi => ?_⟩
    · have := last_ready hs hl; rw [e] at this; cases this
    · rcases rdy hs hi with ⟨k, g⟩ | ⟨k, _⟩
      · rw [h.1] at g; cases g
      · subst k; exact fin_ 0 hs hl h.2
  | succ fuel ih =>
    intro listed a w hs h
    refine ⟨fun e => ?_, fun i hi => ?_⟩
    · by_cases c : Region.ready md pre.toArray listed = []
      · have := last_ready hs (some_ready hs c); rw [e] at this; cases this
      · obtain ⟨i, hi⟩ := List.exists_mem_of_ne_nil _ c
        obtain ⟨h1, oi, h2, h3⟩ := mem_ready.1 hi
        have hlt : i < pre.length := by have := (Array.getElem?_eq_some_iff.1 h2).1; simpa using this
        have hb := hback i hlt
        have h2' : pre[i]? = some oi := by simpa using h2
        rw [h2'] at hb
        simp only [Array.all_eq_true', decide_eq_true_eq] at hb
        have : i ∈ Region.ready md (pre ++ [o]).toArray (listed.push false) := mem_ready.2 ⟨by rw [push_lt (by omega)]; exact h1, oi, by rw [at_lt hlt]; exact h2, fun e he hbn => by
          have := hb e he
          rw [push_lt (by omega)]; exact h3 e he hbn⟩
        rw [e] at this; cases this
    · rcases rdy hs hi with ⟨k, g⟩ | ⟨k, hl⟩
      · have h1 := h.2 i g
        unfold wpOp at h1 ⊢
        rw [at_lt k]
        have hi' : pre.toArray[i]? = some pre[i] := by simp [k]
        rw [hi'] at h1 ⊢
        have hgi := hg pre[i] (List.getElem_mem k)
        have hw : ∀ (ops : Array Oper), Region.wanted pre[i] (yielded ops a.tmps) = true := fun ops => by simp [Region.wanted, hgi]
        simp only [hw, if_true] at h1 ⊢
        rw [push_set (by omega)]
        rcases h1 with h1 | ⟨h1, h2⟩
        · exact .inl (upon_swap (fun a' w' h' => ih _ a' w' (by simpa using hs) h') (fun c a w hh => hh) lastQ_letsOut h1)
        · exact .inr ⟨h1, lastQ_letsOut h2⟩
      · subst k
        have c : Region.ready md pre.toArray listed = [] := List.eq_nil_iff_forall_not_mem.2 fun j hj => by
          obtain ⟨h1, oj, h2, _⟩ := mem_ready.1 hj
          have hlt : j < pre.length := by have := (Array.getElem?_eq_some_iff.1 h2).1; simpa using this
          rw [hl j hlt] at h1; cases h1
        exact fin_ _ hs hl (h.1 c)

/-- The region without its last operation, at the same draw; then that operation. -/
theorem wp_region_last {id : Nat} {l : List Oper} {Q : Exit → Act → World → Prop} {a : Act} {w : World} (pre : List Oper) (o : Oper) (hl : l = pre ++ [o]) (hm : P.follows .mixedOrders = true) (hB : lastB .any pre o = true)
    (h : wpAny P .any pre.toArray (lastQ P o Q) pre.length (Array.replicate pre.length false) a { w with drawn := w.drawn + 1 }) : (Code.region id l.toArray true).wp P Q a w := by
  subst hl
  refine wp_region_any hm ?_
  have := wpAny_last (P := P) (Q := Q) hB pre.length (Array.replicate pre.length false) a { w with drawn := w.drawn + 1 } (by simp) h
  have e : (Array.replicate pre.length false).push false = Array.replicate (pre ++ [o]).toArray.size false := by simp [Array.replicate_succ]
  rw [e] at this
  simpa using this
theorem last_split {α : Type} : ∀ {l : List α} {o : α}, l.getLast? = some o → l = l.dropLast ++ [o]
  | [], o, h => by cases h
  | [x], o, h => by simp at h; subst h; rfl
  | x :: y :: r, o, h => by
    have h' : (y :: r).getLast? = some o := by simpa using h
    have := last_split h'
    rw [List.dropLast_cons_cons, List.cons_append, ← this]
/-- The same, over worlds that meet S till the last operation. -/
theorem wp_region_last_held {id : Nat} {l : List Oper} {Q : Exit → Act → World → Prop} {a : Act} {w : World} (S : World → Prop) {o : Oper} (hl : l.getLast? = some o) (hm : P.follows .mixedOrders = true) (hB : lastB .any l.dropLast o = true) (hS : S w.drew)
    (h : S w.drew → wpAnyH P .any l.dropLast.toArray (lastQ P o Q) S l.dropLast.length (Array.replicate l.dropLast.length false) a w.drew) : (Code.region id l.toArray true).wp P Q a w :=
  wp_region_last l.dropLast o (last_split hl) hm hB (wpAny_of_held _ _ _ _ (h hS))
/-- Number i is taken first; its slot is d. -/
theorem take2 {ops : Array Oper} {Q : Exit → Act → World → Prop} {S : World → Prop} (i : Nat) (d : Option Tmp) (v : Value) {oi : Oper} {fuel : Nat} {listed : Array Bool} {a : Act} {w : World} (hi : ops[i]? = some oi)
    (hs : Region.noSelect ops = true) (hf : Region.free md ops listed i = true) (hr : (Region.ready md ops listed).contains i = true) (hd : oi.dst = d)
    (hQ : ∀ c a w, Q (.panic c) (a.put d v) w → Q (.panic c) a w) (hy : YieldsIf P ops S oi v a) (hS : S w)
    (h : wpAnyH P md ops Q S fuel (listed.setIfInBounds i true) (a.put d v) w) : wpAnyH P md ops Q S (fuel + 1) listed a w := by
  subst hd
  exact wpAnyH_take hi hs hf hr hQ hy hS h
end
end Go.Proofs.YtnjlggleaocbdaaGreatDoor
