/-
  A region that draws its order, in a round of a range over a function: what is shown of it outside a round holds there, if none of its operations is a defer statement.
-/
import Derived.RangeFuncNested
import Derived.RangeFuncCalls
import Derived.OrdersHeld
import Derived.OrdersIn
import Derived.OwnWalkIn
namespace Go.Proofs.YtkaimfeiahogaaaGreatDoor
set_option linter.all false
open Go

section
variable {P : Program} {ops : Array Oper} {Q : Exit → Act → World → Prop} {S : World → Prop} {md : Region.Mode}
/-- No defer statement. -/
def calmB (ops : Array Oper) : Bool := ops.all fun o => match o.op with
  | .defer _ => false
  | _ => true
theorem calm_spec {i : Nat} {o : Oper} (h : calmB ops = true) (ho : ops[i]? = some o) : ∀ c, o.op ≠ .defer c := fun c hc => by
  have h1 := (Array.all_eq_true_iff_forall_mem.1 h) o (Array.mem_of_getElem? ho)
  rw [hc] at h1; cases h1
theorem rows_round {n l : Nat} {row : String} {args : Array Value} {w : World} {R : Value → World → Prop} (h : Rows P row args w R) : RowsIn (Fence.wide.inRound l) n P row args w R := fun c cs _ =>
  let ⟨v, w', r, s⟩ := h c cs
  ⟨v, w', r, stepsIn_wide.2 s⟩
theorem wpOp_round {n l i : Nat} {K : Act → World → Prop} {a : Act} {w : World} (hb : calmB ops = true) (hL : ¬ LetsOut Q) (h : wpOp P ops Q i K a w) : wpOpIn (Fence.wide.inRound l) n P ops Q i K a w := by
  unfold wpOpIn
  unfold wpOp at h
  cases ho : ops[i]? with
  | none => simpa [ho] using h
  | some o =>
    simp only [ho] at h ⊢
    split
    · rename_i hw
      rw [if_pos hw] at h
      rcases h with h | ⟨_, h⟩
      · refine ⟨fun _ _ => trivial, ?_⟩
        unfold Oper.wp at h
        rw [show (Fence.wide.inRound l).round = some l from rfl, Oper.semAt_some l _ _ (calm_spec hb ho)]
        generalize (execOp a.eval o).run P w = r at *
        cases r with
        | ok x w' =>
          cases x <;> simp only [Oper.upon, Oper.uponIn] at h ⊢
          case value v => exact h
          case skip => exact h
          case defer d => exact h
          case enter f args => exact ⟨fun h => (by cases h), (callsIn_wide.2 h).inRound l⟩
          case row row args => exact ⟨fun h => (by cases h), rows_round h⟩
        | halt x w' =>
          cases x <;> simp only [Oper.upon, Oper.uponIn] at h ⊢
          case panic v => exact h
      · exact absurd h hL
    · rename_i hw
      rw [if_neg hw] at h
      exact ⟨fun _ _ => trivial, h⟩
theorem wpAny_round {n l : Nat} (hb : calmB ops = true) (hL : ¬ LetsOut Q) : ∀ (fuel : Nat) (listed : Array Bool) (a : Act) (w : World), wpAny P md ops Q fuel listed a w → wpAnyIn (Fence.wide.inRound l) n P md ops Q fuel listed a w
  | 0, _, _, _, h => h
  | fuel + 1, listed, a, w, h => ⟨h.1, fun i hi => wpOpIn_mono (fun a' w' h' => wpAny_round hb hL fuel _ a' w' h') (wpOp_round hb hL (h.2 i hi))⟩
/-- The beginning: S holds behind each operation. -/
theorem region_round (S : World → Prop) {id n l : Nat} {a : Act} {w : World} (hm : P.follows .mixedOrders = true) (hb : calmB ops = true) (hL : ¬ LetsOut Q) (hS : S w.drew)
    (h : S w.drew → wpAnyH P .any ops Q S ops.size (Array.replicate ops.size false) a w.drew) : (Code.region id ops true).wpIn (Fence.wide.inRound l) n P Q a w :=
  wpIn_region_any hm (wpAny_round hb hL _ _ _ _ (wpAny_of_held _ _ _ _ (h hS)))
/-- Number i is taken first; its slot is d. -/
theorem take2 (i : Nat) (d : Option Tmp) (v : Value) {oi : Oper} {fuel : Nat} {listed : Array Bool} {a : Act} {w : World} (hi : ops[i]? = some oi)
    (hs : Region.noSelect ops = true) (hf : Region.free md ops listed i = true) (hr : (Region.ready md ops listed).contains i = true) (hd : oi.dst = d)
    (hQ : ∀ c a w, Q (.panic c) (a.put d v) w → Q (.panic c) a w) (hy : YieldsIf P ops S oi v a) (hS : S w)
    (h : wpAnyH P md ops Q S fuel (listed.setIfInBounds i true) (a.put d v) w) : wpAnyH P md ops Q S (fuel + 1) listed a w := by
  subst hd
  exact wpAnyH_take hi hs hf hr hQ hy hS h
end
end Go.Proofs.YtkaimfeiahogaaaGreatDoor
