/-
  Plain: sizes of expressions; the texts at the limits.
-/
import Derived.Test.YtnjlggleaocbdaaGreatDoorDp9
import Derived.Lib.ItoaLen
namespace Go.Proofs.YtnjlggleaocbdaaGreatDoor
set_option linter.all false
mutual
/-- How large an expression is. -/
def szE : ExprT → Nat
  | .mk _ _ s args => 1 + s.length / 20 + args.length / 20 + szL args
def szL : List ExprT → Nat
  | [] => 0
  | c :: l => szE c + szL l
end
theorem szL_take {l : List ExprT} {k : Nat} {x : ExprT} (h : l[k]? = some x) : szL (l.take (k + 1)) = szL (l.take k) + szE x := by
  have app : ∀ l : List ExprT, szL (l ++ [x]) = szL l + szE x := fun l => by
    induction l with
    | nil => simp [szL]
    | cons y l ih => rw [List.cons_append, szL, ih, szL, Nat.add_assoc]
  rw [List.take_succ, h, Option.toList_some, app]
end Go.Proofs.YtnjlggleaocbdaaGreatDoor
namespace Go.Proofs.YtnjlggleaocbdaaGreatDoor.Pl
set_option linter.all false
open Go.Lib

theorem esc_len : ∀ (l : List UInt8), (escQ l).length ≤ 2 * l.length
  | [] => by simp [escQ]
  | c :: r => by
    have := esc_len r
    simp only [escQ]
    split
    · simp; omega
    · split <;> simp <;> omega
theorem sign_len : ∀ op, binB op = true → (signX op).length ≤ 3 := bin_cases (by decide)
theorem name_len {s : List UInt8} (h : nameB s = true) : s.length ≤ 30 := by
  simp only [nameB, Bool.and_eq_true, decide_eq_true_eq] at h
  exact h.1.1.1.2
theorem wide_len : ∀ e, fineE e = true → (wideX e).length ≤ 210 * szE e := by
  refine fine_ind ?_ ?_ ?_ ?_ ?_ ?_ ?_ ?_
  · intro n h0 h1
    have := itoa_length_le n (by omega) (by omega)
    rw [wideX_leaf (by decide), szE, layX.eq_def]
    simp [szL]; omega
  · intro s hs
    simp only [textB, Bool.and_eq_true, decide_eq_true_eq] at hs
    have := esc_len s
    rw [wideX_leaf (by decide), szE, layX.eq_def]
    simp [szL, quoteX]; omega
  · intro n hn
    rw [wideX_leaf (by decide), szE, layX.eq_def]
    rcases hn with rfl | rfl <;> simp [szL]
  · intro s hs
    have := name_len hs
    rw [wideX_leaf (by decide), szE, layX.eq_def]
    simp [szL]; omega
  · intro s hs
    have := name_len hs
    rw [wideX_leaf (by decide), szE, layX.eq_def]
    simp [szL]; omega
  · intro a _ ha
    rw [wideX_not, szE]
    simp [szL, gapX]; omega
  · intro a _ ha
    rw [wideX_neg, szE]
    simp [szL, gapX]; omega
  · intro op a b ho _ _ ha hb
    have := sign_len op ho
    rw [wideX_bin ho, szE]
    simp [szL, gapX]; omega
theorem wide_law {e : ExprT} (h : exprErr e = 0) (hs : szE e ≤ 100) : ∃ r, parseE (wideX e) = .ok e r := by
  have := wide_len e (expr_ok h).2.1
  exact wide_parse h (by omega)

/-! At the limits. -/
def negN : Nat → ExprT
  | 0 => .mk 4 0 [97] []
  | k + 1 => .mk 20 0 [] [negN k]
def negX (k : Nat) : List UInt8 := List.replicate k 45 ++ [97]
def declN (i : Nat) : DeclT := ⟨120 :: itoa (i : Int), 1, false⟩
def declsN (k : Nat) : List DeclT := (List.range k).map declN
def lineN (i : Nat) : List UInt8 := wInput ++ [32] ++ (120 :: itoa (i : Int)) ++ [32, 58, 32] ++ wInt ++ [32, 59]
def textN (k : Nat) : List UInt8 := ((List.range k).map lineN).flatten
def okB {α : Type} (x : PR α) : Bool := match x with | .ok _ _ => true | .no _ _ => false
def noB {α : Type} (x : PR α) (p : Nat) (e : Int) : Bool := match x with | .ok _ _ => false | .no q f => decide (q = p) && decide (f = e)
def errB {α : Type} (x : PR α) (e : Int) : Bool := match x with | .ok _ _ => false | .no _ f => decide (f = e)
theorem lim_e : (exprErr (negN 30) = 0 ∧ exprErr (negN 31) = 0 ∧ exprErr (negN 32) = 20) ∧ (layX (negN 30) = negX 30 ∧ layX (negN 31) = negX 31) := by
  refine ⟨⟨?_, ?_, ?_⟩, ?_, ?_⟩ <;> kernel_rfl
theorem lim_p : okB (parseE (negX 30)) = true ∧ okB (parseE (negX 31)) = true ∧ errB (parseE (negX 32)) 20 = true := by
  refine ⟨?_, ?_, ?_⟩ <;> kernel_rfl
theorem lim_t : theoryErr ⟨declsN 99, []⟩ = 0 ∧ theoryErr ⟨declsN 100, []⟩ = 0 ∧ theoryErr ⟨declsN 101, []⟩ = 9 := by
  refine ⟨?_, ?_, ?_⟩ <;> kernel_rfl
theorem lim_q : okB (parseF (textN 99)) = true ∧ okB (parseF (textN 100)) = true ∧ noB (parseF (textN 101)) 1 9 = true := by
  refine ⟨?_, ?_, ?_⟩ <;> kernel_rfl
/-- The example of the law's first question. -/
def exA : List UInt8 := [97, 43, 98, 42, 45, 50, 32, 60, 32, 51]
def exB : List UInt8 := [97, 32, 43, 32, 98, 32, 42, 32, 45, 50, 32, 60, 32, 51]
def exE : ExprT := .mk 11 0 [] [.mk 15 0 [] [.mk 4 0 [97] [], .mk 17 0 [] [.mk 4 0 [98] [], .mk 20 0 [] [.mk 1 2 [] []]]], .mk 1 3 [] []]
def gotE (x : PR ExprT) : Option ExprT := match x with | .ok e _ => some e | .no _ _ => none
theorem first_a0 : gotE (parseE exA) = some exE := by kernel_rfl
theorem first_a : ∃ r, parseE exA = .ok exE r := by
  have h := first_a0
  cases hp : parseE exA with
  | ok e r => rw [hp] at h; injection h with h; subst h; exact ⟨r, rfl⟩
  | no p e => rw [hp] at h; cases h
theorem first_b : exprErr exE = 0 ∧ layX exE = exB := by constructor <;> kernel_rfl
/-- "input q : int ;\nrule r 1 : then p = ;" -/
def exC : List UInt8 := [105, 110, 112, 117, 116, 32, 113, 32, 58, 32, 105, 110, 116, 32, 59, 10, 114, 117, 108, 101, 32, 114, 32, 49, 32, 58, 32, 116, 104, 101, 110, 32, 112, 32, 61, 32, 59]
theorem first_c : parseF exC = .no 2 11 := by kernel_rfl
end Go.Proofs.YtnjlggleaocbdaaGreatDoor.Pl
