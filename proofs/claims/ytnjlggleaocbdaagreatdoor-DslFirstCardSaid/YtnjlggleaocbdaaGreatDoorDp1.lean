/-
  Plain: the rule language: a text's tokens, what is read of them, and what is printed.
-/
import Derived.Lib.AtoiAll
import Derived.Lib.ItoaNum
import Derived.Lib.Join
import Derived.Shelf.GgClosure.StringsIndexFuncTop
namespace Go.Proofs.YtnjlggleaocbdaaGreatDoor
set_option linter.all false
open Go.Lib

/-- A token: its kind, its text, its number, its line. -/
structure Tok where
  k : Int
  s : List UInt8
  n : Int
  p : Nat
def smallB (c : UInt8) : Bool := decide (97 ≤ c.toNat) && decide (c.toNat ≤ 122)
def digitB (c : UInt8) : Bool := decide (48 ≤ c.toNat) && decide (c.toNat ≤ 57)
def withB (c : UInt8) : Bool := smallB c || digitB c || decide (c.toNat = 95)
def blankB (c : UInt8) : Bool := decide (c.toNat = 32) || decide (c.toNat = 9) || decide (c.toNat = 13)
def seeB (c : UInt8) : Bool := decide (32 ≤ c.toNat) && decide (c.toNat ≤ 126)
abbrev wInput : List UInt8 := [105, 110, 112, 117, 116]
abbrev wOutput : List UInt8 := [111, 117, 116, 112, 117, 116]
abbrev wRule : List UInt8 := [114, 117, 108, 101]
abbrev wIf : List UInt8 := [105, 102]
abbrev wThen : List UInt8 := [116, 104, 101, 110]
abbrev wOr : List UInt8 := [111, 114]
abbrev wAnd : List UInt8 := [97, 110, 100]
abbrev wNot : List UInt8 := [110, 111, 116]
abbrev wKnown : List UInt8 := [107, 110, 111, 119, 110]
abbrev wTrue : List UInt8 := [116, 114, 117, 101]
abbrev wFalse : List UInt8 := [102, 97, 108, 115, 101]
abbrev wInt : List UInt8 := [105, 110, 116]
abbrev wBool : List UInt8 := [98, 111, 111, 108]
abbrev wText : List UInt8 := [116, 101, 120, 116]
def wordsL : List (List UInt8) := [wInput, wOutput, wRule, wIf, wThen, wOr, wAnd, wNot, wKnown, wTrue, wFalse, wInt, wBool, wText]
def typesL : List (List UInt8) := [[], wInt, wBool, wText]
def headB (p : UInt8 → Bool) : List UInt8 → Bool
  | [] => false
  | c :: _ => p c
def nameB (s : List UInt8) : Bool := !s.isEmpty && decide (s.length ≤ 30) && headB smallB s && !wordsL.contains s && s.all withB
def textB (s : List UInt8) : Bool := decide (s.length ≤ 100) && s.all seeB
/-- The number that Atoi answers beside its error. -/
def numV (s : List UInt8) : Int := match atoiAll s with
  | .ok n => n
  | .range => atoiSat s
  | .syntax => 0
/-- Is a text a number, just as it would be printed? -/
def numB (s : List UInt8) : Bool := match atoiAll s with
  | .ok n => decide (itoa n = s) && decide (n ≤ 4611686018427387904)
  | _ => false
/-- A token without its line. -/
structure Tk0 where
  k : Int
  s : List UInt8
  n : Int
def namedF (s : List UInt8) : Tk0 :=
  if headB digitB s = true then (if numB s = true then ⟨110, s, numV s⟩ else ⟨33, s, numV s⟩)
  else if (wordsL.contains s || nameB s) = true then ⟨119, s, 0⟩ else ⟨33, s, 0⟩
/-- A text behind its first quote: what it says, and how many bytes it has with both quotes. -/
def quoF : List UInt8 → Nat → List UInt8 → Option (List UInt8 × Nat)
  | [], _, _ => none
  | c :: r, i, acc =>
    if c.toNat = 34 then some (acc, i + 1)
    else if seeB c = false then none
    else if c.toNat = 92 then (match r with
      | [] => none
      | d :: r' => if d.toNat = 34 ∨ d.toNat = 92 then quoF r' (i + 2) (acc ++ [d]) else none)
    else quoF r (i + 1) (acc ++ [c])
def quotedF (c : UInt8) (r : List UInt8) : Tk0 × Nat := match quoF r 1 [] with
  | some (a, n) => (⟨if textB a = true then 116 else 33, a, 0⟩, n)
  | none => (⟨33, [c], 0⟩, 1)
def relB (c : UInt8) : Bool := decide (c.toNat = 33) || decide (c.toNat = 60) || decide (c.toNat = 62)
def markB (c : UInt8) : Bool := decide (c.toNat = 61) || decide (c.toNat = 60) || decide (c.toNat = 62) || decide (c.toNat = 43) || decide (c.toNat = 45) || decide (c.toNat = 42) || decide (c.toNat = 47) || decide (c.toNat = 37) || decide (c.toNat = 40) || decide (c.toNat = 41) || decide (c.toNat = 58) || decide (c.toNat = 59)
def isEq (l : List UInt8) : Bool := headB (fun d => decide (d.toNat = 61)) l
def spanW : List UInt8 → Nat
  | [] => 0
  | c :: r => if withB c = true then spanW r + 1 else 0
def nextF (c : UInt8) (r : List UInt8) : Tk0 × Nat :=
  if withB c = true then (namedF (c :: r.take (spanW r)), spanW r + 1)
  else if c.toNat = 34 then quotedF c r
  else if (relB c && isEq r) = true then (⟨109, [c, 61], 0⟩, 2)
  else if markB c = true then (⟨109, [c], 0⟩, 1)
  else (⟨33, [c], 0⟩, 1)
def Tk0.at (t : Tk0) (p : Nat) : Tok := ⟨t.k, t.s, t.n, p⟩
/-- What stands between tokens passed over (in a comment or not): the line, what is left. -/
def skipF : Bool → Nat → List UInt8 → Nat × List UInt8
  | _, p, [] => (p, [])
  | true, p, c :: r => if c.toNat = 10 then skipF false (p + 1) r else skipF true p r
  | false, p, c :: r => if c.toNat = 10 then skipF false (p + 1) r else if blankB c = true then skipF false p r else if c.toNat = 35 then skipF true p r else (p, c :: r)
/-- The tokens of what is left, from a line on. -/
def lexF : Nat → Nat → List UInt8 → List Tok
  | 0, _, _ => []
  | f + 1, p, l => match skipF false p l with
    | (q, []) => [⟨101, [], 0, q⟩]
    | (q, c :: r) =>
      if (nextF c r).1.k = 33 then [(nextF c r).1.at q]
      else (nextF c r).1.at q :: lexF f q ((c :: r).drop (nextF c r).2)
def lexL (l : List UInt8) : List Tok := lexF (l.length + 1) 1 l

/-- An expression. -/
inductive ExprT where
  | mk (op n : Int) (s : List UInt8) (args : List ExprT)
def ExprT.op : ExprT → Int | .mk o _ _ _ => o
def ExprT.n : ExprT → Int | .mk _ n _ _ => n
def ExprT.s : ExprT → List UInt8 | .mk _ _ s _ => s
def ExprT.args : ExprT → List ExprT | .mk _ _ _ a => a
def expr0 : ExprT := .mk 0 0 [] []
structure DeclT where
  name : List UInt8
  ty : Int
  out : Bool
structure RuleT where
  name : List UInt8
  rank : Int
  cond : ExprT
  target : List UInt8
  thn : ExprT
structure TheoryT where
  decls : List DeclT
  rules : List RuleT
/-- What a reading answers: what was read and the tokens that are left, or the line and the error. -/
inductive PR (α : Type) where
  | ok (a : α) (r : List Tok)
  | no (p : Nat) (e : Int)
def PR.bind {α β : Type} (x : PR α) (f : α → List Tok → PR β) : PR β := match x with
  | .ok a r => f a r
  | .no p e => .no p e
def headP (ts : List Tok) : Nat := match ts with | [] => 0 | t :: _ => t.p
def isT (t : Tok) (s : List UInt8) : Bool := (t.s == s) && (decide (t.k = 119) || decide (t.k = 109))
def mayF (s : List UInt8) (ts : List Tok) : Option (List Tok) := match ts with
  | [] => none
  | t :: r => if isT t s = true then some r else none
def mustF (s : List UInt8) (ts : List Tok) : PR Unit := match mayF s ts with
  | some r => .ok () r
  | none => .no (headP ts) 11
def isNm (t : Tok) : Bool := decide (t.k = 119) && nameB t.s
def nmF (ts : List Tok) : PR (List UInt8) := match ts with
  | [] => .no 0 11
  | t :: r => if isNm t = true then .ok t.s r else .no t.p 11
/-- One of some texts stands here: its number among them. -/
def oneF : List (List UInt8) → Nat → List Tok → Option (Nat × List Tok)
  | [], _, _ => none
  | s :: l, i, ts => if s = [] then oneF l (i + 1) ts else match mayF s ts with
    | some r => some (i, r)
    | none => oneF l (i + 1) ts
def signT : List (Int × List UInt8) := [(6, wOr), (7, wAnd), (9, [61]), (10, [33, 61]), (11, [60]), (12, [60, 61]), (13, [62]), (14, [62, 61]), (15, [43]), (16, [45]), (17, [42]), (18, [47]), (19, [37])]
def signX (op : Int) : List UInt8 := match signT.find? (fun x => decide (x.1 = op)) with | some x => x.2 | none => []
abbrev opsOr : List Int := [6]
abbrev opsAnd : List Int := [7]
abbrev opsCmp : List Int := [9, 10, 11, 12, 13, 14]
abbrev opsSum : List Int := [15, 16]
abbrev opsTerm : List Int := [17, 18, 19]
def loopF (part : List Tok → PR ExprT) (ops : List Int) : Nat → ExprT → List Tok → PR ExprT
  | n, c, ts => match oneF (ops.map signX) 0 ts with
    | none => .ok c ts
    | some (i, r) => match n with
      | 0 => .no 0 0
      | n + 1 => (part r).bind fun d r' => loopF part ops n (.mk (ops.getD i 0) 0 [] [c, d]) r'
/-- Expressions: what 'or' binds (0), 'and' (1), 'not' (2), '+' (3), '*' (4), a factor (5). -/
def exprF : Nat → Nat → List Tok → PR ExprT
  | 0, _, _ => .no 0 0
  | f + 1, 0, ts => (exprF f 1 ts).bind fun c r => loopF (exprF f 1) opsOr r.length c r
  | f + 1, 1, ts => (exprF f 2 ts).bind fun c r => loopF (exprF f 2) opsAnd r.length c r
  | f + 1, 2, ts => match mayF wNot ts with
    | some r => (exprF f 2 r).bind fun c r' => .ok (.mk 8 0 [] [c]) r'
    | none => (exprF f 3 ts).bind fun c r => match oneF (opsCmp.map signX) 0 r with
      | none => .ok c r
      | some (i, r') => (exprF f 3 r').bind fun d r'' => .ok (.mk (opsCmp.getD i 0) 0 [] [c, d]) r''
  | f + 1, 3, ts => (exprF f 4 ts).bind fun c r => loopF (exprF f 4) opsSum r.length c r
  | f + 1, 4, ts => (exprF f 5 ts).bind fun c r => loopF (exprF f 5) opsTerm r.length c r
  | f + 1, _ + 5, ts => match mayF [45] ts with
    | some r => (exprF f 5 r).bind fun c r' => .ok (.mk 20 0 [] [c]) r'
    | none => match mayF [40] ts with
      | some r => (exprF f 0 r).bind fun c r' => (mustF [41] r').bind fun _ r'' => .ok c r''
      | none => match mayF wKnown ts with
        | some r => (nmF r).bind fun s r' => .ok (.mk 5 0 s []) r'
        | none => match mayF wTrue ts with
          | some r => .ok (.mk 3 1 [] []) r
          | none => match mayF wFalse ts with
            | some r => .ok (.mk 3 0 [] []) r
            | none => match ts with
              | [] => .no 0 11
              | t :: r => if t.k = 110 then .ok (.mk 1 t.n [] []) r else if t.k = 116 then .ok (.mk 2 0 t.s []) r else (nmF (t :: r)).bind fun s r' => .ok (.mk 4 0 s []) r'
mutual
def depthE : ExprT → Nat
  | .mk _ _ _ args => 1 + depthL args
def depthL : List ExprT → Nat
  | [] => 0
  | c :: l => max (depthE c) (depthL l)
end
/-- An expression that isn't too deep. -/
def exprD (f : Nat) (ts : List Tok) : PR ExprT := (exprF f 0 ts).bind fun c r => if 32 < depthE c then .no (headP r) 20 else .ok c r
def declF (o : Bool) (ts : List Tok) : PR DeclT :=
  (nmF ts).bind fun n r => (mustF [58] r).bind fun _ r => match oneF typesL 0 r with
    | none => .no (headP r) 11
    | some (i, r) => (mustF [59] r).bind fun _ r => .ok ⟨n, (i : Int), o⟩ r
def ifF (f : Nat) (ts : List Tok) : PR ExprT := match mayF wIf ts with
  | none => .ok expr0 ts
  | some r => exprD f r
def ruleF (f : Nat) (ts : List Tok) : PR RuleT :=
  (nmF ts).bind fun n r => match r with
    | [] => .no 0 11
    | t :: r => if t.k = 110 then (mustF [58] r).bind fun _ r => (ifF f r).bind fun c r => (mustF wThen r).bind fun _ r =>
        (nmF r).bind fun g r => (mustF [61] r).bind fun _ r => (exprD f r).bind fun e r => (mustF [59] r).bind fun _ r => .ok ⟨n, t.n, c, g, e⟩ r
      else .no t.p 11
/-- A theory's items, from the n-th on. -/
def itemsF (f : Nat) : Nat → Nat → TheoryT → List Tok → PR TheoryT
  | _, _, _, [] => .no 0 11
  | g, n, T, t :: r =>
    if t.k = 101 then .ok T (t :: r)
    else if ¬ (t.k = 119 ∧ (t.s = wInput ∨ t.s = wOutput ∨ t.s = wRule)) then .no t.p 11
    else if n = 100 then .no t.p 9
    else match g with
      | 0 => .no 0 0
      | g + 1 =>
        if t.s = wRule then (ruleF f r).bind fun x r' => itemsF f g (n + 1) ⟨T.decls, T.rules ++ [x]⟩ r'
        else (declF (decide (t.s = wOutput)) r).bind fun x r' => itemsF f g (n + 1) ⟨T.decls ++ [x], T.rules⟩ r'
def theory0 : TheoryT := ⟨[], []⟩
def overF (ts : List Tok) : PR Unit := match ts with
  | [] => .no 0 11
  | t :: r => if t.k = 101 then .ok () (t :: r) else .no t.p 11
def fuelL (l : List UInt8) : Nat := 6 * l.length + 20
/-- A theory that is read. -/
def parseF (l : List UInt8) : PR TheoryT := if 65536 < l.length then .no 0 8 else itemsF (fuelL l) 101 0 theory0 (lexL l)
/-- An expression that is read. -/
def parseE (l : List UInt8) : PR ExprT := if 65536 < l.length then .no 0 8 else (exprD (fuelL l) (lexL l)).bind fun e r => (overF r).bind fun _ r => .ok e r

/-- Texts. -/
def escQ : List UInt8 → List UInt8
  | [] => []
  | c :: r => if c.toNat = 92 then 92 :: 92 :: escQ r else if c.toNat = 34 then 92 :: 34 :: escQ r else c :: escQ r
def quoteX (s : List UInt8) : List UInt8 := [34] ++ escQ s ++ [34]
def bindN (op : Int) : Nat :=
  if op = 6 then 1 else if op = 7 then 2 else if op = 8 then 3 else if 9 ≤ op ∧ op ≤ 14 then 4 else if op = 15 ∨ op = 16 then 5 else if 17 ≤ op ∧ op ≤ 19 then 6 else 7
def parX (b : Bool) (s : List UInt8) : List UInt8 := if b then s else [40] ++ s ++ [41]
def leftN (op : Int) : Nat := if bindN op = 4 then 5 else bindN op
mutual
def layX : ExprT → List UInt8
  | .mk op n s args =>
    if op = 1 then itoa n
    else if op = 2 then quoteX s
    else if op = 3 then (if n = 0 then wFalse else wTrue)
    else if op = 4 then s
    else if op = 5 then wKnown ++ [32] ++ s
    else if op = 8 then wNot ++ [32] ++ lay1 3 args
    else if op = 20 then [45] ++ lay1 7 args
    else lay1 (leftN op) args ++ [32] ++ signX op ++ [32] ++ lay2 (bindN op + 1) args
def lay1 : Nat → List ExprT → List UInt8
  | _, [] => []
  | k, a :: _ => parX (decide (k ≤ bindN a.op)) (layX a)
def lay2 : Nat → List ExprT → List UInt8
  | _, [] => []
  | k, _ :: l => lay1 k l
end
def argsN (op : Int) : Int := if op < 1 ∨ 20 < op then -1 else if op ≤ 5 then 0 else if op = 8 ∨ op = 20 then 1 else 2
def fine1 (op n : Int) (s : List UInt8) (m : Nat) : Bool :=
  decide (argsN op = (m : Int)) &&
  (if op = 1 then decide (0 ≤ n) && decide (n ≤ 4611686018427387904) && decide (s = [])
   else if op = 2 then textB s && decide (n = 0)
   else if op = 3 then (decide (n = 0) || decide (n = 1)) && decide (s = [])
   else if op = 4 ∨ op = 5 then nameB s && decide (n = 0)
   else decide (n = 0) && decide (s = []))
mutual
def fineE : ExprT → Bool
  | .mk op n s args => fine1 op n s args.length && fineL args
def fineL : List ExprT → Bool
  | [] => true
  | c :: l => fineE c && fineL l
end
def exprErr (e : ExprT) : Int := if 32 < depthE e then 20 else if fineE e = false then 10 else if 65536 < (layX e).length then 8 else 0
def exprX (e : ExprT) : List UInt8 := if exprErr e = 0 then layX e else []
def emptyB (e : ExprT) : Bool := decide (e.op = 0) && decide (e.n = 0) && decide (e.s = []) && decide (e.args.length = 0)
def condX (e : ExprT) : List UInt8 := if emptyB e = true then [] else wIf ++ [32] ++ layX e ++ [32]
def ruleX (r : RuleT) : List UInt8 := wRule ++ [32] ++ r.name ++ [32] ++ itoa r.rank ++ [32, 58, 32] ++ condX r.cond ++ wThen ++ [32] ++ r.target ++ [32, 61, 32] ++ layX r.thn ++ [32, 59, 10]
def ruleErr (r : RuleT) : Int :=
  if (nameB r.name && nameB r.target && decide (0 ≤ r.rank) && decide (r.rank ≤ 4611686018427387904)) = false then 10
  else if emptyB r.cond = false ∧ exprErr r.cond ≠ 0 then exprErr r.cond
  else exprErr r.thn
def declB (d : DeclT) : Bool := nameB d.name && decide (1 ≤ d.ty) && decide (d.ty ≤ 3)
def declX (d : DeclT) : List UInt8 := (if d.out = true then wOutput else wInput) ++ [32] ++ d.name ++ [32, 58, 32] ++ typesL.getD d.ty.toNat [] ++ [32, 59, 10]
def rulesErr : List RuleT → Int
  | [] => 0
  | r :: l => if ruleErr r ≠ 0 then ruleErr r else rulesErr l
def theoryX (T : TheoryT) : List UInt8 := (T.decls.map declX).flatten ++ (T.rules.map ruleX).flatten
def theoryErr (T : TheoryT) : Int :=
  if 100 < T.decls.length + T.rules.length then 9
  else if T.decls.all declB = false then 10
  else if rulesErr T.rules ≠ 0 then rulesErr T.rules
  else if 65536 < (theoryX T).length then 8 else 0
def formatX (T : TheoryT) : List UInt8 := if theoryErr T = 0 then theoryX T else []
end Go.Proofs.YtnjlggleaocbdaaGreatDoor
