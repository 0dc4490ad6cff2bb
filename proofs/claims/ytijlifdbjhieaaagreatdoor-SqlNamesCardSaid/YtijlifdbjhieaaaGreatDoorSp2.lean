/-
  Plain: a predicate on runes that no byte above 7F pays, gone through a text.
-/
import Derived.Lib.AtoiAll
import Derived.Lib.ItoaNum
import Derived.Lib.Join
import Derived.Shelf.GgClosure.StringsIndexFuncTop
/-
  Plain: the query language: a text's tokens, and what is read of them.
-/
namespace Go.Proofs.YtijlifdbjhieaaaGreatDoor
set_option linter.all false
open Go.Lib

/-- A token: its kind, its text, its number, its place. -/
structure Tok where
  k : Int
  s : List UInt8
  n : Int
  p : Nat
def smallB (c : UInt8) : Bool := decide (97 ≤ c.toNat) && decide (c.toNat ≤ 122)
def digitB (c : UInt8) : Bool := decide (48 ≤ c.toNat) && decide (c.toNat ≤ 57)
def withB (c : UInt8) : Bool := smallB c || digitB c || decide (c.toNat = 95)
def blankB (c : UInt8) : Bool := decide (c.toNat = 32) || decide (c.toNat = 9) || decide (c.toNat = 13) || decide (c.toNat = 10)
def seeB (c : UInt8) : Bool := decide (32 ≤ c.toNat) && decide (c.toNat ≤ 126)
def wordsL : List (List UInt8) := [[115, 101, 108, 101, 99, 116], [102, 114, 111, 109], [119, 104, 101, 114, 101], [103, 114, 111, 117, 112], [111, 114, 100, 101, 114], [98, 121], [100, 101, 115, 99], [108, 105, 109, 105, 116], [97, 110, 100], [111, 114], [110, 111, 116], [115, 117, 109], [99, 111, 117, 110, 116], [109, 105, 110], [109, 97, 120]]
def headB (p : UInt8 → Bool) : List UInt8 → Bool
  | [] => false
  | c :: _ => p c
def nameB (s : List UInt8) : Bool := !s.isEmpty && decide (s.length ≤ 30) && headB smallB s && !wordsL.contains s && s.all withB
def textB (s : List UInt8) : Bool := decide (s.length ≤ 100) && s.all seeB
/-- The number that a text spells, just as it would be printed. -/
def numS (s : List UInt8) : Option Int := match atoiAll s with
  | .ok n => if itoa n = s ∧ -4611686018427387904 ≤ n ∧ n ≤ 4611686018427387904 then some n else none
  | _ => none
/-- A token without its place. -/
structure Tk0 where
  k : Int
  s : List UInt8
  n : Int
def bad0 : Tk0 := ⟨33, [], 0⟩
def namedF (s : List UInt8) : Tk0 :=
  if headB smallB s = true then (if (nameB s || wordsL.contains s) = true then ⟨119, s, 0⟩ else bad0)
  else match numS s with
    | some n => ⟨110, [], n⟩
    | none => bad0
def quoF : List UInt8 → Nat → List UInt8 → Option (List UInt8 × Nat)
  | [], _, _ => none
  | c :: r, i, acc => if c.toNat = 39 then (match r with
      | [] => some (acc, i + 1)
      | d :: r' => if d.toNat = 39 then quoF r' (i + 2) (acc ++ [39]) else some (acc, i + 1))
    else quoF r (i + 1) (acc ++ [c])
def quotedF (r : List UInt8) : Tk0 × Nat := match quoF r 1 [] with
  | some (a, n) => if textB a = true then (⟨116, a, 0⟩, n) else (bad0, 1)
  | none => (bad0, 1)
def relB (c : UInt8) : Bool := decide (c.toNat = 33) || decide (c.toNat = 60) || decide (c.toNat = 62)
def markB (c : UInt8) : Bool := decide (c.toNat = 44) || decide (c.toNat = 40) || decide (c.toNat = 41) || decide (c.toNat = 42) || decide (c.toNat = 61) || decide (c.toNat = 60) || decide (c.toNat = 62)
def isEq (l : List UInt8) : Bool := headB (fun d => decide (d.toNat = 61)) l
def spanW : List UInt8 → Nat
  | [] => 0
  | c :: r => if withB c = true then spanW r + 1 else 0
def nextF (c : UInt8) (r : List UInt8) : Tk0 × Nat :=
  if (withB c || decide (c.toNat = 45)) = true then (namedF (c :: r.take (spanW r)), spanW r + 1)
  else if c.toNat = 39 then quotedF r
  else if (relB c && isEq r) = true then (⟨109, [c, 61], 0⟩, 2)
  else if markB c = true then (⟨109, [c], 0⟩, 1)
  else (bad0, 1)
def Tk0.at (t : Tk0) (p : Nat) : Tok := ⟨t.k, t.s, t.n, p⟩
/-- The tokens of what stands from a place on. -/
def lexF : Nat → Nat → List UInt8 → List Tok
  | 0, _, _ => []
  | _ + 1, p, [] => [⟨101, [], 0, p⟩]
  | f + 1, p, c :: r =>
    if blankB c = true then lexF f (p + 1) r
    else if (nextF c r).1.k = 33 then [(nextF c r).1.at p]
    else (nextF c r).1.at p :: lexF f (p + (nextF c r).2) ((c :: r).drop (nextF c r).2)
def lexL (l : List UInt8) : List Tok := lexF (l.length + 1) 0 l

/-- A term. -/
structure TermT where
  col : List UInt8
  ty : Int
  n : Int
  s : List UInt8
/-- A condition. -/
inductive CondT where
  | mk (op : Int) (args : List CondT) (l r : TermT)
def CondT.op : CondT → Int | .mk o _ _ _ => o
def CondT.args : CondT → List CondT | .mk _ a _ _ => a
def CondT.l : CondT → TermT | .mk _ _ l _ => l
def CondT.r : CondT → TermT | .mk _ _ _ r => r
def term0 : TermT := ⟨[], 0, 0, []⟩
def cond0 : CondT := .mk 0 [] term0 term0
structure ItemT where
  agg : List UInt8
  col : List UInt8
structure OrderT where
  col : List UInt8
  desc : Bool
structure QueryT where
  items : List ItemT
  table : List UInt8
  wh : CondT
  group : List (List UInt8)
  order : List OrderT
  limit : Int
def cmpB (op : Int) : Bool := decide (4 ≤ op) && decide (op ≤ 9)
/-- What a reading answers: what was read and the tokens that are left, or the place and the error. -/
inductive PR (α : Type) where
  | ok (a : α) (r : List Tok)
  | no (p : Nat) (e : Int)
def PR.bind {α β : Type} (x : PR α) (f : α → List Tok → PR β) : PR β := match x with
  | .ok a r => f a r
  | .no p e => .no p e
def headP (ts : List Tok) : Nat := match ts with | [] => 0 | t :: _ => t.p
def isT (t : Tok) (s : List UInt8) : Bool := (t.s == s) && (decide (t.k = 119) || decide (t.k = 109))
def mayF (s : List UInt8) (ts : List Tok) : Option (List Tok) := match ts with
  | [] => none
  | t :: r => if isT t s = true then some r else none
def mustF (s : List UInt8) (ts : List Tok) : PR Unit := match mayF s ts with
  | some r => .ok () r
  | none => .no (headP ts) 11
def isNm (t : Tok) : Bool := decide (t.k = 119) && nameB t.s
def nmF (ts : List Tok) : PR (List UInt8) := match ts with
  | [] => .no 0 11
  | t :: r => if isNm t = true then .ok t.s r else .no t.p 11
def termF (ts : List Tok) : PR TermT := match ts with
  | [] => .no 0 11
  | t :: r => if t.k = 110 then .ok ⟨[], 1, t.n, []⟩ r else if t.k = 116 then .ok ⟨[], 2, 0, t.s⟩ r else if isNm t = true then .ok ⟨t.s, 0, 0, []⟩ r else .no t.p 11
def signsL : List (List UInt8) := [[61], [33, 61], [60], [60, 61], [62], [62, 61]]
def signF : List (List UInt8) → Int → List Tok → Option (Int × List Tok)
  | [], _, _ => none
  | s :: l, i, ts => match mayF s ts with
    | some r => some (i, r)
    | none => signF l (i + 1) ts
def loopF (part : List Tok → PR CondT) (op : Int) (w : List UInt8) : Nat → CondT → List Tok → PR CondT
  | n, c, ts => match mayF w ts with
    | none => .ok c ts
    | some r => match n with
      | 0 => .no 0 0
      | n + 1 => (part r).bind fun d r' => loopF part op w n (.mk op [c, d] term0 term0) r'
def compF (ts : List Tok) : PR CondT := (termF ts).bind fun l r => match signF signsL 4 r with
  | none => .no (headP r) 11
  | some (op, r') => (termF r').bind fun x r'' => .ok (.mk op [] l x) r''
abbrev wOr : List UInt8 := [111, 114]
abbrev wAnd : List UInt8 := [97, 110, 100]
abbrev wNot : List UInt8 := [110, 111, 116]
/-- Conditions: what 'or' binds (0), what 'and' binds (1), what 'not' binds (2). -/
def condF : Nat → Nat → List Tok → PR CondT
  | 0, _, _ => .no 0 0
  | f + 1, 0, ts => (condF f 1 ts).bind fun c r => loopF (condF f 1) 1 wOr r.length c r
  | f + 1, 1, ts => (condF f 2 ts).bind fun c r => loopF (condF f 2) 2 wAnd r.length c r
  | f + 1, _ + 2, ts => match mayF wNot ts with
    | some r => (condF f 2 r).bind fun c r' => .ok (.mk 3 [c] term0 term0) r'
    | none => match mayF [40] ts with
      | some r => (condF f 0 r).bind fun c r' => (mustF [41] r').bind fun _ r'' => .ok c r''
      | none => compF ts
def manyF {α : Type} (part : List Tok → PR α) (beg : Tok → Bool) : Nat → List α → List Tok → PR (List α)
  | n, out, ts => match ts with
    | [] => .no 0 0
    | t :: _ => if out.length = 20 ∧ beg t = true then .no t.p 9 else (part ts).bind fun a r => match mayF [44] r with
      | none => .ok (out ++ [a]) r
      | some r' => match n with
        | 0 => .no 0 0
        | n + 1 => manyF part beg n (out ++ [a]) r'
def aggsL : List (List UInt8) := [[115, 117, 109], [99, 111, 117, 110, 116], [109, 105, 110], [109, 97, 120]]
def isItem (t : Tok) : Bool := isNm t || (decide (t.k = 119) && aggsL.contains t.s)
abbrev wCount : List UInt8 := [99, 111, 117, 110, 116]
def aggF (g : List UInt8) (ts : List Tok) : PR ItemT := (mustF [40] ts).bind fun _ r =>
  (if g = wCount then (mustF [42] r).bind fun _ r' => .ok [42] r' else nmF r).bind fun c r' => (mustF [41] r').bind fun _ r'' => .ok ⟨g, c⟩ r''
def itemG : List (List UInt8) → List Tok → PR ItemT
  | [], ts => (nmF ts).bind fun c r => .ok ⟨[], c⟩ r
  | g :: l, ts => match mayF g ts with
    | some r => aggF g r
    | none => itemG l ts
def itemF (ts : List Tok) : PR ItemT := itemG aggsL ts
abbrev wDesc : List UInt8 := [100, 101, 115, 99]
def orderF (ts : List Tok) : PR OrderT := (nmF ts).bind fun c r => match mayF wDesc r with
  | some r' => .ok ⟨c, true⟩ r'
  | none => .ok ⟨c, false⟩ r
mutual
def depthC : CondT → Nat
  | .mk op args _ _ => if cmpB op = true then 1 else 1 + depthL args
def depthL : List CondT → Nat
  | [] => 0
  | c :: l => max (depthC c) (depthL l)
end
abbrev wSelect : List UInt8 := [115, 101, 108, 101, 99, 116]
abbrev wFrom : List UInt8 := [102, 114, 111, 109]
abbrev wWhere : List UInt8 := [119, 104, 101, 114, 101]
abbrev wGroup : List UInt8 := [103, 114, 111, 117, 112]
abbrev wOrder : List UInt8 := [111, 114, 100, 101, 114]
abbrev wBy : List UInt8 := [98, 121]
abbrev wLimit : List UInt8 := [108, 105, 109, 105, 116]
def whereF (f : Nat) (ts : List Tok) : PR CondT := match mayF wWhere ts with
  | none => .ok cond0 ts
  | some r => (condF f 0 r).bind fun c r' => if 32 < depthC c then .no (headP r') 20 else .ok c r'
def groupF (ts : List Tok) : PR (List (List UInt8)) := match mayF wGroup ts with
  | none => .ok [] ts
  | some r => (mustF wBy r).bind fun _ r' => manyF nmF isNm r'.length [] r'
def ordersF (ts : List Tok) : PR (List OrderT) := match mayF wOrder ts with
  | none => .ok [] ts
  | some r => (mustF wBy r).bind fun _ r' => manyF orderF isNm r'.length [] r'
def limitF (ts : List Tok) : PR Int := match mayF wLimit ts with
  | none => .ok (-1) ts
  | some r => match r with
    | [] => .no 0 0
    | t :: r' => if t.k = 110 ∧ 0 ≤ t.n then .ok t.n r' else .no t.p 11
def overF (ts : List Tok) : PR Unit := match ts with
  | [] => .no 0 11
  | t :: r => if t.k = 101 then .ok () (t :: r) else .no t.p 11
def queryF (f : Nat) (ts : List Tok) : PR QueryT :=
  (mustF wSelect ts).bind fun _ r => (manyF itemF isItem r.length [] r).bind fun items r => (mustF wFrom r).bind fun _ r =>
  (nmF r).bind fun table r => (whereF f r).bind fun wh r => (groupF r).bind fun group r => (ordersF r).bind fun order r => (limitF r).bind fun limit r =>
  (overF r).bind fun _ r => .ok ⟨items, table, wh, group, order, limit⟩ r
/-- A query that is read. -/
def parseF (l : List UInt8) : PR QueryT := if 65536 < l.length then .no 0 8 else queryF (3 * l.length + 10) (lexL l)

/-- Texts. -/
def dblQ : List UInt8 → List UInt8
  | [] => []
  | c :: r => if c.toNat = 39 then 39 :: 39 :: dblQ r else c :: dblQ r
def termX (t : TermT) : List UInt8 := if t.ty = 0 then t.col else if t.ty = 1 then itoa t.n else [39] ++ dblQ t.s ++ [39]
def sgnX (op : Int) : List UInt8 := signsL.getD (op - 4).toNat []
def parX (b : Bool) (s : List UInt8) : List UInt8 := if b then [40] ++ s ++ [41] else s
mutual
def condX : CondT → List UInt8
  | .mk op args l r =>
    if op = 1 then (match args with | [] => [] | a :: t => condX a ++ [32, 111, 114, 32] ++ listX1 t)
    else if op = 2 then (match args with | [] => [] | a :: t => parX (decide (a.op = 1)) (condX a) ++ [32, 97, 110, 100, 32] ++ listX2 t)
    else if op = 3 then (match args with | [] => [] | a :: _ => [110, 111, 116, 32] ++ parX (decide (a.op = 1) || decide (a.op = 2)) (condX a))
    else termX l ++ [32] ++ sgnX op ++ [32] ++ termX r
def listX1 : List CondT → List UInt8
  | [] => []
  | b :: _ => parX (decide (b.op = 1)) (condX b)
def listX2 : List CondT → List UInt8
  | [] => []
  | b :: _ => parX (decide (b.op = 1) || decide (b.op = 2)) (condX b)
end
def itemX (x : ItemT) : List UInt8 := if x.agg = [] then x.col else x.agg ++ [40] ++ x.col ++ [41]
def orderX (o : OrderT) : List UInt8 := if o.desc = true then o.col ++ [32, 100, 101, 115, 99] else o.col
def queryX (q : QueryT) : List UInt8 :=
  [115, 101, 108, 101, 99, 116, 32] ++ join (q.items.map itemX) [44, 32] ++ [32, 102, 114, 111, 109, 32] ++ q.table
  ++ (if q.wh.op = 0 then [] else [32, 119, 104, 101, 114, 101, 32] ++ condX q.wh)
  ++ (if q.group = [] then [] else [32, 103, 114, 111, 117, 112, 32, 98, 121, 32] ++ join q.group [44, 32])
  ++ (if q.order = [] then [] else [32, 111, 114, 100, 101, 114, 32, 98, 121, 32] ++ join (q.order.map orderX) [44, 32])
  ++ (if 0 ≤ q.limit then [32, 108, 105, 109, 105, 116, 32] ++ itoa q.limit else [])
/-- The form of what is printed. -/
def termB (t : TermT) : Bool := if t.ty = 0 then nameB t.col else if t.ty = 1 then decide (-4611686018427387904 ≤ t.n) && decide (t.n ≤ 4611686018427387904) else decide (t.ty = 2) && textB t.s
def argsN (op : Int) : Option Nat := if op = 1 ∨ op = 2 then some 2 else if op = 3 then some 1 else if cmpB op = true then some 0 else none
mutual
def fineC : CondT → Bool
  | .mk op args l r => decide (argsN op = some args.length) && (!decide (args.length = 0) || (termB l && termB r)) && fineL args
def fineL : List CondT → Bool
  | [] => true
  | c :: l => fineC c && fineL l
end
def itemB (x : ItemT) : Bool := if x.agg = wCount then decide (x.col = [42]) else if x.agg = [] ∨ x.agg = [115, 117, 109] ∨ x.agg = [109, 105, 110] ∨ x.agg = [109, 97, 120] then nameB x.col else false
def oddQ (q : QueryT) : Bool := !(q.items.all itemB) || !nameB q.table || !(q.group.all nameB) || !(q.order.all fun o => nameB o.col)
def formQ (q : QueryT) : Int :=
  if q.items.length = 0 ∨ 20 < q.items.length ∨ 20 < q.group.length ∨ 20 < q.order.length then 9
  else if oddQ q = true ∨ q.limit < -1 ∨ 4611686018427387904 < q.limit then 10
  else if q.wh.op = 0 then 0
  else if 32 < depthC q.wh then 20
  else if fineC q.wh = false then 10
  else 0
/-- What is printed, and the error. -/
def formatE (q : QueryT) : Int := if formQ q ≠ 0 then formQ q else if 65536 < (queryX q).length then 8 else 0
def formatX (q : QueryT) : List UInt8 := if formatE q = 0 then queryX q else []
/-- Fields that do not count are zero. -/
def bareT (t : TermT) : TermT := if t.ty = 1 then ⟨[], 1, t.n, []⟩ else if t.ty = 2 then ⟨[], 2, 0, t.s⟩ else ⟨t.col, 0, 0, []⟩
mutual
def bareC : CondT → CondT
  | .mk op args l r => if op = 0 then cond0 else if 3 < op then .mk op [] (bareT l) (bareT r) else .mk op (bareL args) term0 term0
def bareL : List CondT → List CondT
  | [] => []
  | c :: l => bareC c :: bareL l
end
def bareQ (q : QueryT) : QueryT := { q with wh := bareC q.wh }
end Go.Proofs.YtijlifdbjhieaaaGreatDoor

/-
  Plain: a predicate on runes that no byte above 7F pays, gone through a text.
-/
namespace Go.Proofs.YtijlifdbjhieaaaGreatDoor
set_option linter.all false
open Go.Lib Go.Shelf

theorem idx_any (p : Nat → Bool) (q : UInt8 → Bool) (h1 : ∀ b : UInt8, b.toNat < 128 → p b.toNat = q b) (h2 : ∀ r, 128 ≤ r → p r = true) (h3 : ∀ b : UInt8, 128 ≤ b.toNat → q b = true) (s : ByteArray) : ∀ (f pos : Nat), s.size ≤ pos + f → (0 ≤ Lib.idxFuncFrom p true s f pos ↔ ∃ (i : Nat) (h : i < s.size), pos ≤ i ∧ q (s[i]'h) = true)
  | 0, pos, h => by
    simp only [Lib.idxFuncFrom]
    constructor
    · intro h; omega
    · rintro ⟨i, hi, hp, _⟩; omega
  | f + 1, pos, h => by
    rw [Lib.idxFuncFrom]
    by_cases hp : pos < s.size
    · rw [if_pos hp]
      cases hq : q (s[pos]'hp) with
      | false =>
        have hlt : (s[pos]'hp).toNat < 128 := by
          rcases Nat.lt_or_ge (s[pos]'hp).toNat 128 with k | k
          · exact k
          · rw [h3 _ k] at hq; cases hq
        rw [decode_ascii s pos hp hlt]
        have ho : p (s[pos]'hp).toNat = false := by rw [h1 _ hlt, hq]
        rw [if_neg (by simp [ho])]
        rw [idx_any p q h1 h2 h3 s f (pos + 1) (by omega)]
        constructor
        · rintro ⟨i, hi, k1, k2⟩; exact ⟨i, hi, by omega, k2⟩
        · rintro ⟨i, hi, k1, k2⟩
          refine ⟨i, hi, ?_, k2⟩
          rcases Nat.lt_or_ge pos i with k3 | k3
          · omega
          · have : i = pos := by omega
            subst this
            rw [hq] at k2; cases k2
      | true =>
        have ho : p (Utf8.decode s pos).1 = true := by
          by_cases ha : (s[pos]'hp).toNat < 128
          · rw [decode_ascii s pos hp ha]; show p (s[pos]'hp).toNat = true; rw [h1 _ ha, hq]
          · exact h2 _ (decode_high s pos hp (by omega)).1
        rw [if_pos ho]
        exact ⟨fun _ => ⟨pos, hp, Nat.le_refl _, hq⟩, fun _ => by omega⟩
    · rw [if_neg hp]
      constructor
      · intro h; omega
      · rintro ⟨i, hi, k1, _⟩; omega
theorem idx_all (p : Nat → Bool) (q : UInt8 → Bool) (h1 : ∀ b : UInt8, b.toNat < 128 → p b.toNat = !q b) (h2 : ∀ r, 128 ≤ r → p r = true) (h3 : ∀ b : UInt8, 128 ≤ b.toNat → q b = false) (l : List UInt8) : decide (0 ≤ Lib.idxFunc p true ⟨l.toArray⟩) = !l.all q := by
  have h := idx_any p (fun b => !q b) h1 h2 (fun b hb => by rw [h3 b hb]; rfl) ⟨l.toArray⟩ (⟨l.toArray⟩ : ByteArray).size 0 (by omega)
  unfold Lib.idxFunc
  rw [Bool.eq_iff_iff]
  simp only [decide_eq_true_eq, Bool.not_eq_true', Bool.eq_false_iff, ne_eq]
  rw [h]
  constructor
  · rintro ⟨i, hi, _, k2⟩ hd
    have hil : i < l.length := by simpa [ByteArray.size] using hi
    have := List.all_eq_true.1 hd (l[i]) (List.getElem_mem hil)
    have e : (⟨l.toArray⟩ : ByteArray)[i]'hi = l[i] := rfl
    rw [e, this] at k2
    cases k2
  · intro hn
    have hn' : ∃ b ∈ l, ¬ q b = true := Classical.byContradiction fun hc => hn (List.all_eq_true.2 fun b hb => Classical.byContradiction fun hq => hc ⟨b, hb, hq⟩)
    obtain ⟨b, hb, hnb⟩ := hn'
    obtain ⟨i, hi, rfl⟩ := List.mem_iff_getElem.1 hb
    refine ⟨i, by simpa [ByteArray.size] using hi, Nat.zero_le _, ?_⟩
    show (!q l[i]) = true
    simpa using hnb
end Go.Proofs.YtijlifdbjhieaaaGreatDoor
