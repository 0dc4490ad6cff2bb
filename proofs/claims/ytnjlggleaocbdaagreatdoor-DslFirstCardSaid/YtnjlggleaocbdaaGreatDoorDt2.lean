/-
  Contract of dsl.tokens: a range over its function gives a text's tokens one by one.
-/
import Derived.Test.YtnjlggleaocbdaaGreatDoorDc9
import Derived.Test.YtnjlggleaocbdaaGreatDoorDc3
import Derived.RangeFuncNested
import Derived.RangeFuncBound
import Derived.RangeFuncCalls
import Derived.RangeFuncLeaves
import Derived.Shelf.Abstract
import Derived.Shelf.RegionOpen
import Derived.OwnWalkIn
import Derived.TacticsInMore
import Derived.LoopNIn
import Derived.LoopIn
import Derived.Test.YtnjlggleaocbdaaGreatDoorDp5

/-
  The lexer's next, whole; the tokens one by one; a range over an iterator with a box of its own, whose body never leaves early.
-/
namespace Go.Proofs.YtnjlggleaocbdaaGreatDoor
set_option linter.all false
open Go.RowKit Go.Shelf
attribute [local go_sem] cell_set_self lt_1 lt_2 lt_3 lt_4 lt_5 lt_6 Oper.semAt_some

theorem next_any (lb : Nat) (c : UInt8) (r : List UInt8) (p : Nat) (hs : (c :: r).length ≤ 1000000000) (w : World) (E : Env w) (h8 : 8 ≤ lb) (H : LxS w lb (c :: r) p) :
    Calls Tryz.prog 67 #[.pointer (some ⟨lb, 0, none⟩)] w fun e w' => e = .returned (tkV (nextF c r).1 p) ∧ LxS w' lb ((c :: r).drop (nextF c r).2) p ∧ Gr w.heap.size lb w w' := by
  cases hw : withB c with
  | true => exact next_word lb c r p hs hw w E h8 H
  | false => exact next_sign lb c r p hs hw w H
theorem tokens_any (s : ByteArray) (w : World) : Calls Tryz.prog 49 #[.string s] w fun e w' => e = .returned (.func (.func 65) #[] #[.pointer (some ⟨w.heap.size, 0, none⟩)]) ∧ w' = w.alloc (.cells #[.string s] 9) := by
  go_enter Tryz.func49, Tryz.ntmps49
  go_wp2
  go_ret
  exact ⟨rfl, rfl⟩
/-- The row that a slice in the box b names. -/
def Rw (b : Nat) (W : World) (k : Nat) : Prop := ∃ n cap, W.cell? ⟨b, 0, none⟩ = some (.slice (some ⟨k, 0, none⟩) n cap)
/-- What a round of Collect's loop keeps: what lay below n0, and every box but b and the row that it names. -/
def KpT (n0 b : Nat) (W W' : World) : Prop :=
  Below n0 W W' ∧ (∀ k o, W.heap[k]? = some o → o.isCells = true → k ≠ b → ¬ Rw b W k → W'.heap[k]? = some o) ∧ ∀ k, Rw b W' k → Rw b W k ∨ (W.heap.size ≤ k ∧ k < W'.heap.size)
theorem KpT.trans {n0 b : Nat} {A B C : World} (h : KpT n0 b A B) (k : KpT n0 b B C) : KpT n0 b A C := by
  refine ⟨h.1.trans k.1, fun i o hi ho hb hr => ?_, fun i hi => ?_⟩
  · refine k.2.1 i o (h.2.1 i o hi ho hb hr) ho hb fun hr2 => ?_
    rcases h.2.2 i hr2 with h1 | h1
    · exact hr h1
    · have := (Array.getElem?_eq_some_iff.1 hi).1; omega
  · rcases k.2.2 i hi with h1 | h1
    · rcases h.2.2 i h1 with h2 | h2
      · exact .inl h2
      · exact .inr ⟨h2.1, Nat.lt_of_lt_of_le h2.2 k.1.size⟩
    · exact .inr ⟨Nat.le_trans h.1.size h1.1, h1.2⟩
theorem rw_same {b : Nat} {W W' : World} (h : W'.cell? ⟨b, 0, none⟩ = W.cell? ⟨b, 0, none⟩) (k : Nat) : Rw b W' k ↔ Rw b W k := by unfold Rw; rw [h]
theorem KpT.putObj {n0 b B : Nat} (hn : n0 ≤ B) (hb : b < B) (W : World) (l : Nat) (o o' : Obj) (hl : B ≤ l) (ho : W.heap[l]? = some o) (hc : o.isCells = false) : KpT n0 b W (W.putObj l o') := by
  refine ⟨(Below.refl _ W).grown (grownBy_putObj' W l o') (by have := (Array.getElem?_eq_some_iff.1 ho).1; omega) (fun k e => by cases e; omega), fun k x hk hx _ _ => ?_, fun k hk => .inl ?_⟩
  · rw [World.putObj_heap_other (by rintro rfl; rw [hk] at ho; injection ho with e; subst e; rw [hx] at hc; cases hc)]; exact hk
  · exact (rw_same (World.cell?_of_block (World.putObj_heap_other (by dsimp only; omega))) k).1 hk
theorem KpT.below {n0 b : Nat} {W W' : World} (h : Below W.heap.size W W') (hn : n0 ≤ W.heap.size) (hb : b < W.heap.size) : KpT n0 b W W' :=
  ⟨h.mono hn, fun k o hk _ _ _ => (h.block k (Array.getElem?_eq_some_iff.1 hk).1).trans hk, fun k hk => .inl ((rw_same (h.cell (p := ⟨b, 0, none⟩) hb) k).1 hk)⟩
/-- What abides stores into a walk's object, and into boxes that are neither b nor the row that b names. -/
def AbG (b B : Nat) (J : List Tok → World → Prop) : Prop :=
  ∀ s W W' row, J s W → W.grownBy W' row → (∀ r, row = some r → B ≤ r ∧ ∃ o : Obj, W.heap[r]? = some o ∧ (o.isWalk = true ∨ (o.isCells = true ∧ r ≠ b ∧ ¬ Rw b W r))) → J s W'
def OwnG (b B : Nat) (I : List Tok → World → Prop) : Prop :=
  ∀ s W W' row, I s W → W.grownBy W' row → (∀ r, row = some r → B ≤ r ∧ ∃ o : Obj, W.heap[r]? = some o ∧ (o.isCells = false ∨ (r ≠ b ∧ ¬ Rw b W r))) → I s W'
/-- An iterator that yields the tokens ys, all of them. -/
def SeqG (m gf : Nat) (lb : Array Value) (b n0 : Nat) (ys : List Tok) (W : World) : Prop :=
  ∀ (l : Nat) (J : List Tok → World → Prop), AbG b W.heap.size J →
    (∀ pre x W1, J pre W1 → pre.length < ys.length → YieldAt Fence.wide (m - 1) Tryz.prog l #[tokV x] W1 fun e W' => e = .returned (.bool true) ∧ J (pre ++ [x]) W' ∧ KpT n0 b W1 W') →
    J [] W → CallsIn Fence.wide m Tryz.prog gf (#[.func (.yield l) #[] #[]] ++ lb) W fun e W' => (∃ v, e = .returned v) ∧ J ys W'
def gatherPost (n0 b B : Nat) (I : List Tok → World → Prop) (xs : List Tok) (W : World) : Exit → Act → World → Prop
  | .normal, _, W' => KeepsFrom B W W' ∧ KpT n0 b W W' ∧ I xs W'
  | _, _, _ => False
theorem OwnG.put {b B : Nat} {I : List Tok → World → Prop} (h : OwnG b B I) {s : List Tok} {W : World} {l : Nat} {o : Obj} (o' : Obj) (hs : I s W) (hB : B ≤ l) (hl : W.heap[l]? = some o) (ho : o.isCells = false) : I s (W.putObj l o') :=
  h s W _ (some l) hs (grownBy_putObj' W l o') (fun r e => by cases e; exact ⟨hB, o, hl, .inl ho⟩)
theorem OwnG.new {b B : Nat} {I : List Tok → World → Prop} (h : OwnG b B I) {s : List Tok} {W : World} (o : Obj) (hs : I s W) : I s (W.alloc o) :=
  h s W _ none hs (World.grownBy_alloc W o none) (fun r e => by cases e)
/-- A range over such an iterator. -/
theorem gather {n : Nat} {g : Operand} {ps : Array Tmp} {assign body : Code} {Q : Exit → Act → World → Prop} {a : Act} {w : World} (h1 : 1 ≤ n) {gf : Nat} {lb : Array Value} (hg : a.eval g = .func (.func gf) #[] lb)
    (eg : ∀ args w, (callFunc gf args).run Tryz.prog w = .ok (.enter gf args) w) {b n0 : Nat} {ys : List Tok} (hn0 : n0 ≤ w.heap.size) (hb : b < w.heap.size) (hseq : ∀ W, Below w.heap.size w W → SeqG (n - 1) gf lb b n0 ys W) (hps : ps.size = 1)
    (I : List Tok → World → Prop) (hI : OwnG b w.heap.size I) (h0 : I [] w) (Ax : Tok → Act → World → Prop) (hAx : ∀ x a', OwnFrom w.heap.size (fun (_ : Unit) W => Ax x a' W))
    (hassign : ∀ (l : Nat) (pre : List Tok) (x : Tok) (W : World) (K : Act → World → Prop), I pre W → (∀ a' W', KeepsFrom w.heap.size W W' → KpT n0 b W W' → I pre W' → Ax x a' W' → K a' W') →
      assign.wpIn (Fence.wide.inRound l) (n - 1 - 1) Tryz.prog (Exit.then K (fun _ _ _ => False)) { tmps := (ps.zip #[tokV x]).foldl (fun t (p, v) => t.setIfInBounds p v) a.tmps, defers := [] } W)
    (hbody : ∀ (l : Nat) (pre : List Tok) (x : Tok) (a' : Act) (W : World), w.heap.size ≤ l → I pre W → Ax x a' W → pre.length < ys.length → body.wpIn (Fence.wide.inRound l) (n - 1 - 1) Tryz.prog (gatherPost n0 b w.heap.size I (pre ++ [x]) W) a' W)
    (hdone : ∀ (D : Nat) (W : World), w.heap.size ≤ D → I ys W → W.heap[D]? = some (.deferred (some [])) → Q .normal { a with defers := { target := .collected D, args := #[] } :: a.defers } W) :
    (Code.rangeFunc g ps assign body).wpIn Fence.wide n Tryz.prog Q a w := by
  refine wpIn_rangeFunc fun fn hfn => ?_
  rw [show Fence.wide.round = none from rfl]
  obtain ⟨rec, hrec⟩ : ∃ rec : LoopState → Option Code → Loop, rec = fun st pe => { state := st, pending := pe, fn, tmps := a.tmps, params := ps, assign, body, defers := w.heap.size } := ⟨_, rfl⟩
  obtain ⟨V, hV⟩ : ∃ V, (w.alloc (.deferred (some []))).alloc (.loop (rec .ready none)) = V := ⟨_, rfl⟩
  have hVs : V.heap.size = w.heap.size + 2 := by rw [← hV]; simp
  have hL : V.heap[w.heap.size + 1]? = some (.loop (rec .ready none)) := by
    rw [← hV]; have := World.alloc_heap_new (w.alloc (.deferred (some []))) (.loop (rec .ready none)); rwa [World.size_alloc] at this
  have hD : V.heap[w.heap.size]? = some (.deferred (some [])) := by
    rw [← hV]; exact (Below.heap_alloc _ _ _ (by simp)).trans (World.alloc_heap_new w _)
  have hI1 : I [] V := by rw [← hV]; exact hI.new _ (hI.new _ h0)
  have hbV : Below w.heap.size w V := by rw [← hV]; exact ((Below.refl _ w).alloc (Nat.le_refl _) _).alloc (by simp) _
  refine ⟨w.heap.size + 1, [{ target := .collected w.heap.size, args := #[] }], V, { target := .fn (.func gf) lb, args := #[.func (.yield (w.heap.size + 1)) #[] #[]] }, V, gf,
    #[.func (.yield (w.heap.size + 1)) #[] #[]] ++ lb, V, ?_, ?_, fun f' hf' => trivial, ?_, fun _ => h1, ?_⟩
  · rw [← hV, hrec]; exact run_enterLoop_outer _ _ _ _ _
  · simp only [resolve, hg]
    simp [go_sem]
  · simp [invoke, go_sem, eg]
  · have stay : ∀ {A B : World} {row : Option Nat}, A.grownBy B row → (∀ r, row = some r → V.heap.size ≤ r ∧ ∃ o : Obj, A.heap[r]? = some o ∧ (o.isWalk = true ∨ (o.isCells = true ∧ r ≠ b ∧ ¬ Rw b A r))) → ∀ (k : Nat) (o : Obj), A.heap[k]? = some o → o.isWalk = false → o.isCells = false → B.heap[k]? = some o := fun hg' hr k o hk hw hc =>
      (hg'.block k (Array.getElem?_eq_some_iff.1 hk).1 (fun e => by
        obtain ⟨_, o', ho', h⟩ := hr k e.symm
        rw [hk] at ho'; injection ho' with ho'; subst ho'
        rcases h with h | h
        · rw [hw] at h; cases h
        · rw [hc] at h; cases h.1)).trans hk
    refine (hseq V hbV (w.heap.size + 1) (fun pre W => I pre W ∧ W.heap[w.heap.size + 1]? = some (.loop (rec .ready none)) ∧ W.heap[w.heap.size]? = some (.deferred (some [])))
      (fun s A B row hs hg' hr => ⟨hI s A B row hs.1 hg' (fun r e => by
          obtain ⟨hB, o, ho, h⟩ := hr r e
          exact ⟨by omega, o, ho, h.elim (fun h => .inl (Obj.not_cells_of_walk h)) (fun h => .inr h.2)⟩), stay hg' hr _ _ hs.2.1 rfl rfl, stay hg' hr _ _ hs.2.2 rfl rfl⟩) ?_ ⟨hI1, hL, hD⟩).mono ?_
    · rintro pre x W ⟨hi, hl, hk⟩ hlen
      have hy := run_yield (P := Tryz.prog) (args := #[tokV x]) hl (by rw [hrec]; exact hps.symm)
      rw [hrec] at hy
      refine ⟨fn, _, assign, body, hy, roundIn_of_wpIn hfn (hassign _ pre x W _ hi ?_)⟩
      clear hy
      intro a' X hX hkX hiX hax
      replace hl := hX.same _ _ (by omega) hl rfl
      replace hk := hX.same _ _ (Nat.le_refl _) hk rfl
      refine ⟨_, run_beginRound hl (by rw [hrec]), ?_⟩
      have hlt := (Array.getElem?_eq_some_iff.1 hl).1
      have hl2 : (X.putObj (w.heap.size + 1) (.loop { rec .ready none with state := .busy })).heap[w.heap.size + 1]? = some (.loop { rec .ready none with state := .busy }) := World.putObj_heap_same hlt
      have hk2 : (X.putObj (w.heap.size + 1) (.loop { rec .ready none with state := .busy })).heap[w.heap.size]? = some (.deferred (some [])) := (World.putObj_heap_other (by omega)).trans hk
      have hw2 := KpT.putObj (n0 := n0) (b := b) (B := w.heap.size) hn0 hb X (w.heap.size + 1) _ (.loop { rec .ready none with state := .busy }) (by omega) hl rfl
      refine wpIn_mono (hbody _ pre x a' _ (by omega) (hI.put _ hiX (by omega) hl rfl) ((hAx x a').putObj (s := ()) _ hax (by omega) hl rfl) hlen) ?_
      rintro e a3 Y hp
      cases e with
      | normal =>
        obtain ⟨hY, hkY, hiY⟩ := hp
        have hl3 := hY.same _ _ (by omega) hl2 rfl
        have hk3 := hY.same _ _ (Nat.le_refl _) hk2 rfl
        have hr := run_endRound (P := Tryz.prog) none hl3
        rw [hrec] at hr hl3 ⊢
        exact ⟨_, _, hr, ⟨rfl, ⟨hI.put _ hiY (by omega) hl3 rfl, World.putObj_heap_same (Array.getElem?_eq_some_iff.1 hl3).1, (World.putObj_heap_other (by omega)).trans hk3⟩, by
          have hw3 := fun o => KpT.putObj (n0 := n0) (b := b) (B := w.heap.size) hn0 hb Y (w.heap.size + 1) _ o (by omega) hl3 rfl
          rw [hrec] at hw2 hkY
          exact hkX.trans (hw2.trans (hkY.trans (hw3 _)))⟩⟩
      | _ => exact False.elim hp
    · rintro e Y ⟨⟨v, rfl⟩, hi, hl, hk⟩
      exact ⟨none, _, by have := run_endLoop (P := Tryz.prog) hl (by rw [hrec]; simp); rw [hrec] at this; exact this, hdone _ _ (Nat.le_refl _) (hI.put _ hi (by omega) hl rfl) ((World.putObj_heap_other (by omega)).trans hk)⟩
end Go.Proofs.YtnjlggleaocbdaaGreatDoor

/-
  Contract of dsl.tokens: a range over its function gives a text's tokens one by one.
-/
namespace Go.Proofs.YtnjlggleaocbdaaGreatDoor
set_option linter.all false
open Go.RowKit Go.Shelf
attribute [local go_sem] cell_set_self lt_1 lt_2 lt_3 lt_4 lt_5 lt_6 Oper.semAt_some

theorem next_len (c : UInt8) (r : List UInt8) : 1 ≤ (nextF c r).2 ∧ (nextF c r).2 ≤ r.length + 1 := by
  unfold nextF
  split
  · have := spanW_le r; simp; omega
  · split
    · unfold quotedF
      cases h : quoF r 1 [] with
      | none => simp
      | some x =>
        obtain ⟨a, n⟩ := x
        have := Pl.quo_size r.length r 1 [] a n (Nat.le_refl _) h
        simp only; omega
    · split
      · rename_i h
        have : r ≠ [] := by intro e; subst e; simp [isEq, headB] at h
        have := List.length_pos_iff.2 this
        simp; omega
      · split <;> simp
theorem lex_end {f p q : Nat} {l : List UInt8} (h : skipF false p l = (q, [])) : lexF (f + 1) p l = [⟨101, [], 0, q⟩] := by
  rw [lexF, h]
theorem lex_bad {f p q : Nat} {l : List UInt8} {c : UInt8} {r : List UInt8} (h : skipF false p l = (q, c :: r)) (h2 : (nextF c r).1.k = 33) : lexF (f + 1) p l = [(nextF c r).1.at q] := by
  rw [lexF, h]; simp only; rw [if_pos h2]
theorem lex_tok {f p q : Nat} {l : List UInt8} {c : UInt8} {r : List UInt8} (h : skipF false p l = (q, c :: r)) (h2 : (nextF c r).1.k ≠ 33) : lexF (f + 1) p l = (nextF c r).1.at q :: lexF f q ((c :: r).drop (nextF c r).2) := by
  rw [lexF, h]; simp only; rw [if_neg h2]
theorem skip_up : ∀ (l : List UInt8) (b : Bool) (p q : Nat) (r : List UInt8), skipF b p l = (q, r) → q + r.length ≤ p + l.length
  | [], b, p, q, r, h => by
    have : skipF b p [] = (p, []) := by cases b <;> rfl
    rw [this] at h; injection h with h1 h2; subst h1 h2; simp
  | c :: l, true, p, q, r, h => by
    rw [skipF] at h
    split at h
    · have := skip_up l _ _ _ _ h; simp; omega
    · have := skip_up l _ _ _ _ h; simp; omega
  | c :: l, false, p, q, r, h => by
    rw [skipF] at h
    split at h
    · have := skip_up l _ _ _ _ h; simp; omega
    · split at h
      · have := skip_up l _ _ _ _ h; simp; omega
      · split at h
        · have := skip_up l _ _ _ _ h; simp; omega
        · injection h with h1 h2; subst h1 h2; exact Nat.le_refl _
theorem cells_of_cell {W : World} {a : Addr} {v : Value} (h : W.cell? a = some v) : ∃ o : Obj, W.heap[a.block]? = some o ∧ o.isCells = true := by
  unfold World.cell? at h
  cases hb : W.heap[a.block]? with
  | none => rw [hb] at h; simp at h
  | some o => exact ⟨o, rfl, by cases o <;> simp_all [Obj.isCells]⟩
theorem gr_below {B n0 rb : Nat} {a w : World} (h : Gr B rb a w) (h1 : n0 ≤ rb) (h2 : n0 ≤ B) : Below n0 a w := ⟨h.os, h.tape, h.output, h.size, fun k hk => h.block k (by omega) (by omega)⟩
/-- How the iterator's world stands. -/
structure TkI (w0 : World) (b2 lb : Nat) (wr : World) : Prop where
  below : Below w0.heap.size w0 wr
  lt : lb < wr.heap.size
  rw : ∀ k, Rw b2 wr k → k < wr.heap.size ∧ k ≠ lb
theorem TkI.gr {w0 wr w2 : World} {b2 lb : Nat} (h : TkI w0 b2 lb wr) (hb : b2 < lb) (h0 : w0.heap.size ≤ lb) (g : Gr wr.heap.size lb wr w2) : TkI w0 b2 lb w2 :=
  ⟨h.below.trans (gr_below g h0 (Nat.le_trans h0 (Nat.le_of_lt h.lt))), Nat.lt_of_lt_of_le h.lt g.size, fun k hk => by
    have := h.rw k ((rw_same ((gcell g).1 b2 0 (Nat.lt_trans hb h.lt) (by omega)) k).1 hk)
    exact ⟨Nat.lt_of_lt_of_le this.1 g.size, this.2⟩⟩
theorem TkI.alloc {w0 wr : World} {b2 lb : Nat} (h : TkI w0 b2 lb wr) (hb : b2 < lb) (h0 : w0.heap.size ≤ lb) (o : Obj) : TkI w0 b2 lb (wr.alloc o) :=
  h.gr hb h0 (Gr.alloc (Gr.refl _ _ _) (Nat.le_refl _) o)
theorem TkI.kp {w0 wr w2 : World} {b2 lb : Nat} (h : TkI w0 b2 lb wr) (k : KpT w0.heap.size b2 wr w2) : TkI w0 b2 lb w2 :=
  ⟨h.below.trans k.1, Nat.lt_of_lt_of_le h.lt k.1.size, fun i hi => by
    have h1 := k.1.size
    have h2 := h.lt
    rcases k.2.2 i hi with h3 | h3
    · have := h.rw i h3; omega
    · omega⟩
theorem LxS.kp {w0 wr w2 : World} {b2 lb : Nat} {l : List UInt8} {q : Nat} (H : LxS wr lb l q) (h : TkI w0 b2 lb wr) (hb : b2 < lb) (k : KpT w0.heap.size b2 wr w2) : LxS w2 lb l q := by
  obtain ⟨o, h1, h2⟩ := cells_of_cell H.c0
  exact H.block ((k.2.1 lb o h1 h2 (by omega) (fun h3 => (h.rw _ h3).2 rfl)).trans h1.symm)
theorem AbG.gr {w0 wr w2 : World} {b2 lb B : Nat} {J : List Tok → World → Prop} (h : AbG b2 B J) (hB : B ≤ lb) {pre : List Tok} (hJ : J pre wr) (hT : TkI w0 b2 lb wr) (hb : b2 < lb) {l : List UInt8} {q : Nat} (H : LxS wr lb l q) (g : Gr wr.heap.size lb wr w2) : J pre w2 := by
  obtain ⟨o, h1, h2⟩ := cells_of_cell H.c0
  exact h pre wr w2 (some lb) hJ ⟨g.os, g.tape, g.output, g.size, fun i hi hr => g.block i hi (fun e => hr (by rw [e]))⟩ (fun r e => by cases e; exact ⟨hB, o, h1, .inr ⟨h2, by omega, fun h3 => (hT.rw _ h3).2 rfl⟩⟩)
theorem AbG.alloc {wr : World} {b2 B : Nat} {J : List Tok → World → Prop} (h : AbG b2 B J) {pre : List Tok} (hJ : J pre wr) (o : Obj) : J pre (wr.alloc o) :=
  h pre wr _ none hJ (World.grownBy_alloc wr o none) (fun r e => by cases e)
theorem tok_kept {w0 wr w2 : World} {b2 lb : Nat} {cs : Array Value} {t : TypeId} (h : TkI w0 b2 lb wr) (hb : b2 < lb) (k : KpT w0.heap.size b2 (wr.alloc (.cells cs t)) w2) : w2.heap[wr.heap.size]? = some (.cells cs t (0, 0)) := by
  have h2 := h.lt
  refine k.2.1 _ _ (heap_alloc_new wr _) rfl (by omega) (fun h3 => ?_)
  have h4 := h.rw _ ((rw_same (((Below.refl wr.heap.size wr).alloc (Nat.le_refl _) _).cell (p := ⟨b2, 0, none⟩) (by dsimp only; omega)) _).1 h3)
  omega
theorem lxs_new (W : World) (L : List UInt8) (t : TypeId) : LxS (W.alloc (.cells #[.string ⟨L.toArray⟩, .int .i64 1] t)) W.heap.size L 1 := by
  have h := heap_alloc_new W (.cells #[.string ⟨L.toArray⟩, .int .i64 1] t)
  generalize W.alloc (.cells #[.string ⟨L.toArray⟩, .int .i64 1] t) = V at *
  exact ⟨by simp [World.cell?, h], by simp [World.cell?, h], by simp [World.frozen?, h], by simp [World.frozen?, h]⟩
theorem name_worldIn {F : Fence} {n : Nat} {P : Program} {c : Code} {Q : Exit → Act → World → Prop} {a : Act} {w : World} (h : ∀ W, W = w → Code.wpIn F n P c Q a W) : Code.wpIn F n P c Q a w := h w rfl
set_option maxHeartbeats 8000000 in
set_option maxRecDepth 100000 in
theorem tokens1_in (m : Nat) (l0 Bb b2 : Nat) (w0 : World) (L : List UInt8) (hl : L.length ≤ 1000000000) (E0 : Env w0) (hBb : Bb < w0.heap.size) (hBs : w0.cell? ⟨Bb, 0, none⟩ = some (.string ⟨L.toArray⟩)) (J : List Tok → World → Prop) (W : World) (hJ : AbG b2 W.heap.size J)
    (hY : ∀ pre x V, J pre V → pre.length < (lexL L).length → YieldAt Fence.wide (m - 1) Tryz.prog l0 #[tokV x] V fun e W' => e = .returned (.bool true) ∧ J (pre ++ [x]) W' ∧ KpT w0.heap.size b2 V W')
    (hW : Below w0.heap.size w0 W) (hb2 : b2 < W.heap.size) (hR0 : ∀ k, Rw b2 W k → k < W.heap.size) (h0 : J [] W) :
    CallsIn Fence.wide m Tryz.prog 65 #[.func (.yield l0) #[] #[], .pointer (some ⟨Bb, 0, none⟩)] W fun e W' => (∃ v, e = .returned v) ∧ J (lexL L) W' := by
  refine callsIn_of_wp Tryz.func65 rfl trivial ?_ rfl
  simp only [Tryz.ntmps65, List.size_toArray, List.length_cons, List.length_nil, Nat.reduceAdd, Nat.reduceSub, Array.replicate_succ, Array.replicate_zero, List.push_toArray, List.append_toArray, List.nil_append, List.cons_append]
  have hBs' : W.cell? ⟨Bb, 0, none⟩ = some (.string ⟨L.toArray⟩) := (hW.cell (p := ⟨Bb, 0, none⟩) hBb).trans hBs
  have HY := Lib.hid hY
  have HE := Lib.hid E0
  have HJA := Lib.hid hJ
  have h8 : 8 ≤ W.heap.size := Nat.le_trans E0.1 hW.size
  have hw0 := hW.size
  have HI0 : Hid (TkI w0 b2 W.heap.size (W.alloc (.cells #[.string ⟨L.toArray⟩, .int .i64 1] 125))) := Lib.hid ⟨hW.alloc hW.size _, by simp, fun k hk => by
    have := hR0 k ((rw_same (((Below.refl W.heap.size W).alloc (Nat.le_refl _) _).cell (p := ⟨b2, 0, none⟩) hb2) k).1 hk)
    simp; omega⟩
  have HX0 := Lib.hid (lxs_new W L 125)
  have HJ0 : Hid (J [] (W.alloc (.cells #[.string ⟨L.toArray⟩, .int .i64 1] 125))) := Lib.hid (hJ.alloc h0 _)
  clear hY hJ E0 hR0 h0 hBs
  gi_wp2
  refine name_worldIn ?_
  intro W1 hW1
  rw [← hW1] at HI0 HX0 HJ0
  clear hW1
  generalize W.heap.size = lb at *
  gi_loopw [] (fun wr => ∃ (pre : List Tok) (q g : Nat) (l : List UInt8), l.length ≤ 1000000000 ∧ q + l.length ≤ 2000000000 ∧ l.length < g + 1 ∧ Hid (lexL L = pre ++ lexF (g + 1) q l) ∧ Hid (LxS wr lb l q) ∧ Hid (J pre wr) ∧ Hid (TkI w0 b2 lb wr)) (fun wr => lexN lb wr)
  case atStart => exact ⟨[], 1, L.length, L, hl, by omega, by omega, Lib.hid rfl, HX0, HJ0, HI0⟩
  case round =>
    obtain ⟨pre, q, g, l, hll, hql, hg, IT, HX, HJ, HI⟩ := hrel
    clear HX0 HJ0 HI0
    obtain ⟨wo, rfl⟩ : ∃ wo : World, wo = wr := ⟨_, rfl⟩
    obtain ⟨⟨q2, l2⟩, hsk⟩ : ∃ x, skipF false q l = x := ⟨_, rfl⟩
    have hl2 := Pl.skip_len l false q q2 l2 hsk
    have hq2 := skip_up l false q q2 l2 hsk
    have SK0 := skip_any lb l q hll hql wo HX.out
    have hN := Lib.hid (HX.out.lexN)
    rw [hsk] at SK0
    dsimp only at SK0
    cases l2 with
    | nil =>
      have IB := Lib.hid (IT.out.trans (by rw [lex_end hsk]))
      have SK := Lib.hid SK0
      clear SK0 hsk IT
      dsimp only [restB] at SK
      gi_wp2_with (first | (refine ⟨trivial, (fun h => by cases h), ?_⟩; gi_at_call 66; refine (callsIn_wide.2 SK.out).mono ?_; rintro e w2 ⟨rfl, hx2, hg2⟩; have HJ2 := Lib.hid (HJA.out.gr (Nat.le_refl _) HJ.out HI.out (by omega) HX.out hg2); obtain ⟨c0, c1, f0, f1⟩ := hx2; obtain ⟨fn, tmps, assign, body, hy, hR⟩ := HY.out pre ⟨101, [], 0, q2⟩ w2 HJ2.out (by rw [IB.out]; simp); dsimp only [tokV] at hy; have HR := Lib.hid hR; clear hR hg2))
      refine ⟨(fun h => by cases h), HR.out.mono ?_⟩
      rintro e W3 ⟨rfl, hJ3, hk3⟩
      rw [← IB.out] at hJ3
      have HJ3 := Lib.hid hJ3
      clear hk3 hJ3
      gi_wp2
      refine bodyPost_end (results_none rfl _ _ _) rfl ?_
      exact ⟨⟨_, rfl⟩, HJ3.out⟩
    | cons c r =>
      have LB := fun f h2 => lex_bad (f := f) hsk h2
      have LT := fun f h2 => lex_tok (f := f) hsk h2
      have LN := next_len c r
      have hcr : (c :: r).length = r.length + 1 := rfl
      have NX0 := fun V E' H' => next_any lb c r q2 (by omega) V E' h8 H'
      have SK := Lib.hid SK0
      clear SK0 hsk
      dsimp only [restB] at SK
      generalize (c :: r) = L2 at *
      generalize nextF c r = T at *
      obtain ⟨⟨tk, tS, tn⟩, tm⟩ := T
      dsimp only [tkV, Tk0.at] at NX0 LB LT LN
      have NX := Lib.hid NX0
      have HLB := Lib.hid LB
      have HLT := Lib.hid LT
      clear NX0 LB LT
      have HLN : Hid (pre.length < (lexL L).length) := Lib.hid (by
        rw [IT.out]
        by_cases h : tk = 33
        · rw [HLB.out _ h]; simp
        · rw [HLT.out _ h]; simp)
      by_cases hk : tk = 33
      · have ek : (tk == 33) = true := by simp [hk]
        have IB2 : Hid (lexL L = pre ++ [⟨tk, tS, tn, q2⟩]) := Lib.hid (by rw [IT.out, HLB.out _ hk])
        clear hk
        gi_wp2_with (first | (refine ⟨trivial, (fun h => by cases h), ?_⟩; gi_at_call 66; refine (callsIn_wide.2 SK.out).mono ?_; rintro e w2 ⟨rfl, hx2, hg2⟩; have HI2 := Lib.hid (HI.out.gr (by omega) (by omega) hg2); have HJ2 := Lib.hid (HJA.out.gr (Nat.le_refl _) HJ.out HI.out (by omega) HX.out hg2); have HE2 := Lib.hid ((HE.out.below HI.out.below).gr hg2 h8); have HX2 := Lib.hid hx2; clear hg2 hx2) | (refine ⟨trivial, (fun h => by cases h), ?_⟩; gi_at_call 67; refine (callsIn_wide.2 (NX.out _ HE2.out HX2.out)).mono ?_; rintro e w3 ⟨rfl, hx3, hg3⟩; have HI3 := Lib.hid (HI2.out.gr (by omega) (by omega) hg3); have HJ3 := Lib.hid (HJA.out.gr (Nat.le_refl _) HJ2.out HI2.out (by omega) HX2.out hg3); have HI4 := Lib.hid (HI3.out.alloc (by omega) (by omega) (.cells #[.int .u8 tk, .string ⟨tS.toArray⟩, .int .i64 tn, .int .i64 (q2 : Int)] 83)); have HX4 := Lib.hid (hx3.alloc (.cells #[.int .u8 tk, .string ⟨tS.toArray⟩, .int .i64 tn, .int .i64 (q2 : Int)] 83)); have HJ4 := Lib.hid (HJA.out.alloc HJ3.out (.cells #[.int .u8 tk, .string ⟨tS.toArray⟩, .int .i64 tn, .int .i64 (q2 : Int)] 83)); obtain ⟨fn, tmps, assign, body, hy, hR⟩ := HY.out pre ⟨tk, tS, tn, q2⟩ _ HJ4.out HLN.out; dsimp only [tokV] at hy; have HR := Lib.hid hR; clear hR hg3 hx3))
        refine ⟨(fun h => by cases h), HR.out.mono ?_⟩
        rintro e W3 ⟨rfl, hJ3, hk3⟩
        have hcell := tok_kept HI3.out (by omega) hk3
        have c0 : W3.cell? ⟨w3.heap.size, 0, none⟩ = some (.int .u8 tk) := by simp [World.cell?, hcell]
        rw [← IB2.out] at hJ3
        have HJ5 := Lib.hid hJ3
        clear hcell hk3 hJ3
        gi_wp2
        refine bodyPost_ret (results_none rfl _ _ _) rfl ?_
        exact ⟨⟨_, rfl⟩, HJ5.out⟩
      · have ek : (tk == 33) = false := by simp [hk]
        obtain ⟨g', rfl⟩ : ∃ g', g = g' + 1 := ⟨g - 1, by omega⟩
        have IT2 : Hid (lexL L = (pre ++ [⟨tk, tS, tn, q2⟩]) ++ lexF (g' + 1) q2 (L2.drop tm)) := Lib.hid (by rw [IT.out, HLT.out _ hk, List.append_assoc]; rfl)
        clear hk
        gi_wp2_with (first | (refine ⟨trivial, (fun h => by cases h), ?_⟩; gi_at_call 66; refine (callsIn_wide.2 SK.out).mono ?_; rintro e w2 ⟨rfl, hx2, hg2⟩; have HI2 := Lib.hid (HI.out.gr (by omega) (by omega) hg2); have HJ2 := Lib.hid (HJA.out.gr (Nat.le_refl _) HJ.out HI.out (by omega) HX.out hg2); have HE2 := Lib.hid ((HE.out.below HI.out.below).gr hg2 h8); have HX2 := Lib.hid hx2; clear hg2 hx2) | (refine ⟨trivial, (fun h => by cases h), ?_⟩; gi_at_call 67; refine (callsIn_wide.2 (NX.out _ HE2.out HX2.out)).mono ?_; rintro e w3 ⟨rfl, hx3, hg3⟩; have HI3 := Lib.hid (HI2.out.gr (by omega) (by omega) hg3); have HJ3 := Lib.hid (HJA.out.gr (Nat.le_refl _) HJ2.out HI2.out (by omega) HX2.out hg3); have HI4 := Lib.hid (HI3.out.alloc (by omega) (by omega) (.cells #[.int .u8 tk, .string ⟨tS.toArray⟩, .int .i64 tn, .int .i64 (q2 : Int)] 83)); have HX4 := Lib.hid (hx3.alloc (.cells #[.int .u8 tk, .string ⟨tS.toArray⟩, .int .i64 tn, .int .i64 (q2 : Int)] 83)); have HJ4 := Lib.hid (HJA.out.alloc HJ3.out (.cells #[.int .u8 tk, .string ⟨tS.toArray⟩, .int .i64 tn, .int .i64 (q2 : Int)] 83)); obtain ⟨fn, tmps, assign, body, hy, hR⟩ := HY.out pre ⟨tk, tS, tn, q2⟩ _ HJ4.out HLN.out; dsimp only [tokV] at hy; have HR := Lib.hid hR; clear hR hg3 hx3))
        refine ⟨(fun h => by cases h), HR.out.mono ?_⟩
        rintro e W3 ⟨rfl, hJ3, hk3⟩
        have hcell := tok_kept HI3.out (by omega) hk3
        have c0 : W3.cell? ⟨w3.heap.size, 0, none⟩ = some (.int .u8 tk) := by simp [World.cell?, hcell]
        have HJ5 := Lib.hid hJ3
        have HI5 := Lib.hid (HI4.out.kp hk3)
        have HX5 := Lib.hid (HX4.out.kp HI4.out (by omega) hk3)
        clear hcell hk3 hJ3
        have hdl : (L2.drop tm).length = L2.length - tm := List.length_drop
        gi_wp2
        go_roundw
        case rel => exact ⟨_, q2, g', L2.drop tm, by omega, by omega, by omega, IT2, HX5, HJ5, HI5⟩
        case measure => (rw [hN.out, HX5.out.lexN]; omega)
end Go.Proofs.YtnjlggleaocbdaaGreatDoor
