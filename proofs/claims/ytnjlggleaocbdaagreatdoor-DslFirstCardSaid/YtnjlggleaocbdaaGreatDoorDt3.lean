/-
  Contract of slices.Collect over a text's tokens (dsl).
-/
import Derived.Test.YtnjlggleaocbdaaGreatDoorDt2
import Derived.OneCell
namespace Go.Proofs.YtnjlggleaocbdaaGreatDoor
set_option linter.all false
open Go.RowKit Go.Shelf
attribute [local go_sem] cell_set_self lt_1 lt_2 lt_3 lt_4 lt_5 lt_6 Oper.semAt_some

theorem wpListIn_append_lies {F : Fence} {n : Nat} {P : Program} (w : World) {ops : Array Oper} {rest : List Oper} {o : Oper} {a : Act} {Q : Exit → Act → World → Prop}
    (hg : o.guard = none) (s x : Operand) (t : TypeId) (hop : o.op = Op.call { callee := Callee.builtin Builtin.append, args := #[s, x], argTypes := #[t, t] })
    (base : Nat) (e : TypeId) (i : TypeInfo) (z : Value) (size bytes : Nat) (h1 : P.underlying t = some (.slice e)) (h2 : P.info? e = some i) (h3 : i.zero = some z) (h4 : i.size = size) (h5 : i.bytes = bytes) (h6 : z.cells.size = size) (h7 : 0 < size)
    (v : Value) (k : Nat) (xs : List Value) (hs : a.eval s = v) (hown : w.ownsRow base e size v k xs) (ad : Addr) (m c : Nat) (news : List Value) (hx : a.eval x = .slice (some ad) m c) (hn : news.length = m * size)
    (hc : ∀ j u, news[j]? = some u → w.cell? (ad.add j) = some u) (h1c : ∀ u ∈ news, u.oneCell' = true) (hm : 0 < m) (b1 : k + m ≤ maxLen) (b2 : (k + m) * bytes ≤ 140737488355328) (b3 : base ≤ w.heap.size) (H : Nat) (hH : w.heap.size = H)
    (hK : ∀ g cap w', w'.ownsRow base e size (.slice (some ⟨g, 0, none⟩) (k + m) cap) (k + m) (xs ++ news) → w.grownBy w' v.ownBlock → (v.ownBlock = some g ∨ g = H) → g < w'.heap.size → wpListIn F n P ops Q rest (a.put o.dst (.slice (some ⟨g, 0, none⟩) (k + m) cap)) w') :
    wpListIn F n P ops Q (o :: rest) a w := by
  refine wpListIn_plain hg fun K hK' => ?_
  obtain ⟨g, cap, w', hrun, r1, r2, r3, r4⟩ := run_append_lies (P := P) w t o.type base e i z size bytes h1 h2 h3 h4 h5 h6 h7 v k xs hown ad m c news hn hc h1c hm b1 b2 b3 H hH
  unfold Oper.wpIn
  refine ⟨?_, ?_⟩
  · simp [Oper.about, hop, resolve, Target.leads, Sem.run_pure]
  · rw [Oper.semAt_plain F _ _ (by rw [hop]; intro c hc'; cases hc')]
    simp [execOp, hop, resolve, invoke, builtin, hs, hx, hrun, Result.andThen]
    exact hK' _ _ (hK g cap w' r1 r2 r3 r4)
/-- How Collect's loop stands between two rounds. -/
def IT (w : World) (pre : List Tok) (W : World) : Prop :=
  ∃ V, W.heap[w.heap.size]? = some (.cells #[V] 108 (0, 0)) ∧ W.ownsRow (w.heap.size + 1) 83 4 V pre.length (cellsT pre) ∧ Below w.heap.size w W
def frT (w : World) (Bb bt : Nat) (x : Tok) : Act := { tmps := #[.slice none 0 0, .func (.func 65) #[] #[.pointer (some ⟨Bb, 0, none⟩)], .pointer (some ⟨w.heap.size, 0, none⟩), undef, .slice none 0 0, .pointer (some ⟨bt, 0, none⟩), .func (.func 65) #[] #[.pointer (some ⟨Bb, 0, none⟩)], tokV x, undef, undef, undef, undef, undef], defers := [] }
def AxT (w : World) (Bb : Nat) (x : Tok) (a : Act) (W : World) : Prop := ∃ bt, a = frT w Bb bt x ∧ W.heap[bt]? = some (.cells (tokC x).toArray 83 (0, 0))
theorem own_kept_cells {W W' : World} {base size n : Nat} {e : TypeId} {V : Value} {xs : List Value} {row : Option Nat} (h : W.ownsRow base e size V n xs) (hg : W.grownBy W' row) (hr : ∀ r, row = some r → ∃ o : Obj, W.heap[r]? = some o ∧ o.isCells = false) : W'.ownsRow base e size V n xs := by
  refine h.kept hg ?_
  cases hv : V.ownBlock with
  | none => exact .inl rfl
  | some k =>
    refine .inr fun e => ?_
    obtain ⟨o, ho, hc⟩ := hr k e.symm
    rcases h.2 with ⟨rfl, -⟩ | ⟨g, cap, cur, rfl, -, hh, -⟩
    · cases hv
    · injection hv with hv
      subst hv
      rw [hh] at ho; injection ho with ho; subst ho; cases hc
theorem heap_kept {W W' : World} {k : Nat} {cs : Array Value} {t : TypeId} {fz : Nat × Nat} {row : Option Nat} (h : W.heap[k]? = some (.cells cs t fz)) (hg : W.grownBy W' row) (hr : ∀ r, row = some r → ∃ o : Obj, W.heap[r]? = some o ∧ o.isCells = false) : W'.heap[k]? = some (.cells cs t fz) := by
  refine (hg.block k (Array.getElem?_eq_some_iff.1 h).1 fun e => ?_).trans h
  obtain ⟨o, ho, hc⟩ := hr k e.symm
  rw [h] at ho; injection ho with ho; subst ho; cases hc
theorem rw_heap {b : Nat} {W : World} {V : Value} {t : TypeId} (h : W.heap[b]? = some (.cells #[V] t (0, 0))) {k : Nat} : Rw b W k ↔ ∃ n cap, V = .slice (some ⟨k, 0, none⟩) n cap := by
  have hc : W.cell? ⟨b, 0, none⟩ = some V := by simp [World.cell?, h]
  unfold Rw
  rw [hc]
  constructor
  · rintro ⟨n, cap, e⟩; injection e with e; exact ⟨n, cap, e⟩
  · rintro ⟨n, cap, rfl⟩; exact ⟨n, cap, rfl⟩
theorem IT.own {w : World} {B : Nat} (hB : w.heap.size ≤ B) : OwnG w.heap.size B (IT w) := fun pre W W' row h hg hr => by
  obtain ⟨V, h1, h2, h3⟩ := h
  have hb : W'.heap[w.heap.size]? = some (.cells #[V] 108 (0, 0)) := (hg.block _ (Array.getElem?_eq_some_iff.1 h1).1 (fun e => by
    obtain ⟨_, o, ho, h⟩ := hr _ e.symm
    rw [h1] at ho; injection ho with ho; subst ho
    rcases h with h | h
    · cases h
    · exact h.1 rfl)).trans h1
  refine ⟨V, hb, h2.kept hg ?_, h3.grown hg h3.size (fun k e => Nat.le_trans hB (hr k e).1)⟩
  cases hv : V.ownBlock with
  | none => exact .inl rfl
  | some k =>
    refine .inr fun e => ?_
    obtain ⟨_, o, ho, h⟩ := hr k e.symm
    rcases h2.2 with ⟨rfl, -⟩ | ⟨g, cap, cur, rfl, -, hh, -⟩
    · cases hv
    · injection hv with hv
      subst hv
      rcases h with h | h
      · rw [hh] at ho; injection ho with ho; subst ho; cases h
      · exact h.2 ((rw_heap h1).2 ⟨_, _, rfl⟩)
theorem AxT.own {w : World} {Bb B : Nat} (x : Tok) (a : Act) : OwnFrom B (fun (_ : Unit) W => AxT w Bb x a W) := fun _ W W' row h hg hr => by
  obtain ⟨bt, h1, h2⟩ := h
  exact ⟨bt, h1, heap_kept h2 hg (fun r e => (hr r e).2)⟩
theorem lex_len : ∀ (f p : Nat) (l : List UInt8), (lexF f p l).length ≤ f
  | 0, p, l => by simp [lexF]
  | f + 1, p, l => by
    obtain ⟨⟨q, l2⟩, hs⟩ : ∃ x, skipF false p l = x := ⟨_, rfl⟩
    cases l2 with
    | nil => rw [lex_end hs]; simp
    | cons c r =>
      by_cases h : (nextF c r).1.k = 33
      · rw [lex_bad hs h]; simp
      · rw [lex_tok hs h]
        have := lex_len f q ((c :: r).drop (nextF c r).2)
        simp only [List.length_cons]; omega
theorem name_postM {F : Fence} {n : Nat} {P : Program} {f : Func} {R : Ending → World → Prop} {x : Exit} {a : Act} {w : World} (h : ∀ W, W = w → bodyPostM F n P f R x a W) : bodyPostM F n P f R x a w := h w rfl
theorem below_from {B : Nat} {W W' : World} (h : Below W.heap.size W W') : KeepsFrom B W W' := ⟨h.size, fun k o _ hk _ => (h.block k (Array.getElem?_eq_some_iff.1 hk).1).trans hk⟩
theorem body_post {w W w1' : World} {pre : List Tok} {x : Tok} {V : Value} {o : Obj} {g cap B : Nat} (h1 : W.heap[w.heap.size]? = some (.cells #[V] 108 (0, 0))) (h2 : W.ownsRow (w.heap.size + 1) 83 4 V pre.length (cellsT pre)) (h3 : Below w.heap.size w W)
    (hown1 : w1'.ownsRow (w.heap.size + 1) 83 4 (.slice (some ⟨g, 0, none⟩) (pre.length + 1) cap) (pre.length + 1) (cellsT pre ++ tokC x)) (hgrow : (W.alloc o).grownBy w1' V.ownBlock) (hat : V.ownBlock = some g ∨ g = W.heap.size + 1) (hlt : g < w1'.heap.size) :
    KeepsFrom B W (w1'.setCell ⟨w.heap.size, 0, none⟩ (.slice (some ⟨g, 0, none⟩) (pre.length + 1) cap)) ∧ KpT w.heap.size w.heap.size W (w1'.setCell ⟨w.heap.size, 0, none⟩ (.slice (some ⟨g, 0, none⟩) (pre.length + 1) cap)) ∧ IT w (pre ++ [x]) (w1'.setCell ⟨w.heap.size, 0, none⟩ (.slice (some ⟨g, 0, none⟩) (pre.length + 1) cap)) := by
  have hs : W.heap.size + 1 ≤ w1'.heap.size := by have := hgrow.size; simpa using this
  have hb2 : w.heap.size < W.heap.size := (Array.getElem?_eq_some_iff.1 h1).1
  have hrow : ∀ k, V.ownBlock = some k → w.heap.size + 1 ≤ k := fun k hk => (h2.lt k hk).1
  have hk1 : ∀ k o', W.heap[k]? = some o' → V.ownBlock ≠ some k → w1'.heap[k]? = some o' := fun k o' hk hne => by
    have hl := (Array.getElem?_eq_some_iff.1 hk).1
    rw [hgrow.block k (by simp; omega) (fun e => hne e.symm), ((Below.refl W.heap.size W).alloc (Nat.le_refl _) o).block k hl]; exact hk
  have hb := hk1 _ _ h1 (fun e => by have := hrow _ e; omega)
  have hbel : Below w.heap.size w w1' := below_push h3 h3.size hgrow fun k hk => by have := hrow k hk; omega
  have hset : Below w.heap.size w (w1'.setCell ⟨w.heap.size, 0, none⟩ (.slice (some ⟨g, 0, none⟩) (pre.length + 1) cap)) := hbel.setCell (Nat.le_refl _) _
  have hne : ∀ k, V.ownBlock = some k → ∃ cur fz, W.heap[k]? = some (.cells cur 83 fz) := fun k hk => by
    rcases h2.2 with ⟨rfl, -⟩ | ⟨g', cap', cur, rfl, -, hh, -⟩
    · cases hk
    · injection hk with hk; subst hk; exact ⟨_, _, hh⟩
  refine ⟨⟨by simp; omega, fun k o' _ hk hc => ?_⟩, ⟨?_, fun k o' hk hc hkb hr => ?_, fun k hr => ?_⟩, ⟨_, setCell_one hb, ?_, hset⟩⟩
  · rw [setCell_block _ _ _ _ (by rintro rfl; rw [h1] at hk; injection hk with hk; subst hk; cases hc)]
    refine hk1 k o' hk fun e => ?_
    obtain ⟨cur, fz, hh⟩ := hne k e
    rw [hh] at hk; injection hk with hk; subst hk; cases hc
  · have hw : Below w.heap.size W w1' := below_push (Below.refl _ _) (Nat.le_of_lt hb2) hgrow fun k hk => by have := hrow k hk; omega
    exact hw.setCell (Nat.le_refl _) _
  · rw [setCell_block _ _ _ _ hkb]
    refine hk1 k o' hk fun e => hr ?_
    rcases h2.2 with ⟨rfl, -⟩ | ⟨g', cap', cur, rfl, -, hh, -⟩
    · cases e
    · injection e with e; subst e; exact (rw_heap h1).2 ⟨_, _, rfl⟩
  · obtain ⟨n', c', e⟩ := (rw_heap (setCell_one hb)).1 hr
    injection e with e1 e2 e3
    injection e1 with e1; injection e1 with e1 _
    subst e1
    rcases hat with h | h
    · left
      rcases h2.2 with ⟨rfl, -⟩ | ⟨g', cap', cur, rfl, -, hh, -⟩
      · cases h
      · injection h with h; subst h; exact (rw_heap h1).2 ⟨_, _, rfl⟩
    · right; exact ⟨by omega, by simpa using hlt⟩
  · rw [cellsT_app, List.length_append]
    exact own_set hown1 (Nat.lt_succ_self _) _ _
set_option maxHeartbeats 8000000 in
set_option maxRecDepth 100000 in
theorem appendSeq_any (Bb : Nat) (L : List UInt8) (hl : L.length ≤ 1000000) (w : World) (E : Env w) (hBb : Bb < w.heap.size) (hBs : w.cell? ⟨Bb, 0, none⟩ = some (.string ⟨L.toArray⟩)) :
    Calls Tryz.prog 64 #[.slice none 0 0, .func (.func 65) #[] #[.pointer (some ⟨Bb, 0, none⟩)]] w fun e w' => (∃ V, e = .returned V ∧ w'.ownsRow (w.heap.size + 1) 83 4 V (lexL L).length (cellsT (lexL L))) ∧ Below w.heap.size w w' := by
  refine (callsIn_wide (n := 9)).1 ?_
  refine callsIn_of_wp_marks Tryz.func64 rfl trivial ?_ rfl
  simp only [Tryz.ntmps64, List.size_toArray, List.length_cons, List.length_nil, Nat.reduceAdd, Nat.reduceSub, Array.replicate_succ, Array.replicate_zero, List.push_toArray, List.append_toArray, List.nil_append, List.cons_append]
  gi_wp2
  refine name_worldIn ?_
  intro W1 hW1
  have hs1 : W1.heap.size = w.heap.size + 1 := by rw [hW1]; simp
  have hB1 : Below w.heap.size w W1 := by rw [hW1]; exact (by repeat (first | exact Below.refl _ _ | refine Below.setCell ?_ (by first | (simp; done) | (simp; omega) | omega) _ | refine Below.alloc ?_ (by first | (simp; done) | (simp; omega) | omega) _ | refine Below.drew ?_ | assumption | refine Below.trans ?_ (Below.mono (by assumption) (by first | (simp; done) | (simp; omega) | omega))))
  have hI0 : IT w [] W1 := ⟨.slice none 0 0, by rw [hW1]; exact heap_alloc_new w _, World.ownsRow_nil _ _ _ _, hB1⟩
  have hRw : ∀ k, Rw w.heap.size W1 k → k < W1.heap.size := fun k hk => by
    rw [hW1] at hk
    obtain ⟨n, cap, e⟩ := (rw_heap (heap_alloc_new w _)).1 hk
    cases e
  have hst : ∀ W, Below W1.heap.size W1 W → SeqG 8 65 #[.pointer (some ⟨Bb, 0, none⟩)] w.heap.size w.heap.size (lexL L) W := fun W hW l J hJ hY hJ0 =>
    tokens1_in 8 l Bb w.heap.size w L (by omega) E hBb hBs J W hJ hY (hB1.trans (hW.mono hB1.size)) (by have := hW.size; omega) (fun k hk => Nat.lt_of_lt_of_le (hRw k ((rw_same (hW.cell (p := ⟨w.heap.size, 0, none⟩) (by dsimp only; omega)) k).1 hk)) hW.size) hJ0
  have hN : (lexL L).length ≤ 1000001 := by unfold lexL; have := lex_len (L.length + 1) 1 L; omega
  clear hW1 hRw hBs E hl
  refine gather (by omega) (gf := 65) (lb := #[.pointer (some ⟨Bb, 0, none⟩)]) rfl (enters_of Tryz.func65 (by kernel_rfl) rfl) (b := w.heap.size) (n0 := w.heap.size) (ys := lexL L) (by omega) (by omega) hst rfl
    (IT w) (IT.own (by omega)) hI0 (AxT w Bb) (fun x a' => AxT.own x a') ?assign ?body ?done
  case assign =>
    rintro l0 pre ⟨tk, tS, tn, tp⟩ W K hI hK
    have HK := Lib.hid hK
    have hz : W1.heap.size ≤ W.heap.size ∨ True := .inr trivial
    obtain ⟨V, h1, h2, h3⟩ := hI
    have HI := Lib.hid (And.intro h1 (And.intro h2 h3))
    have hlt := (Array.getElem?_eq_some_iff.1 h1).1
    clear hK h1 h2 h3 hst hI0
    dsimp only [tokV]
    gi_wp2
    have al := Below.alloc (Below.refl W.heap.size W) (Nat.le_refl _) (.cells (tokC ⟨tk, tS, tn, tp⟩).toArray 83)
    refine HK.out _ _ (below_from al) (KpT.below al (by omega) hlt) ⟨V, ?_, HI.out.2.1.alloc _, HI.out.2.2.trans (al.mono (by omega))⟩ ⟨W.heap.size, rfl, heap_alloc_new W _⟩
    exact (al.block _ hlt).trans HI.out.1
  case body =>
    rintro l0 pre ⟨tk, tS, tn, tp⟩ a' W hl0 ⟨V, h1, h2, h3⟩ ⟨bt, rfl, hbt⟩ hlen
    obtain ⟨i, hi, iz0, iz1, iz2⟩ := info_parts info_tok
    have cV : W.cell? ⟨w.heap.size, 0, none⟩ = some V := by simp [World.cell?, h1]
    have c0 : W.cell? ⟨bt, 0, none⟩ = some (.int .u8 tk) := by simp [World.cell?, hbt, tokC]
    have c1 : W.cell? ⟨bt, 1, none⟩ = some (.string ⟨tS.toArray⟩) := by simp [World.cell?, hbt, tokC]
    have c2 : W.cell? ⟨bt, 2, none⟩ = some (.int .i64 tn) := by simp [World.cell?, hbt, tokC]
    have c3 : W.cell? ⟨bt, 3, none⟩ = some (.int .i64 (tp : Int)) := by simp [World.cell?, hbt, tokC]
    have H1 := Lib.hid h1
    have H2 := Lib.hid h2
    have H3 := Lib.hid h3
    have hpl : pre.length ≤ 1000001 := by omega
    have hs3 := h3.size
    have hlt := (Array.getElem?_eq_some_iff.1 h1).1
    clear h1 h2 h3 hbt hst hI0 hlen
    unfold frT
    gi_wp2_with (first | (gi_at_builtin; refine wpListIn_append_lies _ rfl _ _ _ rfl (w.heap.size + 1) 83 i _ 4 40 Tryz.underlying108 hi iz0 iz1 iz2 rfl (by decide) V pre.length _ rfl (H2.out.alloc _) ⟨W.heap.size, 0, none⟩ 1 1 (tokC ⟨tk, tS, tn, tp⟩) rfl rfl (World.news_of_block (cs := #[.int .u8 tk, .string ⟨tS.toArray⟩, .int .i64 tn, .int .i64 (tp : Int)]) (t := 83) (fr := (0, 0)) (heap_alloc_new W _)) (by simp [Value.oneCell', tokC]) (by omega) (by unfold maxLen; omega) (by omega) (by simp; omega) (W.heap.size + 1) (by simp) ?_; intro gg cap w1' hown1 hgrow hat hltg; have BP := Lib.hid (body_post (B := W1.heap.size) H1.out H2.out H3.out hown1 hgrow hat hltg); have hbk : w1'.heap[w.heap.size]? = some (.cells #[V] 108 (0, 0)) := (by rw [hgrow.block _ (by simp; omega) (fun e => by have := (H2.out.lt _ e.symm).1; omega), ((Below.refl W.heap.size W).alloc (Nat.le_refl _) _).block _ hlt]; exact H1.out); have d0 : w1'.cell? ⟨w.heap.size, 0, none⟩ = some V := (by simp [World.cell?, hbk]); have d1 : w1'.frozen? ⟨w.heap.size, 0, none⟩ = false := (by simp [World.frozen?, hbk]); clear hbk hown1 hgrow hat hltg))
    exact BP.out
  case done =>
    rintro D W hD ⟨V, h1, h2, h3⟩ hK
    have cV : W.cell? ⟨w.heap.size, 0, none⟩ = some V := by simp [World.cell?, h1]
    have hlt := (Array.getElem?_eq_some_iff.1 h1).1
    have HK := Lib.hid hK
    have H2 := Lib.hid h2
    have H3 := Lib.hid h3
    clear hK h1 h2 h3 hst hI0
    gi_wp2
    refine ⟨by simp, .inl ⟨_, _, rfl, run_takeDeferred HK.out, ?_⟩⟩
    refine ⟨V, ?_, ⟨V, rfl, own_kept_cells H2.out (grownBy_putObj' W D (.deferred none)) (fun r e => by cases e; exact ⟨_, HK.out, rfl⟩)⟩, H3.out.trans (belowK_b (w := w) (Nat.le_refl _) W D _ _ (by omega) HK.out rfl rfl)⟩
    simp [results, Tryz.f64, go_sem]
theorem collect_any (Bb : Nat) (L : List UInt8) (hl : L.length ≤ 1000000) (w : World) (E : Env w) (hBb : Bb < w.heap.size) (hBs : w.cell? ⟨Bb, 0, none⟩ = some (.string ⟨L.toArray⟩)) :
    Calls Tryz.prog 48 #[.func (.func 65) #[] #[.pointer (some ⟨Bb, 0, none⟩)]] w fun e w' => (∃ V, e = .returned V ∧ w'.ownsRow (w.heap.size + 1) 83 4 V (lexL L).length (cellsT (lexL L))) ∧ Below w.heap.size w w' := by
  have AS := Lib.hid (appendSeq_any Bb L hl w E hBb hBs)
  clear hl E hBs
  go_enter Tryz.func48, Tryz.ntmps48
  go_wp2_with (first | (go_at_call 64; (with_reducible refine (AS.out).mono ?_); rintro e w2 ⟨⟨V, rfl, hO⟩, hb2⟩))
  go_ret
  exact ⟨⟨V, rfl, hO⟩, hb2⟩
end Go.Proofs.YtnjlggleaocbdaaGreatDoor
