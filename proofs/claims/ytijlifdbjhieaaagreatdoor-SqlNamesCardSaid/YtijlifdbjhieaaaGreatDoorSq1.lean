/-
  Contract of the reader's query. (Printed by tools/mksq1.py.)
-/
import Derived.Test.YtijlifdbjhieaaaGreatDoorSk3
import Derived.Test.YtijlifdbjhieaaaGreatDoorSd1
import Derived.Deep.CutBlock
namespace Go.Proofs.YtijlifdbjhieaaaGreatDoor
set_option linter.all false
open Go.RowKit Go.Shelf
attribute [local go_sem] cell_set_self lt_1 lt_2 lt_3 lt_4 lt_5 lt_6 fld_k fld_s fld_n fld_p

/-- The cells of a query. -/
def qCells (AI : Option Addr) (nI cI : Nat) (tb : List UInt8) (cs : List Value) (AG : Option Addr) (nG cG : Nat) (AO : Option Addr) (nO cO : Nat) (lim : Int) : List Value :=
  .slice AI nI cI :: .string ⟨tb.toArray⟩ :: (cs ++ [.slice AG nG cG, .slice AO nO cO, .int .i64 lim])
def zeroL : List Value := [.int .i64 0, .slice none 0 0, .string ⟨#[]⟩, .int .i64 0, .int .i64 0, .string ⟨#[]⟩, .string ⟨#[]⟩, .int .i64 0, .int .i64 0, .string ⟨#[]⟩]
def zeroQ : Array Value := #[.slice none 0 0, .string ⟨#[]⟩, .int .i64 0, .slice none 0 0, .string ⟨#[]⟩, .int .i64 0, .int .i64 0, .string ⟨#[]⟩, .string ⟨#[]⟩, .int .i64 0, .int .i64 0, .string ⟨#[]⟩, .slice none 0 0, .slice none 0 0, .int .i64 0]
theorem cond0_cv (P : Nat → Prop) (w : World) : CV P w cond0 zeroL := by
  unfold cond0 CV
  exact ⟨none, 0, rfl, ⟨Nat.le_refl _, by simp⟩, fun _ => rfl, by unfold CVL; trivial⟩
/-- Where the reader's query stands: what it has, in the box b; the reader. -/
structure QSt (w wx : World) (rb gt b : Nat) (q : QueryT) (r : List Tok) : Prop where
  box : ∃ AI cI AG cG AO cO cs, wx.heap[b]? = some (.cells (qCells AI q.items.length cI q.table cs AG q.group.length cG AO q.order.length cO q.limit).toArray 31 (0, 0)) ∧ wx.ownsRow (b + 1) 54 2 (.slice AI q.items.length cI) q.items.length (cellsI q.items) ∧ wx.ownsRow (b + 1) 9 1 (.slice AG q.group.length cG) q.group.length (cellsN q.group) ∧ wx.ownsRow (b + 1) 68 2 (.slice AO q.order.length cO) q.order.length (cellsO q.order) ∧ CV (fun k => b < k) wx q.wh cs
  rd : RdR wx rb gt r
  gr : Gr w.heap.size rb w wx
  res : wx.heap[w.heap.size]? = some (.cells zeroQ 31 (0, 0))
  ends : EndsT r ∧ ShortT r
/-- The blocks of the walk, apart. -/
structure Apart (w : World) (rb gt b : Nat) : Prop where
  a1 : rb < w.heap.size
  a2 : gt < w.heap.size
  a3 : w.heap.size < b
theorem QSt.step {w wx W : World} {rb gt b : Nat} {q : QueryT} {r r' : List Tok} (h : QSt w wx rb gt b q r) (ha : Apart w rb gt b) (hg : Gr wx.heap.size rb wx W) (hr : RdR W rb gt r') (he : EndsT r' ∧ ShortT r') : QSt w W rb gt b q r' := by
  obtain ⟨AI, cI, AG, cG, AO, cO, cs, h1, h2, h3, h4, h5⟩ := h.box
  have hb := (Array.getElem?_eq_some_iff.1 h1).1
  have hw := (Array.getElem?_eq_some_iff.1 h.res).1
  have e1 := ha.a1
  have e3 := ha.a3
  exact ⟨⟨AI, cI, AG, cG, AO, cO, cs, (hg.block _ hb (by omega)).trans h1, own_gr h2 hg (by omega), own_gr h3 hg (by omega), own_gr h4 hg (by omega), h5.keep (Kp.gr hg (by omega))⟩, hr, h.gr.trans hg h.gr.size, (hg.block _ hw (by omega)).trans h.res, he⟩
/-- How a walk stands beside the query's box: what the walk needs of it. -/
theorem qbox {W : World} {b : Nat} {l : List Value} {t : TypeId} (h : W.heap[b]? = some (.cells l.toArray t (0, 0))) (o : Nat) (v : Value) (hv : l[o]? = some v) : W.cell? ⟨b, o, none⟩ = some v ∧ W.frozen? ⟨b, o, none⟩ = false := by
  refine ⟨by simp [World.cell?, h, hv], by simp [World.frozen?, h]⟩
theorem own_mono {W : World} {B B' size n : Nat} {e : TypeId} {v : Value} {xs : List Value} (h : W.ownsRow B e size v n xs) (hB : B' ≤ B) : W.ownsRow B' e size v n xs := by
  rcases h.2 with h2 | ⟨g, cap, cur, hv, h3, hh⟩
  · exact ⟨h.1, .inl h2⟩
  · exact ⟨h.1, .inr ⟨g, cap, cur, hv, Nat.le_trans hB h3, hh⟩⟩
theorem kp_set_box {W : World} {b o : Nat} {v : Value} : Kp (fun k => b < k) W (W.setCell ⟨b, o, none⟩ v) := (Kp.refl _ _).set (by dsimp only; omega) v
/-- A field of the box is stored. -/
theorem QSt.put {w wx : World} {rb gt b : Nat} {q q' : QueryT} {r : List Tok} {o : Nat} {v : Value} (h : QSt w wx rb gt b q r) (ha : Apart w rb gt b)
    (hq : ∀ AI cI AG cG AO cO cs, wx.ownsRow (b + 1) 54 2 (.slice AI q.items.length cI) q.items.length (cellsI q.items) → wx.ownsRow (b + 1) 9 1 (.slice AG q.group.length cG) q.group.length (cellsN q.group) → wx.ownsRow (b + 1) 68 2 (.slice AO q.order.length cO) q.order.length (cellsO q.order) → CV (fun k => b < k) wx q.wh cs →
      ∃ AI' cI' AG' cG' AO' cO' cs', (qCells AI q.items.length cI q.table cs AG q.group.length cG AO q.order.length cO q.limit).set o v = qCells AI' q'.items.length cI' q'.table cs' AG' q'.group.length cG' AO' q'.order.length cO' q'.limit ∧ wx.ownsRow (b + 1) 54 2 (.slice AI' q'.items.length cI') q'.items.length (cellsI q'.items) ∧ wx.ownsRow (b + 1) 9 1 (.slice AG' q'.group.length cG') q'.group.length (cellsN q'.group) ∧ wx.ownsRow (b + 1) 68 2 (.slice AO' q'.order.length cO') q'.order.length (cellsO q'.order) ∧ CV (fun k => b < k) wx q'.wh cs') :
    QSt w (wx.setCell ⟨b, o, none⟩ v) rb gt b q' r := by
  obtain ⟨AI, cI, AG, cG, AO, cO, cs, h1, h2, h3, h4, h5⟩ := h.box
  obtain ⟨AI', cI', AG', cG', AO', cO', cs', g1, g2, g3, g4, g5⟩ := hq AI cI AG cG AO cO cs h2 h3 h4 h5
  have e1 := ha.a1
  have e2 := ha.a2
  have e3 := ha.a3
  refine ⟨⟨AI', cI', AG', cG', AO', cO', cs', ?_, own_set g2 (Nat.lt_succ_self _) _ _, own_set g3 (Nat.lt_succ_self _) _ _, own_set g4 (Nat.lt_succ_self _) _ _, g5.keep kp_set_box⟩, h.rd.setCell (by dsimp only; omega) (by dsimp only; omega) v, h.gr.setCell (.inl (by dsimp only; omega)) v, (setCell_block _ _ _ _ (by omega)).trans h.res, h.ends⟩
  rw [set_at h1 o v, ← g1]
  simp
theorem loop_depth {part : List Tok → PR CondT} (hp : ∀ ts a r, part ts = .ok a r → depthC a + r.length ≤ ts.length) (op : Int) (hop : cmpB op = false) (w : List UInt8) : ∀ (n : Nat) (c : CondT) (ts : List Tok) (a : CondT) (r : List Tok) (m : Nat), loopF part op w n c ts = .ok a r → depthC c + ts.length ≤ m → depthC a + r.length ≤ m
  | n, c, ts, a, r, m, h, hm0 => by
    cases hm : mayF w ts with
    | none =>
      rw [loop_no hm] at h
      injection h with h1 h2; subst h1 h2; exact hm0
    | some r1 =>
      have t1 := (may_len hm).1
      cases n with
      | zero => rw [loopF.eq_def] at h; simp only [hm] at h; cases h
      | succ n =>
        rw [loop_yes hm] at h
        cases hq : part r1 with
        | no p e => rw [hq] at h; cases h
        | ok d r2 =>
          rw [hq] at h
          have t2 := hp _ _ _ hq
          refine loop_depth hp op hop w n _ r2 a r m h ?_
          rw [depthC, if_neg (by rw [hop]; simp), depthL, depthL, depthL]
          omega
theorem bind_ok {α β : Type} {x : PR α} {g : α → List Tok → PR β} {b : β} {r : List Tok} (h : x.bind g = .ok b r) : ∃ a r1, x = .ok a r1 ∧ g a r1 = .ok b r := by
  cases x with
  | no p e => cases h
  | ok a r1 => exact ⟨a, r1, rfl, h⟩
theorem comp_depth {ts : List Tok} {a : CondT} {r : List Tok} (h : compF ts = .ok a r) : depthC a + r.length ≤ ts.length := by
  have hT := comp_takes _ _ _ h
  obtain ⟨l, r1, h1, h2⟩ := bind_ok h
  have t1 := (term_takes _ _ _ h1).1
  cases hs : signF signsL 4 r1 with
  | none => simp only [hs] at h2; cases h2
  | some x =>
    obtain ⟨op, r2⟩ := x
    simp only [hs] at h2
    obtain ⟨y, r3, h3, h4⟩ := bind_ok h2
    injection h4 with h5 h6
    subst h5 h6
    have t2 := (sign_takes _ _ _ _ _ hs).1
    have t3 : r3.length + 1 ≤ r2.length := by
      cases r2 with
      | nil => cases h3
      | cons t l2 =>
        unfold termF at h3
        simp only at h3
        split at h3
        · injection h3 with h5 h6; subst h6; simp
        · split at h3
          · injection h3 with h5 h6; subst h6; simp
          · split at h3
            · injection h3 with h5 h6; subst h6; simp
            · cases h3
    have hd : depthC (.mk op [] l y) ≤ 1 := by rw [depthC]; split <;> simp [depthL]
    omega
theorem cond_depth : ∀ (f lvl : Nat) (ts : List Tok) (a : CondT) (r : List Tok), condF f lvl ts = .ok a r → depthC a + r.length ≤ ts.length
  | 0, lvl, ts, a, r, h => by cases lvl <;> cases h
  | f + 1, 0, ts, a, r, h => by
    obtain ⟨c, r1, h1, h2⟩ := bind_ok h
    exact loop_depth (fun ts a r h => cond_depth f 1 ts a r h) 1 rfl wOr _ c r1 a r _ h2 (cond_depth f 1 _ _ _ h1)
  | f + 1, 1, ts, a, r, h => by
    obtain ⟨c, r1, h1, h2⟩ := bind_ok h
    exact loop_depth (fun ts a r h => cond_depth f 2 ts a r h) 2 rfl wAnd _ c r1 a r _ h2 (cond_depth f 2 _ _ _ h1)
  | f + 1, lvl + 2, ts, a, r, h => by
    rw [condF] at h
    cases hm : mayF wNot ts with
    | some r1 =>
      rw [hm] at h
      have t1 := (may_len hm).1
      obtain ⟨c, r2, h1, h2⟩ := bind_ok h
      injection h2 with h3 h4
      subst h3 h4
      have := cond_depth f 2 _ _ _ h1
      rw [depthC, if_neg (by decide), depthL, depthL]
      omega
    | none =>
      rw [hm] at h
      simp only at h
      cases hm2 : mayF [40] ts with
      | some r1 =>
        rw [hm2] at h
        have t1 := (may_len hm2).1
        obtain ⟨c, r2, h1, h2⟩ := bind_ok h
        have := cond_depth f 0 _ _ _ h1
        obtain ⟨u, r3, h3, h4⟩ := bind_ok h2
        injection h4 with h5 h6
        subst h5 h6
        have := (must_takes _ _ _ _ h3).1
        omega
      | none =>
        rw [hm2] at h
        exact comp_depth h
theorem many_takes {α : Type} {part : List Tok → PR α} (hp : Takes part) (beg : Tok → Bool) : ∀ (n : Nat) (out : List α), Takes (manyF part beg n out)
  | n, out => fun ts a r h => by
    cases ts with
    | nil => rw [manyF.eq_def] at h; cases h
    | cons t l =>
      by_cases hs : out.length = 20 ∧ beg t = true
      · rw [many_stop hs] at h; cases h
      · rw [many_step hs] at h
        obtain ⟨x, r1, h1, h2⟩ := bind_ok h
        have t1 := hp _ _ _ h1
        cases hm : mayF [44] r1 with
        | none =>
          rw [hm] at h2
          injection h2 with h3 h4
          subst h4; exact t1
        | some r2 =>
          rw [hm] at h2
          have t2 := may_len hm
          cases n with
          | zero => cases h2
          | succ n =>
            have t3 := many_takes hp beg n (out ++ [x]) r2 a r h2
            exact ⟨by omega, fun k => t3.2.1 (may_ends hm (t1.2.1 k)), fun k => t3.2.2 (t2.2 (t1.2.2 k))⟩
def encQ (w : World) : QueryT → World → Value → Prop := fun q W V => ∃ AI cI AG cG AO cO cs, V = .agg (qCells AI q.items.length cI q.table cs AG q.group.length cG AO q.order.length cO q.limit).toArray ∧ W.ownsRow w.heap.size 54 2 (.slice AI q.items.length cI) q.items.length (cellsI q.items) ∧ W.ownsRow w.heap.size 9 1 (.slice AG q.group.length cG) q.group.length (cellsN q.group) ∧ W.ownsRow w.heap.size 68 2 (.slice AO q.order.length cO) q.order.length (cellsO q.order) ∧ CV (fun k => w.heap.size ≤ k) W q.wh cs
/-- The rest of the query, from each place. -/
def q4 (I : List ItemT) (T : List UInt8) (c : CondT) (G : List (List UInt8)) (O : List OrderT) (L : Int) (r : List Tok) : PR QueryT := (overF r).bind fun _ r => .ok ⟨I, T, c, G, O, L⟩ r
def q3 (I : List ItemT) (T : List UInt8) (c : CondT) (G : List (List UInt8)) (O : List OrderT) (r : List Tok) : PR QueryT := (limitF r).bind fun L r => q4 I T c G O L r
def q2 (I : List ItemT) (T : List UInt8) (c : CondT) (G : List (List UInt8)) (r : List Tok) : PR QueryT := (ordersF r).bind fun O r => q3 I T c G O r
def q1 (I : List ItemT) (T : List UInt8) (c : CondT) (r : List Tok) : PR QueryT := (groupF r).bind fun G r => q2 I T c G r
def q0 (f : Nat) (I : List ItemT) (T : List UInt8) (r : List Tok) : PR QueryT := (whereF f r).bind fun c r => q1 I T c r
theorem q0_no {f : Nat} {I : List ItemT} {T : List UInt8} {r : List Tok} (h : mayF wWhere r = none) : q0 f I T r = q1 I T cond0 r := by unfold q0 whereF; rw [h]; rfl
theorem q0_yes {f : Nat} {I : List ItemT} {T : List UInt8} {r r' : List Tok} (h : mayF wWhere r = some r') : q0 f I T r = (condF f 0 r').bind fun c r => if 32 < depthC c then .no (headP r) 20 else q1 I T c r := by
  unfold q0 whereF; rw [h]
  simp only
  cases condF f 0 r' with
  | no p e => rfl
  | ok c r =>
    show (if 32 < depthC c then PR.no (headP r) 20 else PR.ok c r).bind (fun c r => q1 I T c r) = if 32 < depthC c then PR.no (headP r) 20 else q1 I T c r
    by_cases h : 32 < depthC c
    · rw [if_pos h, if_pos h]; rfl
    · rw [if_neg h, if_neg h]; rfl
theorem q1_no {I : List ItemT} {T : List UInt8} {c : CondT} {r : List Tok} (h : mayF wGroup r = none) : q1 I T c r = q2 I T c [] r := by unfold q1 groupF; rw [h]; rfl
theorem q1_yes {I : List ItemT} {T : List UInt8} {c : CondT} {r r' : List Tok} (h : mayF wGroup r = some r') : q1 I T c r = (mustF wBy r').bind fun _ r => (manyF nmF isNm r.length [] r).bind fun G r => q2 I T c G r := by
  unfold q1 groupF; rw [h]
  simp only
  cases mustF wBy r' with
  | no p e => rfl
  | ok u r => rfl
theorem q2_no {I : List ItemT} {T : List UInt8} {c : CondT} {G : List (List UInt8)} {r : List Tok} (h : mayF wOrder r = none) : q2 I T c G r = q3 I T c G [] r := by unfold q2 ordersF; rw [h]; rfl
theorem q2_yes {I : List ItemT} {T : List UInt8} {c : CondT} {G : List (List UInt8)} {r r' : List Tok} (h : mayF wOrder r = some r') : q2 I T c G r = (mustF wBy r').bind fun _ r => (manyF orderF isNm r.length [] r).bind fun O r => q3 I T c G O r := by
  unfold q2 ordersF; rw [h]
  simp only
  cases mustF wBy r' with
  | no p e => rfl
  | ok u r => rfl
theorem q3_no {I : List ItemT} {T : List UInt8} {c : CondT} {G : List (List UInt8)} {O : List OrderT} {r : List Tok} (h : mayF wLimit r = none) : q3 I T c G O r = q4 I T c G O (-1) r := by unfold q3 limitF; rw [h]; rfl
theorem q3_yes {I : List ItemT} {T : List UInt8} {c : CondT} {G : List (List UInt8)} {O : List OrderT} {r r' : List Tok} {t : Tok} (h : mayF wLimit r = some (t :: r')) : q3 I T c G O r = if t.k = 110 ∧ 0 ≤ t.n then q4 I T c G O t.n r' else .no t.p 11 := by
  unfold q3 limitF; rw [h]
  simp only
  split <;> rfl
theorem q4_at {I : List ItemT} {T : List UInt8} {c : CondT} {G : List (List UInt8)} {O : List OrderT} {L : Int} {t : Tok} {r : List Tok} : q4 I T c G O L (t :: r) = if t.k = 101 then .ok ⟨I, T, c, G, O, L⟩ (t :: r) else .no t.p 11 := by
  unfold q4 overF
  simp only
  split <;> rfl
theorem QSt.may {w wx W : World} {rb gt b : Nat} {q : QueryT} {r : List Tok} {s : List UInt8} (h : QSt w wx rb gt b q r) (ha : Apart w rb gt b) (hg : Gr wx.heap.size rb wx W) (hR : RdR W rb gt (mayR s r)) :
    (mayB s r = false → mayF s r = none ∧ QSt w W rb gt b q r) ∧ (mayB s r = true → ∃ r', mayF s r = some r' ∧ QSt w W rb gt b q r' ∧ r'.length + 1 = r.length) := by
  cases hm : mayF s r with
  | none =>
    rw [(may_no hm).2] at hR
    rw [(may_no hm).1]
    exact ⟨fun _ => ⟨rfl, h.step ha hg hR h.ends⟩, fun e => (by cases e)⟩
  | some r' =>
    rw [(may_yes hm).2] at hR
    rw [(may_yes hm).1]
    exact ⟨fun e => (by cases e), fun _ => ⟨r', rfl, h.step ha hg hR ⟨may_ends hm h.ends.1, (may_len hm).2 h.ends.2⟩, (may_len hm).1⟩⟩
theorem QSt.lt {w wx : World} {rb gt b : Nat} {q : QueryT} {r : List Tok} (h : QSt w wx rb gt b q r) : b < wx.heap.size := by
  obtain ⟨AI, cI, AG, cG, AO, cO, cs, h1, -⟩ := h.box
  exact (Array.getElem?_eq_some_iff.1 h1).1
theorem ten_list {l : List Value} (h : l.length = 10) : ∃ u0 u1 u2 u3 u4 u5 u6 u7 u8 u9, l = [u0, u1, u2, u3, u4, u5, u6, u7, u8, u9] := by
  match l, h with
  | [u0, u1, u2, u3, u4, u5, u6, u7, u8, u9], _ => exact ⟨u0, u1, u2, u3, u4, u5, u6, u7, u8, u9, rfl⟩
theorem QSt.cell {w wx : World} {rb gt b : Nat} {q : QueryT} {r : List Tok} (h : QSt w wx rb gt b q r) (o : Nat) (ho : o < 15) : (∃ u, wx.cell? ⟨b, o, none⟩ = some u) ∧ wx.frozen? ⟨b, o, none⟩ = false := by
  obtain ⟨AI, cI, AG, cG, AO, cO, cs, h1, h2, h3, h4, h5⟩ := h.box
  obtain ⟨u0, u1, u2, u3, u4, u5, u6, u7, u8, u9, rfl⟩ := ten_list h5.len
  have hl : o < (qCells AI q.items.length cI q.table [u0, u1, u2, u3, u4, u5, u6, u7, u8, u9] AG q.group.length cG AO q.order.length cO q.limit).length := by simpa [qCells] using ho
  have := qbox h1 o _ (List.getElem?_eq_getElem hl)
  exact ⟨⟨_, this.1⟩, this.2⟩
theorem set_tail {AI AG AO : Option Addr} {nI cI nG cG nO cO : Nat} {tb : List UInt8} {cs : List Value} {lim : Int} (h : cs.length = 10) :
    (∀ A n c, (qCells AI nI cI tb cs AG nG cG AO nO cO lim).set 12 (.slice A n c) = qCells AI nI cI tb cs A n c AO nO cO lim) ∧ (∀ A n c, (qCells AI nI cI tb cs AG nG cG AO nO cO lim).set 13 (.slice A n c) = qCells AI nI cI tb cs AG nG cG A n c lim) ∧ (∀ z, (qCells AI nI cI tb cs AG nG cG AO nO cO lim).set 14 (.int .i64 z) = qCells AI nI cI tb cs AG nG cG AO nO cO z) := by
  obtain ⟨u0, u1, u2, u3, u4, u5, u6, u7, u8, u9, rfl⟩ := ten_list h
  exact ⟨fun _ _ _ => rfl, fun _ _ _ => rfl, fun _ => rfl⟩
set_option maxHeartbeats 4000000 in
theorem fif_set {w : World} {b : Nat} {a0 a1 u0 u1 u2 u3 u4 u5 u6 u7 u8 u9 a12 a13 a14 : Value} {t : TypeId} (h : w.heap[b]? = some (.cells #[a0, a1, u0, u1, u2, u3, u4, u5, u6, u7, u8, u9, a12, a13, a14] t (0, 0))) (v0 v1 v2 v3 v4 v5 v6 v7 v8 v9 : Value) :
    ((((((((((w.setCell ⟨b, 2, none⟩ v0).setCell ⟨b, 3, none⟩ v1).setCell ⟨b, 4, none⟩ v2).setCell ⟨b, 5, none⟩ v3).setCell ⟨b, 6, none⟩ v4).setCell ⟨b, 7, none⟩ v5).setCell ⟨b, 8, none⟩ v6).setCell ⟨b, 9, none⟩ v7).setCell ⟨b, 10, none⟩ v8).setCell ⟨b, 11, none⟩ v9).heap[b]? = some (.cells #[a0, a1, v0, v1, v2, v3, v4, v5, v6, v7, v8, v9, a12, a13, a14] t (0, 0)) := by
  have h9 := set_at (set_at (set_at (set_at (set_at (set_at (set_at (set_at (set_at (set_at h 2 v0) 3 v1) 4 v2) 5 v3) 6 v4) 7 v5) 8 v6) 9 v7) 10 v8) 11 v9
  simpa using h9
set_option maxHeartbeats 4000000 in
theorem QSt.putC {w wx : World} {rb gt b : Nat} {q : QueryT} {r : List Tok} (h : QSt w wx rb gt b q r) (ha : Apart w rb gt b) {c : CondT} {v0 v1 v2 v3 v4 v5 v6 v7 v8 v9 : Value} (hv : CV (fun k => b < k) wx c [v0, v1, v2, v3, v4, v5, v6, v7, v8, v9]) :
    QSt w ((((((((((wx.setCell ⟨b, 2, none⟩ v0).setCell ⟨b, 3, none⟩ v1).setCell ⟨b, 4, none⟩ v2).setCell ⟨b, 5, none⟩ v3).setCell ⟨b, 6, none⟩ v4).setCell ⟨b, 7, none⟩ v5).setCell ⟨b, 8, none⟩ v6).setCell ⟨b, 9, none⟩ v7).setCell ⟨b, 10, none⟩ v8).setCell ⟨b, 11, none⟩ v9) rb gt b ⟨q.items, q.table, c, q.group, q.order, q.limit⟩ r := by
  obtain ⟨AI, cI, AG, cG, AO, cO, cs, h1, h2, h3, h4, h5⟩ := h.box
  obtain ⟨u0, u1, u2, u3, u4, u5, u6, u7, u8, u9, rfl⟩ := ten_list h5.len
  have e1 := ha.a1
  have e2 := ha.a2
  have e3 := ha.a3
  refine ⟨⟨AI, cI, AG, cG, AO, cO, [v0, v1, v2, v3, v4, v5, v6, v7, v8, v9], ?_, ?_, ?_, ?_, ?_⟩, ?_, ?_, ?_, h.ends⟩
  · exact fif_set h1 v0 v1 v2 v3 v4 v5 v6 v7 v8 v9
  · repeat (first | with_reducible exact h2 | with_reducible refine own_set ?_ (Nat.lt_succ_self _) _ _)
  · repeat (first | with_reducible exact h3 | with_reducible refine own_set ?_ (Nat.lt_succ_self _) _ _)
  · repeat (first | with_reducible exact h4 | with_reducible refine own_set ?_ (Nat.lt_succ_self _) _ _)
  · repeat (first | with_reducible exact hv | with_reducible refine CV.keep kp_set_box ?_)
  · repeat (first | with_reducible exact h.rd | with_reducible refine RdR.setCell ?_ (by dsimp only; omega) (by dsimp only; omega) _)
  · repeat (first | with_reducible exact h.gr | with_reducible refine Gr.setCell ?_ (.inl (by dsimp only; omega)) _)
  · repeat (first | with_reducible exact h.res | with_reducible refine (setCell_block _ _ _ _ (by omega)).trans ?_)
set_option maxHeartbeats 32000000 in
set_option maxRecDepth 100000 in
theorem query_any (rb gt f : Nat) (r : List Tok) (hf : 3 * r.length + 3 ≤ f) (w : World) (R : RdR w rb gt r) (hE : EndsT r) (hS : ShortT r) (hN : r.length ≤ 1000000) :
    Calls Tryz.prog 29 #[.pointer (some ⟨rb, 0, none⟩)] w (POut rb gt w (encQ w) (queryF f r)) := by
  suffices key : ∀ Q : Ending → World → Prop, Hid (∀ e w', POut rb gt w (encQ w) (queryF f r) e w' → Q e w') → Calls Tryz.prog 29 #[.pointer (some ⟨rb, 0, none⟩)] w Q from key _ (Lib.hid fun _ _ h => h)
  intro Q HQQ
  obtain ⟨X, hX⟩ : ∃ X, queryF f r = X := ⟨_, rfl⟩
  rw [hX] at HQQ
  unfold queryF at hX
  have HX := Lib.hid hX
  obtain ⟨hrb, hgt, -⟩ := R.lens
  have HAP : Hid (Apart w rb gt (w.heap.size + 1)) := Lib.hid ⟨hrb, hgt, Nat.lt_succ_self _⟩
  have MY := Lib.hid (fun s r hr W R' => may_any rb gt s r hr W R')
  have MU := Lib.hid (fun s r hr W R' => must_any rb gt s r hr W R')
  have NA := Lib.hid (fun r hr hS W R' => nameR_any rb gt r hr hS W R')
  have MI := Lib.hid (fun r W R' hE hS hN => manyI_any rb gt r W R' hE hS hN)
  have MN := Lib.hid (fun r W R' hE hS hN => manyN_any rb gt r W R' hE hS hN)
  have MO := Lib.hid (fun r W R' hE hS hN => manyO_any rb gt r W R' hE hS hN)
  have OC := Lib.hid (fun r W h R' hE hS => (cond_ok rb gt f).1 r W h R' hE hS)
  have DP := Lib.hid (fun t cs W P hv hd => depth_any P (SizeOf.sizeOf t) t cs W (Nat.le_refl _) hv hd)
  have HH := Lib.hid (fun t r W R' => here_any rb gt t r W R')
  have FL := Lib.hid (fun t r er W R' => fail_any rb gt t r er W R')
  have HR := Lib.hid R
  have HES := Lib.hid (And.intro hE hS)
  have HPE : Hid (∀ p e W, PR.no p e = X → Gr w.heap.size rb w W → Q (.panicked (fltP p e)) W) := Lib.hid fun p e W h hg => HQQ.out _ _ (by rw [← h]; exact ⟨rfl, hg⟩)
  clear hX R hE hS
  go_enter Tryz.func29, Tryz.ntmps29
  go_wp2_with (fail)
  have SQ : Hid (QSt w ((w.alloc (.cells zeroQ 31)).alloc (.cells (qCells none 0 0 [] zeroL none 0 0 none 0 0 (-1)).toArray 31)) rb gt (w.heap.size + 1) ⟨[], [], cond0, [], [], -1⟩ r) := Lib.hid (by
    refine ⟨⟨none, 0, none, 0, none, 0, zeroL, ?_, World.ownsRow_nil _ _ _ _, World.ownsRow_nil _ _ _ _, World.ownsRow_nil _ _ _ _, cond0_cv _ _⟩, (HR.out.alloc _).alloc _, ((Gr.refl _ _ _).alloc (Nat.le_refl _) _).alloc (by simp) _, ?_, HES.out⟩
    · exact heap_alloc_at (by simp)
    · exact (((Below.refl _ _).alloc (Nat.le_refl _) _).block _ (by simp)).trans (heap_alloc_new w _))
  go_at_call 57
  refine (MU.out wSelect r SQ.out.ends.1.ne _ SQ.out.rd).mono ?_
  rintro e w5 hP
  cases hp : mustF wSelect r with
  | no p er =>
    rw [hp] at hP
    obtain ⟨rfl, hg5⟩ := hP
    have HN : Hid (PR.no p er = X) := Lib.hid (by have h := HX.out; rw [hp] at h; exact h)
    clear hp
    go_wp2
    exact ⟨rfl, HPE.out _ _ _ HN.out (SQ.out.gr.trans hg5 SQ.out.gr.size)⟩
  | ok a5 r5 =>
    rw [hp] at hP
    obtain ⟨⟨V5, rfl, hV5⟩, hR5, hg5⟩ := hP
    have hT5 := must_takes _ _ _ _ hp
    skip
    have hx5 := HX.out
    rw [hp] at hx5
    dsimp only [PR.bind] at hx5
    have HX5 := Lib.hid hx5
    have hl5 := hT5.1
    have SQ5 := Lib.hid (SQ.out.step HAP.out hg5 hR5 ⟨hT5.2.1 SQ.out.ends.1, hT5.2.2 SQ.out.ends.2⟩)
    have hs5 := hg5.size
    (try simp only [World.size_alloc, World.size_setCell] at hs5)
    clear hx5 hp hT5 hR5 hg5 SQ
    obtain rfl := hV5
    have SQ := SQ5
    have SQ5s : w.heap.size + 2 ≤ w5.heap.size := by have := SQ5.out.gr.size; obtain ⟨A0, c0, A1, c1, A2, c2, cs, h1, -⟩ := SQ5.out.box; have := (Array.getElem?_eq_some_iff.1 h1).1; omega
    clear SQ5
    go_wp2_with (fail)
    go_at_call 58
    refine (MI.out r5 _ SQ.out.rd SQ.out.ends.1 SQ.out.ends.2 (by omega)).mono ?_
    rintro e w6 hP
    cases hp : manyF itemF isItem r5.length [] r5 with
    | no p er =>
      rw [hp] at hP
      obtain ⟨rfl, hg6⟩ := hP
      have HN : Hid (PR.no p er = X) := Lib.hid (by have h := HX5.out; rw [hp] at h; exact h)
      clear hp
      go_wp2
      exact ⟨rfl, HPE.out _ _ _ HN.out (SQ.out.gr.trans hg6 SQ.out.gr.size)⟩
    | ok a6 r6 =>
      rw [hp] at hP
      obtain ⟨⟨V6, rfl, hV6⟩, hR6, hg6⟩ := hP
      have hT6 := many_takes item_takes _ _ _ _ _ _ hp
      skip
      have hx6 := HX5.out
      rw [hp] at hx6
      dsimp only [PR.bind] at hx6
      have HX6 := Lib.hid hx6
      have hl6 := hT6.1
      have SQ6 := Lib.hid (SQ.out.step HAP.out hg6 hR6 ⟨hT6.2.1 SQ.out.ends.1, hT6.2.2 SQ.out.ends.2⟩)
      have hs6 := hg6.size
      (try simp only [World.size_alloc, World.size_setCell] at hs6)
      clear hx6 hp hT6 hR6 hg6 SQ
      obtain ⟨A6, c6, rfl⟩ := own_form hV6
      obtain ⟨AI, cI, AG, cG, AO, cO, cs, hbox, -⟩ := SQ6.out.box
      obtain ⟨c0, f0⟩ := qbox hbox 0 _ rfl
      clear hbox
      have SQ : Hid (QSt w (w6.setCell ⟨w.heap.size + 1, 0, none⟩ (.slice A6 a6.length c6)) rb gt (w.heap.size + 1) ⟨a6, [], cond0, [], [], -1⟩ r6) := Lib.hid (SQ6.out.put HAP.out (fun AI cI AG cG AO cO cs k1 k2 k3 k4 => ⟨A6, c6, AG, cG, AO, cO, cs, rfl, own_mono hV6 (by have := SQ5s; omega), k2, k3, k4⟩))
      clear SQ6 hV6
      go_wp2_with (fail)
      go_at_call 57
      refine (MU.out wFrom r6 SQ.out.ends.1.ne _ SQ.out.rd).mono ?_
      rintro e w7 hP
      cases hp : mustF wFrom r6 with
      | no p er =>
        rw [hp] at hP
        obtain ⟨rfl, hg7⟩ := hP
        have HN : Hid (PR.no p er = X) := Lib.hid (by have h := HX6.out; rw [hp] at h; exact h)
        clear hp
        go_wp2
        exact ⟨rfl, HPE.out _ _ _ HN.out (SQ.out.gr.trans hg7 SQ.out.gr.size)⟩
      | ok a7 r7 =>
        rw [hp] at hP
        obtain ⟨⟨V7, rfl, hV7⟩, hR7, hg7⟩ := hP
        have hT7 := must_takes _ _ _ _ hp
        skip
        have hx7 := HX6.out
        rw [hp] at hx7
        dsimp only [PR.bind] at hx7
        have HX7 := Lib.hid hx7
        have hl7 := hT7.1
        have SQ7 := Lib.hid (SQ.out.step HAP.out hg7 hR7 ⟨hT7.2.1 SQ.out.ends.1, hT7.2.2 SQ.out.ends.2⟩)
        have hs7 := hg7.size
        (try simp only [World.size_alloc, World.size_setCell] at hs7)
        clear hx7 hp hT7 hR7 hg7 SQ
        obtain rfl := hV7
        have SQ := SQ7
        clear SQ7
        go_wp2_with (fail)
        go_at_call 61
        refine (NA.out r7 SQ.out.ends.1.ne SQ.out.ends.2 _ SQ.out.rd).mono ?_
        rintro e w8 hP
        cases hp : nmF r7 with
        | no p er =>
          rw [hp] at hP
          obtain ⟨rfl, hg8⟩ := hP
          have HN : Hid (PR.no p er = X) := Lib.hid (by have h := HX7.out; rw [hp] at h; exact h)
          clear hp
          go_wp2
          exact ⟨rfl, HPE.out _ _ _ HN.out (SQ.out.gr.trans hg8 SQ.out.gr.size)⟩
        | ok a8 r8 =>
          rw [hp] at hP
          obtain ⟨⟨V8, rfl, hV8⟩, hR8, hg8⟩ := hP
          have hT8 := nm_takes _ _ _ hp
          skip
          have hx8 := HX7.out
          rw [hp] at hx8
          dsimp only [PR.bind] at hx8
          have HX8 := Lib.hid hx8
          have hl8 := hT8.1
          have SQ8 := Lib.hid (SQ.out.step HAP.out hg8 hR8 ⟨hT8.2.1 SQ.out.ends.1, hT8.2.2 SQ.out.ends.2⟩)
          have hs8 := hg8.size
          (try simp only [World.size_alloc, World.size_setCell] at hs8)
          clear hx8 hp hT8 hR8 hg8 SQ
          obtain rfl := hV8
          have HQ8 : Hid (q0 f a6 a8 r8 = X) := Lib.hid HX8.out
          clear HX8
          obtain ⟨AI', cI', AG', cG', AO', cO', cs', hbox, -⟩ := SQ8.out.box
          obtain ⟨c1, f1⟩ := qbox hbox 1 _ rfl
          clear hbox
          have SQ : Hid (QSt w (w8.setCell ⟨w.heap.size + 1, 1, none⟩ (.string ⟨a8.toArray⟩)) rb gt (w.heap.size + 1) ⟨a6, a8, cond0, [], [], -1⟩ r8) := Lib.hid (SQ8.out.put HAP.out (fun AI cI AG cG AO cO cs k1 k2 k3 k4 => ⟨AI, cI, AG, cG, AO, cO, cs, rfl, k1, k2, k3, k4⟩))
          clear SQ8 c0 f0
          go_upto_if 21 with (go_at_call 62; (with_reducible refine (MY.out wWhere r8 SQ.out.ends.1.ne _ SQ.out.rd).mono ?_); rintro e w9 ⟨rfl, hR9, hg9⟩; have M9 := Lib.hid (SQ.out.may HAP.out hg9 hR9); have hs9 := hg9.size; (try simp only [World.size_alloc, World.size_setCell] at hs9); clear hR9 hg9 SQ)
          generalize mayB wWhere r8 = B9 at *
          (try clear c1 f1)
          have hZ := hl8
          go_cut [] from 22 to 30 (fun wx => ∃ c r', Hid (q1 a6 a8 c r' = X) ∧ Hid (QSt w wx rb gt (w.heap.size + 1) ⟨a6, a8, c, [], [], -1⟩ r') ∧ r'.length ≤ r8.length)
          case first =>
            cases B9 with
            | false =>
              obtain ⟨hn, S⟩ := M9.out.1 rfl
              have HS := Lib.hid S
              clear S M9
              go_wp2
              go_meet
              exact ⟨cond0, r8, Lib.hid ((q0_no hn).symm.trans HQ8.out), HS, Nat.le_refl _⟩
            | true =>
              obtain ⟨r9, hm9, S9, hl9⟩ := M9.out.2 rfl
              have SQ := Lib.hid S9
              have HX9 := Lib.hid ((q0_yes hm9).symm.trans HQ8.out)
              clear hm9 S9 M9
              go_wp2_with (fail)
              go_at_call 63
              refine (OC.out r9 _ (by omega) SQ.out.rd SQ.out.ends.1 SQ.out.ends.2).mono ?_
              rintro e w10 hP
              cases hp : condF f 0 r9 with
              | no p er =>
                rw [hp] at hP
                obtain ⟨rfl, hg10⟩ := hP
                have HN : Hid (PR.no p er = X) := Lib.hid (by have h := HX9.out; rw [hp] at h; exact h)
                clear hp
                go_wp2
                exact ⟨rfl, HPE.out _ _ _ HN.out (SQ.out.gr.trans hg10 SQ.out.gr.size)⟩
              | ok a10 r10 =>
                rw [hp] at hP
                obtain ⟨⟨V10, rfl, hV10⟩, hR10, hg10⟩ := hP
                have hT10 := cond_takes f 0 _ _ _ hp
                have hd10 := cond_depth _ _ _ _ _ hp
                have hx10 := HX9.out
                rw [hp] at hx10
                dsimp only [PR.bind] at hx10
                have HX10 := Lib.hid hx10
                have hl10 := hT10.1
                have SQ10 := Lib.hid (SQ.out.step HAP.out hg10 hR10 ⟨hT10.2.1 SQ.out.ends.1, hT10.2.2 SQ.out.ends.2⟩)
                have hs10 := hg10.size
                (try simp only [World.size_alloc, World.size_setCell] at hs10)
                clear hx10 hp hT10 hR10 hg10 SQ
                obtain ⟨cs10, rfl, hcv⟩ := hV10
                obtain ⟨op, args, ⟨lc, lt, ln, ls⟩, ⟨rc, rt, rn, rs⟩⟩ := a10
                obtain ⟨A10, cc10, rfl, -⟩ := hcv.open
                dsimp only [condC, termC, List.cons_append, List.nil_append] at hcv ⊢
                have HCV := Lib.hid hcv
                clear hcv
                obtain ⟨⟨u2, c2⟩, f2⟩ := SQ10.out.cell 2 (by omega)
                obtain ⟨⟨u3, c3⟩, f3⟩ := SQ10.out.cell 3 (by omega)
                obtain ⟨⟨u4, c4⟩, f4⟩ := SQ10.out.cell 4 (by omega)
                obtain ⟨⟨u5, c5⟩, f5⟩ := SQ10.out.cell 5 (by omega)
                obtain ⟨⟨u6, c6'⟩, f6⟩ := SQ10.out.cell 6 (by omega)
                obtain ⟨⟨u7, c7⟩, f7⟩ := SQ10.out.cell 7 (by omega)
                obtain ⟨⟨u8, c8⟩, f8⟩ := SQ10.out.cell 8 (by omega)
                obtain ⟨⟨u9, c9⟩, f9⟩ := SQ10.out.cell 9 (by omega)
                obtain ⟨⟨u10, c10⟩, f10⟩ := SQ10.out.cell 10 (by omega)
                obtain ⟨⟨u11, c11⟩, f11⟩ := SQ10.out.cell 11 (by omega)
                have SQ := Lib.hid (SQ10.out.putC HAP.out (HCV.out.mono (fun k _ hk => by omega)))
                dsimp only at SQ
                clear SQ10
                have hz10 : w.heap.size + 1 < w10.heap.size := by omega
                go_wp2_with (fail)
                go_at_call 44
                refine (DP.out (.mk op args ⟨lc, lt, ln, ls⟩ ⟨rc, rt, rn, rs⟩) _ _ (fun k => w.heap.size + 1 < k) (by repeat (first | (with_reducible exact HCV.out.mono (fun k _ hk => by omega)) | (with_reducible refine CV.keep kp_set_box ?_))) (by omega)).mono ?_
                rintro e w11 ⟨rfl, hb11⟩
                have hg11 := Gr.of_below (rb := rb) hb11
                have SQ' := Lib.hid (SQ.out.step HAP.out (by simpa using hg11) (SQ.out.rd.below hb11) SQ.out.ends)
                have hs11 := hb11.size
                (try simp only [World.size_alloc, World.size_setCell] at hs11)
                clear hb11 hg11 SQ
                generalize (CondT.mk op args ⟨lc, lt, ln, ls⟩ ⟨rc, rt, rn, rs⟩) = C10 at *
                have hdd : (0 : Int) ≤ (depthC C10 : Int) ∧ (depthC C10 : Int) ≤ 1000000000 := by omega
                by_cases hd : 32 < depthC C10
                · have hd' : 32 < (depthC C10 : Int) := by omega
                  rw [if_pos hd] at HX10
                  cases hr10 : r10 with
                  | nil => exact absurd hr10 SQ'.out.ends.1.ne
                  | cons t rr =>
                    rw [hr10] at SQ' HX10
                    have HXF := Lib.hid HX10.out
                    clear hr10 hd hd10
                    go_wp2_with (fail)
                    go_at_call 64
                    refine (FL.out t rr 20 _ SQ'.out.rd).mono ?_
                    rintro e w12 ⟨rfl, hb12⟩
                    go_wp2
                    exact ⟨rfl, HPE.out _ _ _ HXF.out (SQ'.out.gr.below hb12 SQ'.out.gr.size)⟩
                · have hd' : ¬ 32 < (depthC C10 : Int) := by omega
                  rw [if_neg hd] at HX10
                  have HXG := Lib.hid HX10.out
                  clear hd hd10
                  go_wp2
                  go_meet
                  exact ⟨C10, r10, HXG, SQ', by omega⟩
          case rest =>
            obtain ⟨c11, r11, HQ11, SQ, hl11⟩ := hcut
            obtain ⟨w11, rfl⟩ : ∃ w11 : World, w11 = wc := ⟨_, rfl⟩
            have hS11 := SQ.out.lt
            clear HQ8 M9 hs9
            go_upto_if 32 with (go_at_call 62; (with_reducible refine (MY.out wGroup r11 SQ.out.ends.1.ne _ SQ.out.rd).mono ?_); rintro e w12 ⟨rfl, hR12, hg12⟩; have M12 := Lib.hid (SQ.out.may HAP.out hg12 hR12); have hs12 := hg12.size; (try simp only [World.size_alloc, World.size_setCell] at hs12); clear hR12 hg12 SQ)
            generalize mayB wGroup r11 = B12 at *
            (try clear c1 f1)
            go_cut [] from 33 to 41 (fun wx => ∃ G r', Hid (q2 a6 a8 c11 G r' = X) ∧ Hid (QSt w wx rb gt (w.heap.size + 1) ⟨a6, a8, c11, G, [], -1⟩ r') ∧ r'.length ≤ r11.length)
            case first =>
              cases B12 with
              | false =>
                obtain ⟨hn, S⟩ := M12.out.1 rfl
                have HS := Lib.hid S
                clear S M12
                go_wp2
                go_meet
                exact ⟨[], r11, Lib.hid ((q1_no hn).symm.trans HQ11.out), HS, Nat.le_refl _⟩
              | true =>
                obtain ⟨r12, hm12, S12, hl12⟩ := M12.out.2 rfl
                have SQ := Lib.hid S12
                have HX12 := Lib.hid ((q1_yes hm12).symm.trans HQ11.out)
                clear hm12 S12 M12
                go_wp2_with (fail)
                go_at_call 57
                refine (MU.out wBy r12 SQ.out.ends.1.ne _ SQ.out.rd).mono ?_
                rintro e w13 hP
                cases hp : mustF wBy r12 with
                | no p er =>
                  rw [hp] at hP
                  obtain ⟨rfl, hg13⟩ := hP
                  have HN : Hid (PR.no p er = X) := Lib.hid (by have h := HX12.out; rw [hp] at h; exact h)
                  clear hp
                  go_wp2
                  exact ⟨rfl, HPE.out _ _ _ HN.out (SQ.out.gr.trans hg13 SQ.out.gr.size)⟩
                | ok a13 r13 =>
                  rw [hp] at hP
                  obtain ⟨⟨V13, rfl, hV13⟩, hR13, hg13⟩ := hP
                  have hT13 := must_takes _ _ _ _ hp
                  skip
                  have hx13 := HX12.out
                  rw [hp] at hx13
                  dsimp only [PR.bind] at hx13
                  have HX13 := Lib.hid hx13
                  have hl13 := hT13.1
                  have SQ13 := Lib.hid (SQ.out.step HAP.out hg13 hR13 ⟨hT13.2.1 SQ.out.ends.1, hT13.2.2 SQ.out.ends.2⟩)
                  have hs13 := hg13.size
                  (try simp only [World.size_alloc, World.size_setCell] at hs13)
                  clear hx13 hp hT13 hR13 hg13 SQ
                  obtain rfl := hV13
                  have SQ := SQ13
                  have hS13 := SQ.out.lt
                  clear SQ13
                  go_wp2_with (fail)
                  go_at_call 65
                  refine (MN.out r13 _ SQ.out.rd SQ.out.ends.1 SQ.out.ends.2 (by omega)).mono ?_
                  rintro e w14 hP
                  cases hp : manyF nmF isNm r13.length [] r13 with
                  | no p er =>
                    rw [hp] at hP
                    obtain ⟨rfl, hg14⟩ := hP
                    have HN : Hid (PR.no p er = X) := Lib.hid (by have h := HX13.out; rw [hp] at h; exact h)
                    clear hp
                    go_wp2
                    exact ⟨rfl, HPE.out _ _ _ HN.out (SQ.out.gr.trans hg14 SQ.out.gr.size)⟩
                  | ok a14 r14 =>
                    rw [hp] at hP
                    obtain ⟨⟨V14, rfl, hV14⟩, hR14, hg14⟩ := hP
                    have hT14 := many_takes nm_takes _ _ _ _ _ _ hp
                    skip
                    have hx14 := HX13.out
                    rw [hp] at hx14
                    dsimp only [PR.bind] at hx14
                    have HX14 := Lib.hid hx14
                    have hl14 := hT14.1
                    have SQ14 := Lib.hid (SQ.out.step HAP.out hg14 hR14 ⟨hT14.2.1 SQ.out.ends.1, hT14.2.2 SQ.out.ends.2⟩)
                    have hs14 := hg14.size
                    (try simp only [World.size_alloc, World.size_setCell] at hs14)
                    clear hx14 hp hT14 hR14 hg14 SQ
                    obtain ⟨A14, cp14, rfl⟩ := own_form hV14
                    obtain ⟨⟨u12, cu12⟩, fu12⟩ := SQ14.out.cell 12 (by omega)
                    have SQ : Hid (QSt w (w14.setCell ⟨w.heap.size + 1, 12, none⟩ (.slice A14 a14.length cp14)) rb gt (w.heap.size + 1) ⟨a6, a8, c11, a14, [], -1⟩ r14) := Lib.hid (SQ14.out.put HAP.out (fun AI cI AG cG AO cO cs k1 k2 k3 k4 => ⟨AI, cI, A14, cp14, AO, cO, cs, (set_tail k4.len).1 _ _ _, k1, own_mono hV14 (by omega), k3, k4⟩))
                    clear SQ14
                    go_wp2
                    go_meet
                    exact ⟨a14, r14, HX14, SQ, by omega⟩
            case rest =>
              obtain ⟨g15, r15, HQ15, SQ, hl15⟩ := hcut
              obtain ⟨w15, rfl⟩ : ∃ w15 : World, w15 = wc := ⟨_, rfl⟩
              have hS15 := SQ.out.lt
              clear HQ11 M12 hs12
              go_upto_if 43 with (go_at_call 62; (with_reducible refine (MY.out wOrder r15 SQ.out.ends.1.ne _ SQ.out.rd).mono ?_); rintro e w16 ⟨rfl, hR16, hg16⟩; have M16 := Lib.hid (SQ.out.may HAP.out hg16 hR16); have hs16 := hg16.size; (try simp only [World.size_alloc, World.size_setCell] at hs16); clear hR16 hg16 SQ)
              generalize mayB wOrder r15 = B16 at *
              (try clear c1 f1)
              go_cut [] from 44 to 52 (fun wx => ∃ O r', Hid (q3 a6 a8 c11 g15 O r' = X) ∧ Hid (QSt w wx rb gt (w.heap.size + 1) ⟨a6, a8, c11, g15, O, -1⟩ r') ∧ r'.length ≤ r15.length)
              case first =>
                cases B16 with
                | false =>
                  obtain ⟨hn, S⟩ := M16.out.1 rfl
                  have HS := Lib.hid S
                  clear S M16
                  go_wp2
                  go_meet
                  exact ⟨[], r15, Lib.hid ((q2_no hn).symm.trans HQ15.out), HS, Nat.le_refl _⟩
                | true =>
                  obtain ⟨r16, hm16, S16, hl16⟩ := M16.out.2 rfl
                  have SQ := Lib.hid S16
                  have HX16 := Lib.hid ((q2_yes hm16).symm.trans HQ15.out)
                  clear hm16 S16 M16
                  go_wp2_with (fail)
                  go_at_call 57
                  refine (MU.out wBy r16 SQ.out.ends.1.ne _ SQ.out.rd).mono ?_
                  rintro e w17 hP
                  cases hp : mustF wBy r16 with
                  | no p er =>
                    rw [hp] at hP
                    obtain ⟨rfl, hg17⟩ := hP
                    have HN : Hid (PR.no p er = X) := Lib.hid (by have h := HX16.out; rw [hp] at h; exact h)
                    clear hp
                    go_wp2
                    exact ⟨rfl, HPE.out _ _ _ HN.out (SQ.out.gr.trans hg17 SQ.out.gr.size)⟩
                  | ok a17 r17 =>
                    rw [hp] at hP
                    obtain ⟨⟨V17, rfl, hV17⟩, hR17, hg17⟩ := hP
                    have hT17 := must_takes _ _ _ _ hp
                    skip
                    have hx17 := HX16.out
                    rw [hp] at hx17
                    dsimp only [PR.bind] at hx17
                    have HX17 := Lib.hid hx17
                    have hl17 := hT17.1
                    have SQ17 := Lib.hid (SQ.out.step HAP.out hg17 hR17 ⟨hT17.2.1 SQ.out.ends.1, hT17.2.2 SQ.out.ends.2⟩)
                    have hs17 := hg17.size
                    (try simp only [World.size_alloc, World.size_setCell] at hs17)
                    clear hx17 hp hT17 hR17 hg17 SQ
                    obtain rfl := hV17
                    have SQ := SQ17
                    have hS17 := SQ.out.lt
                    clear SQ17
                    go_wp2_with (fail)
                    go_at_call 67
                    refine (MO.out r17 _ SQ.out.rd SQ.out.ends.1 SQ.out.ends.2 (by omega)).mono ?_
                    rintro e w18 hP
                    cases hp : manyF orderF isNm r17.length [] r17 with
                    | no p er =>
                      rw [hp] at hP
                      obtain ⟨rfl, hg18⟩ := hP
                      have HN : Hid (PR.no p er = X) := Lib.hid (by have h := HX17.out; rw [hp] at h; exact h)
                      clear hp
                      go_wp2
                      exact ⟨rfl, HPE.out _ _ _ HN.out (SQ.out.gr.trans hg18 SQ.out.gr.size)⟩
                    | ok a18 r18 =>
                      rw [hp] at hP
                      obtain ⟨⟨V18, rfl, hV18⟩, hR18, hg18⟩ := hP
                      have hT18 := many_takes order_takes _ _ _ _ _ _ hp
                      skip
                      have hx18 := HX17.out
                      rw [hp] at hx18
                      dsimp only [PR.bind] at hx18
                      have HX18 := Lib.hid hx18
                      have hl18 := hT18.1
                      have SQ18 := Lib.hid (SQ.out.step HAP.out hg18 hR18 ⟨hT18.2.1 SQ.out.ends.1, hT18.2.2 SQ.out.ends.2⟩)
                      have hs18 := hg18.size
                      (try simp only [World.size_alloc, World.size_setCell] at hs18)
                      clear hx18 hp hT18 hR18 hg18 SQ
                      obtain ⟨A18, cp18, rfl⟩ := own_form hV18
                      obtain ⟨⟨u12, cu12⟩, fu12⟩ := SQ18.out.cell 13 (by omega)
                      have SQ : Hid (QSt w (w18.setCell ⟨w.heap.size + 1, 13, none⟩ (.slice A18 a18.length cp18)) rb gt (w.heap.size + 1) ⟨a6, a8, c11, g15, a18, -1⟩ r18) := Lib.hid (SQ18.out.put HAP.out (fun AI cI AG cG AO cO cs k1 k2 k3 k4 => ⟨AI, cI, AG, cG, A18, cp18, cs, (set_tail k4.len).2.1 _ _ _, k1, k2, own_mono hV18 (by omega), k4⟩))
                      clear SQ18
                      go_wp2
                      go_meet
                      exact ⟨a18, r18, HX18, SQ, by omega⟩
              case rest =>
                obtain ⟨o19, r19, HQ19, SQ, hl19⟩ := hcut
                obtain ⟨w19, rfl⟩ : ∃ w19 : World, w19 = wc := ⟨_, rfl⟩
                have hS19 := SQ.out.lt
                clear HQ15 M16 hs16
                go_upto_if 54 with (go_at_call 62; (with_reducible refine (MY.out wLimit r19 SQ.out.ends.1.ne _ SQ.out.rd).mono ?_); rintro e w20 ⟨rfl, hR20, hg20⟩; have M20 := Lib.hid (SQ.out.may HAP.out hg20 hR20); have hs20 := hg20.size; (try simp only [World.size_alloc, World.size_setCell] at hs20); clear hR20 hg20 SQ)
                generalize mayB wLimit r19 = B20 at *
                (try clear c1 f1)
                go_cut [4] from 55 to 76 (fun v4 wx => ∃ L r', Hid (q4 a6 a8 c11 g15 o19 L r' = X) ∧ Hid (QSt w wx rb gt (w.heap.size + 1) ⟨a6, a8, c11, g15, o19, L⟩ r') ∧ r'.length ≤ r19.length)
                case first =>
                  cases B20 with
                  | false =>
                    obtain ⟨hn, S⟩ := M20.out.1 rfl
                    have HS := Lib.hid S
                    clear S M20
                    go_wp2
                    go_meet
                    exact ⟨-1, r19, Lib.hid ((q3_no hn).symm.trans HQ19.out), HS, Nat.le_refl _⟩
                  | true =>
                    obtain ⟨r20, hm20, S20, hl20⟩ := M20.out.2 rfl
                    have SQ := Lib.hid S20
                    clear S20 M20
                    cases r20 with
                    | nil => exact absurd rfl SQ.out.ends.1.ne
                    | cons t r20 =>
                    have hx20 := (q3_yes hm20).symm.trans HQ19.out
                    clear hm20
                    have hE20 := SQ.out.ends
                    go_wp2_with (fail)
                    go_at_call 69
                    refine (HH.out t r20 _ SQ.out.rd).mono ?_
                    rintro e w21 ⟨rfl, hb21⟩
                    have SQ' := Lib.hid (SQ.out.step HAP.out (Gr.of_below (rb := rb) hb21) (SQ.out.rd.below hb21) SQ.out.ends)
                    have hS21 := SQ'.out.lt
                    clear hb21 SQ
                    obtain ⟨p, hp, cr1, fr1, ST⟩ := SQ'.out.rd.step
                    have HST := Lib.hid ST
                    have HE20 := Lib.hid hE20
                    obtain ⟨tk, tS, tn, tp⟩ := t
                    dsimp only [tokV] at hx20 ⊢
                    generalize (⟨tS.toArray⟩ : ByteArray) = U at *
                    clear ST hE20
                    have hz21 : ¬ w21.heap.size = rb ∧ ¬ rb = w21.heap.size ∧ ¬ w21.heap.size = w.heap.size + 1 ∧ ¬ w.heap.size + 1 = w21.heap.size ∧ ¬ w.heap.size + 1 = rb ∧ ¬ rb = w.heap.size + 1 ∧ rb < w21.heap.size ∧ rb < w21.heap.size + 1 ∧ w.heap.size + 1 < w21.heap.size + 1 := by omega
                    by_cases hk : tk = 110
                    · have e1 : (tk != 110) = false := by simp [hk]
                      by_cases hn : tn < 0
                      · rw [if_neg (by omega)] at hx20
                        have HX20 := Lib.hid hx20
                        clear hx20 hk
                        go_wp2_with (fail)
                        go_at_call 64
                        refine (FL.out ⟨tk, tS, tn, tp⟩ r20 11 _ (SQ'.out.rd.alloc _)).mono ?_
                        rintro e w22 ⟨rfl, hb22⟩
                        go_wp2
                        exact ⟨rfl, HPE.out _ _ _ HX20.out (SQ'.out.gr.trans (Gr.of_below (((Below.refl _ _).alloc (Nat.le_refl _) _).trans (hb22.mono (by simp)))) SQ'.out.gr.size)⟩
                      · rw [if_pos ⟨hk, by omega⟩] at hx20
                        have HEE := Lib.hid (And.intro (HE20.out.1.tail (.inr (.inr (.inl hk)))) HE20.out.2.tail)
                        have HX20 := Lib.hid hx20
                        clear hx20 hk
                        obtain ⟨⟨u14, cu14⟩, fu14⟩ := SQ'.out.cell 14 (by omega)
                        go_wp2
                        go_meet
                        have S1 := SQ'.out.step HAP.out ((Gr.refl _ rb _).setCell (.inr rfl) _) (HST.out _ (Below.refl _ _)) HEE.out
                        have S2 := S1.put (o := 14) (v := .int .i64 tn) (q' := ⟨a6, a8, c11, g15, o19, tn⟩) HAP.out (fun AI cI AG cG AO cO cs k1 k2 k3 k4 => ⟨AI, cI, AG, cG, AO, cO, cs, (set_tail k4.len).2.2 _, k1, k2, k3, k4⟩)
                        exact ⟨tn, r20, HX20, Lib.hid (S2.step HAP.out ((Gr.refl _ _ _).alloc (Nat.le_refl _) _) (S2.rd.alloc _) S2.ends), by simp only [List.length_cons] at hl20; omega⟩
                    · have e1 : (tk != 110) = true := by simp [hk]
                      rw [if_neg (fun e => hk e.1)] at hx20
                      have HX20 := Lib.hid hx20
                      clear hx20 hk
                      go_wp2_with (fail)
                      go_at_call 64
                      refine (FL.out ⟨tk, tS, tn, tp⟩ r20 11 _ (SQ'.out.rd.alloc _)).mono ?_
                      rintro e w22 ⟨rfl, hb22⟩
                      go_wp2
                      exact ⟨rfl, HPE.out _ _ _ HX20.out (SQ'.out.gr.trans (Gr.of_below (((Below.refl _ _).alloc (Nat.le_refl _) _).trans (hb22.mono (by simp)))) SQ'.out.gr.size)⟩
                case rest =>
                  obtain ⟨L23, r23, HQ23, SQ, hl23⟩ := hcut
                  obtain ⟨w23, rfl⟩ : ∃ w23 : World, w23 = wc := ⟨_, rfl⟩
                  have hS23 := SQ.out.lt
                  clear HQ19 M20 hs20
                  cases r23 with
                  | nil => exact absurd rfl SQ.out.ends.1.ne
                  | cons t r23 =>
                  have hx23 := q4_at.symm.trans HQ23.out
                  clear HQ23
                  go_wp2_with (fail)
                  go_at_call 69
                  refine (HH.out t r23 _ SQ.out.rd).mono ?_
                  rintro e w24 ⟨rfl, hb24⟩
                  have SQ' := Lib.hid (SQ.out.step HAP.out (Gr.of_below (rb := rb) hb24) (SQ.out.rd.below hb24) SQ.out.ends)
                  have hS24 := SQ'.out.lt
                  clear hb24 SQ
                  obtain ⟨tk, tS, tn, tp⟩ := t
                  dsimp only [tokV] at hx23 ⊢
                  generalize (⟨tS.toArray⟩ : ByteArray) = U at *
                  by_cases hk : tk = 101
                  · have e1 : (tk != 101) = false := by simp [hk]
                    rw [if_pos hk] at hx23
                    have HX23 := Lib.hid hx23
                    clear hx23 hk
                    obtain ⟨AI, cI, AG, cG, AO, cO, cs, hbox, o1, o2, o3, hcv⟩ := SQ'.out.box
                    obtain ⟨op, args, ⟨lc, lt, ln, ls⟩, ⟨rc, rt, rn, rs⟩⟩ := c11
                    obtain ⟨AC, cC, rfl, -⟩ := hcv.open
                    dsimp only [condC, termC, List.cons_append, List.nil_append] at hcv hbox o1 o2 o3
                    have HO1 := Lib.hid o1
                    have HO2 := Lib.hid o2
                    have HO3 := Lib.hid o3
                    have HCV := Lib.hid hcv
                    clear o1 o2 o3 hcv
                    obtain ⟨cb0, fb0⟩ := qbox hbox 0 _ rfl
                    obtain ⟨cz0, fz0⟩ := qbox (l := zeroQ.toList) SQ'.out.res 0 _ rfl
                    obtain ⟨cb1, fb1⟩ := qbox hbox 1 _ rfl
                    obtain ⟨cz1, fz1⟩ := qbox (l := zeroQ.toList) SQ'.out.res 1 _ rfl
                    obtain ⟨cb2, fb2⟩ := qbox hbox 2 _ rfl
                    obtain ⟨cz2, fz2⟩ := qbox (l := zeroQ.toList) SQ'.out.res 2 _ rfl
                    obtain ⟨cb3, fb3⟩ := qbox hbox 3 _ rfl
                    obtain ⟨cz3, fz3⟩ := qbox (l := zeroQ.toList) SQ'.out.res 3 _ rfl
                    obtain ⟨cb4, fb4⟩ := qbox hbox 4 _ rfl
                    obtain ⟨cz4, fz4⟩ := qbox (l := zeroQ.toList) SQ'.out.res 4 _ rfl
                    obtain ⟨cb5, fb5⟩ := qbox hbox 5 _ rfl
                    obtain ⟨cz5, fz5⟩ := qbox (l := zeroQ.toList) SQ'.out.res 5 _ rfl
                    obtain ⟨cb6, fb6⟩ := qbox hbox 6 _ rfl
                    obtain ⟨cz6, fz6⟩ := qbox (l := zeroQ.toList) SQ'.out.res 6 _ rfl
                    obtain ⟨cb7, fb7⟩ := qbox hbox 7 _ rfl
                    obtain ⟨cz7, fz7⟩ := qbox (l := zeroQ.toList) SQ'.out.res 7 _ rfl
                    obtain ⟨cb8, fb8⟩ := qbox hbox 8 _ rfl
                    obtain ⟨cz8, fz8⟩ := qbox (l := zeroQ.toList) SQ'.out.res 8 _ rfl
                    obtain ⟨cb9, fb9⟩ := qbox hbox 9 _ rfl
                    obtain ⟨cz9, fz9⟩ := qbox (l := zeroQ.toList) SQ'.out.res 9 _ rfl
                    obtain ⟨cb10, fb10⟩ := qbox hbox 10 _ rfl
                    obtain ⟨cz10, fz10⟩ := qbox (l := zeroQ.toList) SQ'.out.res 10 _ rfl
                    obtain ⟨cb11, fb11⟩ := qbox hbox 11 _ rfl
                    obtain ⟨cz11, fz11⟩ := qbox (l := zeroQ.toList) SQ'.out.res 11 _ rfl
                    obtain ⟨cb12, fb12⟩ := qbox hbox 12 _ rfl
                    obtain ⟨cz12, fz12⟩ := qbox (l := zeroQ.toList) SQ'.out.res 12 _ rfl
                    obtain ⟨cb13, fb13⟩ := qbox hbox 13 _ rfl
                    obtain ⟨cz13, fz13⟩ := qbox (l := zeroQ.toList) SQ'.out.res 13 _ rfl
                    obtain ⟨cb14, fb14⟩ := qbox hbox 14 _ rfl
                    obtain ⟨cz14, fz14⟩ := qbox (l := zeroQ.toList) SQ'.out.res 14 _ rfl
                    clear hbox
                    have hz24 : w.heap.size < w24.heap.size := by omega
                    go_wp2
                    have hR24 := SQ'.out.rd
                    have hG24 := SQ'.out.gr
                    have hn24 : ¬ w.heap.size = rb ∧ ¬ w.heap.size = gt := by omega
                    exact bodyPost_ret (v := .agg #[.slice AI a6.length cI, .string ⟨a8.toArray⟩, .int .i64 op, .slice AC args.length cC, .string ⟨lc.toArray⟩, .int .i64 lt, .int .i64 ln, .string ⟨ls.toArray⟩, .string ⟨rc.toArray⟩, .int .i64 rt, .int .i64 rn, .string ⟨rs.toArray⟩, .slice AG g15.length cG, .slice AO o19.length cO, .int .i64 L23]) (by simp [results, Tryz.results29, go_sem, *]) rfl (HQQ.out _ _ (by rw [← HX23.out]; exact ⟨⟨_, rfl, AI, cI, AG, cG, AO, cO, [.int .i64 op, .slice AC args.length cC, .string ⟨lc.toArray⟩, .int .i64 lt, .int .i64 ln, .string ⟨ls.toArray⟩, .string ⟨rc.toArray⟩, .int .i64 rt, .int .i64 rn, .string ⟨rs.toArray⟩], rfl, own_mono (B := w.heap.size + 2) (by repeat (first | (with_reducible exact HO1.out) | (with_reducible refine own_set ?_ (by omega) _ _))) (by omega), own_mono (B := w.heap.size + 2) (by repeat (first | (with_reducible exact HO2.out) | (with_reducible refine own_set ?_ (by omega) _ _))) (by omega), own_mono (B := w.heap.size + 2) (by repeat (first | (with_reducible exact HO3.out) | (with_reducible refine own_set ?_ (by omega) _ _))) (by omega), CV.mono (P := fun k => w.heap.size < k) (fun k _ hk => Nat.le_of_lt hk) (by repeat (first | (with_reducible exact HCV.out.mono (fun k _ hk => by omega)) | (with_reducible refine CV.keep (Kp.set (Kp.refl (fun k => w.heap.size < k) _) (by dsimp only; omega) _) ?_)))⟩, (by repeat (first | (with_reducible exact hR24) | ((with_reducible refine RdR.setCell ?_ ?hq1 ?hq2 _); (case hq1 => (first | (simp; done) | (simp; omega) | omega)); (case hq2 => (first | (simp; done) | (simp; omega) | omega))) | (with_reducible refine RdR.alloc ?_ _) | (with_reducible refine RdR.drew ?_) | refine RdR.below ?_ (by assumption))), (by repeat (first | (with_reducible exact Gr.refl _ _ _) | (with_reducible assumption) | ((with_reducible refine Gr.setCell ?_ ?hq1 _); (case hq1 => (first | (right; rfl) | (left; (first | (simp; done) | (simp; omega) | omega))))) | ((with_reducible refine Gr.alloc ?_ ?hq1 _); (case hq1 => (first | (simp; done) | (simp; omega) | omega))) | (with_reducible refine Gr.drew ?_) | exact Gr.of_below (by assumption) | refine Gr.trans ?_ (by assumption) (by first | (simp; done) | (simp; omega) | omega) | refine Gr.below ?_ (by assumption) (by first | (simp; done) | (simp; omega) | omega)))⟩))
                  · have e1 : (tk != 101) = true := by simp [hk]
                    rw [if_neg hk] at hx23
                    have HX23 := Lib.hid hx23
                    clear hx23 hk
                    go_wp2_with (fail)
                    go_at_call 64
                    refine (FL.out ⟨tk, tS, tn, tp⟩ r23 11 _ SQ'.out.rd).mono ?_
                    rintro e w25 ⟨rfl, hb25⟩
                    go_wp2
                    exact ⟨rfl, HPE.out _ _ _ HX23.out (SQ'.out.gr.below hb25 SQ'.out.gr.size)⟩
end Go.Proofs.YtijlifdbjhieaaaGreatDoor
