/-
  Contract of http.lines: a range over its function gives the lines of bytes one by one, an error in place of the last.
-/
import Derived.Test.YtkaimfeiahogaaaGreatDoorHk4
import Derived.Test.YtkaimfeiahogaaaGreatDoorHp3
import Derived.RangeFuncNested
import Derived.RangeFuncBound
import Derived.RangeFuncCalls
import Derived.RangeFuncLeaves
import Derived.Shelf.Abstract
import Derived.Shelf.RegionOpen
import Derived.OwnWalkIn
import Derived.TacticsInMore
import Derived.LoopNIn
import Derived.LoopIn
namespace Go.Proofs.YtkaimfeiahogaaaGreatDoor
set_option linter.all false
open Go.RowKit Go.Shelf
attribute [local go_sem] cell_set_self lt_1 lt_2 lt_3 lt_4 lt_5 lt_6 Oper.semAt_some

/-- The address p places on. -/
def subA (A : Option Addr) (p : Nat) : Option Addr := A.map fun a => ⟨a.block, a.off + p, none⟩
def encI (A : Option Addr) (c : Nat) : It → Array Value
  | .got p k => #[.int .i64 ((p : Int) + ((k : Int) + 2)), .slice (subA A p) k (c - p)]
  | .bad e => #[.int .i64 (-e), .slice none 0 0]
abbrev ItS (l : List UInt8) := { x : It // ItOk l x }
/-- What a round keeps: what lay below n0, and the box in which the bytes' slice stands. -/
def KpL (n0 Bb : Nat) (W W' : World) : Prop := Below n0 W W' ∧ W'.cell? ⟨Bb, 0, none⟩ = W.cell? ⟨Bb, 0, none⟩
theorem Bs.keep {w W W' : World} {A : Option Addr} {c : Nat} {l : List UInt8} (T0 : Bs w A c l) (T : Bs W A c l) (h : Below w.heap.size W W') : Bs W' A c l :=
  ⟨T.1, T.2.1, fun i v hi => by
    obtain ⟨b, off, hA, hb, hc⟩ := T.2.2 i v hi
    obtain ⟨b2, off2, hA2, hb2, _⟩ := T0.2.2 i v hi
    have e : b = b2 := by rw [hA] at hA2; injection hA2 with h; injection h
    have hc' := h.cell (p := ⟨b, off + i, none⟩) (by rw [e]; exact hb2)
    exact ⟨b, off, hA, Nat.lt_of_lt_of_le hb h.size, hc'.trans hc⟩⟩
theorem Bs.drop {w : World} {b off c : Nat} {l : List UInt8} (T : Bs w (some ⟨b, off, none⟩) c l) (q : Nat) (hq : q ≤ l.length) : Bs w (some ⟨b, off + q, none⟩) (c - q) (l.drop q) :=
  ⟨by rw [List.length_drop]; have := T.1; omega, fun h => (by cases h), fun i v hi => by
    rw [List.getElem?_drop] at hi
    obtain ⟨b', off', e, h1, h2⟩ := T.2.2 _ _ hi
    injection e with e; injection e with e1 e2; subst e1 e2
    exact ⟨b, off + q, rfl, h1, by rw [show off + q + i = off + (q + i) by omega]; exact h2⟩⟩
theorem Bs.take {w : World} {A : Option Addr} {c : Nat} {l : List UInt8} (T : Bs w A c l) (k : Nat) : Bs w A c (l.take k) :=
  ⟨by rw [List.length_take]; have := T.1; omega, T.2.1, fun i v hi => by
    rw [List.getElem?_take] at hi
    split at hi
    · exact T.2.2 i v hi
    · cases hi⟩
theorem lines_any (A : Option Addr) (n c : Nat) (w : World) : Calls Tryz.prog 34 #[.slice A n c] w fun e w' => e = .returned (.func (.func 53) #[] #[.pointer (some ⟨w.heap.size, 0, none⟩)]) ∧ w' = w.alloc (.cells #[.slice A n c] 22) := by
  go_enter Tryz.func34, Tryz.ntmps34
  go_wp2
  go_ret
  exact ⟨rfl, rfl⟩
set_option maxHeartbeats 8000000 in
set_option maxRecDepth 100000 in
theorem lines1_in (m : Nat) (l0 Bb : Nat) (w0 : World) (A : Option Addr) (n c : Nat) (l : List UInt8) (hl : l.length = n) (hn : n ≤ 1000000000) (T0 : Bs w0 A c l) (J Jx : List (ItS l) → World → Prop)
    (hY : ∀ pre x W, J pre W → pre.length < (itemsF (n + 1) 0 l).length → YieldAt Fence.wide (m - 1) Tryz.prog l0 (encI A c x.1) W fun e W' =>
      (e = .returned (.bool true) ∧ J (pre ++ [x]) W' ∧ KpL w0.heap.size Bb W W') ∨ (e = .returned (.bool false) ∧ Jx (pre ++ [x]) W'))
    (W : World) (hBs : W.cell? ⟨Bb, 0, none⟩ = some (.slice A n c)) (T : Bs W A c l) (h0 : J [] W) :
    CallsIn Fence.wide m Tryz.prog 53 #[.func (.yield l0) #[] #[], .pointer (some ⟨Bb, 0, none⟩)] W fun e W' => (∃ v, e = .returned v) ∧
      ((∃ ys, ys.map (·.1) = itemsF (n + 1) 0 l ∧ J ys W') ∨ (∃ pre, (∃ post, itemsF (n + 1) 0 l = pre.map (·.1) ++ post) ∧ Jx pre W')) := by
  refine callsIn_of_wp Tryz.func53 rfl trivial ?_ rfl
  simp only [Tryz.ntmps53, List.size_toArray, List.length_cons, List.length_nil, Nat.reduceAdd, Nat.reduceSub, Array.replicate_succ, Array.replicate_zero, List.push_toArray, List.append_toArray, List.nil_append, List.cons_append]
  have HL := Lib.hid hl
  have HY := Lib.hid hY
  have HT := Lib.hid T0
  clear hl hY T0
  gi_wp2
  gi_loopw [3] (fun p wr => ∃ (pre : List (ItS l)) (q g : Nat), q ≤ n ∧ n < q + g + 1 ∧ p = .int .i64 q ∧ Hid (itemsF (n + 1) 0 l = pre.map (·.1) ++ itemsF (g + 1) q l) ∧ Hid (J pre wr) ∧ Hid (Bs wr A c l) ∧ wr.cell? ⟨Bb, 0, none⟩ = some (.slice A n c)) (fun p _ => n - (intOf p).toNat)
  case atStart => exact ⟨[], 0, n, by omega, by omega, rfl, Lib.hid rfl, Lib.hid h0, Lib.hid T, hBs⟩
  case round =>
    obtain ⟨pre, q, g, hq, hg, rfl, IT, HJ, TB, hB⟩ := hrel
    have hqi : (q : Int) ≤ (n : Int) := by omega
    have hc := TB.out.1
    rw [HL.out] at hc
    clear T hBs h0
    by_cases hn0 : n = 0
    · obtain rfl : q = 0 := by omega
      subst hn0
      have hL0 : l = [] := List.length_eq_zero_iff.1 HL.out
      have IW : Hid (itemsF (0 + 1) 0 l = pre.map (·.1)) := Lib.hid (by
        rw [IT.out, items_wait (f := g + 1) (p := 0) (by rw [hL0]; rfl), List.append_nil])
      have LA : Hid (Calls Tryz.prog 54 #[.slice A 0 c] wr fun e w' => e = .returned (.tuple #[.int .i64 (-1), .int .i64 0]) ∧ wr = w') := Lib.hid (by
        have h := line_any A 0 c l HL.out (by omega) wr TB.out
        rwa [show lineF 0 l = .wait by rw [hL0]; rfl] at h)
      clear IT hL0 HT HY
      cases A with
      | none =>
        obtain rfl : c = 0 := TB.out.2.1 rfl
        clear TB
        gi_wp2_with (first | (refine ⟨trivial, (fun h => by cases h), ?_⟩; gi_at_call 54; refine (callsIn_wide.2 LA.out).mono ?_; rintro e w2 ⟨rfl, rfl⟩))
        refine bodyPost_ret (results_none rfl _ _ _) rfl ?_
        exact ⟨⟨_, rfl⟩, .inl ⟨pre, IW.out.symm, HJ.out⟩⟩
      | some a =>
        clear TB
        gi_wp2_with (first | (refine ⟨trivial, (fun h => by cases h), ?_⟩; gi_at_call 54; refine (callsIn_wide.2 LA.out).mono ?_; rintro e w2 ⟨rfl, rfl⟩))
        refine bodyPost_ret (results_none rfl _ _ _) rfl ?_
        exact ⟨⟨_, rfl⟩, .inl ⟨pre, IW.out.symm, HJ.out⟩⟩
    · have hn1 : 0 < n := by omega
      obtain ⟨x0, hx0⟩ : ∃ x, l[0]? = some x := ⟨_, List.getElem?_eq_getElem (by rw [HL.out]; exact hn1)⟩
      obtain ⟨b, off, rfl, hb, -⟩ := TB.out.2.2 0 x0 hx0
      have LA0 := line_any (some ⟨b, off + q, none⟩) (n - q) (c - q) (l.drop q) (by rw [List.length_drop, HL.out]) (by omega) wr (TB.out.drop q (by rw [HL.out]; exact hq))
      clear hx0
      by_cases hqn : q = n
      · subst hqn
        have hr : lineF 0 (l.drop q) = .wait := by rw [List.drop_eq_nil_of_le (by rw [HL.out]; exact Nat.le_refl _)]; rfl
        have IW : Hid (itemsF (q + 1) 0 l = pre.map (·.1)) := Lib.hid (by rw [IT.out, items_wait hr, List.append_nil])
        have LA : Hid (∀ a' n' c', n' = 0 → Calls Tryz.prog 54 #[.slice (some a') n' c'] wr fun e w' => e = .returned (.tuple #[.int .i64 (-1), .int .i64 0]) ∧ wr = w') := Lib.hid fun a' n' c' hn' => by
          subst hn'
          exact line_any (some a') 0 c' [] rfl (by omega) wr ⟨by simp, fun h => (by cases h), fun i v h => by simp at h⟩
        clear LA0 IT HT HY TB hr
        clear hq hg hqi hn0 hn1 hc
        gi_wp2_with (fail)
        all_goals
          refine ⟨trivial, (fun h => by cases h), ?_⟩
          gi_at_call 54
          refine (callsIn_wide.2 (LA.out _ _ _ rfl)).mono ?_
          rintro e w2 ⟨rfl, rfl⟩
        all_goals gi_wp2_with (fail)
        all_goals (refine bodyPost_ret (results_none rfl _ _ _) rfl ?_)
        all_goals exact ⟨⟨_, rfl⟩, .inl ⟨pre, IW.out.symm, HJ.out⟩⟩
      have hqn' : (q : Int) < (n : Int) := by omega
      have hcq : ¬ c = q := by omega
      cases hr : lineF 0 (l.drop q) with
      | wait =>
        rw [hr] at LA0
        simp only [lrV] at LA0
        have IW : Hid (itemsF (n + 1) 0 l = pre.map (·.1)) := Lib.hid (by rw [IT.out, items_wait hr, List.append_nil])
        have LA := Lib.hid LA0
        clear LA0 IT HT HY TB hr
        gi_wp2_with (first | (refine ⟨trivial, (fun h => by cases h), ?_⟩; gi_at_call 54; refine (callsIn_wide.2 LA.out).mono ?_; rintro e w2 ⟨rfl, rfl⟩))
        refine bodyPost_ret (results_none rfl _ _ _) rfl ?_
        exact ⟨⟨_, rfl⟩, .inl ⟨pre, IW.out.symm, HJ.out⟩⟩
      | bad e =>
        rw [hr] at LA0
        simp only [lrV] at LA0
        have IB : Hid (itemsF (n + 1) 0 l = pre.map (·.1) ++ [.bad e]) := Lib.hid (by rw [IT.out, items_bad hr])
        have he := lineF_bad hr
        obtain ⟨fn, tmps, assign, body, hy, hR⟩ := HY.out pre ⟨.bad e, he⟩ wr HJ.out (by rw [IB.out]; simp)
        dsimp only [encI] at hy
        have LA := Lib.hid LA0
        clear LA0 IT HT HY TB hr
        rcases he with rfl | rfl
        all_goals
          gi_wp2_with (first | (refine ⟨trivial, (fun h => by cases h), ?_⟩; gi_at_call 54; refine (callsIn_wide.2 LA.out).mono ?_; rintro e w2 ⟨rfl, rfl⟩))
          refine ⟨(fun h => by cases h), hR.mono ?_⟩
          rintro e W3 (⟨rfl, hJ3, hk3⟩ | ⟨rfl, hJx3⟩)
          · gi_wp2
            refine bodyPost_ret (results_none rfl _ _ _) rfl ?_
            exact ⟨⟨_, rfl⟩, .inl ⟨_, by rw [IB.out]; simp, hJ3⟩⟩
          · gi_wp2
            refine bodyPost_ret (results_none rfl _ _ _) rfl ?_
            exact ⟨⟨_, rfl⟩, .inr ⟨_, ⟨[], by rw [IB.out]; simp⟩, hJx3⟩⟩
      | got k =>
        rw [hr] at LA0
        simp only [lrV] at LA0
        have hk := got_len hr
        rw [List.length_drop, HL.out] at hk
        obtain ⟨g', rfl⟩ : ∃ g', g = g' + 1 := ⟨g - 1, by omega⟩
        have IG : Hid (itemsF (n + 1) 0 l = pre.map (·.1) ++ .got q k :: itemsF (g' + 1) (q + k + 2) l) := Lib.hid (by rw [IT.out, items_got hr])
        have hok := got_ok hr
        obtain ⟨fn, tmps, assign, body, hy, hR⟩ := HY.out pre ⟨.got q k, hok⟩ wr HJ.out (by rw [IG.out]; simp)
        dsimp only [encI, subA, Option.map] at hy
        have LA := Lib.hid LA0
        have hk1000 : k ≤ 1000 := hok.2
        clear LA0 IT HY hr
        gi_wp2_with (first | (refine ⟨trivial, (fun h => by cases h), ?_⟩; gi_at_call 54; refine (callsIn_wide.2 LA.out).mono ?_; rintro e w2 ⟨rfl, rfl⟩))

        refine ⟨(fun h => by cases h), hR.mono ?_⟩
        rintro e W3 (⟨rfl, hJ3, hk3⟩ | ⟨rfl, hJx3⟩)
        · have hB3 := hk3.2.trans hB
          have TB3 := Lib.hid (HT.out.keep TB.out hk3.1)
          gi_wp2
          go_roundw
          case rel => exact ⟨_, q + k + 2, g', by omega, by omega, by go_num, Lib.hid (by rw [IG.out]; simp), Lib.hid hJ3, TB3, hB3⟩
          case measure => first | (simp [intOf]; done) | (simp [intOf]; omega)
        · gi_wp2
          refine bodyPost_ret (results_none rfl _ _ _) rfl ?_
          exact ⟨⟨_, rfl⟩, .inr ⟨_, ⟨itemsF (g' + 1) (q + k + 2) l, by rw [IG.out]; simp⟩, hJx3⟩⟩
theorem lines_stops (m : Nat) (Bb : Nat) (w0 : World) (A : Option Addr) (n c : Nat) (l : List UInt8) (hl : l.length = n) (hn : n ≤ 1000000000) (T0 : Bs w0 A c l) (w : World) (hw : Below w0.heap.size w0 w) (hBb : Bb < w.heap.size) (hB : w.cell? ⟨Bb, 0, none⟩ = some (.slice A n c)) :
    SeqStopsK Fence.wide m Tryz.prog 53 #[.pointer (some ⟨Bb, 0, none⟩)] (fun x : ItS l => encI A c x.1) (KpL w0.heap.size Bb) (fun ys => ys.map (·.1) = itemsF (n + 1) 0 l) (fun pre => ∃ post, itemsF (n + 1) 0 l = pre.map (·.1) ++ post) (itemsF (n + 1) 0 l).length w := fun l0 J Jx W hW _ _ hY h0 =>
  lines1_in m l0 Bb w0 A n c l hl hn T0 J Jx hY W ((hW.cell (p := ⟨Bb, 0, none⟩) hBb).trans hB) ((T0.below hw).below (hW)) h0
end Go.Proofs.YtkaimfeiahogaaaGreatDoor
