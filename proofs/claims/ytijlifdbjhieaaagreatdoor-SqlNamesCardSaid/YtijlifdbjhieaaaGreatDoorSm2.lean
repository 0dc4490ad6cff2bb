/-
  Contract of the law's Few.
-/
import Derived.Test.YtijlifdbjhieaaaGreatDoorSf7
import Derived.Test.YtijlifdbjhieaaaGreatDoorQh

/-
  Plain: how large a condition is. Contract of the law's Small.
-/
namespace Go.Proofs.YtijlifdbjhieaaaGreatDoor
set_option linter.all false
open Go.RowKit Go.Shelf
attribute [local go_sem] cell_set_self lt_1 lt_2 lt_3 lt_4 lt_5 lt_6

mutual
/-- Each text and each row of a condition has at most B bytes, or conditions. -/
def LtC (B : Nat) : CondT → Prop
  | .mk _ args l r => (l.col.length ≤ B ∧ l.s.length ≤ B ∧ r.col.length ≤ B ∧ r.s.length ≤ B ∧ args.length ≤ B) ∧ LtL B args
def LtL (B : Nat) : List CondT → Prop
  | [] => True
  | c :: l => LtC B c ∧ LtL B l
end
theorem LtL.at {B : Nat} : ∀ {l : List CondT} {k : Nat} {x : CondT}, LtL B l → l[k]? = some x → LtC B x
  | [], k, x, h, hk => by simp at hk
  | y :: l, 0, x, h, hk => by simp at hk; subst hk; unfold LtL at h; exact h.1
  | y :: l, k + 1, x, h, hk => by unfold LtL at h; exact LtL.at h.2 (by simpa using hk)
def szN (args : List CondT) (l r : TermT) : Nat := 1 + (l.col.length + l.s.length + r.col.length + r.s.length) / 20 + args.length / 20
mutual
def szC : CondT → Nat
  | .mk _ args l r => szN args l r + szL args
def szL : List CondT → Nat
  | [] => 0
  | c :: l => szC c + szL l
end
theorem szL_take {l : List CondT} {k : Nat} {x : CondT} (h : l[k]? = some x) : szL (l.take (k + 1)) = szL (l.take k) + szC x := by
  have app : ∀ l : List CondT, szL (l ++ [x]) = szL l + szC x := fun l => by
    induction l with
    | nil => simp [szL]
    | cons y l ih => rw [List.cons_append, szL, ih, szL, Nat.add_assoc]
  rw [List.take_succ, h, Option.toList_some, app]
set_option maxHeartbeats 8000000 in
set_option maxRecDepth 100000 in
theorem lsmall_any (P : Nat → Prop) : ∀ (n : Nat) (t : CondT) (cs : List Value) (w : World) (p : Nat), SizeOf.sizeOf t ≤ n → CV P w t cs → LtC 1000000000000000 t → p ≤ 1000 → Calls Tryz.prog 17 #[.agg cs.toArray, .int .i64 (p : Int)] w fun e w' => (∃ r : Nat, e = .returned (.int .i64 (r : Int)) ∧ r ≤ p + 1000000000000000 ∧ (r ≤ p → r = szC t)) ∧ Below w.heap.size w w' := by
  intro n
  induction n with
  | zero => intro t cs w p hn; cases t; simp at hn
  | succ n ih =>
    intro t cs w p hn hv hd hp
    obtain ⟨op, args, ⟨lc, lt, ln, ls⟩, ⟨rc, rt, rn, rs⟩⟩ := t
    obtain ⟨A, c, rfl, hac, hA, hL⟩ := hv.open
    unfold LtC at hd
    dsimp only at hd
    obtain ⟨⟨d1, d2, d3, d4, d5⟩, dL⟩ := hd
    have hsz : szC (.mk op args ⟨lc, lt, ln, ls⟩ ⟨rc, rt, rn, rs⟩) = szN args ⟨lc, lt, ln, ls⟩ ⟨rc, rt, rn, rs⟩ + szL args := by rw [szC]
    suffices key : ∀ Q : Ending → World → Prop, Hid (∀ (r : Nat) w', r ≤ p + 1000000000000000 → (r ≤ p → r = szC (.mk op args ⟨lc, lt, ln, ls⟩ ⟨rc, rt, rn, rs⟩)) → Below w.heap.size w w' → Q (.returned (.int .i64 (r : Int))) w') → Calls Tryz.prog 17 #[.agg (condC op A args.length c ⟨lc, lt, ln, ls⟩ ⟨rc, rt, rn, rs⟩).toArray, .int .i64 (p : Int)] w Q from key _ (Lib.hid fun r _ h1 h2 h3 => ⟨⟨r, rfl, h1, h2⟩, h3⟩)
    intro Q HQQ
    rw [hsz] at HQQ
    have IH := Lib.hid (fun (k : Nat) (x : CondT) (hx : args[k]? = some x) (cs : List Value) (W : World) (q : Nat) (hq : q ≤ 1000) (hv : CV P W x cs) => ih x cs W q (by have := CondT.size_arg (op := op) (l := ⟨lc, lt, ln, ls⟩) (r := ⟨rc, rt, rn, rs⟩) hx; omega) hv (dL.at hx) hq)
    have HL := Lib.hid hL
    obtain ⟨N, hN⟩ : ∃ N, szN args ⟨lc, lt, ln, ls⟩ ⟨rc, rt, rn, rs⟩ = N := ⟨_, rfl⟩
    have hN1 : N = 1 + (lc.length + ls.length + rc.length + rs.length) / 20 + args.length / 20 := hN.symm
    have hN2 : N ≤ 1000000000000000 := by omega
    rw [hN] at HQQ
    dsimp only [condC, termC, List.cons_append, List.nil_append]
    obtain ⟨L1, hL1⟩ : ∃ L, lc.length = L := ⟨_, rfl⟩
    obtain ⟨L2, hL2⟩ : ∃ L, ls.length = L := ⟨_, rfl⟩
    obtain ⟨L3, hL3⟩ : ∃ L, rc.length = L := ⟨_, rfl⟩
    obtain ⟨L4, hL4⟩ : ∃ L, rs.length = L := ⟨_, rfl⟩
    have s1 : (⟨lc.toArray⟩ : ByteArray).size = L1 := by simp [ByteArray.size, hL1]
    have s2 : (⟨ls.toArray⟩ : ByteArray).size = L2 := by simp [ByteArray.size, hL2]
    have s3 : (⟨rc.toArray⟩ : ByteArray).size = L3 := by simp [ByteArray.size, hL3]
    have s4 : (⟨rs.toArray⟩ : ByteArray).size = L4 := by simp [ByteArray.size, hL4]
    rw [hL1, hL2, hL3, hL4] at hN1
    rw [hL1] at d1; rw [hL2] at d2; rw [hL3] at d3; rw [hL4] at d4
    generalize (⟨lc.toArray⟩ : ByteArray) = U1 at *
    generalize (⟨ls.toArray⟩ : ByteArray) = U2 at *
    generalize (⟨rc.toArray⟩ : ByteArray) = U3 at *
    generalize (⟨rs.toArray⟩ : ByteArray) = U4 at *
    have hal := hac.2
    clear hv hL ih hn hA hac hN hL1 hL2 hL3 hL4 hsz dL
    have HN := Lib.hid hN1
    clear hN1
    go_enter Tryz.func17, Tryz.ntmps17
    go_wp2_with (fail)
    go_loopw [5, 6] (fun m j wr => ∃ k r : Nat, k ≤ args.length ∧ j = .int .i64 k ∧ m = .int .i64 r ∧ r ≤ p + 1000000000000000 ∧ Hid (r ≤ p → r = N + szL (args.take k)) ∧ Hid (wr.cell? ⟨w.heap.size, 1, none⟩ = some (.slice A args.length c) ∧ w.heap.size < wr.heap.size ∧ Below w.heap.size w wr)) (fun _ j _ => args.length - (intOf j).toNat)
    case atStart => exact ⟨0, N, by omega, rfl, congrArg (Value.int .i64) (by have := HN.out; omega), by omega, Lib.hid (fun _ => by simp [szL]), Lib.hid (by refine ⟨?_, ?_, ?_⟩ <;> first | (simp [go_sem, *]; done) | omega | (simp; omega) | exact (by repeat (first | exact Below.refl _ _ | refine Below.setCell ?_ (by first | (simp; done) | (simp; omega) | omega) _ | refine Below.alloc ?_ (by first | (simp; done) | (simp; omega) | omega) _ | refine Below.drew ?_ | assumption | refine Below.trans ?_ (Below.mono (by assumption) (by first | (simp; done) | (simp; omega) | omega)))))⟩
    case round =>
      obtain ⟨k, r, hk, rfl, rfl, hr, HR, HC⟩ := hrel
      obtain ⟨wo, rfl⟩ : ∃ wo : World, wo = wr := ⟨_, rfl⟩
      obtain ⟨o1, y0, B0⟩ := HC.out
      by_cases hlt : k < args.length
      · have hlt' : (k : Int) < (args.length : Int) := by omega
        by_cases hrp : r ≤ p
        · have hrp' : (r : Int) ≤ (p : Int) := by omega
          obtain ⟨x, hx⟩ : ∃ x, args[k]? = some x := ⟨_, List.getElem?_eq_getElem hlt⟩
          have hst := szL_take hx
          have HST := Lib.hid hst
          obtain ⟨op', args', ⟨lc', lt', ln', ls'⟩, ⟨rc', rt', rn', rs'⟩⟩ := x
          obtain ⟨b, off, A1, c1, rfl, hPb, hb, hka, hvx⟩ := HL.out.elem hx
          have IHx := Lib.hid (IH.out k _ hx)
          obtain ⟨sx, hsx⟩ : ∃ sx, szC (.mk op' args' ⟨lc', lt', ln', ls'⟩ ⟨rc', rt', rn', rs'⟩) = sx := ⟨_, rfl⟩
          rw [hsx] at HST IHx
          have HVX := Lib.hid hvx
          dsimp only [condC, termC, List.cons_append, List.nil_append] at HVX
          obtain ⟨bc0, -⟩ := bcell B0
          have hbo : b < wo.heap.size := Nat.lt_of_lt_of_le hb B0.size
          simp only [← bc0 b _ hb] at hka
          generalize (⟨lc'.toArray⟩ : ByteArray) = V1 at *
          generalize (⟨ls'.toArray⟩ : ByteArray) = V2 at *
          generalize (⟨rc'.toArray⟩ : ByteArray) = V3 at *
          generalize (⟨rs'.toArray⟩ : ByteArray) = V4 at *
          obtain ⟨k0, k1, k2, k3, k4, k5, k6, k7, k8, k9⟩ := hka
          obtain ⟨q, hq⟩ : ∃ q : Nat, p = r + q := ⟨p - r, by omega⟩
          have hpq : (p : Int) - (r : Int) = (q : Int) := by omega
          have HPQ := Lib.hid hq
          have hq1 : q ≤ 1000 := by omega
          have hr1 : r ≤ 1000 := by omega
          clear hx hvx bc0 hst hsx hq
          go_wp2_with (first | (go_at_call 17; (with_reducible refine (IHx.out _ _ q hq1 (HVX.out.keep (Kp.below B0))).mono ?_); rintro e w7 ⟨⟨r2, rfl, hr2, hr3⟩, hb7⟩; have HR3 := Lib.hid hr3; clear hr3; obtain ⟨hc7, hf7⟩ := bcell hb7; have hs7 := hb7.size))
          refine ⟨⟨k + 1, r + r2, by omega, by go_num, by go_num, by have := HPQ.out; omega, Lib.hid (fun h => ?_), Lib.hid ⟨by rw [hc7 _ _ y0]; exact o1, by omega, B0.trans (hb7.mono B0.size)⟩⟩, ?_⟩
          · have h1 := HPQ.out
            have h2 := HR.out (by omega)
            have h3 := HR3.out (by omega)
            rw [HST.out]
            omega
          · first | (simp [intOf]; done) | (simp [intOf]; omega)
        · have hrp' : ¬ (r : Int) ≤ (p : Int) := by omega
          go_wp2_with (fail)
          exact HQQ.out r _ hr (fun h => absurd h hrp) B0
      · obtain rfl : k = args.length := by omega
        have hkk : ¬ (args.length : Int) < (args.length : Int) := by omega
        go_wp2_with (fail)
        refine HQQ.out r _ hr (fun h => ?_) B0
        have h2 := HR.out h
        rw [List.take_of_length_le (Nat.le_refl _)] at h2
        exact h2
end Go.Proofs.YtijlifdbjhieaaaGreatDoor

/-
  Contract of the law's Few.
-/
namespace Go.Proofs.YtijlifdbjhieaaaGreatDoor
set_option linter.all false
open Go.RowKit Go.Shelf Go.Sort
attribute [local go_sem] cell_set_self lt_1 lt_2 lt_3 lt_4 lt_5 lt_6

/-- The sizes of a query that an argument reads as. -/
structure QBig (q : QueryT) : Prop where
  it : ∀ x ∈ q.items, x.agg.length ≤ 1000000000000000 ∧ x.col.length ≤ 1000000000000000
  tb : q.table.length ≤ 1000000000000000
  gr : ∀ x ∈ q.group, x.length ≤ 1000000000000000
  od : ∀ x ∈ q.order, x.col.length ≤ 1000000000000000
  wh : LtC 1000000000000000 q.wh
  ni : q.items.length ≤ 1000000000000000
  ng : q.group.length ≤ 1000000000000000
  no : q.order.length ≤ 1000000000000000
/-- The sizes of a query that is small. -/
structure QSm (q : QueryT) : Prop where
  ni : q.items.length ≤ 30
  ng : q.group.length ≤ 30
  no : q.order.length ≤ 30
  tb : q.table.length ≤ 300
  wh : szC q.wh ≤ 200
  it : ∀ (i : Nat) (x : ItemT), q.items[i]? = some x → x.agg.length + x.col.length ≤ 300
  gr : ∀ (i : Nat) (x : List UInt8), q.group[i]? = some x → x.length ≤ 300
  od : ∀ (i : Nat) (x : OrderT), q.order[i]? = some x → x.col.length ≤ 300
set_option maxHeartbeats 8000000 in
set_option maxRecDepth 100000 in
theorem few_any (q : QueryT) (AI AG AO : Option Addr) (cI cG cO : Nat) (cs : List Value) (w : World) (H : QV w q AI AG AO cs) (S : QBig q) :
    Calls Tryz.prog 8 #[.agg (qCells AI q.items.length cI q.table cs AG q.group.length cG AO q.order.length cO q.limit).toArray] w fun e w' => (∃ b : Bool, e = .returned (.bool b) ∧ (b = true → QSm q)) ∧ Below w.heap.size w w' := by
  suffices key : ∀ Q : Ending → World → Prop, Hid (∀ (b : Bool) w', (b = true → QSm q) → Below w.heap.size w w' → Q (.returned (.bool b)) w') → Calls Tryz.prog 8 #[.agg (qCells AI q.items.length cI q.table cs AG q.group.length cG AO q.order.length cO q.limit).toArray] w Q from key _ (Lib.hid fun b _ h1 h2 => ⟨⟨b, rfl, h1⟩, h2⟩)
  intro Q HQ0
  have HF : Hid (∀ w', Below w.heap.size w w' → Q (.returned (.bool false)) w') := Lib.hid fun w' h => HQ0.out false w' (fun h => by cases h) h
  have HQ : Hid (∀ w', QSm q → Below w.heap.size w w' → Q (.returned (.bool true)) w') := Lib.hid fun w' h h' => HQ0.out true w' (fun _ => h) h'
  clear HQ0
  obtain ⟨I, T, ⟨op, args, ⟨lc, lt, ln, ls⟩, ⟨rc, rt, rn, rs⟩⟩, G, O, lim⟩ := q
  have hcv := H.cv
  obtain ⟨AC, cC, rfl, -⟩ := hcv.open
  have SM := Lib.hid (fun W (hb : Below w.heap.size w W) => lsmall_any (fun _ => True) _ _ _ W 200 (Nat.le_refl _) (H.cv.keep (Kp.below hb)) S.wh (by decide))
  have HI := Lib.hid H.it
  have HG := Lib.hid H.gr
  have HO := Lib.hid H.od
  have BI := Lib.hid S.it
  have BG := Lib.hid S.gr
  have BO := Lib.hid S.od
  have hni := S.ni
  have hng := S.ng
  have hno := S.no
  have htb := S.tb
  dsimp only at hni hng hno htb HI HG HO BI BG BO SM
  dsimp only [qCells, condC, termC, List.cons_append, List.nil_append] at SM ⊢
  obtain ⟨TB, hTB⟩ : ∃ t : ByteArray, (⟨T.toArray⟩ : ByteArray) = t := ⟨_, rfl⟩
  have hTs : TB.size = T.length := by rw [← hTB]; simp [ByteArray.size]
  simp only [hTB]
  obtain ⟨sw, hsw⟩ : ∃ s, szC (.mk op args ⟨lc, lt, ln, ls⟩ ⟨rc, rt, rn, rs⟩) = s := ⟨_, rfl⟩
  rw [hsw] at SM
  rw [show ((200 : Nat) : Int) = 200 from rfl] at SM
  have HSW := Lib.hid hsw
  generalize (⟨lc.toArray⟩ : ByteArray) = U1 at *
  generalize (⟨ls.toArray⟩ : ByteArray) = U2 at *
  generalize (⟨rc.toArray⟩ : ByteArray) = U3 at *
  generalize (⟨rs.toArray⟩ : ByteArray) = U4 at *
  clear H S hcv hTB hsw
  by_cases g1 : 30 < I.length
  · have g1' : 30 < (I.length : Int) := by omega
    clear g1
    go_enter Tryz.func8, Tryz.ntmps8
    go_wp2_with (fail)
    exact HF.out _ (by repeat (first | exact Below.refl _ _ | refine Below.setCell ?_ (by first | (simp; done) | (simp; omega) | omega) _ | refine Below.alloc ?_ (by first | (simp; done) | (simp; omega) | omega) _ | refine Below.drew ?_ | assumption | refine Below.trans ?_ (Below.mono (by assumption) (by first | (simp; done) | (simp; omega) | omega))))
  have g1' : ¬ 30 < (I.length : Int) := by omega
  by_cases g2 : 30 < G.length
  · have g2' : 30 < (G.length : Int) := by omega
    clear g2
    go_enter Tryz.func8, Tryz.ntmps8
    go_wp2_with (fail)
    exact HF.out _ (by repeat (first | exact Below.refl _ _ | refine Below.setCell ?_ (by first | (simp; done) | (simp; omega) | omega) _ | refine Below.alloc ?_ (by first | (simp; done) | (simp; omega) | omega) _ | refine Below.drew ?_ | assumption | refine Below.trans ?_ (Below.mono (by assumption) (by first | (simp; done) | (simp; omega) | omega))))
  have g2' : ¬ 30 < (G.length : Int) := by omega
  by_cases g3 : 30 < O.length
  · have g3' : 30 < (O.length : Int) := by omega
    clear g3
    go_enter Tryz.func8, Tryz.ntmps8
    go_wp2_with (fail)
    exact HF.out _ (by repeat (first | exact Below.refl _ _ | refine Below.setCell ?_ (by first | (simp; done) | (simp; omega) | omega) _ | refine Below.alloc ?_ (by first | (simp; done) | (simp; omega) | omega) _ | refine Below.drew ?_ | assumption | refine Below.trans ?_ (Below.mono (by assumption) (by first | (simp; done) | (simp; omega) | omega))))
  have g3' : ¬ 30 < (O.length : Int) := by omega
  by_cases g4 : 300 < T.length
  · have g4' : 300 < (T.length : Int) := by omega
    clear g4
    go_enter Tryz.func8, Tryz.ntmps8
    go_wp2_with (fail)
    exact HF.out _ (by repeat (first | exact Below.refl _ _ | refine Below.setCell ?_ (by first | (simp; done) | (simp; omega) | omega) _ | refine Below.alloc ?_ (by first | (simp; done) | (simp; omega) | omega) _ | refine Below.drew ?_ | assumption | refine Below.trans ?_ (Below.mono (by assumption) (by first | (simp; done) | (simp; omega) | omega))))
  have g4' : ¬ 300 < (T.length : Int) := by omega
  go_enter Tryz.func8, Tryz.ntmps8
  go_wp2_with (fail)
  go_at_call 17
  (with_reducible refine (SM.out _ (by repeat (first | exact Below.refl _ _ | refine Below.setCell ?_ (by first | (simp; done) | (simp; omega) | omega) _ | refine Below.alloc ?_ (by first | (simp; done) | (simp; omega) | omega) _ | refine Below.drew ?_ | assumption | refine Below.trans ?_ (Below.mono (by assumption) (by first | (simp; done) | (simp; omega) | omega))))).mono ?_)
  rintro e w1 ⟨⟨r, rfl, hr1, hr2⟩, hb1⟩
  obtain ⟨hc1, hf1⟩ := bcell hb1
  have hs1 := hb1.size
  simp only [World.size_alloc] at hc1 hf1 hs1
  have hz1 : w.heap.size < w1.heap.size := by omega
  by_cases g5 : 200 < r
  · have g5' : 200 < (r : Int) := by omega
    clear hr2
    go_wp2_with (fail)
    exact HF.out _ (by repeat (first | exact Below.refl _ _ | refine Below.setCell ?_ (by first | (simp; done) | (simp; omega) | omega) _ | refine Below.alloc ?_ (by first | (simp; done) | (simp; omega) | omega) _ | refine Below.drew ?_ | assumption | refine Below.trans ?_ (Below.mono (by assumption) (by first | (simp; done) | (simp; omega) | omega))))
  have g5' : ¬ 200 < (r : Int) := by omega
  have HSZ : Hid (sw ≤ 200) := Lib.hid (by have := hr2 (by omega); omega)
  clear hr2
  go_wp2_with (fail)
  go_loopw [3] (fun j wr => ∃ k : Nat, k ≤ I.length ∧ j = .int .i64 k ∧ Hid (∀ (i : Nat) (x : ItemT), i < k → I[i]? = some x → x.agg.length + x.col.length ≤ 300) ∧ Hid (wr.cell? ⟨w.heap.size, 0, none⟩ = some (.slice AI I.length cI) ∧ wr.cell? ⟨w.heap.size, 12, none⟩ = some (.slice AG G.length cG) ∧ wr.cell? ⟨w.heap.size, 13, none⟩ = some (.slice AO O.length cO) ∧ w.heap.size < wr.heap.size ∧ Below w.heap.size w wr)) (fun j _ => I.length - (intOf j).toNat)
  case atStart => exact ⟨0, by omega, rfl, Lib.hid (fun i x hi => by omega), Lib.hid (by refine ⟨?_, ?_, ?_, ?_, ?_⟩ <;> first | (simp [go_sem, *]; done) | omega | (simp; omega) | exact (by repeat (first | exact Below.refl _ _ | refine Below.setCell ?_ (by first | (simp; done) | (simp; omega) | omega) _ | refine Below.alloc ?_ (by first | (simp; done) | (simp; omega) | omega) _ | refine Below.drew ?_ | assumption | refine Below.trans ?_ (Below.mono (by assumption) (by first | (simp; done) | (simp; omega) | omega)))))⟩
  case round =>
    obtain ⟨k, hk, rfl, HA, HC⟩ := hrel
    obtain ⟨wo, rfl⟩ : ∃ wo : World, wo = wr := ⟨_, rfl⟩
    obtain ⟨o1, o2, o3, y0, B0⟩ := HC.out
    by_cases hlt : k < I.length
    · have hlt' : (k : Int) < (I.length : Int) := by omega
      obtain ⟨x, hx⟩ : ∃ x, I[k]? = some x := ⟨_, List.getElem?_eq_getElem hlt⟩
      obtain ⟨b, off, rfl, hb, c0, c1⟩ := (HI.out.below B0) k x hx
      obtain ⟨d0, d1⟩ := BI.out x (List.mem_of_getElem? hx)
      have HX := Lib.hid hx
      obtain ⟨xa, xc⟩ := x
      dsimp only at c0 c1 d0 d1
      obtain ⟨V1, hV1⟩ : ∃ t : ByteArray, (⟨xa.toArray⟩ : ByteArray) = t := ⟨_, rfl⟩
      obtain ⟨V2, hV2⟩ : ∃ t : ByteArray, (⟨xc.toArray⟩ : ByteArray) = t := ⟨_, rfl⟩
      have v1 : V1.size = xa.length := by rw [← hV1]; simp [ByteArray.size]
      have v2 : V2.size = xc.length := by rw [← hV2]; simp [ByteArray.size]
      rw [hV1] at c0
      rw [hV2] at c1
      clear hV1 hV2 hx
      by_cases hg : 300 < xa.length + xc.length
      · have hg' : 300 < (xa.length : Int) + (xc.length : Int) := by omega
        go_wp2_with (fail)
        go_big_region
        go_wp2_with (fail)
        exact HF.out _ B0.drew
      · have hg' : ¬ 300 < (xa.length : Int) + (xc.length : Int) := by omega
        go_wp2_with (fail)
        go_big_region
        go_wp2_with (fail)
        refine ⟨⟨k + 1, by omega, by go_num, Lib.hid (fun i x hi h1 => ?_), Lib.hid ⟨o1, o2, o3, y0, B0.drew⟩⟩, ?_⟩
        · rcases Nat.lt_or_ge i k with h | h
          · exact HA.out i x h h1
          · obtain rfl : i = k := by omega
            rw [HX.out] at h1; injection h1 with h1; subst h1; dsimp only; omega
        · first | (simp [intOf]; done) | (simp [intOf]; omega)
    · obtain rfl : k = I.length := by omega
      have hkk : ¬ (I.length : Int) < (I.length : Int) := by omega
      go_wp2_with (fail)
      go_loopw [4] (fun j wr => ∃ k : Nat, k ≤ G.length ∧ j = .int .i64 k ∧ Hid (∀ (i : Nat) (x : List UInt8), i < k → G[i]? = some x → x.length ≤ 300) ∧ Hid (wr.cell? ⟨w.heap.size, 12, none⟩ = some (.slice AG G.length cG) ∧ wr.cell? ⟨w.heap.size, 13, none⟩ = some (.slice AO O.length cO) ∧ w.heap.size < wr.heap.size ∧ Below w.heap.size w wr)) (fun j _ => G.length - (intOf j).toNat)
      case atStart => exact ⟨0, by omega, rfl, Lib.hid (fun i x hi => by omega), Lib.hid ⟨o2, o3, y0, B0⟩⟩
      case round =>
        obtain ⟨k, hk, rfl, HA2, HC⟩ := hrel
        obtain ⟨wo2, rfl⟩ : ∃ wo : World, wo = wr := ⟨_, rfl⟩
        clear o1 o2 o3 y0
        obtain ⟨o2, o3, y0, B0⟩ := HC.out
        by_cases hlt : k < G.length
        · have hlt' : (k : Int) < (G.length : Int) := by omega
          obtain ⟨x, hx⟩ : ∃ x, G[k]? = some x := ⟨_, List.getElem?_eq_getElem hlt⟩
          obtain ⟨b, off, rfl, hb, c0⟩ := (HG.out.below B0) k x hx
          have d0 := BG.out x (List.mem_of_getElem? hx)
          have HX := Lib.hid hx
          obtain ⟨V1, hV1⟩ : ∃ t : ByteArray, (⟨x.toArray⟩ : ByteArray) = t := ⟨_, rfl⟩
          have v1 : V1.size = x.length := by rw [← hV1]; simp [ByteArray.size]
          rw [hV1] at c0
          clear hV1 hx
          by_cases hg : 300 < x.length
          · have hg' : 300 < (x.length : Int) := by omega
            go_wp2_with (fail)
            exact HF.out _ B0
          · have hg' : ¬ 300 < (x.length : Int) := by omega
            go_wp2_with (fail)
            refine ⟨⟨k + 1, by omega, by go_num, Lib.hid (fun i y hi h1 => ?_), Lib.hid ⟨o2, o3, y0, B0⟩⟩, ?_⟩
            · rcases Nat.lt_or_ge i k with h | h
              · exact HA2.out i y h h1
              · obtain rfl : i = k := by omega
                rw [HX.out] at h1; injection h1 with h1; subst h1; omega
            · first | (simp [intOf]; done) | (simp [intOf]; omega)
        · obtain rfl : k = G.length := by omega
          have hkk : ¬ (G.length : Int) < (G.length : Int) := by omega
          go_wp2_with (fail)
          go_loopw [5] (fun j wr => ∃ k : Nat, k ≤ O.length ∧ j = .int .i64 k ∧ Hid (∀ (i : Nat) (x : OrderT), i < k → O[i]? = some x → x.col.length ≤ 300) ∧ Hid (wr.cell? ⟨w.heap.size, 13, none⟩ = some (.slice AO O.length cO) ∧ w.heap.size < wr.heap.size ∧ Below w.heap.size w wr)) (fun j _ => O.length - (intOf j).toNat)
          case atStart => exact ⟨0, by omega, rfl, Lib.hid (fun i x hi => by omega), Lib.hid ⟨o3, y0, B0⟩⟩
          case round =>
            obtain ⟨k, hk, rfl, HA3, HC⟩ := hrel
            obtain ⟨wo3, rfl⟩ : ∃ wo : World, wo = wr := ⟨_, rfl⟩
            clear o2 o3 y0
            obtain ⟨o3, y0, B0⟩ := HC.out
            by_cases hlt : k < O.length
            · have hlt' : (k : Int) < (O.length : Int) := by omega
              obtain ⟨x, hx⟩ : ∃ x, O[k]? = some x := ⟨_, List.getElem?_eq_getElem hlt⟩
              obtain ⟨b, off, rfl, hb, c0, c1⟩ := (HO.out.below B0) k x hx
              have d0 := BO.out x (List.mem_of_getElem? hx)
              have HX := Lib.hid hx
              obtain ⟨xc, xd⟩ := x
              dsimp only at c0 c1 d0
              obtain ⟨V1, hV1⟩ : ∃ t : ByteArray, (⟨xc.toArray⟩ : ByteArray) = t := ⟨_, rfl⟩
              have v1 : V1.size = xc.length := by rw [← hV1]; simp [ByteArray.size]
              rw [hV1] at c0
              clear hV1 hx
              by_cases hg : 300 < xc.length
              · have hg' : 300 < (xc.length : Int) := by omega
                go_wp2_with (fail)
                exact HF.out _ B0
              · have hg' : ¬ 300 < (xc.length : Int) := by omega
                go_wp2_with (fail)
                refine ⟨⟨k + 1, by omega, by go_num, Lib.hid (fun i y hi h1 => ?_), Lib.hid ⟨o3, y0, B0⟩⟩, ?_⟩
                · rcases Nat.lt_or_ge i k with h | h
                  · exact HA3.out i y h h1
                  · obtain rfl : i = k := by omega
                    rw [HX.out] at h1; injection h1 with h1; subst h1; dsimp only; omega
                · first | (simp [intOf]; done) | (simp [intOf]; omega)
            · obtain rfl : k = O.length := by omega
              have hkk : ¬ (O.length : Int) < (O.length : Int) := by omega
              go_wp2_with (fail)
              refine HQ.out _ ⟨by dsimp only; omega, by dsimp only; omega, by dsimp only; omega, by dsimp only; omega, by dsimp only; rw [HSW.out]; exact HSZ.out, fun i x h => HA.out i x (List.getElem?_eq_some_iff.1 h).1 h, fun i x h => HA2.out i x (List.getElem?_eq_some_iff.1 h).1 h, fun i x h => HA3.out i x (List.getElem?_eq_some_iff.1 h).1 h⟩ B0
end Go.Proofs.YtijlifdbjhieaaaGreatDoor
