/-
  Contracts of dsl.Depth and of the law's Small.
-/
import Derived.Test.YtnjlggleaocbdaaGreatDoorDk1
import Derived.Test.YtnjlggleaocbdaaGreatDoorDp10
namespace Go.Proofs.YtnjlggleaocbdaaGreatDoor
set_option linter.all false
open Go.RowKit Go.Shelf
attribute [local go_sem] cell_set_self lt_1 lt_2 lt_3 lt_4 lt_5 lt_6 fld_k fld_s fld_n fld_p

theorem ExprT.size_arg {op n : Int} {s : List UInt8} {args : List ExprT} {k : Nat} {x : ExprT} (h : args[k]? = some x) : SizeOf.sizeOf x < SizeOf.sizeOf (ExprT.mk op n s args) := by
  have := List.sizeOf_lt_of_mem (List.mem_of_getElem? h)
  simp only [ExprT.mk.sizeOf_spec]
  omega
/-- An argument, taken apart. -/
theorem EVL.elem {P : Nat → Prop} {w : World} {A : Option Addr} {l : List ExprT} (h : EVL P w A 0 l) {k : Nat} {op n : Int} {s : List UInt8} {args : List ExprT} (hk : l[k]? = some (.mk op n s args)) :
    ∃ b off A' c', A = some ⟨b, off, none⟩ ∧ P b ∧ b < w.heap.size ∧ (w.cell? ⟨b, off + k * 4, none⟩ = some (.int .i64 op) ∧ w.cell? ⟨b, off + k * 4 + 1, none⟩ = some (.int .i64 n) ∧ w.cell? ⟨b, off + k * 4 + 2, none⟩ = some (.string ⟨s.toArray⟩) ∧ w.cell? ⟨b, off + k * 4 + 3, none⟩ = some (.slice A' args.length c')) ∧
      EV P w (.mk op n s args) (exprC op n s A' args.length c') := by
  obtain ⟨b, off, cs, hA, hP, hb, hc, hv⟩ := h.at hk
  have hv2 := hv
  unfold EV at hv2
  obtain ⟨A', c', rfl, -⟩ := hv2
  rw [Nat.zero_add] at hc
  exact ⟨b, off, A', c', hA, hP, hb, ⟨hc 0 _ rfl, hc 1 _ rfl, hc 2 _ rfl, hc 3 _ rfl⟩, hv⟩
theorem EV.open {P : Nat → Prop} {w : World} {op n : Int} {s : List UInt8} {args : List ExprT} {cs : List Value} (h : EV P w (.mk op n s args) cs) : ∃ A c, cs = exprC op n s A args.length c ∧ (args.length ≤ c ∧ args.length ≤ 1000000000000000) ∧ (A = none → c = 0) ∧ EVL P w A 0 args := by
  unfold EV at h
  exact h
theorem depthL_take {l : List ExprT} {k : Nat} {x : ExprT} (h : l[k]? = some x) : depthL (l.take (k + 1)) = max (depthL (l.take k)) (depthE x) := by
  have app : ∀ l : List ExprT, depthL (l ++ [x]) = max (depthL l) (depthE x) := fun l => by
    induction l with
    | nil => simp [depthL]
    | cons y l ih => rw [List.cons_append, depthL, ih, depthL, Nat.max_assoc]
  rw [List.take_succ, h, Option.toList_some, app]
theorem depthL_mono (l : List ExprT) : ∀ n : Nat, depthL (l.take n) ≤ depthL l := by
  induction l with
  | nil => intro n; simp [depthL]
  | cons y l ih =>
    intro n
    cases n with
    | zero => simp [depthL]
    | succ n => rw [List.take_succ_cons, depthL, depthL]; have := ih n; omega
theorem depthL_le {l : List ExprT} {k : Nat} {x : ExprT} (h : l[k]? = some x) : depthE x ≤ depthL l := by
  have := depthL_take h
  have := depthL_mono l (k + 1)
  omega
set_option maxHeartbeats 8000000 in
set_option maxRecDepth 100000 in
theorem depth_any (P : Nat → Prop) : ∀ (m : Nat) (t : ExprT) (cs : List Value) (w : World), SizeOf.sizeOf t ≤ m → EV P w t cs → depthE t ≤ 1000000000 → Calls Tryz.prog 23 #[.agg cs.toArray] w fun e w' => e = .returned (.int .i64 (depthE t : Int)) ∧ Below w.heap.size w w' := by
  intro m
  induction m with
  | zero => intro t cs w hn; cases t; simp at hn
  | succ m ih =>
    intro t cs w hn hv hd
    obtain ⟨op, n, s, args⟩ := t
    obtain ⟨A, c, rfl, hac, hA, hL⟩ := hv.open
    have hde : depthE (.mk op n s args) = 1 + depthL args := by rw [depthE]
    suffices key : ∀ Q : Ending → World → Prop, Hid (∀ e w', (e = .returned (.int .i64 (depthE (.mk op n s args) : Int)) ∧ Below w.heap.size w w') → Q e w') → Calls Tryz.prog 23 #[.agg (exprC op n s A args.length c).toArray] w Q from key _ (Lib.hid fun _ _ h => h)
    intro Q HQQ
    rw [hde] at HQQ hd
    have hal := hac.2
    dsimp only [exprC]
    have IH := Lib.hid (fun (k : Nat) (x : ExprT) (hx : args[k]? = some x) (cs : List Value) (W : World) (hv : EV P W x cs) => ih x cs W (by have := ExprT.size_arg (op := op) (n := n) (s := s) hx; omega) hv (by have := depthL_le hx; omega))
    have HL := Lib.hid hL
    clear hde hn hv hL ih
    go_enter Tryz.func23, Tryz.ntmps23
    go_wp2_with (fail)
    go_loopw [3, 9] (fun m j wr => ∃ k : Nat, k ≤ args.length ∧ j = .int .i64 k ∧ m = .int .i64 (depthL (args.take k) : Int) ∧ Hid (Below w.heap.size w wr)) (fun _ j _ => args.length - (intOf j).toNat)
    case atStart => exact ⟨0, by omega, rfl, by simp [depthL], Lib.hid (by repeat (first | exact Below.refl _ _ | refine Below.setCell ?_ (by first | (simp; done) | (simp; omega) | omega) _ | refine Below.alloc ?_ (by first | (simp; done) | (simp; omega) | omega) _ | refine Below.drew ?_ | assumption | refine Below.trans ?_ (Below.mono (by assumption) (by first | (simp; done) | (simp; omega) | omega))))⟩
    case round =>
      obtain ⟨k, hk, rfl, rfl, HB⟩ := hrel
      obtain ⟨wo, rfl⟩ : ∃ wo : World, wo = wr := ⟨_, rfl⟩
      by_cases hlt : k < args.length
      · have hlt' : (k : Int) < (args.length : Int) := by omega
        obtain ⟨x, hx⟩ : ∃ x, args[k]? = some x := ⟨_, List.getElem?_eq_getElem hlt⟩
        obtain ⟨op', n', s', args'⟩ := x
        obtain ⟨b, off, A', c', rfl, hPb, hb, ⟨k0, k1, k2, k3⟩, hvx⟩ := (EVL.keep (Kp.below HB.out) HL.out).elem hx
        have IHx := Lib.hid (IH.out k _ hx)
        have hdk := depthL_take hx
        have hdl := depthL_le hx
        have hdm := depthL_mono args k
        have HDK := Lib.hid hdk
        have HVX := Lib.hid hvx
        dsimp only [exprC] at HVX
        have hso := HB.out.size
        generalize depthE (.mk op' n' s' args') = dx at *
        obtain ⟨dk, hdk0⟩ : ∃ dk, depthL (args.take k) = dk := ⟨_, rfl⟩
        rw [hdk0] at HDK hdm ⊢
        clear hx hvx hdk hdk0
        go_wp2_with (first | (go_at_call 23; (with_reducible refine (IHx.out _ _ (HVX.out.keep ((Kp.refl _ _).alloc _))).mono ?_); rintro e w3 ⟨rfl, hb3⟩; have hs3 := hb3.size))
        go_roundw
        case rel => exact ⟨k + 1, by omega, by go_num, by rw [HDK.out]; first | (go_num; done) | (simp; omega), Lib.hid (HB.out.trans ((((Below.refl _ _).alloc (Nat.le_refl _) _).trans (hb3.mono (by simp))).mono hso))⟩
        case measure => first | (simp [intOf]; done) | (simp [intOf]; omega)
      · obtain rfl : k = args.length := by omega
        have hkk : ¬ (args.length : Int) < (args.length : Int) := by omega
        have hdt : depthL (args.take args.length) = depthL args := by rw [List.take_of_length_le (Nat.le_refl _)]
        rw [hdt]
        have hdl : depthL args ≤ 1000000000 := by omega
        clear hdt
        generalize depthL args = D at *
        go_wp2
        exact HQQ.out _ _ ⟨by first | rfl | (simp; done), HB.out⟩
mutual
/-- Each text and each row of an expression has at most B bytes, or expressions. -/
def LtE (B : Nat) : ExprT → Prop
  | .mk _ _ s args => (s.length ≤ B ∧ args.length ≤ B) ∧ LtL B args
def LtL (B : Nat) : List ExprT → Prop
  | [] => True
  | c :: l => LtE B c ∧ LtL B l
end
theorem LtL.at {B : Nat} : ∀ {l : List ExprT} {k : Nat} {x : ExprT}, LtL B l → l[k]? = some x → LtE B x
  | [], k, x, h, hk => by simp at hk
  | y :: l, 0, x, h, hk => by simp at hk; subst hk; unfold LtL at h; exact h.1
  | y :: l, k + 1, x, h, hk => by unfold LtL at h; exact LtL.at h.2 (by simpa using hk)
set_option maxHeartbeats 8000000 in
set_option maxRecDepth 100000 in
theorem lsmall_any (P : Nat → Prop) : ∀ (m : Nat) (t : ExprT) (cs : List Value) (w : World) (p : Nat), SizeOf.sizeOf t ≤ m → EV P w t cs → LtE 1000000000000000 t → p ≤ 1000 → Calls Tryz.prog 8 #[.agg cs.toArray, .int .i64 (p : Int)] w fun e w' => (∃ r : Nat, e = .returned (.int .i64 (r : Int)) ∧ r ≤ p + 1000000000000000 ∧ (r ≤ p → r = szE t)) ∧ Below w.heap.size w w' := by
  intro m
  induction m with
  | zero => intro t cs w p hn; cases t; simp at hn
  | succ m ih =>
    intro t cs w p hn hv hd hp
    obtain ⟨op, n, s, args⟩ := t
    obtain ⟨A, c, rfl, hac, hA, hL⟩ := hv.open
    unfold LtE at hd
    obtain ⟨⟨d1, d2⟩, dL⟩ := hd
    have hsz : szE (.mk op n s args) = (1 + s.length / 20 + args.length / 20) + szL args := by rw [szE]
    suffices key : ∀ Q : Ending → World → Prop, Hid (∀ (r : Nat) w', r ≤ p + 1000000000000000 → (r ≤ p → r = szE (.mk op n s args)) → Below w.heap.size w w' → Q (.returned (.int .i64 (r : Int))) w') → Calls Tryz.prog 8 #[.agg (exprC op n s A args.length c).toArray, .int .i64 (p : Int)] w Q from key _ (Lib.hid fun r _ h1 h2 h3 => ⟨⟨r, rfl, h1, h2⟩, h3⟩)
    intro Q HQQ
    rw [hsz] at HQQ
    have IH := Lib.hid (fun (k : Nat) (x : ExprT) (hx : args[k]? = some x) (cs : List Value) (W : World) (q : Nat) (hq : q ≤ 1000) (hv : EV P W x cs) => ih x cs W q (by have := ExprT.size_arg (op := op) (n := n) (s := s) hx; omega) hv (dL.at hx) hq)
    have HL := Lib.hid hL
    obtain ⟨N, hN⟩ : ∃ N, 1 + s.length / 20 + args.length / 20 = N := ⟨_, rfl⟩
    have hN2 : N ≤ 1000000000000000 := by omega
    rw [hN] at HQQ
    dsimp only [exprC]
    obtain ⟨L1, hL1⟩ : ∃ L, s.length = L := ⟨_, rfl⟩
    have s1 : (⟨s.toArray⟩ : ByteArray).size = L1 := by simp [ByteArray.size, hL1]
    rw [hL1] at hN d1
    generalize (⟨s.toArray⟩ : ByteArray) = U1 at *
    have hal := hac.2
    have HN := Lib.hid hN
    clear hv hL ih hn hA hac hN hL1 hsz dL
    go_enter Tryz.func8, Tryz.ntmps8
    go_wp2_with (fail)
    go_loopw [5, 6] (fun m j wr => ∃ k r : Nat, k ≤ args.length ∧ j = .int .i64 k ∧ m = .int .i64 r ∧ r ≤ p + 1000000000000000 ∧ Hid (r ≤ p → r = N + szL (args.take k)) ∧ Hid (wr.cell? ⟨w.heap.size, 3, none⟩ = some (.slice A args.length c) ∧ w.heap.size < wr.heap.size ∧ Below w.heap.size w wr)) (fun _ j _ => args.length - (intOf j).toNat)
    case atStart => exact ⟨0, N, by omega, rfl, congrArg (Value.int .i64) (by have := HN.out; omega), by omega, Lib.hid (fun _ => by simp [szL]), Lib.hid (by refine ⟨?_, ?_, ?_⟩ <;> first | (simp [go_sem, *]; done) | omega | (simp; omega) | exact (by repeat (first | exact Below.refl _ _ | refine Below.setCell ?_ (by first | (simp; done) | (simp; omega) | omega) _ | refine Below.alloc ?_ (by first | (simp; done) | (simp; omega) | omega) _ | refine Below.drew ?_ | assumption | refine Below.trans ?_ (Below.mono (by assumption) (by first | (simp; done) | (simp; omega) | omega)))))⟩
    case round =>
      obtain ⟨k, r, hk, rfl, rfl, hr, HR, HC⟩ := hrel
      obtain ⟨wo, rfl⟩ : ∃ wo : World, wo = wr := ⟨_, rfl⟩
      obtain ⟨o1, y0, B0⟩ := HC.out
      by_cases hlt : k < args.length
      · have hlt' : (k : Int) < (args.length : Int) := by omega
        by_cases hrp : r ≤ p
        · have hrp' : (r : Int) ≤ (p : Int) := by omega
          obtain ⟨x, hx⟩ : ∃ x, args[k]? = some x := ⟨_, List.getElem?_eq_getElem hlt⟩
          have hst := szL_take hx
          have HST := Lib.hid hst
          obtain ⟨op', n', s', args'⟩ := x
          obtain ⟨b, off, A1, c1, rfl, hPb, hb, hka, hvx⟩ := HL.out.elem hx
          have IHx := Lib.hid (IH.out k _ hx)
          obtain ⟨sx, hsx⟩ : ∃ sx, szE (.mk op' n' s' args') = sx := ⟨_, rfl⟩
          rw [hsx] at HST IHx
          have HVX := Lib.hid hvx
          dsimp only [exprC] at HVX
          obtain ⟨bc0, -⟩ := bcell B0
          have hbo : b < wo.heap.size := Nat.lt_of_lt_of_le hb B0.size
          simp only [← bc0 b _ hb] at hka
          generalize (⟨s'.toArray⟩ : ByteArray) = V1 at *
          obtain ⟨k0, k1, k2, k3⟩ := hka
          obtain ⟨q, hq⟩ : ∃ q : Nat, p = r + q := ⟨p - r, by omega⟩
          have hpq : (p : Int) - (r : Int) = (q : Int) := by omega
          have HPQ := Lib.hid hq
          have hq1 : q ≤ 1000 := by omega
          have hr1 : r ≤ 1000 := by omega
          clear hx hvx bc0 hst hsx hq
          go_wp2_with (first | (go_at_call 8; (with_reducible refine (IHx.out _ _ q hq1 (HVX.out.keep (Kp.below B0))).mono ?_); rintro e w7 ⟨⟨r2, rfl, hr2, hr3⟩, hb7⟩; have HR3 := Lib.hid hr3; clear hr3; obtain ⟨hc7, hf7⟩ := bcell hb7; have hs7 := hb7.size))
          refine ⟨⟨k + 1, r + r2, by omega, by go_num, by go_num, by have := HPQ.out; omega, Lib.hid (fun h => ?_), Lib.hid ⟨by rw [hc7 _ _ y0]; exact o1, by omega, B0.trans (hb7.mono B0.size)⟩⟩, ?_⟩
          · have h1 := HPQ.out
            have h2 := HR.out (by omega)
            have h3 := HR3.out (by omega)
            rw [HST.out]
            omega
          · first | (simp [intOf]; done) | (simp [intOf]; omega)
        · have hrp' : ¬ (r : Int) ≤ (p : Int) := by omega
          go_wp2_with (fail)
          exact HQQ.out r _ hr (fun h => absurd h hrp) B0
      · obtain rfl : k = args.length := by omega
        have hkk : ¬ (args.length : Int) < (args.length : Int) := by omega
        go_wp2_with (fail)
        refine HQQ.out r _ hr (fun h => ?_) B0
        have h2 := HR.out h
        rw [List.take_of_length_le (Nat.le_refl _)] at h2
        exact h2
end Go.Proofs.YtnjlggleaocbdaaGreatDoor
