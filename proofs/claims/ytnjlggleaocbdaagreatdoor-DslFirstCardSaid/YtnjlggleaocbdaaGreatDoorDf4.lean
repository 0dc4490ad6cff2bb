/-
  Contract of dsl.allFine.
-/
import Derived.Test.YtnjlggleaocbdaaGreatDoorDf3
namespace Go.Proofs.YtnjlggleaocbdaaGreatDoor
set_option linter.all false
open Go.RowKit Go.Shelf
attribute [local go_sem] cell_set_self lt_1 lt_2 lt_3 lt_4 lt_5 lt_6

set_option maxHeartbeats 8000000 in
set_option maxRecDepth 100000 in
theorem allFine_any (P : Nat → Prop) : ∀ (m : Nat) (t : ExprT) (cs : List Value) (w : World), SizeOf.sizeOf t ≤ m → EV P w t cs → LtE 1000000000000000 t → Calls Tryz.prog 24 #[.agg cs.toArray] w fun e w' => e = .returned (.bool (fineE t)) ∧ Below w.heap.size w w' := by
  intro m
  induction m with
  | zero => intro t cs w hn; cases t; simp at hn
  | succ m ih =>
    intro t cs w hn hv hd
    obtain ⟨op, n, s, args⟩ := t
    obtain ⟨A, c, rfl, hac, hA, hL⟩ := hv.open
    unfold LtE at hd
    obtain ⟨⟨d1, d2⟩, dL⟩ := hd
    have hde : fineE (.mk op n s args) = (fine1 op n s args.length && fineL args) := by rw [fineE]
    suffices key : ∀ Q : Ending → World → Prop, Hid (∀ e w', (e = .returned (.bool (fineE (.mk op n s args))) ∧ Below w.heap.size w w') → Q e w') → Calls Tryz.prog 24 #[.agg (exprC op n s A args.length c).toArray] w Q from key _ (Lib.hid fun _ _ h => h)
    intro Q HQQ
    rw [hde] at HQQ
    have hal := hac.2
    dsimp only [exprC]
    have IH := Lib.hid (fun (k : Nat) (x : ExprT) (hx : args[k]? = some x) (cs : List Value) (W : World) (hv : EV P W x cs) => ih x cs W (by have := ExprT.size_arg (op := op) (n := n) (s := s) hx; omega) hv (dL.at hx))
    have HL := Lib.hid hL
    have FN := Lib.hid (fun W => fine_any op n s A args.length c d1 W)
    clear hde hn hv hL ih dL
    cases hf1 : fine1 op n s args.length with
    | false =>
      rw [hf1] at FN HQQ
      rw [Bool.false_and] at HQQ
      clear hf1
      go_enter Tryz.func24, Tryz.ntmps24
      go_wp2_with (first | (go_at_call 40; (with_reducible refine (FN.out _).mono ?_); rintro e w3 ⟨rfl, hb3⟩))
      exact HQQ.out _ _ ⟨ret_bool rfl, (by repeat (first | exact Below.refl _ _ | refine Below.setCell ?_ (by first | (simp; done) | (simp; omega) | omega) _ | refine Below.alloc ?_ (by first | (simp; done) | (simp; omega) | omega) _ | refine Below.drew ?_ | assumption | refine Below.trans ?_ (Below.mono (by assumption) (by first | (simp; done) | (simp; omega) | omega))))⟩
    | true =>
      rw [hf1] at FN HQQ
      rw [Bool.true_and] at HQQ
      clear hf1
      go_enter Tryz.func24, Tryz.ntmps24
      go_wp2_with (first | (go_at_call 40; (with_reducible refine (FN.out _).mono ?_); rintro e w3 ⟨rfl, hb3⟩; obtain ⟨hc3, hf3⟩ := bcell hb3; simp only [World.size_alloc] at hc3 hf3; have hs3 := hb3.size; (try simp at hs3); have hz3 : w.heap.size < w3.heap.size ∧ w.heap.size < w.heap.size + 1 := (by omega); have HB3 := Lib.hid (((Below.refl w.heap.size w).alloc (Nat.le_refl _) _).trans (hb3.mono (by simp)))))
      go_loopw [11] (fun j wr => ∃ k : Nat, k ≤ args.length ∧ j = .int .i64 k ∧ Hid (fineL args = fineL (args.drop k)) ∧ Hid (Below w.heap.size w wr)) (fun j _ => args.length - (intOf j).toNat)
      case atStart => exact ⟨0, by omega, rfl, Lib.hid (by simp), HB3⟩
      case round =>
        obtain ⟨k, hk, rfl, HF, HB⟩ := hrel
        obtain ⟨wo, rfl⟩ : ∃ wo : World, wo = wr := ⟨_, rfl⟩
        by_cases hlt : k < args.length
        · have hlt' : (k : Int) < (args.length : Int) := by omega
          obtain ⟨x, hx⟩ : ∃ x, args[k]? = some x := ⟨_, List.getElem?_eq_getElem hlt⟩
          have hd : args.drop k = x :: args.drop (k + 1) := by
            obtain ⟨h1, h2⟩ := List.getElem?_eq_some_iff.1 hx
            rw [List.drop_eq_getElem_cons h1, h2]
          have hfl := HF.out
          rw [hd, fineL] at hfl
          obtain ⟨op', n', s', args'⟩ := x
          obtain ⟨b, off, A', c', rfl, hPb, hb, ⟨k0, k1, k2, k3⟩, hvx⟩ := (EVL.keep (Kp.below HB.out) HL.out).elem hx
          have IHx := fun cs W hv => IH.out k _ hx cs W hv
          have HVX := Lib.hid hvx
          dsimp only [exprC] at HVX
          have hso := HB.out.size
          cases hfx : fineE (.mk op' n' s' args') with
          | true =>
            rw [hfx] at IHx hfl
            rw [Bool.true_and] at hfl
            have HIX := Lib.hid IHx
            have HF2 := Lib.hid hfl
            clear hx hvx hfx IHx hfl hd HF
            go_wp2_with (first | (go_at_call 24; (with_reducible refine (HIX.out _ _ (HVX.out.keep ((Kp.refl _ _).alloc _))).mono ?_); rintro e w4 ⟨rfl, hb4⟩; have hs4 := hb4.size))
            go_roundw
            case rel => exact ⟨k + 1, by omega, by go_num, HF2, Lib.hid (HB.out.trans ((((Below.refl _ _).alloc (Nat.le_refl _) _).trans (hb4.mono (by simp))).mono hso))⟩
            case measure => first | (simp [intOf]; done) | (simp [intOf]; omega)
          | false =>
            rw [hfx] at IHx hfl
            rw [Bool.false_and] at hfl
            have HIX := Lib.hid IHx
            rw [hfl] at HQQ
            clear hx hvx hfx IHx hfl hd HF
            go_wp2_with (first | (go_at_call 24; (with_reducible refine (HIX.out _ _ (HVX.out.keep ((Kp.refl _ _).alloc _))).mono ?_); rintro e w4 ⟨rfl, hb4⟩; have hs4 := hb4.size))
            exact HQQ.out _ _ ⟨ret_bool rfl, HB.out.trans ((((Below.refl _ _).alloc (Nat.le_refl _) _).trans (hb4.mono (by simp))).mono hso)⟩
        · obtain rfl : k = args.length := by omega
          have hkk : ¬ (args.length : Int) < (args.length : Int) := by omega
          have hfl := HF.out
          rw [List.drop_length, fineL] at hfl
          rw [hfl] at HQQ
          clear hfl HF
          go_wp2
          exact HQQ.out _ _ ⟨ret_bool rfl, HB.out⟩
end Go.Proofs.YtnjlggleaocbdaaGreatDoor
