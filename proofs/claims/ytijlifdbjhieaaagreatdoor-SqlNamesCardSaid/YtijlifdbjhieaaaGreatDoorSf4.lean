/-
  Contracts of slices.ContainsFunc over conditions, and of sql.fine. (Printed by tools/mksf4.py.)
-/
import Derived.Test.YtijlifdbjhieaaaGreatDoorSf3
namespace Go.Proofs.YtijlifdbjhieaaaGreatDoor
set_option linter.all false
open Go.RowKit Go.Shelf
attribute [local go_sem] cell_set_self lt_1 lt_2 lt_3 lt_4 lt_5 lt_6

mutual
/-- Strings that may stand in memory. -/
def ShC : CondT → Prop
  | .mk _ args l r => (l.col.length ≤ 9223372036854775807 ∧ l.s.length ≤ 9223372036854775807 ∧ r.col.length ≤ 9223372036854775807 ∧ r.s.length ≤ 9223372036854775807) ∧ ShL args
def ShL : List CondT → Prop
  | [] => True
  | c :: l => ShC c ∧ ShL l
end
theorem ShL.at : ∀ {l : List CondT} {k : Nat} {x : CondT}, ShL l → l[k]? = some x → ShC x
  | [], k, x, h, hk => by simp at hk
  | y :: l, 0, x, h, hk => by simp at hk; subst hk; unfold ShL at h; exact h.1
  | y :: l, k + 1, x, h, hk => by unfold ShL at h; exact ShL.at h.2 (by simpa using hk)
theorem fineL_all : ∀ (l : List CondT), fineL l = l.all fineC
  | [] => by unfold fineL; rfl
  | c :: l => by unfold fineL; rw [fineL_all l]; rfl
set_option maxHeartbeats 4000000 in
set_option maxRecDepth 100000 in
theorem notC_any (op : Int) (A : Option Addr) (n cc : Nat) (lc : List UInt8) (lt ln : Int) (ls rc : List UInt8) (rt rn : Int) (rs : List UInt8) (b : Bool) (w : World)
    (H : ∀ W, Below w.heap.size w W → Calls Tryz.prog 45 #[.agg #[.int .i64 op, .slice A n cc, .string ⟨lc.toArray⟩, .int .i64 lt, .int .i64 ln, .string ⟨ls.toArray⟩, .string ⟨rc.toArray⟩, .int .i64 rt, .int .i64 rn, .string ⟨rs.toArray⟩]] W fun e w' => e = .returned (.bool b) ∧ Below W.heap.size W w') :
    Calls Tryz.prog 92 #[.agg #[.int .i64 op, .slice A n cc, .string ⟨lc.toArray⟩, .int .i64 lt, .int .i64 ln, .string ⟨ls.toArray⟩, .string ⟨rc.toArray⟩, .int .i64 rt, .int .i64 rn, .string ⟨rs.toArray⟩]] w fun e w' => e = .returned (.bool (!b)) ∧ Below w.heap.size w w' := by
  have HF := Lib.hid H
  clear H
  go_enter Tryz.func92, Tryz.ntmps92
  go_wp2_with (first | (go_at_call 45; (with_reducible refine (HF.out _ (by repeat (first | exact Below.refl _ _ | refine Below.setCell ?_ (by first | (simp; done) | (simp; omega) | omega) _ | refine Below.alloc ?_ (by first | (simp; done) | (simp; omega) | omega) _ | refine Below.drew ?_ | assumption | refine Below.trans ?_ (Below.mono (by assumption) (by first | (simp; done) | (simp; omega) | omega))))).mono ?_); rintro e w4 ⟨rfl, hb4⟩))
  go_ret
  exact ⟨rfl, (by repeat (first | exact Below.refl _ _ | refine Below.setCell ?_ (by first | (simp; done) | (simp; omega) | omega) _ | refine Below.alloc ?_ (by first | (simp; done) | (simp; omega) | omega) _ | refine Below.drew ?_ | assumption | refine Below.trans ?_ (Below.mono (by assumption) (by first | (simp; done) | (simp; omega) | omega))))⟩
set_option maxHeartbeats 8000000 in
set_option maxRecDepth 100000 in
theorem idxC_any (A : Option Addr) (c : Nat) (l : List CondT) (hn : l.length ≤ 1000000000000000) (w : World) (T : CVL (fun _ => True) w A 0 l)
    (H : ∀ (k : Nat) (x : CondT) (cs : List Value) (W : World), l[k]? = some x → CV (fun _ => True) W x cs → Calls Tryz.prog 45 #[.agg cs.toArray] W fun e w' => e = .returned (.bool (fineC x)) ∧ Below W.heap.size W w') :
    Calls Tryz.prog 107 #[.slice A l.length c, .func (.func 92) #[] #[]] w fun e w' => (∃ z : Int, e = .returned (.int .i64 z) ∧ decide (0 ≤ z) = !l.all fineC ∧ z ≤ 1000000000000000) ∧ Below w.heap.size w w' := by
  suffices key : ∀ Q : Ending → World → Prop, Hid (∀ (z : Int) w', decide (0 ≤ z) = (!l.all fineC) → z ≤ 1000000000000000 → Below w.heap.size w w' → Q (.returned (.int .i64 z)) w') → Calls Tryz.prog 107 #[.slice A l.length c, .func (.func 92) #[] #[]] w Q from key _ (Lib.hid fun z w' h h2 h' => ⟨⟨z, rfl, h, h2⟩, h'⟩)
  intro Q HQ
  have HT := Lib.hid T
  have HH := Lib.hid H
  clear T H
  go_enter Tryz.func107, Tryz.ntmps107
  go_wp2_with (fail)
  go_loopw [8] (fun j wr => ∃ k : Nat, k ≤ l.length ∧ j = .int .i64 k ∧ Hid (∀ (i : Nat) (x : CondT), i < k → l[i]? = some x → fineC x = true) ∧ Hid (Below w.heap.size w wr)) (fun j _ => l.length - (intOf j).toNat)
  case atStart => exact ⟨0, by omega, rfl, Lib.hid (fun i x hi => by omega), Lib.hid (by repeat (first | exact Below.refl _ _ | refine Below.setCell ?_ (by first | (simp; done) | (simp; omega) | omega) _ | refine Below.alloc ?_ (by first | (simp; done) | (simp; omega) | omega) _ | refine Below.drew ?_ | assumption | refine Below.trans ?_ (Below.mono (by assumption) (by first | (simp; done) | (simp; omega) | omega))))⟩
  case round =>
    obtain ⟨k, hk, rfl, HA, HB⟩ := hrel
    obtain ⟨wo, rfl⟩ : ∃ wo : World, wo = wr := ⟨_, rfl⟩
    by_cases hlt : k < l.length
    · have hlt' : (k : Int) < (l.length : Int) := by omega
      obtain ⟨x, hx⟩ : ∃ x, l[k]? = some x := ⟨_, List.getElem?_eq_getElem hlt⟩
      have AN := Lib.hid (fun (h : fineC x = false) => all_no (P := fineC) hx h)
      have AY := Lib.hid (fun (h : fineC x = true) => show ∀ (i : Nat) (y : CondT), i < k + 1 → l[i]? = some y → fineC y = true from fun i y hi hy => by
        rcases Nat.lt_or_ge i k with h2 | h2
        · exact HA.out i y h2 hy
        · obtain rfl : i = k := by omega
          rw [hx] at hy; injection hy with hy; rw [← hy]; exact h)
      have HX := Lib.hid (HH.out k x)
      obtain ⟨op', args', ⟨lc', lt', ln', ls'⟩, ⟨rc', rt', rn', rs'⟩⟩ := x
      obtain ⟨b, off, A', c', rfl, hPb, hb, ⟨k0, k1, k2, k3, k4, k5, k6, k7, k8, k9⟩, hvx⟩ := (CVL.keep (Kp.below HB.out) HT.out).elem hx
      have HFX := Lib.hid (fun W (hW : Below wo.heap.size wo W) => HX.out _ W hx (hvx.keep (Kp.below hW)))
      dsimp only [condC, termC, List.cons_append, List.nil_append] at HFX
      have hso := HB.out.size
      clear hx hvx HX hPb
      generalize fineC (.mk op' args' ⟨lc', lt', ln', ls'⟩ ⟨rc', rt', rn', rs'⟩) = fx at *
      have NX := Lib.hid (fun W (hW : Below wo.heap.size wo W) => notC_any op' A' args'.length c' lc' lt' ln' ls' rc' rt' rn' rs' fx W (fun W' hW' => HFX.out W' (hW.trans (hW'.mono hW.size))))
      clear HFX
      cases fx with
      | false =>
        have AN' := AN.out rfl
        clear AN AY
        go_wp2_with (first | (go_at_call 92; (with_reducible refine (NX.out _ (by repeat (first | exact Below.refl _ _ | refine Below.setCell ?_ (by first | (simp; done) | (simp; omega) | omega) _ | refine Below.alloc ?_ (by first | (simp; done) | (simp; omega) | omega) _ | refine Below.drew ?_ | assumption | refine Below.trans ?_ (Below.mono (by assumption) (by first | (simp; done) | (simp; omega) | omega))))).mono ?_); rintro e w4 ⟨rfl, hb4⟩))
        exact HQ.out _ _ (by rw [AN']; simp) (by omega) (by repeat (first | exact Below.refl _ _ | refine Below.setCell ?_ (by first | (simp; done) | (simp; omega) | omega) _ | refine Below.alloc ?_ (by first | (simp; done) | (simp; omega) | omega) _ | refine Below.drew ?_ | assumption | refine Below.trans ?_ (Below.mono (by assumption) (by first | (simp; done) | (simp; omega) | omega))))
      | true =>
        have HAY := Lib.hid (AY.out rfl)
        clear AN AY
        go_wp2_with (first | (go_at_call 92; (with_reducible refine (NX.out _ (by repeat (first | exact Below.refl _ _ | refine Below.setCell ?_ (by first | (simp; done) | (simp; omega) | omega) _ | refine Below.alloc ?_ (by first | (simp; done) | (simp; omega) | omega) _ | refine Below.drew ?_ | assumption | refine Below.trans ?_ (Below.mono (by assumption) (by first | (simp; done) | (simp; omega) | omega))))).mono ?_); rintro e w4 ⟨rfl, hb4⟩))
        go_roundw
        case rel => exact ⟨k + 1, by omega, by go_num, HAY, Lib.hid (by repeat (first | exact Below.refl _ _ | refine Below.setCell ?_ (by first | (simp; done) | (simp; omega) | omega) _ | refine Below.alloc ?_ (by first | (simp; done) | (simp; omega) | omega) _ | refine Below.drew ?_ | assumption | refine Below.trans ?_ (Below.mono (by assumption) (by first | (simp; done) | (simp; omega) | omega))))⟩
        case measure => first | (simp [intOf]; done) | (simp [intOf]; omega)
    · obtain rfl : k = l.length := by omega
      have hkk : ¬ (l.length : Int) < (l.length : Int) := by omega
      have hall := all_yes (P := fineC) HA.out
      go_wp2
      exact HQ.out _ _ (by rw [hall]; simp) (by omega) HB.out
set_option maxHeartbeats 4000000 in
theorem anyC (A : Option Addr) (c : Nat) (l : List CondT) (hn : l.length ≤ 1000000000000000) (w : World) (T : CVL (fun _ => True) w A 0 l)
    (H : ∀ (k : Nat) (x : CondT) (cs : List Value) (W : World), l[k]? = some x → CV (fun _ => True) W x cs → Calls Tryz.prog 45 #[.agg cs.toArray] W fun e w' => e = .returned (.bool (fineC x)) ∧ Below W.heap.size W w') :
    Calls Tryz.prog 91 #[.slice A l.length c, .func (.func 92) #[] #[]] w fun e w' => e = .returned (.bool (!fineL l)) ∧ Below w.heap.size w w' := by
  have IX := Lib.hid (idxC_any A c l hn w T H)
  rw [fineL_all]
  clear T H
  generalize l.all fineC = b at *
  go_enter Tryz.func91, Tryz.ntmps91
  go_wp2_with (first | (go_at_call 107; (with_reducible refine (IX.out).mono ?_); rintro e w4 ⟨⟨z, rfl, hz, hz2⟩, hb4⟩))
  go_ret
  exact ⟨by rw [← hz]; rfl, hb4⟩
theorem argT_at {k : Nat} (h3 : 3 ≤ k) (h9 : k < 9) : argT[k]? = some ((k : Int) + 1, 0) := by
  have : k = 3 ∨ k = 4 ∨ k = 5 ∨ k = 6 ∨ k = 7 ∨ k = 8 := by omega
  rcases this with rfl | rfl | rfl | rfl | rfl | rfl <;> rfl
set_option maxHeartbeats 8000000 in
set_option maxRecDepth 100000 in
theorem fine_any : ∀ (n : Nat) (t : CondT) (cs : List Value) (w : World), SizeOf.sizeOf t ≤ n → CV (fun _ => True) w t cs → ShC t → Calls Tryz.prog 45 #[.agg cs.toArray] w fun e w' => e = .returned (.bool (fineC t)) ∧ Below w.heap.size w w' := by
  intro n
  induction n with
  | zero => intro t cs w hn; cases t; simp at hn
  | succ n ih =>
    intro t cs w hn hv hd
    obtain ⟨op, args, ⟨lc, lt, ln, ls⟩, ⟨rc, rt, rn, rs⟩⟩ := t
    obtain ⟨A, cc, rfl, hac, hA, hL⟩ := hv.open
    have hal := hac.2
    unfold ShC at hd
    obtain ⟨⟨s1, s2, s3, s4⟩, hsl⟩ := hd
    dsimp only at s1 s2 s3 s4
    have hfe : fineC (.mk op args ⟨lc, lt, ln, ls⟩ ⟨rc, rt, rn, rs⟩) = (decide (argsN op = some args.length) && (!decide (args.length = 0) || (termB ⟨lc, lt, ln, ls⟩ && termB ⟨rc, rt, rn, rs⟩)) && fineL args) := by rw [fineC]
    suffices key : ∀ Q : Ending → World → Prop, Hid (∀ b, b = fineC (.mk op args ⟨lc, lt, ln, ls⟩ ⟨rc, rt, rn, rs⟩) → ∀ w', Below w.heap.size w w' → Q (.returned (.bool b)) w') → Calls Tryz.prog 45 #[.agg (condC op A args.length cc ⟨lc, lt, ln, ls⟩ ⟨rc, rt, rn, rs⟩).toArray] w Q from key _ (Lib.hid fun b h w' h' => ⟨by rw [h], h'⟩)
    intro Q HQ
    rw [hfe] at HQ
    dsimp only [condC, termC, List.cons_append, List.nil_append]
    have TL := Lib.hid (fun W => termB_any lc lt ln ls s1 s2 W)
    have TR := Lib.hid (fun W => termB_any rc rt rn rs s3 s4 W)
    have AC := Lib.hid (fun W (hb : Below w.heap.size w W) => anyC A cc args hal W (CVL.keep (Kp.below hb) hL) (fun k x cs W' hx hv' => ih x cs W' (by have := CondT.size_arg (op := op) (l := ⟨lc, lt, ln, ls⟩) (r := ⟨rc, rt, rn, rs⟩) hx; omega) hv' (ShL.at hsl hx)))
    generalize termB ⟨lc, lt, ln, ls⟩ = bl at *
    generalize termB ⟨rc, rt, rn, rs⟩ = br at *
    generalize fineL args = ba at *
    have hm : ∀ W : World, (Instr.makeMap 149 none).run Tryz.prog W = .ok (.map (some W.heap.size)) (W.alloc (.map (mapA 0) 0)) := fun W => run_makeMap_plain (P := Tryz.prog) (w := W) 149
    have i0 : (Instr.mapUpdate 149 (.map (some (w.heap.size + 1))) (.int .i64 1) (.int .i64 2)).run Tryz.prog ((w.alloc (.cells #[.int .i64 op, .slice A args.length cc, .string ⟨lc.toArray⟩, .int .i64 lt, .int .i64 ln, .string ⟨ls.toArray⟩, .string ⟨rc.toArray⟩, .int .i64 rt, .int .i64 rn, .string ⟨rs.toArray⟩] 27)).alloc (.map (mapA 0) 0)) = .ok () ((w.alloc (.cells #[.int .i64 op, .slice A args.length cc, .string ⟨lc.toArray⟩, .int .i64 lt, .int .i64 ln, .string ⟨ls.toArray⟩, .string ⟨rc.toArray⟩, .int .i64 rt, .int .i64 rn, .string ⟨rs.toArray⟩] 27)).alloc (.map (mapA 1) 1)) := by
      have := ins_at 0 1 2 rfl (w.alloc (.cells #[.int .i64 op, .slice A args.length cc, .string ⟨lc.toArray⟩, .int .i64 lt, .int .i64 ln, .string ⟨ls.toArray⟩, .string ⟨rc.toArray⟩, .int .i64 rt, .int .i64 rn, .string ⟨rs.toArray⟩] 27)); simpa only [World.size_alloc] using this
    have i1 : (Instr.mapUpdate 149 (.map (some (w.heap.size + 1))) (.int .i64 2) (.int .i64 2)).run Tryz.prog ((w.alloc (.cells #[.int .i64 op, .slice A args.length cc, .string ⟨lc.toArray⟩, .int .i64 lt, .int .i64 ln, .string ⟨ls.toArray⟩, .string ⟨rc.toArray⟩, .int .i64 rt, .int .i64 rn, .string ⟨rs.toArray⟩] 27)).alloc (.map (mapA 1) 1)) = .ok () ((w.alloc (.cells #[.int .i64 op, .slice A args.length cc, .string ⟨lc.toArray⟩, .int .i64 lt, .int .i64 ln, .string ⟨ls.toArray⟩, .string ⟨rc.toArray⟩, .int .i64 rt, .int .i64 rn, .string ⟨rs.toArray⟩] 27)).alloc (.map (mapA 2) 2)) := by
      have := ins_at 1 2 2 rfl (w.alloc (.cells #[.int .i64 op, .slice A args.length cc, .string ⟨lc.toArray⟩, .int .i64 lt, .int .i64 ln, .string ⟨ls.toArray⟩, .string ⟨rc.toArray⟩, .int .i64 rt, .int .i64 rn, .string ⟨rs.toArray⟩] 27)); simpa only [World.size_alloc] using this
    have i2 : (Instr.mapUpdate 149 (.map (some (w.heap.size + 1))) (.int .i64 3) (.int .i64 1)).run Tryz.prog ((w.alloc (.cells #[.int .i64 op, .slice A args.length cc, .string ⟨lc.toArray⟩, .int .i64 lt, .int .i64 ln, .string ⟨ls.toArray⟩, .string ⟨rc.toArray⟩, .int .i64 rt, .int .i64 rn, .string ⟨rs.toArray⟩] 27)).alloc (.map (mapA 2) 2)) = .ok () ((w.alloc (.cells #[.int .i64 op, .slice A args.length cc, .string ⟨lc.toArray⟩, .int .i64 lt, .int .i64 ln, .string ⟨ls.toArray⟩, .string ⟨rc.toArray⟩, .int .i64 rt, .int .i64 rn, .string ⟨rs.toArray⟩] 27)).alloc (.map (mapA 3) 3)) := by
      have := ins_at 2 3 1 rfl (w.alloc (.cells #[.int .i64 op, .slice A args.length cc, .string ⟨lc.toArray⟩, .int .i64 lt, .int .i64 ln, .string ⟨ls.toArray⟩, .string ⟨rc.toArray⟩, .int .i64 rt, .int .i64 rn, .string ⟨rs.toArray⟩] 27)); simpa only [World.size_alloc] using this
    have LK := Lib.hid (look_any op)
    have hz0 : w.heap.size < w.heap.size + 1 + 1 ∧ w.heap.size < w.heap.size + 1 := by omega
    clear hfe hn hv hL hsl s1 s2 s3 s4 ih
    go_enter Tryz.func45, Tryz.ntmps45
    go_wp2_with (fail)
    go_loopw [4] (fun j wr => ∃ k : Nat, 3 ≤ k ∧ k ≤ 9 ∧ j = .int .i64 ((k : Int) + 1) ∧ (w.alloc (.cells #[.int .i64 op, .slice A args.length cc, .string ⟨lc.toArray⟩, .int .i64 lt, .int .i64 ln, .string ⟨ls.toArray⟩, .string ⟨rc.toArray⟩, .int .i64 rt, .int .i64 rn, .string ⟨rs.toArray⟩] 27)).alloc (.map (mapA k) k) = wr) (fun j _ => 11 - (intOf j).toNat)
    case atStart => exact ⟨3, by omega, by omega, rfl, rfl⟩
    case round =>
      obtain ⟨k, hk3, hk9, rfl, rfl⟩ := hrel
      by_cases hlt : k < 9
      · have hlt' : (k : Int) + 1 ≤ 9 := by omega
        have iK : (Instr.mapUpdate 149 (.map (some (w.heap.size + 1))) (.int .i64 ((k : Int) + 1)) (.int .i64 0)).run Tryz.prog ((w.alloc (.cells #[.int .i64 op, .slice A args.length cc, .string ⟨lc.toArray⟩, .int .i64 lt, .int .i64 ln, .string ⟨ls.toArray⟩, .string ⟨rc.toArray⟩, .int .i64 rt, .int .i64 rn, .string ⟨rs.toArray⟩] 27)).alloc (.map (mapA k) k)) = .ok () ((w.alloc (.cells #[.int .i64 op, .slice A args.length cc, .string ⟨lc.toArray⟩, .int .i64 lt, .int .i64 ln, .string ⟨ls.toArray⟩, .string ⟨rc.toArray⟩, .int .i64 rt, .int .i64 rn, .string ⟨rs.toArray⟩] 27)).alloc (.map (mapA (k + 1)) (k + 1))) := by
          have := ins_at k _ _ (argT_at hk3 hlt) (w.alloc (.cells #[.int .i64 op, .slice A args.length cc, .string ⟨lc.toArray⟩, .int .i64 lt, .int .i64 ln, .string ⟨ls.toArray⟩, .string ⟨rc.toArray⟩, .int .i64 rt, .int .i64 rn, .string ⟨rs.toArray⟩] 27)); simpa only [World.size_alloc] using this
        go_wp2
        go_roundw
        case rel => exact ⟨k + 1, by omega, by omega, by go_num, rfl⟩
        case measure => first | (simp [intOf]; done) | (simp [intOf]; omega)
      · obtain rfl : k = 9 := by omega
        clear hm i0 i1 i2
        rcases LK.out with ⟨N, hN, hN2, lk0⟩ | ⟨hN, lk0⟩
        · have lk := lk0 (w.alloc (.cells #[.int .i64 op, .slice A args.length cc, .string ⟨lc.toArray⟩, .int .i64 lt, .int .i64 ln, .string ⟨ls.toArray⟩, .string ⟨rc.toArray⟩, .int .i64 rt, .int .i64 rn, .string ⟨rs.toArray⟩] 27))
          simp only [World.size_alloc] at lk
          rw [hN] at HQ
          clear lk0 LK hN
          by_cases hl : args.length = N
          · have e1 : ((args.length : Int) != (N : Int)) = false := by simp [hl]
            by_cases h0 : N = 0
            · have e2 : ((N : Int) == 0) = true := by simp [h0]
              have HB0 : Hid (args.length = 0) := Lib.hid (by omega)
              have HLN := Lib.hid hl
              clear h0 hl
              cases bl with
              | false =>
                go_wp2_with (first | (go_at_call 90; (with_reducible refine (TL.out _).mono ?_); rintro e w5 ⟨rfl, hb5⟩; obtain ⟨hc5, hf5⟩ := bcell hb5; have hs5 := hb5.size; (try simp only [World.size_alloc] at hc5 hf5 hs5); have hz5 : w.heap.size < w5.heap.size := (by omega)) | (go_at_call 91; (with_reducible refine (AC.out _ (by repeat (first | exact Below.refl _ _ | refine Below.setCell ?_ (by first | (simp; done) | (simp; omega) | omega) _ | refine Below.alloc ?_ (by first | (simp; done) | (simp; omega) | omega) _ | refine Below.drew ?_ | assumption | refine Below.trans ?_ (Below.mono (by assumption) (by first | (simp; done) | (simp; omega) | omega))))).mono ?_); rintro e w7 ⟨rfl, hb7⟩))
                (refine HQ.out _ ?_ _ (by repeat (first | exact Below.refl _ _ | refine Below.setCell ?_ (by first | (simp; done) | (simp; omega) | omega) _ | refine Below.alloc ?_ (by first | (simp; done) | (simp; omega) | omega) _ | refine Below.drew ?_ | assumption | refine Below.trans ?_ (Below.mono (by assumption) (by first | (simp; done) | (simp; omega) | omega)))); simp [HB0.out])
              | true =>
                cases br with
                | false =>
                  go_wp2_with (first | (go_at_call 90; (with_reducible refine (TL.out _).mono ?_); rintro e w5 ⟨rfl, hb5⟩; obtain ⟨hc5, hf5⟩ := bcell hb5; have hs5 := hb5.size; (try simp only [World.size_alloc] at hc5 hf5 hs5); have hz5 : w.heap.size < w5.heap.size := (by omega); clear TL) | (go_at_call 90; (with_reducible refine (TR.out _).mono ?_); rintro e w6 ⟨rfl, hb6⟩; obtain ⟨hc6, hf6⟩ := bcell hb6; have hs6 := hb6.size; (try simp only [World.size_alloc] at hc6 hf6 hs6); have hz6 : w.heap.size < w6.heap.size := (by omega)) | (go_at_call 91; (with_reducible refine (AC.out _ (by repeat (first | exact Below.refl _ _ | refine Below.setCell ?_ (by first | (simp; done) | (simp; omega) | omega) _ | refine Below.alloc ?_ (by first | (simp; done) | (simp; omega) | omega) _ | refine Below.drew ?_ | assumption | refine Below.trans ?_ (Below.mono (by assumption) (by first | (simp; done) | (simp; omega) | omega))))).mono ?_); rintro e w7 ⟨rfl, hb7⟩))
                  (refine HQ.out _ ?_ _ (by repeat (first | exact Below.refl _ _ | refine Below.setCell ?_ (by first | (simp; done) | (simp; omega) | omega) _ | refine Below.alloc ?_ (by first | (simp; done) | (simp; omega) | omega) _ | refine Below.drew ?_ | assumption | refine Below.trans ?_ (Below.mono (by assumption) (by first | (simp; done) | (simp; omega) | omega)))); simp [HB0.out])
                | true =>
                  go_wp2_with (first | (go_at_call 90; (with_reducible refine (TL.out _).mono ?_); rintro e w5 ⟨rfl, hb5⟩; obtain ⟨hc5, hf5⟩ := bcell hb5; have hs5 := hb5.size; (try simp only [World.size_alloc] at hc5 hf5 hs5); have hz5 : w.heap.size < w5.heap.size := (by omega); clear TL) | (go_at_call 90; (with_reducible refine (TR.out _).mono ?_); rintro e w6 ⟨rfl, hb6⟩; obtain ⟨hc6, hf6⟩ := bcell hb6; have hs6 := hb6.size; (try simp only [World.size_alloc] at hc6 hf6 hs6); have hz6 : w.heap.size < w6.heap.size := (by omega)) | (go_at_call 91; (with_reducible refine (AC.out _ (by repeat (first | exact Below.refl _ _ | refine Below.setCell ?_ (by first | (simp; done) | (simp; omega) | omega) _ | refine Below.alloc ?_ (by first | (simp; done) | (simp; omega) | omega) _ | refine Below.drew ?_ | assumption | refine Below.trans ?_ (Below.mono (by assumption) (by first | (simp; done) | (simp; omega) | omega))))).mono ?_); rintro e w7 ⟨rfl, hb7⟩))
                  (refine HQ.out _ ?_ _ (by repeat (first | exact Below.refl _ _ | refine Below.setCell ?_ (by first | (simp; done) | (simp; omega) | omega) _ | refine Below.alloc ?_ (by first | (simp; done) | (simp; omega) | omega) _ | refine Below.drew ?_ | assumption | refine Below.trans ?_ (Below.mono (by assumption) (by first | (simp; done) | (simp; omega) | omega)))); simp [HLN.out])
            · have e2 : ((N : Int) == 0) = false := by simp [h0]
              have HLN := Lib.hid hl
              have H0N := Lib.hid h0
              clear h0 hl
              go_wp2_with (first | (go_at_call 90; (with_reducible refine (TL.out _).mono ?_); rintro e w5 ⟨rfl, hb5⟩; obtain ⟨hc5, hf5⟩ := bcell hb5; have hs5 := hb5.size; (try simp only [World.size_alloc] at hc5 hf5 hs5); have hz5 : w.heap.size < w5.heap.size := (by omega)) | (go_at_call 91; (with_reducible refine (AC.out _ (by repeat (first | exact Below.refl _ _ | refine Below.setCell ?_ (by first | (simp; done) | (simp; omega) | omega) _ | refine Below.alloc ?_ (by first | (simp; done) | (simp; omega) | omega) _ | refine Below.drew ?_ | assumption | refine Below.trans ?_ (Below.mono (by assumption) (by first | (simp; done) | (simp; omega) | omega))))).mono ?_); rintro e w7 ⟨rfl, hb7⟩))
              (refine HQ.out _ ?_ _ (by repeat (first | exact Below.refl _ _ | refine Below.setCell ?_ (by first | (simp; done) | (simp; omega) | omega) _ | refine Below.alloc ?_ (by first | (simp; done) | (simp; omega) | omega) _ | refine Below.drew ?_ | assumption | refine Below.trans ?_ (Below.mono (by assumption) (by first | (simp; done) | (simp; omega) | omega)))); simp [HLN.out, H0N.out])
          · have e1 : ((args.length : Int) != (N : Int)) = true := by simp; omega
            have HL' : Hid (¬ N = args.length) := Lib.hid (fun e => hl e.symm)
            clear hl
            go_wp2_with (first | (go_at_call 90; (with_reducible refine (TL.out _).mono ?_); rintro e w5 ⟨rfl, hb5⟩; obtain ⟨hc5, hf5⟩ := bcell hb5; have hs5 := hb5.size; (try simp only [World.size_alloc] at hc5 hf5 hs5); have hz5 : w.heap.size < w5.heap.size := (by omega)) | (go_at_call 91; (with_reducible refine (AC.out _ (by repeat (first | exact Below.refl _ _ | refine Below.setCell ?_ (by first | (simp; done) | (simp; omega) | omega) _ | refine Below.alloc ?_ (by first | (simp; done) | (simp; omega) | omega) _ | refine Below.drew ?_ | assumption | refine Below.trans ?_ (Below.mono (by assumption) (by first | (simp; done) | (simp; omega) | omega))))).mono ?_); rintro e w7 ⟨rfl, hb7⟩))
            (refine HQ.out _ ?_ _ (by repeat (first | exact Below.refl _ _ | refine Below.setCell ?_ (by first | (simp; done) | (simp; omega) | omega) _ | refine Below.alloc ?_ (by first | (simp; done) | (simp; omega) | omega) _ | refine Below.drew ?_ | assumption | refine Below.trans ?_ (Below.mono (by assumption) (by first | (simp; done) | (simp; omega) | omega)))); simp [HL'.out])
        · have lk := lk0 (w.alloc (.cells #[.int .i64 op, .slice A args.length cc, .string ⟨lc.toArray⟩, .int .i64 lt, .int .i64 ln, .string ⟨ls.toArray⟩, .string ⟨rc.toArray⟩, .int .i64 rt, .int .i64 rn, .string ⟨rs.toArray⟩] 27))
          simp only [World.size_alloc] at lk
          rw [hN] at HQ
          clear lk0 LK hN
          go_wp2_with (first | (go_at_call 90; (with_reducible refine (TL.out _).mono ?_); rintro e w5 ⟨rfl, hb5⟩; obtain ⟨hc5, hf5⟩ := bcell hb5; have hs5 := hb5.size; (try simp only [World.size_alloc] at hc5 hf5 hs5); have hz5 : w.heap.size < w5.heap.size := (by omega)) | (go_at_call 91; (with_reducible refine (AC.out _ (by repeat (first | exact Below.refl _ _ | refine Below.setCell ?_ (by first | (simp; done) | (simp; omega) | omega) _ | refine Below.alloc ?_ (by first | (simp; done) | (simp; omega) | omega) _ | refine Below.drew ?_ | assumption | refine Below.trans ?_ (Below.mono (by assumption) (by first | (simp; done) | (simp; omega) | omega))))).mono ?_); rintro e w7 ⟨rfl, hb7⟩))
          exact HQ.out _ (by simp) _ (by repeat (first | exact Below.refl _ _ | refine Below.setCell ?_ (by first | (simp; done) | (simp; omega) | omega) _ | refine Below.alloc ?_ (by first | (simp; done) | (simp; omega) | omega) _ | refine Below.drew ?_ | assumption | refine Below.trans ?_ (Below.mono (by assumption) (by first | (simp; done) | (simp; omega) | omega))))
end Go.Proofs.YtijlifdbjhieaaaGreatDoor
