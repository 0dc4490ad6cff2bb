/-
  Contract of sql.Schema.cond. (Printed by tools/mksn4.py.)
-/
import Derived.Test.YtijlifdbjhieaaaGreatDoorSn3
namespace Go.Proofs.YtijlifdbjhieaaaGreatDoor
set_option linter.all false
open Go.RowKit Go.Shelf Go.Sort
attribute [local go_sem] cell_set_self lt_1 lt_2 lt_3 lt_4 lt_5 lt_6

/-- A term's type, and whether there is one. -/
def tyV (s : SchT) (t : TermT) : Int := if t.ty = 0 then typT s t.col else t.ty
def tyI (s : SchT) (t : TermT) : Bool := if t.ty = 0 then typI s t.col else true
def termsE (s : SchT) (l r : TermT) : Int := if tyI s l = false then 23 else if tyI s r = false then 23 else if tyV s l ≠ tyV s r then 13 else 0
mutual
/-- A condition's error over a schema. -/
def condE (s : SchT) : CondT → Int
  | .mk op args l r => if op = 0 then 0 else if condEL s args ≠ 0 then condEL s args else if cmpB op = false then 0 else termsE s l r
def condEL (s : SchT) : List CondT → Int
  | [] => 0
  | c :: l => if condE s c ≠ 0 then condE s c else condEL s l
end
theorem info_inth : (Tryz.prog.info? 3).map (fun i => (i.zero, i.size, i.bytes)) = some (some (.int .i64 0), 1, 8) := by kernel_rfl
set_option maxHeartbeats 16000000 in
set_option maxRecDepth 100000 in
theorem scond_any (s : SchT) (A1 : Option Addr) (c1 : Nat) (A2 : Option Addr) (c2 : Nat) (hcs : s.cols.length ≤ 1000000000000000) : ∀ (n : Nat) (t : CondT) (cs : List Value) (w : World), SizeOf.sizeOf t ≤ n → CV (fun _ => True) w t cs → ClL w A1 s.cols →
    Calls Tryz.prog 75 #[.agg #[.string ⟨s.table.toArray⟩, .slice A1 s.cols.length c1, .slice A2 s.key.length c2], .agg cs.toArray] w fun e w' => e = .returned (.int .i64 (condE s t)) ∧ Below w.heap.size w w' := by
  intro n
  induction n with
  | zero => intro t cs w hn; cases t; simp at hn
  | succ n ih =>
    intro t cs w hn hv hcl
    obtain ⟨op, args, l, r⟩ := t
    obtain ⟨A, c, rfl, hac, hA, hL⟩ := hv.open
    suffices key : ∀ Q : Ending → World → Prop, Hid (∀ e w', (e = .returned (.int .i64 (condE s (.mk op args l r))) ∧ Below w.heap.size w w') → Q e w') → Calls Tryz.prog 75 #[.agg #[.string ⟨s.table.toArray⟩, .slice A1 s.cols.length c1, .slice A2 s.key.length c2], .agg (condC op A args.length c l r).toArray] w Q from key _ (Lib.hid fun _ _ h => h)
    intro Q HQQ
    rw [condE] at HQQ
    dsimp only [condC, termC, List.cons_append, List.nil_append]
    have IH := Lib.hid (fun (k : Nat) (x : CondT) (hx : args[k]? = some x) (cs : List Value) (W : World) (hb : Below w.heap.size w W) (hv : CV (fun _ => True) W x cs) => ih x cs W (by have := CondT.size_arg (op := op) (l := l) (r := r) hx; omega) hv (hcl.below hb))
    have TO := Lib.hid (fun n W (hb : Below w.heap.size w W) => typeOf_any s A1 c1 A2 c2 n W (hcl.below hb) hcs)
    have CM := Lib.hid (fun W => compares_any op W)
    have HL := Lib.hid hL
    have hal := hac.2
    obtain ⟨i, hi, iz0, iz1, iz2⟩ := info_parts info_inth
    clear hv hcl ih hL hn
    obtain ⟨ST, hST⟩ : ∃ x : ByteArray, (⟨s.table.toArray⟩ : ByteArray) = x := ⟨_, rfl⟩
    rw [hST] at TO IH ⊢
    clear hST
    obtain ⟨U1, hU1⟩ : ∃ U : ByteArray, (⟨l.col.toArray⟩ : ByteArray) = U := ⟨_, rfl⟩
    obtain ⟨U2, hU2⟩ : ∃ U : ByteArray, (⟨l.s.toArray⟩ : ByteArray) = U := ⟨_, rfl⟩
    obtain ⟨U3, hU3⟩ : ∃ U : ByteArray, (⟨r.col.toArray⟩ : ByteArray) = U := ⟨_, rfl⟩
    obtain ⟨U4, hU4⟩ : ∃ U : ByteArray, (⟨r.s.toArray⟩ : ByteArray) = U := ⟨_, rfl⟩
    obtain ⟨lt, hlt0⟩ : ∃ x, l.ty = x := ⟨_, rfl⟩
    obtain ⟨ln, hln⟩ : ∃ x, l.n = x := ⟨_, rfl⟩
    obtain ⟨rt, hrt0⟩ : ∃ x, r.ty = x := ⟨_, rfl⟩
    obtain ⟨rn, hrn⟩ : ∃ x, r.n = x := ⟨_, rfl⟩
    have TL := Lib.hid (fun W hb => TO.out l.col W hb)
    have TR := Lib.hid (fun W hb => TO.out r.col W hb)
    rw [hU1] at TL
    rw [hU3] at TR
    rw [hU1, hU2, hU3, hU4, hlt0, hln, hrt0, hrn]
    obtain ⟨lv, hlv⟩ : ∃ x, tyV s l = x := ⟨_, rfl⟩
    obtain ⟨li, hli⟩ : ∃ x, tyI s l = x := ⟨_, rfl⟩
    obtain ⟨rv, hrv⟩ : ∃ x, tyV s r = x := ⟨_, rfl⟩
    obtain ⟨ri, hri⟩ : ∃ x, tyI s r = x := ⟨_, rfl⟩
    have HLV : Hid (if lt = 0 then lv = typT s l.col ∧ li = typI s l.col else lv = lt ∧ li = true) := Lib.hid (by rw [← hlv, ← hli]; unfold tyV tyI; rw [hlt0]; split <;> exact ⟨rfl, rfl⟩)
    have HRV : Hid (if rt = 0 then rv = typT s r.col ∧ ri = typI s r.col else rv = rt ∧ ri = true) := Lib.hid (by rw [← hrv, ← hri]; unfold tyV tyI; rw [hrt0]; split <;> exact ⟨rfl, rfl⟩)
    have HTE : Hid (termsE s l r = if li = false then 23 else if ri = false then 23 else if lv ≠ rv then 13 else 0) := Lib.hid (by unfold termsE; rw [hlv, hli, hrv, hri])
    generalize termsE s l r = tE at *
    generalize typT s l.col = ltT at *
    generalize typI s l.col = ltI at *
    generalize typT s r.col = rtT at *
    generalize typI s r.col = rtI at *
    clear hU1 hU2 hU3 hU4 hlt0 hln hrt0 hrn hlv hli hrv hri TO
    by_cases h0 : op = 0
    · rw [if_pos h0] at HQQ
      have e0 : (op == 0) = true := by simp [h0]
      clear h0 IH
      go_enter Tryz.func75, Tryz.ntmps75
      go_wp2_with (fail)
      exact HQQ.out _ _ ⟨rfl, by repeat (first | (with_reducible exact Below.refl _ _) | (with_reducible refine Below.alloc ?_ (by first | (simp; done) | (simp; omega) | omega) _))⟩
    · rw [if_neg h0] at HQQ
      have e0 : (op == 0) = false := by simp [h0]
      clear h0
      obtain ⟨eL, heL⟩ : ∃ x, condEL s args = x := ⟨_, rfl⟩
      rw [heL] at HQQ
      have HEL := Lib.hid heL
      clear heL
      obtain ⟨W2, hW2⟩ : ∃ W2, W2 = (w.alloc (.cells #[.string ST, .slice A1 s.cols.length c1, .slice A2 s.key.length c2] 59)).alloc (.cells #[.int .i64 op, .slice A args.length c, .string U1, .int .i64 lt, .int .i64 ln, .string U2, .string U3, .int .i64 rt, .int .i64 rn, .string U4] 27) := ⟨_, rfl⟩
      have HW2 : Below w.heap.size w W2 := by rw [hW2]; exact ((Below.refl _ _).alloc (Nat.le_refl _) _).alloc (by simp) _
      have hs2 : W2.heap.size = w.heap.size + 2 := by rw [hW2]; simp
      go_enter Tryz.func75, Tryz.ntmps75
      go_wp2_with (fail)
      rw [← hW2]
      go_loopw [19] (fun j wr => ∃ k : Nat, k ≤ args.length ∧ j = .int .i64 k ∧ Hid (eL = condEL s (args.drop k)) ∧ Hid (Below (w.heap.size + 2) W2 wr)) (fun j _ => args.length - (intOf j).toNat)
      case atStart => exact ⟨0, by omega, rfl, Lib.hid HEL.out.symm, Lib.hid (Below.refl _ _)⟩
      case round =>
        obtain ⟨k, hk, rfl, HA, HB⟩ := hrel
        obtain ⟨wo, rfl⟩ : ∃ wo : World, wo = wr := ⟨_, rfl⟩
        have HBW : Below w.heap.size w wo := HW2.trans (HB.out.mono (by omega))
        have hso : w.heap.size + 1 < wo.heap.size := by have := HB.out.size; omega
        have hso0 : w.heap.size < wo.heap.size := by omega
        obtain ⟨hcb, hfb⟩ := bcell (W := W2) (w1 := wo) (by rw [hs2]; exact HB.out)
        rw [hs2] at hcb hfb
        have hw0 := hcb w.heap.size 0 (by omega)
        have hw1 := hcb w.heap.size 1 (by omega)
        have hw2 := hcb w.heap.size 2 (by omega)
        have hv0 := hcb (w.heap.size + 1) 0 (by omega)
        have hv1 := hcb (w.heap.size + 1) 1 (by omega)
        have hv2 := hcb (w.heap.size + 1) 2 (by omega)
        have hv3 := hcb (w.heap.size + 1) 3 (by omega)
        have hv4 := hcb (w.heap.size + 1) 4 (by omega)
        have hv5 := hcb (w.heap.size + 1) 5 (by omega)
        have hv6 := hcb (w.heap.size + 1) 6 (by omega)
        have hv7 := hcb (w.heap.size + 1) 7 (by omega)
        have hv8 := hcb (w.heap.size + 1) 8 (by omega)
        have hv9 := hcb (w.heap.size + 1) 9 (by omega)
        rw [hW2] at hw0 hw1 hw2 hv0 hv1 hv2 hv3 hv4 hv5 hv6 hv7 hv8 hv9
        simp [go_sem] at hw0 hw1 hw2 hv0 hv1 hv2 hv3 hv4 hv5 hv6 hv7 hv8 hv9
        clear hcb hfb
        by_cases hlt : k < args.length
        · have hlt' : (k : Int) < (args.length : Int) := by omega
          obtain ⟨x, hx⟩ : ∃ x, args[k]? = some x := ⟨_, List.getElem?_eq_getElem hlt⟩
          have hdr : args.drop k = x :: args.drop (k + 1) := by
            rw [List.drop_eq_getElem_cons hlt]
            have := List.getElem?_eq_getElem hlt
            rw [hx] at this; injection this with this; rw [this]
          have HA2 := HA.out
          rw [hdr, condEL] at HA2
          obtain ⟨op', args', ⟨lc', lt', ln', ls'⟩, ⟨rc', rt', rn', rs'⟩⟩ := x
          obtain ⟨b, off, A', c', rfl, hPb, hb, ⟨k0, k1, k2, k3, k4, k5, k6, k7, k8, k9⟩, hvx⟩ := (CVL.keep (Kp.below HBW) HL.out).elem hx
          have IHx := Lib.hid (fun cs W hb hv => IH.out k _ hx cs W hb hv)
          have HVX := Lib.hid hvx
          dsimp only [condC, termC, List.cons_append, List.nil_append] at HVX
          generalize condE s (.mk op' args' ⟨lc', lt', ln', ls'⟩ ⟨rc', rt', rn', rs'⟩) = ex at *
          clear hx hvx hdr HA
          by_cases hex : ex = 0
          · rw [if_neg (by simp [hex])] at HA2
            have HA3 := Lib.hid HA2
            have e1 : (ex != 0) = false := by simp [hex]
            clear hex HA2
            go_wp2_with (first | (go_at_call 75; (with_reducible refine (IHx.out _ _ (by repeat (first | (with_reducible exact HBW) | (with_reducible refine Below.alloc ?_ (by first | (simp; done) | (simp; omega) | omega) _))) (HVX.out.keep ((Kp.refl _ _).alloc _))).mono ?_); rintro e w3 ⟨rfl, hb3⟩; have hB3 : Below w.heap.size w w3 := (by refine Below.trans ?_ (hb3.mono (by first | (simp; done) | (simp; omega) | omega)); repeat (first | (with_reducible exact HBW) | (with_reducible refine Below.alloc ?_ (by first | (simp; done) | (simp; omega) | omega) _))); have hD3 : Below (w.heap.size + 2) W2 w3 := (by refine Below.trans ?_ (hb3.mono (by first | (simp; done) | (simp; omega) | omega)); repeat (first | (with_reducible exact HB.out) | (with_reducible refine Below.alloc ?_ (by first | (simp; done) | (simp; omega) | omega) _)))))
            go_roundw
            case rel => exact ⟨k + 1, by omega, by go_num, HA3, Lib.hid hD3⟩
            case measure => first | (simp [intOf]; done) | (simp [intOf]; omega)
          · rw [if_pos (by simp [hex])] at HA2
            have e1 : (ex != 0) = true := by simp [hex]
            rw [HA2, if_pos hex] at HQQ
            clear hex HA2
            go_wp2_with (first | (go_at_call 75; (with_reducible refine (IHx.out _ _ (by repeat (first | (with_reducible exact HBW) | (with_reducible refine Below.alloc ?_ (by first | (simp; done) | (simp; omega) | omega) _))) (HVX.out.keep ((Kp.refl _ _).alloc _))).mono ?_); rintro e w3 ⟨rfl, hb3⟩; have hB3 : Below w.heap.size w w3 := (by refine Below.trans ?_ (hb3.mono (by first | (simp; done) | (simp; omega) | omega)); repeat (first | (with_reducible exact HBW) | (with_reducible refine Below.alloc ?_ (by first | (simp; done) | (simp; omega) | omega) _))); have hD3 : Below (w.heap.size + 2) W2 w3 := (by refine Below.trans ?_ (hb3.mono (by first | (simp; done) | (simp; omega) | omega)); repeat (first | (with_reducible exact HB.out) | (with_reducible refine Below.alloc ?_ (by first | (simp; done) | (simp; omega) | omega) _)))))
            exact HQQ.out _ _ ⟨rfl, hB3⟩
        · obtain rfl : k = args.length := by omega
          have hkk : ¬ (args.length : Int) < (args.length : Int) := by omega
          have hz := HA.out
          rw [List.drop_length, condEL] at hz
          rw [if_neg (by simp [hz])] at HQQ
          clear hz HA HEL IH HL
          cases hc : cmpB op with
          | false =>
            rw [hc] at CM HQQ
            rw [if_pos rfl] at HQQ
            clear hc
            go_wp2_with (first | (go_at_call 89; (with_reducible refine (CM.out _).mono ?_); rintro e w5 ⟨rfl, h5⟩; subst h5))
            exact HQQ.out _ _ ⟨rfl, HBW⟩
          | true =>
            rw [hc] at CM HQQ
            rw [if_neg (by simp)] at HQQ
            clear hc
            go_wp2_with (first | (go_at_call 89; (with_reducible refine (CM.out _).mono ?_); rintro e w5 ⟨rfl, h5⟩; subst h5))
            obtain ⟨n0, hn0⟩ : ∃ n, wo.heap.size = n := ⟨_, rfl⟩
            have HN0 := Lib.hid hn0
            have hn1 : w.heap.size + 1 < n0 := by omega
            obtain ⟨W3, hW3⟩ : ∃ W3, W3 = wo.alloc (.cells #[.string U1, .int .i64 lt, .int .i64 ln, .string U2, .string U3, .int .i64 rt, .int .i64 rn, .string U4] 25) := ⟨_, rfl⟩
            have HW3 : Below w.heap.size w W3 := by rw [hW3]; exact HBW.alloc (by omega) _
            have hs3 : W3.heap.size = n0 + 1 := by rw [hW3]; simp [hn0]
            have g0 : ∀ b o, b < n0 → W3.cell? ⟨b, o, none⟩ = wo.cell? ⟨b, o, none⟩ := fun b o hb => by rw [hW3]; exact (bcell ((Below.refl _ wo).alloc (Nat.le_refl _) _)).1 b o (by omega)
            have gw0 := (g0 w.heap.size 0 (by omega)).trans hw0
            have gw1 := (g0 w.heap.size 1 (by omega)).trans hw1
            have gw2 := (g0 w.heap.size 2 (by omega)).trans hw2
            have gv0 := (g0 (w.heap.size + 1) 0 (by omega)).trans hv0
            have gv1 := (g0 (w.heap.size + 1) 1 (by omega)).trans hv1
            have gv2 := (g0 (w.heap.size + 1) 2 (by omega)).trans hv2
            have gv3 := (g0 (w.heap.size + 1) 3 (by omega)).trans hv3
            have gv4 := (g0 (w.heap.size + 1) 4 (by omega)).trans hv4
            have gv5 := (g0 (w.heap.size + 1) 5 (by omega)).trans hv5
            have gv6 := (g0 (w.heap.size + 1) 6 (by omega)).trans hv6
            have gv7 := (g0 (w.heap.size + 1) 7 (by omega)).trans hv7
            have gv8 := (g0 (w.heap.size + 1) 8 (by omega)).trans hv8
            have gv9 := (g0 (w.heap.size + 1) 9 (by omega)).trans hv9
            have hT3 : W3.heap[n0]? = some (.cells #[.string U1, .int .i64 lt, .int .i64 ln, .string U2, .string U3, .int .i64 rt, .int .i64 rn, .string U4] 25 (0, 0)) := by rw [hW3]; exact heap_alloc_at hn0
            rw [hn0]
            clear hn0 HB HBW hso0 hso hw0 hw1 hw2 hv0 hv1 hv2 hv3 hv4 hv5 hv6 hv7 hv8 hv9 g0
            rw [← hW3]
            go_loopw [8, 40] (fun tv j wr => ∃ (k : Nat) (V : Value), k ≤ 2 ∧ j = .int .i64 k ∧ V = tv ∧ (0 < k → li = true) ∧ (1 < k → ri = true) ∧ Hid (wr.ownsRow (n0 + 1) 3 1 V k ([.int .i64 lv, .int .i64 rv].take k)) ∧ Hid (Below (n0 + 1) W3 wr)) (fun _ j _ => 2 - (intOf j).toNat)
            case atStart => exact ⟨0, _, by omega, rfl, rfl, fun h => by omega, fun h => by omega, Lib.hid (World.ownsRow_nil _ _ _ _), Lib.hid (Below.refl _ _)⟩
            case round =>
              obtain ⟨k, V, hk, rfl, hV, hli, hri, HR, HB⟩ := hrel
              subst hV
              obtain ⟨wo, rfl⟩ : ∃ wo : World, wo = wr := ⟨_, rfl⟩
              have HBW : Below w.heap.size w wo := HW3.trans (HB.out.mono (by omega))
              have hso : n0 + 1 ≤ wo.heap.size := by have := HB.out.size; omega
              have hs1 : w.heap.size < wo.heap.size ∧ w.heap.size + 1 < wo.heap.size ∧ n0 < wo.heap.size := by omega
              have f0 : ∀ b o, b < n0 + 1 → wo.cell? ⟨b, o, none⟩ = W3.cell? ⟨b, o, none⟩ := fun b o hb => (bcell (W := W3) (w1 := wo) (by rw [hs3]; exact HB.out)).1 b o (by omega)
              have iw0 := (f0 w.heap.size 0 (by omega)).trans gw0
              have iw1 := (f0 w.heap.size 1 (by omega)).trans gw1
              have iw2 := (f0 w.heap.size 2 (by omega)).trans gw2
              have iv0 := (f0 (w.heap.size + 1) 0 (by omega)).trans gv0
              have iv1 := (f0 (w.heap.size + 1) 1 (by omega)).trans gv1
              have iv2 := (f0 (w.heap.size + 1) 2 (by omega)).trans gv2
              have iv3 := (f0 (w.heap.size + 1) 3 (by omega)).trans gv3
              have iv4 := (f0 (w.heap.size + 1) 4 (by omega)).trans gv4
              have iv5 := (f0 (w.heap.size + 1) 5 (by omega)).trans gv5
              have iv6 := (f0 (w.heap.size + 1) 6 (by omega)).trans gv6
              have iv7 := (f0 (w.heap.size + 1) 7 (by omega)).trans gv7
              have iv8 := (f0 (w.heap.size + 1) 8 (by omega)).trans gv8
              have iv9 := (f0 (w.heap.size + 1) 9 (by omega)).trans gv9
              have hB3 : wo.heap[n0]? = _ := (HB.out.block n0 (by omega)).trans hT3
              obtain ⟨it0, -⟩ := qbox (l := [.string U1, .int .i64 lt, .int .i64 ln, .string U2, .string U3, .int .i64 rt, .int .i64 rn, .string U4]) hB3 0 _ rfl
              obtain ⟨it1, -⟩ := qbox (l := [.string U1, .int .i64 lt, .int .i64 ln, .string U2, .string U3, .int .i64 rt, .int .i64 rn, .string U4]) hB3 1 _ rfl
              obtain ⟨it2, -⟩ := qbox (l := [.string U1, .int .i64 lt, .int .i64 ln, .string U2, .string U3, .int .i64 rt, .int .i64 rn, .string U4]) hB3 2 _ rfl
              obtain ⟨it3, -⟩ := qbox (l := [.string U1, .int .i64 lt, .int .i64 ln, .string U2, .string U3, .int .i64 rt, .int .i64 rn, .string U4]) hB3 3 _ rfl
              obtain ⟨it4, -⟩ := qbox (l := [.string U1, .int .i64 lt, .int .i64 ln, .string U2, .string U3, .int .i64 rt, .int .i64 rn, .string U4]) hB3 4 _ rfl
              obtain ⟨it5, -⟩ := qbox (l := [.string U1, .int .i64 lt, .int .i64 ln, .string U2, .string U3, .int .i64 rt, .int .i64 rn, .string U4]) hB3 5 _ rfl
              obtain ⟨it6, -⟩ := qbox (l := [.string U1, .int .i64 lt, .int .i64 ln, .string U2, .string U3, .int .i64 rt, .int .i64 rn, .string U4]) hB3 6 _ rfl
              obtain ⟨it7, -⟩ := qbox (l := [.string U1, .int .i64 lt, .int .i64 ln, .string U2, .string U3, .int .i64 rt, .int .i64 rn, .string U4]) hB3 7 _ rfl
              clear f0 hB3
              have hk3 : k = 0 ∨ k = 1 ∨ k = 2 := by omega
              rcases hk3 with rfl | rfl | rfl
              · have HO : Hid (wo.ownsRow (n0 + 1) 3 1 V 0 []) := HR
                by_cases hz : lt = 0
                · have e1 : (lt == 0) = true := by simp [hz]
                  obtain ⟨hv', hi'⟩ : lv = ltT ∧ li = ltI := by have := HLV.out; rwa [if_pos hz] at this
                  subst hv' hi'
                  cases li with
                  | false =>
                    have hE : tE = 23 := by rw [HTE.out, if_pos rfl]
                    clear hz HLV HRV HTE
                    subst hE
                    go_wp2_with (first | (go_at_call 35; (with_reducible refine (TL.out _ (by repeat (first | (with_reducible exact HBW) | (with_reducible refine Below.alloc ?_ (by first | (simp; done) | (simp; omega) | omega) _)))).mono ?_); rintro e w6 ⟨rfl, hb6⟩; obtain ⟨hc6, hf6⟩ := bcell hb6; (try simp only [drew_size, drew_cell, drew_frozen, World.size_alloc, World.size_setCell] at hc6 hf6); have hz6 : w.heap.size < w6.heap.size ∧ wo.heap.size < w6.heap.size ∧ w.heap.size + 1 < w6.heap.size ∧ n0 < w6.heap.size := (by have := hb6.size; (try simp at this); omega); have hB6 : Below w.heap.size w w6 := (by refine Below.trans ?_ (hb6.mono (by first | (simp; done) | (simp; omega) | omega)); repeat (first | (with_reducible exact HBW) | (with_reducible refine Below.alloc ?_ (by first | (simp; done) | (simp; omega) | omega) _))); have hD6 : Below (n0 + 1) W3 w6 := (by refine Below.trans ?_ (hb6.mono (by first | (simp; done) | (simp; omega) | omega)); repeat (first | (with_reducible exact HB.out) | (with_reducible refine Below.alloc ?_ (by first | (simp; done) | (simp; omega) | omega) _))); have HO6 := Lib.hid (own_below (own_alloc HO.out _) hb6)))
                    exact HQQ.out _ _ ⟨rfl, hB6⟩
                  | true =>
                    clear hz HLV
                    go_wp2_with (first | (go_at_call 35; (with_reducible refine (TL.out _ (by repeat (first | (with_reducible exact HBW) | (with_reducible refine Below.alloc ?_ (by first | (simp; done) | (simp; omega) | omega) _)))).mono ?_); rintro e w6 ⟨rfl, hb6⟩; obtain ⟨hc6, hf6⟩ := bcell hb6; (try simp only [drew_size, drew_cell, drew_frozen, World.size_alloc, World.size_setCell] at hc6 hf6); have hz6 : w.heap.size < w6.heap.size ∧ wo.heap.size < w6.heap.size ∧ w.heap.size + 1 < w6.heap.size ∧ n0 < w6.heap.size := (by have := hb6.size; (try simp at this); omega); have hB6 : Below w.heap.size w w6 := (by refine Below.trans ?_ (hb6.mono (by first | (simp; done) | (simp; omega) | omega)); repeat (first | (with_reducible exact HBW) | (with_reducible refine Below.alloc ?_ (by first | (simp; done) | (simp; omega) | omega) _))); have hD6 : Below (n0 + 1) W3 w6 := (by refine Below.trans ?_ (hb6.mono (by first | (simp; done) | (simp; omega) | omega)); repeat (first | (with_reducible exact HB.out) | (with_reducible refine Below.alloc ?_ (by first | (simp; done) | (simp; omega) | omega) _))); have HO6 := Lib.hid (own_below (own_alloc HO.out _) hb6)) | (at_builtin; refine wpList_append_lies _ rfl _ _ _ rfl (n0 + 1) 3 i _ 1 8 Tryz.underlying157 hi iz0 iz1 iz2 rfl (by decide) V (0) _ rfl (HO6.out.alloc _) ⟨w6.heap.size, 0, none⟩ 1 1 [.int .i64 lv] rfl rfl (World.news_of_block (cs := #[.int .i64 lv]) (t := 3) (fr := (0, 0)) (heap_alloc_new w6 _)) (by simp [Value.oneCell']) (by omega) (by unfold maxLen; omega) (by omega) (by simp; omega) (w6.heap.size + 1) (by simp) ?_; intro gg cap w1' hown1 hgrow hat hlt'))
                    go_roundw
                    case rel => exact ⟨1, _, by omega, rfl, rfl, fun _ => (by first | rfl | trivial), fun h => by omega, Lib.hid hown1, Lib.hid (below_push hD6 (by omega) hgrow (fun j hj => (HO6.out.lt j hj).1))⟩
                    case measure => first | (simp [intOf]; done) | (simp [intOf]; omega)
                · have e1 : (lt == 0) = false := by simp [hz]
                  obtain ⟨hv', hi'⟩ : lv = lt ∧ li = true := by have := HLV.out; rwa [if_neg hz] at this
                  subst hv' hi'
                  clear hz HLV
                  go_wp2_with (first | (at_builtin; refine wpList_append_lies _ rfl _ _ _ rfl (n0 + 1) 3 i _ 1 8 Tryz.underlying157 hi iz0 iz1 iz2 rfl (by decide) V 0 _ rfl ((own_alloc HO.out (.cells #[.string U1, .int .i64 lv, .int .i64 ln, .string U2] 25)).alloc _) ⟨wo.heap.size + 1, 0, none⟩ 1 1 [.int .i64 lv] rfl rfl (World.news_of_block (cs := #[.int .i64 lv]) (t := 3) (fr := (0, 0)) (heap_alloc_at (by simp))) (by simp [Value.oneCell']) (by omega) (by unfold maxLen; omega) (by omega) (by simp; omega) (wo.heap.size + 1 + 1) (by simp) ?_; intro gg cap w1' hown1 hgrow hat hlt'))
                  go_roundw
                  case rel => exact ⟨1, _, by omega, rfl, rfl, fun _ => (by first | rfl | trivial), fun h => by omega, Lib.hid hown1, Lib.hid (below_push (HB.out.alloc (by omega) _) (by simp; omega) hgrow (fun j hj => (HO.out.lt j hj).1))⟩
                  case measure => first | (simp [intOf]; done) | (simp [intOf]; omega)
              · have HO : Hid (wo.ownsRow (n0 + 1) 3 1 V 1 [.int .i64 lv]) := HR
                have hlt := hli (by omega)
                by_cases hz : rt = 0
                · have e1 : (rt == 0) = true := by simp [hz]
                  obtain ⟨hv', hi'⟩ : rv = rtT ∧ ri = rtI := by have := HRV.out; rwa [if_pos hz] at this
                  subst hv' hi'
                  cases ri with
                  | false =>
                    have hE : tE = 23 := by rw [HTE.out, hlt, if_neg (by decide), if_pos rfl]
                    clear hz HLV HRV HTE hlt
                    subst hE
                    go_wp2_with (first | (go_at_call 35; (with_reducible refine (TR.out _ (by repeat (first | (with_reducible exact HBW) | (with_reducible refine Below.alloc ?_ (by first | (simp; done) | (simp; omega) | omega) _)))).mono ?_); rintro e w6 ⟨rfl, hb6⟩; obtain ⟨hc6, hf6⟩ := bcell hb6; (try simp only [drew_size, drew_cell, drew_frozen, World.size_alloc, World.size_setCell] at hc6 hf6); have hz6 : w.heap.size < w6.heap.size ∧ wo.heap.size < w6.heap.size ∧ w.heap.size + 1 < w6.heap.size ∧ n0 < w6.heap.size := (by have := hb6.size; (try simp at this); omega); have hB6 : Below w.heap.size w w6 := (by refine Below.trans ?_ (hb6.mono (by first | (simp; done) | (simp; omega) | omega)); repeat (first | (with_reducible exact HBW) | (with_reducible refine Below.alloc ?_ (by first | (simp; done) | (simp; omega) | omega) _))); have hD6 : Below (n0 + 1) W3 w6 := (by refine Below.trans ?_ (hb6.mono (by first | (simp; done) | (simp; omega) | omega)); repeat (first | (with_reducible exact HB.out) | (with_reducible refine Below.alloc ?_ (by first | (simp; done) | (simp; omega) | omega) _))); have HO6 := Lib.hid (own_below (own_alloc HO.out _) hb6)))
                    exact HQQ.out _ _ ⟨rfl, hB6⟩
                  | true =>
                    clear hz HRV
                    go_wp2_with (first | (go_at_call 35; (with_reducible refine (TR.out _ (by repeat (first | (with_reducible exact HBW) | (with_reducible refine Below.alloc ?_ (by first | (simp; done) | (simp; omega) | omega) _)))).mono ?_); rintro e w6 ⟨rfl, hb6⟩; obtain ⟨hc6, hf6⟩ := bcell hb6; (try simp only [drew_size, drew_cell, drew_frozen, World.size_alloc, World.size_setCell] at hc6 hf6); have hz6 : w.heap.size < w6.heap.size ∧ wo.heap.size < w6.heap.size ∧ w.heap.size + 1 < w6.heap.size ∧ n0 < w6.heap.size := (by have := hb6.size; (try simp at this); omega); have hB6 : Below w.heap.size w w6 := (by refine Below.trans ?_ (hb6.mono (by first | (simp; done) | (simp; omega) | omega)); repeat (first | (with_reducible exact HBW) | (with_reducible refine Below.alloc ?_ (by first | (simp; done) | (simp; omega) | omega) _))); have hD6 : Below (n0 + 1) W3 w6 := (by refine Below.trans ?_ (hb6.mono (by first | (simp; done) | (simp; omega) | omega)); repeat (first | (with_reducible exact HB.out) | (with_reducible refine Below.alloc ?_ (by first | (simp; done) | (simp; omega) | omega) _))); have HO6 := Lib.hid (own_below (own_alloc HO.out _) hb6)) | (at_builtin; refine wpList_append_lies _ rfl _ _ _ rfl (n0 + 1) 3 i _ 1 8 Tryz.underlying157 hi iz0 iz1 iz2 rfl (by decide) V (1) _ rfl (HO6.out.alloc _) ⟨w6.heap.size, 0, none⟩ 1 1 [.int .i64 rv] rfl rfl (World.news_of_block (cs := #[.int .i64 rv]) (t := 3) (fr := (0, 0)) (heap_alloc_new w6 _)) (by simp [Value.oneCell']) (by omega) (by unfold maxLen; omega) (by omega) (by simp; omega) (w6.heap.size + 1) (by simp) ?_; intro gg cap w1' hown1 hgrow hat hlt'))
                    go_roundw
                    case rel => exact ⟨2, _, by omega, rfl, rfl, fun _ => hlt, fun _ => (by first | rfl | trivial), Lib.hid hown1, Lib.hid (below_push hD6 (by omega) hgrow (fun j hj => (HO6.out.lt j hj).1))⟩
                    case measure => first | (simp [intOf]; done) | (simp [intOf]; omega)
                · have e1 : (rt == 0) = false := by simp [hz]
                  obtain ⟨hv', hi'⟩ : rv = rt ∧ ri = true := by have := HRV.out; rwa [if_neg hz] at this
                  subst hv' hi'
                  clear hz HRV
                  go_wp2_with (first | (at_builtin; refine wpList_append_lies _ rfl _ _ _ rfl (n0 + 1) 3 i _ 1 8 Tryz.underlying157 hi iz0 iz1 iz2 rfl (by decide) V 1 _ rfl ((own_alloc HO.out (.cells #[.string U3, .int .i64 rv, .int .i64 rn, .string U4] 25)).alloc _) ⟨wo.heap.size + 1, 0, none⟩ 1 1 [.int .i64 rv] rfl rfl (World.news_of_block (cs := #[.int .i64 rv]) (t := 3) (fr := (0, 0)) (heap_alloc_at (by simp))) (by simp [Value.oneCell']) (by omega) (by unfold maxLen; omega) (by omega) (by simp; omega) (wo.heap.size + 1 + 1) (by simp) ?_; intro gg cap w1' hown1 hgrow hat hlt'))
                  go_roundw
                  case rel => exact ⟨2, _, by omega, rfl, rfl, fun _ => hlt, fun _ => (by first | rfl | trivial), Lib.hid hown1, Lib.hid (below_push (HB.out.alloc (by omega) _) (by simp; omega) hgrow (fun j hj => (HO.out.lt j hj).1))⟩
                  case measure => first | (simp [intOf]; done) | (simp [intOf]; omega)
              · have HO : Hid (wo.ownsRow (n0 + 1) 3 1 V 2 [.int .i64 lv, .int .i64 rv]) := HR
                have hE : tE = if lv ≠ rv then 13 else 0 := by rw [HTE.out, hli (by omega), hri (by omega), if_neg (by decide), if_neg (by decide)]
                obtain ⟨g, cp, rfl⟩ : ∃ g cp, V = .slice (some ⟨g, 0, none⟩) 2 cp := by
                  rcases HO.out.2 with ⟨-, h0⟩ | ⟨g, cap, cur, e, -⟩
                  · cases h0
                  · exact ⟨g, cap, e⟩
                have z0 : wo.cell? ⟨g, 0, none⟩ = some (.int .i64 lv) := by have h := HO.out.cells (g := g) rfl 0 _ rfl; rw [addr_off] at h; exact h
                have z1 : wo.cell? ⟨g, 1, none⟩ = some (.int .i64 rv) := by have h := HO.out.cells (g := g) rfl 1 _ rfl; rw [addr_off] at h; exact h
                have hgw : g < wo.heap.size := World.block_lt_of_cell? wo _ z0
                have hii : ¬ (2 : Int) < 2 := by decide
                clear HR HO HLV HRV HTE hli hri
                by_cases hq : lv = rv
                · rw [if_neg (by simp [hq])] at hE
                  have e1 : (lv != rv) = false := by simp [hq]
                  clear hq
                  subst hE
                  go_upto_region 23 with (fail)
                  refine name_world ?_; intro W6 hW6; have kW6 : W6.cell? ⟨g, 0, none⟩ = some (.int .i64 lv) ∧ W6.cell? ⟨g, 1, none⟩ = some (.int .i64 rv) ∧ g < W6.heap.size ∧ Below w.heap.size w W6 := by { rw [hW6]; exact (by refine ⟨?_, ?_, ?_, ?_⟩ <;> first | (simp [go_sem, *]; done) | omega | (simp; omega) | exact (by repeat (first | exact Below.refl _ _ | refine Below.setCell ?_ (by first | (simp; done) | (simp; omega) | omega) _ | refine Below.alloc ?_ (by first | (simp; done) | (simp; omega) | omega) _ | refine Below.drew ?_ | assumption | refine Below.trans ?_ (Below.mono (by assumption) (by first | (simp; done) | (simp; omega) | omega))))) }; clear hW6; obtain ⟨cW6_0, cW6_1, zW6_0, bW6⟩ := kW6
                  have gc0 := grown_cell cW6_0; have gc1 := grown_cell cW6_1; have gz0 := grown_size zW6_0; refine wp_region_quiet_below (by kernel_rfl) (by kernel_rfl) ?_; (try simp only [List.take_succ_cons, List.take_zero]); (repeat (any_goals (first | go_big_quiet_step (fail) | quiet_step (fail)))); refine wpQuiet_nil ?_; intro _ hw'; obtain ⟨⟨dq, osq⟩, hw''⟩ := hw'; subst hw''; have kW7 : (grow (redrawn W6 dq) osq).cell? ⟨g, 0, none⟩ = some (.int .i64 lv) ∧ (grow (redrawn W6 dq) osq).cell? ⟨g, 1, none⟩ = some (.int .i64 rv) ∧ g < (grow (redrawn W6 dq) osq).heap.size ∧ Below w.heap.size w (grow (redrawn W6 dq) osq) := ⟨gc0 dq osq, gc1 dq osq, gz0 dq osq, bW6.trans ((below_regrown W6 dq osq).mono bW6.size)⟩; clear gc0 gc1 gz0 cW6_0 cW6_1 zW6_0 bW6; generalize grow (redrawn W6 dq) osq = W7 at *; obtain ⟨cW7_0, cW7_1, zW7_0, bW7⟩ := kW7
                  go_wp2_with (fail)
                  exact HQQ.out _ _ ⟨rfl, bW7⟩
                · rw [if_pos hq] at hE
                  have e1 : (lv != rv) = true := by simp [hq]
                  clear hq
                  subst hE
                  go_upto_region 23 with (fail)
                  refine name_world ?_; intro W6 hW6; have kW6 : W6.cell? ⟨g, 0, none⟩ = some (.int .i64 lv) ∧ W6.cell? ⟨g, 1, none⟩ = some (.int .i64 rv) ∧ g < W6.heap.size ∧ Below w.heap.size w W6 := by { rw [hW6]; exact (by refine ⟨?_, ?_, ?_, ?_⟩ <;> first | (simp [go_sem, *]; done) | omega | (simp; omega) | exact (by repeat (first | exact Below.refl _ _ | refine Below.setCell ?_ (by first | (simp; done) | (simp; omega) | omega) _ | refine Below.alloc ?_ (by first | (simp; done) | (simp; omega) | omega) _ | refine Below.drew ?_ | assumption | refine Below.trans ?_ (Below.mono (by assumption) (by first | (simp; done) | (simp; omega) | omega))))) }; clear hW6; obtain ⟨cW6_0, cW6_1, zW6_0, bW6⟩ := kW6
                  have gc0 := grown_cell cW6_0; have gc1 := grown_cell cW6_1; have gz0 := grown_size zW6_0; refine wp_region_quiet_below (by kernel_rfl) (by kernel_rfl) ?_; (try simp only [List.take_succ_cons, List.take_zero]); (repeat (any_goals (first | go_big_quiet_step (fail) | quiet_step (fail)))); refine wpQuiet_nil ?_; intro _ hw'; obtain ⟨⟨dq, osq⟩, hw''⟩ := hw'; subst hw''; have kW7 : (grow (redrawn W6 dq) osq).cell? ⟨g, 0, none⟩ = some (.int .i64 lv) ∧ (grow (redrawn W6 dq) osq).cell? ⟨g, 1, none⟩ = some (.int .i64 rv) ∧ g < (grow (redrawn W6 dq) osq).heap.size ∧ Below w.heap.size w (grow (redrawn W6 dq) osq) := ⟨gc0 dq osq, gc1 dq osq, gz0 dq osq, bW6.trans ((below_regrown W6 dq osq).mono bW6.size)⟩; clear gc0 gc1 gz0 cW6_0 cW6_1 zW6_0 bW6; generalize grow (redrawn W6 dq) osq = W7 at *; obtain ⟨cW7_0, cW7_1, zW7_0, bW7⟩ := kW7
                  go_wp2_with (fail)
                  exact HQQ.out _ _ ⟨rfl, bW7⟩
end Go.Proofs.YtijlifdbjhieaaaGreatDoor
