/-
  Contract of the reader's not. (Printed by tools/mkdk3.py.)
-/
import Derived.Test.YtnjlggleaocbdaaGreatDoorDk3
namespace Go.Proofs.YtnjlggleaocbdaaGreatDoor
set_option linter.all false
open Go.RowKit Go.Shelf
attribute [local go_sem] cell_set_self lt_1 lt_2 lt_3 lt_4 lt_5 lt_6 fld_k fld_s fld_n fld_p

theorem six_at {j : Nat} (h : j < 6) : ∃ oi, opsCmp[j]? = some oi ∧ opsCmp.getD j 0 = oi := by
  have hl : opsCmp.length = 6 := rfl
  refine ⟨opsCmp[j]'(by omega), List.getElem?_eq_getElem _, ?_⟩
  rw [List.getD_eq_getElem?_getD, List.getElem?_eq_getElem (by omega)]; rfl
set_option maxHeartbeats 16000000 in
set_option maxRecDepth 100000 in
theorem not_step (rb gt f : Nat) (ih : ExprOk rb gt f) (r : List Tok) (w : World) (hf : 6 * r.length + 6 ≤ f + 1 + 2) (R : RdR w rb gt r) (hE : EndsT r) (hS : ShortT r) :
    Calls Tryz.prog 84 #[.pointer (some ⟨rb, 0, none⟩)] w (POut rb gt w (encE w) (exprF (f + 1) 2 r)) := by
  suffices key : ∀ Q : Ending → World → Prop, Hid (∀ e w', POut rb gt w (encE w) (exprF (f + 1) 2 r) e w' → Q e w') → Calls Tryz.prog 84 #[.pointer (some ⟨rb, 0, none⟩)] w Q from key _ (Lib.hid fun _ _ h => h)
  intro Q HQQ
  have hc : exprF (f + 1) 2 r = match mayF wNot r with
    | some r => (exprF f 2 r).bind fun c r' => .ok (.mk 8 0 [] [c]) r'
    | none => (exprF f 3 r).bind fun c r => match oneF (opsCmp.map signX) 0 r with
      | none => .ok c r
      | some (i, r') => (exprF f 3 r').bind fun d r'' => .ok (.mk (opsCmp.getD i 0) 0 [] [c, d]) r'' := rfl
  obtain ⟨X, hX⟩ : ∃ X, exprF (f + 1) 2 r = X := ⟨_, rfl⟩
  rw [hX] at HQQ hc
  obtain ⟨hrb, hgt, hgr⟩ := R.lens
  have hn0 : ¬ w.heap.size = rb ∧ ¬ rb = w.heap.size ∧ ¬ w.heap.size = gt := by omega
  have MY := Lib.hid (fun s r hr W R' => may_any rb gt s r hr W R')
  have HR := Lib.hid R
  have HES := Lib.hid (And.intro hE hS)
  have IH := Lib.hid ih
  clear hX ih R hE hS
  have MY1 := Lib.hid (fun W R' => MY.out wNot r HES.out.1.ne W R')
  cases hm : mayF wNot r with
  | some r1 =>
    have hml := may_len hm
    have CN0 := fun W R' => IH.out.2.2.1 r1 W (by omega) R' (may_ends hm HES.out.1) (hml.2 HES.out.2)
    rw [(may_yes hm).1, (may_yes hm).2] at MY1
    rw [hm] at hc
    dsimp only at hc
    generalize exprF f 2 r1 = Y at *
    have CN := Lib.hid CN0
    clear CN0 hm hml hf
    go_enter Tryz.func84, Tryz.ntmps84
    go_wp2_with (first | (go_at_call 72; (with_reducible refine (MY1.out _ (HR.out.alloc _)).mono ?_); rintro e w3 ⟨rfl, hR3, hg3⟩; have hs3 := hg3.size; (try simp at hs3)))
    have hg3' : Gr w.heap.size rb w w3 := ((Gr.refl _ _ _).alloc (Nat.le_refl _) _).trans hg3 (by simp)
    have hz3 : w3.heap[w.heap.size]? = some (.cells zeroE 24) := (hg3.block _ (by simp) hn0.1).trans (heap_alloc_new w _)
    go_at_call 84
    refine (CN.out _ hR3).mono ?_
    rintro e w5 hP
    cases Y with
    | no p er =>
      obtain ⟨rfl, hg5⟩ := hP
      have HN : Hid (X = PR.no p er) := Lib.hid hc
      clear hc
      go_wp2
      exact ⟨rfl, HQQ.out _ _ (by rw [HN.out]; exact ⟨rfl, hg3'.trans hg5 (by omega)⟩)⟩
    | ok c r5 =>
      obtain ⟨A5, cc5, rfl, hv5, hR5, hg5⟩ := pout_ok hP
      clear hP CN
      obtain ⟨op5, nn5, ss5, args5⟩ := c
      dsimp only [exprC, ExprT.op, ExprT.n, ExprT.s, ExprT.args, List.cons_append, List.nil_append] at hv5 ⊢
      have hs5 := hg5.size
      have hz8 : w5.heap[w.heap.size]? = some (.cells zeroE 24) := (hg5.block _ (by omega) hn0.1).trans hz3
      obtain ⟨⟨z0, z1, z2, z3⟩, zf⟩ := four_cells hz8
      have HN : Hid (X = PR.ok (.mk 8 0 [] [(.mk op5 nn5 ss5 args5)]) r5) := Lib.hid hc
      have hzl : w.heap.size < w5.heap.size := by omega
      clear hz8 hz3 hc
      go_wp2
      have hg5' : Gr w.heap.size rb w w5 := hg3'.trans hg5 (by omega)
      have hR5' := hR5.out
      exact bodyPost_ret (v := .agg #[.int .i64 8, .int .i64 0, .string ⟨#[]⟩, .slice (some ⟨w5.heap.size, 0, none⟩) 1 1]) (by simp [results, Tryz.results84, go_sem, *]) rfl (HQQ.out _ _ (by rw [HN.out]; exact ⟨⟨_, rfl, [.int .i64 8, .int .i64 0, .string ⟨#[]⟩, .slice (some ⟨w5.heap.size, 0, none⟩) 1 1], rfl, (by
        have kv := (hv5.out.mono (P' := fun b => w.heap.size < b) (fun b h1 h2 => by omega))
        unfold EV
        refine ⟨_, _, rfl, ⟨Nat.le_refl _, by simp⟩, (fun h => by cases h), EVL.one (cx := [.int .i64 op5, .int .i64 nn5, .string ⟨ss5.toArray⟩, .slice A5 args5.length cc5]) (by omega) ?_ ((kv.keep (by repeat (first | (with_reducible exact Kp.refl _ _) | (with_reducible assumption) | ((with_reducible refine Kp.set ?_ ?hq1 _); (case hq1 => (first | (simp; done) | (simp; omega) | (dsimp only; omega)))) | (with_reducible refine Kp.alloc ?_ _) | (with_reducible refine Kp.drew ?_) | refine Kp.trans ?_ (Kp.gr (by assumption) (by first | (simp; done) | (simp; omega) | (dsimp only; omega)))))).mono (fun b h1 h2 => by omega))⟩
        exact heap_alloc_at (by simp))⟩, (by repeat (first | (with_reducible exact hR5') | ((with_reducible refine RdR.setCell ?_ ?hq1 ?hq2 _); (case hq1 => (first | (simp; done) | (simp; omega) | omega)); (case hq2 => (first | (simp; done) | (simp; omega) | omega))) | (with_reducible refine RdR.alloc ?_ _) | (with_reducible refine RdR.drew ?_) | refine RdR.below ?_ (by assumption))), (by repeat (first | (with_reducible exact Gr.refl _ _ _) | (with_reducible assumption) | ((with_reducible refine Gr.setCell ?_ ?hq1 _); (case hq1 => (first | (right; rfl) | (left; (first | (simp; done) | (simp; omega) | omega))))) | ((with_reducible refine Gr.alloc ?_ ?hq1 _); (case hq1 => (first | (simp; done) | (simp; omega) | omega))) | (with_reducible refine Gr.drew ?_) | exact Gr.of_below (by assumption) | refine Gr.trans ?_ (by assumption) (by first | (simp; done) | (simp; omega) | omega) | refine Gr.below ?_ (by assumption) (by first | (simp; done) | (simp; omega) | omega)))⟩))
  | none =>
    rw [hm] at hc
    dsimp only at hc
    rw [(may_no hm).1, (may_no hm).2] at MY1
    have SN := Lib.hid (fun r' W (h : r'.length ≤ r.length) hE' hS' R' => IH.out.2.2.2.1 r' W (by omega) R' hE' hS')
    clear hm
    have CN := Lib.hid (fun W R' => SN.out r W (Nat.le_refl _) HES.out.1 HES.out.2 R')
    have hTk := expr_takes f 3 r
    cases hY : exprF f 3 r with
    | no p er =>
      rw [hY] at CN hc
      have HN : Hid (X = PR.no p er) := Lib.hid hc
      clear hY hc hTk
      go_enter Tryz.func84, Tryz.ntmps84
      go_wp2_with (first | (go_at_call 72; (with_reducible refine (MY1.out _ (HR.out.alloc _)).mono ?_); rintro e w3 ⟨rfl, hR3, hg3⟩; have hs3 := hg3.size; (try simp at hs3)))
      have hg3' : Gr w.heap.size rb w w3 := ((Gr.refl _ _ _).alloc (Nat.le_refl _) _).trans hg3 (by simp)
      go_at_call 97
      refine (CN.out _ hR3).mono ?_
      rintro e w5 hP
      obtain ⟨rfl, hg5⟩ := hP
      go_wp2
      exact ⟨rfl, HQQ.out _ _ (by rw [HN.out]; exact ⟨rfl, hg3'.trans hg5 (by omega)⟩)⟩
    | ok c5 r5 =>
      have hT5 := hTk _ _ hY
      rw [hY] at CN hc
      dsimp only [PR.bind] at hc
      have HC := Lib.hid hc
      have HE5 : Hid (EndsT r5 ∧ ShortT r5) := Lib.hid ⟨hT5.2.1 HES.out.1, hT5.2.2 HES.out.2⟩
      have hl5 := hT5.1
      clear hY hc hTk hT5 hf
      go_enter Tryz.func84, Tryz.ntmps84
      go_wp2_with (first | (go_at_call 72; (with_reducible refine (MY1.out _ (HR.out.alloc _)).mono ?_); rintro e w3 ⟨rfl, hR3, hg3⟩; have hs3 := hg3.size; (try simp at hs3)))
      have hg3' : Gr w.heap.size rb w w3 := ((Gr.refl _ _ _).alloc (Nat.le_refl _) _).trans hg3 (by simp)
      have hz3 : w3.heap[w.heap.size]? = some (.cells zeroE 24) := (hg3.block _ (by simp) hn0.1).trans (heap_alloc_new w _)
      go_at_call 97
      refine (CN.out _ hR3).mono ?_
      rintro e w5 hP
      obtain ⟨A5, cc5, rfl, HC5, HR5, hg5⟩ := pout_ok hP
      clear hP CN
      obtain ⟨op5, nn5, ss5, args5⟩ := c5
      dsimp only [exprC, ExprT.op, ExprT.n, ExprT.s, ExprT.args, List.cons_append, List.nil_append] at HC5 ⊢
      have hs5 := hg5.size
      have hz5 : w5.heap[w.heap.size]? = some (.cells zeroE 24) := (hg5.block _ (by omega) hn0.1).trans hz3
      have HG1 : Hid (Gr w.heap.size rb w ((w5.alloc (.cells #[.int .i64 op5, .int .i64 nn5, .string ⟨ss5.toArray⟩, .slice A5 args5.length cc5] 24)).alloc (.cells #[.int .i64 9, .int .i64 10, .int .i64 11, .int .i64 12, .int .i64 13, .int .i64 14] 3))) := Lib.hid (((hg3'.trans hg5 (by omega)).alloc (by omega) _).alloc (by simp; omega) _)
      have hs1 : ((w5.alloc (.cells #[.int .i64 op5, .int .i64 nn5, .string ⟨ss5.toArray⟩, .slice A5 args5.length cc5] 24)).alloc (.cells #[.int .i64 9, .int .i64 10, .int .i64 11, .int .i64 12, .int .i64 13, .int .i64 14] 3)).heap.size = w5.heap.size + 2 := by simp
      have HB1 : Hid (((w5.alloc (.cells #[.int .i64 op5, .int .i64 nn5, .string ⟨ss5.toArray⟩, .slice A5 args5.length cc5] 24)).alloc (.cells #[.int .i64 9, .int .i64 10, .int .i64 11, .int .i64 12, .int .i64 13, .int .i64 14] 3)).heap[w5.heap.size]? = some (.cells [.int .i64 op5, .int .i64 nn5, .string ⟨ss5.toArray⟩, .slice A5 args5.length cc5].toArray 24 (0, 0))) := Lib.hid ((((Below.refl _ _).alloc (Nat.le_refl _) _).block _ (by simp)).trans (heap_alloc_new w5 _))
      have HZ1 : Hid (((w5.alloc (.cells #[.int .i64 op5, .int .i64 nn5, .string ⟨ss5.toArray⟩, .slice A5 args5.length cc5] 24)).alloc (.cells #[.int .i64 9, .int .i64 10, .int .i64 11, .int .i64 12, .int .i64 13, .int .i64 14] 3)).heap[w.heap.size]? = some (.cells zeroE 24)) := Lib.hid ((((Below.refl _ _).alloc (Nat.le_refl _) _).block _ (by simp; omega)).trans ((((Below.refl _ _).alloc (Nat.le_refl _) _).block _ (by omega)).trans hz5))
      have HV1 : Hid (EV (fun b => w.heap.size < b) ((w5.alloc (.cells #[.int .i64 op5, .int .i64 nn5, .string ⟨ss5.toArray⟩, .slice A5 args5.length cc5] 24)).alloc (.cells #[.int .i64 9, .int .i64 10, .int .i64 11, .int .i64 12, .int .i64 13, .int .i64 14] 3)) (.mk op5 nn5 ss5 args5) [.int .i64 op5, .int .i64 nn5, .string ⟨ss5.toArray⟩, .slice A5 args5.length cc5]) := Lib.hid ((HC5.out.mono (P' := fun b => w.heap.size < b) (fun b h1 h2 => by omega)).keep (Kp.alloc (Kp.alloc (Kp.refl _ _) _) _))
      have HRW := Lib.hid ((HR5.out.alloc (.cells #[.int .i64 op5, .int .i64 nn5, .string ⟨ss5.toArray⟩, .slice A5 args5.length cc5] 24)).alloc (.cells #[.int .i64 9, .int .i64 10, .int .i64 11, .int .i64 12, .int .i64 13, .int .i64 14] 3))
      have HOB : Hid (∀ (k : Nat) (x : Int), opsCmp[k]? = some x → ((w5.alloc (.cells #[.int .i64 op5, .int .i64 nn5, .string ⟨ss5.toArray⟩, .slice A5 args5.length cc5] 24)).alloc (.cells #[.int .i64 9, .int .i64 10, .int .i64 11, .int .i64 12, .int .i64 13, .int .i64 14] 3)).cell? ⟨w5.heap.size + 1, k, none⟩ = some (.int .i64 x)) := Lib.hid fun k x h => by
        have := ops_cells (w5.alloc (.cells #[.int .i64 op5, .int .i64 nn5, .string ⟨ss5.toArray⟩, .slice A5 args5.length cc5] 24)) opsCmp 3 #[.int .i64 9, .int .i64 10, .int .i64 11, .int .i64 12, .int .i64 13, .int .i64 14] rfl k x h
        rw [show (w5.alloc (.cells #[.int .i64 op5, .int .i64 nn5, .string ⟨ss5.toArray⟩, .slice A5 args5.length cc5] 24)).heap.size = w5.heap.size + 1 by simp] at this
        exact this
      clear hz3 hz5 hg3 hg3' hR3 hg5
      go_wp2_with (fail)
      refine name_world ?_
      intro w1 hw1
      rw [← hw1] at HG1 hs1 HB1 HZ1 HV1 HRW HOB
      clear hw1
      generalize hb9 : w5.heap.size = b9 at *
      have hrb5 : rb < b9 ∧ w.heap.size < b9 := by omega
      clear hb9
      have OC : Hid (∀ W, Below w1.heap.size w1 W → ∀ (k : Nat) (x : Int), opsCmp[k]? = some x → W.cell? ⟨b9 + 1, k, none⟩ = some (.int .i64 x)) := Lib.hid fun W h k x hx => (h.cell (p := ⟨b9 + 1, k, none⟩) (by dsimp only; omega)).trans (HOB.out k x hx)
      have HNO : Hid (opsCmp.length = 6) := Lib.hid rfl
      have HBN : Hid (∀ (k : Nat) (x : Int), opsCmp[k]? = some x → Pl.binB x = true) := Lib.hid (all_bin (by decide))
      go_loopw [5, 20] (fun U j wr => ∃ (V : Value) (k : Nat), V = U ∧ k ≤ 6 ∧ j = .int .i64 (k : Int) ∧ Hid (wr.ownsRow w1.heap.size 9 1 V k (cellsN ((opsCmp.take k).map signX))) ∧ Hid (Below w1.heap.size w1 wr)) (fun _ j _ => 6 - (intOf j).toNat)
      case atStart => exact ⟨_, 0, rfl, by omega, rfl, Lib.hid (World.ownsRow_nil _ _ _ _), Lib.hid (Below.refl _ _)⟩
      case round =>
        obtain ⟨V, k, rfl, hk, rfl, HO, HB⟩ := hrel
        obtain ⟨wo, rfl⟩ : ∃ wo : World, wo = wr := ⟨_, rfl⟩
        by_cases hkn : k < 6
        · have hkn' : (k : Int) < 6 := by omega
          obtain ⟨x, hx⟩ : ∃ x, opsCmp[k]? = some x := ⟨_, List.getElem?_eq_getElem (by rw [HNO.out]; exact hkn)⟩
          have hc := OC.out wo HB.out k x hx
          have hbin := HBN.out k x hx
          have SG := Lib.hid (signs_row x hbin w1 V k (cellsN ((opsCmp.take k).map signX)))
          have HTK : Hid (cellsN ((opsCmp.take k).map signX) ++ [.string ⟨(signX x).toArray⟩] = cellsN ((opsCmp.take (k + 1)).map signX)) := Lib.hid (by
            rw [List.take_add_one, hx]; simp [cellsN])
          clear hx hbin
          obtain ⟨i, hi, iz0, iz1, iz2⟩ := info_parts info_str
          have hsB := HB.out.size
          go_wp2_with (first | (go_at_call 46; (with_reducible refine (SG.out _ HB.out HO.out).mono ?_); rintro e w3 ⟨rfl, hlk, hs3, HB3, HO3⟩) | ((at_builtin; refine wpList_append_lies _ rfl _ _ _ rfl (w1.heap.size) 9 i _ 1 16 Tryz.underlying46 hi iz0 iz1 iz2 rfl (by decide) V (k) _ rfl (HO3.out.alloc _) ⟨w3.heap.size, 0, none⟩ 1 1 [.string ⟨(signX x).toArray⟩] rfl rfl (World.news_of_block (cs := #[.string ⟨(signX x).toArray⟩]) (t := 9) (fr := (0, 0)) (heap_alloc_new w3 _)) (by simp [Value.oneCell']) (by omega) (by unfold maxLen; omega) (by omega) (by simp; omega) (w3.heap.size + 1) (by simp) ?_; intro gg cap w1' hown1 hgrow hat hlt')))
          have hrow := fun b e => (HO3.out.lt b e).1
          have HB4 : Hid (Below w1.heap.size w1 w1') := Lib.hid (below_push HB3.out (by omega) hgrow hrow)
          rw [HTK.out] at hown1
          have HO4 := Lib.hid hown1
          clear hown1 hgrow hlk HTK hrow
          go_round
          case rel => exact ⟨_, k + 1, rfl, by omega, by go_num, HO4, HB4⟩
          case measure => first | (simp [intOf]; done) | (simp [intOf]; omega)
        · have hkn' : ¬ (k : Int) < 6 := by omega
          obtain rfl : k = 6 := by omega
          have HTA : Hid (wo.ownsRow w1.heap.size 9 1 V 6 (cellsN (opsCmp.map signX))) := Lib.hid (by have h := HO.out; rwa [List.take_of_length_le (by rw [HNO.out]; exact Nat.le_refl _)] at h)
          clear HO hkn
          obtain ⟨A, c, rfl⟩ := own_form HTA.out
          have hA := fun a (e : A = some a) => (HTA.out.lt a.block (by rw [e]; rfl))
          have HSTR := Lib.hid (own_strsL HTA.out)
          have hbo := HB.out.size
          have HGO : Hid (Gr w.heap.size rb w wo) := Lib.hid (HG1.out.below HB.out (by omega))
          have hk := (HB.out.block b9 (by omega)).trans HB1.out
          have hzo := (HB.out.block w.heap.size (by omega)).trans HZ1.out
          have HVO : Hid (EV (fun b => w.heap.size < b) wo (.mk op5 nn5 ss5 args5) [.int .i64 op5, .int .i64 nn5, .string ⟨ss5.toArray⟩, .slice A5 args5.length cc5]) := Lib.hid (HV1.out.keep (Kp.below HB.out))
          have HRO := Lib.hid (HRW.out.below HB.out)
          have HOPO := Lib.hid (OC.out wo HB.out)
          obtain ⟨⟨k0, k1, k2, k3⟩, kf⟩ := four_cells hk
          obtain ⟨⟨z0, z1, z2, z3⟩, zf⟩ := four_cells hzo
          have HKZ := Lib.hid (And.intro hk hzo)
          have hb9' : ¬ b9 = rb ∧ ¬ rb = b9 ∧ ¬ b9 = w.heap.size ∧ ¬ w.heap.size = b9 ∧ ¬ b9 + 1 = rb ∧ b9 < wo.heap.size ∧ b9 + 1 < wo.heap.size ∧ w.heap.size < wo.heap.size := by omega
          have ON0 := one_any rb gt A 6 c (opsCmp.map signX) (by rw [List.length_map]; exact HNO.out) (by omega) (fun a e => by have := hA a e; omega) r5 HE5.out.1.ne wo HSTR.out HRO.out
          clear HTA HSTR hA hk hzo OC HB HV1 HZ1 HB1 HG1 HOB HRW
          cases hm : oneF (opsCmp.map signX) 0 r5 with
          | none =>
            have HN : Hid (X = PR.ok (.mk op5 nn5 ss5 args5) r5) := Lib.hid (by have h := HC.out; rw [hm] at h; exact h)
            rw [hm] at ON0
            dsimp only [oneI, oneL] at ON0
            have ON := Lib.hid ON0
            clear hm ON0
            go_wp2_with (first | (go_at_call 73; (with_reducible refine ON.out.mono ?_); rintro e w6 ⟨rfl, hR6, hg6⟩; have hs6 := hg6.size; obtain ⟨hc6, hf6⟩ := gcell hg6; have hz6 : b9 < w6.heap.size ∧ w.heap.size < w6.heap.size := (by omega)))
            have HV6 := HVO.out.keep (Kp.gr (P := fun b => w.heap.size < b) hg6 (by omega))
            have hg6' := HGO.out.trans hg6 HGO.out.size
            have hR6' := hR6
            clear hg6
            exact bodyPost_ret (v := .agg #[.int .i64 op5, .int .i64 nn5, .string ⟨ss5.toArray⟩, .slice A5 args5.length cc5]) (by simp [results, Tryz.results84, go_sem, *]) rfl (HQQ.out _ _ (by rw [HN.out]; exact ⟨⟨_, rfl, _, rfl, (HV6.keep (by repeat (first | (with_reducible exact Kp.refl _ _) | (with_reducible assumption) | ((with_reducible refine Kp.set ?_ ?hq1 _); (case hq1 => (first | (simp; done) | (simp; omega) | (dsimp only; omega)))) | (with_reducible refine Kp.alloc ?_ _) | (with_reducible refine Kp.drew ?_) | refine Kp.trans ?_ (Kp.gr (by assumption) (by first | (simp; done) | (simp; omega) | (dsimp only; omega)))))).mono (fun b h1 h2 => by (try dsimp only at h2 ⊢); omega)⟩, (by repeat (first | (with_reducible exact hR6') | ((with_reducible refine RdR.setCell ?_ ?hq1 ?hq2 _); (case hq1 => (first | (simp; done) | (simp; omega) | omega)); (case hq2 => (first | (simp; done) | (simp; omega) | omega))) | (with_reducible refine RdR.alloc ?_ _) | (with_reducible refine RdR.drew ?_) | refine RdR.below ?_ (by assumption))), (by repeat (first | (with_reducible exact Gr.refl _ _ _) | (with_reducible assumption) | ((with_reducible refine Gr.setCell ?_ ?hq1 _); (case hq1 => (first | (right; rfl) | (left; (first | (simp; done) | (simp; omega) | omega))))) | ((with_reducible refine Gr.alloc ?_ ?hq1 _); (case hq1 => (first | (simp; done) | (simp; omega) | omega))) | (with_reducible refine Gr.drew ?_) | exact Gr.of_below (by assumption) | refine Gr.trans ?_ (by assumption) (by first | (simp; done) | (simp; omega) | omega) | refine Gr.below ?_ (by assumption) (by first | (simp; done) | (simp; omega) | omega)))⟩))
          | some y =>
            obtain ⟨j, r2⟩ := y
            have hot := one_take _ _ _ _ _ hm
            rw [List.length_map, HNO.out, Nat.zero_add] at hot
            obtain ⟨⟨-, hjk⟩, hr2, hme, hms⟩ := hot
            obtain ⟨oi, hoi, hgd⟩ := six_at hjk
            have HX2 : Hid (X = ((exprF f 3 r2).bind (fun d r' => .ok (.mk oi 0 [] [(.mk op5 nn5 ss5 args5), d]) r'))) := Lib.hid (by have h := HC.out; rw [hm] at h; simp only [hgd] at h; exact h)
            rw [hm] at ON0
            dsimp only [oneI, oneL] at ON0
            have ON := Lib.hid ON0
            have HE2 : Hid (EndsT r2 ∧ ShortT r2) := Lib.hid ⟨hme HE5.out.1, hms HE5.out.2⟩
            have hjk' : (j : Int) < 6 := by omega
            have hjn : (0 : Int) ≤ (j : Int) := by omega
            have ho0 := HOPO.out j oi hoi
            clear hm ON0 hgd hoi hme hms
            go_wp2_with (first | (go_at_call 73; (with_reducible refine ON.out.mono ?_); rintro e w6 ⟨rfl, hR6, hg6⟩; have hs6 := hg6.size; obtain ⟨hc6, hf6⟩ := gcell hg6; have hz6 : b9 < w6.heap.size ∧ w.heap.size < w6.heap.size ∧ b9 + 1 < w6.heap.size := (by omega)))
            have hR6' := hR6
            have ho6 : w6.cell? ⟨b9 + 1, j, none⟩ = some (.int .i64 oi) := (hc6 (b9 + 1) j hb9'.2.2.2.2.2.2.1 hb9'.2.2.2.2.1).trans ho0
            have HGO6 := Lib.hid (HGO.out.trans hg6 HGO.out.size)
            have PT0 := fun W R' => SN.out r2 W (by omega) HE2.out.1 HE2.out.2 R'
            cases hp : exprF f 3 r2 with
            | no p er =>
              rw [hp] at PT0
              have PT := Lib.hid (fun W R' => (show Calls Tryz.prog 97 #[.pointer (some ⟨rb, 0, none⟩)] W (fun e w' => e = .panicked (fltP p er) ∧ Gr W.heap.size rb W w') from PT0 W R'))
              have HN : Hid (X = PR.no p er) := Lib.hid (by have h := HX2.out; rw [hp] at h; exact h)
              clear PT0 hp
              have HS6 := Lib.hid (And.intro hR6 HGO6.out)
              (refine wp_region_last_held ((fun W' => W'.cell? ⟨b9, 0, none⟩ = some (.int .i64 op5) ∧ W'.cell? ⟨b9, 1, none⟩ = some (.int .i64 nn5) ∧ W'.cell? ⟨b9, 2, none⟩ = some (.string ⟨ss5.toArray⟩) ∧ W'.cell? ⟨b9, 3, none⟩ = some (.slice A5 args5.length cc5) ∧ W'.cell? ⟨b9 + 1, j, none⟩ = some (.int .i64 oi) ∧ Hid (RdR W' rb gt r2 ∧ Gr w.heap.size rb w W'))) rfl (by kernel_rfl) (by kernel_rfl) ?hS0 (fun hHeld => ?_); (case hS0 => ((try dsimp only); (refine ⟨?_, ?_, ?_, ?_, ?_, Lib.hid ⟨HS6.out.1.drew, HS6.out.2.drew⟩⟩ <;> simp [go_sem, *]))); simp only [List.dropLast_cons_cons, List.dropLast_singleton, List.length_cons, List.length_nil, Nat.zero_add, Nat.reduceAdd])
              (refine take2 0 (some 36) (.slice (some ⟨b9 + 1, 0, none⟩) 6 6) rfl (by kernel_rfl) (by kernel_rfl) (by kernel_rfl) rfl (fun _ _ _ h => h) (Or.inl ⟨by rfl, fun W' hSw => (by (try dsimp only at hSw); go_simp)⟩) (by assumption) ?_; (try simp only [Act.put, List.setIfInBounds_toArray, List.set_cons_zero, List.set_cons_succ]))
              (refine take2 1 (some 37) (.int .i64 (j : Int)) rfl (by kernel_rfl) (by kernel_rfl) (by kernel_rfl) rfl (fun _ _ _ h => h) (Or.inl ⟨by rfl, fun W' hSw => (by (try dsimp only at hSw); go_simp)⟩) (by assumption) ?_; (try simp only [Act.put, List.setIfInBounds_toArray, List.set_cons_zero, List.set_cons_succ]))
              (refine take2 2 (some 38) (.pointer (some ⟨b9 + 1, j, none⟩)) rfl (by kernel_rfl) (by kernel_rfl) (by kernel_rfl) rfl (fun _ _ _ h => h) (Or.inl ⟨by rfl, fun W' hSw => (by (try dsimp only at hSw); go_simp)⟩) (by assumption) ?_; (try simp only [Act.put, List.setIfInBounds_toArray, List.set_cons_zero, List.set_cons_succ]))
              (refine take2 3 (some 39) (.int .i64 oi) rfl (by kernel_rfl) (by kernel_rfl) (by kernel_rfl) rfl (fun _ _ _ h => h) (Or.inl ⟨by rfl, fun W' hSw => (by (try dsimp only at hSw); go_simp)⟩) (by assumption) ?_; (try simp only [Act.put, List.setIfInBounds_toArray, List.set_cons_zero, List.set_cons_succ]))
              (refine take2 4 (some 40) (.agg #[.int .i64 op5, .int .i64 nn5, .string ⟨ss5.toArray⟩, .slice A5 args5.length cc5]) rfl (by kernel_rfl) (by kernel_rfl) (by kernel_rfl) rfl (fun _ _ _ h => h) (Or.inl ⟨by rfl, fun W' hSw => (by (try dsimp only at hSw); go_simp)⟩) (by assumption) ?_; (try simp only [Act.put, List.setIfInBounds_toArray, List.set_cons_zero, List.set_cons_succ]))
              (refine take2 5 (some 41) (.pointer (some ⟨rb, 0, none⟩)) rfl (by kernel_rfl) (by kernel_rfl) (by kernel_rfl) rfl (fun _ _ _ h => h) (Or.inl ⟨by rfl, fun W' hSw => (by (try dsimp only at hSw); go_simp)⟩) (by assumption) ?_; (try simp only [Act.put, List.setIfInBounds_toArray, List.set_cons_zero, List.set_cons_succ]))
              refine wpAnyH_ready (rs := [6]) (by kernel_rfl) (by simp) ?_
              refine AllReadyH.cons rfl (fun K hK => ?_) AllReadyH.nil
              clear hK
              obtain ⟨-, -, -, -, -, HRD⟩ := hHeld
              go_simp
              go_at_call 97
              refine (PT.out _ HRD.out.1).mono ?_
              rintro e w7 ⟨rfl, hg7⟩
              exact ⟨rfl, HQQ.out _ _ (by rw [HN.out]; exact ⟨rfl, HRD.out.2.trans hg7 HRD.out.2.size⟩)⟩
            | ok d r3 =>
              rw [hp] at PT0
              have PT1 := fun W R' => (PT0 W R').mono (fun e w' h => pout_ok h)
              obtain ⟨op6, nn6, ss6, args6⟩ := d
              dsimp only [exprC, ExprT.op, ExprT.n, ExprT.s, ExprT.args] at PT1
              have PT := Lib.hid PT1
              have HN : Hid (X = PR.ok (.mk oi 0 [] [(.mk op5 nn5 ss5 args5), (.mk op6 nn6 ss6 args6)]) r3) := Lib.hid (by have h := HX2.out; rw [hp] at h; exact h)
              have HV6 : Hid (EV (fun b => w.heap.size < b) w6 (.mk op5 nn5 ss5 args5) [.int .i64 op5, .int .i64 nn5, .string ⟨ss5.toArray⟩, .slice A5 args5.length cc5]) := Lib.hid (HVO.out.keep (Kp.gr hg6 (by omega)))
              have HK6 : Hid (w6.heap[w.heap.size]? = some (.cells zeroE 24)) := Lib.hid ((hg6.block _ (by omega) hn0.1).trans HKZ.out.2)
              clear PT0 PT1 hp
              go_region_law (first | (go_simp; go_at_call 97; (with_reducible refine (PT.out _ (by repeat (first | (with_reducible exact hR6') | ((with_reducible refine RdR.setCell ?_ ?hq1 ?hq2 _); (case hq1 => (first | (simp; done) | (simp; omega) | omega)); (case hq2 => (first | (simp; done) | (simp; omega) | omega))) | (with_reducible refine RdR.alloc ?_ _) | (with_reducible refine RdR.drew ?_) | refine RdR.below ?_ (by assumption)))).mono ?_); rintro e w7 ⟨A6, cc6, rfl, hv7, hR7, hg7⟩; have hs7 := hg7.size; (try simp only [drew_size] at hs7); obtain ⟨hc7, hf7⟩ := gcell hg7; (try simp only [drew_size, drew_cell, drew_frozen] at hc7 hf7); have hz7 : w.heap.size < w7.heap.size ∧ b9 < w7.heap.size ∧ b9 + 1 < w7.heap.size := (by omega); have ho7 : w7.cell? ⟨b9 + 1, j, none⟩ = some (.int .i64 oi) := (hc7 (b9 + 1) j (by omega) hb9'.2.2.2.2.1).trans ho6))
              all_goals (
                go_wp2
                have hg7' : Gr w.heap.size rb w w7 := Gr.trans (B := w.heap.size) (Gr.drew HGO6.out) hg7 (by simp only [drew_size]; omega)
                have hcx : EV (fun b => w.heap.size < b) w7 (.mk op5 nn5 ss5 args5) [.int .i64 op5, .int .i64 nn5, .string ⟨ss5.toArray⟩, .slice A5 args5.length cc5] := (HV6.out.keep (Kp.drew (Kp.refl _ _))).keep (Kp.gr hg7 (by omega))
                have hcy : EV (fun b => w.heap.size < b) w7 (.mk op6 nn6 ss6 args6) [.int .i64 op6, .int .i64 nn6, .string ⟨ss6.toArray⟩, .slice A6 args6.length cc6] := hv7.out.mono (fun b h1 h2 => by simp only [drew_size] at h2; omega)
                have hrr := hR7.out
                clear hg7
                have kk : Kp (fun b => w.heap.size < b) w7 (((((w7.setCell ⟨w.heap.size, 0, none⟩ (.int .i64 oi)).setCell ⟨w.heap.size, 1, none⟩ (.int .i64 0)).setCell ⟨w.heap.size, 2, none⟩ (.string ⟨#[]⟩)).setCell ⟨w.heap.size, 3, none⟩ (.slice (some ⟨w7.heap.size, 0, none⟩) 2 2)).alloc (.cells #[.int .i64 op5, .int .i64 nn5, .string ⟨ss5.toArray⟩, .slice A5 args5.length cc5, .int .i64 op6, .int .i64 nn6, .string ⟨ss6.toArray⟩, .slice A6 args6.length cc6] 24)) := (by repeat (first | (with_reducible exact Kp.refl _ _) | (with_reducible assumption) | ((with_reducible refine Kp.set ?_ ?hq1 _); (case hq1 => (first | (simp; done) | (simp; omega) | (dsimp only; omega)))) | (with_reducible refine Kp.alloc ?_ _) | (with_reducible refine Kp.drew ?_) | refine Kp.trans ?_ (Kp.gr (by assumption) (by first | (simp; done) | (simp; omega) | (dsimp only; omega)))))
                have hnb : (((((w7.setCell ⟨w.heap.size, 0, none⟩ (.int .i64 oi)).setCell ⟨w.heap.size, 1, none⟩ (.int .i64 0)).setCell ⟨w.heap.size, 2, none⟩ (.string ⟨#[]⟩)).setCell ⟨w.heap.size, 3, none⟩ (.slice (some ⟨w7.heap.size, 0, none⟩) 2 2)).alloc (.cells #[.int .i64 op5, .int .i64 nn5, .string ⟨ss5.toArray⟩, .slice A5 args5.length cc5, .int .i64 op6, .int .i64 nn6, .string ⟨ss6.toArray⟩, .slice A6 args6.length cc6] 24)).heap[w7.heap.size]? = some (.cells #[.int .i64 op5, .int .i64 nn5, .string ⟨ss5.toArray⟩, .slice A5 args5.length cc5, .int .i64 op6, .int .i64 nn6, .string ⟨ss6.toArray⟩, .slice A6 args6.length cc6] 24 (0, 0)) := heap_alloc_at (by simp)
                have HH := Lib.hid (And.intro hnb (And.intro (hcx.keep kk) (hcy.keep kk)))
                clear hnb hcx hcy kk
                exact bodyPost_ret (v := .agg #[.int .i64 oi, .int .i64 0, .string ⟨#[]⟩, .slice (some ⟨w7.heap.size, 0, none⟩) 2 2]) (by simp [results, Tryz.results84, go_sem, *]) rfl (HQQ.out _ _ (by rw [HN.out]; exact ⟨⟨_, rfl, [.int .i64 oi, .int .i64 0, .string ⟨#[]⟩, .slice (some ⟨w7.heap.size, 0, none⟩) 2 2], rfl, (by
                  unfold EV
                  refine ⟨_, _, rfl, ⟨Nat.le_refl _, by simp⟩, (fun h => by cases h), EVL.two (cx := [.int .i64 op5, .int .i64 nn5, .string ⟨ss5.toArray⟩, .slice A5 args5.length cc5]) (cy := [.int .i64 op6, .int .i64 nn6, .string ⟨ss6.toArray⟩, .slice A6 args6.length cc6]) (by omega) ?_ (HH.out.2.1.mono (fun b h1 h2 => by omega)) (HH.out.2.2.mono (fun b h1 h2 => by omega))⟩
                  exact HH.out.1)⟩, (by repeat (first | (with_reducible exact hrr) | ((with_reducible refine RdR.setCell ?_ ?hq1 ?hq2 _); (case hq1 => (first | (simp; done) | (simp; omega) | omega)); (case hq2 => (first | (simp; done) | (simp; omega) | omega))) | (with_reducible refine RdR.alloc ?_ _) | (with_reducible refine RdR.drew ?_) | refine RdR.below ?_ (by assumption))), (by repeat (first | (with_reducible exact Gr.refl _ _ _) | (with_reducible assumption) | ((with_reducible refine Gr.setCell ?_ ?hq1 _); (case hq1 => (first | (right; rfl) | (left; (first | (simp; done) | (simp; omega) | omega))))) | ((with_reducible refine Gr.alloc ?_ ?hq1 _); (case hq1 => (first | (simp; done) | (simp; omega) | omega))) | (with_reducible refine Gr.drew ?_) | exact Gr.of_below (by assumption) | refine Gr.trans ?_ (by assumption) (by first | (simp; done) | (simp; omega) | omega) | refine Gr.below ?_ (by assumption) (by first | (simp; done) | (simp; omega) | omega)))⟩)))
end Go.Proofs.YtnjlggleaocbdaaGreatDoor
