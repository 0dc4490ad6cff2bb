/-
  Contract of exref.Cut.
-/
import Derived.Test.YtkaimfeiahogaaaGreatDoorHk2
import Derived.Test.YtkaimfeiahogaaaGreatDoorPt2
namespace Go.Proofs.YtkaimfeiahogaaaGreatDoor
set_option linter.all false
open Go.RowKit Go.Shelf
attribute [local go_sem] cell_set_self lt_1 lt_2 lt_3 lt_4 lt_5 lt_6

def strsV (l : List (List UInt8)) : List Value := l.map fun s => .string ⟨s.toArray⟩
theorem infoStrH : (Tryz.prog.info? 9).map (fun i => (i.zero, i.size, i.bytes)) = some (some (.string ⟨#[]⟩), 1, 16) := by kernel_rfl
theorem own_form {w : World} {base size n : Nat} {e : TypeId} {v : Value} {xs : List Value} (h : w.ownsRow base e size v n xs) : ∃ A c, v = .slice A n c := by
  rcases h.2 with ⟨h1, h2⟩ | ⟨g, cap, cur, h1, _⟩
  · exact ⟨none, 0, by rw [h1, h2]⟩
  · exact ⟨_, cap, h1⟩
theorem strs_own {w : World} {base : Nat} {T : TypeId} {A : Option Addr} {n c : Nat} {l : List (List UInt8)} (hl : l.length = n) (h : w.ownsRow base T 1 (.slice A n c) n (strsV l)) : Strs w A l := fun i p hi => by
  have hn : 0 < n := by have := (List.getElem?_eq_some_iff.1 hi).1; omega
  obtain ⟨g, cap, hv, _, hlt⟩ := h.form hn
  have hA : A = some ⟨g, 0, none⟩ := by injection hv
  subst hA
  have hc := h.cells (g := g) rfl i (.string ⟨p.toArray⟩) (by simp [strsV, hi])
  rw [addr0] at hc
  exact ⟨g, 0, rfl, hlt, by simpa using hc⟩
theorem strsV_app (a b : List (List UInt8)) : strsV (a ++ b) = strsV a ++ strsV b := by simp [strsV]
theorem ext_mid (l : List UInt8) (a b : Nat) : (⟨l.toArray⟩ : ByteArray).extract a b = ⟨((l.drop a).take (b - a)).toArray⟩ := by
  apply ByteArray.ext
  simp [List.extract_eq_take_drop]
def CutRel (w wr : World) (c : UInt8) (l : List UInt8) (i fr : Nat) (done : List (List UInt8)) (v : Value) : Prop :=
  ((i ≤ l.length ∧ fr ≤ i ∧ pieces c l = done ++ pieces c (l.drop fr) ∧ ∀ b ∈ (l.drop fr).take (i - fr), b ≠ c) ∨ (i = l.length + 1 ∧ pieces c l = done)) ∧ done.length ≤ i ∧
    wr.ownsRow w.heap.size 9 1 v done.length (strsV done) ∧ Below w.heap.size w wr
theorem take_snoc' {l : List UInt8} {fr i : Nat} {x : UInt8} (hf : fr ≤ i) (hx : l[i]? = some x) : (l.drop fr).take (i + 1 - fr) = (l.drop fr).take (i - fr) ++ [x] := by
  have h : (l.drop fr)[i - fr]? = some x := by rw [List.getElem?_drop]; rw [show fr + (i - fr) = i by omega]; exact hx
  rw [show i + 1 - fr = (i - fr) + 1 by omega, List.take_succ, h]; rfl
theorem drop_cut {l : List UInt8} {fr i : Nat} {x : UInt8} (hf : fr ≤ i) (hx : l[i]? = some x) : l.drop fr = (l.drop fr).take (i - fr) ++ x :: l.drop (i + 1) := by
  obtain ⟨h1, h2⟩ := List.getElem?_eq_some_iff.1 hx
  have e := (List.take_append_drop (i - fr) (l.drop fr)).symm
  rw [List.drop_drop, show fr + (i - fr) = i by omega, List.drop_eq_getElem_cons h1, h2] at e
  exact e

set_option maxHeartbeats 2000000 in
set_option maxRecDepth 100000 in
theorem cut_any (c : UInt8) (l : List UInt8) (hl : l.length ≤ 100000) (w : World) :
    Calls Tryz.prog 19 #[.string ⟨l.toArray⟩, .int .u8 (c.toNat : Int)] w fun e w' => (∃ A d, e = .returned (.slice A (pieces c l).length d) ∧ Strs w' A (pieces c l)) ∧ Below w.heap.size w w' := by
  obtain ⟨i0, hi0, hz0, hz1, hz2⟩ := info_parts infoStrH
  have AT : Hid (∀ i (h : i < (⟨l.toArray⟩ : ByteArray).size) (c : UInt8), l[i]? = some c → ((⟨l.toArray⟩ : ByteArray)[i]'h).toNat = c.toNat) := Lib.hid fun i h c hc => by
    obtain ⟨h1, h2⟩ := List.getElem?_eq_some_iff.1 hc
    rw [← h2]; rfl
  have EX : Hid (∀ a b, (⟨l.toArray⟩ : ByteArray).extract a b = ⟨((l.drop a).take (b - a)).toArray⟩) := Lib.hid fun a b => ext_mid l a b
  have HS : Hid ((⟨l.toArray⟩ : ByteArray).size = l.length) := Lib.hid (ba_sz l)
  have hsz : (⟨l.toArray⟩ : ByteArray).size ≤ 100000 := by rw [ba_sz]; exact hl
  generalize (⟨l.toArray⟩ : ByteArray) = sb at *
  obtain ⟨cc, hcc⟩ : ∃ cc, c.toNat = cc := ⟨_, rfl⟩
  rw [hcc]
  have HCC := Lib.hid hcc
  clear hcc
  go_enter Tryz.func19, Tryz.ntmps19
  go_wp2
  go_loopw [5, 6, 7] (fun u f ii wr => ∃ (i fr : Nat) (done : List (List UInt8)) (v : Value), ii = .int .i64 i ∧ f = .int .i64 fr ∧ v = u ∧ CutRel w wr c l i fr done v) (fun _ _ ii _ => sb.size + 1 - (intOf ii).toNat)
  case atStart => exact ⟨0, 0, [], _, rfl, rfl, rfl, .inl ⟨Nat.zero_le _, Nat.le_refl _, rfl, by simp⟩, by simp, World.ownsRow_nil _ _ _ _, (by repeat (first | exact Below.refl _ _ | refine Below.setCell ?_ (by first | (simp; done) | (simp; omega) | omega) _ | refine Below.alloc ?_ (by first | (simp; done) | (simp; omega) | omega) _ | refine Below.drew ?_ | assumption | refine Below.trans ?_ (Below.mono (by assumption) (by first | (simp; done) | (simp; omega) | omega))))⟩
  case round =>
    obtain ⟨i, fr, done, v, rfl, rfl, hv, hst, hdl, hown, hB⟩ := hrel
    subst hv
    obtain ⟨wo, rfl⟩ : ∃ wo : World, wo = wr := ⟨_, rfl⟩
    have HO := Lib.hid hown
    have hsl := hB.size
    clear hown
    rcases hst with ⟨hi, hf, hpc, hfree⟩ | ⟨hi, hpc⟩
    · have his : i ≤ sb.size := by rw [HS.out]; exact hi
      have his' : (i : Int) ≤ sb.size := by omega
      have hfi : (fr : Int) ≤ i := by omega
      have HDL := Lib.hid hdl
      have HP := Lib.hid hpc
      have HF := Lib.hid hfree
      have hdl2 : done.length ≤ 100000 := by omega
      have ex := EX.out fr i
      clear hpc hfree hdl hi
      by_cases hend : i = sb.size
      · have hil : i = l.length := by rw [hend, HS.out]
        have HPE : Hid (pieces c l = done ++ [(l.drop fr).take (i - fr)]) := Lib.hid (by
          have e : (l.drop fr).take (i - fr) = l.drop fr := List.take_of_length_le (by rw [List.length_drop]; omega)
          have h := HF.out
          rw [e] at h
          rw [HP.out, e, pieces_free h])
        generalize (l.drop fr).take (i - fr) = cur at *
        clear HF HP
        have HIL := Lib.hid hil
        clear hil
        have hap : strsV (done ++ [cur]) = strsV done ++ [.string ⟨cur.toArray⟩] := strsV_app _ _
        have HAP := Lib.hid hap
        clear hap
        subst hend
        go_wp2_with (first
          | (at_builtin; refine wpList_append_own _ rfl (.tmp 25) (.tmp 30) 43 rfl w.heap.size 9 i0 _ 1 16 Tryz.underlying43 hi0 hz0 hz1 hz2 rfl (by decide) v done.length (strsV done) rfl ((own_below HO.out (by repeat (first | exact Below.refl _ _ | refine Below.setCell ?_ (by first | (simp; done) | (simp; omega) | omega) _ | refine Below.alloc ?_ (by first | (simp; done) | (simp; omega) | omega) _ | refine Below.drew ?_ | assumption | refine Below.trans ?_ (Below.mono (by assumption) (by first | (simp; done) | (simp; omega) | omega))))).alloc _) _ 1 1 [.string ⟨cur.toArray⟩] rfl rfl (by intro j u' hj; match j, hj with | 0, hj => (simp at hj; subst hj; simp [Addr.add, go_sem])) (by intro u' hu'; simp at hu'; subst hu'; rfl) (by unfold maxLen; omega) (by omega) (by simp; omega) ?_; intro v5 w5 hown5 hgrow5 hiff; clear hiff; have HO5 := Lib.hid hown5; have B5 : Below w.heap.size w w5 := Below.grown (by repeat (first | exact Below.refl _ _ | refine Below.setCell ?_ (by first | (simp; done) | (simp; omega) | omega) _ | refine Below.alloc ?_ (by first | (simp; done) | (simp; omega) | omega) _ | refine Below.drew ?_ | assumption | refine Below.trans ?_ (Below.mono (by assumption) (by first | (simp; done) | (simp; omega) | omega)))) hgrow5 (by simp; omega) (fun g hg => (HO.out.lt g hg).1); clear hown5 hgrow5))
        go_roundw
        case rel => exact ⟨sb.size + 1, sb.size + 1, done ++ [cur], _, by go_num, by go_num, rfl, .inr ⟨by have := HIL.out; omega, HPE.out⟩, by rw [List.length_append, List.length_singleton]; have := HDL.out; omega, by rw [HAP.out, List.length_append]; exact HO5.out, B5⟩
        case measure => first | (simp [intOf]; done) | (simp [intOf]; omega)
      · have hlt : i < sb.size := by omega
        have hlt' : (i : Int) < sb.size := by omega
        have hne : ¬ (i : Int) = sb.size := by omega
        obtain ⟨x, hx⟩ : ∃ x, l[i]? = some x := ⟨_, List.getElem?_eq_getElem (by have := HS.out; omega)⟩
        have at1 := AT.out i hlt x hx
        have HX := Lib.hid hx
        have hfr : fr ≤ i := by omega
        clear hx
        by_cases hxc : x = c
        · subst hxc
          have HPE : Hid (pieces x l = (done ++ [(l.drop fr).take (i - fr)]) ++ pieces x (l.drop (i + 1))) := Lib.hid (by
            rw [HP.out, (congrArg (pieces x) (drop_cut hfr HX.out)).trans (pieces_cut _ HF.out), List.append_assoc]; rfl)
          generalize (l.drop fr).take (i - fr) = cur at *
          have hap : strsV (done ++ [cur]) = strsV done ++ [.string ⟨cur.toArray⟩] := strsV_app _ _
          have HAP := Lib.hid hap
          clear hap HF HP
          rw [HCC.out] at at1
          go_wp2_with (first
            | (at_builtin; refine wpList_append_own _ rfl (.tmp 25) (.tmp 30) 43 rfl w.heap.size 9 i0 _ 1 16 Tryz.underlying43 hi0 hz0 hz1 hz2 rfl (by decide) v done.length (strsV done) rfl ((own_below HO.out (by repeat (first | exact Below.refl _ _ | refine Below.setCell ?_ (by first | (simp; done) | (simp; omega) | omega) _ | refine Below.alloc ?_ (by first | (simp; done) | (simp; omega) | omega) _ | refine Below.drew ?_ | assumption | refine Below.trans ?_ (Below.mono (by assumption) (by first | (simp; done) | (simp; omega) | omega))))).alloc _) _ 1 1 [.string ⟨cur.toArray⟩] rfl rfl (by intro j u' hj; match j, hj with | 0, hj => (simp at hj; subst hj; simp [Addr.add, go_sem])) (by intro u' hu'; simp at hu'; subst hu'; rfl) (by unfold maxLen; omega) (by omega) (by simp; omega) ?_; intro v5 w5 hown5 hgrow5 hiff; clear hiff; have HO5 := Lib.hid hown5; have B5 : Below w.heap.size w w5 := Below.grown (by repeat (first | exact Below.refl _ _ | refine Below.setCell ?_ (by first | (simp; done) | (simp; omega) | omega) _ | refine Below.alloc ?_ (by first | (simp; done) | (simp; omega) | omega) _ | refine Below.drew ?_ | assumption | refine Below.trans ?_ (Below.mono (by assumption) (by first | (simp; done) | (simp; omega) | omega)))) hgrow5 (by simp; omega) (fun g hg => (HO.out.lt g hg).1); clear hown5 hgrow5))
          go_roundw
          case rel => exact ⟨i + 1, i + 1, done ++ [cur], _, by go_num, by go_num, rfl, .inl ⟨by have := HS.out; omega, Nat.le_refl _, HPE.out, by simp⟩, by rw [List.length_append, List.length_singleton]; have := HDL.out; omega, by rw [HAP.out, List.length_append]; exact HO5.out, B5⟩
          case measure => first | (simp [intOf]; done) | (simp [intOf]; omega)
        · have hxc' : x.toNat ≠ cc := fun h => hxc (UInt8.toNat_inj.1 (h.trans HCC.out.symm))
          generalize hxx : x.toNat = xx at *
          have HXX := Lib.hid hxx
          clear hxx
          have HXC := Lib.hid hxc
          have hbq : ((xx : Int) == (cc : Int)) = false := by rw [beq_eq_false_iff_ne]; omega
          clear hxc
          go_wp2
          go_roundw
          case rel => exact ⟨i + 1, fr, done, _, by go_num, rfl, rfl, .inl ⟨by have := HS.out; omega, by omega, HP.out, by
            rw [take_snoc' hfr HX.out]
            intro b hb
            rcases List.mem_append.1 hb with h | h
            · exact HF.out b h
            · rw [List.mem_singleton.1 h]; exact HXC.out⟩, by have := HDL.out; omega, by first | exact HO.out | exact own_below HO.out (by repeat (first | exact Below.refl _ _ | refine Below.setCell ?_ (by first | (simp; done) | (simp; omega) | omega) _ | refine Below.alloc ?_ (by first | (simp; done) | (simp; omega) | omega) _ | refine Below.drew ?_ | assumption | refine Below.trans ?_ (Below.mono (by assumption) (by first | (simp; done) | (simp; omega) | omega)))), (by repeat (first | exact Below.refl _ _ | refine Below.setCell ?_ (by first | (simp; done) | (simp; omega) | omega) _ | refine Below.alloc ?_ (by first | (simp; done) | (simp; omega) | omega) _ | refine Below.drew ?_ | assumption | refine Below.trans ?_ (Below.mono (by assumption) (by first | (simp; done) | (simp; omega) | omega))))⟩
          case measure => first | (simp [intOf]; done) | (simp [intOf]; omega)
    · have hgt : ¬ ((i : Int) ≤ sb.size) := by have := HS.out; omega
      have hgt2 : (sb.size : Int) < i := by have := HS.out; omega
      clear hdl hi
      have HP := Lib.hid hpc
      clear hpc
      go_wp2
      obtain ⟨A, d, hA⟩ := own_form HO.out
      subst hA
      go_ret
      refine ⟨⟨A, ⟨d, by rw [HP.out]; rfl⟩, strs_own (by rw [HP.out]) (by rw [HP.out]; exact HO.out)⟩, (by repeat (first | exact Below.refl _ _ | refine Below.setCell ?_ (by first | (simp; done) | (simp; omega) | omega) _ | refine Below.alloc ?_ (by first | (simp; done) | (simp; omega) | omega) _ | refine Below.drew ?_ | assumption | refine Below.trans ?_ (Below.mono (by assumption) (by first | (simp; done) | (simp; omega) | omega))))⟩
end Go.Proofs.YtkaimfeiahogaaaGreatDoor

