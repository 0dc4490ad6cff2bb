/-
  Contract of tier.Parse.
-/
import Derived.Test.YtdpoahfjiomhbaaGreatDoorPw3

/-
  Contract of exref.Cut.
-/
namespace Go.Proofs.YtdpoahfjiomhbaaGreatDoor
set_option linter.all false
open Go.RowKit Go.Sort
attribute [local go_sem] cell_set_self lt_1 lt_2 lt_3 lt_4 lt_5 lt_6

/-- A slice of strings that lies in memory. -/
def Strs (w : World) (A : Option Addr) (xs : List (List UInt8)) : Prop := ∀ (i : Nat) (x : List UInt8), xs[i]? = some x → ∃ b off, A = some ⟨b, off, none⟩ ∧ b < w.heap.size ∧ w.cell? ⟨b, off + i, none⟩ = some (.string ⟨x.toArray⟩)
theorem Strs.below {w w' : World} {A : Option Addr} {l : List (List UInt8)} (h : Strs w A l) (hb : Below w.heap.size w w') : Strs w' A l := fun i p hi => by
  obtain ⟨b, off, h1, h2, h3⟩ := h i p hi
  obtain ⟨hc, _⟩ := bcell hb
  exact ⟨b, off, h1, Nat.lt_of_lt_of_le h2 hb.size, by rw [hc _ _ h2, h3]⟩
theorem strs_own {w : World} {base : Nat} {T : TypeId} {A : Option Addr} {n c : Nat} {l : List (List UInt8)} (hl : l.length = n) (h : w.ownsRow base T 1 (.slice A n c) n (strsV l)) : Strs w A l := fun i p hi => by
  have hn : 0 < n := by have := (List.getElem?_eq_some_iff.1 hi).1; omega
  obtain ⟨g, cap, hv, _, hlt⟩ := h.form hn
  have hA : A = some ⟨g, 0, none⟩ := by injection hv
  subst hA
  have hc := h.cells (g := g) rfl i (.string ⟨p.toArray⟩) (by simp [strsV, hi])
  rw [addr0] at hc
  exact ⟨g, 0, rfl, hlt, by simpa using hc⟩
theorem strsV_app (a b : List (List UInt8)) : strsV (a ++ b) = strsV a ++ strsV b := by simp [strsV]
theorem ext_mid (l : List UInt8) (a b : Nat) : (⟨l.toArray⟩ : ByteArray).extract a b = ⟨((l.drop a).take (b - a)).toArray⟩ := by
  apply ByteArray.ext
  simp [List.extract_eq_take_drop]
def CutRel (w wr : World) (c : UInt8) (l : List UInt8) (i fr : Nat) (done : List (List UInt8)) (v : Value) : Prop :=
  ((i ≤ l.length ∧ fr ≤ i ∧ pieces c l = done ++ pieces c (l.drop fr) ∧ ∀ b ∈ (l.drop fr).take (i - fr), b ≠ c) ∨ (i = l.length + 1 ∧ pieces c l = done)) ∧ done.length ≤ i ∧
    wr.ownsRow w.heap.size 9 1 v done.length (strsV done) ∧ Below w.heap.size w wr
theorem take_snoc' {l : List UInt8} {fr i : Nat} {x : UInt8} (hf : fr ≤ i) (hx : l[i]? = some x) : (l.drop fr).take (i + 1 - fr) = (l.drop fr).take (i - fr) ++ [x] := by
  have h : (l.drop fr)[i - fr]? = some x := by rw [List.getElem?_drop]; rw [show fr + (i - fr) = i by omega]; exact hx
  rw [show i + 1 - fr = (i - fr) + 1 by omega, List.take_succ, h]; rfl
theorem drop_cut {l : List UInt8} {fr i : Nat} {x : UInt8} (hf : fr ≤ i) (hx : l[i]? = some x) : l.drop fr = (l.drop fr).take (i - fr) ++ x :: l.drop (i + 1) := by
  obtain ⟨h1, h2⟩ := List.getElem?_eq_some_iff.1 hx
  have e := (List.take_append_drop (i - fr) (l.drop fr)).symm
  rw [List.drop_drop, show fr + (i - fr) = i by omega, List.drop_eq_getElem_cons h1, h2] at e
  exact e

set_option maxHeartbeats 2000000 in
set_option maxRecDepth 100000 in
theorem cut_any (c : UInt8) (l : List UInt8) (hl : l.length ≤ 100000) (w : World) :
    Calls Tryz.prog 64 #[.string ⟨l.toArray⟩, .int .u8 (c.toNat : Int)] w fun e w' => (∃ A d, e = .returned (.slice A (pieces c l).length d) ∧ Strs w' A (pieces c l)) ∧ Below w.heap.size w w' := by
  obtain ⟨i0, hi0, hz0, hz1, hz2⟩ := info_parts Tryz.infoStr
  have AT : Hid (∀ i (h : i < (⟨l.toArray⟩ : ByteArray).size) (c : UInt8), l[i]? = some c → ((⟨l.toArray⟩ : ByteArray)[i]'h).toNat = c.toNat) := Lib.hid fun i h c hc => by
    obtain ⟨h1, h2⟩ := List.getElem?_eq_some_iff.1 hc
    rw [← h2]; rfl
  have EX : Hid (∀ a b, (⟨l.toArray⟩ : ByteArray).extract a b = ⟨((l.drop a).take (b - a)).toArray⟩) := Lib.hid fun a b => ext_mid l a b
  have HS : Hid ((⟨l.toArray⟩ : ByteArray).size = l.length) := Lib.hid (ba_szP l)
  have hsz : (⟨l.toArray⟩ : ByteArray).size ≤ 100000 := by rw [ba_szP]; exact hl
  generalize (⟨l.toArray⟩ : ByteArray) = sb at *
  obtain ⟨cc, hcc⟩ : ∃ cc, c.toNat = cc := ⟨_, rfl⟩
  rw [hcc]
  have HCC := Lib.hid hcc
  clear hcc
  go_enter Tryz.func64, Tryz.ntmps64
  go_wp2
  go_loopw [5, 6, 7] (fun u f ii wr => ∃ (i fr : Nat) (done : List (List UInt8)) (v : Value), ii = .int .i64 i ∧ f = .int .i64 fr ∧ v = u ∧ CutRel w wr c l i fr done v) (fun _ _ ii _ => sb.size + 1 - (intOf ii).toNat)
  case atStart => exact ⟨0, 0, [], _, rfl, rfl, rfl, .inl ⟨Nat.zero_le _, Nat.le_refl _, rfl, by simp⟩, by simp, World.ownsRow_nil _ _ _ _, (by repeat (first | exact Below.refl _ _ | refine Below.setCell ?_ (by first | (simp; done) | (simp; omega) | omega) _ | refine Below.alloc ?_ (by first | (simp; done) | (simp; omega) | omega) _ | refine Below.drew ?_ | assumption | refine Below.trans ?_ (Below.mono (by assumption) (by first | (simp; done) | (simp; omega) | omega))))⟩
  case round =>
    obtain ⟨i, fr, done, v, rfl, rfl, hv, hst, hdl, hown, hB⟩ := hrel
    subst hv
    obtain ⟨wo, rfl⟩ : ∃ wo : World, wo = wr := ⟨_, rfl⟩
    have HO := Lib.hid hown
    have hsl := hB.size
    clear hown
    rcases hst with ⟨hi, hf, hpc, hfree⟩ | ⟨hi, hpc⟩
    · have his : i ≤ sb.size := by rw [HS.out]; exact hi
      have his' : (i : Int) ≤ sb.size := by omega
      have hfi : (fr : Int) ≤ i := by omega
      have HDL := Lib.hid hdl
      have HP := Lib.hid hpc
      have HF := Lib.hid hfree
      have hdl2 : done.length ≤ 100000 := by omega
      have ex := EX.out fr i
      clear hpc hfree hdl hi
      by_cases hend : i = sb.size
      · have hil : i = l.length := by rw [hend, HS.out]
        have HPE : Hid (pieces c l = done ++ [(l.drop fr).take (i - fr)]) := Lib.hid (by
          have e : (l.drop fr).take (i - fr) = l.drop fr := List.take_of_length_le (by rw [List.length_drop]; omega)
          have h := HF.out
          rw [e] at h
          rw [HP.out, e, pieces_free h])
        generalize (l.drop fr).take (i - fr) = cur at *
        clear HF HP
        have HIL := Lib.hid hil
        clear hil
        have hap : strsV (done ++ [cur]) = strsV done ++ [.string ⟨cur.toArray⟩] := strsV_app _ _
        have HAP := Lib.hid hap
        clear hap
        subst hend
        go_wp2_with (first
          | (at_builtin; refine wpList_append_own _ rfl (.tmp 25) (.tmp 30) 56 rfl w.heap.size 9 i0 _ 1 16 Tryz.underlying56 hi0 hz0 hz1 hz2 rfl (by decide) v done.length (strsV done) rfl ((own_below HO.out (by repeat (first | exact Below.refl _ _ | refine Below.setCell ?_ (by first | (simp; done) | (simp; omega) | omega) _ | refine Below.alloc ?_ (by first | (simp; done) | (simp; omega) | omega) _ | refine Below.drew ?_ | assumption | refine Below.trans ?_ (Below.mono (by assumption) (by first | (simp; done) | (simp; omega) | omega))))).alloc _) _ 1 1 [.string ⟨cur.toArray⟩] rfl rfl (by intro j u' hj; match j, hj with | 0, hj => (simp at hj; subst hj; simp [Addr.add, go_sem])) (by intro u' hu'; simp at hu'; subst hu'; rfl) (by unfold maxLen; omega) (by omega) (by simp; omega) ?_; intro v5 w5 hown5 hgrow5 hiff; clear hiff; have HO5 := Lib.hid hown5; have B5 : Below w.heap.size w w5 := Below.grown (by repeat (first | exact Below.refl _ _ | refine Below.setCell ?_ (by first | (simp; done) | (simp; omega) | omega) _ | refine Below.alloc ?_ (by first | (simp; done) | (simp; omega) | omega) _ | refine Below.drew ?_ | assumption | refine Below.trans ?_ (Below.mono (by assumption) (by first | (simp; done) | (simp; omega) | omega)))) hgrow5 (by simp; omega) (fun g hg => (HO.out.lt g hg).1); clear hown5 hgrow5))
        go_roundw
        case rel => exact ⟨sb.size + 1, sb.size + 1, done ++ [cur], _, by go_num, by go_num, rfl, .inr ⟨by have := HIL.out; omega, HPE.out⟩, by rw [List.length_append, List.length_singleton]; have := HDL.out; omega, by rw [HAP.out, List.length_append]; exact HO5.out, B5⟩
        case measure => first | (simp [intOf]; done) | (simp [intOf]; omega)
      · have hlt : i < sb.size := by omega
        have hlt' : (i : Int) < sb.size := by omega
        have hne : ¬ (i : Int) = sb.size := by omega
        obtain ⟨x, hx⟩ : ∃ x, l[i]? = some x := ⟨_, List.getElem?_eq_getElem (by have := HS.out; omega)⟩
        have at1 := AT.out i hlt x hx
        have HX := Lib.hid hx
        have hfr : fr ≤ i := by omega
        clear hx
        by_cases hxc : x = c
        · subst hxc
          have HPE : Hid (pieces x l = (done ++ [(l.drop fr).take (i - fr)]) ++ pieces x (l.drop (i + 1))) := Lib.hid (by
            rw [HP.out, (congrArg (pieces x) (drop_cut hfr HX.out)).trans (pieces_cut _ HF.out), List.append_assoc]; rfl)
          generalize (l.drop fr).take (i - fr) = cur at *
          have hap : strsV (done ++ [cur]) = strsV done ++ [.string ⟨cur.toArray⟩] := strsV_app _ _
          have HAP := Lib.hid hap
          clear hap HF HP
          rw [HCC.out] at at1
          go_wp2_with (first
            | (at_builtin; refine wpList_append_own _ rfl (.tmp 25) (.tmp 30) 56 rfl w.heap.size 9 i0 _ 1 16 Tryz.underlying56 hi0 hz0 hz1 hz2 rfl (by decide) v done.length (strsV done) rfl ((own_below HO.out (by repeat (first | exact Below.refl _ _ | refine Below.setCell ?_ (by first | (simp; done) | (simp; omega) | omega) _ | refine Below.alloc ?_ (by first | (simp; done) | (simp; omega) | omega) _ | refine Below.drew ?_ | assumption | refine Below.trans ?_ (Below.mono (by assumption) (by first | (simp; done) | (simp; omega) | omega))))).alloc _) _ 1 1 [.string ⟨cur.toArray⟩] rfl rfl (by intro j u' hj; match j, hj with | 0, hj => (simp at hj; subst hj; simp [Addr.add, go_sem])) (by intro u' hu'; simp at hu'; subst hu'; rfl) (by unfold maxLen; omega) (by omega) (by simp; omega) ?_; intro v5 w5 hown5 hgrow5 hiff; clear hiff; have HO5 := Lib.hid hown5; have B5 : Below w.heap.size w w5 := Below.grown (by repeat (first | exact Below.refl _ _ | refine Below.setCell ?_ (by first | (simp; done) | (simp; omega) | omega) _ | refine Below.alloc ?_ (by first | (simp; done) | (simp; omega) | omega) _ | refine Below.drew ?_ | assumption | refine Below.trans ?_ (Below.mono (by assumption) (by first | (simp; done) | (simp; omega) | omega)))) hgrow5 (by simp; omega) (fun g hg => (HO.out.lt g hg).1); clear hown5 hgrow5))
          go_roundw
          case rel => exact ⟨i + 1, i + 1, done ++ [cur], _, by go_num, by go_num, rfl, .inl ⟨by have := HS.out; omega, Nat.le_refl _, HPE.out, by simp⟩, by rw [List.length_append, List.length_singleton]; have := HDL.out; omega, by rw [HAP.out, List.length_append]; exact HO5.out, B5⟩
          case measure => first | (simp [intOf]; done) | (simp [intOf]; omega)
        · have hxc' : x.toNat ≠ cc := fun h => hxc (UInt8.toNat_inj.1 (h.trans HCC.out.symm))
          generalize hxx : x.toNat = xx at *
          have HXX := Lib.hid hxx
          clear hxx
          have HXC := Lib.hid hxc
          have hbq : ((xx : Int) == (cc : Int)) = false := by rw [beq_eq_false_iff_ne]; omega
          clear hxc
          go_wp2
          go_roundw
          case rel => exact ⟨i + 1, fr, done, _, by go_num, rfl, rfl, .inl ⟨by have := HS.out; omega, by omega, HP.out, by
            rw [take_snoc' hfr HX.out]
            intro b hb
            rcases List.mem_append.1 hb with h | h
            · exact HF.out b h
            · rw [List.mem_singleton.1 h]; exact HXC.out⟩, by have := HDL.out; omega, by first | exact HO.out | exact own_below HO.out (by repeat (first | exact Below.refl _ _ | refine Below.setCell ?_ (by first | (simp; done) | (simp; omega) | omega) _ | refine Below.alloc ?_ (by first | (simp; done) | (simp; omega) | omega) _ | refine Below.drew ?_ | assumption | refine Below.trans ?_ (Below.mono (by assumption) (by first | (simp; done) | (simp; omega) | omega)))), (by repeat (first | exact Below.refl _ _ | refine Below.setCell ?_ (by first | (simp; done) | (simp; omega) | omega) _ | refine Below.alloc ?_ (by first | (simp; done) | (simp; omega) | omega) _ | refine Below.drew ?_ | assumption | refine Below.trans ?_ (Below.mono (by assumption) (by first | (simp; done) | (simp; omega) | omega))))⟩
          case measure => first | (simp [intOf]; done) | (simp [intOf]; omega)
    · have hgt : ¬ ((i : Int) ≤ sb.size) := by have := HS.out; omega
      have hgt2 : (sb.size : Int) < i := by have := HS.out; omega
      clear hdl hi
      have HP := Lib.hid hpc
      clear hpc
      go_wp2
      obtain ⟨A, d, hA⟩ := own_form HO.out
      subst hA
      go_ret
      refine ⟨⟨A, ⟨d, by rw [HP.out]; rfl⟩, strs_own (by rw [HP.out]) (by rw [HP.out]; exact HO.out)⟩, (by repeat (first | exact Below.refl _ _ | refine Below.setCell ?_ (by first | (simp; done) | (simp; omega) | omega) _ | refine Below.alloc ?_ (by first | (simp; done) | (simp; omega) | omega) _ | refine Below.drew ?_ | assumption | refine Below.trans ?_ (Below.mono (by assumption) (by first | (simp; done) | (simp; omega) | omega))))⟩
end Go.Proofs.YtdpoahfjiomhbaaGreatDoor

/-
  What tier.Parse calls: strings.Split at a comma, strings.Cut at a colon, strings.HasPrefix of a star.
-/
namespace Go.Proofs.YtdpoahfjiomhbaaGreatDoor
set_option linter.all false
open Go.RowKit Go.Sort

def cutV (l : List UInt8) : List UInt8 × List UInt8 × Bool := match cutAt 58 l with
  | none => (l, [], false)
  | some (a, b) => (a, b, true)
theorem cut_eq (l : List UInt8) : Lib.cut l [58] = cutV l := by
  unfold Lib.cut cutV
  rcases first_byte 58 l with ⟨h1, h2⟩ | ⟨z, r, h1, h2, h3⟩
  · rw [h1, cutAt_free h2, if_neg (by decide)]
  · rw [h3, if_pos (by omega)]
    subst h1
    rw [cutAt_hit r h2]
    simp
theorem cutAt_len {c : UInt8} : ∀ {l a b : List UInt8}, cutAt c l = some (a, b) → a.length + b.length + 1 = l.length
  | [], _, _, h => by simp [cutAt] at h
  | x :: r, a, b, h => by
    rw [cutAt] at h
    split at h
    · simp at h; obtain ⟨rfl, rfl⟩ := h; simp
    · cases hc : cutAt c r with
      | none => simp [hc] at h
      | some y =>
        obtain ⟨a', b'⟩ := y
        simp [hc] at h
        obtain ⟨rfl, rfl⟩ := h
        have := cutAt_len hc
        simp; omega
theorem cutV_len (l : List UInt8) : (cutV l).1.length ≤ l.length ∧ (cutV l).2.1.length ≤ l.length := by
  unfold cutV
  cases h : cutAt 58 l with
  | none => simp
  | some x =>
    obtain ⟨a, b⟩ := x
    have := cutAt_len h
    simp only
    omega
theorem pieces_len {c : UInt8} : ∀ (l : List UInt8), (pieces c l).length ≤ l.length + 1 ∧ ∀ p ∈ pieces c l, p.length ≤ l.length
  | [] => by simp [pieces]
  | b :: r => by
    obtain ⟨h1, h2⟩ := pieces_len (c := c) r
    unfold pieces
    split
    · refine ⟨by simp; omega, fun p hp => ?_⟩
      rcases List.mem_cons.1 hp with rfl | hp
      · simp
      · have := h2 p hp; simp; omega
    · cases hr : pieces c r with
      | nil => exact absurd hr (pieces_ne c r)
      | cons q ps =>
        rw [hr] at h1 h2
        refine ⟨by simp at h1 ⊢; omega, fun p hp => ?_⟩
        rcases List.mem_cons.1 hp with rfl | hp
        · have := h2 q (List.mem_cons_self ..); simp; omega
        · have := h2 p (List.mem_cons_of_mem _ hp); simp; omega
theorem cut58_any (l : List UInt8) (hl : l.length ≤ 1000000) (w : World) (E : Env w) :
    Calls Tryz.prog 61 #[.string ⟨l.toArray⟩, .string ⟨#[58]⟩] w fun e w' => e = .returned (.tuple #[.string ⟨(cutV l).1.toArray⟩, .string ⟨(cutV l).2.1.toArray⟩, .bool (cutV l).2.2]) ∧ Below w.heap.size w w' := by
  obtain ⟨_, ⟨m, hm⟩, _⟩ := E
  refine (Tryz.strings_Cut ⟨l.toArray⟩ ⟨#[58]⟩ m w (by rw [ba_szP]; omega) hm).mono ?_
  rintro e w' ⟨rfl, n, rfl⟩
  refine ⟨?_, below_drewN (Below.refl _ _) _⟩
  have h := cut_eq l
  simp only [h]
theorem split44_any (l : List UInt8) (hl : l.length ≤ 1000000) (w : World) (E : Env w) :
    Calls Tryz.prog 60 #[.string ⟨l.toArray⟩, .string ⟨#[44]⟩] w fun e w' => (e = .returned (.slice (some ⟨w.heap.size, 0, none⟩) (pieces 44 l).length (pieces 44 l).length) ∧ Strs w' (some ⟨w.heap.size, 0, none⟩) (pieces 44 l)) ∧ Below w.heap.size w w' := by
  obtain ⟨_, ⟨m, hm⟩, _⟩ := E
  refine (Tryz.strings_Split ⟨l.toArray⟩ ⟨#[44]⟩ m w (by rw [ba_szP]; omega) hm (by decide)).mono ?_
  rintro e w' ⟨rfl, rfl⟩
  have hd := Lib.splitB_data ⟨#[44]⟩ 0 (Lib.countB ⟨l.toArray⟩ ⟨#[44]⟩) ⟨l.toArray⟩
  have hp : Lib.splitK [44] 0 (Lib.count l [44]) l = pieces 44 l := split_pieces 44 _ l (Nat.le_refl _)
  have hd2 : (Lib.splitB ⟨#[44]⟩ 0 (Lib.countB ⟨l.toArray⟩ ⟨#[44]⟩) ⟨l.toArray⟩).map (·.data.toList) = pieces 44 l := hd.trans hp
  have hn := Lib.splitB_all ⟨#[44]⟩ (by decide) 0 (Lib.countB ⟨l.toArray⟩ ⟨#[44]⟩) ⟨l.toArray⟩ rfl
  have hln : (pieces 44 l).length = Lib.countB ⟨l.toArray⟩ ⟨#[44]⟩ + 1 := by rw [← hd2, List.length_map]; exact hn
  refine ⟨⟨by rw [hln], ?_⟩, Below.alloc (Below.refl _ _) (Nat.le_refl _) _⟩
  intro i x hx
  refine ⟨w.heap.size, 0, rfl, by simp, ?_⟩
  rw [← hd2] at hx
  simp only [List.getElem?_map, Option.map_eq_some_iff] at hx
  obtain ⟨y, hy, rfl⟩ := hx
  have hc : ((Lib.splitB ⟨#[44]⟩ 0 (Lib.countB ⟨l.toArray⟩ ⟨#[44]⟩) ⟨l.toArray⟩).map Value.string)[i]? = some (.string y) := by rw [List.getElem?_map, hy]; rfl
  generalize (Lib.splitB ⟨#[44]⟩ 0 (Lib.countB ⟨l.toArray⟩ ⟨#[44]⟩) ⟨l.toArray⟩).map Value.string = cs at hc
  simp [go_sem, hc]
theorem star_any (l : List UInt8) (w : World) :
    Calls Tryz.prog 63 #[.string ⟨l.toArray⟩, .string ⟨#[42]⟩] w fun e w' => e = .returned (.bool (l.head? == some 42)) ∧ Below w.heap.size w w' := by
  refine (Tryz.strings_HasPrefix ⟨l.toArray⟩ ⟨#[42]⟩ w).mono ?_
  rintro e w' ⟨rfl, rfl⟩
  refine ⟨?_, Below.refl _ _⟩
  have : Lib.hasPrefix l [42] = (l.head? == some 42) := by
    cases l with
    | nil => rfl
    | cons a r => simp [Lib.hasPrefix, List.isPrefixOf]; exact Bool.beq_comm
  exact congrArg (fun b => Ending.returned (.bool b)) this
def nvT (l : List UInt8) : Int := if numF l then valN 9223372036854775807 l else 0
def nfT (l : List UInt8) : Bool := numF l && fitsN l
theorem numV_eq (l : List UInt8) : numV l = .tuple #[.int .i64 (nvT l), .bool (numF l), .bool (nfT l)] := by
  unfold numV nvT nfT
  cases numF l <;> rfl
end Go.Proofs.YtdpoahfjiomhbaaGreatDoor

/-
  Plain Lean behind tier.Parse: one piece; the steps.
-/
namespace Go.Proofs.YtdpoahfjiomhbaaGreatDoor
set_option linter.all false
open Go.RowKit Go.Sort

def satM : Int := 9223372036854775807
def okT (last : Bool) (a : List UInt8) : Bool := if a = [42] ∧ last = true then true else if a = [48] then false else numF a
def tfT (last : Bool) (a : List UInt8) : Bool := if a = [42] ∧ last = true then true else nfT a
theorem pieceT_eq (last : Bool) (p : List UInt8) : pieceT satM last p = if ((cutV p).2.2 && (numF (cutV p).2.1 && okT last (cutV p).1)) = true then some ((nvT (cutV p).1, nvT (cutV p).2.1), nfT (cutV p).2.1 && tfT last (cutV p).1) else none := by
  unfold pieceT cutV
  cases cutAt 58 p with
  | none => simp
  | some x =>
    obtain ⟨a, b⟩ := x
    simp only [Bool.true_and]
    unfold okT tfT nvT nfT
    by_cases ha : a = [42]
    · subst ha
      have h42 : numF [42] = false := by decide
      cases last <;> cases hb : numF b <;> simp [h42, satM]
    · cases ho : numF a <;> cases hb : numF b <;> by_cases h48 : a = [48] <;> simp [ha, h48, satM] <;> simp_all
/-- The state of Parse's loop ahead of piece k. -/
def PRel (ps : List (List UInt8)) (k : Nat) (acc : List (Int × Int)) (g : Bool) : Prop := goT satM ps = (goT satM (ps.drop k)).map (fun x => (acc ++ x.1, g && x.2)) ∧ acc.length = k
theorem prel_0 (ps : List (List UInt8)) : PRel ps 0 [] true := ⟨by simp, rfl⟩
theorem prel_piece {ps : List (List UInt8)} {k : Nat} {acc : List (Int × Int)} {g : Bool} {p : List UInt8} (h : PRel ps k acc g) (hp : ps[k]? = some p) :
    (((cutV p).2.2 && (numF (cutV p).2.1 && okT (decide (k + 1 = ps.length)) (cutV p).1)) = false → goT satM ps = none) ∧
    (((cutV p).2.2 && (numF (cutV p).2.1 && okT (decide (k + 1 = ps.length)) (cutV p).1)) = true → PRel ps (k + 1) (acc ++ [(nvT (cutV p).1, nvT (cutV p).2.1)]) (g && (nfT (cutV p).2.1 && tfT (decide (k + 1 = ps.length)) (cutV p).1))) := by
  obtain ⟨h1, h2⟩ := List.getElem?_eq_some_iff.1 hp
  have hd : ps.drop k = p :: ps.drop (k + 1) := by rw [List.drop_eq_getElem_cons h1, h2]
  have hl : (ps.drop (k + 1)).isEmpty = decide (k + 1 = ps.length) := by
    rw [Bool.eq_iff_iff]; simp; omega
  obtain ⟨hg, ha⟩ := h
  rw [hd, goT, hl, pieceT_eq] at hg
  refine ⟨fun hc => ?_, fun hc => ?_⟩
  · rw [hg, if_neg (by rw [hc]; decide)]; rfl
  · rw [if_pos hc] at hg
    refine ⟨?_, by simp [ha]⟩
    rw [hg]
    simp only
    cases goT satM (ps.drop (k + 1)) with
    | none => rfl
    | some y => simp [Bool.and_assoc]
theorem parse_none {s : List UInt8} (hl : s.length ≤ 1000) (h : goT satM (pieces 44 s) = none) : parseL s = [] ∧ parseE s = 10 := by
  rcases goT_sat satM 0 (pieces 44 s) with ⟨_, h2⟩ | ⟨_, _, _, h1, _⟩
  · unfold parseL parseE
    rw [if_neg (by omega), h2]; exact ⟨rfl, rfl⟩
  · rw [h] at h1; simp at h1
/-- Behind the loop. -/
theorem parse_some {s : List UInt8} {acc : List (Int × Int)} {g : Bool} (hl : s.length ≤ 1000) (h : PRel (pieces 44 s) (pieces 44 s).length acc g) :
    (starL (pieces 44 s) = false → parseL s = [] ∧ parseE s = 6) ∧
    (starL (pieces 44 s) = true → checkT acc = 9 → parseL s = [] ∧ parseE s = 9) ∧
    (starL (pieces 44 s) = true → checkT acc ≠ 9 → g = false → parseL s = [] ∧ parseE s = 6) ∧
    (starL (pieces 44 s) = true → checkT acc ≠ 9 → g = true → checkT acc ≠ 0 → parseL s = [] ∧ parseE s = checkT acc) ∧
    (starL (pieces 44 s) = true → checkT acc = 0 → g = true → parseL s = acc ∧ parseE s = 0) := by
  obtain ⟨hg, ha⟩ := h
  have hpos : (pieces 44 s).length ≠ 0 := fun e => pieces_ne 44 s (List.eq_nil_of_length_eq_zero e)
  rw [List.drop_of_length_le (Nat.le_refl _)] at hg
  simp only [goT, Option.map_some, List.append_nil, Bool.and_true] at hg
  rcases goT_sat satM 0 (pieces 44 s) with ⟨h1, _⟩ | ⟨l1, l2, f, h1, h2, h3, h4⟩
  · rw [hg] at h1; simp at h1
  · rw [hg] at h1
    simp only [Option.some.injEq, Prod.mk.injEq] at h1
    obtain ⟨e1, e2⟩ := h1
    subst e1 e2
    have n9 : checkT acc = 9 ↔ 20 < acc.length := by
      unfold checkT
      constructor
      · intro h; split at h
        · omega
        · split at h <;> omega
      · intro h; rw [if_pos (.inr h)]
    have E : parseE s = if starL (pieces 44 s) then if 20 < l2.length then 9 else if g then checkT l2 else 6 else 6 := by
      unfold parseE; rw [if_neg (by omega), h2]
    have L : parseL s = if parseE s = 0 then l2 else [] := by unfold parseL; rw [h2]
    rw [n9]
    refine ⟨fun a => ?_, fun a b => ?_, fun a b c => ?_, fun a b c d => ?_, fun a b c => ?_⟩
    · have : parseE s = 6 := by rw [E, a]; rfl
      rw [L, this]; exact ⟨rfl, rfl⟩
    · have : parseE s = 9 := by rw [E, a, if_pos rfl, if_pos (by omega)]
      rw [L, this]; exact ⟨rfl, rfl⟩
    · have : parseE s = 6 := by rw [E, a, if_pos rfl, if_neg (by omega), c]; rfl
      rw [L, this]; exact ⟨rfl, rfl⟩
    · have e := h4 c
      subst e
      have : parseE s = checkT acc := by rw [E, a, if_pos rfl, if_neg (by omega), c, if_pos rfl]
      rw [L, this, if_neg d]; exact ⟨rfl, rfl⟩
    · have e := h4 c
      subst e
      have h20 : ¬ 20 < acc.length := fun h => by rw [n9.2 h] at b; omega
      have : parseE s = 0 := by rw [E, a, if_pos rfl, if_neg h20, c, if_pos rfl, b]
      rw [L, this, if_pos rfl]; exact ⟨rfl, rfl⟩
end Go.Proofs.YtdpoahfjiomhbaaGreatDoor

/-
  Contract of tier.Parse.
-/
namespace Go.Proofs.YtdpoahfjiomhbaaGreatDoor
set_option linter.all false
open Go.RowKit Go.Sort
attribute [local go_sem] cell_set_self lt_1 lt_2 lt_3 lt_4 lt_5 lt_6

def ParseRes (s : List UInt8) (e : Ending) (w' : World) : Prop := ∃ A n c, e = .returned (.tuple #[.slice A n c, .int .i64 (parseE s)]) ∧ (parseL s).length = n ∧ Tiers w' A (parseL s)
theorem pres_nil {s : List UInt8} {x : Int} {w' : World} (h : parseL s = [] ∧ parseE s = x) : ParseRes s (.returned (.tuple #[.slice none 0 0, .int .i64 x])) w' := by
  obtain ⟨h1, h2⟩ := h
  refine ⟨none, 0, 0, by rw [h2], by rw [h1]; rfl, ?_⟩
  rw [h1]; intro i t hi; simp at hi
theorem pres_some {s : List UInt8} {A : Option Addr} {n c : Nat} {acc : List (Int × Int)} {w' : World} (h : parseL s = acc ∧ parseE s = 0) (hn : acc.length = n) (T : Tiers w' A acc) : ParseRes s (.returned (.tuple #[.slice A n c, .int .i64 0])) w' := by
  obtain ⟨h1, h2⟩ := h
  exact ⟨A, n, c, by rw [h2], by rw [h1]; exact hn, by rw [h1]; exact T⟩
theorem tiers_own' {w : World} {base : Nat} {T : TypeId} {A : Option Addr} {n c : Nat} {l : List (Int × Int)} (hl : l.length = n) (h : w.ownsRow base T 2 (.slice A n c) n (cellsT l)) : Tiers w A l := fun i t hi => by
  have hn : 0 < n := by have := (List.getElem?_eq_some_iff.1 hi).1; omega
  obtain ⟨g, cap, hv, _, hlt⟩ := h.form hn
  have hA : A = some ⟨g, 0, none⟩ := by injection hv
  subst hA
  obtain ⟨h1, h2⟩ := cellsT_at hi
  have hc := h.cells (g := g) rfl
  refine ⟨g, 0, rfl, hlt, ?_, ?_⟩
  · have := hc _ _ h1; rw [addr0] at this; simpa using this
  · have := hc _ _ h2; rw [addr0] at this; simpa [Nat.add_assoc] using this
theorem strs_at {w : World} {g : Nat} {ps : List (List UInt8)} {k : Nat} {p : List UInt8} (h : Strs w (some ⟨g, 0, none⟩) ps) (hp : ps[k]? = some p) : g < w.heap.size ∧ w.cell? ⟨g, k, none⟩ = some (.string ⟨p.toArray⟩) := by
  obtain ⟨b, off, h1, h2, h3⟩ := h k p hp
  simp at h1
  obtain ⟨rfl, rfl⟩ := h1
  exact ⟨h2, by simpa using h3⟩
theorem starL_at {ps : List (List UInt8)} {m : Nat} {q : List UInt8} (hl : ps.length = m + 1) (hq : ps[m]? = some q) : starL ps = (q.head? == some 42) := by
  unfold starL
  rw [List.getLast?_eq_getElem?, hl, show m + 1 - 1 = m by omega, hq]; rfl

set_option maxHeartbeats 4000000 in
set_option maxRecDepth 100000 in
theorem parse_any (s : List UInt8) (hs : s.length ≤ 1000000) (w : World) (E : Env w) :
    Calls Tryz.prog 15 #[.string ⟨s.toArray⟩] w fun e w' => ParseRes s e w' ∧ Below w.heap.size w w' := by
  obtain ⟨i0, hi0, hz0, hz1, hz2⟩ := info_parts Tryz.infoTier
  have hsz := ba_szP s
  by_cases hlong : 1000 < s.length
  · have hl' : (1000 : Int) < (⟨s.toArray⟩ : ByteArray).size := by omega
    have hR : Hid (parseL s = [] ∧ parseE s = 8) := Lib.hid (by
      have e : parseE s = 8 := by unfold parseE; rw [if_pos hlong]
      refine ⟨?_, e⟩
      unfold parseL; rw [e]
      cases goT 0 (pieces 44 s) with
      | none => rfl
      | some x => rfl)
    go_enter Tryz.func15, Tryz.ntmps15
    go_wp2
    go_ret2
    exact ⟨pres_nil hR.out, (by repeat (first | exact Below.refl _ _ | refine Below.setCell ?_ (by first | (simp; done) | (simp; omega) | omega) _ | refine Below.alloc ?_ (by first | (simp; done) | (simp; omega) | omega) _ | refine Below.drew ?_ | assumption | refine Below.trans ?_ (Below.mono (by assumption) (by first | (simp; done) | (simp; omega) | omega))))⟩
  · have hl' : ¬ (1000 : Int) < (⟨s.toArray⟩ : ByteArray).size := by omega
    have hs1 : s.length ≤ 1000 := by omega
    have SP := Lib.hid (split44_any s hs w E)
    obtain ⟨hn1, hn2⟩ := pieces_len (c := 44) s
    have hne := pieces_ne 44 s
    obtain ⟨ps, hps⟩ : ∃ ps, pieces 44 s = ps := ⟨_, rfl⟩
    have HPS := Lib.hid hps
    rw [hps] at hn1 hn2 hne SP
    obtain ⟨m, hm⟩ : ∃ m, ps.length = m + 1 := ⟨ps.length - 1, by have : ps.length ≠ 0 := fun e => hne (List.eq_nil_of_length_eq_zero e); omega⟩
    have HM := Lib.hid hm
    rw [hm] at SP
    have hm1 : m ≤ 1000 := by omega
    have HN2 := Lib.hid hn2
    have HS1 := Lib.hid hs1
    have hEA := Lib.hid (fun W (hb : Below w.heap.size w W) => E.below hb)
    have hsm : (⟨s.toArray⟩ : ByteArray).size ≤ 1000 := by omega
    clear hn1 hn2 hne hps hm hs hs1 hlong hsz E
    generalize (⟨s.toArray⟩ : ByteArray) = sb at *
    go_enter Tryz.func15, Tryz.ntmps15
    go_wp2_with (first | (go_at_call 60; refine (SP.out).mono ?_; rintro e w1 ⟨⟨rfl, hst⟩, hb1⟩; obtain ⟨hc1, hf1⟩ := bcell hb1; have hs1 := hb1.size; (try simp at hs1)))
    have HST := Lib.hid (fun W (hb : Below w1.heap.size w1 W) => hst.below hb)
    have hEB := Lib.hid (fun W (hb : Below w1.heap.size w1 W) => hEA.out W (hb1.trans (hb.mono hb1.size)))
    have FIN := Lib.hid (fun W (hb : Below w1.heap.size w1 W) => (hb1.trans (hb.mono hb1.size)))
    clear hst
    go_loopw [4, 5, 26] (fun a g i wr => ∃ (k : Nat) (v : Value) (gg : Bool) (acc : List (Int × Int)), k ≤ m + 1 ∧ i = .int .i64 k ∧ g = .bool gg ∧ v = a ∧ acc.length = k ∧ Hid (PRel ps k acc gg) ∧ Hid (wr.ownsRow w1.heap.size 37 2 v acc.length (cellsT acc)) ∧ Below w1.heap.size w1 wr) (fun _ _ i _ => m + 1 - (intOf i).toNat)
    case atStart => exact ⟨0, _, true, [], by omega, rfl, rfl, rfl, rfl, Lib.hid (prel_0 ps), Lib.hid (World.ownsRow_nil _ _ _ _), Below.refl _ _⟩
    case round =>
      obtain ⟨k, v, gg, acc, hk, rfl, rfl, hv, hak, HP, HO, hB⟩ := hrel; subst hv
      obtain ⟨wo, rfl⟩ : ∃ wo : World, wo = wr := ⟨_, rfl⟩
      have hsl := hB.size
      by_cases hlt : k < m + 1
      · have hlt' : (k : Int) < (m : Int) + 1 := by omega
        obtain ⟨p, hp⟩ : ∃ p, ps[k]? = some p := ⟨_, List.getElem?_eq_getElem (by rw [HM.out]; exact hlt)⟩
        obtain ⟨hgl, hcell⟩ := strs_at (HST.out wo hB) hp
        obtain ⟨NO, YES⟩ := prel_piece HP.out hp
        have hpl := HN2.out p (List.mem_of_getElem? hp)
        obtain ⟨la, lb⟩ := cutV_len p
        have hp6 := HS1.out
        have CU : Hid (∀ W, Below w1.heap.size w1 W → Calls Tryz.prog 61 #[.string ⟨p.toArray⟩, .string ⟨#[58]⟩] W fun e w' => e = .returned (.tuple #[.string ⟨(cutV p).1.toArray⟩, .string ⟨(cutV p).2.1.toArray⟩, .bool (cutV p).2.2]) ∧ Below W.heap.size W w') := Lib.hid fun W hb => cut58_any p (by omega) W (hEB.out W hb)
        generalize cutV p = cx at *
        obtain ⟨a, b, fd⟩ := cx
        (try dsimp only at NO); (try dsimp only at YES); (try dsimp only at CU); (try dsimp only at la); (try dsimp only at lb)
        have NB : Hid (∀ W, Below w1.heap.size w1 W → Calls Tryz.prog 62 #[.string ⟨b.toArray⟩] W fun e w' => e = .returned (.tuple #[.int .i64 (nvT b), .bool (numF b), .bool (nfT b)]) ∧ Below W.heap.size W w') := Lib.hid fun W hb => by rw [← numV_eq]; exact number_any b (by omega) W (hEB.out W hb)
        have NA : Hid (∀ W, Below w1.heap.size w1 W → Calls Tryz.prog 62 #[.string ⟨a.toArray⟩] W fun e w' => e = .returned (.tuple #[.int .i64 (nvT a), .bool (numF a), .bool (nfT a)]) ∧ Below W.heap.size W w') := Lib.hid fun W hb => by rw [← numV_eq]; exact number_any a (by omega) W (hEB.out W hb)
        have e42 : ((⟨a.toArray⟩ : ByteArray).toList == [42]) = decide (a = [42]) := by rw [ByteArray.toList_mk]; exact Bool.beq_eq_decide_eq a [42]
        have e48 : ((⟨a.toArray⟩ : ByteArray).toList == [48]) = decide (a = [48]) := by rw [ByteArray.toList_mk]; exact Bool.beq_eq_decide_eq a [48]
        have hcs : (∃ h : (decide (a = [42]) = true ∧ k + 1 = m + 1), okT (decide (k + 1 = ps.length)) a = true ∧ tfT (decide (k + 1 = ps.length)) a = true) ∨ (∃ h : (decide (a = [42]) = true ∧ k + 1 ≠ m + 1), decide (a = [48]) = false ∧ okT (decide (k + 1 = ps.length)) a = numF a ∧ tfT (decide (k + 1 = ps.length)) a = nfT a) ∨ (∃ h : (decide (a = [42]) = false ∧ decide (a = [48]) = true), okT (decide (k + 1 = ps.length)) a = false) ∨ (∃ h : (decide (a = [42]) = false ∧ decide (a = [48]) = false), okT (decide (k + 1 = ps.length)) a = numF a ∧ tfT (decide (k + 1 = ps.length)) a = nfT a) := by
          rw [HM.out]
          unfold okT tfT
          by_cases h1 : a = [42]
          · subst h1
            by_cases h2 : k + 1 = m + 1
            · left; simp [h2]
            · right; left; simp at h2; simp [h2]
          · by_cases h3 : a = [48]
            · right; right; left; simp [h3]
            · right; right; right; simp [h1, h3]
        have NO' := Lib.hid NO; have YES' := Lib.hid YES
        clear NO YES la lb hpl hp6 hp
        generalize okT (decide (k + 1 = ps.length)) a = okv at *
        generalize tfT (decide (k + 1 = ps.length)) a = tfv at *
        generalize decide (a = [42]) = sa at *
        generalize decide (a = [48]) = sz at *
        generalize nvT a = na at *
        generalize nvT b = nb at *
        generalize numF a = oa at *
        generalize numF b = ob at *
        generalize nfT a = fa at *
        generalize nfT b = fb at *
        generalize (⟨a.toArray⟩ : ByteArray) = SA at *
        generalize (⟨b.toArray⟩ : ByteArray) = SB at *
        generalize (⟨p.toArray⟩ : ByteArray) = SPP at *
        by_cases hyes : (fd && (ob && okv)) = true
        · have YY := Lib.hid (YES'.out hyes)
          clear NO' YES'
          simp only [Bool.and_eq_true] at hyes
          obtain ⟨rfl, rfl, rfl⟩ := hyes
          rcases hcs with ⟨⟨rfl, h2⟩, h3, h4⟩ | ⟨⟨rfl, h2⟩, rfl, h3, h4⟩ | ⟨_, h3⟩ | ⟨⟨rfl, rfl⟩, h3, h4⟩
          · subst h4
            obtain rfl : k = m := by omega
            clear h3 h2
            cases gg <;> cases fb
            all_goals (
              go_wp2_with (first
                  | (go_at_call 61; refine (CU.out _ (by repeat (first | exact Below.refl _ _ | refine Below.setCell ?_ (by first | (simp; done) | (simp; omega) | omega) _ | refine Below.alloc ?_ (by first | (simp; done) | (simp; omega) | omega) _ | refine Below.drew ?_ | assumption | refine Below.trans ?_ (Below.mono (by assumption) (by first | (simp; done) | (simp; omega) | omega))))).mono ?_; rintro e w3 ⟨rfl, hb3⟩; obtain ⟨hc3, hf3⟩ := bcell hb3; have hs3 := hb3.size; (try simp at hs3))
                  | (go_at_call 62; (with_reducible refine (NB.out _ (by repeat (first | exact Below.refl _ _ | refine Below.setCell ?_ (by first | (simp; done) | (simp; omega) | omega) _ | refine Below.alloc ?_ (by first | (simp; done) | (simp; omega) | omega) _ | refine Below.drew ?_ | assumption | refine Below.trans ?_ (Below.mono (by assumption) (by first | (simp; done) | (simp; omega) | omega))))).mono ?_); rintro e w4 ⟨rfl, hb4⟩; obtain ⟨hc4, hf4⟩ := bcell hb4; have hs4' := hb4.size; (try simp at hs4'))
                  | (go_at_call 62; (with_reducible refine (NA.out _ (by repeat (first | exact Below.refl _ _ | refine Below.setCell ?_ (by first | (simp; done) | (simp; omega) | omega) _ | refine Below.alloc ?_ (by first | (simp; done) | (simp; omega) | omega) _ | refine Below.drew ?_ | assumption | refine Below.trans ?_ (Below.mono (by assumption) (by first | (simp; done) | (simp; omega) | omega))))).mono ?_); rintro e w5 ⟨rfl, hb5⟩; obtain ⟨hc5, hf5⟩ := bcell hb5; have hs5' := hb5.size; (try simp at hs5'))
                  | (at_builtin; refine wpList_append_own _ rfl (.tmp 77) (.tmp 81) 22 rfl w1.heap.size 37 i0 _ 2 16 Tryz.underlying22 hi0 hz0 hz1 hz2 rfl (by decide) v acc.length (cellsT acc) rfl ((own_below HO.out (by repeat (first | exact Below.refl _ _ | refine Below.setCell ?_ (by first | (simp; done) | (simp; omega) | omega) _ | refine Below.alloc ?_ (by first | (simp; done) | (simp; omega) | omega) _ | refine Below.drew ?_ | assumption | refine Below.trans ?_ (Below.mono (by assumption) (by first | (simp; done) | (simp; omega) | omega))))).alloc _) _ 1 1 [.int .i64 na, .int .i64 nb] rfl rfl (by intro j u' hj; match j, hj with | 0, hj => (simp at hj; subst hj; simp [Addr.add, go_sem]) | 1, hj => (simp at hj; subst hj; simp [Addr.add, go_sem])) (by intro u' hu'; simp at hu'; rcases hu' with rfl | rfl <;> rfl) (by unfold maxLen; omega) (by omega) (by simp; omega) ?_; intro v6 w6 hown6 hgrow6 hiff; clear hiff; have HO6 := Lib.hid hown6; have B6 : Below w1.heap.size w1 w6 := Below.grown (by repeat (first | exact Below.refl _ _ | refine Below.setCell ?_ (by first | (simp; done) | (simp; omega) | omega) _ | refine Below.alloc ?_ (by first | (simp; done) | (simp; omega) | omega) _ | refine Below.drew ?_ | assumption | refine Below.trans ?_ (Below.mono (by assumption) (by first | (simp; done) | (simp; omega) | omega)))) hgrow6 (by simp; omega) (fun g hg => (HO.out.lt g hg).1); clear hown6 hgrow6))
              go_roundw
              case rel => exact ⟨k + 1, _, _, acc ++ [(na, nb)], by omega, by go_num, rfl, rfl, by rw [List.length_append, List.length_singleton]; omega, YY, Lib.hid (by rw [cellsT_append, List.length_append]; exact HO6.out), B6⟩
              case measure => first | (simp [intOf]; done) | (simp [intOf]; omega))
          · have hkm : ¬ ((k : Int) = (m : Int)) := by omega
            subst h3 h4
            clear h2
            cases gg <;> cases fb <;> cases tfv
            all_goals (
              go_wp2_with (first
                  | (go_at_call 61; refine (CU.out _ (by repeat (first | exact Below.refl _ _ | refine Below.setCell ?_ (by first | (simp; done) | (simp; omega) | omega) _ | refine Below.alloc ?_ (by first | (simp; done) | (simp; omega) | omega) _ | refine Below.drew ?_ | assumption | refine Below.trans ?_ (Below.mono (by assumption) (by first | (simp; done) | (simp; omega) | omega))))).mono ?_; rintro e w3 ⟨rfl, hb3⟩; obtain ⟨hc3, hf3⟩ := bcell hb3; have hs3 := hb3.size; (try simp at hs3))
                  | (go_at_call 62; (with_reducible refine (NB.out _ (by repeat (first | exact Below.refl _ _ | refine Below.setCell ?_ (by first | (simp; done) | (simp; omega) | omega) _ | refine Below.alloc ?_ (by first | (simp; done) | (simp; omega) | omega) _ | refine Below.drew ?_ | assumption | refine Below.trans ?_ (Below.mono (by assumption) (by first | (simp; done) | (simp; omega) | omega))))).mono ?_); rintro e w4 ⟨rfl, hb4⟩; obtain ⟨hc4, hf4⟩ := bcell hb4; have hs4' := hb4.size; (try simp at hs4'))
                  | (go_at_call 62; (with_reducible refine (NA.out _ (by repeat (first | exact Below.refl _ _ | refine Below.setCell ?_ (by first | (simp; done) | (simp; omega) | omega) _ | refine Below.alloc ?_ (by first | (simp; done) | (simp; omega) | omega) _ | refine Below.drew ?_ | assumption | refine Below.trans ?_ (Below.mono (by assumption) (by first | (simp; done) | (simp; omega) | omega))))).mono ?_); rintro e w5 ⟨rfl, hb5⟩; obtain ⟨hc5, hf5⟩ := bcell hb5; have hs5' := hb5.size; (try simp at hs5'))
                  | (at_builtin; refine wpList_append_own _ rfl (.tmp 77) (.tmp 81) 22 rfl w1.heap.size 37 i0 _ 2 16 Tryz.underlying22 hi0 hz0 hz1 hz2 rfl (by decide) v acc.length (cellsT acc) rfl ((own_below HO.out (by repeat (first | exact Below.refl _ _ | refine Below.setCell ?_ (by first | (simp; done) | (simp; omega) | omega) _ | refine Below.alloc ?_ (by first | (simp; done) | (simp; omega) | omega) _ | refine Below.drew ?_ | assumption | refine Below.trans ?_ (Below.mono (by assumption) (by first | (simp; done) | (simp; omega) | omega))))).alloc _) _ 1 1 [.int .i64 na, .int .i64 nb] rfl rfl (by intro j u' hj; match j, hj with | 0, hj => (simp at hj; subst hj; simp [Addr.add, go_sem]) | 1, hj => (simp at hj; subst hj; simp [Addr.add, go_sem])) (by intro u' hu'; simp at hu'; rcases hu' with rfl | rfl <;> rfl) (by unfold maxLen; omega) (by omega) (by simp; omega) ?_; intro v6 w6 hown6 hgrow6 hiff; clear hiff; have HO6 := Lib.hid hown6; have B6 : Below w1.heap.size w1 w6 := Below.grown (by repeat (first | exact Below.refl _ _ | refine Below.setCell ?_ (by first | (simp; done) | (simp; omega) | omega) _ | refine Below.alloc ?_ (by first | (simp; done) | (simp; omega) | omega) _ | refine Below.drew ?_ | assumption | refine Below.trans ?_ (Below.mono (by assumption) (by first | (simp; done) | (simp; omega) | omega)))) hgrow6 (by simp; omega) (fun g hg => (HO.out.lt g hg).1); clear hown6 hgrow6))
              go_roundw
              case rel => exact ⟨k + 1, _, _, acc ++ [(na, nb)], by omega, by go_num, rfl, rfl, by rw [List.length_append, List.length_singleton]; omega, YY, Lib.hid (by rw [cellsT_append, List.length_append]; exact HO6.out), B6⟩
              case measure => first | (simp [intOf]; done) | (simp [intOf]; omega))
          · cases h3
          · subst h3 h4
            cases gg <;> cases fb <;> cases tfv
            all_goals (
              go_wp2_with (first
                  | (go_at_call 61; refine (CU.out _ (by repeat (first | exact Below.refl _ _ | refine Below.setCell ?_ (by first | (simp; done) | (simp; omega) | omega) _ | refine Below.alloc ?_ (by first | (simp; done) | (simp; omega) | omega) _ | refine Below.drew ?_ | assumption | refine Below.trans ?_ (Below.mono (by assumption) (by first | (simp; done) | (simp; omega) | omega))))).mono ?_; rintro e w3 ⟨rfl, hb3⟩; obtain ⟨hc3, hf3⟩ := bcell hb3; have hs3 := hb3.size; (try simp at hs3))
                  | (go_at_call 62; (with_reducible refine (NB.out _ (by repeat (first | exact Below.refl _ _ | refine Below.setCell ?_ (by first | (simp; done) | (simp; omega) | omega) _ | refine Below.alloc ?_ (by first | (simp; done) | (simp; omega) | omega) _ | refine Below.drew ?_ | assumption | refine Below.trans ?_ (Below.mono (by assumption) (by first | (simp; done) | (simp; omega) | omega))))).mono ?_); rintro e w4 ⟨rfl, hb4⟩; obtain ⟨hc4, hf4⟩ := bcell hb4; have hs4' := hb4.size; (try simp at hs4'))
                  | (go_at_call 62; (with_reducible refine (NA.out _ (by repeat (first | exact Below.refl _ _ | refine Below.setCell ?_ (by first | (simp; done) | (simp; omega) | omega) _ | refine Below.alloc ?_ (by first | (simp; done) | (simp; omega) | omega) _ | refine Below.drew ?_ | assumption | refine Below.trans ?_ (Below.mono (by assumption) (by first | (simp; done) | (simp; omega) | omega))))).mono ?_); rintro e w5 ⟨rfl, hb5⟩; obtain ⟨hc5, hf5⟩ := bcell hb5; have hs5' := hb5.size; (try simp at hs5'))
                  | (at_builtin; refine wpList_append_own _ rfl (.tmp 77) (.tmp 81) 22 rfl w1.heap.size 37 i0 _ 2 16 Tryz.underlying22 hi0 hz0 hz1 hz2 rfl (by decide) v acc.length (cellsT acc) rfl ((own_below HO.out (by repeat (first | exact Below.refl _ _ | refine Below.setCell ?_ (by first | (simp; done) | (simp; omega) | omega) _ | refine Below.alloc ?_ (by first | (simp; done) | (simp; omega) | omega) _ | refine Below.drew ?_ | assumption | refine Below.trans ?_ (Below.mono (by assumption) (by first | (simp; done) | (simp; omega) | omega))))).alloc _) _ 1 1 [.int .i64 na, .int .i64 nb] rfl rfl (by intro j u' hj; match j, hj with | 0, hj => (simp at hj; subst hj; simp [Addr.add, go_sem]) | 1, hj => (simp at hj; subst hj; simp [Addr.add, go_sem])) (by intro u' hu'; simp at hu'; rcases hu' with rfl | rfl <;> rfl) (by unfold maxLen; omega) (by omega) (by simp; omega) ?_; intro v6 w6 hown6 hgrow6 hiff; clear hiff; have HO6 := Lib.hid hown6; have B6 : Below w1.heap.size w1 w6 := Below.grown (by repeat (first | exact Below.refl _ _ | refine Below.setCell ?_ (by first | (simp; done) | (simp; omega) | omega) _ | refine Below.alloc ?_ (by first | (simp; done) | (simp; omega) | omega) _ | refine Below.drew ?_ | assumption | refine Below.trans ?_ (Below.mono (by assumption) (by first | (simp; done) | (simp; omega) | omega)))) hgrow6 (by simp; omega) (fun g hg => (HO.out.lt g hg).1); clear hown6 hgrow6))
              go_roundw
              case rel => exact ⟨k + 1, _, _, acc ++ [(na, nb)], by omega, by go_num, rfl, rfl, by rw [List.length_append, List.length_singleton]; omega, YY, Lib.hid (by rw [cellsT_append, List.length_append]; exact HO6.out), B6⟩
              case measure => first | (simp [intOf]; done) | (simp [intOf]; omega))
        · have NN := Lib.hid (NO'.out (by simpa using hyes))
          clear NO' YES'
          rcases hcs with ⟨⟨rfl, h2⟩, rfl, _⟩ | ⟨⟨rfl, h2⟩, rfl, h3, _⟩ | ⟨⟨rfl, rfl⟩, rfl⟩ | ⟨⟨rfl, rfl⟩, h3, _⟩
          · obtain rfl : k = m := by omega
            cases fd <;> cases ob
            all_goals first
              | (exact absurd rfl hyes)
              | (clear hyes h2
                 go_wp2_with (first
                     | (go_at_call 61; refine (CU.out _ (by repeat (first | exact Below.refl _ _ | refine Below.setCell ?_ (by first | (simp; done) | (simp; omega) | omega) _ | refine Below.alloc ?_ (by first | (simp; done) | (simp; omega) | omega) _ | refine Below.drew ?_ | assumption | refine Below.trans ?_ (Below.mono (by assumption) (by first | (simp; done) | (simp; omega) | omega))))).mono ?_; rintro e w3 ⟨rfl, hb3⟩; obtain ⟨hc3, hf3⟩ := bcell hb3; have hs3 := hb3.size; (try simp at hs3))
                     | (go_at_call 62; (with_reducible refine (NB.out _ (by repeat (first | exact Below.refl _ _ | refine Below.setCell ?_ (by first | (simp; done) | (simp; omega) | omega) _ | refine Below.alloc ?_ (by first | (simp; done) | (simp; omega) | omega) _ | refine Below.drew ?_ | assumption | refine Below.trans ?_ (Below.mono (by assumption) (by first | (simp; done) | (simp; omega) | omega))))).mono ?_); rintro e w4 ⟨rfl, hb4⟩; obtain ⟨hc4, hf4⟩ := bcell hb4; have hs4' := hb4.size; (try simp at hs4'))
                     | (go_at_call 62; (with_reducible refine (NA.out _ (by repeat (first | exact Below.refl _ _ | refine Below.setCell ?_ (by first | (simp; done) | (simp; omega) | omega) _ | refine Below.alloc ?_ (by first | (simp; done) | (simp; omega) | omega) _ | refine Below.drew ?_ | assumption | refine Below.trans ?_ (Below.mono (by assumption) (by first | (simp; done) | (simp; omega) | omega))))).mono ?_); rintro e w5 ⟨rfl, hb5⟩; obtain ⟨hc5, hf5⟩ := bcell hb5; have hs5' := hb5.size; (try simp at hs5')))
                 go_ret2
                 exact ⟨pres_nil (parse_none HS1.out (by rw [HPS.out]; exact NN.out)), (by repeat (first | exact Below.refl _ _ | refine Below.setCell ?_ (by first | (simp; done) | (simp; omega) | omega) _ | refine Below.alloc ?_ (by first | (simp; done) | (simp; omega) | omega) _ | refine Below.drew ?_ | assumption | refine Below.trans ?_ (Below.mono (by assumption) (by first | (simp; done) | (simp; omega) | omega))))⟩)
          · have hkm : ¬ ((k : Int) = (m : Int)) := by omega
            subst h3
            cases fd <;> cases ob <;> cases okv
            all_goals first
              | (exact absurd rfl hyes)
              | (clear hyes h2
                 go_wp2_with (first
                     | (go_at_call 61; refine (CU.out _ (by repeat (first | exact Below.refl _ _ | refine Below.setCell ?_ (by first | (simp; done) | (simp; omega) | omega) _ | refine Below.alloc ?_ (by first | (simp; done) | (simp; omega) | omega) _ | refine Below.drew ?_ | assumption | refine Below.trans ?_ (Below.mono (by assumption) (by first | (simp; done) | (simp; omega) | omega))))).mono ?_; rintro e w3 ⟨rfl, hb3⟩; obtain ⟨hc3, hf3⟩ := bcell hb3; have hs3 := hb3.size; (try simp at hs3))
                     | (go_at_call 62; (with_reducible refine (NB.out _ (by repeat (first | exact Below.refl _ _ | refine Below.setCell ?_ (by first | (simp; done) | (simp; omega) | omega) _ | refine Below.alloc ?_ (by first | (simp; done) | (simp; omega) | omega) _ | refine Below.drew ?_ | assumption | refine Below.trans ?_ (Below.mono (by assumption) (by first | (simp; done) | (simp; omega) | omega))))).mono ?_); rintro e w4 ⟨rfl, hb4⟩; obtain ⟨hc4, hf4⟩ := bcell hb4; have hs4' := hb4.size; (try simp at hs4'))
                     | (go_at_call 62; (with_reducible refine (NA.out _ (by repeat (first | exact Below.refl _ _ | refine Below.setCell ?_ (by first | (simp; done) | (simp; omega) | omega) _ | refine Below.alloc ?_ (by first | (simp; done) | (simp; omega) | omega) _ | refine Below.drew ?_ | assumption | refine Below.trans ?_ (Below.mono (by assumption) (by first | (simp; done) | (simp; omega) | omega))))).mono ?_); rintro e w5 ⟨rfl, hb5⟩; obtain ⟨hc5, hf5⟩ := bcell hb5; have hs5' := hb5.size; (try simp at hs5')))
                 go_ret2
                 exact ⟨pres_nil (parse_none HS1.out (by rw [HPS.out]; exact NN.out)), (by repeat (first | exact Below.refl _ _ | refine Below.setCell ?_ (by first | (simp; done) | (simp; omega) | omega) _ | refine Below.alloc ?_ (by first | (simp; done) | (simp; omega) | omega) _ | refine Below.drew ?_ | assumption | refine Below.trans ?_ (Below.mono (by assumption) (by first | (simp; done) | (simp; omega) | omega))))⟩)
          · cases fd <;> cases ob
            all_goals (
              clear hyes
              go_wp2_with (first
                  | (go_at_call 61; refine (CU.out _ (by repeat (first | exact Below.refl _ _ | refine Below.setCell ?_ (by first | (simp; done) | (simp; omega) | omega) _ | refine Below.alloc ?_ (by first | (simp; done) | (simp; omega) | omega) _ | refine Below.drew ?_ | assumption | refine Below.trans ?_ (Below.mono (by assumption) (by first | (simp; done) | (simp; omega) | omega))))).mono ?_; rintro e w3 ⟨rfl, hb3⟩; obtain ⟨hc3, hf3⟩ := bcell hb3; have hs3 := hb3.size; (try simp at hs3))
                  | (go_at_call 62; (with_reducible refine (NB.out _ (by repeat (first | exact Below.refl _ _ | refine Below.setCell ?_ (by first | (simp; done) | (simp; omega) | omega) _ | refine Below.alloc ?_ (by first | (simp; done) | (simp; omega) | omega) _ | refine Below.drew ?_ | assumption | refine Below.trans ?_ (Below.mono (by assumption) (by first | (simp; done) | (simp; omega) | omega))))).mono ?_); rintro e w4 ⟨rfl, hb4⟩; obtain ⟨hc4, hf4⟩ := bcell hb4; have hs4' := hb4.size; (try simp at hs4'))
                  | (go_at_call 62; (with_reducible refine (NA.out _ (by repeat (first | exact Below.refl _ _ | refine Below.setCell ?_ (by first | (simp; done) | (simp; omega) | omega) _ | refine Below.alloc ?_ (by first | (simp; done) | (simp; omega) | omega) _ | refine Below.drew ?_ | assumption | refine Below.trans ?_ (Below.mono (by assumption) (by first | (simp; done) | (simp; omega) | omega))))).mono ?_); rintro e w5 ⟨rfl, hb5⟩; obtain ⟨hc5, hf5⟩ := bcell hb5; have hs5' := hb5.size; (try simp at hs5')))
              go_ret2
              exact ⟨pres_nil (parse_none HS1.out (by rw [HPS.out]; exact NN.out)), (by repeat (first | exact Below.refl _ _ | refine Below.setCell ?_ (by first | (simp; done) | (simp; omega) | omega) _ | refine Below.alloc ?_ (by first | (simp; done) | (simp; omega) | omega) _ | refine Below.drew ?_ | assumption | refine Below.trans ?_ (Below.mono (by assumption) (by first | (simp; done) | (simp; omega) | omega))))⟩)
          · subst h3
            cases fd <;> cases ob <;> cases okv
            all_goals first
              | (exact absurd rfl hyes)
              | (clear hyes
                 go_wp2_with (first
                     | (go_at_call 61; refine (CU.out _ (by repeat (first | exact Below.refl _ _ | refine Below.setCell ?_ (by first | (simp; done) | (simp; omega) | omega) _ | refine Below.alloc ?_ (by first | (simp; done) | (simp; omega) | omega) _ | refine Below.drew ?_ | assumption | refine Below.trans ?_ (Below.mono (by assumption) (by first | (simp; done) | (simp; omega) | omega))))).mono ?_; rintro e w3 ⟨rfl, hb3⟩; obtain ⟨hc3, hf3⟩ := bcell hb3; have hs3 := hb3.size; (try simp at hs3))
                     | (go_at_call 62; (with_reducible refine (NB.out _ (by repeat (first | exact Below.refl _ _ | refine Below.setCell ?_ (by first | (simp; done) | (simp; omega) | omega) _ | refine Below.alloc ?_ (by first | (simp; done) | (simp; omega) | omega) _ | refine Below.drew ?_ | assumption | refine Below.trans ?_ (Below.mono (by assumption) (by first | (simp; done) | (simp; omega) | omega))))).mono ?_); rintro e w4 ⟨rfl, hb4⟩; obtain ⟨hc4, hf4⟩ := bcell hb4; have hs4' := hb4.size; (try simp at hs4'))
                     | (go_at_call 62; (with_reducible refine (NA.out _ (by repeat (first | exact Below.refl _ _ | refine Below.setCell ?_ (by first | (simp; done) | (simp; omega) | omega) _ | refine Below.alloc ?_ (by first | (simp; done) | (simp; omega) | omega) _ | refine Below.drew ?_ | assumption | refine Below.trans ?_ (Below.mono (by assumption) (by first | (simp; done) | (simp; omega) | omega))))).mono ?_); rintro e w5 ⟨rfl, hb5⟩; obtain ⟨hc5, hf5⟩ := bcell hb5; have hs5' := hb5.size; (try simp at hs5')))
                 go_ret2
                 exact ⟨pres_nil (parse_none HS1.out (by rw [HPS.out]; exact NN.out)), (by repeat (first | exact Below.refl _ _ | refine Below.setCell ?_ (by first | (simp; done) | (simp; omega) | omega) _ | refine Below.alloc ?_ (by first | (simp; done) | (simp; omega) | omega) _ | refine Below.drew ?_ | assumption | refine Below.trans ?_ (Below.mono (by assumption) (by first | (simp; done) | (simp; omega) | omega))))⟩)
      · obtain rfl : k = m + 1 := by omega
        have hP := parse_some (s := s) (acc := acc) (g := gg) HS1.out (by rw [HPS.out, HM.out]; exact HP.out)
        rw [HPS.out] at hP
        obtain ⟨q, hq⟩ : ∃ q, ps[m]? = some q := ⟨_, List.getElem?_eq_getElem (by rw [HM.out]; omega)⟩
        obtain ⟨hgl, hcell⟩ := strs_at (HST.out wo hB) hq
        have hst := starL_at HM.out hq
        have ST : Hid (∀ W, Calls Tryz.prog 63 #[.string ⟨q.toArray⟩, .string ⟨#[42]⟩] W fun e w' => e = .returned (.bool (starL ps)) ∧ Below W.heap.size W w') := Lib.hid fun W => by rw [hst]; exact star_any q W
        rw [hak] at HO
        obtain ⟨A, c, hA⟩ := own_form HO.out
        subst hA
        have HT := Lib.hid (tiers_own' hak HO.out)
        have CK := Lib.hid (check_any A (m + 1) c acc hak (by omega) wo HT.out)
        have hgt : ¬ ((m : Int) + 1 < (m : Int) + 1) := by omega
        obtain ⟨P1, P2, P3, P4, P5⟩ := hP
        have P1 := Lib.hid P1; have P2 := Lib.hid P2; have P3 := Lib.hid P3; have P4 := Lib.hid P4; have P5 := Lib.hid P5
        have HAK := Lib.hid hak
        clear hst hq hak HP HO
        generalize (⟨q.toArray⟩ : ByteArray) = SQ at *
        generalize starL ps = sl at *
        generalize checkT acc = x at *
        cases sl
        · go_wp2_with (first | (go_at_call 55; refine (CK.out).mono ?_; rintro e w2 ⟨rfl, hb2⟩; obtain ⟨hc2, hf2⟩ := bcell hb2; have hs2 := hb2.size; (try simp at hs2)) | (go_at_call 63; refine (ST.out _).mono ?_; rintro e w3 ⟨rfl, hb3⟩; obtain ⟨hc3, hf3⟩ := bcell hb3; have hs3 := hb3.size; (try simp at hs3)))
          go_ret2
          exact ⟨pres_nil (P1.out (by simp)), (by repeat (first | exact Below.refl _ _ | refine Below.setCell ?_ (by first | (simp; done) | (simp; omega) | omega) _ | refine Below.alloc ?_ (by first | (simp; done) | (simp; omega) | omega) _ | refine Below.drew ?_ | assumption | refine Below.trans ?_ (Below.mono (by assumption) (by first | (simp; done) | (simp; omega) | omega))))⟩
        · by_cases h9 : x = 9
          · subst h9
            go_wp2_with (first | (go_at_call 55; refine (CK.out).mono ?_; rintro e w2 ⟨rfl, hb2⟩; obtain ⟨hc2, hf2⟩ := bcell hb2; have hs2 := hb2.size; (try simp at hs2)) | (go_at_call 63; refine (ST.out _).mono ?_; rintro e w3 ⟨rfl, hb3⟩; obtain ⟨hc3, hf3⟩ := bcell hb3; have hs3 := hb3.size; (try simp at hs3)))
            go_ret2
            exact ⟨pres_nil (P2.out (by simp) (by simp)), (by repeat (first | exact Below.refl _ _ | refine Below.setCell ?_ (by first | (simp; done) | (simp; omega) | omega) _ | refine Below.alloc ?_ (by first | (simp; done) | (simp; omega) | omega) _ | refine Below.drew ?_ | assumption | refine Below.trans ?_ (Below.mono (by assumption) (by first | (simp; done) | (simp; omega) | omega))))⟩
          · have H9 := Lib.hid h9
            have x9 : (x == 9) = false := by simpa using h9
            cases gg
            · go_wp2_with (first | (go_at_call 55; refine (CK.out).mono ?_; rintro e w2 ⟨rfl, hb2⟩; obtain ⟨hc2, hf2⟩ := bcell hb2; have hs2 := hb2.size; (try simp at hs2)) | (go_at_call 63; refine (ST.out _).mono ?_; rintro e w3 ⟨rfl, hb3⟩; obtain ⟨hc3, hf3⟩ := bcell hb3; have hs3 := hb3.size; (try simp at hs3)))
              go_ret2
              exact ⟨pres_nil (P3.out (by simp) H9.out (by simp)), (by repeat (first | exact Below.refl _ _ | refine Below.setCell ?_ (by first | (simp; done) | (simp; omega) | omega) _ | refine Below.alloc ?_ (by first | (simp; done) | (simp; omega) | omega) _ | refine Below.drew ?_ | assumption | refine Below.trans ?_ (Below.mono (by assumption) (by first | (simp; done) | (simp; omega) | omega))))⟩
            · by_cases h0 : x = 0
              · subst h0
                clear h9 x9
                go_wp2_with (first | (go_at_call 55; refine (CK.out).mono ?_; rintro e w2 ⟨rfl, hb2⟩; obtain ⟨hc2, hf2⟩ := bcell hb2; have hs2 := hb2.size; (try simp at hs2)) | (go_at_call 63; refine (ST.out _).mono ?_; rintro e w3 ⟨rfl, hb3⟩; obtain ⟨hc3, hf3⟩ := bcell hb3; have hs3 := hb3.size; (try simp at hs3)))
                go_ret2
                exact ⟨pres_some (P5.out (by simp) (by simp) (by simp)) HAK.out (HT.out.below (by repeat (first | exact Below.refl _ _ | refine Below.setCell ?_ (by first | (simp; done) | (simp; omega) | omega) _ | refine Below.alloc ?_ (by first | (simp; done) | (simp; omega) | omega) _ | refine Below.drew ?_ | assumption | refine Below.trans ?_ (Below.mono (by assumption) (by first | (simp; done) | (simp; omega) | omega))))), (by repeat (first | exact Below.refl _ _ | refine Below.setCell ?_ (by first | (simp; done) | (simp; omega) | omega) _ | refine Below.alloc ?_ (by first | (simp; done) | (simp; omega) | omega) _ | refine Below.drew ?_ | assumption | refine Below.trans ?_ (Below.mono (by assumption) (by first | (simp; done) | (simp; omega) | omega))))⟩
              · have H0 := Lib.hid h0
                have x0 : (x != 0) = true := by simpa using h0
                go_wp2_with (first | (go_at_call 55; refine (CK.out).mono ?_; rintro e w2 ⟨rfl, hb2⟩; obtain ⟨hc2, hf2⟩ := bcell hb2; have hs2 := hb2.size; (try simp at hs2)) | (go_at_call 63; refine (ST.out _).mono ?_; rintro e w3 ⟨rfl, hb3⟩; obtain ⟨hc3, hf3⟩ := bcell hb3; have hs3 := hb3.size; (try simp at hs3)))
                go_ret2
                exact ⟨pres_nil (P4.out (by simp) H9.out (by simp) H0.out), (by repeat (first | exact Below.refl _ _ | refine Below.setCell ?_ (by first | (simp; done) | (simp; omega) | omega) _ | refine Below.alloc ?_ (by first | (simp; done) | (simp; omega) | omega) _ | refine Below.drew ?_ | assumption | refine Below.trans ?_ (Below.mono (by assumption) (by first | (simp; done) | (simp; omega) | omega))))⟩
end Go.Proofs.YtdpoahfjiomhbaaGreatDoor
