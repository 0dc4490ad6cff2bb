/-
  DslFirst's walk.
-/
import Derived.Test.YtnjlggleaocbdaaGreatDoorDg1
import Derived.Test.YtnjlggleaocbdaaGreatDoorDp9

/-
  Contract of exref.Cut.
-/
namespace Go.Proofs.YtnjlggleaocbdaaGreatDoor
set_option linter.all false
open Go.RowKit Go.Shelf
attribute [local go_sem] cell_set_self lt_1 lt_2 lt_3 lt_4 lt_5 lt_6

theorem pieces_free {c : UInt8} : ∀ {l : List UInt8}, (∀ b ∈ l, b ≠ c) → pieces c l = [l]
  | [], _ => rfl
  | b :: r, h => by
    unfold pieces
    rw [if_neg (h b (List.mem_cons_self ..)), pieces_free (fun x hx => h x (List.mem_cons_of_mem _ hx))]
theorem pieces_cut {c : UInt8} : ∀ {z : List UInt8} (r : List UInt8), (∀ b ∈ z, b ≠ c) → pieces c (z ++ c :: r) = z :: pieces c r
  | [], r, _ => by simp [pieces]
  | b :: z, r, h => by
    rw [List.cons_append, pieces, if_neg (h b (List.mem_cons_self ..)), pieces_cut r (fun x hx => h x (List.mem_cons_of_mem _ hx))]
def strsV (l : List (List UInt8)) : List Value := l.map fun s => .string ⟨s.toArray⟩
theorem infoStrH : (Tryz.prog.info? 9).map (fun i => (i.zero, i.size, i.bytes)) = some (some (.string ⟨#[]⟩), 1, 16) := by kernel_rfl
theorem strs_own {w : World} {base : Nat} {T : TypeId} {A : Option Addr} {n c : Nat} {l : List (List UInt8)} (hl : l.length = n) (h : w.ownsRow base T 1 (.slice A n c) n (strsV l)) : Strs w A l := fun i p hi => by
  have hn : 0 < n := by have := (List.getElem?_eq_some_iff.1 hi).1; omega
  obtain ⟨g, cap, hv, _, hlt⟩ := h.form hn
  have hA : A = some ⟨g, 0, none⟩ := by injection hv
  subst hA
  have hc := h.cells (g := g) rfl i (.string ⟨p.toArray⟩) (by simp [strsV, hi])
  rw [addr0] at hc
  exact ⟨g, 0, rfl, hlt, by simpa using hc⟩
theorem strsV_app (a b : List (List UInt8)) : strsV (a ++ b) = strsV a ++ strsV b := by simp [strsV]
theorem ext_mid (l : List UInt8) (a b : Nat) : (⟨l.toArray⟩ : ByteArray).extract a b = ⟨((l.drop a).take (b - a)).toArray⟩ := by
  apply ByteArray.ext
  simp [List.extract_eq_take_drop]
def CutRel (w wr : World) (c : UInt8) (l : List UInt8) (i fr : Nat) (done : List (List UInt8)) (v : Value) : Prop :=
  ((i ≤ l.length ∧ fr ≤ i ∧ pieces c l = done ++ pieces c (l.drop fr) ∧ ∀ b ∈ (l.drop fr).take (i - fr), b ≠ c) ∨ (i = l.length + 1 ∧ pieces c l = done)) ∧ done.length ≤ i ∧
    wr.ownsRow w.heap.size 9 1 v done.length (strsV done) ∧ Below w.heap.size w wr
theorem take_snoc' {l : List UInt8} {fr i : Nat} {x : UInt8} (hf : fr ≤ i) (hx : l[i]? = some x) : (l.drop fr).take (i + 1 - fr) = (l.drop fr).take (i - fr) ++ [x] := by
  have h : (l.drop fr)[i - fr]? = some x := by rw [List.getElem?_drop]; rw [show fr + (i - fr) = i by omega]; exact hx
  rw [show i + 1 - fr = (i - fr) + 1 by omega, List.take_succ, h]; rfl
theorem drop_cut {l : List UInt8} {fr i : Nat} {x : UInt8} (hf : fr ≤ i) (hx : l[i]? = some x) : l.drop fr = (l.drop fr).take (i - fr) ++ x :: l.drop (i + 1) := by
  obtain ⟨h1, h2⟩ := List.getElem?_eq_some_iff.1 hx
  have e := (List.take_append_drop (i - fr) (l.drop fr)).symm
  rw [List.drop_drop, show fr + (i - fr) = i by omega, List.drop_eq_getElem_cons h1, h2] at e
  exact e

set_option maxHeartbeats 2000000 in
set_option maxRecDepth 100000 in
theorem cut_any (c : UInt8) (l : List UInt8) (hl : l.length ≤ 100000) (w : World) :
    Calls Tryz.prog 16 #[.string ⟨l.toArray⟩, .int .u8 (c.toNat : Int)] w fun e w' => (∃ A d, e = .returned (.slice A (pieces c l).length d) ∧ Strs w' A (pieces c l)) ∧ Below w.heap.size w w' := by
  obtain ⟨i0, hi0, hz0, hz1, hz2⟩ := info_parts infoStrH
  have AT : Hid (∀ i (h : i < (⟨l.toArray⟩ : ByteArray).size) (c : UInt8), l[i]? = some c → ((⟨l.toArray⟩ : ByteArray)[i]'h).toNat = c.toNat) := Lib.hid fun i h c hc => by
    obtain ⟨h1, h2⟩ := List.getElem?_eq_some_iff.1 hc
    rw [← h2]; rfl
  have EX : Hid (∀ a b, (⟨l.toArray⟩ : ByteArray).extract a b = ⟨((l.drop a).take (b - a)).toArray⟩) := Lib.hid fun a b => ext_mid l a b
  have HS : Hid ((⟨l.toArray⟩ : ByteArray).size = l.length) := Lib.hid (ba_sz l)
  have hsz : (⟨l.toArray⟩ : ByteArray).size ≤ 100000 := by rw [ba_sz]; exact hl
  generalize (⟨l.toArray⟩ : ByteArray) = sb at *
  obtain ⟨cc, hcc⟩ : ∃ cc, c.toNat = cc := ⟨_, rfl⟩
  rw [hcc]
  have HCC := Lib.hid hcc
  clear hcc
  go_enter Tryz.func16, Tryz.ntmps16
  go_wp2
  go_loopw [5, 6, 7] (fun u f ii wr => ∃ (i fr : Nat) (done : List (List UInt8)) (v : Value), ii = .int .i64 i ∧ f = .int .i64 fr ∧ v = u ∧ CutRel w wr c l i fr done v) (fun _ _ ii _ => sb.size + 1 - (intOf ii).toNat)
  case atStart => exact ⟨0, 0, [], _, rfl, rfl, rfl, .inl ⟨Nat.zero_le _, Nat.le_refl _, rfl, by simp⟩, by simp, World.ownsRow_nil _ _ _ _, (by repeat (first | exact Below.refl _ _ | refine Below.setCell ?_ (by first | (simp; done) | (simp; omega) | omega) _ | refine Below.alloc ?_ (by first | (simp; done) | (simp; omega) | omega) _ | refine Below.drew ?_ | assumption | refine Below.trans ?_ (Below.mono (by assumption) (by first | (simp; done) | (simp; omega) | omega))))⟩
  case round =>
    obtain ⟨i, fr, done, v, rfl, rfl, hv, hst, hdl, hown, hB⟩ := hrel
    subst hv
    obtain ⟨wo, rfl⟩ : ∃ wo : World, wo = wr := ⟨_, rfl⟩
    have HO := Lib.hid hown
    have hsl := hB.size
    clear hown
    rcases hst with ⟨hi, hf, hpc, hfree⟩ | ⟨hi, hpc⟩
    · have his : i ≤ sb.size := by rw [HS.out]; exact hi
      have his' : (i : Int) ≤ sb.size := by omega
      have hfi : (fr : Int) ≤ i := by omega
      have HDL := Lib.hid hdl
      have HP := Lib.hid hpc
      have HF := Lib.hid hfree
      have hdl2 : done.length ≤ 100000 := by omega
      have ex := EX.out fr i
      clear hpc hfree hdl hi
      by_cases hend : i = sb.size
      · have hil : i = l.length := by rw [hend, HS.out]
        have HPE : Hid (pieces c l = done ++ [(l.drop fr).take (i - fr)]) := Lib.hid (by
          have e : (l.drop fr).take (i - fr) = l.drop fr := List.take_of_length_le (by rw [List.length_drop]; omega)
          have h := HF.out
          rw [e] at h
          rw [HP.out, e, pieces_free h])
        generalize (l.drop fr).take (i - fr) = cur at *
        clear HF HP
        have HIL := Lib.hid hil
        clear hil
        have hap : strsV (done ++ [cur]) = strsV done ++ [.string ⟨cur.toArray⟩] := strsV_app _ _
        have HAP := Lib.hid hap
        clear hap
        subst hend
        go_wp2_with (first
          | (at_builtin; refine wpList_append_own _ rfl (.tmp 25) (.tmp 30) 46 rfl w.heap.size 9 i0 _ 1 16 Tryz.underlying46 hi0 hz0 hz1 hz2 rfl (by decide) v done.length (strsV done) rfl ((own_below HO.out (by repeat (first | exact Below.refl _ _ | refine Below.setCell ?_ (by first | (simp; done) | (simp; omega) | omega) _ | refine Below.alloc ?_ (by first | (simp; done) | (simp; omega) | omega) _ | refine Below.drew ?_ | assumption | refine Below.trans ?_ (Below.mono (by assumption) (by first | (simp; done) | (simp; omega) | omega))))).alloc _) _ 1 1 [.string ⟨cur.toArray⟩] rfl rfl (by intro j u' hj; match j, hj with | 0, hj => (simp at hj; subst hj; simp [Addr.add, go_sem])) (by intro u' hu'; simp at hu'; subst hu'; rfl) (by unfold maxLen; omega) (by omega) (by simp; omega) ?_; intro v5 w5 hown5 hgrow5 hiff; clear hiff; have HO5 := Lib.hid hown5; have B5 : Below w.heap.size w w5 := Below.grown (by repeat (first | exact Below.refl _ _ | refine Below.setCell ?_ (by first | (simp; done) | (simp; omega) | omega) _ | refine Below.alloc ?_ (by first | (simp; done) | (simp; omega) | omega) _ | refine Below.drew ?_ | assumption | refine Below.trans ?_ (Below.mono (by assumption) (by first | (simp; done) | (simp; omega) | omega)))) hgrow5 (by simp; omega) (fun g hg => (HO.out.lt g hg).1); clear hown5 hgrow5))
        go_roundw
        case rel => exact ⟨sb.size + 1, sb.size + 1, done ++ [cur], _, by go_num, by go_num, rfl, .inr ⟨by have := HIL.out; omega, HPE.out⟩, by rw [List.length_append, List.length_singleton]; have := HDL.out; omega, by rw [HAP.out, List.length_append]; exact HO5.out, B5⟩
        case measure => first | (simp [intOf]; done) | (simp [intOf]; omega)
      · have hlt : i < sb.size := by omega
        have hlt' : (i : Int) < sb.size := by omega
        have hne : ¬ (i : Int) = sb.size := by omega
        obtain ⟨x, hx⟩ : ∃ x, l[i]? = some x := ⟨_, List.getElem?_eq_getElem (by have := HS.out; omega)⟩
        have at1 := AT.out i hlt x hx
        have HX := Lib.hid hx
        have hfr : fr ≤ i := by omega
        clear hx
        by_cases hxc : x = c
        · subst hxc
          have HPE : Hid (pieces x l = (done ++ [(l.drop fr).take (i - fr)]) ++ pieces x (l.drop (i + 1))) := Lib.hid (by
            rw [HP.out, (congrArg (pieces x) (drop_cut hfr HX.out)).trans (pieces_cut _ HF.out), List.append_assoc]; rfl)
          generalize (l.drop fr).take (i - fr) = cur at *
          have hap : strsV (done ++ [cur]) = strsV done ++ [.string ⟨cur.toArray⟩] := strsV_app _ _
          have HAP := Lib.hid hap
          clear hap HF HP
          rw [HCC.out] at at1
          go_wp2_with (first
            | (at_builtin; refine wpList_append_own _ rfl (.tmp 25) (.tmp 30) 46 rfl w.heap.size 9 i0 _ 1 16 Tryz.underlying46 hi0 hz0 hz1 hz2 rfl (by decide) v done.length (strsV done) rfl ((own_below HO.out (by repeat (first | exact Below.refl _ _ | refine Below.setCell ?_ (by first | (simp; done) | (simp; omega) | omega) _ | refine Below.alloc ?_ (by first | (simp; done) | (simp; omega) | omega) _ | refine Below.drew ?_ | assumption | refine Below.trans ?_ (Below.mono (by assumption) (by first | (simp; done) | (simp; omega) | omega))))).alloc _) _ 1 1 [.string ⟨cur.toArray⟩] rfl rfl (by intro j u' hj; match j, hj with | 0, hj => (simp at hj; subst hj; simp [Addr.add, go_sem])) (by intro u' hu'; simp at hu'; subst hu'; rfl) (by unfold maxLen; omega) (by omega) (by simp; omega) ?_; intro v5 w5 hown5 hgrow5 hiff; clear hiff; have HO5 := Lib.hid hown5; have B5 : Below w.heap.size w w5 := Below.grown (by repeat (first | exact Below.refl _ _ | refine Below.setCell ?_ (by first | (simp; done) | (simp; omega) | omega) _ | refine Below.alloc ?_ (by first | (simp; done) | (simp; omega) | omega) _ | refine Below.drew ?_ | assumption | refine Below.trans ?_ (Below.mono (by assumption) (by first | (simp; done) | (simp; omega) | omega)))) hgrow5 (by simp; omega) (fun g hg => (HO.out.lt g hg).1); clear hown5 hgrow5))
          go_roundw
          case rel => exact ⟨i + 1, i + 1, done ++ [cur], _, by go_num, by go_num, rfl, .inl ⟨by have := HS.out; omega, Nat.le_refl _, HPE.out, by simp⟩, by rw [List.length_append, List.length_singleton]; have := HDL.out; omega, by rw [HAP.out, List.length_append]; exact HO5.out, B5⟩
          case measure => first | (simp [intOf]; done) | (simp [intOf]; omega)
        · have hxc' : x.toNat ≠ cc := fun h => hxc (UInt8.toNat_inj.1 (h.trans HCC.out.symm))
          generalize hxx : x.toNat = xx at *
          have HXX := Lib.hid hxx
          clear hxx
          have HXC := Lib.hid hxc
          have hbq : ((xx : Int) == (cc : Int)) = false := by rw [beq_eq_false_iff_ne]; omega
          clear hxc
          go_wp2
          go_roundw
          case rel => exact ⟨i + 1, fr, done, _, by go_num, rfl, rfl, .inl ⟨by have := HS.out; omega, by omega, HP.out, by
            rw [take_snoc' hfr HX.out]
            intro b hb
            rcases List.mem_append.1 hb with h | h
            · exact HF.out b h
            · rw [List.mem_singleton.1 h]; exact HXC.out⟩, by have := HDL.out; omega, by first | exact HO.out | exact own_below HO.out (by repeat (first | exact Below.refl _ _ | refine Below.setCell ?_ (by first | (simp; done) | (simp; omega) | omega) _ | refine Below.alloc ?_ (by first | (simp; done) | (simp; omega) | omega) _ | refine Below.drew ?_ | assumption | refine Below.trans ?_ (Below.mono (by assumption) (by first | (simp; done) | (simp; omega) | omega)))), (by repeat (first | exact Below.refl _ _ | refine Below.setCell ?_ (by first | (simp; done) | (simp; omega) | omega) _ | refine Below.alloc ?_ (by first | (simp; done) | (simp; omega) | omega) _ | refine Below.drew ?_ | assumption | refine Below.trans ?_ (Below.mono (by assumption) (by first | (simp; done) | (simp; omega) | omega))))⟩
          case measure => first | (simp [intOf]; done) | (simp [intOf]; omega)
    · have hgt : ¬ ((i : Int) ≤ sb.size) := by have := HS.out; omega
      have hgt2 : (sb.size : Int) < i := by have := HS.out; omega
      clear hdl hi
      have HP := Lib.hid hpc
      clear hpc
      go_wp2
      obtain ⟨A, d, hA⟩ := own_form HO.out
      subst hA
      go_ret
      refine ⟨⟨A, ⟨d, by rw [HP.out]; rfl⟩, strs_own (by rw [HP.out]) (by rw [HP.out]; exact HO.out)⟩, (by repeat (first | exact Below.refl _ _ | refine Below.setCell ?_ (by first | (simp; done) | (simp; omega) | omega) _ | refine Below.alloc ?_ (by first | (simp; done) | (simp; omega) | omega) _ | refine Below.drew ?_ | assumption | refine Below.trans ?_ (Below.mono (by assumption) (by first | (simp; done) | (simp; omega) | omega))))⟩
end Go.Proofs.YtnjlggleaocbdaaGreatDoor

/-
  The law's first question; what Parse hands back, taken apart.
-/
namespace Go.Proofs.YtnjlggleaocbdaaGreatDoor
set_option linter.all false
open Go.RowKit Go.Shelf
attribute [local go_sem] cell_set_self lt_1 lt_2 lt_3 lt_4 lt_5 lt_6

theorem num_same (e : Int) (w : World) : Calls Tryz.prog 10 #[.int .i64 e] w fun x w' => x = .returned (.int .i64 e) ∧ w = w' := by
  go_enter Tryz.func10, Tryz.ntmps10
  go_wp2
  go_ret
  exact ⟨rfl, rfl⟩
theorem exE_lt : LtE 1000000000000000 Pl.exE := by
  simp [Pl.exE, LtE, LtL]
theorem exE_dep : depthE Pl.exE ≤ 1000000000 := by
  have : depthE Pl.exE = 5 := by kernel_rfl
  omega
set_option maxHeartbeats 4000000 in
set_option maxRecDepth 100000 in
theorem first_any (w : World) (E : Env w) : Calls Tryz.prog 7 #[] w fun e w' => e = .returned (.bool true) ∧ Below w.heap.size w w' := by
  suffices key : ∀ Q : Ending → World → Prop, Hid (∀ e w', (e = .returned (.bool true) ∧ Below w.heap.size w w') → Q e w') → Calls Tryz.prog 7 #[] w Q from key _ (Lib.hid fun _ _ h => h)
  intro Q HQQ
  have HE := Lib.hid E
  have PA : Hid (∀ W, Env W → Calls Tryz.prog 11 #[.string ⟨#[97, 43, 98, 42, 45, 50, 32, 60, 32, 51]⟩] W fun e w' => (∃ A c, e = .returned (.tuple #[.agg #[.int .i64 11, .int .i64 0, .string ⟨#[]⟩, .slice A 2 c], .int .i64 0]) ∧ EV (fun b => W.heap.size ≤ b) w' Pl.exE [.int .i64 11, .int .i64 0, .string ⟨#[]⟩, .slice A 2 c]) ∧ Below W.heap.size W w') := Lib.hid fun W E' => by
    have h := parseE_any Pl.exA (by decide) W E'
    obtain ⟨r, hr⟩ := Pl.first_a
    rw [hr] at h
    exact h
  have FA : Hid (∀ (P : Nat → Prop) A c W, EV P W Pl.exE [.int .i64 11, .int .i64 0, .string ⟨#[]⟩, .slice A 2 c] → Env W → Calls Tryz.prog 9 #[.agg #[.int .i64 11, .int .i64 0, .string ⟨#[]⟩, .slice A 2 c]] W fun e w' => e = .returned (.tuple #[.string ⟨#[97, 32, 43, 32, 98, 32, 42, 32, 45, 50, 32, 60, 32, 51]⟩, .int .i64 0]) ∧ Below W.heap.size W w') := Lib.hid fun P A c W hv E' => by
    have h := fexpr_any P Pl.exE _ W hv exE_lt exE_dep E'
    have h2 : exprX Pl.exE = Pl.exB := by unfold exprX; rw [if_pos Pl.first_b.1, Pl.first_b.2]
    rw [Pl.first_b.1, h2] at h
    exact h
  have PC : Hid (∀ W, Env W → Calls Tryz.prog 15 #[.string ⟨#[105, 110, 112, 117, 116, 32, 113, 32, 58, 32, 105, 110, 116, 32, 59, 10, 114, 117, 108, 101, 32, 114, 32, 49, 32, 58, 32, 116, 104, 101, 110, 32, 112, 32, 61, 32, 59]⟩] W fun e w' => e = .returned (.tuple #[.agg #[.slice none 0 0, .slice none 0 0], .int .i64 2, .int .i64 11]) ∧ Below W.heap.size W w') := Lib.hid fun W E' => by
    have h := parse_any Pl.exC (by decide) W E'
    rw [Pl.first_c] at h
    exact h
  have NU := Lib.hid (fun e W => num_same e W)
  clear E
  go_enter Tryz.func7, Tryz.ntmps7
  go_wp2_with (first
    | (go_at_call 11; (with_reducible refine (PA.out _ HE.out).mono ?_); rintro e w3 ⟨⟨A, c, rfl, hv3⟩, hb3⟩; have HV3 := Lib.hid hv3; have hs3 := hb3.size; clear hv3)
    | (go_at_call 9; (with_reducible refine (FA.out _ A c _ (HV3.out.keep ((Kp.refl _ _).alloc _)) (HE.out.below (by repeat (first | exact Below.refl _ _ | refine Below.setCell ?_ (by first | (simp; done) | (simp; omega) | omega) _ | refine Below.alloc ?_ (by first | (simp; done) | (simp; omega) | omega) _ | refine Below.drew ?_ | assumption | refine Below.trans ?_ (Below.mono (by assumption) (by first | (simp; done) | (simp; omega) | omega)))))).mono ?_); rintro e w4 ⟨rfl, hb4⟩; have hs4 := hb4.size; (try simp at hs4))
    | (go_at_call 15; (with_reducible refine (PC.out _ (HE.out.below (by repeat (first | exact Below.refl _ _ | refine Below.setCell ?_ (by first | (simp; done) | (simp; omega) | omega) _ | refine Below.alloc ?_ (by first | (simp; done) | (simp; omega) | omega) _ | refine Below.drew ?_ | assumption | refine Below.trans ?_ (Below.mono (by assumption) (by first | (simp; done) | (simp; omega) | omega)))))).mono ?_); rintro e w5 ⟨rfl, hb5⟩; have hs5 := hb5.size)
    | (go_at_call 10; (with_reducible refine (NU.out _ _).mono ?_); rintro e w6 ⟨rfl, rfl⟩))
  exact HQQ.out _ _ ⟨ret_bool rfl, (by repeat (first | exact Below.refl _ _ | refine Below.setCell ?_ (by first | (simp; done) | (simp; omega) | omega) _ | refine Below.alloc ?_ (by first | (simp; done) | (simp; omega) | omega) _ | refine Below.drew ?_ | assumption | refine Below.trans ?_ (Below.mono (by assumption) (by first | (simp; done) | (simp; omega) | omega))))⟩
end Go.Proofs.YtnjlggleaocbdaaGreatDoor

/-
  DslFirst's walk.
-/
namespace Go.Proofs.YtnjlggleaocbdaaGreatDoor
set_option linter.all false
open Go.RowKit Go.Shelf
attribute [local go_sem] cell_set_self lt_1 lt_2 lt_3 lt_4 lt_5 lt_6

/-- What Parse hands back, as one statement. -/
def ParT (B : Nat) (x : PR TheoryT) (w' : World) : Value → Prop := fun v => match x with
  | .no p er => v = .tuple #[.agg #[.slice none 0 0, .slice none 0 0], .int .i64 (p : Int), .int .i64 er]
  | .ok T _ => ∃ AD cD AR cR, v = .tuple #[.agg #[.slice AD T.decls.length cD, .slice AR T.rules.length cR], .int .i64 0, .int .i64 0]
theorem front_snoc {l : List UInt8} {k : Nat} {x : List UInt8} (h : (pieces 10 l)[k]? = some x) : Pl.frontP (k + 1) l = Pl.frontP k l ++ x ++ [10] := by
  unfold Pl.frontP
  rw [List.take_succ, h]
  simp
theorem front_le {l : List UInt8} {k : Nat} (h : k ≤ Pl.nls l) : (Pl.frontP k l).length ≤ l.length := by
  obtain ⟨⟨B, h2⟩, -, -⟩ := Pl.front_ok l k h
  have := congrArg List.length h2
  simp at this
  omega
set_option maxHeartbeats 8000000 in
set_option maxRecDepth 100000 in
theorem first_walk (l : List UInt8) (w : World) (E : Env w) : Calls Tryz.prog 4 #[.string ⟨l.toArray⟩] w fun e w' => e = .returned (.bool true) ∧ Below w.heap.size w w' := by
  suffices key : ∀ Q : Ending → World → Prop, Hid (∀ e w', (e = .returned (.bool true) ∧ Below w.heap.size w w') → Q e w') → Calls Tryz.prog 4 #[.string ⟨l.toArray⟩] w Q from key _ (Lib.hid fun _ _ h => h)
  intro Q HQQ
  have HE := Lib.hid E
  have FI := Lib.hid (first_any w E)
  have NU := Lib.hid (fun e W => num_same e W)
  have HLl : (l.toArray.size : Int) = (l.length : Int) := by simp
  clear E
  by_cases hb : 8000 < l.length
  · have hb' : (8000 : Int) < (l.length : Int) := by omega
    go_enter Tryz.func4, Tryz.ntmps4
    go_wp2_with (first | (go_at_call 7; (with_reducible refine FI.out.mono ?_); rintro e w3 ⟨rfl, hb3⟩))
    exact HQQ.out _ _ ⟨ret_bool rfl, hb3⟩
  · have hb' : ¬ (8000 : Int) < (l.length : Int) := by omega
    have PA := Lib.hid (fun W E' => parse_any l (by omega) W E')
    cases hx : parseF l with
    | ok T r =>
      rw [hx] at PA
      unfold ParseP at PA
      clear hx
      go_enter Tryz.func4, Tryz.ntmps4
      go_wp2_with (first | (go_at_call 7; (with_reducible refine FI.out.mono ?_); rintro e w3 ⟨rfl, hb3⟩; have hs3 := hb3.size) | (go_at_call 15; (with_reducible refine (PA.out _ (HE.out.below hb3)).mono ?_); rintro e w4 ⟨⟨AD, cD, AR, cR, rfl, -⟩, hb4⟩; have hs4 := hb4.size) | (go_at_call 10; (with_reducible refine (NU.out _ _).mono ?_); rintro e w6 ⟨rfl, rfl⟩))
      exact HQQ.out _ _ ⟨ret_bool rfl, (by repeat (first | exact Below.refl _ _ | refine Below.setCell ?_ (by first | (simp; done) | (simp; omega) | omega) _ | refine Below.alloc ?_ (by first | (simp; done) | (simp; omega) | omega) _ | refine Below.drew ?_ | assumption | refine Below.trans ?_ (Below.mono (by assumption) (by first | (simp; done) | (simp; omega) | omega))))⟩
    | no p er =>
      have her := Pl.parse_err hx
      have hfl := fun hp => Pl.first_law hx hp (by omega)
      have hle := Pl.line_le hx
      rw [hx] at PA
      unfold ParseP at PA
      have her2 : (er == 0) = false := by simp [her]
      clear hx her
      by_cases hp : p < 1
      · have hp' : (p : Int) < 1 := by omega
        clear hfl hle
        go_enter Tryz.func4, Tryz.ntmps4
        go_wp2_with (first | (go_at_call 7; (with_reducible refine FI.out.mono ?_); rintro e w3 ⟨rfl, hb3⟩; have hs3 := hb3.size) | (go_at_call 15; (with_reducible refine (PA.out _ (HE.out.below hb3)).mono ?_); rintro e w4 ⟨rfl, hb4⟩; have hs4 := hb4.size) | (go_at_call 10; (with_reducible refine (NU.out _ _).mono ?_); rintro e w6 ⟨rfl, rfl⟩))
        exact HQQ.out _ _ ⟨ret_bool rfl, (by repeat (first | exact Below.refl _ _ | refine Below.setCell ?_ (by first | (simp; done) | (simp; omega) | omega) _ | refine Below.alloc ?_ (by first | (simp; done) | (simp; omega) | omega) _ | refine Below.drew ?_ | assumption | refine Below.trans ?_ (Below.mono (by assumption) (by first | (simp; done) | (simp; omega) | omega))))⟩
      · have hp' : ¬ (p : Int) < 1 := by omega
        obtain ⟨hpl, hfr⟩ := hfl (by omega)
        have HFR := Lib.hid hfr
        have CU := Lib.hid (fun W => cut_any 10 l (by omega) W)
        obtain ⟨N, hN⟩ : ∃ N, (pieces 10 l).length = N := ⟨_, rfl⟩
        rw [hN] at CU hpl
        have hN8 : N ≤ 8001 := by
          have h1 := Pl.pieces_nls l
          have h2 : Pl.nls l ≤ l.length := List.countP_le_length
          omega
        have HN := Lib.hid hN
        have hpN : ¬ (N : Int) < (p : Int) := by omega
        have hlen : ∀ k, k ≤ p - 1 → (Pl.frontP k l).length ≤ 8000 := fun k hk => by have := front_le (l := l) (k := k) (by omega); omega
        have HLEN := Lib.hid hlen
        have PB := Lib.hid (fun L (hL : L.length ≤ 8000) W E' => parse_any L (by omega) W E')
        clear hfl hfr hN hle hlen
        go_enter Tryz.func4, Tryz.ntmps4
        go_wp2_with (first | (go_at_call 7; (with_reducible refine FI.out.mono ?_); rintro e w3 ⟨rfl, hb3⟩; have hs3 := hb3.size) | (go_at_call 15; (with_reducible refine (PA.out _ (HE.out.below hb3)).mono ?_); rintro e w4 ⟨rfl, hb4⟩; have hs4 := hb4.size) | (go_at_call 10; (with_reducible refine (NU.out _ _).mono ?_); rintro e w6 ⟨rfl, rfl⟩) | (go_at_call 16; (refine (CU.out _).mono ?_); rintro e w5 ⟨⟨A, d, rfl, hST⟩, hb5⟩; have hs5 := hb5.size; (try simp at hs5); have HST := Lib.hid hST; clear hST))
        have HB5 : Hid (Below w.heap.size w w5) := Lib.hid (by repeat (first | exact Below.refl _ _ | refine Below.setCell ?_ (by first | (simp; done) | (simp; omega) | omega) _ | refine Below.alloc ?_ (by first | (simp; done) | (simp; omega) | omega) _ | refine Below.drew ?_ | assumption | refine Below.trans ?_ (Below.mono (by assumption) (by first | (simp; done) | (simp; omega) | omega))))
        have hs45 : w.heap.size ≤ w5.heap.size := HB5.out.size
        go_loop [8, 9] (fun s j => ∃ (k : Nat) (U : ByteArray), k ≤ p - 1 ∧ j = .int .i64 (k : Int) ∧ s = .string U ∧ U.size ≤ 8000 ∧ Hid ((⟨(Pl.frontP k l).toArray⟩ : ByteArray) = U)) (fun _ j => p - (intOf j).toNat)
        case atStart => exact ⟨0, ⟨#[]⟩, by omega, rfl, rfl, by decide, Lib.hid rfl⟩
        case round =>
          obtain ⟨k, U, hk, rfl, rfl, hUs, HU⟩ := hrel
          by_cases hkp : k < p - 1
          · have hkp' : (k : Int) < (p : Int) - 1 := by omega
            obtain ⟨x, hx⟩ : ∃ x, (pieces 10 l)[k]? = some x := ⟨_, List.getElem?_eq_getElem (by rw [HN.out]; omega)⟩
            obtain ⟨b, off, rfl, hb1, hc1⟩ := HST.out k x hx
            have hsn := front_snoc hx
            have hln := HLEN.out (k + 1) (by omega)
            rw [hsn] at hln
            simp only [List.length_append, List.length_cons, List.length_nil] at hln
            obtain ⟨V, hV⟩ : ∃ V : ByteArray, (⟨x.toArray⟩ : ByteArray) = V := ⟨_, rfl⟩
            have hVs : V.size = x.length := by rw [← hV]; simp [ByteArray.size]
            have hUl : U.size = (Pl.frontP k l).length := by rw [← HU.out]; simp [ByteArray.size]
            have HU2 : Hid ((⟨(Pl.frontP (k + 1) l).toArray⟩ : ByteArray) = U ++ V ++ ⟨#[10]⟩) := Lib.hid (by
              rw [hsn, ← HU.out, ← hV]; apply ByteArray.ext; simp)
            have hS2 : (U ++ V ++ ⟨#[10]⟩).size ≤ 8000 := by
              have : (⟨#[10]⟩ : ByteArray).size = 1 := rfl
              rw [ByteArray.size_append, ByteArray.size_append]; omega
            have z1 : ¬ 9223372036854775807 < U.size + V.size ∧ ¬ 9223372036854775807 < U.size + V.size + 1 := by omega
            have hkN : (k : Int) < (N : Int) := by omega
            rw [hV] at hc1
            have HS2 := Lib.hid hS2
            clear hx hsn hln hV hVs hUl HU hS2
            go_wp2_with (fail)
            go_round
            case rel => exact ⟨k + 1, _, by omega, by go_num, rfl, HS2.out, HU2⟩
            case measure => first | (simp [intOf]; done) | (simp [intOf]; omega)
          · have hkp' : ¬ (k : Int) < (p : Int) - 1 := by omega
            obtain rfl : k = p - 1 := by omega
            obtain rfl := HU.out
            have PX := Lib.hid (fun W E' => PB.out _ (HLEN.out (p - 1) (Nat.le_refl _)) W E')
            rcases HFR.out with ⟨T, r, hT⟩ | ⟨e', hT⟩
            · rw [hT] at PX
              unfold ParseP at PX
              generalize (⟨(Pl.frontP (p - 1) l).toArray⟩ : ByteArray) = U at *
              clear HU
              go_wp2_with (first | (go_at_call 15; (with_reducible refine (PX.out _ (HE.out.below HB5.out)).mono ?_); rintro e w7 ⟨⟨AD, cD, AR, cR, rfl, -⟩, hb7⟩; have hs7 := hb7.size) | (go_at_call 10; (with_reducible refine (NU.out _ _).mono ?_); rintro e w6 ⟨rfl, rfl⟩))
              have hb5w := HB5.out
              exact HQQ.out _ _ ⟨ret_bool rfl, (by repeat (first | exact Below.refl _ _ | refine Below.setCell ?_ (by first | (simp; done) | (simp; omega) | omega) _ | refine Below.alloc ?_ (by first | (simp; done) | (simp; omega) | omega) _ | refine Below.drew ?_ | assumption | refine Below.trans ?_ (Below.mono (by assumption) (by first | (simp; done) | (simp; omega) | omega))))⟩
            · rw [hT] at PX
              unfold ParseP at PX
              generalize (⟨(Pl.frontP (p - 1) l).toArray⟩ : ByteArray) = U at *
              clear HU
              go_wp2_with (first | (go_at_call 15; (with_reducible refine (PX.out _ (HE.out.below HB5.out)).mono ?_); rintro e w7 ⟨rfl, hb7⟩; have hs7 := hb7.size) | (go_at_call 10; (with_reducible refine (NU.out _ _).mono ?_); rintro e w6 ⟨rfl, rfl⟩))
              all_goals (
                have hb5w := HB5.out
                exact HQQ.out _ _ ⟨ret_bool (by first | rfl | simp), (by repeat (first | exact Below.refl _ _ | refine Below.setCell ?_ (by first | (simp; done) | (simp; omega) | omega) _ | refine Below.alloc ?_ (by first | (simp; done) | (simp; omega) | omega) _ | refine Below.drew ?_ | assumption | refine Below.trans ?_ (Below.mono (by assumption) (by first | (simp; done) | (simp; omega) | omega))))⟩)
end Go.Proofs.YtnjlggleaocbdaaGreatDoor
