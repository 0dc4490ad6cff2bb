/-
  Contracts of exref6.made, Add, Sub, Cmp, Even, Ratio. (Printed by tools/mkxs2.py.)
-/
import Derived.Test.YtakfjdnpfhcgkaaGreatDoorMc4
import Derived.Test.YtakfjdnpfhcgkaaGreatDoorBw14
/-
  Contracts of exref6.Codes, Scale, Check, two; exref.Within.
-/
namespace Go.Proofs.YtakfjdnpfhcgkaaGreatDoor
set_option linter.all false
open Go.RowKit Go.Sort
attribute [local go_sem] cell_set_self lt_1 lt_2 lt_3 lt_4 lt_5 lt_6

def CodesAt (w : World) (g : Nat) : Prop := g < w.heap.size ∧ ∀ k t, curL[k]? = some t → w.cell? ⟨g, k, none⟩ = some (.string ⟨t.1.toArray⟩)
theorem CodesAt.below {w w' : World} {g : Nat} (h : CodesAt w g) (hb : Below w.heap.size w w') : CodesAt w' g := ⟨Nat.lt_of_lt_of_le h.1 hb.size, fun k t hk => (hb.cell (p := ⟨g, k, none⟩) h.1).trans (h.2 k t hk)⟩
set_option maxHeartbeats 1000000 in
theorem codes_any (w : World) : Calls Tryz.prog 78 #[] w fun e w' => (∃ g, e = .returned (.slice (some ⟨g, 0, none⟩) 6 6) ∧ CodesAt w' g) ∧ Below w.heap.size w w' := by
  go_enter Tryz.func78, Tryz.ntmps78
  go_wp2
  go_ret
  refine ⟨⟨w.heap.size, rfl, by simp, fun k t hk => ?_⟩, (by repeat (first | exact Below.refl _ _ | refine Below.setCell ?_ (by first | (simp; done) | (simp; omega) | omega) _ | refine Below.alloc ?_ (by first | (simp; done) | (simp; omega) | omega) _ | refine Below.drew ?_ | assumption | refine Below.trans ?_ (Below.mono (by assumption) (by first | (simp; done) | (simp; omega) | omega))))⟩
  exact cur_all (p := fun k t => World.cell? _ ⟨w.heap.size, k, none⟩ = some (.string ⟨t.1.toArray⟩)) (by simp [go_sem]) (by simp [go_sem]) (by simp [go_sem]) (by simp [go_sem]) (by simp [go_sem]) (by simp [go_sem]) hk
/-- exref6.Scale: -1 where there is no such currency. -/
def scX (c : List UInt8) : Int := (scP c).getD (-1)
set_option maxHeartbeats 4000000 in
set_option maxRecDepth 100000 in
theorem rscale_any (c : List UInt8) (w : World) : Calls Tryz.prog 49 #[.string ⟨c.toArray⟩] w fun e w' => e = .returned (.int .i64 (scX c)) ∧ Below w.heap.size w w' := by
  have CU := Lib.hid (fun W => codes_any W)
  go_enter Tryz.func49, Tryz.ntmps49
  go_wp2_with (first | (go_at_call 78; refine (CU.out _).mono ?_; rintro e w1 ⟨⟨g, rfl, hg⟩, hb1⟩; obtain ⟨hc1, hf1⟩ := bcell hb1; have hs1 := hb1.size; (try simp at hs1); have hz1 : w.heap.size < w1.heap.size := (by have := hb1.size; (try simp at this); omega); have HG := Lib.hid hg; clear hg))
  have HS : ∀ k t, curL[k]? = some t → w1.cell? ⟨w.heap.size, k, none⟩ = some (.int .i64 t.2) := fun k t hk => by
    have := cur_all (p := fun k t => w1.cell? ⟨w.heap.size, k, none⟩ = some (.int .i64 t.2)) (by simp [go_sem, *]) (by simp [go_sem, *]) (by simp [go_sem, *]) (by simp [go_sem, *]) (by simp [go_sem, *]) (by simp [go_sem, *]) hk
    exact this
  have HSC := Lib.hid HS
  clear HS
  rcases cur_cases c with ⟨m, u, hm, hu⟩ | hmiss
  · have E : Hid (scX c = u.2) := Lib.hid (by unfold scX; rw [← hu, cur_hit hm]; rfl)
    have hm6 := cur_lt hm
    go_loopw [5] (fun i wr => ∃ k : Nat, k ≤ m ∧ i = .int .i64 k ∧ Below w1.heap.size w1 wr) (fun i _ => 6 - (intOf i).toNat)
    case atStart => exact ⟨0, by omega, rfl, Below.refl _ _⟩
    case round =>
      obtain ⟨k, hk, rfl, hB⟩ := hrel
      obtain ⟨wo, rfl⟩ : ∃ wo : World, wo = wr := ⟨_, rfl⟩
      have hso := hB.size
      have hk6 : (k : Int) < 6 := by omega
      have hbw : w.heap.size < wo.heap.size := by omega
      obtain ⟨hgw, hgc⟩ := HG.out.below hB
      by_cases hkm : k = m
      · subst hkm
        have q0 := hgc k u hm
        have q1 := (hB.cell (p := ⟨w.heap.size, k, none⟩) (by omega)).trans (HSC.out k u hm)
        have e1 := str_beq u.1 c
        rw [decide_eq_true hu] at e1
        clear hgc hm hu
        generalize (⟨c.toArray⟩ : ByteArray) = C at *
        generalize (⟨u.1.toArray⟩ : ByteArray) = U at *
        generalize u.2 = z at *
        go_wp2
        go_ret
        exact ⟨ret_i1 E.out, (by repeat (first | exact Below.refl _ _ | refine Below.setCell ?_ (by first | (simp; done) | (simp; omega) | omega) _ | refine Below.alloc ?_ (by first | (simp; done) | (simp; omega) | omega) _ | refine Below.drew ?_ | assumption | refine Below.trans ?_ (Below.mono (by assumption) (by first | (simp; done) | (simp; omega) | omega))))⟩
      · obtain ⟨t, ht⟩ : ∃ t, curL[k]? = some t := ⟨_, List.getElem?_eq_getElem (by show k < 6; omega)⟩
        have q0 := hgc k t ht
        have e1 := str_beq t.1 c
        rw [decide_eq_false (by rw [← hu]; exact cur_ne ht hm (by omega))] at e1
        clear hgc ht
        generalize (⟨t.1.toArray⟩ : ByteArray) = U at *
        generalize (⟨c.toArray⟩ : ByteArray) = C at *
        go_wp2
        go_roundw
        case rel => exact ⟨k + 1, by omega, by go_num, (by repeat (first | exact Below.refl _ _ | refine Below.setCell ?_ (by first | (simp; done) | (simp; omega) | omega) _ | refine Below.alloc ?_ (by first | (simp; done) | (simp; omega) | omega) _ | refine Below.drew ?_ | assumption | refine Below.trans ?_ (Below.mono (by assumption) (by first | (simp; done) | (simp; omega) | omega))))⟩
        case measure => first | (simp [intOf]; done) | (simp [intOf]; omega)
  · have E : Hid (scX c = -1) := Lib.hid (by unfold scX; rw [cur_miss hmiss]; rfl)
    have HM := Lib.hid hmiss
    clear hmiss
    go_loopw [5] (fun i wr => ∃ k : Nat, k ≤ 6 ∧ i = .int .i64 k ∧ Below w1.heap.size w1 wr) (fun i _ => 6 - (intOf i).toNat)
    case atStart => exact ⟨0, by omega, rfl, Below.refl _ _⟩
    case round =>
      obtain ⟨k, hk, rfl, hB⟩ := hrel
      obtain ⟨wo, rfl⟩ : ∃ wo : World, wo = wr := ⟨_, rfl⟩
      have hso := hB.size
      obtain ⟨hgw, hgc⟩ := HG.out.below hB
      by_cases hkm : k = 6
      · subst hkm
        clear hgc
        go_wp2
        go_ret
        exact ⟨ret_i1 E.out, (by repeat (first | exact Below.refl _ _ | refine Below.setCell ?_ (by first | (simp; done) | (simp; omega) | omega) _ | refine Below.alloc ?_ (by first | (simp; done) | (simp; omega) | omega) _ | refine Below.drew ?_ | assumption | refine Below.trans ?_ (Below.mono (by assumption) (by first | (simp; done) | (simp; omega) | omega))))⟩
      · have hk6 : (k : Int) < 6 := by omega
        obtain ⟨t, ht⟩ : ∃ t, curL[k]? = some t := ⟨_, List.getElem?_eq_getElem (by show k < 6; omega)⟩
        have q0 := hgc k t ht
        have e1 := str_beq t.1 c
        rw [decide_eq_false (HM.out k t ht)] at e1
        clear hgc ht
        generalize (⟨t.1.toArray⟩ : ByteArray) = U at *
        generalize (⟨c.toArray⟩ : ByteArray) = C at *
        go_wp2
        go_roundw
        case rel => exact ⟨k + 1, by omega, by go_num, (by repeat (first | exact Below.refl _ _ | refine Below.setCell ?_ (by first | (simp; done) | (simp; omega) | omega) _ | refine Below.alloc ?_ (by first | (simp; done) | (simp; omega) | omega) _ | refine Below.drew ?_ | assumption | refine Below.trans ?_ (Below.mono (by assumption) (by first | (simp; done) | (simp; omega) | omega))))⟩
        case measure => first | (simp [intOf]; done) | (simp [intOf]; omega)
theorem scX_cases (c : List UInt8) : (scE c = 0 ∧ scX c = scN c ∧ 0 ≤ scX c) ∨ (scE c = 18 ∧ scX c = -1) := by
  rcases cur_cases c with ⟨k, t, hk, rfl⟩ | hm
  · left
    have := cur_bound hk
    unfold scE scX scN; rw [cur_hit hk]; exact ⟨rfl, rfl, this.1⟩
  · right; unfold scE scX; rw [cur_miss hm]; exact ⟨rfl, rfl⟩
theorem rwithin_any (u : Int) (w : World) : Calls Tryz.prog 50 #[.int .i64 u] w fun e w' => e = .returned (.bool (inU u)) ∧ Below w.heap.size w w' := by
  by_cases h1 : u ≤ 4611686018427387904
  · by_cases h2 : -4611686018427387904 ≤ u
    · have e : inU u = true := decide_eq_true ⟨h2, h1⟩
      rw [e]
      clear e
      go_enter Tryz.func50, Tryz.ntmps50
      go_wp2
      go_ret
      exact ⟨rfl, (by repeat (first | exact Below.refl _ _ | refine Below.setCell ?_ (by first | (simp; done) | (simp; omega) | omega) _ | refine Below.alloc ?_ (by first | (simp; done) | (simp; omega) | omega) _ | refine Below.drew ?_ | assumption | refine Below.trans ?_ (Below.mono (by assumption) (by first | (simp; done) | (simp; omega) | omega))))⟩
    · have e : inU u = false := decide_eq_false (by omega)
      have d := decide_eq_false h2
      rw [e]
      clear e
      go_enter Tryz.func50, Tryz.ntmps50
      go_wp2
      go_ret
      exact ⟨rfl, (by repeat (first | exact Below.refl _ _ | refine Below.setCell ?_ (by first | (simp; done) | (simp; omega) | omega) _ | refine Below.alloc ?_ (by first | (simp; done) | (simp; omega) | omega) _ | refine Below.drew ?_ | assumption | refine Below.trans ?_ (Below.mono (by assumption) (by first | (simp; done) | (simp; omega) | omega))))⟩
  · have e : inU u = false := decide_eq_false (by omega)
    have d := decide_eq_false h1
    rw [e]
    clear e
    go_enter Tryz.func50, Tryz.ntmps50
    go_wp2
    go_ret
    exact ⟨rfl, (by repeat (first | exact Below.refl _ _ | refine Below.setCell ?_ (by first | (simp; done) | (simp; omega) | omega) _ | refine Below.alloc ?_ (by first | (simp; done) | (simp; omega) | omega) _ | refine Below.drew ?_ | assumption | refine Below.trans ?_ (Below.mono (by assumption) (by first | (simp; done) | (simp; omega) | omega))))⟩
set_option maxHeartbeats 2000000 in
theorem rcheck_any (u : Int) (c : List UInt8) (w : World) : Calls Tryz.prog 22 #[.agg #[.int .i64 u, .string ⟨c.toArray⟩]] w fun e w' => e = .returned (.int .i64 (amE u c)) ∧ Below w.heap.size w w' := by
  have SC := Lib.hid (fun W => rscale_any c W)
  have WI := Lib.hid (fun W => rwithin_any u W)
  rcases scX_cases c with ⟨h, _, h0⟩ | ⟨h, h0⟩
  · have h1 : ¬ scX c < 0 := by omega
    cases hu : inU u with
    | true =>
      have e : amE u c = 0 := by unfold amE; rw [if_pos h, hu]; rfl
      rw [e]
      rw [hu] at WI
      clear e h hu
      generalize scX c = z at *
      generalize (⟨c.toArray⟩ : ByteArray) = C at *
      go_enter Tryz.func22, Tryz.ntmps22
      go_wp2_with (first | (go_at_call 49; refine (SC.out _).mono ?_; rintro e w1 ⟨rfl, hb1⟩; obtain ⟨hc1, hf1⟩ := bcell hb1; have hs1 := hb1.size; (try simp at hs1); have hz1 : w.heap.size < w1.heap.size := by have := hb1.size; (try simp at this); omega) | (go_at_call 50; refine (WI.out _).mono ?_; rintro e w2 ⟨rfl, hb2⟩; obtain ⟨hc2, hf2⟩ := bcell hb2; have hs2 := hb2.size; (try simp at hs2); have hz2 : w.heap.size < w2.heap.size := by have := hb2.size; (try simp at this); omega))
      go_ret
      exact ⟨rfl, (by repeat (first | exact Below.refl _ _ | refine Below.setCell ?_ (by first | (simp; done) | (simp; omega) | omega) _ | refine Below.alloc ?_ (by first | (simp; done) | (simp; omega) | omega) _ | refine Below.drew ?_ | assumption | refine Below.trans ?_ (Below.mono (by assumption) (by first | (simp; done) | (simp; omega) | omega))))⟩
    | false =>
      have e : amE u c = 6 := by unfold amE; rw [if_pos h, hu]; rfl
      rw [e]
      rw [hu] at WI
      clear e h hu
      generalize scX c = z at *
      generalize (⟨c.toArray⟩ : ByteArray) = C at *
      go_enter Tryz.func22, Tryz.ntmps22
      go_wp2_with (first | (go_at_call 49; refine (SC.out _).mono ?_; rintro e w1 ⟨rfl, hb1⟩; obtain ⟨hc1, hf1⟩ := bcell hb1; have hs1 := hb1.size; (try simp at hs1); have hz1 : w.heap.size < w1.heap.size := by have := hb1.size; (try simp at this); omega) | (go_at_call 50; refine (WI.out _).mono ?_; rintro e w2 ⟨rfl, hb2⟩; obtain ⟨hc2, hf2⟩ := bcell hb2; have hs2 := hb2.size; (try simp at hs2); have hz2 : w.heap.size < w2.heap.size := by have := hb2.size; (try simp at this); omega))
      go_ret
      exact ⟨rfl, (by repeat (first | exact Below.refl _ _ | refine Below.setCell ?_ (by first | (simp; done) | (simp; omega) | omega) _ | refine Below.alloc ?_ (by first | (simp; done) | (simp; omega) | omega) _ | refine Below.drew ?_ | assumption | refine Below.trans ?_ (Below.mono (by assumption) (by first | (simp; done) | (simp; omega) | omega))))⟩
  · have e : amE u c = 18 := by unfold amE; rw [h]; rfl
    rw [e]
    rw [h0] at SC
    clear e h h0 WI
    generalize (⟨c.toArray⟩ : ByteArray) = C at *
    go_enter Tryz.func22, Tryz.ntmps22
    go_wp2_with (first | (go_at_call 49; refine (SC.out _).mono ?_; rintro e w1 ⟨rfl, hb1⟩; obtain ⟨hc1, hf1⟩ := bcell hb1; have hs1 := hb1.size; (try simp at hs1); have hz1 : w.heap.size < w1.heap.size := by have := hb1.size; (try simp at this); omega))
    go_ret
    exact ⟨rfl, (by repeat (first | exact Below.refl _ _ | refine Below.setCell ?_ (by first | (simp; done) | (simp; omega) | omega) _ | refine Below.alloc ?_ (by first | (simp; done) | (simp; omega) | omega) _ | refine Below.drew ?_ | assumption | refine Below.trans ?_ (Below.mono (by assumption) (by first | (simp; done) | (simp; omega) | omega))))⟩
theorem pt_n {base : Nat} {w : World} {s : Bool} {A : Option Addr} {n c : Nat} {z : Int} (P : Pt base w s A n c z) (h : z.natAbs < 1000000000000000000000000000000000000000000000000) : n ≤ 12 := by rw [P.2.1]; exact len48b h
end Go.Proofs.YtakfjdnpfhcgkaaGreatDoor
