/-
  Contracts of exref6.made, Add, Sub, Cmp, Even, Ratio. (Printed by tools/mkxs2.py.)
-/
import Derived.Test.YtdpoahfjiomhbaaGreatDoorMc4
import Derived.Test.YtdpoahfjiomhbaaGreatDoorXe1
import Derived.Test.YtdpoahfjiomhbaaGreatDoorMc6
import Derived.Test.YtdpoahfjiomhbaaGreatDoorBw14

/-
  Contracts of exref6.Codes, Scale, Check, two; exref.Within.
-/
namespace Go.Proofs.YtdpoahfjiomhbaaGreatDoor
set_option linter.all false
open Go.RowKit Go.Sort
attribute [local go_sem] cell_set_self lt_1 lt_2 lt_3 lt_4 lt_5 lt_6

def CodesAt (w : World) (g : Nat) : Prop := g < w.heap.size ∧ ∀ k t, curL[k]? = some t → w.cell? ⟨g, k, none⟩ = some (.string ⟨t.1.toArray⟩)
theorem CodesAt.below {w w' : World} {g : Nat} (h : CodesAt w g) (hb : Below w.heap.size w w') : CodesAt w' g := ⟨Nat.lt_of_lt_of_le h.1 hb.size, fun k t hk => (hb.cell (p := ⟨g, k, none⟩) h.1).trans (h.2 k t hk)⟩
set_option maxHeartbeats 1000000 in
theorem codes_any (w : World) : Calls Tryz.prog 25 #[] w fun e w' => (∃ g, e = .returned (.slice (some ⟨g, 0, none⟩) 6 6) ∧ CodesAt w' g) ∧ Below w.heap.size w w' := by
  go_enter Tryz.func25, Tryz.ntmps25
  go_wp2
  go_ret
  refine ⟨⟨w.heap.size, rfl, by simp, fun k t hk => ?_⟩, (by repeat (first | exact Below.refl _ _ | refine Below.setCell ?_ (by first | (simp; done) | (simp; omega) | omega) _ | refine Below.alloc ?_ (by first | (simp; done) | (simp; omega) | omega) _ | refine Below.drew ?_ | assumption | refine Below.trans ?_ (Below.mono (by assumption) (by first | (simp; done) | (simp; omega) | omega))))⟩
  exact cur_all (p := fun k t => World.cell? _ ⟨w.heap.size, k, none⟩ = some (.string ⟨t.1.toArray⟩)) (by simp [go_sem]) (by simp [go_sem]) (by simp [go_sem]) (by simp [go_sem]) (by simp [go_sem]) (by simp [go_sem]) hk
/-- exref6.Scale: -1 where there is no such currency. -/
def scX (c : List UInt8) : Int := (scP c).getD (-1)
set_option maxHeartbeats 4000000 in
set_option maxRecDepth 100000 in
theorem rscale_any (c : List UInt8) (w : World) : Calls Tryz.prog 26 #[.string ⟨c.toArray⟩] w fun e w' => e = .returned (.int .i64 (scX c)) ∧ Below w.heap.size w w' := by
  have CU := Lib.hid (fun W => codes_any W)
  go_enter Tryz.func26, Tryz.ntmps26
  go_wp2_with (first | (go_at_call 25; refine (CU.out _).mono ?_; rintro e w1 ⟨⟨g, rfl, hg⟩, hb1⟩; obtain ⟨hc1, hf1⟩ := bcell hb1; have hs1 := hb1.size; (try simp at hs1); have hz1 : w.heap.size < w1.heap.size := (by have := hb1.size; (try simp at this); omega); have HG := Lib.hid hg; clear hg))
  have HS : ∀ k t, curL[k]? = some t → w1.cell? ⟨w.heap.size, k, none⟩ = some (.int .i64 t.2) := fun k t hk => by
    have := cur_all (p := fun k t => w1.cell? ⟨w.heap.size, k, none⟩ = some (.int .i64 t.2)) (by simp [go_sem, *]) (by simp [go_sem, *]) (by simp [go_sem, *]) (by simp [go_sem, *]) (by simp [go_sem, *]) (by simp [go_sem, *]) hk
    exact this
  have HSC := Lib.hid HS
  clear HS
  rcases cur_cases c with ⟨m, u, hm, hu⟩ | hmiss
  · have E : Hid (scX c = u.2) := Lib.hid (by unfold scX; rw [← hu, cur_hit hm]; rfl)
    have hm6 := cur_lt hm
    go_loopw [5] (fun i wr => ∃ k : Nat, k ≤ m ∧ i = .int .i64 k ∧ Below w1.heap.size w1 wr) (fun i _ => 6 - (intOf i).toNat)
    case atStart => exact ⟨0, by omega, rfl, Below.refl _ _⟩
    case round =>
      obtain ⟨k, hk, rfl, hB⟩ := hrel
      obtain ⟨wo, rfl⟩ : ∃ wo : World, wo = wr := ⟨_, rfl⟩
      have hso := hB.size
      have hk6 : (k : Int) < 6 := by omega
      have hbw : w.heap.size < wo.heap.size := by omega
      obtain ⟨hgw, hgc⟩ := HG.out.below hB
      by_cases hkm : k = m
      · subst hkm
        have q0 := hgc k u hm
        have q1 := (hB.cell (p := ⟨w.heap.size, k, none⟩) (by omega)).trans (HSC.out k u hm)
        have e1 := str_beq u.1 c
        rw [decide_eq_true hu] at e1
        clear hgc hm hu
        generalize (⟨c.toArray⟩ : ByteArray) = C at *
        generalize (⟨u.1.toArray⟩ : ByteArray) = U at *
        generalize u.2 = z at *
        go_wp2
        go_ret
        exact ⟨ret_i1 E.out, (by repeat (first | exact Below.refl _ _ | refine Below.setCell ?_ (by first | (simp; done) | (simp; omega) | omega) _ | refine Below.alloc ?_ (by first | (simp; done) | (simp; omega) | omega) _ | refine Below.drew ?_ | assumption | refine Below.trans ?_ (Below.mono (by assumption) (by first | (simp; done) | (simp; omega) | omega))))⟩
      · obtain ⟨t, ht⟩ : ∃ t, curL[k]? = some t := ⟨_, List.getElem?_eq_getElem (by show k < 6; omega)⟩
        have q0 := hgc k t ht
        have e1 := str_beq t.1 c
        rw [decide_eq_false (by rw [← hu]; exact cur_ne ht hm (by omega))] at e1
        clear hgc ht
        generalize (⟨t.1.toArray⟩ : ByteArray) = U at *
        generalize (⟨c.toArray⟩ : ByteArray) = C at *
        go_wp2
        go_roundw
        case rel => exact ⟨k + 1, by omega, by go_num, (by repeat (first | exact Below.refl _ _ | refine Below.setCell ?_ (by first | (simp; done) | (simp; omega) | omega) _ | refine Below.alloc ?_ (by first | (simp; done) | (simp; omega) | omega) _ | refine Below.drew ?_ | assumption | refine Below.trans ?_ (Below.mono (by assumption) (by first | (simp; done) | (simp; omega) | omega))))⟩
        case measure => first | (simp [intOf]; done) | (simp [intOf]; omega)
  · have E : Hid (scX c = -1) := Lib.hid (by unfold scX; rw [cur_miss hmiss]; rfl)
    have HM := Lib.hid hmiss
    clear hmiss
    go_loopw [5] (fun i wr => ∃ k : Nat, k ≤ 6 ∧ i = .int .i64 k ∧ Below w1.heap.size w1 wr) (fun i _ => 6 - (intOf i).toNat)
    case atStart => exact ⟨0, by omega, rfl, Below.refl _ _⟩
    case round =>
      obtain ⟨k, hk, rfl, hB⟩ := hrel
      obtain ⟨wo, rfl⟩ : ∃ wo : World, wo = wr := ⟨_, rfl⟩
      have hso := hB.size
      obtain ⟨hgw, hgc⟩ := HG.out.below hB
      by_cases hkm : k = 6
      · subst hkm
        clear hgc
        go_wp2
        go_ret
        exact ⟨ret_i1 E.out, (by repeat (first | exact Below.refl _ _ | refine Below.setCell ?_ (by first | (simp; done) | (simp; omega) | omega) _ | refine Below.alloc ?_ (by first | (simp; done) | (simp; omega) | omega) _ | refine Below.drew ?_ | assumption | refine Below.trans ?_ (Below.mono (by assumption) (by first | (simp; done) | (simp; omega) | omega))))⟩
      · have hk6 : (k : Int) < 6 := by omega
        obtain ⟨t, ht⟩ : ∃ t, curL[k]? = some t := ⟨_, List.getElem?_eq_getElem (by show k < 6; omega)⟩
        have q0 := hgc k t ht
        have e1 := str_beq t.1 c
        rw [decide_eq_false (HM.out k t ht)] at e1
        clear hgc ht
        generalize (⟨t.1.toArray⟩ : ByteArray) = U at *
        generalize (⟨c.toArray⟩ : ByteArray) = C at *
        go_wp2
        go_roundw
        case rel => exact ⟨k + 1, by omega, by go_num, (by repeat (first | exact Below.refl _ _ | refine Below.setCell ?_ (by first | (simp; done) | (simp; omega) | omega) _ | refine Below.alloc ?_ (by first | (simp; done) | (simp; omega) | omega) _ | refine Below.drew ?_ | assumption | refine Below.trans ?_ (Below.mono (by assumption) (by first | (simp; done) | (simp; omega) | omega))))⟩
        case measure => first | (simp [intOf]; done) | (simp [intOf]; omega)
theorem scX_cases (c : List UInt8) : (scE c = 0 ∧ scX c = scN c ∧ 0 ≤ scX c) ∨ (scE c = 18 ∧ scX c = -1) := by
  rcases cur_cases c with ⟨k, t, hk, rfl⟩ | hm
  · left
    have := cur_bound hk
    unfold scE scX scN; rw [cur_hit hk]; exact ⟨rfl, rfl, this.1⟩
  · right; unfold scE scX; rw [cur_miss hm]; exact ⟨rfl, rfl⟩
theorem rwithin_any (u : Int) (w : World) : Calls Tryz.prog 79 #[.int .i64 u] w fun e w' => e = .returned (.bool (inU u)) ∧ Below w.heap.size w w' := by
  by_cases h1 : u ≤ 4611686018427387904
  · by_cases h2 : -4611686018427387904 ≤ u
    · have e : inU u = true := decide_eq_true ⟨h2, h1⟩
      rw [e]
      clear e
      go_enter Tryz.func79, Tryz.ntmps79
      go_wp2
      go_ret
      exact ⟨rfl, (by repeat (first | exact Below.refl _ _ | refine Below.setCell ?_ (by first | (simp; done) | (simp; omega) | omega) _ | refine Below.alloc ?_ (by first | (simp; done) | (simp; omega) | omega) _ | refine Below.drew ?_ | assumption | refine Below.trans ?_ (Below.mono (by assumption) (by first | (simp; done) | (simp; omega) | omega))))⟩
    · have e : inU u = false := decide_eq_false (by omega)
      have d := decide_eq_false h2
      rw [e]
      clear e
      go_enter Tryz.func79, Tryz.ntmps79
      go_wp2
      go_ret
      exact ⟨rfl, (by repeat (first | exact Below.refl _ _ | refine Below.setCell ?_ (by first | (simp; done) | (simp; omega) | omega) _ | refine Below.alloc ?_ (by first | (simp; done) | (simp; omega) | omega) _ | refine Below.drew ?_ | assumption | refine Below.trans ?_ (Below.mono (by assumption) (by first | (simp; done) | (simp; omega) | omega))))⟩
  · have e : inU u = false := decide_eq_false (by omega)
    have d := decide_eq_false h1
    rw [e]
    clear e
    go_enter Tryz.func79, Tryz.ntmps79
    go_wp2
    go_ret
    exact ⟨rfl, (by repeat (first | exact Below.refl _ _ | refine Below.setCell ?_ (by first | (simp; done) | (simp; omega) | omega) _ | refine Below.alloc ?_ (by first | (simp; done) | (simp; omega) | omega) _ | refine Below.drew ?_ | assumption | refine Below.trans ?_ (Below.mono (by assumption) (by first | (simp; done) | (simp; omega) | omega))))⟩
set_option maxHeartbeats 2000000 in
theorem rcheck_any (u : Int) (c : List UInt8) (w : World) : Calls Tryz.prog 29 #[.agg #[.int .i64 u, .string ⟨c.toArray⟩]] w fun e w' => e = .returned (.int .i64 (amE u c)) ∧ Below w.heap.size w w' := by
  have SC := Lib.hid (fun W => rscale_any c W)
  have WI := Lib.hid (fun W => rwithin_any u W)
  rcases scX_cases c with ⟨h, _, h0⟩ | ⟨h, h0⟩
  · have h1 : ¬ scX c < 0 := by omega
    cases hu : inU u with
    | true =>
      have e : amE u c = 0 := by unfold amE; rw [if_pos h, hu]; rfl
      rw [e]
      rw [hu] at WI
      clear e h hu
      generalize scX c = z at *
      generalize (⟨c.toArray⟩ : ByteArray) = C at *
      go_enter Tryz.func29, Tryz.ntmps29
      go_wp2_with (first | (go_at_call 26; refine (SC.out _).mono ?_; rintro e w1 ⟨rfl, hb1⟩; obtain ⟨hc1, hf1⟩ := bcell hb1; have hs1 := hb1.size; (try simp at hs1); have hz1 : w.heap.size < w1.heap.size := by have := hb1.size; (try simp at this); omega) | (go_at_call 79; refine (WI.out _).mono ?_; rintro e w2 ⟨rfl, hb2⟩; obtain ⟨hc2, hf2⟩ := bcell hb2; have hs2 := hb2.size; (try simp at hs2); have hz2 : w.heap.size < w2.heap.size := by have := hb2.size; (try simp at this); omega))
      go_ret
      exact ⟨rfl, (by repeat (first | exact Below.refl _ _ | refine Below.setCell ?_ (by first | (simp; done) | (simp; omega) | omega) _ | refine Below.alloc ?_ (by first | (simp; done) | (simp; omega) | omega) _ | refine Below.drew ?_ | assumption | refine Below.trans ?_ (Below.mono (by assumption) (by first | (simp; done) | (simp; omega) | omega))))⟩
    | false =>
      have e : amE u c = 6 := by unfold amE; rw [if_pos h, hu]; rfl
      rw [e]
      rw [hu] at WI
      clear e h hu
      generalize scX c = z at *
      generalize (⟨c.toArray⟩ : ByteArray) = C at *
      go_enter Tryz.func29, Tryz.ntmps29
      go_wp2_with (first | (go_at_call 26; refine (SC.out _).mono ?_; rintro e w1 ⟨rfl, hb1⟩; obtain ⟨hc1, hf1⟩ := bcell hb1; have hs1 := hb1.size; (try simp at hs1); have hz1 : w.heap.size < w1.heap.size := by have := hb1.size; (try simp at this); omega) | (go_at_call 79; refine (WI.out _).mono ?_; rintro e w2 ⟨rfl, hb2⟩; obtain ⟨hc2, hf2⟩ := bcell hb2; have hs2 := hb2.size; (try simp at hs2); have hz2 : w.heap.size < w2.heap.size := by have := hb2.size; (try simp at this); omega))
      go_ret
      exact ⟨rfl, (by repeat (first | exact Below.refl _ _ | refine Below.setCell ?_ (by first | (simp; done) | (simp; omega) | omega) _ | refine Below.alloc ?_ (by first | (simp; done) | (simp; omega) | omega) _ | refine Below.drew ?_ | assumption | refine Below.trans ?_ (Below.mono (by assumption) (by first | (simp; done) | (simp; omega) | omega))))⟩
  · have e : amE u c = 18 := by unfold amE; rw [h]; rfl
    rw [e]
    rw [h0] at SC
    clear e h h0 WI
    generalize (⟨c.toArray⟩ : ByteArray) = C at *
    go_enter Tryz.func29, Tryz.ntmps29
    go_wp2_with (first | (go_at_call 26; refine (SC.out _).mono ?_; rintro e w1 ⟨rfl, hb1⟩; obtain ⟨hc1, hf1⟩ := bcell hb1; have hs1 := hb1.size; (try simp at hs1); have hz1 : w.heap.size < w1.heap.size := by have := hb1.size; (try simp at this); omega))
    go_ret
    exact ⟨rfl, (by repeat (first | exact Below.refl _ _ | refine Below.setCell ?_ (by first | (simp; done) | (simp; omega) | omega) _ | refine Below.alloc ?_ (by first | (simp; done) | (simp; omega) | omega) _ | refine Below.drew ?_ | assumption | refine Below.trans ?_ (Below.mono (by assumption) (by first | (simp; done) | (simp; omega) | omega))))⟩
set_option maxHeartbeats 4000000 in
set_option maxRecDepth 100000 in
theorem two_any (u : Int) (c : List UInt8) (v : Int) (d : List UInt8) (w : World) : Calls Tryz.prog 98 #[.agg #[.int .i64 u, .string ⟨c.toArray⟩], .agg #[.int .i64 v, .string ⟨d.toArray⟩]] w fun e w' => e = .returned (.int .i64 (pairE u c v d)) ∧ Below w.heap.size w w' := by
  have C1 := Lib.hid (fun W => rcheck_any u c W)
  have C2 := Lib.hid (fun W => rcheck_any v d W)
  have hE := str_beq c d
  have hcs : (amE u c ≠ 0 ∧ pairE u c v d = amE u c) ∨ (amE u c = 0 ∧ amE v d ≠ 0 ∧ pairE u c v d = amE v d) ∨ (amE u c = 0 ∧ amE v d = 0 ∧ decide (c = d) = true ∧ pairE u c v d = 0) ∨ (amE u c = 0 ∧ amE v d = 0 ∧ decide (c = d) = false ∧ pairE u c v d = 18) := by
    unfold pairE fstE
    by_cases h1 : amE u c = 0
    · by_cases h2 : amE v d = 0
      · by_cases h3 : c = d
        · exact .inr (.inr (.inl ⟨h1, h2, decide_eq_true h3, by rw [if_pos h1, h2, if_pos rfl, if_pos h3]⟩))
        · exact .inr (.inr (.inr ⟨h1, h2, decide_eq_false h3, by rw [if_pos h1, h2, if_pos rfl, if_neg h3]⟩))
      · exact .inr (.inl ⟨h1, h2, by simp [h1, h2]⟩)
    · exact .inl ⟨h1, by simp [h1]⟩
  generalize pairE u c v d = pe at *
  generalize amE u c = x at *
  generalize amE v d = y at *
  generalize decide (c = d) = cd at *
  generalize (⟨c.toArray⟩ : ByteArray) = C at *
  generalize (⟨d.toArray⟩ : ByteArray) = D at *
  rcases hcs with ⟨h1, rfl⟩ | ⟨rfl, h1, rfl⟩ | ⟨rfl, rfl, rfl, rfl⟩ | ⟨rfl, rfl, rfl, rfl⟩
  all_goals
    (try have x1 := beq_eq_false_iff_ne.2 h1)
    go_enter Tryz.func98, Tryz.ntmps98
    go_wp2_with (first | (go_at_call 29; (with_reducible refine (C1.out _).mono ?_); rintro e w3 ⟨rfl, hb3⟩; obtain ⟨hc3, hf3⟩ := bcell hb3; have hs3 := hb3.size; (try simp at hs3); have hz3 : w.heap.size < w3.heap.size ∧ w.heap.size + 1 < w3.heap.size := (by omega)) | (go_at_call 29; (with_reducible refine (C2.out _).mono ?_); rintro e w4 ⟨rfl, hb4⟩; obtain ⟨hc4, hf4⟩ := bcell hb4; have hs4 := hb4.size; (try simp at hs4); have hz4 : w.heap.size < w4.heap.size ∧ w.heap.size + 1 < w4.heap.size := (by omega)))
    go_ret
    exact ⟨rfl, (by repeat (first | exact Below.refl _ _ | refine Below.setCell ?_ (by first | (simp; done) | (simp; omega) | omega) _ | refine Below.alloc ?_ (by first | (simp; done) | (simp; omega) | omega) _ | refine Below.drew ?_ | assumption | refine Below.trans ?_ (Below.mono (by assumption) (by first | (simp; done) | (simp; omega) | omega))))⟩
end Go.Proofs.YtdpoahfjiomhbaaGreatDoor

/-
  Contracts of exref6.made, Add, Sub, Cmp, Even, Ratio. (Printed by tools/mkxs2.py.)
-/
namespace Go.Proofs.YtdpoahfjiomhbaaGreatDoor
set_option linter.all false
open Go.RowKit Go.Sort
attribute [local go_sem] cell_set_self lt_1 lt_2 lt_3 lt_4 lt_5 lt_6

theorem unB_inU (z : Int) : unB z = inU z := rfl
theorem intN_in {z : Int} (h : inU z = true) : intN z = z := by
  obtain ⟨h0, h1⟩ := inU_iff.1 h
  unfold intN; rw [if_pos (by omega)]
theorem pt_n {base : Nat} {w : World} {s : Bool} {A : Option Addr} {n c : Nat} {z : Int} (P : Pt base w s A n c z) (h : z.natAbs < 1000000000000000000000000000000000000000000000000) : n ≤ 12 := by rw [P.2.1]; exact len48 h
set_option maxHeartbeats 4000000 in
set_option maxRecDepth 100000 in
theorem rmade_any (s : Bool) (A : Option Addr) (n c : Nat) (z : Int) (hz : z.natAbs < 1000000000000000000000000000000000000000000000000) (d : List UInt8) (base : Nat) (w : World) (P : Pt base w s A n c z) :
    Calls Tryz.prog 99 #[.agg #[.bool s, .slice A n c], .string ⟨d.toArray⟩] w fun e w' => e = .returned (amR (maE z) z d) ∧ Below w.heap.size w w' := by
  have UN := Lib.hid (fun W (hb : Below w.heap.size w W) => units14_any s A n c z hz W ((P.below hb).mono (Nat.zero_le _)))
  clear P hz
  rw [unB_inU] at UN
  cases hu : inU z with
  | true =>
    rw [amR_0 (show maE z = 0 by unfold maE; rw [hu]; rfl)]
    rw [hu, intN_in hu] at UN
    clear hu
    generalize (⟨d.toArray⟩ : ByteArray) = C at *
    go_enter Tryz.func99, Tryz.ntmps99
    go_wp2_with (first | (go_at_call 88; refine (UN.out _ (by repeat (first | exact Below.refl _ _ | refine Below.setCell ?_ (by first | (simp; done) | (simp; omega) | omega) _ | refine Below.alloc ?_ (by first | (simp; done) | (simp; omega) | omega) _ | refine Below.drew ?_ | assumption | refine Below.trans ?_ (Below.mono (by assumption) (by first | (simp; done) | (simp; omega) | omega))))).mono ?_; rintro e w1 ⟨rfl, hb1⟩; obtain ⟨hc1, hf1⟩ := bcell hb1; have hs1 := hb1.size; (try simp at hs1); have hz1 : w.heap.size < w1.heap.size ∧ w.heap.size + 1 < w1.heap.size := by have := hb1.size; (try simp at this); omega))
    exact bodyPost_ret (v := .tuple #[.agg #[.int .i64 z, .string C], .int .i64 0]) (by simp [results, Tryz.results99, go_sem, *]) rfl ⟨rfl, (by repeat (first | exact Below.refl _ _ | refine Below.setCell ?_ (by first | (simp; done) | (simp; omega) | omega) _ | refine Below.alloc ?_ (by first | (simp; done) | (simp; omega) | omega) _ | refine Below.drew ?_ | assumption | refine Below.trans ?_ (Below.mono (by assumption) (by first | (simp; done) | (simp; omega) | omega))))⟩
  | false =>
    have e : maE z = 16 := by unfold maE; rw [hu]; rfl
    rw [amR_n (by rw [e]; decide), e]
    rw [hu] at UN
    clear hu e
    generalize intN z = iz at *
    generalize (⟨d.toArray⟩ : ByteArray) = C at *
    go_enter Tryz.func99, Tryz.ntmps99
    go_wp2_with (first | (go_at_call 88; refine (UN.out _ (by repeat (first | exact Below.refl _ _ | refine Below.setCell ?_ (by first | (simp; done) | (simp; omega) | omega) _ | refine Below.alloc ?_ (by first | (simp; done) | (simp; omega) | omega) _ | refine Below.drew ?_ | assumption | refine Below.trans ?_ (Below.mono (by assumption) (by first | (simp; done) | (simp; omega) | omega))))).mono ?_; rintro e w1 ⟨rfl, hb1⟩; obtain ⟨hc1, hf1⟩ := bcell hb1; have hs1 := hb1.size; (try simp at hs1); have hz1 : w.heap.size < w1.heap.size ∧ w.heap.size + 1 < w1.heap.size := by have := hb1.size; (try simp at this); omega))
    exact bodyPost_ret (v := .tuple #[.agg #[.int .i64 0, .string ⟨#[]⟩], .int .i64 16]) (by simp [results, Tryz.results99, go_sem, *]) rfl ⟨rfl, (by repeat (first | exact Below.refl _ _ | refine Below.setCell ?_ (by first | (simp; done) | (simp; omega) | omega) _ | refine Below.alloc ?_ (by first | (simp; done) | (simp; omega) | omega) _ | refine Below.drew ?_ | assumption | refine Below.trans ?_ (Below.mono (by assumption) (by first | (simp; done) | (simp; omega) | omega))))⟩
set_option maxHeartbeats 8000000 in
set_option maxRecDepth 100000 in
theorem radd_any (u : Int) (c : List UInt8) (v : Int) (d : List UInt8) (w : World) : Calls Tryz.prog 44 #[.agg #[.int .i64 u, .string ⟨c.toArray⟩], .agg #[.int .i64 v, .string ⟨d.toArray⟩]] w fun e w' => e = .returned (amR (if pairE u c v d = 0 then maE (u + v) else pairE u c v d) (u + v) c) ∧ Below w.heap.size w w' := by
  have TW := Lib.hid (fun W => two_any u c v d W)
  by_cases h : pairE u c v d = 0
  · rw [if_pos h]
    obtain ⟨hu, hv, _, _, _⟩ := pairE_in h
    obtain ⟨u0, u1⟩ := inU_iff.1 hu
    obtain ⟨v0, v1⟩ := inU_iff.1 hv
    have BU := Lib.hid (fun W => bigOf_any u ⟨by omega, by omega⟩ W)
    have BV := Lib.hid (fun W => bigOf_any v ⟨by omega, by omega⟩ W)
    have AD : Hid (∀ s3 A3 n3 c3 s4 A4 n4 c4 b3 b4 W, Pt b3 W s3 A3 n3 c3 u → Pt b4 W s4 A4 n4 c4 v → Calls Tryz.prog 94 #[.agg #[.bool s3, .slice A3 n3 c3], .agg #[.bool s4, .slice A4 n4 c4]] W fun e w' => Res W.heap.size w' e (u + v) ∧ Below W.heap.size W w') := Lib.hid fun s3 A3 n3 c3 s4 A4 n4 c4 b3 b4 W X Y =>
      bigAdd_any s3 s4 A3 A4 n3 n4 c3 c4 u v (by have := pt_n X (by omega); omega) (by have := pt_n Y (by omega); omega) W (X.mono (Nat.zero_le _)) (Y.mono (Nat.zero_le _))
    have hR : ∃ (r : Int × ByteArray) (q : Int), amR (maE (u + v)) (u + v) c = .tuple #[.agg #[.int .i64 r.1, .string r.2], .int .i64 q] := ⟨(_, _), _, rfl⟩
    obtain ⟨⟨r, C2⟩, q, hR⟩ := hR
    simp only at hR
    have MA : Hid (∀ s A n k b W, Pt b W s A n k (u + v) → Calls Tryz.prog 99 #[.agg #[.bool s, .slice A n k], .string ⟨c.toArray⟩] W fun e w' => e = .returned (.tuple #[.agg #[.int .i64 r, .string C2], .int .i64 q]) ∧ Below W.heap.size W w') := Lib.hid fun s A n k b W X => by rw [← hR]; exact rmade_any s A n k (u + v) (by omega) c b W X
    rw [hR]
    rw [h] at TW
    clear h hu hv u0 u1 v0 v1 hR
    generalize (⟨c.toArray⟩ : ByteArray) = C at *
    generalize (⟨d.toArray⟩ : ByteArray) = D at *
    go_enter Tryz.func44, Tryz.ntmps44
    go_wp2_with (first | (go_at_call 98; refine (TW.out _).mono ?_; rintro e w1 ⟨rfl, hb1⟩; obtain ⟨hc1, hf1⟩ := bcell hb1; have hs1 := hb1.size; (try simp at hs1); have hz1 : w.heap.size < w1.heap.size ∧ w.heap.size + 1 < w1.heap.size ∧ w.heap.size + 1 + 1 < w1.heap.size := by have := hb1.size; (try simp at this); omega))
    go_region_law (first | (go_simp; go_at_call 38; (with_reducible refine (BU.out _).mono ?_); rintro e w3 ⟨⟨s3, A3, n3, c3, rfl, hP3⟩, hb3⟩; obtain ⟨hc3, hf3⟩ := bcell hb3; (try simp only [drew_size, drew_cell, drew_frozen] at hc3 hf3); have hs3 := hb3.size; (try simp at hs3); have hz3 : w.heap.size < w3.heap.size ∧ w.heap.size + 1 < w3.heap.size ∧ w.heap.size + 1 + 1 < w3.heap.size := (by omega); have HP3 := Lib.hid hP3; clear hP3) | (go_simp; go_at_call 38; (with_reducible refine (BV.out _).mono ?_); rintro e w4 ⟨⟨s4, A4, n4, c4, rfl, hP4⟩, hb4⟩; obtain ⟨hc4, hf4⟩ := bcell hb4; (try simp only [drew_size, drew_cell, drew_frozen] at hc4 hf4); have hs4 := hb4.size; (try simp at hs4); have hz4 : w.heap.size < w4.heap.size ∧ w.heap.size + 1 < w4.heap.size ∧ w.heap.size + 1 + 1 < w4.heap.size := (by omega); have HP4 := Lib.hid hP4; clear hP4) | (go_simp; go_at_call 94; (with_reducible refine (AD.out _ _ _ _ _ _ _ _ _ _ _ (HP3.out.below (by repeat (first | exact Below.refl _ _ | refine Below.setCell ?_ (by first | (simp; done) | (simp; omega) | omega) _ | refine Below.alloc ?_ (by first | (simp; done) | (simp; omega) | omega) _ | refine Below.drew ?_ | assumption | refine Below.trans ?_ (Below.mono (by assumption) (by first | (simp; done) | (simp; omega) | omega))))) (HP4.out.below (by repeat (first | exact Below.refl _ _ | refine Below.setCell ?_ (by first | (simp; done) | (simp; omega) | omega) _ | refine Below.alloc ?_ (by first | (simp; done) | (simp; omega) | omega) _ | refine Below.drew ?_ | assumption | refine Below.trans ?_ (Below.mono (by assumption) (by first | (simp; done) | (simp; omega) | omega)))))).mono ?_); rintro e w5 ⟨⟨s5, A5, n5, c5, rfl, hP5⟩, hb5⟩; obtain ⟨hc5, hf5⟩ := bcell hb5; (try simp only [drew_size, drew_cell, drew_frozen] at hc5 hf5); have hs5 := hb5.size; (try simp at hs5); have hz5 : w.heap.size < w5.heap.size ∧ w.heap.size + 1 < w5.heap.size ∧ w.heap.size + 1 + 1 < w5.heap.size := (by omega); have HP5 := Lib.hid hP5; clear hP5) | (go_simp; go_at_call 99; (with_reducible refine (MA.out _ _ _ _ _ _ (HP5.out.below (by repeat (first | exact Below.refl _ _ | refine Below.setCell ?_ (by first | (simp; done) | (simp; omega) | omega) _ | refine Below.alloc ?_ (by first | (simp; done) | (simp; omega) | omega) _ | refine Below.drew ?_ | assumption | refine Below.trans ?_ (Below.mono (by assumption) (by first | (simp; done) | (simp; omega) | omega)))))).mono ?_); rintro e w6 ⟨rfl, hb6⟩; obtain ⟨hc6, hf6⟩ := bcell hb6; (try simp only [drew_size, drew_cell, drew_frozen] at hc6 hf6); have hs6 := hb6.size; (try simp at hs6); have hz6 : w.heap.size < w6.heap.size ∧ w.heap.size + 1 < w6.heap.size ∧ w.heap.size + 1 + 1 < w6.heap.size := (by omega)))
    all_goals (
      go_wp2
      exact bodyPost_ret (v := .tuple #[.agg #[.int .i64 r, .string C2], .int .i64 q]) (by simp [results, Tryz.results44, go_sem, *]) rfl ⟨rfl, (by repeat (first | exact Below.refl _ _ | refine Below.setCell ?_ (by first | (simp; done) | (simp; omega) | omega) _ | refine Below.alloc ?_ (by first | (simp; done) | (simp; omega) | omega) _ | refine Below.drew ?_ | assumption | refine Below.trans ?_ (Below.mono (by assumption) (by first | (simp; done) | (simp; omega) | omega))))⟩)
  · rw [if_neg h, amR_n h]
    generalize pairE u c v d = x at *
    have x0 : (x != 0) = true := bne_iff_ne.2 h
    clear h
    generalize (⟨c.toArray⟩ : ByteArray) = C at *
    generalize (⟨d.toArray⟩ : ByteArray) = D at *
    go_enter Tryz.func44, Tryz.ntmps44
    go_wp2_with (first | (go_at_call 98; refine (TW.out _).mono ?_; rintro e w1 ⟨rfl, hb1⟩; obtain ⟨hc1, hf1⟩ := bcell hb1; have hs1 := hb1.size; (try simp at hs1); have hz1 : w.heap.size < w1.heap.size ∧ w.heap.size + 1 < w1.heap.size ∧ w.heap.size + 1 + 1 < w1.heap.size := by have := hb1.size; (try simp at this); omega))
    exact bodyPost_ret (v := .tuple #[.agg #[.int .i64 0, .string ⟨#[]⟩], .int .i64 x]) (by simp [results, Tryz.results44, go_sem, *]) rfl ⟨rfl, (by repeat (first | exact Below.refl _ _ | refine Below.setCell ?_ (by first | (simp; done) | (simp; omega) | omega) _ | refine Below.alloc ?_ (by first | (simp; done) | (simp; omega) | omega) _ | refine Below.drew ?_ | assumption | refine Below.trans ?_ (Below.mono (by assumption) (by first | (simp; done) | (simp; omega) | omega))))⟩
set_option maxHeartbeats 8000000 in
set_option maxRecDepth 100000 in
theorem rsub_any (u : Int) (c : List UInt8) (v : Int) (d : List UInt8) (w : World) : Calls Tryz.prog 45 #[.agg #[.int .i64 u, .string ⟨c.toArray⟩], .agg #[.int .i64 v, .string ⟨d.toArray⟩]] w fun e w' => e = .returned (amR (if pairE u c v d = 0 then maE (u - v) else pairE u c v d) (u - v) c) ∧ Below w.heap.size w w' := by
  have TW := Lib.hid (fun W => two_any u c v d W)
  by_cases h : pairE u c v d = 0
  · rw [if_pos h]
    obtain ⟨hu, hv, _, _, _⟩ := pairE_in h
    obtain ⟨u0, u1⟩ := inU_iff.1 hu
    obtain ⟨v0, v1⟩ := inU_iff.1 hv
    have BU := Lib.hid (fun W => bigOf_any u ⟨by omega, by omega⟩ W)
    have BV := Lib.hid (fun W => bigOf_any v ⟨by omega, by omega⟩ W)
    have AD : Hid (∀ s3 A3 n3 c3 s4 A4 n4 c4 b3 b4 W, Pt b3 W s3 A3 n3 c3 u → Pt b4 W s4 A4 n4 c4 v → Calls Tryz.prog 36 #[.agg #[.bool s3, .slice A3 n3 c3], .agg #[.bool s4, .slice A4 n4 c4]] W fun e w' => Res W.heap.size w' e (u - v) ∧ Below W.heap.size W w') := Lib.hid fun s3 A3 n3 c3 s4 A4 n4 c4 b3 b4 W X Y =>
      bigSub_any s3 s4 A3 A4 n3 n4 c3 c4 u v (by have := pt_n X (by omega); omega) (by have := pt_n Y (by omega); omega) W (X.mono (Nat.zero_le _)) (Y.mono (Nat.zero_le _))
    have hR : ∃ (r : Int × ByteArray) (q : Int), amR (maE (u - v)) (u - v) c = .tuple #[.agg #[.int .i64 r.1, .string r.2], .int .i64 q] := ⟨(_, _), _, rfl⟩
    obtain ⟨⟨r, C2⟩, q, hR⟩ := hR
    simp only at hR
    have MA : Hid (∀ s A n k b W, Pt b W s A n k (u - v) → Calls Tryz.prog 99 #[.agg #[.bool s, .slice A n k], .string ⟨c.toArray⟩] W fun e w' => e = .returned (.tuple #[.agg #[.int .i64 r, .string C2], .int .i64 q]) ∧ Below W.heap.size W w') := Lib.hid fun s A n k b W X => by rw [← hR]; exact rmade_any s A n k (u - v) (by omega) c b W X
    rw [hR]
    rw [h] at TW
    clear h hu hv u0 u1 v0 v1 hR
    generalize (⟨c.toArray⟩ : ByteArray) = C at *
    generalize (⟨d.toArray⟩ : ByteArray) = D at *
    go_enter Tryz.func45, Tryz.ntmps45
    go_wp2_with (first | (go_at_call 98; refine (TW.out _).mono ?_; rintro e w1 ⟨rfl, hb1⟩; obtain ⟨hc1, hf1⟩ := bcell hb1; have hs1 := hb1.size; (try simp at hs1); have hz1 : w.heap.size < w1.heap.size ∧ w.heap.size + 1 < w1.heap.size ∧ w.heap.size + 1 + 1 < w1.heap.size := by have := hb1.size; (try simp at this); omega))
    go_region_law (first | (go_simp; go_at_call 38; (with_reducible refine (BU.out _).mono ?_); rintro e w3 ⟨⟨s3, A3, n3, c3, rfl, hP3⟩, hb3⟩; obtain ⟨hc3, hf3⟩ := bcell hb3; (try simp only [drew_size, drew_cell, drew_frozen] at hc3 hf3); have hs3 := hb3.size; (try simp at hs3); have hz3 : w.heap.size < w3.heap.size ∧ w.heap.size + 1 < w3.heap.size ∧ w.heap.size + 1 + 1 < w3.heap.size := (by omega); have HP3 := Lib.hid hP3; clear hP3) | (go_simp; go_at_call 38; (with_reducible refine (BV.out _).mono ?_); rintro e w4 ⟨⟨s4, A4, n4, c4, rfl, hP4⟩, hb4⟩; obtain ⟨hc4, hf4⟩ := bcell hb4; (try simp only [drew_size, drew_cell, drew_frozen] at hc4 hf4); have hs4 := hb4.size; (try simp at hs4); have hz4 : w.heap.size < w4.heap.size ∧ w.heap.size + 1 < w4.heap.size ∧ w.heap.size + 1 + 1 < w4.heap.size := (by omega); have HP4 := Lib.hid hP4; clear hP4) | (go_simp; go_at_call 36; (with_reducible refine (AD.out _ _ _ _ _ _ _ _ _ _ _ (HP3.out.below (by repeat (first | exact Below.refl _ _ | refine Below.setCell ?_ (by first | (simp; done) | (simp; omega) | omega) _ | refine Below.alloc ?_ (by first | (simp; done) | (simp; omega) | omega) _ | refine Below.drew ?_ | assumption | refine Below.trans ?_ (Below.mono (by assumption) (by first | (simp; done) | (simp; omega) | omega))))) (HP4.out.below (by repeat (first | exact Below.refl _ _ | refine Below.setCell ?_ (by first | (simp; done) | (simp; omega) | omega) _ | refine Below.alloc ?_ (by first | (simp; done) | (simp; omega) | omega) _ | refine Below.drew ?_ | assumption | refine Below.trans ?_ (Below.mono (by assumption) (by first | (simp; done) | (simp; omega) | omega)))))).mono ?_); rintro e w5 ⟨⟨s5, A5, n5, c5, rfl, hP5⟩, hb5⟩; obtain ⟨hc5, hf5⟩ := bcell hb5; (try simp only [drew_size, drew_cell, drew_frozen] at hc5 hf5); have hs5 := hb5.size; (try simp at hs5); have hz5 : w.heap.size < w5.heap.size ∧ w.heap.size + 1 < w5.heap.size ∧ w.heap.size + 1 + 1 < w5.heap.size := (by omega); have HP5 := Lib.hid hP5; clear hP5) | (go_simp; go_at_call 99; (with_reducible refine (MA.out _ _ _ _ _ _ (HP5.out.below (by repeat (first | exact Below.refl _ _ | refine Below.setCell ?_ (by first | (simp; done) | (simp; omega) | omega) _ | refine Below.alloc ?_ (by first | (simp; done) | (simp; omega) | omega) _ | refine Below.drew ?_ | assumption | refine Below.trans ?_ (Below.mono (by assumption) (by first | (simp; done) | (simp; omega) | omega)))))).mono ?_); rintro e w6 ⟨rfl, hb6⟩; obtain ⟨hc6, hf6⟩ := bcell hb6; (try simp only [drew_size, drew_cell, drew_frozen] at hc6 hf6); have hs6 := hb6.size; (try simp at hs6); have hz6 : w.heap.size < w6.heap.size ∧ w.heap.size + 1 < w6.heap.size ∧ w.heap.size + 1 + 1 < w6.heap.size := (by omega)))
    all_goals (
      go_wp2
      exact bodyPost_ret (v := .tuple #[.agg #[.int .i64 r, .string C2], .int .i64 q]) (by simp [results, Tryz.results45, go_sem, *]) rfl ⟨rfl, (by repeat (first | exact Below.refl _ _ | refine Below.setCell ?_ (by first | (simp; done) | (simp; omega) | omega) _ | refine Below.alloc ?_ (by first | (simp; done) | (simp; omega) | omega) _ | refine Below.drew ?_ | assumption | refine Below.trans ?_ (Below.mono (by assumption) (by first | (simp; done) | (simp; omega) | omega))))⟩)
  · rw [if_neg h, amR_n h]
    generalize pairE u c v d = x at *
    have x0 : (x != 0) = true := bne_iff_ne.2 h
    clear h
    generalize (⟨c.toArray⟩ : ByteArray) = C at *
    generalize (⟨d.toArray⟩ : ByteArray) = D at *
    go_enter Tryz.func45, Tryz.ntmps45
    go_wp2_with (first | (go_at_call 98; refine (TW.out _).mono ?_; rintro e w1 ⟨rfl, hb1⟩; obtain ⟨hc1, hf1⟩ := bcell hb1; have hs1 := hb1.size; (try simp at hs1); have hz1 : w.heap.size < w1.heap.size ∧ w.heap.size + 1 < w1.heap.size ∧ w.heap.size + 1 + 1 < w1.heap.size := by have := hb1.size; (try simp at this); omega))
    exact bodyPost_ret (v := .tuple #[.agg #[.int .i64 0, .string ⟨#[]⟩], .int .i64 x]) (by simp [results, Tryz.results45, go_sem, *]) rfl ⟨rfl, (by repeat (first | exact Below.refl _ _ | refine Below.setCell ?_ (by first | (simp; done) | (simp; omega) | omega) _ | refine Below.alloc ?_ (by first | (simp; done) | (simp; omega) | omega) _ | refine Below.drew ?_ | assumption | refine Below.trans ?_ (Below.mono (by assumption) (by first | (simp; done) | (simp; omega) | omega))))⟩
theorem cmpI_compare (u v : Int) : cmpI u v = Lib.compareInt u v := by
  unfold cmpI Lib.compareInt; repeat' split
  all_goals (first | rfl | omega)
set_option maxHeartbeats 8000000 in
set_option maxRecDepth 100000 in
theorem rcmp_any (u : Int) (c : List UInt8) (v : Int) (d : List UInt8) (w : World) : Calls Tryz.prog 46 #[.agg #[.int .i64 u, .string ⟨c.toArray⟩], .agg #[.int .i64 v, .string ⟨d.toArray⟩]] w fun e w' => e = .returned (.tuple #[.int .i64 (mcmpN u c v d), .int .i64 (pairE u c v d)]) ∧ Below w.heap.size w w' := by
  have TW := Lib.hid (fun W => two_any u c v d W)
  by_cases h : pairE u c v d = 0
  · have E := Lib.hid (And.intro (show mcmpN u c v d = cmpI u v by unfold mcmpN; rw [if_pos h, cmpI_compare]) h)
    obtain ⟨hu, hv, _, _, _⟩ := pairE_in h
    obtain ⟨u0, u1⟩ := inU_iff.1 hu
    obtain ⟨v0, v1⟩ := inU_iff.1 hv
    have BU := Lib.hid (fun W => bigOf_any u ⟨by omega, by omega⟩ W)
    have BV := Lib.hid (fun W => bigOf_any v ⟨by omega, by omega⟩ W)
    have CM : Hid (∀ s3 A3 n3 c3 s4 A4 n4 c4 b3 b4 W, Pt b3 W s3 A3 n3 c3 u → Pt b4 W s4 A4 n4 c4 v → Calls Tryz.prog 40 #[.agg #[.bool s3, .slice A3 n3 c3], .agg #[.bool s4, .slice A4 n4 c4]] W fun e w' => e = .returned (.int .i64 (cmpI u v)) ∧ Below W.heap.size W w') := Lib.hid fun s3 A3 n3 c3 s4 A4 n4 c4 b3 b4 W X Y =>
      bigCmp_any s3 s4 A3 A4 n3 n4 c3 c4 u v (by have := pt_n X (by omega); omega) (by have := pt_n Y (by omega); omega) W (X.mono (Nat.zero_le _)) (Y.mono (Nat.zero_le _))
    rw [h] at TW
    clear h hu hv u0 u1 v0 v1
    generalize cmpI u v = z at *
    generalize (⟨c.toArray⟩ : ByteArray) = C at *
    generalize (⟨d.toArray⟩ : ByteArray) = D at *
    go_enter Tryz.func46, Tryz.ntmps46
    go_wp2_with (first | (go_at_call 98; refine (TW.out _).mono ?_; rintro e w1 ⟨rfl, hb1⟩; obtain ⟨hc1, hf1⟩ := bcell hb1; have hs1 := hb1.size; (try simp at hs1); have hz1 : w.heap.size < w1.heap.size ∧ w.heap.size + 1 < w1.heap.size := by have := hb1.size; (try simp at this); omega))
    go_region_law (first | (go_simp; go_at_call 38; (with_reducible refine (BU.out _).mono ?_); rintro e w3 ⟨⟨s3, A3, n3, c3, rfl, hP3⟩, hb3⟩; obtain ⟨hc3, hf3⟩ := bcell hb3; (try simp only [drew_size, drew_cell, drew_frozen] at hc3 hf3); have hs3 := hb3.size; (try simp at hs3); have hz3 : w.heap.size < w3.heap.size ∧ w.heap.size + 1 < w3.heap.size := (by omega); have HP3 := Lib.hid hP3; clear hP3) | (go_simp; go_at_call 38; (with_reducible refine (BV.out _).mono ?_); rintro e w4 ⟨⟨s4, A4, n4, c4, rfl, hP4⟩, hb4⟩; obtain ⟨hc4, hf4⟩ := bcell hb4; (try simp only [drew_size, drew_cell, drew_frozen] at hc4 hf4); have hs4 := hb4.size; (try simp at hs4); have hz4 : w.heap.size < w4.heap.size ∧ w.heap.size + 1 < w4.heap.size := (by omega); have HP4 := Lib.hid hP4; clear hP4) | (go_simp; go_at_call 40; (with_reducible refine (CM.out _ _ _ _ _ _ _ _ _ _ _ (HP3.out.below (by repeat (first | exact Below.refl _ _ | refine Below.setCell ?_ (by first | (simp; done) | (simp; omega) | omega) _ | refine Below.alloc ?_ (by first | (simp; done) | (simp; omega) | omega) _ | refine Below.drew ?_ | assumption | refine Below.trans ?_ (Below.mono (by assumption) (by first | (simp; done) | (simp; omega) | omega))))) (HP4.out.below (by repeat (first | exact Below.refl _ _ | refine Below.setCell ?_ (by first | (simp; done) | (simp; omega) | omega) _ | refine Below.alloc ?_ (by first | (simp; done) | (simp; omega) | omega) _ | refine Below.drew ?_ | assumption | refine Below.trans ?_ (Below.mono (by assumption) (by first | (simp; done) | (simp; omega) | omega)))))).mono ?_); rintro e w5 ⟨rfl, hb5⟩; obtain ⟨hc5, hf5⟩ := bcell hb5; (try simp only [drew_size, drew_cell, drew_frozen] at hc5 hf5); have hs5 := hb5.size; (try simp at hs5); have hz5 : w.heap.size < w5.heap.size ∧ w.heap.size + 1 < w5.heap.size := (by omega)))
    all_goals (
      go_wp2
      go_ret2
      exact ⟨ret_n2 E.out.1 E.out.2, (by repeat (first | exact Below.refl _ _ | refine Below.setCell ?_ (by first | (simp; done) | (simp; omega) | omega) _ | refine Below.alloc ?_ (by first | (simp; done) | (simp; omega) | omega) _ | refine Below.drew ?_ | assumption | refine Below.trans ?_ (Below.mono (by assumption) (by first | (simp; done) | (simp; omega) | omega))))⟩)
  · have E := Lib.hid (show mcmpN u c v d = 0 by unfold mcmpN; rw [if_neg h])
    have x0 : (pairE u c v d != 0) = true := bne_iff_ne.2 h
    clear h
    generalize mcmpN u c v d = z at *
    generalize pairE u c v d = y at *
    generalize (⟨c.toArray⟩ : ByteArray) = C at *
    generalize (⟨d.toArray⟩ : ByteArray) = D at *
    go_enter Tryz.func46, Tryz.ntmps46
    go_wp2_with (first | (go_at_call 98; refine (TW.out _).mono ?_; rintro e w1 ⟨rfl, hb1⟩; obtain ⟨hc1, hf1⟩ := bcell hb1; have hs1 := hb1.size; (try simp at hs1); have hz1 : w.heap.size < w1.heap.size ∧ w.heap.size + 1 < w1.heap.size := by have := hb1.size; (try simp at this); omega))
    go_ret2
    exact ⟨ret_n2 E.out rfl, (by repeat (first | exact Below.refl _ _ | refine Below.setCell ?_ (by first | (simp; done) | (simp; omega) | omega) _ | refine Below.alloc ?_ (by first | (simp; done) | (simp; omega) | omega) _ | refine Below.drew ?_ | assumption | refine Below.trans ?_ (Below.mono (by assumption) (by first | (simp; done) | (simp; omega) | omega))))⟩
theorem amE_inX {u : Int} {c : List UInt8} (h : amE u c = 0) : inU u = true := by
  unfold amE at h
  cases hu : inU u with
  | true => rfl
  | false =>
    rw [hu] at h
    rcases scE_cases c with k | k
    · rw [if_pos k] at h; simp at h
    · rw [k] at h; simp at h
set_option maxHeartbeats 8000000 in
set_option maxRecDepth 100000 in
/-- a times b by c. -/
theorem even_any (u n m : Int) (hu : inU u = true) (hn : In64 n) (hm : In64 m) (h0 : m ≠ 0) (w : World) : Calls Tryz.prog 100 #[.int .i64 u, .int .i64 n, .int .i64 m] w fun e w' => e = .returned (.tuple #[.int .i64 (intN (rhZ (u * n) m)), .bool (inU (rhZ (u * n) m))]) ∧ Below w.heap.size w w' := by
  obtain ⟨u0, u1⟩ := inU_iff.1 hu
  have bd := prod_bd u0 u1 hn
  have rb := rhZ_abs (u * n) m h0
  have n0 := hn.1; have n1 := hn.2; have m0 := hm.1; have m1 := hm.2
  have BU := Lib.hid (fun W => bigOf_any u ⟨by omega, by omega⟩ W)
  have BN := Lib.hid (fun W => bigOf_any n hn W)
  have BM := Lib.hid (fun W => bigOf_any m hm W)
  have MU : Hid (∀ s3 A3 n3 c3 s4 A4 n4 c4 b3 b4 W, Pt b3 W s3 A3 n3 c3 u → Pt b4 W s4 A4 n4 c4 n → Calls Tryz.prog 37 #[.agg #[.bool s3, .slice A3 n3 c3], .agg #[.bool s4, .slice A4 n4 c4]] W fun e w' => Res W.heap.size w' e (u * n) ∧ Below W.heap.size W w') := Lib.hid fun s3 A3 n3 c3 s4 A4 n4 c4 b3 b4 W X Y =>
    bigMul_any s3 s4 A3 A4 n3 n4 c3 c4 u n (by have := pt_n X (by omega); omega) (by have := pt_n Y (by omega); omega) W (X.mono (Nat.zero_le _)) (Y.mono (Nat.zero_le _))
  have EV : Hid (∀ s3 A3 n3 c3 s4 A4 n4 c4 b3 b4 W, Pt b3 W s3 A3 n3 c3 (u * n) → Pt b4 W s4 A4 n4 c4 m → Calls Tryz.prog 135 #[.agg #[.bool s3, .slice A3 n3 c3], .agg #[.bool s4, .slice A4 n4 c4]] W fun e w' => Res W.heap.size w' e (rhZ (u * n) m) ∧ Below W.heap.size W w') := Lib.hid fun s3 A3 n3 c3 s4 A4 n4 c4 b3 b4 W X Y => by
    unfold rhZ
    by_cases hs : m < 0
    · rw [if_pos hs]
      obtain rfl : s4 = true := by rw [Y.1]; exact decide_eq_true hs
      exact bigEven_neg s3 A3 A4 n3 n4 c3 c4 (u * n) m (by omega) (by omega) hs W (X.mono (Nat.zero_le _)) (Y.mono (Nat.zero_le _))
    · rw [if_neg hs]
      obtain rfl : s4 = false := by rw [Y.1]; exact decide_eq_false hs
      exact bigEven_any s3 A3 A4 n3 n4 c3 c4 (u * n) m (by omega) (by omega) (by omega) W (X.mono (Nat.zero_le _)) (Y.mono (Nat.zero_le _))
  have UN : Hid (∀ s A k c b W, Pt b W s A k c (rhZ (u * n) m) → Calls Tryz.prog 88 #[.agg #[.bool s, .slice A k c]] W fun e w' => e = .returned (.tuple #[.int .i64 (intN (rhZ (u * n) m)), .bool (inU (rhZ (u * n) m))]) ∧ Below W.heap.size W w') := Lib.hid fun s A k c b W X =>
    units14_any s A k c (rhZ (u * n) m) (by omega) W (X.mono (Nat.zero_le _))
  generalize intN (rhZ (u * n) m) = iz at *
  generalize inU (rhZ (u * n) m) = bz at *
  clear hu u0 u1 bd rb n0 n1 m0 m1 hn hm h0
  go_enter Tryz.func100, Tryz.ntmps100
  go_wp2_with (first
    | (go_at_call 38; (with_reducible refine (BU.out _).mono ?_); rintro e w3 ⟨⟨s3, A3, n3, c3, rfl, hP3⟩, hb3⟩; have hs3 := hb3.size; have HP3 := Lib.hid hP3; clear hP3)
    | (go_at_call 38; (with_reducible refine (BN.out _).mono ?_); rintro e w4 ⟨⟨s4, A4, n4, c4, rfl, hP4⟩, hb4⟩; have hs4 := hb4.size; have HP4 := Lib.hid hP4; clear hP4)
    | (go_at_call 37; (with_reducible refine (MU.out _ _ _ _ _ _ _ _ _ _ _ (HP3.out.below (by repeat (first | exact Below.refl _ _ | refine Below.setCell ?_ (by first | (simp; done) | (simp; omega) | omega) _ | refine Below.alloc ?_ (by first | (simp; done) | (simp; omega) | omega) _ | refine Below.drew ?_ | assumption | refine Below.trans ?_ (Below.mono (by assumption) (by first | (simp; done) | (simp; omega) | omega))))) (HP4.out.below (by repeat (first | exact Below.refl _ _ | refine Below.setCell ?_ (by first | (simp; done) | (simp; omega) | omega) _ | refine Below.alloc ?_ (by first | (simp; done) | (simp; omega) | omega) _ | refine Below.drew ?_ | assumption | refine Below.trans ?_ (Below.mono (by assumption) (by first | (simp; done) | (simp; omega) | omega)))))).mono ?_); rintro e w5 ⟨⟨s5, A5, n5, c5, rfl, hP5⟩, hb5⟩; have hs5 := hb5.size; have HP5 := Lib.hid hP5; clear hP5)
    | (go_at_call 38; (with_reducible refine (BM.out _).mono ?_); rintro e w6 ⟨⟨s6, A6, n6, c6, rfl, hP6⟩, hb6⟩; have hs6 := hb6.size; have HP6 := Lib.hid hP6; clear hP6)
    | (go_at_call 135; (with_reducible refine (EV.out _ _ _ _ _ _ _ _ _ _ _ (HP5.out.below (by repeat (first | exact Below.refl _ _ | refine Below.setCell ?_ (by first | (simp; done) | (simp; omega) | omega) _ | refine Below.alloc ?_ (by first | (simp; done) | (simp; omega) | omega) _ | refine Below.drew ?_ | assumption | refine Below.trans ?_ (Below.mono (by assumption) (by first | (simp; done) | (simp; omega) | omega))))) (HP6.out.below (by repeat (first | exact Below.refl _ _ | refine Below.setCell ?_ (by first | (simp; done) | (simp; omega) | omega) _ | refine Below.alloc ?_ (by first | (simp; done) | (simp; omega) | omega) _ | refine Below.drew ?_ | assumption | refine Below.trans ?_ (Below.mono (by assumption) (by first | (simp; done) | (simp; omega) | omega)))))).mono ?_); rintro e w7 ⟨⟨s7, A7, n7, c7, rfl, hP7⟩, hb7⟩; have hs7 := hb7.size; have HP7 := Lib.hid hP7; clear hP7)
    | (go_at_call 88; (with_reducible refine (UN.out _ _ _ _ _ _ (HP7.out.below (by repeat (first | exact Below.refl _ _ | refine Below.setCell ?_ (by first | (simp; done) | (simp; omega) | omega) _ | refine Below.alloc ?_ (by first | (simp; done) | (simp; omega) | omega) _ | refine Below.drew ?_ | assumption | refine Below.trans ?_ (Below.mono (by assumption) (by first | (simp; done) | (simp; omega) | omega)))))).mono ?_); rintro e w8 ⟨rfl, hb8⟩; have hs8 := hb8.size))
  go_ret2
  exact ⟨rfl, (by repeat (first | exact Below.refl _ _ | refine Below.setCell ?_ (by first | (simp; done) | (simp; omega) | omega) _ | refine Below.alloc ?_ (by first | (simp; done) | (simp; omega) | omega) _ | refine Below.drew ?_ | assumption | refine Below.trans ?_ (Below.mono (by assumption) (by first | (simp; done) | (simp; omega) | omega))))⟩
set_option maxHeartbeats 8000000 in
set_option maxRecDepth 100000 in
theorem rratio_any (u : Int) (c : List UInt8) (n d : Int) (hn : In64 n) (hd : In64 d) (w : World) : Calls Tryz.prog 47 #[.agg #[.int .i64 u, .string ⟨c.toArray⟩], .int .i64 n, .int .i64 d] w fun e w' => e = .returned (amR (ratE u c n d) (rhZ (u * n) d) c) ∧ Below w.heap.size w w' := by
  have CK := Lib.hid (fun W => rcheck_any u c W)
  by_cases h : amE u c = 0
  · have hu := amE_inX h
    rw [h] at CK
    by_cases d0 : d = 0
    · have E : ratE u c n d = 17 := by unfold ratE; rw [if_pos h, if_pos d0]
      rw [E, amR_n (by decide)]
      subst d0
      clear E h hu
      generalize (⟨c.toArray⟩ : ByteArray) = C at *
      go_enter Tryz.func47, Tryz.ntmps47
      go_wp2_with (first | (go_at_call 29; refine (CK.out _).mono ?_; rintro e w1 ⟨rfl, hb1⟩; obtain ⟨hc1, hf1⟩ := bcell hb1; have hs1 := hb1.size; (try simp at hs1); have hz1 : w.heap.size < w1.heap.size ∧ w.heap.size + 1 < w1.heap.size := by have := hb1.size; (try simp at this); omega))
      exact bodyPost_ret (v := .tuple #[.agg #[.int .i64 0, .string ⟨#[]⟩], .int .i64 17]) (by simp [results, Tryz.results47, go_sem, *]) rfl ⟨rfl, (by repeat (first | exact Below.refl _ _ | refine Below.setCell ?_ (by first | (simp; done) | (simp; omega) | omega) _ | refine Below.alloc ?_ (by first | (simp; done) | (simp; omega) | omega) _ | refine Below.drew ?_ | assumption | refine Below.trans ?_ (Below.mono (by assumption) (by first | (simp; done) | (simp; omega) | omega))))⟩
    · have EV := Lib.hid (fun W => even_any u n d hu hn hd d0 W)
      have E : ratE u c n d = maE (rhZ (u * n) d) := by unfold ratE; rw [if_pos h, if_neg d0]
      rw [E]
      have dd : (d == 0) = false := beq_eq_false_iff_ne.2 d0
      generalize rhZ (u * n) d = z at *
      cases hz : inU z with
      | true =>
        rw [amR_0 (show maE z = 0 by unfold maE; rw [hz]; rfl)]
        rw [hz, intN_in hz] at EV
        clear E h hu hz
        generalize (⟨c.toArray⟩ : ByteArray) = C at *
        go_enter Tryz.func47, Tryz.ntmps47
        go_wp2_with (first | (go_at_call 29; refine (CK.out _).mono ?_; rintro e w1 ⟨rfl, hb1⟩; obtain ⟨hc1, hf1⟩ := bcell hb1; have hs1 := hb1.size; (try simp at hs1); have hz1 : w.heap.size < w1.heap.size ∧ w.heap.size + 1 < w1.heap.size := by have := hb1.size; (try simp at this); omega) | (go_at_call 100; refine (EV.out _).mono ?_; rintro e w2 ⟨rfl, hb2⟩; obtain ⟨hc2, hf2⟩ := bcell hb2; have hs2 := hb2.size; (try simp at hs2); have hz2 : w.heap.size < w2.heap.size ∧ w.heap.size + 1 < w2.heap.size := by have := hb2.size; (try simp at this); omega))
        exact bodyPost_ret (v := .tuple #[.agg #[.int .i64 z, .string C], .int .i64 0]) (by simp [results, Tryz.results47, go_sem, *]) rfl ⟨rfl, (by repeat (first | exact Below.refl _ _ | refine Below.setCell ?_ (by first | (simp; done) | (simp; omega) | omega) _ | refine Below.alloc ?_ (by first | (simp; done) | (simp; omega) | omega) _ | refine Below.drew ?_ | assumption | refine Below.trans ?_ (Below.mono (by assumption) (by first | (simp; done) | (simp; omega) | omega))))⟩
      | false =>
        have e : maE z = 16 := by unfold maE; rw [hz]; rfl
        rw [amR_n (by rw [e]; decide), e]
        rw [hz] at EV
        clear E h hu hz e
        generalize intN z = iz at *
        generalize (⟨c.toArray⟩ : ByteArray) = C at *
        go_enter Tryz.func47, Tryz.ntmps47
        go_wp2_with (first | (go_at_call 29; refine (CK.out _).mono ?_; rintro e w1 ⟨rfl, hb1⟩; obtain ⟨hc1, hf1⟩ := bcell hb1; have hs1 := hb1.size; (try simp at hs1); have hz1 : w.heap.size < w1.heap.size ∧ w.heap.size + 1 < w1.heap.size := by have := hb1.size; (try simp at this); omega) | (go_at_call 100; refine (EV.out _).mono ?_; rintro e w2 ⟨rfl, hb2⟩; obtain ⟨hc2, hf2⟩ := bcell hb2; have hs2 := hb2.size; (try simp at hs2); have hz2 : w.heap.size < w2.heap.size ∧ w.heap.size + 1 < w2.heap.size := by have := hb2.size; (try simp at this); omega))
        exact bodyPost_ret (v := .tuple #[.agg #[.int .i64 0, .string ⟨#[]⟩], .int .i64 16]) (by simp [results, Tryz.results47, go_sem, *]) rfl ⟨rfl, (by repeat (first | exact Below.refl _ _ | refine Below.setCell ?_ (by first | (simp; done) | (simp; omega) | omega) _ | refine Below.alloc ?_ (by first | (simp; done) | (simp; omega) | omega) _ | refine Below.drew ?_ | assumption | refine Below.trans ?_ (Below.mono (by assumption) (by first | (simp; done) | (simp; omega) | omega))))⟩
  · have E : ratE u c n d = amE u c := by unfold ratE; rw [if_neg h]
    rw [E, amR_n h]
    clear E
    generalize amE u c = x at *
    have x0 : (x != 0) = true := bne_iff_ne.2 h
    clear h
    generalize (⟨c.toArray⟩ : ByteArray) = C at *
    go_enter Tryz.func47, Tryz.ntmps47
    go_wp2_with (first | (go_at_call 29; refine (CK.out _).mono ?_; rintro e w1 ⟨rfl, hb1⟩; obtain ⟨hc1, hf1⟩ := bcell hb1; have hs1 := hb1.size; (try simp at hs1); have hz1 : w.heap.size < w1.heap.size ∧ w.heap.size + 1 < w1.heap.size := by have := hb1.size; (try simp at this); omega))
    exact bodyPost_ret (v := .tuple #[.agg #[.int .i64 0, .string ⟨#[]⟩], .int .i64 x]) (by simp [results, Tryz.results47, go_sem, *]) rfl ⟨rfl, (by repeat (first | exact Below.refl _ _ | refine Below.setCell ?_ (by first | (simp; done) | (simp; omega) | omega) _ | refine Below.alloc ?_ (by first | (simp; done) | (simp; omega) | omega) _ | refine Below.drew ?_ | assumption | refine Below.trans ?_ (Below.mono (by assumption) (by first | (simp; done) | (simp; omega) | omega))))⟩
end Go.Proofs.YtdpoahfjiomhbaaGreatDoor
