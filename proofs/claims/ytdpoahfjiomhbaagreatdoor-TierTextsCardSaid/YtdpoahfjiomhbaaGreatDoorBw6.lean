/-
  Contract of exref.BigAdd.
-/
import Derived.Test.YtdpoahfjiomhbaaGreatDoorBw2
import Derived.Test.YtdpoahfjiomhbaaGreatDoorBw3
import Derived.Test.YtdpoahfjiomhbaaGreatDoorBw4
import Derived.Test.YtdpoahfjiomhbaaGreatDoorBw5
import Derived.Test.YtdpoahfjiomhbaaGreatDoorWk5
import Derived.Deep.RegionHeld3
namespace Go.Proofs.YtdpoahfjiomhbaaGreatDoor
set_option linter.all false
open Go.RowKit Go.Sort
attribute [local go_sem] cell_set_self lt_1 lt_2 lt_3 lt_4 lt_5 lt_6

theorem drew_size (w : World) : w.drew.heap.size = w.heap.size := rfl
theorem drew_cell (w : World) (a : Addr) : w.drew.cell? a = w.cell? a := rfl
theorem drew_frozen (w : World) (a : Addr) : w.drew.frozen? a = w.frozen? a := rfl

set_option maxHeartbeats 4000000 in
set_option maxRecDepth 100000 in
theorem bigAdd_same (s : Bool) (A B : Option Addr) (na nb ca cb : Nat) (za zb : Int) (hna : na ≤ 900) (hnb : nb ≤ 900) (w : World) (P : Pt 0 w s A na ca za) (Q : Pt 0 w s B nb cb zb) :
    Calls Tryz.prog 94 #[.agg #[.bool s, .slice A na ca], .agg #[.bool s, .slice B nb cb]] w fun e w' => Res w.heap.size w' e (za + zb) ∧ Below w.heap.size w w' := by
  obtain ⟨hs1, hna1, S, _⟩ := P
  obtain ⟨hs2, hnb1, T, _⟩ := Q
  have eN := addL_dgs za.natAbs zb.natAbs
  obtain ⟨N, hN⟩ : ∃ N, za.natAbs + zb.natAbs = N := ⟨_, rfl⟩
  rw [hN] at eN
  have len := (addL_spec (dgs za.natAbs) (dgs zb.natAbs) 0 (dgs_dig _) (dgs_dig _) (by omega) (by omega)).2.2.1
  rw [eN] at len
  obtain ⟨nn, hnn⟩ : ∃ nn, (dgs N).length = nn := ⟨_, rfl⟩
  have AD := Lib.hid (fun W (hb : Below w.heap.size w W) => add_any A B (dgs za.natAbs) (dgs zb.natAbs) na nb ca cb hna1.symm hnb1.symm (by omega) (by omega) (dgs_dig _) (dgs_dig _) W (S.below hb) (T.below hb))
  rw [eN, hnn] at AD
  have sg : (if s then -(N : Int) else N) = za + zb := by
    subst hs1
    by_cases k : za < 0
    · rw [decide_eq_true k, if_pos rfl]
      have : zb < 0 := by rw [decide_eq_true k] at hs2; simpa using hs2.symm
      omega
    · rw [decide_eq_false k, if_neg (by simp)]
      have : ¬ zb < 0 := by rw [decide_eq_false k] at hs2; simpa using hs2.symm
      omega
  have TR := Lib.hid (fun C c W (X : Sl W C c (dgs N)) => trim_dgs s N (za + zb) sg C nn c (dgs N) hnn (by omega) (dgs_dig _) (vl_dgs _) W X)
  have HNN := Lib.hid hnn
  clear eN len S T hnn hN hs1 hs2 hna1 hnb1 sg
  rcases s
  · go_enter Tryz.func94, Tryz.ntmps94
    go_wp2
    go_region_held3 (fun w' => w'.cell? ⟨w.heap.size, 0, none⟩ = some (.bool false) ∧ w'.cell? ⟨w.heap.size, 1, none⟩ = some (.slice A na ca) ∧ w'.cell? ⟨w.heap.size + 1, 0, none⟩ = some (.bool false) ∧ w'.cell? ⟨w.heap.size + 1, 1, none⟩ = some (.slice B nb cb) ∧ w.heap.size < w'.heap.size ∧ w.heap.size + 1 < w'.heap.size ∧ w.heap.size + 1 + 1 < w'.heap.size ∧ Below w.heap.size w w')
      (first | (refine ⟨?_, ?_, ?_, ?_, ?_, ?_, ?_, ?_⟩ <;> first | (simp [go_sem, *]; done) | omega | (simp; omega) | exact (by repeat (first | exact Below.refl _ _ | refine Below.setCell ?_ (by first | (simp; done) | (simp; omega) | omega) _ | refine Below.alloc ?_ (by first | (simp; done) | (simp; omega) | omega) _ | refine Below.drew ?_ | assumption | refine Below.trans ?_ (Below.mono (by assumption) (by first | (simp; done) | (simp; omega) | omega))))))
      (first | (first | (go_at_call 132; refine (AD.out _ (by repeat (first | exact Below.refl _ _ | refine Below.setCell ?_ (by first | (simp; done) | (simp; omega) | omega) _ | refine Below.alloc ?_ (by first | (simp; done) | (simp; omega) | omega) _ | refine Below.drew ?_ | assumption | refine Below.trans ?_ (Below.mono (by assumption) (by first | (simp; done) | (simp; omega) | omega))))).mono ?_; rintro e w5 ⟨⟨C, cc, rfl, hS⟩, hb5⟩; obtain ⟨hc5, hf5⟩ := bcell hb5; (try simp only [drew_size, drew_cell, drew_frozen] at hc5 hf5); have hs5 := hb5.size; (try simp at hs5); have hz5 : w.heap.size < w5.heap.size ∧ w.heap.size + 1 < w5.heap.size ∧ w.heap.size + 1 + 1 < w5.heap.size := (by have := hb5.size; (try simp at this); omega); have HS := Lib.hid hS; clear hS) | (go_at_call 95; refine (TR.out _ _ _ HS.out).mono ?_; rintro e w6 ⟨⟨s2, A2, n2, c2, rfl, hP⟩, hb6⟩; obtain ⟨hc6, hf6⟩ := bcell hb6; (try simp only [drew_size, drew_cell, drew_frozen] at hc6 hf6); have hs6 := hb6.size; (try simp at hs6); have hz6 : w.heap.size < w6.heap.size ∧ w.heap.size + 1 < w6.heap.size ∧ w.heap.size + 1 + 1 < w6.heap.size := (by have := hb6.size; (try simp at this); omega); have HP := Lib.hid hP; clear hP)))
    go_wp2
    exact bodyPost_ret (v := .agg #[.bool s2, .slice A2 n2 c2]) (by simp [results, Tryz.results94, go_sem, *]) rfl ⟨⟨_, _, _, _, rfl, ((HP.out.setCell _ (by first | (simp; done) | (simp; omega) | omega)).setCell _ (by first | (simp; done) | (simp; omega) | omega)).mono (by first | (simp; done) | (simp; omega) | omega)⟩, (by repeat (first | exact Below.refl _ _ | refine Below.setCell ?_ (by first | (simp; done) | (simp; omega) | omega) _ | refine Below.alloc ?_ (by first | (simp; done) | (simp; omega) | omega) _ | refine Below.drew ?_ | assumption | refine Below.trans ?_ (Below.mono (by assumption) (by first | (simp; done) | (simp; omega) | omega))))⟩
  · go_enter Tryz.func94, Tryz.ntmps94
    go_wp2
    go_region_held3 (fun w' => w'.cell? ⟨w.heap.size, 0, none⟩ = some (.bool true) ∧ w'.cell? ⟨w.heap.size, 1, none⟩ = some (.slice A na ca) ∧ w'.cell? ⟨w.heap.size + 1, 0, none⟩ = some (.bool true) ∧ w'.cell? ⟨w.heap.size + 1, 1, none⟩ = some (.slice B nb cb) ∧ w.heap.size < w'.heap.size ∧ w.heap.size + 1 < w'.heap.size ∧ w.heap.size + 1 + 1 < w'.heap.size ∧ Below w.heap.size w w')
      (first | (refine ⟨?_, ?_, ?_, ?_, ?_, ?_, ?_, ?_⟩ <;> first | (simp [go_sem, *]; done) | omega | (simp; omega) | exact (by repeat (first | exact Below.refl _ _ | refine Below.setCell ?_ (by first | (simp; done) | (simp; omega) | omega) _ | refine Below.alloc ?_ (by first | (simp; done) | (simp; omega) | omega) _ | refine Below.drew ?_ | assumption | refine Below.trans ?_ (Below.mono (by assumption) (by first | (simp; done) | (simp; omega) | omega))))))
      (first | (first | (go_at_call 132; refine (AD.out _ (by repeat (first | exact Below.refl _ _ | refine Below.setCell ?_ (by first | (simp; done) | (simp; omega) | omega) _ | refine Below.alloc ?_ (by first | (simp; done) | (simp; omega) | omega) _ | refine Below.drew ?_ | assumption | refine Below.trans ?_ (Below.mono (by assumption) (by first | (simp; done) | (simp; omega) | omega))))).mono ?_; rintro e w5 ⟨⟨C, cc, rfl, hS⟩, hb5⟩; obtain ⟨hc5, hf5⟩ := bcell hb5; (try simp only [drew_size, drew_cell, drew_frozen] at hc5 hf5); have hs5 := hb5.size; (try simp at hs5); have hz5 : w.heap.size < w5.heap.size ∧ w.heap.size + 1 < w5.heap.size ∧ w.heap.size + 1 + 1 < w5.heap.size := (by have := hb5.size; (try simp at this); omega); have HS := Lib.hid hS; clear hS) | (go_at_call 95; refine (TR.out _ _ _ HS.out).mono ?_; rintro e w6 ⟨⟨s2, A2, n2, c2, rfl, hP⟩, hb6⟩; obtain ⟨hc6, hf6⟩ := bcell hb6; (try simp only [drew_size, drew_cell, drew_frozen] at hc6 hf6); have hs6 := hb6.size; (try simp at hs6); have hz6 : w.heap.size < w6.heap.size ∧ w.heap.size + 1 < w6.heap.size ∧ w.heap.size + 1 + 1 < w6.heap.size := (by have := hb6.size; (try simp at this); omega); have HP := Lib.hid hP; clear hP)))
    go_wp2
    exact bodyPost_ret (v := .agg #[.bool s2, .slice A2 n2 c2]) (by simp [results, Tryz.results94, go_sem, *]) rfl ⟨⟨_, _, _, _, rfl, ((HP.out.setCell _ (by first | (simp; done) | (simp; omega) | omega)).setCell _ (by first | (simp; done) | (simp; omega) | omega)).mono (by first | (simp; done) | (simp; omega) | omega)⟩, (by repeat (first | exact Below.refl _ _ | refine Below.setCell ?_ (by first | (simp; done) | (simp; omega) | omega) _ | refine Below.alloc ?_ (by first | (simp; done) | (simp; omega) | omega) _ | refine Below.drew ?_ | assumption | refine Below.trans ?_ (Below.mono (by assumption) (by first | (simp; done) | (simp; omega) | omega))))⟩

set_option maxHeartbeats 4000000 in
set_option maxRecDepth 100000 in
theorem bigAdd_diff (s t : Bool) (hst : t = !s) (A B : Option Addr) (na nb ca cb : Nat) (za zb : Int) (hna : na ≤ 900) (hnb : nb ≤ 900) (w : World) (P : Pt 0 w s A na ca za) (Q : Pt 0 w t B nb cb zb) :
    Calls Tryz.prog 94 #[.agg #[.bool s, .slice A na ca], .agg #[.bool t, .slice B nb cb]] w fun e w' => Res w.heap.size w' e (za + zb) ∧ Below w.heap.size w w' := by
  subst hst
  obtain ⟨hs1, hna1, S, _⟩ := P
  obtain ⟨hs2, hnb1, T, _⟩ := Q
  have CM := Lib.hid (fun W (hb : Below w.heap.size w W) => cmp_any A B za.natAbs zb.natAbs na nb ca cb hna1.symm hnb1.symm (by omega) (by omega) W (S.below hb) (T.below hb))
  have sgn : (s = true ∧ za < 0 ∧ 0 ≤ zb) ∨ (s = false ∧ 0 ≤ za ∧ zb < 0) := by
    cases s
    · right; simp at hs1 hs2; exact ⟨rfl, hs1, hs2⟩
    · left; simp at hs1 hs2; exact ⟨rfl, hs1, hs2⟩
  by_cases h : zb.natAbs ≤ za.natAbs
  · have cv : cmpN za.natAbs zb.natAbs = if zb.natAbs = za.natAbs then 0 else 1 := by
      by_cases k : zb.natAbs = za.natAbs
      · rw [if_pos k, cmpN_eq k.symm]
      · rw [if_neg k, cmpN_gt (by omega)]
    obtain ⟨v, hv⟩ : ∃ v, cmpN za.natAbs zb.natAbs = v := ⟨_, rfl⟩
    have v0 : 0 ≤ v := by rw [← hv, cv]; split <;> omega
    rw [hv] at CM
    obtain ⟨e1, e2, e3⟩ := subL_spec (dgs za.natAbs) (dgs zb.natAbs) 0 (dgs_dig _) (dgs_dig _) (by omega) (by omega) (by rw [vl_dgs, vl_dgs]; omega)
    rw [vl_dgs, vl_dgs] at e1
    have SU := Lib.hid (fun W (hb : Below w.heap.size w W) => sub_any A B (dgs za.natAbs) (dgs zb.natAbs) na nb ca cb hna1.symm hnb1.symm (by omega) (by omega) (dgs_dig _) (dgs_dig _) W (S.below hb) (T.below hb))
    generalize subL (dgs za.natAbs) (dgs zb.natAbs) 0 = L at *
    rw [← hna1] at e3
    rw [e3] at SU
    have TR := Lib.hid (fun C c W (X : Sl W C c L) => trim_dgs s (za.natAbs - zb.natAbs) (za + zb) (by rcases sgn with ⟨rfl, _⟩ | ⟨rfl, _⟩ <;> simp <;> omega) C na c L e3 (by omega) e2 (by omega) W X)
    clear S T hs1 hs2 hna1 hnb1 e1 e2 e3 cv hv h sgn
    rcases s
    · go_enter Tryz.func94, Tryz.ntmps94
      go_wp2_with (first | (go_at_call 96; refine (CM.out _ (by repeat (first | exact Below.refl _ _ | refine Below.setCell ?_ (by first | (simp; done) | (simp; omega) | omega) _ | refine Below.alloc ?_ (by first | (simp; done) | (simp; omega) | omega) _ | refine Below.drew ?_ | assumption | refine Below.trans ?_ (Below.mono (by assumption) (by first | (simp; done) | (simp; omega) | omega))))).mono ?_; rintro e w4 ⟨rfl, hb4⟩; obtain ⟨hc4, hf4⟩ := bcell hb4; have hs4 := hb4.size; (try simp at hs4); have hz4 : w.heap.size < w4.heap.size ∧ w.heap.size + 1 < w4.heap.size ∧ w.heap.size + 1 + 1 < w4.heap.size := by have := hb4.size; (try simp at this); omega))
      go_region_held3 (fun w' => w'.cell? ⟨w.heap.size, 0, none⟩ = some (.bool false) ∧ w'.cell? ⟨w.heap.size, 1, none⟩ = some (.slice A na ca) ∧ w'.cell? ⟨w.heap.size + 1, 0, none⟩ = some (.bool true) ∧ w'.cell? ⟨w.heap.size + 1, 1, none⟩ = some (.slice B nb cb) ∧ w.heap.size < w'.heap.size ∧ w.heap.size + 1 < w'.heap.size ∧ w.heap.size + 1 + 1 < w'.heap.size ∧ Below w.heap.size w w')
      (first | (refine ⟨?_, ?_, ?_, ?_, ?_, ?_, ?_, ?_⟩ <;> first | (simp [go_sem, *]; done) | omega | (simp; omega) | exact (by repeat (first | exact Below.refl _ _ | refine Below.setCell ?_ (by first | (simp; done) | (simp; omega) | omega) _ | refine Below.alloc ?_ (by first | (simp; done) | (simp; omega) | omega) _ | refine Below.drew ?_ | assumption | refine Below.trans ?_ (Below.mono (by assumption) (by first | (simp; done) | (simp; omega) | omega))))))
      (first | (first | (go_at_call 133; refine (SU.out _ (by repeat (first | exact Below.refl _ _ | refine Below.setCell ?_ (by first | (simp; done) | (simp; omega) | omega) _ | refine Below.alloc ?_ (by first | (simp; done) | (simp; omega) | omega) _ | refine Below.drew ?_ | assumption | refine Below.trans ?_ (Below.mono (by assumption) (by first | (simp; done) | (simp; omega) | omega))))).mono ?_; rintro e w5 ⟨⟨C, cc, rfl, hS⟩, hb5⟩; obtain ⟨hc5, hf5⟩ := bcell hb5; (try simp only [drew_size, drew_cell, drew_frozen] at hc5 hf5); have hs5 := hb5.size; (try simp at hs5); have hz5 : w.heap.size < w5.heap.size ∧ w.heap.size + 1 < w5.heap.size ∧ w.heap.size + 1 + 1 < w5.heap.size := (by have := hb5.size; (try simp at this); omega); have HS := Lib.hid hS; clear hS) | (go_at_call 95; refine (TR.out _ _ _ HS.out).mono ?_; rintro e w6 ⟨⟨s2, A2, n2, c2, rfl, hP⟩, hb6⟩; obtain ⟨hc6, hf6⟩ := bcell hb6; (try simp only [drew_size, drew_cell, drew_frozen] at hc6 hf6); have hs6 := hb6.size; (try simp at hs6); have hz6 : w.heap.size < w6.heap.size ∧ w.heap.size + 1 < w6.heap.size ∧ w.heap.size + 1 + 1 < w6.heap.size := (by have := hb6.size; (try simp at this); omega); have HP := Lib.hid hP; clear hP)))
      go_wp2
      exact bodyPost_ret (v := .agg #[.bool s2, .slice A2 n2 c2]) (by simp [results, Tryz.results94, go_sem, *]) rfl ⟨⟨_, _, _, _, rfl, ((HP.out.setCell _ (by first | (simp; done) | (simp; omega) | omega)).setCell _ (by first | (simp; done) | (simp; omega) | omega)).mono (by first | (simp; done) | (simp; omega) | omega)⟩, (by repeat (first | exact Below.refl _ _ | refine Below.setCell ?_ (by first | (simp; done) | (simp; omega) | omega) _ | refine Below.alloc ?_ (by first | (simp; done) | (simp; omega) | omega) _ | refine Below.drew ?_ | assumption | refine Below.trans ?_ (Below.mono (by assumption) (by first | (simp; done) | (simp; omega) | omega))))⟩
    · go_enter Tryz.func94, Tryz.ntmps94
      go_wp2_with (first | (go_at_call 96; refine (CM.out _ (by repeat (first | exact Below.refl _ _ | refine Below.setCell ?_ (by first | (simp; done) | (simp; omega) | omega) _ | refine Below.alloc ?_ (by first | (simp; done) | (simp; omega) | omega) _ | refine Below.drew ?_ | assumption | refine Below.trans ?_ (Below.mono (by assumption) (by first | (simp; done) | (simp; omega) | omega))))).mono ?_; rintro e w4 ⟨rfl, hb4⟩; obtain ⟨hc4, hf4⟩ := bcell hb4; have hs4 := hb4.size; (try simp at hs4); have hz4 : w.heap.size < w4.heap.size ∧ w.heap.size + 1 < w4.heap.size ∧ w.heap.size + 1 + 1 < w4.heap.size := by have := hb4.size; (try simp at this); omega))
      go_region_held3 (fun w' => w'.cell? ⟨w.heap.size, 0, none⟩ = some (.bool true) ∧ w'.cell? ⟨w.heap.size, 1, none⟩ = some (.slice A na ca) ∧ w'.cell? ⟨w.heap.size + 1, 0, none⟩ = some (.bool false) ∧ w'.cell? ⟨w.heap.size + 1, 1, none⟩ = some (.slice B nb cb) ∧ w.heap.size < w'.heap.size ∧ w.heap.size + 1 < w'.heap.size ∧ w.heap.size + 1 + 1 < w'.heap.size ∧ Below w.heap.size w w')
      (first | (refine ⟨?_, ?_, ?_, ?_, ?_, ?_, ?_, ?_⟩ <;> first | (simp [go_sem, *]; done) | omega | (simp; omega) | exact (by repeat (first | exact Below.refl _ _ | refine Below.setCell ?_ (by first | (simp; done) | (simp; omega) | omega) _ | refine Below.alloc ?_ (by first | (simp; done) | (simp; omega) | omega) _ | refine Below.drew ?_ | assumption | refine Below.trans ?_ (Below.mono (by assumption) (by first | (simp; done) | (simp; omega) | omega))))))
      (first | (first | (go_at_call 133; refine (SU.out _ (by repeat (first | exact Below.refl _ _ | refine Below.setCell ?_ (by first | (simp; done) | (simp; omega) | omega) _ | refine Below.alloc ?_ (by first | (simp; done) | (simp; omega) | omega) _ | refine Below.drew ?_ | assumption | refine Below.trans ?_ (Below.mono (by assumption) (by first | (simp; done) | (simp; omega) | omega))))).mono ?_; rintro e w5 ⟨⟨C, cc, rfl, hS⟩, hb5⟩; obtain ⟨hc5, hf5⟩ := bcell hb5; (try simp only [drew_size, drew_cell, drew_frozen] at hc5 hf5); have hs5 := hb5.size; (try simp at hs5); have hz5 : w.heap.size < w5.heap.size ∧ w.heap.size + 1 < w5.heap.size ∧ w.heap.size + 1 + 1 < w5.heap.size := (by have := hb5.size; (try simp at this); omega); have HS := Lib.hid hS; clear hS) | (go_at_call 95; refine (TR.out _ _ _ HS.out).mono ?_; rintro e w6 ⟨⟨s2, A2, n2, c2, rfl, hP⟩, hb6⟩; obtain ⟨hc6, hf6⟩ := bcell hb6; (try simp only [drew_size, drew_cell, drew_frozen] at hc6 hf6); have hs6 := hb6.size; (try simp at hs6); have hz6 : w.heap.size < w6.heap.size ∧ w.heap.size + 1 < w6.heap.size ∧ w.heap.size + 1 + 1 < w6.heap.size := (by have := hb6.size; (try simp at this); omega); have HP := Lib.hid hP; clear hP)))
      go_wp2
      exact bodyPost_ret (v := .agg #[.bool s2, .slice A2 n2 c2]) (by simp [results, Tryz.results94, go_sem, *]) rfl ⟨⟨_, _, _, _, rfl, ((HP.out.setCell _ (by first | (simp; done) | (simp; omega) | omega)).setCell _ (by first | (simp; done) | (simp; omega) | omega)).mono (by first | (simp; done) | (simp; omega) | omega)⟩, (by repeat (first | exact Below.refl _ _ | refine Below.setCell ?_ (by first | (simp; done) | (simp; omega) | omega) _ | refine Below.alloc ?_ (by first | (simp; done) | (simp; omega) | omega) _ | refine Below.drew ?_ | assumption | refine Below.trans ?_ (Below.mono (by assumption) (by first | (simp; done) | (simp; omega) | omega))))⟩
  · have cv : cmpN za.natAbs zb.natAbs = -1 := cmpN_lt (by omega)
    rw [cv] at CM
    obtain ⟨e1, e2, e3⟩ := subL_spec (dgs zb.natAbs) (dgs za.natAbs) 0 (dgs_dig _) (dgs_dig _) (by omega) (by omega) (by rw [vl_dgs, vl_dgs]; omega)
    rw [vl_dgs, vl_dgs] at e1
    have SU := Lib.hid (fun W (hb : Below w.heap.size w W) => sub_any B A (dgs zb.natAbs) (dgs za.natAbs) nb na cb ca hnb1.symm hna1.symm (by omega) (by omega) (dgs_dig _) (dgs_dig _) W (T.below hb) (S.below hb))
    generalize subL (dgs zb.natAbs) (dgs za.natAbs) 0 = L at *
    rw [← hnb1] at e3
    rw [e3] at SU
    have TR := Lib.hid (fun C c W (X : Sl W C c L) => trim_dgs (!s) (zb.natAbs - za.natAbs) (za + zb) (by rcases sgn with ⟨rfl, _⟩ | ⟨rfl, _⟩ <;> simp <;> omega) C nb c L e3 (by omega) e2 (by omega) W X)
    clear S T hs1 hs2 hna1 hnb1 e1 e2 e3 cv h sgn
    rcases s
    · go_enter Tryz.func94, Tryz.ntmps94
      go_wp2_with (first | (go_at_call 96; refine (CM.out _ (by repeat (first | exact Below.refl _ _ | refine Below.setCell ?_ (by first | (simp; done) | (simp; omega) | omega) _ | refine Below.alloc ?_ (by first | (simp; done) | (simp; omega) | omega) _ | refine Below.drew ?_ | assumption | refine Below.trans ?_ (Below.mono (by assumption) (by first | (simp; done) | (simp; omega) | omega))))).mono ?_; rintro e w4 ⟨rfl, hb4⟩; obtain ⟨hc4, hf4⟩ := bcell hb4; have hs4 := hb4.size; (try simp at hs4); have hz4 : w.heap.size < w4.heap.size ∧ w.heap.size + 1 < w4.heap.size ∧ w.heap.size + 1 + 1 < w4.heap.size := by have := hb4.size; (try simp at this); omega))
      go_region_held3 (fun w' => w'.cell? ⟨w.heap.size, 0, none⟩ = some (.bool false) ∧ w'.cell? ⟨w.heap.size, 1, none⟩ = some (.slice A na ca) ∧ w'.cell? ⟨w.heap.size + 1, 0, none⟩ = some (.bool true) ∧ w'.cell? ⟨w.heap.size + 1, 1, none⟩ = some (.slice B nb cb) ∧ w.heap.size < w'.heap.size ∧ w.heap.size + 1 < w'.heap.size ∧ w.heap.size + 1 + 1 < w'.heap.size ∧ Below w.heap.size w w')
      (first | (refine ⟨?_, ?_, ?_, ?_, ?_, ?_, ?_, ?_⟩ <;> first | (simp [go_sem, *]; done) | omega | (simp; omega) | exact (by repeat (first | exact Below.refl _ _ | refine Below.setCell ?_ (by first | (simp; done) | (simp; omega) | omega) _ | refine Below.alloc ?_ (by first | (simp; done) | (simp; omega) | omega) _ | refine Below.drew ?_ | assumption | refine Below.trans ?_ (Below.mono (by assumption) (by first | (simp; done) | (simp; omega) | omega))))))
      (first | (first | (go_at_call 133; refine (SU.out _ (by repeat (first | exact Below.refl _ _ | refine Below.setCell ?_ (by first | (simp; done) | (simp; omega) | omega) _ | refine Below.alloc ?_ (by first | (simp; done) | (simp; omega) | omega) _ | refine Below.drew ?_ | assumption | refine Below.trans ?_ (Below.mono (by assumption) (by first | (simp; done) | (simp; omega) | omega))))).mono ?_; rintro e w5 ⟨⟨C, cc, rfl, hS⟩, hb5⟩; obtain ⟨hc5, hf5⟩ := bcell hb5; (try simp only [drew_size, drew_cell, drew_frozen] at hc5 hf5); have hs5 := hb5.size; (try simp at hs5); have hz5 : w.heap.size < w5.heap.size ∧ w.heap.size + 1 < w5.heap.size ∧ w.heap.size + 1 + 1 < w5.heap.size := (by have := hb5.size; (try simp at this); omega); have HS := Lib.hid hS; clear hS) | (go_at_call 95; refine (TR.out _ _ _ HS.out).mono ?_; rintro e w6 ⟨⟨s2, A2, n2, c2, rfl, hP⟩, hb6⟩; obtain ⟨hc6, hf6⟩ := bcell hb6; (try simp only [drew_size, drew_cell, drew_frozen] at hc6 hf6); have hs6 := hb6.size; (try simp at hs6); have hz6 : w.heap.size < w6.heap.size ∧ w.heap.size + 1 < w6.heap.size ∧ w.heap.size + 1 + 1 < w6.heap.size := (by have := hb6.size; (try simp at this); omega); have HP := Lib.hid hP; clear hP)))
      go_wp2
      exact bodyPost_ret (v := .agg #[.bool s2, .slice A2 n2 c2]) (by simp [results, Tryz.results94, go_sem, *]) rfl ⟨⟨_, _, _, _, rfl, ((HP.out.setCell _ (by first | (simp; done) | (simp; omega) | omega)).setCell _ (by first | (simp; done) | (simp; omega) | omega)).mono (by first | (simp; done) | (simp; omega) | omega)⟩, (by repeat (first | exact Below.refl _ _ | refine Below.setCell ?_ (by first | (simp; done) | (simp; omega) | omega) _ | refine Below.alloc ?_ (by first | (simp; done) | (simp; omega) | omega) _ | refine Below.drew ?_ | assumption | refine Below.trans ?_ (Below.mono (by assumption) (by first | (simp; done) | (simp; omega) | omega))))⟩
    · go_enter Tryz.func94, Tryz.ntmps94
      go_wp2_with (first | (go_at_call 96; refine (CM.out _ (by repeat (first | exact Below.refl _ _ | refine Below.setCell ?_ (by first | (simp; done) | (simp; omega) | omega) _ | refine Below.alloc ?_ (by first | (simp; done) | (simp; omega) | omega) _ | refine Below.drew ?_ | assumption | refine Below.trans ?_ (Below.mono (by assumption) (by first | (simp; done) | (simp; omega) | omega))))).mono ?_; rintro e w4 ⟨rfl, hb4⟩; obtain ⟨hc4, hf4⟩ := bcell hb4; have hs4 := hb4.size; (try simp at hs4); have hz4 : w.heap.size < w4.heap.size ∧ w.heap.size + 1 < w4.heap.size ∧ w.heap.size + 1 + 1 < w4.heap.size := by have := hb4.size; (try simp at this); omega))
      go_region_held3 (fun w' => w'.cell? ⟨w.heap.size, 0, none⟩ = some (.bool true) ∧ w'.cell? ⟨w.heap.size, 1, none⟩ = some (.slice A na ca) ∧ w'.cell? ⟨w.heap.size + 1, 0, none⟩ = some (.bool false) ∧ w'.cell? ⟨w.heap.size + 1, 1, none⟩ = some (.slice B nb cb) ∧ w.heap.size < w'.heap.size ∧ w.heap.size + 1 < w'.heap.size ∧ w.heap.size + 1 + 1 < w'.heap.size ∧ Below w.heap.size w w')
      (first | (refine ⟨?_, ?_, ?_, ?_, ?_, ?_, ?_, ?_⟩ <;> first | (simp [go_sem, *]; done) | omega | (simp; omega) | exact (by repeat (first | exact Below.refl _ _ | refine Below.setCell ?_ (by first | (simp; done) | (simp; omega) | omega) _ | refine Below.alloc ?_ (by first | (simp; done) | (simp; omega) | omega) _ | refine Below.drew ?_ | assumption | refine Below.trans ?_ (Below.mono (by assumption) (by first | (simp; done) | (simp; omega) | omega))))))
      (first | (first | (go_at_call 133; refine (SU.out _ (by repeat (first | exact Below.refl _ _ | refine Below.setCell ?_ (by first | (simp; done) | (simp; omega) | omega) _ | refine Below.alloc ?_ (by first | (simp; done) | (simp; omega) | omega) _ | refine Below.drew ?_ | assumption | refine Below.trans ?_ (Below.mono (by assumption) (by first | (simp; done) | (simp; omega) | omega))))).mono ?_; rintro e w5 ⟨⟨C, cc, rfl, hS⟩, hb5⟩; obtain ⟨hc5, hf5⟩ := bcell hb5; (try simp only [drew_size, drew_cell, drew_frozen] at hc5 hf5); have hs5 := hb5.size; (try simp at hs5); have hz5 : w.heap.size < w5.heap.size ∧ w.heap.size + 1 < w5.heap.size ∧ w.heap.size + 1 + 1 < w5.heap.size := (by have := hb5.size; (try simp at this); omega); have HS := Lib.hid hS; clear hS) | (go_at_call 95; refine (TR.out _ _ _ HS.out).mono ?_; rintro e w6 ⟨⟨s2, A2, n2, c2, rfl, hP⟩, hb6⟩; obtain ⟨hc6, hf6⟩ := bcell hb6; (try simp only [drew_size, drew_cell, drew_frozen] at hc6 hf6); have hs6 := hb6.size; (try simp at hs6); have hz6 : w.heap.size < w6.heap.size ∧ w.heap.size + 1 < w6.heap.size ∧ w.heap.size + 1 + 1 < w6.heap.size := (by have := hb6.size; (try simp at this); omega); have HP := Lib.hid hP; clear hP)))
      go_wp2
      exact bodyPost_ret (v := .agg #[.bool s2, .slice A2 n2 c2]) (by simp [results, Tryz.results94, go_sem, *]) rfl ⟨⟨_, _, _, _, rfl, ((HP.out.setCell _ (by first | (simp; done) | (simp; omega) | omega)).setCell _ (by first | (simp; done) | (simp; omega) | omega)).mono (by first | (simp; done) | (simp; omega) | omega)⟩, (by repeat (first | exact Below.refl _ _ | refine Below.setCell ?_ (by first | (simp; done) | (simp; omega) | omega) _ | refine Below.alloc ?_ (by first | (simp; done) | (simp; omega) | omega) _ | refine Below.drew ?_ | assumption | refine Below.trans ?_ (Below.mono (by assumption) (by first | (simp; done) | (simp; omega) | omega))))⟩

/-- exref.BigAdd. -/
theorem bigAdd_any (s t : Bool) (A B : Option Addr) (na nb ca cb : Nat) (za zb : Int) (hna : na ≤ 900) (hnb : nb ≤ 900) (w : World) (P : Pt 0 w s A na ca za) (Q : Pt 0 w t B nb cb zb) :
    Calls Tryz.prog 94 #[.agg #[.bool s, .slice A na ca], .agg #[.bool t, .slice B nb cb]] w fun e w' => Res w.heap.size w' e (za + zb) ∧ Below w.heap.size w w' := by
  by_cases h : t = s
  · subst h; exact bigAdd_same t A B na nb ca cb za zb hna hnb w P Q
  · exact bigAdd_diff s t (by cases s <;> cases t <;> simp_all) A B na nb ca cb za zb hna hnb w P Q
end Go.Proofs.YtdpoahfjiomhbaaGreatDoor
