/-
  Contracts of exref.BigNeg, BigCmp, BigSub.
-/
import Derived.Test.YtdpoahfjiomhbaaGreatDoorBw6
namespace Go.Proofs.YtdpoahfjiomhbaaGreatDoor
set_option linter.all false
open Go.RowKit Go.Sort
attribute [local go_sem] cell_set_self lt_1 lt_2 lt_3 lt_4 lt_5 lt_6

set_option maxHeartbeats 4000000 in
set_option maxRecDepth 100000 in
theorem bigNeg_any (s : Bool) (A : Option Addr) (n c : Nat) (z : Int) (hn : n ≤ 900) (w : World) (P : Pt 0 w s A n c z) :
    Calls Tryz.prog 39 #[.agg #[.bool s, .slice A n c]] w fun e w' => Res w.heap.size w' e (-z) ∧ Below w.heap.size w w' := by
  obtain ⟨hs, hl, S, _⟩ := P
  have TR := Lib.hid (fun W (hb : Below w.heap.size w W) => trim_dgs (!s) z.natAbs (-z) (by
    subst hs; by_cases k : z < 0
    · rw [decide_eq_true k]; simp; omega
    · rw [decide_eq_false k]; simp; omega) A n c (dgs z.natAbs) hl.symm (by omega) (dgs_dig _) (vl_dgs _) W (S.below hb))
  clear hs hl S
  rcases s
  all_goals
    go_enter Tryz.func39, Tryz.ntmps39
    go_wp2_with (first | (go_at_call 95; refine (TR.out _ (by repeat (first | exact Below.refl _ _ | refine Below.setCell ?_ (by first | (simp; done) | (simp; omega) | omega) _ | refine Below.alloc ?_ (by first | (simp; done) | (simp; omega) | omega) _ | refine Below.drew ?_ | assumption | refine Below.trans ?_ (Below.mono (by assumption) (by first | (simp; done) | (simp; omega) | omega))))).mono ?_; rintro e w6 ⟨⟨s2, A2, n2, c2, rfl, hP⟩, hb6⟩; obtain ⟨hc6, hf6⟩ := bcell hb6; have hs6 := hb6.size; (try simp at hs6); have hz6 : w.heap.size < w6.heap.size ∧ w.heap.size + 1 < w6.heap.size := (by have := hb6.size; (try simp at this); omega); have HP := Lib.hid hP; clear hP))
    exact bodyPost_ret (v := .agg #[.bool s2, .slice A2 n2 c2]) (by simp [results, Tryz.results39, go_sem, *]) rfl ⟨⟨_, _, _, _, rfl, ((HP.out.setCell _ (by first | (simp; done) | (simp; omega) | omega)).setCell _ (by first | (simp; done) | (simp; omega) | omega)).mono (by first | (simp; done) | (simp; omega) | omega)⟩, (by repeat (first | exact Below.refl _ _ | refine Below.setCell ?_ (by first | (simp; done) | (simp; omega) | omega) _ | refine Below.alloc ?_ (by first | (simp; done) | (simp; omega) | omega) _ | refine Below.drew ?_ | assumption | refine Below.trans ?_ (Below.mono (by assumption) (by first | (simp; done) | (simp; omega) | omega))))⟩

/-- The order of two whole numbers. -/
def cmpI (a b : Int) : Int := if a < b then -1 else if b < a then 1 else 0

set_option maxHeartbeats 4000000 in
set_option maxRecDepth 100000 in
theorem bigCmp_any (s t : Bool) (A B : Option Addr) (na nb ca cb : Nat) (za zb : Int) (hna : na ≤ 900) (hnb : nb ≤ 900) (w : World) (P : Pt 0 w s A na ca za) (Q : Pt 0 w t B nb cb zb) :
    Calls Tryz.prog 40 #[.agg #[.bool s, .slice A na ca], .agg #[.bool t, .slice B nb cb]] w fun e w' => e = .returned (.int .i64 (cmpI za zb)) ∧ Below w.heap.size w w' := by
  obtain ⟨hs1, hna1, S, _⟩ := P
  obtain ⟨hs2, hnb1, T, _⟩ := Q
  have CM := Lib.hid (fun W (hb : Below w.heap.size w W) => cmp_any A B za.natAbs zb.natAbs na nb ca cb hna1.symm hnb1.symm (by omega) (by omega) W (S.below hb) (T.below hb))
  obtain ⟨v, hv⟩ : ∃ v, cmpN za.natAbs zb.natAbs = v := ⟨_, rfl⟩
  have vb : -1 ≤ v ∧ v ≤ 1 := by
    rw [← hv]; unfold cmpN
    repeat' split
    all_goals omega
  rw [hv] at CM
  have R : Hid ((s = true → t = false → cmpI za zb = -1) ∧ (s = false → t = true → cmpI za zb = 1) ∧ (s = false → t = false → cmpI za zb = v) ∧ (s = true → t = true → cmpI za zb = -v)) := Lib.hid (by
    subst hs1; subst hs2; subst hv
    unfold cmpI cmpN
    simp only [decide_eq_true_eq, decide_eq_false_iff_not]
    refine ⟨fun h k => ?_, fun h k => ?_, fun h k => ?_, fun h k => ?_⟩
    · rw [if_pos (by omega)]
    · rw [if_neg (by omega), if_pos (by omega)]
    · repeat' split
      all_goals omega
    · repeat' split
      all_goals omega)
  clear hs1 hs2 hna1 hnb1 S T hv
  obtain ⟨v0, v1⟩ := vb
  rcases s <;> rcases t
  · go_enter Tryz.func40, Tryz.ntmps40
    go_wp2_with (first | (go_at_call 96; refine (CM.out _ (by repeat (first | exact Below.refl _ _ | refine Below.setCell ?_ (by first | (simp; done) | (simp; omega) | omega) _ | refine Below.alloc ?_ (by first | (simp; done) | (simp; omega) | omega) _ | refine Below.drew ?_ | assumption | refine Below.trans ?_ (Below.mono (by assumption) (by first | (simp; done) | (simp; omega) | omega))))).mono ?_; rintro e w6 ⟨rfl, hb6⟩; obtain ⟨hc6, hf6⟩ := bcell hb6; have hs6 := hb6.size; (try simp at hs6); have hz6 : w.heap.size < w6.heap.size ∧ w.heap.size + 1 < w6.heap.size := by have := hb6.size; (try simp at this); omega))
    go_ret
    exact ⟨ret_int (R.out.2.2.1 (by simp) (by simp)).symm, (by repeat (first | exact Below.refl _ _ | refine Below.setCell ?_ (by first | (simp; done) | (simp; omega) | omega) _ | refine Below.alloc ?_ (by first | (simp; done) | (simp; omega) | omega) _ | refine Below.drew ?_ | assumption | refine Below.trans ?_ (Below.mono (by assumption) (by first | (simp; done) | (simp; omega) | omega))))⟩
  · go_enter Tryz.func40, Tryz.ntmps40
    go_wp2
    go_ret
    exact ⟨ret_int (R.out.2.1 (by simp) (by simp)).symm, (by repeat (first | exact Below.refl _ _ | refine Below.setCell ?_ (by first | (simp; done) | (simp; omega) | omega) _ | refine Below.alloc ?_ (by first | (simp; done) | (simp; omega) | omega) _ | refine Below.drew ?_ | assumption | refine Below.trans ?_ (Below.mono (by assumption) (by first | (simp; done) | (simp; omega) | omega))))⟩
  · go_enter Tryz.func40, Tryz.ntmps40
    go_wp2
    go_ret
    exact ⟨ret_int (R.out.1 (by simp) (by simp)).symm, (by repeat (first | exact Below.refl _ _ | refine Below.setCell ?_ (by first | (simp; done) | (simp; omega) | omega) _ | refine Below.alloc ?_ (by first | (simp; done) | (simp; omega) | omega) _ | refine Below.drew ?_ | assumption | refine Below.trans ?_ (Below.mono (by assumption) (by first | (simp; done) | (simp; omega) | omega))))⟩
  · go_enter Tryz.func40, Tryz.ntmps40
    go_wp2_with (first | (go_at_call 96; refine (CM.out _ (by repeat (first | exact Below.refl _ _ | refine Below.setCell ?_ (by first | (simp; done) | (simp; omega) | omega) _ | refine Below.alloc ?_ (by first | (simp; done) | (simp; omega) | omega) _ | refine Below.drew ?_ | assumption | refine Below.trans ?_ (Below.mono (by assumption) (by first | (simp; done) | (simp; omega) | omega))))).mono ?_; rintro e w6 ⟨rfl, hb6⟩; obtain ⟨hc6, hf6⟩ := bcell hb6; have hs6 := hb6.size; (try simp at hs6); have hz6 : w.heap.size < w6.heap.size ∧ w.heap.size + 1 < w6.heap.size := by have := hb6.size; (try simp at this); omega))
    go_ret
    exact ⟨ret_int (R.out.2.2.2 (by simp) (by simp)).symm, (by repeat (first | exact Below.refl _ _ | refine Below.setCell ?_ (by first | (simp; done) | (simp; omega) | omega) _ | refine Below.alloc ?_ (by first | (simp; done) | (simp; omega) | omega) _ | refine Below.drew ?_ | assumption | refine Below.trans ?_ (Below.mono (by assumption) (by first | (simp; done) | (simp; omega) | omega))))⟩

set_option maxHeartbeats 4000000 in
set_option maxRecDepth 100000 in
theorem bigSub_any (s t : Bool) (A B : Option Addr) (na nb ca cb : Nat) (za zb : Int) (hna : na ≤ 900) (hnb : nb ≤ 900) (w : World) (P : Pt 0 w s A na ca za) (Q : Pt 0 w t B nb cb zb) :
    Calls Tryz.prog 36 #[.agg #[.bool s, .slice A na ca], .agg #[.bool t, .slice B nb cb]] w fun e w' => Res w.heap.size w' e (za - zb) ∧ Below w.heap.size w w' := by
  have NG := Lib.hid (fun W (hb : Below w.heap.size w W) => bigNeg_any t B nb cb zb hnb W (Q.below hb))
  have AD := Lib.hid (fun s' A' n' c' W b (hb : Below w.heap.size w W) (R : Pt b W s' A' n' c' (-zb)) => by
    have := bigAdd_any s s' A A' na n' ca c' za (-zb) hna (by rw [R.2.1, Int.natAbs_neg, ← Q.2.1]; exact hnb) W (P.below hb) (R.mono (Nat.zero_le _))
    rw [← Int.sub_eq_add_neg] at this; exact this)
  clear P Q
  go_enter Tryz.func36, Tryz.ntmps36
  go_wp2
  go_region_held3 (fun w' => w'.cell? ⟨w.heap.size, 0, none⟩ = some (.bool s) ∧ w'.cell? ⟨w.heap.size, 1, none⟩ = some (.slice A na ca) ∧ w'.cell? ⟨w.heap.size + 1, 0, none⟩ = some (.bool t) ∧ w'.cell? ⟨w.heap.size + 1, 1, none⟩ = some (.slice B nb cb) ∧ w.heap.size < w'.heap.size ∧ w.heap.size + 1 < w'.heap.size ∧ w.heap.size + 1 + 1 < w'.heap.size ∧ Below w.heap.size w w')
      (first | (refine ⟨?_, ?_, ?_, ?_, ?_, ?_, ?_, ?_⟩ <;> first | (simp [go_sem, *]; done) | omega | (simp; omega) | exact (by repeat (first | exact Below.refl _ _ | refine Below.setCell ?_ (by first | (simp; done) | (simp; omega) | omega) _ | refine Below.alloc ?_ (by first | (simp; done) | (simp; omega) | omega) _ | refine Below.drew ?_ | assumption | refine Below.trans ?_ (Below.mono (by assumption) (by first | (simp; done) | (simp; omega) | omega))))))
      (first | (first | (go_at_call 39; refine (NG.out _ (by repeat (first | exact Below.refl _ _ | refine Below.setCell ?_ (by first | (simp; done) | (simp; omega) | omega) _ | refine Below.alloc ?_ (by first | (simp; done) | (simp; omega) | omega) _ | refine Below.drew ?_ | assumption | refine Below.trans ?_ (Below.mono (by assumption) (by first | (simp; done) | (simp; omega) | omega))))).mono ?_; rintro e w5 ⟨⟨s5, A5, n5, c5, rfl, hP5⟩, hb5⟩; obtain ⟨hc5, hf5⟩ := bcell hb5; (try simp only [drew_size, drew_cell, drew_frozen] at hc5 hf5); have hs5 := hb5.size; (try simp at hs5); have hz5 : w.heap.size < w5.heap.size ∧ w.heap.size + 1 < w5.heap.size ∧ w.heap.size + 1 + 1 < w5.heap.size := (by have := hb5.size; (try simp at this); omega); have HP5 := Lib.hid hP5; clear hP5) | (go_at_call 94; refine (AD.out _ _ _ _ _ _ (by repeat (first | exact Below.refl _ _ | refine Below.setCell ?_ (by first | (simp; done) | (simp; omega) | omega) _ | refine Below.alloc ?_ (by first | (simp; done) | (simp; omega) | omega) _ | refine Below.drew ?_ | assumption | refine Below.trans ?_ (Below.mono (by assumption) (by first | (simp; done) | (simp; omega) | omega)))) HP5.out).mono ?_; rintro e w6 ⟨⟨s2, A2, n2, c2, rfl, hP⟩, hb6⟩; obtain ⟨hc6, hf6⟩ := bcell hb6; (try simp only [drew_size, drew_cell, drew_frozen] at hc6 hf6); have hs6 := hb6.size; (try simp at hs6); have hz6 : w.heap.size < w6.heap.size ∧ w.heap.size + 1 < w6.heap.size ∧ w.heap.size + 1 + 1 < w6.heap.size := (by have := hb6.size; (try simp at this); omega); have HP := Lib.hid hP; clear hP)))
  go_wp2
  exact bodyPost_ret (v := .agg #[.bool s2, .slice A2 n2 c2]) (by simp [results, Tryz.results36, go_sem, *]) rfl ⟨⟨_, _, _, _, rfl, ((HP.out.setCell _ (by first | (simp; done) | (simp; omega) | omega)).setCell _ (by first | (simp; done) | (simp; omega) | omega)).mono (by first | (simp; done) | (simp; omega) | omega)⟩, (by repeat (first | exact Below.refl _ _ | refine Below.setCell ?_ (by first | (simp; done) | (simp; omega) | omega) _ | refine Below.alloc ?_ (by first | (simp; done) | (simp; omega) | omega) _ | refine Below.drew ?_ | assumption | refine Below.trans ?_ (Below.mono (by assumption) (by first | (simp; done) | (simp; omega) | omega))))⟩
end Go.Proofs.YtdpoahfjiomhbaaGreatDoor
