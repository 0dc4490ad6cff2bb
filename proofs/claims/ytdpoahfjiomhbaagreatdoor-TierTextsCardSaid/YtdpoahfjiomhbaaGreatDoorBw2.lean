/-
  Contract of exref.cmp.
-/
import Derived.Test.YtdpoahfjiomhbaaGreatDoorBw1
import Derived.Deep.QuietTactic
import Derived.BigQuiet
namespace Go.Proofs.YtdpoahfjiomhbaaGreatDoor
set_option linter.all false
open Go.RowKit Go.Sort
attribute [local go_sem] cell_set_self lt_1 lt_2 lt_3 lt_4 lt_5 lt_6

theorem below_drewN {B : Nat} {a w : World} (h : Below B a w) (n : Nat) : Below B a (w.drewN n) := h.trans ⟨rfl, rfl, rfl, Nat.le_refl _, fun _ _ => rfl⟩
theorem cmp_less {m n j : Nat} {x y : Int} (hx : (dgs m)[j]? = some x) (hy : (dgs n)[j]? = some y) (hd : (dgs m).drop (j + 1) = (dgs n).drop (j + 1)) (h : x < y) : m < n := by
  have := cmp_lt (dgs_dig m) (dgs_dig n) hx hy hd h
  rw [vl_dgs, vl_dgs] at this; omega
theorem cmp_same {m n : Nat} (hd : (dgs m).drop 0 = (dgs n).drop 0) : m = n := by
  have a := vl_dgs m; have b := vl_dgs n
  simp at hd; rw [hd, b] at a; omega
theorem cmpN_lt {m n : Nat} (h : m < n) : cmpN m n = -1 := if_pos h
theorem cmpN_gt {m n : Nat} (h : n < m) : cmpN m n = 1 := by unfold cmpN; rw [if_neg (by omega), if_pos h]
theorem cmpN_eq {m n : Nat} (h : m = n) : cmpN m n = 0 := by unfold cmpN; rw [if_neg (by omega), if_neg (by omega)]
theorem drop_at {a b : List Int} {j : Nat} {x : Int} (ha : a[j]? = some x) (hb : b[j]? = some x) (h : a.drop (j + 1) = b.drop (j + 1)) : a.drop j = b.drop j := by
  obtain ⟨h1, e1⟩ := List.getElem?_eq_some_iff.1 ha
  obtain ⟨h2, e2⟩ := List.getElem?_eq_some_iff.1 hb
  rw [List.drop_eq_getElem_cons h1, List.drop_eq_getElem_cons h2, e1, e2, h]

set_option maxHeartbeats 2000000 in
set_option maxRecDepth 100000 in
theorem cmp_any (A B : Option Addr) (m n p q ca cb : Nat) (hp : (dgs m).length = p) (hq : (dgs n).length = q) (hpn : p ≤ 1000) (hqn : q ≤ 1000) (w : World) (S : Sl w A ca (dgs m)) (T : Sl w B cb (dgs n)) :
    Calls Tryz.prog 96 #[.slice A p ca, .slice B q cb] w fun e w' => e = .returned (.int .i64 (cmpN m n)) ∧ Below w.heap.size w w' := by
  rcases Nat.lt_trichotomy p q with h | h | h
  · rw [cmpN_lt (len_lt (by rw [hp, hq]; exact h))]
    clear S T hp hq
    go_enter Tryz.func96, Tryz.ntmps96
    go_wp2
    go_ret
    exact ⟨rfl, (by repeat (first | exact Below.refl _ _ | refine Below.setCell ?_ (by first | (simp; done) | (simp; omega) | omega) _ | refine Below.alloc ?_ (by first | (simp; done) | (simp; omega) | omega) _ | refine below_drewN ?_ _ | refine Below.drew ?_ | assumption | refine Below.trans ?_ (Below.mono (by assumption) (by first | (simp; done) | (simp; omega) | omega))))⟩
  · subst h
    have HP := Lib.hid hp; have HQ := Lib.hid hq
    have S := S.2.2; have T := T.2.2
    clear hp hq
    go_enter Tryz.func96, Tryz.ntmps96
    go_wp2
    go_loopw [5] (fun i wr => ∃ (k : Nat) (z : Int), k ≤ p ∧ z = k - 1 ∧ i = .int .i64 z ∧ Hid ((dgs m).drop k = (dgs n).drop k) ∧ Below w.heap.size w wr) (fun i _ => (intOf i + 1).toNat)
    case atStart => exact ⟨p, (p : Int) - 1, Nat.le_refl _, rfl, rfl, Lib.hid (by rw [List.drop_eq_nil_of_le (by rw [HP.out]; exact Nat.le_refl _), List.drop_eq_nil_of_le (by rw [HQ.out]; exact Nat.le_refl _)]), (by repeat (first | exact Below.refl _ _ | refine Below.setCell ?_ (by first | (simp; done) | (simp; omega) | omega) _ | refine Below.alloc ?_ (by first | (simp; done) | (simp; omega) | omega) _ | refine below_drewN ?_ _ | refine Below.drew ?_ | assumption | refine Below.trans ?_ (Below.mono (by assumption) (by first | (simp; done) | (simp; omega) | omega))))⟩
    case round =>
      obtain ⟨k, z, hk, hz, rfl, hd, hB⟩ := hrel
      rcases Nat.eq_zero_or_pos k with h0 | h0
      · subst h0
        have hz' : z = -1 := by omega
        subst hz'
        have E := Lib.hid (cmpN_eq (cmp_same hd.out))
        clear hz S T HP HQ hd
        go_wp2
        go_ret
        exact ⟨ret_int E.out.symm, (by repeat (first | exact Below.refl _ _ | refine Below.setCell ?_ (by first | (simp; done) | (simp; omega) | omega) _ | refine Below.alloc ?_ (by first | (simp; done) | (simp; omega) | omega) _ | refine below_drewN ?_ _ | refine Below.drew ?_ | assumption | refine Below.trans ?_ (Below.mono (by assumption) (by first | (simp; done) | (simp; omega) | omega))))⟩
      · obtain ⟨j, rfl⟩ : ∃ j, k = j + 1 := ⟨k - 1, by omega⟩
        have hz' : z = (j : Int) := by omega
        subst hz'
        clear hz
        obtain ⟨x, hx⟩ : ∃ x, (dgs m)[j]? = some x := ⟨_, List.getElem?_eq_getElem (by rw [HP.out]; omega)⟩
        obtain ⟨y, hy⟩ : ∃ y, (dgs n)[j]? = some y := ⟨_, List.getElem?_eq_getElem (by rw [HQ.out]; omega)⟩
        obtain ⟨b, off, rfl, hb, hc⟩ := S j x hx
        obtain ⟨b', off', rfl, hb', hc'⟩ := T j y hy
        have q0 := (hB.cell (p := ⟨b, off + j, none⟩) hb).trans hc
        have q1 := (hB.cell (p := ⟨b', off' + j, none⟩) hb').trans hc'
        have HX := Lib.hid hx; have HY := Lib.hid hy
        clear hx hy S T hc hc' HP HQ
        have j0 : (j : Int) < (p : Int) := by omega
        rcases Int.lt_trichotomy x y with h | h | h
        · have E := Lib.hid (cmpN_lt (cmp_less HX.out HY.out hd.out h))
          go_wp2
          go_quiet (fail)
          go_wp2
          go_ret
          exact ⟨ret_int E.out.symm, (by repeat (first | exact Below.refl _ _ | refine Below.setCell ?_ (by first | (simp; done) | (simp; omega) | omega) _ | refine Below.alloc ?_ (by first | (simp; done) | (simp; omega) | omega) _ | refine below_drewN ?_ _ | refine Below.drew ?_ | assumption | refine Below.trans ?_ (Below.mono (by assumption) (by first | (simp; done) | (simp; omega) | omega))))⟩
        · subst h
          have hd2 := Lib.hid (drop_at HX.out HY.out hd.out)
          go_wp2
          go_quiet (fail)
          go_wp2
          go_quiet (fail)
          go_wp2
          go_roundw
          case rel => exact ⟨j, (j : Int) - 1, by omega, rfl, rfl, hd2, (by repeat (first | exact Below.refl _ _ | refine Below.setCell ?_ (by first | (simp; done) | (simp; omega) | omega) _ | refine Below.alloc ?_ (by first | (simp; done) | (simp; omega) | omega) _ | refine below_drewN ?_ _ | refine Below.drew ?_ | assumption | refine Below.trans ?_ (Below.mono (by assumption) (by first | (simp; done) | (simp; omega) | omega))))⟩
          case measure => first | (simp [intOf]; done) | (simp [intOf]; omega)
        · have E := Lib.hid (cmpN_gt (cmp_less HY.out HX.out hd.out.symm h))
          go_wp2
          go_quiet (fail)
          go_wp2
          go_quiet (fail)
          go_wp2
          go_ret
          exact ⟨ret_int E.out.symm, (by repeat (first | exact Below.refl _ _ | refine Below.setCell ?_ (by first | (simp; done) | (simp; omega) | omega) _ | refine Below.alloc ?_ (by first | (simp; done) | (simp; omega) | omega) _ | refine below_drewN ?_ _ | refine Below.drew ?_ | assumption | refine Below.trans ?_ (Below.mono (by assumption) (by first | (simp; done) | (simp; omega) | omega))))⟩
  · rw [cmpN_gt (len_lt (by rw [hp, hq]; exact h))]
    clear S T hp hq
    go_enter Tryz.func96, Tryz.ntmps96
    go_wp2
    go_ret
    exact ⟨rfl, (by repeat (first | exact Below.refl _ _ | refine Below.setCell ?_ (by first | (simp; done) | (simp; omega) | omega) _ | refine Below.alloc ?_ (by first | (simp; done) | (simp; omega) | omega) _ | refine below_drewN ?_ _ | refine Below.drew ?_ | assumption | refine Below.trans ?_ (Below.mono (by assumption) (by first | (simp; done) | (simp; omega) | omega))))⟩
end Go.Proofs.YtdpoahfjiomhbaaGreatDoor
