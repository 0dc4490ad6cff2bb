/-
  Contracts of exref8.Encode (any length) and exref8.Compare.
-/
import Derived.Test.YtjccadfaiahkkaaDoorKw
import Derived.Test.YtjccadfaiahkkaaDoorKl
import Derived.WalkLawsBesides
namespace Go.Proofs.YtjccadfaiahkkaaDoor
set_option linter.all false
open Go.RowKit
attribute [local go_sem] cell_set_self lt_1 lt_2 lt_3 lt_4 lt_5 lt_6

theorem e8_any (A : Option Addr) (n c : Nat) (l : List Part) (hl : l.length = n) (hn : n ≤ 9223372036854775807) (hok : n ≤ 8 → ∀ p ∈ l, p.s.length ≤ 2000 ∧ In64 p.n) (w : World) (T : Parts w A l) :
    Calls Tryd.prog 14 #[.slice A n c] w fun e w' => e = .returned (.tuple #[.string ⟨(bytesE l).toArray⟩, .int .i64 (errE l)]) ∧ Below w.heap.size w w' := by
  by_cases h : n ≤ 8
  · exact e8_few A n c l hl h (hok h) w T
  · exact e8_many A n c l hl (by omega) hn w
def C8Rel (w wr : World) (l m : List Part) (k : Nat) : Prop := k ≤ l.length ∧ k ≤ m.length ∧ cmpL (l.drop k) (m.drop k) = cmpL l m ∧ Below w.heap.size w wr

set_option maxHeartbeats 2000000 in
set_option maxRecDepth 100000 in
theorem c8_any (A B : Option Addr) (n c m d : Nat) (l l' : List Part) (hl : l.length = n) (hm : l'.length = m) (hn : n ≤ 1000000) (hmn : m ≤ 1000000) (w : World) (T : Parts w A l) (U : Parts w B l') :
    Calls Tryd.prog 18 #[.slice A n c, .slice B m d] w fun e w' => e = .returned (.int .i64 (cmpL l l')) ∧ Below w.heap.size w w' := by
  have HL := Lib.hid hl
  have HM := Lib.hid hm
  clear hl hm
  have HT := Lib.hid (fun W (hb : Below w.heap.size w W) => T.below hb)
  have HU := Lib.hid (fun W (hb : Below w.heap.size w W) => U.below hb)
  clear T U
  go_enter Tryd.func18, Tryd.ntmps18
  go_wp2
  go_loopw [5] (fun i wr => ∃ k : Nat, i = .int .i64 k ∧ C8Rel w wr l l' k) (fun i _ => n - (intOf i).toNat)
  case atStart => exact ⟨0, rfl, Nat.zero_le _, Nat.zero_le _, rfl, (by repeat (first | exact Below.refl _ _ | refine Below.setCell ?_ (by first | (simp; done) | (simp; omega) | omega) _ | refine Below.alloc ?_ (by first | (simp; done) | (simp; omega) | omega) _ | refine Below.drew ?_ | assumption | refine Below.trans ?_ (Below.mono (by assumption) (by first | (simp; done) | (simp; omega) | omega))))⟩
  case round =>
    obtain ⟨k, rfl, hk1, hk2, hcm, hbl⟩ := hrel
    have hsl := hbl.size
    have HC := Lib.hid hcm
    clear hcm
    obtain ⟨wo, rfl⟩ : ∃ wo : World, wo = wr := ⟨_, rfl⟩
    by_cases hlt : k < n ∧ k < m
    · obtain ⟨hkn0, hkm0⟩ := hlt
      have hkn : (k : Int) < n := by omega
      have hkm : (k : Int) < m := by omega
      obtain ⟨p, hp⟩ : ∃ p, l[k]? = some p := ⟨l[k]'(by rw [HL.out]; omega), by simp⟩
      obtain ⟨q, hq⟩ : ∃ q, l'[k]? = some q := ⟨l'[k]'(by rw [HM.out]; omega), by simp⟩
      have HD := Lib.hid (cmpL_drop hp hq)
      obtain ⟨b, off, rfl, hbw, c0, c1, c2⟩ := HT.out wo hbl k p hp
      obtain ⟨b', off', rfl, hbw', e0, e1, e2⟩ := HU.out wo hbl k q hq
      clear hp hq
      by_cases hkk : p.k = q.k
      · rw [← hkk] at e0
        have h3 : p.k = 1 ∨ p.k = 2 ∨ (p.k ≠ 1 ∧ p.k ≠ 2) := by omega
        rcases h3 with k1 | k1 | ⟨k1, k2⟩
        · rw [k1] at c0 e0
          have hcp : cmpP p q = Lib.compareInt p.n q.n := by unfold cmpP; rw [← hkk, k1]; simp [ci_eq]
          rcases ci_three p.n q.n with ⟨a, e⟩ | ⟨a, e⟩ | ⟨a, e⟩
          · have HV := Lib.hid (hcp.trans e)
            have hne : (p.n != q.n) = true := by simp; omega
            clear hcp e hkk k1
            go_wp2
            go_ret
            exact ⟨ret_int (by rw [← HC.out, HD.out, HV.out]; rfl), (by repeat (first | exact Below.refl _ _ | refine Below.setCell ?_ (by first | (simp; done) | (simp; omega) | omega) _ | refine Below.alloc ?_ (by first | (simp; done) | (simp; omega) | omega) _ | refine Below.drew ?_ | assumption | refine Below.trans ?_ (Below.mono (by assumption) (by first | (simp; done) | (simp; omega) | omega))))⟩
          · have HV := Lib.hid (hcp.trans e)
            rw [← a] at e1
            clear hcp e hkk k1
            go_wp2
            go_roundw
            case rel => exact ⟨k + 1, by go_num, by have := HL.out; omega, by have := HM.out; omega, by rw [← HC.out, HD.out, HV.out]; rfl, (by repeat (first | exact Below.refl _ _ | refine Below.setCell ?_ (by first | (simp; done) | (simp; omega) | omega) _ | refine Below.alloc ?_ (by first | (simp; done) | (simp; omega) | omega) _ | refine Below.drew ?_ | assumption | refine Below.trans ?_ (Below.mono (by assumption) (by first | (simp; done) | (simp; omega) | omega))))⟩
            case measure => first | (simp [intOf]; done) | (simp [intOf]; omega)
          · have HV := Lib.hid (hcp.trans e)
            have hne : (p.n != q.n) = true := by simp; omega
            have hge : ¬ p.n < q.n := by omega
            clear hcp e hkk k1
            go_wp2
            go_ret
            exact ⟨ret_int (by rw [← HC.out, HD.out, HV.out]; rfl), (by repeat (first | exact Below.refl _ _ | refine Below.setCell ?_ (by first | (simp; done) | (simp; omega) | omega) _ | refine Below.alloc ?_ (by first | (simp; done) | (simp; omega) | omega) _ | refine Below.drew ?_ | assumption | refine Below.trans ?_ (Below.mono (by assumption) (by first | (simp; done) | (simp; omega) | omega))))⟩
        · rw [k1] at c0 e0
          have hcp : cmpP p q = Lib.compareBytes p.s q.s := by unfold cmpP; rw [← hkk, k1]; simp [ci_eq]
          have lb := less_cb p.s q.s
          rcases cb_vals p.s q.s with e | e | e
          · have HV := Lib.hid (hcp.trans e)
            rw [e] at lb
            have hne : (p.s == q.s) = false := beq_eq_false_iff_ne.2 (fun h => by rw [h, cb_self] at e; simp at e)
            have hlb : Go.Op.bytesLess p.s q.s = true := lb
            clear hcp e hkk k1 lb
            go_wp2
            go_ret
            exact ⟨ret_int (by rw [← HC.out, HD.out, HV.out]; rfl), (by repeat (first | exact Below.refl _ _ | refine Below.setCell ?_ (by first | (simp; done) | (simp; omega) | omega) _ | refine Below.alloc ?_ (by first | (simp; done) | (simp; omega) | omega) _ | refine Below.drew ?_ | assumption | refine Below.trans ?_ (Below.mono (by assumption) (by first | (simp; done) | (simp; omega) | omega))))⟩
          · have HV := Lib.hid (hcp.trans e)
            have hs := cb_zero e
            rw [← hs] at e2
            clear hcp e hkk k1 lb hs
            go_wp2
            go_roundw
            case rel => exact ⟨k + 1, by go_num, by have := HL.out; omega, by have := HM.out; omega, by rw [← HC.out, HD.out, HV.out]; rfl, (by repeat (first | exact Below.refl _ _ | refine Below.setCell ?_ (by first | (simp; done) | (simp; omega) | omega) _ | refine Below.alloc ?_ (by first | (simp; done) | (simp; omega) | omega) _ | refine Below.drew ?_ | assumption | refine Below.trans ?_ (Below.mono (by assumption) (by first | (simp; done) | (simp; omega) | omega))))⟩
            case measure => first | (simp [intOf]; done) | (simp [intOf]; omega)
          · have HV := Lib.hid (hcp.trans e)
            rw [e] at lb
            have hne : (p.s == q.s) = false := beq_eq_false_iff_ne.2 (fun h => by rw [h, cb_self] at e; simp at e)
            have hlb : Go.Op.bytesLess p.s q.s = false := lb
            clear hcp e hkk k1 lb
            go_wp2
            go_ret
            exact ⟨ret_int (by rw [← HC.out, HD.out, HV.out]; rfl), (by repeat (first | exact Below.refl _ _ | refine Below.setCell ?_ (by first | (simp; done) | (simp; omega) | omega) _ | refine Below.alloc ?_ (by first | (simp; done) | (simp; omega) | omega) _ | refine Below.drew ?_ | assumption | refine Below.trans ?_ (Below.mono (by assumption) (by first | (simp; done) | (simp; omega) | omega))))⟩
        · have HV := Lib.hid (show cmpP p q = 0 by unfold cmpP; rw [← hkk]; simp [ci_eq, k1, k2])
          have n1 : (p.k == 1) = false := by simpa using k1
          have n2 : (p.k == 2) = false := by simpa using k2
          clear hkk k1 k2
          go_wp2
          go_roundw
          case rel => exact ⟨k + 1, by go_num, by have := HL.out; omega, by have := HM.out; omega, by rw [← HC.out, HD.out, HV.out]; rfl, (by repeat (first | exact Below.refl _ _ | refine Below.setCell ?_ (by first | (simp; done) | (simp; omega) | omega) _ | refine Below.alloc ?_ (by first | (simp; done) | (simp; omega) | omega) _ | refine Below.drew ?_ | assumption | refine Below.trans ?_ (Below.mono (by assumption) (by first | (simp; done) | (simp; omega) | omega))))⟩
          case measure => first | (simp [intOf]; done) | (simp [intOf]; omega)
      · have hne : (p.k != q.k) = true := by simpa using hkk
        have hcp : cmpP p q = Lib.compareInt p.k q.k := by unfold cmpP; rw [if_pos]; rcases ci_three p.k q.k with ⟨a, e⟩ | ⟨a, e⟩ | ⟨a, e⟩ <;> omega
        rcases ci_three p.k q.k with ⟨a, e⟩ | ⟨a, e⟩ | ⟨a, e⟩
        · have HV := Lib.hid (hcp.trans e)
          clear hcp e hkk
          go_wp2
          go_ret
          exact ⟨ret_int (by rw [← HC.out, HD.out, HV.out]; rfl), (by repeat (first | exact Below.refl _ _ | refine Below.setCell ?_ (by first | (simp; done) | (simp; omega) | omega) _ | refine Below.alloc ?_ (by first | (simp; done) | (simp; omega) | omega) _ | refine Below.drew ?_ | assumption | refine Below.trans ?_ (Below.mono (by assumption) (by first | (simp; done) | (simp; omega) | omega))))⟩
        · exact absurd a hkk
        · have HV := Lib.hid (hcp.trans e)
          have hge : ¬ p.k < q.k := by omega
          clear hcp e hkk
          go_wp2
          go_ret
          exact ⟨ret_int (by rw [← HC.out, HD.out, HV.out]; rfl), (by repeat (first | exact Below.refl _ _ | refine Below.setCell ?_ (by first | (simp; done) | (simp; omega) | omega) _ | refine Below.alloc ?_ (by first | (simp; done) | (simp; omega) | omega) _ | refine Below.drew ?_ | assumption | refine Below.trans ?_ (Below.mono (by assumption) (by first | (simp; done) | (simp; omega) | omega))))⟩
    · have HE := Lib.hid (cmpL_end hk1 hk2 (by have := HL.out; have := HM.out; omega))
      have hci := Lib.hid (And.intro HL.out HM.out)
      have hk1' : k ≤ n := by have := HL.out; omega
      have hk2' : k ≤ m := by have := HM.out; omega
      have h3 : (n < m ∧ k = n) ∨ (n = m ∧ k = n) ∨ (m < n ∧ k = m) := by omega
      rcases h3 with ⟨a, rfl⟩ | ⟨rfl, rfl⟩ | ⟨a, rfl⟩
      · have a' : (k : Int) < m := by omega
        go_wp2
        go_ret
        exact ⟨ret_int (by rw [← HC.out, HE.out, hci.out.1, hci.out.2, ci_lt a']), hbl⟩
      · go_wp2
        go_ret
        exact ⟨ret_int (by rw [← HC.out, HE.out, hci.out.1, hci.out.2, ci_eq rfl]), hbl⟩
      · have a' : (k : Int) < n := by omega
        have a2 : ¬ (n : Int) < k := by omega
        go_wp2
        go_ret
        exact ⟨ret_int (by rw [← HC.out, HE.out, hci.out.1, hci.out.2, ci_gt a']), hbl⟩
end Go.Proofs.YtjccadfaiahkkaaDoor
