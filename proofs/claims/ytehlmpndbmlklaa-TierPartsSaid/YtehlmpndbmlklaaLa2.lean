/-
  The walk of the statement TierParts: it returns true, whatever it is given.
-/
import Derived.Test.YtehlmpndbmlklaaWk4
import Derived.Test.YtehlmpndbmlklaaLa1
import Derived.Test.YtehlmpndbmlklaaTp2
import Derived.Test.YtehlmpndbmlklaaQh
namespace Go.Proofs.Ytehlmpndbmlklaa
set_option linter.all false
open Go.RowKit Go.Sort
attribute [local go_sem] cell_set_self lt_1 lt_2 lt_3 lt_4 lt_5 lt_6







/-- A slice of ints, as memory has it. -/
def Ints (w : World) (A : Option Addr) (l : List Int) : Prop :=
  ∀ (i : Nat) (v : Int), l[i]? = some v → ∃ b off, A = some ⟨b, off, none⟩ ∧ b < w.heap.size ∧ w.cell? ⟨b, off + i, none⟩ = some (.int .i64 v)

theorem pror_part {n p wh : Int} (hn : -1152921504606846976 ≤ n ∧ n ≤ 1152921504606846976) (h0 : 0 ≤ p) (h1 : p ≤ wh) (hw : 0 < wh) (hw2 : wh ≤ 2147483648) : prorN n p wh = rhe (n * p) wh ∧ prorE n p wh = 0 := by
  have b := rhe_part n p wh h0 h1 hw 1152921504606846976 hn
  have u := units_self (a := rhe (n * p) wh) (by omega)
  unfold prorN prorE
  rw [if_neg (by omega), if_neg (by omega), if_neg (by omega), if_neg (by omega)]
  exact u
theorem pror_all {n wh : Int} (hn : -1152921504606846976 ≤ n ∧ n ≤ 1152921504606846976) (hw : 0 < wh) (hw2 : wh ≤ 2147483648) : prorN n wh wh = n ∧ prorE n wh wh = 0 := by
  have := pror_part hn (p := wh) (by omega) (by omega) hw hw2
  rw [rhe_mul n wh hw] at this; exact this
theorem pror_none {n wh : Int} (hn : -1152921504606846976 ≤ n ∧ n ≤ 1152921504606846976) (hw : 0 < wh) (hw2 : wh ≤ 2147483648) : prorN n 0 wh = 0 ∧ prorE n 0 wh = 0 := by
  have := pror_part hn (p := 0) (by omega) (by omega) hw hw2
  rw [Int.mul_zero, rhe_zero wh hw] at this; exact this

set_option maxHeartbeats 2000000 in
theorem parts_walk (u : Int) (A : Option Addr) (n c : Nat) (l : List Int) (hu : In64 u) (hl : l.length = n) (hn : n ≤ 9223372036854775807) (hin : ∀ x ∈ l, In64 x) (w : World) (T : Ints w A l) :
    Calls Try.prog 4 #[.int .i64 u, .slice A n c] w fun e w' => e = .returned (.bool true) ∧ Below w.heap.size w w' := by
  by_cases early : n = 0 ∨ 60 < n ∨ u < -1152921504606846976 ∨ 1152921504606846976 < u
  · rcases (show n = 0 ∨ (0 < n ∧ 60 < n) ∨ (0 < n ∧ n ≤ 60 ∧ (u < -4611686018427387904 ∨ 4611686018427387904 < u)) ∨ (0 < n ∧ n ≤ 60 ∧ (-4611686018427387904 ≤ u ∧ u ≤ 4611686018427387904) ∧ 1152921504606846976 < u) ∨ (0 < n ∧ n ≤ 60 ∧ (-4611686018427387904 ≤ u ∧ u ≤ 4611686018427387904) ∧ u < -1152921504606846976) by omega) with h | ⟨h, h2⟩ | ⟨h, h2, h3⟩ | ⟨h, h2, h3, h4⟩ | ⟨h, h2, h3, h4⟩
    · subst h
      clear early T hin hl
      go_enter Try.func4, Try.ntmps4
      go_wp2_with (first | (go_at_call 8; refine (first_any _).mono ?_; rintro e w1 ⟨rfl, hb1⟩; obtain ⟨hc1, hf1⟩ := bcell hb1; have hs1 := hb1.size; (try simp at hs1)))
      go_ret
      exact ⟨rfl, (by repeat (first | exact Below.refl _ _ | refine Below.setCell ?_ (by first | (simp; done) | (simp; omega) | omega) _ | refine Below.alloc ?_ (by first | (simp; done) | (simp; omega) | omega) _ | refine Below.drew ?_ | assumption | refine Below.trans ?_ (Below.mono (by assumption) (by first | (simp; done) | (simp; omega) | omega))))⟩
    · have d : ((n : Int) == 0) = false := by simp; omega
      clear early T hin hl
      go_enter Try.func4, Try.ntmps4
      go_wp2_with (first | (go_at_call 8; refine (first_any _).mono ?_; rintro e w1 ⟨rfl, hb1⟩; obtain ⟨hc1, hf1⟩ := bcell hb1; have hs1 := hb1.size; (try simp at hs1)))
      go_ret
      exact ⟨rfl, (by repeat (first | exact Below.refl _ _ | refine Below.setCell ?_ (by first | (simp; done) | (simp; omega) | omega) _ | refine Below.alloc ?_ (by first | (simp; done) | (simp; omega) | omega) _ | refine Below.drew ?_ | assumption | refine Below.trans ?_ (Below.mono (by assumption) (by first | (simp; done) | (simp; omega) | omega))))⟩
    · have d : ((n : Int) == 0) = false := by simp; omega
      have CW := Lib.hid (fun W => within_no u h3 W)
      clear early T hin hl h3
      go_enter Try.func4, Try.ntmps4
      go_wp2_with (first | (go_at_call 8; refine (first_any _).mono ?_; rintro e w1 ⟨rfl, hb1⟩; obtain ⟨hc1, hf1⟩ := bcell hb1; have hs1 := hb1.size; (try simp at hs1)) | (go_at_call 14; refine (CW.out _).mono ?_; rintro e w2 ⟨rfl, hb2⟩; obtain ⟨hc2, hf2⟩ := bcell hb2; have hs2 := hb2.size; (try simp at hs2)))
      go_ret
      exact ⟨rfl, (by repeat (first | exact Below.refl _ _ | refine Below.setCell ?_ (by first | (simp; done) | (simp; omega) | omega) _ | refine Below.alloc ?_ (by first | (simp; done) | (simp; omega) | omega) _ | refine Below.drew ?_ | assumption | refine Below.trans ?_ (Below.mono (by assumption) (by first | (simp; done) | (simp; omega) | omega))))⟩
    · have d : ((n : Int) == 0) = false := by simp; omega
      have CW := Lib.hid (fun W => within_yes u h3.1 h3.2 W)
      clear early T hin hl
      go_enter Try.func4, Try.ntmps4
      go_wp2_with (first | (go_at_call 8; refine (first_any _).mono ?_; rintro e w1 ⟨rfl, hb1⟩; obtain ⟨hc1, hf1⟩ := bcell hb1; have hs1 := hb1.size; (try simp at hs1)) | (go_at_call 14; refine (CW.out _).mono ?_; rintro e w2 ⟨rfl, hb2⟩; obtain ⟨hc2, hf2⟩ := bcell hb2; have hs2 := hb2.size; (try simp at hs2)))
      go_ret
      exact ⟨rfl, (by repeat (first | exact Below.refl _ _ | refine Below.setCell ?_ (by first | (simp; done) | (simp; omega) | omega) _ | refine Below.alloc ?_ (by first | (simp; done) | (simp; omega) | omega) _ | refine Below.drew ?_ | assumption | refine Below.trans ?_ (Below.mono (by assumption) (by first | (simp; done) | (simp; omega) | omega))))⟩
    · have d : ((n : Int) == 0) = false := by simp; omega
      have CW := Lib.hid (fun W => within_yes u h3.1 h3.2 W)
      clear early T hin hl
      go_enter Try.func4, Try.ntmps4
      go_wp2_with (first | (go_at_call 8; refine (first_any _).mono ?_; rintro e w1 ⟨rfl, hb1⟩; obtain ⟨hc1, hf1⟩ := bcell hb1; have hs1 := hb1.size; (try simp at hs1)) | (go_at_call 14; refine (CW.out _).mono ?_; rintro e w2 ⟨rfl, hb2⟩; obtain ⟨hc2, hf2⟩ := bcell hb2; have hs2 := hb2.size; (try simp at hs2)))
      go_ret
      exact ⟨rfl, (by repeat (first | exact Below.refl _ _ | refine Below.setCell ?_ (by first | (simp; done) | (simp; omega) | omega) _ | refine Below.alloc ?_ (by first | (simp; done) | (simp; omega) | omega) _ | refine Below.drew ?_ | assumption | refine Below.trans ?_ (Below.mono (by assumption) (by first | (simp; done) | (simp; omega) | omega))))⟩
  · obtain ⟨e1, e2, e3, e4⟩ : 0 < n ∧ n ≤ 60 ∧ -1152921504606846976 ≤ u ∧ u ≤ 1152921504606846976 := by omega
    have d : ((n : Int) == 0) = false := by simp; omega
    have CW := Lib.hid (fun W => within_yes u (by omega) (by omega) W)
    obtain ⟨b, off, rfl⟩ : ∃ b off, A = some ⟨b, off, none⟩ := by
      obtain ⟨b, off, h, _⟩ := T 0 (l[0]'(by omega)) (by simp)
      exact ⟨b, off, h⟩
    have HL := Lib.hid hl; have TH := Lib.hid T; have HU := Lib.hid hu; have HI := Lib.hid hin
    clear early hl hu hin T
    go_enter Try.func4, Try.ntmps4
    go_wp2_with (first | (go_at_call 8; refine (first_any _).mono ?_; rintro e w1 ⟨rfl, hb1⟩; obtain ⟨hc1, hf1⟩ := bcell hb1; have hs1 := hb1.size; (try simp at hs1)) | (go_at_call 14; refine (CW.out _).mono ?_; rintro e w2 ⟨rfl, hb2⟩; obtain ⟨hc2, hf2⟩ := bcell hb2; have hs2 := hb2.size; (try simp at hs2)))
    go_loopw [6, 7] (fun a i wr => ∃ (k : Nat) (s : Int), k ≤ n ∧ i = .int .i64 k ∧ a = .int .i64 s ∧ Hid (s = sumI (l.take k)) ∧ Hid (∀ x ∈ l.take k, 0 ≤ x ∧ x ≤ 1048576) ∧ 0 ≤ s ∧ s ≤ k * 1048576 ∧ Below w.heap.size w wr) (fun _ i _ => n - (intOf i).toNat)
    case atStart => exact ⟨0, 0, Nat.zero_le _, rfl, rfl, rfl, (by intro x hx; simp at hx), by omega, by omega, (by repeat (first | exact Below.refl _ _ | refine Below.setCell ?_ (by first | (simp; done) | (simp; omega) | omega) _ | refine Below.alloc ?_ (by first | (simp; done) | (simp; omega) | omega) _ | refine Below.drew ?_ | assumption | refine Below.trans ?_ (Below.mono (by assumption) (by first | (simp; done) | (simp; omega) | omega))))⟩
    case round =>
      obtain ⟨k, s, hk, rfl, rfl, hs, hall, hs0, hs1, hB⟩ := hrel
      have hz8 := hB.size
      by_cases hlt : k < n
      · have hg : l[k]? = some (l[k]'(by have := HL.out; omega)) := List.getElem?_eq_getElem _
        obtain ⟨v, hv⟩ : ∃ t, t = (l[k]'(by have := HL.out; omega)) := ⟨_, rfl⟩
        rw [← hv] at hg
        obtain ⟨b', off', hA, hbs, hc0⟩ := TH.out k v hg
        injection hA with hA; injection hA with hb ho; subst hb; subst ho
        have q0 : wr.cell? ⟨b, off + k, none⟩ = some (.int .i64 v) := (hB.cell (p := ⟨b, off + k, none⟩) hbs).trans hc0
        have Hg := Lib.hid hg
        clear hg hv hc0
        rcases (show v < 0 ∨ 1048576 < v ∨ (0 ≤ v ∧ v ≤ 1048576) by omega) with f | f | ⟨f, f2⟩
        · go_wp2
          go_ret
          exact ⟨rfl, (by repeat (first | exact Below.refl _ _ | refine Below.setCell ?_ (by first | (simp; done) | (simp; omega) | omega) _ | refine Below.alloc ?_ (by first | (simp; done) | (simp; omega) | omega) _ | refine Below.drew ?_ | assumption | refine Below.trans ?_ (Below.mono (by assumption) (by first | (simp; done) | (simp; omega) | omega))))⟩
        · go_wp2
          go_ret
          exact ⟨rfl, (by repeat (first | exact Below.refl _ _ | refine Below.setCell ?_ (by first | (simp; done) | (simp; omega) | omega) _ | refine Below.alloc ?_ (by first | (simp; done) | (simp; omega) | omega) _ | refine Below.drew ?_ | assumption | refine Below.trans ?_ (Below.mono (by assumption) (by first | (simp; done) | (simp; omega) | omega))))⟩
        · have n1 : Hid (s + v = sumI (l.take (k + 1))) := Lib.hid (by rw [sumI_take Hg.out, ← hs.out])
          have n2 : Hid (∀ x ∈ l.take (k + 1), 0 ≤ x ∧ x ≤ 1048576) := Lib.hid (by
            intro x hx
            obtain ⟨hk', he⟩ := List.getElem?_eq_some_iff.1 Hg.out
            rw [List.take_succ_eq_append_getElem hk', he, List.mem_append] at hx
            rcases hx with hx | hx
            · exact hall.out x hx
            · simp at hx; subst hx; exact ⟨f, f2⟩)
          clear hs hall
          go_wp2
          go_roundw
          case rel => exact ⟨k + 1, s + v, by omega, by go_num, rfl, n1, n2, by omega, by omega, (by repeat (first | exact Below.refl _ _ | refine Below.setCell ?_ (by first | (simp; done) | (simp; omega) | omega) _ | refine Below.alloc ?_ (by first | (simp; done) | (simp; omega) | omega) _ | refine Below.drew ?_ | assumption | refine Below.trans ?_ (Below.mono (by assumption) (by first | (simp; done) | (simp; omega) | omega))))⟩
          case measure => simp [intOf]; omega
      · have hkn : k = n := by omega
        subst hkn
        have hfull : l.take k = l := List.take_of_length_le (by rw [HL.out]; exact Nat.le_refl _)
        rw [hfull] at hs hall
        clear hfull
        by_cases hz : s = 0
        · have dz : (s == 0) = true := by simp [hz]
          clear hz
          go_wp2
          go_ret
          exact ⟨rfl, (by repeat (first | exact Below.refl _ _ | refine Below.setCell ?_ (by first | (simp; done) | (simp; omega) | omega) _ | refine Below.alloc ?_ (by first | (simp; done) | (simp; omega) | omega) _ | refine Below.drew ?_ | assumption | refine Below.trans ?_ (Below.mono (by assumption) (by first | (simp; done) | (simp; omega) | omega))))⟩
        · have sp : 0 < s := by omega
          have CA := Lib.hid (fun W => prorate_any u s s HU.out (by unfold In64; omega) (by unfold In64; omega) W)
          have CN := Lib.hid (fun W => prorate_any u 0 s HU.out (by unfold In64; omega) (by unfold In64; omega) W)
          rw [(pror_all ⟨e3, e4⟩ sp (by omega)).1, (pror_all ⟨e3, e4⟩ sp (by omega)).2] at CA
          rw [(pror_none ⟨e3, e4⟩ sp (by omega)).1, (pror_none ⟨e3, e4⟩ sp (by omega)).2] at CN
          have dz : (s == 0) = false := by simpa using hz
          clear hz
          go_wp2_with (fail)
          obtain ⟨wo, rfl⟩ : ∃ wo : World, wo = wr := ⟨_, rfl⟩
          go_loopw [8, 9] (fun a i wr => ∃ (j : Nat) (S P : Int), j ≤ k ∧ i = .int .i64 j ∧ a = .int .i64 S ∧ Hid (P = sumI (l.take j)) ∧ Hid (Near u s j P S) ∧ -1152921504606847100 ≤ S ∧ S ≤ 1152921504606847100 ∧ Below w.heap.size w wr) (fun _ i _ => k - (intOf i).toNat)
          case atStart => exact ⟨0, 0, 0, Nat.zero_le _, rfl, rfl, rfl, Near.zero _ _, by omega, by omega, (by repeat (first | exact Below.refl _ _ | refine Below.setCell ?_ (by first | (simp; done) | (simp; omega) | omega) _ | refine Below.alloc ?_ (by first | (simp; done) | (simp; omega) | omega) _ | refine Below.drew ?_ | assumption | refine Below.trans ?_ (Below.mono (by assumption) (by first | (simp; done) | (simp; omega) | omega))))⟩
          case round =>
            obtain ⟨j, S, P, hj, rfl, rfl, hP, hN, hS0, hS1, hB2⟩ := hrel
            have hz9 := hB2.size
            by_cases hlt2 : j < k
            · have hg : l[j]? = some (l[j]'(by have := HL.out; omega)) := List.getElem?_eq_getElem _
              obtain ⟨v, hv⟩ : ∃ t, t = (l[j]'(by have := HL.out; omega)) := ⟨_, rfl⟩
              rw [← hv] at hg
              obtain ⟨b', off', hA, hbs, hc0⟩ := TH.out j v hg
              injection hA with hA; injection hA with hb ho; subst hb; subst ho
              have q0 : wr.cell? ⟨b, off + j, none⟩ = some (.int .i64 v) := (hB2.cell (p := ⟨b, off + j, none⟩) hbs).trans hc0
              have hmem : v ∈ l := List.mem_of_getElem? hg
              have v0 := (hall.out v hmem).1
              have vs : v ≤ s := by rw [hs.out]; exact sumI_mem (fun y hy => (hall.out y hy).1) hmem
              have cp := fun W => prorate_any u v s HU.out (HI.out v hmem) (by unfold In64; omega) W
              rw [(pror_part ⟨e3, e4⟩ v0 vs sp (by omega)).1, (pror_part ⟨e3, e4⟩ v0 vs sp (by omega)).2] at cp
              have rb := rhe_part u v s v0 vs sp 1152921504606846976 ⟨e3, e4⟩
              have nP : Hid (P + v = sumI (l.take (j + 1))) := Lib.hid (by rw [sumI_take hg, ← hP.out])
              have nN := hN.out.step (p := v) sp
              have tk : sumI (l.take (j + 1)) ≤ s := by rw [hs.out]; exact sumI_take_le _ (fun y hy => (hall.out y hy).1)
              have tp : 0 ≤ sumI (l.take (j + 1)) := sumI_nonneg (fun y hy => (hall.out y (List.mem_of_mem_take hy)).1)
              have nb := nN.bd sp (by rw [nP.out]; exact tp) (by rw [nP.out]; exact tk) (M := 1152921504606846976) ⟨e3, e4⟩
              generalize rhe (u * v) s = r at *
              have CP := Lib.hid cp; have NN := Lib.hid nN
              clear cp hg hv hc0 hmem nN tk tp hP hN
              go_wp2_with (first | (go_at_call 15; refine (CP.out _).mono ?_; rintro e w3 ⟨rfl, hb3⟩; obtain ⟨hc3, hf3⟩ := bcell hb3; have hs3 := hb3.size; (try simp at hs3)) | (go_at_call 9; refine (num_any _ _).mono ?_; rintro e w4 ⟨rfl, hb4⟩; obtain ⟨hc4, hf4⟩ := bcell hb4; have hs4 := hb4.size; (try simp at hs4)))
              go_roundw
              case rel => exact ⟨j + 1, S + r, P + v, by omega, by go_num, rfl, nP, NN, by omega, by omega, (by repeat (first | exact Below.refl _ _ | refine Below.setCell ?_ (by first | (simp; done) | (simp; omega) | omega) _ | refine Below.alloc ?_ (by first | (simp; done) | (simp; omega) | omega) _ | refine Below.drew ?_ | assumption | refine Below.trans ?_ (Below.mono (by assumption) (by first | (simp; done) | (simp; omega) | omega))))⟩
              case measure => simp [intOf]; omega
            · have hjn : j = k := by omega
              subst hjn
              have hfull : l.take j = l := List.take_of_length_le (by rw [HL.out]; exact Nat.le_refl _)
              have eP : P = s := by rw [hP.out, hfull, ← hs.out]
              have nf := hN.out
              rw [eP] at nf
              have nf := nf.fin sp
              clear hP hN eP hfull hs hall TH HI
              by_cases hd : S - u < 0
              all_goals
                go_wp2_with (first | (go_at_call_of 15 (Value.int IntKind.i64 0); refine (CN.out _).mono ?_; rintro e wB ⟨rfl, hbB⟩; obtain ⟨hcB, hfB⟩ := bcell hbB; have hsB := hbB.size) | (go_at_call 15; refine (CA.out _).mono ?_; rintro e w4 ⟨rfl, hb4⟩; obtain ⟨hc4, hf4⟩ := bcell hb4; have hs4 := hb4.size; (try simp at hs4)) | (go_at_call 9; refine (num_any _ _).mono ?_; rintro e w5 ⟨rfl, hb5⟩; obtain ⟨hc5, hf5⟩ := bcell hb5; have hs5 := hb5.size; (try simp at hs5)))
                go_ret
                exact ⟨ret_bool (by first | rfl | (simp; omega)), (by repeat (first | exact Below.refl _ _ | refine Below.setCell ?_ (by first | (simp; done) | (simp; omega) | omega) _ | refine Below.alloc ?_ (by first | (simp; done) | (simp; omega) | omega) _ | refine Below.drew ?_ | assumption | refine Below.trans ?_ (Below.mono (by assumption) (by first | (simp; done) | (simp; omega) | omega))))⟩
end Go.Proofs.Ytehlmpndbmlklaa
