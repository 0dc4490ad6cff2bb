/-
  Contracts of exref.BigInt, Units, exref14.times, round.
-/
import Derived.Test.YtehlmpndbmlklaaBw10
import Derived.Test.YtehlmpndbmlklaaBw11
import Derived.Test.YtehlmpndbmlklaaBw13
namespace Go.Proofs.Ytehlmpndbmlklaa
set_option linter.all false
open Go.RowKit Go.Sort
attribute [local go_sem] cell_set_self lt_1 lt_2 lt_3 lt_4 lt_5 lt_6

theorem atoi_txt (z : Int) (hz : z.natAbs < 1000000000000000000000000000000000000000000000000) (w : World) :
    Calls Try.prog 52 #[.string ⟨(txt z).toArray⟩] w fun e w' => e = .returned (.tuple #[.int .i64 (intN z), .bool (intB z)]) ∧ Below w.heap.size w w' := by
  have dl : (dec z.natAbs).length ≤ 60 := by
    have := dec_len_le 48 z.natAbs (by rw [show (10 : Nat) ^ 48 = 1000000000000000000000000000000000000000000000000 by decide]; exact hz)
    omega
  have big : 19 < (dec z.natAbs).length → 10000000000000000000 ≤ z.natAbs := fun h => by
    refine Nat.le_of_not_lt fun k => ?_
    have := dec_len_le 19 z.natAbs (by rw [show (10 : Nat) ^ 19 = 10000000000000000000 by decide]; exact k)
    omega
  have head : ∀ b, (dec z.natAbs)[0]? = some b → b.toNat ≠ 48 := fun b h => by
    cases e : dec z.natAbs with
    | nil => rw [e] at h; simp at h
    | cons x r => rw [e] at h; simp at h; subst h; exact dec_head e
  have pos : z ≠ 0 → 0 < (dec z.natAbs).length := fun h => List.length_pos_iff.2 (dec_ne (by omega))
  by_cases h0 : z = 0
  · subst h0
    exact atoi_pos ⟨[48].toArray⟩ [48] 1 0 rfl rfl (by omega) (by omega) (fun b hb => by simp at hb; subst hb; decide) (.inl rfl) (by decide) (fun h => by omega) w
  · by_cases hn : z < 0
    · have e : txt z = 45 :: dec z.natAbs := by unfold txt; rw [if_neg h0, if_pos hn]
      have := atoi_neg ⟨(45 :: dec z.natAbs).toArray⟩ ⟨(dec z.natAbs).toArray⟩ (dec z.natAbs) _ z.natAbs rfl rfl rfl dl (pos h0) (dec_dig _) head (dv_dec _) big w
      rw [show -((z.natAbs : Nat) : Int) = z by omega] at this
      rw [e]; exact this
    · have e : txt z = dec z.natAbs := by unfold txt; rw [if_neg h0, if_neg hn]
      have := atoi_pos ⟨(dec z.natAbs).toArray⟩ (dec z.natAbs) _ z.natAbs rfl rfl dl (pos h0) (dec_dig _) (.inr head) (dv_dec _) big w
      rw [show ((z.natAbs : Nat) : Int) = z by omega] at this
      rw [e]; exact this

set_option maxHeartbeats 4000000 in
set_option maxRecDepth 100000 in
theorem bigInt_any (s : Bool) (A : Option Addr) (n c : Nat) (z : Int) (hz : z.natAbs < 1000000000000000000000000000000000000000000000000) (w : World) (P : Pt 0 w s A n c z) :
    Calls Try.prog 34 #[.agg #[.bool s, .slice A n c]] w fun e w' => e = .returned (.tuple #[.int .i64 (intN z), .bool (intB z)]) ∧ Below w.heap.size w w' := by
  have TX := Lib.hid (fun W (hb : Below w.heap.size w W) => bigText_any s A n c z (by rw [P.2.1]; exact len48 hz) W (P.below hb))
  have AT := Lib.hid (fun W => atoi_txt z hz W)
  obtain ⟨t, ht⟩ : ∃ t : ByteArray, t = ⟨(txt z).toArray⟩ := ⟨_, rfl⟩
  rw [← ht] at TX AT
  clear P hz ht
  generalize intN z = iz at *
  generalize intB z = bz at *
  go_enter Try.func34, Try.ntmps34
  go_wp2_with (first | (go_at_call 53; refine (TX.out _ (by repeat (first | exact Below.refl _ _ | refine Below.setCell ?_ (by first | (simp; done) | (simp; omega) | omega) _ | refine Below.alloc ?_ (by first | (simp; done) | (simp; omega) | omega) _ | refine Below.drew ?_ | assumption | refine Below.trans ?_ (Below.mono (by assumption) (by first | (simp; done) | (simp; omega) | omega))))).mono ?_; rintro e w1 ⟨rfl, hb1⟩; obtain ⟨hc1, hf1⟩ := bcell hb1; have hs1 := hb1.size; (try simp at hs1); have hz1 : w.heap.size < w1.heap.size := by have := hb1.size; (try simp at this); omega) | (go_at_call 52; refine (AT.out _).mono ?_; rintro e w2 ⟨rfl, hb2⟩; obtain ⟨hc2, hf2⟩ := bcell hb2; have hs2 := hb2.size; (try simp at hs2); have hz2 : w.heap.size < w2.heap.size := by have := hb2.size; (try simp at this); omega))
  go_ret2
  exact ⟨rfl, (by repeat (first | exact Below.refl _ _ | refine Below.setCell ?_ (by first | (simp; done) | (simp; omega) | omega) _ | refine Below.alloc ?_ (by first | (simp; done) | (simp; omega) | omega) _ | refine Below.drew ?_ | assumption | refine Below.trans ?_ (Below.mono (by assumption) (by first | (simp; done) | (simp; omega) | omega))))⟩

/-- What Units answers besides the number. -/
def unB (z : Int) : Bool := decide (-4611686018427387904 ≤ z ∧ z ≤ 4611686018427387904)
set_option maxHeartbeats 4000000 in
set_option maxRecDepth 100000 in
theorem units14_any (s : Bool) (A : Option Addr) (n c : Nat) (z : Int) (hz : z.natAbs < 1000000000000000000000000000000000000000000000000) (w : World) (P : Pt 0 w s A n c z) :
    Calls Try.prog 51 #[.agg #[.bool s, .slice A n c]] w fun e w' => e = .returned (.tuple #[.int .i64 (intN z), .bool (unB z)]) ∧ Below w.heap.size w w' := by
  have BI := Lib.hid (fun W (hb : Below w.heap.size w W) => bigInt_any s A n c z hz W (P.below hb))
  clear P hz
  have ib : -9223372036854775808 ≤ intN z ∧ intN z ≤ 9223372036854775807 := by unfold intN; split <;> omega
  by_cases h : -4611686018427387904 ≤ z ∧ z ≤ 4611686018427387904
  · have e1 : intN z = z := by unfold intN; rw [if_pos (by omega)]
    have e2 : intB z = true := decide_eq_true (by omega)
    have R : Hid (intN z = z ∧ unB z = true) := Lib.hid ⟨e1, decide_eq_true h⟩
    rw [e1, e2] at BI
    clear e1 e2 ib
    obtain ⟨h0, h1⟩ := h
    go_enter Try.func51, Try.ntmps51
    go_wp2_with (first | (go_at_call 34; refine (BI.out _ (by repeat (first | exact Below.refl _ _ | refine Below.setCell ?_ (by first | (simp; done) | (simp; omega) | omega) _ | refine Below.alloc ?_ (by first | (simp; done) | (simp; omega) | omega) _ | refine Below.drew ?_ | assumption | refine Below.trans ?_ (Below.mono (by assumption) (by first | (simp; done) | (simp; omega) | omega))))).mono ?_; rintro e w1 ⟨rfl, hb1⟩; obtain ⟨hc1, hf1⟩ := bcell hb1; have hs1 := hb1.size; (try simp at hs1); have hz1 : w.heap.size < w1.heap.size := by have := hb1.size; (try simp at this); omega))
    go_ret2
    exact ⟨ret_ib R.out, (by repeat (first | exact Below.refl _ _ | refine Below.setCell ?_ (by first | (simp; done) | (simp; omega) | omega) _ | refine Below.alloc ?_ (by first | (simp; done) | (simp; omega) | omega) _ | refine Below.drew ?_ | assumption | refine Below.trans ?_ (Below.mono (by assumption) (by first | (simp; done) | (simp; omega) | omega))))⟩
  · obtain ⟨iz, hiz⟩ : ∃ iz, intN z = iz := ⟨_, rfl⟩
    have R : Hid (intN z = iz ∧ unB z = false) := Lib.hid ⟨hiz, decide_eq_false h⟩
    by_cases hb : intB z = true
    · have e : iz = z := by rw [← hiz]; unfold intN; rw [if_pos (of_decide_eq_true hb)]
      rw [hiz, hb] at BI
      rw [hiz] at ib
      obtain ⟨i0, i1⟩ := ib
      have h' : iz < -4611686018427387904 ∨ 4611686018427387904 < iz := by omega
      clear hiz e h hb
      rcases h' with h' | h'
      all_goals
        (try have d := decide_eq_false (show ¬ (-4611686018427387904 ≤ iz) by omega))
        go_enter Try.func51, Try.ntmps51
        go_wp2_with (first | (go_at_call 34; refine (BI.out _ (by repeat (first | exact Below.refl _ _ | refine Below.setCell ?_ (by first | (simp; done) | (simp; omega) | omega) _ | refine Below.alloc ?_ (by first | (simp; done) | (simp; omega) | omega) _ | refine Below.drew ?_ | assumption | refine Below.trans ?_ (Below.mono (by assumption) (by first | (simp; done) | (simp; omega) | omega))))).mono ?_; rintro e w1 ⟨rfl, hb1⟩; obtain ⟨hc1, hf1⟩ := bcell hb1; have hs1 := hb1.size; (try simp at hs1); have hz1 : w.heap.size < w1.heap.size := by have := hb1.size; (try simp at this); omega))
        go_ret2
        exact ⟨ret_ib R.out, (by repeat (first | exact Below.refl _ _ | refine Below.setCell ?_ (by first | (simp; done) | (simp; omega) | omega) _ | refine Below.alloc ?_ (by first | (simp; done) | (simp; omega) | omega) _ | refine Below.drew ?_ | assumption | refine Below.trans ?_ (Below.mono (by assumption) (by first | (simp; done) | (simp; omega) | omega))))⟩
    · have hb' : intB z = false := by simpa using hb
      rw [hiz, hb'] at BI
      clear hiz h hb hb' ib
      go_enter Try.func51, Try.ntmps51
      go_wp2_with (first | (go_at_call 34; refine (BI.out _ (by repeat (first | exact Below.refl _ _ | refine Below.setCell ?_ (by first | (simp; done) | (simp; omega) | omega) _ | refine Below.alloc ?_ (by first | (simp; done) | (simp; omega) | omega) _ | refine Below.drew ?_ | assumption | refine Below.trans ?_ (Below.mono (by assumption) (by first | (simp; done) | (simp; omega) | omega))))).mono ?_; rintro e w1 ⟨rfl, hb1⟩; obtain ⟨hc1, hf1⟩ := bcell hb1; have hs1 := hb1.size; (try simp at hs1); have hz1 : w.heap.size < w1.heap.size := by have := hb1.size; (try simp at this); omega))
      go_ret2
      exact ⟨ret_ib R.out, (by repeat (first | exact Below.refl _ _ | refine Below.setCell ?_ (by first | (simp; done) | (simp; omega) | omega) _ | refine Below.alloc ?_ (by first | (simp; done) | (simp; omega) | omega) _ | refine Below.drew ?_ | assumption | refine Below.trans ?_ (Below.mono (by assumption) (by first | (simp; done) | (simp; omega) | omega))))⟩

set_option maxHeartbeats 4000000 in
set_option maxRecDepth 100000 in
theorem times_any (a b : Int) (ha : In64 a) (hb : In64 b) (w : World) :
    Calls Try.prog 32 #[.int .i64 a, .int .i64 b] w fun e w' => Res w.heap.size w' e (a * b) ∧ Below w.heap.size w w' := by
  have BA := Lib.hid (fun W => bigOf_any a ha W)
  have BB := Lib.hid (fun W => bigOf_any b hb W)
  have MU : Hid (∀ s A n c t B m d W b1 b2, Pt b1 W s A n c a → Pt b2 W t B m d b → Calls Try.prog 50 #[.agg #[.bool s, .slice A n c], .agg #[.bool t, .slice B m d]] W fun e w' => Res W.heap.size w' e (a * b) ∧ Below W.heap.size W w') := Lib.hid fun s A n c t B m d W b1 b2 X Y =>
    bigMul_any s t A B n m c d a b (by rw [X.2.1]; have := len48 (n := a.natAbs) (by have := ha.1; have := ha.2; omega); omega) (by rw [Y.2.1]; have := len48 (n := b.natAbs) (by have := hb.1; have := hb.2; omega); omega) W (X.mono (Nat.zero_le _)) (Y.mono (Nat.zero_le _))
  clear ha hb
  go_enter Try.func32, Try.ntmps32
  go_wp2_with (first | ((fail_if_success (have hq9 := HP9)); go_at_call 36; refine (BA.out _).mono ?_; rintro e w9 ⟨⟨s9, A9, n9, c9, rfl, hP9⟩, hb9⟩; obtain ⟨hc9, hf9⟩ := bcell hb9; have hs9 := hb9.size; (try simp at hs9); have hz9 : w.heap.size < w9.heap.size := (by have := hb9.size; (try simp at this); omega); have HP9 := Lib.hid hP9; clear hP9) | (have hq9 := HP9; clear hq9; go_at_call 36; refine (BB.out _).mono ?_; rintro e w10 ⟨⟨s10, A10, n10, c10, rfl, hP10⟩, hb10⟩; obtain ⟨hc10, hf10⟩ := bcell hb10; have hs10 := hb10.size; (try simp at hs10); have hz10 : w.heap.size < w10.heap.size := (by have := hb10.size; (try simp at this); omega); have HP10 := Lib.hid hP10; clear hP10) | (go_at_call 50; refine (MU.out _ _ _ _ _ _ _ _ _ _ _ (HP9.out.below (by repeat (first | exact Below.refl _ _ | refine Below.setCell ?_ (by first | (simp; done) | (simp; omega) | omega) _ | refine Below.alloc ?_ (by first | (simp; done) | (simp; omega) | omega) _ | refine Below.drew ?_ | assumption | refine Below.trans ?_ (Below.mono (by assumption) (by first | (simp; done) | (simp; omega) | omega))))) HP10.out).mono ?_; rintro e w11 ⟨⟨s11, A11, n11, c11, rfl, hP11⟩, hb11⟩; obtain ⟨hc11, hf11⟩ := bcell hb11; have hs11 := hb11.size; (try simp at hs11); have hz11 : w.heap.size < w11.heap.size := (by have := hb11.size; (try simp at this); omega); have HP11 := Lib.hid hP11; clear hP11))
  exact bodyPost_ret (v := .agg #[.bool s11, .slice A11 n11 c11]) (by simp [results, Try.results32, go_sem, *]) rfl ⟨⟨_, _, _, _, rfl, ((HP11.out.setCell _ (by first | (simp; done) | (simp; omega) | omega)).setCell _ (by first | (simp; done) | (simp; omega) | omega)).mono (by first | (simp; done) | (simp; omega) | omega)⟩, (by repeat (first | exact Below.refl _ _ | refine Below.setCell ?_ (by first | (simp; done) | (simp; omega) | omega) _ | refine Below.alloc ?_ (by first | (simp; done) | (simp; omega) | omega) _ | refine Below.drew ?_ | assumption | refine Below.trans ?_ (Below.mono (by assumption) (by first | (simp; done) | (simp; omega) | omega))))⟩

theorem ret_ii {a b p q : Int} (h : a = b ∧ p = q) : Ending.returned (.tuple #[.int .i64 b, .int .i64 q]) = .returned (.tuple #[.int .i64 a, .int .i64 p]) := by rw [h.1, h.2]
theorem rhe_abs (z : Int) (b : Int) (hb : 0 < b) : (rhe z b).natAbs ≤ z.natAbs + 1 := by
  have a : ∀ s : Int, 0 ≤ s → 0 ≤ rheA s b ∧ rheA s b ≤ s + 1 := fun s hs => by
    have h0 := Int.ediv_nonneg hs (show 0 ≤ b by omega)
    have h1 := Int.ediv_le_self b hs
    unfold rheA; split <;> omega
  unfold rhe
  split
  · have := a (-z) (by omega); omega
  · have := a z (by omega); omega
set_option maxHeartbeats 4000000 in
set_option maxRecDepth 100000 in
theorem round_any (s : Bool) (A : Option Addr) (n c : Nat) (z : Int) (hz : z.natAbs < 10000000000000000000000000000000000000000) (w : World) (P : Pt 0 w s A n c z) :
    Calls Try.prog 33 #[.agg #[.bool s, .slice A n c]] w fun e w' => e = .returned (.tuple #[.int .i64 (unitsN (rhe z 1000000)), .int .i64 (unitsE (rhe z 1000000))]) ∧ Below w.heap.size w w' := by
  have BA := Lib.hid (fun W => bigOf_any 1000000 ⟨by omega, by omega⟩ W)
  have EV : Hid (∀ t B m d W b2, Below w.heap.size w W → Pt b2 W t B m d 1000000 → Calls Try.prog 35 #[.agg #[.bool s, .slice A n c], .agg #[.bool t, .slice B m d]] W fun e w' => Res W.heap.size w' e (rhe z 1000000) ∧ Below W.heap.size W w') := Lib.hid fun t B m d W b2 hb Y => by
    have ht : t = false := by rw [Y.1]; decide
    subst ht
    exact bigEven_any s A B n m c d z 1000000 hz (by decide) (by decide) W (P.below hb) (Y.mono (Nat.zero_le _))
  have ra := rhe_abs z 1000000 (by omega)
  obtain ⟨x, hx⟩ : ∃ x, rhe z 1000000 = x := ⟨_, rfl⟩
  rw [hx] at EV ra
  rw [hx]
  have UN : Hid (∀ t B m d W b2, Pt b2 W t B m d x → Calls Try.prog 51 #[.agg #[.bool t, .slice B m d]] W fun e w' => e = .returned (.tuple #[.int .i64 (intN x), .bool (unB x)]) ∧ Below W.heap.size W w') := Lib.hid fun t B m d W b2 Y =>
    units14_any t B m d x (by omega) W (Y.mono (Nat.zero_le _))
  clear P hz hx ra
  by_cases h : -4611686018427387904 ≤ x ∧ x ≤ 4611686018427387904
  · have R : Hid (unitsN x = x ∧ unitsE x = 0) := Lib.hid ⟨by unfold unitsN; rw [if_pos h], by unfold unitsE; rw [if_pos h]⟩
    rw [show intN x = x by unfold intN; rw [if_pos (by omega)], show unB x = true from decide_eq_true h] at UN
    go_enter Try.func33, Try.ntmps33
    go_wp2
    go_region_held3 (fun w' => w'.cell? ⟨w.heap.size, 0, none⟩ = some (.bool s) ∧ w'.cell? ⟨w.heap.size, 1, none⟩ = some (.slice A n c) ∧ w.heap.size < w'.heap.size ∧ Below w.heap.size w w')
      (first | (refine ⟨?_, ?_, ?_, ?_⟩ <;> first | (simp [go_sem, *]; done) | omega | (simp; omega) | exact (by repeat (first | exact Below.refl _ _ | refine Below.setCell ?_ (by first | (simp; done) | (simp; omega) | omega) _ | refine Below.alloc ?_ (by first | (simp; done) | (simp; omega) | omega) _ | refine Below.drew ?_ | assumption | refine Below.trans ?_ (Below.mono (by assumption) (by first | (simp; done) | (simp; omega) | omega))))))
      (first | (first | (go_at_call 36; refine (BA.out _).mono ?_; rintro e w9 ⟨⟨s9, A9, n9, c9, rfl, hP9⟩, hb9⟩; obtain ⟨hc9, hf9⟩ := bcell hb9; (try simp only [drew_size, drew_cell, drew_frozen] at hc9 hf9); have hs9 := hb9.size; (try simp at hs9); have hz9 : w.heap.size < w9.heap.size := (by have := hb9.size; (try simp at this); omega); have HP9 := Lib.hid hP9; clear hP9) | (go_at_call 35; refine (EV.out _ _ _ _ _ _ (by repeat (first | exact Below.refl _ _ | refine Below.setCell ?_ (by first | (simp; done) | (simp; omega) | omega) _ | refine Below.alloc ?_ (by first | (simp; done) | (simp; omega) | omega) _ | refine Below.drew ?_ | assumption | refine Below.trans ?_ (Below.mono (by assumption) (by first | (simp; done) | (simp; omega) | omega)))) HP9.out).mono ?_; rintro e w10 ⟨⟨s10, A10, n10, c10, rfl, hP10⟩, hb10⟩; obtain ⟨hc10, hf10⟩ := bcell hb10; (try simp only [drew_size, drew_cell, drew_frozen] at hc10 hf10); have hs10 := hb10.size; (try simp at hs10); have hz10 : w.heap.size < w10.heap.size := (by have := hb10.size; (try simp at this); omega); have HP10 := Lib.hid hP10; clear hP10) | (go_at_call 51; refine (UN.out _ _ _ _ _ _ HP10.out).mono ?_; rintro e w11 ⟨rfl, hb11⟩; obtain ⟨hc11, hf11⟩ := bcell hb11; (try simp only [drew_size, drew_cell, drew_frozen] at hc11 hf11); have hs11 := hb11.size; (try simp at hs11); have hz11 : w.heap.size < w11.heap.size := by have := hb11.size; (try simp at this); omega)))
    go_wp2
    go_ret2
    exact ⟨ret_ii R.out, (by repeat (first | exact Below.refl _ _ | refine Below.setCell ?_ (by first | (simp; done) | (simp; omega) | omega) _ | refine Below.alloc ?_ (by first | (simp; done) | (simp; omega) | omega) _ | refine Below.drew ?_ | assumption | refine Below.trans ?_ (Below.mono (by assumption) (by first | (simp; done) | (simp; omega) | omega))))⟩
  · have R : Hid (unitsN x = 0 ∧ unitsE x = 16) := Lib.hid ⟨by unfold unitsN; rw [if_neg h], by unfold unitsE; rw [if_neg h]⟩
    generalize intN x = ix at *
    rw [show unB x = false from decide_eq_false h] at UN
    go_enter Try.func33, Try.ntmps33
    go_wp2
    go_region_held3 (fun w' => w'.cell? ⟨w.heap.size, 0, none⟩ = some (.bool s) ∧ w'.cell? ⟨w.heap.size, 1, none⟩ = some (.slice A n c) ∧ w.heap.size < w'.heap.size ∧ Below w.heap.size w w')
      (first | (refine ⟨?_, ?_, ?_, ?_⟩ <;> first | (simp [go_sem, *]; done) | omega | (simp; omega) | exact (by repeat (first | exact Below.refl _ _ | refine Below.setCell ?_ (by first | (simp; done) | (simp; omega) | omega) _ | refine Below.alloc ?_ (by first | (simp; done) | (simp; omega) | omega) _ | refine Below.drew ?_ | assumption | refine Below.trans ?_ (Below.mono (by assumption) (by first | (simp; done) | (simp; omega) | omega))))))
      (first | (first | (go_at_call 36; refine (BA.out _).mono ?_; rintro e w9 ⟨⟨s9, A9, n9, c9, rfl, hP9⟩, hb9⟩; obtain ⟨hc9, hf9⟩ := bcell hb9; (try simp only [drew_size, drew_cell, drew_frozen] at hc9 hf9); have hs9 := hb9.size; (try simp at hs9); have hz9 : w.heap.size < w9.heap.size := (by have := hb9.size; (try simp at this); omega); have HP9 := Lib.hid hP9; clear hP9) | (go_at_call 35; refine (EV.out _ _ _ _ _ _ (by repeat (first | exact Below.refl _ _ | refine Below.setCell ?_ (by first | (simp; done) | (simp; omega) | omega) _ | refine Below.alloc ?_ (by first | (simp; done) | (simp; omega) | omega) _ | refine Below.drew ?_ | assumption | refine Below.trans ?_ (Below.mono (by assumption) (by first | (simp; done) | (simp; omega) | omega)))) HP9.out).mono ?_; rintro e w10 ⟨⟨s10, A10, n10, c10, rfl, hP10⟩, hb10⟩; obtain ⟨hc10, hf10⟩ := bcell hb10; (try simp only [drew_size, drew_cell, drew_frozen] at hc10 hf10); have hs10 := hb10.size; (try simp at hs10); have hz10 : w.heap.size < w10.heap.size := (by have := hb10.size; (try simp at this); omega); have HP10 := Lib.hid hP10; clear hP10) | (go_at_call 51; refine (UN.out _ _ _ _ _ _ HP10.out).mono ?_; rintro e w11 ⟨rfl, hb11⟩; obtain ⟨hc11, hf11⟩ := bcell hb11; (try simp only [drew_size, drew_cell, drew_frozen] at hc11 hf11); have hs11 := hb11.size; (try simp at hs11); have hz11 : w.heap.size < w11.heap.size := by have := hb11.size; (try simp at this); omega)))
    go_wp2
    go_ret2
    exact ⟨ret_ii R.out, (by repeat (first | exact Below.refl _ _ | refine Below.setCell ?_ (by first | (simp; done) | (simp; omega) | omega) _ | refine Below.alloc ?_ (by first | (simp; done) | (simp; omega) | omega) _ | refine Below.drew ?_ | assumption | refine Below.trans ?_ (Below.mono (by assumption) (by first | (simp; done) | (simp; omega) | omega))))⟩
end Go.Proofs.Ytehlmpndbmlklaa
