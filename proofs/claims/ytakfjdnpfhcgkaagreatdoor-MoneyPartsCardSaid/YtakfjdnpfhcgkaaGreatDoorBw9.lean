/-
  Contract of exref.BigQuo.
-/
import Derived.Test.YtakfjdnpfhcgkaaGreatDoorBw8
import Derived.Test.YtakfjdnpfhcgkaaGreatDoorBa
import Derived.Deep.CutRange
import Derived.Deep.RegionLaw
namespace Go.Proofs.YtakfjdnpfhcgkaaGreatDoor
set_option linter.all false
open Go.RowKit Go.Sort Go.Deep
attribute [local go_sem] cell_set_self lt_1 lt_2 lt_3 lt_4 lt_5 lt_6

theorem quo_step {d q : List Int} {j : Nat} {x b r z lo : Int} (h : vl (d.drop (j + 1)) = vl q * b + r) (hx : d[j]? = some x) (hz : z = 10000 * r + x) (h1 : b * lo ≤ z) (h2 : z < b * lo + b) :
    vl (d.drop j) = vl (lo :: q) * b + (z - b * lo) ∧ 0 ≤ z - b * lo ∧ z - b * lo < b := by
  obtain ⟨hj, e⟩ := List.getElem?_eq_some_iff.1 hx
  refine ⟨?_, by omega, by omega⟩
  rw [List.drop_eq_getElem_cons hj, e]
  simp only [vl]
  rw [h, Int.add_mul, Int.mul_assoc, Int.mul_comm lo b]
  generalize vl q * b = p at *
  generalize b * lo = t at *
  omega
theorem quo_end {m b : Nat} {q r : Int} (h : (m : Int) = q * b + r) (h0 : 0 ≤ r) (h1 : r < b) (hq : 0 ≤ q) : q = ((m / b : Nat) : Int) ∧ r = ((m % b : Nat) : Int) := by
  obtain ⟨q, rfl⟩ := Int.eq_ofNat_of_zero_le hq
  obtain ⟨r, rfl⟩ := Int.eq_ofNat_of_zero_le h0
  have h' : m = r + b * q := by
    have : (m : Int) = ((r + b * q : Nat) : Int) := by rw [h, Int.natCast_add, Int.natCast_mul, Int.mul_comm]; omega
    omega
  have hb : r < b := by omega
  subst h'
  rw [Nat.add_mul_div_left _ _ (by omega), Nat.add_mul_mod_self_left, Nat.div_eq_of_lt hb, Nat.mod_eq_of_lt hb]
  simp
theorem len48 {n : Nat} (h : n < 1000000000000000000000000000000000000000000000000) : (dgs n).length ≤ 12 := dgs_len (k := 12) (by
  rw [show (10000 : Nat) ^ 12 = 1000000000000000000000000000000000000000000000000 by decide]; exact h)

/-- A slice of ints behind 'base'. -/
def SlF (base : Nat) (w : World) (A : Option Addr) (c : Nat) (l : List Int) : Prop := Sl w A c l ∧ ∀ a, A = some a → base ≤ a.block
theorem SlF.below {base : Nat} {w W : World} {A : Option Addr} {c : Nat} {l : List Int} (T : SlF base w A c l) (h : Below w.heap.size w W) : SlF base W A c l := ⟨T.1.below h, T.2⟩
theorem SlF.setCell {base : Nat} {w : World} {A : Option Addr} {c : Nat} {l : List Int} (T : SlF base w A c l) {p : Addr} (u : Value) (hp : p.block < base) : SlF base (w.setCell p u) A c l := ⟨T.1.setCell u fun a ha => by have := T.2 a ha; omega, T.2⟩

/-- What BigQuo answers. -/
def Res2 (base : Nat) (w : World) (e : Ending) (y z : Int) : Prop :=
  ∃ s A n c s' A' n' c', e = .returned (.tuple #[.agg #[.bool s, .slice A n c], .agg #[.bool s', .slice A' n' c']]) ∧ Pt base w s A n c y ∧ Pt base w s' A' n' c' z
def quoV (a b : Int) : Int := if (decide (a < 0) != decide (b < 0)) then -((a.natAbs / b.natAbs : Nat) : Int) else (a.natAbs / b.natAbs : Nat)
def remV (a b : Int) : Int := if decide (a < 0) then -((a.natAbs % b.natAbs : Nat) : Int) else (a.natAbs % b.natAbs : Nat)

set_option maxHeartbeats 8000000 in
set_option maxRecDepth 100000 in
theorem bigQuo_any (s t : Bool) (A B : Option Addr) (na nb ca cb : Nat) (za zb : Int) (hza : za.natAbs < 10000000000000000000000000000000000000000) (hzb : zb.natAbs < 10000000000000000000000000000000000000000) (hzb0 : zb ≠ 0) (w : World) (P : Pt 0 w s A na ca za) (Q : Pt 0 w t B nb cb zb) :
    Calls Tryz.prog 23 #[.agg #[.bool s, .slice A na ca], .agg #[.bool t, .slice B nb cb]] w fun e w' => Res2 w.heap.size w' e (quoV za zb) (remV za zb) ∧ Below w.heap.size w w' := by
  obtain ⟨i0, hi0, hz0, hz1, hz2⟩ := info_parts Tryz.infoInt
  obtain ⟨hs1, hna1, S, _⟩ := P
  obtain ⟨hs2, hnb1, T, _⟩ := Q
  obtain ⟨b, hb⟩ : ∃ b, zb.natAbs = b := ⟨_, rfl⟩
  have hb0 : 0 < b := by omega
  have hbb : b < 10000000000000000000000000000000000000000 := by omega
  have na12 : na ≤ 12 := by rw [hna1]; exact len48 (by omega)
  have nb12 : nb ≤ 12 := by rw [hnb1]; exact len48 (by omega)
  -- the divisor without its sign
  have DP : Hid (∀ W, Below w.heap.size w W → Pt 0 W false B nb cb (b : Int)) := Lib.hid fun W h => ⟨by simp, by rw [hnb1, hb]; simp, by have := T.below h; rw [hb] at this; simpa using this, fun _ _ => Nat.zero_le _⟩
  have DA := Lib.hid (dgs_dig za.natAbs)
  have HA := Lib.hid hna1.symm
  have VA := Lib.hid (vl_dgs za.natAbs)
  obtain ⟨m, hm⟩ : ∃ m, za.natAbs = m := ⟨_, rfl⟩
  have SG : Hid (∀ q : Nat, (if (s != t) then -(q : Int) else q) = (if (decide (za < 0) != decide (zb < 0)) then -(q : Int) else q)) := Lib.hid fun q => by rw [hs1, hs2]
  have S := S.2.2
  rw [hm] at DA HA VA S
  have QV : Hid (quoV za zb = (if (s != t) then -((m / b : Nat) : Int) else (m / b : Nat)) ∧ remV za zb = (if s then -((m % b : Nat) : Int) else (m % b : Nat))) := Lib.hid (by unfold quoV remV; rw [hs1, hs2, hm, hb]; exact ⟨rfl, rfl⟩)
  generalize dgs m = d at *
  obtain ⟨W3, hW3⟩ : ∃ W3, W3 = (((w.alloc (.cells #[.bool s, .slice A na ca] 58)).alloc (.cells #[.bool t, .slice B nb cb] 58)).alloc (.cells #[.bool false, .slice none 0 0] 58)).alloc (.cells #[.bool false, .slice none 0 0] 58) := ⟨_, rfl⟩
  have K0 : Below w.heap.size w W3 := by rw [hW3]; exact (by repeat (first | exact Below.refl _ _ | refine Below.setCell ?_ (by first | (simp; done) | (simp; omega) | omega) _ | refine Below.alloc ?_ (by first | (simp; done) | (simp; omega) | omega) _ | refine Below.drew ?_ | assumption | refine Below.trans ?_ (Below.mono (by assumption) (by first | (simp; done) | (simp; omega) | omega))))
  have K1 : W3.heap.size = w.heap.size + 1 + 1 + 1 + 1 := by rw [hW3]; simp
  have CL : Hid (∀ W, Below (w.heap.size + 1 + 1 + 1 + 1) W3 W → (W.cell? ⟨w.heap.size, 0, none⟩ = some (.bool s) ∧ W.cell? ⟨w.heap.size, 1, none⟩ = some (.slice A na ca) ∧ W.cell? ⟨w.heap.size + 1, 0, none⟩ = some (.bool t) ∧ W.cell? ⟨w.heap.size + 1, 1, none⟩ = some (.slice B nb cb)) ∧ (W.cell? ⟨w.heap.size + 1 + 1, 0, none⟩ = some (.bool false) ∧ W.cell? ⟨w.heap.size + 1 + 1, 1, none⟩ = some (.slice none 0 0) ∧ W.cell? ⟨w.heap.size + 1 + 1 + 1, 0, none⟩ = some (.bool false) ∧ W.cell? ⟨w.heap.size + 1 + 1 + 1, 1, none⟩ = some (.slice none 0 0)) ∧ (W.frozen? ⟨w.heap.size + 1 + 1, 0, none⟩ = false ∧ W.frozen? ⟨w.heap.size + 1 + 1, 1, none⟩ = false ∧ W.frozen? ⟨w.heap.size + 1 + 1 + 1, 0, none⟩ = false ∧ W.frozen? ⟨w.heap.size + 1 + 1 + 1, 1, none⟩ = false) ∧ Below w.heap.size w W) := Lib.hid fun W hb => by
    have c : ∀ p : Addr, p.block < w.heap.size + 1 + 1 + 1 + 1 → W.cell? p = W3.cell? p := fun p hp => hb.cell hp
    have f : ∀ p : Addr, p.block < w.heap.size + 1 + 1 + 1 + 1 → W.frozen? p = W3.frozen? p := fun p hp => hb.frozen hp
    refine ⟨?_, ?_, ?_, K0.trans (hb.mono (by omega))⟩
    · rw [c _ (by first | (simp; done) | (simp; omega) | omega), c _ (by first | (simp; done) | (simp; omega) | omega), c _ (by first | (simp; done) | (simp; omega) | omega), c _ (by first | (simp; done) | (simp; omega) | omega), hW3]; simp [go_sem]
    · rw [c _ (by first | (simp; done) | (simp; omega) | omega), c _ (by first | (simp; done) | (simp; omega) | omega), c _ (by first | (simp; done) | (simp; omega) | omega), c _ (by first | (simp; done) | (simp; omega) | omega), hW3]; simp [go_sem]
    · rw [f _ (by first | (simp; done) | (simp; omega) | omega), f _ (by first | (simp; done) | (simp; omega) | omega), f _ (by first | (simp; done) | (simp; omega) | omega), f _ (by first | (simp; done) | (simp; omega) | omega), hW3]; simp [go_sem]
  have HW := Lib.hid hW3
  clear hs1 hs2 hna1 hnb1 hW3 K0 T hm hb
  go_enter Tryz.func23, Tryz.ntmps23
  go_wp2
  go_loopw [6, 9] (fun u i wr => ∃ (k : Nat) (z : Int) (q : List Int) (QA : Option Addr) (ql qc r n4 c4 : Nat) (A4 : Option Addr), k ≤ na ∧ z = k - 1 ∧ i = .int .i64 z ∧ u = .slice QA ql qc ∧ ql + k = na ∧
      Hid (vl (d.drop k) = vl q * b + r ∧ r < b ∧ Dgt q ∧ q.length = ql ∧ SlF (w.heap.size + 1 + 1 + 1 + 1 + 1 + 1) wr QA qc q ∧ Pt (w.heap.size + 1 + 1 + 1 + 1 + 1 + 1) wr false A4 n4 c4 (r : Int)) ∧
      (wr.cell? ⟨w.heap.size + 1 + 1 + 1 + 1, 0, none⟩ = some (.bool false) ∧ wr.cell? ⟨w.heap.size + 1 + 1 + 1 + 1, 1, none⟩ = some (.slice A4 n4 c4) ∧ wr.frozen? ⟨w.heap.size + 1 + 1 + 1 + 1, 0, none⟩ = false ∧ wr.frozen? ⟨w.heap.size + 1 + 1 + 1 + 1, 1, none⟩ = false) ∧
      (wr.cell? ⟨w.heap.size + 1 + 1 + 1 + 1 + 1, 0, none⟩ = some (.bool false) ∧ wr.cell? ⟨w.heap.size + 1 + 1 + 1 + 1 + 1, 1, none⟩ = some (.slice B nb cb)) ∧ w.heap.size + 1 + 1 + 1 + 1 + 1 + 1 ≤ wr.heap.size ∧ Below (w.heap.size + 1 + 1 + 1 + 1) W3 wr) (fun _ i _ => (intOf i + 1).toNat)
  case atStart => exact ⟨na, (na : Int) - 1, [], none, 0, 0, 0, 0, 0, none, by omega, rfl, rfl, rfl, by omega, Lib.hid ⟨by rw [List.drop_eq_nil_of_le (by rw [HA.out]; exact Nat.le_refl _)]; simp [vl], hb0, Dgt.nil, rfl, ⟨Sl.nil _, fun a h => by cases h⟩, Pt.zero _ _⟩, by refine ⟨?_, ?_, ?_, ?_⟩ <;> (simp [go_sem, *]; done), by refine ⟨?_, ?_⟩ <;> (simp [go_sem, *]; done), by simp, by rw [HW.out]; exact Below.alloc (Below.alloc (Below.refl _ _) (by simp) _) (by simp) _⟩
  case round =>
    obtain ⟨k, z, q, QA, ql, qc, r, n4, c4, A4, hk, hz, rfl, rfl, hq, hI, ⟨c40, c41, f40, f41⟩, ⟨c50, c51⟩, hs9, hB⟩ := hrel
    obtain ⟨⟨c00, c01, c10, c11⟩, ⟨c20, c21, c30, c31⟩, ⟨f20, f21, f30, f31⟩, hBw⟩ := CL.out _ hB
    have hzz : w.heap.size < wr.heap.size ∧ w.heap.size + 1 < wr.heap.size ∧ w.heap.size + 1 + 1 < wr.heap.size ∧ w.heap.size + 1 + 1 + 1 < wr.heap.size ∧ w.heap.size + 1 + 1 + 1 + 1 < wr.heap.size ∧ w.heap.size + 1 + 1 + 1 + 1 + 1 < wr.heap.size := by omega
    have hs7 := hBw.size
    rcases Nat.eq_zero_or_pos k with h0 | h0
    · subst h0
      have hz' : z = -1 := by omega
      subst hz'
      have ek : ql = na := by omega
      have E := quo_end (by have := hI.out.1; rw [List.drop_zero, VA.out] at this; exact this) (by omega) (by have := hI.out.2.1; omega) (vl_nonneg hI.out.2.2.1)
      have ql12 : ql ≤ 12 := by omega
      have TQ : Hid (∀ W, Below wr.heap.size wr W → Calls Tryz.prog 51 #[.bool (s != t), .slice QA ql qc] W fun e w' => Res W.heap.size w' e (quoV za zb) ∧ Below W.heap.size W w') := Lib.hid fun W h => by
        rw [QV.out.1]; exact trim_dgs (s != t) (m / b) _ rfl QA ql qc q hI.out.2.2.2.1 (by omega) hI.out.2.2.1 E.1 W (hI.out.2.2.2.2.1.1.below h)
      have hr4 : (dgs r).length = n4 := by have := hI.out.2.2.2.2.2.2.1; simpa using this.symm
      have n412 : n4 ≤ 12 := by rw [← hr4]; exact len48 (by have := hI.out.2.1; omega)
      have TM : Hid (∀ W, Below wr.heap.size wr W → Calls Tryz.prog 51 #[.bool s, .slice A4 n4 c4] W fun e w' => Res W.heap.size w' e (remV za zb) ∧ Below W.heap.size W w') := Lib.hid fun W h => by
        rw [QV.out.2]; exact trim_dgs s (m % b) _ rfl A4 n4 c4 (dgs r) hr4 (by omega) (dgs_dig r) (by rw [vl_dgs]; exact E.2) W ((by have := hI.out.2.2.2.2.2.2.2.1; simpa using this : Sl wr A4 c4 (dgs r)).below h)
      clear E hI hr4 c11 c50 c51 hq hz ek
      rcases s <;> rcases t
      · go_wp2
        go_region_held3 (fun w' => w'.cell? ⟨w.heap.size, 0, none⟩ = some (.bool false) ∧ w'.cell? ⟨w.heap.size + 1, 0, none⟩ = some (.bool false) ∧ w'.cell? ⟨w.heap.size + 1 + 1 + 1 + 1, 1, none⟩ = some (.slice A4 n4 c4) ∧ w.heap.size < w'.heap.size ∧ Below w.heap.size w w')
      (first | (refine ⟨?_, ?_, ?_, ?_, ?_⟩ <;> first | (simp [go_sem, *]; done) | omega | (simp; omega) | exact (by repeat (first | exact Below.refl _ _ | refine Below.setCell ?_ (by first | (simp; done) | (simp; omega) | omega) _ | refine Below.alloc ?_ (by first | (simp; done) | (simp; omega) | omega) _ | refine Below.drew ?_ | assumption | refine Below.trans ?_ (Below.mono (by assumption) (by first | (simp; done) | (simp; omega) | omega))))))
      (first | (first | ((fail_if_success (have hq5 := HP5)); go_at_call 51; refine (TQ.out _ (by repeat (first | exact Below.refl _ _ | refine Below.drew ?_ | assumption | refine Below.trans ?_ (Below.mono (by assumption) (by first | (simp; done) | (simp; omega) | omega))))).mono ?_; rintro e w5 ⟨⟨s5, A5, n5, c5, rfl, hP5⟩, hb5⟩; obtain ⟨hc5, hf5⟩ := bcell hb5; (try simp only [drew_size, drew_cell, drew_frozen] at hc5 hf5); have hs5 := hb5.size; (try simp at hs5); have hz5 : w.heap.size < w5.heap.size ∧ w.heap.size + 1 < w5.heap.size ∧ w.heap.size + 1 + 1 < w5.heap.size ∧ w.heap.size + 1 + 1 + 1 < w5.heap.size ∧ w.heap.size + 1 + 1 + 1 + 1 < w5.heap.size := (by have := hb5.size; (try simp at this); omega); have HP5 := Lib.hid hP5; clear hP5) | (have hq5 := HP5; clear hq5; go_at_call 51; refine (TM.out _ (by repeat (first | exact Below.refl _ _ | refine Below.drew ?_ | assumption | refine Below.trans ?_ (Below.mono (by assumption) (by first | (simp; done) | (simp; omega) | omega))))).mono ?_; rintro e w6 ⟨⟨s6, A6, n6, c6, rfl, hP6⟩, hb6⟩; obtain ⟨hc6, hf6⟩ := bcell hb6; (try simp only [drew_size, drew_cell, drew_frozen] at hc6 hf6); have hs6 := hb6.size; (try simp at hs6); have hz6 : w.heap.size < w6.heap.size ∧ w.heap.size + 1 < w6.heap.size ∧ w.heap.size + 1 + 1 < w6.heap.size ∧ w.heap.size + 1 + 1 + 1 < w6.heap.size ∧ w.heap.size + 1 + 1 + 1 + 1 < w6.heap.size := (by have := hb6.size; (try simp at this); omega); have HP6 := Lib.hid hP6; clear hP6)))
        go_wp2
        exact bodyPost_ret (v := .tuple #[.agg #[.bool s5, .slice A5 n5 c5], .agg #[.bool s6, .slice A6 n6 c6]]) (by simp [results, Tryz.results23, go_sem, *]) rfl ⟨⟨_, _, _, _, _, _, _, _, rfl, (((((HP5.out.below hb6).setCell _ (by first | (simp; done) | (simp; omega) | omega)).setCell _ (by first | (simp; done) | (simp; omega) | omega)).setCell _ (by first | (simp; done) | (simp; omega) | omega)).setCell _ (by first | (simp; done) | (simp; omega) | omega)).mono (by first | (simp; done) | (simp; omega) | omega), ((((HP6.out.setCell _ (by first | (simp; done) | (simp; omega) | omega)).setCell _ (by first | (simp; done) | (simp; omega) | omega)).setCell _ (by first | (simp; done) | (simp; omega) | omega)).setCell _ (by first | (simp; done) | (simp; omega) | omega)).mono (by first | (simp; done) | (simp; omega) | omega)⟩, (by repeat (first | exact Below.refl _ _ | refine Below.setCell ?_ (by first | (simp; done) | (simp; omega) | omega) _ | refine Below.alloc ?_ (by first | (simp; done) | (simp; omega) | omega) _ | refine Below.drew ?_ | assumption | refine Below.trans ?_ (Below.mono (by assumption) (by first | (simp; done) | (simp; omega) | omega))))⟩
      · go_wp2
        go_region_held3 (fun w' => w'.cell? ⟨w.heap.size, 0, none⟩ = some (.bool false) ∧ w'.cell? ⟨w.heap.size + 1, 0, none⟩ = some (.bool true) ∧ w'.cell? ⟨w.heap.size + 1 + 1 + 1 + 1, 1, none⟩ = some (.slice A4 n4 c4) ∧ w.heap.size < w'.heap.size ∧ Below w.heap.size w w')
      (first | (refine ⟨?_, ?_, ?_, ?_, ?_⟩ <;> first | (simp [go_sem, *]; done) | omega | (simp; omega) | exact (by repeat (first | exact Below.refl _ _ | refine Below.setCell ?_ (by first | (simp; done) | (simp; omega) | omega) _ | refine Below.alloc ?_ (by first | (simp; done) | (simp; omega) | omega) _ | refine Below.drew ?_ | assumption | refine Below.trans ?_ (Below.mono (by assumption) (by first | (simp; done) | (simp; omega) | omega))))))
      (first | (first | ((fail_if_success (have hq5 := HP5)); go_at_call 51; refine (TQ.out _ (by repeat (first | exact Below.refl _ _ | refine Below.drew ?_ | assumption | refine Below.trans ?_ (Below.mono (by assumption) (by first | (simp; done) | (simp; omega) | omega))))).mono ?_; rintro e w5 ⟨⟨s5, A5, n5, c5, rfl, hP5⟩, hb5⟩; obtain ⟨hc5, hf5⟩ := bcell hb5; (try simp only [drew_size, drew_cell, drew_frozen] at hc5 hf5); have hs5 := hb5.size; (try simp at hs5); have hz5 : w.heap.size < w5.heap.size ∧ w.heap.size + 1 < w5.heap.size ∧ w.heap.size + 1 + 1 < w5.heap.size ∧ w.heap.size + 1 + 1 + 1 < w5.heap.size ∧ w.heap.size + 1 + 1 + 1 + 1 < w5.heap.size := (by have := hb5.size; (try simp at this); omega); have HP5 := Lib.hid hP5; clear hP5) | (have hq5 := HP5; clear hq5; go_at_call 51; refine (TM.out _ (by repeat (first | exact Below.refl _ _ | refine Below.drew ?_ | assumption | refine Below.trans ?_ (Below.mono (by assumption) (by first | (simp; done) | (simp; omega) | omega))))).mono ?_; rintro e w6 ⟨⟨s6, A6, n6, c6, rfl, hP6⟩, hb6⟩; obtain ⟨hc6, hf6⟩ := bcell hb6; (try simp only [drew_size, drew_cell, drew_frozen] at hc6 hf6); have hs6 := hb6.size; (try simp at hs6); have hz6 : w.heap.size < w6.heap.size ∧ w.heap.size + 1 < w6.heap.size ∧ w.heap.size + 1 + 1 < w6.heap.size ∧ w.heap.size + 1 + 1 + 1 < w6.heap.size ∧ w.heap.size + 1 + 1 + 1 + 1 < w6.heap.size := (by have := hb6.size; (try simp at this); omega); have HP6 := Lib.hid hP6; clear hP6)))
        go_wp2
        exact bodyPost_ret (v := .tuple #[.agg #[.bool s5, .slice A5 n5 c5], .agg #[.bool s6, .slice A6 n6 c6]]) (by simp [results, Tryz.results23, go_sem, *]) rfl ⟨⟨_, _, _, _, _, _, _, _, rfl, (((((HP5.out.below hb6).setCell _ (by first | (simp; done) | (simp; omega) | omega)).setCell _ (by first | (simp; done) | (simp; omega) | omega)).setCell _ (by first | (simp; done) | (simp; omega) | omega)).setCell _ (by first | (simp; done) | (simp; omega) | omega)).mono (by first | (simp; done) | (simp; omega) | omega), ((((HP6.out.setCell _ (by first | (simp; done) | (simp; omega) | omega)).setCell _ (by first | (simp; done) | (simp; omega) | omega)).setCell _ (by first | (simp; done) | (simp; omega) | omega)).setCell _ (by first | (simp; done) | (simp; omega) | omega)).mono (by first | (simp; done) | (simp; omega) | omega)⟩, (by repeat (first | exact Below.refl _ _ | refine Below.setCell ?_ (by first | (simp; done) | (simp; omega) | omega) _ | refine Below.alloc ?_ (by first | (simp; done) | (simp; omega) | omega) _ | refine Below.drew ?_ | assumption | refine Below.trans ?_ (Below.mono (by assumption) (by first | (simp; done) | (simp; omega) | omega))))⟩
      · go_wp2
        go_region_held3 (fun w' => w'.cell? ⟨w.heap.size, 0, none⟩ = some (.bool true) ∧ w'.cell? ⟨w.heap.size + 1, 0, none⟩ = some (.bool false) ∧ w'.cell? ⟨w.heap.size + 1 + 1 + 1 + 1, 1, none⟩ = some (.slice A4 n4 c4) ∧ w.heap.size < w'.heap.size ∧ Below w.heap.size w w')
      (first | (refine ⟨?_, ?_, ?_, ?_, ?_⟩ <;> first | (simp [go_sem, *]; done) | omega | (simp; omega) | exact (by repeat (first | exact Below.refl _ _ | refine Below.setCell ?_ (by first | (simp; done) | (simp; omega) | omega) _ | refine Below.alloc ?_ (by first | (simp; done) | (simp; omega) | omega) _ | refine Below.drew ?_ | assumption | refine Below.trans ?_ (Below.mono (by assumption) (by first | (simp; done) | (simp; omega) | omega))))))
      (first | (first | ((fail_if_success (have hq5 := HP5)); go_at_call 51; refine (TQ.out _ (by repeat (first | exact Below.refl _ _ | refine Below.drew ?_ | assumption | refine Below.trans ?_ (Below.mono (by assumption) (by first | (simp; done) | (simp; omega) | omega))))).mono ?_; rintro e w5 ⟨⟨s5, A5, n5, c5, rfl, hP5⟩, hb5⟩; obtain ⟨hc5, hf5⟩ := bcell hb5; (try simp only [drew_size, drew_cell, drew_frozen] at hc5 hf5); have hs5 := hb5.size; (try simp at hs5); have hz5 : w.heap.size < w5.heap.size ∧ w.heap.size + 1 < w5.heap.size ∧ w.heap.size + 1 + 1 < w5.heap.size ∧ w.heap.size + 1 + 1 + 1 < w5.heap.size ∧ w.heap.size + 1 + 1 + 1 + 1 < w5.heap.size := (by have := hb5.size; (try simp at this); omega); have HP5 := Lib.hid hP5; clear hP5) | (have hq5 := HP5; clear hq5; go_at_call 51; refine (TM.out _ (by repeat (first | exact Below.refl _ _ | refine Below.drew ?_ | assumption | refine Below.trans ?_ (Below.mono (by assumption) (by first | (simp; done) | (simp; omega) | omega))))).mono ?_; rintro e w6 ⟨⟨s6, A6, n6, c6, rfl, hP6⟩, hb6⟩; obtain ⟨hc6, hf6⟩ := bcell hb6; (try simp only [drew_size, drew_cell, drew_frozen] at hc6 hf6); have hs6 := hb6.size; (try simp at hs6); have hz6 : w.heap.size < w6.heap.size ∧ w.heap.size + 1 < w6.heap.size ∧ w.heap.size + 1 + 1 < w6.heap.size ∧ w.heap.size + 1 + 1 + 1 < w6.heap.size ∧ w.heap.size + 1 + 1 + 1 + 1 < w6.heap.size := (by have := hb6.size; (try simp at this); omega); have HP6 := Lib.hid hP6; clear hP6)))
        go_wp2
        exact bodyPost_ret (v := .tuple #[.agg #[.bool s5, .slice A5 n5 c5], .agg #[.bool s6, .slice A6 n6 c6]]) (by simp [results, Tryz.results23, go_sem, *]) rfl ⟨⟨_, _, _, _, _, _, _, _, rfl, (((((HP5.out.below hb6).setCell _ (by first | (simp; done) | (simp; omega) | omega)).setCell _ (by first | (simp; done) | (simp; omega) | omega)).setCell _ (by first | (simp; done) | (simp; omega) | omega)).setCell _ (by first | (simp; done) | (simp; omega) | omega)).mono (by first | (simp; done) | (simp; omega) | omega), ((((HP6.out.setCell _ (by first | (simp; done) | (simp; omega) | omega)).setCell _ (by first | (simp; done) | (simp; omega) | omega)).setCell _ (by first | (simp; done) | (simp; omega) | omega)).setCell _ (by first | (simp; done) | (simp; omega) | omega)).mono (by first | (simp; done) | (simp; omega) | omega)⟩, (by repeat (first | exact Below.refl _ _ | refine Below.setCell ?_ (by first | (simp; done) | (simp; omega) | omega) _ | refine Below.alloc ?_ (by first | (simp; done) | (simp; omega) | omega) _ | refine Below.drew ?_ | assumption | refine Below.trans ?_ (Below.mono (by assumption) (by first | (simp; done) | (simp; omega) | omega))))⟩
      · go_wp2
        go_region_held3 (fun w' => w'.cell? ⟨w.heap.size, 0, none⟩ = some (.bool true) ∧ w'.cell? ⟨w.heap.size + 1, 0, none⟩ = some (.bool true) ∧ w'.cell? ⟨w.heap.size + 1 + 1 + 1 + 1, 1, none⟩ = some (.slice A4 n4 c4) ∧ w.heap.size < w'.heap.size ∧ Below w.heap.size w w')
      (first | (refine ⟨?_, ?_, ?_, ?_, ?_⟩ <;> first | (simp [go_sem, *]; done) | omega | (simp; omega) | exact (by repeat (first | exact Below.refl _ _ | refine Below.setCell ?_ (by first | (simp; done) | (simp; omega) | omega) _ | refine Below.alloc ?_ (by first | (simp; done) | (simp; omega) | omega) _ | refine Below.drew ?_ | assumption | refine Below.trans ?_ (Below.mono (by assumption) (by first | (simp; done) | (simp; omega) | omega))))))
      (first | (first | ((fail_if_success (have hq5 := HP5)); go_at_call 51; refine (TQ.out _ (by repeat (first | exact Below.refl _ _ | refine Below.drew ?_ | assumption | refine Below.trans ?_ (Below.mono (by assumption) (by first | (simp; done) | (simp; omega) | omega))))).mono ?_; rintro e w5 ⟨⟨s5, A5, n5, c5, rfl, hP5⟩, hb5⟩; obtain ⟨hc5, hf5⟩ := bcell hb5; (try simp only [drew_size, drew_cell, drew_frozen] at hc5 hf5); have hs5 := hb5.size; (try simp at hs5); have hz5 : w.heap.size < w5.heap.size ∧ w.heap.size + 1 < w5.heap.size ∧ w.heap.size + 1 + 1 < w5.heap.size ∧ w.heap.size + 1 + 1 + 1 < w5.heap.size ∧ w.heap.size + 1 + 1 + 1 + 1 < w5.heap.size := (by have := hb5.size; (try simp at this); omega); have HP5 := Lib.hid hP5; clear hP5) | (have hq5 := HP5; clear hq5; go_at_call 51; refine (TM.out _ (by repeat (first | exact Below.refl _ _ | refine Below.drew ?_ | assumption | refine Below.trans ?_ (Below.mono (by assumption) (by first | (simp; done) | (simp; omega) | omega))))).mono ?_; rintro e w6 ⟨⟨s6, A6, n6, c6, rfl, hP6⟩, hb6⟩; obtain ⟨hc6, hf6⟩ := bcell hb6; (try simp only [drew_size, drew_cell, drew_frozen] at hc6 hf6); have hs6 := hb6.size; (try simp at hs6); have hz6 : w.heap.size < w6.heap.size ∧ w.heap.size + 1 < w6.heap.size ∧ w.heap.size + 1 + 1 < w6.heap.size ∧ w.heap.size + 1 + 1 + 1 < w6.heap.size ∧ w.heap.size + 1 + 1 + 1 + 1 < w6.heap.size := (by have := hb6.size; (try simp at this); omega); have HP6 := Lib.hid hP6; clear hP6)))
        go_wp2
        exact bodyPost_ret (v := .tuple #[.agg #[.bool s5, .slice A5 n5 c5], .agg #[.bool s6, .slice A6 n6 c6]]) (by simp [results, Tryz.results23, go_sem, *]) rfl ⟨⟨_, _, _, _, _, _, _, _, rfl, (((((HP5.out.below hb6).setCell _ (by first | (simp; done) | (simp; omega) | omega)).setCell _ (by first | (simp; done) | (simp; omega) | omega)).setCell _ (by first | (simp; done) | (simp; omega) | omega)).setCell _ (by first | (simp; done) | (simp; omega) | omega)).mono (by first | (simp; done) | (simp; omega) | omega), ((((HP6.out.setCell _ (by first | (simp; done) | (simp; omega) | omega)).setCell _ (by first | (simp; done) | (simp; omega) | omega)).setCell _ (by first | (simp; done) | (simp; omega) | omega)).setCell _ (by first | (simp; done) | (simp; omega) | omega)).mono (by first | (simp; done) | (simp; omega) | omega)⟩, (by repeat (first | exact Below.refl _ _ | refine Below.setCell ?_ (by first | (simp; done) | (simp; omega) | omega) _ | refine Below.alloc ?_ (by first | (simp; done) | (simp; omega) | omega) _ | refine Below.drew ?_ | assumption | refine Below.trans ?_ (Below.mono (by assumption) (by first | (simp; done) | (simp; omega) | omega))))⟩
    · obtain ⟨j, rfl⟩ : ∃ j, k = j + 1 := ⟨k - 1, by omega⟩
      have hz' : z = (j : Int) := by omega
      subst hz'
      clear hz
      obtain ⟨x, hx⟩ : ∃ x, d[j]? = some x := ⟨_, List.getElem?_eq_getElem (by rw [HA.out]; omega)⟩
      obtain ⟨g, off, rfl, hgb, hc⟩ := S j x hx
      have q0 := (hBw.cell (p := ⟨g, off + j, none⟩) hgb).trans hc
      have hgw : g < wr.heap.size := by omega
      obtain ⟨bx0, bx1⟩ := DA.out.at_ hx
      obtain ⟨y, rfl⟩ := Int.eq_ofNat_of_zero_le bx0
      have hr4 : (dgs r).length = n4 := by have := hI.out.2.2.2.2.2.2.1; simpa using this.symm
      have n412 : n4 ≤ 12 := by rw [← hr4]; exact len48 (by have := hI.out.2.1; omega)
      obtain ⟨z1, hz1'⟩ : ∃ z1, 10000 * r + y = z1 := ⟨_, rfl⟩
      have TR : Hid (∀ C c W, Sl W C c ((y : Int) :: dgs r) → Calls Tryz.prog 51 #[.bool false, .slice C (1 + n4) c] W fun e w' => Res W.heap.size w' e (z1 : Int) ∧ Below W.heap.size W w') := Lib.hid fun C c W X =>
        trim_dgs false z1 z1 (by simp) C (1 + n4) c _ (by rw [List.length_cons, hr4]; omega) (by omega) (Dgt.cons bx0 bx1 (dgs_dig r)) (by rw [vl, vl_dgs]; omega) W X
      have S4 : Hid (Sl wr A4 c4 (dgs r)) := Lib.hid (by have := hI.out.2.2.2.2.2.2.2.1; simpa using this)
      have HX := Lib.hid hx; have HR4 := Lib.hid hr4
      have j0 : (j : Int) < (na : Int) := by omega
      clear hx hc hr4
      go_wp2
      go_cut [] from 21 to 61 (fun wc => ∃ (A7 : Option Addr) (n7 c7 : Nat), Hid (Pt (w.heap.size + 1 + 1 + 1 + 1 + 1 + 1) wc false A7 n7 c7 (z1 : Int) ∧ SlF (w.heap.size + 1 + 1 + 1 + 1 + 1 + 1) wc QA qc q) ∧ (wc.cell? ⟨w.heap.size + 1 + 1 + 1 + 1, 0, none⟩ = some (.bool false) ∧ wc.cell? ⟨w.heap.size + 1 + 1 + 1 + 1, 1, none⟩ = some (.slice A7 n7 c7) ∧ wc.frozen? ⟨w.heap.size + 1 + 1 + 1 + 1, 0, none⟩ = false ∧ wc.frozen? ⟨w.heap.size + 1 + 1 + 1 + 1, 1, none⟩ = false) ∧ (wc.cell? ⟨w.heap.size + 1 + 1 + 1 + 1 + 1, 0, none⟩ = some (.bool false) ∧ wc.cell? ⟨w.heap.size + 1 + 1 + 1 + 1 + 1, 1, none⟩ = some (.slice B nb cb)) ∧ w.heap.size + 1 + 1 + 1 + 1 + 1 + 1 ≤ wc.heap.size ∧ Below (w.heap.size + 1 + 1 + 1 + 1) W3 wc)
      case first =>
        go_region_law (first | (refine step_append_sl _ rfl (.tmp 30) (.tmp 32) 24 rfl (w.heap.size + 1 + 1 + 1 + 1 + 1 + 1) i0 Tryz.underlying24 hi0 hz0 hz1 hz2 (.slice (some ⟨wr.heap.size, 0, none⟩) 1 1) 1 [.int .i64 y] rfl (own_one wr _ _ _ (by omega) rfl) A4 n4 c4 (dgs r) rfl HR4.out (S4.out.below (by repeat (first | exact Below.refl _ _ | refine Below.alloc ?_ (by simp) _ | refine Below.drew ?_))) (by unfold maxLen; omega) (by omega) (by first | (simp; done) | (simp; omega) | omega) ?_; intro v8 w8 hown8 hg8; obtain ⟨C, cc, rfl, hSC, _⟩ := sl_own (l := (y : Int) :: dgs r) hown8 (by rw [List.length_cons, HR4.out]; omega) (by simp); have HSC := Lib.hid hSC; have hb8 : Below wr.heap.size wr w8 := Below.grown (by repeat (first | exact Below.refl _ _ | refine Below.alloc ?_ (by simp) _ | refine Below.drew ?_)) hg8 (by first | (simp; done) | (simp; omega) | omega) (fun j hj => by simp [Value.ownBlock] at hj; omega); obtain ⟨hc8, hf8⟩ := bcell hb8; have hs8 := hb8.size; have hz8 : g < w8.heap.size ∧ w.heap.size < w8.heap.size ∧ w.heap.size + 1 < w8.heap.size ∧ w.heap.size + 1 + 1 < w8.heap.size ∧ w.heap.size + 1 + 1 + 1 < w8.heap.size ∧ w.heap.size + 1 + 1 + 1 + 1 < w8.heap.size ∧ w.heap.size + 1 + 1 + 1 + 1 + 1 < w8.heap.size := (by omega); clear hSC hown8 hg8) | (go_simp; go_at_call 51; refine (TR.out _ _ _ HSC.out).mono ?_; rintro e w9 ⟨⟨s2, A7, n7, c7, rfl, hP⟩, hb9⟩; obtain ⟨hc9, hf9⟩ := bcell hb9; (try simp only [drew_size, drew_cell, drew_frozen] at hc9 hf9); have hs9 := hb9.size; (try simp at hs9); have hz9 : w.heap.size < w9.heap.size ∧ w.heap.size + 1 < w9.heap.size ∧ w.heap.size + 1 + 1 < w9.heap.size ∧ w.heap.size + 1 + 1 + 1 < w9.heap.size ∧ w.heap.size + 1 + 1 + 1 + 1 < w9.heap.size ∧ w.heap.size + 1 + 1 + 1 + 1 + 1 < w9.heap.size := (by have := hb9.size; (try simp at this); omega); have e2 : s2 = false := (by rw [hP.1]; exact decide_eq_false (by omega)); subst e2; have HP := Lib.hid hP; clear hP))
        all_goals (go_wp2_with (fail); go_meet; exact ⟨A7, n7, c7, Lib.hid ⟨((HP.out.setCell _ (by first | (simp; done) | (simp; omega) | omega)).setCell _ (by first | (simp; done) | (simp; omega) | omega)).mono (by first | (simp; done) | (simp; omega) | omega), ((hI.out.2.2.2.2.1.below (hb8.trans (hb9.mono hs8))).setCell _ (by first | (simp; done) | (simp; omega) | omega)).setCell _ (by first | (simp; done) | (simp; omega) | omega)⟩, (by refine ⟨?_, ?_, ?_, ?_⟩ <;> (simp [go_sem, *]; done)), (by refine ⟨?_, ?_⟩ <;> (simp [go_sem, *]; done)), (by first | (simp; done) | (simp; omega) | omega), Below.setCell (Below.setCell (hB.trans ((hb8.trans (hb9.mono hs8)).mono (by first | (simp; done) | (simp; omega) | omega))) (by first | (simp; done) | (simp; omega) | omega) _) (by first | (simp; done) | (simp; omega) | omega) _⟩)
      case rest =>
        obtain ⟨A7, n7, c7, hP7, ⟨e40, e41, g40, g41⟩, ⟨e50, e51⟩, hs10, hB10⟩ := hcut
        obtain ⟨_, _, _, hBc⟩ := CL.out _ hB10
        have hr1 : r < b := hI.out.2.1
        have n712 : n7 ≤ 12 := by have := hP7.out.1.2.1; rw [this]; exact len48 (by omega)
        have zc : w.heap.size < wc.heap.size ∧ w.heap.size + 1 < wc.heap.size ∧ w.heap.size + 1 + 1 < wc.heap.size ∧ w.heap.size + 1 + 1 + 1 < wc.heap.size ∧ w.heap.size + 1 + 1 + 1 + 1 < wc.heap.size ∧ w.heap.size + 1 + 1 + 1 + 1 + 1 < wc.heap.size := by omega
        clear c40 c41 f40 f41 c50 c51 c00 c01 c10 c11 c20 c21 c30 c31 f20 f21 f30 f31 hBw hB hs9 hs7 hzz q0 hgw S4 TR
        go_wp2
        go_loopw [10, 11] (fun l h wi => ∃ lo hi : Int, l = .int .i64 lo ∧ h = .int .i64 hi ∧ 0 ≤ lo ∧ lo < hi ∧ hi ≤ 10000 ∧ Hid ((b : Int) * lo ≤ z1 ∧ (z1 : Int) < b * hi) ∧ Below wc.heap.size wc wi) (fun l h _ => (intOf h - intOf l).toNat)
        case atStart => exact ⟨0, 10000, rfl, rfl, by omega, by omega, by omega, Lib.hid ⟨by omega, by omega⟩, Below.refl _ _⟩
        case round =>
          obtain ⟨lo, hi, rfl, rfl, l0, lh, h1, hI2, hB2⟩ := hrel
          have p40 := (hB2.cell (p := ⟨w.heap.size + 1 + 1 + 1 + 1, 0, none⟩) (by simp; omega)).trans e40
          have p41 := (hB2.cell (p := ⟨w.heap.size + 1 + 1 + 1 + 1, 1, none⟩) (by simp; omega)).trans e41
          have r40 := (hB2.frozen (p := ⟨w.heap.size + 1 + 1 + 1 + 1, 0, none⟩) (by simp; omega)).trans g40
          have r41 := (hB2.frozen (p := ⟨w.heap.size + 1 + 1 + 1 + 1, 1, none⟩) (by simp; omega)).trans g41
          have p50 := (hB2.cell (p := ⟨w.heap.size + 1 + 1 + 1 + 1 + 1, 0, none⟩) (by simp; omega)).trans e50
          have p51 := (hB2.cell (p := ⟨w.heap.size + 1 + 1 + 1 + 1 + 1, 1, none⟩) (by simp; omega)).trans e51
          have hs2 := hB2.size
          have zi : w.heap.size < wr.heap.size ∧ w.heap.size + 1 < wr.heap.size ∧ w.heap.size + 1 + 1 < wr.heap.size ∧ w.heap.size + 1 + 1 + 1 < wr.heap.size ∧ w.heap.size + 1 + 1 + 1 + 1 < wr.heap.size ∧ w.heap.size + 1 + 1 + 1 + 1 + 1 < wr.heap.size := by omega
          have hBi : Below w.heap.size w wr := hBc.trans (hB2.mono hBc.size)
          have BO : ∀ mid : Int, 0 ≤ mid → mid ≤ 10000 → Hid (∀ W, Calls Tryz.prog 25 #[.int .i64 mid] W fun e w' => Res W.heap.size w' e mid ∧ Below W.heap.size W w') := fun mid m0 m1 => Lib.hid fun W => bigOf_any mid ⟨by omega, by omega⟩ W
          have MU : ∀ mid : Int, 0 ≤ mid → mid ≤ 10000 → Hid (∀ s A n c W base, Below w.heap.size w W → Pt base W s A n c mid → Calls Tryz.prog 24 #[.agg #[.bool false, .slice B nb cb], .agg #[.bool s, .slice A n c]] W fun e w' => Res W.heap.size w' e ((b : Int) * mid) ∧ Below W.heap.size W w') := fun mid m0 m1 => Lib.hid fun s A n c W base hb X => bigMul_any false s B A nb n cb c b mid (by omega) (by rw [X.2.1]; have := len48 (n := mid.natAbs) (by omega); omega) W (DP.out W hb) (X.mono (Nat.zero_le _))
          have bm : ∀ mid : Int, 0 ≤ mid → mid ≤ 10000 → 0 ≤ (b : Int) * mid ∧ (b : Int) * mid ≤ 100000000000000000000000000000000000000000000 := fun mid m0 m1 => by
            have := Int.mul_le_mul_of_nonneg_left m1 (show (0 : Int) ≤ b by omega)
            exact ⟨Int.mul_nonneg (by omega) m0, by omega⟩
          by_cases hd : 1 < hi - lo
          · obtain ⟨mid, hm⟩ : ∃ mid, (lo + hi).tdiv 2 = mid := ⟨_, rfl⟩
            have hm2 : lo < mid ∧ mid < hi := by rw [Int.tdiv_eq_ediv_of_nonneg (by omega)] at hm; omega
            obtain ⟨hm3, hm4⟩ := hm2
            have BO' := BO mid (by omega) (by omega); have MU' := MU mid (by omega) (by omega)
            have bm' := bm mid (by omega) (by omega)
            obtain ⟨cv, hcv⟩ : ∃ cv, cmpI ((b : Int) * mid) z1 = cv := ⟨_, rfl⟩
            have CX : Hid (∀ s A n c W base, Below wc.heap.size wc W → Pt base W s A n c ((b : Int) * mid) → Calls Tryz.prog 28 #[.agg #[.bool s, .slice A n c], .agg #[.bool false, .slice A7 n7 c7]] W fun e w' => e = .returned (.int .i64 cv) ∧ Below W.heap.size W w') := Lib.hid fun s A n c W base hb X => by
              rw [← hcv]; exact bigCmp_any s false A A7 n n7 c c7 _ z1 (by rw [X.2.1]; have := len48 (n := ((b : Int) * mid).natAbs) (by omega); omega) (by omega) W (X.mono (Nat.zero_le _)) ((hP7.out.1.below hb).mono (Nat.zero_le _))
            clear BO MU bm hI
            by_cases hle : (b : Int) * mid ≤ z1
            · have cv0 : cv ≤ 0 := by
                rw [← hcv]; unfold cmpI
                repeat' split
                all_goals omega
              clear hcv
              have HI := Lib.hid (show (b : Int) * mid ≤ z1 ∧ (z1 : Int) < b * hi from ⟨hle, hI2.out.2⟩)
              clear hI2
              go_wp2
              go_region_held3 (fun w' => w'.cell? ⟨w.heap.size + 1 + 1 + 1 + 1, 0, none⟩ = some (.bool false) ∧ w'.cell? ⟨w.heap.size + 1 + 1 + 1 + 1, 1, none⟩ = some (.slice A7 n7 c7) ∧ w'.cell? ⟨w.heap.size + 1 + 1 + 1 + 1 + 1, 0, none⟩ = some (.bool false) ∧ w'.cell? ⟨w.heap.size + 1 + 1 + 1 + 1 + 1, 1, none⟩ = some (.slice B nb cb) ∧ w.heap.size + 1 + 1 + 1 + 1 < w'.heap.size ∧ w.heap.size + 1 + 1 + 1 + 1 + 1 < w'.heap.size ∧ Below w.heap.size w w')
      (first | (refine ⟨?_, ?_, ?_, ?_, ?_, ?_, ?_⟩ <;> first | (simp [go_sem, *]; done) | omega | (simp; omega) | exact (by repeat (first | exact Below.refl _ _ | refine Below.setCell ?_ (by first | (simp; done) | (simp; omega) | omega) _ | refine Below.alloc ?_ (by first | (simp; done) | (simp; omega) | omega) _ | refine Below.drew ?_ | assumption | refine Below.trans ?_ (Below.mono (by assumption) (by first | (simp; done) | (simp; omega) | omega))))))
      (first | (first | (go_at_call 25; refine (BO'.out _).mono ?_; rintro e w11 ⟨⟨s1, A1, n1, c1, rfl, hP1⟩, hb11⟩; obtain ⟨hc11, hf11⟩ := bcell hb11; (try simp only [drew_size, drew_cell, drew_frozen] at hc11 hf11); have hs11 := hb11.size; (try simp at hs11); have hz11 : w.heap.size < w11.heap.size ∧ w.heap.size + 1 < w11.heap.size ∧ w.heap.size + 1 + 1 < w11.heap.size ∧ w.heap.size + 1 + 1 + 1 < w11.heap.size ∧ w.heap.size + 1 + 1 + 1 + 1 < w11.heap.size ∧ w.heap.size + 1 + 1 + 1 + 1 + 1 < w11.heap.size := (by have := hb11.size; (try simp at this); omega); have HP1 := Lib.hid hP1; clear hP1) | (go_at_call 24; refine (MU'.out _ _ _ _ _ _ (by repeat (first | exact Below.refl _ _ | refine Below.setCell ?_ (by first | (simp; done) | (simp; omega) | omega) _ | refine Below.alloc ?_ (by first | (simp; done) | (simp; omega) | omega) _ | refine Below.drew ?_ | assumption | refine Below.trans ?_ (Below.mono (by assumption) (by first | (simp; done) | (simp; omega) | omega)))) HP1.out).mono ?_; rintro e w12 ⟨⟨s2, A2, n2, c2, rfl, hP2⟩, hb12⟩; obtain ⟨hc12, hf12⟩ := bcell hb12; (try simp only [drew_size, drew_cell, drew_frozen] at hc12 hf12); have hs12 := hb12.size; (try simp at hs12); have hz12 : w.heap.size < w12.heap.size ∧ w.heap.size + 1 < w12.heap.size ∧ w.heap.size + 1 + 1 < w12.heap.size ∧ w.heap.size + 1 + 1 + 1 < w12.heap.size ∧ w.heap.size + 1 + 1 + 1 + 1 < w12.heap.size ∧ w.heap.size + 1 + 1 + 1 + 1 + 1 < w12.heap.size := (by have := hb12.size; (try simp at this); omega); have HP2 := Lib.hid hP2; clear hP2) | (go_at_call 28; refine (CX.out _ _ _ _ _ _ (hB2.trans (by repeat (first | exact Below.refl _ _ | refine Below.drew ?_ | assumption | refine Below.trans ?_ (Below.mono (by assumption) (by first | (simp; done) | (simp; omega) | omega))))) HP2.out).mono ?_; rintro e w13 ⟨rfl, hb13⟩; obtain ⟨hc13, hf13⟩ := bcell hb13; (try simp only [drew_size, drew_cell, drew_frozen] at hc13 hf13); have hs13 := hb13.size; (try simp at hs13); have hz13 : w.heap.size < w13.heap.size ∧ w.heap.size + 1 < w13.heap.size ∧ w.heap.size + 1 + 1 < w13.heap.size ∧ w.heap.size + 1 + 1 + 1 < w13.heap.size ∧ w.heap.size + 1 + 1 + 1 + 1 < w13.heap.size ∧ w.heap.size + 1 + 1 + 1 + 1 + 1 < w13.heap.size := by have := hb13.size; (try simp at this); omega)))
              go_wp2
              go_roundw
              case rel => exact ⟨mid, hi, rfl, rfl, by omega, by omega, by omega, HI, hB2.trans (by repeat (first | exact Below.refl _ _ | refine Below.drew ?_ | assumption | refine Below.trans ?_ (Below.mono (by assumption) (by first | (simp; done) | (simp; omega) | omega))))⟩
              case measure => first | (simp [intOf]; done) | (simp [intOf]; omega)
            · have cv0 : 0 < cv := by
                rw [← hcv]; unfold cmpI
                repeat' split
                all_goals omega
              clear hcv
              have HI := Lib.hid (show (b : Int) * lo ≤ z1 ∧ (z1 : Int) < b * mid from ⟨hI2.out.1, by omega⟩)
              clear hI2
              go_wp2
              go_region_held3 (fun w' => w'.cell? ⟨w.heap.size + 1 + 1 + 1 + 1, 0, none⟩ = some (.bool false) ∧ w'.cell? ⟨w.heap.size + 1 + 1 + 1 + 1, 1, none⟩ = some (.slice A7 n7 c7) ∧ w'.cell? ⟨w.heap.size + 1 + 1 + 1 + 1 + 1, 0, none⟩ = some (.bool false) ∧ w'.cell? ⟨w.heap.size + 1 + 1 + 1 + 1 + 1, 1, none⟩ = some (.slice B nb cb) ∧ w.heap.size + 1 + 1 + 1 + 1 < w'.heap.size ∧ w.heap.size + 1 + 1 + 1 + 1 + 1 < w'.heap.size ∧ Below w.heap.size w w')
      (first | (refine ⟨?_, ?_, ?_, ?_, ?_, ?_, ?_⟩ <;> first | (simp [go_sem, *]; done) | omega | (simp; omega) | exact (by repeat (first | exact Below.refl _ _ | refine Below.setCell ?_ (by first | (simp; done) | (simp; omega) | omega) _ | refine Below.alloc ?_ (by first | (simp; done) | (simp; omega) | omega) _ | refine Below.drew ?_ | assumption | refine Below.trans ?_ (Below.mono (by assumption) (by first | (simp; done) | (simp; omega) | omega))))))
      (first | (first | (go_at_call 25; refine (BO'.out _).mono ?_; rintro e w11 ⟨⟨s1, A1, n1, c1, rfl, hP1⟩, hb11⟩; obtain ⟨hc11, hf11⟩ := bcell hb11; (try simp only [drew_size, drew_cell, drew_frozen] at hc11 hf11); have hs11 := hb11.size; (try simp at hs11); have hz11 : w.heap.size < w11.heap.size ∧ w.heap.size + 1 < w11.heap.size ∧ w.heap.size + 1 + 1 < w11.heap.size ∧ w.heap.size + 1 + 1 + 1 < w11.heap.size ∧ w.heap.size + 1 + 1 + 1 + 1 < w11.heap.size ∧ w.heap.size + 1 + 1 + 1 + 1 + 1 < w11.heap.size := (by have := hb11.size; (try simp at this); omega); have HP1 := Lib.hid hP1; clear hP1) | (go_at_call 24; refine (MU'.out _ _ _ _ _ _ (by repeat (first | exact Below.refl _ _ | refine Below.setCell ?_ (by first | (simp; done) | (simp; omega) | omega) _ | refine Below.alloc ?_ (by first | (simp; done) | (simp; omega) | omega) _ | refine Below.drew ?_ | assumption | refine Below.trans ?_ (Below.mono (by assumption) (by first | (simp; done) | (simp; omega) | omega)))) HP1.out).mono ?_; rintro e w12 ⟨⟨s2, A2, n2, c2, rfl, hP2⟩, hb12⟩; obtain ⟨hc12, hf12⟩ := bcell hb12; (try simp only [drew_size, drew_cell, drew_frozen] at hc12 hf12); have hs12 := hb12.size; (try simp at hs12); have hz12 : w.heap.size < w12.heap.size ∧ w.heap.size + 1 < w12.heap.size ∧ w.heap.size + 1 + 1 < w12.heap.size ∧ w.heap.size + 1 + 1 + 1 < w12.heap.size ∧ w.heap.size + 1 + 1 + 1 + 1 < w12.heap.size ∧ w.heap.size + 1 + 1 + 1 + 1 + 1 < w12.heap.size := (by have := hb12.size; (try simp at this); omega); have HP2 := Lib.hid hP2; clear hP2) | (go_at_call 28; refine (CX.out _ _ _ _ _ _ (hB2.trans (by repeat (first | exact Below.refl _ _ | refine Below.drew ?_ | assumption | refine Below.trans ?_ (Below.mono (by assumption) (by first | (simp; done) | (simp; omega) | omega))))) HP2.out).mono ?_; rintro e w13 ⟨rfl, hb13⟩; obtain ⟨hc13, hf13⟩ := bcell hb13; (try simp only [drew_size, drew_cell, drew_frozen] at hc13 hf13); have hs13 := hb13.size; (try simp at hs13); have hz13 : w.heap.size < w13.heap.size ∧ w.heap.size + 1 < w13.heap.size ∧ w.heap.size + 1 + 1 < w13.heap.size ∧ w.heap.size + 1 + 1 + 1 < w13.heap.size ∧ w.heap.size + 1 + 1 + 1 + 1 < w13.heap.size ∧ w.heap.size + 1 + 1 + 1 + 1 + 1 < w13.heap.size := by have := hb13.size; (try simp at this); omega)))
              go_wp2
              go_roundw
              case rel => exact ⟨lo, mid, rfl, rfl, by omega, by omega, by omega, HI, hB2.trans (by repeat (first | exact Below.refl _ _ | refine Below.drew ?_ | assumption | refine Below.trans ?_ (Below.mono (by assumption) (by first | (simp; done) | (simp; omega) | omega))))⟩
              case measure => first | (simp [intOf]; done) | (simp [intOf]; omega)
          · have he : hi = lo + 1 := by omega
            subst he
            have BO' := BO lo (by omega) (by omega); have MU' := MU lo (by omega) (by omega)
            have bm' := bm lo (by omega) (by omega)
            obtain ⟨i1, i2⟩ := hI2.out
            obtain ⟨r2, hr2⟩ : ∃ r2 : Nat, (z1 : Int) - b * lo = r2 := ⟨((z1 : Int) - b * lo).toNat, by omega⟩
            have SB : Hid (∀ s A n c W base, Below wc.heap.size wc W → Pt base W s A n c ((b : Int) * lo) → Calls Tryz.prog 52 #[.agg #[.bool false, .slice A7 n7 c7], .agg #[.bool s, .slice A n c]] W fun e w' => Res W.heap.size w' e (r2 : Int) ∧ Below W.heap.size W w') := Lib.hid fun s A n c W base hb X => by
              rw [← hr2]; exact bigSub_any false s A7 A n7 n c7 c z1 _ (by omega) (by rw [X.2.1]; have := len48 (n := ((b : Int) * lo).natAbs) (by omega); omega) W ((hP7.out.1.below hb).mono (Nat.zero_le _)) (X.mono (Nat.zero_le _))
            have ST := quo_step (lo := lo) (z := (z1 : Int)) hI.out.1 HX.out (by rw [← hz1']; omega) i1 (by rw [Int.mul_add] at i2; omega)
            rw [hr2] at ST
            have ST := Lib.hid ST
            have QF := Lib.hid (hP7.out.2.below hB2)
            have HQL := Lib.hid hI.out.2.2.2.1
            have DQ := Lib.hid hI.out.2.2.1
            clear BO MU bm hI hI2 i1 i2 hr2 hz1' HR4 bm'
            go_wp2
            go_cut [] from 21 to 61 (fun wd => ∃ (A8 : Option Addr) (n8 c8 : Nat), Hid (Pt (w.heap.size + 1 + 1 + 1 + 1 + 1 + 1) wd false A8 n8 c8 (r2 : Int) ∧ SlF (w.heap.size + 1 + 1 + 1 + 1 + 1 + 1) wd QA qc q) ∧ (wd.cell? ⟨w.heap.size + 1 + 1 + 1 + 1, 0, none⟩ = some (.bool false) ∧ wd.cell? ⟨w.heap.size + 1 + 1 + 1 + 1, 1, none⟩ = some (.slice A8 n8 c8) ∧ wd.frozen? ⟨w.heap.size + 1 + 1 + 1 + 1, 0, none⟩ = false ∧ wd.frozen? ⟨w.heap.size + 1 + 1 + 1 + 1, 1, none⟩ = false) ∧ (wd.cell? ⟨w.heap.size + 1 + 1 + 1 + 1 + 1, 0, none⟩ = some (.bool false) ∧ wd.cell? ⟨w.heap.size + 1 + 1 + 1 + 1 + 1, 1, none⟩ = some (.slice B nb cb)) ∧ w.heap.size + 1 + 1 + 1 + 1 + 1 + 1 ≤ wd.heap.size ∧ Below (w.heap.size + 1 + 1 + 1 + 1) W3 wd)
            case first =>
              go_region_law (first | (go_simp; go_at_call 25; refine (BO'.out _).mono ?_; rintro e w11 ⟨⟨s1, A1, n1, c1, rfl, hP1⟩, hb11⟩; obtain ⟨hc11, hf11⟩ := bcell hb11; (try simp only [drew_size, drew_cell, drew_frozen] at hc11 hf11); have hs11 := hb11.size; (try simp at hs11); have hz11 : w.heap.size < w11.heap.size ∧ w.heap.size + 1 < w11.heap.size ∧ w.heap.size + 1 + 1 < w11.heap.size ∧ w.heap.size + 1 + 1 + 1 < w11.heap.size ∧ w.heap.size + 1 + 1 + 1 + 1 < w11.heap.size ∧ w.heap.size + 1 + 1 + 1 + 1 + 1 < w11.heap.size := (by have := hb11.size; (try simp at this); omega); have HP1 := Lib.hid hP1; clear hP1) | (go_simp; go_at_call 24; refine (MU'.out _ _ _ _ _ _ (by repeat (first | exact Below.refl _ _ | refine Below.setCell ?_ (by first | (simp; done) | (simp; omega) | omega) _ | refine Below.alloc ?_ (by first | (simp; done) | (simp; omega) | omega) _ | refine Below.drew ?_ | assumption | refine Below.trans ?_ (Below.mono (by assumption) (by first | (simp; done) | (simp; omega) | omega)))) HP1.out).mono ?_; rintro e w12 ⟨⟨s2, A2, n2, c2, rfl, hP2⟩, hb12⟩; obtain ⟨hc12, hf12⟩ := bcell hb12; (try simp only [drew_size, drew_cell, drew_frozen] at hc12 hf12); have hs12 := hb12.size; (try simp at hs12); have hz12 : w.heap.size < w12.heap.size ∧ w.heap.size + 1 < w12.heap.size ∧ w.heap.size + 1 + 1 < w12.heap.size ∧ w.heap.size + 1 + 1 + 1 < w12.heap.size ∧ w.heap.size + 1 + 1 + 1 + 1 < w12.heap.size ∧ w.heap.size + 1 + 1 + 1 + 1 + 1 < w12.heap.size := (by have := hb12.size; (try simp at this); omega); have HP2 := Lib.hid hP2; clear hP2) | (go_simp; go_at_call 52; refine (SB.out _ _ _ _ _ _ (hB2.trans (by repeat (first | exact Below.refl _ _ | refine Below.drew ?_ | assumption | refine Below.trans ?_ (Below.mono (by assumption) (by first | (simp; done) | (simp; omega) | omega))))) HP2.out).mono ?_; rintro e w13 ⟨⟨s3, A3, n3, c3, rfl, hP3⟩, hb13⟩; obtain ⟨hc13, hf13⟩ := bcell hb13; (try simp only [drew_size, drew_cell, drew_frozen] at hc13 hf13); have hs13 := hb13.size; (try simp at hs13); have hz13 : w.heap.size < w13.heap.size ∧ w.heap.size + 1 < w13.heap.size ∧ w.heap.size + 1 + 1 < w13.heap.size ∧ w.heap.size + 1 + 1 + 1 < w13.heap.size ∧ w.heap.size + 1 + 1 + 1 + 1 < w13.heap.size ∧ w.heap.size + 1 + 1 + 1 + 1 + 1 < w13.heap.size := (by have := hb13.size; (try simp at this); omega); have e3 : s3 = false := (by rw [hP3.1]; exact decide_eq_false (by omega)); subst e3; have HP3 := Lib.hid hP3; clear hP3))
              all_goals (go_wp2_with (fail); go_meet; have hall : Below wr.heap.size wr w13 := (by repeat (first | exact Below.refl _ _ | refine Below.drew ?_ | assumption | refine Below.trans ?_ (Below.mono (by assumption) (by first | (simp; done) | (simp; omega) | omega)))); exact ⟨A3, n3, c3, Lib.hid ⟨((HP3.out.setCell _ (by first | (simp; done) | (simp; omega) | omega)).setCell _ (by first | (simp; done) | (simp; omega) | omega)).mono (by first | (simp; done) | (simp; omega) | omega), ((QF.out.below hall).setCell _ (by first | (simp; done) | (simp; omega) | omega)).setCell _ (by first | (simp; done) | (simp; omega) | omega)⟩, (by refine ⟨?_, ?_, ?_, ?_⟩ <;> (simp [go_sem, *]; done)), (by refine ⟨?_, ?_⟩ <;> (simp [go_sem, *]; done)), (by first | (simp; done) | (simp; omega) | omega), Below.setCell (Below.setCell (hB10.trans ((hB2.trans (hall.mono hs2)).mono (by first | (simp; done) | (simp; omega) | omega))) (by first | (simp; done) | (simp; omega) | omega) _) (by first | (simp; done) | (simp; omega) | omega) _⟩)
            case rest =>
              obtain ⟨A8, n8, c8, hP8, ⟨e40, e41, g40, g41⟩, ⟨e50, e51⟩, hs11, hB11⟩ := hcut
              have zc : w.heap.size + 1 + 1 + 1 + 1 < wc.heap.size ∧ w.heap.size + 1 + 1 + 1 + 1 + 1 < wc.heap.size := by omega
              have ql12 : ql ≤ 12 := by omega
              clear p40 p41 r40 r41 p50 p51 zi hBi hB2 hs2 hB10 hs10 SB BO' MU' hBc
              go_wp2_with (first
                | (at_builtin; refine wpList_append_sl _ rfl _ _ _ rfl (w.heap.size + 1 + 1 + 1 + 1 + 1 + 1) i0 Tryz.underlying24 hi0 hz0 hz1 hz2 (.slice (some ⟨wc.heap.size, 0, none⟩) 1 1) 1 [.int .i64 lo] rfl (own_one wc _ _ _ (by omega) rfl) QA ql qc q rfl HQL.out (hP8.out.2.1.below (by repeat (first | exact Below.refl _ _ | refine Below.alloc ?_ (by simp) _ | refine Below.drew ?_))) (by unfold maxLen; omega) (by omega) (by first | (simp; done) | (simp; omega) | omega) ?_
                   intro v9 w9 hown9 hg9
                   obtain ⟨C9, cc9, rfl, hS9, hF9⟩ := sl_own (l := lo :: q) hown9 (by rw [List.length_cons, HQL.out]; omega) (by simp)
                   have HS9 : Hid (SlF (w.heap.size + 1 + 1 + 1 + 1 + 1 + 1) w9 C9 cc9 (lo :: q)) := Lib.hid ⟨hS9, hF9⟩
                   have hb9 : Below wc.heap.size wc w9 := Below.grown (by repeat (first | exact Below.refl _ _ | refine Below.alloc ?_ (by simp) _ | refine Below.drew ?_)) hg9 (by first | (simp; done) | (simp; omega) | omega) (fun j hj => by simp [Value.ownBlock] at hj; omega)
                   have hs12 := hb9.size
                   clear hS9 hF9 hown9 hg9))
              go_roundw
              case rel => exact ⟨j, (j : Int) - 1, lo :: q, C9, 1 + ql, cc9, r2, n8, c8, A8, by omega, rfl, rfl, rfl, by omega, Lib.hid ⟨ST.out.1, by have := ST.out.2; omega, Dgt.cons l0 (by omega) DQ.out, by rw [List.length_cons, HQL.out]; omega, HS9.out, hP8.out.1.below hb9⟩, ⟨(hb9.cell (p := ⟨w.heap.size + 1 + 1 + 1 + 1, 0, none⟩) (by simp; omega)).trans e40, (hb9.cell (p := ⟨w.heap.size + 1 + 1 + 1 + 1, 1, none⟩) (by simp; omega)).trans e41, (hb9.frozen (p := ⟨w.heap.size + 1 + 1 + 1 + 1, 0, none⟩) (by simp; omega)).trans g40, (hb9.frozen (p := ⟨w.heap.size + 1 + 1 + 1 + 1, 1, none⟩) (by simp; omega)).trans g41⟩, ⟨(hb9.cell (p := ⟨w.heap.size + 1 + 1 + 1 + 1 + 1, 0, none⟩) (by simp; omega)).trans e50, (hb9.cell (p := ⟨w.heap.size + 1 + 1 + 1 + 1 + 1, 1, none⟩) (by simp; omega)).trans e51⟩, by omega, hB11.trans (hb9.mono (by omega))⟩
              case measure => first | (simp [intOf]; done) | (simp [intOf]; omega)
end Go.Proofs.YtakfjdnpfhcgkaaGreatDoor
