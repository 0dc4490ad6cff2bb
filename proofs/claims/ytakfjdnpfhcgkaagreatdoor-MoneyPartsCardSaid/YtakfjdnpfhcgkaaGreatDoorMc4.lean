/-
  Contracts of money.Amount's Cmp, Neg, Add, Sub.
-/
import Derived.Test.YtakfjdnpfhcgkaaGreatDoorPw3
import Derived.Deep.RegionHeld3
import Derived.Deep.QuietTactic
import Derived.BigQuiet
import Derived.Deep.CutRange
import Derived.Deep.RegionLaw
import Derived.Laws.IdiomStrings
import Derived.Laws.Concat
import Derived.Laws.DeepStrings4
import Derived.Test.YtakfjdnpfhcgkaaGreatDoorWk5
import Derived.Test.YtakfjdnpfhcgkaaGreatDoorBw1
import Derived.Test.YtakfjdnpfhcgkaaGreatDoorWk1
import Derived.Test.YtakfjdnpfhcgkaaGreatDoorQh
/-
  Contracts of money.Currencies, IndexFunc over them, money.Scale, within, check.
-/
namespace Go.Proofs.YtakfjdnpfhcgkaaGreatDoor
set_option linter.all false
open Go.RowKit Go.Sort
attribute [local go_sem] cell_set_self lt_1 lt_2 lt_3 lt_4 lt_5 lt_6

theorem drew_sizeM (w : World) : w.drew.heap.size = w.heap.size := rfl
theorem drew_cellM (w : World) (a : Addr) : w.drew.cell? a = w.cell? a := rfl
theorem drew_frozenM (w : World) (a : Addr) : w.drew.frozen? a = w.frozen? a := rfl
theorem below_drewM {B : Nat} {a w : World} (h : Below B a w) (n : Nat) : Below B a (w.drewN n) := h.trans ⟨rfl, rfl, rfl, Nat.le_refl _, fun _ _ => rfl⟩
theorem rhe_absM (z : Int) (b : Int) (hb : 0 < b) : (rhe z b).natAbs ≤ z.natAbs + 1 := by
  have a : ∀ s : Int, 0 ≤ s → 0 ≤ rheA s b ∧ rheA s b ≤ s + 1 := fun s hs => by
    have h0 := Int.ediv_nonneg hs (show 0 ≤ b by omega)
    have h1 := Int.ediv_le_self b hs
    unfold rheA; split <;> omega
  unfold rhe
  split
  · have := a (-z) (by omega); omega
  · have := a z (by omega); omega
/-- The currencies: codes and decimals. -/
def curL : List (List UInt8 × Int) := [([67, 72, 70], 2), ([69, 85, 82], 2), ([71, 66, 80], 2), ([74, 80, 89], 0), ([75, 87, 68], 3), ([85, 83, 68], 2)]
def scP (c : List UInt8) : Option Int := (curL.find? (fun t => t.1 == c)).map (·.2)
def scN (c : List UInt8) : Int := (scP c).getD 0
def scE (c : List UInt8) : Int := if (scP c).isSome then 0 else 18
def Curs (w : World) (g : Nat) : Prop := g < w.heap.size ∧ ∀ k t, curL[k]? = some t → w.cell? ⟨g, k * 2, none⟩ = some (.string ⟨t.1.toArray⟩) ∧ w.cell? ⟨g, k * 2 + 1, none⟩ = some (.int .i64 t.2)
theorem Curs.below {w w' : World} {g : Nat} (h : Curs w g) (hb : Below w.heap.size w w') : Curs w' g :=
  ⟨Nat.lt_of_lt_of_le h.1 hb.size, fun k t hk => ⟨(hb.cell (p := ⟨g, k * 2, none⟩) h.1).trans (h.2 k t hk).1, (hb.cell (p := ⟨g, k * 2 + 1, none⟩) h.1).trans (h.2 k t hk).2⟩⟩
theorem cur_lt {k : Nat} {t : List UInt8 × Int} (h : curL[k]? = some t) : k < 6 := (List.getElem?_eq_some_iff.1 h).1
theorem cur_all {p : Nat → (List UInt8 × Int) → Prop} (h0 : p 0 ([67, 72, 70], 2)) (h1 : p 1 ([69, 85, 82], 2)) (h2 : p 2 ([71, 66, 80], 2)) (h3 : p 3 ([74, 80, 89], 0)) (h4 : p 4 ([75, 87, 68], 3)) (h5 : p 5 ([85, 83, 68], 2)) {k : Nat} {t : List UInt8 × Int} (h : curL[k]? = some t) : p k t := by
  have hk := cur_lt h
  match k, hk, h with
  | 0, _, h => simp [curL] at h; subst h; exact h0
  | 1, _, h => simp [curL] at h; subst h; exact h1
  | 2, _, h => simp [curL] at h; subst h; exact h2
  | 3, _, h => simp [curL] at h; subst h; exact h3
  | 4, _, h => simp [curL] at h; subst h; exact h4
  | 5, _, h => simp [curL] at h; subst h; exact h5
theorem cur_hit {k : Nat} {t : List UInt8 × Int} (h : curL[k]? = some t) : scP t.1 = some t.2 :=
  cur_all (p := fun _ t => scP t.1 = some t.2) (by decide) (by decide) (by decide) (by decide) (by decide) (by decide) h
theorem cur_bound {k : Nat} {t : List UInt8 × Int} (h : curL[k]? = some t) : 0 ≤ t.2 ∧ t.2 ≤ 3 ∧ t.1.length = 3 :=
  cur_all (p := fun _ t => 0 ≤ t.2 ∧ t.2 ≤ 3 ∧ t.1.length = 3) (by decide) (by decide) (by decide) (by decide) (by decide) (by decide) h
theorem cur_ne {j k : Nat} {t u : List UInt8 × Int} (h : curL[j]? = some t) (hk : curL[k]? = some u) (hjk : j < k) : t.1 ≠ u.1 := by
  intro e
  have hk6 := cur_lt hk
  have h1 : (List.map (·.1) curL)[j]? = some t.1 := by rw [List.getElem?_map, h]; rfl
  have h2 : (List.map (·.1) curL)[k]? = some u.1 := by rw [List.getElem?_map, hk]; rfl
  have nd : ∀ j, j < 6 → ∀ k, k < 6 → j < k → (List.map (·.1) curL)[j]? ≠ (List.map (·.1) curL)[k]? := by decide
  exact nd j (by omega) k hk6 hjk (by rw [h1, h2, e])
theorem cur_cases (c : List UInt8) : (∃ (k : Nat) (t : List UInt8 × Int), curL[k]? = some t ∧ t.1 = c) ∨ (∀ (k : Nat) (t : List UInt8 × Int), curL[k]? = some t → t.1 ≠ c) := by
  rcases Classical.em (∃ (k : Nat) (t : List UInt8 × Int), curL[k]? = some t ∧ t.1 = c) with h | h
  · exact .inl h
  · exact .inr fun k t h1 h2 => h ⟨k, t, h1, h2⟩
theorem cur_miss {c : List UInt8} (h : ∀ (k : Nat) (t : List UInt8 × Int), curL[k]? = some t → t.1 ≠ c) : scP c = none := by
  have h' : ∀ t ∈ curL, t.1 ≠ c := fun t ht => by
    obtain ⟨k, hk⟩ := List.getElem?_of_mem ht
    exact h k t hk
  have : curL.find? (fun t => t.1 == c) = none := List.find?_eq_none.2 fun t ht => by simpa using h' t ht
  unfold scP; rw [this]; rfl

set_option maxHeartbeats 1000000 in
theorem currencies_any (w : World) : Calls Tryz.prog 61 #[] w fun e w' => (∃ g, e = .returned (.slice (some ⟨g, 0, none⟩) 6 6) ∧ Curs w' g) ∧ Below w.heap.size w w' := by
  go_enter Tryz.func61, Tryz.ntmps61
  go_wp2
  go_ret
  refine ⟨⟨w.heap.size, rfl, by simp, fun k t hk => ?_⟩, (by repeat (first | exact Below.refl _ _ | refine Below.setCell ?_ (by first | (simp; done) | (simp; omega) | omega) _ | refine Below.alloc ?_ (by first | (simp; done) | (simp; omega) | omega) _ | refine Below.drew ?_ | assumption | refine Below.trans ?_ (Below.mono (by assumption) (by first | (simp; done) | (simp; omega) | omega))))⟩
  exact cur_all (p := fun k t => World.cell? _ ⟨w.heap.size, k * 2, none⟩ = some (.string ⟨t.1.toArray⟩) ∧ World.cell? _ ⟨w.heap.size, k * 2 + 1, none⟩ = some (.int .i64 t.2)) (by simp [go_sem]) (by simp [go_sem]) (by simp [go_sem]) (by simp [go_sem]) (by simp [go_sem]) (by simp [go_sem]) hk

/-- The closure: is it that code? -/
theorem isCode_any (x c : ByteArray) (z : Int) (b : Nat) (w : World) (hb : b < w.heap.size) (hc : w.cell? ⟨b, 0, none⟩ = some (.string c)) :
    Calls Tryz.prog 63 #[.agg #[.string x, .int .i64 z], .pointer (some ⟨b, 0, none⟩)] w fun e w' => e = .returned (.bool (x.toList == c.toList)) ∧ Below w.heap.size w w' := by
  go_enter Tryz.func63, Tryz.ntmps63
  go_wp2
  go_ret
  exact ⟨rfl, (by repeat (first | exact Below.refl _ _ | refine Below.setCell ?_ (by first | (simp; done) | (simp; omega) | omega) _ | refine Below.alloc ?_ (by first | (simp; done) | (simp; omega) | omega) _ | refine Below.drew ?_ | assumption | refine Below.trans ?_ (Below.mono (by assumption) (by first | (simp; done) | (simp; omega) | omega))))⟩

theorem str_beq (a b : List UInt8) : ((⟨a.toArray⟩ : ByteArray).toList == (⟨b.toArray⟩ : ByteArray).toList) = decide (a = b) := by
  rw [ByteArray.toList_mk, ByteArray.toList_mk]; exact Bool.beq_eq_decide_eq a b
set_option maxHeartbeats 2000000 in
set_option maxRecDepth 100000 in
/-- IndexFunc over the currencies: the code number k. -/
theorem idx_hit (k : Nat) (t : List UInt8 × Int) (hk : curL[k]? = some t) (g b : Nat) (w : World) (hc : Curs w g) (hb : b < w.heap.size) (hbc : w.cell? ⟨b, 0, none⟩ = some (.string ⟨t.1.toArray⟩)) :
    Calls Tryz.prog 62 #[.slice (some ⟨g, 0, none⟩) 6 6, .func (.func 63) #[] #[.pointer (some ⟨b, 0, none⟩)]] w fun e w' => e = .returned (.int .i64 k) ∧ Below w.heap.size w w' := by
  have IC := Lib.hid (fun x z W (hB : Below w.heap.size w W) => isCode_any x ⟨t.1.toArray⟩ z b W (Nat.lt_of_lt_of_le hb hB.size) ((hB.cell (p := ⟨b, 0, none⟩) hb).trans hbc))
  have CC := Lib.hid (fun W (hB : Below w.heap.size w W) => hc.below hB)
  have hk6 := cur_lt hk
  clear hc hb hbc
  go_enter Tryz.func62, Tryz.ntmps62
  go_wp2
  go_loopw [8] (fun i wr => ∃ j : Nat, j ≤ k ∧ i = .int .i64 j ∧ Below w.heap.size w wr) (fun i _ => 6 - (intOf i).toNat)
  case atStart => exact ⟨0, by omega, rfl, (by repeat (first | exact Below.refl _ _ | refine Below.setCell ?_ (by first | (simp; done) | (simp; omega) | omega) _ | refine Below.alloc ?_ (by first | (simp; done) | (simp; omega) | omega) _ | refine Below.drew ?_ | assumption | refine Below.trans ?_ (Below.mono (by assumption) (by first | (simp; done) | (simp; omega) | omega))))⟩
  case round =>
    obtain ⟨j, hj, rfl, hB⟩ := hrel
    obtain ⟨wo, rfl⟩ : ∃ wo : World, wo = wr := ⟨_, rfl⟩
    have hsl := hB.size
    have hcu := CC.out wo hB
    have hj6 : (j : Int) < 6 := by omega
    by_cases hjk : j = k
    · subst hjk
      obtain ⟨hgl, hx⟩ := hcu
      obtain ⟨hx, hy⟩ := hx j t hk
      have e1 := str_beq t.1 t.1
      rw [decide_eq_true rfl] at e1
      clear hk
      generalize (⟨t.1.toArray⟩ : ByteArray) = C at *
      go_wp2_with (first | (go_at_call 63; refine (IC.out _ _ _ (by repeat (first | exact Below.refl _ _ | refine Below.setCell ?_ (by first | (simp; done) | (simp; omega) | omega) _ | refine Below.alloc ?_ (by first | (simp; done) | (simp; omega) | omega) _ | refine Below.drew ?_ | assumption | refine Below.trans ?_ (Below.mono (by assumption) (by first | (simp; done) | (simp; omega) | omega))))).mono ?_; rintro e w1 ⟨rfl, hb1⟩; have hs1 := hb1.size; (try simp at hs1)))
      go_ret
      exact ⟨rfl, (by repeat (first | exact Below.refl _ _ | refine Below.setCell ?_ (by first | (simp; done) | (simp; omega) | omega) _ | refine Below.alloc ?_ (by first | (simp; done) | (simp; omega) | omega) _ | refine Below.drew ?_ | assumption | refine Below.trans ?_ (Below.mono (by assumption) (by first | (simp; done) | (simp; omega) | omega))))⟩
    · obtain ⟨u, hu⟩ : ∃ u, curL[j]? = some u := ⟨_, List.getElem?_eq_getElem (by show j < 6; omega)⟩
      obtain ⟨hgl, hx⟩ := hcu
      obtain ⟨hx, hy⟩ := hx j u hu
      have e1 := str_beq u.1 t.1
      rw [decide_eq_false (cur_ne hu hk (by omega))] at e1
      clear hk hu
      generalize (⟨t.1.toArray⟩ : ByteArray) = C at *
      generalize (⟨u.1.toArray⟩ : ByteArray) = X at *
      go_wp2_with (first | (go_at_call 63; refine (IC.out _ _ _ (by repeat (first | exact Below.refl _ _ | refine Below.setCell ?_ (by first | (simp; done) | (simp; omega) | omega) _ | refine Below.alloc ?_ (by first | (simp; done) | (simp; omega) | omega) _ | refine Below.drew ?_ | assumption | refine Below.trans ?_ (Below.mono (by assumption) (by first | (simp; done) | (simp; omega) | omega))))).mono ?_; rintro e w1 ⟨rfl, hb1⟩; have hs1 := hb1.size; (try simp at hs1)))
      go_roundw
      case rel => exact ⟨j + 1, by omega, by go_num, (by repeat (first | exact Below.refl _ _ | refine Below.setCell ?_ (by first | (simp; done) | (simp; omega) | omega) _ | refine Below.alloc ?_ (by first | (simp; done) | (simp; omega) | omega) _ | refine Below.drew ?_ | assumption | refine Below.trans ?_ (Below.mono (by assumption) (by first | (simp; done) | (simp; omega) | omega))))⟩
      case measure => first | (simp [intOf]; done) | (simp [intOf]; omega)
set_option maxHeartbeats 2000000 in
set_option maxRecDepth 100000 in
/-- .. no such code. -/
theorem idx_miss (c : List UInt8) (hm : ∀ (k : Nat) (t : List UInt8 × Int), curL[k]? = some t → t.1 ≠ c) (g b : Nat) (w : World) (hc : Curs w g) (hb : b < w.heap.size) (hbc : w.cell? ⟨b, 0, none⟩ = some (.string ⟨c.toArray⟩)) :
    Calls Tryz.prog 62 #[.slice (some ⟨g, 0, none⟩) 6 6, .func (.func 63) #[] #[.pointer (some ⟨b, 0, none⟩)]] w fun e w' => e = .returned (.int .i64 (-1)) ∧ Below w.heap.size w w' := by
  have IC := Lib.hid (fun x z W (hB : Below w.heap.size w W) => isCode_any x ⟨c.toArray⟩ z b W (Nat.lt_of_lt_of_le hb hB.size) ((hB.cell (p := ⟨b, 0, none⟩) hb).trans hbc))
  have CC := Lib.hid (fun W (hB : Below w.heap.size w W) => hc.below hB)
  have HM := Lib.hid hm
  clear hc hb hbc hm
  go_enter Tryz.func62, Tryz.ntmps62
  go_wp2
  go_loopw [8] (fun i wr => ∃ j : Nat, j ≤ 6 ∧ i = .int .i64 j ∧ Below w.heap.size w wr) (fun i _ => 6 - (intOf i).toNat)
  case atStart => exact ⟨0, by omega, rfl, (by repeat (first | exact Below.refl _ _ | refine Below.setCell ?_ (by first | (simp; done) | (simp; omega) | omega) _ | refine Below.alloc ?_ (by first | (simp; done) | (simp; omega) | omega) _ | refine Below.drew ?_ | assumption | refine Below.trans ?_ (Below.mono (by assumption) (by first | (simp; done) | (simp; omega) | omega))))⟩
  case round =>
    obtain ⟨j, hj, rfl, hB⟩ := hrel
    obtain ⟨wo, rfl⟩ : ∃ wo : World, wo = wr := ⟨_, rfl⟩
    have hsl := hB.size
    have hcu := CC.out wo hB
    by_cases hjk : j = 6
    · subst hjk
      clear hcu
      go_wp2
      go_ret
      exact ⟨rfl, (by repeat (first | exact Below.refl _ _ | refine Below.setCell ?_ (by first | (simp; done) | (simp; omega) | omega) _ | refine Below.alloc ?_ (by first | (simp; done) | (simp; omega) | omega) _ | refine Below.drew ?_ | assumption | refine Below.trans ?_ (Below.mono (by assumption) (by first | (simp; done) | (simp; omega) | omega))))⟩
    · have hj6 : (j : Int) < 6 := by omega
      obtain ⟨u, hu⟩ : ∃ u, curL[j]? = some u := ⟨_, List.getElem?_eq_getElem (by show j < 6; omega)⟩
      obtain ⟨hgl, hx⟩ := hcu
      obtain ⟨hx, hy⟩ := hx j u hu
      have e1 := str_beq u.1 c
      rw [decide_eq_false (HM.out j u hu)] at e1
      clear hu
      generalize (⟨c.toArray⟩ : ByteArray) = C at *
      generalize (⟨u.1.toArray⟩ : ByteArray) = X at *
      go_wp2_with (first | (go_at_call 63; refine (IC.out _ _ _ (by repeat (first | exact Below.refl _ _ | refine Below.setCell ?_ (by first | (simp; done) | (simp; omega) | omega) _ | refine Below.alloc ?_ (by first | (simp; done) | (simp; omega) | omega) _ | refine Below.drew ?_ | assumption | refine Below.trans ?_ (Below.mono (by assumption) (by first | (simp; done) | (simp; omega) | omega))))).mono ?_; rintro e w1 ⟨rfl, hb1⟩; have hs1 := hb1.size; (try simp at hs1)))
      go_roundw
      case rel => exact ⟨j + 1, by omega, by go_num, (by repeat (first | exact Below.refl _ _ | refine Below.setCell ?_ (by first | (simp; done) | (simp; omega) | omega) _ | refine Below.alloc ?_ (by first | (simp; done) | (simp; omega) | omega) _ | refine Below.drew ?_ | assumption | refine Below.trans ?_ (Below.mono (by assumption) (by first | (simp; done) | (simp; omega) | omega))))⟩
      case measure => first | (simp [intOf]; done) | (simp [intOf]; omega)
end Go.Proofs.YtakfjdnpfhcgkaaGreatDoor

/-
  Contracts of money.Scale, within, check, New, made, first, pair.
-/
namespace Go.Proofs.YtakfjdnpfhcgkaaGreatDoor
set_option linter.all false
open Go.RowKit Go.Sort
attribute [local go_sem] cell_set_self lt_1 lt_2 lt_3 lt_4 lt_5 lt_6

theorem ret_n2 {a b p q : Int} (h1 : a = b) (h2 : p = q) : Ending.returned (.tuple #[.int .i64 b, .int .i64 q]) = .returned (.tuple #[.int .i64 a, .int .i64 p]) := by rw [h1, h2]
set_option maxHeartbeats 2000000 in
set_option maxRecDepth 100000 in
theorem scale_any (c : List UInt8) (w : World) : Calls Tryz.prog 33 #[.string ⟨c.toArray⟩] w fun e w' => e = .returned (.tuple #[.int .i64 (scN c), .int .i64 (scE c)]) ∧ Below w.heap.size w w' := by
  have CU := Lib.hid (fun W => currencies_any W)
  rcases cur_cases c with ⟨k, t, hk, rfl⟩ | hm
  · have e1 : scN t.1 = t.2 := by unfold scN; rw [cur_hit hk]; rfl
    have e2 : scE t.1 = 0 := by unfold scE; rw [cur_hit hk]; rfl
    have E := Lib.hid (And.intro e1 e2)
    have hk6 := cur_lt hk
    have IX := Lib.hid (fun g b W hc hb hbc => idx_hit k t hk g b W hc hb hbc)
    have CK : Hid (∀ g W, Curs W g → g < W.heap.size ∧ W.cell? ⟨g, k * 2 + 1, none⟩ = some (.int .i64 t.2)) := Lib.hid fun g W h => ⟨h.1, (h.2 k t hk).2⟩
    clear e1 e2 hk
    generalize t.2 = z at *
    generalize (⟨t.1.toArray⟩ : ByteArray) = C at *
    go_enter Tryz.func33, Tryz.ntmps33
    go_wp2_with (first
      | (go_at_call 61; refine (CU.out _).mono ?_; rintro e w1 ⟨⟨g, rfl, hg⟩, hb1⟩; obtain ⟨hc1, hf1⟩ := bcell hb1; have hs1 := hb1.size; (try simp at hs1); have hz1 : w.heap.size < w1.heap.size := (by have := hb1.size; (try simp at this); omega); have HG := Lib.hid hg; clear hg)
      | (go_at_call 62; refine (IX.out _ _ _ (HG.out.below (by repeat (first | exact Below.refl _ _ | refine Below.setCell ?_ (by first | (simp; done) | (simp; omega) | omega) _ | refine Below.alloc ?_ (by first | (simp; done) | (simp; omega) | omega) _ | refine Below.drew ?_ | assumption | refine Below.trans ?_ (Below.mono (by assumption) (by first | (simp; done) | (simp; omega) | omega))))) (by omega) (by simp [go_sem, *])).mono ?_; rintro e w2 ⟨rfl, hb2⟩; have hcell := CK.out _ _ ((HG.out.below (by repeat (first | exact Below.refl _ _ | refine Below.setCell ?_ (by first | (simp; done) | (simp; omega) | omega) _ | refine Below.alloc ?_ (by first | (simp; done) | (simp; omega) | omega) _ | refine Below.drew ?_ | assumption | refine Below.trans ?_ (Below.mono (by assumption) (by first | (simp; done) | (simp; omega) | omega))))).below hb2); obtain ⟨hcl, hcell⟩ := hcell; have hs2 := hb2.size; (try simp at hs2)))
    go_ret2
    exact ⟨ret_n2 E.out.1 E.out.2, (by repeat (first | exact Below.refl _ _ | refine Below.setCell ?_ (by first | (simp; done) | (simp; omega) | omega) _ | refine Below.alloc ?_ (by first | (simp; done) | (simp; omega) | omega) _ | refine Below.drew ?_ | assumption | refine Below.trans ?_ (Below.mono (by assumption) (by first | (simp; done) | (simp; omega) | omega))))⟩
  · have e1 : scN c = 0 := by unfold scN; rw [cur_miss hm]; rfl
    have e2 : scE c = 18 := by unfold scE; rw [cur_miss hm]; rfl
    have E := Lib.hid (And.intro e1 e2)
    have IX := Lib.hid (fun g b W hc hb hbc => idx_miss c hm g b W hc hb hbc)
    clear e1 e2 hm
    generalize (⟨c.toArray⟩ : ByteArray) = C at *
    go_enter Tryz.func33, Tryz.ntmps33
    go_wp2_with (first
      | (go_at_call 61; refine (CU.out _).mono ?_; rintro e w1 ⟨⟨g, rfl, hg⟩, hb1⟩; obtain ⟨hc1, hf1⟩ := bcell hb1; have hs1 := hb1.size; (try simp at hs1); have hz1 : w.heap.size < w1.heap.size := (by have := hb1.size; (try simp at this); omega); have HG := Lib.hid hg; clear hg)
      | (go_at_call 62; refine (IX.out _ _ _ (HG.out.below (by repeat (first | exact Below.refl _ _ | refine Below.setCell ?_ (by first | (simp; done) | (simp; omega) | omega) _ | refine Below.alloc ?_ (by first | (simp; done) | (simp; omega) | omega) _ | refine Below.drew ?_ | assumption | refine Below.trans ?_ (Below.mono (by assumption) (by first | (simp; done) | (simp; omega) | omega))))) (by omega) (by simp [go_sem, *])).mono ?_; rintro e w2 ⟨rfl, hb2⟩; have hs2 := hb2.size; (try simp at hs2)))
    go_ret2
    exact ⟨ret_n2 E.out.1 E.out.2, (by repeat (first | exact Below.refl _ _ | refine Below.setCell ?_ (by first | (simp; done) | (simp; omega) | omega) _ | refine Below.alloc ?_ (by first | (simp; done) | (simp; omega) | omega) _ | refine Below.drew ?_ | assumption | refine Below.trans ?_ (Below.mono (by assumption) (by first | (simp; done) | (simp; omega) | omega))))⟩

def inU (u : Int) : Bool := decide (-4611686018427387904 ≤ u ∧ u ≤ 4611686018427387904)
theorem within_any (u : Int) (w : World) : Calls Tryz.prog 36 #[.int .i64 u] w fun e w' => e = .returned (.bool (inU u)) ∧ Below w.heap.size w w' := by
  by_cases h1 : -4611686018427387904 ≤ u
  · by_cases h2 : u ≤ 4611686018427387904
    · have e : inU u = true := decide_eq_true ⟨h1, h2⟩
      rw [e]
      clear e
      go_enter Tryz.func36, Tryz.ntmps36
      go_wp2
      go_ret
      exact ⟨rfl, (by repeat (first | exact Below.refl _ _ | refine Below.setCell ?_ (by first | (simp; done) | (simp; omega) | omega) _ | refine Below.alloc ?_ (by first | (simp; done) | (simp; omega) | omega) _ | refine Below.drew ?_ | assumption | refine Below.trans ?_ (Below.mono (by assumption) (by first | (simp; done) | (simp; omega) | omega))))⟩
    · have e : inU u = false := decide_eq_false (by omega)
      have d := decide_eq_false h2
      rw [e]
      clear e
      go_enter Tryz.func36, Tryz.ntmps36
      go_wp2
      go_ret
      exact ⟨rfl, (by repeat (first | exact Below.refl _ _ | refine Below.setCell ?_ (by first | (simp; done) | (simp; omega) | omega) _ | refine Below.alloc ?_ (by first | (simp; done) | (simp; omega) | omega) _ | refine Below.drew ?_ | assumption | refine Below.trans ?_ (Below.mono (by assumption) (by first | (simp; done) | (simp; omega) | omega))))⟩
  · have e : inU u = false := decide_eq_false (by omega)
    have d := decide_eq_false h1
    rw [e]
    clear e
    go_enter Tryz.func36, Tryz.ntmps36
    go_wp2
    go_ret
    exact ⟨rfl, (by repeat (first | exact Below.refl _ _ | refine Below.setCell ?_ (by first | (simp; done) | (simp; omega) | omega) _ | refine Below.alloc ?_ (by first | (simp; done) | (simp; omega) | omega) _ | refine Below.drew ?_ | assumption | refine Below.trans ?_ (Below.mono (by assumption) (by first | (simp; done) | (simp; omega) | omega))))⟩

/-- The error of an amount that may not be. -/
def amE (u : Int) (c : List UInt8) : Int := if scE c = 0 then (if inU u then 0 else 6) else scE c
theorem ret_i1 {a b : Int} (h : a = b) : Ending.returned (.int .i64 b) = .returned (.int .i64 a) := by rw [h]
theorem scE_cases (c : List UInt8) : scE c = 0 ∨ scE c = 18 := by unfold scE; split <;> simp
set_option maxHeartbeats 2000000 in
theorem mcheck_any (u : Int) (c : List UInt8) (w : World) : Calls Tryz.prog 14 #[.agg #[.int .i64 u, .string ⟨c.toArray⟩]] w fun e w' => e = .returned (.int .i64 (amE u c)) ∧ Below w.heap.size w w' := by
  have SC := Lib.hid (fun W => scale_any c W)
  have WI := Lib.hid (fun W => within_any u W)
  rcases scE_cases c with h | h
  · cases hu : inU u with
    | true =>
      have e : amE u c = 0 := by unfold amE; rw [if_pos h, hu]; rfl
      rw [e]
      rw [h] at SC
      rw [hu] at WI
      clear e h hu
      generalize scN c = z at *
      generalize (⟨c.toArray⟩ : ByteArray) = C at *
      go_enter Tryz.func14, Tryz.ntmps14
      go_wp2_with (first | (go_at_call 33; refine (SC.out _).mono ?_; rintro e w1 ⟨rfl, hb1⟩; obtain ⟨hc1, hf1⟩ := bcell hb1; have hs1 := hb1.size; (try simp at hs1); have hz1 : w.heap.size < w1.heap.size := by have := hb1.size; (try simp at this); omega) | (go_at_call 36; refine (WI.out _).mono ?_; rintro e w2 ⟨rfl, hb2⟩; obtain ⟨hc2, hf2⟩ := bcell hb2; have hs2 := hb2.size; (try simp at hs2); have hz2 : w.heap.size < w2.heap.size := by have := hb2.size; (try simp at this); omega))
      go_ret
      exact ⟨rfl, (by repeat (first | exact Below.refl _ _ | refine Below.setCell ?_ (by first | (simp; done) | (simp; omega) | omega) _ | refine Below.alloc ?_ (by first | (simp; done) | (simp; omega) | omega) _ | refine Below.drew ?_ | assumption | refine Below.trans ?_ (Below.mono (by assumption) (by first | (simp; done) | (simp; omega) | omega))))⟩
    | false =>
      have e : amE u c = 6 := by unfold amE; rw [if_pos h, hu]; rfl
      rw [e]
      rw [h] at SC
      rw [hu] at WI
      clear e h hu
      generalize scN c = z at *
      generalize (⟨c.toArray⟩ : ByteArray) = C at *
      go_enter Tryz.func14, Tryz.ntmps14
      go_wp2_with (first | (go_at_call 33; refine (SC.out _).mono ?_; rintro e w1 ⟨rfl, hb1⟩; obtain ⟨hc1, hf1⟩ := bcell hb1; have hs1 := hb1.size; (try simp at hs1); have hz1 : w.heap.size < w1.heap.size := by have := hb1.size; (try simp at this); omega) | (go_at_call 36; refine (WI.out _).mono ?_; rintro e w2 ⟨rfl, hb2⟩; obtain ⟨hc2, hf2⟩ := bcell hb2; have hs2 := hb2.size; (try simp at hs2); have hz2 : w.heap.size < w2.heap.size := by have := hb2.size; (try simp at this); omega))
      go_ret
      exact ⟨rfl, (by repeat (first | exact Below.refl _ _ | refine Below.setCell ?_ (by first | (simp; done) | (simp; omega) | omega) _ | refine Below.alloc ?_ (by first | (simp; done) | (simp; omega) | omega) _ | refine Below.drew ?_ | assumption | refine Below.trans ?_ (Below.mono (by assumption) (by first | (simp; done) | (simp; omega) | omega))))⟩
  · have e : amE u c = 18 := by unfold amE; rw [h]; rfl
    rw [e]
    rw [h] at SC
    clear e h WI
    generalize scN c = z at *
    generalize (⟨c.toArray⟩ : ByteArray) = C at *
    go_enter Tryz.func14, Tryz.ntmps14
    go_wp2_with (first | (go_at_call 33; refine (SC.out _).mono ?_; rintro e w1 ⟨rfl, hb1⟩; obtain ⟨hc1, hf1⟩ := bcell hb1; have hs1 := hb1.size; (try simp at hs1); have hz1 : w.heap.size < w1.heap.size := by have := hb1.size; (try simp at this); omega))
    go_ret
    exact ⟨rfl, (by repeat (first | exact Below.refl _ _ | refine Below.setCell ?_ (by first | (simp; done) | (simp; omega) | omega) _ | refine Below.alloc ?_ (by first | (simp; done) | (simp; omega) | omega) _ | refine Below.drew ?_ | assumption | refine Below.trans ?_ (Below.mono (by assumption) (by first | (simp; done) | (simp; omega) | omega))))⟩

/-- What a function answers that answers an amount: u units of c, or an error. -/
def amR (e u : Int) (c : List UInt8) : Value := .tuple #[.agg #[.int .i64 (if e = 0 then u else 0), .string ⟨(if e = 0 then c else []).toArray⟩], .int .i64 e]
theorem amR_0 {e u : Int} {c : List UInt8} (h : e = 0) : amR e u c = .tuple #[.agg #[.int .i64 u, .string ⟨c.toArray⟩], .int .i64 0] := by subst h; rfl
theorem amR_n {e u : Int} {c : List UInt8} (h : e ≠ 0) : amR e u c = .tuple #[.agg #[.int .i64 0, .string ⟨#[]⟩], .int .i64 e] := by unfold amR; rw [if_neg h, if_neg h]
/-- money.made: of a wide number. -/
def maE (z : Int) : Int := if inU z then 0 else 16
set_option maxHeartbeats 2000000 in
theorem made_any (z : Int) (hz : In128 z) (c : List UInt8) (w : World) : Calls Tryz.prog 38 #[.agg #[.int .u64 (hiOf z), .int .u64 (loOf z)], .string ⟨c.toArray⟩] w fun e w' => e = .returned (amR (maE z) z c) ∧ Below w.heap.size w w' := by
  have WI := Lib.hid (fun W => within_any z W)
  obtain ⟨a1, a2⟩ := hiOf_word z
  obtain ⟨b1, b2⟩ := loOf_word z
  by_cases g : In64 z
  · have WF := Lib.hid (fun W => int_fits z g W)
    clear g hz a1 a2 b1 b2
    generalize hiOf z = hi at *
    generalize loOf z = lo at *
    cases hu : inU z with
    | true =>
      rw [amR_0 (show maE z = 0 by unfold maE; rw [hu]; rfl)]
      rw [hu] at WI
      clear hu
      generalize (⟨c.toArray⟩ : ByteArray) = C at *
      go_enter Tryz.func38, Tryz.ntmps38
      go_wp2_with (first | (go_at_call 18; refine (WF.out _).mono ?_; rintro e w1 ⟨rfl, hb1⟩; obtain ⟨hc1, hf1⟩ := bcell hb1; have hs1 := hb1.size; (try simp at hs1); have hz1 : w.heap.size < w1.heap.size ∧ w.heap.size + 1 < w1.heap.size := by have := hb1.size; (try simp at this); omega) | (go_at_call 36; refine (WI.out _).mono ?_; rintro e w2 ⟨rfl, hb2⟩; obtain ⟨hc2, hf2⟩ := bcell hb2; have hs2 := hb2.size; (try simp at hs2); have hz2 : w.heap.size < w2.heap.size ∧ w.heap.size + 1 < w2.heap.size := by have := hb2.size; (try simp at this); omega))
      exact bodyPost_ret (v := .tuple #[.agg #[.int .i64 z, .string C], .int .i64 0]) (by simp [results, Tryz.results38, go_sem, *]) rfl ⟨rfl, (by repeat (first | exact Below.refl _ _ | refine Below.setCell ?_ (by first | (simp; done) | (simp; omega) | omega) _ | refine Below.alloc ?_ (by first | (simp; done) | (simp; omega) | omega) _ | refine Below.drew ?_ | assumption | refine Below.trans ?_ (Below.mono (by assumption) (by first | (simp; done) | (simp; omega) | omega))))⟩
    | false =>
      have e : maE z = 16 := by unfold maE; rw [hu]; rfl
      rw [amR_n (by rw [e]; decide), e]
      rw [hu] at WI
      clear hu e
      generalize (⟨c.toArray⟩ : ByteArray) = C at *
      go_enter Tryz.func38, Tryz.ntmps38
      go_wp2_with (first | (go_at_call 18; refine (WF.out _).mono ?_; rintro e w1 ⟨rfl, hb1⟩; obtain ⟨hc1, hf1⟩ := bcell hb1; have hs1 := hb1.size; (try simp at hs1); have hz1 : w.heap.size < w1.heap.size ∧ w.heap.size + 1 < w1.heap.size := by have := hb1.size; (try simp at this); omega) | (go_at_call 36; refine (WI.out _).mono ?_; rintro e w2 ⟨rfl, hb2⟩; obtain ⟨hc2, hf2⟩ := bcell hb2; have hs2 := hb2.size; (try simp at hs2); have hz2 : w.heap.size < w2.heap.size ∧ w.heap.size + 1 < w2.heap.size := by have := hb2.size; (try simp at this); omega))
      exact bodyPost_ret (v := .tuple #[.agg #[.int .i64 0, .string ⟨#[]⟩], .int .i64 16]) (by simp [results, Tryz.results38, go_sem, *]) rfl ⟨rfl, (by repeat (first | exact Below.refl _ _ | refine Below.setCell ?_ (by first | (simp; done) | (simp; omega) | omega) _ | refine Below.alloc ?_ (by first | (simp; done) | (simp; omega) | omega) _ | refine Below.drew ?_ | assumption | refine Below.trans ?_ (Below.mono (by assumption) (by first | (simp; done) | (simp; omega) | omega))))⟩
  · have WO := Lib.hid (fun W => int_over z hz g W)
    have e : maE z = 16 := by unfold maE inU; rw [decide_eq_false (by unfold In64 at g; omega)]; rfl
    rw [amR_n (by rw [e]; decide), e]
    clear g hz a1 a2 b1 b2 e WI
    generalize hiOf z = hi at *
    generalize loOf z = lo at *
    generalize (⟨c.toArray⟩ : ByteArray) = C at *
    go_enter Tryz.func38, Tryz.ntmps38
    go_wp2_with (first | (go_at_call 18; refine (WO.out _).mono ?_; rintro e w1 ⟨rfl, hb1⟩; obtain ⟨hc1, hf1⟩ := bcell hb1; have hs1 := hb1.size; (try simp at hs1); have hz1 : w.heap.size < w1.heap.size ∧ w.heap.size + 1 < w1.heap.size := by have := hb1.size; (try simp at this); omega))
    exact bodyPost_ret (v := .tuple #[.agg #[.int .i64 0, .string ⟨#[]⟩], .int .i64 16]) (by simp [results, Tryz.results38, go_sem, *]) rfl ⟨rfl, (by repeat (first | exact Below.refl _ _ | refine Below.setCell ?_ (by first | (simp; done) | (simp; omega) | omega) _ | refine Below.alloc ?_ (by first | (simp; done) | (simp; omega) | omega) _ | refine Below.drew ?_ | assumption | refine Below.trans ?_ (Below.mono (by assumption) (by first | (simp; done) | (simp; omega) | omega))))⟩
end Go.Proofs.YtakfjdnpfhcgkaaGreatDoor

/-
  Contracts of money.first of two, pair, Cmp, Neg.
-/
namespace Go.Proofs.YtakfjdnpfhcgkaaGreatDoor
set_option linter.all false
open Go.RowKit Go.Sort
attribute [local go_sem] cell_set_self lt_1 lt_2 lt_3 lt_4 lt_5 lt_6

end Go.Proofs.YtakfjdnpfhcgkaaGreatDoor

/-
  Contract of wide.Int.Sub.
-/
namespace Go.Proofs.YtakfjdnpfhcgkaaGreatDoor
set_option linter.all false
open Go.RowKit Go.Sort
attribute [local go_sem] cell_set_self lt_1 lt_2 lt_3 lt_4 lt_5 lt_6
end Go.Proofs.YtakfjdnpfhcgkaaGreatDoor

/-
  Contracts of money.Amount's Cmp, Neg, Add, Sub.
-/
namespace Go.Proofs.YtakfjdnpfhcgkaaGreatDoor
set_option linter.all false
open Go.RowKit Go.Sort
attribute [local go_sem] cell_set_self lt_1 lt_2 lt_3 lt_4 lt_5 lt_6

theorem inU_iff {u : Int} : inU u = true ↔ (-4611686018427387904 ≤ u ∧ u ≤ 4611686018427387904) := by unfold inU; simp
end Go.Proofs.YtakfjdnpfhcgkaaGreatDoor
