/-
  Contracts of money.Amount's Cmp, Neg, Add, Sub.
-/
import Derived.Test.YtdpoahfjiomhbaaGreatDoorPw3
import Derived.Deep.RegionHeld3
import Derived.Deep.QuietTactic
import Derived.BigQuiet
import Derived.Deep.CutRange
import Derived.Deep.RegionLaw
import Derived.Laws.IdiomStrings
import Derived.Laws.Concat
import Derived.Laws.DeepStrings4
import Derived.Test.YtdpoahfjiomhbaaGreatDoorWk5
import Derived.Test.YtdpoahfjiomhbaaGreatDoorBw1
import Derived.Test.YtdpoahfjiomhbaaGreatDoorWk1
import Derived.Test.YtdpoahfjiomhbaaGreatDoorQh
import Derived.Test.YtdpoahfjiomhbaaGreatDoorWk3

/-
  Contracts of money.Currencies, IndexFunc over them, money.Scale, within, check.
-/
namespace Go.Proofs.YtdpoahfjiomhbaaGreatDoor
set_option linter.all false
open Go.RowKit Go.Sort
attribute [local go_sem] cell_set_self lt_1 lt_2 lt_3 lt_4 lt_5 lt_6

theorem drew_sizeM (w : World) : w.drew.heap.size = w.heap.size := rfl
theorem drew_cellM (w : World) (a : Addr) : w.drew.cell? a = w.cell? a := rfl
theorem drew_frozenM (w : World) (a : Addr) : w.drew.frozen? a = w.frozen? a := rfl
theorem below_drewM {B : Nat} {a w : World} (h : Below B a w) (n : Nat) : Below B a (w.drewN n) := h.trans ⟨rfl, rfl, rfl, Nat.le_refl _, fun _ _ => rfl⟩
theorem rhe_absM (z : Int) (b : Int) (hb : 0 < b) : (rhe z b).natAbs ≤ z.natAbs + 1 := by
  have a : ∀ s : Int, 0 ≤ s → 0 ≤ rheA s b ∧ rheA s b ≤ s + 1 := fun s hs => by
    have h0 := Int.ediv_nonneg hs (show 0 ≤ b by omega)
    have h1 := Int.ediv_le_self b hs
    unfold rheA; split <;> omega
  unfold rhe
  split
  · have := a (-z) (by omega); omega
  · have := a z (by omega); omega
/-- The currencies: codes and decimals. -/
def curL : List (List UInt8 × Int) := [([67, 72, 70], 2), ([69, 85, 82], 2), ([71, 66, 80], 2), ([74, 80, 89], 0), ([75, 87, 68], 3), ([85, 83, 68], 2)]
def scP (c : List UInt8) : Option Int := (curL.find? (fun t => t.1 == c)).map (·.2)
def scN (c : List UInt8) : Int := (scP c).getD 0
def scE (c : List UInt8) : Int := if (scP c).isSome then 0 else 18
def Curs (w : World) (g : Nat) : Prop := g < w.heap.size ∧ ∀ k t, curL[k]? = some t → w.cell? ⟨g, k * 2, none⟩ = some (.string ⟨t.1.toArray⟩) ∧ w.cell? ⟨g, k * 2 + 1, none⟩ = some (.int .i64 t.2)
theorem Curs.below {w w' : World} {g : Nat} (h : Curs w g) (hb : Below w.heap.size w w') : Curs w' g :=
  ⟨Nat.lt_of_lt_of_le h.1 hb.size, fun k t hk => ⟨(hb.cell (p := ⟨g, k * 2, none⟩) h.1).trans (h.2 k t hk).1, (hb.cell (p := ⟨g, k * 2 + 1, none⟩) h.1).trans (h.2 k t hk).2⟩⟩
theorem cur_lt {k : Nat} {t : List UInt8 × Int} (h : curL[k]? = some t) : k < 6 := (List.getElem?_eq_some_iff.1 h).1
theorem cur_all {p : Nat → (List UInt8 × Int) → Prop} (h0 : p 0 ([67, 72, 70], 2)) (h1 : p 1 ([69, 85, 82], 2)) (h2 : p 2 ([71, 66, 80], 2)) (h3 : p 3 ([74, 80, 89], 0)) (h4 : p 4 ([75, 87, 68], 3)) (h5 : p 5 ([85, 83, 68], 2)) {k : Nat} {t : List UInt8 × Int} (h : curL[k]? = some t) : p k t := by
  have hk := cur_lt h
  match k, hk, h with
  | 0, _, h => simp [curL] at h; subst h; exact h0
  | 1, _, h => simp [curL] at h; subst h; exact h1
  | 2, _, h => simp [curL] at h; subst h; exact h2
  | 3, _, h => simp [curL] at h; subst h; exact h3
  | 4, _, h => simp [curL] at h; subst h; exact h4
  | 5, _, h => simp [curL] at h; subst h; exact h5
theorem cur_hit {k : Nat} {t : List UInt8 × Int} (h : curL[k]? = some t) : scP t.1 = some t.2 :=
  cur_all (p := fun _ t => scP t.1 = some t.2) (by decide) (by decide) (by decide) (by decide) (by decide) (by decide) h
theorem cur_bound {k : Nat} {t : List UInt8 × Int} (h : curL[k]? = some t) : 0 ≤ t.2 ∧ t.2 ≤ 3 ∧ t.1.length = 3 :=
  cur_all (p := fun _ t => 0 ≤ t.2 ∧ t.2 ≤ 3 ∧ t.1.length = 3) (by decide) (by decide) (by decide) (by decide) (by decide) (by decide) h
theorem cur_ne {j k : Nat} {t u : List UInt8 × Int} (h : curL[j]? = some t) (hk : curL[k]? = some u) (hjk : j < k) : t.1 ≠ u.1 := by
  intro e
  have hk6 := cur_lt hk
  have h1 : (List.map (·.1) curL)[j]? = some t.1 := by rw [List.getElem?_map, h]; rfl
  have h2 : (List.map (·.1) curL)[k]? = some u.1 := by rw [List.getElem?_map, hk]; rfl
  have nd : ∀ j, j < 6 → ∀ k, k < 6 → j < k → (List.map (·.1) curL)[j]? ≠ (List.map (·.1) curL)[k]? := by decide
  exact nd j (by omega) k hk6 hjk (by rw [h1, h2, e])
theorem cur_cases (c : List UInt8) : (∃ (k : Nat) (t : List UInt8 × Int), curL[k]? = some t ∧ t.1 = c) ∨ (∀ (k : Nat) (t : List UInt8 × Int), curL[k]? = some t → t.1 ≠ c) := by
  rcases Classical.em (∃ (k : Nat) (t : List UInt8 × Int), curL[k]? = some t ∧ t.1 = c) with h | h
  · exact .inl h
  · exact .inr fun k t h1 h2 => h ⟨k, t, h1, h2⟩
theorem cur_miss {c : List UInt8} (h : ∀ (k : Nat) (t : List UInt8 × Int), curL[k]? = some t → t.1 ≠ c) : scP c = none := by
  have h' : ∀ t ∈ curL, t.1 ≠ c := fun t ht => by
    obtain ⟨k, hk⟩ := List.getElem?_of_mem ht
    exact h k t hk
  have : curL.find? (fun t => t.1 == c) = none := List.find?_eq_none.2 fun t ht => by simpa using h' t ht
  unfold scP; rw [this]; rfl

set_option maxHeartbeats 1000000 in
theorem currencies_any (w : World) : Calls Tryz.prog 24 #[] w fun e w' => (∃ g, e = .returned (.slice (some ⟨g, 0, none⟩) 6 6) ∧ Curs w' g) ∧ Below w.heap.size w w' := by
  go_enter Tryz.func24, Tryz.ntmps24
  go_wp2
  go_ret
  refine ⟨⟨w.heap.size, rfl, by simp, fun k t hk => ?_⟩, (by repeat (first | exact Below.refl _ _ | refine Below.setCell ?_ (by first | (simp; done) | (simp; omega) | omega) _ | refine Below.alloc ?_ (by first | (simp; done) | (simp; omega) | omega) _ | refine Below.drew ?_ | assumption | refine Below.trans ?_ (Below.mono (by assumption) (by first | (simp; done) | (simp; omega) | omega))))⟩
  exact cur_all (p := fun k t => World.cell? _ ⟨w.heap.size, k * 2, none⟩ = some (.string ⟨t.1.toArray⟩) ∧ World.cell? _ ⟨w.heap.size, k * 2 + 1, none⟩ = some (.int .i64 t.2)) (by simp [go_sem]) (by simp [go_sem]) (by simp [go_sem]) (by simp [go_sem]) (by simp [go_sem]) (by simp [go_sem]) hk

/-- The closure: is it that code? -/
theorem isCode_any (x c : ByteArray) (z : Int) (b : Nat) (w : World) (hb : b < w.heap.size) (hc : w.cell? ⟨b, 0, none⟩ = some (.string c)) :
    Calls Tryz.prog 78 #[.agg #[.string x, .int .i64 z], .pointer (some ⟨b, 0, none⟩)] w fun e w' => e = .returned (.bool (x.toList == c.toList)) ∧ Below w.heap.size w w' := by
  go_enter Tryz.func78, Tryz.ntmps78
  go_wp2
  go_ret
  exact ⟨rfl, (by repeat (first | exact Below.refl _ _ | refine Below.setCell ?_ (by first | (simp; done) | (simp; omega) | omega) _ | refine Below.alloc ?_ (by first | (simp; done) | (simp; omega) | omega) _ | refine Below.drew ?_ | assumption | refine Below.trans ?_ (Below.mono (by assumption) (by first | (simp; done) | (simp; omega) | omega))))⟩

theorem str_beq (a b : List UInt8) : ((⟨a.toArray⟩ : ByteArray).toList == (⟨b.toArray⟩ : ByteArray).toList) = decide (a = b) := by
  rw [ByteArray.toList_mk, ByteArray.toList_mk]; exact Bool.beq_eq_decide_eq a b
set_option maxHeartbeats 2000000 in
set_option maxRecDepth 100000 in
/-- IndexFunc over the currencies: the code number k. -/
theorem idx_hit (k : Nat) (t : List UInt8 × Int) (hk : curL[k]? = some t) (g b : Nat) (w : World) (hc : Curs w g) (hb : b < w.heap.size) (hbc : w.cell? ⟨b, 0, none⟩ = some (.string ⟨t.1.toArray⟩)) :
    Calls Tryz.prog 77 #[.slice (some ⟨g, 0, none⟩) 6 6, .func (.func 78) #[] #[.pointer (some ⟨b, 0, none⟩)]] w fun e w' => e = .returned (.int .i64 k) ∧ Below w.heap.size w w' := by
  have IC := Lib.hid (fun x z W (hB : Below w.heap.size w W) => isCode_any x ⟨t.1.toArray⟩ z b W (Nat.lt_of_lt_of_le hb hB.size) ((hB.cell (p := ⟨b, 0, none⟩) hb).trans hbc))
  have CC := Lib.hid (fun W (hB : Below w.heap.size w W) => hc.below hB)
  have hk6 := cur_lt hk
  clear hc hb hbc
  go_enter Tryz.func77, Tryz.ntmps77
  go_wp2
  go_loopw [8] (fun i wr => ∃ j : Nat, j ≤ k ∧ i = .int .i64 j ∧ Below w.heap.size w wr) (fun i _ => 6 - (intOf i).toNat)
  case atStart => exact ⟨0, by omega, rfl, (by repeat (first | exact Below.refl _ _ | refine Below.setCell ?_ (by first | (simp; done) | (simp; omega) | omega) _ | refine Below.alloc ?_ (by first | (simp; done) | (simp; omega) | omega) _ | refine Below.drew ?_ | assumption | refine Below.trans ?_ (Below.mono (by assumption) (by first | (simp; done) | (simp; omega) | omega))))⟩
  case round =>
    obtain ⟨j, hj, rfl, hB⟩ := hrel
    obtain ⟨wo, rfl⟩ : ∃ wo : World, wo = wr := ⟨_, rfl⟩
    have hsl := hB.size
    have hcu := CC.out wo hB
    have hj6 : (j : Int) < 6 := by omega
    by_cases hjk : j = k
    · subst hjk
      obtain ⟨hgl, hx⟩ := hcu
      obtain ⟨hx, hy⟩ := hx j t hk
      have e1 := str_beq t.1 t.1
      rw [decide_eq_true rfl] at e1
      clear hk
      generalize (⟨t.1.toArray⟩ : ByteArray) = C at *
      go_wp2_with (first | (go_at_call 78; refine (IC.out _ _ _ (by repeat (first | exact Below.refl _ _ | refine Below.setCell ?_ (by first | (simp; done) | (simp; omega) | omega) _ | refine Below.alloc ?_ (by first | (simp; done) | (simp; omega) | omega) _ | refine Below.drew ?_ | assumption | refine Below.trans ?_ (Below.mono (by assumption) (by first | (simp; done) | (simp; omega) | omega))))).mono ?_; rintro e w1 ⟨rfl, hb1⟩; have hs1 := hb1.size; (try simp at hs1)))
      go_ret
      exact ⟨rfl, (by repeat (first | exact Below.refl _ _ | refine Below.setCell ?_ (by first | (simp; done) | (simp; omega) | omega) _ | refine Below.alloc ?_ (by first | (simp; done) | (simp; omega) | omega) _ | refine Below.drew ?_ | assumption | refine Below.trans ?_ (Below.mono (by assumption) (by first | (simp; done) | (simp; omega) | omega))))⟩
    · obtain ⟨u, hu⟩ : ∃ u, curL[j]? = some u := ⟨_, List.getElem?_eq_getElem (by show j < 6; omega)⟩
      obtain ⟨hgl, hx⟩ := hcu
      obtain ⟨hx, hy⟩ := hx j u hu
      have e1 := str_beq u.1 t.1
      rw [decide_eq_false (cur_ne hu hk (by omega))] at e1
      clear hk hu
      generalize (⟨t.1.toArray⟩ : ByteArray) = C at *
      generalize (⟨u.1.toArray⟩ : ByteArray) = X at *
      go_wp2_with (first | (go_at_call 78; refine (IC.out _ _ _ (by repeat (first | exact Below.refl _ _ | refine Below.setCell ?_ (by first | (simp; done) | (simp; omega) | omega) _ | refine Below.alloc ?_ (by first | (simp; done) | (simp; omega) | omega) _ | refine Below.drew ?_ | assumption | refine Below.trans ?_ (Below.mono (by assumption) (by first | (simp; done) | (simp; omega) | omega))))).mono ?_; rintro e w1 ⟨rfl, hb1⟩; have hs1 := hb1.size; (try simp at hs1)))
      go_roundw
      case rel => exact ⟨j + 1, by omega, by go_num, (by repeat (first | exact Below.refl _ _ | refine Below.setCell ?_ (by first | (simp; done) | (simp; omega) | omega) _ | refine Below.alloc ?_ (by first | (simp; done) | (simp; omega) | omega) _ | refine Below.drew ?_ | assumption | refine Below.trans ?_ (Below.mono (by assumption) (by first | (simp; done) | (simp; omega) | omega))))⟩
      case measure => first | (simp [intOf]; done) | (simp [intOf]; omega)
set_option maxHeartbeats 2000000 in
set_option maxRecDepth 100000 in
/-- .. no such code. -/
theorem idx_miss (c : List UInt8) (hm : ∀ (k : Nat) (t : List UInt8 × Int), curL[k]? = some t → t.1 ≠ c) (g b : Nat) (w : World) (hc : Curs w g) (hb : b < w.heap.size) (hbc : w.cell? ⟨b, 0, none⟩ = some (.string ⟨c.toArray⟩)) :
    Calls Tryz.prog 77 #[.slice (some ⟨g, 0, none⟩) 6 6, .func (.func 78) #[] #[.pointer (some ⟨b, 0, none⟩)]] w fun e w' => e = .returned (.int .i64 (-1)) ∧ Below w.heap.size w w' := by
  have IC := Lib.hid (fun x z W (hB : Below w.heap.size w W) => isCode_any x ⟨c.toArray⟩ z b W (Nat.lt_of_lt_of_le hb hB.size) ((hB.cell (p := ⟨b, 0, none⟩) hb).trans hbc))
  have CC := Lib.hid (fun W (hB : Below w.heap.size w W) => hc.below hB)
  have HM := Lib.hid hm
  clear hc hb hbc hm
  go_enter Tryz.func77, Tryz.ntmps77
  go_wp2
  go_loopw [8] (fun i wr => ∃ j : Nat, j ≤ 6 ∧ i = .int .i64 j ∧ Below w.heap.size w wr) (fun i _ => 6 - (intOf i).toNat)
  case atStart => exact ⟨0, by omega, rfl, (by repeat (first | exact Below.refl _ _ | refine Below.setCell ?_ (by first | (simp; done) | (simp; omega) | omega) _ | refine Below.alloc ?_ (by first | (simp; done) | (simp; omega) | omega) _ | refine Below.drew ?_ | assumption | refine Below.trans ?_ (Below.mono (by assumption) (by first | (simp; done) | (simp; omega) | omega))))⟩
  case round =>
    obtain ⟨j, hj, rfl, hB⟩ := hrel
    obtain ⟨wo, rfl⟩ : ∃ wo : World, wo = wr := ⟨_, rfl⟩
    have hsl := hB.size
    have hcu := CC.out wo hB
    by_cases hjk : j = 6
    · subst hjk
      clear hcu
      go_wp2
      go_ret
      exact ⟨rfl, (by repeat (first | exact Below.refl _ _ | refine Below.setCell ?_ (by first | (simp; done) | (simp; omega) | omega) _ | refine Below.alloc ?_ (by first | (simp; done) | (simp; omega) | omega) _ | refine Below.drew ?_ | assumption | refine Below.trans ?_ (Below.mono (by assumption) (by first | (simp; done) | (simp; omega) | omega))))⟩
    · have hj6 : (j : Int) < 6 := by omega
      obtain ⟨u, hu⟩ : ∃ u, curL[j]? = some u := ⟨_, List.getElem?_eq_getElem (by show j < 6; omega)⟩
      obtain ⟨hgl, hx⟩ := hcu
      obtain ⟨hx, hy⟩ := hx j u hu
      have e1 := str_beq u.1 c
      rw [decide_eq_false (HM.out j u hu)] at e1
      clear hu
      generalize (⟨c.toArray⟩ : ByteArray) = C at *
      generalize (⟨u.1.toArray⟩ : ByteArray) = X at *
      go_wp2_with (first | (go_at_call 78; refine (IC.out _ _ _ (by repeat (first | exact Below.refl _ _ | refine Below.setCell ?_ (by first | (simp; done) | (simp; omega) | omega) _ | refine Below.alloc ?_ (by first | (simp; done) | (simp; omega) | omega) _ | refine Below.drew ?_ | assumption | refine Below.trans ?_ (Below.mono (by assumption) (by first | (simp; done) | (simp; omega) | omega))))).mono ?_; rintro e w1 ⟨rfl, hb1⟩; have hs1 := hb1.size; (try simp at hs1)))
      go_roundw
      case rel => exact ⟨j + 1, by omega, by go_num, (by repeat (first | exact Below.refl _ _ | refine Below.setCell ?_ (by first | (simp; done) | (simp; omega) | omega) _ | refine Below.alloc ?_ (by first | (simp; done) | (simp; omega) | omega) _ | refine Below.drew ?_ | assumption | refine Below.trans ?_ (Below.mono (by assumption) (by first | (simp; done) | (simp; omega) | omega))))⟩
      case measure => first | (simp [intOf]; done) | (simp [intOf]; omega)
end Go.Proofs.YtdpoahfjiomhbaaGreatDoor

/-
  Contracts of money.Scale, within, check, New, made, first, pair.
-/
namespace Go.Proofs.YtdpoahfjiomhbaaGreatDoor
set_option linter.all false
open Go.RowKit Go.Sort
attribute [local go_sem] cell_set_self lt_1 lt_2 lt_3 lt_4 lt_5 lt_6

theorem ret_n2 {a b p q : Int} (h1 : a = b) (h2 : p = q) : Ending.returned (.tuple #[.int .i64 b, .int .i64 q]) = .returned (.tuple #[.int .i64 a, .int .i64 p]) := by rw [h1, h2]
set_option maxHeartbeats 2000000 in
set_option maxRecDepth 100000 in
theorem scale_any (c : List UInt8) (w : World) : Calls Tryz.prog 27 #[.string ⟨c.toArray⟩] w fun e w' => e = .returned (.tuple #[.int .i64 (scN c), .int .i64 (scE c)]) ∧ Below w.heap.size w w' := by
  have CU := Lib.hid (fun W => currencies_any W)
  rcases cur_cases c with ⟨k, t, hk, rfl⟩ | hm
  · have e1 : scN t.1 = t.2 := by unfold scN; rw [cur_hit hk]; rfl
    have e2 : scE t.1 = 0 := by unfold scE; rw [cur_hit hk]; rfl
    have E := Lib.hid (And.intro e1 e2)
    have hk6 := cur_lt hk
    have IX := Lib.hid (fun g b W hc hb hbc => idx_hit k t hk g b W hc hb hbc)
    have CK : Hid (∀ g W, Curs W g → g < W.heap.size ∧ W.cell? ⟨g, k * 2 + 1, none⟩ = some (.int .i64 t.2)) := Lib.hid fun g W h => ⟨h.1, (h.2 k t hk).2⟩
    clear e1 e2 hk
    generalize t.2 = z at *
    generalize (⟨t.1.toArray⟩ : ByteArray) = C at *
    go_enter Tryz.func27, Tryz.ntmps27
    go_wp2_with (first
      | (go_at_call 24; refine (CU.out _).mono ?_; rintro e w1 ⟨⟨g, rfl, hg⟩, hb1⟩; obtain ⟨hc1, hf1⟩ := bcell hb1; have hs1 := hb1.size; (try simp at hs1); have hz1 : w.heap.size < w1.heap.size := (by have := hb1.size; (try simp at this); omega); have HG := Lib.hid hg; clear hg)
      | (go_at_call 77; refine (IX.out _ _ _ (HG.out.below (by repeat (first | exact Below.refl _ _ | refine Below.setCell ?_ (by first | (simp; done) | (simp; omega) | omega) _ | refine Below.alloc ?_ (by first | (simp; done) | (simp; omega) | omega) _ | refine Below.drew ?_ | assumption | refine Below.trans ?_ (Below.mono (by assumption) (by first | (simp; done) | (simp; omega) | omega))))) (by omega) (by simp [go_sem, *])).mono ?_; rintro e w2 ⟨rfl, hb2⟩; have hcell := CK.out _ _ ((HG.out.below (by repeat (first | exact Below.refl _ _ | refine Below.setCell ?_ (by first | (simp; done) | (simp; omega) | omega) _ | refine Below.alloc ?_ (by first | (simp; done) | (simp; omega) | omega) _ | refine Below.drew ?_ | assumption | refine Below.trans ?_ (Below.mono (by assumption) (by first | (simp; done) | (simp; omega) | omega))))).below hb2); obtain ⟨hcl, hcell⟩ := hcell; have hs2 := hb2.size; (try simp at hs2)))
    go_ret2
    exact ⟨ret_n2 E.out.1 E.out.2, (by repeat (first | exact Below.refl _ _ | refine Below.setCell ?_ (by first | (simp; done) | (simp; omega) | omega) _ | refine Below.alloc ?_ (by first | (simp; done) | (simp; omega) | omega) _ | refine Below.drew ?_ | assumption | refine Below.trans ?_ (Below.mono (by assumption) (by first | (simp; done) | (simp; omega) | omega))))⟩
  · have e1 : scN c = 0 := by unfold scN; rw [cur_miss hm]; rfl
    have e2 : scE c = 18 := by unfold scE; rw [cur_miss hm]; rfl
    have E := Lib.hid (And.intro e1 e2)
    have IX := Lib.hid (fun g b W hc hb hbc => idx_miss c hm g b W hc hb hbc)
    clear e1 e2 hm
    generalize (⟨c.toArray⟩ : ByteArray) = C at *
    go_enter Tryz.func27, Tryz.ntmps27
    go_wp2_with (first
      | (go_at_call 24; refine (CU.out _).mono ?_; rintro e w1 ⟨⟨g, rfl, hg⟩, hb1⟩; obtain ⟨hc1, hf1⟩ := bcell hb1; have hs1 := hb1.size; (try simp at hs1); have hz1 : w.heap.size < w1.heap.size := (by have := hb1.size; (try simp at this); omega); have HG := Lib.hid hg; clear hg)
      | (go_at_call 77; refine (IX.out _ _ _ (HG.out.below (by repeat (first | exact Below.refl _ _ | refine Below.setCell ?_ (by first | (simp; done) | (simp; omega) | omega) _ | refine Below.alloc ?_ (by first | (simp; done) | (simp; omega) | omega) _ | refine Below.drew ?_ | assumption | refine Below.trans ?_ (Below.mono (by assumption) (by first | (simp; done) | (simp; omega) | omega))))) (by omega) (by simp [go_sem, *])).mono ?_; rintro e w2 ⟨rfl, hb2⟩; have hs2 := hb2.size; (try simp at hs2)))
    go_ret2
    exact ⟨ret_n2 E.out.1 E.out.2, (by repeat (first | exact Below.refl _ _ | refine Below.setCell ?_ (by first | (simp; done) | (simp; omega) | omega) _ | refine Below.alloc ?_ (by first | (simp; done) | (simp; omega) | omega) _ | refine Below.drew ?_ | assumption | refine Below.trans ?_ (Below.mono (by assumption) (by first | (simp; done) | (simp; omega) | omega))))⟩

def inU (u : Int) : Bool := decide (-4611686018427387904 ≤ u ∧ u ≤ 4611686018427387904)
theorem within_any (u : Int) (w : World) : Calls Tryz.prog 85 #[.int .i64 u] w fun e w' => e = .returned (.bool (inU u)) ∧ Below w.heap.size w w' := by
  by_cases h1 : -4611686018427387904 ≤ u
  · by_cases h2 : u ≤ 4611686018427387904
    · have e : inU u = true := decide_eq_true ⟨h1, h2⟩
      rw [e]
      clear e
      go_enter Tryz.func85, Tryz.ntmps85
      go_wp2
      go_ret
      exact ⟨rfl, (by repeat (first | exact Below.refl _ _ | refine Below.setCell ?_ (by first | (simp; done) | (simp; omega) | omega) _ | refine Below.alloc ?_ (by first | (simp; done) | (simp; omega) | omega) _ | refine Below.drew ?_ | assumption | refine Below.trans ?_ (Below.mono (by assumption) (by first | (simp; done) | (simp; omega) | omega))))⟩
    · have e : inU u = false := decide_eq_false (by omega)
      have d := decide_eq_false h2
      rw [e]
      clear e
      go_enter Tryz.func85, Tryz.ntmps85
      go_wp2
      go_ret
      exact ⟨rfl, (by repeat (first | exact Below.refl _ _ | refine Below.setCell ?_ (by first | (simp; done) | (simp; omega) | omega) _ | refine Below.alloc ?_ (by first | (simp; done) | (simp; omega) | omega) _ | refine Below.drew ?_ | assumption | refine Below.trans ?_ (Below.mono (by assumption) (by first | (simp; done) | (simp; omega) | omega))))⟩
  · have e : inU u = false := decide_eq_false (by omega)
    have d := decide_eq_false h1
    rw [e]
    clear e
    go_enter Tryz.func85, Tryz.ntmps85
    go_wp2
    go_ret
    exact ⟨rfl, (by repeat (first | exact Below.refl _ _ | refine Below.setCell ?_ (by first | (simp; done) | (simp; omega) | omega) _ | refine Below.alloc ?_ (by first | (simp; done) | (simp; omega) | omega) _ | refine Below.drew ?_ | assumption | refine Below.trans ?_ (Below.mono (by assumption) (by first | (simp; done) | (simp; omega) | omega))))⟩

/-- The error of an amount that may not be. -/
def amE (u : Int) (c : List UInt8) : Int := if scE c = 0 then (if inU u then 0 else 6) else scE c
theorem ret_i1 {a b : Int} (h : a = b) : Ending.returned (.int .i64 b) = .returned (.int .i64 a) := by rw [h]
theorem scE_cases (c : List UInt8) : scE c = 0 ∨ scE c = 18 := by unfold scE; split <;> simp
set_option maxHeartbeats 2000000 in
theorem mcheck_any (u : Int) (c : List UInt8) (w : World) : Calls Tryz.prog 67 #[.agg #[.int .i64 u, .string ⟨c.toArray⟩]] w fun e w' => e = .returned (.int .i64 (amE u c)) ∧ Below w.heap.size w w' := by
  have SC := Lib.hid (fun W => scale_any c W)
  have WI := Lib.hid (fun W => within_any u W)
  rcases scE_cases c with h | h
  · cases hu : inU u with
    | true =>
      have e : amE u c = 0 := by unfold amE; rw [if_pos h, hu]; rfl
      rw [e]
      rw [h] at SC
      rw [hu] at WI
      clear e h hu
      generalize scN c = z at *
      generalize (⟨c.toArray⟩ : ByteArray) = C at *
      go_enter Tryz.func67, Tryz.ntmps67
      go_wp2_with (first | (go_at_call 27; refine (SC.out _).mono ?_; rintro e w1 ⟨rfl, hb1⟩; obtain ⟨hc1, hf1⟩ := bcell hb1; have hs1 := hb1.size; (try simp at hs1); have hz1 : w.heap.size < w1.heap.size := by have := hb1.size; (try simp at this); omega) | (go_at_call 85; refine (WI.out _).mono ?_; rintro e w2 ⟨rfl, hb2⟩; obtain ⟨hc2, hf2⟩ := bcell hb2; have hs2 := hb2.size; (try simp at hs2); have hz2 : w.heap.size < w2.heap.size := by have := hb2.size; (try simp at this); omega))
      go_ret
      exact ⟨rfl, (by repeat (first | exact Below.refl _ _ | refine Below.setCell ?_ (by first | (simp; done) | (simp; omega) | omega) _ | refine Below.alloc ?_ (by first | (simp; done) | (simp; omega) | omega) _ | refine Below.drew ?_ | assumption | refine Below.trans ?_ (Below.mono (by assumption) (by first | (simp; done) | (simp; omega) | omega))))⟩
    | false =>
      have e : amE u c = 6 := by unfold amE; rw [if_pos h, hu]; rfl
      rw [e]
      rw [h] at SC
      rw [hu] at WI
      clear e h hu
      generalize scN c = z at *
      generalize (⟨c.toArray⟩ : ByteArray) = C at *
      go_enter Tryz.func67, Tryz.ntmps67
      go_wp2_with (first | (go_at_call 27; refine (SC.out _).mono ?_; rintro e w1 ⟨rfl, hb1⟩; obtain ⟨hc1, hf1⟩ := bcell hb1; have hs1 := hb1.size; (try simp at hs1); have hz1 : w.heap.size < w1.heap.size := by have := hb1.size; (try simp at this); omega) | (go_at_call 85; refine (WI.out _).mono ?_; rintro e w2 ⟨rfl, hb2⟩; obtain ⟨hc2, hf2⟩ := bcell hb2; have hs2 := hb2.size; (try simp at hs2); have hz2 : w.heap.size < w2.heap.size := by have := hb2.size; (try simp at this); omega))
      go_ret
      exact ⟨rfl, (by repeat (first | exact Below.refl _ _ | refine Below.setCell ?_ (by first | (simp; done) | (simp; omega) | omega) _ | refine Below.alloc ?_ (by first | (simp; done) | (simp; omega) | omega) _ | refine Below.drew ?_ | assumption | refine Below.trans ?_ (Below.mono (by assumption) (by first | (simp; done) | (simp; omega) | omega))))⟩
  · have e : amE u c = 18 := by unfold amE; rw [h]; rfl
    rw [e]
    rw [h] at SC
    clear e h WI
    generalize scN c = z at *
    generalize (⟨c.toArray⟩ : ByteArray) = C at *
    go_enter Tryz.func67, Tryz.ntmps67
    go_wp2_with (first | (go_at_call 27; refine (SC.out _).mono ?_; rintro e w1 ⟨rfl, hb1⟩; obtain ⟨hc1, hf1⟩ := bcell hb1; have hs1 := hb1.size; (try simp at hs1); have hz1 : w.heap.size < w1.heap.size := by have := hb1.size; (try simp at this); omega))
    go_ret
    exact ⟨rfl, (by repeat (first | exact Below.refl _ _ | refine Below.setCell ?_ (by first | (simp; done) | (simp; omega) | omega) _ | refine Below.alloc ?_ (by first | (simp; done) | (simp; omega) | omega) _ | refine Below.drew ?_ | assumption | refine Below.trans ?_ (Below.mono (by assumption) (by first | (simp; done) | (simp; omega) | omega))))⟩

/-- What a function answers that answers an amount: u units of c, or an error. -/
def amR (e u : Int) (c : List UInt8) : Value := .tuple #[.agg #[.int .i64 (if e = 0 then u else 0), .string ⟨(if e = 0 then c else []).toArray⟩], .int .i64 e]
theorem amR_0 {e u : Int} {c : List UInt8} (h : e = 0) : amR e u c = .tuple #[.agg #[.int .i64 u, .string ⟨c.toArray⟩], .int .i64 0] := by subst h; rfl
theorem amR_n {e u : Int} {c : List UInt8} (h : e ≠ 0) : amR e u c = .tuple #[.agg #[.int .i64 0, .string ⟨#[]⟩], .int .i64 e] := by unfold amR; rw [if_neg h, if_neg h]
set_option maxHeartbeats 2000000 in
theorem new_any (u : Int) (c : List UInt8) (w : World) : Calls Tryz.prog 28 #[.int .i64 u, .string ⟨c.toArray⟩] w fun e w' => e = .returned (amR (amE u c) u c) ∧ Below w.heap.size w w' := by
  have CK := Lib.hid (fun W => mcheck_any u c W)
  by_cases h : amE u c = 0
  · rw [amR_0 h]
    rw [h] at CK
    clear h
    generalize (⟨c.toArray⟩ : ByteArray) = C at *
    go_enter Tryz.func28, Tryz.ntmps28
    go_wp2_with (first | (go_at_call 67; refine (CK.out _).mono ?_; rintro e w1 ⟨rfl, hb1⟩; obtain ⟨hc1, hf1⟩ := bcell hb1; have hs1 := hb1.size; (try simp at hs1); have hz1 : w.heap.size < w1.heap.size ∧ w.heap.size + 1 < w1.heap.size := by have := hb1.size; (try simp at this); omega))
    exact bodyPost_ret (v := .tuple #[.agg #[.int .i64 u, .string C], .int .i64 0]) (by simp [results, Tryz.results28, go_sem, *]) rfl ⟨rfl, (by repeat (first | exact Below.refl _ _ | refine Below.setCell ?_ (by first | (simp; done) | (simp; omega) | omega) _ | refine Below.alloc ?_ (by first | (simp; done) | (simp; omega) | omega) _ | refine Below.drew ?_ | assumption | refine Below.trans ?_ (Below.mono (by assumption) (by first | (simp; done) | (simp; omega) | omega))))⟩
  · rw [amR_n h]
    generalize amE u c = x at *
    have x0 : (x != 0) = true := by simpa using h
    clear h
    generalize (⟨c.toArray⟩ : ByteArray) = C at *
    go_enter Tryz.func28, Tryz.ntmps28
    go_wp2_with (first | (go_at_call 67; refine (CK.out _).mono ?_; rintro e w1 ⟨rfl, hb1⟩; obtain ⟨hc1, hf1⟩ := bcell hb1; have hs1 := hb1.size; (try simp at hs1); have hz1 : w.heap.size < w1.heap.size ∧ w.heap.size + 1 < w1.heap.size := by have := hb1.size; (try simp at this); omega))
    exact bodyPost_ret (v := .tuple #[.agg #[.int .i64 0, .string ⟨#[]⟩], .int .i64 x]) (by simp [results, Tryz.results28, go_sem, *]) rfl ⟨rfl, (by repeat (first | exact Below.refl _ _ | refine Below.setCell ?_ (by first | (simp; done) | (simp; omega) | omega) _ | refine Below.alloc ?_ (by first | (simp; done) | (simp; omega) | omega) _ | refine Below.drew ?_ | assumption | refine Below.trans ?_ (Below.mono (by assumption) (by first | (simp; done) | (simp; omega) | omega))))⟩

/-- money.made: of a wide number. -/
def maE (z : Int) : Int := if inU z then 0 else 16
set_option maxHeartbeats 2000000 in
theorem made_any (z : Int) (hz : In128 z) (c : List UInt8) (w : World) : Calls Tryz.prog 90 #[.agg #[.int .u64 (hiOf z), .int .u64 (loOf z)], .string ⟨c.toArray⟩] w fun e w' => e = .returned (amR (maE z) z c) ∧ Below w.heap.size w w' := by
  have WI := Lib.hid (fun W => within_any z W)
  obtain ⟨a1, a2⟩ := hiOf_word z
  obtain ⟨b1, b2⟩ := loOf_word z
  by_cases g : In64 z
  · have WF := Lib.hid (fun W => int_fits z g W)
    clear g hz a1 a2 b1 b2
    generalize hiOf z = hi at *
    generalize loOf z = lo at *
    cases hu : inU z with
    | true =>
      rw [amR_0 (show maE z = 0 by unfold maE; rw [hu]; rfl)]
      rw [hu] at WI
      clear hu
      generalize (⟨c.toArray⟩ : ByteArray) = C at *
      go_enter Tryz.func90, Tryz.ntmps90
      go_wp2_with (first | (go_at_call 71; refine (WF.out _).mono ?_; rintro e w1 ⟨rfl, hb1⟩; obtain ⟨hc1, hf1⟩ := bcell hb1; have hs1 := hb1.size; (try simp at hs1); have hz1 : w.heap.size < w1.heap.size ∧ w.heap.size + 1 < w1.heap.size := by have := hb1.size; (try simp at this); omega) | (go_at_call 85; refine (WI.out _).mono ?_; rintro e w2 ⟨rfl, hb2⟩; obtain ⟨hc2, hf2⟩ := bcell hb2; have hs2 := hb2.size; (try simp at hs2); have hz2 : w.heap.size < w2.heap.size ∧ w.heap.size + 1 < w2.heap.size := by have := hb2.size; (try simp at this); omega))
      exact bodyPost_ret (v := .tuple #[.agg #[.int .i64 z, .string C], .int .i64 0]) (by simp [results, Tryz.results90, go_sem, *]) rfl ⟨rfl, (by repeat (first | exact Below.refl _ _ | refine Below.setCell ?_ (by first | (simp; done) | (simp; omega) | omega) _ | refine Below.alloc ?_ (by first | (simp; done) | (simp; omega) | omega) _ | refine Below.drew ?_ | assumption | refine Below.trans ?_ (Below.mono (by assumption) (by first | (simp; done) | (simp; omega) | omega))))⟩
    | false =>
      have e : maE z = 16 := by unfold maE; rw [hu]; rfl
      rw [amR_n (by rw [e]; decide), e]
      rw [hu] at WI
      clear hu e
      generalize (⟨c.toArray⟩ : ByteArray) = C at *
      go_enter Tryz.func90, Tryz.ntmps90
      go_wp2_with (first | (go_at_call 71; refine (WF.out _).mono ?_; rintro e w1 ⟨rfl, hb1⟩; obtain ⟨hc1, hf1⟩ := bcell hb1; have hs1 := hb1.size; (try simp at hs1); have hz1 : w.heap.size < w1.heap.size ∧ w.heap.size + 1 < w1.heap.size := by have := hb1.size; (try simp at this); omega) | (go_at_call 85; refine (WI.out _).mono ?_; rintro e w2 ⟨rfl, hb2⟩; obtain ⟨hc2, hf2⟩ := bcell hb2; have hs2 := hb2.size; (try simp at hs2); have hz2 : w.heap.size < w2.heap.size ∧ w.heap.size + 1 < w2.heap.size := by have := hb2.size; (try simp at this); omega))
      exact bodyPost_ret (v := .tuple #[.agg #[.int .i64 0, .string ⟨#[]⟩], .int .i64 16]) (by simp [results, Tryz.results90, go_sem, *]) rfl ⟨rfl, (by repeat (first | exact Below.refl _ _ | refine Below.setCell ?_ (by first | (simp; done) | (simp; omega) | omega) _ | refine Below.alloc ?_ (by first | (simp; done) | (simp; omega) | omega) _ | refine Below.drew ?_ | assumption | refine Below.trans ?_ (Below.mono (by assumption) (by first | (simp; done) | (simp; omega) | omega))))⟩
  · have WO := Lib.hid (fun W => int_over z hz g W)
    have e : maE z = 16 := by unfold maE inU; rw [decide_eq_false (by unfold In64 at g; omega)]; rfl
    rw [amR_n (by rw [e]; decide), e]
    clear g hz a1 a2 b1 b2 e WI
    generalize hiOf z = hi at *
    generalize loOf z = lo at *
    generalize (⟨c.toArray⟩ : ByteArray) = C at *
    go_enter Tryz.func90, Tryz.ntmps90
    go_wp2_with (first | (go_at_call 71; refine (WO.out _).mono ?_; rintro e w1 ⟨rfl, hb1⟩; obtain ⟨hc1, hf1⟩ := bcell hb1; have hs1 := hb1.size; (try simp at hs1); have hz1 : w.heap.size < w1.heap.size ∧ w.heap.size + 1 < w1.heap.size := by have := hb1.size; (try simp at this); omega))
    exact bodyPost_ret (v := .tuple #[.agg #[.int .i64 0, .string ⟨#[]⟩], .int .i64 16]) (by simp [results, Tryz.results90, go_sem, *]) rfl ⟨rfl, (by repeat (first | exact Below.refl _ _ | refine Below.setCell ?_ (by first | (simp; done) | (simp; omega) | omega) _ | refine Below.alloc ?_ (by first | (simp; done) | (simp; omega) | omega) _ | refine Below.drew ?_ | assumption | refine Below.trans ?_ (Below.mono (by assumption) (by first | (simp; done) | (simp; omega) | omega))))⟩
end Go.Proofs.YtdpoahfjiomhbaaGreatDoor

/-
  Contracts of money.first of two, pair, Cmp, Neg.
-/
namespace Go.Proofs.YtdpoahfjiomhbaaGreatDoor
set_option linter.all false
open Go.RowKit Go.Sort
attribute [local go_sem] cell_set_self lt_1 lt_2 lt_3 lt_4 lt_5 lt_6

def fstE (x y : Int) : Int := if x = 0 then y else x
set_option maxHeartbeats 2000000 in
set_option maxRecDepth 100000 in
theorem first2_any (x y : Int) (b : Nat) (w : World) (hb : b < w.heap.size) (h0 : w.cell? ⟨b, 0, none⟩ = some (.int .i64 x)) (h1 : w.cell? ⟨b, 1, none⟩ = some (.int .i64 y)) :
    Calls Tryz.prog 131 #[.slice (some ⟨b, 0, none⟩) 2 2] w fun e w' => e = .returned (.int .i64 (fstE x y)) ∧ Below w.heap.size w w' := by
  have C0 := Lib.hid (fun W (hB : Below w.heap.size w W) => (hB.cell (p := ⟨b, 0, none⟩) hb).trans h0)
  have C1 := Lib.hid (fun W (hB : Below w.heap.size w W) => (hB.cell (p := ⟨b, 1, none⟩) hb).trans h1)
  clear h0 h1
  go_enter Tryz.func131, Tryz.ntmps131
  go_wp2
  go_loopw [7] (fun i wr => ∃ k : Nat, k ≤ 2 ∧ i = .int .i64 k ∧ Hid ((1 ≤ k → x = 0) ∧ (k = 2 → y = 0)) ∧ Below w.heap.size w wr) (fun i _ => 2 - (intOf i).toNat)
  case atStart => exact ⟨0, by omega, rfl, Lib.hid ⟨fun h => by omega, fun h => by omega⟩, (by repeat (first | exact Below.refl _ _ | refine Below.setCell ?_ (by first | (simp; done) | (simp; omega) | omega) _ | refine Below.alloc ?_ (by first | (simp; done) | (simp; omega) | omega) _ | refine Below.drew ?_ | assumption | refine Below.trans ?_ (Below.mono (by assumption) (by first | (simp; done) | (simp; omega) | omega))))⟩
  case round =>
    obtain ⟨k, hk, rfl, HK, hB⟩ := hrel
    obtain ⟨wo, rfl⟩ : ∃ wo : World, wo = wr := ⟨_, rfl⟩
    have hsl := hB.size
    have q0 := C0.out wo hB
    have q1 := C1.out wo hB
    have hbw : b < wo.heap.size := by omega
    match k, hk, HK with
    | 0, _, HK =>
      by_cases hx : x = 0
      · subst hx
        go_wp2
        go_roundw
        case rel => exact ⟨1, by omega, by go_num, Lib.hid (by first | (exact ⟨by simp, by simp⟩) | (exact ⟨by simp, fun h => by omega⟩)), (by repeat (first | exact Below.refl _ _ | refine Below.setCell ?_ (by first | (simp; done) | (simp; omega) | omega) _ | refine Below.alloc ?_ (by first | (simp; done) | (simp; omega) | omega) _ | refine Below.drew ?_ | assumption | refine Below.trans ?_ (Below.mono (by assumption) (by first | (simp; done) | (simp; omega) | omega))))⟩
        case measure => first | (simp [intOf]; done) | (simp [intOf]; omega)
      · have x0 : (x != 0) = true := by simpa using hx
        have E := Lib.hid (show fstE x y = x by unfold fstE; rw [if_neg hx])
        clear hx
        go_wp2
        go_ret
        exact ⟨ret_i1 E.out, (by repeat (first | exact Below.refl _ _ | refine Below.setCell ?_ (by first | (simp; done) | (simp; omega) | omega) _ | refine Below.alloc ?_ (by first | (simp; done) | (simp; omega) | omega) _ | refine Below.drew ?_ | assumption | refine Below.trans ?_ (Below.mono (by assumption) (by first | (simp; done) | (simp; omega) | omega))))⟩
    | 1, _, HK =>
      have hx := HK.out.1 (by omega)
      subst hx
      by_cases hy : y = 0
      · subst hy
        go_wp2
        go_roundw
        case rel => exact ⟨2, by omega, by go_num, Lib.hid ⟨by simp, by simp⟩, (by repeat (first | exact Below.refl _ _ | refine Below.setCell ?_ (by first | (simp; done) | (simp; omega) | omega) _ | refine Below.alloc ?_ (by first | (simp; done) | (simp; omega) | omega) _ | refine Below.drew ?_ | assumption | refine Below.trans ?_ (Below.mono (by assumption) (by first | (simp; done) | (simp; omega) | omega))))⟩
        case measure => first | (simp [intOf]; done) | (simp [intOf]; omega)
      · have x0 : (y != 0) = true := by simpa using hy
        have E := Lib.hid (show fstE 0 y = y by unfold fstE; rw [if_pos rfl])
        clear hy
        go_wp2
        go_ret
        exact ⟨ret_i1 E.out, (by repeat (first | exact Below.refl _ _ | refine Below.setCell ?_ (by first | (simp; done) | (simp; omega) | omega) _ | refine Below.alloc ?_ (by first | (simp; done) | (simp; omega) | omega) _ | refine Below.drew ?_ | assumption | refine Below.trans ?_ (Below.mono (by assumption) (by first | (simp; done) | (simp; omega) | omega))))⟩
    | 2, _, HK =>
      have hx := HK.out.1 (by omega)
      have hy := HK.out.2 rfl
      subst hx hy
      go_wp2
      go_ret
      exact ⟨rfl, (by repeat (first | exact Below.refl _ _ | refine Below.setCell ?_ (by first | (simp; done) | (simp; omega) | omega) _ | refine Below.alloc ?_ (by first | (simp; done) | (simp; omega) | omega) _ | refine Below.drew ?_ | assumption | refine Below.trans ?_ (Below.mono (by assumption) (by first | (simp; done) | (simp; omega) | omega))))⟩

/-- The error of two amounts. -/
def pairE (u : Int) (c : List UInt8) (v : Int) (d : List UInt8) : Int := if fstE (amE u c) (amE v d) = 0 then (if c = d then 0 else 18) else fstE (amE u c) (amE v d)
theorem str_bne (a b : List UInt8) : ((⟨a.toArray⟩ : ByteArray).toList != (⟨b.toArray⟩ : ByteArray).toList) = !decide (a = b) := by
  rw [← str_beq]; rfl
set_option maxHeartbeats 4000000 in
set_option maxRecDepth 100000 in
theorem pair_any (u : Int) (c : List UInt8) (v : Int) (d : List UInt8) (w : World) : Calls Tryz.prog 91 #[.agg #[.int .i64 u, .string ⟨c.toArray⟩], .agg #[.int .i64 v, .string ⟨d.toArray⟩]] w fun e w' => e = .returned (.int .i64 (pairE u c v d)) ∧ Below w.heap.size w w' := by
  have C1 := Lib.hid (fun W => mcheck_any u c W)
  have C2 := Lib.hid (fun W => mcheck_any v d W)
  have F2 := Lib.hid (fun b W hb h0 h1 => first2_any (amE u c) (amE v d) b W hb h0 h1)
  have hE := str_beq c d
  have hcs : (fstE (amE u c) (amE v d) = 0 ∧ decide (c = d) = true ∧ pairE u c v d = 0) ∨ (fstE (amE u c) (amE v d) = 0 ∧ decide (c = d) = false ∧ pairE u c v d = 18) ∨ (fstE (amE u c) (amE v d) ≠ 0 ∧ pairE u c v d = fstE (amE u c) (amE v d)) := by
    unfold pairE
    by_cases h : fstE (amE u c) (amE v d) = 0
    · rw [if_pos h]
      by_cases hcd : c = d
      · left; rw [if_pos hcd]; exact ⟨h, decide_eq_true hcd, rfl⟩
      · right; left; rw [if_neg hcd]; exact ⟨h, decide_eq_false hcd, rfl⟩
    · rw [if_neg h]; right; right; exact ⟨h, rfl⟩
  generalize pairE u c v d = pe at *
  generalize fstE (amE u c) (amE v d) = fe at *
  generalize amE u c = x at *
  generalize amE v d = y at *
  generalize decide (c = d) = cd at *
  generalize (⟨c.toArray⟩ : ByteArray) = C at *
  generalize (⟨d.toArray⟩ : ByteArray) = D at *
  rcases hcs with ⟨rfl, rfl, rfl⟩ | ⟨rfl, rfl, rfl⟩ | ⟨h, rfl⟩
  all_goals
    (try have x0 : (pe == 0) = false := by simpa using h)
    go_enter Tryz.func91, Tryz.ntmps91
    go_wp2
    go_region_held3 (fun w' => w'.cell? ⟨w.heap.size, 0, none⟩ = some (.int .i64 u) ∧ w'.cell? ⟨w.heap.size, 1, none⟩ = some (.string C) ∧ w'.cell? ⟨w.heap.size + 1, 0, none⟩ = some (.int .i64 v) ∧ w'.cell? ⟨w.heap.size + 1, 1, none⟩ = some (.string D) ∧ w.heap.size < w'.heap.size ∧ w.heap.size + 1 < w'.heap.size ∧ Below w.heap.size w w')
      (first | (refine ⟨?_, ?_, ?_, ?_, ?_, ?_, ?_⟩ <;> first | (simp [go_sem, *]; done) | omega | (simp; omega) | exact (by repeat (first | exact Below.refl _ _ | refine Below.setCell ?_ (by first | (simp; done) | (simp; omega) | omega) _ | refine Below.alloc ?_ (by first | (simp; done) | (simp; omega) | omega) _ | refine Below.drew ?_ | assumption | refine Below.trans ?_ (Below.mono (by assumption) (by first | (simp; done) | (simp; omega) | omega))))))
      (first | (first
      | (go_at_call 67; (with_reducible refine (C1.out _).mono ?_); rintro e w3 ⟨rfl, hb3⟩; obtain ⟨hc3, hf3⟩ := bcell hb3; (try simp only [drew_sizeM, drew_cellM, drew_frozenM] at hc3 hf3); have hs3 := hb3.size; (try simp at hs3); have hz3 : w.heap.size < w3.heap.size ∧ w.heap.size + 1 < w3.heap.size := (by omega))
      | (go_at_call 67; (with_reducible refine (C2.out _).mono ?_); rintro e w4 ⟨rfl, hb4⟩; obtain ⟨hc4, hf4⟩ := bcell hb4; (try simp only [drew_sizeM, drew_cellM, drew_frozenM] at hc4 hf4); have hs4 := hb4.size; (try simp at hs4); have hz4 : w.heap.size < w4.heap.size ∧ w.heap.size + 1 < w4.heap.size := (by omega))
      | (go_at_call 131; (refine (F2.out _ _ (by simp) (by simp [go_sem]) (by simp [go_sem])).mono ?_); rintro e w5 ⟨rfl, hb5⟩; obtain ⟨hc5, hf5⟩ := bcell hb5; (try simp only [drew_sizeM, drew_cellM, drew_frozenM] at hc5 hf5); have hs5 := hb5.size; (try simp at hs5); have hz5 : w.heap.size < w5.heap.size ∧ w.heap.size + 1 < w5.heap.size := (by omega))))
    go_wp2
    go_ret
    exact ⟨rfl, (by repeat (first | exact Below.refl _ _ | refine Below.setCell ?_ (by first | (simp; done) | (simp; omega) | omega) _ | refine Below.alloc ?_ (by first | (simp; done) | (simp; omega) | omega) _ | refine Below.drew ?_ | assumption | refine Below.trans ?_ (Below.mono (by assumption) (by first | (simp; done) | (simp; omega) | omega))))⟩
end Go.Proofs.YtdpoahfjiomhbaaGreatDoor

/-
  Contract of wide.Int.Sub.
-/
namespace Go.Proofs.YtdpoahfjiomhbaaGreatDoor
set_option linter.all false
open Go.RowKit Go.Sort
attribute [local go_sem] cell_set_self lt_1 lt_2 lt_3 lt_4 lt_5 lt_6
theorem sub_lo (a b : Int) : (loOf a - loOf b) % 18446744073709551616 = loOf (a - b) := by unfold loOf; omega
theorem sub_hi (a b : Int) : (hiOf a - hiOf b - bor (loOf a) (loOf b)) % 18446744073709551616 = hiOf (a - b) := by
  unfold bor hiOf loOf; split <;> omega
set_option maxHeartbeats 1000000 in
theorem sub_fits (a b : Int) (h : In128 a) (k : In128 b) (g : In128 (a - b)) (w : World) :
    Calls Tryz.prog 97 #[.agg #[.int .u64 (hiOf a), .int .u64 (loOf a)], .agg #[.int .u64 (hiOf b), .int .u64 (loOf b)]] w fun e w' =>
      e = .returned (.tuple #[.agg #[.int .u64 (hiOf (a - b)), .int .u64 (loOf (a - b))], .int .i64 0]) ∧ Below w.heap.size w w' := by
  obtain ⟨a1, a2⟩ := hiOf_word a
  obtain ⟨b1, b2⟩ := loOf_word a
  obtain ⟨c1, c2⟩ := hiOf_word b
  obtain ⟨d1, d2⟩ := loOf_word b
  have k0 : 0 ≤ bor (loOf a) (loOf b) := (bor_01 _ _).1
  have k1 : bor (loOf a) (loOf b) ≤ 1 := (bor_01 _ _).2
  have E1 := Lib.hid (sub_lo a b); have E2 := Lib.hid (sub_hi a b)
  have na := negW_eq a h
  have nb := negW_eq b k
  have ns := negW_eq (a - b) g
  have nss : (negW a == negW b) = false → negW (a - b) = negW a := by
    rw [na, nb, ns]; intro h
    by_cases hc : a < 0 <;> by_cases hd : b < 0 <;> simp [hc, hd] at h ⊢ <;> omega
  clear na nb ns h k g
  rcases ga : negW a <;> rcases gb : negW b
  · clear nss
    go_enter Tryz.func97, Tryz.ntmps97
    go_wp2_with (first | simp only [sub64_0 (loOf a) (loOf b) b1 d1 d2] | simp only [sub64 (hiOf a) (hiOf b) _ a1 c1 c2 k0 k1] )
    rw [E1.out, E2.out]
    refine name_world ?_; intro W1 hW1; have kW1 : W1.cell? ⟨w.heap.size, 0, none⟩ = some (.int .u64 (hiOf a)) ∧ W1.cell? ⟨w.heap.size, 1, none⟩ = some (.int .u64 (loOf a)) ∧ W1.cell? ⟨w.heap.size + 1, 0, none⟩ = some (.int .u64 (hiOf b)) ∧ W1.cell? ⟨w.heap.size + 1, 1, none⟩ = some (.int .u64 (loOf b)) ∧ W1.cell? ⟨w.heap.size + 1 + 1 + 1, 0, none⟩ = some (.int .u64 (hiOf (a - b))) ∧ W1.cell? ⟨w.heap.size + 1 + 1 + 1, 1, none⟩ = some (.int .u64 (loOf (a - b))) ∧ W1.cell? ⟨w.heap.size + 1 + 1, 0, none⟩ = some (.int .u64 0) ∧ W1.cell? ⟨w.heap.size + 1 + 1, 1, none⟩ = some (.int .u64 0) ∧ W1.frozen? ⟨w.heap.size + 1 + 1, 0, none⟩ = false ∧ W1.frozen? ⟨w.heap.size + 1 + 1, 1, none⟩ = false ∧ w.heap.size < W1.heap.size ∧ w.heap.size + 1 < W1.heap.size ∧ w.heap.size + 1 + 1 < W1.heap.size ∧ w.heap.size + 1 + 1 + 1 < W1.heap.size ∧ Below w.heap.size w W1 := by { rw [hW1]; exact (by refine ⟨?_, ?_, ?_, ?_, ?_, ?_, ?_, ?_, ?_, ?_, ?_, ?_, ?_, ?_, ?_⟩ <;> first | (simp [go_sem, *]; done) | omega | (simp; omega) | exact (by repeat (first | exact Below.refl _ _ | refine Below.setCell ?_ (by first | (simp; done) | (simp; omega) | omega) _ | refine Below.alloc ?_ (by first | (simp; done) | (simp; omega) | omega) _ | refine Below.drew ?_ | assumption | refine Below.trans ?_ (Below.mono (by assumption) (by first | (simp; done) | (simp; omega) | omega))))) }; clear hW1; obtain ⟨cW1_0, cW1_1, cW1_2, cW1_3, cW1_4, cW1_5, cW1_6, cW1_7, fW1_0, fW1_1, zW1_0, zW1_1, zW1_2, zW1_3, bW1⟩ := kW1
    have gc0 := grown_cell cW1_0; have gc1 := grown_cell cW1_1; have gc2 := grown_cell cW1_2; have gc3 := grown_cell cW1_3; have gc4 := grown_cell cW1_4; have gc5 := grown_cell cW1_5; have gc6 := grown_cell cW1_6; have gc7 := grown_cell cW1_7; have gf0 := grown_frozen fW1_0 zW1_2; have gf1 := grown_frozen fW1_1 zW1_2; have gz0 := grown_size zW1_0; have gz1 := grown_size zW1_1; have gz2 := grown_size zW1_2; have gz3 := grown_size zW1_3; refine wp_region_quiet_below (by kernel_rfl) (by kernel_rfl) ?_; (try simp only [List.take_succ_cons, List.take_zero]); (repeat (any_goals (first | go_big_quiet_step ((go_at_call 120; exact Calls.regrown_of (below_any _ _))) | quiet_step ((go_at_call 120; exact Calls.regrown_of (below_any _ _)))))); refine wpQuiet_nil ?_; intro _ hw'; obtain ⟨⟨dq, osq⟩, hw''⟩ := hw'; subst hw''; have kW2 : (grow (redrawn W1 dq) osq).cell? ⟨w.heap.size, 0, none⟩ = some (.int .u64 (hiOf a)) ∧ (grow (redrawn W1 dq) osq).cell? ⟨w.heap.size, 1, none⟩ = some (.int .u64 (loOf a)) ∧ (grow (redrawn W1 dq) osq).cell? ⟨w.heap.size + 1, 0, none⟩ = some (.int .u64 (hiOf b)) ∧ (grow (redrawn W1 dq) osq).cell? ⟨w.heap.size + 1, 1, none⟩ = some (.int .u64 (loOf b)) ∧ (grow (redrawn W1 dq) osq).cell? ⟨w.heap.size + 1 + 1 + 1, 0, none⟩ = some (.int .u64 (hiOf (a - b))) ∧ (grow (redrawn W1 dq) osq).cell? ⟨w.heap.size + 1 + 1 + 1, 1, none⟩ = some (.int .u64 (loOf (a - b))) ∧ (grow (redrawn W1 dq) osq).cell? ⟨w.heap.size + 1 + 1, 0, none⟩ = some (.int .u64 0) ∧ (grow (redrawn W1 dq) osq).cell? ⟨w.heap.size + 1 + 1, 1, none⟩ = some (.int .u64 0) ∧ (grow (redrawn W1 dq) osq).frozen? ⟨w.heap.size + 1 + 1, 0, none⟩ = false ∧ (grow (redrawn W1 dq) osq).frozen? ⟨w.heap.size + 1 + 1, 1, none⟩ = false ∧ w.heap.size < (grow (redrawn W1 dq) osq).heap.size ∧ w.heap.size + 1 < (grow (redrawn W1 dq) osq).heap.size ∧ w.heap.size + 1 + 1 < (grow (redrawn W1 dq) osq).heap.size ∧ w.heap.size + 1 + 1 + 1 < (grow (redrawn W1 dq) osq).heap.size ∧ Below w.heap.size w (grow (redrawn W1 dq) osq) := ⟨gc0 dq osq, gc1 dq osq, gc2 dq osq, gc3 dq osq, gc4 dq osq, gc5 dq osq, gc6 dq osq, gc7 dq osq, gf0 dq osq, gf1 dq osq, gz0 dq osq, gz1 dq osq, gz2 dq osq, gz3 dq osq, bW1.trans ((below_regrown W1 dq osq).mono bW1.size)⟩; clear gc0 gc1 gc2 gc3 gc4 gc5 gc6 gc7 gf0 gf1 gz0 gz1 gz2 gz3 cW1_0 cW1_1 cW1_2 cW1_3 cW1_4 cW1_5 cW1_6 cW1_7 fW1_0 fW1_1 zW1_0 zW1_1 zW1_2 zW1_3 bW1; generalize grow (redrawn W1 dq) osq = W2 at *; obtain ⟨cW2_0, cW2_1, cW2_2, cW2_3, cW2_4, cW2_5, cW2_6, cW2_7, fW2_0, fW2_1, zW2_0, zW2_1, zW2_2, zW2_3, bW2⟩ := kW2
    go_wp2
    exact bodyPost_ret (v := .tuple #[.agg #[.int .u64 (hiOf (a - b)), .int .u64 (loOf (a - b))], .int .i64 0]) (by simp [results, Tryz.results97, go_sem, *]) rfl ⟨rfl, (by repeat (first | exact Below.refl _ _ | refine Below.setCell ?_ (by first | (simp; done) | (simp; omega) | omega) _ | refine Below.alloc ?_ (by first | (simp; done) | (simp; omega) | omega) _ | refine Below.drew ?_ | assumption | refine Below.trans ?_ (Below.mono (by assumption) (by first | (simp; done) | (simp; omega) | omega))))⟩
  · have gs : negW (a - b) = false := by rw [nss (by rw [ga, gb]; rfl), ga]
    clear nss
    go_enter Tryz.func97, Tryz.ntmps97
    go_wp2_with (first | simp only [sub64_0 (loOf a) (loOf b) b1 d1 d2] | simp only [sub64 (hiOf a) (hiOf b) _ a1 c1 c2 k0 k1] )
    rw [E1.out, E2.out]
    refine name_world ?_; intro W1 hW1; have kW1 : W1.cell? ⟨w.heap.size, 0, none⟩ = some (.int .u64 (hiOf a)) ∧ W1.cell? ⟨w.heap.size, 1, none⟩ = some (.int .u64 (loOf a)) ∧ W1.cell? ⟨w.heap.size + 1, 0, none⟩ = some (.int .u64 (hiOf b)) ∧ W1.cell? ⟨w.heap.size + 1, 1, none⟩ = some (.int .u64 (loOf b)) ∧ W1.cell? ⟨w.heap.size + 1 + 1 + 1, 0, none⟩ = some (.int .u64 (hiOf (a - b))) ∧ W1.cell? ⟨w.heap.size + 1 + 1 + 1, 1, none⟩ = some (.int .u64 (loOf (a - b))) ∧ W1.cell? ⟨w.heap.size + 1 + 1, 0, none⟩ = some (.int .u64 0) ∧ W1.cell? ⟨w.heap.size + 1 + 1, 1, none⟩ = some (.int .u64 0) ∧ W1.frozen? ⟨w.heap.size + 1 + 1, 0, none⟩ = false ∧ W1.frozen? ⟨w.heap.size + 1 + 1, 1, none⟩ = false ∧ w.heap.size < W1.heap.size ∧ w.heap.size + 1 < W1.heap.size ∧ w.heap.size + 1 + 1 < W1.heap.size ∧ w.heap.size + 1 + 1 + 1 < W1.heap.size ∧ Below w.heap.size w W1 := by { rw [hW1]; exact (by refine ⟨?_, ?_, ?_, ?_, ?_, ?_, ?_, ?_, ?_, ?_, ?_, ?_, ?_, ?_, ?_⟩ <;> first | (simp [go_sem, *]; done) | omega | (simp; omega) | exact (by repeat (first | exact Below.refl _ _ | refine Below.setCell ?_ (by first | (simp; done) | (simp; omega) | omega) _ | refine Below.alloc ?_ (by first | (simp; done) | (simp; omega) | omega) _ | refine Below.drew ?_ | assumption | refine Below.trans ?_ (Below.mono (by assumption) (by first | (simp; done) | (simp; omega) | omega))))) }; clear hW1; obtain ⟨cW1_0, cW1_1, cW1_2, cW1_3, cW1_4, cW1_5, cW1_6, cW1_7, fW1_0, fW1_1, zW1_0, zW1_1, zW1_2, zW1_3, bW1⟩ := kW1
    have gc0 := grown_cell cW1_0; have gc1 := grown_cell cW1_1; have gc2 := grown_cell cW1_2; have gc3 := grown_cell cW1_3; have gc4 := grown_cell cW1_4; have gc5 := grown_cell cW1_5; have gc6 := grown_cell cW1_6; have gc7 := grown_cell cW1_7; have gf0 := grown_frozen fW1_0 zW1_2; have gf1 := grown_frozen fW1_1 zW1_2; have gz0 := grown_size zW1_0; have gz1 := grown_size zW1_1; have gz2 := grown_size zW1_2; have gz3 := grown_size zW1_3; refine wp_region_quiet_below (by kernel_rfl) (by kernel_rfl) ?_; (try simp only [List.take_succ_cons, List.take_zero]); (repeat (any_goals (first | go_big_quiet_step ((go_at_call 120; exact Calls.regrown_of (below_any _ _))) | quiet_step ((go_at_call 120; exact Calls.regrown_of (below_any _ _)))))); refine wpQuiet_nil ?_; intro _ hw'; obtain ⟨⟨dq, osq⟩, hw''⟩ := hw'; subst hw''; have kW2 : (grow (redrawn W1 dq) osq).cell? ⟨w.heap.size, 0, none⟩ = some (.int .u64 (hiOf a)) ∧ (grow (redrawn W1 dq) osq).cell? ⟨w.heap.size, 1, none⟩ = some (.int .u64 (loOf a)) ∧ (grow (redrawn W1 dq) osq).cell? ⟨w.heap.size + 1, 0, none⟩ = some (.int .u64 (hiOf b)) ∧ (grow (redrawn W1 dq) osq).cell? ⟨w.heap.size + 1, 1, none⟩ = some (.int .u64 (loOf b)) ∧ (grow (redrawn W1 dq) osq).cell? ⟨w.heap.size + 1 + 1 + 1, 0, none⟩ = some (.int .u64 (hiOf (a - b))) ∧ (grow (redrawn W1 dq) osq).cell? ⟨w.heap.size + 1 + 1 + 1, 1, none⟩ = some (.int .u64 (loOf (a - b))) ∧ (grow (redrawn W1 dq) osq).cell? ⟨w.heap.size + 1 + 1, 0, none⟩ = some (.int .u64 0) ∧ (grow (redrawn W1 dq) osq).cell? ⟨w.heap.size + 1 + 1, 1, none⟩ = some (.int .u64 0) ∧ (grow (redrawn W1 dq) osq).frozen? ⟨w.heap.size + 1 + 1, 0, none⟩ = false ∧ (grow (redrawn W1 dq) osq).frozen? ⟨w.heap.size + 1 + 1, 1, none⟩ = false ∧ w.heap.size < (grow (redrawn W1 dq) osq).heap.size ∧ w.heap.size + 1 < (grow (redrawn W1 dq) osq).heap.size ∧ w.heap.size + 1 + 1 < (grow (redrawn W1 dq) osq).heap.size ∧ w.heap.size + 1 + 1 + 1 < (grow (redrawn W1 dq) osq).heap.size ∧ Below w.heap.size w (grow (redrawn W1 dq) osq) := ⟨gc0 dq osq, gc1 dq osq, gc2 dq osq, gc3 dq osq, gc4 dq osq, gc5 dq osq, gc6 dq osq, gc7 dq osq, gf0 dq osq, gf1 dq osq, gz0 dq osq, gz1 dq osq, gz2 dq osq, gz3 dq osq, bW1.trans ((below_regrown W1 dq osq).mono bW1.size)⟩; clear gc0 gc1 gc2 gc3 gc4 gc5 gc6 gc7 gf0 gf1 gz0 gz1 gz2 gz3 cW1_0 cW1_1 cW1_2 cW1_3 cW1_4 cW1_5 cW1_6 cW1_7 fW1_0 fW1_1 zW1_0 zW1_1 zW1_2 zW1_3 bW1; generalize grow (redrawn W1 dq) osq = W2 at *; obtain ⟨cW2_0, cW2_1, cW2_2, cW2_3, cW2_4, cW2_5, cW2_6, cW2_7, fW2_0, fW2_1, zW2_0, zW2_1, zW2_2, zW2_3, bW2⟩ := kW2
    go_wp2
    exact bodyPost_ret (v := .tuple #[.agg #[.int .u64 (hiOf (a - b)), .int .u64 (loOf (a - b))], .int .i64 0]) (by simp [results, Tryz.results97, go_sem, *]) rfl ⟨rfl, (by repeat (first | exact Below.refl _ _ | refine Below.setCell ?_ (by first | (simp; done) | (simp; omega) | omega) _ | refine Below.alloc ?_ (by first | (simp; done) | (simp; omega) | omega) _ | refine Below.drew ?_ | assumption | refine Below.trans ?_ (Below.mono (by assumption) (by first | (simp; done) | (simp; omega) | omega))))⟩
  · have gs : negW (a - b) = true := by rw [nss (by rw [ga, gb]; rfl), ga]
    clear nss
    go_enter Tryz.func97, Tryz.ntmps97
    go_wp2_with (first | simp only [sub64_0 (loOf a) (loOf b) b1 d1 d2] | simp only [sub64 (hiOf a) (hiOf b) _ a1 c1 c2 k0 k1] )
    rw [E1.out, E2.out]
    refine name_world ?_; intro W1 hW1; have kW1 : W1.cell? ⟨w.heap.size, 0, none⟩ = some (.int .u64 (hiOf a)) ∧ W1.cell? ⟨w.heap.size, 1, none⟩ = some (.int .u64 (loOf a)) ∧ W1.cell? ⟨w.heap.size + 1, 0, none⟩ = some (.int .u64 (hiOf b)) ∧ W1.cell? ⟨w.heap.size + 1, 1, none⟩ = some (.int .u64 (loOf b)) ∧ W1.cell? ⟨w.heap.size + 1 + 1 + 1, 0, none⟩ = some (.int .u64 (hiOf (a - b))) ∧ W1.cell? ⟨w.heap.size + 1 + 1 + 1, 1, none⟩ = some (.int .u64 (loOf (a - b))) ∧ W1.cell? ⟨w.heap.size + 1 + 1, 0, none⟩ = some (.int .u64 0) ∧ W1.cell? ⟨w.heap.size + 1 + 1, 1, none⟩ = some (.int .u64 0) ∧ W1.frozen? ⟨w.heap.size + 1 + 1, 0, none⟩ = false ∧ W1.frozen? ⟨w.heap.size + 1 + 1, 1, none⟩ = false ∧ w.heap.size < W1.heap.size ∧ w.heap.size + 1 < W1.heap.size ∧ w.heap.size + 1 + 1 < W1.heap.size ∧ w.heap.size + 1 + 1 + 1 < W1.heap.size ∧ Below w.heap.size w W1 := by { rw [hW1]; exact (by refine ⟨?_, ?_, ?_, ?_, ?_, ?_, ?_, ?_, ?_, ?_, ?_, ?_, ?_, ?_, ?_⟩ <;> first | (simp [go_sem, *]; done) | omega | (simp; omega) | exact (by repeat (first | exact Below.refl _ _ | refine Below.setCell ?_ (by first | (simp; done) | (simp; omega) | omega) _ | refine Below.alloc ?_ (by first | (simp; done) | (simp; omega) | omega) _ | refine Below.drew ?_ | assumption | refine Below.trans ?_ (Below.mono (by assumption) (by first | (simp; done) | (simp; omega) | omega))))) }; clear hW1; obtain ⟨cW1_0, cW1_1, cW1_2, cW1_3, cW1_4, cW1_5, cW1_6, cW1_7, fW1_0, fW1_1, zW1_0, zW1_1, zW1_2, zW1_3, bW1⟩ := kW1
    have gc0 := grown_cell cW1_0; have gc1 := grown_cell cW1_1; have gc2 := grown_cell cW1_2; have gc3 := grown_cell cW1_3; have gc4 := grown_cell cW1_4; have gc5 := grown_cell cW1_5; have gc6 := grown_cell cW1_6; have gc7 := grown_cell cW1_7; have gf0 := grown_frozen fW1_0 zW1_2; have gf1 := grown_frozen fW1_1 zW1_2; have gz0 := grown_size zW1_0; have gz1 := grown_size zW1_1; have gz2 := grown_size zW1_2; have gz3 := grown_size zW1_3; refine wp_region_quiet_below (by kernel_rfl) (by kernel_rfl) ?_; (try simp only [List.take_succ_cons, List.take_zero]); (repeat (any_goals (first | go_big_quiet_step ((go_at_call 120; exact Calls.regrown_of (below_any _ _))) | quiet_step ((go_at_call 120; exact Calls.regrown_of (below_any _ _)))))); refine wpQuiet_nil ?_; intro _ hw'; obtain ⟨⟨dq, osq⟩, hw''⟩ := hw'; subst hw''; have kW2 : (grow (redrawn W1 dq) osq).cell? ⟨w.heap.size, 0, none⟩ = some (.int .u64 (hiOf a)) ∧ (grow (redrawn W1 dq) osq).cell? ⟨w.heap.size, 1, none⟩ = some (.int .u64 (loOf a)) ∧ (grow (redrawn W1 dq) osq).cell? ⟨w.heap.size + 1, 0, none⟩ = some (.int .u64 (hiOf b)) ∧ (grow (redrawn W1 dq) osq).cell? ⟨w.heap.size + 1, 1, none⟩ = some (.int .u64 (loOf b)) ∧ (grow (redrawn W1 dq) osq).cell? ⟨w.heap.size + 1 + 1 + 1, 0, none⟩ = some (.int .u64 (hiOf (a - b))) ∧ (grow (redrawn W1 dq) osq).cell? ⟨w.heap.size + 1 + 1 + 1, 1, none⟩ = some (.int .u64 (loOf (a - b))) ∧ (grow (redrawn W1 dq) osq).cell? ⟨w.heap.size + 1 + 1, 0, none⟩ = some (.int .u64 0) ∧ (grow (redrawn W1 dq) osq).cell? ⟨w.heap.size + 1 + 1, 1, none⟩ = some (.int .u64 0) ∧ (grow (redrawn W1 dq) osq).frozen? ⟨w.heap.size + 1 + 1, 0, none⟩ = false ∧ (grow (redrawn W1 dq) osq).frozen? ⟨w.heap.size + 1 + 1, 1, none⟩ = false ∧ w.heap.size < (grow (redrawn W1 dq) osq).heap.size ∧ w.heap.size + 1 < (grow (redrawn W1 dq) osq).heap.size ∧ w.heap.size + 1 + 1 < (grow (redrawn W1 dq) osq).heap.size ∧ w.heap.size + 1 + 1 + 1 < (grow (redrawn W1 dq) osq).heap.size ∧ Below w.heap.size w (grow (redrawn W1 dq) osq) := ⟨gc0 dq osq, gc1 dq osq, gc2 dq osq, gc3 dq osq, gc4 dq osq, gc5 dq osq, gc6 dq osq, gc7 dq osq, gf0 dq osq, gf1 dq osq, gz0 dq osq, gz1 dq osq, gz2 dq osq, gz3 dq osq, bW1.trans ((below_regrown W1 dq osq).mono bW1.size)⟩; clear gc0 gc1 gc2 gc3 gc4 gc5 gc6 gc7 gf0 gf1 gz0 gz1 gz2 gz3 cW1_0 cW1_1 cW1_2 cW1_3 cW1_4 cW1_5 cW1_6 cW1_7 fW1_0 fW1_1 zW1_0 zW1_1 zW1_2 zW1_3 bW1; generalize grow (redrawn W1 dq) osq = W2 at *; obtain ⟨cW2_0, cW2_1, cW2_2, cW2_3, cW2_4, cW2_5, cW2_6, cW2_7, fW2_0, fW2_1, zW2_0, zW2_1, zW2_2, zW2_3, bW2⟩ := kW2
    go_wp2
    exact bodyPost_ret (v := .tuple #[.agg #[.int .u64 (hiOf (a - b)), .int .u64 (loOf (a - b))], .int .i64 0]) (by simp [results, Tryz.results97, go_sem, *]) rfl ⟨rfl, (by repeat (first | exact Below.refl _ _ | refine Below.setCell ?_ (by first | (simp; done) | (simp; omega) | omega) _ | refine Below.alloc ?_ (by first | (simp; done) | (simp; omega) | omega) _ | refine Below.drew ?_ | assumption | refine Below.trans ?_ (Below.mono (by assumption) (by first | (simp; done) | (simp; omega) | omega))))⟩
  · clear nss
    go_enter Tryz.func97, Tryz.ntmps97
    go_wp2_with (first | simp only [sub64_0 (loOf a) (loOf b) b1 d1 d2] | simp only [sub64 (hiOf a) (hiOf b) _ a1 c1 c2 k0 k1] )
    rw [E1.out, E2.out]
    refine name_world ?_; intro W1 hW1; have kW1 : W1.cell? ⟨w.heap.size, 0, none⟩ = some (.int .u64 (hiOf a)) ∧ W1.cell? ⟨w.heap.size, 1, none⟩ = some (.int .u64 (loOf a)) ∧ W1.cell? ⟨w.heap.size + 1, 0, none⟩ = some (.int .u64 (hiOf b)) ∧ W1.cell? ⟨w.heap.size + 1, 1, none⟩ = some (.int .u64 (loOf b)) ∧ W1.cell? ⟨w.heap.size + 1 + 1 + 1, 0, none⟩ = some (.int .u64 (hiOf (a - b))) ∧ W1.cell? ⟨w.heap.size + 1 + 1 + 1, 1, none⟩ = some (.int .u64 (loOf (a - b))) ∧ W1.cell? ⟨w.heap.size + 1 + 1, 0, none⟩ = some (.int .u64 0) ∧ W1.cell? ⟨w.heap.size + 1 + 1, 1, none⟩ = some (.int .u64 0) ∧ W1.frozen? ⟨w.heap.size + 1 + 1, 0, none⟩ = false ∧ W1.frozen? ⟨w.heap.size + 1 + 1, 1, none⟩ = false ∧ w.heap.size < W1.heap.size ∧ w.heap.size + 1 < W1.heap.size ∧ w.heap.size + 1 + 1 < W1.heap.size ∧ w.heap.size + 1 + 1 + 1 < W1.heap.size ∧ Below w.heap.size w W1 := by { rw [hW1]; exact (by refine ⟨?_, ?_, ?_, ?_, ?_, ?_, ?_, ?_, ?_, ?_, ?_, ?_, ?_, ?_, ?_⟩ <;> first | (simp [go_sem, *]; done) | omega | (simp; omega) | exact (by repeat (first | exact Below.refl _ _ | refine Below.setCell ?_ (by first | (simp; done) | (simp; omega) | omega) _ | refine Below.alloc ?_ (by first | (simp; done) | (simp; omega) | omega) _ | refine Below.drew ?_ | assumption | refine Below.trans ?_ (Below.mono (by assumption) (by first | (simp; done) | (simp; omega) | omega))))) }; clear hW1; obtain ⟨cW1_0, cW1_1, cW1_2, cW1_3, cW1_4, cW1_5, cW1_6, cW1_7, fW1_0, fW1_1, zW1_0, zW1_1, zW1_2, zW1_3, bW1⟩ := kW1
    have gc0 := grown_cell cW1_0; have gc1 := grown_cell cW1_1; have gc2 := grown_cell cW1_2; have gc3 := grown_cell cW1_3; have gc4 := grown_cell cW1_4; have gc5 := grown_cell cW1_5; have gc6 := grown_cell cW1_6; have gc7 := grown_cell cW1_7; have gf0 := grown_frozen fW1_0 zW1_2; have gf1 := grown_frozen fW1_1 zW1_2; have gz0 := grown_size zW1_0; have gz1 := grown_size zW1_1; have gz2 := grown_size zW1_2; have gz3 := grown_size zW1_3; refine wp_region_quiet_below (by kernel_rfl) (by kernel_rfl) ?_; (try simp only [List.take_succ_cons, List.take_zero]); (repeat (any_goals (first | go_big_quiet_step ((go_at_call 120; exact Calls.regrown_of (below_any _ _))) | quiet_step ((go_at_call 120; exact Calls.regrown_of (below_any _ _)))))); refine wpQuiet_nil ?_; intro _ hw'; obtain ⟨⟨dq, osq⟩, hw''⟩ := hw'; subst hw''; have kW2 : (grow (redrawn W1 dq) osq).cell? ⟨w.heap.size, 0, none⟩ = some (.int .u64 (hiOf a)) ∧ (grow (redrawn W1 dq) osq).cell? ⟨w.heap.size, 1, none⟩ = some (.int .u64 (loOf a)) ∧ (grow (redrawn W1 dq) osq).cell? ⟨w.heap.size + 1, 0, none⟩ = some (.int .u64 (hiOf b)) ∧ (grow (redrawn W1 dq) osq).cell? ⟨w.heap.size + 1, 1, none⟩ = some (.int .u64 (loOf b)) ∧ (grow (redrawn W1 dq) osq).cell? ⟨w.heap.size + 1 + 1 + 1, 0, none⟩ = some (.int .u64 (hiOf (a - b))) ∧ (grow (redrawn W1 dq) osq).cell? ⟨w.heap.size + 1 + 1 + 1, 1, none⟩ = some (.int .u64 (loOf (a - b))) ∧ (grow (redrawn W1 dq) osq).cell? ⟨w.heap.size + 1 + 1, 0, none⟩ = some (.int .u64 0) ∧ (grow (redrawn W1 dq) osq).cell? ⟨w.heap.size + 1 + 1, 1, none⟩ = some (.int .u64 0) ∧ (grow (redrawn W1 dq) osq).frozen? ⟨w.heap.size + 1 + 1, 0, none⟩ = false ∧ (grow (redrawn W1 dq) osq).frozen? ⟨w.heap.size + 1 + 1, 1, none⟩ = false ∧ w.heap.size < (grow (redrawn W1 dq) osq).heap.size ∧ w.heap.size + 1 < (grow (redrawn W1 dq) osq).heap.size ∧ w.heap.size + 1 + 1 < (grow (redrawn W1 dq) osq).heap.size ∧ w.heap.size + 1 + 1 + 1 < (grow (redrawn W1 dq) osq).heap.size ∧ Below w.heap.size w (grow (redrawn W1 dq) osq) := ⟨gc0 dq osq, gc1 dq osq, gc2 dq osq, gc3 dq osq, gc4 dq osq, gc5 dq osq, gc6 dq osq, gc7 dq osq, gf0 dq osq, gf1 dq osq, gz0 dq osq, gz1 dq osq, gz2 dq osq, gz3 dq osq, bW1.trans ((below_regrown W1 dq osq).mono bW1.size)⟩; clear gc0 gc1 gc2 gc3 gc4 gc5 gc6 gc7 gf0 gf1 gz0 gz1 gz2 gz3 cW1_0 cW1_1 cW1_2 cW1_3 cW1_4 cW1_5 cW1_6 cW1_7 fW1_0 fW1_1 zW1_0 zW1_1 zW1_2 zW1_3 bW1; generalize grow (redrawn W1 dq) osq = W2 at *; obtain ⟨cW2_0, cW2_1, cW2_2, cW2_3, cW2_4, cW2_5, cW2_6, cW2_7, fW2_0, fW2_1, zW2_0, zW2_1, zW2_2, zW2_3, bW2⟩ := kW2
    go_wp2
    exact bodyPost_ret (v := .tuple #[.agg #[.int .u64 (hiOf (a - b)), .int .u64 (loOf (a - b))], .int .i64 0]) (by simp [results, Tryz.results97, go_sem, *]) rfl ⟨rfl, (by repeat (first | exact Below.refl _ _ | refine Below.setCell ?_ (by first | (simp; done) | (simp; omega) | omega) _ | refine Below.alloc ?_ (by first | (simp; done) | (simp; omega) | omega) _ | refine Below.drew ?_ | assumption | refine Below.trans ?_ (Below.mono (by assumption) (by first | (simp; done) | (simp; omega) | omega))))⟩
end Go.Proofs.YtdpoahfjiomhbaaGreatDoor

/-
  Contracts of money.Amount's Cmp, Neg, Add, Sub.
-/
namespace Go.Proofs.YtdpoahfjiomhbaaGreatDoor
set_option linter.all false
open Go.RowKit Go.Sort
attribute [local go_sem] cell_set_self lt_1 lt_2 lt_3 lt_4 lt_5 lt_6

theorem pairE_in {u : Int} {c : List UInt8} {v : Int} {d : List UInt8} (h : pairE u c v d = 0) : inU u = true ∧ inU v = true ∧ scE c = 0 ∧ scE d = 0 ∧ c = d := by
  unfold pairE at h
  have h1 : fstE (amE u c) (amE v d) = 0 := by
    by_cases k : fstE (amE u c) (amE v d) = 0
    · exact k
    · rw [if_neg k] at h; exact absurd h k
  rw [if_pos h1] at h
  have hcd : c = d := by
    by_cases k : c = d
    · exact k
    · rw [if_neg k] at h; simp at h
  have h2 : amE u c = 0 := by
    unfold fstE at h1
    by_cases k : amE u c = 0
    · exact k
    · rw [if_neg k] at h1; exact h1
  have h3 : amE v d = 0 := by unfold fstE at h1; rw [if_pos h2] at h1; exact h1
  have amI : ∀ u c, amE u c = 0 → inU u = true ∧ scE c = 0 := fun u c h => by
    unfold amE at h
    rcases scE_cases c with k | k
    · rw [if_pos k] at h
      cases hu : inU u with
      | true => exact ⟨rfl, k⟩
      | false => rw [hu] at h; simp at h
    · rw [k] at h; simp at h
  exact ⟨(amI u c h2).1, (amI v d h3).1, (amI u c h2).2, (amI v d h3).2, hcd⟩
theorem inU_iff {u : Int} : inU u = true ↔ (-4611686018427387904 ≤ u ∧ u ≤ 4611686018427387904) := by unfold inU; simp
def mcmpN (u : Int) (c : List UInt8) (v : Int) (d : List UInt8) : Int := if pairE u c v d = 0 then Lib.compareInt u v else 0
set_option maxHeartbeats 4000000 in
theorem mcmp_any (u : Int) (c : List UInt8) (v : Int) (d : List UInt8) (w : World) : Calls Tryz.prog 41 #[.agg #[.int .i64 u, .string ⟨c.toArray⟩], .agg #[.int .i64 v, .string ⟨d.toArray⟩]] w fun e w' => e = .returned (.tuple #[.int .i64 (mcmpN u c v d), .int .i64 (pairE u c v d)]) ∧ Below w.heap.size w w' := by
  have PA := Lib.hid (fun W => pair_any u c v d W)
  have CI := Lib.hid (fun W => Tryz.cmp_Compare_int u v W)
  by_cases h : pairE u c v d = 0
  · have E := Lib.hid (And.intro (show mcmpN u c v d = Lib.compareInt u v by unfold mcmpN; rw [if_pos h]) h)
    rw [h] at PA
    clear h
    generalize (⟨c.toArray⟩ : ByteArray) = C at *
    generalize (⟨d.toArray⟩ : ByteArray) = D at *
    generalize Lib.compareInt u v = x at *
    go_enter Tryz.func41, Tryz.ntmps41
    go_wp2_with (first | (go_at_call 91; refine (PA.out _).mono ?_; rintro e w1 ⟨rfl, hb1⟩; obtain ⟨hc1, hf1⟩ := bcell hb1; have hs1 := hb1.size; (try simp at hs1); have hz1 : w.heap.size < w1.heap.size ∧ w.heap.size + 1 < w1.heap.size := by have := hb1.size; (try simp at this); omega) | (go_at_call 74; refine (CI.out _).mono ?_; rintro e w2 ⟨rfl, rfl⟩))
    go_ret2
    exact ⟨ret_n2 E.out.1 E.out.2, (by repeat (first | exact Below.refl _ _ | refine Below.setCell ?_ (by first | (simp; done) | (simp; omega) | omega) _ | refine Below.alloc ?_ (by first | (simp; done) | (simp; omega) | omega) _ | refine Below.drew ?_ | assumption | refine Below.trans ?_ (Below.mono (by assumption) (by first | (simp; done) | (simp; omega) | omega))))⟩
  · have E := Lib.hid (show mcmpN u c v d = 0 by unfold mcmpN; rw [if_neg h])
    have x0 : (pairE u c v d != 0) = true := by simpa using h
    clear h CI
    generalize mcmpN u c v d = z at *
    generalize pairE u c v d = y at *
    generalize (⟨c.toArray⟩ : ByteArray) = C at *
    generalize (⟨d.toArray⟩ : ByteArray) = D at *
    go_enter Tryz.func41, Tryz.ntmps41
    go_wp2_with (first | (go_at_call 91; refine (PA.out _).mono ?_; rintro e w1 ⟨rfl, hb1⟩; obtain ⟨hc1, hf1⟩ := bcell hb1; have hs1 := hb1.size; (try simp at hs1); have hz1 : w.heap.size < w1.heap.size ∧ w.heap.size + 1 < w1.heap.size := by have := hb1.size; (try simp at this); omega))
    go_ret2
    exact ⟨ret_n2 E.out rfl, (by repeat (first | exact Below.refl _ _ | refine Below.setCell ?_ (by first | (simp; done) | (simp; omega) | omega) _ | refine Below.alloc ?_ (by first | (simp; done) | (simp; omega) | omega) _ | refine Below.drew ?_ | assumption | refine Below.trans ?_ (Below.mono (by assumption) (by first | (simp; done) | (simp; omega) | omega))))⟩
set_option maxHeartbeats 2000000 in
theorem neg_any (u : Int) (c : List UInt8) (w : World) : Calls Tryz.prog 49 #[.agg #[.int .i64 u, .string ⟨c.toArray⟩]] w fun e w' => e = .returned (amR (amE u c) (-u) c) ∧ Below w.heap.size w w' := by
  have CK := Lib.hid (fun W => mcheck_any u c W)
  by_cases h : amE u c = 0
  · rw [amR_0 h]
    have hu : inU u = true := by
      unfold amE at h
      cases hu : inU u with
      | true => rfl
      | false =>
        rw [hu] at h
        rcases scE_cases c with k | k
        · rw [if_pos k] at h; simp at h
        · rw [k] at h; simp at h
    obtain ⟨u0, u1⟩ := inU_iff.1 hu
    rw [h] at CK
    clear h hu
    generalize (⟨c.toArray⟩ : ByteArray) = C at *
    go_enter Tryz.func49, Tryz.ntmps49
    go_wp2_with (first | (go_at_call 67; refine (CK.out _).mono ?_; rintro e w1 ⟨rfl, hb1⟩; obtain ⟨hc1, hf1⟩ := bcell hb1; have hs1 := hb1.size; (try simp at hs1); have hz1 : w.heap.size < w1.heap.size ∧ w.heap.size + 1 < w1.heap.size := by have := hb1.size; (try simp at this); omega))
    exact bodyPost_ret (v := .tuple #[.agg #[.int .i64 (-u), .string C], .int .i64 0]) (by simp [results, Tryz.results49, go_sem, *]) rfl ⟨rfl, (by repeat (first | exact Below.refl _ _ | refine Below.setCell ?_ (by first | (simp; done) | (simp; omega) | omega) _ | refine Below.alloc ?_ (by first | (simp; done) | (simp; omega) | omega) _ | refine Below.drew ?_ | assumption | refine Below.trans ?_ (Below.mono (by assumption) (by first | (simp; done) | (simp; omega) | omega))))⟩
  · rw [amR_n h]
    generalize amE u c = x at *
    have x0 : (x != 0) = true := by simpa using h
    clear h
    generalize (⟨c.toArray⟩ : ByteArray) = C at *
    go_enter Tryz.func49, Tryz.ntmps49
    go_wp2_with (first | (go_at_call 67; refine (CK.out _).mono ?_; rintro e w1 ⟨rfl, hb1⟩; obtain ⟨hc1, hf1⟩ := bcell hb1; have hs1 := hb1.size; (try simp at hs1); have hz1 : w.heap.size < w1.heap.size ∧ w.heap.size + 1 < w1.heap.size := by have := hb1.size; (try simp at this); omega))
    exact bodyPost_ret (v := .tuple #[.agg #[.int .i64 0, .string ⟨#[]⟩], .int .i64 x]) (by simp [results, Tryz.results49, go_sem, *]) rfl ⟨rfl, (by repeat (first | exact Below.refl _ _ | refine Below.setCell ?_ (by first | (simp; done) | (simp; omega) | omega) _ | refine Below.alloc ?_ (by first | (simp; done) | (simp; omega) | omega) _ | refine Below.drew ?_ | assumption | refine Below.trans ?_ (Below.mono (by assumption) (by first | (simp; done) | (simp; omega) | omega))))⟩
end Go.Proofs.YtdpoahfjiomhbaaGreatDoor
