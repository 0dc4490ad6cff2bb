/-
  The law's small parts: terms, texts compared.
-/
import Derived.Test.YtijlifdbjhieaaaGreatDoorSf7
namespace Go.Proofs.YtijlifdbjhieaaaGreatDoor
set_option linter.all false
open Go.RowKit Go.Shelf
attribute [local go_sem] cell_set_self lt_1 lt_2 lt_3 lt_4 lt_5 lt_6

set_option maxHeartbeats 4000000 in
set_option maxRecDepth 100000 in
theorem lterm_any (c : List UInt8) (ty n : Int) (s : List UInt8) (w : World) : Calls Tryz.prog 70 #[.agg #[.string ⟨c.toArray⟩, .int .i64 ty, .int .i64 n, .string ⟨s.toArray⟩]] w fun e w' => e = .returned (.agg #[.string ⟨c.toArray⟩, .int .i64 ty, .int .i64 n, .string ⟨s.toArray⟩]) ∧ Below w.heap.size w w' := by
  generalize (⟨c.toArray⟩ : ByteArray) = U at *
  generalize (⟨s.toArray⟩ : ByteArray) = V at *
  go_enter Tryz.func70, Tryz.ntmps70
  go_wp2
  exact bodyPost_ret (v := .agg #[.string U, .int .i64 ty, .int .i64 n, .string V]) (by simp [results, Tryz.results70, go_sem, *]) rfl ⟨rfl, (by repeat (first | exact Below.refl _ _ | refine Below.setCell ?_ (by first | (simp; done) | (simp; omega) | omega) _ | refine Below.alloc ?_ (by first | (simp; done) | (simp; omega) | omega) _ | refine Below.drew ?_ | assumption | refine Below.trans ?_ (Below.mono (by assumption) (by first | (simp; done) | (simp; omega) | omega))))⟩
set_option maxHeartbeats 4000000 in
set_option maxRecDepth 100000 in
theorem bareT_any (c : List UInt8) (ty n : Int) (s : List UInt8) (w : World) : Calls Tryz.prog 71 #[.agg #[.string ⟨c.toArray⟩, .int .i64 ty, .int .i64 n, .string ⟨s.toArray⟩]] w fun e w' => e = .returned (.agg (termC (bareT ⟨c, ty, n, s⟩)).toArray) ∧ Below w.heap.size w w' := by
  unfold bareT
  dsimp only
  by_cases h1 : ty = 1
  · have e1 : (ty == 1) = true := by simp [h1]
    rw [if_pos h1]
    clear h1
    dsimp only [termC]
    generalize (⟨c.toArray⟩ : ByteArray) = U at *
    generalize (⟨s.toArray⟩ : ByteArray) = V at *
    go_enter Tryz.func71, Tryz.ntmps71
    go_wp2
    exact bodyPost_ret (v := .agg #[.string ⟨#[]⟩, .int .i64 1, .int .i64 n, .string ⟨#[]⟩]) (by simp [results, Tryz.results71, go_sem, *]) rfl ⟨rfl, (by repeat (first | exact Below.refl _ _ | refine Below.setCell ?_ (by first | (simp; done) | (simp; omega) | omega) _ | refine Below.alloc ?_ (by first | (simp; done) | (simp; omega) | omega) _ | refine Below.drew ?_ | assumption | refine Below.trans ?_ (Below.mono (by assumption) (by first | (simp; done) | (simp; omega) | omega))))⟩
  · have e1 : (ty == 1) = false := by simp [h1]
    rw [if_neg h1]
    by_cases h2 : ty = 2
    · have e2 : (ty == 2) = true := by simp [h2]
      rw [if_pos h2]
      clear h1 h2
      dsimp only [termC]
      obtain ⟨V, hV⟩ : ∃ V : ByteArray, (⟨s.toArray⟩ : ByteArray) = V := ⟨_, rfl⟩
      rw [hV]
      clear hV
      generalize (⟨c.toArray⟩ : ByteArray) = U at *
      go_enter Tryz.func71, Tryz.ntmps71
      go_wp2
      exact bodyPost_ret (v := .agg #[.string ⟨#[]⟩, .int .i64 2, .int .i64 0, .string V]) (by simp [results, Tryz.results71, go_sem, *]) rfl ⟨rfl, (by repeat (first | exact Below.refl _ _ | refine Below.setCell ?_ (by first | (simp; done) | (simp; omega) | omega) _ | refine Below.alloc ?_ (by first | (simp; done) | (simp; omega) | omega) _ | refine Below.drew ?_ | assumption | refine Below.trans ?_ (Below.mono (by assumption) (by first | (simp; done) | (simp; omega) | omega))))⟩
    · have e2 : (ty == 2) = false := by simp [h2]
      rw [if_neg h2]
      clear h1 h2
      dsimp only [termC]
      obtain ⟨U, hU⟩ : ∃ U : ByteArray, (⟨c.toArray⟩ : ByteArray) = U := ⟨_, rfl⟩
      rw [hU]
      clear hU
      generalize (⟨s.toArray⟩ : ByteArray) = V at *
      go_enter Tryz.func71, Tryz.ntmps71
      go_wp2
      exact bodyPost_ret (v := .agg #[.string U, .int .i64 0, .int .i64 0, .string ⟨#[]⟩]) (by simp [results, Tryz.results71, go_sem, *]) rfl ⟨rfl, (by repeat (first | exact Below.refl _ _ | refine Below.setCell ?_ (by first | (simp; done) | (simp; omega) | omega) _ | refine Below.alloc ?_ (by first | (simp; done) | (simp; omega) | omega) _ | refine Below.drew ?_ | assumption | refine Below.trans ?_ (Below.mono (by assumption) (by first | (simp; done) | (simp; omega) | omega))))⟩
theorem lists_eq {α : Type} {l m : List α} (hn : l.length = m.length) (h : ∀ (i : Nat) (x y : α), l[i]? = some x → m[i]? = some y → x = y) : l = m := by
  refine List.ext_getElem hn fun i h1 h2 => h i _ _ (List.getElem?_eq_getElem h1) (List.getElem?_eq_getElem h2)
set_option maxHeartbeats 4000000 in
set_option maxRecDepth 100000 in
theorem sameTexts_any (A B : Option Addr) (ca cb : Nat) (l m : List (List UInt8)) (hl : l.length ≤ 1000000000000000) (hm : m.length ≤ 1000000000000000) (w : World) (T : Strs w A l) (U : Strs w B m) :
    Calls Tryz.prog 30 #[.slice A l.length ca, .slice B m.length cb] w fun e w' => (∃ b : Bool, e = .returned (.bool b) ∧ (b = true ↔ l = m)) ∧ Below w.heap.size w w' := by
  suffices key : ∀ Q : Ending → World → Prop, Hid (∀ (b : Bool) w', (b = true ↔ l = m) → Below w.heap.size w w' → Q (.returned (.bool b)) w') → Calls Tryz.prog 30 #[.slice A l.length ca, .slice B m.length cb] w Q from key _ (Lib.hid fun b w' h h' => ⟨⟨b, rfl, h⟩, h'⟩)
  intro Q HQ
  have HT := Lib.hid T
  have HU := Lib.hid U
  clear T U
  by_cases hn : l.length = m.length
  · have e1 : ((l.length : Int) != (m.length : Int)) = false := by simp [hn]
    have HN := Lib.hid hn
    clear hn
    go_enter Tryz.func30, Tryz.ntmps30
    go_wp2_with (fail)
    go_loopw [5] (fun j wr => ∃ k : Nat, k ≤ l.length ∧ j = .int .i64 k ∧ Hid (∀ (i : Nat) (x y : List UInt8), i < k → l[i]? = some x → m[i]? = some y → x = y) ∧ Hid (Below w.heap.size w wr)) (fun j _ => l.length - (intOf j).toNat)
    case atStart => exact ⟨0, by omega, rfl, Lib.hid (fun i x y hi => by omega), Lib.hid (by repeat (first | exact Below.refl _ _ | refine Below.setCell ?_ (by first | (simp; done) | (simp; omega) | omega) _ | refine Below.alloc ?_ (by first | (simp; done) | (simp; omega) | omega) _ | refine Below.drew ?_ | assumption | refine Below.trans ?_ (Below.mono (by assumption) (by first | (simp; done) | (simp; omega) | omega))))⟩
    case round =>
      obtain ⟨k, hk, rfl, HA, HB⟩ := hrel
      obtain ⟨wo, rfl⟩ : ∃ wo : World, wo = wr := ⟨_, rfl⟩
      by_cases hlt : k < l.length
      · have hlt' : (k : Int) < (l.length : Int) := by omega
        have hlm : k < m.length := by have := HN.out; omega
        have hlm' : (k : Int) < (m.length : Int) := by omega
        obtain ⟨x, hx⟩ : ∃ x, l[k]? = some x := ⟨_, List.getElem?_eq_getElem hlt⟩
        obtain ⟨y, hy⟩ : ∃ y, m[k]? = some y := ⟨_, List.getElem?_eq_getElem hlm⟩
        obtain ⟨b, off, rfl, hb, c0⟩ := (HT.out.below HB.out) k x hx
        obtain ⟨b', off', rfl, hb', c1⟩ := (HU.out.below HB.out) k y hy
        have SB := str_beq x y
        have HX := Lib.hid hx
        have HY := Lib.hid hy
        clear hx hy
        by_cases hxy : x = y
        · rw [decide_eq_true hxy] at SB
          have HXY := Lib.hid hxy
          clear hxy
          obtain ⟨X, hX⟩ : ∃ X : ByteArray, (⟨x.toArray⟩ : ByteArray) = X := ⟨_, rfl⟩
          obtain ⟨Y, hY⟩ : ∃ Y : ByteArray, (⟨y.toArray⟩ : ByteArray) = Y := ⟨_, rfl⟩
          rw [hX] at c0 SB
          rw [hY] at c1 SB
          have SN : (X.toList != Y.toList) = false := by simp only [bne, SB]; rfl
          clear hX hY
          go_wp2_with (fail)
          go_big_region
          go_wp2
          refine ⟨⟨k + 1, by omega, rfl, Lib.hid (fun i x' y' hi h1 h2 => ?_), Lib.hid (HB.out.drew)⟩, by simp [intOf]; omega⟩
          rcases Nat.lt_or_ge i k with h | h
          · exact HA.out i x' y' h h1 h2
          · obtain rfl : i = k := by omega
            rw [HX.out] at h1; rw [HY.out] at h2
            injection h1 with h1; injection h2 with h2
            rw [← h1, ← h2]; exact HXY.out
        · rw [decide_eq_false hxy] at SB
          have HXY := Lib.hid hxy
          clear hxy
          obtain ⟨X, hX⟩ : ∃ X : ByteArray, (⟨x.toArray⟩ : ByteArray) = X := ⟨_, rfl⟩
          obtain ⟨Y, hY⟩ : ∃ Y : ByteArray, (⟨y.toArray⟩ : ByteArray) = Y := ⟨_, rfl⟩
          rw [hX] at c0 SB
          rw [hY] at c1 SB
          have SN : (X.toList != Y.toList) = true := by simp only [bne, SB]; rfl
          clear hX hY
          go_wp2_with (fail)
          go_big_region
          go_wp2
          exact HQ.out _ _ ⟨fun e => (by cases e), fun e => absurd (by subst e; have h := HX.out.symm.trans HY.out; injection h) HXY.out⟩ HB.out.drew
      · obtain rfl : k = l.length := by omega
        have hkk : ¬ (l.length : Int) < (l.length : Int) := by omega
        go_wp2
        exact HQ.out _ _ ⟨fun _ => lists_eq HN.out (fun i x y h1 h2 => HA.out i x y (List.getElem?_eq_some_iff.1 h1).1 h1 h2), fun _ => rfl⟩ HB.out
  · have e1 : ((l.length : Int) != (m.length : Int)) = true := by simp; omega
    have HN := Lib.hid hn
    clear hn
    go_enter Tryz.func30, Tryz.ntmps30
    go_wp2_with (fail)
    exact HQ.out _ _ ⟨fun e => (by cases e), fun e => absurd (congrArg List.length e) HN.out⟩ (by repeat (first | exact Below.refl _ _ | refine Below.setCell ?_ (by first | (simp; done) | (simp; omega) | omega) _ | refine Below.alloc ?_ (by first | (simp; done) | (simp; omega) | omega) _ | refine Below.drew ?_ | assumption | refine Below.trans ?_ (Below.mono (by assumption) (by first | (simp; done) | (simp; omega) | omega))))
end Go.Proofs.YtijlifdbjhieaaaGreatDoor
