/-
  Contracts of sql.Query.sums and of slices.ContainsFunc as sql.Check calls it. (Printed by tools/mksn5.py.)
-/
import Derived.Test.YtijlifdbjhieaaaGreatDoorSn4
namespace Go.Proofs.YtijlifdbjhieaaaGreatDoor
set_option linter.all false
open Go.RowKit Go.Shelf
attribute [local go_sem] cell_set_self lt_1 lt_2 lt_3 lt_4 lt_5 lt_6

def pG (x : ItemT) : Bool := decide (x.agg = [])
def pA (G : List (List UInt8)) (x : ItemT) : Bool := !(decide (x.agg = []) && !(G.contains x.col))
def pN (G : List (List UInt8)) (n : List UInt8) : Bool := G.contains n
/-- What Check's closures read. -/
structure ApV (W : World) (ab qb : Nat) (AG : Option Addr) (cG : Nat) (G : List (List UInt8)) : Prop where
  a0 : ab < W.heap.size
  a1 : W.cell? ⟨ab, 0, none⟩ = some (.func (.func 77) #[] #[.pointer (some ⟨qb, 0, none⟩)])
  q0 : qb < W.heap.size
  q1 : W.cell? ⟨qb, 12, none⟩ = some (.slice AG G.length cG)
  gr : Strs W AG G
  ng : G.length ≤ 1000000000
theorem ApV.below {W W' : World} {ab qb : Nat} {AG : Option Addr} {cG : Nat} {G : List (List UInt8)} (h : ApV W ab qb AG cG G) (hb : Below W.heap.size W W') : ApV W' ab qb AG cG G :=
  ⟨Nat.lt_of_lt_of_le h.a0 hb.size, (hb.cell (p := ⟨ab, 0, none⟩) h.a0).trans h.a1, Nat.lt_of_lt_of_le h.q0 hb.size, (hb.cell (p := ⟨qb, 12, none⟩) h.q0).trans h.q1, h.gr.below hb, h.ng⟩
set_option maxHeartbeats 4000000 in
set_option maxRecDepth 100000 in
theorem sums1_any (x : ItemT) (w : World) : Calls Tryz.prog 104 #[.agg #[.string ⟨x.agg.toArray⟩, .string ⟨x.col.toArray⟩]] w fun e w' => e = .returned (.bool (!pG x)) ∧ Below w.heap.size w w' := by
  have S1 := str_beq2 x.agg []
  unfold pG
  obtain ⟨xa, xc⟩ := x
  dsimp only at S1 ⊢
  generalize decide (xa = []) = r at *
  generalize (⟨xa.toArray⟩ : ByteArray) = U at *
  generalize (⟨xc.toArray⟩ : ByteArray) = V at *
  have S2 : (U.toList != []) = !r := by unfold bne; rw [S1]
  go_enter Tryz.func104, Tryz.ntmps104
  go_wp2_with (fail)
  go_ret
  exact ⟨rfl, (by repeat (first | exact Below.refl _ _ | refine Below.setCell ?_ (by first | (simp; done) | (simp; omega) | omega) _ | refine Below.alloc ?_ (by first | (simp; done) | (simp; omega) | omega) _ | refine Below.drew ?_ | assumption | refine Below.trans ?_ (Below.mono (by assumption) (by first | (simp; done) | (simp; omega) | omega))))⟩
set_option maxHeartbeats 4000000 in
set_option maxRecDepth 100000 in
theorem chk2_any (qb : Nat) (AG : Option Addr) (cG : Nat) (G : List (List UInt8)) (ng : G.length ≤ 1000000000) (x : List UInt8) (w : World) (hq0 : qb < w.heap.size) (hq : w.cell? ⟨qb, 12, none⟩ = some (.slice AG G.length cG)) (T : Strs w AG G) : Calls Tryz.prog 77 #[.string ⟨x.toArray⟩, .pointer (some ⟨qb, 0, none⟩)] w fun e w' => e = .returned (.bool (!pN G x)) ∧ Below w.heap.size w w' := by
  have CT := Lib.hid (contains_any AG cG G _ rfl ng x w T)
  unfold pN
  generalize G.contains x = r at *
  generalize (⟨x.toArray⟩ : ByteArray) = U at *
  clear T
  go_enter Tryz.func77, Tryz.ntmps77
  go_wp2_with (first | (go_at_call 78; (with_reducible refine (CT.out).mono ?_); rintro e w5 ⟨rfl, h5⟩; subst h5))
  go_ret
  exact ⟨rfl, Below.refl _ _⟩
set_option maxHeartbeats 4000000 in
set_option maxRecDepth 100000 in
theorem chk3_any (ab qb : Nat) (AG : Option Addr) (cG : Nat) (G : List (List UInt8)) (x : ItemT) (w : World) (H : ApV w ab qb AG cG G) : Calls Tryz.prog 79 #[.agg #[.string ⟨x.agg.toArray⟩, .string ⟨x.col.toArray⟩], .pointer (some ⟨ab, 0, none⟩)] w fun e w' => e = .returned (.bool (!pA G x)) ∧ Below w.heap.size w w' := by
  suffices key : ∀ Q : Ending → World → Prop, Hid (∀ b w', b = (!pA G x) → Below w.heap.size w w' → Q (.returned (.bool b)) w') → Calls Tryz.prog 79 #[.agg #[.string ⟨x.agg.toArray⟩, .string ⟨x.col.toArray⟩], .pointer (some ⟨ab, 0, none⟩)] w Q from key _ (Lib.hid fun b w' h h' => ⟨by rw [h], h'⟩)
  intro Q HQ
  have S1 := str_beq2 x.agg []
  have CK := Lib.hid (fun W (hb : Below w.heap.size w W) => chk2_any qb AG cG G H.ng x.col W (H.below hb).q0 (H.below hb).q1 (H.below hb).gr)
  have h0 := H.a0
  have h1 := H.a1
  clear H
  have HP : Hid (∀ b, b = (decide (x.agg = []) && !pN G x.col) → b = (!pA G x)) := Lib.hid fun b h => by rw [h]; unfold pA pN; rw [Bool.not_not]
  obtain ⟨xa, xc⟩ := x
  dsimp only at S1 CK HP ⊢
  generalize pA G ⟨xa, xc⟩ = pr at *
  generalize pN G xc = pn at *
  by_cases hx : xa = []
  · rw [decide_eq_true hx] at S1 HP
    clear hx
    generalize (⟨xa.toArray⟩ : ByteArray) = U at *
    generalize (⟨xc.toArray⟩ : ByteArray) = V at *
    go_enter Tryz.func79, Tryz.ntmps79
    go_wp2_with (first | (go_at_call 77; (with_reducible refine (CK.out _ (by repeat (first | (with_reducible exact Below.refl _ _) | (with_reducible refine Below.alloc ?_ (by first | (simp; done) | (simp; omega)) _)))).mono ?_); rintro e w5 ⟨rfl, hb5⟩; have hB5 : Below w.heap.size w w5 := (by refine Below.trans ?_ (hb5.mono (by first | (simp; done) | (simp; omega))); repeat (first | (with_reducible exact Below.refl _ _) | (with_reducible refine Below.alloc ?_ (by first | (simp; done) | (simp; omega)) _)))))
    exact HQ.out _ _ (HP.out _ (by simp)) hB5
  · rw [decide_eq_false hx] at S1 HP
    clear hx
    generalize (⟨xa.toArray⟩ : ByteArray) = U at *
    generalize (⟨xc.toArray⟩ : ByteArray) = V at *
    go_enter Tryz.func79, Tryz.ntmps79
    go_wp2_with (fail)
    exact HQ.out _ _ (HP.out _ (by simp)) (by repeat (first | (with_reducible exact Below.refl _ _) | (with_reducible refine Below.alloc ?_ (by first | (simp; done) | (simp; omega)) _)))
set_option maxHeartbeats 4000000 in
set_option maxRecDepth 100000 in
theorem idxU_any (A : Option Addr) (c : Nat) (l : List (ItemT)) (hn : l.length ≤ 1000000000000000) (w : World) (T : ItL w A l) (H : True) :
    Calls Tryz.prog 83 #[.slice A l.length c, .func (.func 104) #[] #[]] w fun e w' => (∃ z : Int, e = .returned (.int .i64 z) ∧ decide (0 ≤ z) = !l.all pG ∧ z ≤ 1000000000000000) ∧ Below w.heap.size w w' := by
  suffices key : ∀ Q : Ending → World → Prop, Hid (∀ (z : Int) w', decide (0 ≤ z) = (!l.all pG) → z ≤ 1000000000000000 → Below w.heap.size w w' → Q (.returned (.int .i64 z)) w') → Calls Tryz.prog 83 #[.slice A l.length c, .func (.func 104) #[] #[]] w Q from key _ (Lib.hid fun z w' h h2 h' => ⟨⟨z, rfl, h, h2⟩, h'⟩)
  intro Q HQ
  have HT := Lib.hid T
  have HF := Lib.hid H
  clear T H
  go_enter Tryz.func83, Tryz.ntmps83
  go_wp2_with (fail)
  go_loopw [8] (fun j wr => ∃ k : Nat, k ≤ l.length ∧ j = .int .i64 k ∧ Hid (∀ (i : Nat) (x : ItemT), i < k → l[i]? = some x → pG x = true) ∧ Hid (Below w.heap.size w wr)) (fun j _ => l.length - (intOf j).toNat)
  case atStart => exact ⟨0, by omega, rfl, Lib.hid (fun i x hi => by omega), Lib.hid (Below.refl _ _)⟩
  case round =>
    obtain ⟨k, hk, rfl, HA, HB⟩ := hrel
    obtain ⟨wo, rfl⟩ : ∃ wo : World, wo = wr := ⟨_, rfl⟩
    have hso := HB.out.size
    by_cases hlt : k < l.length
    · have hlt' : (k : Int) < (l.length : Int) := by omega
      obtain ⟨x, hx⟩ : ∃ x, l[k]? = some x := ⟨_, List.getElem?_eq_getElem hlt⟩
      obtain ⟨b, off, rfl, hb, c0, c1⟩ := (HT.out.below HB.out) k x hx
      have NX := Lib.hid (fun W (hb : Below w.heap.size w W) => sums1_any x W)
      have AN := Lib.hid (fun (h : pG x = false) => all_no (P := pG) hx h)
      have AY := Lib.hid (fun (h : pG x = true) => show ∀ (i : Nat) (y : ItemT), i < k + 1 → l[i]? = some y → pG y = true from fun i y hi hy => by
        rcases Nat.lt_or_ge i k with h2 | h2
        · exact HA.out i y h2 hy
        · obtain rfl : i = k := by omega
          rw [hx] at hy; injection hy with hy; rw [← hy]; exact h)
      clear hx
      cases hp : pG x with
      | false =>
        rw [hp] at NX
        have AN' := AN.out hp
        clear AN AY hp
        obtain ⟨xa, xc⟩ := x
        dsimp only at NX c0 c1
        go_wp2_with (first | (go_at_call 104; (with_reducible refine (NX.out _ HB.out).mono ?_); rintro e w4 ⟨rfl, hb4⟩))
        exact HQ.out _ _ (by rw [AN']; simp) (by omega) (HB.out.trans (hb4.mono hso))
      | true =>
        rw [hp] at NX
        have HAY := Lib.hid (AY.out hp)
        clear AN AY hp
        obtain ⟨xa, xc⟩ := x
        dsimp only at NX c0 c1
        go_wp2_with (first | (go_at_call 104; (with_reducible refine (NX.out _ HB.out).mono ?_); rintro e w4 ⟨rfl, hb4⟩))
        go_roundw
        case rel => exact ⟨k + 1, by omega, by go_num, HAY, Lib.hid (HB.out.trans (hb4.mono hso))⟩
        case measure => first | (simp [intOf]; done) | (simp [intOf]; omega)
    · obtain rfl : k = l.length := by omega
      have hkk : ¬ (l.length : Int) < (l.length : Int) := by omega
      have hall := all_yes (P := pG) HA.out
      go_wp2
      exact HQ.out _ _ (by rw [hall]; simp) (by omega) HB.out
set_option maxHeartbeats 4000000 in
theorem anyU (A : Option Addr) (c : Nat) (l : List (ItemT)) (hn : l.length ≤ 1000000000000000) (w : World) (T : ItL w A l) (H : True) :
    Calls Tryz.prog 36 #[.slice A l.length c, .func (.func 104) #[] #[]] w fun e w' => e = .returned (.bool (!l.all pG)) ∧ Below w.heap.size w w' := by
  have IX := Lib.hid (idxU_any A c l hn w T H)
  clear T H
  generalize l.all pG = b at *
  go_enter Tryz.func36, Tryz.ntmps36
  go_wp2_with (first | (go_at_call 83; (with_reducible refine (IX.out).mono ?_); rintro e w4 ⟨⟨z, rfl, hz, hz2⟩, hb4⟩))
  go_ret
  exact ⟨by rw [← hz]; rfl, hb4⟩
set_option maxHeartbeats 4000000 in
set_option maxRecDepth 100000 in
theorem idxA_any (ab qb : Nat) (AG : Option Addr) (cG : Nat) (G : List (List UInt8)) (A : Option Addr) (c : Nat) (l : List (ItemT)) (hn : l.length ≤ 1000000000000000) (w : World) (T : ItL w A l) (H : ApV w ab qb AG cG G) :
    Calls Tryz.prog 83 #[.slice A l.length c, .func (.func 79) #[] #[.pointer (some ⟨ab, 0, none⟩)]] w fun e w' => (∃ z : Int, e = .returned (.int .i64 z) ∧ decide (0 ≤ z) = !l.all (pA G) ∧ z ≤ 1000000000000000) ∧ Below w.heap.size w w' := by
  suffices key : ∀ Q : Ending → World → Prop, Hid (∀ (z : Int) w', decide (0 ≤ z) = (!l.all (pA G)) → z ≤ 1000000000000000 → Below w.heap.size w w' → Q (.returned (.int .i64 z)) w') → Calls Tryz.prog 83 #[.slice A l.length c, .func (.func 79) #[] #[.pointer (some ⟨ab, 0, none⟩)]] w Q from key _ (Lib.hid fun z w' h h2 h' => ⟨⟨z, rfl, h, h2⟩, h'⟩)
  intro Q HQ
  have HT := Lib.hid T
  have HF := Lib.hid H
  clear T H
  go_enter Tryz.func83, Tryz.ntmps83
  go_wp2_with (fail)
  go_loopw [8] (fun j wr => ∃ k : Nat, k ≤ l.length ∧ j = .int .i64 k ∧ Hid (∀ (i : Nat) (x : ItemT), i < k → l[i]? = some x → (pA G) x = true) ∧ Hid (Below w.heap.size w wr)) (fun j _ => l.length - (intOf j).toNat)
  case atStart => exact ⟨0, by omega, rfl, Lib.hid (fun i x hi => by omega), Lib.hid (Below.refl _ _)⟩
  case round =>
    obtain ⟨k, hk, rfl, HA, HB⟩ := hrel
    obtain ⟨wo, rfl⟩ : ∃ wo : World, wo = wr := ⟨_, rfl⟩
    have hso := HB.out.size
    by_cases hlt : k < l.length
    · have hlt' : (k : Int) < (l.length : Int) := by omega
      obtain ⟨x, hx⟩ : ∃ x, l[k]? = some x := ⟨_, List.getElem?_eq_getElem hlt⟩
      obtain ⟨b, off, rfl, hb, c0, c1⟩ := (HT.out.below HB.out) k x hx
      have NX := Lib.hid (fun W (hb : Below w.heap.size w W) => chk3_any ab qb AG cG G x W (HF.out.below hb))
      have AN := Lib.hid (fun (h : (pA G) x = false) => all_no (P := (pA G)) hx h)
      have AY := Lib.hid (fun (h : (pA G) x = true) => show ∀ (i : Nat) (y : ItemT), i < k + 1 → l[i]? = some y → (pA G) y = true from fun i y hi hy => by
        rcases Nat.lt_or_ge i k with h2 | h2
        · exact HA.out i y h2 hy
        · obtain rfl : i = k := by omega
          rw [hx] at hy; injection hy with hy; rw [← hy]; exact h)
      clear hx
      cases hp : (pA G) x with
      | false =>
        rw [hp] at NX
        have AN' := AN.out hp
        clear AN AY hp
        obtain ⟨xa, xc⟩ := x
        dsimp only at NX c0 c1
        go_wp2_with (first | (go_at_call 79; (with_reducible refine (NX.out _ HB.out).mono ?_); rintro e w4 ⟨rfl, hb4⟩))
        exact HQ.out _ _ (by rw [AN']; simp) (by omega) (HB.out.trans (hb4.mono hso))
      | true =>
        rw [hp] at NX
        have HAY := Lib.hid (AY.out hp)
        clear AN AY hp
        obtain ⟨xa, xc⟩ := x
        dsimp only at NX c0 c1
        go_wp2_with (first | (go_at_call 79; (with_reducible refine (NX.out _ HB.out).mono ?_); rintro e w4 ⟨rfl, hb4⟩))
        go_roundw
        case rel => exact ⟨k + 1, by omega, by go_num, HAY, Lib.hid (HB.out.trans (hb4.mono hso))⟩
        case measure => first | (simp [intOf]; done) | (simp [intOf]; omega)
    · obtain rfl : k = l.length := by omega
      have hkk : ¬ (l.length : Int) < (l.length : Int) := by omega
      have hall := all_yes (P := (pA G)) HA.out
      go_wp2
      exact HQ.out _ _ (by rw [hall]; simp) (by omega) HB.out
set_option maxHeartbeats 4000000 in
theorem anyA (ab qb : Nat) (AG : Option Addr) (cG : Nat) (G : List (List UInt8)) (A : Option Addr) (c : Nat) (l : List (ItemT)) (hn : l.length ≤ 1000000000000000) (w : World) (T : ItL w A l) (H : ApV w ab qb AG cG G) :
    Calls Tryz.prog 36 #[.slice A l.length c, .func (.func 79) #[] #[.pointer (some ⟨ab, 0, none⟩)]] w fun e w' => e = .returned (.bool (!l.all (pA G))) ∧ Below w.heap.size w w' := by
  have IX := Lib.hid (idxA_any ab qb AG cG G A c l hn w T H)
  clear T H
  generalize l.all (pA G) = b at *
  go_enter Tryz.func36, Tryz.ntmps36
  go_wp2_with (first | (go_at_call 83; (with_reducible refine (IX.out).mono ?_); rintro e w4 ⟨⟨z, rfl, hz, hz2⟩, hb4⟩))
  go_ret
  exact ⟨by rw [← hz]; rfl, hb4⟩
set_option maxHeartbeats 4000000 in
set_option maxRecDepth 100000 in
theorem idxM_any (ab qb : Nat) (AG : Option Addr) (cG : Nat) (G : List (List UInt8)) (A : Option Addr) (c : Nat) (l : List (List UInt8)) (hn : l.length ≤ 1000000000000000) (w : World) (T : Strs w A l) (H : ApV w ab qb AG cG G) :
    Calls Tryz.prog 87 #[.slice A l.length c, .func (.func 77) #[] #[.pointer (some ⟨qb, 0, none⟩)]] w fun e w' => (∃ z : Int, e = .returned (.int .i64 z) ∧ decide (0 ≤ z) = !l.all (pN G) ∧ z ≤ 1000000000000000) ∧ Below w.heap.size w w' := by
  suffices key : ∀ Q : Ending → World → Prop, Hid (∀ (z : Int) w', decide (0 ≤ z) = (!l.all (pN G)) → z ≤ 1000000000000000 → Below w.heap.size w w' → Q (.returned (.int .i64 z)) w') → Calls Tryz.prog 87 #[.slice A l.length c, .func (.func 77) #[] #[.pointer (some ⟨qb, 0, none⟩)]] w Q from key _ (Lib.hid fun z w' h h2 h' => ⟨⟨z, rfl, h, h2⟩, h'⟩)
  intro Q HQ
  have HT := Lib.hid T
  have HF := Lib.hid H
  clear T H
  go_enter Tryz.func87, Tryz.ntmps87
  go_wp2_with (fail)
  go_loopw [8] (fun j wr => ∃ k : Nat, k ≤ l.length ∧ j = .int .i64 k ∧ Hid (∀ (i : Nat) (x : List UInt8), i < k → l[i]? = some x → (pN G) x = true) ∧ Hid (Below w.heap.size w wr)) (fun j _ => l.length - (intOf j).toNat)
  case atStart => exact ⟨0, by omega, rfl, Lib.hid (fun i x hi => by omega), Lib.hid (Below.refl _ _)⟩
  case round =>
    obtain ⟨k, hk, rfl, HA, HB⟩ := hrel
    obtain ⟨wo, rfl⟩ : ∃ wo : World, wo = wr := ⟨_, rfl⟩
    have hso := HB.out.size
    by_cases hlt : k < l.length
    · have hlt' : (k : Int) < (l.length : Int) := by omega
      obtain ⟨x, hx⟩ : ∃ x, l[k]? = some x := ⟨_, List.getElem?_eq_getElem hlt⟩
      obtain ⟨b, off, rfl, hb, c0⟩ := (HT.out.below HB.out) k x hx
      have NX := Lib.hid (fun W (hb : Below w.heap.size w W) => chk2_any qb AG cG G HF.out.ng x W (HF.out.below hb).q0 (HF.out.below hb).q1 (HF.out.below hb).gr)
      have AN := Lib.hid (fun (h : (pN G) x = false) => all_no (P := (pN G)) hx h)
      have AY := Lib.hid (fun (h : (pN G) x = true) => show ∀ (i : Nat) (y : List UInt8), i < k + 1 → l[i]? = some y → (pN G) y = true from fun i y hi hy => by
        rcases Nat.lt_or_ge i k with h2 | h2
        · exact HA.out i y h2 hy
        · obtain rfl : i = k := by omega
          rw [hx] at hy; injection hy with hy; rw [← hy]; exact h)
      clear hx
      cases hp : (pN G) x with
      | false =>
        rw [hp] at NX
        have AN' := AN.out hp
        clear AN AY hp
        skip
        go_wp2_with (first | (go_at_call 77; (with_reducible refine (NX.out _ HB.out).mono ?_); rintro e w4 ⟨rfl, hb4⟩))
        exact HQ.out _ _ (by rw [AN']; simp) (by omega) (HB.out.trans (hb4.mono hso))
      | true =>
        rw [hp] at NX
        have HAY := Lib.hid (AY.out hp)
        clear AN AY hp
        skip
        go_wp2_with (first | (go_at_call 77; (with_reducible refine (NX.out _ HB.out).mono ?_); rintro e w4 ⟨rfl, hb4⟩))
        go_roundw
        case rel => exact ⟨k + 1, by omega, by go_num, HAY, Lib.hid (HB.out.trans (hb4.mono hso))⟩
        case measure => first | (simp [intOf]; done) | (simp [intOf]; omega)
    · obtain rfl : k = l.length := by omega
      have hkk : ¬ (l.length : Int) < (l.length : Int) := by omega
      have hall := all_yes (P := (pN G)) HA.out
      go_wp2
      exact HQ.out _ _ (by rw [hall]; simp) (by omega) HB.out
set_option maxHeartbeats 4000000 in
theorem anyM (ab qb : Nat) (AG : Option Addr) (cG : Nat) (G : List (List UInt8)) (A : Option Addr) (c : Nat) (l : List (List UInt8)) (hn : l.length ≤ 1000000000000000) (w : World) (T : Strs w A l) (H : ApV w ab qb AG cG G) :
    Calls Tryz.prog 40 #[.slice A l.length c, .func (.func 77) #[] #[.pointer (some ⟨qb, 0, none⟩)]] w fun e w' => e = .returned (.bool (!l.all (pN G))) ∧ Below w.heap.size w w' := by
  have IX := Lib.hid (idxM_any ab qb AG cG G A c l hn w T H)
  clear T H
  generalize l.all (pN G) = b at *
  go_enter Tryz.func40, Tryz.ntmps40
  go_wp2_with (first | (go_at_call 87; (with_reducible refine (IX.out).mono ?_); rintro e w4 ⟨⟨z, rfl, hz, hz2⟩, hb4⟩))
  go_ret
  exact ⟨by rw [← hz]; rfl, hb4⟩
def sumsB (q : QueryT) : Bool := decide (0 < q.group.length) || !q.items.all pG
set_option maxHeartbeats 8000000 in
set_option maxRecDepth 100000 in
theorem sums_any (q : QueryT) (AI AG AO : Option Addr) (cI cG cO : Nat) (cs : List Value) (w : World) (H : QV w q AI AG AO cs) (hni : q.items.length ≤ 1000000) :
    Calls Tryz.prog 80 #[.agg (qCells AI q.items.length cI q.table cs AG q.group.length cG AO q.order.length cO q.limit).toArray] w fun e w' => e = .returned (.bool (sumsB q)) ∧ Below w.heap.size w w' := by
  suffices key : ∀ Q : Ending → World → Prop, Hid (∀ w', Below w.heap.size w w' → Q (.returned (.bool (sumsB q))) w') → Calls Tryz.prog 80 #[.agg (qCells AI q.items.length cI q.table cs AG q.group.length cG AO q.order.length cO q.limit).toArray] w Q from key _ (Lib.hid fun w' h' => ⟨rfl, h'⟩)
  intro Q HQ
  have AU := Lib.hid (fun W (hb : Below w.heap.size w W) => anyU AI cI q.items (by omega) W (H.it.below hb) trivial)
  have hcv := H.cv
  unfold sumsB at HQ
  obtain ⟨I, T, ⟨op, args, ⟨lc, lt, ln, ls⟩, ⟨rc, rt, rn, rs⟩⟩, G, O, lim⟩ := q
  obtain ⟨AC, cC, rfl, -⟩ := hcv.open
  dsimp only [qCells, condC, termC, List.cons_append, List.nil_append] at AU HQ hni ⊢
  generalize I.all pG = ag at *
  clear H hcv
  generalize (⟨T.toArray⟩ : ByteArray) = TB at *
  generalize (⟨lc.toArray⟩ : ByteArray) = U1 at *
  generalize (⟨ls.toArray⟩ : ByteArray) = U2 at *
  generalize (⟨rc.toArray⟩ : ByteArray) = U3 at *
  generalize (⟨rs.toArray⟩ : ByteArray) = U4 at *
  generalize G.length = nG at *
  by_cases hg : 0 < nG
  · have hg' : 0 < (nG : Int) := by omega
    rw [decide_eq_true hg, Bool.true_or] at HQ
    go_enter Tryz.func80, Tryz.ntmps80
    go_wp2_with (fail)
    exact HQ.out _ (by repeat (first | (with_reducible exact Below.refl _ _) | (with_reducible refine Below.alloc ?_ (by first | (simp; done) | (simp; omega)) _)))
  · have hg' : ¬ 0 < (nG : Int) := by omega
    rw [decide_eq_false hg, Bool.false_or] at HQ
    go_enter Tryz.func80, Tryz.ntmps80
    go_wp2_with (first | (go_at_call 36; (with_reducible refine (AU.out _ (by repeat (first | (with_reducible exact Below.refl _ _) | (with_reducible refine Below.alloc ?_ (by first | (simp; done) | (simp; omega)) _)))).mono ?_); rintro e w5 ⟨rfl, hb5⟩; have hB5 : Below w.heap.size w w5 := (by refine Below.trans ?_ (hb5.mono (by first | (simp; done) | (simp; omega))); repeat (first | (with_reducible exact Below.refl _ _) | (with_reducible refine Below.alloc ?_ (by first | (simp; done) | (simp; omega)) _)))))
    exact HQ.out _ hB5
end Go.Proofs.YtijlifdbjhieaaaGreatDoor
