/-
  Contracts of slices.ContainsFunc as sql.form calls it: items, names, orders. (Printed by tools/mksf2.py.)
-/
import Derived.Test.YtijlifdbjhieaaaGreatDoorSq3
/-
  A query in memory that is only read; contracts of sql.item and what form asks of each item.
-/
namespace Go.Proofs.YtijlifdbjhieaaaGreatDoor
set_option linter.all false
open Go.RowKit Go.Shelf
attribute [local go_sem] cell_set_self lt_1 lt_2 lt_3 lt_4 lt_5 lt_6

/-- Items in memory. -/
def ItL (w : World) (A : Option Addr) (l : List ItemT) : Prop := ∀ (i : Nat) (x : ItemT), l[i]? = some x → ∃ b off, A = some ⟨b, off, none⟩ ∧ b < w.heap.size ∧ w.cell? ⟨b, off + i * 2, none⟩ = some (.string ⟨x.agg.toArray⟩) ∧ w.cell? ⟨b, off + i * 2 + 1, none⟩ = some (.string ⟨x.col.toArray⟩)
/-- Orders in memory. -/
def OrL (w : World) (A : Option Addr) (l : List OrderT) : Prop := ∀ (i : Nat) (x : OrderT), l[i]? = some x → ∃ b off, A = some ⟨b, off, none⟩ ∧ b < w.heap.size ∧ w.cell? ⟨b, off + i * 2, none⟩ = some (.string ⟨x.col.toArray⟩) ∧ w.cell? ⟨b, off + i * 2 + 1, none⟩ = some (.bool x.desc)
theorem ItL.below {w W : World} {A : Option Addr} {l : List ItemT} (h : ItL w A l) (hb : Below w.heap.size w W) : ItL W A l := fun i x hi => by
  obtain ⟨b, off, h1, h2, h3, h4⟩ := h i x hi
  exact ⟨b, off, h1, Nat.lt_of_lt_of_le h2 hb.size, by rw [hb.cell (p := ⟨b, _, none⟩) h2]; exact h3, by rw [hb.cell (p := ⟨b, _, none⟩) h2]; exact h4⟩
theorem OrL.below {w W : World} {A : Option Addr} {l : List OrderT} (h : OrL w A l) (hb : Below w.heap.size w W) : OrL W A l := fun i x hi => by
  obtain ⟨b, off, h1, h2, h3, h4⟩ := h i x hi
  exact ⟨b, off, h1, Nat.lt_of_lt_of_le h2 hb.size, by rw [hb.cell (p := ⟨b, _, none⟩) h2]; exact h3, by rw [hb.cell (p := ⟨b, _, none⟩) h2]; exact h4⟩
set_option maxHeartbeats 4000000 in
set_option maxRecDepth 100000 in
theorem itemB_any (g c : List UInt8) (hl : c.length ≤ 9223372036854775807) (w : World) :
    Calls Tryz.prog 38 #[.agg #[.string ⟨g.toArray⟩, .string ⟨c.toArray⟩]] w fun e w' => e = .returned (.bool (itemB ⟨g, c⟩)) ∧ Below w.heap.size w w' := by
  suffices key : ∀ Q : Ending → World → Prop, Hid (∀ b, b = itemB ⟨g, c⟩ → ∀ w', Below w.heap.size w w' → Q (.returned (.bool b)) w') → Calls Tryz.prog 38 #[.agg #[.string ⟨g.toArray⟩, .string ⟨c.toArray⟩]] w Q from key _ (Lib.hid fun b h w' h' => ⟨by rw [h], h'⟩)
  intro Q HQ
  have NM := Lib.hid (fun W => isName_any c hl W)
  have S1 := str_beq2 g wCount
  have S2 := str_beq2 g []
  have S3 := str_beq2 g [115, 117, 109]
  have S4 := str_beq2 g [109, 105, 110]
  have S5 := str_beq2 g [109, 97, 120]
  have S6 := str_beq2 c [42]
  have IB : itemB ⟨g, c⟩ = if g = wCount then decide (c = [42]) else if g = [] ∨ g = [115, 117, 109] ∨ g = [109, 105, 110] ∨ g = [109, 97, 120] then nameB c else false := rfl
  clear hl
  have FIN : ∀ b, b = itemB ⟨g, c⟩ → Hid (∀ w', Below w.heap.size w w' → Q (.returned (.bool b)) w') := fun b h => Lib.hid fun w' h' => HQ.out b h w' h'
  clear HQ
  by_cases h1 : g = wCount
  · rw [decide_eq_true h1] at S1
    rw [if_pos h1] at IB
    clear h1 NM
    have F := FIN _ IB.symm
    clear FIN IB
    generalize (⟨g.toArray⟩ : ByteArray) = U at *
    generalize (⟨c.toArray⟩ : ByteArray) = V at *
    go_enter Tryz.func38, Tryz.ntmps38
    go_wp2_with (fail)
    exact F.out _ (by repeat (first | exact Below.refl _ _ | refine Below.setCell ?_ (by first | (simp; done) | (simp; omega) | omega) _ | refine Below.alloc ?_ (by first | (simp; done) | (simp; omega) | omega) _ | refine Below.drew ?_ | assumption | refine Below.trans ?_ (Below.mono (by assumption) (by first | (simp; done) | (simp; omega) | omega))))
  · rw [decide_eq_false h1] at S1
    rw [if_neg h1] at IB
    by_cases h2 : g = []
    · rw [decide_eq_true h2] at S2
      rw [if_pos (by simp [h2])] at IB
      clear h2 h1
      have F := FIN _ IB.symm
      clear FIN IB
      generalize (⟨g.toArray⟩ : ByteArray) = U at *
      generalize (⟨c.toArray⟩ : ByteArray) = V at *
      go_enter Tryz.func38, Tryz.ntmps38
      go_wp2_with (first | (go_at_call 39; (with_reducible refine (NM.out _).mono ?_); rintro e w4 ⟨rfl, hb4⟩))
      exact F.out _ (by repeat (first | exact Below.refl _ _ | refine Below.setCell ?_ (by first | (simp; done) | (simp; omega) | omega) _ | refine Below.alloc ?_ (by first | (simp; done) | (simp; omega) | omega) _ | refine Below.drew ?_ | assumption | refine Below.trans ?_ (Below.mono (by assumption) (by first | (simp; done) | (simp; omega) | omega))))
    · rw [decide_eq_false h2] at S2
      by_cases h3 : g = [115, 117, 109]
      · rw [decide_eq_true h3] at S3
        rw [if_pos (by simp [h3])] at IB
        clear h3 h1 h2
        have F := FIN _ IB.symm
        clear FIN IB
        generalize (⟨g.toArray⟩ : ByteArray) = U at *
        generalize (⟨c.toArray⟩ : ByteArray) = V at *
        go_enter Tryz.func38, Tryz.ntmps38
        go_wp2_with (first | (go_at_call 39; (with_reducible refine (NM.out _).mono ?_); rintro e w4 ⟨rfl, hb4⟩))
        exact F.out _ (by repeat (first | exact Below.refl _ _ | refine Below.setCell ?_ (by first | (simp; done) | (simp; omega) | omega) _ | refine Below.alloc ?_ (by first | (simp; done) | (simp; omega) | omega) _ | refine Below.drew ?_ | assumption | refine Below.trans ?_ (Below.mono (by assumption) (by first | (simp; done) | (simp; omega) | omega))))
      · rw [decide_eq_false h3] at S3
        by_cases h4 : g = [109, 105, 110]
        · rw [decide_eq_true h4] at S4
          rw [if_pos (by simp [h4])] at IB
          clear h4 h1 h2 h3
          have F := FIN _ IB.symm
          clear FIN IB
          generalize (⟨g.toArray⟩ : ByteArray) = U at *
          generalize (⟨c.toArray⟩ : ByteArray) = V at *
          go_enter Tryz.func38, Tryz.ntmps38
          go_wp2_with (first | (go_at_call 39; (with_reducible refine (NM.out _).mono ?_); rintro e w4 ⟨rfl, hb4⟩))
          exact F.out _ (by repeat (first | exact Below.refl _ _ | refine Below.setCell ?_ (by first | (simp; done) | (simp; omega) | omega) _ | refine Below.alloc ?_ (by first | (simp; done) | (simp; omega) | omega) _ | refine Below.drew ?_ | assumption | refine Below.trans ?_ (Below.mono (by assumption) (by first | (simp; done) | (simp; omega) | omega))))
        · rw [decide_eq_false h4] at S4
          by_cases h5 : g = [109, 97, 120]
          · rw [decide_eq_true h5] at S5
            rw [if_pos (by simp [h5])] at IB
            clear h5 h1 h2 h3 h4
            have F := FIN _ IB.symm
            clear FIN IB
            generalize (⟨g.toArray⟩ : ByteArray) = U at *
            generalize (⟨c.toArray⟩ : ByteArray) = V at *
            go_enter Tryz.func38, Tryz.ntmps38
            go_wp2_with (first | (go_at_call 39; (with_reducible refine (NM.out _).mono ?_); rintro e w4 ⟨rfl, hb4⟩))
            exact F.out _ (by repeat (first | exact Below.refl _ _ | refine Below.setCell ?_ (by first | (simp; done) | (simp; omega) | omega) _ | refine Below.alloc ?_ (by first | (simp; done) | (simp; omega) | omega) _ | refine Below.drew ?_ | assumption | refine Below.trans ?_ (Below.mono (by assumption) (by first | (simp; done) | (simp; omega) | omega))))
          · rw [decide_eq_false h5] at S5
            rw [if_neg (by rintro (h | h | h | h); exact h2 h; exact h3 h; exact h4 h; exact h5 h)] at IB
            clear h1 h2 h3 h4 h5 NM
            have F := FIN _ IB.symm
            clear FIN IB
            generalize (⟨g.toArray⟩ : ByteArray) = U at *
            generalize (⟨c.toArray⟩ : ByteArray) = V at *
            go_enter Tryz.func38, Tryz.ntmps38
            go_wp2_with (fail)
            exact F.out _ (by repeat (first | exact Below.refl _ _ | refine Below.setCell ?_ (by first | (simp; done) | (simp; omega) | omega) _ | refine Below.alloc ?_ (by first | (simp; done) | (simp; omega) | omega) _ | refine Below.drew ?_ | assumption | refine Below.trans ?_ (Below.mono (by assumption) (by first | (simp; done) | (simp; omega) | omega))))
end Go.Proofs.YtijlifdbjhieaaaGreatDoor

/-
  Contracts of slices.ContainsFunc as sql.form calls it: items, names, orders. (Printed by tools/mksf2.py.)
-/
namespace Go.Proofs.YtijlifdbjhieaaaGreatDoor
set_option linter.all false
open Go.RowKit Go.Shelf
attribute [local go_sem] cell_set_self lt_1 lt_2 lt_3 lt_4 lt_5 lt_6

def ordB (o : OrderT) : Bool := nameB o.col
theorem all_no {α : Type} {P : α → Bool} {l : List α} {k : Nat} {x : α} (hx : l[k]? = some x) (hp : P x = false) : l.all P = false := by
  rw [Bool.eq_false_iff]
  intro h
  have := List.all_eq_true.1 h x (List.mem_of_getElem? hx)
  rw [hp] at this; cases this
theorem all_yes {α : Type} {P : α → Bool} {l : List α} (h : ∀ (j : Nat) (x : α), j < l.length → l[j]? = some x → P x = true) : l.all P = true :=
  List.all_eq_true.2 fun x hx => by
    obtain ⟨j, hj, e⟩ := List.mem_iff_getElem.1 hx
    exact h j x hj (by rw [List.getElem?_eq_getElem hj, e])
set_option maxHeartbeats 4000000 in
set_option maxRecDepth 100000 in
theorem notI_any (x : ItemT) (hl : x.col.length ≤ 9223372036854775807) (w : World) : Calls Tryz.prog 37 #[.agg #[.string ⟨x.agg.toArray⟩, .string ⟨x.col.toArray⟩]] w fun e w' => e = .returned (.bool (!itemB x)) ∧ Below w.heap.size w w' := by
  have IB := Lib.hid (fun W => itemB_any x.agg x.col hl W)
  clear hl
  obtain ⟨xg, xc⟩ := x
  dsimp only at IB ⊢
  go_enter Tryz.func37, Tryz.ntmps37
  go_wp2_with (first | (go_at_call 38; (with_reducible refine (IB.out _).mono ?_); rintro e w4 ⟨rfl, hb4⟩))
  go_ret
  exact ⟨rfl, (by repeat (first | exact Below.refl _ _ | refine Below.setCell ?_ (by first | (simp; done) | (simp; omega) | omega) _ | refine Below.alloc ?_ (by first | (simp; done) | (simp; omega) | omega) _ | refine Below.drew ?_ | assumption | refine Below.trans ?_ (Below.mono (by assumption) (by first | (simp; done) | (simp; omega) | omega))))⟩
set_option maxHeartbeats 4000000 in
set_option maxRecDepth 100000 in
theorem idxI_any (A : Option Addr) (c : Nat) (l : List (ItemT)) (hn : l.length ≤ 1000000000000000) (hs : ∀ x ∈ l, x.col.length ≤ 9223372036854775807) (w : World) (T : ItL w A l) :
    Calls Tryz.prog 83 #[.slice A l.length c, .func (.func 37) #[] #[]] w fun e w' => (∃ z : Int, e = .returned (.int .i64 z) ∧ decide (0 ≤ z) = !l.all itemB ∧ z ≤ 1000000000000000) ∧ Below w.heap.size w w' := by
  suffices key : ∀ Q : Ending → World → Prop, Hid (∀ (z : Int) w', decide (0 ≤ z) = (!l.all itemB) → z ≤ 1000000000000000 → Below w.heap.size w w' → Q (.returned (.int .i64 z)) w') → Calls Tryz.prog 83 #[.slice A l.length c, .func (.func 37) #[] #[]] w Q from key _ (Lib.hid fun z w' h h2 h' => ⟨⟨z, rfl, h, h2⟩, h'⟩)
  intro Q HQ
  have HT := Lib.hid T
  have HS := Lib.hid hs
  have NO := Lib.hid (fun x hl W => notI_any x hl W)
  clear T hs
  go_enter Tryz.func83, Tryz.ntmps83
  go_wp2_with (fail)
  go_loopw [8] (fun j wr => ∃ k : Nat, k ≤ l.length ∧ j = .int .i64 k ∧ Hid (∀ (i : Nat) (x : ItemT), i < k → l[i]? = some x → itemB x = true) ∧ Hid (Below w.heap.size w wr)) (fun j _ => l.length - (intOf j).toNat)
  case atStart => exact ⟨0, by omega, rfl, Lib.hid (fun i x hi => by omega), Lib.hid (by repeat (first | exact Below.refl _ _ | refine Below.setCell ?_ (by first | (simp; done) | (simp; omega) | omega) _ | refine Below.alloc ?_ (by first | (simp; done) | (simp; omega) | omega) _ | refine Below.drew ?_ | assumption | refine Below.trans ?_ (Below.mono (by assumption) (by first | (simp; done) | (simp; omega) | omega))))⟩
  case round =>
    obtain ⟨k, hk, rfl, HA, HB⟩ := hrel
    obtain ⟨wo, rfl⟩ : ∃ wo : World, wo = wr := ⟨_, rfl⟩
    by_cases hlt : k < l.length
    · have hlt' : (k : Int) < (l.length : Int) := by omega
      obtain ⟨x, hx⟩ : ∃ x, l[k]? = some x := ⟨_, List.getElem?_eq_getElem hlt⟩
      obtain ⟨b, off, rfl, hb, c0, c1⟩ := (HT.out.below HB.out) k x hx
      have NX := Lib.hid (fun W => NO.out x (HS.out x (List.mem_of_getElem? hx)) W)
      have hso := HB.out.size
      have AN := Lib.hid (fun (h : itemB x = false) => all_no (P := itemB) hx h)
      have AY := Lib.hid (fun (h : itemB x = true) => show ∀ (i : Nat) (y : ItemT), i < k + 1 → l[i]? = some y → itemB y = true from fun i y hi hy => by
        rcases Nat.lt_or_ge i k with h2 | h2
        · exact HA.out i y h2 hy
        · obtain rfl : i = k := by omega
          rw [hx] at hy; injection hy with hy; rw [← hy]; exact h)
      clear hx
      cases hp : itemB x with
      | false =>
        rw [hp] at NX
        have AN' := AN.out hp
        clear AN AY hp
        go_wp2_with (first | (go_at_call 37; (with_reducible refine (NX.out _).mono ?_); rintro e w4 ⟨rfl, hb4⟩))
        exact HQ.out _ _ (by rw [AN']; simp) (by omega) (by repeat (first | exact Below.refl _ _ | refine Below.setCell ?_ (by first | (simp; done) | (simp; omega) | omega) _ | refine Below.alloc ?_ (by first | (simp; done) | (simp; omega) | omega) _ | refine Below.drew ?_ | assumption | refine Below.trans ?_ (Below.mono (by assumption) (by first | (simp; done) | (simp; omega) | omega))))
      | true =>
        rw [hp] at NX
        have HAY := Lib.hid (AY.out hp)
        clear AN AY hp
        go_wp2_with (first | (go_at_call 37; (with_reducible refine (NX.out _).mono ?_); rintro e w4 ⟨rfl, hb4⟩))
        go_roundw
        case rel => exact ⟨k + 1, by omega, by go_num, HAY, Lib.hid (by repeat (first | exact Below.refl _ _ | refine Below.setCell ?_ (by first | (simp; done) | (simp; omega) | omega) _ | refine Below.alloc ?_ (by first | (simp; done) | (simp; omega) | omega) _ | refine Below.drew ?_ | assumption | refine Below.trans ?_ (Below.mono (by assumption) (by first | (simp; done) | (simp; omega) | omega))))⟩
        case measure => first | (simp [intOf]; done) | (simp [intOf]; omega)
    · obtain rfl : k = l.length := by omega
      have hkk : ¬ (l.length : Int) < (l.length : Int) := by omega
      have hall := all_yes (P := itemB) HA.out
      go_wp2
      exact HQ.out _ _ (by rw [hall]; simp) (by omega) HB.out
set_option maxHeartbeats 4000000 in
theorem anyI (A : Option Addr) (c : Nat) (l : List (ItemT)) (hn : l.length ≤ 1000000000000000) (hs : ∀ x ∈ l, x.col.length ≤ 9223372036854775807) (w : World) (T : ItL w A l) :
    Calls Tryz.prog 36 #[.slice A l.length c, .func (.func 37) #[] #[]] w fun e w' => e = .returned (.bool (!l.all itemB)) ∧ Below w.heap.size w w' := by
  have IX := Lib.hid (idxI_any A c l hn hs w T)
  clear T hs
  generalize l.all itemB = b at *
  go_enter Tryz.func36, Tryz.ntmps36
  go_wp2_with (first | (go_at_call 83; (with_reducible refine (IX.out).mono ?_); rintro e w4 ⟨⟨z, rfl, hz, hz2⟩, hb4⟩))
  go_ret
  exact ⟨by rw [← hz]; rfl, hb4⟩
set_option maxHeartbeats 4000000 in
set_option maxRecDepth 100000 in
theorem notN_any (x : List UInt8) (hl : x.length ≤ 9223372036854775807) (w : World) : Calls Tryz.prog 41 #[.string ⟨x.toArray⟩] w fun e w' => e = .returned (.bool (!nameB x)) ∧ Below w.heap.size w w' := by
  have IB := Lib.hid (fun W => isName_any x hl W)
  clear hl
  skip
  go_enter Tryz.func41, Tryz.ntmps41
  go_wp2_with (first | (go_at_call 39; (with_reducible refine (IB.out _).mono ?_); rintro e w4 ⟨rfl, hb4⟩))
  go_ret
  exact ⟨rfl, (by repeat (first | exact Below.refl _ _ | refine Below.setCell ?_ (by first | (simp; done) | (simp; omega) | omega) _ | refine Below.alloc ?_ (by first | (simp; done) | (simp; omega) | omega) _ | refine Below.drew ?_ | assumption | refine Below.trans ?_ (Below.mono (by assumption) (by first | (simp; done) | (simp; omega) | omega))))⟩
set_option maxHeartbeats 4000000 in
set_option maxRecDepth 100000 in
theorem idxN_any (A : Option Addr) (c : Nat) (l : List (List UInt8)) (hn : l.length ≤ 1000000000000000) (hs : ∀ x ∈ l, x.length ≤ 9223372036854775807) (w : World) (T : Strs w A l) :
    Calls Tryz.prog 87 #[.slice A l.length c, .func (.func 41) #[] #[]] w fun e w' => (∃ z : Int, e = .returned (.int .i64 z) ∧ decide (0 ≤ z) = !l.all nameB ∧ z ≤ 1000000000000000) ∧ Below w.heap.size w w' := by
  suffices key : ∀ Q : Ending → World → Prop, Hid (∀ (z : Int) w', decide (0 ≤ z) = (!l.all nameB) → z ≤ 1000000000000000 → Below w.heap.size w w' → Q (.returned (.int .i64 z)) w') → Calls Tryz.prog 87 #[.slice A l.length c, .func (.func 41) #[] #[]] w Q from key _ (Lib.hid fun z w' h h2 h' => ⟨⟨z, rfl, h, h2⟩, h'⟩)
  intro Q HQ
  have HT := Lib.hid T
  have HS := Lib.hid hs
  have NO := Lib.hid (fun x hl W => notN_any x hl W)
  clear T hs
  go_enter Tryz.func87, Tryz.ntmps87
  go_wp2_with (fail)
  go_loopw [8] (fun j wr => ∃ k : Nat, k ≤ l.length ∧ j = .int .i64 k ∧ Hid (∀ (i : Nat) (x : List UInt8), i < k → l[i]? = some x → nameB x = true) ∧ Hid (Below w.heap.size w wr)) (fun j _ => l.length - (intOf j).toNat)
  case atStart => exact ⟨0, by omega, rfl, Lib.hid (fun i x hi => by omega), Lib.hid (by repeat (first | exact Below.refl _ _ | refine Below.setCell ?_ (by first | (simp; done) | (simp; omega) | omega) _ | refine Below.alloc ?_ (by first | (simp; done) | (simp; omega) | omega) _ | refine Below.drew ?_ | assumption | refine Below.trans ?_ (Below.mono (by assumption) (by first | (simp; done) | (simp; omega) | omega))))⟩
  case round =>
    obtain ⟨k, hk, rfl, HA, HB⟩ := hrel
    obtain ⟨wo, rfl⟩ : ∃ wo : World, wo = wr := ⟨_, rfl⟩
    by_cases hlt : k < l.length
    · have hlt' : (k : Int) < (l.length : Int) := by omega
      obtain ⟨x, hx⟩ : ∃ x, l[k]? = some x := ⟨_, List.getElem?_eq_getElem hlt⟩
      obtain ⟨b, off, rfl, hb, c0⟩ := (HT.out.below HB.out) k x hx
      have NX := Lib.hid (fun W => NO.out x (HS.out x (List.mem_of_getElem? hx)) W)
      have hso := HB.out.size
      have AN := Lib.hid (fun (h : nameB x = false) => all_no (P := nameB) hx h)
      have AY := Lib.hid (fun (h : nameB x = true) => show ∀ (i : Nat) (y : List UInt8), i < k + 1 → l[i]? = some y → nameB y = true from fun i y hi hy => by
        rcases Nat.lt_or_ge i k with h2 | h2
        · exact HA.out i y h2 hy
        · obtain rfl : i = k := by omega
          rw [hx] at hy; injection hy with hy; rw [← hy]; exact h)
      clear hx
      cases hp : nameB x with
      | false =>
        rw [hp] at NX
        have AN' := AN.out hp
        clear AN AY hp
        go_wp2_with (first | (go_at_call 41; (with_reducible refine (NX.out _).mono ?_); rintro e w4 ⟨rfl, hb4⟩))
        exact HQ.out _ _ (by rw [AN']; simp) (by omega) (by repeat (first | exact Below.refl _ _ | refine Below.setCell ?_ (by first | (simp; done) | (simp; omega) | omega) _ | refine Below.alloc ?_ (by first | (simp; done) | (simp; omega) | omega) _ | refine Below.drew ?_ | assumption | refine Below.trans ?_ (Below.mono (by assumption) (by first | (simp; done) | (simp; omega) | omega))))
      | true =>
        rw [hp] at NX
        have HAY := Lib.hid (AY.out hp)
        clear AN AY hp
        go_wp2_with (first | (go_at_call 41; (with_reducible refine (NX.out _).mono ?_); rintro e w4 ⟨rfl, hb4⟩))
        go_roundw
        case rel => exact ⟨k + 1, by omega, by go_num, HAY, Lib.hid (by repeat (first | exact Below.refl _ _ | refine Below.setCell ?_ (by first | (simp; done) | (simp; omega) | omega) _ | refine Below.alloc ?_ (by first | (simp; done) | (simp; omega) | omega) _ | refine Below.drew ?_ | assumption | refine Below.trans ?_ (Below.mono (by assumption) (by first | (simp; done) | (simp; omega) | omega))))⟩
        case measure => first | (simp [intOf]; done) | (simp [intOf]; omega)
    · obtain rfl : k = l.length := by omega
      have hkk : ¬ (l.length : Int) < (l.length : Int) := by omega
      have hall := all_yes (P := nameB) HA.out
      go_wp2
      exact HQ.out _ _ (by rw [hall]; simp) (by omega) HB.out
set_option maxHeartbeats 4000000 in
theorem anyN (A : Option Addr) (c : Nat) (l : List (List UInt8)) (hn : l.length ≤ 1000000000000000) (hs : ∀ x ∈ l, x.length ≤ 9223372036854775807) (w : World) (T : Strs w A l) :
    Calls Tryz.prog 40 #[.slice A l.length c, .func (.func 41) #[] #[]] w fun e w' => e = .returned (.bool (!l.all nameB)) ∧ Below w.heap.size w w' := by
  have IX := Lib.hid (idxN_any A c l hn hs w T)
  clear T hs
  generalize l.all nameB = b at *
  go_enter Tryz.func40, Tryz.ntmps40
  go_wp2_with (first | (go_at_call 87; (with_reducible refine (IX.out).mono ?_); rintro e w4 ⟨⟨z, rfl, hz, hz2⟩, hb4⟩))
  go_ret
  exact ⟨by rw [← hz]; rfl, hb4⟩
set_option maxHeartbeats 4000000 in
set_option maxRecDepth 100000 in
theorem notO_any (x : OrderT) (hl : x.col.length ≤ 9223372036854775807) (w : World) : Calls Tryz.prog 43 #[.agg #[.string ⟨x.col.toArray⟩, .bool x.desc]] w fun e w' => e = .returned (.bool (!ordB x)) ∧ Below w.heap.size w w' := by
  have IB := Lib.hid (fun W => isName_any x.col hl W)
  clear hl
  obtain ⟨xc, xd⟩ := x
  dsimp only at IB ⊢
  go_enter Tryz.func43, Tryz.ntmps43
  go_wp2_with (first | (go_at_call 39; (with_reducible refine (IB.out _).mono ?_); rintro e w4 ⟨rfl, hb4⟩))
  go_ret
  exact ⟨rfl, (by repeat (first | exact Below.refl _ _ | refine Below.setCell ?_ (by first | (simp; done) | (simp; omega) | omega) _ | refine Below.alloc ?_ (by first | (simp; done) | (simp; omega) | omega) _ | refine Below.drew ?_ | assumption | refine Below.trans ?_ (Below.mono (by assumption) (by first | (simp; done) | (simp; omega) | omega))))⟩
set_option maxHeartbeats 4000000 in
set_option maxRecDepth 100000 in
theorem idxO_any (A : Option Addr) (c : Nat) (l : List (OrderT)) (hn : l.length ≤ 1000000000000000) (hs : ∀ x ∈ l, x.col.length ≤ 9223372036854775807) (w : World) (T : OrL w A l) :
    Calls Tryz.prog 88 #[.slice A l.length c, .func (.func 43) #[] #[]] w fun e w' => (∃ z : Int, e = .returned (.int .i64 z) ∧ decide (0 ≤ z) = !l.all ordB ∧ z ≤ 1000000000000000) ∧ Below w.heap.size w w' := by
  suffices key : ∀ Q : Ending → World → Prop, Hid (∀ (z : Int) w', decide (0 ≤ z) = (!l.all ordB) → z ≤ 1000000000000000 → Below w.heap.size w w' → Q (.returned (.int .i64 z)) w') → Calls Tryz.prog 88 #[.slice A l.length c, .func (.func 43) #[] #[]] w Q from key _ (Lib.hid fun z w' h h2 h' => ⟨⟨z, rfl, h, h2⟩, h'⟩)
  intro Q HQ
  have HT := Lib.hid T
  have HS := Lib.hid hs
  have NO := Lib.hid (fun x hl W => notO_any x hl W)
  clear T hs
  go_enter Tryz.func88, Tryz.ntmps88
  go_wp2_with (fail)
  go_loopw [8] (fun j wr => ∃ k : Nat, k ≤ l.length ∧ j = .int .i64 k ∧ Hid (∀ (i : Nat) (x : OrderT), i < k → l[i]? = some x → ordB x = true) ∧ Hid (Below w.heap.size w wr)) (fun j _ => l.length - (intOf j).toNat)
  case atStart => exact ⟨0, by omega, rfl, Lib.hid (fun i x hi => by omega), Lib.hid (by repeat (first | exact Below.refl _ _ | refine Below.setCell ?_ (by first | (simp; done) | (simp; omega) | omega) _ | refine Below.alloc ?_ (by first | (simp; done) | (simp; omega) | omega) _ | refine Below.drew ?_ | assumption | refine Below.trans ?_ (Below.mono (by assumption) (by first | (simp; done) | (simp; omega) | omega))))⟩
  case round =>
    obtain ⟨k, hk, rfl, HA, HB⟩ := hrel
    obtain ⟨wo, rfl⟩ : ∃ wo : World, wo = wr := ⟨_, rfl⟩
    by_cases hlt : k < l.length
    · have hlt' : (k : Int) < (l.length : Int) := by omega
      obtain ⟨x, hx⟩ : ∃ x, l[k]? = some x := ⟨_, List.getElem?_eq_getElem hlt⟩
      obtain ⟨b, off, rfl, hb, c0, c1⟩ := (HT.out.below HB.out) k x hx
      have NX := Lib.hid (fun W => NO.out x (HS.out x (List.mem_of_getElem? hx)) W)
      have hso := HB.out.size
      have AN := Lib.hid (fun (h : ordB x = false) => all_no (P := ordB) hx h)
      have AY := Lib.hid (fun (h : ordB x = true) => show ∀ (i : Nat) (y : OrderT), i < k + 1 → l[i]? = some y → ordB y = true from fun i y hi hy => by
        rcases Nat.lt_or_ge i k with h2 | h2
        · exact HA.out i y h2 hy
        · obtain rfl : i = k := by omega
          rw [hx] at hy; injection hy with hy; rw [← hy]; exact h)
      clear hx
      cases hp : ordB x with
      | false =>
        rw [hp] at NX
        have AN' := AN.out hp
        clear AN AY hp
        go_wp2_with (first | (go_at_call 43; (with_reducible refine (NX.out _).mono ?_); rintro e w4 ⟨rfl, hb4⟩))
        exact HQ.out _ _ (by rw [AN']; simp) (by omega) (by repeat (first | exact Below.refl _ _ | refine Below.setCell ?_ (by first | (simp; done) | (simp; omega) | omega) _ | refine Below.alloc ?_ (by first | (simp; done) | (simp; omega) | omega) _ | refine Below.drew ?_ | assumption | refine Below.trans ?_ (Below.mono (by assumption) (by first | (simp; done) | (simp; omega) | omega))))
      | true =>
        rw [hp] at NX
        have HAY := Lib.hid (AY.out hp)
        clear AN AY hp
        go_wp2_with (first | (go_at_call 43; (with_reducible refine (NX.out _).mono ?_); rintro e w4 ⟨rfl, hb4⟩))
        go_roundw
        case rel => exact ⟨k + 1, by omega, by go_num, HAY, Lib.hid (by repeat (first | exact Below.refl _ _ | refine Below.setCell ?_ (by first | (simp; done) | (simp; omega) | omega) _ | refine Below.alloc ?_ (by first | (simp; done) | (simp; omega) | omega) _ | refine Below.drew ?_ | assumption | refine Below.trans ?_ (Below.mono (by assumption) (by first | (simp; done) | (simp; omega) | omega))))⟩
        case measure => first | (simp [intOf]; done) | (simp [intOf]; omega)
    · obtain rfl : k = l.length := by omega
      have hkk : ¬ (l.length : Int) < (l.length : Int) := by omega
      have hall := all_yes (P := ordB) HA.out
      go_wp2
      exact HQ.out _ _ (by rw [hall]; simp) (by omega) HB.out
set_option maxHeartbeats 4000000 in
theorem anyO (A : Option Addr) (c : Nat) (l : List (OrderT)) (hn : l.length ≤ 1000000000000000) (hs : ∀ x ∈ l, x.col.length ≤ 9223372036854775807) (w : World) (T : OrL w A l) :
    Calls Tryz.prog 42 #[.slice A l.length c, .func (.func 43) #[] #[]] w fun e w' => e = .returned (.bool (!l.all ordB)) ∧ Below w.heap.size w w' := by
  have IX := Lib.hid (idxO_any A c l hn hs w T)
  clear T hs
  generalize l.all ordB = b at *
  go_enter Tryz.func42, Tryz.ntmps42
  go_wp2_with (first | (go_at_call 88; (with_reducible refine (IX.out).mono ?_); rintro e w4 ⟨⟨z, rfl, hz, hz2⟩, hb4⟩))
  go_ret
  exact ⟨by rw [← hz]; rfl, hb4⟩
end Go.Proofs.YtijlifdbjhieaaaGreatDoor
