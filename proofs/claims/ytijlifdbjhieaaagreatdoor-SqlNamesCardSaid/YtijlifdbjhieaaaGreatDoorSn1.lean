/-
  Schemas in memory; slices.IndexFunc as sql.Check and typeOf call it. (Printed by tools/mksn1.py.)
-/
import Derived.Test.YtijlifdbjhieaaaGreatDoorSw1
namespace Go.Proofs.YtijlifdbjhieaaaGreatDoor
set_option linter.all false
open Go.RowKit Go.Shelf
attribute [local go_sem] cell_set_self lt_1 lt_2 lt_3 lt_4 lt_5 lt_6

structure ColT where
  name : List UInt8
  ty : Int
structure SchT where
  table : List UInt8
  cols : List ColT
  key : List (List UInt8)
/-- Columns in memory. -/
def ClL (w : World) (A : Option Addr) (l : List ColT) : Prop := ∀ (i : Nat) (x : ColT), l[i]? = some x → ∃ b off, A = some ⟨b, off, none⟩ ∧ b < w.heap.size ∧ w.cell? ⟨b, off + i * 2, none⟩ = some (.string ⟨x.name.toArray⟩) ∧ w.cell? ⟨b, off + i * 2 + 1, none⟩ = some (.int .i64 x.ty)
theorem ClL.below {w W : World} {A : Option Addr} {l : List ColT} (h : ClL w A l) (hb : Below w.heap.size w W) : ClL W A l := fun i x hi => by
  obtain ⟨b, off, h1, h2, h3, h4⟩ := h i x hi
  exact ⟨b, off, h1, Nat.lt_of_lt_of_le h2 hb.size, (hb.cell (p := ⟨b, off + i * 2, none⟩) h2).trans h3, (hb.cell (p := ⟨b, off + i * 2 + 1, none⟩) h2).trans h4⟩
/-- A schema in memory. -/
structure SchV (w : World) (s : SchT) (A1 : Option Addr) (c1 : Nat) (A2 : Option Addr) (c2 : Nat) : Prop where
  cl : ClL w A1 s.cols
  ky : Strs w A2 s.key
  h1 : s.cols.length ≤ c1 ∧ (A1 = none → c1 = 0)
  h2 : s.key.length ≤ c2 ∧ (A2 = none → c2 = 0)
theorem SchV.below {w W : World} {s : SchT} {A1 A2 : Option Addr} {c1 c2 : Nat} (h : SchV w s A1 c1 A2 c2) (hb : Below w.heap.size w W) : SchV W s A1 c1 A2 c2 := ⟨h.cl.below hb, h.ky.below hb, h.h1, h.h2⟩
def ScL (w : World) (A : Option Addr) (l : List SchT) : Prop := ∀ (i : Nat) (s : SchT), l[i]? = some s → ∃ b off A1 c1 A2 c2, A = some ⟨b, off, none⟩ ∧ b < w.heap.size ∧ w.cell? ⟨b, off + i * 3, none⟩ = some (.string ⟨s.table.toArray⟩) ∧ w.cell? ⟨b, off + i * 3 + 1, none⟩ = some (.slice A1 s.cols.length c1) ∧ w.cell? ⟨b, off + i * 3 + 2, none⟩ = some (.slice A2 s.key.length c2) ∧ SchV w s A1 c1 A2 c2
theorem ScL.below {w W : World} {A : Option Addr} {l : List SchT} (h : ScL w A l) (hb : Below w.heap.size w W) : ScL W A l := fun i x hi => by
  obtain ⟨b, off, A1, c1, A2, c2, h1, h2, h3, h4, h5, h6⟩ := h i x hi
  exact ⟨b, off, A1, c1, A2, c2, h1, Nat.lt_of_lt_of_le h2 hb.size, (hb.cell (p := ⟨b, off + i * 3, none⟩) h2).trans h3, (hb.cell (p := ⟨b, off + i * 3 + 1, none⟩) h2).trans h4, (hb.cell (p := ⟨b, off + i * 3 + 2, none⟩) h2).trans h5, h6.below hb⟩
/-- The first place where p holds; below 0: there is none. -/
def idxF {α : Type} (p : α → Bool) : Nat → List α → Int
  | _, [] => -1
  | i, x :: l => if p x = true then (i : Int) else idxF p (i + 1) l
theorem idxF_drop {α : Type} {p : α → Bool} : ∀ {l : List α} {n i : Nat}, i ≤ l.length → (∀ (j : Nat) (x : α), j < i → l[j]? = some x → p x = false) → idxF p n l = idxF p (n + i) (l.drop i)
  | l, n, 0, _, _ => rfl
  | [], n, i + 1, h, _ => by simp at h
  | x :: l, n, i + 1, h, hp => by
    have h0 := hp 0 x (by omega) rfl
    rw [idxF, if_neg (by rw [h0]; decide), idxF_drop (l := l) (n := n + 1) (i := i) (by simpa using h) fun j y hj hy => hp (j + 1) y (by omega) (by simpa using hy)]
    rw [show n + 1 + i = n + (i + 1) by omega]; rfl
theorem idxF_at {α : Type} {p : α → Bool} {l : List α} {k : Nat} {x : α} (hb : ∀ (j : Nat) (x : α), j < k → l[j]? = some x → p x = false) (hx : l[k]? = some x) (hp : p x = true) : idxF p 0 l = (k : Int) := by
  have hk := (List.getElem?_eq_some_iff.1 hx).1
  rw [idxF_drop (Nat.le_of_lt hk) hb, List.drop_eq_getElem_cons hk]
  have := List.getElem?_eq_getElem hk
  rw [hx] at this; injection this with this
  rw [idxF, if_pos (by rw [← this]; exact hp), Nat.zero_add]
theorem idxF_none {α : Type} {p : α → Bool} {l : List α} (hb : ∀ (j : Nat) (x : α), j < l.length → l[j]? = some x → p x = false) : idxF p 0 l = -1 := by
  rw [idxF_drop (Nat.le_refl _) hb, List.drop_length, idxF]
theorem idxF_some {α : Type} {p : α → Bool} : ∀ {l : List α} {n : Nat}, 0 ≤ idxF p n l → ∃ k x, idxF p n l = ((n + k : Nat) : Int) ∧ l[k]? = some x ∧ p x = true ∧ ∀ (j : Nat) (y : α), j < k → l[j]? = some y → p y = false
  | [], n, h => by simp [idxF] at h
  | x :: l, n, h => by
    by_cases hp : p x = true
    · exact ⟨0, x, by rw [idxF, if_pos hp]; rfl, rfl, hp, fun j y hj => by omega⟩
    · rw [idxF, if_neg hp] at h ⊢
      obtain ⟨k, y, h1, h2, h3, h4⟩ := idxF_some h
      refine ⟨k + 1, y, by rw [h1]; congr 1; omega, h2, h3, fun j z hj hz => ?_⟩
      cases j with
      | zero => simp at hz; subst hz; simpa using hp
      | succ j => exact h4 j z (by omega) (by simpa using hz)
theorem idxF_neg {α : Type} {p : α → Bool} {l : List α} {n : Nat} (h : idxF p n l < 0) : idxF p n l = -1 ∧ ∀ x ∈ l, p x = false := by
  induction l generalizing n with
  | nil => exact ⟨rfl, fun x hx => by cases hx⟩
  | cons x l ih =>
    rw [idxF] at h ⊢
    split at h
    · omega
    · rename_i hp
      rw [if_neg hp]
      obtain ⟨h1, h2⟩ := ih h
      exact ⟨h1, fun y hy => by rcases List.mem_cons.1 hy with rfl | hy; simpa using hp; exact h2 y hy⟩
def isTab (T : List UInt8) (s : SchT) : Bool := decide (s.table = T)
def isCol (N : List UInt8) (c : ColT) : Bool := decide (c.name = N)
set_option maxHeartbeats 4000000 in
set_option maxRecDepth 100000 in
theorem sch1_any (T : List UInt8) (qb : Nat) (s : SchT) (A1 : Option Addr) (c1 : Nat) (A2 : Option Addr) (c2 : Nat) (w : World) (hqb : qb < w.heap.size) (hq : w.cell? ⟨qb, 1, none⟩ = some (.string ⟨T.toArray⟩)) :
    Calls Tryz.prog 73 #[.agg #[.string ⟨s.table.toArray⟩, .slice A1 s.cols.length c1, .slice A2 s.key.length c2], .pointer (some ⟨qb, 0, none⟩)] w fun e w' => e = .returned (.bool (isTab T s)) ∧ Below w.heap.size w w' := by
  have SB := str_beq s.table T
  unfold isTab
  generalize decide (s.table = T) = r at *
  generalize (⟨s.table.toArray⟩ : ByteArray) = X at *
  generalize (⟨T.toArray⟩ : ByteArray) = Y at *
  go_enter Tryz.func73, Tryz.ntmps73
  go_wp2_with (fail)
  go_ret
  exact ⟨rfl, (by repeat (first | exact Below.refl _ _ | refine Below.setCell ?_ (by first | (simp; done) | (simp; omega) | omega) _ | refine Below.alloc ?_ (by first | (simp; done) | (simp; omega) | omega) _ | refine Below.drew ?_ | assumption | refine Below.trans ?_ (Below.mono (by assumption) (by first | (simp; done) | (simp; omega) | omega))))⟩
set_option maxHeartbeats 4000000 in
set_option maxRecDepth 100000 in
theorem col1_any (T : List UInt8) (qb : Nat) (s : ColT) (w : World) (hqb : qb < w.heap.size) (hq : w.cell? ⟨qb, 0, none⟩ = some (.string ⟨T.toArray⟩)) :
    Calls Tryz.prog 82 #[.agg #[.string ⟨s.name.toArray⟩, .int .i64 s.ty], .pointer (some ⟨qb, 0, none⟩)] w fun e w' => e = .returned (.bool (isCol T s)) ∧ Below w.heap.size w w' := by
  have SB := str_beq s.name T
  unfold isCol
  generalize decide (s.name = T) = r at *
  generalize (⟨s.name.toArray⟩ : ByteArray) = X at *
  generalize (⟨T.toArray⟩ : ByteArray) = Y at *
  go_enter Tryz.func82, Tryz.ntmps82
  go_wp2_with (fail)
  go_ret
  exact ⟨rfl, (by repeat (first | exact Below.refl _ _ | refine Below.setCell ?_ (by first | (simp; done) | (simp; omega) | omega) _ | refine Below.alloc ?_ (by first | (simp; done) | (simp; omega) | omega) _ | refine Below.drew ?_ | assumption | refine Below.trans ?_ (Below.mono (by assumption) (by first | (simp; done) | (simp; omega) | omega))))⟩
set_option maxHeartbeats 4000000 in
set_option maxRecDepth 100000 in
theorem idxS_at (A : Option Addr) (c : Nat) (l : List (SchT)) (hn : l.length ≤ 1000000000000000) (T : List UInt8) (qb : Nat) (w : World) (TL : ScL w A l) (hqb : qb < w.heap.size) (hq : w.cell? ⟨qb, 1, none⟩ = some (.string ⟨T.toArray⟩)) :
    Calls Tryz.prog 72 #[.slice A l.length c, .func (.func 73) #[] #[.pointer (some ⟨qb, 0, none⟩)]] w fun e w' => e = .returned (.int .i64 (idxF (isTab T) 0 l)) ∧ Below w.heap.size w w' := by
  suffices key : ∀ Q : Ending → World → Prop, Hid (∀ (z : Int) w', z = idxF (isTab T) 0 l → Below w.heap.size w w' → Q (.returned (.int .i64 z)) w') → Calls Tryz.prog 72 #[.slice A l.length c, .func (.func 73) #[] #[.pointer (some ⟨qb, 0, none⟩)]] w Q from key _ (Lib.hid fun z w' h h' => ⟨by rw [h], h'⟩)
  intro Q HQ
  have HT := Lib.hid TL
  have HC := Lib.hid (fun W (hb : Below w.heap.size w W) => (hb.cell (p := ⟨qb, 1, none⟩) hqb).trans hq)
  clear TL hq
  go_enter Tryz.func72, Tryz.ntmps72
  go_wp2_with (fail)
  go_loopw [8] (fun j wr => ∃ k : Nat, k ≤ l.length ∧ j = .int .i64 k ∧ Hid (∀ (i : Nat) (x : SchT), i < k → l[i]? = some x → isTab T x = false) ∧ Hid (Below w.heap.size w wr)) (fun j _ => l.length - (intOf j).toNat)
  case atStart => exact ⟨0, by omega, rfl, Lib.hid (fun i x hi => by omega), Lib.hid (by repeat (first | exact Below.refl _ _ | refine Below.setCell ?_ (by first | (simp; done) | (simp; omega) | omega) _ | refine Below.alloc ?_ (by first | (simp; done) | (simp; omega) | omega) _ | refine Below.drew ?_ | assumption | refine Below.trans ?_ (Below.mono (by assumption) (by first | (simp; done) | (simp; omega) | omega))))⟩
  case round =>
    obtain ⟨k, hk, rfl, HA, HB⟩ := hrel
    obtain ⟨wo, rfl⟩ : ∃ wo : World, wo = wr := ⟨_, rfl⟩
    have hso := HB.out.size
    by_cases hlt : k < l.length
    · have hlt' : (k : Int) < (l.length : Int) := by omega
      obtain ⟨x, hx⟩ : ∃ x, l[k]? = some x := ⟨_, List.getElem?_eq_getElem hlt⟩
      obtain ⟨b, off, A1, c1, A2, c2, rfl, hb, k0, k1, k2, -⟩ := (HT.out.below HB.out) k x hx
      have NX := Lib.hid (fun W (hb : Below w.heap.size w W) => sch1_any T qb x A1 c1 A2 c2 W (Nat.lt_of_lt_of_le hqb hb.size) (HC.out W hb))
      have AN := Lib.hid (fun (h : isTab T x = true) => idxF_at (p := isTab T) HA.out hx h)
      have AY := Lib.hid (fun (h : isTab T x = false) => show ∀ (i : Nat) (y : SchT), i < k + 1 → l[i]? = some y → isTab T y = false from fun i y hi hy => by
        rcases Nat.lt_or_ge i k with h2 | h2
        · exact HA.out i y h2 hy
        · obtain rfl : i = k := by omega
          rw [hx] at hy; injection hy with hy; rw [← hy]; exact h)
      clear hx
      cases hp : isTab T x with
      | true =>
        rw [hp] at NX
        have AN' := Lib.hid (AN.out hp)
        clear AN AY hp
        obtain ⟨xt, xcs, xk⟩ := x
        dsimp only at NX k0 k1 k2
        go_wp2_with (first | (go_at_call 73; (with_reducible refine (NX.out _ HB.out).mono ?_); rintro e w4 ⟨rfl, hb4⟩))
        exact HQ.out _ _ AN'.out.symm (by repeat (first | exact Below.refl _ _ | refine Below.setCell ?_ (by first | (simp; done) | (simp; omega) | omega) _ | refine Below.alloc ?_ (by first | (simp; done) | (simp; omega) | omega) _ | refine Below.drew ?_ | assumption | refine Below.trans ?_ (Below.mono (by assumption) (by first | (simp; done) | (simp; omega) | omega))))
      | false =>
        rw [hp] at NX
        have HAY := Lib.hid (AY.out hp)
        clear AN AY hp
        obtain ⟨xt, xcs, xk⟩ := x
        dsimp only at NX k0 k1 k2
        go_wp2_with (first | (go_at_call 73; (with_reducible refine (NX.out _ HB.out).mono ?_); rintro e w4 ⟨rfl, hb4⟩))
        go_roundw
        case rel => exact ⟨k + 1, by omega, by go_num, HAY, Lib.hid (by repeat (first | exact Below.refl _ _ | refine Below.setCell ?_ (by first | (simp; done) | (simp; omega) | omega) _ | refine Below.alloc ?_ (by first | (simp; done) | (simp; omega) | omega) _ | refine Below.drew ?_ | assumption | refine Below.trans ?_ (Below.mono (by assumption) (by first | (simp; done) | (simp; omega) | omega))))⟩
        case measure => first | (simp [intOf]; done) | (simp [intOf]; omega)
    · obtain rfl : k = l.length := by omega
      have hkk : ¬ (l.length : Int) < (l.length : Int) := by omega
      have hall := Lib.hid (idxF_none (p := isTab T) HA.out)
      go_wp2
      exact HQ.out _ _ hall.out.symm HB.out
set_option maxHeartbeats 4000000 in
set_option maxRecDepth 100000 in
theorem idxC_at (A : Option Addr) (c : Nat) (l : List (ColT)) (hn : l.length ≤ 1000000000000000) (T : List UInt8) (qb : Nat) (w : World) (TL : ClL w A l) (hqb : qb < w.heap.size) (hq : w.cell? ⟨qb, 0, none⟩ = some (.string ⟨T.toArray⟩)) :
    Calls Tryz.prog 81 #[.slice A l.length c, .func (.func 82) #[] #[.pointer (some ⟨qb, 0, none⟩)]] w fun e w' => e = .returned (.int .i64 (idxF (isCol T) 0 l)) ∧ Below w.heap.size w w' := by
  suffices key : ∀ Q : Ending → World → Prop, Hid (∀ (z : Int) w', z = idxF (isCol T) 0 l → Below w.heap.size w w' → Q (.returned (.int .i64 z)) w') → Calls Tryz.prog 81 #[.slice A l.length c, .func (.func 82) #[] #[.pointer (some ⟨qb, 0, none⟩)]] w Q from key _ (Lib.hid fun z w' h h' => ⟨by rw [h], h'⟩)
  intro Q HQ
  have HT := Lib.hid TL
  have HC := Lib.hid (fun W (hb : Below w.heap.size w W) => (hb.cell (p := ⟨qb, 0, none⟩) hqb).trans hq)
  clear TL hq
  go_enter Tryz.func81, Tryz.ntmps81
  go_wp2_with (fail)
  go_loopw [8] (fun j wr => ∃ k : Nat, k ≤ l.length ∧ j = .int .i64 k ∧ Hid (∀ (i : Nat) (x : ColT), i < k → l[i]? = some x → isCol T x = false) ∧ Hid (Below w.heap.size w wr)) (fun j _ => l.length - (intOf j).toNat)
  case atStart => exact ⟨0, by omega, rfl, Lib.hid (fun i x hi => by omega), Lib.hid (by repeat (first | exact Below.refl _ _ | refine Below.setCell ?_ (by first | (simp; done) | (simp; omega) | omega) _ | refine Below.alloc ?_ (by first | (simp; done) | (simp; omega) | omega) _ | refine Below.drew ?_ | assumption | refine Below.trans ?_ (Below.mono (by assumption) (by first | (simp; done) | (simp; omega) | omega))))⟩
  case round =>
    obtain ⟨k, hk, rfl, HA, HB⟩ := hrel
    obtain ⟨wo, rfl⟩ : ∃ wo : World, wo = wr := ⟨_, rfl⟩
    have hso := HB.out.size
    by_cases hlt : k < l.length
    · have hlt' : (k : Int) < (l.length : Int) := by omega
      obtain ⟨x, hx⟩ : ∃ x, l[k]? = some x := ⟨_, List.getElem?_eq_getElem hlt⟩
      obtain ⟨b, off, rfl, hb, k0, k1⟩ := (HT.out.below HB.out) k x hx
      have NX := Lib.hid (fun W (hb : Below w.heap.size w W) => col1_any T qb x W (Nat.lt_of_lt_of_le hqb hb.size) (HC.out W hb))
      have AN := Lib.hid (fun (h : isCol T x = true) => idxF_at (p := isCol T) HA.out hx h)
      have AY := Lib.hid (fun (h : isCol T x = false) => show ∀ (i : Nat) (y : ColT), i < k + 1 → l[i]? = some y → isCol T y = false from fun i y hi hy => by
        rcases Nat.lt_or_ge i k with h2 | h2
        · exact HA.out i y h2 hy
        · obtain rfl : i = k := by omega
          rw [hx] at hy; injection hy with hy; rw [← hy]; exact h)
      clear hx
      cases hp : isCol T x with
      | true =>
        rw [hp] at NX
        have AN' := Lib.hid (AN.out hp)
        clear AN AY hp
        obtain ⟨xn, xt⟩ := x
        dsimp only at NX k0 k1
        go_wp2_with (first | (go_at_call 82; (with_reducible refine (NX.out _ HB.out).mono ?_); rintro e w4 ⟨rfl, hb4⟩))
        exact HQ.out _ _ AN'.out.symm (by repeat (first | exact Below.refl _ _ | refine Below.setCell ?_ (by first | (simp; done) | (simp; omega) | omega) _ | refine Below.alloc ?_ (by first | (simp; done) | (simp; omega) | omega) _ | refine Below.drew ?_ | assumption | refine Below.trans ?_ (Below.mono (by assumption) (by first | (simp; done) | (simp; omega) | omega))))
      | false =>
        rw [hp] at NX
        have HAY := Lib.hid (AY.out hp)
        clear AN AY hp
        obtain ⟨xn, xt⟩ := x
        dsimp only at NX k0 k1
        go_wp2_with (first | (go_at_call 82; (with_reducible refine (NX.out _ HB.out).mono ?_); rintro e w4 ⟨rfl, hb4⟩))
        go_roundw
        case rel => exact ⟨k + 1, by omega, by go_num, HAY, Lib.hid (by repeat (first | exact Below.refl _ _ | refine Below.setCell ?_ (by first | (simp; done) | (simp; omega) | omega) _ | refine Below.alloc ?_ (by first | (simp; done) | (simp; omega) | omega) _ | refine Below.drew ?_ | assumption | refine Below.trans ?_ (Below.mono (by assumption) (by first | (simp; done) | (simp; omega) | omega))))⟩
        case measure => first | (simp [intOf]; done) | (simp [intOf]; omega)
    · obtain rfl : k = l.length := by omega
      have hkk : ¬ (l.length : Int) < (l.length : Int) := by omega
      have hall := Lib.hid (idxF_none (p := isCol T) HA.out)
      go_wp2
      exact HQ.out _ _ hall.out.symm HB.out
end Go.Proofs.YtijlifdbjhieaaaGreatDoor
