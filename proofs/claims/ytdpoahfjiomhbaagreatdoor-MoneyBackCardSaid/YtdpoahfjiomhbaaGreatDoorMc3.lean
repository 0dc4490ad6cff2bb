/-
  Contracts of money.first of two, pair, Cmp, Neg.
-/
import Derived.Test.YtdpoahfjiomhbaaGreatDoorMc2
namespace Go.Proofs.YtdpoahfjiomhbaaGreatDoor
set_option linter.all false
open Go.RowKit Go.Sort
attribute [local go_sem] cell_set_self lt_1 lt_2 lt_3 lt_4 lt_5 lt_6

def fstE (x y : Int) : Int := if x = 0 then y else x
set_option maxHeartbeats 2000000 in
set_option maxRecDepth 100000 in
theorem first2_any (x y : Int) (b : Nat) (w : World) (hb : b < w.heap.size) (h0 : w.cell? ⟨b, 0, none⟩ = some (.int .i64 x)) (h1 : w.cell? ⟨b, 1, none⟩ = some (.int .i64 y)) :
    Calls Tryz.prog 131 #[.slice (some ⟨b, 0, none⟩) 2 2] w fun e w' => e = .returned (.int .i64 (fstE x y)) ∧ Below w.heap.size w w' := by
  have C0 := Lib.hid (fun W (hB : Below w.heap.size w W) => (hB.cell (p := ⟨b, 0, none⟩) hb).trans h0)
  have C1 := Lib.hid (fun W (hB : Below w.heap.size w W) => (hB.cell (p := ⟨b, 1, none⟩) hb).trans h1)
  clear h0 h1
  go_enter Tryz.func131, Tryz.ntmps131
  go_wp2
  go_loopw [7] (fun i wr => ∃ k : Nat, k ≤ 2 ∧ i = .int .i64 k ∧ Hid ((1 ≤ k → x = 0) ∧ (k = 2 → y = 0)) ∧ Below w.heap.size w wr) (fun i _ => 2 - (intOf i).toNat)
  case atStart => exact ⟨0, by omega, rfl, Lib.hid ⟨fun h => by omega, fun h => by omega⟩, (by repeat (first | exact Below.refl _ _ | refine Below.setCell ?_ (by first | (simp; done) | (simp; omega) | omega) _ | refine Below.alloc ?_ (by first | (simp; done) | (simp; omega) | omega) _ | refine Below.drew ?_ | assumption | refine Below.trans ?_ (Below.mono (by assumption) (by first | (simp; done) | (simp; omega) | omega))))⟩
  case round =>
    obtain ⟨k, hk, rfl, HK, hB⟩ := hrel
    obtain ⟨wo, rfl⟩ : ∃ wo : World, wo = wr := ⟨_, rfl⟩
    have hsl := hB.size
    have q0 := C0.out wo hB
    have q1 := C1.out wo hB
    have hbw : b < wo.heap.size := by omega
    match k, hk, HK with
    | 0, _, HK =>
      by_cases hx : x = 0
      · subst hx
        go_wp2
        go_roundw
        case rel => exact ⟨1, by omega, by go_num, Lib.hid (by first | (exact ⟨by simp, by simp⟩) | (exact ⟨by simp, fun h => by omega⟩)), (by repeat (first | exact Below.refl _ _ | refine Below.setCell ?_ (by first | (simp; done) | (simp; omega) | omega) _ | refine Below.alloc ?_ (by first | (simp; done) | (simp; omega) | omega) _ | refine Below.drew ?_ | assumption | refine Below.trans ?_ (Below.mono (by assumption) (by first | (simp; done) | (simp; omega) | omega))))⟩
        case measure => first | (simp [intOf]; done) | (simp [intOf]; omega)
      · have x0 : (x != 0) = true := by simpa using hx
        have E := Lib.hid (show fstE x y = x by unfold fstE; rw [if_neg hx])
        clear hx
        go_wp2
        go_ret
        exact ⟨ret_i1 E.out, (by repeat (first | exact Below.refl _ _ | refine Below.setCell ?_ (by first | (simp; done) | (simp; omega) | omega) _ | refine Below.alloc ?_ (by first | (simp; done) | (simp; omega) | omega) _ | refine Below.drew ?_ | assumption | refine Below.trans ?_ (Below.mono (by assumption) (by first | (simp; done) | (simp; omega) | omega))))⟩
    | 1, _, HK =>
      have hx := HK.out.1 (by omega)
      subst hx
      by_cases hy : y = 0
      · subst hy
        go_wp2
        go_roundw
        case rel => exact ⟨2, by omega, by go_num, Lib.hid ⟨by simp, by simp⟩, (by repeat (first | exact Below.refl _ _ | refine Below.setCell ?_ (by first | (simp; done) | (simp; omega) | omega) _ | refine Below.alloc ?_ (by first | (simp; done) | (simp; omega) | omega) _ | refine Below.drew ?_ | assumption | refine Below.trans ?_ (Below.mono (by assumption) (by first | (simp; done) | (simp; omega) | omega))))⟩
        case measure => first | (simp [intOf]; done) | (simp [intOf]; omega)
      · have x0 : (y != 0) = true := by simpa using hy
        have E := Lib.hid (show fstE 0 y = y by unfold fstE; rw [if_pos rfl])
        clear hy
        go_wp2
        go_ret
        exact ⟨ret_i1 E.out, (by repeat (first | exact Below.refl _ _ | refine Below.setCell ?_ (by first | (simp; done) | (simp; omega) | omega) _ | refine Below.alloc ?_ (by first | (simp; done) | (simp; omega) | omega) _ | refine Below.drew ?_ | assumption | refine Below.trans ?_ (Below.mono (by assumption) (by first | (simp; done) | (simp; omega) | omega))))⟩
    | 2, _, HK =>
      have hx := HK.out.1 (by omega)
      have hy := HK.out.2 rfl
      subst hx hy
      go_wp2
      go_ret
      exact ⟨rfl, (by repeat (first | exact Below.refl _ _ | refine Below.setCell ?_ (by first | (simp; done) | (simp; omega) | omega) _ | refine Below.alloc ?_ (by first | (simp; done) | (simp; omega) | omega) _ | refine Below.drew ?_ | assumption | refine Below.trans ?_ (Below.mono (by assumption) (by first | (simp; done) | (simp; omega) | omega))))⟩

/-- The error of two amounts. -/
def pairE (u : Int) (c : List UInt8) (v : Int) (d : List UInt8) : Int := if fstE (amE u c) (amE v d) = 0 then (if c = d then 0 else 18) else fstE (amE u c) (amE v d)
theorem str_bne (a b : List UInt8) : ((⟨a.toArray⟩ : ByteArray).toList != (⟨b.toArray⟩ : ByteArray).toList) = !decide (a = b) := by
  rw [← str_beq]; rfl
set_option maxHeartbeats 4000000 in
set_option maxRecDepth 100000 in
theorem pair_any (u : Int) (c : List UInt8) (v : Int) (d : List UInt8) (w : World) : Calls Tryz.prog 91 #[.agg #[.int .i64 u, .string ⟨c.toArray⟩], .agg #[.int .i64 v, .string ⟨d.toArray⟩]] w fun e w' => e = .returned (.int .i64 (pairE u c v d)) ∧ Below w.heap.size w w' := by
  have C1 := Lib.hid (fun W => mcheck_any u c W)
  have C2 := Lib.hid (fun W => mcheck_any v d W)
  have F2 := Lib.hid (fun b W hb h0 h1 => first2_any (amE u c) (amE v d) b W hb h0 h1)
  have hE := str_beq c d
  have hcs : (fstE (amE u c) (amE v d) = 0 ∧ decide (c = d) = true ∧ pairE u c v d = 0) ∨ (fstE (amE u c) (amE v d) = 0 ∧ decide (c = d) = false ∧ pairE u c v d = 18) ∨ (fstE (amE u c) (amE v d) ≠ 0 ∧ pairE u c v d = fstE (amE u c) (amE v d)) := by
    unfold pairE
    by_cases h : fstE (amE u c) (amE v d) = 0
    · rw [if_pos h]
      by_cases hcd : c = d
      · left; rw [if_pos hcd]; exact ⟨h, decide_eq_true hcd, rfl⟩
      · right; left; rw [if_neg hcd]; exact ⟨h, decide_eq_false hcd, rfl⟩
    · rw [if_neg h]; right; right; exact ⟨h, rfl⟩
  generalize pairE u c v d = pe at *
  generalize fstE (amE u c) (amE v d) = fe at *
  generalize amE u c = x at *
  generalize amE v d = y at *
  generalize decide (c = d) = cd at *
  generalize (⟨c.toArray⟩ : ByteArray) = C at *
  generalize (⟨d.toArray⟩ : ByteArray) = D at *
  rcases hcs with ⟨rfl, rfl, rfl⟩ | ⟨rfl, rfl, rfl⟩ | ⟨h, rfl⟩
  all_goals
    (try have x0 : (pe == 0) = false := by simpa using h)
    go_enter Tryz.func91, Tryz.ntmps91
    go_wp2
    go_region_held3 (fun w' => w'.cell? ⟨w.heap.size, 0, none⟩ = some (.int .i64 u) ∧ w'.cell? ⟨w.heap.size, 1, none⟩ = some (.string C) ∧ w'.cell? ⟨w.heap.size + 1, 0, none⟩ = some (.int .i64 v) ∧ w'.cell? ⟨w.heap.size + 1, 1, none⟩ = some (.string D) ∧ w.heap.size < w'.heap.size ∧ w.heap.size + 1 < w'.heap.size ∧ Below w.heap.size w w')
      (first | (refine ⟨?_, ?_, ?_, ?_, ?_, ?_, ?_⟩ <;> first | (simp [go_sem, *]; done) | omega | (simp; omega) | exact (by repeat (first | exact Below.refl _ _ | refine Below.setCell ?_ (by first | (simp; done) | (simp; omega) | omega) _ | refine Below.alloc ?_ (by first | (simp; done) | (simp; omega) | omega) _ | refine Below.drew ?_ | assumption | refine Below.trans ?_ (Below.mono (by assumption) (by first | (simp; done) | (simp; omega) | omega))))))
      (first | (first
      | (go_at_call 67; (with_reducible refine (C1.out _).mono ?_); rintro e w3 ⟨rfl, hb3⟩; obtain ⟨hc3, hf3⟩ := bcell hb3; (try simp only [drew_sizeM, drew_cellM, drew_frozenM] at hc3 hf3); have hs3 := hb3.size; (try simp at hs3); have hz3 : w.heap.size < w3.heap.size ∧ w.heap.size + 1 < w3.heap.size := (by omega))
      | (go_at_call 67; (with_reducible refine (C2.out _).mono ?_); rintro e w4 ⟨rfl, hb4⟩; obtain ⟨hc4, hf4⟩ := bcell hb4; (try simp only [drew_sizeM, drew_cellM, drew_frozenM] at hc4 hf4); have hs4 := hb4.size; (try simp at hs4); have hz4 : w.heap.size < w4.heap.size ∧ w.heap.size + 1 < w4.heap.size := (by omega))
      | (go_at_call 131; (refine (F2.out _ _ (by simp) (by simp [go_sem]) (by simp [go_sem])).mono ?_); rintro e w5 ⟨rfl, hb5⟩; obtain ⟨hc5, hf5⟩ := bcell hb5; (try simp only [drew_sizeM, drew_cellM, drew_frozenM] at hc5 hf5); have hs5 := hb5.size; (try simp at hs5); have hz5 : w.heap.size < w5.heap.size ∧ w.heap.size + 1 < w5.heap.size := (by omega))))
    go_wp2
    go_ret
    exact ⟨rfl, (by repeat (first | exact Below.refl _ _ | refine Below.setCell ?_ (by first | (simp; done) | (simp; omega) | omega) _ | refine Below.alloc ?_ (by first | (simp; done) | (simp; omega) | omega) _ | refine Below.drew ?_ | assumption | refine Below.trans ?_ (Below.mono (by assumption) (by first | (simp; done) | (simp; omega) | omega))))⟩
end Go.Proofs.YtdpoahfjiomhbaaGreatDoor
