/-
  Contract of exlaw14.Tiers.
-/
import Derived.Test.YtdpoahfjiomhbaaGreatDoorBw14
import Derived.Test.YtdpoahfjiomhbaaGreatDoorTk6
import Derived.Test.YtdpoahfjiomhbaaGreatDoorTp2
import Derived.Test.YtdpoahfjiomhbaaGreatDoorBw6

/-
  Contracts of exref14's Check, Volume, Flat, Percent, Prorate.
-/
namespace Go.Proofs.YtdpoahfjiomhbaaGreatDoor
set_option linter.all false
open Go.RowKit Go.Sort
attribute [local go_sem] cell_set_self lt_1 lt_2 lt_3 lt_4 lt_5 lt_6

set_option maxHeartbeats 4000000 in
set_option maxRecDepth 100000 in
theorem check14_any (A : Option Addr) (n c : Nat) (l : List (Int × Int)) (hl : l.length = n) (hn : n ≤ 1000000) (w : World) (T : Tiers w A l) :
    Calls Tryz.prog 58 #[.slice A n c] w fun e w' => e = .returned (.int .i64 (checkT l)) ∧ Below w.heap.size w w' := by
  by_cases h0 : n = 0
  · subst h0
    have e : checkT l = 9 := by unfold checkT; rw [if_pos (.inl hl)]
    rw [e]
    clear e hl
    go_enter Tryz.func58, Tryz.ntmps58
    go_wp2
    go_ret
    exact ⟨rfl, (by repeat (first | exact Below.refl _ _ | refine Below.setCell ?_ (by first | (simp; done) | (simp; omega) | omega) _ | refine Below.alloc ?_ (by first | (simp; done) | (simp; omega) | omega) _ | refine Below.drew ?_ | assumption | refine Below.trans ?_ (Below.mono (by assumption) (by first | (simp; done) | (simp; omega) | omega))))⟩
  by_cases h20 : 20 < n
  · have e : checkT l = 9 := by unfold checkT; rw [if_pos (.inr (by omega))]
    rw [e]
    clear e
    have hd0 : ((n : Int) == 0) = false := by simp; omega
    go_enter Tryz.func58, Tryz.ntmps58
    go_wp2
    go_ret
    exact ⟨rfl, (by repeat (first | exact Below.refl _ _ | refine Below.setCell ?_ (by first | (simp; done) | (simp; omega) | omega) _ | refine Below.alloc ?_ (by first | (simp; done) | (simp; omega) | omega) _ | refine Below.drew ?_ | assumption | refine Below.trans ?_ (Below.mono (by assumption) (by first | (simp; done) | (simp; omega) | omega))))⟩
  obtain ⟨b, off, rfl⟩ : ∃ b off, A = some ⟨b, off, none⟩ := by
    obtain ⟨b, off, h, _⟩ := T 0 (l[0]'(by omega)) (by simp)
    exact ⟨b, off, h⟩
  have hd0 : ((n : Int) == 0) = false := by simp; omega
  have hd1 : decide (20 < (n : Int)) = false := by simp; omega
  have L1 := Lib.hid (show l.length ≠ 0 by omega); have L2 := Lib.hid (show l.length ≤ 20 by omega); have HL := Lib.hid hl
  clear hl
  go_enter Tryz.func58, Tryz.ntmps58
  go_wp2
  go_loopw [3, 4] (fun a i wr => ∃ (k : Nat) (ah : Int), k < n ∧ i = .int .i64 k ∧ a = .int .i64 ah ∧ okFrom ah (l.drop k) = okFrom 0 l ∧ Below w.heap.size w wr) (fun _ i _ => n - (intOf i).toNat)
  case atStart => exact ⟨0, 0, by omega, rfl, rfl, rfl, (by repeat (first | exact Below.refl _ _ | refine Below.setCell ?_ (by first | (simp; done) | (simp; omega) | omega) _ | refine Below.alloc ?_ (by first | (simp; done) | (simp; omega) | omega) _ | refine Below.drew ?_ | assumption | refine Below.trans ?_ (Below.mono (by assumption) (by first | (simp; done) | (simp; omega) | omega))))⟩
  case round =>
    obtain ⟨k, ah, hlt, rfl, rfl, hok, hB⟩ := hrel
    have Hok := Lib.hid hok
    clear hok
    have hg : l[k]? = some (l[k]'(by have := HL.out; omega)) := List.getElem?_eq_getElem _
    obtain ⟨⟨u, p⟩, hup⟩ : ∃ t, t = (l[k]'(by have := HL.out; omega)) := ⟨_, rfl⟩
    rw [← hup] at hg
    obtain ⟨b', off', hA, hbs, hc0, hc1⟩ := T k (u, p) hg
    injection hA with hA; injection hA with hb ho; subst hb; subst ho
    have q0 := (hB.cell (p := ⟨b, off + k * 2, none⟩) hbs).trans hc0
    have q1 := (hB.cell (p := ⟨b, off + k * 2 + 1, none⟩) hbs).trans hc1
    have hsz := hB.size
    have Hg := Lib.hid hg
    clear hg hup hc0 hc1 T
    by_cases hlast : k + 1 = n
    · have d1 : ((k : Int) == (n : Int) - 1) = true := by simp; omega
      by_cases good : u = 0 ∧ 0 ≤ p ∧ p ≤ 1125899906842624
      · have g := chk_last_good Hg.out (by rw [HL.out]; exact hlast) Hok.out good
        have g2 : checkT l = 0 := chk_0 L1.out L2.out (by rw [← g, List.drop_of_length_le (by rw [HL.out]; omega)]; rfl)
        have G := Lib.hid g2; clear g g2
        obtain ⟨g1, g2, g3⟩ := good
        subst g1
        clear hlast
        go_wp2
        go_ret
        exact ⟨ret_int G.out.symm, (by repeat (first | exact Below.refl _ _ | refine Below.setCell ?_ (by first | (simp; done) | (simp; omega) | omega) _ | refine Below.alloc ?_ (by first | (simp; done) | (simp; omega) | omega) _ | refine Below.drew ?_ | assumption | refine Below.trans ?_ (Below.mono (by assumption) (by first | (simp; done) | (simp; omega) | omega))))⟩
      · have g := chk_last_bad L1.out L2.out Hg.out (by rw [HL.out]; exact hlast) Hok.out good
        have G := Lib.hid g; clear g hlast
        rcases (show p < 0 ∨ 1125899906842624 < p ∨ (0 ≤ p ∧ p ≤ 1125899906842624 ∧ (u == 0) = false) by simp; omega) with f | f | ⟨f1, f2, f3⟩
        all_goals
          clear good
          go_wp2
          all_goals (go_ret; exact ⟨ret_int G.out.symm, (by repeat (first | exact Below.refl _ _ | refine Below.setCell ?_ (by first | (simp; done) | (simp; omega) | omega) _ | refine Below.alloc ?_ (by first | (simp; done) | (simp; omega) | omega) _ | refine Below.drew ?_ | assumption | refine Below.trans ?_ (Below.mono (by assumption) (by first | (simp; done) | (simp; omega) | omega))))⟩)
    · have d1 : ((k : Int) == (n : Int) - 1) = false := by simp; omega
      by_cases good : ah < u ∧ u ≤ 1125899906842624 ∧ 0 ≤ p ∧ p ≤ 1125899906842624
      · have g := chk_mid_good Hg.out (by rw [HL.out]; omega) Hok.out good
        have G := Lib.hid g; clear g
        obtain ⟨g1, g2, g3, g4⟩ := good
        go_wp2
        go_roundw
        case rel => exact ⟨k + 1, u, by omega, by go_num, rfl, G.out, (by repeat (first | exact Below.refl _ _ | refine Below.setCell ?_ (by first | (simp; done) | (simp; omega) | omega) _ | refine Below.alloc ?_ (by first | (simp; done) | (simp; omega) | omega) _ | refine Below.drew ?_ | assumption | refine Below.trans ?_ (Below.mono (by assumption) (by first | (simp; done) | (simp; omega) | omega))))⟩
        case measure => first | (simp [intOf]; done) | (simp [intOf]; omega)
      · have g := chk_mid_bad L1.out L2.out Hg.out (by rw [HL.out]; omega) Hok.out good
        have G := Lib.hid g; clear g
        rcases (show p < 0 ∨ 1125899906842624 < p ∨ (0 ≤ p ∧ p ≤ 1125899906842624 ∧ u ≤ ah) ∨ (0 ≤ p ∧ p ≤ 1125899906842624 ∧ ah < u ∧ 1125899906842624 < u) by omega) with f | f | ⟨f1, f2, f3⟩ | ⟨f1, f2, f3, f4⟩
        all_goals
          clear good
          go_wp2
          all_goals (go_ret; exact ⟨ret_int G.out.symm, (by repeat (first | exact Below.refl _ _ | refine Below.setCell ?_ (by first | (simp; done) | (simp; omega) | omega) _ | refine Below.alloc ?_ (by first | (simp; done) | (simp; omega) | omega) _ | refine Below.drew ?_ | assumption | refine Below.trans ?_ (Below.mono (by assumption) (by first | (simp; done) | (simp; omega) | omega))))⟩)

end Go.Proofs.YtdpoahfjiomhbaaGreatDoor

/-
  Contract of exlaw14.Tiers.
-/
namespace Go.Proofs.YtdpoahfjiomhbaaGreatDoor
set_option linter.all false
open Go.RowKit Go.Sort
attribute [local go_sem] cell_set_self lt_1 lt_2 lt_3 lt_4 lt_5 lt_6

theorem Tryz.infoTier14 : (Tryz.prog.info? 38).map (fun i => (i.zero, i.size, i.bytes)) = some (some (.agg #[.int .i64 0, .int .i64 0]), 2, 16) := by kernel_rfl
theorem tiers_own14 {w : World} {base : Nat} {g cap : Nat} {l : List (Int × Int)} (h : w.ownsRow base 38 2 (.slice (some ⟨g, 0, none⟩) l.length cap) l.length (cellsT l)) (hg : g < w.heap.size) : Tiers w (some ⟨g, 0, none⟩) l := fun i t hi => by
  obtain ⟨h1, h2⟩ := cellsT_at hi
  have hc := h.cells (g := g) rfl
  refine ⟨g, 0, rfl, hg, ?_, ?_⟩
  · have := hc _ _ h1; rw [addr0] at this; simpa using this
  · have := hc _ _ h2; rw [addr0] at this; simpa [Nat.add_assoc] using this
theorem cells_take' {L : List (Int × Int)} {e : Nat} {u p : Int} (h : L[e]? = some (u, p)) : cellsT (L.take (e + 1)) = cellsT (L.take e) ++ [.int .i64 u, .int .i64 p] := by
  rw [List.take_succ, h, Option.toList_some, cellsT_append]; rfl

set_option maxHeartbeats 4000000 in
set_option maxRecDepth 100000 in
theorem tiers14_any (A : Option Addr) (n c : Nat) (l : List (Int × Int)) (hl : l.length = n) (hn : n ≤ 60) (w : World) (T : Tiers w A l) :
    Calls Tryz.prog 14 #[.slice A n c] w fun e w' => (∃ B d, e = .returned (.slice B n d) ∧ Tiers w' B l) ∧ Below w.heap.size w w' := by
  obtain ⟨i0, hi0, hz0, hz1, hz2⟩ := info_parts Tryz.infoTier14
  have HL := Lib.hid hl; have TT := Lib.hid T
  clear hl T
  go_enter Tryz.func14, Tryz.ntmps14
  go_wp2
  go_loopw [3, 4] (fun u i wr => ∃ (k : Nat) (v : Value), k ≤ n ∧ i = .int .i64 k ∧ v = u ∧ wr.ownsRow w.heap.size 38 2 v k (cellsT (l.take k)) ∧ Below w.heap.size w wr) (fun _ i _ => n - (intOf i).toNat)
  case atStart => exact ⟨0, _, by omega, rfl, rfl, by simp [cellsT]; exact World.ownsRow_nil _ _ _ _, (by repeat (first | exact Below.refl _ _ | refine Below.setCell ?_ (by first | (simp; done) | (simp; omega) | omega) _ | refine Below.alloc ?_ (by first | (simp; done) | (simp; omega) | omega) _ | refine Below.drew ?_ | assumption | refine Below.trans ?_ (Below.mono (by assumption) (by first | (simp; done) | (simp; omega) | omega))))⟩
  case round =>
    obtain ⟨k, v, hk, rfl, hv, hown, hB⟩ := hrel; subst hv
    have hs9 := hB.size
    have LT := Lib.hid hown.lt
    by_cases hlt : k < n
    · obtain ⟨⟨u', p'⟩, hg⟩ : ∃ t, l[k]? = some t := ⟨_, List.getElem?_eq_getElem (by rw [HL.out]; exact hlt)⟩
      obtain ⟨b, off, hA, hbs, hc0, hc1⟩ := TT.out k (u', p') hg
      subst hA
      have e0 : wr.cell? ⟨b, off + k * 2, none⟩ = some (.int .i64 u') := (hB.cell (p := ⟨b, off + k * 2, none⟩) hbs).trans hc0
      have e1 : wr.cell? ⟨b, off + k * 2 + 1, none⟩ = some (.int .i64 p') := (hB.cell (p := ⟨b, off + k * 2 + 1, none⟩) hbs).trans hc1
      have hbw : b < wr.heap.size := by omega
      have FT := Lib.hid (cells_take' hg)
      have OW := Lib.hid hown
      have kn : (k : Int) < (n : Int) := by omega
      clear hg hown HL TT
      generalize cellsT (l.take k) = xs at *
      go_wp2
      go_region_held3 (fun w' => w'.cell? ⟨b, off + k * 2, none⟩ = some (.int .i64 u') ∧ w'.cell? ⟨b, off + k * 2 + 1, none⟩ = some (.int .i64 p') ∧ b < w'.heap.size ∧ Below w.heap.size w w')
      (first | (refine ⟨?_, ?_, ?_, ?_⟩ <;> first | (simp [go_sem, *]; done) | omega | (simp; omega) | exact (by repeat (first | exact Below.refl _ _ | refine Below.setCell ?_ (by first | (simp; done) | (simp; omega) | omega) _ | refine Below.alloc ?_ (by first | (simp; done) | (simp; omega) | omega) _ | refine Below.drew ?_ | assumption | refine Below.trans ?_ (Below.mono (by assumption) (by first | (simp; done) | (simp; omega) | omega))))))
      (first | (first | (refine step_append_lies _ rfl (.tmp 11) (.tmp 23) 29 rfl w.heap.size 38 i0 _ 2 16 Tryz.underlying29 hi0 hz0 hz1 hz2 rfl (by decide) v k xs rfl (OW.out.alloc _) ⟨wr.heap.size, 0, none⟩ 1 1 [.int .i64 u', .int .i64 p'] rfl rfl (World.news_of_block (cs := #[.int .i64 u', .int .i64 p']) (t := 38) (fr := (0, 0)) (heap_alloc_new wr _)) (by simp [Value.oneCell']) (by omega) (by unfold maxLen; omega) (by omega) (by simp; omega) (wr.heap.size + 1) (by simp) ?_; intro gg cap w1' hown1 hgrow hat hlt'; have hb1 : Below w.heap.size w w1' := Below.grown (by repeat (first | exact Below.refl _ _ | refine Below.setCell ?_ (by first | (simp; done) | (simp; omega) | omega) _ | refine Below.alloc ?_ (by first | (simp; done) | (simp; omega) | omega) _ | refine Below.drew ?_ | assumption | refine Below.trans ?_ (Below.mono (by assumption) (by first | (simp; done) | (simp; omega) | omega)))) hgrow (by first | (simp; done) | (simp; omega) | omega) (fun j hj => (LT.out j hj).1); have g0 := (hb1.cell (p := ⟨b, off + k * 2, none⟩) hbs).trans hc0; have g1 := (hb1.cell (p := ⟨b, off + k * 2 + 1, none⟩) hbs).trans hc1; have z1 : b < w1'.heap.size := (by have := hb1.size; omega))))
      go_wp2
      go_roundw
      case rel => exact ⟨k + 1, _, by omega, by go_num, rfl, by rw [FT.out]; exact hown1, hb1⟩
      case measure => first | (simp [intOf]; done) | (simp [intOf]; omega)
    · have hkn : k = n := by omega
      subst hkn
      have ll := HL.out
      rw [List.take_of_length_le (by omega)] at hown
      have R : Hid (∃ B d, v = .slice B k d ∧ Tiers wr B l) := Lib.hid (by
        rcases hown.2 with ⟨rfl, h0⟩ | ⟨g, cap, cur, rfl, h1, h2, _⟩
        · subst h0
          exact ⟨none, 0, rfl, fun i t hi => by rw [List.length_eq_zero_iff.1 ll] at hi; simp at hi⟩
        · subst ll
          exact ⟨some ⟨g, 0, none⟩, cap, rfl, tiers_own14 hown (Array.getElem?_eq_some_iff.1 h2).1⟩)
      clear hown ll HL TT LT
      go_wp2
      go_ret
      obtain ⟨B, d, e, t⟩ := R.out
      subst e
      exact ⟨⟨B, d, rfl, t⟩, (by repeat (first | exact Below.refl _ _ | refine Below.setCell ?_ (by first | (simp; done) | (simp; omega) | omega) _ | refine Below.alloc ?_ (by first | (simp; done) | (simp; omega) | omega) _ | refine Below.drew ?_ | assumption | refine Below.trans ?_ (Below.mono (by assumption) (by first | (simp; done) | (simp; omega) | omega))))⟩
end Go.Proofs.YtdpoahfjiomhbaaGreatDoor
