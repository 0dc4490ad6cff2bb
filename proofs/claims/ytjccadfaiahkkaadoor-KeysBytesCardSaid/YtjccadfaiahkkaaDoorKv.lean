/-
  Contract of exlaw8.parts.
-/
import Derived.Test.YtjccadfaiahkkaaDoorKo
import Derived.Deep.AppendLies
import Derived.Deep.RegionHeld3
namespace Go.Proofs.YtjccadfaiahkkaaDoor
set_option linter.all false
open Go.RowKit
attribute [local go_sem] cell_set_self lt_1 lt_2 lt_3 lt_4 lt_5 lt_6

theorem Tryd.infoPart8 : (Tryd.prog.info? 43).map (fun i => (i.zero, i.size, i.bytes)) = some (some (.agg #[.int .i64 0, .int .i64 0, .string ⟨#[]⟩]), 3, 32) := by kernel_rfl
theorem cellsP_snoc {L : List Part} {k : Nat} {p : Part} (h : L[k]? = some p) : cellsP (L.take (k + 1)) = cellsP (L.take k) ++ [.int .i64 p.k, .int .i64 p.n, .string ⟨p.s.toArray⟩] := by
  rw [List.take_succ, h, Option.toList_some, cellsP_app]; rfl

set_option maxHeartbeats 4000000 in
set_option maxRecDepth 100000 in
theorem parts8_any (A : Option Addr) (n c : Nat) (l : List Part) (hl : l.length = n) (hn : n ≤ 60) (w : World) (T : Parts w A l) :
    Calls Tryd.prog 15 #[.slice A n c] w fun e w' => (∃ B d, e = .returned (.slice B n d) ∧ Parts w' B l) ∧ Below w.heap.size w w' := by
  obtain ⟨i0, hi0, hz0, hz1, hz2⟩ := info_parts Tryd.infoPart8
  have HL := Lib.hid hl; have TT := Lib.hid T
  clear hl T
  go_enter Tryd.func15, Tryd.ntmps15
  go_wp2
  go_loopw [3, 4] (fun u i wr => ∃ (k : Nat) (v : Value), k ≤ n ∧ i = .int .i64 k ∧ v = u ∧ wr.ownsRow w.heap.size 43 3 v k (cellsP (l.take k)) ∧ Below w.heap.size w wr) (fun _ i _ => n - (intOf i).toNat)
  case atStart => exact ⟨0, _, by omega, rfl, rfl, by simp [cellsP]; exact World.ownsRow_nil _ _ _ _, (by repeat (first | exact Below.refl _ _ | refine Below.setCell ?_ (by first | (simp; done) | (simp; omega) | omega) _ | refine Below.alloc ?_ (by first | (simp; done) | (simp; omega) | omega) _ | refine Below.drew ?_ | assumption | refine Below.trans ?_ (Below.mono (by assumption) (by first | (simp; done) | (simp; omega) | omega))))⟩
  case round =>
    obtain ⟨k, v, hk, rfl, hv, hown, hB⟩ := hrel; subst hv
    have hs9 := hB.size
    have LT := Lib.hid hown.lt
    by_cases hlt : k < n
    · obtain ⟨p, hg⟩ : ∃ p, l[k]? = some p := ⟨_, List.getElem?_eq_getElem (by rw [HL.out]; exact hlt)⟩
      obtain ⟨b, off, hA, hbs, hc0, hc1, hc2⟩ := TT.out k p hg
      subst hA
      have e0 : wr.cell? ⟨b, off + k * 3, none⟩ = some (.int .i64 p.k) := (hB.cell (p := ⟨b, off + k * 3, none⟩) hbs).trans hc0
      have e1 : wr.cell? ⟨b, off + k * 3 + 1, none⟩ = some (.int .i64 p.n) := (hB.cell (p := ⟨b, off + k * 3 + 1, none⟩) hbs).trans hc1
      have e2 : wr.cell? ⟨b, off + k * 3 + 2, none⟩ = some (.string ⟨p.s.toArray⟩) := (hB.cell (p := ⟨b, off + k * 3 + 2, none⟩) hbs).trans hc2
      have hbw : b < wr.heap.size := by omega
      have FT := Lib.hid (cellsP_snoc hg)
      have OW := Lib.hid hown
      have kn : (k : Int) < (n : Int) := by omega
      clear hg hown HL TT
      generalize cellsP (l.take k) = xs at *
      go_wp2
      go_region_held3 (fun w' => w'.cell? ⟨b, off + k * 3, none⟩ = some (.int .i64 p.k) ∧ w'.cell? ⟨b, off + k * 3 + 1, none⟩ = some (.int .i64 p.n) ∧ w'.cell? ⟨b, off + k * 3 + 2, none⟩ = some (.string ⟨p.s.toArray⟩) ∧ b < w'.heap.size ∧ Below w.heap.size w w')
      (first | (refine ⟨?_, ?_, ?_, ?_, ?_⟩ <;> first | (simp [go_sem, *]; done) | omega | (simp; omega) | exact (by repeat (first | exact Below.refl _ _ | refine Below.setCell ?_ (by first | (simp; done) | (simp; omega) | omega) _ | refine Below.alloc ?_ (by first | (simp; done) | (simp; omega) | omega) _ | refine Below.drew ?_ | assumption | refine Below.trans ?_ (Below.mono (by assumption) (by first | (simp; done) | (simp; omega) | omega))))))
      (first | (first | (refine step_append_lies _ rfl (.tmp 11) (.tmp 28) 37 rfl w.heap.size 43 i0 _ 3 32 Tryd.underlying37 hi0 hz0 hz1 hz2 rfl (by decide) v k xs rfl (OW.out.alloc _) ⟨wr.heap.size, 0, none⟩ 1 1 [.int .i64 p.k, .int .i64 p.n, .string ⟨p.s.toArray⟩] rfl rfl (World.news_of_block (cs := #[.int .i64 p.k, .int .i64 p.n, .string ⟨p.s.toArray⟩]) (t := 43) (fr := (0, 0)) (heap_alloc_new wr _)) (by simp [Value.oneCell']) (by omega) (by unfold maxLen; omega) (by omega) (by simp; omega) (wr.heap.size + 1) (by simp) ?_; intro gg cap w1' hown1 hgrow hat hlt'; have hb1 : Below w.heap.size w w1' := Below.grown (by repeat (first | exact Below.refl _ _ | refine Below.setCell ?_ (by first | (simp; done) | (simp; omega) | omega) _ | refine Below.alloc ?_ (by first | (simp; done) | (simp; omega) | omega) _ | refine Below.drew ?_ | assumption | refine Below.trans ?_ (Below.mono (by assumption) (by first | (simp; done) | (simp; omega) | omega)))) hgrow (by first | (simp; done) | (simp; omega) | omega) (fun j hj => (LT.out j hj).1); have g0 := (hb1.cell (p := ⟨b, off + k * 3, none⟩) hbs).trans hc0; have g1 := (hb1.cell (p := ⟨b, off + k * 3 + 1, none⟩) hbs).trans hc1; have g2 := (hb1.cell (p := ⟨b, off + k * 3 + 2, none⟩) hbs).trans hc2; have z1 : b < w1'.heap.size := (by have := hb1.size; omega))))
      go_wp2
      go_roundw
      case rel => exact ⟨k + 1, _, by omega, by go_num, rfl, by rw [FT.out]; exact hown1, hb1⟩
      case measure => first | (simp [intOf]; done) | (simp [intOf]; omega)
    · have hkn : k = n := by omega
      subst hkn
      have ll := HL.out
      rw [List.take_of_length_le (by omega)] at hown
      obtain ⟨B, d, rfl⟩ := own_form hown
      have R := Lib.hid (parts_own ll hown)
      clear hown ll HL TT LT
      go_wp2
      go_ret
      exact ⟨⟨B, d, rfl, R.out⟩, (by repeat (first | exact Below.refl _ _ | refine Below.setCell ?_ (by first | (simp; done) | (simp; omega) | omega) _ | refine Below.alloc ?_ (by first | (simp; done) | (simp; omega) | omega) _ | refine Below.drew ?_ | assumption | refine Below.trans ?_ (Below.mono (by assumption) (by first | (simp; done) | (simp; omega) | omega))))⟩
end Go.Proofs.YtjccadfaiahkkaaDoor
