/-
  Contracts of strings.Join and of sql.listed over items and orders. (Printed by tools/mksf7.py.)
-/
import Derived.Test.YtijlifdbjhieaaaGreatDoorSf6
namespace Go.Proofs.YtijlifdbjhieaaaGreatDoor
set_option linter.all false
open Go.RowKit Go.Shelf
attribute [local go_sem] cell_set_self lt_1 lt_2 lt_3 lt_4 lt_5 lt_6

theorem maps_id (l : List (List UInt8)) : (l.map fun s => (⟨s.toArray⟩ : ByteArray)).map (fun b => b.data.toList) = l := by
  rw [List.map_map]
  conv => rhs; rw [← List.map_id l]
  exact List.map_congr_left fun s _ => by simp
theorem join_strs (A : Option Addr) (c : Nat) (l : List (List UInt8)) (sep : List UInt8) (w : World) (T : Strs w A l) (hc : l.length ≤ c) (hn : l.length ≤ 1000000000) (hl : (Lib.join l sep).length ≤ 1000000000) :
    Calls Tryz.prog 22 #[.slice A l.length c, .string ⟨sep.toArray⟩] w fun e w' => e = .returned (.string ⟨(Lib.join l sep).toArray⟩) ∧ Below w.heap.size w w' := by
  cases l with
  | nil =>
    refine (Tryz.strings_Join_none A c ⟨sep.toArray⟩ w).mono ?_
    rintro e w' ⟨rfl, rfl⟩
    exact ⟨rfl, Below.refl _ _⟩
  | cons x r =>
    obtain ⟨b, off, rfl, hb, -⟩ := T 0 x rfl
    have hm := maps_id (x :: r)
    have hsl : ((x :: r).map fun s => (⟨s.toArray⟩ : ByteArray)).length = (x :: r).length := List.length_map ..
    have J := Tryz.strings_Join b off c ((x :: r).map fun s => (⟨s.toArray⟩ : ByteArray)) ⟨sep.toArray⟩ w (fun j y hj => ?_) hb (by omega) (by omega) (by rw [hm]; exact Nat.le_trans hl (by omega))
    · rw [hm, hsl] at J
      exact J
    · rw [List.getElem?_map] at hj
      cases hx : (x :: r)[j]? with
      | none => rw [hx] at hj; cases hj
      | some z =>
        rw [hx] at hj; injection hj with hj; subst hj
        obtain ⟨b', off', e, -, hc'⟩ := T j z hx
        injection e with e; injection e with e1 e2; subst e1 e2
        exact hc'
theorem own_strs {W : World} {base : Nat} {V : Value} {l : List (List UInt8)} (h : W.ownsRow base 9 1 V l.length (cellsN l)) : ∃ A c, V = .slice A l.length c ∧ l.length ≤ c ∧ Strs W A l := by
  rcases h.2 with ⟨rfl, h0⟩ | ⟨g, cap, cur, rfl, hg, hh, hnc, hm, hz, ht⟩
  · obtain rfl : l = [] := List.eq_nil_of_length_eq_zero h0
    exact ⟨none, 0, rfl, Nat.le_refl _, fun i x hi => by simp at hi⟩
  · refine ⟨_, _, rfl, hnc, fun i x hi => ?_⟩
    have hlt := (Array.getElem?_eq_some_iff.1 hh).1
    have hil := (List.getElem?_eq_some_iff.1 hi).1
    refine ⟨g, 0, rfl, hlt, ?_⟩
    have hv : (cellsN l)[i]? = some (.string ⟨x.toArray⟩) := by unfold cellsN; rw [List.getElem?_map, hi]; rfl
    rw [← ht, List.getElem?_take, if_pos (by omega)] at hv
    simp only [World.cell?, hh]
    simpa using hv
set_option maxHeartbeats 4000000 in
set_option maxRecDepth 100000 in
theorem listedI_any (A : Option Addr) (c : Nat) (l : List ItemT) (hn : l.length ≤ 1000000000) (hs : ∀ x ∈ l, x.agg.length ≤ 1000000000 ∧ x.col.length ≤ 1000000000) (hj : (Lib.join (l.map itemX) [44, 32]).length ≤ 1000000000) (w : World) (T : ItL w A l) :
    Calls Tryz.prog 19 #[.slice A l.length c, .func (.func 20) #[] #[]] w fun e w' => e = .returned (.string ⟨(Lib.join (l.map itemX) [44, 32]).toArray⟩) ∧ Below w.heap.size w w' := by
  suffices key : ∀ Q : Ending → World → Prop, Hid (∀ e w', (e = .returned (.string ⟨(Lib.join (l.map itemX) [44, 32]).toArray⟩) ∧ Below w.heap.size w w') → Q e w') → Calls Tryz.prog 19 #[.slice A l.length c, .func (.func 20) #[] #[]] w Q from key _ (Lib.hid fun _ _ h => h)
  intro Q HQ
  have HT := Lib.hid T
  have HS := Lib.hid hs
  have HJ := Lib.hid hj
  obtain ⟨i, hi, iz0, iz1, iz2⟩ := info_parts info_str
  clear T hs hj
  go_enter Tryz.func19, Tryz.ntmps19
  go_wp2_with (fail)
  go_loopw [5, 10] (fun v j wr => ∃ (k : Nat) (V : Value), V = v ∧ k ≤ l.length ∧ j = .int .i64 k ∧ Hid (wr.ownsRow w.heap.size 9 1 V k (cellsN ((l.take k).map itemX))) ∧ Hid (Below w.heap.size w wr)) (fun _ j _ => l.length - (intOf j).toNat)
  case atStart => exact ⟨0, _, rfl, by omega, rfl, Lib.hid (World.ownsRow_nil _ _ _ _), Lib.hid (by repeat (first | exact Below.refl _ _ | refine Below.setCell ?_ (by first | (simp; done) | (simp; omega) | omega) _ | refine Below.alloc ?_ (by first | (simp; done) | (simp; omega) | omega) _ | refine Below.drew ?_ | assumption | refine Below.trans ?_ (Below.mono (by assumption) (by first | (simp; done) | (simp; omega) | omega))))⟩
  case round =>
    obtain ⟨k, V, hV, hk, rfl, HO, HB⟩ := hrel
    subst hV
    obtain ⟨wo, rfl⟩ : ∃ wo : World, wo = wr := ⟨_, rfl⟩
    have hso := HB.out.size
    by_cases hlt : k < l.length
    · obtain ⟨A1, cA, hVA⟩ := own_form HO.out
      subst hVA
      have hlt' : (k : Int) < (l.length : Int) := by omega
      obtain ⟨x, hx⟩ : ∃ x, l[k]? = some x := ⟨_, List.getElem?_eq_getElem hlt⟩
      obtain ⟨b, off, rfl, hb, c0, c1⟩ := (HT.out.below HB.out) k x hx
      have hl := HS.out x (List.mem_of_getElem? hx)
      have htk : Hid ((l.take (k + 1)).map itemX = (l.take k).map itemX ++ [itemX x]) := Lib.hid (by
        obtain ⟨h1, h2⟩ := List.getElem?_eq_some_iff.1 hx
        rw [List.take_succ_eq_append_getElem h1, List.map_append, h2]; rfl)
      clear hx
      obtain ⟨xg, xc⟩ := x
      dsimp only at hl c0 c1
      have IX := Lib.hid (fun W => itemX_any xg xc hl.1 hl.2 W)
      clear hl
      obtain ⟨y, hy⟩ : ∃ y, itemX ⟨xg, xc⟩ = y := ⟨_, rfl⟩
      rw [hy] at IX htk
      clear hy
      obtain ⟨ys, hys⟩ : ∃ ys, (l.take k).map itemX = ys := ⟨_, rfl⟩
      rw [hys] at HO htk
      clear hys
      go_wp2_with (first | (go_at_call 20; (with_reducible refine (IX.out _).mono ?_); rintro e w5 ⟨rfl, hb5⟩; have hbb5 : Below wo.heap.size wo w5 := ((Below.refl _ _).alloc (Nat.le_refl _) _).trans (hb5.mono (by simp)); have HO5 := Lib.hid (own_below HO.out hbb5); have hs5 := hbb5.size; have HBB5 := Lib.hid hbb5; clear hbb5) | (at_builtin; refine wpList_append_lies _ rfl _ _ _ rfl (w.heap.size) 9 i _ 1 16 Tryz.underlying28 hi iz0 iz1 iz2 rfl (by decide) (.slice A1 k cA) (k) _ rfl (HO5.out.alloc _) ⟨w5.heap.size, 0, none⟩ 1 1 [.string ⟨y.toArray⟩] rfl rfl (World.news_of_block (cs := #[.string ⟨y.toArray⟩]) (t := 9) (fr := (0, 0)) (heap_alloc_new w5 _)) (by simp [Value.oneCell']) (by omega) (by unfold maxLen; omega) (by omega) (by simp; omega) (w5.heap.size + 1) (by simp) ?_; intro gg cap w1' hown1 hgrow hat hlt'))
      go_roundw
      case rel => exact ⟨k + 1, _, rfl, by omega, by go_num, Lib.hid (by rw [htk.out, cellsN_app]; exact hown1), Lib.hid (below_push (HB.out.trans (HBB5.out.mono hso)) (by omega) hgrow (fun b hb => (HO5.out.lt b hb).1))⟩
      case measure => first | (simp [intOf]; done) | (simp [intOf]; omega)
    · obtain rfl : k = l.length := by omega
      have hkk : ¬ (l.length : Int) < (l.length : Int) := by omega
      have ho := HO.out
      rw [List.take_of_length_le (Nat.le_refl _)] at ho
      have ho' : wo.ownsRow w.heap.size 9 1 V (l.map itemX).length (cellsN (l.map itemX)) := by rw [List.length_map]; exact ho
      obtain ⟨A1, cA, rfl, hcA, hS⟩ := own_strs ho'
      have JS := Lib.hid (join_strs A1 cA (l.map itemX) [44, 32] wo hS hcA (by rw [List.length_map]; exact hn) HJ.out)
      rw [List.length_map] at JS ⊢
      clear ho ho' hS HO hcA
      go_wp2_with (first | (go_at_call 22; (with_reducible refine (JS.out).mono ?_); rintro e w6 ⟨rfl, hb6⟩))
      exact HQ.out _ _ ⟨rfl, HB.out.trans (hb6.mono hso)⟩
set_option maxHeartbeats 4000000 in
set_option maxRecDepth 100000 in
theorem listedO_any (A : Option Addr) (c : Nat) (l : List OrderT) (hn : l.length ≤ 1000000000) (hs : ∀ x ∈ l, x.col.length ≤ 1000000000) (hj : (Lib.join (l.map orderX) [44, 32]).length ≤ 1000000000) (w : World) (T : OrL w A l) :
    Calls Tryz.prog 23 #[.slice A l.length c, .func (.func 24) #[] #[]] w fun e w' => e = .returned (.string ⟨(Lib.join (l.map orderX) [44, 32]).toArray⟩) ∧ Below w.heap.size w w' := by
  suffices key : ∀ Q : Ending → World → Prop, Hid (∀ e w', (e = .returned (.string ⟨(Lib.join (l.map orderX) [44, 32]).toArray⟩) ∧ Below w.heap.size w w') → Q e w') → Calls Tryz.prog 23 #[.slice A l.length c, .func (.func 24) #[] #[]] w Q from key _ (Lib.hid fun _ _ h => h)
  intro Q HQ
  have HT := Lib.hid T
  have HS := Lib.hid hs
  have HJ := Lib.hid hj
  obtain ⟨i, hi, iz0, iz1, iz2⟩ := info_parts info_str
  clear T hs hj
  go_enter Tryz.func23, Tryz.ntmps23
  go_wp2_with (fail)
  go_loopw [5, 10] (fun v j wr => ∃ (k : Nat) (V : Value), V = v ∧ k ≤ l.length ∧ j = .int .i64 k ∧ Hid (wr.ownsRow w.heap.size 9 1 V k (cellsN ((l.take k).map orderX))) ∧ Hid (Below w.heap.size w wr)) (fun _ j _ => l.length - (intOf j).toNat)
  case atStart => exact ⟨0, _, rfl, by omega, rfl, Lib.hid (World.ownsRow_nil _ _ _ _), Lib.hid (by repeat (first | exact Below.refl _ _ | refine Below.setCell ?_ (by first | (simp; done) | (simp; omega) | omega) _ | refine Below.alloc ?_ (by first | (simp; done) | (simp; omega) | omega) _ | refine Below.drew ?_ | assumption | refine Below.trans ?_ (Below.mono (by assumption) (by first | (simp; done) | (simp; omega) | omega))))⟩
  case round =>
    obtain ⟨k, V, hV, hk, rfl, HO, HB⟩ := hrel
    subst hV
    obtain ⟨wo, rfl⟩ : ∃ wo : World, wo = wr := ⟨_, rfl⟩
    have hso := HB.out.size
    by_cases hlt : k < l.length
    · obtain ⟨A1, cA, hVA⟩ := own_form HO.out
      subst hVA
      have hlt' : (k : Int) < (l.length : Int) := by omega
      obtain ⟨x, hx⟩ : ∃ x, l[k]? = some x := ⟨_, List.getElem?_eq_getElem hlt⟩
      obtain ⟨b, off, rfl, hb, c0, c1⟩ := (HT.out.below HB.out) k x hx
      have hl := HS.out x (List.mem_of_getElem? hx)
      have htk : Hid ((l.take (k + 1)).map orderX = (l.take k).map orderX ++ [orderX x]) := Lib.hid (by
        obtain ⟨h1, h2⟩ := List.getElem?_eq_some_iff.1 hx
        rw [List.take_succ_eq_append_getElem h1, List.map_append, h2]; rfl)
      clear hx
      obtain ⟨xc, xd⟩ := x
      dsimp only at hl c0 c1
      have IX := Lib.hid (fun W => orderX_any xc xd hl W)
      clear hl
      obtain ⟨y, hy⟩ : ∃ y, orderX ⟨xc, xd⟩ = y := ⟨_, rfl⟩
      rw [hy] at IX htk
      clear hy
      obtain ⟨ys, hys⟩ : ∃ ys, (l.take k).map orderX = ys := ⟨_, rfl⟩
      rw [hys] at HO htk
      clear hys
      go_wp2_with (first | (go_at_call 24; (with_reducible refine (IX.out _).mono ?_); rintro e w5 ⟨rfl, hb5⟩; have hbb5 : Below wo.heap.size wo w5 := ((Below.refl _ _).alloc (Nat.le_refl _) _).trans (hb5.mono (by simp)); have HO5 := Lib.hid (own_below HO.out hbb5); have hs5 := hbb5.size; have HBB5 := Lib.hid hbb5; clear hbb5) | (at_builtin; refine wpList_append_lies _ rfl _ _ _ rfl (w.heap.size) 9 i _ 1 16 Tryz.underlying28 hi iz0 iz1 iz2 rfl (by decide) (.slice A1 k cA) (k) _ rfl (HO5.out.alloc _) ⟨w5.heap.size, 0, none⟩ 1 1 [.string ⟨y.toArray⟩] rfl rfl (World.news_of_block (cs := #[.string ⟨y.toArray⟩]) (t := 9) (fr := (0, 0)) (heap_alloc_new w5 _)) (by simp [Value.oneCell']) (by omega) (by unfold maxLen; omega) (by omega) (by simp; omega) (w5.heap.size + 1) (by simp) ?_; intro gg cap w1' hown1 hgrow hat hlt'))
      go_roundw
      case rel => exact ⟨k + 1, _, rfl, by omega, by go_num, Lib.hid (by rw [htk.out, cellsN_app]; exact hown1), Lib.hid (below_push (HB.out.trans (HBB5.out.mono hso)) (by omega) hgrow (fun b hb => (HO5.out.lt b hb).1))⟩
      case measure => first | (simp [intOf]; done) | (simp [intOf]; omega)
    · obtain rfl : k = l.length := by omega
      have hkk : ¬ (l.length : Int) < (l.length : Int) := by omega
      have ho := HO.out
      rw [List.take_of_length_le (Nat.le_refl _)] at ho
      have ho' : wo.ownsRow w.heap.size 9 1 V (l.map orderX).length (cellsN (l.map orderX)) := by rw [List.length_map]; exact ho
      obtain ⟨A1, cA, rfl, hcA, hS⟩ := own_strs ho'
      have JS := Lib.hid (join_strs A1 cA (l.map orderX) [44, 32] wo hS hcA (by rw [List.length_map]; exact hn) HJ.out)
      rw [List.length_map] at JS ⊢
      clear ho ho' hS HO hcA
      go_wp2_with (first | (go_at_call 22; (with_reducible refine (JS.out).mono ?_); rintro e w6 ⟨rfl, hb6⟩))
      exact HQ.out _ _ ⟨rfl, HB.out.trans (hb6.mono hso)⟩
end Go.Proofs.YtijlifdbjhieaaaGreatDoor
