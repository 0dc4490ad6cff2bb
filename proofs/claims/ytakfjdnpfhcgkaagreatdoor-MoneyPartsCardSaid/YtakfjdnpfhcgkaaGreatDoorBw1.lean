/-
  exref's Big numbers, as memory has them; contract of exref.trim.
-/
import Derived.Test.YtakfjdnpfhcgkaaGreatDoorTk7
import Derived.Test.YtakfjdnpfhcgkaaGreatDoorBd
import Derived.Laws.AppendOwnNone
namespace Go.Proofs.YtakfjdnpfhcgkaaGreatDoor
set_option linter.all false
open Go.RowKit Go.Sort
attribute [local go_sem] cell_set_self lt_1 lt_2 lt_3 lt_4 lt_5 lt_6

/-- A slice of ints, as memory has it. -/
def Sl (w : World) (A : Option Addr) (c : Nat) (l : List Int) : Prop :=
  l.length ≤ c ∧ (A = none → c = 0) ∧ ∀ (i : Nat) (v : Int), l[i]? = some v → ∃ b off, A = some ⟨b, off, none⟩ ∧ b < w.heap.size ∧ w.cell? ⟨b, off + i, none⟩ = some (.int .i64 v)
/-- The parts of a Big, as memory has them: the number z; its digits lie behind 'base'. -/
def Pt (base : Nat) (w : World) (s : Bool) (A : Option Addr) (n c : Nat) (z : Int) : Prop :=
  s = decide (z < 0) ∧ n = (dgs z.natAbs).length ∧ Sl w A c (dgs z.natAbs) ∧ ∀ a, A = some a → base ≤ a.block
/-- What a call answers that answers a Big. -/
def Res (base : Nat) (w : World) (e : Ending) (z : Int) : Prop := ∃ s A n c, e = .returned (.agg #[.bool s, .slice A n c]) ∧ Pt base w s A n c z
theorem Sl.setCell {w : World} {A : Option Addr} {c : Nat} {l : List Int} (T : Sl w A c l) {p : Addr} (u : Value) (h : ∀ a, A = some a → a.block ≠ p.block) : Sl (w.setCell p u) A c l := ⟨T.1, T.2.1, fun i v hi => by
  obtain ⟨b, off, hA, hb, hc⟩ := T.2.2 i v hi
  have hn : b ≠ p.block := h _ hA
  exact ⟨b, off, hA, by simpa using hb, by rw [World.cell?_setCell_far w p _ u (fun e => hn e.symm)]; exact hc⟩⟩
theorem Pt.mono {base base' : Nat} {w : World} {s : Bool} {A : Option Addr} {n c : Nat} {z : Int} (h : Pt base w s A n c z) (hb : base' ≤ base) : Pt base' w s A n c z := ⟨h.1, h.2.1, h.2.2.1, fun a ha => Nat.le_trans hb (h.2.2.2 a ha)⟩
theorem Pt.setCell {base : Nat} {w : World} {s : Bool} {A : Option Addr} {n c : Nat} {z : Int} (h : Pt base w s A n c z) {p : Addr} (u : Value) (hp : p.block < base) : Pt base (w.setCell p u) s A n c z :=
  ⟨h.1, h.2.1, h.2.2.1.setCell u fun a ha => by have := h.2.2.2 a ha; omega, h.2.2.2⟩
theorem Sl.below {w W : World} {A : Option Addr} {c : Nat} {l : List Int} (T : Sl w A c l) (h : Below w.heap.size w W) : Sl W A c l := ⟨T.1, T.2.1, fun i v hi => by
  obtain ⟨b, off, hA, hb, hc⟩ := T.2.2 i v hi
  exact ⟨b, off, hA, Nat.lt_of_lt_of_le hb h.size, (h.cell (p := ⟨b, off + i, none⟩) hb).trans hc⟩⟩
theorem Pt.below {base : Nat} {w W : World} {s : Bool} {A : Option Addr} {n c : Nat} {z : Int} (T : Pt base w s A n c z) (h : Below w.heap.size w W) : Pt base W s A n c z := ⟨T.1, T.2.1, T.2.2.1.below h, T.2.2.2⟩
theorem Sl.nil (w : World) : Sl w none 0 [] := ⟨by simp, fun _ => rfl, fun i v h => by simp at h⟩
theorem Sl.empty (w : World) (a : Addr) (c : Nat) : Sl w (some a) c [] := ⟨by simp, fun h => (by cases h), fun i v h => by simp at h⟩
theorem Sl.none_nil {w : World} {c : Nat} {l : List Int} (T : Sl w none c l) : l = [] ∧ c = 0 :=
  ⟨by have := T.1; rw [T.2.1 rfl] at this; exact List.length_eq_zero_iff.1 (by omega), T.2.1 rfl⟩
theorem Pt.zero (base : Nat) (w : World) : Pt base w false none 0 0 0 := ⟨by simp, by simp [dgs_0], by simp [dgs_0]; exact Sl.nil w, fun a h => by cases h⟩
theorem addr_add (b off n : Nat) : ({ block := b, off := off } : Addr).add n = ⟨b, off + n, none⟩ := by unfold Addr.add; split <;> simp_all
/-- The cells that an append takes. -/
theorem Sl.news {w W : World} {a : Addr} {c : Nat} {l : List Int} (T : Sl w (some a) c l) (h : Below w.heap.size w W) (k : Nat) : ∀ j u, ((l.take k).map (Value.int .i64))[j]? = some u → W.cell? (a.add j) = some u := fun j u hu => by
  rw [List.getElem?_map] at hu
  cases hv : (l.take k)[j]? with
  | none => rw [hv] at hu; simp at hu
  | some v =>
    rw [hv] at hu; simp at hu; subst hu
    have hv' : l[j]? = some v := by
      rw [List.getElem?_take] at hv
      split at hv
      · exact hv
      · simp at hv
    obtain ⟨b, off, hA, hb, hc⟩ := T.2.2 j v hv'
    injection hA with hA; subst hA
    rw [addr_add]; exact (h.cell (p := ⟨b, off + j, none⟩) hb).trans hc
theorem Tryz.infoInt : (Tryz.prog.info? 3).map (fun i => (i.zero, i.size, i.bytes)) = some (some (.int .i64 0), 1, 8) := by kernel_rfl
/-- A row that the call has made reads as the list. -/
theorem sl_own {w : World} {base n : Nat} {v : Value} {l : List Int} {xs : List Value} (h : w.ownsRow base 3 1 v n xs) (hn : n = l.length) (e : xs = l.map (Value.int .i64)) : ∃ A c, v = .slice A n c ∧ Sl w A c l ∧ ∀ a, A = some a → base ≤ a.block := by
  subst hn; subst e
  obtain ⟨hl, ⟨rfl, h0⟩ | ⟨g, cap, cur, rfl, hg, hb, hnc, _, hcur, htk⟩⟩ := h
  · have := List.length_eq_zero_iff.1 h0; subst this
    exact ⟨none, 0, rfl, Sl.nil w, fun a h => by cases h⟩
  · refine ⟨some ⟨g, 0, none⟩, cap, rfl, ⟨hnc, fun h => (by cases h), fun i v hi => ⟨g, 0, rfl, (Array.getElem?_eq_some_iff.1 hb).1, ?_⟩⟩, fun a h => by cases h; exact hg⟩
    have hc := cell_of_row w g i cur 3 (0, 0) hb
    rw [Nat.zero_add, hc]
    have h2 : (cur.toList.take (l.length * 1))[i]? = some (.int .i64 v) := by rw [htk, List.getElem?_map, hi]; rfl
    have hlt : i < l.length := (List.getElem?_eq_some_iff.1 hi).1
    rw [List.getElem?_take_of_lt (by omega)] at h2
    simpa using h2
theorem pt_mk {base : Nat} {w : World} {A : Option Addr} {c n : Nat} {l : List Int} {neg : Bool} {z : Int} (h : l = dgs z.natAbs) (hn : n = l.length) (hs : neg = decide (z < 0)) (s : Sl w A c l) (f : ∀ a, A = some a → base ≤ a.block) : Pt base w neg A n c z := by
  subst h; exact ⟨hs, hn, s, f⟩
theorem own_empty (w : World) (base H : Nat) (hb : base ≤ w.heap.size) (hH : w.heap.size = H) : (w.alloc (.cells #[] 3)).ownsRow base 3 1 (.slice (some ⟨H, 0, none⟩) 0 0) 0 [] := by
  subst hH; exact World.ownsRow_made w #[] 0 hb (Nat.zero_le _) rfl
theorem ints_one (l : List Int) : ∀ u ∈ l.map (Value.int .i64), u.oneCell' = true := fun u hu => by
  obtain ⟨x, _, rfl⟩ := List.mem_map.1 hu; rfl
theorem le_alloc (w : World) (o : Obj) : w.heap.size ≤ (w.alloc o).heap.size := by simp

/-- What trim answers, as a number. -/
theorem trim_val {l : List Int} {k : Nat} {neg : Bool} {x : Int} (d : Dgt l) (hk : k ≤ l.length) (h : ∀ (i : Nat) (x : Int), k ≤ i → l[i]? = some x → x = 0) (hx : k = 0 ∨ (l[k - 1]? = some x ∧ x ≠ 0)) :
    l.take k = dgs (if neg then -(vl l) else vl l).natAbs ∧ (neg && decide (0 < (k : Int))) = decide ((if neg then -(vl l) else vl l) < 0) ∧ k = (l.take k).length := by
  have e := trim_eq d hk h hx
  have n := vl_nonneg d
  have hl : k = (l.take k).length := by simp; omega
  refine ⟨by rw [e]; congr 1; cases neg <;> simp <;> omega, ?_, hl⟩
  have p := vl_pos (n := (vl l).toNat)
  rw [← e, ← hl] at p
  cases neg
  · simp; omega
  · simp; omega

set_option maxHeartbeats 2000000 in
set_option maxRecDepth 100000 in
theorem trim_any (neg : Bool) (A : Option Addr) (n c : Nat) (l : List Int) (hl : l.length = n) (hn : n ≤ 1000) (hd : Dgt l) (w : World) (T : Sl w A c l) :
    Calls Tryz.prog 51 #[.bool neg, .slice A n c] w fun e w' => Res w.heap.size w' e (if neg then -(vl l) else vl l) ∧ Below w.heap.size w w' := by
  obtain ⟨i0, hi0, hz0, hz1, hz2⟩ := info_parts Tryz.infoInt
  have hnc : n ≤ c := by have := T.1; omega
  rcases A with _ | a
  · obtain ⟨rfl, rfl⟩ := T.none_nil
    simp at hl; subst hl
    clear hd hnc
    rcases neg
    all_goals
      go_enter Tryz.func51, Tryz.ntmps51
      go_wp2
      go_loopw [5] (fun i wr => i = .int .i64 0 ∧ wr = w.alloc (.cells #[.bool false, .slice none 0 0] 58)) (fun i _ => (intOf i).toNat)
      case atStart => exact ⟨rfl, rfl⟩
      case round =>
        obtain ⟨rfl, rfl⟩ := hrel
        go_wp2_with (first
          | (at_builtin; refine wpList_append_own_none rfl _ _ _ rfl w.heap.size 3 i0 1 Tryz.underlying24 hi0 (.slice (some ⟨w.heap.size + 1, 0, none⟩) 0 0) 0 [] rfl (own_empty _ _ _ (le_alloc _ _) (by simp)) rfl ?_))
        exact bodyPost_ret (v := .agg #[.bool false, .slice (some ⟨w.heap.size + 1, 0, none⟩) 0 0]) (by simp [results, Tryz.results51, go_sem, *]) rfl ⟨⟨_, _, _, _, rfl, by simp [vl]; exact ⟨by simp, by simp [dgs_0], by simp [dgs_0]; exact Sl.empty _ _ _, fun a h => by cases h; simp⟩⟩, (by repeat (first | exact Below.refl _ _ | refine Below.setCell ?_ (by first | (simp; done) | (simp; omega) | omega) _ | refine Below.alloc ?_ (by first | (simp; done) | (simp; omega) | omega) _ | refine Below.drew ?_ | assumption | refine Below.trans ?_ (Below.mono (by assumption) (by first | (simp; done) | (simp; omega) | omega))))⟩
  · have HL := Lib.hid hl
    have NW := Lib.hid (fun k W (h : Below w.heap.size w W) => T.news h k)
    have TT := Lib.hid T.2.2
    have HD := Lib.hid hd
    clear hl T hd
    rcases neg
    all_goals
      go_enter Tryz.func51, Tryz.ntmps51
      go_wp2
      go_loopw [5] (fun i wr => ∃ k : Nat, k ≤ n ∧ i = .int .i64 k ∧ Hid (∀ (j : Nat) (x : Int), k ≤ j → l[j]? = some x → x = 0) ∧ wr = w.alloc (.cells #[.bool false, .slice none 0 0] 58)) (fun i _ => (intOf i).toNat)
      case atStart => exact ⟨n, Nat.le_refl _, rfl, Lib.hid (fun j x hj h => absurd (List.getElem?_eq_some_iff.1 h).1 (by rw [HL.out]; omega)), rfl⟩
      case round =>
        obtain ⟨k, hk, rfl, hz, rfl⟩ := hrel
        by_cases h0 : k = 0
        · have V := Lib.hid (fun neg => trim_val (neg := neg) (x := 0) HD.out (by rw [HL.out]; exact hk) hz.out (.inl h0))
          subst h0
          clear HL TT HD hz
          go_wp2_with (first
            | (at_builtin; refine wpList_append_own _ rfl _ _ _ rfl (w.heap.size + 1) 3 i0 (.int .i64 0) 1 8 Tryz.underlying24 hi0 hz0 hz1 hz2 rfl (by decide) (.slice (some ⟨w.heap.size + 1, 0, none⟩) 0 0) 0 [] rfl (own_empty _ _ _ (by simp) (by simp)) a (0) c ((l.take (0)).map (Value.int .i64)) rfl (by rw [List.length_map, ← (V.out true).2.2, Nat.mul_one]) (NW.out (0) _ (by repeat (first | exact Below.refl _ _ | refine Below.setCell ?_ (by first | (simp; done) | (simp; omega) | omega) _ | refine Below.alloc ?_ (by first | (simp; done) | (simp; omega) | omega) _ | refine Below.drew ?_ | assumption | refine Below.trans ?_ (Below.mono (by assumption) (by first | (simp; done) | (simp; omega) | omega))))) (ints_one _) (by unfold maxLen; omega) (by omega) (by simp) ?_
               intro v' w1 hown hgrow _
               rw [Nat.zero_add] at hown; obtain ⟨A', c', rfl, hS, hF⟩ := sl_own (l := l.take (0)) hown (V.out true).2.2 (by simp)
               have q0 : w1.cell? ⟨w.heap.size, 0, none⟩ = some (.bool false) := (World.cell?_of_block (hgrow.block w.heap.size (by first | (simp; done) | (simp; omega) | omega) (by simp [Value.ownBlock]))).trans (by simp [go_sem])
               have q1 : w1.cell? ⟨w.heap.size, 1, none⟩ = some (.slice none 0 0) := (World.cell?_of_block (hgrow.block w.heap.size (by first | (simp; done) | (simp; omega) | omega) (by simp [Value.ownBlock]))).trans (by simp [go_sem])
               have f0 : w1.frozen? ⟨w.heap.size, 0, none⟩ = false := (World.frozen?_of_block (hgrow.block w.heap.size (by first | (simp; done) | (simp; omega) | omega) (by simp [Value.ownBlock]))).trans (by simp [go_sem])
               have f1 : w1.frozen? ⟨w.heap.size, 1, none⟩ = false := (World.frozen?_of_block (hgrow.block w.heap.size (by first | (simp; done) | (simp; omega) | omega) (by simp [Value.ownBlock]))).trans (by simp [go_sem])
               have hB : Below w.heap.size w w1 := Below.grown (by repeat (first | exact Below.refl _ _ | refine Below.setCell ?_ (by first | (simp; done) | (simp; omega) | omega) _ | refine Below.alloc ?_ (by first | (simp; done) | (simp; omega) | omega) _ | refine Below.drew ?_ | assumption | refine Below.trans ?_ (Below.mono (by assumption) (by first | (simp; done) | (simp; omega) | omega)))) hgrow (by first | (simp; done) | (simp; omega) | omega) (fun j hj => by simp [Value.ownBlock] at hj; omega)
               have HS := Lib.hid (And.intro hS hF)
               clear hown hgrow hS hF))
          first
            | (refine bodyPost_ret (v := .agg #[.bool false, .slice A' 0 c']) ?_ rfl ?_; (focus (simp [results, Tryz.results51, go_sem, *]; done)))
            | (refine bodyPost_ret (v := .agg #[.bool true, .slice A' 0 c']) ?_ rfl ?_; (focus (simp [results, Tryz.results51, go_sem, *]; done)))
          refine ⟨⟨_, _, _, _, rfl, ?_⟩, (by repeat (first | exact Below.refl _ _ | refine Below.setCell ?_ (by first | (simp; done) | (simp; omega) | omega) _ | refine Below.alloc ?_ (by first | (simp; done) | (simp; omega) | omega) _ | refine Below.drew ?_ | assumption | refine Below.trans ?_ (Below.mono (by assumption) (by first | (simp; done) | (simp; omega) | omega))))⟩
          refine Pt.mono (base := w.heap.size + 1) ?_ (by omega)
          refine Pt.setCell ?_ _ (by simp)
          refine Pt.setCell ?_ _ (by simp)
          first
            | exact pt_mk (V.out false).1 (V.out false).2.2 (by have := (V.out false).2.1; simpa using this) HS.out.1 HS.out.2
            | exact pt_mk (V.out true).1 (V.out true).2.2 (by have := (V.out true).2.1; simpa using this) HS.out.1 HS.out.2
        · obtain ⟨k, rfl⟩ : ∃ j, k = j + 1 := ⟨k - 1, by omega⟩
          obtain ⟨x, hx⟩ : ∃ x, l[k]? = some x := ⟨_, List.getElem?_eq_getElem (by rw [HL.out]; omega)⟩
          obtain ⟨b, off, hA, hb, hc⟩ := TT.out k x hx
          injection hA with hA; subst hA
          by_cases hx0 : x = 0
          · have hz' : Hid (∀ (j : Nat) (x : Int), k ≤ j → l[j]? = some x → x = 0) := Lib.hid (fun j y hj hy => by
              rcases Nat.lt_or_ge k j with h1 | h1
              · exact hz.out j y h1 hy
              · have : j = k := by omega
                subst this; rw [hx] at hy; injection hy with e; omega)
            subst hx0
            clear HL HD NW TT
            go_wp2
            go_roundw
            case rel => exact ⟨k, by omega, by go_num, hz', trivial⟩
            case measure => first | (simp [intOf]; done) | (simp [intOf]; omega)
          · have V := Lib.hid (fun neg => trim_val (neg := neg) HD.out (by rw [HL.out]; exact hk) hz.out (.inr ⟨hx, hx0⟩))
            clear HL TT HD hz
            go_wp2_with (first
              | (at_builtin; refine wpList_append_own _ rfl _ _ _ rfl (w.heap.size + 1) 3 i0 (.int .i64 0) 1 8 Tryz.underlying24 hi0 hz0 hz1 hz2 rfl (by decide) (.slice (some ⟨w.heap.size + 1, 0, none⟩) 0 0) 0 [] rfl (own_empty _ _ _ (by simp) (by simp)) ⟨b, off, none⟩ (k + 1) c ((l.take (k + 1)).map (Value.int .i64)) rfl (by rw [List.length_map, ← (V.out true).2.2, Nat.mul_one]) (NW.out (k + 1) _ (by repeat (first | exact Below.refl _ _ | refine Below.setCell ?_ (by first | (simp; done) | (simp; omega) | omega) _ | refine Below.alloc ?_ (by first | (simp; done) | (simp; omega) | omega) _ | refine Below.drew ?_ | assumption | refine Below.trans ?_ (Below.mono (by assumption) (by first | (simp; done) | (simp; omega) | omega))))) (ints_one _) (by unfold maxLen; omega) (by omega) (by simp) ?_
                 intro v' w1 hown hgrow _
                 rw [Nat.zero_add] at hown; obtain ⟨A', c', rfl, hS, hF⟩ := sl_own (l := l.take (k + 1)) hown (V.out true).2.2 (by simp)
                 have q0 : w1.cell? ⟨w.heap.size, 0, none⟩ = some (.bool false) := (World.cell?_of_block (hgrow.block w.heap.size (by first | (simp; done) | (simp; omega) | omega) (by simp [Value.ownBlock]))).trans (by simp [go_sem])
                 have q1 : w1.cell? ⟨w.heap.size, 1, none⟩ = some (.slice none 0 0) := (World.cell?_of_block (hgrow.block w.heap.size (by first | (simp; done) | (simp; omega) | omega) (by simp [Value.ownBlock]))).trans (by simp [go_sem])
                 have f0 : w1.frozen? ⟨w.heap.size, 0, none⟩ = false := (World.frozen?_of_block (hgrow.block w.heap.size (by first | (simp; done) | (simp; omega) | omega) (by simp [Value.ownBlock]))).trans (by simp [go_sem])
                 have f1 : w1.frozen? ⟨w.heap.size, 1, none⟩ = false := (World.frozen?_of_block (hgrow.block w.heap.size (by first | (simp; done) | (simp; omega) | omega) (by simp [Value.ownBlock]))).trans (by simp [go_sem])
                 have hB : Below w.heap.size w w1 := Below.grown (by repeat (first | exact Below.refl _ _ | refine Below.setCell ?_ (by first | (simp; done) | (simp; omega) | omega) _ | refine Below.alloc ?_ (by first | (simp; done) | (simp; omega) | omega) _ | refine Below.drew ?_ | assumption | refine Below.trans ?_ (Below.mono (by assumption) (by first | (simp; done) | (simp; omega) | omega)))) hgrow (by first | (simp; done) | (simp; omega) | omega) (fun j hj => by simp [Value.ownBlock] at hj; omega)
                 have HS := Lib.hid (And.intro hS hF)
                 clear hown hgrow hS hF))
            first
              | (refine bodyPost_ret (v := .agg #[.bool false, .slice A' (k + 1) c']) ?_ rfl ?_; (focus (simp [results, Tryz.results51, go_sem, *]; done)))
              | (refine bodyPost_ret (v := .agg #[.bool true, .slice A' (k + 1) c']) ?_ rfl ?_; (focus (simp [results, Tryz.results51, go_sem, *]; done)))
            refine ⟨⟨_, _, _, _, rfl, ?_⟩, (by repeat (first | exact Below.refl _ _ | refine Below.setCell ?_ (by first | (simp; done) | (simp; omega) | omega) _ | refine Below.alloc ?_ (by first | (simp; done) | (simp; omega) | omega) _ | refine Below.drew ?_ | assumption | refine Below.trans ?_ (Below.mono (by assumption) (by first | (simp; done) | (simp; omega) | omega))))⟩
            refine Pt.mono (base := w.heap.size + 1) ?_ (by omega)
            refine Pt.setCell ?_ _ (by simp)
            refine Pt.setCell ?_ _ (by simp)
            first
              | exact pt_mk (V.out false).1 (V.out false).2.2 (by have := (V.out false).2.1; simpa using this) HS.out.1 HS.out.2
              | exact pt_mk (V.out true).1 (V.out true).2.2 (by have := (V.out true).2.1; simpa using this) HS.out.1 HS.out.2
/-- trim, of the digits of a number. -/
theorem trim_dgs (neg : Bool) (m : Nat) (z : Int) (hz : (if neg then -(m : Int) else m) = z) (A : Option Addr) (n c : Nat) (l : List Int) (hl : l.length = n) (hn : n ≤ 1000) (hd : Dgt l) (hv : vl l = m) (w : World) (T : Sl w A c l) :
    Calls Tryz.prog 51 #[.bool neg, .slice A n c] w fun e w' => Res w.heap.size w' e z ∧ Below w.heap.size w w' := by
  have := trim_any neg A n c l hl hn hd w T
  rw [hv, hz] at this; exact this
theorem Sl.len {w : World} {s : Bool} {A : Option Addr} {n c base : Nat} {z : Int} (T : Pt base w s A n c z) : (dgs z.natAbs).length = n := T.2.1.symm
theorem push_cell {wr w1 : World} {o : Obj} {row : Option Nat} {a : Addr} {u : Value} (hg : (wr.alloc o).grownBy w1 row) (h : wr.cell? a = some u) (hn : some a.block ≠ row) : w1.cell? a = some u := by
  refine hg.cell ?_ hn
  have hb := World.block_lt_of_cell? wr a h
  rw [World.cell?_of_block (Below.heap_alloc wr o a.block hb)]; exact h
theorem push_frozen {wr w1 : World} {o : Obj} {row : Option Nat} {a : Addr} {u : Bool} (hg : (wr.alloc o).grownBy w1 row) (h : wr.frozen? a = u) (hb : a.block < wr.heap.size) (hn : some a.block ≠ row) : w1.frozen? a = u := by
  rw [World.frozen?_of_block (hg.block a.block (Nat.lt_of_lt_of_le hb (le_alloc _ _)) hn), World.frozen?_of_block (Below.heap_alloc wr o a.block hb)]; exact h
end Go.Proofs.YtakfjdnpfhcgkaaGreatDoor
