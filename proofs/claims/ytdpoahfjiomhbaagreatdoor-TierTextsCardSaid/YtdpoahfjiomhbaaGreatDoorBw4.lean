/-
  Contract of exref.sub.
-/
import Derived.Test.YtdpoahfjiomhbaaGreatDoorBw1
namespace Go.Proofs.YtdpoahfjiomhbaaGreatDoor
set_option linter.all false
open Go.RowKit Go.Sort
attribute [local go_sem] cell_set_self lt_1 lt_2 lt_3 lt_4 lt_5 lt_6

/-- One round: the digit and what is borrowed. -/
theorem sub_round {a b out L : List Int} {k : Nat} {c x y X : Int} (hc : 0 ≤ c ∧ c ≤ 1) (da : Dgt a) (db : Dgt b) (hx : a[k]? = some x) (hy : b.getD k 0 = y) (e : out ++ subL (a.drop k) (b.drop k) c = L) (hX : x - c - y = X) :
    (0 ≤ x ∧ x < 10000) ∧ (0 ≤ y ∧ y < 10000) ∧ (X < 0 → (out ++ [X + 10000]) ++ subL (a.drop (k + 1)) (b.drop (k + 1)) 1 = L) ∧ (¬ X < 0 → (out ++ [X]) ++ subL (a.drop (k + 1)) (b.drop (k + 1)) 0 = L) := by
  have bx := da.at_ hx
  have by_ : 0 ≤ y ∧ y < 10000 := by
    rw [← hy, List.getD_eq_getElem?_getD]
    cases g : b[k]? with
    | none => simp
    | some z => simpa using db.at_ g
  rw [subL_step hx, hy, hX] at e
  refine ⟨bx, by_, fun h => ?_, fun h => ?_⟩
  · rw [if_pos h] at e; rw [← e, List.append_assoc]; rfl
  · rw [if_neg h] at e; rw [← e, List.append_assoc]; rfl

set_option maxHeartbeats 4000000 in
set_option maxRecDepth 100000 in
theorem sub_any (A B : Option Addr) (a b : List Int) (p q ca cb : Nat) (hp : a.length = p) (hq : b.length = q) (hpn : p ≤ 1000) (hqn : q ≤ 1000) (da : Dgt a) (db : Dgt b) (w : World) (S : Sl w A ca a) (T : Sl w B cb b) :
    Calls Tryz.prog 133 #[.slice A p ca, .slice B q cb] w fun e w' => (∃ C c, e = .returned (.slice C (subL a b 0).length c) ∧ Sl w' C c (subL a b 0)) ∧ Below w.heap.size w w' := by
  obtain ⟨i0, hi0, hz0, hz1, hz2⟩ := info_parts Tryz.infoInt
  have HP := Lib.hid hp; have HQ := Lib.hid hq; have DA := Lib.hid da; have DB := Lib.hid db
  have S := S.2.2; have T := T.2.2
  obtain ⟨L, hLL⟩ : ∃ L, subL a b 0 = L := ⟨_, rfl⟩
  rw [hLL]
  have HLL := Lib.hid hLL
  clear hp hq da db hLL
  go_enter Tryz.func133, Tryz.ntmps133
  go_wp2
  go_loopw [5, 6, 7] (fun u c i wr => ∃ (k : Nat) (cr : Int) (out : List Int) (v : Value), k ≤ p ∧ i = .int .i64 k ∧ c = .int .i64 cr ∧ v = u ∧ 0 ≤ cr ∧ cr ≤ 1 ∧ Hid (out ++ subL (a.drop k) (b.drop k) cr = L ∧ out.length = k) ∧ wr.ownsRow w.heap.size 3 1 v k (out.map (Value.int .i64)) ∧ Below w.heap.size w wr) (fun _ _ i _ => p - (intOf i).toNat)
  case atStart => exact ⟨0, 0, [], _, by omega, rfl, rfl, rfl, by omega, by omega, Lib.hid ⟨HLL.out, rfl⟩, World.ownsRow_nil _ _ _ _, (by repeat (first | exact Below.refl _ _ | refine Below.setCell ?_ (by first | (simp; done) | (simp; omega) | omega) _ | refine Below.alloc ?_ (by first | (simp; done) | (simp; omega) | omega) _ | refine Below.drew ?_ | assumption | refine Below.trans ?_ (Below.mono (by assumption) (by first | (simp; done) | (simp; omega) | omega))))⟩
  case round =>
    obtain ⟨k, cr, out, v, hk, rfl, rfl, hv, hc0, hc1, he, hown, hB⟩ := hrel; subst hv
    have hs9 := hB.size
    have LT := Lib.hid hown.lt
    have B9 := Below.alloc hB hs9
    by_cases hend : k = p
    · have eL : out = L := by
        have := he.out.1
        rw [List.drop_eq_nil_of_le (by rw [HP.out]; omega)] at this
        simpa [subL] using this
      have ek := he.out.2
      subst eL; subst ek
      obtain ⟨C, c, rfl, hS, _⟩ := sl_own (l := out) hown rfl rfl
      have HS := Lib.hid hS
      have hnp : ¬ out.length < p := by omega
      clear hown LT B9 he HP HQ DA DB S T hS HLL hend
      go_wp2
      go_ret
      exact ⟨⟨C, c, rfl, HS.out⟩, (by repeat (first | exact Below.refl _ _ | refine Below.setCell ?_ (by first | (simp; done) | (simp; omega) | omega) _ | refine Below.alloc ?_ (by first | (simp; done) | (simp; omega) | omega) _ | refine Below.drew ?_ | assumption | refine Below.trans ?_ (Below.mono (by assumption) (by first | (simp; done) | (simp; omega) | omega))))⟩
    · have ka : k < p := by omega
      obtain ⟨x, hx⟩ : ∃ x, a[k]? = some x := ⟨_, List.getElem?_eq_getElem (by rw [HP.out]; exact ka)⟩
      obtain ⟨g, off, rfl, hb, hc⟩ := S k x hx
      have q0 := (hB.cell (p := ⟨g, off + k, none⟩) hb).trans hc
      have R := fun y X hy hX => sub_round (y := y) (X := X) ⟨hc0, hc1⟩ DA.out DB.out hx hy he.out.1 hX
      have ol := he.out.2
      have OW := Lib.hid hown
      by_cases kb : k < q
      · obtain ⟨y, hy⟩ : ∃ y, b[k]? = some y := ⟨_, List.getElem?_eq_getElem (by rw [HQ.out]; exact kb)⟩
        obtain ⟨g', off', rfl, hb', hc'⟩ := T k y hy
        have q1 := (hB.cell (p := ⟨g', off' + k, none⟩) hb').trans hc'
        obtain ⟨⟨bx0, bx1⟩, ⟨by0, by1⟩, l1, l2⟩ := R y (x - cr - y) (by rw [List.getD_eq_getElem?_getD, hy]; rfl) rfl
        clear R hend he hown S T hc hc' hx hy HP HQ DA DB HLL
        by_cases hX : x - cr - y < 0
        · have HL := Lib.hid (l1 hX)
          clear l1 l2
          go_wp2_with (first | (at_builtin; refine wpList_append_lies _ rfl _ _ _ rfl (w.heap.size) 3 i0 _ 1 8 Tryz.underlying42 hi0 hz0 hz1 hz2 rfl (by decide) v (k) _ rfl (OW.out.alloc _) ⟨wr.heap.size, 0, none⟩ 1 1 [.int .i64 (x - cr - y + 10000)] rfl rfl (World.news_of_block (cs := #[.int .i64 (x - cr - y + 10000)]) (t := 3) (fr := (0, 0)) (heap_alloc_new wr _)) (by simp [Value.oneCell']) (by omega) (by unfold maxLen; omega) (by omega) (by simp; omega) (wr.heap.size + 1) (by simp) ?_; intro gg cap w1' hown1 hgrow hat hlt'))
          go_roundw
          case rel => exact ⟨k + 1, 1, out ++ [x - cr - y + 10000], _, by omega, by go_num, rfl, rfl, by omega, by omega, Lib.hid ⟨HL.out, by simp [ol]⟩, by simpa using hown1, Below.grown (B9 _) hgrow (by simp; omega) (fun j hj => (LT.out j hj).1)⟩
          case measure => first | (simp [intOf]; done) | (simp [intOf]; omega)
        · have HL := Lib.hid (l2 hX)
          clear l1 l2
          go_wp2_with (first | (at_builtin; refine wpList_append_lies _ rfl _ _ _ rfl (w.heap.size) 3 i0 _ 1 8 Tryz.underlying42 hi0 hz0 hz1 hz2 rfl (by decide) v (k) _ rfl (OW.out.alloc _) ⟨wr.heap.size, 0, none⟩ 1 1 [.int .i64 (x - cr - y)] rfl rfl (World.news_of_block (cs := #[.int .i64 (x - cr - y)]) (t := 3) (fr := (0, 0)) (heap_alloc_new wr _)) (by simp [Value.oneCell']) (by omega) (by unfold maxLen; omega) (by omega) (by simp; omega) (wr.heap.size + 1) (by simp) ?_; intro gg cap w1' hown1 hgrow hat hlt'))
          go_roundw
          case rel => exact ⟨k + 1, 0, out ++ [x - cr - y], _, by omega, by go_num, rfl, rfl, by omega, by omega, Lib.hid ⟨HL.out, by simp [ol]⟩, by simpa using hown1, Below.grown (B9 _) hgrow (by simp; omega) (fun j hj => (LT.out j hj).1)⟩
          case measure => first | (simp [intOf]; done) | (simp [intOf]; omega)
      · obtain ⟨⟨bx0, bx1⟩, _, l1, l2⟩ := R 0 (x - cr) (by rw [List.getD_eq_getElem?_getD, List.getElem?_eq_none (by rw [HQ.out]; omega)]; rfl) (by omega)
        clear R hend he hown S T hc hx HP HQ DA DB HLL
        by_cases hX : x - cr < 0
        · have HL := Lib.hid (l1 hX)
          clear l1 l2
          go_wp2_with (first | (at_builtin; refine wpList_append_lies _ rfl _ _ _ rfl (w.heap.size) 3 i0 _ 1 8 Tryz.underlying42 hi0 hz0 hz1 hz2 rfl (by decide) v (k) _ rfl (OW.out.alloc _) ⟨wr.heap.size, 0, none⟩ 1 1 [.int .i64 (x - cr + 10000)] rfl rfl (World.news_of_block (cs := #[.int .i64 (x - cr + 10000)]) (t := 3) (fr := (0, 0)) (heap_alloc_new wr _)) (by simp [Value.oneCell']) (by omega) (by unfold maxLen; omega) (by omega) (by simp; omega) (wr.heap.size + 1) (by simp) ?_; intro gg cap w1' hown1 hgrow hat hlt'))
          go_roundw
          case rel => exact ⟨k + 1, 1, out ++ [x - cr + 10000], _, by omega, by go_num, rfl, rfl, by omega, by omega, Lib.hid ⟨HL.out, by simp [ol]⟩, by simpa using hown1, Below.grown (B9 _) hgrow (by simp; omega) (fun j hj => (LT.out j hj).1)⟩
          case measure => first | (simp [intOf]; done) | (simp [intOf]; omega)
        · have HL := Lib.hid (l2 hX)
          clear l1 l2
          go_wp2_with (first | (at_builtin; refine wpList_append_lies _ rfl _ _ _ rfl (w.heap.size) 3 i0 _ 1 8 Tryz.underlying42 hi0 hz0 hz1 hz2 rfl (by decide) v (k) _ rfl (OW.out.alloc _) ⟨wr.heap.size, 0, none⟩ 1 1 [.int .i64 (x - cr)] rfl rfl (World.news_of_block (cs := #[.int .i64 (x - cr)]) (t := 3) (fr := (0, 0)) (heap_alloc_new wr _)) (by simp [Value.oneCell']) (by omega) (by unfold maxLen; omega) (by omega) (by simp; omega) (wr.heap.size + 1) (by simp) ?_; intro gg cap w1' hown1 hgrow hat hlt'))
          go_roundw
          case rel => exact ⟨k + 1, 0, out ++ [x - cr], _, by omega, by go_num, rfl, rfl, by omega, by omega, Lib.hid ⟨HL.out, by simp [ol]⟩, by simpa using hown1, Below.grown (B9 _) hgrow (by simp; omega) (fun j hj => (LT.out j hj).1)⟩
          case measure => first | (simp [intOf]; done) | (simp [intOf]; omega)
end Go.Proofs.YtdpoahfjiomhbaaGreatDoor
