/-
  Contract of exref.sub.
-/
import Derived.Test.YtakfjdnpfhcgkaaGreatDoorBw1
import Derived.Deep.QuietTactic
import Derived.BigQuiet
/-
  Contract of exref.cmp.
-/
namespace Go.Proofs.YtakfjdnpfhcgkaaGreatDoor
set_option linter.all false
open Go.RowKit Go.Sort
attribute [local go_sem] cell_set_self lt_1 lt_2 lt_3 lt_4 lt_5 lt_6

theorem below_drewN {B : Nat} {a w : World} (h : Below B a w) (n : Nat) : Below B a (w.drewN n) := h.trans ⟨rfl, rfl, rfl, Nat.le_refl _, fun _ _ => rfl⟩
theorem cmp_less {m n j : Nat} {x y : Int} (hx : (dgs m)[j]? = some x) (hy : (dgs n)[j]? = some y) (hd : (dgs m).drop (j + 1) = (dgs n).drop (j + 1)) (h : x < y) : m < n := by
  have := cmp_lt (dgs_dig m) (dgs_dig n) hx hy hd h
  rw [vl_dgs, vl_dgs] at this; omega
theorem cmp_same {m n : Nat} (hd : (dgs m).drop 0 = (dgs n).drop 0) : m = n := by
  have a := vl_dgs m; have b := vl_dgs n
  simp at hd; rw [hd, b] at a; omega
theorem cmpN_lt {m n : Nat} (h : m < n) : cmpN m n = -1 := if_pos h
theorem cmpN_gt {m n : Nat} (h : n < m) : cmpN m n = 1 := by unfold cmpN; rw [if_neg (by omega), if_pos h]
theorem cmpN_eq {m n : Nat} (h : m = n) : cmpN m n = 0 := by unfold cmpN; rw [if_neg (by omega), if_neg (by omega)]
theorem drop_at {a b : List Int} {j : Nat} {x : Int} (ha : a[j]? = some x) (hb : b[j]? = some x) (h : a.drop (j + 1) = b.drop (j + 1)) : a.drop j = b.drop j := by
  obtain ⟨h1, e1⟩ := List.getElem?_eq_some_iff.1 ha
  obtain ⟨h2, e2⟩ := List.getElem?_eq_some_iff.1 hb
  rw [List.drop_eq_getElem_cons h1, List.drop_eq_getElem_cons h2, e1, e2, h]

set_option maxHeartbeats 2000000 in
set_option maxRecDepth 100000 in
theorem cmp_any (A B : Option Addr) (m n p q ca cb : Nat) (hp : (dgs m).length = p) (hq : (dgs n).length = q) (hpn : p ≤ 1000) (hqn : q ≤ 1000) (w : World) (S : Sl w A ca (dgs m)) (T : Sl w B cb (dgs n)) :
    Calls Tryz.prog 55 #[.slice A p ca, .slice B q cb] w fun e w' => e = .returned (.int .i64 (cmpN m n)) ∧ Below w.heap.size w w' := by
  rcases Nat.lt_trichotomy p q with h | h | h
  · rw [cmpN_lt (len_lt (by rw [hp, hq]; exact h))]
    clear S T hp hq
    go_enter Tryz.func55, Tryz.ntmps55
    go_wp2
    go_ret
    exact ⟨rfl, (by repeat (first | exact Below.refl _ _ | refine Below.setCell ?_ (by first | (simp; done) | (simp; omega) | omega) _ | refine Below.alloc ?_ (by first | (simp; done) | (simp; omega) | omega) _ | refine below_drewN ?_ _ | refine Below.drew ?_ | assumption | refine Below.trans ?_ (Below.mono (by assumption) (by first | (simp; done) | (simp; omega) | omega))))⟩
  · subst h
    have HP := Lib.hid hp; have HQ := Lib.hid hq
    have S := S.2.2; have T := T.2.2
    clear hp hq
    go_enter Tryz.func55, Tryz.ntmps55
    go_wp2
    go_loopw [5] (fun i wr => ∃ (k : Nat) (z : Int), k ≤ p ∧ z = k - 1 ∧ i = .int .i64 z ∧ Hid ((dgs m).drop k = (dgs n).drop k) ∧ Below w.heap.size w wr) (fun i _ => (intOf i + 1).toNat)
    case atStart => exact ⟨p, (p : Int) - 1, Nat.le_refl _, rfl, rfl, Lib.hid (by rw [List.drop_eq_nil_of_le (by rw [HP.out]; exact Nat.le_refl _), List.drop_eq_nil_of_le (by rw [HQ.out]; exact Nat.le_refl _)]), (by repeat (first | exact Below.refl _ _ | refine Below.setCell ?_ (by first | (simp; done) | (simp; omega) | omega) _ | refine Below.alloc ?_ (by first | (simp; done) | (simp; omega) | omega) _ | refine below_drewN ?_ _ | refine Below.drew ?_ | assumption | refine Below.trans ?_ (Below.mono (by assumption) (by first | (simp; done) | (simp; omega) | omega))))⟩
    case round =>
      obtain ⟨k, z, hk, hz, rfl, hd, hB⟩ := hrel
      rcases Nat.eq_zero_or_pos k with h0 | h0
      · subst h0
        have hz' : z = -1 := by omega
        subst hz'
        have E := Lib.hid (cmpN_eq (cmp_same hd.out))
        clear hz S T HP HQ hd
        go_wp2
        go_ret
        exact ⟨ret_int E.out.symm, (by repeat (first | exact Below.refl _ _ | refine Below.setCell ?_ (by first | (simp; done) | (simp; omega) | omega) _ | refine Below.alloc ?_ (by first | (simp; done) | (simp; omega) | omega) _ | refine below_drewN ?_ _ | refine Below.drew ?_ | assumption | refine Below.trans ?_ (Below.mono (by assumption) (by first | (simp; done) | (simp; omega) | omega))))⟩
      · obtain ⟨j, rfl⟩ : ∃ j, k = j + 1 := ⟨k - 1, by omega⟩
        have hz' : z = (j : Int) := by omega
        subst hz'
        clear hz
        obtain ⟨x, hx⟩ : ∃ x, (dgs m)[j]? = some x := ⟨_, List.getElem?_eq_getElem (by rw [HP.out]; omega)⟩
        obtain ⟨y, hy⟩ : ∃ y, (dgs n)[j]? = some y := ⟨_, List.getElem?_eq_getElem (by rw [HQ.out]; omega)⟩
        obtain ⟨b, off, rfl, hb, hc⟩ := S j x hx
        obtain ⟨b', off', rfl, hb', hc'⟩ := T j y hy
        have q0 := (hB.cell (p := ⟨b, off + j, none⟩) hb).trans hc
        have q1 := (hB.cell (p := ⟨b', off' + j, none⟩) hb').trans hc'
        have HX := Lib.hid hx; have HY := Lib.hid hy
        clear hx hy S T hc hc' HP HQ
        have j0 : (j : Int) < (p : Int) := by omega
        rcases Int.lt_trichotomy x y with h | h | h
        · have E := Lib.hid (cmpN_lt (cmp_less HX.out HY.out hd.out h))
          go_wp2
          go_quiet (fail)
          go_wp2
          go_ret
          exact ⟨ret_int E.out.symm, (by repeat (first | exact Below.refl _ _ | refine Below.setCell ?_ (by first | (simp; done) | (simp; omega) | omega) _ | refine Below.alloc ?_ (by first | (simp; done) | (simp; omega) | omega) _ | refine below_drewN ?_ _ | refine Below.drew ?_ | assumption | refine Below.trans ?_ (Below.mono (by assumption) (by first | (simp; done) | (simp; omega) | omega))))⟩
        · subst h
          have hd2 := Lib.hid (drop_at HX.out HY.out hd.out)
          go_wp2
          go_quiet (fail)
          go_wp2
          go_quiet (fail)
          go_wp2
          go_roundw
          case rel => exact ⟨j, (j : Int) - 1, by omega, rfl, rfl, hd2, (by repeat (first | exact Below.refl _ _ | refine Below.setCell ?_ (by first | (simp; done) | (simp; omega) | omega) _ | refine Below.alloc ?_ (by first | (simp; done) | (simp; omega) | omega) _ | refine below_drewN ?_ _ | refine Below.drew ?_ | assumption | refine Below.trans ?_ (Below.mono (by assumption) (by first | (simp; done) | (simp; omega) | omega))))⟩
          case measure => first | (simp [intOf]; done) | (simp [intOf]; omega)
        · have E := Lib.hid (cmpN_gt (cmp_less HY.out HX.out hd.out.symm h))
          go_wp2
          go_quiet (fail)
          go_wp2
          go_quiet (fail)
          go_wp2
          go_ret
          exact ⟨ret_int E.out.symm, (by repeat (first | exact Below.refl _ _ | refine Below.setCell ?_ (by first | (simp; done) | (simp; omega) | omega) _ | refine Below.alloc ?_ (by first | (simp; done) | (simp; omega) | omega) _ | refine below_drewN ?_ _ | refine Below.drew ?_ | assumption | refine Below.trans ?_ (Below.mono (by assumption) (by first | (simp; done) | (simp; omega) | omega))))⟩
  · rw [cmpN_gt (len_lt (by rw [hp, hq]; exact h))]
    clear S T hp hq
    go_enter Tryz.func55, Tryz.ntmps55
    go_wp2
    go_ret
    exact ⟨rfl, (by repeat (first | exact Below.refl _ _ | refine Below.setCell ?_ (by first | (simp; done) | (simp; omega) | omega) _ | refine Below.alloc ?_ (by first | (simp; done) | (simp; omega) | omega) _ | refine below_drewN ?_ _ | refine Below.drew ?_ | assumption | refine Below.trans ?_ (Below.mono (by assumption) (by first | (simp; done) | (simp; omega) | omega))))⟩
end Go.Proofs.YtakfjdnpfhcgkaaGreatDoor

/-
  Contract of exref.add.
-/
namespace Go.Proofs.YtakfjdnpfhcgkaaGreatDoor
set_option linter.all false
open Go.RowKit Go.Sort
attribute [local go_sem] cell_set_self lt_1 lt_2 lt_3 lt_4 lt_5 lt_6

theorem tmod_pos {x : Int} (h : 0 ≤ x) (d : Int) : x.tmod d = x % d := Int.tmod_eq_emod_of_nonneg h
theorem tdiv_pos {x : Int} (h : 0 ≤ x) (d : Int) : x.tdiv d = x / d := Int.tdiv_eq_ediv_of_nonneg h
/-- One round: the digit and the carry. -/
theorem add_round {a b out L : List Int} {k : Nat} {c x y X : Int} (hc : 0 ≤ c ∧ c ≤ 1) (h : k < a.length ∨ k < b.length ∨ 0 < c) (da : Dgt a) (db : Dgt b) (hx : a.getD k 0 = x) (hy : b.getD k 0 = y) (e : out ++ addL (a.drop k) (b.drop k) c = L) (hX : X = c + x + y) :
    ∃ r c', X.tmod 10000 = r ∧ X.tdiv 10000 = c' ∧ 0 ≤ c' ∧ c' ≤ 1 ∧ 0 ≤ X ∧ (X ≤ 20000 ∧ 10000 * c' ≤ X) ∧ (0 ≤ x ∧ x < 10000) ∧ (0 ≤ y ∧ y < 10000) ∧ (out ++ [r]) ++ addL (a.drop (k + 1)) (b.drop (k + 1)) c' = L := by
  have bx : 0 ≤ x ∧ x < 10000 := by
    rw [← hx, List.getD_eq_getElem?_getD]
    cases g : a[k]? with
    | none => simp
    | some z => simpa using da.at_ g
  have by_ : 0 ≤ y ∧ y < 10000 := by
    rw [← hy, List.getD_eq_getElem?_getD]
    cases g : b[k]? with
    | none => simp
    | some z => simpa using db.at_ g
  refine ⟨X % 10000, X / 10000, tmod_pos (by omega) _, tdiv_pos (by omega) _, by omega, by omega, by omega, by omega, bx, by_, ?_⟩
  rw [← e, addL_step hc h, hx, hy, ← hX, List.append_assoc]; rfl

set_option maxHeartbeats 4000000 in
set_option maxRecDepth 100000 in
theorem add_any (A B : Option Addr) (a b : List Int) (p q ca cb : Nat) (hp : a.length = p) (hq : b.length = q) (hpn : p ≤ 1000) (hqn : q ≤ 1000) (da : Dgt a) (db : Dgt b) (w : World) (S : Sl w A ca a) (T : Sl w B cb b) :
    Calls Tryz.prog 96 #[.slice A p ca, .slice B q cb] w fun e w' => (∃ C c, e = .returned (.slice C (addL a b 0).length c) ∧ Sl w' C c (addL a b 0)) ∧ Below w.heap.size w w' := by
  obtain ⟨i0, hi0, hz0, hz1, hz2⟩ := info_parts Tryz.infoInt
  have HP := Lib.hid hp; have HQ := Lib.hid hq; have DA := Lib.hid da; have DB := Lib.hid db
  have S := S.2.2; have T := T.2.2
  obtain ⟨L, hLL⟩ : ∃ L, addL a b 0 = L := ⟨_, rfl⟩
  rw [hLL]
  have HLL := Lib.hid hLL
  clear hp hq da db hLL
  go_enter Tryz.func96, Tryz.ntmps96
  go_wp2
  go_loopw [5, 6, 7] (fun u c i wr => ∃ (k : Nat) (cr : Int) (out : List Int) (v : Value), k ≤ 1001 ∧ i = .int .i64 k ∧ c = .int .i64 cr ∧ v = u ∧ 0 ≤ cr ∧ cr ≤ 1 ∧ (k = 1001 → cr = 0) ∧ Hid (out ++ addL (a.drop k) (b.drop k) cr = L ∧ out.length = k) ∧ wr.ownsRow w.heap.size 3 1 v k (out.map (Value.int .i64)) ∧ Below w.heap.size w wr) (fun _ _ i _ => 1002 - (intOf i).toNat)
  case atStart => exact ⟨0, 0, [], _, by omega, rfl, rfl, rfl, by omega, by omega, by omega, Lib.hid ⟨HLL.out, rfl⟩, World.ownsRow_nil _ _ _ _, (by repeat (first | exact Below.refl _ _ | refine Below.setCell ?_ (by first | (simp; done) | (simp; omega) | omega) _ | refine Below.alloc ?_ (by first | (simp; done) | (simp; omega) | omega) _ | refine Below.drew ?_ | assumption | refine Below.trans ?_ (Below.mono (by assumption) (by first | (simp; done) | (simp; omega) | omega))))⟩
  case round =>
    obtain ⟨k, cr, out, v, hk, rfl, rfl, hv, hc0, hc1, hck, he, hown, hB⟩ := hrel; subst hv
    have hs9 := hB.size
    have LT := Lib.hid hown.lt
    have B9 := Below.alloc hB hs9
    by_cases hend : p ≤ k ∧ q ≤ k ∧ cr = 0
    · obtain ⟨h1, h2, rfl⟩ := hend
      have eL : out = L := by
        have := he.out.1
        rw [List.drop_eq_nil_of_le (by rw [HP.out]; exact h1), List.drop_eq_nil_of_le (by rw [HQ.out]; exact h2)] at this
        simpa [addL] using this
      have ek := he.out.2
      subst eL; subst ek
      obtain ⟨C, c, rfl, hS, _⟩ := sl_own (l := out) hown rfl rfl
      have HS := Lib.hid hS
      clear hown LT B9 he HP HQ DA DB S T hS HLL
      go_wp2
      go_ret
      exact ⟨⟨C, c, rfl, HS.out⟩, (by repeat (first | exact Below.refl _ _ | refine Below.setCell ?_ (by first | (simp; done) | (simp; omega) | omega) _ | refine Below.alloc ?_ (by first | (simp; done) | (simp; omega) | omega) _ | refine Below.drew ?_ | assumption | refine Below.trans ?_ (Below.mono (by assumption) (by first | (simp; done) | (simp; omega) | omega))))⟩
    · have hne : k < a.length ∨ k < b.length ∨ 0 < cr := by rw [HP.out, HQ.out]; omega
      have R := fun x y X hx hy hX => add_round (x := x) (y := y) (X := X) ⟨hc0, hc1⟩ hne DA.out DB.out hx hy he.out.1 hX
      have ol := he.out.2
      have OW := Lib.hid hown
      have getA : ∀ x, a[k]? = some x → a.getD k 0 = x := fun x h => by rw [List.getD_eq_getElem?_getD, h]; rfl
      have getB : ∀ x, b[k]? = some x → b.getD k 0 = x := fun x h => by rw [List.getD_eq_getElem?_getD, h]; rfl
      have noA : p ≤ k → a.getD k 0 = 0 := fun h => by rw [List.getD_eq_getElem?_getD, List.getElem?_eq_none (by rw [HP.out]; exact h)]; rfl
      have noB : q ≤ k → b.getD k 0 = 0 := fun h => by rw [List.getD_eq_getElem?_getD, List.getElem?_eq_none (by rw [HQ.out]; exact h)]; rfl
      by_cases ka : k < p <;> by_cases kb : k < q
      · obtain ⟨x, hx⟩ : ∃ x, a[k]? = some x := ⟨_, List.getElem?_eq_getElem (by rw [HP.out]; exact ka)⟩
        obtain ⟨g, off, rfl, hb, hc⟩ := S k x hx
        have q0 := (hB.cell (p := ⟨g, off + k, none⟩) hb).trans hc
        obtain ⟨y, hy⟩ : ∃ y, b[k]? = some y := ⟨_, List.getElem?_eq_getElem (by rw [HQ.out]; exact kb)⟩
        obtain ⟨g', off', rfl, hb', hc'⟩ := T k y hy
        have q1 := (hB.cell (p := ⟨g', off' + k, none⟩) hb').trans hc'
        obtain ⟨r, c', hr, hcd, c0', c1', hX0, ⟨hX1, hX2⟩, ⟨bx0, bx1⟩, ⟨by0, by1⟩, hL⟩ := R x y (cr + x + y) (getA x hx) (getB y hy) rfl
        have HL := Lib.hid hL
        clear R getA getB noA noB hne hend he hown S T hL hc hc' hx hy HP HQ DA DB HLL
        go_wp2_with (first | (at_builtin; refine wpList_append_lies _ rfl _ _ _ rfl (w.heap.size) 3 i0 _ 1 8 Tryz.underlying24 hi0 hz0 hz1 hz2 rfl (by decide) v (k) _ rfl (OW.out.alloc _) ⟨wr.heap.size, 0, none⟩ 1 1 [.int .i64 r] rfl rfl (World.news_of_block (cs := #[.int .i64 r]) (t := 3) (fr := (0, 0)) (heap_alloc_new wr _)) (by simp [Value.oneCell']) (by omega) (by unfold maxLen; omega) (by omega) (by simp; omega) (wr.heap.size + 1) (by simp) ?_; intro gg cap w1' hown1 hgrow hat hlt'))
        go_roundw
        case rel => exact ⟨k + 1, c', out ++ [r], _, by omega, by go_num, rfl, rfl, c0', c1', by omega, Lib.hid ⟨HL.out, by simp [ol]⟩, by simpa using hown1, Below.grown (B9 _) hgrow (by simp; omega) (fun j hj => (LT.out j hj).1)⟩
        case measure => first | (simp [intOf]; done) | (simp [intOf]; omega)
      · obtain ⟨x, hx⟩ : ∃ x, a[k]? = some x := ⟨_, List.getElem?_eq_getElem (by rw [HP.out]; exact ka)⟩
        obtain ⟨g, off, rfl, hb, hc⟩ := S k x hx
        have q0 := (hB.cell (p := ⟨g, off + k, none⟩) hb).trans hc
        obtain ⟨r, c', hr, hcd, c0', c1', hX0, ⟨hX1, hX2⟩, ⟨bx0, bx1⟩, ⟨by0, by1⟩, hL⟩ := R x 0 (cr + x) (getA x hx) (noB (by omega)) (by omega)
        have HL := Lib.hid hL
        clear R getA getB noA noB hne hend he hown S T hL hc hx HP HQ DA DB HLL
        go_wp2_with (first | (at_builtin; refine wpList_append_lies _ rfl _ _ _ rfl (w.heap.size) 3 i0 _ 1 8 Tryz.underlying24 hi0 hz0 hz1 hz2 rfl (by decide) v (k) _ rfl (OW.out.alloc _) ⟨wr.heap.size, 0, none⟩ 1 1 [.int .i64 r] rfl rfl (World.news_of_block (cs := #[.int .i64 r]) (t := 3) (fr := (0, 0)) (heap_alloc_new wr _)) (by simp [Value.oneCell']) (by omega) (by unfold maxLen; omega) (by omega) (by simp; omega) (wr.heap.size + 1) (by simp) ?_; intro gg cap w1' hown1 hgrow hat hlt'))
        go_roundw
        case rel => exact ⟨k + 1, c', out ++ [r], _, by omega, by go_num, rfl, rfl, c0', c1', by omega, Lib.hid ⟨HL.out, by simp [ol]⟩, by simpa using hown1, Below.grown (B9 _) hgrow (by simp; omega) (fun j hj => (LT.out j hj).1)⟩
        case measure => first | (simp [intOf]; done) | (simp [intOf]; omega)
      · obtain ⟨y, hy⟩ : ∃ y, b[k]? = some y := ⟨_, List.getElem?_eq_getElem (by rw [HQ.out]; exact kb)⟩
        obtain ⟨g', off', rfl, hb', hc'⟩ := T k y hy
        have q1 := (hB.cell (p := ⟨g', off' + k, none⟩) hb').trans hc'
        obtain ⟨r, c', hr, hcd, c0', c1', hX0, ⟨hX1, hX2⟩, ⟨bx0, bx1⟩, ⟨by0, by1⟩, hL⟩ := R 0 y (cr + y) (noA (by omega)) (getB y hy) (by omega)
        have HL := Lib.hid hL
        clear R getA getB noA noB hne hend he hown S T hL hc' hy HP HQ DA DB HLL
        go_wp2_with (first | (at_builtin; refine wpList_append_lies _ rfl _ _ _ rfl (w.heap.size) 3 i0 _ 1 8 Tryz.underlying24 hi0 hz0 hz1 hz2 rfl (by decide) v (k) _ rfl (OW.out.alloc _) ⟨wr.heap.size, 0, none⟩ 1 1 [.int .i64 r] rfl rfl (World.news_of_block (cs := #[.int .i64 r]) (t := 3) (fr := (0, 0)) (heap_alloc_new wr _)) (by simp [Value.oneCell']) (by omega) (by unfold maxLen; omega) (by omega) (by simp; omega) (wr.heap.size + 1) (by simp) ?_; intro gg cap w1' hown1 hgrow hat hlt'))
        go_roundw
        case rel => exact ⟨k + 1, c', out ++ [r], _, by omega, by go_num, rfl, rfl, c0', c1', by omega, Lib.hid ⟨HL.out, by simp [ol]⟩, by simpa using hown1, Below.grown (B9 _) hgrow (by simp; omega) (fun j hj => (LT.out j hj).1)⟩
        case measure => first | (simp [intOf]; done) | (simp [intOf]; omega)
      · have hcr : cr = 1 := by omega
        subst hcr
        obtain ⟨r, c', hr, hcd, c0', c1', hX0, ⟨hX1, hX2⟩, ⟨bx0, bx1⟩, ⟨by0, by1⟩, hL⟩ := R 0 0 1 (noA (by omega)) (noB (by omega)) (by omega)
        have HL := Lib.hid hL
        clear R getA getB noA noB hne hend he hown S T hL  HP HQ DA DB HLL
        go_wp2_with (first | (at_builtin; refine wpList_append_lies _ rfl _ _ _ rfl (w.heap.size) 3 i0 _ 1 8 Tryz.underlying24 hi0 hz0 hz1 hz2 rfl (by decide) v (k) _ rfl (OW.out.alloc _) ⟨wr.heap.size, 0, none⟩ 1 1 [.int .i64 r] rfl rfl (World.news_of_block (cs := #[.int .i64 r]) (t := 3) (fr := (0, 0)) (heap_alloc_new wr _)) (by simp [Value.oneCell']) (by omega) (by unfold maxLen; omega) (by omega) (by simp; omega) (wr.heap.size + 1) (by simp) ?_; intro gg cap w1' hown1 hgrow hat hlt'))
        go_roundw
        case rel => exact ⟨k + 1, c', out ++ [r], _, by omega, by go_num, rfl, rfl, c0', c1', by omega, Lib.hid ⟨HL.out, by simp [ol]⟩, by simpa using hown1, Below.grown (B9 _) hgrow (by simp; omega) (fun j hj => (LT.out j hj).1)⟩
        case measure => first | (simp [intOf]; done) | (simp [intOf]; omega)
end Go.Proofs.YtakfjdnpfhcgkaaGreatDoor

/-
  Contract of exref.sub.
-/
namespace Go.Proofs.YtakfjdnpfhcgkaaGreatDoor
set_option linter.all false
open Go.RowKit Go.Sort
attribute [local go_sem] cell_set_self lt_1 lt_2 lt_3 lt_4 lt_5 lt_6

/-- One round: the digit and what is borrowed. -/
theorem sub_round {a b out L : List Int} {k : Nat} {c x y X : Int} (hc : 0 ≤ c ∧ c ≤ 1) (da : Dgt a) (db : Dgt b) (hx : a[k]? = some x) (hy : b.getD k 0 = y) (e : out ++ subL (a.drop k) (b.drop k) c = L) (hX : x - c - y = X) :
    (0 ≤ x ∧ x < 10000) ∧ (0 ≤ y ∧ y < 10000) ∧ (X < 0 → (out ++ [X + 10000]) ++ subL (a.drop (k + 1)) (b.drop (k + 1)) 1 = L) ∧ (¬ X < 0 → (out ++ [X]) ++ subL (a.drop (k + 1)) (b.drop (k + 1)) 0 = L) := by
  have bx := da.at_ hx
  have by_ : 0 ≤ y ∧ y < 10000 := by
    rw [← hy, List.getD_eq_getElem?_getD]
    cases g : b[k]? with
    | none => simp
    | some z => simpa using db.at_ g
  rw [subL_step hx, hy, hX] at e
  refine ⟨bx, by_, fun h => ?_, fun h => ?_⟩
  · rw [if_pos h] at e; rw [← e, List.append_assoc]; rfl
  · rw [if_neg h] at e; rw [← e, List.append_assoc]; rfl

set_option maxHeartbeats 4000000 in
set_option maxRecDepth 100000 in
theorem sub_any (A B : Option Addr) (a b : List Int) (p q ca cb : Nat) (hp : a.length = p) (hq : b.length = q) (hpn : p ≤ 1000) (hqn : q ≤ 1000) (da : Dgt a) (db : Dgt b) (w : World) (S : Sl w A ca a) (T : Sl w B cb b) :
    Calls Tryz.prog 97 #[.slice A p ca, .slice B q cb] w fun e w' => (∃ C c, e = .returned (.slice C (subL a b 0).length c) ∧ Sl w' C c (subL a b 0)) ∧ Below w.heap.size w w' := by
  obtain ⟨i0, hi0, hz0, hz1, hz2⟩ := info_parts Tryz.infoInt
  have HP := Lib.hid hp; have HQ := Lib.hid hq; have DA := Lib.hid da; have DB := Lib.hid db
  have S := S.2.2; have T := T.2.2
  obtain ⟨L, hLL⟩ : ∃ L, subL a b 0 = L := ⟨_, rfl⟩
  rw [hLL]
  have HLL := Lib.hid hLL
  clear hp hq da db hLL
  go_enter Tryz.func97, Tryz.ntmps97
  go_wp2
  go_loopw [5, 6, 7] (fun u c i wr => ∃ (k : Nat) (cr : Int) (out : List Int) (v : Value), k ≤ p ∧ i = .int .i64 k ∧ c = .int .i64 cr ∧ v = u ∧ 0 ≤ cr ∧ cr ≤ 1 ∧ Hid (out ++ subL (a.drop k) (b.drop k) cr = L ∧ out.length = k) ∧ wr.ownsRow w.heap.size 3 1 v k (out.map (Value.int .i64)) ∧ Below w.heap.size w wr) (fun _ _ i _ => p - (intOf i).toNat)
  case atStart => exact ⟨0, 0, [], _, by omega, rfl, rfl, rfl, by omega, by omega, Lib.hid ⟨HLL.out, rfl⟩, World.ownsRow_nil _ _ _ _, (by repeat (first | exact Below.refl _ _ | refine Below.setCell ?_ (by first | (simp; done) | (simp; omega) | omega) _ | refine Below.alloc ?_ (by first | (simp; done) | (simp; omega) | omega) _ | refine Below.drew ?_ | assumption | refine Below.trans ?_ (Below.mono (by assumption) (by first | (simp; done) | (simp; omega) | omega))))⟩
  case round =>
    obtain ⟨k, cr, out, v, hk, rfl, rfl, hv, hc0, hc1, he, hown, hB⟩ := hrel; subst hv
    have hs9 := hB.size
    have LT := Lib.hid hown.lt
    have B9 := Below.alloc hB hs9
    by_cases hend : k = p
    · have eL : out = L := by
        have := he.out.1
        rw [List.drop_eq_nil_of_le (by rw [HP.out]; omega)] at this
        simpa [subL] using this
      have ek := he.out.2
      subst eL; subst ek
      obtain ⟨C, c, rfl, hS, _⟩ := sl_own (l := out) hown rfl rfl
      have HS := Lib.hid hS
      have hnp : ¬ out.length < p := by omega
      clear hown LT B9 he HP HQ DA DB S T hS HLL hend
      go_wp2
      go_ret
      exact ⟨⟨C, c, rfl, HS.out⟩, (by repeat (first | exact Below.refl _ _ | refine Below.setCell ?_ (by first | (simp; done) | (simp; omega) | omega) _ | refine Below.alloc ?_ (by first | (simp; done) | (simp; omega) | omega) _ | refine Below.drew ?_ | assumption | refine Below.trans ?_ (Below.mono (by assumption) (by first | (simp; done) | (simp; omega) | omega))))⟩
    · have ka : k < p := by omega
      obtain ⟨x, hx⟩ : ∃ x, a[k]? = some x := ⟨_, List.getElem?_eq_getElem (by rw [HP.out]; exact ka)⟩
      obtain ⟨g, off, rfl, hb, hc⟩ := S k x hx
      have q0 := (hB.cell (p := ⟨g, off + k, none⟩) hb).trans hc
      have R := fun y X hy hX => sub_round (y := y) (X := X) ⟨hc0, hc1⟩ DA.out DB.out hx hy he.out.1 hX
      have ol := he.out.2
      have OW := Lib.hid hown
      by_cases kb : k < q
      · obtain ⟨y, hy⟩ : ∃ y, b[k]? = some y := ⟨_, List.getElem?_eq_getElem (by rw [HQ.out]; exact kb)⟩
        obtain ⟨g', off', rfl, hb', hc'⟩ := T k y hy
        have q1 := (hB.cell (p := ⟨g', off' + k, none⟩) hb').trans hc'
        obtain ⟨⟨bx0, bx1⟩, ⟨by0, by1⟩, l1, l2⟩ := R y (x - cr - y) (by rw [List.getD_eq_getElem?_getD, hy]; rfl) rfl
        clear R hend he hown S T hc hc' hx hy HP HQ DA DB HLL
        by_cases hX : x - cr - y < 0
        · have HL := Lib.hid (l1 hX)
          clear l1 l2
          go_wp2_with (first | (at_builtin; refine wpList_append_lies _ rfl _ _ _ rfl (w.heap.size) 3 i0 _ 1 8 Tryz.underlying24 hi0 hz0 hz1 hz2 rfl (by decide) v (k) _ rfl (OW.out.alloc _) ⟨wr.heap.size, 0, none⟩ 1 1 [.int .i64 (x - cr - y + 10000)] rfl rfl (World.news_of_block (cs := #[.int .i64 (x - cr - y + 10000)]) (t := 3) (fr := (0, 0)) (heap_alloc_new wr _)) (by simp [Value.oneCell']) (by omega) (by unfold maxLen; omega) (by omega) (by simp; omega) (wr.heap.size + 1) (by simp) ?_; intro gg cap w1' hown1 hgrow hat hlt'))
          go_roundw
          case rel => exact ⟨k + 1, 1, out ++ [x - cr - y + 10000], _, by omega, by go_num, rfl, rfl, by omega, by omega, Lib.hid ⟨HL.out, by simp [ol]⟩, by simpa using hown1, Below.grown (B9 _) hgrow (by simp; omega) (fun j hj => (LT.out j hj).1)⟩
          case measure => first | (simp [intOf]; done) | (simp [intOf]; omega)
        · have HL := Lib.hid (l2 hX)
          clear l1 l2
          go_wp2_with (first | (at_builtin; refine wpList_append_lies _ rfl _ _ _ rfl (w.heap.size) 3 i0 _ 1 8 Tryz.underlying24 hi0 hz0 hz1 hz2 rfl (by decide) v (k) _ rfl (OW.out.alloc _) ⟨wr.heap.size, 0, none⟩ 1 1 [.int .i64 (x - cr - y)] rfl rfl (World.news_of_block (cs := #[.int .i64 (x - cr - y)]) (t := 3) (fr := (0, 0)) (heap_alloc_new wr _)) (by simp [Value.oneCell']) (by omega) (by unfold maxLen; omega) (by omega) (by simp; omega) (wr.heap.size + 1) (by simp) ?_; intro gg cap w1' hown1 hgrow hat hlt'))
          go_roundw
          case rel => exact ⟨k + 1, 0, out ++ [x - cr - y], _, by omega, by go_num, rfl, rfl, by omega, by omega, Lib.hid ⟨HL.out, by simp [ol]⟩, by simpa using hown1, Below.grown (B9 _) hgrow (by simp; omega) (fun j hj => (LT.out j hj).1)⟩
          case measure => first | (simp [intOf]; done) | (simp [intOf]; omega)
      · obtain ⟨⟨bx0, bx1⟩, _, l1, l2⟩ := R 0 (x - cr) (by rw [List.getD_eq_getElem?_getD, List.getElem?_eq_none (by rw [HQ.out]; omega)]; rfl) (by omega)
        clear R hend he hown S T hc hx HP HQ DA DB HLL
        by_cases hX : x - cr < 0
        · have HL := Lib.hid (l1 hX)
          clear l1 l2
          go_wp2_with (first | (at_builtin; refine wpList_append_lies _ rfl _ _ _ rfl (w.heap.size) 3 i0 _ 1 8 Tryz.underlying24 hi0 hz0 hz1 hz2 rfl (by decide) v (k) _ rfl (OW.out.alloc _) ⟨wr.heap.size, 0, none⟩ 1 1 [.int .i64 (x - cr + 10000)] rfl rfl (World.news_of_block (cs := #[.int .i64 (x - cr + 10000)]) (t := 3) (fr := (0, 0)) (heap_alloc_new wr _)) (by simp [Value.oneCell']) (by omega) (by unfold maxLen; omega) (by omega) (by simp; omega) (wr.heap.size + 1) (by simp) ?_; intro gg cap w1' hown1 hgrow hat hlt'))
          go_roundw
          case rel => exact ⟨k + 1, 1, out ++ [x - cr + 10000], _, by omega, by go_num, rfl, rfl, by omega, by omega, Lib.hid ⟨HL.out, by simp [ol]⟩, by simpa using hown1, Below.grown (B9 _) hgrow (by simp; omega) (fun j hj => (LT.out j hj).1)⟩
          case measure => first | (simp [intOf]; done) | (simp [intOf]; omega)
        · have HL := Lib.hid (l2 hX)
          clear l1 l2
          go_wp2_with (first | (at_builtin; refine wpList_append_lies _ rfl _ _ _ rfl (w.heap.size) 3 i0 _ 1 8 Tryz.underlying24 hi0 hz0 hz1 hz2 rfl (by decide) v (k) _ rfl (OW.out.alloc _) ⟨wr.heap.size, 0, none⟩ 1 1 [.int .i64 (x - cr)] rfl rfl (World.news_of_block (cs := #[.int .i64 (x - cr)]) (t := 3) (fr := (0, 0)) (heap_alloc_new wr _)) (by simp [Value.oneCell']) (by omega) (by unfold maxLen; omega) (by omega) (by simp; omega) (wr.heap.size + 1) (by simp) ?_; intro gg cap w1' hown1 hgrow hat hlt'))
          go_roundw
          case rel => exact ⟨k + 1, 0, out ++ [x - cr], _, by omega, by go_num, rfl, rfl, by omega, by omega, Lib.hid ⟨HL.out, by simp [ol]⟩, by simpa using hown1, Below.grown (B9 _) hgrow (by simp; omega) (fun j hj => (LT.out j hj).1)⟩
          case measure => first | (simp [intOf]; done) | (simp [intOf]; omega)
end Go.Proofs.YtakfjdnpfhcgkaaGreatDoor
