/-
  HttpPipes holds: the walk of the law.
-/
import Derived.Test.YtkaimfeiahogaaaGreatDoorHg1
namespace Go.Proofs.YtkaimfeiahogaaaGreatDoor
set_option linter.all false
open Go.RowKit Go.Shelf
attribute [local go_sem] cell_set_self lt_1 lt_2 lt_3 lt_4 lt_5 lt_6 drew_cell drew_frozen drew_size

/-- What the first loop has laid of the first k requests. -/
structure P1 (w : World) (rs : List Rq) (k : Nat) (acc : List Rq) (L : List UInt8) (v4 v5 : Value) (wr : World) : Prop where
  hacc : acc = (rs.take k).filter okR
  hL : L = acc.flatMap prn
  own4 : wr.ownsRow w.heap.size 5 1 v4 L.length (Lib.byteCells L)
  own5 : wr.ownsRow w.heap.size 25 4 v5 acc.length (cellsR acc)
  below : Below w.heap.size w wr
  few : acc.length ≤ k
  room : L.length ≤ k * 44000
  small : ∀ t ∈ rs.take k, t.l.length ≤ 4000
theorem P1.start (w wr : World) (rs : List Rq) (h : Below w.heap.size w wr) : P1 w rs 0 [] [] (.slice none 0 0) (.slice none 0 0) wr :=
  ⟨by simp, by simp, World.ownsRow_nil _ _ _ _, World.ownsRow_nil _ _ _ _, h, by simp, by simp, fun t ht => by simp at ht⟩
theorem take_snoc {rs : List Rq} {k : Nat} {t : Rq} (h : rs[k]? = some t) : rs.take (k + 1) = rs.take k ++ [t] := by rw [List.take_succ, h]; rfl
theorem P1.no {w wr W : World} {rs : List Rq} {k : Nat} {acc : List Rq} {L : List UInt8} {v4 v5 : Value} {t : Rq} (h : P1 w rs k acc L v4 v5 wr) (ht : rs[k]? = some t) (hno : okR t = false) (hs : t.l.length ≤ 4000) (hb : Below wr.heap.size wr W) : P1 w rs (k + 1) acc L v4 v5 W := by
  obtain ⟨h1, h2, h3, h4, h5, h6, h7, h8⟩ := h
  refine ⟨?_, h2, own_below h3 hb, own_below h4 hb, h5.trans (hb.mono h5.size), by omega, Nat.le_trans h7 (Nat.mul_le_mul_right _ (Nat.le_succ k)), ?_⟩
  · rw [take_snoc ht, List.filter_append, ← h1]; simp [hno]
  · intro x hx
    rw [take_snoc ht, List.mem_append, List.mem_singleton] at hx
    rcases hx with hx | rfl
    · exact h8 x hx
    · exact hs
theorem P1.yes {w wr W : World} {rs : List Rq} {k : Nat} {acc : List Rq} {L : List UInt8} {v4 v5 v6 v7 : Value} {t : Rq} (h : P1 w rs k acc L v4 v5 wr) (ht : rs[k]? = some t) (hok : okR t = true) (hs : t.l.length ≤ 4000) (hb : Below w.heap.size w W)
    (o4 : W.ownsRow w.heap.size 5 1 v6 (L.length + (prn t).length) (Lib.byteCells L ++ Lib.byteCells (prn t))) (o5 : W.ownsRow w.heap.size 25 4 v7 (acc.length + 1) (cellsR acc ++ [.string ⟨t.m.toArray⟩, .string ⟨t.p.toArray⟩, .slice t.A t.n t.c, .bool t.cl])) : P1 w rs (k + 1) (acc ++ [t]) (L ++ prn t) v6 v7 W := by
  obtain ⟨h1, h2, h3, h4, h5, h6, h7, h8⟩ := h
  have hp := prn_len hok (by omega)
  refine ⟨?_, by rw [h2]; simp, by rw [Lib.byteCells_append, List.length_append]; exact o4, by rw [cellsR_app, List.length_append]; exact o5, hb, by simp; omega, by rw [List.length_append]; omega, ?_⟩
  · rw [take_snoc ht, List.filter_append, ← h1]; simp [hok]
  · intro x hx
    rw [take_snoc ht, List.mem_append, List.mem_singleton] at hx
    rcases hx with hx | rfl
    · exact h8 x hx
    · exact hs
theorem grown_cell_low {W W' : World} {base s n : Nat} {e : TypeId} {v : Value} {xs : List Value} (hO : W.ownsRow base e s v n xs) (hg : W.grownBy W' v.ownBlock) {b o : Nat} (hb : b < base) {x : Value} (h : W.cell? ⟨b, o, none⟩ = some x) : W'.cell? ⟨b, o, none⟩ = some x :=
  hg.cell h (fun e => by have := (hO.lt _ e.symm).1; simp at this; omega)
theorem prn_ne {t : Rq} : ∃ x q, prn t = x :: q := by
  cases h : prn t with
  | nil =>
    have := congrArg List.length h
    unfold prn fmtH at this
    simp at this
  | cons x q => exact ⟨x, q, rfl⟩
theorem pipes_far (A : Option Addr) (n c : Nat) (hn : 10 < n) (w : World) (E : Env w) : Calls Tryz.prog 6 #[.slice A n c] w fun e w' => e = .returned (.bool true) ∧ Below w.heap.size w w' := by
  have FO := Lib.hid (fun W (hb : Below w.heap.size w W) => first_ok W (E.below hb))
  have hn' : (10 : Int) < (n : Int) := by omega
  clear E
  go_enter Tryz.func6, Tryz.ntmps6
  go_wp2_with (first | (go_at_call 10; refine (FO.out _ (by repeat (first | exact Below.refl _ _ | refine Below.setCell ?_ (by first | (simp; done) | (simp; omega) | omega) _ | refine Below.alloc ?_ (by first | (simp; done) | (simp; omega) | omega) _ | refine Below.drew ?_ | assumption | refine Below.trans ?_ (Below.mono (by assumption) (by first | (simp; done) | (simp; omega) | omega))))).mono ?_; rintro e w4 ⟨rfl, hb4⟩; obtain ⟨hc4, hf4⟩ := bcell hb4; have hs4 := hb4.size; (try simp at hs4)))
  go_ret
  exact ⟨rfl, (by repeat (first | exact Below.refl _ _ | refine Below.setCell ?_ (by first | (simp; done) | (simp; omega) | omega) _ | refine Below.alloc ?_ (by first | (simp; done) | (simp; omega) | omega) _ | refine Below.drew ?_ | assumption | refine Below.trans ?_ (Below.mono (by assumption) (by first | (simp; done) | (simp; omega) | omega))))⟩
set_option maxHeartbeats 16000000 in
set_option maxRecDepth 100000 in
theorem pipes_near (A : Option Addr) (n c : Nat) (rs : List Rq) (hl : rs.length = n) (hn : n ≤ 10) (w : World) (E : Env w) (T : RqL w A rs) :
    Calls Tryz.prog 6 #[.slice A n c] w fun e w' => e = .returned (.bool true) ∧ Below w.heap.size w w' := by
  obtain ⟨i0, hi0, hz0, hz1, hz2⟩ := info_parts info_u8h
  obtain ⟨i1, hi1, hy0, hy1, hy2⟩ := info_parts info_req
  have FO := Lib.hid (fun W (hb : Below w.heap.size w W) => first_ok W (E.below hb))
  have HE := Lib.hid E
  have HL := Lib.hid hl
  have HT := Lib.hid T
  have hn' : ¬ (10 : Int) < (n : Int) := by omega
  clear E hl T
  go_enter Tryz.func6, Tryz.ntmps6
  go_wp2_with (first | (go_at_call 10; refine (FO.out _ (by repeat (first | exact Below.refl _ _ | refine Below.setCell ?_ (by first | (simp; done) | (simp; omega) | omega) _ | refine Below.alloc ?_ (by first | (simp; done) | (simp; omega) | omega) _ | refine Below.drew ?_ | assumption | refine Below.trans ?_ (Below.mono (by assumption) (by first | (simp; done) | (simp; omega) | omega))))).mono ?_; rintro e w4 ⟨rfl, hb4⟩; obtain ⟨hc4, hf4⟩ := bcell hb4; have hs4 := hb4.size; (try simp at hs4)))
  go_loopw [4, 5, 6] (fun u v i wr => ∃ (k : Nat) (v4 v5 : Value) (acc : List Rq) (L : List UInt8), k ≤ n ∧ i = .int .i64 k ∧ v4 = u ∧ v5 = v ∧ P1 w rs k acc L v4 v5 wr) (fun _ _ i _ => n - (intOf i).toNat)
  case atStart => exact ⟨0, _, _, [], [], by omega, rfl, rfl, rfl, P1.start w _ rs (by repeat (first | exact Below.refl _ _ | refine Below.setCell ?_ (by first | (simp; done) | (simp; omega) | omega) _ | refine Below.alloc ?_ (by first | (simp; done) | (simp; omega) | omega) _ | refine Below.drew ?_ | assumption | refine Below.trans ?_ (Below.mono (by assumption) (by first | (simp; done) | (simp; omega) | omega))))⟩
  case round =>
    obtain ⟨k, v4, v5, acc, L, hk, rfl, hv4, hv5, hP⟩ := hrel
    subst hv4 hv5
    have HP := Lib.hid hP
    have hBr : Below w.heap.size w wr := hP.below
    clear hP
    by_cases hlt : k < n
    · have hlt' : (k : Int) < (n : Int) := by omega
      obtain ⟨t, ht⟩ : ∃ t, rs[k]? = some t := ⟨_, List.getElem?_eq_getElem (by rw [HL.out]; exact hlt)⟩
      obtain ⟨b, off, rfl, hbw, -⟩ := HT.out k t ht
      obtain ⟨b', off', hA', hbr, e0, e1, e2, e3, hB, hln⟩ := (HT.out.below hBr) k t ht
      obtain ⟨rfl, rfl⟩ : b = b' ∧ off = off' := by simpa using hA'
      clear hA'
      have HTk := Lib.hid ht
      have HN := Lib.hid hln
      obtain ⟨M, hM⟩ : ∃ M, (⟨t.m.toArray⟩ : ByteArray) = M := ⟨_, rfl⟩
      obtain ⟨P, hPp⟩ : ∃ P, (⟨t.p.toArray⟩ : ByteArray) = P := ⟨_, rfl⟩
      have hMs : M.size = t.m.length := by rw [← hM]; exact ba_sz _
      have hPs : P.size = t.p.length := by rw [← hPp]; exact ba_sz _
      rw [hM] at e0
      rw [hPp] at e1
      have HM := Lib.hid hM
      have HPP := Lib.hid hPp
      clear ht hM hPp hB
      by_cases g1 : 4000 < t.n
      · have g1' : (4000 : Int) < (t.n : Int) := by omega
        clear hln
        go_wp2
        go_ret
        exact ⟨rfl, hBr⟩
      · have g1' : ¬ (4000 : Int) < (t.n : Int) := by omega
        by_cases g2 : 4000 < P.size
        · have g2' : (4000 : Int) < (P.size : Int) := by omega
          clear hln
          go_wp2
          go_ret
          exact ⟨rfl, hBr⟩
        · have g2' : ¬ (4000 : Int) < (P.size : Int) := by omega
          by_cases g3 : 4000 < M.size
          · have g3' : (4000 : Int) < (M.size : Int) := by omega
            clear hln
            go_wp2
            go_ret
            exact ⟨rfl, hBr⟩
          · have g3' : ¬ (4000 : Int) < (M.size : Int) := by omega
            have hl4 : t.l.length ≤ 4000 := by omega
            have hp4 : t.p.length ≤ 4000 := by omega
            have HL4 := Lib.hid hl4
            cases hok : okR t with
            | false =>
              have FM := Lib.hid (fun W (hb : Below w.heap.size w W) => fmt_no t hok hp4 hl4 hln W)
              have HOK := Lib.hid hok
              unfold rqB at FM
              rw [HM.out, HPP.out] at FM
              clear hok hl4 hp4 hln hMs hPs
              go_wp2_with (first | (go_at_call 17; (with_reducible refine (FM.out _ hBr).mono ?_); rintro e w5 ⟨⟨x, rfl, hx⟩, hb5⟩) | (go_at_call 12; (with_reducible refine (num_same _ _).mono ?_); rintro e w9 ⟨rfl, rfl⟩))
              go_roundw
              case rel => exact ⟨k + 1, _, _, acc, L, by omega, by go_num, rfl, rfl, HP.out.no HTk.out HOK.out HL4.out hb5⟩
              case measure => first | (simp [intOf]; done) | (simp [intOf]; omega)
            | true =>
              have FM := Lib.hid (fun W (hb : Below w.heap.size w W) (T : Bs W t.A t.c t.l) => fmt_ok t hok hp4 hl4 hln W (HE.out.below hb) T)
              have HOK := Lib.hid hok
              have hB1 : Hid (Bs wr t.A t.c t.l) := Lib.hid (by obtain ⟨_, _, _, _, _, _, _, _, h, _⟩ := (HT.out.below hBr) k t HTk.out; exact h)
              unfold rqB at FM
              rw [HM.out, HPP.out] at FM
              have hpl := prn_len hok (by omega)
              have hrm := HP.out.room
              have hfw := HP.out.few
              have hLK : L.length + (prn t).length ≤ 500000 := by omega
              have hac : acc.length ≤ 10 := by omega
              have HO4 := Lib.hid HP.out.own4
              have HO5 := Lib.hid HP.out.own5
              clear hok hl4 hp4 hln hMs hPs hpl hrm hfw
              go_wp2_with (first | (go_at_call 17; (with_reducible refine (FM.out _ hBr hB1.out).mono ?_); rintro e w5 ⟨⟨A5, c5, rfl, hN5⟩, hb5⟩; have HN5 := Lib.hid hN5.1; have HO4' := Lib.hid (own_below HO4.out hb5); have HO5' := Lib.hid (own_below HO5.out hb5); have hs5 := hb5.size; have d0 := (hb5.cell (p := ⟨b, off + k * 4, none⟩) hbr).trans e0; have d1 := (hb5.cell (p := ⟨b, off + k * 4 + 1, none⟩) hbr).trans e1; have d2 := (hb5.cell (p := ⟨b, off + k * 4 + 2, none⟩) hbr).trans e2; have d3 := (hb5.cell (p := ⟨b, off + k * 4 + 3, none⟩) hbr).trans e3; have hBw5 : Below w.heap.size w w5 := hBr.trans (hb5.mono hBr.size); clear hN5) | (go_at_call 12; (with_reducible refine (num_same _ _).mono ?_); rintro e w9 ⟨rfl, rfl⟩) | (at_builtin; refine wpList_append_bs _ rfl (.tmp 65) (.tmp 66) 22 rfl w.heap.size i0 Tryz.underlying22 hi0 hz0 hz1 hz2 _ L.length (Lib.byteCells L) rfl HO4'.out A5 (prn t).length c5 (prn t) rfl rfl HN5.out (by unfold maxLen; omega) (by omega) hBw5.size ?_; intro v6 w6 hown6 hgrow6; have HO6 := Lib.hid hown6; have HO56 := Lib.hid (HO5'.out.kept hgrow6 (row_apart HO5'.out HO4'.out (by decide))); have f0 := grown_cell_low HO4'.out hgrow6 hbw d0; have f1 := grown_cell_low HO4'.out hgrow6 hbw d1; have f2 := grown_cell_low HO4'.out hgrow6 hbw d2; have f3 := grown_cell_low HO4'.out hgrow6 hbw d3; have B6 : Below w.heap.size w w6 := (hBw5.grown hgrow6 hBw5.size (fun k e => (HO4'.out.lt k e).1)); clear hown6 hgrow6) | (at_builtin; refine wpList_append_own _ rfl (.tmp 68) (.tmp 73) 47 rfl w.heap.size 25 i1 _ 4 64 Tryz.underlying47 hi1 hy0 hy1 hy2 rfl (by decide) _ acc.length (cellsR acc) rfl (HO56.out.alloc _) ⟨w6.heap.size, 0, none⟩ 1 1 [.string M, .string P, .slice t.A t.n t.c, .bool t.cl] rfl rfl ?b3 ?b4 ?b5 ?b6 ?b7 ?b8; (case b3 => (intro j u hj; match j, hj with | 0, hj => (simp at hj; subst hj; simp [Addr.add, go_sem]) | 1, hj => (simp at hj; subst hj; simp [Addr.add, go_sem]) | 2, hj => (simp at hj; subst hj; simp [Addr.add, go_sem]) | 3, hj => (simp at hj; subst hj; simp [Addr.add, go_sem]))); (case b4 => (intro u hu; simp at hu; rcases hu with rfl | rfl | rfl | rfl <;> rfl)); (case b5 => (unfold maxLen; omega)); (case b6 => omega); (case b7 => (have := B6.size; simp; omega)); intro v7 w7 hown7 hgrow7 hiff; clear hiff; have HO7 := Lib.hid hown7; have hx6 := HO6.out.alloc (Obj.cells #[.string M, .string P, .slice t.A t.n t.c, .bool t.cl] 25); have hy6 := row_apart hx6 (HO56.out.alloc (Obj.cells #[.string M, .string P, .slice t.A t.n t.c, .bool t.cl] 25)) (by decide); have HO67 := Lib.hid (hx6.kept hgrow7 hy6); have B7 : Below w.heap.size w w7 := Below.grown (B6.alloc B6.size (Obj.cells #[.string M, .string P, .slice t.A t.n t.c, .bool t.cl] 25)) hgrow7 (by have := B6.size; simp; omega) (fun k e => (HO56.out.lt k e).1); clear hown7 hgrow7 hx6 hy6))
              go_roundw
              case rel => exact ⟨k + 1, _, _, acc ++ [t], L ++ prn t, by omega, by go_num, rfl, rfl, HP.out.yes HTk.out HOK.out HL4.out B7 HO67.out (by rw [HM.out, HPP.out]; exact HO7.out)⟩
              case measure => first | (simp [intOf]; done) | (simp [intOf]; omega)
    · obtain rfl : k = n := by omega
      have hlt' : ¬ (k : Int) < (k : Int) := by omega
      have hmem : ∀ t ∈ acc, (Bs wr t.A t.c t.l ∧ t.l.length = t.n) ∧ okR t = true ∧ t.l.length ≤ 4000 := fun t ht => by
        rw [HP.out.hacc] at ht
        obtain ⟨h1, h2⟩ := List.mem_filter.1 ht
        obtain ⟨i, hi⟩ := List.getElem?_of_mem (List.mem_of_mem_take h1)
        obtain ⟨_, _, _, _, _, _, _, _, hB, hn⟩ := (HT.out.below HP.out.below) i t hi
        exact ⟨⟨hB, hn⟩, h2, HP.out.small t h1⟩
      have HMem := Lib.hid hmem
      have hLe := HP.out.hL
      have hrm := HP.out.room
      have hfw := HP.out.few
      obtain ⟨A4, c4, rfl, hB4, -⟩ := own_bs HP.out.own4
      obtain ⟨A5, c5, rfl, hc5, -, hR5⟩ := own_rq HP.out.own5 rfl (fun t ht => (hmem t ht).1)
      have HR5 := Lib.hid hR5
      have HB4 := Lib.hid hB4
      have hL5 : L.length ≤ 500000 := by omega
      obtain ⟨a, ha⟩ : ∃ a, acc.length = a := ⟨_, rfl⟩
      obtain ⟨n4, hn4⟩ : ∃ n4, L.length = n4 := ⟨_, rfl⟩
      rw [ha] at hc5 hfw ⊢
      rw [hn4] at hL5 ⊢
      have HA := Lib.hid ha
      have HN4 := Lib.hid hn4
      have HLe := Lib.hid hLe
      have hEr := Lib.hid (HE.out.below hBr)
      clear hmem hR5 hB4 ha hn4 hLe hrm HP HT FO HL hk
      generalize hwr : wr = Wr at *
      go_wp2
      go_loopw [4, 9] (fun u i wr2 => ∃ (j : Nat) (A' : Option Addr) (n' c' : Nat), j ≤ a ∧ u = .slice A' n' c' ∧ i = .int .i64 j ∧ Hid (((acc.drop j).flatMap prn).length = n') ∧ n' ≤ 500000 ∧ Hid (Bs wr2 A' c' ((acc.drop j).flatMap prn)) ∧ Below Wr.heap.size Wr wr2) (fun _ i _ => a - (intOf i).toNat)
      case atStart => exact ⟨0, _, _, _, by omega, rfl, rfl, Lib.hid (by rw [List.drop_zero, ← HLe.out]; exact HN4.out), hL5, Lib.hid (by rw [List.drop_zero, ← HLe.out]; exact HB4.out), Below.refl _ _⟩
      case round =>
        obtain ⟨j, A', n', c', hj, rfl, rfl, HN', hn'5, HB', hB2⟩ := hrel
        have hBw2 : Below w.heap.size w wr := hBr.trans (hB2.mono hBr.size)
        by_cases hlt2 : j < a
        · have hlt2' : (j : Int) < (a : Int) := by omega
          obtain ⟨t, ht⟩ : ∃ t, acc[j]? = some t := ⟨_, List.getElem?_eq_getElem (by rw [HA.out]; exact hlt2)⟩
          have hdrop : (acc.drop j).flatMap prn = prn t ++ (acc.drop (j + 1)).flatMap prn := by
            obtain ⟨h1, h2⟩ := List.getElem?_eq_some_iff.1 ht
            rw [List.drop_eq_getElem_cons h1, h2, List.flatMap_cons]
          obtain ⟨⟨-, hln⟩, hok, hl4⟩ := HMem.out t (List.mem_of_getElem? ht)
          obtain ⟨b, off, rfl, hbw, -⟩ := HR5.out j t ht
          obtain ⟨b', off', hA', hbr, e0, e1, e2, e3, hB, -⟩ := (HR5.out.below hB2) j t ht
          obtain ⟨rfl, rfl⟩ : b = b' ∧ off = off' := by simpa using hA'
          clear hA'
          obtain ⟨r, hr⟩ : ∃ r, (acc.drop (j + 1)).flatMap prn = r := ⟨_, rfl⟩
          have HRr := Lib.hid hr
          rw [hr] at hdrop
          rw [hdrop] at HN' HB'
          obtain ⟨x, q, hxq⟩ := @prn_ne t
          obtain ⟨N, hN⟩ : ∃ N, (prn t).length = N := ⟨_, rfl⟩
          have hN1 : 1 ≤ N := by rw [← hN, hxq]; simp
          have HNn := Lib.hid (show n' = N + r.length by have := HN'.out; rw [List.length_append, hN] at this; omega)
          have hNn1 : N ≤ n' := by have := HNn.out; omega
          have hNn2 : (N : Int) ≤ (n' : Int) := by omega
          have hNc2 : (n' : Int) ≤ (c' : Int) := by have := HB'.out.1; rw [HN'.out] at this; omega
          obtain ⟨b2, off2, rfl, -, -⟩ : ∃ b2 off2, A' = some ⟨b2, off2, none⟩ ∧ True ∧ True := by
            obtain ⟨b2, off2, h, _⟩ := HB'.out.2.2 0 x (by rw [hxq]; rfl)
            exact ⟨b2, off2, h, trivial, trivial⟩
          have hnc : n' ≤ c' := by have := HB'.out.1; rw [HN'.out] at this; exact this
          have PK := Lib.hid (fun W (hb : Below wr.heap.size wr W) => pcall_prn t hok hln r (some ⟨b2, off2, none⟩) n' c' HN'.out (by omega) N hN W ((HE.out.below hBw2).below hb) (HB'.out.below hb))
          have HBl := Lib.hid hB
          have HLn := Lib.hid hln
          have HRest : Hid (Bs wr (some ⟨b2, off2 + N, none⟩) (c' - N) r) := Lib.hid (by
            have := HB'.out.drop N (by rw [List.length_append, hN]; omega)
            rwa [List.drop_left' hN] at this)
          obtain ⟨M, hM⟩ : ∃ M, (⟨t.m.toArray⟩ : ByteArray) = M := ⟨_, rfl⟩
          obtain ⟨P, hPp⟩ : ∃ P, (⟨t.p.toArray⟩ : ByteArray) = P := ⟨_, rfl⟩
          rw [hM] at e0
          rw [hPp] at e1
          unfold rqB at PK
          rw [hM, hPp] at PK
          have HM := Lib.hid hM
          have HPP := Lib.hid hPp
          have hl4' : t.n ≤ 1000000000 := by omega
          clear hM hPp hr hdrop hok hln hl4 hB hxq hN ht
          go_upto_region 19 with (first | (go_at_call 11; (with_reducible refine (PK.out _ (Below.refl _ _)).mono ?_); rintro e w7 ⟨⟨A7, c7, rfl, hT7⟩, hb7⟩; have hs7 := hb7.size; have HT7 := Lib.hid hT7.1; clear hT7))
          refine name_world ?_
          intro Wa hWa
          have zq : w7.heap.size < Wa.heap.size := by rw [hWa]; simp
          have b7a : Below w7.heap.size w7 Wa := by rw [hWa]; exact (Below.refl _ _).alloc (Nat.le_refl _) _
          have bWa : Below wr.heap.size wr Wa := hb7.trans (b7a.mono hs7)
          have y0 : Wa.cell? ⟨w7.heap.size, 0, none⟩ = some (.string M) := by rw [hWa]; simp [go_sem]
          have y1 : Wa.cell? ⟨w7.heap.size, 1, none⟩ = some (.string P) := by rw [hWa]; simp [go_sem]
          have y2 : Wa.cell? ⟨w7.heap.size, 2, none⟩ = some (.slice A7 t.n c7) := by rw [hWa]; simp [go_sem]
          have y3 : Wa.cell? ⟨w7.heap.size, 3, none⟩ = some (.bool t.cl) := by rw [hWa]; simp [go_sem]
          have k0 := (bWa.cell (p := ⟨b, off + j * 4, none⟩) hbr).trans e0
          have k1 := (bWa.cell (p := ⟨b, off + j * 4 + 1, none⟩) hbr).trans e1
          have k2 := (bWa.cell (p := ⟨b, off + j * 4 + 2, none⟩) hbr).trans e2
          have k3 := (bWa.cell (p := ⟨b, off + j * 4 + 3, none⟩) hbr).trans e3
          have zb : b < Wa.heap.size := Nat.lt_of_lt_of_le hbr bWa.size
          have HTb : Hid (Bs Wa t.A t.c t.l) := Lib.hid (HBl.out.below bWa)
          have HT7a : Hid (Bs Wa A7 c7 t.l) := Lib.hid (HT7.out.below b7a)
          have RQ := Lib.hid (fun W (hb : Below Wa.heap.size Wa W) => request_any t.m t.p t.cl t.A t.n t.c t.l HLn.out hl4' W (HTb.out.below hb))
          have SQ := Lib.hid (fun W (hb : Below Wa.heap.size Wa W) (B d) (hT : Bs W B d t.l) => same_eq t.m t.p t.cl A7 B t.n c7 d t.l HLn.out hl4' W (HT7a.out.below hb) hT)
          unfold rqB at RQ SQ
          rw [HM.out, HPP.out] at RQ SQ
          have hBaw : Below Wr.heap.size Wr Wa := hB2.trans (bWa.mono hB2.size)
          have HRa : Hid (Bs Wa (some ⟨b2, off2 + N, none⟩) (c' - N) r) := Lib.hid (HRest.out.below bWa)
          clear hWa b7a hb7 hs7 PK e0 e1 e2 e3
          generalize w7.heap.size = qb at *
          go_region_held3 (fun w' => w'.cell? ⟨qb, 0, none⟩ = some (.string M) ∧ w'.cell? ⟨qb, 1, none⟩ = some (.string P) ∧ w'.cell? ⟨qb, 2, none⟩ = some (.slice A7 t.n c7) ∧ w'.cell? ⟨qb, 3, none⟩ = some (.bool t.cl) ∧ w'.cell? ⟨b, off + j * 4, none⟩ = some (.string M) ∧ w'.cell? ⟨b, off + j * 4 + 1, none⟩ = some (.string P) ∧ w'.cell? ⟨b, off + j * 4 + 2, none⟩ = some (.slice t.A t.n t.c) ∧ w'.cell? ⟨b, off + j * 4 + 3, none⟩ = some (.bool t.cl) ∧ qb < w'.heap.size ∧ b < w'.heap.size ∧ Below Wa.heap.size Wa w')
      (first | (refine ⟨?_, ?_, ?_, ?_, ?_, ?_, ?_, ?_, ?_, ?_, ?_⟩ <;> first | (simp [go_sem, *]; done) | omega | (simp; omega) | exact (by repeat (first | exact Below.refl _ _ | refine Below.setCell ?_ (by first | (simp; done) | (simp; omega) | omega) _ | refine Below.alloc ?_ (by first | (simp; done) | (simp; omega) | omega) _ | refine Below.drew ?_ | assumption | refine Below.trans ?_ (Below.mono (by assumption) (by first | (simp; done) | (simp; omega) | omega))))))
      (first | (first | (go_at_call 14; refine (RQ.out _ (by repeat (first | exact Below.refl _ _ | refine Below.setCell ?_ (by first | (simp; done) | (simp; omega) | omega) _ | refine Below.alloc ?_ (by first | (simp; done) | (simp; omega) | omega) _ | refine Below.drew ?_ | assumption | refine Below.trans ?_ (Below.mono (by assumption) (by first | (simp; done) | (simp; omega) | omega))))).mono ?_; rintro e w8 ⟨⟨A8, c8, rfl, hT8⟩, hb8⟩; obtain ⟨hc8, hf8⟩ := bcell hb8; (try simp only [drew_size, drew_cell, drew_frozen] at hc8 hf8); have hs8 := hb8.size; (try simp at hs8); have hz8 : qb < w8.heap.size ∧ b < w8.heap.size := (by have := hb8.size; (try simp at this); omega); have HT8 := Lib.hid hT8; clear hT8) | (go_at_call 13; refine (SQ.out _ (by repeat (first | exact Below.refl _ _ | refine Below.setCell ?_ (by first | (simp; done) | (simp; omega) | omega) _ | refine Below.alloc ?_ (by first | (simp; done) | (simp; omega) | omega) _ | refine Below.drew ?_ | assumption | refine Below.trans ?_ (Below.mono (by assumption) (by first | (simp; done) | (simp; omega) | omega)))) A8 c8 (HT8.out.1.below (by repeat (first | exact Below.refl _ _ | refine Below.setCell ?_ (by first | (simp; done) | (simp; omega) | omega) _ | refine Below.alloc ?_ (by first | (simp; done) | (simp; omega) | omega) _ | refine Below.drew ?_ | assumption | refine Below.trans ?_ (Below.mono (by assumption) (by first | (simp; done) | (simp; omega) | omega)))))).mono ?_; rintro e w9 ⟨rfl, hb9⟩; obtain ⟨hc9, hf9⟩ := bcell hb9; (try simp only [drew_size, drew_cell, drew_frozen] at hc9 hf9); have hs9 := hb9.size; (try simp at hs9); have hz9 : qb < w9.heap.size ∧ b < w9.heap.size := by have := hb9.size; (try simp at this); omega) | (go_at_call 12; (with_reducible refine (num_same _ _).mono ?_); rintro e w9 ⟨rfl, rfl⟩)))
          · by_cases hcap : (c' : Int) = (N : Int)
            · go_wp2
              go_roundw
              case rel =>
                have hB9 : Below Wa.heap.size Wa w9 := (by repeat (first | exact Below.refl _ _ | refine Below.setCell ?_ (by first | (simp; done) | (simp; omega) | omega) _ | refine Below.alloc ?_ (by first | (simp; done) | (simp; omega) | omega) _ | refine Below.drew ?_ | assumption | refine Below.trans ?_ (Below.mono (by assumption) (by first | (simp; done) | (simp; omega) | omega))))
                have hr0 : r = [] := by
                  have := HNn.out
                  exact List.eq_nil_of_length_eq_zero (by omega)
                exact ⟨j + 1, _, _, _, by omega, rfl, by go_num, Lib.hid (by rw [HRr.out]; have := HNn.out; omega), by omega, Lib.hid (by rw [HRr.out, hr0]; exact ⟨by simp, fun h => (by cases h), fun i x h => by simp at h⟩), hBaw.trans (hB9.mono hBaw.size)⟩
              case measure => first | (simp [intOf]; done) | (simp [intOf]; omega)
            · have hcap2 : ¬ (c' : Int) - (N : Int) = 0 := by omega
              go_wp2
              go_roundw
              case rel =>
                have hB9 : Below Wa.heap.size Wa w9 := (by repeat (first | exact Below.refl _ _ | refine Below.setCell ?_ (by first | (simp; done) | (simp; omega) | omega) _ | refine Below.alloc ?_ (by first | (simp; done) | (simp; omega) | omega) _ | refine Below.drew ?_ | assumption | refine Below.trans ?_ (Below.mono (by assumption) (by first | (simp; done) | (simp; omega) | omega))))
                exact ⟨j + 1, _, _, _, by omega, rfl, by go_num, Lib.hid (by rw [HRr.out]; have := HNn.out; omega), by omega, Lib.hid (by rw [HRr.out]; exact HRa.out.below hB9), hBaw.trans (hB9.mono hBaw.size)⟩
              case measure => first | (simp [intOf]; done) | (simp [intOf]; omega)
        · obtain rfl : j = a := by omega
          have hlt2' : ¬ (j : Int) < (j : Int) := by omega
          have hn0 : n' = 0 := by
            have := HN'.out
            rw [List.drop_of_length_le (by rw [HA.out]; exact Nat.le_refl _)] at this
            simpa using this.symm
          subst hn0
          go_wp2
          go_ret
          exact ⟨rfl, hBw2⟩
theorem pipes_walk (A : Option Addr) (n c : Nat) (rs : List Rq) (hl : rs.length = n) (w : World) (E : Env w) (T : RqL w A rs) :
    Calls Tryz.prog 6 #[.slice A n c] w fun e w' => e = .returned (.bool true) ∧ Below w.heap.size w w' := by
  by_cases h : n ≤ 10
  · exact pipes_near A n c rs hl h w E T
  · exact pipes_far A n c (by omega) w E
end Go.Proofs.YtkaimfeiahogaaaGreatDoor
