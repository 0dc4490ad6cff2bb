/-
  Contract of the law's Few.
-/
import Derived.Test.YtijlifdbjhieaaaGreatDoorSm1
import Derived.Test.YtijlifdbjhieaaaGreatDoorQh
namespace Go.Proofs.YtijlifdbjhieaaaGreatDoor
set_option linter.all false
open Go.RowKit Go.Shelf Go.Sort
attribute [local go_sem] cell_set_self lt_1 lt_2 lt_3 lt_4 lt_5 lt_6

/-- The sizes of a query that an argument reads as. -/
structure QBig (q : QueryT) : Prop where
  it : ∀ x ∈ q.items, x.agg.length ≤ 1000000000000000 ∧ x.col.length ≤ 1000000000000000
  tb : q.table.length ≤ 1000000000000000
  gr : ∀ x ∈ q.group, x.length ≤ 1000000000000000
  od : ∀ x ∈ q.order, x.col.length ≤ 1000000000000000
  wh : LtC 1000000000000000 q.wh
  ni : q.items.length ≤ 1000000000000000
  ng : q.group.length ≤ 1000000000000000
  no : q.order.length ≤ 1000000000000000
/-- The sizes of a query that is small. -/
structure QSm (q : QueryT) : Prop where
  ni : q.items.length ≤ 30
  ng : q.group.length ≤ 30
  no : q.order.length ≤ 30
  tb : q.table.length ≤ 300
  wh : szC q.wh ≤ 200
  it : ∀ (i : Nat) (x : ItemT), q.items[i]? = some x → x.agg.length + x.col.length ≤ 300
  gr : ∀ (i : Nat) (x : List UInt8), q.group[i]? = some x → x.length ≤ 300
  od : ∀ (i : Nat) (x : OrderT), q.order[i]? = some x → x.col.length ≤ 300
set_option maxHeartbeats 8000000 in
set_option maxRecDepth 100000 in
theorem few_any (q : QueryT) (AI AG AO : Option Addr) (cI cG cO : Nat) (cs : List Value) (w : World) (H : QV w q AI AG AO cs) (S : QBig q) :
    Calls Tryz.prog 8 #[.agg (qCells AI q.items.length cI q.table cs AG q.group.length cG AO q.order.length cO q.limit).toArray] w fun e w' => (∃ b : Bool, e = .returned (.bool b) ∧ (b = true → QSm q)) ∧ Below w.heap.size w w' := by
  suffices key : ∀ Q : Ending → World → Prop, Hid (∀ (b : Bool) w', (b = true → QSm q) → Below w.heap.size w w' → Q (.returned (.bool b)) w') → Calls Tryz.prog 8 #[.agg (qCells AI q.items.length cI q.table cs AG q.group.length cG AO q.order.length cO q.limit).toArray] w Q from key _ (Lib.hid fun b _ h1 h2 => ⟨⟨b, rfl, h1⟩, h2⟩)
  intro Q HQ0
  have HF : Hid (∀ w', Below w.heap.size w w' → Q (.returned (.bool false)) w') := Lib.hid fun w' h => HQ0.out false w' (fun h => by cases h) h
  have HQ : Hid (∀ w', QSm q → Below w.heap.size w w' → Q (.returned (.bool true)) w') := Lib.hid fun w' h h' => HQ0.out true w' (fun _ => h) h'
  clear HQ0
  obtain ⟨I, T, ⟨op, args, ⟨lc, lt, ln, ls⟩, ⟨rc, rt, rn, rs⟩⟩, G, O, lim⟩ := q
  have hcv := H.cv
  obtain ⟨AC, cC, rfl, -⟩ := hcv.open
  have SM := Lib.hid (fun W (hb : Below w.heap.size w W) => lsmall_any (fun _ => True) _ _ _ W 200 (Nat.le_refl _) (H.cv.keep (Kp.below hb)) S.wh (by decide))
  have HI := Lib.hid H.it
  have HG := Lib.hid H.gr
  have HO := Lib.hid H.od
  have BI := Lib.hid S.it
  have BG := Lib.hid S.gr
  have BO := Lib.hid S.od
  have hni := S.ni
  have hng := S.ng
  have hno := S.no
  have htb := S.tb
  dsimp only at hni hng hno htb HI HG HO BI BG BO SM
  dsimp only [qCells, condC, termC, List.cons_append, List.nil_append] at SM ⊢
  obtain ⟨TB, hTB⟩ : ∃ t : ByteArray, (⟨T.toArray⟩ : ByteArray) = t := ⟨_, rfl⟩
  have hTs : TB.size = T.length := by rw [← hTB]; simp [ByteArray.size]
  simp only [hTB]
  obtain ⟨sw, hsw⟩ : ∃ s, szC (.mk op args ⟨lc, lt, ln, ls⟩ ⟨rc, rt, rn, rs⟩) = s := ⟨_, rfl⟩
  rw [hsw] at SM
  rw [show ((200 : Nat) : Int) = 200 from rfl] at SM
  have HSW := Lib.hid hsw
  generalize (⟨lc.toArray⟩ : ByteArray) = U1 at *
  generalize (⟨ls.toArray⟩ : ByteArray) = U2 at *
  generalize (⟨rc.toArray⟩ : ByteArray) = U3 at *
  generalize (⟨rs.toArray⟩ : ByteArray) = U4 at *
  clear H S hcv hTB hsw
  by_cases g1 : 30 < I.length
  · have g1' : 30 < (I.length : Int) := by omega
    clear g1
    go_enter Tryz.func8, Tryz.ntmps8
    go_wp2_with (fail)
    exact HF.out _ (by repeat (first | exact Below.refl _ _ | refine Below.setCell ?_ (by first | (simp; done) | (simp; omega) | omega) _ | refine Below.alloc ?_ (by first | (simp; done) | (simp; omega) | omega) _ | refine Below.drew ?_ | assumption | refine Below.trans ?_ (Below.mono (by assumption) (by first | (simp; done) | (simp; omega) | omega))))
  have g1' : ¬ 30 < (I.length : Int) := by omega
  by_cases g2 : 30 < G.length
  · have g2' : 30 < (G.length : Int) := by omega
    clear g2
    go_enter Tryz.func8, Tryz.ntmps8
    go_wp2_with (fail)
    exact HF.out _ (by repeat (first | exact Below.refl _ _ | refine Below.setCell ?_ (by first | (simp; done) | (simp; omega) | omega) _ | refine Below.alloc ?_ (by first | (simp; done) | (simp; omega) | omega) _ | refine Below.drew ?_ | assumption | refine Below.trans ?_ (Below.mono (by assumption) (by first | (simp; done) | (simp; omega) | omega))))
  have g2' : ¬ 30 < (G.length : Int) := by omega
  by_cases g3 : 30 < O.length
  · have g3' : 30 < (O.length : Int) := by omega
    clear g3
    go_enter Tryz.func8, Tryz.ntmps8
    go_wp2_with (fail)
    exact HF.out _ (by repeat (first | exact Below.refl _ _ | refine Below.setCell ?_ (by first | (simp; done) | (simp; omega) | omega) _ | refine Below.alloc ?_ (by first | (simp; done) | (simp; omega) | omega) _ | refine Below.drew ?_ | assumption | refine Below.trans ?_ (Below.mono (by assumption) (by first | (simp; done) | (simp; omega) | omega))))
  have g3' : ¬ 30 < (O.length : Int) := by omega
  by_cases g4 : 300 < T.length
  · have g4' : 300 < (T.length : Int) := by omega
    clear g4
    go_enter Tryz.func8, Tryz.ntmps8
    go_wp2_with (fail)
    exact HF.out _ (by repeat (first | exact Below.refl _ _ | refine Below.setCell ?_ (by first | (simp; done) | (simp; omega) | omega) _ | refine Below.alloc ?_ (by first | (simp; done) | (simp; omega) | omega) _ | refine Below.drew ?_ | assumption | refine Below.trans ?_ (Below.mono (by assumption) (by first | (simp; done) | (simp; omega) | omega))))
  have g4' : ¬ 300 < (T.length : Int) := by omega
  go_enter Tryz.func8, Tryz.ntmps8
  go_wp2_with (fail)
  go_at_call 17
  (with_reducible refine (SM.out _ (by repeat (first | exact Below.refl _ _ | refine Below.setCell ?_ (by first | (simp; done) | (simp; omega) | omega) _ | refine Below.alloc ?_ (by first | (simp; done) | (simp; omega) | omega) _ | refine Below.drew ?_ | assumption | refine Below.trans ?_ (Below.mono (by assumption) (by first | (simp; done) | (simp; omega) | omega))))).mono ?_)
  rintro e w1 ⟨⟨r, rfl, hr1, hr2⟩, hb1⟩
  obtain ⟨hc1, hf1⟩ := bcell hb1
  have hs1 := hb1.size
  simp only [World.size_alloc] at hc1 hf1 hs1
  have hz1 : w.heap.size < w1.heap.size := by omega
  by_cases g5 : 200 < r
  · have g5' : 200 < (r : Int) := by omega
    clear hr2
    go_wp2_with (fail)
    exact HF.out _ (by repeat (first | exact Below.refl _ _ | refine Below.setCell ?_ (by first | (simp; done) | (simp; omega) | omega) _ | refine Below.alloc ?_ (by first | (simp; done) | (simp; omega) | omega) _ | refine Below.drew ?_ | assumption | refine Below.trans ?_ (Below.mono (by assumption) (by first | (simp; done) | (simp; omega) | omega))))
  have g5' : ¬ 200 < (r : Int) := by omega
  have HSZ : Hid (sw ≤ 200) := Lib.hid (by have := hr2 (by omega); omega)
  clear hr2
  go_wp2_with (fail)
  go_loopw [3] (fun j wr => ∃ k : Nat, k ≤ I.length ∧ j = .int .i64 k ∧ Hid (∀ (i : Nat) (x : ItemT), i < k → I[i]? = some x → x.agg.length + x.col.length ≤ 300) ∧ Hid (wr.cell? ⟨w.heap.size, 0, none⟩ = some (.slice AI I.length cI) ∧ wr.cell? ⟨w.heap.size, 12, none⟩ = some (.slice AG G.length cG) ∧ wr.cell? ⟨w.heap.size, 13, none⟩ = some (.slice AO O.length cO) ∧ w.heap.size < wr.heap.size ∧ Below w.heap.size w wr)) (fun j _ => I.length - (intOf j).toNat)
  case atStart => exact ⟨0, by omega, rfl, Lib.hid (fun i x hi => by omega), Lib.hid (by refine ⟨?_, ?_, ?_, ?_, ?_⟩ <;> first | (simp [go_sem, *]; done) | omega | (simp; omega) | exact (by repeat (first | exact Below.refl _ _ | refine Below.setCell ?_ (by first | (simp; done) | (simp; omega) | omega) _ | refine Below.alloc ?_ (by first | (simp; done) | (simp; omega) | omega) _ | refine Below.drew ?_ | assumption | refine Below.trans ?_ (Below.mono (by assumption) (by first | (simp; done) | (simp; omega) | omega)))))⟩
  case round =>
    obtain ⟨k, hk, rfl, HA, HC⟩ := hrel
    obtain ⟨wo, rfl⟩ : ∃ wo : World, wo = wr := ⟨_, rfl⟩
    obtain ⟨o1, o2, o3, y0, B0⟩ := HC.out
    by_cases hlt : k < I.length
    · have hlt' : (k : Int) < (I.length : Int) := by omega
      obtain ⟨x, hx⟩ : ∃ x, I[k]? = some x := ⟨_, List.getElem?_eq_getElem hlt⟩
      obtain ⟨b, off, rfl, hb, c0, c1⟩ := (HI.out.below B0) k x hx
      obtain ⟨d0, d1⟩ := BI.out x (List.mem_of_getElem? hx)
      have HX := Lib.hid hx
      obtain ⟨xa, xc⟩ := x
      dsimp only at c0 c1 d0 d1
      obtain ⟨V1, hV1⟩ : ∃ t : ByteArray, (⟨xa.toArray⟩ : ByteArray) = t := ⟨_, rfl⟩
      obtain ⟨V2, hV2⟩ : ∃ t : ByteArray, (⟨xc.toArray⟩ : ByteArray) = t := ⟨_, rfl⟩
      have v1 : V1.size = xa.length := by rw [← hV1]; simp [ByteArray.size]
      have v2 : V2.size = xc.length := by rw [← hV2]; simp [ByteArray.size]
      rw [hV1] at c0
      rw [hV2] at c1
      clear hV1 hV2 hx
      by_cases hg : 300 < xa.length + xc.length
      · have hg' : 300 < (xa.length : Int) + (xc.length : Int) := by omega
        go_wp2_with (fail)
        go_big_region
        go_wp2_with (fail)
        exact HF.out _ B0.drew
      · have hg' : ¬ 300 < (xa.length : Int) + (xc.length : Int) := by omega
        go_wp2_with (fail)
        go_big_region
        go_wp2_with (fail)
        refine ⟨⟨k + 1, by omega, by go_num, Lib.hid (fun i x hi h1 => ?_), Lib.hid ⟨o1, o2, o3, y0, B0.drew⟩⟩, ?_⟩
        · rcases Nat.lt_or_ge i k with h | h
          · exact HA.out i x h h1
          · obtain rfl : i = k := by omega
            rw [HX.out] at h1; injection h1 with h1; subst h1; dsimp only; omega
        · first | (simp [intOf]; done) | (simp [intOf]; omega)
    · obtain rfl : k = I.length := by omega
      have hkk : ¬ (I.length : Int) < (I.length : Int) := by omega
      go_wp2_with (fail)
      go_loopw [4] (fun j wr => ∃ k : Nat, k ≤ G.length ∧ j = .int .i64 k ∧ Hid (∀ (i : Nat) (x : List UInt8), i < k → G[i]? = some x → x.length ≤ 300) ∧ Hid (wr.cell? ⟨w.heap.size, 12, none⟩ = some (.slice AG G.length cG) ∧ wr.cell? ⟨w.heap.size, 13, none⟩ = some (.slice AO O.length cO) ∧ w.heap.size < wr.heap.size ∧ Below w.heap.size w wr)) (fun j _ => G.length - (intOf j).toNat)
      case atStart => exact ⟨0, by omega, rfl, Lib.hid (fun i x hi => by omega), Lib.hid ⟨o2, o3, y0, B0⟩⟩
      case round =>
        obtain ⟨k, hk, rfl, HA2, HC⟩ := hrel
        obtain ⟨wo2, rfl⟩ : ∃ wo : World, wo = wr := ⟨_, rfl⟩
        clear o1 o2 o3 y0
        obtain ⟨o2, o3, y0, B0⟩ := HC.out
        by_cases hlt : k < G.length
        · have hlt' : (k : Int) < (G.length : Int) := by omega
          obtain ⟨x, hx⟩ : ∃ x, G[k]? = some x := ⟨_, List.getElem?_eq_getElem hlt⟩
          obtain ⟨b, off, rfl, hb, c0⟩ := (HG.out.below B0) k x hx
          have d0 := BG.out x (List.mem_of_getElem? hx)
          have HX := Lib.hid hx
          obtain ⟨V1, hV1⟩ : ∃ t : ByteArray, (⟨x.toArray⟩ : ByteArray) = t := ⟨_, rfl⟩
          have v1 : V1.size = x.length := by rw [← hV1]; simp [ByteArray.size]
          rw [hV1] at c0
          clear hV1 hx
          by_cases hg : 300 < x.length
          · have hg' : 300 < (x.length : Int) := by omega
            go_wp2_with (fail)
            exact HF.out _ B0
          · have hg' : ¬ 300 < (x.length : Int) := by omega
            go_wp2_with (fail)
            refine ⟨⟨k + 1, by omega, by go_num, Lib.hid (fun i y hi h1 => ?_), Lib.hid ⟨o2, o3, y0, B0⟩⟩, ?_⟩
            · rcases Nat.lt_or_ge i k with h | h
              · exact HA2.out i y h h1
              · obtain rfl : i = k := by omega
                rw [HX.out] at h1; injection h1 with h1; subst h1; omega
            · first | (simp [intOf]; done) | (simp [intOf]; omega)
        · obtain rfl : k = G.length := by omega
          have hkk : ¬ (G.length : Int) < (G.length : Int) := by omega
          go_wp2_with (fail)
          go_loopw [5] (fun j wr => ∃ k : Nat, k ≤ O.length ∧ j = .int .i64 k ∧ Hid (∀ (i : Nat) (x : OrderT), i < k → O[i]? = some x → x.col.length ≤ 300) ∧ Hid (wr.cell? ⟨w.heap.size, 13, none⟩ = some (.slice AO O.length cO) ∧ w.heap.size < wr.heap.size ∧ Below w.heap.size w wr)) (fun j _ => O.length - (intOf j).toNat)
          case atStart => exact ⟨0, by omega, rfl, Lib.hid (fun i x hi => by omega), Lib.hid ⟨o3, y0, B0⟩⟩
          case round =>
            obtain ⟨k, hk, rfl, HA3, HC⟩ := hrel
            obtain ⟨wo3, rfl⟩ : ∃ wo : World, wo = wr := ⟨_, rfl⟩
            clear o2 o3 y0
            obtain ⟨o3, y0, B0⟩ := HC.out
            by_cases hlt : k < O.length
            · have hlt' : (k : Int) < (O.length : Int) := by omega
              obtain ⟨x, hx⟩ : ∃ x, O[k]? = some x := ⟨_, List.getElem?_eq_getElem hlt⟩
              obtain ⟨b, off, rfl, hb, c0, c1⟩ := (HO.out.below B0) k x hx
              have d0 := BO.out x (List.mem_of_getElem? hx)
              have HX := Lib.hid hx
              obtain ⟨xc, xd⟩ := x
              dsimp only at c0 c1 d0
              obtain ⟨V1, hV1⟩ : ∃ t : ByteArray, (⟨xc.toArray⟩ : ByteArray) = t := ⟨_, rfl⟩
              have v1 : V1.size = xc.length := by rw [← hV1]; simp [ByteArray.size]
              rw [hV1] at c0
              clear hV1 hx
              by_cases hg : 300 < xc.length
              · have hg' : 300 < (xc.length : Int) := by omega
                go_wp2_with (fail)
                exact HF.out _ B0
              · have hg' : ¬ 300 < (xc.length : Int) := by omega
                go_wp2_with (fail)
                refine ⟨⟨k + 1, by omega, by go_num, Lib.hid (fun i y hi h1 => ?_), Lib.hid ⟨o3, y0, B0⟩⟩, ?_⟩
                · rcases Nat.lt_or_ge i k with h | h
                  · exact HA3.out i y h h1
                  · obtain rfl : i = k := by omega
                    rw [HX.out] at h1; injection h1 with h1; subst h1; dsimp only; omega
                · first | (simp [intOf]; done) | (simp [intOf]; omega)
            · obtain rfl : k = O.length := by omega
              have hkk : ¬ (O.length : Int) < (O.length : Int) := by omega
              go_wp2_with (fail)
              refine HQ.out _ ⟨by dsimp only; omega, by dsimp only; omega, by dsimp only; omega, by dsimp only; omega, by dsimp only; rw [HSW.out]; exact HSZ.out, fun i x h => HA.out i x (List.getElem?_eq_some_iff.1 h).1 h, fun i x h => HA2.out i x (List.getElem?_eq_some_iff.1 h).1 h, fun i x h => HA3.out i x (List.getElem?_eq_some_iff.1 h).1 h⟩ B0
end Go.Proofs.YtijlifdbjhieaaaGreatDoor
