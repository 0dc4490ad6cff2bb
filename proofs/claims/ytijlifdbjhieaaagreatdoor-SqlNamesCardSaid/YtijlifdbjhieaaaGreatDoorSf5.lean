/-
  A query that is only read, whole; contract of sql.form. (Printed by tools/mksf5.py.)
-/
import Derived.Test.YtijlifdbjhieaaaGreatDoorSf4
import Derived.Deep.Light
namespace Go.Proofs.YtijlifdbjhieaaaGreatDoor
set_option linter.all false
open Go.RowKit Go.Shelf
attribute [local go_sem] cell_set_self lt_1 lt_2 lt_3 lt_4 lt_5 lt_6

/-- Sizes that may stand in memory. -/
structure QShort (q : QueryT) : Prop where
  it : ∀ x ∈ q.items, x.agg.length ≤ 9223372036854775807 ∧ x.col.length ≤ 9223372036854775807
  tb : q.table.length ≤ 9223372036854775807
  gr : ∀ x ∈ q.group, x.length ≤ 9223372036854775807
  od : ∀ x ∈ q.order, x.col.length ≤ 9223372036854775807
  wh : ShC q.wh
  dp : depthC q.wh ≤ 1000000000
  ni : q.items.length ≤ 1000000000000000
  ng : q.group.length ≤ 1000000000000000
  no : q.order.length ≤ 1000000000000000
/-- A query in memory. -/
structure QV (w : World) (q : QueryT) (AI AG AO : Option Addr) (cs : List Value) : Prop where
  it : ItL w AI q.items
  gr : Strs w AG q.group
  od : OrL w AO q.order
  cv : CV (fun _ => True) w q.wh cs
theorem QV.below {w W : World} {q : QueryT} {AI AG AO : Option Addr} {cs : List Value} (h : QV w q AI AG AO cs) (hb : Below w.heap.size w W) : QV W q AI AG AO cs :=
  ⟨h.it.below hb, h.gr.below hb, h.od.below hb, h.cv.keep (Kp.below hb)⟩
set_option maxHeartbeats 16000000 in
set_option maxRecDepth 100000 in
theorem form_any (q : QueryT) (AI AG AO : Option Addr) (cI cG cO : Nat) (cs : List Value) (w : World) (H : QV w q AI AG AO cs) (S : QShort q) :
    Calls Tryz.prog 18 #[.agg (qCells AI q.items.length cI q.table cs AG q.group.length cG AO q.order.length cO q.limit).toArray] w fun e w' => e = .returned (.int .i64 (formQ q)) ∧ Below w.heap.size w w' := by
  suffices key : ∀ Q : Ending → World → Prop, Hid (∀ e w', (e = .returned (.int .i64 (formQ q)) ∧ Below w.heap.size w w') → Q e w') → Calls Tryz.prog 18 #[.agg (qCells AI q.items.length cI q.table cs AG q.group.length cG AO q.order.length cO q.limit).toArray] w Q from key _ (Lib.hid fun _ _ h => h)
  intro Q HQ
  obtain ⟨I, T, ⟨op, args, ⟨lc, lt, ln, ls⟩, ⟨rc, rt, rn, rs⟩⟩, G, O, lim⟩ := q
  have hcv := H.cv
  obtain ⟨AC, cC, rfl, -⟩ := hcv.open
  have CI := Lib.hid (fun W (hb : Below w.heap.size w W) => anyI AI cI I S.ni (fun x hx => (S.it x hx).2) W (H.it.below hb))
  have CG := Lib.hid (fun W (hb : Below w.heap.size w W) => anyN AG cG G S.ng S.gr W (H.gr.below hb))
  have CO := Lib.hid (fun W (hb : Below w.heap.size w W) => anyO AO cO O S.no S.od W (H.od.below hb))
  have NM := Lib.hid (fun W => isName_any T S.tb W)
  have DP := Lib.hid (fun W (hb : Below w.heap.size w W) => depth_any (fun _ => True) _ _ _ W (Nat.le_refl _) (H.cv.keep (Kp.below hb)) S.dp)
  have FN := Lib.hid (fun W (hb : Below w.heap.size w W) => fine_any _ _ _ W (Nat.le_refl _) (H.cv.keep (Kp.below hb)) S.wh)
  have hni := S.ni
  have hng := S.ng
  have hno := S.no
  have hdp := S.dp
  dsimp only at hni hng hno hdp CI CG CO NM DP FN
  dsimp only [qCells, condC, termC, List.cons_append, List.nil_append] at DP FN ⊢
  have FQ : formQ ⟨I, T, .mk op args ⟨lc, lt, ln, ls⟩ ⟨rc, rt, rn, rs⟩, G, O, lim⟩ = if I.length = 0 ∨ 20 < I.length ∨ 20 < G.length ∨ 20 < O.length then 9 else if (!(I.all itemB) || !nameB T || !(G.all nameB) || !(O.all ordB)) = true ∨ lim < -1 ∨ 4611686018427387904 < lim then 10 else if op = 0 then 0 else if 32 < depthC (.mk op args ⟨lc, lt, ln, ls⟩ ⟨rc, rt, rn, rs⟩) then 20 else if fineC (.mk op args ⟨lc, lt, ln, ls⟩ ⟨rc, rt, rn, rs⟩) = false then 10 else 0 := rfl
  rw [FQ] at HQ
  clear FQ H S hcv
  generalize I.all itemB = bI at *
  generalize nameB T = bT at *
  generalize G.all nameB = bG at *
  generalize O.all ordB = bO at *
  generalize fineC (.mk op args ⟨lc, lt, ln, ls⟩ ⟨rc, rt, rn, rs⟩) = bF at *
  generalize depthC (.mk op args ⟨lc, lt, ln, ls⟩ ⟨rc, rt, rn, rs⟩) = D at *
  obtain ⟨nI, hnI⟩ : ∃ n, I.length = n := ⟨_, rfl⟩
  obtain ⟨nG, hnG⟩ : ∃ n, G.length = n := ⟨_, rfl⟩
  obtain ⟨nO, hnO⟩ : ∃ n, O.length = n := ⟨_, rfl⟩
  rw [hnI] at HQ CI hni
  rw [hnG] at HQ CG hng
  rw [hnO] at HQ CO hno
  simp only [hnI, hnG, hnO]
  clear hnI hnG hnO
  obtain ⟨TB, hTB⟩ : ∃ t : ByteArray, (⟨T.toArray⟩ : ByteArray) = t := ⟨_, rfl⟩
  simp only [hTB] at NM ⊢
  clear hTB
  have hz0 : w.heap.size < w.heap.size + 1 := by omega
  by_cases h0 : nI = 0
  · have e0 : ((nI : Int) == 0) = true := by simp [h0]
    rw [if_pos (.inl h0)] at HQ
    clear h0
    go_enter Tryz.func18, Tryz.ntmps18
    go_wp2_with (first | (go_at_call 36; (with_reducible refine (CI.out _ (by repeat (first | exact Below.refl _ _ | refine Below.setCell ?_ (by first | (simp; done) | (simp; omega) | omega) _ | refine Below.alloc ?_ (by first | (simp; done) | (simp; omega) | omega) _ | refine Below.drew ?_ | assumption | refine Below.trans ?_ (Below.mono (by assumption) (by first | (simp; done) | (simp; omega) | omega))))).mono ?_); rintro e w1 ⟨rfl, hb1⟩; obtain ⟨hc1, hf1⟩ := bcell hb1; have hs1 := hb1.size; (try simp only [World.size_alloc] at hc1 hf1 hs1); have hz1 : w.heap.size < w1.heap.size := (by omega)) | (go_at_call 39; (with_reducible refine (NM.out _).mono ?_); rintro e w2 ⟨rfl, hb2⟩; obtain ⟨hc2, hf2⟩ := bcell hb2; have hs2 := hb2.size; (try simp only [World.size_alloc] at hc2 hf2 hs2); have hz2 : w.heap.size < w2.heap.size := (by omega)) | (go_at_call 40; (with_reducible refine (CG.out _ (by repeat (first | exact Below.refl _ _ | refine Below.setCell ?_ (by first | (simp; done) | (simp; omega) | omega) _ | refine Below.alloc ?_ (by first | (simp; done) | (simp; omega) | omega) _ | refine Below.drew ?_ | assumption | refine Below.trans ?_ (Below.mono (by assumption) (by first | (simp; done) | (simp; omega) | omega))))).mono ?_); rintro e w3 ⟨rfl, hb3⟩; obtain ⟨hc3, hf3⟩ := bcell hb3; have hs3 := hb3.size; (try simp only [World.size_alloc] at hc3 hf3 hs3); have hz3 : w.heap.size < w3.heap.size := (by omega)) | (go_at_call 42; (with_reducible refine (CO.out _ (by repeat (first | exact Below.refl _ _ | refine Below.setCell ?_ (by first | (simp; done) | (simp; omega) | omega) _ | refine Below.alloc ?_ (by first | (simp; done) | (simp; omega) | omega) _ | refine Below.drew ?_ | assumption | refine Below.trans ?_ (Below.mono (by assumption) (by first | (simp; done) | (simp; omega) | omega))))).mono ?_); rintro e w4 ⟨rfl, hb4⟩; obtain ⟨hc4, hf4⟩ := bcell hb4; have hs4 := hb4.size; (try simp only [World.size_alloc] at hc4 hf4 hs4); have hz4 : w.heap.size < w4.heap.size := (by omega)) | (go_at_call 44; (with_reducible refine (DP.out _ (by repeat (first | exact Below.refl _ _ | refine Below.setCell ?_ (by first | (simp; done) | (simp; omega) | omega) _ | refine Below.alloc ?_ (by first | (simp; done) | (simp; omega) | omega) _ | refine Below.drew ?_ | assumption | refine Below.trans ?_ (Below.mono (by assumption) (by first | (simp; done) | (simp; omega) | omega))))).mono ?_); rintro e w5 ⟨rfl, hb5⟩; obtain ⟨hc5, hf5⟩ := bcell hb5; have hs5 := hb5.size; (try simp only [World.size_alloc] at hc5 hf5 hs5); have hz5 : w.heap.size < w5.heap.size := (by omega)) | (go_at_call 45; (with_reducible refine (FN.out _ (by repeat (first | exact Below.refl _ _ | refine Below.setCell ?_ (by first | (simp; done) | (simp; omega) | omega) _ | refine Below.alloc ?_ (by first | (simp; done) | (simp; omega) | omega) _ | refine Below.drew ?_ | assumption | refine Below.trans ?_ (Below.mono (by assumption) (by first | (simp; done) | (simp; omega) | omega))))).mono ?_); rintro e w6 ⟨rfl, hb6⟩; obtain ⟨hc6, hf6⟩ := bcell hb6; have hs6 := hb6.size; (try simp only [World.size_alloc] at hc6 hf6 hs6); have hz6 : w.heap.size < w6.heap.size := (by omega)))
    exact HQ.out _ _ ⟨rfl, (by repeat (first | exact Below.refl _ _ | refine Below.setCell ?_ (by first | (simp; done) | (simp; omega) | omega) _ | refine Below.alloc ?_ (by first | (simp; done) | (simp; omega) | omega) _ | refine Below.drew ?_ | assumption | refine Below.trans ?_ (Below.mono (by assumption) (by first | (simp; done) | (simp; omega) | omega))))⟩

  · have e0 : ((nI : Int) == 0) = false := by simp [h0]
    by_cases h1 : 20 < nI ∨ 20 < nG ∨ 20 < nO
    · rw [if_pos (.inr h1)] at HQ
      have HM : 20 < (if (if nI < nG then (nG : Int) else (nI : Int)) < (nO : Int) then (nO : Int) else if nI < nG then (nG : Int) else (nI : Int)) := by split <;> (try split) <;> omega
      clear h0
      go_enter Tryz.func18, Tryz.ntmps18
      go_wp2_with (first | (go_at_call 36; (with_reducible refine (CI.out _ (by repeat (first | exact Below.refl _ _ | refine Below.setCell ?_ (by first | (simp; done) | (simp; omega) | omega) _ | refine Below.alloc ?_ (by first | (simp; done) | (simp; omega) | omega) _ | refine Below.drew ?_ | assumption | refine Below.trans ?_ (Below.mono (by assumption) (by first | (simp; done) | (simp; omega) | omega))))).mono ?_); rintro e w1 ⟨rfl, hb1⟩; obtain ⟨hc1, hf1⟩ := bcell hb1; have hs1 := hb1.size; (try simp only [World.size_alloc] at hc1 hf1 hs1); have hz1 : w.heap.size < w1.heap.size := (by omega)) | (go_at_call 39; (with_reducible refine (NM.out _).mono ?_); rintro e w2 ⟨rfl, hb2⟩; obtain ⟨hc2, hf2⟩ := bcell hb2; have hs2 := hb2.size; (try simp only [World.size_alloc] at hc2 hf2 hs2); have hz2 : w.heap.size < w2.heap.size := (by omega)) | (go_at_call 40; (with_reducible refine (CG.out _ (by repeat (first | exact Below.refl _ _ | refine Below.setCell ?_ (by first | (simp; done) | (simp; omega) | omega) _ | refine Below.alloc ?_ (by first | (simp; done) | (simp; omega) | omega) _ | refine Below.drew ?_ | assumption | refine Below.trans ?_ (Below.mono (by assumption) (by first | (simp; done) | (simp; omega) | omega))))).mono ?_); rintro e w3 ⟨rfl, hb3⟩; obtain ⟨hc3, hf3⟩ := bcell hb3; have hs3 := hb3.size; (try simp only [World.size_alloc] at hc3 hf3 hs3); have hz3 : w.heap.size < w3.heap.size := (by omega)) | (go_at_call 42; (with_reducible refine (CO.out _ (by repeat (first | exact Below.refl _ _ | refine Below.setCell ?_ (by first | (simp; done) | (simp; omega) | omega) _ | refine Below.alloc ?_ (by first | (simp; done) | (simp; omega) | omega) _ | refine Below.drew ?_ | assumption | refine Below.trans ?_ (Below.mono (by assumption) (by first | (simp; done) | (simp; omega) | omega))))).mono ?_); rintro e w4 ⟨rfl, hb4⟩; obtain ⟨hc4, hf4⟩ := bcell hb4; have hs4 := hb4.size; (try simp only [World.size_alloc] at hc4 hf4 hs4); have hz4 : w.heap.size < w4.heap.size := (by omega)) | (go_at_call 44; (with_reducible refine (DP.out _ (by repeat (first | exact Below.refl _ _ | refine Below.setCell ?_ (by first | (simp; done) | (simp; omega) | omega) _ | refine Below.alloc ?_ (by first | (simp; done) | (simp; omega) | omega) _ | refine Below.drew ?_ | assumption | refine Below.trans ?_ (Below.mono (by assumption) (by first | (simp; done) | (simp; omega) | omega))))).mono ?_); rintro e w5 ⟨rfl, hb5⟩; obtain ⟨hc5, hf5⟩ := bcell hb5; have hs5 := hb5.size; (try simp only [World.size_alloc] at hc5 hf5 hs5); have hz5 : w.heap.size < w5.heap.size := (by omega)) | (go_at_call 45; (with_reducible refine (FN.out _ (by repeat (first | exact Below.refl _ _ | refine Below.setCell ?_ (by first | (simp; done) | (simp; omega) | omega) _ | refine Below.alloc ?_ (by first | (simp; done) | (simp; omega) | omega) _ | refine Below.drew ?_ | assumption | refine Below.trans ?_ (Below.mono (by assumption) (by first | (simp; done) | (simp; omega) | omega))))).mono ?_); rintro e w6 ⟨rfl, hb6⟩; obtain ⟨hc6, hf6⟩ := bcell hb6; have hs6 := hb6.size; (try simp only [World.size_alloc] at hc6 hf6 hs6); have hz6 : w.heap.size < w6.heap.size := (by omega)))

      all_goals exact HQ.out _ _ ⟨rfl, (by repeat (first | exact Below.refl _ _ | refine Below.setCell ?_ (by first | (simp; done) | (simp; omega) | omega) _ | refine Below.alloc ?_ (by first | (simp; done) | (simp; omega) | omega) _ | refine Below.drew ?_ | assumption | refine Below.trans ?_ (Below.mono (by assumption) (by first | (simp; done) | (simp; omega) | omega))))⟩
    · rw [if_neg (by omega)] at HQ
      have HM : (if (if nI < nG then (nG : Int) else (nI : Int)) < (nO : Int) then (nO : Int) else if nI < nG then (nG : Int) else (nI : Int)) ≤ 20 := by split <;> (try split) <;> omega
      clear h0 h1
      go_enter Tryz.func18, Tryz.ntmps18
      go_wp2_with (first | (go_at_call 36; (with_reducible refine (CI.out _ (by repeat (first | exact Below.refl _ _ | refine Below.setCell ?_ (by first | (simp; done) | (simp; omega) | omega) _ | refine Below.alloc ?_ (by first | (simp; done) | (simp; omega) | omega) _ | refine Below.drew ?_ | assumption | refine Below.trans ?_ (Below.mono (by assumption) (by first | (simp; done) | (simp; omega) | omega))))).mono ?_); rintro e w1 ⟨rfl, hb1⟩; obtain ⟨hc1, hf1⟩ := bcell hb1; have hs1 := hb1.size; (try simp only [World.size_alloc] at hc1 hf1 hs1); have hz1 : w.heap.size < w1.heap.size := (by omega)) | (go_at_call 39; (with_reducible refine (NM.out _).mono ?_); rintro e w2 ⟨rfl, hb2⟩; obtain ⟨hc2, hf2⟩ := bcell hb2; have hs2 := hb2.size; (try simp only [World.size_alloc] at hc2 hf2 hs2); have hz2 : w.heap.size < w2.heap.size := (by omega)) | (go_at_call 40; (with_reducible refine (CG.out _ (by repeat (first | exact Below.refl _ _ | refine Below.setCell ?_ (by first | (simp; done) | (simp; omega) | omega) _ | refine Below.alloc ?_ (by first | (simp; done) | (simp; omega) | omega) _ | refine Below.drew ?_ | assumption | refine Below.trans ?_ (Below.mono (by assumption) (by first | (simp; done) | (simp; omega) | omega))))).mono ?_); rintro e w3 ⟨rfl, hb3⟩; obtain ⟨hc3, hf3⟩ := bcell hb3; have hs3 := hb3.size; (try simp only [World.size_alloc] at hc3 hf3 hs3); have hz3 : w.heap.size < w3.heap.size := (by omega)) | (go_at_call 42; (with_reducible refine (CO.out _ (by repeat (first | exact Below.refl _ _ | refine Below.setCell ?_ (by first | (simp; done) | (simp; omega) | omega) _ | refine Below.alloc ?_ (by first | (simp; done) | (simp; omega) | omega) _ | refine Below.drew ?_ | assumption | refine Below.trans ?_ (Below.mono (by assumption) (by first | (simp; done) | (simp; omega) | omega))))).mono ?_); rintro e w4 ⟨rfl, hb4⟩; obtain ⟨hc4, hf4⟩ := bcell hb4; have hs4 := hb4.size; (try simp only [World.size_alloc] at hc4 hf4 hs4); have hz4 : w.heap.size < w4.heap.size := (by omega)) | (go_at_call 44; (with_reducible refine (DP.out _ (by repeat (first | exact Below.refl _ _ | refine Below.setCell ?_ (by first | (simp; done) | (simp; omega) | omega) _ | refine Below.alloc ?_ (by first | (simp; done) | (simp; omega) | omega) _ | refine Below.drew ?_ | assumption | refine Below.trans ?_ (Below.mono (by assumption) (by first | (simp; done) | (simp; omega) | omega))))).mono ?_); rintro e w5 ⟨rfl, hb5⟩; obtain ⟨hc5, hf5⟩ := bcell hb5; have hs5 := hb5.size; (try simp only [World.size_alloc] at hc5 hf5 hs5); have hz5 : w.heap.size < w5.heap.size := (by omega)) | (go_at_call 45; (with_reducible refine (FN.out _ (by repeat (first | exact Below.refl _ _ | refine Below.setCell ?_ (by first | (simp; done) | (simp; omega) | omega) _ | refine Below.alloc ?_ (by first | (simp; done) | (simp; omega) | omega) _ | refine Below.drew ?_ | assumption | refine Below.trans ?_ (Below.mono (by assumption) (by first | (simp; done) | (simp; omega) | omega))))).mono ?_); rintro e w6 ⟨rfl, hb6⟩; obtain ⟨hc6, hf6⟩ := bcell hb6; have hs6 := hb6.size; (try simp only [World.size_alloc] at hc6 hf6 hs6); have hz6 : w.heap.size < w6.heap.size := (by omega)))
      all_goals (
        refine HQ.out _ _ ⟨?_, (by repeat (first | exact Below.refl _ _ | refine Below.setCell ?_ (by first | (simp; done) | (simp; omega) | omega) _ | refine Below.alloc ?_ (by first | (simp; done) | (simp; omega) | omega) _ | refine Below.drew ?_ | assumption | refine Below.trans ?_ (Below.mono (by assumption) (by first | (simp; done) | (simp; omega) | omega))))⟩
        refine congrArg (fun z => Ending.returned (Value.int .i64 z)) ?_
        go_light
        clear HQ CI CG CO NM DP FN
        (try clear hb1 hc1 hf1 hs1 hz1)
        (try clear hb2 hc2 hf2 hs2 hz2)
        (try clear hb3 hc3 hf3 hs3 hz3)
        (try clear hb4 hc4 hf4 hs4 hz4)
        (try clear hb5 hc5 hf5 hs5 hz5)
        (try clear hb6 hc6 hf6 hs6 hz6)
        first | rfl | (simp_all <;> omega))
end Go.Proofs.YtijlifdbjhieaaaGreatDoor
