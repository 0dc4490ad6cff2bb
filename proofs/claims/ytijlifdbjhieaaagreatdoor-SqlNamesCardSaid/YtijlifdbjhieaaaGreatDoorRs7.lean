/-
  The statement SqlNames is proved, as its tied card: for every input the law returns true, and its arguments read as before. Listed variables (tables of the library, two errors of strconv) read as the program's text lays them; the card ties them.
-/
import Derived.Test.YtijlifdbjhieaaaGreatDoorRs1
import Derived.Test.YtijlifdbjhieaaaGreatDoorSn1
import Derived.Test.YtijlifdbjhieaaaGreatDoorRs2
import Derived.Test.YtijlifdbjhieaaaGreatDoorTie
import Derived.Test.YtijlifdbjhieaaaGreatDoorCards
import Derived.Test.YtijlifdbjhieaaaGreatDoorSn11
import Derived.SevenTiedAt
import Derived.ChangeMaps5
import Derived.Lib.SmallJoins

/-
  Schemas that an argument reads as.
-/
namespace Go.Proofs.YtijlifdbjhieaaaGreatDoor
set_option linter.all false
open Go.ChangeShapes Go.WideShapes Go.ChangeAt Go.ChangeMaps Go.RowKit Go.Deep Go.Lib Go.Shelf

section
variable {H : Type} {enc : TypeId × Value → H} {W : World} {base : Nat} {spare : Nat → Bool} {held : Bool} {r : Reach} {b0 : Nat} {v : Value} {d : DataW H} {p : List MemPlace}
set_option maxRecDepth 100000 in
theorem col_open {fuel : Nat} {cs : List Value} {x : DataW H × List MemPlace} (h : DataW.trod enc Tryz.prog W base spare held fuel 64 cs = some x) (hw : Wts (x.1.weights Tryz.prog 64)) :
    ∃ t : ColT, cs = [.string ⟨t.name.toArray⟩, .int .i64 t.ty] := by
  obtain ⟨xs, n, rfl, rfl, hl, hxl, hf⟩ := DataW.trod_struct Tryz.underlying64 h
  have hc2 : Tryz.prog.cellsOf 64 = 2 := by kernel_rfl
  rw [hc2] at hl
  match cs, hl with
  | [c0, c1], _ =>
    match xs, hxl with
    | [y0, y1], _ =>
      have k0 := hf 0 _ rfl
      have k1 := hf 1 _ rfl
      have s1 : Tryz.prog.cellsOf 9 = 1 := by kernel_rfl
      have s2 : Tryz.prog.cellsOf 3 = 1 := by kernel_rfl
      simp only [s1, s2, List.drop_zero, List.drop_succ_cons, List.take_succ_cons, List.take_zero, List.getElem?_cons_zero, List.getElem?_cons_succ] at k0 k1
      have e : ∀ z, z ∈ DataW.weightsEach Tryz.prog [9, 3] [y0.1, y1.1] → z ≤ 1000000000000000 := fun z hz => hw z (by simp only [DataW.weights, Tryz.underlying64]; exact hz)
      simp only [DataW.weightsEach, List.mem_append, List.not_mem_nil, or_false] at e
      obtain ⟨a0, h0, w0⟩ := str_open k0 (fun z hz => e z (.inl hz))
      obtain ⟨a1, h1, -⟩ := int_open k1
      replace h0 : [c0] = _ := h0
      replace h1 : [c1] = _ := h1
      simp only [List.cons.injEq, and_true] at h0 h1
      subst h0 h1
      exact ⟨⟨a0, a1⟩, rfl⟩
/-- A schema's three cells. -/
def SchO (W : World) (cs : List Value) (s : SchT) : Prop := ∃ A1 c1 A2 c2, cs = [.string ⟨s.table.toArray⟩, .slice A1 s.cols.length c1, .slice A2 s.key.length c2] ∧ SchV W s A1 c1 A2 c2
set_option maxRecDepth 100000 in
theorem sch_open {fuel : Nat} {cs : List Value} {x : DataW H × List MemPlace} (h : DataW.trod enc Tryz.prog W base spare held fuel 59 cs = some x) (hw : Wts (x.1.weights Tryz.prog 59)) : ∃ s : SchT, SchO W cs s := by
  obtain ⟨xs, n, rfl, rfl, hl, hxl, hf⟩ := DataW.trod_struct Tryz.underlying59 h
  have hc3 : Tryz.prog.cellsOf 59 = 3 := by kernel_rfl
  rw [hc3] at hl
  match cs, hl with
  | [c0, c1, c2], _ =>
    match xs, hxl with
    | [y0, y1, y2], _ =>
      have k0 := hf 0 _ rfl
      have k1 := hf 1 _ rfl
      have k2 := hf 2 _ rfl
      have s1 : Tryz.prog.cellsOf 9 = 1 := by kernel_rfl
      have s2 : Tryz.prog.cellsOf 57 = 1 := by kernel_rfl
      have s3 : Tryz.prog.cellsOf 28 = 1 := by kernel_rfl
      have s4 : Tryz.prog.cellsOf 64 = 2 := by kernel_rfl
      simp only [s1, s2, s3, List.drop_zero, List.drop_succ_cons, List.take_succ_cons, List.take_zero, List.getElem?_cons_zero, List.getElem?_cons_succ] at k0 k1 k2
      have e : ∀ z, z ∈ DataW.weightsEach Tryz.prog [9, 57, 28] [y0.1, y1.1, y2.1] → z ≤ 1000000000000000 := fun z hz => hw z (by simp only [DataW.weights, Tryz.underlying59]; exact hz)
      simp only [DataW.weightsEach, List.mem_append, List.not_mem_nil, or_false] at e
      obtain ⟨a0, h0, w0⟩ := str_open k0 (fun z hz => e z (.inl hz))
      obtain ⟨A1, q1, l1, h1, i1, i2, i3, i4⟩ := slice_open (α := ColT) (sz := 2) (R := fun cs t => cs = [.string ⟨t.name.toArray⟩, .int .i64 t.ty]) Tryz.underlying57 s4 (by decide) (of_decide_eq_true (by kernel_rfl)) (fun m hm cs x hx hwx => col_open hx hwx) k1 (fun z hz => e z (.inr (.inl hz)))
      obtain ⟨A2, q2, l2, h2, j1, j2, j3, j4⟩ := slice_open (α := List UInt8) (sz := 1) (R := fun cs t => cs = [.string ⟨t.toArray⟩] ∧ t.length ≤ 1000000000000000) Tryz.underlying28 s1 (by decide) (of_decide_eq_true (by kernel_rfl)) (fun m hm cs x hx hwx => str_open hx hwx) k2 (fun z hz => e z (.inr (.inr hz)))
      replace h0 : [c0] = _ := h0
      replace h1 : [c1] = _ := h1
      replace h2 : [c2] = _ := h2
      simp only [List.cons.injEq, and_true] at h0 h1 h2
      subst h0 h1 h2
      refine ⟨⟨a0, l1, l2⟩, A1, q1, A2, q2, rfl, ⟨fun i x hi => ?_, fun i x hi => ?_, ⟨i2, i3⟩, ⟨j2, j3⟩⟩⟩
      · obtain ⟨b, off, cs', e1, e2, e3, rfl⟩ := i4 i x hi
        exact ⟨b, off, e1, e2, e3 0 _ rfl, e3 1 _ rfl⟩
      · obtain ⟨b, off, cs', e1, e2, e3, rfl, -⟩ := j4 i x hi
        exact ⟨b, off, e1, e2, by have := e3 0 _ rfl; rwa [Nat.mul_one] at this⟩
set_option maxRecDepth 100000 in
/-- A schema that an argument reads as. -/
theorem schema_arg (hval : Value.okWide Tryz.prog W r b0 59 v) (h : DataW.Trod enc Tryz.prog W base spare held 59 v d p) (hw : Wts (d.weights Tryz.prog 59)) :
    ∃ (s : SchT) (A1 : Option Addr) (c1 : Nat) (A2 : Option Addr) (c2 : Nat), v = .agg #[.string ⟨s.table.toArray⟩, .slice A1 s.cols.length c1, .slice A2 s.key.length c2] ∧ SchV W s A1 c1 A2 c2 := by
  obtain ⟨csa, rfl, hsz⟩ := okWide_struct Tryz.underlying59 hval
  obtain ⟨fuel, hf0⟩ := h
  have hcs : (Value.agg csa).cells.toList = csa.toList := rfl
  rw [hcs] at hf0
  obtain ⟨s, A1, c1, A2, c2, e, hv⟩ := sch_open hf0 hw
  obtain ⟨csl⟩ := csa
  dsimp only at e
  subst e
  exact ⟨s, A1, c1, A2, c2, rfl, hv⟩
set_option maxRecDepth 100000 in
/-- Schemas that an argument reads as. -/
theorem schemas_arg (hval : Value.okWide Tryz.prog W r b0 56 v) (h : DataW.Trod enc Tryz.prog W base spare held 56 v d p) (hw : Wts (d.weights Tryz.prog 56)) :
    ∃ (A : Option Addr) (c : Nat) (l : List SchT), v = .slice A l.length c ∧ ScL W A l ∧ (l.length ≤ 1000000000000000 ∧ l.length ≤ c ∧ (A = none → c = 0)) := by
  obtain ⟨fuel, hf0⟩ := h
  have s3 : Tryz.prog.cellsOf 59 = 3 := by kernel_rfl
  obtain ⟨A, c, l, h1, i1, i2, i3, i4⟩ := slice_open (α := SchT) (sz := 3) (R := fun cs t => SchO W cs t) Tryz.underlying56 s3 (by decide) (of_decide_eq_true (by kernel_rfl)) (fun m hm cs x hx hwx => sch_open hx hwx) hf0 hw
  obtain ⟨A', n', c', rfl⟩ := okWide_slice Tryz.underlying56 hval
  replace h1 : [Value.slice A' n' c'] = [Value.slice A l.length c] := h1
  injection h1 with h1
  injection h1 with e1 e2 e3
  subst e1 e2 e3
  refine ⟨_, _, l, rfl, fun i x hi => ?_, i1, i2, i3⟩
  obtain ⟨b, off, cs', e1, e2, e3, A1, c1, A2, c2, rfl, hv⟩ := i4 i x hi
  exact ⟨b, off, A1, c1, A2, c2, e1, e2, e3 0 _ rfl, e3 1 _ rfl, e3 2 _ rfl, hv⟩
end
end Go.Proofs.YtijlifdbjhieaaaGreatDoor

/-
  The statement SqlNames is proved, as its tied card: for every input the law returns true, and its arguments read as before. Listed variables (tables of the library, two errors of strconv) read as the program's text lays them; the card ties them.
-/
namespace Go.Proofs.YtijlifdbjhieaaaGreatDoor.sqlNames
set_option linter.all false
open Go.ChangeShapes Go.WideShapes Go.ChangeAt Go.ChangeMaps Go.RowKit Go.Deep

set_option maxRecDepth 100000 in
theorem lifted (os : Os) (started : os.Started) (H : Type) (enc : TypeId × Value → H) :
    ReturnsInHanded {} Tryz.checked os 6 .any (fun w args => (Rows.sqlNamesSpec.pre enc Tryz.prog Tryz.f6 Rows.sqlNamesRow.domain false w args ∧ laidMetH Tryz.prog Rows.sqlNamesRow.laid w) ∧ sizedMet enc Tryz.prog Tryz.f6 (OpenSpec.ofChange Rows.sqlNamesSpec) false w args) (Rows.sqlNamesSpec.post enc Tryz.prog Tryz.f6 false true false false) := by
  refine handedS (C := Tryz.checked) own started (by kernel_rfl) Tryz.func6 rfl
    (ChangeSpec.witness_shaped (enc := enc) (C := Tryz.checked) (os := os) (X := fun w _ => laidMetH Tryz.prog Rows.sqlNamesRow.laid w) false (World.laidAll Tryz.prog os Rows.sqlNamesRow.laid) #[.agg #[.slice none 0 0, .string ⟨#[]⟩, .int .i64 0, .slice none 0 0, .string ⟨#[]⟩, .int .i64 0, .int .i64 0, .string ⟨#[]⟩, .string ⟨#[]⟩, .int .i64 0, .int .i64 0, .string ⟨#[]⟩, .slice none 0 0, .slice none 0 0, .int .i64 0], .slice none 0 0, .agg #[.string ⟨#[]⟩, .slice none 0 0, .slice none 0 0]] 8 (World.laidAll_os _ _ _)
      (World.shaped_of_ZipB (by kernel_rfl) (by kernel_rfl)) (by kernel_rfl) (by kernel_rfl) (by kernel_rfl)
      (by rw [MakeChecks.laidMetH_plain _ _ _ (by kernel_rfl)]; exact laidMet_laidAll _ (by kernel_rfl) (by kernel_rfl))) ?_
  intro W base args ds gs before hval0 hW hwt hsh hlaid
  have hwt2 := List.all_eq_true.1 hwt
  have hval : ∀ (j : Nat) t v, Tryz.f6.params[j]? = some t → args[j]? = some v → Value.okWide Tryz.prog W .any base t v := hval0
  have hW' := hW
  obtain ⟨p, q, hA0, hV, rfl, hfz, hnd⟩ := hW
  have hA : DataW.TrodAll enc Tryz.prog W 0 (fun _ => true) true Tryz.f6.params.toList args.toList ds p := hA0
  rw [Tryz.params6] at hA hval hwt2
  obtain ⟨v0, vs0, d0, ds0, p0, q0, hargs, rfl, rfl, h0, r0⟩ := trodAll_cons hA
  obtain ⟨v1, vs1, d1, ds1, p1, q1, rfl, rfl, rfl, h1, r1⟩ := trodAll_cons r0
  obtain ⟨v2, vs2, d2, ds2, p2, q2, rfl, rfl, rfl, h2, r2⟩ := trodAll_cons r1
  obtain ⟨rfl, rfl, rfl⟩ := trodAll_nil r2
  obtain rfl : args = #[v0, v1, v2] := by cases args; simp_all
  obtain ⟨rfl, rfl⟩ := trodVars_none hV
  have k0 := h0
  have lt0 : ∀ x ∈ p0, x.block < W.heap.size := by obtain ⟨m, hm⟩ := k0; exact DataW.trod_lt m _ _ _ hm
  have wt0 : Wts (d0.weights Tryz.prog 31) := wts_of fun x hx => of_decide_eq_true (hwt2 x (List.mem_append_left _ hx))
  have k1 := h1
  have lt1 : ∀ x ∈ p1, x.block < W.heap.size := by obtain ⟨m, hm⟩ := k1; exact DataW.trod_lt m _ _ _ hm
  have wt1 : Wts (d1.weights Tryz.prog 56) := wts_of fun x hx => of_decide_eq_true (hwt2 x (List.mem_append_right _ (List.mem_append_left _ hx)))
  have k2 := h2
  have lt2 : ∀ x ∈ p2, x.block < W.heap.size := by obtain ⟨m, hm⟩ := k2; exact DataW.trod_lt m _ _ _ hm
  have wt2 : Wts (d2.weights Tryz.prog 59) := wts_of fun x hx => of_decide_eq_true (hwt2 x (List.mem_append_right _ (List.mem_append_right _ (List.mem_append_left _ hx))))
  obtain ⟨q0q, AI0, AG0, AO0, cI0, cG0, cO0, cs0, hv0, hq0, hb0, hg0, hl0, hm0⟩ := query_arg (hval 0 31 v0 rfl rfl) h0 wt0
  obtain ⟨LA1, cL1, l1, hv1, hl1, hb1⟩ := schemas_arg (hval 1 56 v1 rfl rfl) h1 wt1
  obtain ⟨s2, B12, d12, B22, d22, hv2, hs2⟩ := schema_arg (hval 2 59 v2 rfl rfl) h2 wt2
  have WK := names_walk q0q AI0 AG0 AO0 cI0 cG0 cO0 cs0 LA1 cL1 l1 s2 B12 d12 B22 d22 W hq0 hb0 hg0  hl1 hb1 hs2 (env_laidH hsh hlaid)
  clear hA0 hval0
  simp only [List.append_nil] at hW'
  subst hv0
  subst hv1
  subst hv2
  refine WK.mono fun e W' ⟨he, bel⟩ => ?_
  subst he
  exact ⟨_, rfl, _, _, _, [], _, [], hW', trodAll_mk1 (shut_bool Tryz.underlying4 _), (trodAll_cons_mk (Below.trod laidOut (by kernel_rfl) (of_decide_eq_true (by kernel_rfl)) k0 bel lt0) (trodAll_cons_mk (Below.trod laidOut (by kernel_rfl) (of_decide_eq_true (by kernel_rfl)) k1 bel lt1) (trodAll_cons_mk (Below.trod laidOut (by kernel_rfl) (of_decide_eq_true (by kernel_rfl)) k2 bel lt2) trodAll_mk0))), rfl, bel.frame _, fun h => by cases h⟩

theorem over : Rows.SqlNamesSaid :=
  OpenClaim.holds_of_wide 6 Tryz.f6 rfl rfl rfl rfl rfl rfl rfl ⟨rfl, rfl, rfl, rfl, rfl⟩ rfl rfl rfl rfl rfl (by kernel_rfl) Tryz.func6 (by kernel_rfl)
    (of_decide_eq_true (by kernel_rfl)) (by unfold Func.isWrapper; first | (rw [if_pos (by decide +kernel)]; kernel_rfl) | (rw [if_neg (by decide +kernel)]; exact ⟨rfl, rfl⟩))
    (fun os started H enc _ => lifted os started H enc)

theorem proved : Rows.SqlNamesCardSaid :=
  Claim7.holds_tied_plain_at .later [] [.data, .data, .data, .data, .sentinel, .sentinel, .pinned] true (true, "a557761271ce1b46b018b5f3391420cd7b96d49eddf084c9cf829437b58ac598") true
    over (fun _ h => by cases h) (by kernel_rfl) (fun _ h => by cases h) sqlNames_row_tie rfl ⟨rfl, rfl⟩ (by kernel_rfl) rfl
    (fun f fn hf hfn => by
      obtain rfl : f = 6 := Option.some.inj ((show Tryz.prog.funcNamed "exchequer/exlaw19.SqlNames" = some 6 by kernel_rfl).symm.trans hf) |>.symm
      obtain rfl : fn = Tryz.f6 := (Option.some.inj (Tryz.func6.symm.trans hfn)).symm
      exact ⟨by kernel_rfl, fun j t ht => by
        rw [Tryz.params6] at ht
        have hm : t ∈ [31, 56, 59] := by simpa using Array.mem_of_getElem? ht
        have hall : ([31, 56, 59].all fun u => !Tryz.prog.wantsStandIn u) = true := by kernel_rfl
        exact (show Tryz.prog.wantsStandIn t = false by simpa using List.all_eq_true.1 hall t hm)⟩)
    (by kernel_rfl)
#print axioms proved
end Go.Proofs.YtijlifdbjhieaaaGreatDoor.sqlNames
