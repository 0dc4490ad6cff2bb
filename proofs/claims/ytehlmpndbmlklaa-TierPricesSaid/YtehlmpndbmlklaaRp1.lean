/-
  The statement TierPrices is proved: for every input the law returns true, and its arguments read as before. No condition.
-/
import Derived.Test.YtehlmpndbmlklaaRows
import Derived.Test.YtehlmpndbmlklaaLp1
import Derived.WalkKit
import Derived.ProofKit
import Derived.OpenShut
import Derived.ShutString
import Derived.ChangeOld
import Derived.Below
import Derived.Deep.SlicePairs
namespace Go.Proofs.Ytehlmpndbmlklaa.tierPrices
set_option linter.all false
open Go.ChangeShapes Go.WideShapes Go.ChangeAt Go.RowKit Go.Deep

theorem own : ownKnob Try.prog.godebug = none := by kernel_rfl
theorem laidOut : laidOutB Try.prog = true := by kernel_rfl

/-- A slice of tiers that an argument reads as. -/
theorem tiers_arg {H : Type} {enc : TypeId × Value → H} {W : World} {base : Nat} {spare : Nat → Bool} {held : Bool} {fuel : Nat} {A : Option Addr} {len cap : Nat} {x : DataW H × List MemPlace}
    (h : DataW.trod enc Try.prog W base spare held fuel 22 [.slice A len cap] = some x) : ∃ l : List (Int × Int), l.length = len ∧ len ≤ 9223372036854775807 ∧ Tiers W A l ∧ ∀ t ∈ l, In64 t.1 ∧ In64 t.2 := by
  have in64 : ∀ {x : Int}, (Lit.int .i64 x).wf = true → In64 x := fun h => by simp [Lit.wf, IntKind.min, IntKind.max, IntKind.signed, IntKind.bits] at h; exact ⟨by omega, by omega⟩
  rcases open_slice_pairs Try.underlying22 Try.underlying30 (by kernel_rfl) rfl rfl (by kernel_rfl) (by kernel_rfl) h with ⟨hcs, _⟩ | ⟨a, ln, cp, m, n, V0, V1, D0, D1, P0, P1, hcs, _, hl, hm, hmm, _, hi⟩
  · simp at hcs
    obtain ⟨rfl, rfl, rfl⟩ := hcs
    exact ⟨[], rfl, by omega, (fun i v h => by simp at h), (fun x hx => by simp at hx)⟩
  · simp at hcs
    obtain ⟨rfl, rfl, rfl⟩ := hcs
    have hlm : len ≤ m := by rw [hmm]; split <;> omega
    have each : ∀ i, ∃ t : Int × Int, i < len → W.cell? (a.add (i * 2)) = some (.int .i64 t.1) ∧ W.cell? (a.add (i * 2 + 1)) = some (.int .i64 t.2) ∧ In64 t.1 ∧ In64 t.2 := fun i => by
      by_cases k : i < len
      · obtain ⟨c0, c1, h0, h1⟩ := hi i (by omega)
        obtain ⟨u, hu, _, wu⟩ := DataW.trod_int Try.underlying3 h0
        obtain ⟨p, hp, _, wp⟩ := DataW.trod_int Try.underlying3 h1
        simp at hu hp
        rw [hu] at c0; rw [hp] at c1
        exact ⟨(u, p), fun _ => ⟨c0, c1, in64 wu, in64 wp⟩⟩
      · exact ⟨(0, 0), fun h => absurd h k⟩
    obtain ⟨f, hf⟩ := Classical.axiomOfChoice each
    unfold maxLen at hm
    refine ⟨(List.range len).map f, by simp, by omega, fun i t ht => ?_, fun t ht => ?_⟩
    · obtain ⟨h1, h2⟩ := List.getElem?_eq_some_iff.1 ht
      have hil : i < len := by simpa using h1
      simp at h2; subst h2
      obtain ⟨b, off, spot⟩ := a
      obtain ⟨c0, c1, _⟩ := hf i hil
      have z0 := World.cell?_spot (hf 0 (by omega)).1
      have hspot : spot = none := by simpa [Addr.add] using z0
      subst hspot
      have ea : ∀ j, (Addr.add ⟨b, off, none⟩ j) = ⟨b, off + j, none⟩ := fun j => by unfold Addr.add; split <;> simp_all
      rw [ea] at c0 c1
      exact ⟨b, off, rfl, World.block_lt_of_cell? W _ c0, c0, c1⟩
    · simp at ht
      obtain ⟨i, hil, rfl⟩ := ht
      exact (hf i hil).2.2

set_option maxRecDepth 100000 in
theorem lifted (os : Os) (started : os.Started) (H : Type) (enc : TypeId × Value → H) :
    ReturnsInHanded {} Try.checked os 6 .any (Rows.tierPricesSpec.pre6 enc Try.prog Try.f6 Rows.tierPricesRow.domain false) (Rows.tierPricesSpec.post enc Try.prog Try.f6 false true false false) := by
  refine returnsInHanded_of_change (C := Try.checked) own started (by kernel_rfl) Try.func6
    (ChangeSpec.witness6 (enc := enc) (C := Try.checked) false ⟨#[], #[.slice none 0 0, .int .i64 0, .int .i64 0, .int .i64 0, .int .i64 0, .int .i64 0], []⟩ 8 (by kernel_rfl) (by kernel_rfl) (by kernel_rfl) (by kernel_rfl)) ?_
  intro W base args ds gs before hval0 hW hcnd _
  have hval : ∀ (j : Nat) t v, Try.f6.params[j]? = some t → args[j]? = some v → Value.okWide Try.prog W .any base t v := hval0
  have hW' := hW
  obtain ⟨p, q, hA0, hV, rfl, hfz, hnd⟩ := hW
  have hA : DataW.TrodAll enc Try.prog W 0 (fun _ => true) true Try.f6.params.toList args.toList ds p := hA0
  rw [Try.params6] at hA hval
  obtain ⟨v0, vs0, d0, ds0, p0, q0, hargs, rfl, rfl, h0, r0⟩ := trodAll_cons hA
  obtain ⟨v1, vs1, d1, ds1, p1, q1, rfl, rfl, rfl, h1, r1⟩ := trodAll_cons r0
  obtain ⟨v2, vs2, d2, ds2, p2, q2, rfl, rfl, rfl, h2, r2⟩ := trodAll_cons r1
  obtain ⟨v3, vs3, d3, ds3, p3, q3, rfl, rfl, rfl, h3, r3⟩ := trodAll_cons r2
  obtain ⟨v4, vs4, d4, ds4, p4, q4, rfl, rfl, rfl, h4, r4⟩ := trodAll_cons r3
  obtain ⟨v5, vs5, d5, ds5, p5, q5, rfl, rfl, rfl, h5, r5⟩ := trodAll_cons r4
  obtain ⟨rfl, rfl, rfl⟩ := trodAll_nil r5
  obtain rfl : args = #[v0, v1, v2, v3, v4, v5] := by cases args; simp_all
  obtain ⟨rfl, rfl⟩ := trodVars_none hV
  obtain ⟨A, len, cap, rfl⟩ := okWide_slice Try.underlying22 (hval 0 22 v0 rfl rfl)
  obtain ⟨a1, rfl, rfl, rfl, w1⟩ := open_int Try.underlying3 (hval 1 3 v1 rfl rfl) h1
  obtain ⟨a2, rfl, rfl, rfl, w2⟩ := open_int Try.underlying3 (hval 2 3 v2 rfl rfl) h2
  obtain ⟨a3, rfl, rfl, rfl, w3⟩ := open_int Try.underlying3 (hval 3 3 v3 rfl rfl) h3
  obtain ⟨a4, rfl, rfl, rfl, w4⟩ := open_int Try.underlying3 (hval 4 3 v4 rfl rfl) h4
  obtain ⟨a5, rfl, rfl, rfl, w5⟩ := open_int Try.underlying3 (hval 5 3 v5 rfl rfl) h5
  have k0 := h0
  have lt0 : ∀ x ∈ p0, x.block < W.heap.size := by obtain ⟨m, hm⟩ := k0; exact DataW.trod_lt m _ _ _ hm
  have in64 : ∀ {x : Int}, (Lit.int .i64 x).wf = true → In64 x := fun h => by simp [Lit.wf, IntKind.min, IntKind.max, IntKind.signed, IntKind.bits] at h; exact ⟨by omega, by omega⟩
  obtain ⟨l, hl, hm, hT, hwf⟩ : ∃ l : List (Int × Int), l.length = len ∧ len ≤ 9223372036854775807 ∧ Tiers W A l ∧ ∀ t ∈ l, In64 t.1 ∧ In64 t.2 := by
    obtain ⟨fuel, hf⟩ := h0
    exact tiers_arg (by simpa [Value.cells] using hf)
  clear hA0 hval0
  refine (prices_walk A len cap l a1 a2 a3 a4 a5 hl hm (in64 w1) (in64 w2) (in64 w3) (in64 w4) (in64 w5) W hT).mono fun e W' ⟨he, bel⟩ => ?_
  subst he
  exact ⟨_, rfl, _, _, _, [], _, [], hW', trodAll_mk1 (shut_bool Try.underlying4 _), (trodAll_cons_mk (Below.trod laidOut (by kernel_rfl) (of_decide_eq_true (by kernel_rfl)) k0 bel lt0) (trodAll_cons_mk (shut_int Try.underlying3 w1) (trodAll_cons_mk (shut_int Try.underlying3 w2) (trodAll_cons_mk (shut_int Try.underlying3 w3) (trodAll_cons_mk (shut_int Try.underlying3 w4) (trodAll_cons_mk (shut_int Try.underlying3 w5) trodAll_mk0)))))), rfl, bel.frame _, fun h => by cases h⟩

theorem over : Rows.tierPricesRow.holds Try.pinned (OpenSpec.ofChange Rows.tierPricesSpec) :=
  OpenClaim.holds_of_wide 6 Try.f6 rfl rfl rfl rfl rfl rfl rfl ⟨rfl, rfl, rfl, rfl, rfl⟩ rfl rfl rfl rfl rfl (by kernel_rfl) Try.func6 (by kernel_rfl)
    (of_decide_eq_true (by kernel_rfl)) (by unfold Func.isWrapper; first | (rw [if_pos (by decide +kernel)]; kernel_rfl) | (rw [if_neg (by decide +kernel)]; exact ⟨rfl, rfl⟩))
    (fun os started H enc _ => lifted os started H enc)

theorem proved : Rows.TierPricesSaid := over
#print axioms proved
end Go.Proofs.Ytehlmpndbmlklaa.tierPrices
