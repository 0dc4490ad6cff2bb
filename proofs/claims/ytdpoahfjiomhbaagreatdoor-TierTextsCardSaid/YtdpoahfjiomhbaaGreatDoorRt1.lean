/-
  The statement TierTexts is proved, as its tied card: for every input the law returns true, and its arguments read as before. Listed variables (tables of the library, two errors of strconv) read as the program's text lays them; the card ties them.
-/
import Derived.Test.YtdpoahfjiomhbaaGreatDoorRt0
import Derived.Test.YtdpoahfjiomhbaaGreatDoorTie
import Derived.Test.YtdpoahfjiomhbaaGreatDoorCards
import Derived.Test.YtdpoahfjiomhbaaGreatDoorPw14
import Derived.SevenTiedAt
import Derived.ChangeMaps5
namespace Go.Proofs.YtdpoahfjiomhbaaGreatDoor
set_option linter.all false
open Go.ChangeShapes Go.WideShapes Go.ChangeAt Go.ChangeMaps Go.RowKit Go.Deep
/-- A slice of tiers that an argument reads as. -/
theorem tiers_arg {H : Type} {enc : TypeId × Value → H} {W : World} {base : Nat} {spare : Nat → Bool} {held : Bool} {fuel : Nat} {A : Option Addr} {len cap : Nat} {x : DataW H × List MemPlace}
    (h : DataW.trod enc Tryz.prog W base spare held fuel 22 [.slice A len cap] = some x) : ∃ l : List (Int × Int), l.length = len ∧ len ≤ 9223372036854775807 ∧ Tiers W A l ∧ ∀ t ∈ l, In64 t.1 ∧ In64 t.2 := by
  have in64 : ∀ {x : Int}, (Lit.int .i64 x).wf = true → In64 x := fun h => by simp [Lit.wf, IntKind.min, IntKind.max, IntKind.signed, IntKind.bits] at h; exact ⟨by omega, by omega⟩
  rcases open_slice_pairs Tryz.underlying22 Tryz.underlying37 (by kernel_rfl) rfl rfl (by kernel_rfl) (by kernel_rfl) h with ⟨hcs, _⟩ | ⟨a, ln, cp, m, n, V0, V1, D0, D1, P0, P1, hcs, _, hl, hm, hmm, _, hi⟩
  · simp at hcs
    obtain ⟨rfl, rfl, rfl⟩ := hcs
    exact ⟨[], rfl, by omega, (fun i v h => by simp at h), (fun x hx => by simp at hx)⟩
  · simp at hcs
    obtain ⟨rfl, rfl, rfl⟩ := hcs
    have hlm : len ≤ m := by rw [hmm]; split <;> omega
    have each : ∀ i, ∃ t : Int × Int, i < len → W.cell? (a.add (i * 2)) = some (.int .i64 t.1) ∧ W.cell? (a.add (i * 2 + 1)) = some (.int .i64 t.2) ∧ In64 t.1 ∧ In64 t.2 := fun i => by
      by_cases k : i < len
      · obtain ⟨c0, c1, h0, h1⟩ := hi i (by omega)
        obtain ⟨u, hu, _, wu⟩ := DataW.trod_int Tryz.underlying3 h0
        obtain ⟨p, hp, _, wp⟩ := DataW.trod_int Tryz.underlying3 h1
        simp at hu hp
        rw [hu] at c0; rw [hp] at c1
        exact ⟨(u, p), fun _ => ⟨c0, c1, in64 wu, in64 wp⟩⟩
      · exact ⟨(0, 0), fun h => absurd h k⟩
    obtain ⟨f, hf⟩ := Classical.axiomOfChoice each
    unfold maxLen at hm
    refine ⟨(List.range len).map f, by simp, by omega, fun i t ht => ?_, fun t ht => ?_⟩
    · obtain ⟨h1, h2⟩ := List.getElem?_eq_some_iff.1 ht
      have hil : i < len := by simpa using h1
      simp at h2; subst h2
      obtain ⟨b, off, spot⟩ := a
      obtain ⟨c0, c1, _⟩ := hf i hil
      have z0 := World.cell?_spot (hf 0 (by omega)).1
      have hspot : spot = none := by simpa [Addr.add] using z0
      subst hspot
      have ea : ∀ j, (Addr.add ⟨b, off, none⟩ j) = ⟨b, off + j, none⟩ := fun j => by unfold Addr.add; split <;> simp_all
      rw [ea] at c0 c1
      exact ⟨b, off, rfl, World.block_lt_of_cell? W _ c0, c0, c1⟩
    · simp at ht
      obtain ⟨i, hil, rfl⟩ := ht
      exact (hf i hil).2.2
end Go.Proofs.YtdpoahfjiomhbaaGreatDoor
namespace Go.Proofs.YtdpoahfjiomhbaaGreatDoor.tierTexts
set_option linter.all false
open Go.ChangeShapes Go.WideShapes Go.ChangeAt Go.ChangeMaps Go.RowKit Go.Deep

set_option maxRecDepth 100000 in
theorem lifted (os : Os) (started : os.Started) (H : Type) (enc : TypeId × Value → H) :
    ReturnsInHanded {} Tryz.checked os 3 .any (fun w args => (Rows.tierTextsSpec.pre enc Tryz.prog Tryz.f3 Rows.tierTextsRow.domain false w args ∧ laidMetH Tryz.prog Rows.tierTextsRow.laid w) ∧ sizedMet enc Tryz.prog Tryz.f3 (OpenSpec.ofChange Rows.tierTextsSpec) false w args) (Rows.tierTextsSpec.post enc Tryz.prog Tryz.f3 false true false false) := by
  refine handed (C := Tryz.checked) own started (by kernel_rfl) Tryz.func3
    (ChangeSpec.witness_shaped (enc := enc) (C := Tryz.checked) (os := os) (X := fun w _ => laidMetH Tryz.prog Rows.tierTextsRow.laid w) false (World.laidAll Tryz.prog os Rows.tierTextsRow.laid) #[.slice none 0 0, .string ⟨#[]⟩] 8 (World.laidAll_os _ _ _)
      (World.shaped_of_ZipB (by kernel_rfl) (by kernel_rfl)) (by kernel_rfl) (by kernel_rfl) (by kernel_rfl)
      (by rw [MakeChecks.laidMetH_plain _ _ _ (by kernel_rfl)]; exact laidMet_laidAll _ (by kernel_rfl) (by kernel_rfl))) ?_
  intro W base args ds gs before hval0 hW hsh hlaid
  have hval : ∀ (j : Nat) t v, Tryz.f3.params[j]? = some t → args[j]? = some v → Value.okWide Tryz.prog W .any base t v := hval0
  have hW' := hW
  obtain ⟨p, q, hA0, hV, rfl, hfz, hnd⟩ := hW
  have hA : DataW.TrodAll enc Tryz.prog W 0 (fun _ => true) true Tryz.f3.params.toList args.toList ds p := hA0
  rw [Tryz.params3] at hA hval
  obtain ⟨v0, vs0, d0, ds0, p0, q0, hargs, rfl, rfl, h0, r0⟩ := trodAll_cons hA
  obtain ⟨v1, vs1, d1, ds1, p1, q1, rfl, rfl, rfl, h1, r1⟩ := trodAll_cons r0
  obtain ⟨rfl, rfl, rfl⟩ := trodAll_nil r1
  obtain rfl : args = #[v0, v1] := by cases args; simp_all
  obtain ⟨rfl, rfl⟩ := trodVars_none hV
  obtain ⟨A, len, cap, rfl⟩ := okWide_slice Tryz.underlying22 (hval 0 22 v0 rfl rfl)
  obtain ⟨s, rfl, rfl, rfl, ws⟩ := open_string Tryz.underlying9 (hval 1 9 v1 rfl rfl) h1
  have k0 := h0
  have lt0 : ∀ x ∈ p0, x.block < W.heap.size := by obtain ⟨m, hm⟩ := k0; exact DataW.trod_lt m _ _ _ hm
  obtain ⟨l, hl, hm, hT, hwf⟩ : ∃ l : List (Int × Int), l.length = len ∧ len ≤ 9223372036854775807 ∧ Tiers W A l ∧ ∀ t ∈ l, In64 t.1 ∧ In64 t.2 := by
    obtain ⟨fuel, hf⟩ := h0
    exact tiers_arg (by simpa [Value.cells] using hf)
  clear hA0 hval0
  have hse : s = ⟨s.data.toList.toArray⟩ := by cases s; simp
  have WK := texts_walk A len cap l s.data.toList hl hwf W hT (env_laid hsh hlaid)
  rw [← hse] at WK
  simp only [List.append_nil] at hW'
  refine WK.mono fun e W' ⟨he, bel⟩ => ?_
  subst he
  exact ⟨_, rfl, _, _, _, [], _, [], hW', trodAll_mk1 (shut_bool Tryz.underlying4 _), (trodAll_cons_mk (Below.trod laidOut (by kernel_rfl) (of_decide_eq_true (by kernel_rfl)) k0 bel lt0) (trodAll_cons_mk (shut_string Tryz.underlying9 ws) trodAll_mk0)), rfl, bel.frame _, fun h => by cases h⟩

theorem over : Rows.TierTextsSaid :=
  OpenClaim.holds_of_wide 3 Tryz.f3 rfl rfl rfl rfl rfl rfl rfl ⟨rfl, rfl, rfl, rfl, rfl⟩ rfl rfl rfl rfl rfl (by kernel_rfl) Tryz.func3 (by kernel_rfl)
    (of_decide_eq_true (by kernel_rfl)) (by unfold Func.isWrapper; first | (rw [if_pos (by decide +kernel)]; kernel_rfl) | (rw [if_neg (by decide +kernel)]; exact ⟨rfl, rfl⟩))
    (fun os started H enc _ => lifted os started H enc)

theorem proved : Rows.TierTextsCardSaid :=
  Claim7.holds_tied_plain_at .later [] [.data, .data, .data, .data, .sentinel, .sentinel, .pinned] true (true, "28554b9f3989e2db8fa1771ac0fb98591bb5e59e9bb6d0cd84bb7b93f36108c9") true
    over (fun _ h => by cases h) (by kernel_rfl) (fun _ h => by cases h) tierTexts_row_tie rfl ⟨rfl, rfl⟩ (by kernel_rfl) rfl
    (fun f fn hf hfn => by
      obtain rfl : f = 3 := Option.some.inj ((show Tryz.prog.funcNamed "exchequer/exlaw14.TierTexts" = some 3 by kernel_rfl).symm.trans hf) |>.symm
      obtain rfl : fn = Tryz.f3 := (Option.some.inj (Tryz.func3.symm.trans hfn)).symm
      exact ⟨by kernel_rfl, fun j t ht => by
        rw [Tryz.params3] at ht
        have hm : t ∈ [22, 9] := by simpa using Array.mem_of_getElem? ht
        have hall : ([22, 9].all fun u => !Tryz.prog.wantsStandIn u) = true := by kernel_rfl
        exact (show Tryz.prog.wantsStandIn t = false by simpa using List.all_eq_true.1 hall t hm)⟩)
    (by kernel_rfl)
#print axioms proved
end Go.Proofs.YtdpoahfjiomhbaaGreatDoor.tierTexts
