/-
  The statement HttpParses is proved, as its tied card: for every input the law returns true, and its arguments read as before. Listed variables (tables of the library, two errors of strconv) read as the program's text lays them; the card ties them.
-/
import Derived.Test.YtkaimfeiahogaaaGreatDoorRh0
import Derived.Test.YtkaimfeiahogaaaGreatDoorTie
import Derived.Test.YtkaimfeiahogaaaGreatDoorCards
import Derived.Test.YtkaimfeiahogaaaGreatDoorHzH
import Derived.SevenTiedAt
import Derived.ChangeMaps5
import Derived.Lib.SmallJoins
namespace Go.Proofs.YtkaimfeiahogaaaGreatDoor.httpParses
set_option linter.all false
open Go.ChangeShapes Go.WideShapes Go.ChangeAt Go.ChangeMaps Go.RowKit Go.Deep

theorem envS_laidH {W : World} (hsh : W.ShapedOpen Tryz.prog) (h : laidMetH Tryz.prog Rows.httpFrontsRow.laid W) : EnvS W := by
  have E := env_laidH hsh h
  rw [MakeChecks.laidMetH_plain _ _ _ (by kernel_rfl)] at h
  have h3 := h.tail.tail
  obtain ⟨a, s, hv, _⟩ := laid_sentinel h3.tail.tail.tail gSyn (by kernel_rfl) Tryz.underlying104 rowErr Tryz.underlying185 Tryz.underlying187 rfl rfl Tryz.underlying9 (by kernel_rfl) (by kernel_rfl)
  exact ⟨E, _, _, hv⟩
set_option maxRecDepth 100000 in
theorem lifted (os : Os) (started : os.Started) (H : Type) (enc : TypeId × Value → H) :
    ReturnsInHanded {} Tryz.checked os 8 .any (fun w args => (Rows.httpParsesSpec.pre enc Tryz.prog Tryz.f8 Rows.httpParsesRow.domain false w args ∧ laidMetH Tryz.prog Rows.httpParsesRow.laid w) ∧ sizedMet enc Tryz.prog Tryz.f8 (OpenSpec.ofChange Rows.httpParsesSpec) false w args) (Rows.httpParsesSpec.post enc Tryz.prog Tryz.f8 false true false false) := by
  refine handed (C := Tryz.checked) own started (by kernel_rfl) Tryz.func8
    (ChangeSpec.witness_shaped (enc := enc) (C := Tryz.checked) (os := os) (X := fun w _ => laidMetH Tryz.prog Rows.httpParsesRow.laid w) false (World.laidAll Tryz.prog os Rows.httpParsesRow.laid) #[.slice none 0 0] 8 (World.laidAll_os _ _ _)
      (World.shaped_of_ZipB (by kernel_rfl) (by kernel_rfl)) (by kernel_rfl) (by kernel_rfl) (by kernel_rfl)
      (by rw [MakeChecks.laidMetH_plain _ _ _ (by kernel_rfl)]; exact laidMet_laidAll _ (by kernel_rfl) (by kernel_rfl))) ?_
  intro W base args ds gs before hval0 hW hsh hlaid
  have hval : ∀ (j : Nat) t v, Tryz.f8.params[j]? = some t → args[j]? = some v → Value.okWide Tryz.prog W .any base t v := hval0
  have hW' := hW
  obtain ⟨p, q, hA0, hV, rfl, hfz, hnd⟩ := hW
  have hA : DataW.TrodAll enc Tryz.prog W 0 (fun _ => true) true Tryz.f8.params.toList args.toList ds p := hA0
  rw [Tryz.params8] at hA hval
  obtain ⟨v0, vs0, d0, ds0, p0, q0, hargs, rfl, rfl, h0, r0⟩ := trodAll_cons hA
  obtain ⟨rfl, rfl, rfl⟩ := trodAll_nil r0
  obtain rfl : args = #[v0] := by cases args; simp_all
  obtain ⟨rfl, rfl⟩ := trodVars_none hV
  have k0 := h0
  have lt0 : ∀ x ∈ p0, x.block < W.heap.size := by obtain ⟨m, hm⟩ := k0; exact DataW.trod_lt m _ _ _ hm
  obtain ⟨A0, len0, cap0, l0, hv0, hl0, hm0, hT0⟩ := bytes_arg (hval 0 22 v0 rfl rfl) h0
  have WK := parses_walk A0 len0 cap0 l0 hl0  W (envS_laidH hsh hlaid) hT0
  clear hA0 hval0
  simp only [List.append_nil] at hW'
  subst hv0
  refine WK.mono fun e W' ⟨he, bel⟩ => ?_
  subst he
  exact ⟨_, rfl, _, _, _, [], _, [], hW', trodAll_mk1 (shut_bool Tryz.underlying4 _), (trodAll_cons_mk (Below.trod laidOut (by kernel_rfl) (of_decide_eq_true (by kernel_rfl)) k0 bel lt0) trodAll_mk0), rfl, bel.frame _, fun h => by cases h⟩

theorem over : Rows.HttpParsesSaid :=
  OpenClaim.holds_of_wide 8 Tryz.f8 rfl rfl rfl rfl rfl rfl rfl ⟨rfl, rfl, rfl, rfl, rfl⟩ rfl rfl rfl rfl rfl (by kernel_rfl) Tryz.func8 (by kernel_rfl)
    (of_decide_eq_true (by kernel_rfl)) (by unfold Func.isWrapper; first | (rw [if_pos (by decide +kernel)]; kernel_rfl) | (rw [if_neg (by decide +kernel)]; exact ⟨rfl, rfl⟩))
    (fun os started H enc _ => lifted os started H enc)

theorem proved : Rows.HttpParsesCardSaid :=
  Claim7.holds_tied_plain_at .later [] [.data, .data, .data, .data, .sentinel, .sentinel, .pinned, .pinned] true (true, "fda09bdb41933a50b39b15e4e99fee8f3f44cb71a5ce7a3694cb99798fd01051") true
    over (fun _ h => by cases h) (by kernel_rfl) (fun _ h => by cases h) httpParses_row_tie rfl ⟨rfl, rfl⟩ (by kernel_rfl) rfl
    (fun f fn hf hfn => by
      obtain rfl : f = 8 := Option.some.inj ((show Tryz.prog.funcNamed "exchequer/exlaw22.HttpParses" = some 8 by kernel_rfl).symm.trans hf) |>.symm
      obtain rfl : fn = Tryz.f8 := (Option.some.inj (Tryz.func8.symm.trans hfn)).symm
      exact ⟨by kernel_rfl, fun j t ht => by
        rw [Tryz.params8] at ht
        have hm : t ∈ [22] := by simpa using Array.mem_of_getElem? ht
        have hall : ([22].all fun u => !Tryz.prog.wantsStandIn u) = true := by kernel_rfl
        exact (show Tryz.prog.wantsStandIn t = false by simpa using List.all_eq_true.1 hall t hm)⟩)
    (by kernel_rfl)
#print axioms proved
end Go.Proofs.YtkaimfeiahogaaaGreatDoor.httpParses
