/-
  The statement KeysBack is proved, as its tied card: for every input the law returns true, and its arguments read as before. Listed variables (two tables of unicode/utf8) read as the program's text lays them; the card ties them.
-/
import Derived.Test.YtjccadfaiahkkaaDoorRq
import Derived.Test.YtjccadfaiahkkaaDoorTie
import Derived.Test.YtjccadfaiahkkaaDoorCards
import Derived.Test.YtjccadfaiahkkaaDoorKu
import Derived.SevenTiedAt
import Derived.ChangeMaps5
namespace Go.Proofs.YtjccadfaiahkkaaDoor.keysBack
set_option linter.all false
open Go.ChangeShapes Go.WideShapes Go.ChangeAt Go.ChangeMaps Go.RowKit Go.Deep

set_option maxRecDepth 100000 in
theorem lifted (os : Os) (started : os.Started) (H : Type) (enc : TypeId × Value → H) :
    ReturnsInHanded {} Tryd.checked os 4 .any (fun w args => (Rows.keysBackSpec.pre enc Tryd.prog Tryd.f4 Rows.keysBackRow.domain false w args ∧ laidMetH Tryd.prog Rows.keysBackRow.laid w) ∧ sizedMet enc Tryd.prog Tryd.f4 (OpenSpec.ofChange Rows.keysBackSpec) false w args) (Rows.keysBackSpec.post enc Tryd.prog Tryd.f4 false true false false) := by
  refine handed (C := Tryd.checked) own started (by kernel_rfl) Tryd.func4
    (ChangeSpec.witness_shaped (enc := enc) (C := Tryd.checked) (os := os) (X := fun w _ => laidMetH Tryd.prog Rows.keysBackRow.laid w) false (World.laidAll Tryd.prog os Rows.keysBackRow.laid) #[.string ⟨#[]⟩] 8 (World.laidAll_os _ _ _)
      (World.shaped_of_ZipB (by kernel_rfl) (by kernel_rfl)) (by kernel_rfl) (by kernel_rfl) (by kernel_rfl)
      (by rw [MakeChecks.laidMetH_plain _ _ _ (by kernel_rfl)]; exact laidMet_laidAll _ (by kernel_rfl) (by kernel_rfl))) ?_
  intro W base args ds gs before hval0 hW hsh
  have hval : ∀ (j : Nat) t v, Tryd.f4.params[j]? = some t → args[j]? = some v → Value.okWide Tryd.prog W .any base t v := hval0
  have hW' := hW
  obtain ⟨p, q, hA0, hV, rfl, hfz, hnd⟩ := hW
  have hA : DataW.TrodAll enc Tryd.prog W 0 (fun _ => true) true Tryd.f4.params.toList args.toList ds p := hA0
  rw [Tryd.params4] at hA hval
  obtain ⟨v0, d0, rfl, rfl, h0⟩ := trodAll_one hA
  obtain ⟨rfl, rfl⟩ := trodVars_none hV
  obtain ⟨s, rfl, rfl, rfl, ws⟩ := open_string Tryd.underlying9 (hval 0 9 v0 rfl rfl) h0
  obtain ⟨t, rfl⟩ : ∃ t : List UInt8, s = ⟨t.toArray⟩ := ⟨s.data.toList, by cases s; simp⟩
  have hl : t.length ≤ 9223372036854775807 := by unfold maxLen at ws; simpa [ByteArray.size] using ws
  clear hA0 hval0
  simp only [List.append_nil] at hW'
  refine (back_walk t hl W (ml_shaped hsh)).mono fun e W' ⟨he, bel⟩ => ?_
  subst he
  exact ⟨_, rfl, _, _, _, [], _, [], hW', trodAll_mk1 (shut_bool Tryd.underlying4 _), trodAll_mk1 (shut_string Tryd.underlying9 ws), rfl, bel.frame _, fun h => by cases h⟩

theorem over : Rows.KeysBackSaid :=
  OpenClaim.holds_of_wide 4 Tryd.f4 rfl rfl rfl rfl rfl rfl rfl ⟨rfl, rfl, rfl, rfl, rfl⟩ rfl rfl rfl rfl rfl (by kernel_rfl) Tryd.func4 (by kernel_rfl)
    (of_decide_eq_true (by kernel_rfl)) (by unfold Func.isWrapper; first | (rw [if_pos (by decide +kernel)]; kernel_rfl) | (rw [if_neg (by decide +kernel)]; exact ⟨rfl, rfl⟩))
    (fun os started H enc _ => lifted os started H enc)

theorem proved : Rows.KeysBackCardSaid :=
  Claim7.holds_tied_plain_at .later [] [.data, .pinned] true (true, "d67f5e6f3eaf96c72f50730b47133ea00395969c195e1dcca934aa8fe7ba63a1") false
    over (fun _ h => by cases h) (by kernel_rfl) (fun _ h => by cases h) keysBack_row_tie rfl ⟨rfl, rfl⟩ (by kernel_rfl) rfl
    (fun f fn hf hfn => by
      obtain rfl : f = 4 := Option.some.inj ((show Tryd.prog.funcNamed "exchequer/exlaw8.KeysBack" = some 4 by kernel_rfl).symm.trans hf) |>.symm
      obtain rfl : fn = Tryd.f4 := (Option.some.inj (Tryd.func4.symm.trans hfn)).symm
      exact ⟨by kernel_rfl, fun j t ht => by
        rw [Tryd.params4] at ht
        have hm : t ∈ [9] := by simpa using Array.mem_of_getElem? ht
        have hall : ([9].all fun u => !Tryd.prog.wantsStandIn u) = true := by kernel_rfl
        exact (show Tryd.prog.wantsStandIn t = false by simpa using List.all_eq_true.1 hall t hm)⟩)
    (by kernel_rfl)
#print axioms proved
end Go.Proofs.YtjccadfaiahkkaaDoor.keysBack
