/-
  The statement MoneyParts is proved, as its tied card: for every input the law returns true, and its arguments read as before. Listed variables (tables of the library, two errors of strconv) read as the program's text lays them; the card ties them.
-/
import Derived.Test.YtakfjdnpfhcgkaaGreatDoorRma
import Derived.Test.YtakfjdnpfhcgkaaGreatDoorBw1
import Derived.ChangeSlices
import Derived.Test.YtakfjdnpfhcgkaaGreatDoorRt0
import Derived.Test.YtakfjdnpfhcgkaaGreatDoorTie
import Derived.Test.YtakfjdnpfhcgkaaGreatDoorCards
import Derived.Test.YtakfjdnpfhcgkaaGreatDoorXa5
import Derived.SevenTiedAt
import Derived.ChangeMaps5
import Derived.Lib.SmallJoins

/-
  The argument of a row that is a slice of ints.
-/
namespace Go.Proofs.YtakfjdnpfhcgkaaGreatDoor
set_option linter.all false
open Go.ChangeShapes Go.WideShapes Go.ChangeAt Go.ChangeMaps Go.RowKit Go.Deep
section
variable {H : Type} {enc : TypeId × Value → H} {W : World} {base : Nat} {spare : Nat → Bool} {held : Bool} {r : Reach} {b0 : Nat} {v : Value} {d : DataW H} {p : List MemPlace}
set_option maxRecDepth 100000 in
theorem ints_arg (hval : Value.okWide Tryz.prog W r b0 24 v) (h : DataW.Trod enc Tryz.prog W base spare held 24 v d p) : ∃ (A : Option Addr) (len cap : Nat) (l : List Int), v = .slice A len cap ∧ l.length = len ∧ len ≤ 9223372036854775807 ∧ Sl W A cap l ∧ ∀ x ∈ l, In64 x := by
  obtain ⟨A, len, cap, rfl⟩ := okWide_slice Tryz.underlying24 hval
  obtain ⟨fuel, hf⟩ := h
  have hf' : DataW.trod enc Tryz.prog W base spare held fuel 24 [.slice A len cap] = some (d, p) := by simpa [Value.cells] using hf
  rcases open_ints Tryz.underlying24 Tryz.underlying3 (by kernel_rfl) hf' with ⟨hcs, _⟩ | ⟨a, ln, cp, zs, hcs, _, hl, hm, hz, _, hc, hw⟩
  · simp at hcs
    obtain ⟨rfl, rfl, rfl⟩ := hcs
    exact ⟨none, 0, 0, [], rfl, rfl, by omega, ⟨by simp, fun _ => rfl, fun i v h => by simp at h⟩, fun x hx => by simp at hx⟩
  · simp at hcs
    obtain ⟨rfl, rfl, rfl⟩ := hcs
    have hlz : len ≤ zs.length := by rw [hz]; split <;> omega
    unfold maxLen at hm
    refine ⟨some a, len, cap, zs.take len, rfl, by simp; omega, by omega, ⟨by simp; omega, fun h => by simp at h, fun i x hi => ?_⟩, fun x hx => in64_wf (hw x (List.mem_of_mem_take hx))⟩
    have hil : i < len := by have := (List.getElem?_eq_some_iff.1 hi).1; simp at this; omega
    have hx : zs.getD i 0 = x := by
      rw [List.getElem?_take_of_lt hil] at hi
      simp [List.getD, hi]
    have c := hc i (by omega)
    rw [hx] at c
    obtain ⟨b, off, spot⟩ := a
    have z0 := World.cell?_spot (hc 0 (by omega))
    have hspot : spot = none := by simpa [Addr.add] using z0
    subst hspot
    have ea : ∀ j, (Addr.add ⟨b, off, none⟩ j) = ⟨b, off + j, none⟩ := fun j => by unfold Addr.add; split <;> simp_all
    rw [ea] at c
    exact ⟨b, off, rfl, World.block_lt_of_cell? W _ c, c⟩
end
end Go.Proofs.YtakfjdnpfhcgkaaGreatDoor

/-
  The statement MoneyParts is proved, as its tied card: for every input the law returns true, and its arguments read as before. Listed variables (tables of the library, two errors of strconv) read as the program's text lays them; the card ties them.
-/
namespace Go.Proofs.YtakfjdnpfhcgkaaGreatDoor.moneyParts
set_option linter.all false
open Go.ChangeShapes Go.WideShapes Go.ChangeAt Go.ChangeMaps Go.RowKit Go.Deep

set_option maxRecDepth 100000 in
theorem lifted (os : Os) (started : os.Started) (H : Type) (enc : TypeId × Value → H) :
    ReturnsInHanded {} Tryz.checked os 3 .any (fun w args => (Rows.moneyPartsSpec.pre enc Tryz.prog Tryz.f3 Rows.moneyPartsRow.domain false w args ∧ laidMetH Tryz.prog Rows.moneyPartsRow.laid w) ∧ sizedMet enc Tryz.prog Tryz.f3 (OpenSpec.ofChange Rows.moneyPartsSpec) false w args) (Rows.moneyPartsSpec.post enc Tryz.prog Tryz.f3 false true false false) := by
  refine handed (C := Tryz.checked) own started (by kernel_rfl) Tryz.func3
    (ChangeSpec.witness_shaped (enc := enc) (C := Tryz.checked) (os := os) (X := fun w _ => laidMetH Tryz.prog Rows.moneyPartsRow.laid w) false (World.laidAll Tryz.prog os Rows.moneyPartsRow.laid) #[.agg #[.int .i64 0, .string ⟨#[]⟩], .slice none 0 0] 8 (World.laidAll_os _ _ _)
      (World.shaped_of_ZipB (by kernel_rfl) (by kernel_rfl)) (by kernel_rfl) (by kernel_rfl) (by kernel_rfl)
      (by rw [MakeChecks.laidMetH_plain _ _ _ (by kernel_rfl)]; exact laidMet_laidAll _ (by kernel_rfl) (by kernel_rfl))) ?_
  intro W base args ds gs before hval0 hW hsh hlaid
  have hval : ∀ (j : Nat) t v, Tryz.f3.params[j]? = some t → args[j]? = some v → Value.okWide Tryz.prog W .any base t v := hval0
  have hW' := hW
  obtain ⟨p, q, hA0, hV, rfl, hfz, hnd⟩ := hW
  have hA : DataW.TrodAll enc Tryz.prog W 0 (fun _ => true) true Tryz.f3.params.toList args.toList ds p := hA0
  rw [Tryz.params3] at hA hval
  obtain ⟨v0, vs0, d0, ds0, p0, q0, hargs, rfl, rfl, h0, r0⟩ := trodAll_cons hA
  obtain ⟨v1, vs1, d1, ds1, p1, q1, rfl, rfl, rfl, h1, r1⟩ := trodAll_cons r0
  obtain ⟨rfl, rfl, rfl⟩ := trodAll_nil r1
  obtain rfl : args = #[v0, v1] := by cases args; simp_all
  obtain ⟨rfl, rfl⟩ := trodVars_none hV
  have k0 := h0
  have lt0 : ∀ x ∈ p0, x.block < W.heap.size := by obtain ⟨m, hm⟩ := k0; exact DataW.trod_lt m _ _ _ hm
  have k1 := h1
  have lt1 : ∀ x ∈ p1, x.block < W.heap.size := by obtain ⟨m, hm⟩ := k1; exact DataW.trod_lt m _ _ _ hm
  obtain ⟨u0, c0, hv0, w0⟩ := amt_arg (hval 0 23 v0 rfl rfl) h0
  obtain ⟨A1, len1, cap1, l1, hv1, hl1, hm1, hT1, hw1⟩ := ints_arg (hval 1 24 v1 rfl rfl) h1
  have WK := parts_walk6 u0 c0 A1 len1 cap1 l1 hl1 hm1 w0 hw1 W hT1 (env_laidM hsh hlaid)
  clear hA0 hval0
  simp only [List.append_nil] at hW'
  subst hv0
  subst hv1
  refine WK.mono fun e W' ⟨he, bel⟩ => ?_
  subst he
  exact ⟨_, rfl, _, _, _, [], _, [], hW', trodAll_mk1 (shut_bool Tryz.underlying4 _), (trodAll_cons_mk (Below.trod laidOut (by kernel_rfl) (of_decide_eq_true (by kernel_rfl)) k0 bel lt0) (trodAll_cons_mk (Below.trod laidOut (by kernel_rfl) (of_decide_eq_true (by kernel_rfl)) k1 bel lt1) trodAll_mk0)), rfl, bel.frame _, fun h => by cases h⟩

theorem over : Rows.MoneyPartsSaid :=
  OpenClaim.holds_of_wide 3 Tryz.f3 rfl rfl rfl rfl rfl rfl rfl ⟨rfl, rfl, rfl, rfl, rfl⟩ rfl rfl rfl rfl rfl (by kernel_rfl) Tryz.func3 (by kernel_rfl)
    (of_decide_eq_true (by kernel_rfl)) (by unfold Func.isWrapper; first | (rw [if_pos (by decide +kernel)]; kernel_rfl) | (rw [if_neg (by decide +kernel)]; exact ⟨rfl, rfl⟩))
    (fun os started H enc _ => lifted os started H enc)

theorem proved : Rows.MoneyPartsCardSaid :=
  Claim7.holds_tied_plain_at .later [] [.data, .data, .data, .sentinel, .sentinel] true (true, "3c787f56fab00f1eeefede1c2067531e8459d033787ffc7b7688e4b0da645a20") true
    over (fun _ h => by cases h) (by kernel_rfl) (fun _ h => by cases h) moneyParts_row_tie rfl ⟨rfl, rfl⟩ (by kernel_rfl) rfl
    (fun f fn hf hfn => by
      obtain rfl : f = 3 := Option.some.inj ((show Tryz.prog.funcNamed "exchequer/exlaw6.MoneyParts" = some 3 by kernel_rfl).symm.trans hf) |>.symm
      obtain rfl : fn = Tryz.f3 := (Option.some.inj (Tryz.func3.symm.trans hfn)).symm
      exact ⟨by kernel_rfl, fun j t ht => by
        rw [Tryz.params3] at ht
        have hm : t ∈ [23, 24] := by simpa using Array.mem_of_getElem? ht
        have hall : ([23, 24].all fun u => !Tryz.prog.wantsStandIn u) = true := by kernel_rfl
        exact (show Tryz.prog.wantsStandIn t = false by simpa using List.all_eq_true.1 hall t hm)⟩)
    (by kernel_rfl)
#print axioms proved
end Go.Proofs.YtakfjdnpfhcgkaaGreatDoor.moneyParts
