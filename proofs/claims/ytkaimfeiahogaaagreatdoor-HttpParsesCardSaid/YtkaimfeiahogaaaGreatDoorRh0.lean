/-
  What the rows of this seat share: MaxLen's cell; what the listed variables give ('Env'); the wrap that hands on the world's shape and what is laid.
-/
import Derived.Test.YtkaimfeiahogaaaGreatDoorRows
import Derived.Test.YtkaimfeiahogaaaGreatDoorHk5
import Derived.ChangeSlices
import Derived.PinnedBridge
import Derived.Lib.LaidU8T
import Derived.Lib.LaidCase
import Derived.WalkKit
import Derived.ProofKit
import Derived.OpenShut
import Derived.ShutString
import Derived.ChangeOld
import Derived.ChangeSame
import Derived.Below
import Derived.Deep.Slices
import Derived.Deep.Fields
import Derived.Deep.SlicePairs
import Derived.LaidMore
import Derived.Lay
import Derived.Stop.Joined
import Derived.Stop.LaidErr
import Derived.Shelf.Vars
namespace Go.Proofs.YtkaimfeiahogaaaGreatDoor
set_option linter.all false
open Go.ChangeShapes Go.WideShapes Go.ChangeAt Go.RowKit Go.Deep Go.Lib Go.Shelf

theorem own : ownKnob Tryz.prog.godebug = none := by kernel_rfl
theorem laidOut : laidOutB Tryz.prog = true := by kernel_rfl
theorem ml_cell {W : World} (h : W.ShapedOpen Tryz.prog) : ∃ m, W.cell? ⟨4, 0, none⟩ = some (.int .i64 m) := by
  exact cell_of_shapedOpen_int (P := Tryz.prog) (w := W) (g := 4) (t := 3) (zero := #[.int .i64 0]) (k := .i64) h (of_decide_eq_true (by kernel_rfl)) (by kernel_rfl) rfl (by kernel_rfl) (by kernel_rfl) Tryz.underlying3
theorem rowErr (u : TypeId) (h : Tryz.prog.typeName? 3 u = some "*errors.errorString") : u = 185 :=
  typeName_ptr_named (nm := "errors.errorString") (by rw [show "*" ++ "errors.errorString" = "*errors.errorString" by decide]; kernel_rfl) (by kernel_rfl) (by decide) u (by rw [show "*" ++ "errors.errorString" = "*errors.errorString" by decide]; exact h)
theorem var_lt {P : Program} {W : World} {n : String} {cs : Array Value} {g : Nat} (hg : P.globalNamed n = some g) (h : W.var? P n = some cs) : g < W.heap.size := by
  unfold World.var? at h
  simp only [hg, Option.bind_some] at h
  rcases Nat.lt_or_ge g W.heap.size with h' | h'
  · exact h'
  · simp [Array.getElem?_eq_none h'] at h
/-- What a walk reads of the listed variables. -/
theorem env_laidH {W : World} (hsh : W.ShapedOpen Tryz.prog) (h : laidMetH Tryz.prog Rows.httpFrontsRow.laid W) : Env W := by
  rw [MakeChecks.laidMetH_plain _ _ _ (by kernel_rfl)] at h
  have h3 := h.tail.tail
  have T : Lib.TabIs Tryz.prog W "internal/strconv.uint64pow10" .u64 Lib.pow10Tab := Lib.tabIs_of_head gPow (by kernel_rfl) Tryz.underlying163 Tryz.underlying139 (by kernel_rfl) (by kernel_rfl) h3
  obtain ⟨a, s, hv, _⟩ := laid_sentinel h3.tail.tail gErr (by kernel_rfl) Tryz.underlying104 rowErr Tryz.underlying185 Tryz.underlying187 rfl rfl Tryz.underlying9 (by kernel_rfl) (by kernel_rfl)
  obtain ⟨_, ⟨g, _, _, _, _, _, hg, _, hv9, _⟩, _⟩ := h.tail
  obtain rfl := Option.some.inj ((show Tryz.prog.globalNamed "math/bits.deBruijn64tab" = some 8 by kernel_rfl).symm.trans hg)
  obtain ⟨ps, hps, _⟩ := h
  have R1 : Go.Lib.VarReads Tryz.prog W "unicode.CaseRanges" Lib.caseData := by rw [← Pinned.caseRanges_eq]; exact LaidVars_reads hps _ _ (by simp [Rows.httpFrontsRow, Rows.laid_unicode_CaseRanges])
  have R2 : Go.Lib.VarReads Tryz.prog W "unicode/utf8.first" Lib.firstData := by rw [← Pinned.utf8First_eq]; exact LaidVars_reads hps _ _ (by simp [Rows.httpFrontsRow, Rows.laid_unicode_utf8_first])
  have R3 : Go.Lib.VarReads Tryz.prog W "unicode/utf8.acceptRanges" Lib.acceptData := by rw [show Lib.acceptData = Rows.laid_unicode_utf8_acceptRanges by kernel_rfl]; exact LaidVars_reads hps _ _ (by simp [Rows.httpFrontsRow])
  exact ⟨var_lt hg hv9, ml_cell hsh, T, ⟨_, _, hv⟩, caseVar_of_reads { Tryz.lays159 with } (by kernel_rfl) ⟨by kernel_rfl, by kernel_rfl, by kernel_rfl, by kernel_rfl, by kernel_rfl, by kernel_rfl⟩ R1,
    utf8Tabs_of_readsT (ρ := Tryz.lays159_ren) ⟨by kernel_rfl, by kernel_rfl, by kernel_rfl, by kernel_rfl⟩ ⟨by kernel_rfl, by kernel_rfl, by kernel_rfl, by kernel_rfl, by kernel_rfl, by kernel_rfl, by kernel_rfl⟩ R2 R3⟩

/-- The wrap of a law's row that lists what variables hold, the world's shape and what is laid handed on. -/
theorem handed {H : Type} {enc : TypeId × Value → H} {C : Checked} {os : Os} {f : FuncId} {fn : Func} {s : ChangeSpec} {conds : List PathCond} {fresh : Bool} {laid : List (String × DataW Unit)}
    (ow : ownKnob C.prog.godebug = none) (started : os.Started) (noInit : C.prog.inits.idxOf? f = none) (hfn : C.prog.funcs[f]? = some fn)
    (witness : ∃ (w : World) (tape : Tape) (i : Input), w.os = os ∧ (w.forCall tape i).Shaped C.prog ∧ i.vars = [] ∧ Input.okWide C.prog (w.forCall tape i) .any w.heap.size f i ∧
      ((s.pre enc C.prog fn conds false (w.forCall tape i).memory i.args ∧ laidMetH C.prog laid (w.forCall tape i).memory) ∧ sizedMet enc C.prog fn (OpenSpec.ofChange s) false (w.forCall tape i).memory i.args) ∧ ({} : Assume).holds C.prog (lone (Frame.enter C.prog f i.args .normal) [] (w.forCall tape i)))
    (contract : ∀ (W : World) (base : Nat) (args : Array Value) (ds gs : List (DataW H)) (before : List MemPlace),
      (∀ (j : Nat) t v, fn.params[j]? = some t → args[j]? = some v → Value.okWide C.prog W .any base t v) →
      DataW.Whole enc C.prog fn.params.toList s.vars false W args.toList ds gs before → W.ShapedOpen C.prog → laidMetH C.prog laid W →
      Calls C.prog f args W fun e W' => ∃ v, e = .returned v ∧ s.post enc C.prog fn false fresh false false W args v W') :
    ReturnsInHanded {} C os f .any (fun w args => (s.pre enc C.prog fn conds false w args ∧ laidMetH C.prog laid w) ∧ sizedMet enc C.prog fn (OpenSpec.ofChange s) false w args) (s.post enc C.prog fn false fresh false false) := by
  refine returnsInHanded_of_calls ow started noInit witness ?_
  intro w tape i _ hsh _ hok hpre _
  obtain ⟨_, _, _, fn', hfn', _, _, _, _, hval⟩ := hok
  obtain rfl : fn' = fn := Option.some.inj (hfn'.symm.trans hfn)
  obtain ⟨⟨⟨ds, gs, before, hw, _⟩, hlaid⟩, _⟩ := hpre
  refine (contract (w.forCall tape i) w.heap.size i.args ds gs before hval (DataW.Whole.of_heap (w' := w.forCall tape i) (by rfl) hw) hsh (hlaid.of_heap (by rfl))).mono fun e W' ⟨v, he, hp⟩ => ?_
  subst he
  exact ChangeSpec.post_blind hp
section
variable {H : Type} {enc : TypeId × Value → H} {W : World} {base : Nat} {spare : Nat → Bool} {held : Bool} {r : Reach} {b0 : Nat} {v : Value} {d : DataW H} {p : List MemPlace}
set_option maxRecDepth 100000 in
/-- A slice of bytes that an argument reads as. -/
theorem bytes_arg (hval : Value.okWide Tryz.prog W r b0 22 v) (h : DataW.Trod enc Tryz.prog W base spare held 22 v d p) : ∃ (A : Option Addr) (len cap : Nat) (l : List UInt8), v = .slice A len cap ∧ l.length = len ∧ len ≤ 9223372036854775807 ∧ Bs W A cap l := by
  obtain ⟨A, len, cap, rfl⟩ := okWide_slice Tryz.underlying22 hval
  obtain ⟨fuel, hf⟩ := h
  have hf' : DataW.trod enc Tryz.prog W base spare held fuel 22 [.slice A len cap] = some (d, p) := by simpa [Value.cells] using hf
  rcases open_ints Tryz.underlying22 Tryz.underlying5 (by kernel_rfl) hf' with ⟨hcs, _⟩ | ⟨a, ln, cp, zs, hcs, _, hl, hm, hz, _, hc, hw⟩
  · simp at hcs
    obtain ⟨rfl, rfl, rfl⟩ := hcs
    exact ⟨none, 0, 0, [], rfl, rfl, by omega, ⟨by simp, fun _ => rfl, fun i v h => by simp at h⟩⟩
  · simp at hcs
    obtain ⟨rfl, rfl, rfl⟩ := hcs
    have hlz : len ≤ zs.length := by rw [hz]; split <;> omega
    unfold maxLen at hm
    refine ⟨some a, len, cap, (zs.take len).map (fun z => UInt8.ofNat z.toNat), rfl, by simp; omega, by omega, ⟨by simp; omega, fun h => by simp at h, fun i x hi => ?_⟩⟩
    have hil : i < len := by have := (List.getElem?_eq_some_iff.1 hi).1; simp at this; omega
    obtain ⟨z, hz0⟩ : ∃ z, zs[i]? = some z := ⟨_, List.getElem?_eq_getElem (by omega)⟩
    have hx : x = UInt8.ofNat z.toNat := by
      rw [List.getElem?_map, List.getElem?_take_of_lt hil, hz0] at hi
      simpa using hi.symm
    have hwz := hw z (List.mem_of_getElem? hz0)
    have hz2 : 0 ≤ z ∧ z < 256 := by
      simp [Lit.wf, IntKind.min, IntKind.max, IntKind.signed, IntKind.bits] at hwz; omega
    have hxn : (x.toNat : Int) = z := by
      rw [hx]
      simp
      omega
    have hg : zs.getD i 0 = z := by simp [List.getD, hz0]
    have c := hc i (by omega)
    rw [hg] at c
    obtain ⟨b, off, spot⟩ := a
    have z0 := World.cell?_spot (hc 0 (by omega))
    have hspot : spot = none := by simpa [Addr.add] using z0
    subst hspot
    have ea : ∀ j, (Addr.add ⟨b, off, none⟩ j) = ⟨b, off + j, none⟩ := fun j => by unfold Addr.add; split <;> simp_all
    rw [ea] at c
    exact ⟨b, off, rfl, World.block_lt_of_cell? W _ c, by rw [hxn]; exact c⟩
end
end Go.Proofs.YtkaimfeiahogaaaGreatDoor
