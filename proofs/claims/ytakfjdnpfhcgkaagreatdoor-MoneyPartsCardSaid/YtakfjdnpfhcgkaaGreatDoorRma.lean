/-
  A slice of amounts that an argument reads as.
-/
import Derived.Test.YtakfjdnpfhcgkaaGreatDoorRt0
import Derived.Test.YtakfjdnpfhcgkaaGreatDoorMc4
import Derived.Lib.SmallJoins
import Derived.ChangeMaps5
import Derived.Test.YtakfjdnpfhcgkaaGreatDoorMb2
/-
  What the rows of money share: arguments opened (amounts, texts, slices of ints), what the listed variables give.
-/
namespace Go.Proofs.YtakfjdnpfhcgkaaGreatDoor
set_option linter.all false
open Go.ChangeShapes Go.WideShapes Go.ChangeAt Go.ChangeMaps Go.RowKit Go.Deep
theorem ba_back (s : ByteArray) : Value.string s = .string ⟨s.data.toList.toArray⟩ := by cases s; simp

theorem in64_wf {x : Int} (h : (Lit.int .i64 x).wf = true) : In64 x := by
  simp [Lit.wf, IntKind.min, IntKind.max, IntKind.signed, IntKind.bits] at h; exact ⟨by omega, by omega⟩
theorem env_laidM {W : World} (hsh : W.ShapedOpen Tryz.prog) (h : laidMetH Tryz.prog Rows.moneyPartsRow.laid W) : Env W := by
  rw [MakeChecks.laidMetH_plain _ _ _ (by kernel_rfl)] at h
  have h3 := h.tail.tail
  have T : Lib.TabIs Tryz.prog W "internal/strconv.uint64pow10" .u64 Lib.pow10Tab := Lib.tabIs_of_head gPow (by kernel_rfl) Tryz.underlying162 Tryz.underlying46 (by kernel_rfl) (by kernel_rfl) h3
  obtain ⟨a, s, hv, _⟩ := laid_sentinel h3.tail gErr (by kernel_rfl) Tryz.underlying76 rowErr Tryz.underlying158 Tryz.underlying160 rfl rfl Tryz.underlying9 (by kernel_rfl) (by kernel_rfl)
  obtain ⟨_, ⟨g, _, _, _, _, _, hg, _, hv9, _⟩, _⟩ := h.tail
  obtain rfl := Option.some.inj ((show Tryz.prog.globalNamed "math/bits.deBruijn64tab" = some 7 by kernel_rfl).symm.trans hg)
  exact ⟨var_lt hg hv9, ml_cell hsh, T, _, _, hv⟩
section
variable {H : Type} {enc : TypeId × Value → H} {W : World} {base : Nat} {spare : Nat → Bool} {held : Bool} {r : Reach} {b0 : Nat} {v : Value} {d : DataW H} {p : List MemPlace}
set_option maxRecDepth 100000 in
theorem amt_arg (hval : Value.okWide Tryz.prog W r b0 23 v) (h : DataW.Trod enc Tryz.prog W base spare held 23 v d p) : ∃ (u : Int) (c : List UInt8), v = .agg #[.int .i64 u, .string ⟨c.toArray⟩] ∧ In64 u := by
  obtain ⟨v0, v1, y0, y1, n, rfl, _, _, t0, t1⟩ := Go.Joins.open_agg2 Tryz.underlying23 (by kernel_rfl) (by kernel_rfl) hval h
  obtain ⟨u, hu, _, wu⟩ := DataW.trod_int Tryz.underlying3 t0
  obtain ⟨s, hs, _, _⟩ := DataW.trod_string Tryz.underlying9 t1
  simp at hu hs
  subst hu hs
  exact ⟨u, s.data.toList, by rw [← ba_back s], in64_wf wu⟩
end
end Go.Proofs.YtakfjdnpfhcgkaaGreatDoor

/-
  A slice of amounts that an argument reads as.
-/
namespace Go.Proofs.YtakfjdnpfhcgkaaGreatDoor
set_option linter.all false
open Go.ChangeShapes Go.WideShapes Go.ChangeAt Go.ChangeMaps Go.RowKit Go.Deep
section
variable {H : Type} {enc : TypeId × Value → H} {P : Program} {w : World} {base : Nat} {spare : Nat → Bool} {held : Bool}
end
section
variable {H : Type} {enc : TypeId × Value → H} {W : World} {base : Nat} {spare : Nat → Bool} {held : Bool} {r : Reach} {b0 : Nat} {v : Value} {d : DataW H} {p : List MemPlace}
end
end Go.Proofs.YtakfjdnpfhcgkaaGreatDoor
