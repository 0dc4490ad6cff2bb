/-
  A slice of amounts that an argument reads as.
-/
import Derived.Test.YtdpoahfjiomhbaaGreatDoorRt0
import Derived.Test.YtdpoahfjiomhbaaGreatDoorMc4
import Derived.Lib.SmallJoins
import Derived.ChangeMaps5
import Derived.Test.YtdpoahfjiomhbaaGreatDoorMb2

/-
  What the rows of money share: arguments opened (amounts, texts, slices of ints), what the listed variables give.
-/
namespace Go.Proofs.YtdpoahfjiomhbaaGreatDoor
set_option linter.all false
open Go.ChangeShapes Go.WideShapes Go.ChangeAt Go.ChangeMaps Go.RowKit Go.Deep
theorem ba_back (s : ByteArray) : Value.string s = .string ⟨s.data.toList.toArray⟩ := by cases s; simp

theorem in64_wf {x : Int} (h : (Lit.int .i64 x).wf = true) : In64 x := by
  simp [Lit.wf, IntKind.min, IntKind.max, IntKind.signed, IntKind.bits] at h; exact ⟨by omega, by omega⟩
theorem env_laidM {W : World} (hsh : W.ShapedOpen Tryz.prog) (h : laidMetH Tryz.prog Rows.moneyOrderRow.laid W) : Env W := by
  rw [MakeChecks.laidMetH_plain _ _ _ (by kernel_rfl)] at h
  have h3 := h.tail.tail
  have T : Lib.TabIs Tryz.prog W "internal/strconv.uint64pow10" .u64 Lib.pow10Tab := Lib.tabIs_of_head gPow (by kernel_rfl) Tryz.underlying217 Tryz.underlying113 (by kernel_rfl) (by kernel_rfl) h3
  obtain ⟨a, s, hv, _⟩ := laid_sentinel h3.tail gErr (by kernel_rfl) Tryz.underlying133 rowErr Tryz.underlying222 Tryz.underlying224 rfl rfl Tryz.underlying9 (by kernel_rfl) (by kernel_rfl)
  obtain ⟨_, ⟨g, _, _, _, _, _, hg, _, hv9, _⟩, _⟩ := h.tail
  obtain rfl := Option.some.inj ((show Tryz.prog.globalNamed "math/bits.deBruijn64tab" = some 9 by kernel_rfl).symm.trans hg)
  exact ⟨var_lt hg hv9, ml_cell hsh, T, _, _, hv⟩
section
variable {H : Type} {enc : TypeId × Value → H} {W : World} {base : Nat} {spare : Nat → Bool} {held : Bool} {r : Reach} {b0 : Nat} {v : Value} {d : DataW H} {p : List MemPlace}
set_option maxRecDepth 100000 in
theorem str_arg (hval : Value.okWide Tryz.prog W r b0 9 v) (h : DataW.Trod enc Tryz.prog W base spare held 9 v d p) : ∃ l : List UInt8, v = .string ⟨l.toArray⟩ ∧ True := by
  obtain ⟨s, rfl, _⟩ := open_string Tryz.underlying9 hval h
  exact ⟨s.data.toList, ba_back s, trivial⟩
set_option maxRecDepth 100000 in
theorem amt_arg (hval : Value.okWide Tryz.prog W r b0 41 v) (h : DataW.Trod enc Tryz.prog W base spare held 41 v d p) : ∃ (u : Int) (c : List UInt8), v = .agg #[.int .i64 u, .string ⟨c.toArray⟩] ∧ In64 u := by
  obtain ⟨v0, v1, y0, y1, n, rfl, _, _, t0, t1⟩ := Go.Joins.open_agg2 Tryz.underlying41 (by kernel_rfl) (by kernel_rfl) hval h
  obtain ⟨u, hu, _, wu⟩ := DataW.trod_int Tryz.underlying3 t0
  obtain ⟨s, hs, _, _⟩ := DataW.trod_string Tryz.underlying9 t1
  simp at hu hs
  subst hu hs
  exact ⟨u, s.data.toList, by rw [← ba_back s], in64_wf wu⟩
end
end Go.Proofs.YtdpoahfjiomhbaaGreatDoor

/-
  A slice of amounts that an argument reads as.
-/
namespace Go.Proofs.YtdpoahfjiomhbaaGreatDoor
set_option linter.all false
open Go.ChangeShapes Go.WideShapes Go.ChangeAt Go.ChangeMaps Go.RowKit Go.Deep
section
variable {H : Type} {enc : TypeId × Value → H} {P : Program} {w : World} {base : Nat} {spare : Nat → Bool} {held : Bool}
/-- A slice of structs of one-cell fields, opened. -/
theorem open_slice_fields {t e : TypeId} {fs : Array Field} {fuel : Nat} {cs : List Value} {x : DataW H × List MemPlace} (ht : P.underlying t = some (.slice e)) (he : P.underlying e = some (.struct fs))
    (hone : oneCellFields P fs = true) (hC : P.cellsOf e = fs.size) (h : DataW.trod enc P w base spare held fuel t cs = some x) :
    (cs = [.slice none 0 0] ∧ x = (.nil, [])) ∨
    ∃ (a : Addr) (len cap m : Nat), cs = [.slice (some a) len cap] ∧ len ≤ cap ∧ cap ≤ maxLen ∧ m = (if spare a.block then cap else len) ∧
      ∀ i, i < m → ∃ (ys : List (DataW H × List MemPlace)) (n : Nat),
        ∀ (j : Nat) (f : Field), fs[j]? = some f → ∃ (v : Value) (y : DataW H × List MemPlace), w.cell? (a.add (i * fs.size + j)) = some v ∧ ys[j]? = some y ∧ DataW.trod enc P w base spare held n f.type [v] = some y := by
  rcases open_slice ht h with h0 | ⟨a, len, cap, m, n, D, Pl, hcs, _, hl, hm, hmm, _, hi⟩
  · exact .inl h0
  · refine .inr ⟨a, len, cap, m, hcs, hl, hm, hmm, fun i him => ?_⟩
    obtain ⟨cs', hc, ht'⟩ := hi i him
    rw [hC] at hc
    obtain ⟨ys, n', _, _, hlen, hyl, hf⟩ := DataW.trod_struct he ht'
    obtain ⟨_, hcl, hat⟩ := World.cells?_some hc
    refine ⟨ys, n', fun j f hj => ?_⟩
    obtain ⟨ho, hk⟩ := hone_of hone j f hj
    have hjl : j < fs.size := (Array.getElem?_eq_some_iff.1 hj).1
    have hcell := hat j hjl
    have hv : cs'[j]? = some (cs'[j]'(by omega)) := List.getElem?_eq_getElem (by omega)
    have h1 := hf j f hj
    rw [ho, hk] at h1
    have hone' : (cs'.drop j).take 1 = [cs'[j]'(by omega)] := by
      rw [List.drop_eq_getElem_cons (by omega)]
      rfl
    rw [hone'] at h1
    have hys : ys[j]? = some (ys[j]'(by omega)) := List.getElem?_eq_getElem (by omega)
    refine ⟨_, _, ?_, hys, h1.trans hys⟩
    rw [← Go.Deep.add_add, hcell, hv]
end
theorem amts_cells {H : Type} {enc : TypeId × Value → H} {W : World} {base : Nat} {spare : Nat → Bool} {held : Bool} {fuel : Nat} {A : Option Addr} {len cap : Nat} {x : DataW H × List MemPlace}
    (h : DataW.trod enc Tryz.prog W base spare held fuel 43 [.slice A len cap] = some x) : ∃ l : List (Int × List UInt8), l.length = len ∧ len ≤ 9223372036854775807 ∧ Am W A l ∧ ∀ t ∈ l, In64 t.1 := by
  rcases open_slice_fields Tryz.underlying43 Tryz.underlying41 (by kernel_rfl) (by kernel_rfl) h with ⟨hcs, _⟩ | ⟨a, ln, cp, m, hcs, hl, hm, hmm, hi⟩
  · simp at hcs
    obtain ⟨rfl, rfl, rfl⟩ := hcs
    exact ⟨[], rfl, by omega, (fun i v h => by simp at h), (fun x hx => by simp at hx)⟩
  · simp at hcs
    obtain ⟨rfl, rfl, rfl⟩ := hcs
    have hlm : len ≤ m := by rw [hmm]; split <;> omega
    have each : ∀ i, ∃ t : Int × List UInt8, i < len → W.cell? (a.add (i * 2)) = some (.int .i64 t.1) ∧ W.cell? (a.add (i * 2 + 1)) = some (.string ⟨t.2.toArray⟩) ∧ In64 t.1 := fun i => by
      by_cases k : i < len
      · obtain ⟨ys, n, hf⟩ := hi i (by omega)
        obtain ⟨v0, y0, c0, _, t0⟩ := hf 0 _ rfl
        obtain ⟨v1, y1, c1, _, t1⟩ := hf 1 _ rfl
        obtain ⟨u, hu, _, wu⟩ := DataW.trod_int Tryz.underlying3 t0
        obtain ⟨s, hs, _, _⟩ := DataW.trod_string Tryz.underlying9 t1
        simp at hu hs
        rw [hu] at c0; rw [hs, ba_back s] at c1
        exact ⟨(u, s.data.toList), fun _ => ⟨c0, c1, in64_wf wu⟩⟩
      · exact ⟨(0, []), fun h => absurd h k⟩
    obtain ⟨f, hf⟩ := Classical.axiomOfChoice each
    unfold maxLen at hm
    refine ⟨(List.range len).map f, by simp, by omega, fun i t ht => ?_, fun t ht => ?_⟩
    · obtain ⟨h1, h2⟩ := List.getElem?_eq_some_iff.1 ht
      have hil : i < len := by simpa using h1
      simp at h2; subst h2
      obtain ⟨b, off, spot⟩ := a
      obtain ⟨c0, c1, _⟩ := hf i hil
      have z0 := World.cell?_spot (hf 0 (by omega)).1
      have hspot : spot = none := by simpa [Addr.add] using z0
      subst hspot
      have ea : ∀ j, (Addr.add ⟨b, off, none⟩ j) = ⟨b, off + j, none⟩ := fun j => by unfold Addr.add; split <;> simp_all
      rw [ea] at c0 c1
      exact ⟨b, off, rfl, World.block_lt_of_cell? W _ c0, c0, c1⟩
    · simp at ht
      obtain ⟨i, hil, rfl⟩ := ht
      exact (hf i hil).2.2
section
variable {H : Type} {enc : TypeId × Value → H} {W : World} {base : Nat} {spare : Nat → Bool} {held : Bool} {r : Reach} {b0 : Nat} {v : Value} {d : DataW H} {p : List MemPlace}
set_option maxRecDepth 100000 in
theorem amts_arg (hval : Value.okWide Tryz.prog W r b0 43 v) (h : DataW.Trod enc Tryz.prog W base spare held 43 v d p) : ∃ (A : Option Addr) (len cap : Nat) (l : List (Int × List UInt8)), v = .slice A len cap ∧ l.length = len ∧ len ≤ 9223372036854775807 ∧ Am W A l ∧ ∀ t ∈ l, In64 t.1 := by
  obtain ⟨A, len, cap, rfl⟩ := okWide_slice Tryz.underlying43 hval
  obtain ⟨fuel, hf⟩ := h
  obtain ⟨l, h1, h2, h3, h4⟩ := amts_cells (by simpa [Value.cells] using hf)
  exact ⟨A, len, cap, l, rfl, h1, h2, h3, h4⟩
end
end Go.Proofs.YtdpoahfjiomhbaaGreatDoor
