/-
  Arguments opened: a request, a text, a bool.
-/
import Derived.Test.YtkaimfeiahogaaaGreatDoorRh0
import Derived.Test.YtkaimfeiahogaaaGreatDoorHk6
import Derived.Lib.SmallJoins
import Derived.ChangeMaps5
namespace Go.Proofs.YtkaimfeiahogaaaGreatDoor
set_option linter.all false
open Go.ChangeShapes Go.WideShapes Go.ChangeAt Go.ChangeMaps Go.RowKit Go.Deep Go.Lib Go.Shelf
theorem ba_back (s : ByteArray) : Value.string s = .string ⟨s.data.toList.toArray⟩ := by cases s; simp
theorem in64_wf {x : Int} (h : (Lit.int .i64 x).wf = true) : In64 x := by
  simp [Lit.wf, IntKind.min, IntKind.max, IntKind.signed, IntKind.bits] at h; exact ⟨by omega, by omega⟩
section
variable {H : Type} {enc : TypeId × Value → H} {W : World} {base : Nat} {spare : Nat → Bool} {held : Bool} {r : Reach} {b0 : Nat} {v : Value} {d : DataW H} {p : List MemPlace}
set_option maxRecDepth 100000 in
theorem str_arg (hval : Value.okWide Tryz.prog W r b0 9 v) (h : DataW.Trod enc Tryz.prog W base spare held 9 v d p) : ∃ l : List UInt8, v = .string ⟨l.toArray⟩ ∧ True := by
  obtain ⟨s, rfl, _⟩ := open_string Tryz.underlying9 hval h
  exact ⟨s.data.toList, ba_back s, trivial⟩
set_option maxRecDepth 100000 in
theorem bool_arg (hval : Value.okWide Tryz.prog W r b0 4 v) (h : DataW.Trod enc Tryz.prog W base spare held 4 v d p) : ∃ b : Bool, v = .bool b ∧ True := by
  obtain ⟨b, rfl, _⟩ := open_bool Tryz.underlying4 hval h
  exact ⟨b, rfl, trivial⟩
set_option maxRecDepth 100000 in
/-- A slice of bytes, from its one cell. -/
theorem bytes_cells {fuel : Nat} {cs : List Value} {x : DataW H × List MemPlace} (hf : DataW.trod enc Tryz.prog W base spare held fuel 22 cs = some x) : ∃ (A : Option Addr) (len cap : Nat) (l : List UInt8), cs = [.slice A len cap] ∧ l.length = len ∧ len ≤ 9223372036854775807 ∧ Bs W A cap l := by
  rcases open_ints Tryz.underlying22 Tryz.underlying5 (by kernel_rfl) hf with ⟨hcs, _⟩ | ⟨a, len, cap, zs, hcs, _, hl, hm, hz, _, hc, hw⟩
  · exact ⟨none, 0, 0, [], hcs, rfl, by omega, ⟨by simp, fun _ => rfl, fun i v h => by simp at h⟩⟩
  · have hlz : len ≤ zs.length := by rw [hz]; split <;> omega
    unfold maxLen at hm
    refine ⟨some a, len, cap, (zs.take len).map (fun z => UInt8.ofNat z.toNat), hcs, by simp; omega, by omega, ⟨by simp; omega, fun h => by simp at h, fun i x hi => ?_⟩⟩
    have hil : i < len := by have := (List.getElem?_eq_some_iff.1 hi).1; simp at this; omega
    obtain ⟨z, hz0⟩ : ∃ z, zs[i]? = some z := ⟨_, List.getElem?_eq_getElem (by omega)⟩
    have hx : x = UInt8.ofNat z.toNat := by
      rw [List.getElem?_map, List.getElem?_take_of_lt hil, hz0] at hi
      simpa using hi.symm
    have hwz := hw z (List.mem_of_getElem? hz0)
    have hz2 : 0 ≤ z ∧ z < 256 := by
      simp [Lit.wf, IntKind.min, IntKind.max, IntKind.signed, IntKind.bits] at hwz; omega
    have hxn : (x.toNat : Int) = z := by
      rw [hx]
      simp
      omega
    have hg : zs.getD i 0 = z := by simp [List.getD, hz0]
    have c := hc i (by omega)
    rw [hg] at c
    obtain ⟨b, off, spot⟩ := a
    have z0 := World.cell?_spot (hc 0 (by omega))
    have hspot : spot = none := by simpa [Addr.add] using z0
    subst hspot
    have ea : ∀ j, (Addr.add ⟨b, off, none⟩ j) = ⟨b, off + j, none⟩ := fun j => by unfold Addr.add; split <;> simp_all
    rw [ea] at c
    exact ⟨b, off, rfl, World.block_lt_of_cell? W _ c, by rw [hxn]; exact c⟩
set_option maxRecDepth 100000 in
/-- A request that an argument reads as. -/
theorem req_arg (hval : Value.okWide Tryz.prog W r b0 25 v) (h : DataW.Trod enc Tryz.prog W base spare held 25 v d p) : ∃ (m q : List UInt8) (A : Option Addr) (len cap : Nat) (l : List UInt8) (cl : Bool), v = rqB m q A len cap cl ∧ l.length = len ∧ len ≤ 9223372036854775807 ∧ Bs W A cap l := by
  obtain ⟨v0, v1, v2, v3, y0, y1, y2, y3, n, rfl, _, _, t0, t1, t2, t3⟩ := Go.Joins.open_agg4 Tryz.underlying25 (by kernel_rfl) (by kernel_rfl) hval h
  obtain ⟨s, hs, _, _⟩ := DataW.trod_string Tryz.underlying9 t0
  obtain ⟨s', hs', _, _⟩ := DataW.trod_string Tryz.underlying9 t1
  obtain ⟨A, len, cap, l, hA, h1, h2, h3⟩ := bytes_cells t2
  obtain ⟨b, hb, _⟩ := DataW.trod_bool Tryz.underlying4 t3
  simp at hs hs' hA hb
  subst hs hs' hA hb
  exact ⟨s.data.toList, s'.data.toList, A, len, cap, l, b, by unfold rqB; rw [← ba_back s, ← ba_back s'], h1, h2, h3⟩
end
end Go.Proofs.YtkaimfeiahogaaaGreatDoor
