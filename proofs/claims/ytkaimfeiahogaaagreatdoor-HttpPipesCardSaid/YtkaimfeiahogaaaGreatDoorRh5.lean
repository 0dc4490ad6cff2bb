/-
  A slice of requests that an argument reads as.
-/
import Derived.Test.YtkaimfeiahogaaaGreatDoorRh4
import Derived.Test.YtkaimfeiahogaaaGreatDoorHg1
namespace Go.Proofs.YtkaimfeiahogaaaGreatDoor
set_option linter.all false
open Go.ChangeShapes Go.WideShapes Go.ChangeAt Go.ChangeMaps Go.RowKit Go.Deep Go.Lib Go.Shelf
section
variable {H : Type} {enc : TypeId × Value → H} {P : Program} {w : World} {base : Nat} {spare : Nat → Bool} {held : Bool}
/-- A slice of structs of one-cell fields, opened. -/
theorem open_slice_fields {t e : TypeId} {fs : Array Field} {fuel : Nat} {cs : List Value} {x : DataW H × List MemPlace} (ht : P.underlying t = some (.slice e)) (he : P.underlying e = some (.struct fs))
    (hone : oneCellFields P fs = true) (hC : P.cellsOf e = fs.size) (h : DataW.trod enc P w base spare held fuel t cs = some x) :
    (cs = [.slice none 0 0] ∧ x = (.nil, [])) ∨
    ∃ (a : Addr) (len cap m : Nat), cs = [.slice (some a) len cap] ∧ len ≤ cap ∧ cap ≤ maxLen ∧ m = (if spare a.block then cap else len) ∧
      ∀ i, i < m → ∃ (ys : List (DataW H × List MemPlace)) (n : Nat),
        ∀ (j : Nat) (f : Field), fs[j]? = some f → ∃ (v : Value) (y : DataW H × List MemPlace), w.cell? (a.add (i * fs.size + j)) = some v ∧ ys[j]? = some y ∧ DataW.trod enc P w base spare held n f.type [v] = some y := by
  rcases open_slice ht h with h0 | ⟨a, len, cap, m, n, D, Pl, hcs, _, hl, hm, hmm, _, hi⟩
  · exact .inl h0
  · refine .inr ⟨a, len, cap, m, hcs, hl, hm, hmm, fun i him => ?_⟩
    obtain ⟨cs', hc, ht'⟩ := hi i him
    rw [hC] at hc
    obtain ⟨ys, n', _, _, hlen, hyl, hf⟩ := DataW.trod_struct he ht'
    obtain ⟨_, hcl, hat⟩ := World.cells?_some hc
    refine ⟨ys, n', fun j f hj => ?_⟩
    obtain ⟨ho, hk⟩ := hone_of hone j f hj
    have hjl : j < fs.size := (Array.getElem?_eq_some_iff.1 hj).1
    have hcell := hat j hjl
    have hv : cs'[j]? = some (cs'[j]'(by omega)) := List.getElem?_eq_getElem (by omega)
    have h1 := hf j f hj
    rw [ho, hk] at h1
    have hone' : (cs'.drop j).take 1 = [cs'[j]'(by omega)] := by
      rw [List.drop_eq_getElem_cons (by omega)]
      rfl
    rw [hone'] at h1
    have hys : ys[j]? = some (ys[j]'(by omega)) := List.getElem?_eq_getElem (by omega)
    refine ⟨_, _, ?_, hys, h1.trans hys⟩
    rw [← Go.Deep.add_add, hcell, hv]
end
theorem reqs_cells {H : Type} {enc : TypeId × Value → H} {W : World} {base : Nat} {spare : Nat → Bool} {held : Bool} {fuel : Nat} {A : Option Addr} {len cap : Nat} {x : DataW H × List MemPlace}
    (h : DataW.trod enc Tryz.prog W base spare held fuel 47 [.slice A len cap] = some x) : ∃ l : List Rq, l.length = len ∧ len ≤ 9223372036854775807 ∧ RqL W A l := by
  rcases open_slice_fields Tryz.underlying47 Tryz.underlying25 (by kernel_rfl) (by kernel_rfl) h with ⟨hcs, _⟩ | ⟨a, ln, cp, m, hcs, hl, hm, hmm, hi⟩
  · simp at hcs
    obtain ⟨rfl, rfl, rfl⟩ := hcs
    exact ⟨[], rfl, by omega, (fun i v h => by simp at h)⟩
  · simp at hcs
    obtain ⟨rfl, rfl, rfl⟩ := hcs
    have hlm : len ≤ m := by rw [hmm]; split <;> omega
    have each : ∀ i, ∃ t : Rq, i < len → W.cell? (a.add (i * 4)) = some (.string ⟨t.m.toArray⟩) ∧ W.cell? (a.add (i * 4 + 1)) = some (.string ⟨t.p.toArray⟩) ∧ W.cell? (a.add (i * 4 + 2)) = some (.slice t.A t.n t.c) ∧ W.cell? (a.add (i * 4 + 3)) = some (.bool t.cl) ∧ Bs W t.A t.c t.l ∧ t.l.length = t.n := fun i => by
      by_cases k : i < len
      · obtain ⟨ys, n, hf⟩ := hi i (by omega)
        obtain ⟨v0, y0, c0, _, t0⟩ := hf 0 _ rfl
        obtain ⟨v1, y1, c1, _, t1⟩ := hf 1 _ rfl
        obtain ⟨v2, y2, c2, _, t2⟩ := hf 2 _ rfl
        obtain ⟨v3, y3, c3, _, t3⟩ := hf 3 _ rfl
        obtain ⟨s, hs, _, _⟩ := DataW.trod_string Tryz.underlying9 t0
        obtain ⟨s', hs', _, _⟩ := DataW.trod_string Tryz.underlying9 t1
        obtain ⟨A', len', cap', l', hA', h1, _, h3⟩ := bytes_cells t2
        obtain ⟨b, hb, _⟩ := DataW.trod_bool Tryz.underlying4 t3
        simp at hs hs' hA' hb
        subst hs hs' hA' hb
        rw [ba_back s] at c0; rw [ba_back s'] at c1
        exact ⟨⟨s.data.toList, s'.data.toList, A', len', cap', l', b⟩, fun _ => ⟨c0, c1, c2, c3, h3, h1⟩⟩
      · exact ⟨⟨[], [], none, 0, 0, [], false⟩, fun h => absurd h k⟩
    obtain ⟨f, hf⟩ := Classical.axiomOfChoice each
    unfold maxLen at hm
    refine ⟨(List.range len).map f, by simp, by omega, fun i t ht => ?_⟩
    obtain ⟨h1, h2⟩ := List.getElem?_eq_some_iff.1 ht
    have hil : i < len := by simpa using h1
    simp at h2; subst h2
    obtain ⟨b, off, spot⟩ := a
    obtain ⟨c0, c1, c2, c3, hB, hn⟩ := hf i hil
    have z0 := World.cell?_spot (hf 0 (by omega)).1
    have hspot : spot = none := by simpa [Addr.add] using z0
    subst hspot
    have ea : ∀ j, (Addr.add ⟨b, off, none⟩ j) = ⟨b, off + j, none⟩ := fun j => by unfold Addr.add; split <;> simp_all
    rw [ea] at c0 c1 c2 c3
    exact ⟨b, off, rfl, World.block_lt_of_cell? W _ c0, c0, c1, c2, c3, hB, hn⟩
section
variable {H : Type} {enc : TypeId × Value → H} {W : World} {base : Nat} {spare : Nat → Bool} {held : Bool} {r : Reach} {b0 : Nat} {v : Value} {d : DataW H} {p : List MemPlace}
set_option maxRecDepth 100000 in
theorem reqs_arg (hval : Value.okWide Tryz.prog W r b0 47 v) (h : DataW.Trod enc Tryz.prog W base spare held 47 v d p) : ∃ (A : Option Addr) (len cap : Nat) (l : List Rq), v = .slice A len cap ∧ l.length = len ∧ len ≤ 9223372036854775807 ∧ RqL W A l := by
  obtain ⟨A, len, cap, rfl⟩ := okWide_slice Tryz.underlying47 hval
  obtain ⟨fuel, hf⟩ := h
  obtain ⟨l, h1, h2, h3⟩ := reqs_cells (by simpa [Value.cells] using hf)
  exact ⟨A, len, cap, l, rfl, h1, h2, h3⟩
end
end Go.Proofs.YtkaimfeiahogaaaGreatDoor
