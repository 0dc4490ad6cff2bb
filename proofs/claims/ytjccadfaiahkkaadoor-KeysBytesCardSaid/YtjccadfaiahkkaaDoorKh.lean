/-
  Contract of keys.Encode.
-/
import Derived.Test.YtjccadfaiahkkaaDoorKg
import Derived.Deep.Draws
import Derived.Laws.OwnMore
namespace Go.Proofs.YtjccadfaiahkkaaDoor
set_option linter.all false
open Go.RowKit
attribute [local go_sem] cell_set_self lt_1 lt_2 lt_3 lt_4 lt_5 lt_6

/-- A slice of parts that lies in memory (of either package's parts: three cells each). -/
def Parts (w : World) (A : Option Addr) (l : List Part) : Prop :=
  ∀ (i : Nat) (p : Part), l[i]? = some p → ∃ b off, A = some ⟨b, off, none⟩ ∧ b < w.heap.size ∧ w.cell? ⟨b, off + i * 3, none⟩ = some (.int .i64 p.k) ∧ w.cell? ⟨b, off + i * 3 + 1, none⟩ = some (.int .i64 p.n) ∧ w.cell? ⟨b, off + i * 3 + 2, none⟩ = some (.string ⟨p.s.toArray⟩)
theorem Parts.below {w w' : World} {A : Option Addr} {l : List Part} (h : Parts w A l) (hb : Below w.heap.size w w') : Parts w' A l := fun i p hi => by
  obtain ⟨b, off, h1, h2, h3, h4, h5⟩ := h i p hi
  obtain ⟨hc, _⟩ := bcell hb
  exact ⟨b, off, h1, Nat.lt_of_lt_of_le h2 hb.size, by rw [hc _ _ h2, h3], by rw [hc _ _ h2, h4], by rw [hc _ _ h2, h5]⟩
theorem Parts.take {w : World} {A : Option Addr} {l : List Part} (h : Parts w A l) (k : Nat) : Parts w A (l.take k) := fun i p hi => by
  refine h i p ?_
  rw [List.getElem?_take] at hi
  split at hi
  · exact hi
  · simp at hi

/-- The builder in block b (from B on) holds the bytes l. -/
def Bld (w : World) (B b : Nat) (l : List UInt8) : Prop := Lib.IsBuilder 55 5 B b (Lib.byteCells l) w
theorem grown_none {w w' : World} (hb : Below w.heap.size w w') : w.grownBy w' none := ⟨hb.os, hb.tape, hb.output, hb.size, fun i hi _ => hb.block i hi⟩
theorem Bld.below {w w' : World} {B b : Nat} {l : List UInt8} (h : Bld w B b l) (hb : Below w.heap.size w w') : Bld w' B b l := by
  have go : ∀ p, Lib.BuilderAt 55 5 B b p (Lib.byteCells l) w → Lib.BuilderAt 55 5 B b p (Lib.byteCells l) w' := fun p k => by
    have hlt := k.lt
    obtain ⟨hB, v, h1, h2, h3⟩ := k
    refine ⟨hB, v, by rw [hb.block b hlt, h1], h2.kept (grown_none hb) ?_, h3⟩
    cases hv : v.ownBlock with
    | none => exact .inl rfl
    | some x => exact .inr (by simp)
  rcases h with h | h
  · exact .inl (go _ h)
  · exact .inr (go _ h)
theorem byteCells_app (a b : List UInt8) : Lib.byteCells (a ++ b) = Lib.byteCells a ++ Lib.byteCells b := by simp [Lib.byteCells]
theorem strCells_bytes (l : List UInt8) : Lib.strCells ⟨l.toArray⟩ = Lib.byteCells l := by simp [Lib.strCells, Lib.byteCells]
theorem bld_byte (B b : Nat) (l : List UInt8) (c : UInt8) (ci : Int) (hci : ci = (c.toNat : Int)) (w : World) (h : Bld w B b l) (hlen : l.length ≤ 1000000) (hBw : B ≤ w.heap.size) :
    Calls Tryd.prog 22 #[.pointer (some ⟨b, 0, none⟩), .int .u8 ci] w fun e w' => e = .returned .nilIface ∧ Bld w' B b (l ++ [c]) ∧ Below B w w' ∧ Lib.OthersKept 5 (some b) w w' := by
  subst hci
  exact (writeByte_any B b (Lib.byteCells l) c.toNat w h (by simp [Lib.byteCells]; omega) hBw).mono fun e w' ⟨h1, h2, h3, h4⟩ => ⟨h1, .inr (by rw [byteCells_app]; exact h2), h3, h4⟩
theorem bld_str (B b : Nat) (l s : List UInt8) (w : World) (h : Bld w B b l) (hlen : l.length ≤ 1000000) (hs : s.length ≤ 1000000) (hBw : B ≤ w.heap.size) :
    Calls Tryd.prog 23 #[.pointer (some ⟨b, 0, none⟩), .string ⟨s.toArray⟩] w fun e w' => (∃ n, e = .returned (.tuple #[.int .i64 n, .nilIface])) ∧ Bld w' B b (l ++ s) ∧ Below B w w' ∧ Lib.OthersKept 5 (some b) w w' :=
  (writeString_any B b (Lib.byteCells l) ⟨s.toArray⟩ w h (by simp [Lib.byteCells, ByteArray.size]; omega) hBw).mono fun e w' ⟨h1, h2, h3, h4⟩ => ⟨⟨_, h1⟩, .inr (by rw [byteCells_app, ← strCells_bytes s]; exact h2), h3, h4⟩
theorem bld_len (B b : Nat) (l : List UInt8) (w : World) (h : Bld w B b l) :
    Calls Tryd.prog 24 #[.pointer (some ⟨b, 0, none⟩)] w fun e w' => e = .returned (.int .i64 l.length) ∧ w' = w :=
  (Tryd.Builder_Len B b (Lib.byteCells l) w h).mono fun e w' ⟨h1, h2⟩ => ⟨by rw [h1]; simp [Lib.byteCells], h2⟩
theorem bld_string (B b : Nat) (l : List UInt8) (w : World) (h : Bld w B b l) (hBw : B ≤ w.heap.size) :
    Calls Tryd.prog 25 #[.pointer (some ⟨b, 0, none⟩)] w fun e w' => e = .returned (.string ⟨l.toArray⟩) ∧ Below B w w' := Tryd.Builder_String_any B b l w h hBw

/-- keys.Encode. -/
theorem encode_many (A : Option Addr) (n c : Nat) (l : List Part) (hl : l.length = n) (h8 : 8 < n) (hn : n ≤ 9223372036854775807) (w : World) : Calls Tryd.prog 9 #[.slice A n c] w fun e w' => e = .returned (.tuple #[.string ⟨(bytesE l).toArray⟩, .int .i64 (errE l)]) ∧ Below w.heap.size w w' := by
  have e : errE l = 9 := errE_many (by omega)
  have e2 : bytesE l = [] := bytesE_n (by rw [e]; decide)
  rw [e, e2]
  clear e e2 hl
  have h' : (8 : Int) < n := by omega
  go_enter Tryd.func9, Tryd.ntmps9
  go_wp2
  go_ret2
  exact ⟨rfl, (by repeat (first | exact Below.refl _ _ | refine Below.setCell ?_ (by first | (simp; done) | (simp; omega) | omega) _ | refine Below.alloc ?_ (by first | (simp; done) | (simp; omega) | omega) _ | refine Below.drew ?_ | assumption | refine Below.trans ?_ (Below.mono (by assumption) (by first | (simp; done) | (simp; omega) | omega))))⟩
end Go.Proofs.YtjccadfaiahkkaaDoor
