/-
  The law's first question is answered well. (Printed by tools/mksw1.py.)
-/
import Derived.Test.YtijlifdbjhieaaaGreatDoorSp6
import Derived.KernelRfl
import Derived.Test.YtijlifdbjhieaaaGreatDoorSl3
import Derived.Test.YtijlifdbjhieaaaGreatDoorSq3

/-
  Plain: the law's first question, answered.
-/
namespace Go.Proofs.YtijlifdbjhieaaaGreatDoor
set_option linter.all false
open Go.Lib

def firstL : List UInt8 := [115, 101, 108, 101, 99, 116, 32, 97, 44, 115, 117, 109, 40, 98, 41, 32, 102, 114, 111, 109, 32, 116, 32, 119, 104, 101, 114, 101, 32, 110, 111, 116, 40, 97, 61, 39, 120, 39, 32, 111, 114, 32, 98, 60, 45, 51, 41, 103, 114, 111, 117, 112, 32, 98, 121, 32, 97, 32, 111, 114, 100, 101, 114, 32, 98, 121, 32, 97, 32, 100, 101, 115, 99, 32, 108, 105, 109, 105, 116, 32, 53]
def firstX : List UInt8 := [115, 101, 108, 101, 99, 116, 32, 97, 44, 32, 115, 117, 109, 40, 98, 41, 32, 102, 114, 111, 109, 32, 116, 32, 119, 104, 101, 114, 101, 32, 110, 111, 116, 32, 40, 97, 32, 61, 32, 39, 120, 39, 32, 111, 114, 32, 98, 32, 60, 32, 45, 51, 41, 32, 103, 114, 111, 117, 112, 32, 98, 121, 32, 97, 32, 111, 114, 100, 101, 114, 32, 98, 121, 32, 97, 32, 100, 101, 115, 99, 32, 108, 105, 109, 105, 116, 32, 53]
def firstB : List UInt8 := [115, 101, 108, 101, 99, 116, 32, 97, 32, 102, 114, 111, 109, 32, 116, 32, 108, 105, 109, 105, 116, 32, 45, 49]
def firstQ : QueryT := ⟨[⟨[], [97]⟩, ⟨[115, 117, 109], [98]⟩], [116], .mk 3 [.mk 1 [.mk 4 [] ⟨[97], 0, 0, []⟩ ⟨[], 2, 0, [120]⟩, .mk 6 [] ⟨[98], 0, 0, []⟩ ⟨[], 1, -3, []⟩] term0 term0] term0 term0, [[97]], [⟨[97], true⟩], 5⟩
theorem first_parse : parseF firstL = .ok firstQ [⟨101, [], 0, 81⟩] := by kernel_rfl
theorem first_bad : parseF firstB = .no 22 11 := by kernel_rfl
theorem first_text : queryX firstQ = firstX := by kernel_rfl
end Go.Proofs.YtijlifdbjhieaaaGreatDoor

/-
  The law's first question is answered well. (Printed by tools/mksw1.py.)
-/
namespace Go.Proofs.YtijlifdbjhieaaaGreatDoor
set_option linter.all false
open Go.RowKit Go.Shelf Go.Sort
attribute [local go_sem] cell_set_self lt_1 lt_2 lt_3 lt_4 lt_5 lt_6

theorem first_form : Pl.FormQ firstQ := Pl.form_ok (by kernel_rfl)
theorem first_bare : bareQ firstQ = firstQ := by kernel_rfl
/-- Parse, of what it reads. -/
theorem parse_got (L : List UInt8) (hL : L.length ≤ 1000000000) {q : QueryT} {r : List Tok} (hp : parseF L = .ok q r) (w : World) (E : Env w) :
    Calls Tryz.prog 11 #[.string ⟨L.toArray⟩] w fun e w' => (∃ AI cI AG cG AO cO cs, e = .returned (.tuple #[.agg (qCells AI q.items.length cI q.table cs AG q.group.length cG AO q.order.length cO q.limit).toArray, .int .i64 0, .int .i64 0]) ∧ QV w' q AI AG AO cs ∧ q.group.length ≤ cG ∧ (AG = none → cG = 0)) ∧ Below w.heap.size w w' := by
  refine (parse_any L hL w E).mono fun e w' ⟨hP, hb⟩ => ⟨?_, hb⟩
  rw [hp] at hP
  obtain ⟨V, rfl, hV⟩ := hP
  obtain ⟨AI, cI, AG, cG, AO, cO, cs, rfl, h⟩ := enc_qv hV
  exact ⟨AI, cI, AG, cG, AO, cO, cs, rfl, h⟩
/-- Parse, of what it refuses. -/
theorem parse_lost (L : List UInt8) (hL : L.length ≤ 1000000000) {p : Nat} {er : Int} (hp : parseF L = .no p er) (w : World) (E : Env w) :
    Calls Tryz.prog 11 #[.string ⟨L.toArray⟩] w fun e w' => e = .returned (.tuple #[.agg zeroQ, .int .i64 (p : Int), .int .i64 er]) ∧ Below w.heap.size w w' := by
  refine (parse_any L hL w E).mono fun e w' ⟨hP, hb⟩ => ⟨?_, hb⟩
  rw [hp] at hP
  exact hP
/-- Format, of what was read. -/
theorem format_read {q : QueryT} (F : Pl.FormQ q) (hb : bareQ q = q) (hx : (queryX q).length ≤ 65536) (AI AG AO : Option Addr) (cI cG cO : Nat) (cs : List Value) (w : World) (H : QV w q AI AG AO cs) (E : Env w) (hcG : q.group.length ≤ cG) :
    Calls Tryz.prog 9 #[.agg (qCells AI q.items.length cI q.table cs AG q.group.length cG AO q.order.length cO q.limit).toArray] w fun e w' => e = .returned (.tuple #[.string ⟨(queryX q).toArray⟩, .int .i64 0]) ∧ Below w.heap.size w w' := by
  refine (format_any q AI AG AO cI cG cO cs w H (short_read F hb) E hcG (fun _ => by omega)).mono fun e w' ⟨he, hb'⟩ => ⟨?_, hb'⟩
  obtain ⟨e1, e2⟩ := Pl.format_0 F hx
  rw [he, e1, e2]
set_option maxHeartbeats 8000000 in
set_option maxRecDepth 100000 in
theorem first_any (w : World) (E : Env w) : Calls Tryz.prog 7 #[] w fun e w' => e = .returned (.bool true) ∧ Below w.heap.size w w' := by
  suffices key : ∀ Q : Ending → World → Prop, Hid (∀ w', Below w.heap.size w w' → Q (.returned (.bool true)) w') → Calls Tryz.prog 7 #[] w Q from key _ (Lib.hid fun _ h => ⟨rfl, h⟩)
  intro Q HQ
  have P1 := Lib.hid (fun W E' => parse_got firstL (by decide) first_parse W E')
  have P3 := Lib.hid (fun W E' => parse_lost firstB (by decide) first_bad W E')
  have NU := Lib.hid (fun e W => num_any e W)
  have HE := Lib.hid E
  clear E
  go_enter Tryz.func7, Tryz.ntmps7
  go_wp2_with (fail)
  go_at_call 11
  refine (P1.out _ (HE.out.below (by repeat (first | (with_reducible exact Below.refl _ _) | (with_reducible assumption) | (with_reducible refine Below.setCell ?_ (by first | (simp; done) | (simp; omega) | omega) _) | (with_reducible refine Below.alloc ?_ (by first | (simp; done) | (simp; omega) | omega) _) | (with_reducible refine Below.drew ?_) | (with_reducible refine Below.trans ?_ (Below.mono (by assumption) (by first | (simp; done) | (simp; omega) | omega))))))).mono ?_
  rintro e w1 ⟨⟨AI, cI, AG, cG, AO, cO, cs, rfl, hqv, hcG, -⟩, hb1⟩
  have hB1 := hb1
  have hs1 := hB1.size
  have FM := Lib.hid (fun W hb => format_read first_form first_bare (by rw [first_text]; decide) AI AG AO cI cG cO cs W (hqv.below hb) (HE.out.below (hb1.trans (hb.mono hb1.size))) hcG)
  have hcv := hqv.cv
  obtain ⟨A1, c1, rfl, -⟩ := CV.open (op := 3) (args := [.mk 1 [.mk 4 [] ⟨[97], 0, 0, []⟩ ⟨[], 2, 0, [120]⟩, .mk 6 [] ⟨[98], 0, 0, []⟩ ⟨[], 1, -3, []⟩] term0 term0]) (l := term0) (r := term0) hcv
  rw [first_text] at FM
  dsimp only [firstQ, qCells, condC, termC, term0, List.cons_append, List.nil_append, List.length_cons, List.length_nil] at FM ⊢
  clear hqv hcv hcG
  go_wp2_with (first | (go_at_call 9; refine (FM.out _ (by repeat (first | (with_reducible exact Below.refl _ _) | (with_reducible assumption) | (with_reducible refine Below.setCell ?_ (by first | (simp; done) | (simp; omega) | omega) _) | (with_reducible refine Below.alloc ?_ (by first | (simp; done) | (simp; omega) | omega) _) | (with_reducible refine Below.drew ?_) | (with_reducible refine Below.trans ?_ (Below.mono (by assumption) (by first | (simp; done) | (simp; omega) | omega)))))).mono ?_; rintro e w2 ⟨rfl, hb2⟩) | (go_at_call 10; (with_reducible refine (NU.out _ _).mono ?_); rintro e w4 ⟨rfl, hb4⟩))
  have hB2 : Below w.heap.size w w2 := by
    refine Below.trans ?_ (hb2.mono (by first | (simp; done) | (simp; omega) | omega))
    repeat (first | (with_reducible exact hB1) | (with_reducible refine Below.setCell ?_ (by first | (simp; done) | (simp; omega) | omega) _) | (with_reducible refine Below.alloc ?_ (by first | (simp; done) | (simp; omega) | omega) _))
  have hs2 := hB2.size
  go_at_call 11
  refine (P3.out _ (HE.out.below hB2)).mono ?_
  rintro e w3 ⟨rfl, hb3⟩
  dsimp only [zeroQ]
  have hB3 : Below w.heap.size w w3 := by
    refine Below.trans ?_ (hb3.mono (by first | (simp; done) | (simp; omega) | omega))
    repeat (first | (with_reducible exact hB2) | (with_reducible refine Below.setCell ?_ (by first | (simp; done) | (simp; omega) | omega) _) | (with_reducible refine Below.alloc ?_ (by first | (simp; done) | (simp; omega) | omega) _))
  have hs3 := hB3.size
  go_wp2_with (first | (go_at_call 10; (with_reducible refine (NU.out _ _).mono ?_); rintro e w4 ⟨rfl, hb4⟩; have hB4 : Below w.heap.size w w4 := (by refine Below.trans ?_ (hb4.mono (by first | (simp; done) | (simp; omega) | omega)); repeat (first | (with_reducible assumption) | (with_reducible refine Below.setCell ?_ (by first | (simp; done) | (simp; omega) | omega) _) | (with_reducible refine Below.alloc ?_ (by first | (simp; done) | (simp; omega) | omega) _) | (with_reducible refine Below.drew ?_))); have hs4 := hB4.size))
  exact HQ.out _ (by assumption)
end Go.Proofs.YtijlifdbjhieaaaGreatDoor
