/-
  Contract of exlaw22.first: the document's three requests are read as it says.
-/
import Derived.Test.YtkaimfeiahogaaaGreatDoorHs1
import Derived.Lib.SmallJoins
namespace Go.Proofs.YtkaimfeiahogaaaGreatDoor
set_option linter.all false
open Go.RowKit Go.Shelf Go.Joins
attribute [local go_sem] cell_set_self lt_1 lt_2 lt_3 lt_4 lt_5 lt_6

def lit1 : List UInt8 := [71,69,84,32,47,97,32,72,84,84,80,47,49,46,49,13,10,13,10]
def lit2 : List UInt8 := [80,79,83,84,32,47,97,32,72,84,84,80,47,49,46,49,13,10,67,111,110,116,101,110,116,45,76,101,110,103,116,104,58,32,50,13,10,13,10,97,98,99]
def lit3 : List UInt8 := [80,85,84,32,47,97,32,72,84,84,80,47,49,46,49,13,10]
theorem parse1 : parseF lit1 = .done ⟨1, [71,69,84], [47,97], false, 0, false, false⟩ [] := by kernel_rfl
theorem parse2 : parseF lit2 = .done ⟨2, [80,79,83,84], [47,97], false, 2, true, false⟩ [97,98,99] := by kernel_rfl
theorem parse3 : parseF lit3 = .bad 30 := by kernel_rfl
theorem num_same (e : Int) (w : World) : Calls Tryz.prog 12 #[.int .i64 e] w fun x w' => x = .returned (.int .i64 e) ∧ w = w' := by
  go_enter Tryz.func12, Tryz.ntmps12
  go_wp2
  go_ret
  exact ⟨rfl, rfl⟩
theorem Bs.cap {w : World} {A : Option Addr} {c : Nat} {l : List UInt8} {n : Nat} (h : Bs w A c l) (e : c = n) : Bs w A n l := e ▸ h
set_option maxHeartbeats 4000000 in
set_option maxRecDepth 100000 in
theorem first_ok (w : World) (E : Env w) : Calls Tryz.prog 10 #[] w fun e w' => e = .returned (.bool true) ∧ Below w.heap.size w w' := by
  have P1 : Hid (∀ W cs, Below w.heap.size w W → cs = (Lib.byteCells lit1).toArray → ∀ g, W.heap.size = g → Calls Tryz.prog 11 #[.slice (some ⟨g, 0, none⟩) 19 19] (W.alloc (.cells cs 5 (19, 20))) fun e w' => (∃ A c, e = .returned (.tuple #[.agg #[.string ⟨#[71,69,84]⟩, .string ⟨#[47,97]⟩, .slice A 0 c, .bool false], .int .i64 19, .bool true, .int .i64 0])) ∧ Below W.heap.size W w') := Lib.hid fun W cs hb hcs g hg => by
    subst hg
    refine (parse_any (some ⟨W.heap.size, 0, none⟩) 19 19 lit1 rfl (by omega) _ (E.below (hb.alloc hb.size _)) (bs_new W lit1 _ _ hcs _)).mono ?_
    rintro e w' ⟨V, rfl, hV, hB⟩
    rw [parse1] at hV
    obtain ⟨A, c, rfl, _, _⟩ := hV
    exact ⟨⟨A, c, rfl⟩, ((Below.refl _ _).alloc (Nat.le_refl _) _).trans (hB.mono (by simp))⟩
  have P2 : Hid (∀ W cs, Below w.heap.size w W → cs = (Lib.byteCells lit2).toArray → ∀ g, W.heap.size = g → Calls Tryz.prog 11 #[.slice (some ⟨g, 0, none⟩) 42 42] (W.alloc (.cells cs 5 (42, 43))) fun e w' => (∃ A c, e = .returned (.tuple #[.agg #[.string ⟨#[80,79,83,84]⟩, .string ⟨#[47,97]⟩, .slice A 2 c, .bool false], .int .i64 41, .bool true, .int .i64 0]) ∧ Bs w' A c [97,98]) ∧ Below W.heap.size W w') := Lib.hid fun W cs hb hcs g hg => by
    subst hg
    refine (parse_any (some ⟨W.heap.size, 0, none⟩) 42 42 lit2 rfl (by omega) _ (E.below (hb.alloc hb.size _)) (bs_new W lit2 _ _ hcs _)).mono ?_
    rintro e w' ⟨V, rfl, hV, hB⟩
    rw [parse2] at hV
    obtain ⟨A, c, rfl, hT, _⟩ := hV
    exact ⟨⟨A, c, rfl, hT⟩, ((Below.refl _ _).alloc (Nat.le_refl _) _).trans (hB.mono (by simp))⟩
  have P3 : Hid (∀ W cs, Below w.heap.size w W → cs = (Lib.byteCells lit3).toArray → ∀ g, W.heap.size = g → Calls Tryz.prog 11 #[.slice (some ⟨g, 0, none⟩) 17 17] (W.alloc (.cells cs 5 (17, 18))) fun e w' => e = .returned (.tuple #[.agg #[.string ⟨#[]⟩, .string ⟨#[]⟩, .slice none 0 0, .bool false], .int .i64 0, .bool false, .int .i64 30]) ∧ Below W.heap.size W w') := Lib.hid fun W cs hb hcs g hg => by
    subst hg
    refine (parse_any (some ⟨W.heap.size, 0, none⟩) 17 17 lit3 rfl (by omega) _ (E.below (hb.alloc hb.size _)) (bs_new W lit3 _ _ hcs _)).mono ?_
    rintro e w' ⟨V, rfl, hV, hB⟩
    rw [parse3] at hV
    exact ⟨hV ▸ rfl, ((Below.refl _ _).alloc (Nat.le_refl _) _).trans (hB.mono (by simp))⟩
  have hcb := fun (W : World) (C : Array Value) (n c g : Nat) (hg : g = W.heap.size) => run_convert_bytes_const_at W 22 5 C n c g hg Tryz.underlying22 Tryz.underlying5
  clear E
  go_enter Tryz.func10, Tryz.ntmps10
  go_upto_region 2 with (first | (go_at_call 11; refine (P1.out _ _ (by repeat (first | exact Below.refl _ _ | refine Below.setCell ?_ (by first | (simp; done) | (simp; omega) | omega) _ | refine Below.alloc ?_ (by first | (simp; done) | (simp; omega) | omega) _ | refine Below.drew ?_ | assumption | refine Below.trans ?_ (Below.mono (by assumption) (by first | (simp; done) | (simp; omega) | omega)))) (by kernel_rfl) _ rfl).mono ?_; rintro e w5 ⟨⟨A5, c5, rfl⟩, hb5⟩; obtain ⟨hc5, hf5⟩ := bcell hb5; have hs5 := hb5.size; (try simp at hs5)))
  refine name_world ?_; intro Wa hWa; have kWa : Wa.cell? ⟨w5.heap.size, 0, none⟩ = some (.string ⟨#[71,69,84]⟩) ∧ Wa.cell? ⟨w5.heap.size, 1, none⟩ = some (.string ⟨#[47,97]⟩) ∧ w5.heap.size < Wa.heap.size ∧ Below w.heap.size w Wa := by { rw [hWa]; exact (by refine ⟨?_, ?_, ?_, ?_⟩ <;> first | (simp [go_sem, *]; done) | omega | (simp; omega) | exact (by repeat (first | exact Below.refl _ _ | refine Below.setCell ?_ (by first | (simp; done) | (simp; omega) | omega) _ | refine Below.alloc ?_ (by first | (simp; done) | (simp; omega) | omega) _ | refine Below.drew ?_ | assumption | refine Below.trans ?_ (Below.mono (by assumption) (by first | (simp; done) | (simp; omega) | omega))))) }; clear hWa; obtain ⟨cWa_0, cWa_1, zWa_0, bWa⟩ := kWa
  go_upto_region 3 with (first | (go_at_call 11; refine (P2.out _ _ (by repeat (first | exact Below.refl _ _ | refine Below.setCell ?_ (by first | (simp; done) | (simp; omega) | omega) _ | refine Below.alloc ?_ (by first | (simp; done) | (simp; omega) | omega) _ | refine Below.drew ?_ | assumption | refine Below.trans ?_ (Below.mono (by assumption) (by first | (simp; done) | (simp; omega) | omega)))) (by kernel_rfl) _ rfl).mono ?_; rintro e w6 ⟨⟨A6, c6, rfl, hT6⟩, hb6⟩; obtain ⟨hc6, hf6⟩ := bcell hb6; have hs6 := hb6.size; (try simp at hs6); have hz6 : w5.heap.size < w6.heap.size := (by omega)))
  refine name_world ?_
  intro Wv hWv
  have HT6 : Hid (Bs Wv A6 c6 [97, 98]) := Lib.hid (hT6.below (by rw [hWv]; exact (by repeat (first | exact Below.refl _ _ | refine Below.setCell ?_ (by first | (simp; done) | (simp; omega) | omega) _ | refine Below.alloc ?_ (by first | (simp; done) | (simp; omega) | omega) _ | refine Below.drew ?_ | assumption | refine Below.trans ?_ (Below.mono (by assumption) (by first | (simp; done) | (simp; omega) | omega))))))
  have hv0 : Wv.cell? ⟨w5.heap.size, 0, none⟩ = some (.string ⟨#[71,69,84]⟩) := by rw [hWv]; simp [go_sem, *]
  have hv1 : Wv.cell? ⟨w5.heap.size, 1, none⟩ = some (.string ⟨#[47,97]⟩) := by rw [hWv]; simp [go_sem, *]
  have hv2 : Wv.cell? ⟨w6.heap.size, 2, none⟩ = some (.slice A6 2 c6) := by rw [hWv]; simp [go_sem, *]
  have hvz : w5.heap.size < Wv.heap.size ∧ w6.heap.size < Wv.heap.size := by rw [hWv]; constructor <;> first | (simp; done) | (simp; omega)
  have bWv : Below w.heap.size w Wv := by rw [hWv]; exact (by repeat (first | exact Below.refl _ _ | refine Below.setCell ?_ (by first | (simp; done) | (simp; omega) | omega) _ | refine Below.alloc ?_ (by first | (simp; done) | (simp; omega) | omega) _ | refine Below.drew ?_ | assumption | refine Below.trans ?_ (Below.mono (by assumption) (by first | (simp; done) | (simp; omega) | omega))))
  clear hWv hT6 hc6 hf6 hb6 hs6 cWa_0 cWa_1 bWa zWa_0
  go_upto_region 4 with (first | (go_at_call 11; refine (P3.out _ _ (by repeat (first | exact Below.refl _ _ | refine Below.setCell ?_ (by first | (simp; done) | (simp; omega) | omega) _ | refine Below.alloc ?_ (by first | (simp; done) | (simp; omega) | omega) _ | refine Below.drew ?_ | assumption | refine Below.trans ?_ (Below.mono (by assumption) (by first | (simp; done) | (simp; omega) | omega)))) (by kernel_rfl) _ rfl).mono ?_; rintro e w7 ⟨rfl, hb7⟩; obtain ⟨hc7, hf7⟩ := bcell hb7; have hs7 := hb7.size; (try simp at hs7)))
  refine name_world ?_
  intro Wu hWu
  have bvu : Below Wv.heap.size Wv Wu := by rw [hWu]; exact (by repeat (first | exact Below.refl _ _ | refine Below.setCell ?_ (by first | (simp; done) | (simp; omega) | omega) _ | refine Below.alloc ?_ (by first | (simp; done) | (simp; omega) | omega) _ | refine Below.drew ?_ | assumption | refine Below.trans ?_ (Below.mono (by assumption) (by first | (simp; done) | (simp; omega) | omega))))
  have hu0 := cellB bvu hv0
  have hu1 := cellB bvu hv1
  have hu2 := cellB bvu hv2
  have CV := conv_bs (HT6.out.below bvu)
  have bWu := bWv.trans (bvu.mono bWv.size)
  simp only [List.length_cons, List.length_nil, Nat.zero_add, Nat.reduceAdd] at CV
  clear hWu hb7 hc7 hf7 hv0 hv1 hv2 bvu bWv HT6
  go_wp2_with (first | (go_at_call 12; (with_reducible refine (num_same _ _).mono ?_); rintro e w9 ⟨rfl, rfl⟩))
  go_ret
  exact ⟨rfl, bWu⟩
end Go.Proofs.YtkaimfeiahogaaaGreatDoor
