/-
  The walk of the statement TierRises, part one: the early ways out.
-/
import Derived.Test.YtehlmpndbmlklaaTk7
namespace Go.Proofs.Ytehlmpndbmlklaa
set_option linter.all false
open Go.RowKit Go.Sort
attribute [local go_sem] cell_set_self lt_1 lt_2 lt_3 lt_4 lt_5 lt_6






/-- The same ends, one price. -/
def flatT (c0 : Int) (l : List (Int × Int)) : List (Int × Int) := l.map fun t => (t.1, c0)
theorem flatT_length (c0 : Int) (l : List (Int × Int)) : (flatT c0 l).length = l.length := by simp [flatT]
theorem flatT_take {c0 : Int} {l : List (Int × Int)} {k : Nat} {u p : Int} (h : l[k]? = some (u, p)) : flatT c0 (l.take (k + 1)) = flatT c0 (l.take k) ++ [(u, c0)] := by
  obtain ⟨hk, he⟩ := List.getElem?_eq_some_iff.1 h
  rw [List.take_succ_eq_append_getElem hk, he]; simp [flatT]
theorem flatT_ok {c0 : Int} (h0 : 0 ≤ c0) (h1 : c0 ≤ 1125899906842624) : ∀ {l : List (Int × Int)} {ah : Int}, okFrom ah l = true → okFrom ah (flatT c0 l) = true
  | [], _, h => h
  | [t], ah, h => by
    simp [okFrom] at h; simp [flatT, okFrom, h, h0, h1]
  | t :: x :: r, ah, h => by
    simp [okFrom] at h
    have ih := flatT_ok h0 h1 (l := x :: r) (ah := t.1) h.2
    simp [flatT] at ih
    simp [flatT, okFrom, h, h0, h1, ih]
theorem flatT_same (c0 : Int) (l : List (Int × Int)) : ∀ t ∈ flatT c0 l, t.2 = c0 := by
  intro t ht; simp [flatT] at ht; obtain ⟨_, _, _, rfl⟩ := ht; rfl

set_option maxRecDepth 100000 in
set_option maxHeartbeats 1000000 in
theorem rises_early (A : Option Addr) (n c : Nat) (l : List (Int × Int)) (q more : Int) (hl : l.length = n) (hn : n ≤ 9223372036854775807)
    (early : 60 < n ∨ (n ≤ 60 ∧ (checkT l ≠ 0 ∨ q < 0 ∨ more < q ∨ 1125899906842624 < more))) (w : World) (T : Tiers w A l) :
    Calls Try.prog 3 #[.slice A n c, .int .i64 q, .int .i64 more] w fun e w' => e = .returned (.bool true) ∧ Below w.heap.size w w' := by
  rcases early with h | ⟨h, early⟩
  · clear T hl
    go_enter Try.func3, Try.ntmps3
    go_wp2_with (first | (go_at_call 8; refine (first_any _).mono ?_; rintro e w1 ⟨rfl, hb1⟩; obtain ⟨hc1, hf1⟩ := bcell hb1; have hs1 := hb1.size; (try simp at hs1)))
    go_ret
    exact ⟨rfl, (by repeat (first | exact Below.refl _ _ | refine Below.setCell ?_ (by first | (simp; done) | (simp; omega) | omega) _ | refine Below.alloc ?_ (by first | (simp; done) | (simp; omega) | omega) _ | refine Below.drew ?_ | assumption | refine Below.trans ?_ (Below.mono (by assumption) (by first | (simp; done) | (simp; omega) | omega))))⟩
  have TB := Lib.hid (fun W (hb : Below w.heap.size w W) => T.below hb)
  have CK := Lib.hid (fun W (T' : Tiers W A l) => check_any A n c l hl (by omega) W T')
  clear T hl
  rcases chk_cases l with k | k | ⟨k, _⟩
  · rw [k] at CK; clear k early
    go_enter Try.func3, Try.ntmps3
    go_wp2_with (first | (go_at_call 8; refine (first_any _).mono ?_; rintro e w1 ⟨rfl, hb1⟩; obtain ⟨hc1, hf1⟩ := bcell hb1; have hs1 := hb1.size; (try simp at hs1)) | (go_at_call 10; refine (CK.out _ (TB.out _ (by repeat (first | exact Below.refl _ _ | refine Below.setCell ?_ (by first | (simp; done) | (simp; omega) | omega) _ | refine Below.alloc ?_ (by first | (simp; done) | (simp; omega) | omega) _ | refine Below.drew ?_ | assumption | refine Below.trans ?_ (Below.mono (by assumption) (by first | (simp; done) | (simp; omega) | omega)))))).mono ?_; rintro e w2 ⟨rfl, hb2⟩; obtain ⟨hc2, hf2⟩ := bcell hb2; have hs2 := hb2.size; (try simp at hs2)) | (go_at_call 9; refine (num_any _ _).mono ?_; rintro e w3 ⟨rfl, hb3⟩; obtain ⟨hc3, hf3⟩ := bcell hb3; have hs3 := hb3.size; (try simp at hs3)))
    go_ret
    exact ⟨rfl, (by repeat (first | exact Below.refl _ _ | refine Below.setCell ?_ (by first | (simp; done) | (simp; omega) | omega) _ | refine Below.alloc ?_ (by first | (simp; done) | (simp; omega) | omega) _ | refine Below.drew ?_ | assumption | refine Below.trans ?_ (Below.mono (by assumption) (by first | (simp; done) | (simp; omega) | omega))))⟩
  · rw [k] at CK; clear k early
    go_enter Try.func3, Try.ntmps3
    go_wp2_with (first | (go_at_call 8; refine (first_any _).mono ?_; rintro e w1 ⟨rfl, hb1⟩; obtain ⟨hc1, hf1⟩ := bcell hb1; have hs1 := hb1.size; (try simp at hs1)) | (go_at_call 10; refine (CK.out _ (TB.out _ (by repeat (first | exact Below.refl _ _ | refine Below.setCell ?_ (by first | (simp; done) | (simp; omega) | omega) _ | refine Below.alloc ?_ (by first | (simp; done) | (simp; omega) | omega) _ | refine Below.drew ?_ | assumption | refine Below.trans ?_ (Below.mono (by assumption) (by first | (simp; done) | (simp; omega) | omega)))))).mono ?_; rintro e w2 ⟨rfl, hb2⟩; obtain ⟨hc2, hf2⟩ := bcell hb2; have hs2 := hb2.size; (try simp at hs2)) | (go_at_call 9; refine (num_any _ _).mono ?_; rintro e w3 ⟨rfl, hb3⟩; obtain ⟨hc3, hf3⟩ := bcell hb3; have hs3 := hb3.size; (try simp at hs3)))
    go_ret
    exact ⟨rfl, (by repeat (first | exact Below.refl _ _ | refine Below.setCell ?_ (by first | (simp; done) | (simp; omega) | omega) _ | refine Below.alloc ?_ (by first | (simp; done) | (simp; omega) | omega) _ | refine Below.drew ?_ | assumption | refine Below.trans ?_ (Below.mono (by assumption) (by first | (simp; done) | (simp; omega) | omega))))⟩
  · rw [k] at CK
    rcases (show q < 0 ∨ (0 ≤ q ∧ more < q) ∨ (0 ≤ q ∧ q ≤ more ∧ 1125899906842624 < more) by omega) with f | ⟨f, f2⟩ | ⟨f, f2, f3⟩
    all_goals
      clear k early
      go_enter Try.func3, Try.ntmps3
      go_wp2_with (first | (go_at_call 8; refine (first_any _).mono ?_; rintro e w1 ⟨rfl, hb1⟩; obtain ⟨hc1, hf1⟩ := bcell hb1; have hs1 := hb1.size; (try simp at hs1)) | (go_at_call 10; refine (CK.out _ (TB.out _ (by repeat (first | exact Below.refl _ _ | refine Below.setCell ?_ (by first | (simp; done) | (simp; omega) | omega) _ | refine Below.alloc ?_ (by first | (simp; done) | (simp; omega) | omega) _ | refine Below.drew ?_ | assumption | refine Below.trans ?_ (Below.mono (by assumption) (by first | (simp; done) | (simp; omega) | omega)))))).mono ?_; rintro e w2 ⟨rfl, hb2⟩; obtain ⟨hc2, hf2⟩ := bcell hb2; have hs2 := hb2.size; (try simp at hs2)) | (go_at_call 9; refine (num_any _ _).mono ?_; rintro e w3 ⟨rfl, hb3⟩; obtain ⟨hc3, hf3⟩ := bcell hb3; have hs3 := hb3.size; (try simp at hs3)))
      go_ret
      exact ⟨rfl, (by repeat (first | exact Below.refl _ _ | refine Below.setCell ?_ (by first | (simp; done) | (simp; omega) | omega) _ | refine Below.alloc ?_ (by first | (simp; done) | (simp; omega) | omega) _ | refine Below.drew ?_ | assumption | refine Below.trans ?_ (Below.mono (by assumption) (by first | (simp; done) | (simp; omega) | omega))))⟩
/-- A contract over the world that the call began with. -/
theorem calls_abs {P : Program} {f : Nat} {args : Array Value} {e0 : Ending} {w W : World} (hb : Below w.heap.size w W) (h : Calls P f args W fun e w' => e = e0 ∧ Below W.heap.size W w') : Calls P f args W fun e w' => e = e0 ∧ Below w.heap.size w w' :=
  h.mono fun _ _ h => ⟨h.1, hb.trans (h.2.mono hb.size)⟩
end Go.Proofs.Ytehlmpndbmlklaa
