/-
  HttpBack: what its walk needs: a row of bytes copied, fronts, a response read back.
-/
import Derived.Test.YtkaimfeiahogaaaGreatDoorHg1
import Derived.Test.YtkaimfeiahogaaaGreatDoorHv6
namespace Go.Proofs.YtkaimfeiahogaaaGreatDoor
set_option linter.all false
open Go.RowKit Go.Shelf
attribute [local go_sem] cell_set_self lt_1 lt_2 lt_3 lt_4 lt_5 lt_6

theorem rem_fit2 (z : Int) (d : Nat) (hd : 1 ≤ d) : ∃ (r : Int) (q : Nat), z.tmod (d : Int) = r ∧ -(d : Int) < r ∧ r < d ∧ (r + d).tmod (d : Int) = (q : Int) ∧ q < d := by
  have h1 : (z.tmod (d : Int)).natAbs < d := by
    rw [Int.natAbs_tmod]; exact Nat.mod_lt _ (by simp; omega)
  have h2 : 0 ≤ z.tmod (d : Int) + d := by omega
  have h3 := Int.tmod_nonneg (d : Int) h2
  have h4 := Int.tmod_lt_of_pos (z.tmod (d : Int) + d) (show (0 : Int) < (d : Int) by omega)
  exact ⟨_, ((z.tmod (d : Int) + d).tmod (d : Int)).toNat, rfl, by omega, by omega, by omega, by omega⟩
theorem front_prn {t : Rq} (h : okR t = true) {x y : List UInt8} (hxy : x ++ y = prn t) (hy : y ≠ []) : parseF x = .wait := by
  obtain ⟨st, h1, _, _, _, h5⟩ := parse_prn h []
  rw [List.append_nil, List.append_nil, ← hxy] at h1
  cases hx : parseF x with
  | wait => rfl
  | bad e =>
    have : parseF (x ++ y) = .bad e := (scan_more y 23 st0 x).1 e hx
    rw [h1] at this; cases this
  | done s r =>
    have : parseF (x ++ y) = .done s (r ++ y) := (scan_more y 23 st0 x).2 s r hx
    rw [h1] at this
    injection this with e1 e2
    have h6 := (done_len hx).1
    have h7 := List.length_pos_iff.2 hy
    rw [← e1, h5, e2, List.length_append] at h6
    omega
theorem take_front {l : List UInt8} {k : Nat} (hk : k < l.length) : l.take k ++ l.drop k = l ∧ l.drop k ≠ [] :=
  ⟨List.take_append_drop _ _, fun e => by have := congrArg List.length e; rw [List.length_drop] at this; simp at this; omega⟩
set_option maxHeartbeats 4000000 in
set_option maxRecDepth 100000 in
theorem bytes_row (A : Option Addr) (n c : Nat) (l : List UInt8) (hl : l.length = n) (hn : n ≤ 1000000000) (w : World) (T : Bs w A c l) :
    Calls Tryz.prog 33 #[.slice A n c] w fun e w' => (∃ A' c', e = .returned (.slice A' n c') ∧ w'.ownsRow w.heap.size 5 1 (.slice A' n c') n (Lib.byteCells l)) ∧ Below w.heap.size w w' := by
  obtain ⟨i0, hi0, hz0, hz1, hz2⟩ := info_parts info_u8h
  have HL := Lib.hid hl
  have HT := Lib.hid T
  clear hl T
  go_enter Tryz.func33, Tryz.ntmps33
  go_wp2_with (first | (at_builtin; refine wpList_append_bs _ rfl (.tmp 3) (.tmp 4) 22 rfl w.heap.size i0 Tryz.underlying22 hi0 hz0 hz1 hz2 (.slice (some ⟨w.heap.size, 0, none⟩) 0 0) 0 [] rfl ⟨rfl, .inr ⟨w.heap.size, 0, #[], rfl, Nat.le_refl _, heap_alloc_new w _, Nat.le_refl _, Nat.zero_le _, rfl, rfl⟩⟩ A n c l rfl HL.out (HT.out.below (by repeat (first | exact Below.refl _ _ | refine Below.setCell ?_ (by first | (simp; done) | (simp; omega) | omega) _ | refine Below.alloc ?_ (by first | (simp; done) | (simp; omega) | omega) _ | refine Below.drew ?_ | assumption | refine Below.trans ?_ (Below.mono (by assumption) (by first | (simp; done) | (simp; omega) | omega))))) (by unfold maxLen; omega) (by omega) (by simp) ?_; intro v' w6 hown6 hgrow6; have B6 : Below w.heap.size w w6 := (Below.grown (Below.alloc (Below.refl _ _) (Nat.le_refl _) _) hgrow6 (by simp) (fun k e => by simp [Value.ownBlock] at e; omega)); have hown6' : w6.ownsRow w.heap.size 5 1 v' n (Lib.byteCells l) := by simpa using hown6))
  have HW6 := Lib.hid hown6'
  obtain ⟨A', c', rfl, hBs', hge⟩ := own_bs hown6'
  go_ret
  exact ⟨⟨A', c', rfl, HW6.out⟩, B6⟩
/-- A response read back, whatever stands behind it. -/
theorem presp_back (z k : Nat) (cl : Bool) (h1 : 100 ≤ z) (h2 : z ≤ 999) (q mo : List UInt8) (hq : q.length = k) (A : Option Addr) (n c N : Nat) (hn : (respH (z : Int) k cl ++ q ++ mo).length = n) (hn9 : n ≤ 1000000000) (hN : (respH (z : Int) k cl ++ q).length = N) (w : World) (E : EnvS w) (T : Bs w A c (respH (z : Int) k cl ++ q ++ mo)) :
    Calls Tryz.prog 29 #[.slice A n c] w fun e w' => (∃ A' c', e = .returned (.tuple #[.agg #[.int .i64 (z : Int), .slice A' k c', .bool cl], .int .i64 (N : Int), .bool true, .int .i64 0]) ∧ BsN w.heap.size w' A' c' q) ∧ Below w.heap.size w w' := by
  refine (presp_any A n c _ hn hn9 w E T).mono ?_
  rintro e w' ⟨hR, hB⟩
  have hr : respF (respH (z : Int) k cl ++ q ++ mo) = .got (z, cl, k) (q ++ mo) := by
    rw [List.append_assoc]
    exact resp_print cl h1 h2 (by rw [List.length_append, List.length_append] at hn; omega) (by rw [List.length_append]; omega)
  unfold RespO at hR
  rw [hr] at hR
  obtain ⟨A', c', rfl, hT⟩ := hR
  refine ⟨⟨A', c', ?_, ?_⟩, hB⟩
  · have hl : (respH (z : Int) k cl ++ q ++ mo).length - (q ++ mo).length + k = N := by
      rw [← hN]; simp only [List.length_append]; omega
    show Ending.returned (.tuple #[rpB (z : Int) A' k c' cl, .int .i64 (((respH (z : Int) k cl ++ q ++ mo).length - (q ++ mo).length + k : Nat) : Int), .bool true, .int .i64 0]) = _
    rw [hl]
    rfl
  · have hq2 : (q ++ mo).take k = q := by rw [← hq]; exact List.take_left
    have hT2 : BsN w.heap.size w' A' c' ((q ++ mo).take k) := hT
    rwa [hq2] at hT2
theorem presp_front (z k : Nat) (cl : Bool) (h1 : 100 ≤ z) (h2 : z ≤ 999) (q : List UInt8) (hq : q.length = k) (A : Option Addr) (n c N : Nat) (hN : (respH (z : Int) k cl ++ q).length = N) (hk : n < N) (hN9 : N ≤ 1000000000) (w : World) (E : EnvS w) (T : Bs w A c ((respH (z : Int) k cl ++ q).take n)) :
    Calls Tryz.prog 29 #[.slice A n c] w fun e w' => e = .returned (.tuple #[.agg #[.int .i64 0, .slice none 0 0, .bool false], .int .i64 0, .bool false, .int .i64 0]) ∧ Below w.heap.size w w' := by
  refine (presp_any A n c _ (by rw [List.length_take]; omega) (by omega) w E T).mono ?_
  rintro e w' ⟨hR, hB⟩
  have hr : respF ((respH (z : Int) k cl ++ q).take n) = .wait := by
    obtain ⟨e1, e2⟩ := take_front (l := respH (z : Int) k cl ++ q) (k := n) (by omega)
    refine resp_front (t := (respH (z : Int) k cl ++ q).drop n) (b := q) (z := z) (n := k) (cl := cl) ?_ hq e2
    rw [e1]
    exact resp_print cl h1 h2 (by rw [List.length_append] at hN; omega) (by omega)
  unfold RespO at hR
  rw [hr] at hR
  exact ⟨hR, hB⟩
end Go.Proofs.YtkaimfeiahogaaaGreatDoor
