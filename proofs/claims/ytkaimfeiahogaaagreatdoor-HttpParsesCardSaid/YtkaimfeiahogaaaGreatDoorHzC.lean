/-
  Contract of exref22.Parse: it answers what 'parseF' says of the bytes.
-/
import Derived.Test.YtkaimfeiahogaaaGreatDoorHz1
import Derived.Test.YtkaimfeiahogaaaGreatDoorHc1
import Derived.Test.YtkaimfeiahogaaaGreatDoorHq1
import Derived.Test.YtkaimfeiahogaaaGreatDoorHz4
import Derived.Test.YtkaimfeiahogaaaGreatDoorHn1
import Derived.Test.YtkaimfeiahogaaaGreatDoorHk6
import Derived.Deep.CutRange

/-
  Contract of exref22.head, where a line's pieces are refused at once.
-/
namespace Go.Proofs.YtkaimfeiahogaaaGreatDoor
set_option linter.all false
open Go.RowKit Go.Shelf
attribute [local go_sem] cell_set_self lt_1 lt_2 lt_3 lt_4 lt_5 lt_6 drew_cell drew_frozen drew_size

theorem headE_three {s : List UInt8} (h : (pieces 32 s).length ≠ 3) : headE s = 10 := by
  unfold headE
  split
  · rename_i m p v e; rw [e] at h; exact absurd rfl h
  · rfl
set_option maxHeartbeats 4000000 in
set_option maxRecDepth 100000 in
theorem rhead_three (s : List UInt8) (hs : s.length ≤ 100000) (h : (pieces 32 s).length ≠ 3) (v : Value) (w : World) :
    Calls Tryz.prog 41 #[.string ⟨s.toArray⟩, v] w fun e w' => e = .returned (.int .i64 (headE s)) ∧ Below w.heap.size w w' := by
  rw [headE_three h]
  have CU : Hid (∀ W, Calls Tryz.prog 19 #[.string ⟨s.toArray⟩, .int .u8 32] W fun e w' => (∃ A d, e = .returned (.slice A (pieces 32 s).length d) ∧ Strs w' A (pieces 32 s)) ∧ Below W.heap.size W w') := Lib.hid fun W => cut_any 32 s hs W
  obtain ⟨n, hn⟩ : ∃ n, (pieces 32 s).length = n := ⟨_, rfl⟩
  rw [hn] at CU h
  have h3 : ((n : Int) != 3) = true := by simp; omega
  have h3' : ((n : Int) == 3) = false := by rw [beq_eq_false_iff_ne]; omega
  generalize (⟨s.toArray⟩ : ByteArray) = S at *
  clear hs hn
  go_enter Tryz.func41, Tryz.ntmps41
  go_wp2_with (first | (go_at_call 19; (with_reducible refine (CU.out _).mono ?_); rintro e w5 ⟨⟨A5, d5, rfl, _⟩, hb5⟩))
  go_ret
  exact ⟨rfl, hb5⟩
/-- Refused before its bytes are looked at. -/
theorem headE_at {s m p v : List UInt8} (h : pieces 32 s = [m, p, v]) (hb : v ≠ tVers ∨ m.length < 1 ∨ 10 < m.length ∨ pathB p = false) : headE s = 10 := by
  unfold headE
  rw [h]
  simp only
  rw [if_neg]
  intro e
  simp only [Bool.and_eq_true, decide_eq_true_eq] at e
  obtain ⟨e1, e2, e3⟩ := e
  unfold someL at e1
  simp only [Bool.and_eq_true, decide_eq_true_eq] at e1
  rcases hb with h | h | h | h
  · exact h e3
  · have := List.length_pos_iff.2 e1.1; omega
  · omega
  · rw [h] at e2; cases e2
set_option maxHeartbeats 8000000 in
set_option maxRecDepth 100000 in
theorem rhead_at (s m p v : List UInt8) (hs : s.length ≤ 100000) (h : pieces 32 s = [m, p, v]) (hp9 : p.length ≤ 100000) (hb : v ≠ tVers ∨ m.length < 1 ∨ 10 < m.length ∨ pathB p = false) (q : Value) (w : World) :
    Calls Tryz.prog 41 #[.string ⟨s.toArray⟩, q] w fun e w' => e = .returned (.int .i64 (headE s)) ∧ Below w.heap.size w w' := by
  rw [headE_at h hb]
  have CU : Hid (∀ W, Calls Tryz.prog 19 #[.string ⟨s.toArray⟩, .int .u8 32] W fun e w' => (∃ g o d, e = .returned (.slice (some ⟨g, o, none⟩) 3 d) ∧ w'.cell? ⟨g, o, none⟩ = some (.string ⟨m.toArray⟩) ∧ w'.cell? ⟨g, o + 1, none⟩ = some (.string ⟨p.toArray⟩) ∧ w'.cell? ⟨g, o + 2, none⟩ = some (.string ⟨v.toArray⟩)) ∧ Below W.heap.size W w') := Lib.hid fun W => by
    refine (cut_any 32 s hs W).mono ?_
    rintro e w' ⟨⟨A, d, rfl, hS⟩, hB⟩
    rw [h] at hS ⊢
    obtain ⟨g, o, rfl, _, c0⟩ := hS 0 m rfl
    obtain ⟨g1, o1, e1, _, c1⟩ := hS 1 p rfl
    obtain ⟨g2, o2, e2, _, c2⟩ := hS 2 v rfl
    obtain ⟨rfl, rfl⟩ : g = g1 ∧ o = o1 := by simpa using e1
    obtain ⟨rfl, rfl⟩ : g = g2 ∧ o = o2 := by simpa using e2
    exact ⟨⟨g, o, d, rfl, c0, c1, c2⟩, hB⟩
  have PA := Lib.hid (fun W => rpath_any p (by omega) W)
  have hm : (⟨m.toArray⟩ : ByteArray).size = m.length := ba_sz m
  have q1 := str_beq2 v [72, 84, 84, 80, 47, 49, 46, 49]
  rw [← hm] at hb
  generalize (⟨m.toArray⟩ : ByteArray) = M at *
  generalize (⟨p.toArray⟩ : ByteArray) = P at *
  generalize (⟨v.toArray⟩ : ByteArray) = V at *
  generalize (⟨s.toArray⟩ : ByteArray) = S at *
  clear hs h hm hp9
  by_cases h1 : v = tVers
  · have g1 : decide (v = [72, 84, 84, 80, 47, 49, 46, 49]) = true := decide_eq_true h1
    rw [g1] at q1
    by_cases h2 : M.size < 1
    · have h2' : (M.size : Int) < 1 := by omega
      clear hb h1 g1
      go_enter Tryz.func41, Tryz.ntmps41
      go_wp2_with (first | (go_at_call 19; (with_reducible refine (CU.out _).mono ?_); rintro e w5 ⟨⟨g5, o5, d5, rfl, f0, f1, f2⟩, hb5⟩) | (go_at_call 39; (with_reducible refine (PA.out _).mono ?_); rintro e w6 ⟨rfl, rfl⟩))
      go_ret
      exact ⟨rfl, hb5⟩
    · have h2' : ¬ (M.size : Int) < 1 := by omega
      by_cases h3 : 10 < M.size
      · have h3' : (10 : Int) < (M.size : Int) := by omega
        clear hb h1 g1
        go_enter Tryz.func41, Tryz.ntmps41
        go_wp2_with (first | (go_at_call 19; (with_reducible refine (CU.out _).mono ?_); rintro e w5 ⟨⟨g5, o5, d5, rfl, f0, f1, f2⟩, hb5⟩) | (go_at_call 39; (with_reducible refine (PA.out _).mono ?_); rintro e w6 ⟨rfl, rfl⟩))
        go_ret
        exact ⟨rfl, hb5⟩
      · have h3' : ¬ (10 : Int) < (M.size : Int) := by omega
        have h4 : pathB p = false := by
          rcases hb with h | h | h | h
          · exact absurd h1 h
          · omega
          · omega
          · exact h
        rw [h4] at PA
        clear hb h1 g1 h4
        go_enter Tryz.func41, Tryz.ntmps41
        go_wp2_with (first | (go_at_call 19; (with_reducible refine (CU.out _).mono ?_); rintro e w5 ⟨⟨g5, o5, d5, rfl, f0, f1, f2⟩, hb5⟩) | (go_at_call 39; (with_reducible refine (PA.out _).mono ?_); rintro e w6 ⟨rfl, rfl⟩))
        go_ret
        exact ⟨rfl, hb5⟩
  · have g1 : decide (v = [72, 84, 84, 80, 47, 49, 46, 49]) = false := decide_eq_false h1
    rw [g1] at q1
    clear hb h1 g1
    go_enter Tryz.func41, Tryz.ntmps41
    go_wp2_with (first | (go_at_call 19; (with_reducible refine (CU.out _).mono ?_); rintro e w5 ⟨⟨g5, o5, d5, rfl, f0, f1, f2⟩, hb5⟩) | (go_at_call 39; (with_reducible refine (PA.out _).mono ?_); rintro e w6 ⟨rfl, rfl⟩))
    go_ret
    exact ⟨rfl, hb5⟩
end Go.Proofs.YtkaimfeiahogaaaGreatDoor

/-
  Contract of exref22.head, where the pieces are fine but for the method's bytes.
-/
namespace Go.Proofs.YtkaimfeiahogaaaGreatDoor
set_option linter.all false
open Go.RowKit Go.Shelf
attribute [local go_sem] cell_set_self lt_1 lt_2 lt_3 lt_4 lt_5 lt_6 drew_cell drew_frozen drew_size

theorem headE_of {s m p v : List UInt8} (h : pieces 32 s = [m, p, v]) (hv : v = tVers) (h1 : 1 ≤ m.length) (h2 : m.length ≤ 10) (hp : pathB p = true) : headE s = if m.all bigB = true then (if m = tGet ∨ m = tPost then 0 else 30) else 10 := by
  unfold headE someL
  rw [h]
  have h0 : m ≠ [] := fun e => by rw [e] at h1; simp at h1
  simp only [hp, decide_eq_true hv, decide_eq_true h0, decide_eq_true h2, Bool.true_and, Bool.and_true]
theorem bigB_cases (x : UInt8) : (bigB x = true ∧ 65 ≤ x.toNat ∧ x.toNat ≤ 90) ∨ (bigB x = false ∧ (x.toNat < 65 ∨ 90 < x.toNat)) := by
  unfold bigB
  by_cases h : 65 ≤ x.toNat ∧ x.toNat ≤ 90
  · exact .inl ⟨by simp [h.1, h.2], h⟩
  · right
    refine ⟨?_, by omega⟩
    rw [Bool.and_eq_false_iff, decide_eq_false_iff_not, decide_eq_false_iff_not]; omega
set_option maxHeartbeats 8000000 in
set_option maxRecDepth 100000 in
theorem rhead_on (s m p v : List UInt8) (hs : s.length ≤ 100000) (h : pieces 32 s = [m, p, v]) (hp9 : p.length ≤ 100000) (hv : v = tVers) (h1 : 1 ≤ m.length) (h2 : m.length ≤ 10) (hp : pathB p = true) (rb : Nat) (x0 x1 : Value) (w : World)
    (r0 : w.cell? ⟨rb, 0, none⟩ = some x0) (r1 : w.cell? ⟨rb, 1, none⟩ = some x1) (z0 : w.frozen? ⟨rb, 0, none⟩ = false) (z1 : w.frozen? ⟨rb, 1, none⟩ = false) (lr : rb < w.heap.size) :
    Calls Tryz.prog 41 #[.string ⟨s.toArray⟩, .pointer (some ⟨rb, 0, none⟩)] w fun e w' => e = .returned (.int .i64 (headE s)) ∧ ∃ w5, Below w.heap.size w w5 ∧ w' = if headE s = 0 then (w5.setCell ⟨rb, 0, none⟩ (.string ⟨m.toArray⟩)).setCell ⟨rb, 1, none⟩ (.string ⟨p.toArray⟩) else w5 := by
  rw [headE_of h hv h1 h2 hp]
  have CU : Hid (∀ W, Calls Tryz.prog 19 #[.string ⟨s.toArray⟩, .int .u8 32] W fun e w' => (∃ g o d, e = .returned (.slice (some ⟨g, o, none⟩) 3 d) ∧ w'.cell? ⟨g, o, none⟩ = some (.string ⟨m.toArray⟩) ∧ w'.cell? ⟨g, o + 1, none⟩ = some (.string ⟨p.toArray⟩) ∧ w'.cell? ⟨g, o + 2, none⟩ = some (.string ⟨v.toArray⟩)) ∧ Below W.heap.size W w') := Lib.hid fun W => by
    refine (cut_any 32 s hs W).mono ?_
    rintro e w' ⟨⟨A, d, rfl, hS⟩, hB⟩
    rw [h] at hS ⊢
    obtain ⟨g, o, rfl, _, c0⟩ := hS 0 m rfl
    obtain ⟨g1, o1, e1, _, c1⟩ := hS 1 p rfl
    obtain ⟨g2, o2, e2, _, c2⟩ := hS 2 v rfl
    obtain ⟨rfl, rfl⟩ : g = g1 ∧ o = o1 := by simpa using e1
    obtain ⟨rfl, rfl⟩ : g = g2 ∧ o = o2 := by simpa using e2
    exact ⟨⟨g, o, d, rfl, c0, c1, c2⟩, hB⟩
  have PA := Lib.hid (fun W => rpath_any p (by omega) W)
  rw [hp] at PA
  have hm : (⟨m.toArray⟩ : ByteArray).size = m.length := ba_sz m
  have HM := Lib.hid hm
  have AT := Lib.hid (fun i (h : i < (⟨m.toArray⟩ : ByteArray).size) (c : UInt8) (hc : m[i]? = some c) => (show ((⟨m.toArray⟩ : ByteArray)[i]'h).toNat = c.toNat by
    obtain ⟨h1, h2⟩ := List.getElem?_eq_some_iff.1 hc
    rw [← h2]; rfl))
  have q1 := str_beq2 v [72, 84, 84, 80, 47, 49, 46, 49]
  rw [show decide (v = [72, 84, 84, 80, 47, 49, 46, 49]) = true from decide_eq_true hv] at q1
  have q2 := str_beq2 m [71, 69, 84]
  have q3 := str_beq2 m [80, 79, 83, 84]
  rw [← hm] at h1 h2
  obtain ⟨P, hP⟩ : ∃ P : ByteArray, (⟨p.toArray⟩ : ByteArray) = P := ⟨_, rfl⟩
  obtain ⟨M, hMM⟩ : ∃ M : ByteArray, (⟨m.toArray⟩ : ByteArray) = M := ⟨_, rfl⟩
  rw [hP] at CU PA ⊢
  rw [hMM] at CU HM AT q2 q3 h1 h2 ⊢
  generalize (⟨v.toArray⟩ : ByteArray) = V at *
  generalize (⟨s.toArray⟩ : ByteArray) = S at *
  have h2' : ¬ (M.size : Int) < 1 := by omega
  have h3' : ¬ (10 : Int) < (M.size : Int) := by omega
  have Q2 := Lib.hid q2
  have Q3 := Lib.hid q3
  clear hs h hm hp9 hv hp hP hMM q2 q3
  suffices key : ∀ Q : Ending → World → Prop, Hid (∀ e w', (e = .returned (.int .i64 (if m.all bigB = true then (if m = tGet ∨ m = tPost then 0 else 30) else 10)) ∧ ∃ w5, Below w.heap.size w w5 ∧ w' = if (if m.all bigB = true then (if m = tGet ∨ m = tPost then 0 else 30) else (10 : Int)) = 0 then (w5.setCell ⟨rb, 0, none⟩ (.string M)).setCell ⟨rb, 1, none⟩ (.string P) else w5) → Q e w') → Calls Tryz.prog 41 #[.string S, .pointer (some ⟨rb, 0, none⟩)] w Q from key _ (Lib.hid fun _ _ h => h)
  intro Q HQQ
  go_enter Tryz.func41, Tryz.ntmps41
  go_wp2_with (first | (go_at_call 19; (with_reducible refine (CU.out _).mono ?_); rintro e w5 ⟨⟨g5, o5, d5, rfl, f0, f1, f2⟩, hb5⟩; have e0 := (hb5.cell (p := ⟨rb, 0, none⟩) lr).trans r0; have e1 := (hb5.cell (p := ⟨rb, 1, none⟩) lr).trans r1; have u0 := (hb5.frozen (p := ⟨rb, 0, none⟩) lr).trans z0; have u1 := (hb5.frozen (p := ⟨rb, 1, none⟩) lr).trans z1; have HB5 := Lib.hid hb5) | (go_at_call 39; (with_reducible refine (PA.out _).mono ?_); rintro e w6 ⟨rfl, rfl⟩))
  go_loop [6] (fun i => ∃ k : Nat, k ≤ M.size ∧ i = .int .i64 k ∧ Hid ((m.take k).all bigB = true)) (fun i => M.size - (intOf i).toNat)
  case atStart => exact ⟨0, by omega, rfl, Lib.hid rfl⟩
  case round =>
    obtain ⟨k, hk, rfl, HA⟩ := hrel
    by_cases hlt : k < M.size
    · have hlt' : (k : Int) < (M.size : Int) := by omega
      obtain ⟨x, hx⟩ : ∃ x, m[k]? = some x := ⟨_, List.getElem?_eq_getElem (by have := HM.out; omega)⟩
      have at1 := AT.out k hlt x hx
      have HX := Lib.hid hx
      clear hx
      rcases bigB_cases x with ⟨hb, c1, c2⟩ | ⟨hb, hc⟩
      · have HBX := Lib.hid hb
        generalize x.toNat = xx at *
        have p1 : ¬ (xx : Int) < 65 := by omega
        have p2 : ¬ (90 : Int) < (xx : Int) := by omega
        clear hb
        go_wp2
        go_roundw
        case rel => exact ⟨k + 1, by omega, by go_num, Lib.hid ((all_take HX.out HA.out).trans HBX.out)⟩
        case measure => first | (simp [intOf]; done) | (simp [intOf]; omega)
      · have HN : Hid (¬ m.all bigB = true) := Lib.hid (fun e => by have := List.all_eq_true.1 e x (List.mem_of_getElem? HX.out); rw [hb] at this; cases this)
        generalize x.toNat = xx at *
        clear hb
        by_cases p0 : xx < 65
        · have p1 : (xx : Int) < 65 := by omega
          clear hc p0
          go_wp2
          exact HQQ.out _ _ ⟨by rw [if_neg HN.out], _, HB5.out, by rw [if_neg HN.out]; rfl⟩
        · have p1 : ¬ (xx : Int) < 65 := by omega
          have p2 : (90 : Int) < (xx : Int) := by omega
          clear hc p0
          go_wp2
          exact HQQ.out _ _ ⟨by rw [if_neg HN.out], _, HB5.out, by rw [if_neg HN.out]; rfl⟩
    · obtain rfl : k = M.size := by omega
      have hlt' : ¬ (M.size : Int) < (M.size : Int) := by omega
      have q2 := Q2.out
      have q3 := Q3.out
      have HB : Hid (m.all bigB = true) := Lib.hid (by have := HA.out; rwa [List.take_of_length_le (by have := HM.out; omega)] at this)
      by_cases g1 : m = tGet
      · rw [show decide (m = [71, 69, 84]) = true from decide_eq_true g1] at q2
        have HG : Hid (m = tGet ∨ m = tPost) := Lib.hid (.inl g1)
        clear g1 q3
        go_wp2
        exact HQQ.out _ _ ⟨by rw [if_pos HB.out, if_pos HG.out], _, HB5.out, by rw [if_pos HB.out, if_pos HG.out]; rfl⟩
      · rw [show decide (m = [71, 69, 84]) = false from decide_eq_false g1] at q2
        by_cases g2 : m = tPost
        · rw [show decide (m = [80, 79, 83, 84]) = true from decide_eq_true g2] at q3
          have HG : Hid (m = tGet ∨ m = tPost) := Lib.hid (.inr g2)
          clear g1 g2
          go_wp2
          exact HQQ.out _ _ ⟨by rw [if_pos HB.out, if_pos HG.out], _, HB5.out, by rw [if_pos HB.out, if_pos HG.out]; rfl⟩
        · rw [show decide (m = [80, 79, 83, 84]) = false from decide_eq_false g2] at q3
          have HG : Hid (¬ (m = tGet ∨ m = tPost)) := Lib.hid (fun e => e.elim g1 g2)
          clear g1 g2
          go_wp2
          exact HQQ.out _ _ ⟨by rw [if_pos HB.out, if_neg HG.out], _, HB5.out, by rw [if_pos HB.out, if_neg HG.out]; rfl⟩
end Go.Proofs.YtkaimfeiahogaaaGreatDoor

/-
  Contract of exref22.head at any line; how exref22.Parse stands between two rounds.
-/
namespace Go.Proofs.YtkaimfeiahogaaaGreatDoor
set_option linter.all false
open Go.RowKit Go.Shelf

theorem pieces_of3 {s : List UInt8} (h : (pieces 32 s).length = 3) : ∃ m p v, pieces 32 s = [m, p, v] := by
  match pieces 32 s, h with
  | [m, p, v], _ => exact ⟨m, p, v, rfl⟩
theorem headM_eq {s m p v : List UInt8} (h : pieces 32 s = [m, p, v]) (h0 : headE s = 0) : headM s = m ∧ headP s = p := by
  unfold headM headP
  rw [if_pos h0, if_pos h0, h]
  exact ⟨rfl, rfl⟩
theorem rhead_any (s : List UInt8) (hs : s.length ≤ 100000) (rb : Nat) (x0 x1 : Value) (w : World)
    (r0 : w.cell? ⟨rb, 0, none⟩ = some x0) (r1 : w.cell? ⟨rb, 1, none⟩ = some x1) (z0 : w.frozen? ⟨rb, 0, none⟩ = false) (z1 : w.frozen? ⟨rb, 1, none⟩ = false) (lr : rb < w.heap.size) :
    Calls Tryz.prog 41 #[.string ⟨s.toArray⟩, .pointer (some ⟨rb, 0, none⟩)] w fun e w' => e = .returned (.int .i64 (headE s)) ∧ ∃ w5, Below w.heap.size w w5 ∧ w' = if headE s = 0 then (w5.setCell ⟨rb, 0, none⟩ (.string ⟨(headM s).toArray⟩)).setCell ⟨rb, 1, none⟩ (.string ⟨(headP s).toArray⟩) else w5 := by
  by_cases h3 : (pieces 32 s).length = 3
  · obtain ⟨m, p, v, h⟩ := pieces_of3 h3
    have hp9 : p.length ≤ 100000 := Nat.le_trans (pieces_le 32 s p (by rw [h]; simp)) hs
    by_cases hb : v ≠ tVers ∨ m.length < 1 ∨ 10 < m.length ∨ pathB p = false
    · refine (rhead_at s m p v hs h hp9 hb _ w).mono ?_
      rintro e w' ⟨rfl, hB⟩
      exact ⟨rfl, w', hB, by rw [headE_at h hb, if_neg (by decide)]⟩
    · simp only [not_or, Classical.not_not, Nat.not_lt, Bool.not_eq_false] at hb
      obtain ⟨g1, g2, g3, g4⟩ := hb
      refine (rhead_on s m p v hs h hp9 g1 g2 g3 g4 rb x0 x1 w r0 r1 z0 z1 lr).mono ?_
      rintro e w' ⟨rfl, w5, hB, hw⟩
      refine ⟨rfl, w5, hB, ?_⟩
      rw [hw]
      by_cases h0 : headE s = 0
      · obtain ⟨e1, e2⟩ := headM_eq h h0
        rw [if_pos h0, if_pos h0, e1, e2]
      · rw [if_neg h0, if_neg h0]
  · refine (rhead_three s hs h3 _ w).mono ?_
    rintro e w' ⟨rfl, hB⟩
    exact ⟨rfl, w', hB, by rw [headE_three h3, if_neg (by decide)]⟩
theorem lineF_bad2 : ∀ {l : List UInt8} {n : Nat} {e : Int}, lineF n l = .bad e → e = 10 ∨ e = 8
  | [], n, e, h => by cases h
  | c :: r, n, e, h => by
    rw [lineF] at h
    split at h
    · injection h with h; exact .inl h.symm
    · split at h
      · split at h
        · cases h
        · split at h
          · cases h
          · injection h with h; exact .inl h.symm
      · split at h
        · injection h with h; exact .inr h.symm
        · exact lineF_bad2 h
/-- The names that were seen. -/
def SeenR (w W : World) (v : Value) (st : St) : Prop :=
  ∃ xs : List (List UInt8), W.ownsRow (w.heap.size + 2) 9 1 v xs.length (strsV xs) ∧ xs.length ≤ st.n ∧ (tLen ∈ xs ↔ st.sl = true) ∧ (tConn ∈ xs ↔ st.sc = true)
/-- The cells of exref22.Parse's own variables: its result, empty; the request as far as it is read. -/
structure ReqS (w W : World) (st : St) : Prop where
  a0 : W.cell? ⟨w.heap.size, 0, none⟩ = some (.string ⟨#[]⟩)
  a1 : W.cell? ⟨w.heap.size, 1, none⟩ = some (.string ⟨#[]⟩)
  a2 : W.cell? ⟨w.heap.size, 2, none⟩ = some (.slice none 0 0)
  a3 : W.cell? ⟨w.heap.size, 3, none⟩ = some (.bool false)
  r0 : W.cell? ⟨w.heap.size + 1, 0, none⟩ = some (.string ⟨st.m.toArray⟩)
  r1 : W.cell? ⟨w.heap.size + 1, 1, none⟩ = some (.string ⟨st.p.toArray⟩)
  r2 : W.cell? ⟨w.heap.size + 1, 2, none⟩ = some (.slice none 0 0)
  r3 : W.cell? ⟨w.heap.size + 1, 3, none⟩ = some (.bool st.close)
  fa : ∀ j, W.frozen? ⟨w.heap.size, j, none⟩ = false
  fr : ∀ j, W.frozen? ⟨w.heap.size + 1, j, none⟩ = false
  hs : w.heap.size + 2 ≤ W.heap.size
  bel : Below w.heap.size w W
theorem ReqS.below {w W W' : World} {st : St} (h : ReqS w W st) (hb : Below (w.heap.size + 2) W W') : ReqS w W' st :=
  have k0 : w.heap.size < w.heap.size + 2 := by omega
  have k1 : w.heap.size + 1 < w.heap.size + 2 := by omega
  ⟨(hb.cell (p := ⟨w.heap.size, 0, none⟩) k0).trans h.a0, (hb.cell (p := ⟨w.heap.size, 1, none⟩) k0).trans h.a1, (hb.cell (p := ⟨w.heap.size, 2, none⟩) k0).trans h.a2, (hb.cell (p := ⟨w.heap.size, 3, none⟩) k0).trans h.a3,
   (hb.cell (p := ⟨w.heap.size + 1, 0, none⟩) k1).trans h.r0, (hb.cell (p := ⟨w.heap.size + 1, 1, none⟩) k1).trans h.r1, (hb.cell (p := ⟨w.heap.size + 1, 2, none⟩) k1).trans h.r2, (hb.cell (p := ⟨w.heap.size + 1, 3, none⟩) k1).trans h.r3,
   fun j => (hb.frozen (p := ⟨w.heap.size, j, none⟩) k0).trans (h.fa j), fun j => (hb.frozen (p := ⟨w.heap.size + 1, j, none⟩) k1).trans (h.fr j),
   Nat.le_trans h.hs hb.size, h.bel.trans (hb.mono (by omega))⟩
theorem ReqS.call {w W W' : World} {st : St} (h : ReqS w W st) (hb : Below W.heap.size W W') : ReqS w W' st := h.below (hb.mono h.hs)
theorem SeenR.set {w W : World} {v : Value} {st : St} (h : SeenR w W v st) {a : Addr} (ha : a.block < w.heap.size + 2) (u : Value) : SeenR w (W.setCell a u) v st := by
  obtain ⟨xs, h1, h2⟩ := h
  exact ⟨xs, ownsRow_setCell_below h1 ha u, h2⟩
theorem SeenR.below {w W W' : World} {v : Value} {st : St} (h : SeenR w W v st) (hb : Below W.heap.size W W') : SeenR w W' v st := by
  obtain ⟨xs, h1, h2⟩ := h
  exact ⟨xs, own_below h1 hb, h2⟩
/-- The first line is read. -/
theorem ReqS.head {w W : World} {st : St} (h : ReqS w W st) (m p : List UInt8) (hc : st.close = false) : ReqS w ((W.setCell ⟨w.heap.size + 1, 0, none⟩ (.string ⟨m.toArray⟩)).setCell ⟨w.heap.size + 1, 1, none⟩ (.string ⟨p.toArray⟩)) ⟨1, m, p, false, 0, false, false⟩ := by
  have k1 : w.heap.size + 1 < W.heap.size := by have := h.hs; omega
  obtain ⟨a0, a1, a2, a3, r0, r1, r2, r3, fa, fr, hs, bel⟩ := h
  rw [hc] at r3
  refine ⟨by simp [go_sem, *], by simp [go_sem, *], by simp [go_sem, *], by simp [go_sem, *], ?_, ?_, by simp [go_sem, *], by simp [go_sem, *], fun j => ?_, fun j => ?_, ?_, ?_⟩
  · simp [go_sem, *, cell_set_self]
  · simp [go_sem, *, cell_set_self]
  · simpa [go_sem] using fa j
  · simpa [go_sem] using fr j
  · simpa [go_sem] using hs
  · exact (bel.setCell (by dsimp only; omega) _).setCell (by dsimp only; omega) _
/-- A header line is read that says whether the connection closes. -/
theorem ReqS.conn {w W : World} {st : St} (h : ReqS w W st) (c : Bool) (n : Nat) (len : Nat) (sl sc : Bool) : ReqS w (W.setCell ⟨w.heap.size + 1, 3, none⟩ (.bool c)) ⟨n, st.m, st.p, c, len, sl, sc⟩ := by
  have k1 : w.heap.size + 1 < W.heap.size := by have := h.hs; omega
  obtain ⟨a0, a1, a2, a3, r0, r1, r2, r3, fa, fr, hs, bel⟩ := h
  refine ⟨by simp [go_sem, *], by simp [go_sem, *], by simp [go_sem, *], by simp [go_sem, *], by simp [go_sem, *], by simp [go_sem, *], by simp [go_sem, *], ?_, fun j => ?_, fun j => ?_, ?_, ?_⟩
  · simp [go_sem, *, cell_set_self]
  · simpa [go_sem] using fa j
  · simpa [go_sem] using fr j
  · simpa [go_sem] using hs
  · exact bel.setCell (by dsimp only; omega) _
theorem ReqS.same {w W : World} {st st' : St} (h : ReqS w W st) (hm : st'.m = st.m) (hp : st'.p = st.p) (hc : st'.close = st.close) : ReqS w W st' :=
  ⟨h.a0, h.a1, h.a2, h.a3, by rw [hm]; exact h.r0, by rw [hp]; exact h.r1, h.r2, by rw [hc]; exact h.r3, h.fa, h.fr, h.hs, h.bel⟩
end Go.Proofs.YtkaimfeiahogaaaGreatDoor

/-
  Contract of exref22.Parse: it answers what 'parseF' says of the bytes.
-/
namespace Go.Proofs.YtkaimfeiahogaaaGreatDoor
set_option linter.all false
open Go.RowKit Go.Shelf
attribute [local go_sem] cell_set_self lt_1 lt_2 lt_3 lt_4 lt_5 lt_6 drew_cell drew_frozen drew_size

section
variable {st : St} {s nm v : List UInt8}
theorem sE_none (h : fieldF s = none) : stepE st s = 10 := by unfold stepE; rw [h]
theorem sE_many (h : fieldF s = some (nm, v)) (hn : 20 < st.n) : stepE st s = 9 := by unfold stepE; rw [h]; simp only; rw [if_pos hn]
theorem sE_other (h : fieldF s = some (nm, v)) (hn : ¬ 20 < st.n) (h1 : nm ≠ tLen) (h2 : nm ≠ tConn) : stepE st s = 0 := by unfold stepE; rw [h]; simp only; rw [if_neg hn, if_neg h1, if_neg h2]
theorem sE_twice1 (h : fieldF s = some (tLen, v)) (hn : ¬ 20 < st.n) (h1 : st.sl = true) : stepE st s = 12 := by unfold stepE; rw [h]; simp only; rw [if_neg hn, if_pos trivial, if_pos h1]
theorem sE_len (h : fieldF s = some (tLen, v)) (hn : ¬ 20 < st.n) (h1 : ¬ st.sl = true) : stepE st s = lenE v := by unfold stepE; rw [h]; simp only; rw [if_neg hn, if_pos trivial, if_neg h1]
theorem tConn_ne : ¬ tConn = tLen := by decide
theorem tLen_ne : ¬ tLen = tConn := by decide
theorem sE_twice2 (h : fieldF s = some (tConn, v)) (hn : ¬ 20 < st.n) (h1 : st.sc = true) : stepE st s = 12 := by unfold stepE; rw [h]; simp only; rw [if_neg hn, if_neg tConn_ne, if_pos trivial, if_pos h1]
theorem sE_conn (h : fieldF s = some (tConn, v)) (hn : ¬ 20 < st.n) (h1 : ¬ st.sc = true) : stepE st s = if small v = tClose ∨ small v = tKeep then 0 else 10 := by unfold stepE; rw [h]; simp only; rw [if_neg hn, if_neg tConn_ne, if_pos trivial, if_neg h1]
theorem sS_other (h : fieldF s = some (nm, v)) (h1 : nm ≠ tLen) (h2 : nm ≠ tConn) : stepS st s = ⟨st.n + 1, st.m, st.p, st.close, st.len, st.sl, st.sc⟩ := by unfold stepS; rw [h]; simp only; rw [if_neg h1, if_neg h2]
theorem sS_len (h : fieldF s = some (tLen, v)) : stepS st s = ⟨st.n + 1, st.m, st.p, st.close, dv v, true, st.sc⟩ := by unfold stepS; rw [h]; simp only; rw [if_pos trivial]
theorem sS_conn (h : fieldF s = some (tConn, v)) : stepS st s = ⟨st.n + 1, st.m, st.p, decide (small v = tClose), st.len, st.sl, true⟩ := by unfold stepS; rw [h]; simp only; rw [if_neg tConn_ne, if_pos trivial]
end
section
variable {l : List UInt8} {k q N : Nat} {st : St}
theorem drop_line (l : List UInt8) (k q : Nat) : (l.drop k).drop (q + 2) = l.drop (k + q + 2) := by rw [List.drop_drop, Nat.add_assoc]
theorem pf_wait (hN : N ≤ 21) (HP : parseF l = scanF (23 - N) st (l.drop k)) (hq : lineF 0 (l.drop k) = .wait) : parseF l = .wait := by rw [HP, scan_wait hq]
theorem pf_bad {e : Int} (hN : N ≤ 21) (HP : parseF l = scanF (23 - N) st (l.drop k)) (hq : lineF 0 (l.drop k) = .bad e) : parseF l = .bad e := by
  rw [HP, show 23 - N = (22 - N) + 1 by omega, scan_bad hq]
theorem pf_headE (hN : N ≤ 21) (HP : parseF l = scanF (23 - N) st (l.drop k)) (hq : lineF 0 (l.drop k) = .got q) (hn : st.n = 0) (he : headE ((l.drop k).take q) ≠ 0) : parseF l = .bad (headE ((l.drop k).take q)) := by
  rw [HP, show 23 - N = (22 - N) + 1 by omega, scan_headE hq hn he]
theorem pf_head (HP : parseF l = scanF 23 st (l.drop k)) (hq : lineF 0 (l.drop k) = .got q) (hn : st.n = 0) (he : headE ((l.drop k).take q) = 0) : parseF l = scanF 22 ⟨1, headM ((l.drop k).take q), headP ((l.drop k).take q), false, 0, false, false⟩ (l.drop (k + q + 2)) := by
  rw [HP, show (23 : Nat) = 22 + 1 from rfl, scan_head hq hn he, drop_line]
theorem pf_end (hN : N ≤ 21) (HP : parseF l = scanF (23 - N) st (l.drop k)) (hq : lineF 0 (l.drop k) = .got 0) (hn : st.n ≠ 0) : parseF l = if (l.drop (k + 2)).length < st.len then .wait else .done st (l.drop (k + 2)) := by
  rw [HP, show 23 - N = (22 - N) + 1 by omega, scan_end hq hn, List.drop_drop]
theorem pf_stepE {E : Int} (hN : N ≤ 21) (HP : parseF l = scanF (23 - N) st (l.drop k)) (hq : lineF 0 (l.drop k) = .got q) (hn : st.n ≠ 0) (hz : q ≠ 0) (he : stepE st ((l.drop k).take q) = E) (hE : E ≠ 0) : parseF l = .bad E := by
  rw [HP, show 23 - N = (22 - N) + 1 by omega, scan_stepE hq hn hz (by rw [he]; exact hE), he]
theorem pf_step {st' : St} (hN : N ≤ 21) (HP : parseF l = scanF (23 - N) st (l.drop k)) (hq : lineF 0 (l.drop k) = .got q) (hn : st.n ≠ 0) (hz : q ≠ 0) (he : stepE st ((l.drop k).take q) = 0) (hs : stepS st ((l.drop k).take q) = st') : parseF l = scanF (23 - (N + 1)) st' (l.drop (k + q + 2)) := by
  rw [HP, show 23 - N = (22 - N) + 1 by omega, scan_step hq hn hz he, drop_line, hs, show 22 - N = 23 - (N + 1) by omega]
end
theorem trim_len (v : List UInt8) : (trimH v).length ≤ v.length := by
  unfold trimH Lib.trimS Lib.trimLeftS Lib.trimRightS
  refine Nat.le_trans (List.dropWhile_sublist _).length_le ?_
  rw [List.length_reverse]
  exact Nat.le_trans (List.dropWhile_sublist _).length_le (by rw [List.length_reverse]; exact Nat.le_refl _)
theorem field_vlen {s nm v : List UInt8} (h : fieldF s = some (nm, v)) : v.length ≤ s.length := by
  rw [fieldG_eq] at h
  unfold fieldG at h
  split at h
  · split at h
    · injection h with h
      injection h with _ h
      rw [← h]
      refine Nat.le_trans (trim_len _) ?_
      rw [List.length_drop]; omega
    · cases h
  · cases h
/-- What exref.NumberForm answers. -/
def formB (v : List UInt8) : Bool := match v with
  | 45 :: c :: r => mF (c :: r)
  | v => numF v
theorem form_all (v : List UInt8) (hv : v.length ≤ 1000000) (w : World) : Calls Tryz.prog 45 #[.string ⟨v.toArray⟩] w fun e w' => e = .returned (.bool (formB v)) ∧ Below w.heap.size w w' := by
  by_cases h : ∃ c r, v = 45 :: c :: r
  · obtain ⟨c, r, rfl⟩ := h
    exact form_minus c r (by simp at hv ⊢; omega) w
  · have e : formB v = numF v := by
      unfold formB
      split
      · rename_i c r; exact absurd ⟨c, r, rfl⟩ h
      · rfl
    rw [e]
    exact form_free v hv (fun ch r he => by
      by_cases h4 : ch = 45
      · right
        subst h4
        cases r with
        | nil => rfl
        | cons c r => exact absurd ⟨c, r, he⟩ h
      · exact .inl h4) w
theorem form_cases (v : List UInt8) : (formB v = false ∧ numF v = false) ∨ (formB v = true ∧ numF v = false ∧ ∃ b r, v = b :: r ∧ b.toNat = 45) ∨ (formB v = true ∧ numF v = true ∧ ∃ b r, v = b :: r ∧ b.toNat ≠ 45) := by
  by_cases h : ∃ c r, v = 45 :: c :: r
  · obtain ⟨c, r, rfl⟩ := h
    have hn : numF (45 :: c :: r) = false := by
      cases g : numF (45 :: c :: r) with
      | false => rfl
      | true => exact absurd ((numF_iff.1 g).2.1 45 (List.mem_cons_self ..)) (by decide)
    cases g : formB (45 :: c :: r) with
    | false => exact .inl ⟨rfl, hn⟩
    | true => exact .inr (.inl ⟨rfl, hn, 45, c :: r, rfl, rfl⟩)
  · have e : formB v = numF v := by
      unfold formB
      split
      · rename_i c r; exact absurd ⟨c, r, rfl⟩ h
      · rfl
    rw [e]
    cases g : numF v with
    | false => exact .inl ⟨rfl, rfl⟩
    | true =>
      refine .inr (.inr ⟨rfl, rfl, ?_⟩)
      cases v with
      | nil => cases g
      | cons b r =>
        refine ⟨b, r, rfl, fun e => ?_⟩
        have := (numF_iff.1 g).2.1 b (List.mem_cons_self ..)
        omega
theorem lenE_cases {v : List UInt8} (h : numF v = true) : (fitsN v = false ∧ lenE v = 8) ∨ (fitsN v = true ∧ valN 0 v = dv v ∧ 32768 < dv v ∧ lenE v = 8) ∨ (fitsN v = true ∧ valN 0 v = dv v ∧ dv v ≤ 32768 ∧ lenE v = 0) := by
  unfold lenE fitsN valN
  rw [if_pos h]
  by_cases h1 : dv v < 9223372036854775808
  · rw [if_pos h1, decide_eq_true h1]
    by_cases h2 : dv v ≤ 32768
    · rw [if_pos h2]; exact .inr (.inr ⟨rfl, rfl, h2, rfl⟩)
    · rw [if_neg h2]; exact .inr (.inl ⟨rfl, rfl, by omega, rfl⟩)
  · rw [if_neg h1, decide_eq_false h1, if_neg (by omega)]; exact .inl ⟨rfl, rfl⟩
theorem bs_far5 {W : World} {B n : Nat} {A : Option Addr} {c : Nat} {l : List UInt8} (T : BsN B W A c l) (h : n + 2 ≤ B) {v0 v1 v2 v3 v4 : Value} : Bs (((((W.setCell ⟨n + 1, 2, none⟩ v0).setCell ⟨n, 0, none⟩ v1).setCell ⟨n, 1, none⟩ v2).setCell ⟨n, 2, none⟩ v3).setCell ⟨n, 3, none⟩ v4) A c l := by
  have h0 : ∀ a, A = some a → n ≠ a.block := fun a ha => by have := T.2 a ha; omega
  have h1 : ∀ a, A = some a → n + 1 ≠ a.block := fun a ha => by have := T.2 a ha; omega
  exact ((((T.1.setFar _ _ h1).setFar _ _ h0).setFar _ _ h0).setFar _ _ h0).setFar _ _ h0
theorem SeenR.next {w : World} {xs : List (List UInt8)} {v' : Value} {W' : World} {nm : List UInt8} (h : W'.ownsRow (w.heap.size + 2) 9 1 v' (xs.length + 1) (strsV xs ++ [.string ⟨nm.toArray⟩])) : W'.ownsRow (w.heap.size + 2) 9 1 v' (xs ++ [nm]).length (strsV (xs ++ [nm])) := by
  rw [strsV_app, List.length_append, List.length_singleton]; exact h
end Go.Proofs.YtkaimfeiahogaaaGreatDoor
