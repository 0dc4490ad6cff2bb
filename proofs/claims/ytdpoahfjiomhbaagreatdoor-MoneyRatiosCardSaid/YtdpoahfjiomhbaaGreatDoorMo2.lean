/-
  The walk of the statement MoneyRatios: it returns true, whatever it is given.
-/
import Derived.Test.YtdpoahfjiomhbaaGreatDoorMo1
import Derived.Test.YtdpoahfjiomhbaaGreatDoorMc6
import Derived.Test.YtdpoahfjiomhbaaGreatDoorTp
namespace Go.Proofs.YtdpoahfjiomhbaaGreatDoor
set_option linter.all false
open Go.RowKit Go.Sort
attribute [local go_sem] cell_set_self lt_1 lt_2 lt_3 lt_4 lt_5 lt_6

theorem rhe_zero' (d : Int) (h : 0 < d) : rhe 0 d = 0 := by
  have := rheA_bd 0 d (by omega) h
  unfold rhe; rw [if_neg (by omega)]; omega
theorem rhZ_neg (a d : Int) (h : d ≠ 0) : rhZ (-a) (-d) = rhZ a d := by
  unfold rhZ
  by_cases hd : d < 0
  · rw [if_neg (by omega), if_pos hd]
  · rw [if_pos (by omega), if_neg hd]; simp
theorem rhe_mulS (u d : Int) (h : 0 < d) : rhe (u * d) d = u := by
  have key : ∀ s : Int, 0 ≤ s → rheA (s * d) d = s := fun s _ => by
    unfold rheA
    rw [Int.mul_emod_left, Int.mul_ediv_cancel _ (by omega), if_neg (by omega)]
  unfold rhe
  by_cases hu : u * d < 0
  · rw [if_pos hu]
    have : u < 0 := by
      rcases Int.lt_or_le u 0 with k | k
      · exact k
      · have := Int.mul_nonneg k (show 0 ≤ d by omega); omega
    rw [show -(u * d) = (-u) * d by rw [Int.neg_mul], key (-u) (by omega)]; omega
  · rw [if_neg hu]
    rcases Int.lt_or_le u 0 with k | k
    · have := Int.mul_neg_of_neg_of_pos k h; omega
    · exact key u k
theorem rhZ_self (u d : Int) (h : d ≠ 0) : rhZ (u * d) d = u := by
  unfold rhZ
  split
  · rw [show -(u * d) = u * -d by rw [Int.mul_neg]]; exact rhe_mulS u (-d) (by omega)
  · exact rhe_mulS u d (by omega)
theorem rhZ_mono (u v n d : Int) (hn : 0 ≤ n) (hd : 0 < d) (h : u ≤ v) : rhZ (u * n) d ≤ rhZ (v * n) d := by
  unfold rhZ
  rw [if_neg (by omega), if_neg (by omega)]
  exact rhe_mono _ _ _ hd (Int.mul_le_mul_of_nonneg_right h hn)
theorem ratE_0 {u : Int} {c : List UInt8} {n d : Int} (h : ratE u c n d = 0) : amE u c = 0 ∧ d ≠ 0 ∧ maE (rhZ (u * n) d) = 0 := by
  unfold ratE at h
  by_cases h1 : amE u c = 0
  · rw [if_pos h1] at h
    by_cases h2 : d = 0
    · rw [if_pos h2] at h; simp at h
    · rw [if_neg h2] at h; exact ⟨h1, h2, h⟩
  · rw [if_neg h1] at h; exact absurd h h1
theorem amR_form (e u : Int) (c : List UInt8) : ∃ (x : Int) (X : ByteArray), amR e u c = .tuple #[.agg #[.int .i64 x, .string X], .int .i64 e] ∧ (e = 0 → x = u ∧ X = ⟨c.toArray⟩) := ⟨_, _, rfl, fun h => by rw [if_pos h, if_pos h]; exact ⟨rfl, rfl⟩⟩
theorem neg_kind (n : Int) (h : In64 n) : n = 0 ∨ IntKind.i64.wrap (-n) = n ∨ (¬ n = 0 ∧ IntKind.i64.wrap (-n) = -n ∧ (n != -n) = true ∧ In64 (-n)) := by
  unfold In64 at h ⊢
  by_cases h0 : n = 0
  · exact .inl h0
  · by_cases h1 : n = -9223372036854775808
    · exact .inr (.inl (by rw [IntKind.wrap_i64, h1]; decide))
    · exact .inr (.inr ⟨h0, by rw [IntKind.wrap_i64]; omega, by rw [bne_iff_ne]; omega, by omega⟩)
set_option maxHeartbeats 16000000 in
set_option maxRecDepth 100000 in
theorem ratios_walk6 (u : Int) (c : List UInt8) (v : Int) (d : List UInt8) (n m : Int) (hu : In64 u) (hv : In64 v) (hn : In64 n) (hm : In64 m) (w : World) (E : Env w) :
    Calls Tryz.prog 6 #[.agg #[.int .i64 u, .string ⟨c.toArray⟩], .agg #[.int .i64 v, .string ⟨d.toArray⟩], .int .i64 n, .int .i64 m] w fun e w' => e = .returned (.bool true) ∧ Below w.heap.size w w' := by
  have F0 := Lib.hid (fun W (hb : Below w.heap.size w W) => first6_any W (E.below hb))
  clear E
  rcases cur_big c with ⟨_, hc⟩ | ⟨_, hc⟩
  · generalize (⟨c.toArray⟩ : ByteArray) = C at *
    generalize (⟨d.toArray⟩ : ByteArray) = D at *
    go_enter Tryz.func6, Tryz.ntmps6
    go_wp2_with (first | (go_at_call 18; refine (F0.out _ (by repeat (first | exact Below.refl _ _ | refine Below.setCell ?_ (by first | (simp; done) | (simp; omega) | omega) _ | refine Below.alloc ?_ (by first | (simp; done) | (simp; omega) | omega) _ | refine Below.drew ?_ | assumption | refine Below.trans ?_ (Below.mono (by assumption) (by first | (simp; done) | (simp; omega) | omega))))).mono ?_; rintro e w1 ⟨rfl, hb1⟩; obtain ⟨hc1, hf1⟩ := bcell hb1; have hs1 := hb1.size; (try simp at hs1); have hz1 : w.heap.size < w1.heap.size ∧ w.heap.size + 1 < w1.heap.size := by have := hb1.size; (try simp at this); omega))
    go_ret
    exact ⟨rfl, (by repeat (first | exact Below.refl _ _ | refine Below.setCell ?_ (by first | (simp; done) | (simp; omega) | omega) _ | refine Below.alloc ?_ (by first | (simp; done) | (simp; omega) | omega) _ | refine Below.drew ?_ | assumption | refine Below.trans ?_ (Below.mono (by assumption) (by first | (simp; done) | (simp; omega) | omega))))⟩
  rcases cur_big d with ⟨_, hd⟩ | ⟨_, hd⟩
  · generalize (⟨c.toArray⟩ : ByteArray) = C at *
    generalize (⟨d.toArray⟩ : ByteArray) = D at *
    go_enter Tryz.func6, Tryz.ntmps6
    go_wp2_with (first | (go_at_call 18; refine (F0.out _ (by repeat (first | exact Below.refl _ _ | refine Below.setCell ?_ (by first | (simp; done) | (simp; omega) | omega) _ | refine Below.alloc ?_ (by first | (simp; done) | (simp; omega) | omega) _ | refine Below.drew ?_ | assumption | refine Below.trans ?_ (Below.mono (by assumption) (by first | (simp; done) | (simp; omega) | omega))))).mono ?_; rintro e w1 ⟨rfl, hb1⟩; obtain ⟨hc1, hf1⟩ := bcell hb1; have hs1 := hb1.size; (try simp at hs1); have hz1 : w.heap.size < w1.heap.size ∧ w.heap.size + 1 < w1.heap.size := by have := hb1.size; (try simp at this); omega))
    go_ret
    exact ⟨rfl, (by repeat (first | exact Below.refl _ _ | refine Below.setCell ?_ (by first | (simp; done) | (simp; omega) | omega) _ | refine Below.alloc ?_ (by first | (simp; done) | (simp; omega) | omega) _ | refine Below.drew ?_ | assumption | refine Below.trans ?_ (Below.mono (by assumption) (by first | (simp; done) | (simp; omega) | omega))))⟩
  have NU := Lib.hid (fun n W => num_any n W)
  obtain ⟨B, hB⟩ : ∃ B : Bool, (n = 0 ∧ B = false) ∨ (IntKind.i64.wrap (-n) = n ∧ B = false) ∨ (¬ n = 0 ∧ IntKind.i64.wrap (-n) = -n ∧ (n != -n) = true ∧ ((m = 0 ∧ B = false) ∨ (IntKind.i64.wrap (-m) = m ∧ B = false) ∨ (¬ m = 0 ∧ IntKind.i64.wrap (-m) = -m ∧ (m != -m) = true ∧ B = true))) := by
    rcases neg_kind n hn with h | h | ⟨h1, h2, h3, _⟩
    · exact ⟨false, .inl ⟨h, rfl⟩⟩
    · exact ⟨false, .inr (.inl ⟨h, rfl⟩)⟩
    · rcases neg_kind m hm with k | k | ⟨k1, k2, k3, _⟩
      · exact ⟨false, .inr (.inr ⟨h1, h2, h3, .inl ⟨k, rfl⟩⟩)⟩
      · exact ⟨false, .inr (.inr ⟨h1, h2, h3, .inr (.inl ⟨k, rfl⟩)⟩)⟩
      · exact ⟨true, .inr (.inr ⟨h1, h2, h3, .inr (.inr ⟨k1, k2, k3, rfl⟩)⟩)⟩
  have WR : Hid (B = true → IntKind.i64.wrap (-n) = -n ∧ IntKind.i64.wrap (-m) = -m ∧ m ≠ 0 ∧ In64 (-n) ∧ In64 (-m)) := Lib.hid (by
    intro hT
    rcases hB with ⟨_, h⟩ | ⟨_, h⟩ | ⟨h1, h2, _, ⟨_, h⟩ | ⟨_, h⟩ | ⟨h3, h4, _, _⟩⟩
    · rw [h] at hT; cases hT
    · rw [h] at hT; cases hT
    · rw [h] at hT; cases hT
    · rw [h] at hT; cases hT
    · rw [IntKind.wrap_i64] at h2 h4
      unfold In64 at *
      exact ⟨by rw [IntKind.wrap_i64]; omega, by rw [IntKind.wrap_i64]; omega, h3, by omega, by omega⟩)
  obtain ⟨x, X, hX, hX0⟩ := amR_form (ratE u c n m) (rhZ (u * n) m) c
  obtain ⟨z, ZZ, hZ, hZ0⟩ := amR_form (ratE v d n m) (rhZ (v * n) m) d
  obtain ⟨o, O, hO, hO0⟩ := amR_form (ratE u c m m) (rhZ (u * m) m) c
  obtain ⟨a, AA, hA, hA0⟩ := amR_form (amE u c) u c
  have RA : Hid (∀ W, Calls Tryz.prog 34 #[.agg #[.int .i64 u, .string ⟨c.toArray⟩], .int .i64 n, .int .i64 m] W fun e w' => e = .returned (.tuple #[.agg #[.int .i64 x, .string X], .int .i64 (ratE u c n m)]) ∧ Below W.heap.size W w') := Lib.hid fun W => by rw [← hX]; exact ratio_any u c n m hn hm W
  have RN : Hid (B = true → ∀ W, Calls Tryz.prog 34 #[.agg #[.int .i64 u, .string ⟨c.toArray⟩], .int .i64 (-n), .int .i64 (-m)] W fun e w' => e = .returned (.tuple #[.agg #[.int .i64 x, .string X], .int .i64 (ratE u c n m)]) ∧ Below W.heap.size W w') := Lib.hid fun hT W => by
    obtain ⟨_, _, h3, h4, h5⟩ := WR.out hT
    have h := ratio_any u c (-n) (-m) h4 h5 W
    have e1 : rhZ (u * -n) (-m) = rhZ (u * n) m := by rw [Int.mul_neg]; exact rhZ_neg _ _ h3
    have e2 : ratE u c (-n) (-m) = ratE u c n m := by unfold ratE; rw [e1, if_neg (show ¬ -m = 0 by omega), if_neg h3]
    rw [e1, e2, hX] at h; exact h
  have RD : Hid (∀ W, Calls Tryz.prog 34 #[.agg #[.int .i64 u, .string ⟨c.toArray⟩], .int .i64 m, .int .i64 m] W fun e w' => e = .returned (.tuple #[.agg #[.int .i64 o, .string O], .int .i64 (ratE u c m m)]) ∧ Below W.heap.size W w') := Lib.hid fun W => by rw [← hO]; exact ratio_any u c m m hm hm W
  have RB : Hid (∀ W, Calls Tryz.prog 34 #[.agg #[.int .i64 v, .string ⟨d.toArray⟩], .int .i64 n, .int .i64 m] W fun e w' => e = .returned (.tuple #[.agg #[.int .i64 z, .string ZZ], .int .i64 (ratE v d n m)]) ∧ Below W.heap.size W w') := Lib.hid fun W => by rw [← hZ]; exact ratio_any v d n m hn hm W
  have NW : Hid (∀ W, Calls Tryz.prog 28 #[.int .i64 u, .string ⟨c.toArray⟩] W fun e w' => e = .returned (.tuple #[.agg #[.int .i64 a, .string AA], .int .i64 (amE u c)]) ∧ Below W.heap.size W w') := Lib.hid fun W => by rw [← hA]; exact new_any u c W
  -- what the tests come to
  have hmid : (m = 0) ∨ (¬ m = 0 ∧ ¬ amE u c = 0) ∨ (¬ m = 0 ∧ amE u c = 0 ∧ ratE u c m m = 0 ∧ o = a ∧ O = AA) := by
    by_cases h0 : m = 0
    · exact .inl h0
    · by_cases h1 : amE u c = 0
      · right; right
        have e1 := rhZ_self u m h0
        have e2 : ratE u c m m = 0 := by unfold ratE; rw [if_pos h1, if_neg h0, e1]; unfold maE; rw [amE_in h1]; rfl
        obtain ⟨o1, o2⟩ := hO0 e2
        obtain ⟨a1, a2⟩ := hA0 h1
        exact ⟨h0, h1, e2, by rw [o1, a1, e1], by rw [o2, a2]⟩
      · exact .inr (.inl ⟨h0, h1⟩)
  have hend : (¬ ratE u c n m = 0) ∨ (ratE u c n m = 0 ∧ ¬ ratE v d n m = 0) ∨ (ratE u c n m = 0 ∧ ratE v d n m = 0 ∧ decide (c = d) = false) ∨ (ratE u c n m = 0 ∧ ratE v d n m = 0 ∧ decide (c = d) = true ∧ n < 0) ∨ (ratE u c n m = 0 ∧ ratE v d n m = 0 ∧ decide (c = d) = true ∧ ¬ n < 0 ∧ m < 0) ∨ (ratE u c n m = 0 ∧ ratE v d n m = 0 ∧ decide (c = d) = true ∧ ¬ n < 0 ∧ ¬ m < 0 ∧ v < u) ∨ (ratE u c n m = 0 ∧ ratE v d n m = 0 ∧ decide (c = d) = true ∧ ¬ n < 0 ∧ ¬ m < 0 ∧ ¬ v < u ∧ x ≤ z) := by
    by_cases h1 : ratE u c n m = 0
    · by_cases h2 : ratE v d n m = 0
      · by_cases h3 : c = d
        · by_cases h4 : n < 0
          · exact .inr (.inr (.inr (.inl ⟨h1, h2, decide_eq_true h3, h4⟩)))
          · by_cases h5 : m < 0
            · exact .inr (.inr (.inr (.inr (.inl ⟨h1, h2, decide_eq_true h3, h4, h5⟩))))
            · by_cases h6 : v < u
              · exact .inr (.inr (.inr (.inr (.inr (.inl ⟨h1, h2, decide_eq_true h3, h4, h5, h6⟩)))))
              · obtain ⟨_, m0, _⟩ := ratE_0 h1
                exact .inr (.inr (.inr (.inr (.inr (.inr ⟨h1, h2, decide_eq_true h3, h4, h5, h6, by rw [(hX0 h1).1, (hZ0 h2).1]; exact rhZ_mono u v n m (by omega) (by omega) (by omega)⟩)))))
        · exact .inr (.inr (.inl ⟨h1, h2, decide_eq_false h3⟩))
      · exact .inr (.inl ⟨h1, h2⟩)
    · exact .inl h1
  have hcd := str_beq c d
  clear hX hX0 hZ hZ0 hO hO0 hA hA0
  generalize (⟨c.toArray⟩ : ByteArray) = C at *
  generalize (⟨d.toArray⟩ : ByteArray) = D at *
  generalize ratE u c n m = e1 at *
  generalize ratE v d n m = e2 at *
  generalize ratE u c m m = e3 at *
  generalize amE u c = e4 at *
  generalize decide (c = d) = cd at *
  have HB := Lib.hid hB
  have HMID := Lib.hid hmid
  have HEND := Lib.hid hend
  clear hB hmid hend
  unfold In64 at hn hm hu hv
  go_enter Tryz.func6, Tryz.ntmps6
  go_upto_region 5 with (first | (go_at_call 18; refine (F0.out _ (by repeat (first | exact Below.refl _ _ | refine Below.setCell ?_ (by first | (simp; done) | (simp; omega) | omega) _ | refine Below.alloc ?_ (by first | (simp; done) | (simp; omega) | omega) _ | refine Below.drew ?_ | assumption | refine Below.trans ?_ (Below.mono (by assumption) (by first | (simp; done) | (simp; omega) | omega))))).mono ?_; rintro e w1 ⟨rfl, hb1⟩; obtain ⟨hc1, hf1⟩ := bcell hb1; have hs1 := hb1.size; (try simp at hs1); have hz1 : w.heap.size < w1.heap.size ∧ w.heap.size + 1 < w1.heap.size := by have := hb1.size; (try simp at this); omega) | (go_at_call 34; (with_reducible refine (RA.out _).mono ?_); rintro e w2 ⟨rfl, hb2⟩; obtain ⟨hc2, hf2⟩ := bcell hb2; have hs2 := hb2.size; (try simp at hs2); have hz2 : w.heap.size < w2.heap.size ∧ w.heap.size < w2.heap.size + 1 ∧ w.heap.size + 1 < w2.heap.size ∧ w.heap.size + 1 < w2.heap.size + 1 := (by omega)))
  go_cut [52] from 43 to 51 (fun b wc => b = .bool B ∧ (wc.cell? ⟨w.heap.size, 0, none⟩ = some (.int .i64 u) ∧ wc.cell? ⟨w.heap.size, 1, none⟩ = some (.string C)) ∧ (wc.cell? ⟨w.heap.size + 1, 0, none⟩ = some (.int .i64 v) ∧ wc.cell? ⟨w.heap.size + 1, 1, none⟩ = some (.string D)) ∧ (wc.cell? ⟨w2.heap.size, 0, none⟩ = some (.int .i64 x) ∧ wc.cell? ⟨w2.heap.size, 1, none⟩ = some (.string X)) ∧ w.heap.size < wc.heap.size ∧ w.heap.size + 1 < wc.heap.size ∧ w2.heap.size < wc.heap.size ∧ Below w.heap.size w wc)
  case first =>
    rcases HB.out with ⟨rfl, rfl⟩ | ⟨k2, rfl⟩ | ⟨k1, k2, k3, ⟨rfl, rfl⟩ | ⟨k5, rfl⟩ | ⟨k4, k5, k6, rfl⟩⟩
    all_goals (go_wp2_with (fail); go_meet; exact ⟨rfl, (by refine ⟨?_, ?_⟩ <;> (simp [go_sem, *]; done)), (by refine ⟨?_, ?_⟩ <;> (simp [go_sem, *]; done)), (by refine ⟨?_, ?_⟩ <;> (simp [go_sem, *]; done)), (by first | (simp; done) | (simp; omega) | omega), (by first | (simp; done) | (simp; omega) | omega), (by first | (simp; done) | (simp; omega) | omega), (by repeat (first | exact Below.refl _ _ | refine Below.setCell ?_ (by first | (simp; done) | (simp; omega) | omega) _ | refine Below.alloc ?_ (by first | (simp; done) | (simp; omega) | omega) _ | refine Below.drew ?_ | assumption | refine Below.trans ?_ (Below.mono (by assumption) (by first | (simp; done) | (simp; omega) | omega))))⟩)
  case rest =>
  obtain ⟨rfl, ⟨q1, q2⟩, ⟨q3, q4⟩, ⟨q5, q6⟩, q7, q8, q9, qB⟩ := hcut
  go_upto_if 52 with (fail)
  go_cut [] from 53 to 69 (fun wd => (wd.cell? ⟨w.heap.size, 0, none⟩ = some (.int .i64 u) ∧ wd.cell? ⟨w.heap.size, 1, none⟩ = some (.string C)) ∧ (wd.cell? ⟨w.heap.size + 1, 0, none⟩ = some (.int .i64 v) ∧ wd.cell? ⟨w.heap.size + 1, 1, none⟩ = some (.string D)) ∧ (wd.cell? ⟨w2.heap.size, 0, none⟩ = some (.int .i64 x) ∧ wd.cell? ⟨w2.heap.size, 1, none⟩ = some (.string X)) ∧ w.heap.size < wd.heap.size ∧ w.heap.size + 1 < wd.heap.size ∧ w2.heap.size < wd.heap.size ∧ Below w.heap.size w wd)
  case first =>
    cases B
    · go_wp2_with (fail)
      go_meet
      exact ⟨(by refine ⟨?_, ?_⟩ <;> (simp [go_sem, *]; done)), (by refine ⟨?_, ?_⟩ <;> (simp [go_sem, *]; done)), (by refine ⟨?_, ?_⟩ <;> (simp [go_sem, *]; done)), (by first | (simp; done) | (simp; omega) | omega), (by first | (simp; done) | (simp; omega) | omega), (by first | (simp; done) | (simp; omega) | omega), (by repeat (first | exact Below.refl _ _ | refine Below.setCell ?_ (by first | (simp; done) | (simp; omega) | omega) _ | refine Below.alloc ?_ (by first | (simp; done) | (simp; omega) | omega) _ | refine Below.drew ?_ | assumption | refine Below.trans ?_ (Below.mono (by assumption) (by first | (simp; done) | (simp; omega) | omega))))⟩
    · have hT : true = true := rfl
      obtain ⟨k2, k5, _, _, _⟩ := WR.out rfl
      clear hT
      have RN' := Lib.hid (RN.out rfl)
      go_wp2_with (first | (go_at_call 34; (with_reducible refine (RN'.out _).mono ?_); rintro e w3 ⟨rfl, hb3⟩; obtain ⟨hc3, hf3⟩ := bcell hb3; have hs3 := hb3.size; (try simp at hs3); have hz3 : w.heap.size < w3.heap.size ∧ w.heap.size < w3.heap.size + 1 ∧ w.heap.size + 1 < w3.heap.size ∧ w.heap.size + 1 < w3.heap.size + 1 ∧ w2.heap.size < w3.heap.size ∧ w2.heap.size < w3.heap.size + 1 := (by omega)))
      go_meet
      exact ⟨(by refine ⟨?_, ?_⟩ <;> (simp [go_sem, *]; done)), (by refine ⟨?_, ?_⟩ <;> (simp [go_sem, *]; done)), (by refine ⟨?_, ?_⟩ <;> (simp [go_sem, *]; done)), (by first | (simp; done) | (simp; omega) | omega), (by first | (simp; done) | (simp; omega) | omega), (by first | (simp; done) | (simp; omega) | omega), (by repeat (first | exact Below.refl _ _ | refine Below.setCell ?_ (by first | (simp; done) | (simp; omega) | omega) _ | refine Below.alloc ?_ (by first | (simp; done) | (simp; omega) | omega) _ | refine Below.drew ?_ | assumption | refine Below.trans ?_ (Below.mono (by assumption) (by first | (simp; done) | (simp; omega) | omega))))⟩
  case rest =>
  obtain ⟨⟨r1, r2⟩, ⟨r3, r4⟩, ⟨r5, r6⟩, r7, r8, r9, rB⟩ := hcut
  clear q1 q2 q3 q4 q5 q6 q7 q8 q9 qB
  have hcd' := hcd
  rcases HMID.out with rfl | ⟨m1, m2⟩ | ⟨m1, rfl, rfl, rfl, rfl⟩
  all_goals (
    (try have m3 : (m != 0) = true := bne_iff_ne.2 m1)
    (try have m4 : (e4 == 0) = false := beq_eq_false_iff_ne.2 m2)
    rcases HEND.out with h1 | ⟨rfl, h2⟩ | ⟨rfl, rfl, rfl⟩ | ⟨rfl, rfl, rfl, h4⟩ | ⟨rfl, rfl, rfl, h4, h5⟩ | ⟨rfl, rfl, rfl, h4, h5, h6⟩ | ⟨rfl, rfl, rfl, h4, h5, h6, h7⟩
    all_goals (
      (try have h1' : (e1 != 0) = true := bne_iff_ne.2 h1)
      (try have h2' : (e2 != 0) = true := bne_iff_ne.2 h2)
      first
        | (exfalso; omega)
        | (clear HMID HEND HB WR RA RN
           go_wp2_with (first | (go_at_call 34; (with_reducible refine (RD.out _).mono ?_); rintro e w4 ⟨rfl, hb4⟩; obtain ⟨hc4, hf4⟩ := bcell hb4; have hs4 := hb4.size; (try simp at hs4); have hz4 : w.heap.size < w4.heap.size ∧ w.heap.size < w4.heap.size + 1 ∧ w.heap.size + 1 < w4.heap.size ∧ w.heap.size + 1 < w4.heap.size + 1 ∧ w2.heap.size < w4.heap.size ∧ w2.heap.size < w4.heap.size + 1 := (by omega)) | (go_at_call 28; (with_reducible refine (NW.out _).mono ?_); rintro e w5 ⟨rfl, hb5⟩; obtain ⟨hc5, hf5⟩ := bcell hb5; have hs5 := hb5.size; (try simp at hs5); have hz5 : w.heap.size < w5.heap.size ∧ w.heap.size < w5.heap.size + 1 ∧ w.heap.size + 1 < w5.heap.size ∧ w.heap.size + 1 < w5.heap.size + 1 ∧ w2.heap.size < w5.heap.size ∧ w2.heap.size < w5.heap.size + 1 ∧ w4.heap.size < w5.heap.size ∧ w4.heap.size < w5.heap.size + 1 := (by omega)) | (go_at_call 34; (with_reducible refine (RB.out _).mono ?_); rintro e w6 ⟨rfl, hb6⟩; obtain ⟨hc6, hf6⟩ := bcell hb6; have hs6 := hb6.size; (try simp at hs6); have hz6 : w.heap.size < w6.heap.size ∧ w.heap.size < w6.heap.size + 1 ∧ w.heap.size + 1 < w6.heap.size ∧ w.heap.size + 1 < w6.heap.size + 1 ∧ w2.heap.size < w6.heap.size ∧ w2.heap.size < w6.heap.size + 1 := (by omega)) | (go_at_call 17; (with_reducible refine (NU.out _ _).mono ?_); rintro e w7 ⟨rfl, hb7⟩; obtain ⟨hc7, hf7⟩ := bcell hb7; have hs7 := hb7.size; (try simp at hs7); have hz7 : w.heap.size < w7.heap.size ∧ w.heap.size + 1 < w7.heap.size ∧ w2.heap.size < w7.heap.size ∧ w4.heap.size < w7.heap.size ∧ w5.heap.size < w7.heap.size ∧ w6.heap.size < w7.heap.size := (by omega)) | (go_at_call 17; (with_reducible refine (NU.out _ _).mono ?_); rintro e w7 ⟨rfl, hb7⟩; obtain ⟨hc7, hf7⟩ := bcell hb7; have hs7 := hb7.size; (try simp at hs7); have hz7 : w.heap.size < w7.heap.size ∧ w.heap.size + 1 < w7.heap.size ∧ w2.heap.size < w7.heap.size ∧ w4.heap.size < w7.heap.size ∧ w5.heap.size < w7.heap.size := (by omega)))
           go_ret
           exact ⟨rfl, (by repeat (first | exact Below.refl _ _ | refine Below.setCell ?_ (by first | (simp; done) | (simp; omega) | omega) _ | refine Below.alloc ?_ (by first | (simp; done) | (simp; omega) | omega) _ | refine Below.drew ?_ | assumption | refine Below.trans ?_ (Below.mono (by assumption) (by first | (simp; done) | (simp; omega) | omega))))⟩)))
end Go.Proofs.YtdpoahfjiomhbaaGreatDoor
