/-
  Contract of keys.Compare.
-/
import Derived.Test.YtjccadfaiahkkaaDoorKj
namespace Go.Proofs.YtjccadfaiahkkaaDoor
set_option linter.all false
open Go.RowKit
theorem alloc_drewN (w : World) (n : Nat) (o : Obj) : (w.drewN n).alloc o = (w.alloc o).drewN n := rfl
theorem setCell_drewN (w : World) (n : Nat) (a : Addr) (v : Value) : (w.drewN n).setCell a v = (w.setCell a v).drewN n := rfl
attribute [local go_sem] cell_set_self lt_1 lt_2 lt_3 lt_4 lt_5 lt_6 alloc_drewN setCell_drewN

theorem cmpL_drop {l m : List Part} {k : Nat} {p q : Part} (hp : l[k]? = some p) (hq : m[k]? = some q) : cmpL (l.drop k) (m.drop k) = if cmpP p q ≠ 0 then cmpP p q else cmpL (l.drop (k + 1)) (m.drop (k + 1)) := by
  obtain ⟨h1, rfl⟩ := List.getElem?_eq_some_iff.1 hp
  obtain ⟨h2, rfl⟩ := List.getElem?_eq_some_iff.1 hq
  rw [List.drop_eq_getElem_cons h1, List.drop_eq_getElem_cons h2, cmpL]
theorem cmpL_nils {l m : List Part} (h : l = [] ∨ m = []) : cmpL l m = Lib.compareInt l.length m.length := by
  rcases h with rfl | rfl
  · cases m with
    | nil => rfl
    | cons q m => rw [ci_lt (by simp <;> omega)]; rfl
  · cases l with
    | nil => rfl
    | cons q m => rw [ci_gt (by simp <;> omega)]; rfl
theorem cmpL_end {l m : List Part} {k : Nat} (h1 : k ≤ l.length) (h2 : k ≤ m.length) (h : l.length ≤ k ∨ m.length ≤ k) : cmpL (l.drop k) (m.drop k) = Lib.compareInt l.length m.length := by
  rw [cmpL_nils (by rcases h with h | h; exact .inl (List.drop_of_length_le h); exact .inr (List.drop_of_length_le h))]
  rw [List.length_drop, List.length_drop]
  rcases ci_three l.length m.length with ⟨a, e⟩ | ⟨a, e⟩ | ⟨a, e⟩
  · rw [e, ci_lt (by omega)]
  · rw [e, ci_eq (by omega)]
  · rw [e, ci_gt (by omega)]

theorem ret_int {k : IntKind} {a b : Int} (h : a = b) : Ending.returned (.int k b) = .returned (.int k a) := by rw [h]
def CmpRel (w wr : World) (l m : List Part) (k : Nat) : Prop :=
  k ≤ l.length ∧ k ≤ m.length ∧ cmpL (l.drop k) (m.drop k) = cmpL l m ∧ wr.heap[w.heap.size]? = some (.map kindsE 2) ∧ Below w.heap.size w wr ∧ w.heap.size < wr.heap.size
set_option maxHeartbeats 1000000 in
set_option maxRecDepth 100000 in
theorem compare_any (A B : Option Addr) (n c m d : Nat) (l l' : List Part) (hl : l.length = n) (hm : l'.length = m) (hn : n ≤ 1000000) (hmn : m ≤ 1000000) (w : World) (T : Parts w A l) (U : Parts w B l') :
    Calls Tryd.prog 11 #[.slice A n c, .slice B m d] w fun e w' => e = .returned (.int .i64 (cmpL l l')) ∧ Below w.heap.size w w' := by
  have HL := Lib.hid hl
  have HM := Lib.hid hm
  have KI := Lib.hid (fun W => kinds_any W)
  have CI := Lib.hid (fun x y W => Tryd.cmp_Compare_int x y W)
  clear hl hm
  have HT := Lib.hid (fun W (hb : Below w.heap.size w W) => T.below hb)
  have HU := Lib.hid (fun W (hb : Below w.heap.size w W) => U.below hb)
  clear T U
  obtain ⟨r, hr1, hr2, hr3, hr4⟩ : ∃ r : Nat, min (n : Int) (m : Int) = (r : Int) ∧ r ≤ n ∧ r ≤ m ∧ (n ≤ r ∨ m ≤ r) := ⟨min n m, by omega, Nat.min_le_left _ _, Nat.min_le_right _ _, by omega⟩
  go_enter Tryd.func11, Tryd.ntmps11
  go_wp2_with (first | (go_at_call 21; refine (KI.out _).mono ?_; rintro e w' ⟨rfl, rfl⟩))
  clear hr1
  go_loopw [17] (fun i wr => ∃ k : Nat, i = .int .i64 k ∧ CmpRel w wr l l' k) (fun i _ => r - (intOf i).toNat)
  case atStart =>
    refine ⟨0, rfl, Nat.zero_le _, Nat.zero_le _, rfl, heap_alloc_new _ _, (by repeat (first | exact Below.refl _ _ | refine Below.setCell ?_ (by first | (simp; done) | (simp; omega) | omega) _ | refine Below.alloc ?_ (by first | (simp; done) | (simp; omega) | omega) _ | refine Below.drew ?_ | assumption | refine Below.trans ?_ (Below.mono (by assumption) (by first | (simp; done) | (simp; omega) | omega)))), by simp⟩
  case round =>
    obtain ⟨k, rfl, hk1, hk2, hcm, hmap, hbl, hz⟩ := hrel
    have HC := Lib.hid hcm
    clear hcm
    obtain ⟨wo, rfl⟩ : ∃ wo : World, wo = wr := ⟨_, rfl⟩
    by_cases hlt : k < r
    · have hlt' : (k : Int) < r := by omega
      have hln := HL.out
      have hlm := HM.out
      have hkn : (k : Int) < n := by omega
      have hkm : (k : Int) < m := by omega
      obtain ⟨p, hp⟩ : ∃ p, l[k]? = some p := ⟨l[k]'(by omega), by simp⟩
      obtain ⟨q, hq⟩ : ∃ q, l'[k]? = some q := ⟨l'[k]'(by omega), by simp⟩
      have HD := Lib.hid (cmpL_drop hp hq)
      obtain ⟨b, off, rfl, hbw, c0, c1, c2⟩ := HT.out wo hbl k p hp
      obtain ⟨b', off', rfl, hbw', e0, e1, e2⟩ := HU.out wo hbl k q hq
      clear hp hq hln hlm
      by_cases hkk : p.k = q.k
      · rw [← hkk] at e0
        have h3 : p.k = 1 ∨ p.k = 2 ∨ (p.k ≠ 1 ∧ p.k ≠ 2) := by omega
        have hci : ∀ x, Lib.compareInt x x = 0 := fun x => ci_eq rfl
        rcases h3 with k1 | k1 | ⟨k1, k2⟩
        · rw [k1] at c0 e0
          have lk : ∀ a, (Instr.lookup 50 (.map (some w.heap.size)) (.int .i64 1) true).run Tryd.prog (wo.drewN a) = .ok (.tuple #[kindI, .bool true]) (wo.drewN a) := fun a => look_1 (wo.drewN a) w.heap.size hmap
          unfold kindI at lk
          have hcp : cmpP p q = Lib.compareInt p.n q.n := by unfold cmpP; rw [← hkk, k1]; simp [ci_eq]
          have CF : Hid (∀ W, Calls Tryd.prog 29 #[.agg #[.int .i64 1, .int .i64 p.n, .string ⟨p.s.toArray⟩], .agg #[.int .i64 1, .int .i64 q.n, .string ⟨q.s.toArray⟩]] W fun e w' => e = .returned (.int .i64 (Lib.compareInt p.n q.n)) ∧ Below W.heap.size W w') := Lib.hid fun W => compareInt_any _ _ _ _ _ _ W
          obtain ⟨v, hv⟩ : ∃ v, Lib.compareInt p.n q.n = v := ⟨_, rfl⟩
          rw [hv] at hcp CF
          clear hv
          have HV := Lib.hid hcp
          clear hcp
          by_cases hv : v = 0
          · subst hv
            go_wp2
            go_quiet ((go_at_call 26; exact Calls.quiet_of_same (CI.out _ _ _)))
            go_wp2
            go_region_held3 (fun w' => w'.cell? ⟨wo.heap.size, 2, none⟩ = some (.func (.func 29) #[] #[]) ∧ w'.cell? ⟨b, off + k * 3, none⟩ = some (.int .i64 1) ∧ w'.cell? ⟨b, off + k * 3 + 1, none⟩ = some (.int .i64 p.n) ∧ w'.cell? ⟨b, off + k * 3 + 2, none⟩ = some (.string ⟨p.s.toArray⟩) ∧ w'.cell? ⟨b', off' + k * 3, none⟩ = some (.int .i64 1) ∧ w'.cell? ⟨b', off' + k * 3 + 1, none⟩ = some (.int .i64 q.n) ∧ w'.cell? ⟨b', off' + k * 3 + 2, none⟩ = some (.string ⟨q.s.toArray⟩) ∧ wo.heap.size < w'.heap.size ∧ b < w'.heap.size ∧ b' < w'.heap.size ∧ Below w.heap.size w w')
      (first | (refine ⟨?_, ?_, ?_, ?_, ?_, ?_, ?_, ?_, ?_, ?_, ?_⟩ <;> first | (simp [go_sem, *]; done) | omega | (simp; omega) | exact (by repeat (first | exact Below.refl _ _ | refine Below.setCell ?_ (by first | (simp; done) | (simp; omega) | omega) _ | refine Below.alloc ?_ (by first | (simp; done) | (simp; omega) | omega) _ | refine below_drewN ?_ _ | refine Below.drew ?_ | assumption | refine Below.trans ?_ (Below.mono (by assumption) (by first | (simp; done) | (simp; omega) | omega))))))
      (first | (first | (go_at_call 29; refine (CF.out _).mono ?_; rintro e w5 ⟨rfl, hb5⟩; obtain ⟨hc5, hf5⟩ := bcell hb5; (try simp only [drew_size, drew_cell, drew_frozen] at hc5 hf5); have hs5 := hb5.size; (try simp at hs5); have hz5 : wo.heap.size < w5.heap.size ∧ b < w5.heap.size ∧ b' < w5.heap.size := (by have := hb5.size; (try simp at this); omega); have m5 : w5.heap[w.heap.size]? = some (.map kindsE 2) := (hb5.block w.heap.size (by simp; omega)).trans ((Below.heap_alloc wo _ _ (by omega)).trans hmap); have bw5 : Below w.heap.size w w5 := Below.trans (b := wo.alloc (.cells #[.func (.func 27) #[] #[], .func (.func 28) #[] #[], .func (.func 29) #[] #[]] 60)) (hbl.alloc hbl.size _) ⟨hb5.os, hb5.tape, hb5.output, hb5.size, fun i h => hb5.block i (by simp; omega)⟩)))
            all_goals go_wp2
            all_goals go_roundw
            all_goals first
              | exact ⟨k + 1, by go_num, by have := HL.out; omega, by have := HM.out; omega, by rw [← HC.out, HD.out, HV.out]; simp, m5, bw5, by omega⟩
              | (simp [intOf]; omega)
          · have hv' : (v != 0) = true := by simpa using hv
            go_wp2
            go_quiet ((go_at_call 26; exact Calls.quiet_of_same (CI.out _ _ _)))
            go_wp2
            go_region_held3 (fun w' => w'.cell? ⟨wo.heap.size, 2, none⟩ = some (.func (.func 29) #[] #[]) ∧ w'.cell? ⟨b, off + k * 3, none⟩ = some (.int .i64 1) ∧ w'.cell? ⟨b, off + k * 3 + 1, none⟩ = some (.int .i64 p.n) ∧ w'.cell? ⟨b, off + k * 3 + 2, none⟩ = some (.string ⟨p.s.toArray⟩) ∧ w'.cell? ⟨b', off' + k * 3, none⟩ = some (.int .i64 1) ∧ w'.cell? ⟨b', off' + k * 3 + 1, none⟩ = some (.int .i64 q.n) ∧ w'.cell? ⟨b', off' + k * 3 + 2, none⟩ = some (.string ⟨q.s.toArray⟩) ∧ wo.heap.size < w'.heap.size ∧ b < w'.heap.size ∧ b' < w'.heap.size ∧ Below w.heap.size w w')
      (first | (refine ⟨?_, ?_, ?_, ?_, ?_, ?_, ?_, ?_, ?_, ?_, ?_⟩ <;> first | (simp [go_sem, *]; done) | omega | (simp; omega) | exact (by repeat (first | exact Below.refl _ _ | refine Below.setCell ?_ (by first | (simp; done) | (simp; omega) | omega) _ | refine Below.alloc ?_ (by first | (simp; done) | (simp; omega) | omega) _ | refine below_drewN ?_ _ | refine Below.drew ?_ | assumption | refine Below.trans ?_ (Below.mono (by assumption) (by first | (simp; done) | (simp; omega) | omega))))))
      (first | (first | (go_at_call 29; refine (CF.out _).mono ?_; rintro e w5 ⟨rfl, hb5⟩; obtain ⟨hc5, hf5⟩ := bcell hb5; (try simp only [drew_size, drew_cell, drew_frozen] at hc5 hf5); have hs5 := hb5.size; (try simp at hs5); have hz5 : wo.heap.size < w5.heap.size ∧ b < w5.heap.size ∧ b' < w5.heap.size := (by have := hb5.size; (try simp at this); omega); have m5 : w5.heap[w.heap.size]? = some (.map kindsE 2) := (hb5.block w.heap.size (by simp; omega)).trans ((Below.heap_alloc wo _ _ (by omega)).trans hmap); have bw5 : Below w.heap.size w w5 := Below.trans (b := wo.alloc (.cells #[.func (.func 27) #[] #[], .func (.func 28) #[] #[], .func (.func 29) #[] #[]] 60)) (hbl.alloc hbl.size _) ⟨hb5.os, hb5.tape, hb5.output, hb5.size, fun i h => hb5.block i (by simp; omega)⟩)))
            all_goals go_wp2
            all_goals go_ret
            all_goals exact ⟨ret_int (by rw [← HC.out, HD.out, HV.out, if_pos hv]), bw5⟩
  
        · rw [k1] at c0 e0
          have lk : ∀ a, (Instr.lookup 50 (.map (some w.heap.size)) (.int .i64 2) true).run Tryd.prog (wo.drewN a) = .ok (.tuple #[kindT, .bool true]) (wo.drewN a) := fun a => look_2 (wo.drewN a) w.heap.size hmap
          unfold kindT at lk
          have hcp : cmpP p q = Lib.compareBytes p.s q.s := by unfold cmpP; rw [← hkk, k1]; simp [ci_eq]
          have CF : Hid (∀ W, Calls Tryd.prog 33 #[.agg #[.int .i64 2, .int .i64 p.n, .string ⟨p.s.toArray⟩], .agg #[.int .i64 2, .int .i64 q.n, .string ⟨q.s.toArray⟩]] W fun e w' => e = .returned (.int .i64 (Lib.compareBytes p.s q.s)) ∧ Below W.heap.size W w') := Lib.hid fun W => by have h := compareText_any 2 p.n 2 q.n ⟨p.s.toArray⟩ ⟨q.s.toArray⟩ W; simpa using h
          obtain ⟨v, hv⟩ : ∃ v, Lib.compareBytes p.s q.s = v := ⟨_, rfl⟩
          rw [hv] at hcp CF
          clear hv
          have HV := Lib.hid hcp
          clear hcp
          by_cases hv : v = 0
          · subst hv
            go_wp2
            go_quiet ((go_at_call 26; exact Calls.quiet_of_same (CI.out _ _ _)))
            go_wp2
            go_region_held3 (fun w' => w'.cell? ⟨wo.heap.size, 2, none⟩ = some (.func (.func 33) #[] #[]) ∧ w'.cell? ⟨b, off + k * 3, none⟩ = some (.int .i64 2) ∧ w'.cell? ⟨b, off + k * 3 + 1, none⟩ = some (.int .i64 p.n) ∧ w'.cell? ⟨b, off + k * 3 + 2, none⟩ = some (.string ⟨p.s.toArray⟩) ∧ w'.cell? ⟨b', off' + k * 3, none⟩ = some (.int .i64 2) ∧ w'.cell? ⟨b', off' + k * 3 + 1, none⟩ = some (.int .i64 q.n) ∧ w'.cell? ⟨b', off' + k * 3 + 2, none⟩ = some (.string ⟨q.s.toArray⟩) ∧ wo.heap.size < w'.heap.size ∧ b < w'.heap.size ∧ b' < w'.heap.size ∧ Below w.heap.size w w')
      (first | (refine ⟨?_, ?_, ?_, ?_, ?_, ?_, ?_, ?_, ?_, ?_, ?_⟩ <;> first | (simp [go_sem, *]; done) | omega | (simp; omega) | exact (by repeat (first | exact Below.refl _ _ | refine Below.setCell ?_ (by first | (simp; done) | (simp; omega) | omega) _ | refine Below.alloc ?_ (by first | (simp; done) | (simp; omega) | omega) _ | refine below_drewN ?_ _ | refine Below.drew ?_ | assumption | refine Below.trans ?_ (Below.mono (by assumption) (by first | (simp; done) | (simp; omega) | omega))))))
      (first | (first | (go_at_call 33; refine (CF.out _).mono ?_; rintro e w5 ⟨rfl, hb5⟩; obtain ⟨hc5, hf5⟩ := bcell hb5; (try simp only [drew_size, drew_cell, drew_frozen] at hc5 hf5); have hs5 := hb5.size; (try simp at hs5); have hz5 : wo.heap.size < w5.heap.size ∧ b < w5.heap.size ∧ b' < w5.heap.size := (by have := hb5.size; (try simp at this); omega); have m5 : w5.heap[w.heap.size]? = some (.map kindsE 2) := (hb5.block w.heap.size (by simp; omega)).trans ((Below.heap_alloc wo _ _ (by omega)).trans hmap); have bw5 : Below w.heap.size w w5 := Below.trans (b := wo.alloc (.cells #[.func (.func 30) #[] #[], .func (.func 32) #[] #[], .func (.func 33) #[] #[]] 60)) (hbl.alloc hbl.size _) ⟨hb5.os, hb5.tape, hb5.output, hb5.size, fun i h => hb5.block i (by simp; omega)⟩)))
            all_goals go_wp2
            all_goals go_roundw
            all_goals first
              | exact ⟨k + 1, by go_num, by have := HL.out; omega, by have := HM.out; omega, by rw [← HC.out, HD.out, HV.out]; simp, m5, bw5, by omega⟩
              | (simp [intOf]; omega)
          · have hv' : (v != 0) = true := by simpa using hv
            go_wp2
            go_quiet ((go_at_call 26; exact Calls.quiet_of_same (CI.out _ _ _)))
            go_wp2
            go_region_held3 (fun w' => w'.cell? ⟨wo.heap.size, 2, none⟩ = some (.func (.func 33) #[] #[]) ∧ w'.cell? ⟨b, off + k * 3, none⟩ = some (.int .i64 2) ∧ w'.cell? ⟨b, off + k * 3 + 1, none⟩ = some (.int .i64 p.n) ∧ w'.cell? ⟨b, off + k * 3 + 2, none⟩ = some (.string ⟨p.s.toArray⟩) ∧ w'.cell? ⟨b', off' + k * 3, none⟩ = some (.int .i64 2) ∧ w'.cell? ⟨b', off' + k * 3 + 1, none⟩ = some (.int .i64 q.n) ∧ w'.cell? ⟨b', off' + k * 3 + 2, none⟩ = some (.string ⟨q.s.toArray⟩) ∧ wo.heap.size < w'.heap.size ∧ b < w'.heap.size ∧ b' < w'.heap.size ∧ Below w.heap.size w w')
      (first | (refine ⟨?_, ?_, ?_, ?_, ?_, ?_, ?_, ?_, ?_, ?_, ?_⟩ <;> first | (simp [go_sem, *]; done) | omega | (simp; omega) | exact (by repeat (first | exact Below.refl _ _ | refine Below.setCell ?_ (by first | (simp; done) | (simp; omega) | omega) _ | refine Below.alloc ?_ (by first | (simp; done) | (simp; omega) | omega) _ | refine below_drewN ?_ _ | refine Below.drew ?_ | assumption | refine Below.trans ?_ (Below.mono (by assumption) (by first | (simp; done) | (simp; omega) | omega))))))
      (first | (first | (go_at_call 33; refine (CF.out _).mono ?_; rintro e w5 ⟨rfl, hb5⟩; obtain ⟨hc5, hf5⟩ := bcell hb5; (try simp only [drew_size, drew_cell, drew_frozen] at hc5 hf5); have hs5 := hb5.size; (try simp at hs5); have hz5 : wo.heap.size < w5.heap.size ∧ b < w5.heap.size ∧ b' < w5.heap.size := (by have := hb5.size; (try simp at this); omega); have m5 : w5.heap[w.heap.size]? = some (.map kindsE 2) := (hb5.block w.heap.size (by simp; omega)).trans ((Below.heap_alloc wo _ _ (by omega)).trans hmap); have bw5 : Below w.heap.size w w5 := Below.trans (b := wo.alloc (.cells #[.func (.func 30) #[] #[], .func (.func 32) #[] #[], .func (.func 33) #[] #[]] 60)) (hbl.alloc hbl.size _) ⟨hb5.os, hb5.tape, hb5.output, hb5.size, fun i h => hb5.block i (by simp; omega)⟩)))
            all_goals go_wp2
            all_goals go_ret
            all_goals exact ⟨ret_int (by rw [← HC.out, HD.out, HV.out, if_pos hv]), bw5⟩
  
        · have lk : ∀ a, (Instr.lookup 50 (.map (some w.heap.size)) (.int .i64 p.k) true).run Tryd.prog (wo.drewN a) = .ok (.tuple #[.agg #[.nilFunc, .nilFunc, .nilFunc], .bool false]) (wo.drewN a) := fun a => look_none (wo.drewN a) w.heap.size p.k k1 k2 hmap
          have HV := Lib.hid (show cmpP p q = 0 by unfold cmpP; rw [← hkk]; simp [ci_eq, k1, k2])
          have HN := Lib.hid (And.intro k1 k2)
          clear k1 k2
          have HQ := Lib.hid hkk
          clear hkk
          generalize p.k = pk at *
          go_wp2
          go_quiet ((go_at_call 26; exact Calls.quiet_of_same (CI.out _ _ _)))
          go_wp2
          all_goals go_roundw
          all_goals first
            | exact ⟨k + 1, by go_num, by have := HL.out; omega, by have := HM.out; omega, by rw [← HC.out, HD.out, HV.out]; simp, (Below.heap_alloc wo _ _ (by omega)).trans hmap, (by repeat (first | exact Below.refl _ _ | refine Below.setCell ?_ (by first | (simp; done) | (simp; omega) | omega) _ | refine Below.alloc ?_ (by first | (simp; done) | (simp; omega) | omega) _ | refine below_drewN ?_ _ | refine Below.drew ?_ | assumption | refine Below.trans ?_ (Below.mono (by assumption) (by first | (simp; done) | (simp; omega) | omega)))), by simp; omega⟩
            | (simp [intOf]; omega)
      · have HV := Lib.hid (show cmpP p q = Lib.compareInt p.k q.k by unfold cmpP; rw [if_pos]; rcases ci_three p.k q.k with ⟨a, e⟩ | ⟨a, e⟩ | ⟨a, e⟩ <;> omega)
        obtain ⟨v, hv⟩ : ∃ v, Lib.compareInt p.k q.k = v := ⟨_, rfl⟩
        have hv0 : v ≠ 0 := by rcases ci_three p.k q.k with ⟨a, e⟩ | ⟨a, e⟩ | ⟨a, e⟩ <;> omega
        rw [hv] at HV
        have C1 : Hid (∀ W, Calls Tryd.prog 26 #[.int .i64 p.k, .int .i64 q.k] W fun e w' => e = .returned (.int .i64 v) ∧ w' = W) := Lib.hid fun W => by rw [← hv]; exact CI.out _ _ _
        clear hv
        have hv' : (v != 0) = true := by simpa using hv0
        go_wp2
        go_quiet ((go_at_call 26; exact Calls.quiet_of_same (C1.out _)))
        go_wp2
        go_ret
        exact ⟨ret_int (by rw [← HC.out, HD.out, HV.out, if_pos hv0]), (by repeat (first | exact Below.refl _ _ | refine Below.setCell ?_ (by first | (simp; done) | (simp; omega) | omega) _ | refine Below.alloc ?_ (by first | (simp; done) | (simp; omega) | omega) _ | refine below_drewN ?_ _ | refine Below.drew ?_ | assumption | refine Below.trans ?_ (Below.mono (by assumption) (by first | (simp; done) | (simp; omega) | omega))))⟩
    · have HE := Lib.hid (cmpL_end hk1 hk2 (by have := HL.out; have := HM.out; omega))
      have hci := Lib.hid (And.intro HL.out HM.out)
      go_wp2_with (go_at_call 26; refine (CI.out _ _ _).mono ?_; rintro e w' ⟨rfl, rfl⟩)
      go_ret
      exact ⟨ret_int (by rw [← HC.out, HE.out, hci.out.1, hci.out.2]), hbl⟩
end Go.Proofs.YtjccadfaiahkkaaDoor
