/-
  The walk of the statement MoneySums: it returns true, whatever it is given. (Printed by tools/mkxl1.py.)
-/
import Derived.Test.YtdpoahfjiomhbaaGreatDoorXu1
import Derived.Test.YtdpoahfjiomhbaaGreatDoorMf1
namespace Go.Proofs.YtdpoahfjiomhbaaGreatDoor
set_option linter.all false
open Go.RowKit Go.Sort
attribute [local go_sem] cell_set_self lt_1 lt_2 lt_3 lt_4 lt_5 lt_6

theorem Tryz.infoAmt6 : (Tryz.prog.info? 49).map (fun i => (i.zero, i.size, i.bytes)) = some (some (.agg #[.int .i64 0, .string ⟨#[]⟩]), 2, 24) := by kernel_rfl
/-- A box that holds an amount. -/
def Bx (w : World) (b : Nat) (x : Int) (X : ByteArray) : Prop := b < w.heap.size ∧ w.cell? ⟨b, 0, none⟩ = some (.int .i64 x) ∧ w.cell? ⟨b, 1, none⟩ = some (.string X)
theorem Bx.below {w W : World} {b : Nat} {x : Int} {X : ByteArray} (h : Bx w b x X) (hb : Below w.heap.size w W) : Bx W b x X :=
  ⟨Nat.lt_of_lt_of_le h.1 hb.size, (hb.cell (p := ⟨b, 0, none⟩) h.1).trans h.2.1, (hb.cell (p := ⟨b, 1, none⟩) h.1).trans h.2.2⟩
theorem am_own6 {w : World} {base t : Nat} {A : Option Addr} {n c : Nat} {l : List (Int × List UInt8)} (hl : l.length = n) (h : w.ownsRow base t 2 (.slice A n c) n (cellsAm l)) : Am w A l := fun i t hi => by
  have hn : 0 < n := by have := (List.getElem?_eq_some_iff.1 hi).1; omega
  obtain ⟨g, cap, hv, _, hlt⟩ := h.form hn
  have hA : A = some ⟨g, 0, none⟩ := by injection hv
  subst hA
  obtain ⟨h1, h2⟩ := cellsAm_at hi
  have hc := h.cells (g := g) rfl
  refine ⟨g, 0, rfl, hlt, ?_, ?_⟩
  · have := hc _ _ h1; rw [addr0] at this; simpa using this
  · have := hc _ _ h2; rw [addr0] at this; simpa [Nat.add_assoc] using this
theorem curW (c : List UInt8) : (200 < c.length ∧ (200 : Int) < ((⟨c.toArray⟩ : ByteArray).size : Int)) ∨ (c.length ≤ 200 ∧ ¬ (200 : Int) < ((⟨c.toArray⟩ : ByteArray).size : Int)) := by
  rw [ba_szP]; omega
set_option maxHeartbeats 1000000 in
theorem amount6_any (x : Int) (X : ByteArray) (w : World) : Calls Tryz.prog 21 #[.agg #[.int .i64 x, .string X]] w fun e w' => e = .returned (.agg #[.int .i64 x, .string X]) ∧ Below w.heap.size w w' := by
  go_enter Tryz.func21, Tryz.ntmps21
  go_wp2
  exact bodyPost_ret (v := .agg #[.int .i64 x, .string X]) (by simp [results, Tryz.results21, go_sem, *]) rfl ⟨rfl, (by repeat (first | exact Below.refl _ _ | refine Below.setCell ?_ (by first | (simp; done) | (simp; omega) | omega) _ | refine Below.alloc ?_ (by first | (simp; done) | (simp; omega) | omega) _ | refine Below.drew ?_ | assumption | refine Below.trans ?_ (Below.mono (by assumption) (by first | (simp; done) | (simp; omega) | omega))))⟩
set_option maxHeartbeats 1000000 in
theorem same6_any (x : Int) (X : ByteArray) (w : World) : Calls Tryz.prog 23 #[.agg #[.int .i64 x, .string X], .agg #[.int .i64 x, .string X]] w fun e w' => e = .returned (.bool true) ∧ Below w.heap.size w w' := by
  go_enter Tryz.func23, Tryz.ntmps23
  go_wp2
  go_ret
  exact ⟨rfl, (by repeat (first | exact Below.refl _ _ | refine Below.setCell ?_ (by first | (simp; done) | (simp; omega) | omega) _ | refine Below.alloc ?_ (by first | (simp; done) | (simp; omega) | omega) _ | refine Below.drew ?_ | assumption | refine Below.trans ?_ (Below.mono (by assumption) (by first | (simp; done) | (simp; omega) | omega))))⟩
set_option maxHeartbeats 16000000 in
set_option maxRecDepth 100000 in
theorem sums_big (u : Int) (c : List UInt8) (v : Int) (d : List UInt8) (n m : Int) (cu : List UInt8) (A : Option Addr) (k cp : Nat) (w : World) (E : Env w)
    (big : 60 < k ∨ (k ≤ 60 ∧ 200 < c.length) ∨ (k ≤ 60 ∧ c.length ≤ 200 ∧ 200 < d.length) ∨ (k ≤ 60 ∧ c.length ≤ 200 ∧ d.length ≤ 200 ∧ 200 < cu.length)) :
    Calls Tryz.prog 10 #[.agg #[.int .i64 u, .string ⟨c.toArray⟩], .agg #[.int .i64 v, .string ⟨d.toArray⟩], .int .i64 n, .int .i64 m, .string ⟨cu.toArray⟩, .slice A k cp] w fun e w' => e = .returned (.bool true) ∧ Below w.heap.size w w' := by
  have F0 := Lib.hid (fun W (hb : Below w.heap.size w W) => first6_any W (E.below hb))
  have e1 := ba_szP c
  have e2 := ba_szP d
  have e3 := ba_szP cu
  rw [← e1, ← e2, ← e3] at big
  clear E e1 e2 e3
  generalize (⟨c.toArray⟩ : ByteArray) = C at *
  generalize (⟨d.toArray⟩ : ByteArray) = D at *
  generalize (⟨cu.toArray⟩ : ByteArray) = S at *
  rcases big with h1 | ⟨h1, h2⟩ | ⟨h1, h2, h3⟩ | ⟨h1, h2, h3, h4⟩
  · have k0 : (60 : Int) < (k : Int) := by omega
    go_enter Tryz.func10, Tryz.ntmps10
    go_wp2_with (first | (go_at_call 18; refine (F0.out _ (by repeat (first | exact Below.refl _ _ | refine Below.setCell ?_ (by first | (simp; done) | (simp; omega) | omega) _ | refine Below.alloc ?_ (by first | (simp; done) | (simp; omega) | omega) _ | refine Below.drew ?_ | assumption | refine Below.trans ?_ (Below.mono (by assumption) (by first | (simp; done) | (simp; omega) | omega))))).mono ?_; rintro e w1 ⟨rfl, hb1⟩; obtain ⟨hc1, hf1⟩ := bcell hb1; have hs1 := hb1.size; (try simp at hs1); have hz1 : w.heap.size < w1.heap.size ∧ w.heap.size + 1 < w1.heap.size := by have := hb1.size; (try simp at this); omega))
    go_ret
    exact ⟨rfl, (by repeat (first | exact Below.refl _ _ | refine Below.setCell ?_ (by first | (simp; done) | (simp; omega) | omega) _ | refine Below.alloc ?_ (by first | (simp; done) | (simp; omega) | omega) _ | refine Below.drew ?_ | assumption | refine Below.trans ?_ (Below.mono (by assumption) (by first | (simp; done) | (simp; omega) | omega))))⟩
  · have k0 : ¬ (60 : Int) < (k : Int) := by omega
    have k1 : (200 : Int) < (C.size : Int) := by omega
    go_enter Tryz.func10, Tryz.ntmps10
    go_wp2_with (first | (go_at_call 18; refine (F0.out _ (by repeat (first | exact Below.refl _ _ | refine Below.setCell ?_ (by first | (simp; done) | (simp; omega) | omega) _ | refine Below.alloc ?_ (by first | (simp; done) | (simp; omega) | omega) _ | refine Below.drew ?_ | assumption | refine Below.trans ?_ (Below.mono (by assumption) (by first | (simp; done) | (simp; omega) | omega))))).mono ?_; rintro e w1 ⟨rfl, hb1⟩; obtain ⟨hc1, hf1⟩ := bcell hb1; have hs1 := hb1.size; (try simp at hs1); have hz1 : w.heap.size < w1.heap.size ∧ w.heap.size + 1 < w1.heap.size := by have := hb1.size; (try simp at this); omega))
    go_ret
    exact ⟨rfl, (by repeat (first | exact Below.refl _ _ | refine Below.setCell ?_ (by first | (simp; done) | (simp; omega) | omega) _ | refine Below.alloc ?_ (by first | (simp; done) | (simp; omega) | omega) _ | refine Below.drew ?_ | assumption | refine Below.trans ?_ (Below.mono (by assumption) (by first | (simp; done) | (simp; omega) | omega))))⟩
  · have k0 : ¬ (60 : Int) < (k : Int) := by omega
    have k1 : ¬ (200 : Int) < (C.size : Int) := by omega
    have k2 : (200 : Int) < (D.size : Int) := by omega
    go_enter Tryz.func10, Tryz.ntmps10
    go_wp2_with (first | (go_at_call 18; refine (F0.out _ (by repeat (first | exact Below.refl _ _ | refine Below.setCell ?_ (by first | (simp; done) | (simp; omega) | omega) _ | refine Below.alloc ?_ (by first | (simp; done) | (simp; omega) | omega) _ | refine Below.drew ?_ | assumption | refine Below.trans ?_ (Below.mono (by assumption) (by first | (simp; done) | (simp; omega) | omega))))).mono ?_; rintro e w1 ⟨rfl, hb1⟩; obtain ⟨hc1, hf1⟩ := bcell hb1; have hs1 := hb1.size; (try simp at hs1); have hz1 : w.heap.size < w1.heap.size ∧ w.heap.size + 1 < w1.heap.size := by have := hb1.size; (try simp at this); omega))
    go_ret
    exact ⟨rfl, (by repeat (first | exact Below.refl _ _ | refine Below.setCell ?_ (by first | (simp; done) | (simp; omega) | omega) _ | refine Below.alloc ?_ (by first | (simp; done) | (simp; omega) | omega) _ | refine Below.drew ?_ | assumption | refine Below.trans ?_ (Below.mono (by assumption) (by first | (simp; done) | (simp; omega) | omega))))⟩
  · have k0 : ¬ (60 : Int) < (k : Int) := by omega
    have k1 : ¬ (200 : Int) < (C.size : Int) := by omega
    have k2 : ¬ (200 : Int) < (D.size : Int) := by omega
    have k3 : (200 : Int) < (S.size : Int) := by omega
    go_enter Tryz.func10, Tryz.ntmps10
    go_wp2_with (first | (go_at_call 18; refine (F0.out _ (by repeat (first | exact Below.refl _ _ | refine Below.setCell ?_ (by first | (simp; done) | (simp; omega) | omega) _ | refine Below.alloc ?_ (by first | (simp; done) | (simp; omega) | omega) _ | refine Below.drew ?_ | assumption | refine Below.trans ?_ (Below.mono (by assumption) (by first | (simp; done) | (simp; omega) | omega))))).mono ?_; rintro e w1 ⟨rfl, hb1⟩; obtain ⟨hc1, hf1⟩ := bcell hb1; have hs1 := hb1.size; (try simp at hs1); have hz1 : w.heap.size < w1.heap.size ∧ w.heap.size + 1 < w1.heap.size := by have := hb1.size; (try simp at this); omega))
    go_ret
    exact ⟨rfl, (by repeat (first | exact Below.refl _ _ | refine Below.setCell ?_ (by first | (simp; done) | (simp; omega) | omega) _ | refine Below.alloc ?_ (by first | (simp; done) | (simp; omega) | omega) _ | refine Below.drew ?_ | assumption | refine Below.trans ?_ (Below.mono (by assumption) (by first | (simp; done) | (simp; omega) | omega))))⟩
set_option maxHeartbeats 32000000 in
set_option maxRecDepth 100000 in
theorem sums_main (u : Int) (c : List UInt8) (v : Int) (d : List UInt8) (n m : Int) (hn : In64 n) (hm : In64 m) (cu : List UInt8) (A : Option Addr) (k cp : Nat) (l : List (Int × List UInt8)) (hl : l.length = k) (hk : k ≤ 60) (lc : c.length ≤ 200) (ld : d.length ≤ 200) (lcu : cu.length ≤ 200) (w : World) (T : Am w A l) (E : Env w) :
    Calls Tryz.prog 10 #[.agg #[.int .i64 u, .string ⟨c.toArray⟩], .agg #[.int .i64 v, .string ⟨d.toArray⟩], .int .i64 n, .int .i64 m, .string ⟨cu.toArray⟩, .slice A k cp] w fun e w' => e = .returned (.bool true) ∧ Below w.heap.size w w' := by
  obtain ⟨i1, hi1, iy0, iy1, iy2⟩ := info_parts Tryz.infoAmt6
  have F0 := Lib.hid (fun W (hb : Below w.heap.size w W) => first6_any W (E.below hb))
  have NU := Lib.hid (fun n W => num_any n W)
  have AM := Lib.hid (fun x X W => amount6_any x X W)
  have SM := Lib.hid (fun x X W => same6_any x X W)
  have TT := Lib.hid (fun W (hb : Below w.heap.size w W) => T.below hb)
  have HL := Lib.hid hl
  obtain ⟨x1, X1, e1, hX1⟩ : ∃ x X q, amR (opE (pairE u c v d) (u + v)) (u + v) c = .tuple #[.agg #[.int .i64 x, .string X], .int .i64 q] := ⟨_, _, _, rfl⟩
  obtain ⟨x2, X2, e2, hX2⟩ : ∃ x X q, amR (opE (pairE u c v d) (u - v)) (u - v) c = .tuple #[.agg #[.int .i64 x, .string X], .int .i64 q] := ⟨_, _, _, rfl⟩
  obtain ⟨x4, X4, e4, hX4⟩ : ∃ x X q, amR (ratE u c n m) (rhZ (u * n) m) c = .tuple #[.agg #[.int .i64 x, .string X], .int .i64 q] := ⟨_, _, _, rfl⟩
  obtain ⟨x5, X5, e5, hX5⟩ : ∃ x X q, amR (sumCode cu l) (totA l) cu = .tuple #[.agg #[.int .i64 x, .string X], .int .i64 q] := ⟨_, _, _, rfl⟩
  have A1 : Hid (∀ W, Calls Tryz.prog 43 #[.agg #[.int .i64 u, .string ⟨c.toArray⟩], .agg #[.int .i64 v, .string ⟨d.toArray⟩]] W fun e w' => e = .returned (.tuple #[.agg #[.int .i64 x1, .string X1], .int .i64 e1]) ∧ Below W.heap.size W w') := Lib.hid fun W => by rw [← hX1]; exact madd_any u c v d W
  have R1 : Hid (∀ W, Calls Tryz.prog 44 #[.agg #[.int .i64 u, .string ⟨c.toArray⟩], .agg #[.int .i64 v, .string ⟨d.toArray⟩]] W fun e w' => e = .returned (.tuple #[.agg #[.int .i64 x1, .string X1], .int .i64 e1]) ∧ Below W.heap.size W w') := Lib.hid fun W => by rw [← hX1]; exact radd_any u c v d W
  have A2 : Hid (∀ W, Calls Tryz.prog 42 #[.agg #[.int .i64 u, .string ⟨c.toArray⟩], .agg #[.int .i64 v, .string ⟨d.toArray⟩]] W fun e w' => e = .returned (.tuple #[.agg #[.int .i64 x2, .string X2], .int .i64 e2]) ∧ Below W.heap.size W w') := Lib.hid fun W => by rw [← hX2]; exact msub_any u c v d W
  have R2 : Hid (∀ W, Calls Tryz.prog 45 #[.agg #[.int .i64 u, .string ⟨c.toArray⟩], .agg #[.int .i64 v, .string ⟨d.toArray⟩]] W fun e w' => e = .returned (.tuple #[.agg #[.int .i64 x2, .string X2], .int .i64 e2]) ∧ Below W.heap.size W w') := Lib.hid fun W => by rw [← hX2]; exact rsub_any u c v d W
  have A3 : Hid (∀ W, Calls Tryz.prog 41 #[.agg #[.int .i64 u, .string ⟨c.toArray⟩], .agg #[.int .i64 v, .string ⟨d.toArray⟩]] W fun e w' => e = .returned (.tuple #[.int .i64 (mcmpN u c v d), .int .i64 (pairE u c v d)]) ∧ Below W.heap.size W w') := Lib.hid fun W => mcmp_any u c v d W
  have R3 : Hid (∀ W, Calls Tryz.prog 46 #[.agg #[.int .i64 u, .string ⟨c.toArray⟩], .agg #[.int .i64 v, .string ⟨d.toArray⟩]] W fun e w' => e = .returned (.tuple #[.int .i64 (mcmpN u c v d), .int .i64 (pairE u c v d)]) ∧ Below W.heap.size W w') := Lib.hid fun W => rcmp_any u c v d W
  have A4 : Hid (∀ W, Calls Tryz.prog 34 #[.agg #[.int .i64 u, .string ⟨c.toArray⟩], .int .i64 n, .int .i64 m] W fun e w' => e = .returned (.tuple #[.agg #[.int .i64 x4, .string X4], .int .i64 e4]) ∧ Below W.heap.size W w') := Lib.hid fun W => by rw [← hX4]; exact ratio_any u c n m hn hm W
  have R4 : Hid (∀ W, Calls Tryz.prog 47 #[.agg #[.int .i64 u, .string ⟨c.toArray⟩], .int .i64 n, .int .i64 m] W fun e w' => e = .returned (.tuple #[.agg #[.int .i64 x4, .string X4], .int .i64 e4]) ∧ Below W.heap.size W w') := Lib.hid fun W => by rw [← hX4]; exact rratio_any u c n m hn hm W
  have A5 : Hid (∀ W, Below w.heap.size w W → Calls Tryz.prog 35 #[.string ⟨cu.toArray⟩, .slice A k cp] W fun e w' => e = .returned (.tuple #[.agg #[.int .i64 x5, .string X5], .int .i64 e5]) ∧ Below W.heap.size W w') := Lib.hid fun W hb => by rw [← hX5]; exact msum_any cu A k cp l hl (by omega) W (T.below hb)
  have R5 : Hid (∀ A' cp' W, Am W A' l → Calls Tryz.prog 48 #[.string ⟨cu.toArray⟩, .slice A' k cp'] W fun e w' => e = .returned (.tuple #[.agg #[.int .i64 x5, .string X5], .int .i64 e5]) ∧ Below W.heap.size W w') := Lib.hid fun A' cp' W hT => by rw [← hX5]; exact rsum_any cu A' k cp' l hl (by omega) W hT
  have R6 : Hid (∀ W, Calls Tryz.prog 29 #[.agg #[.int .i64 u, .string ⟨c.toArray⟩]] W fun e w' => e = .returned (.int .i64 (amE u c)) ∧ Below W.heap.size W w') := Lib.hid fun W => rcheck_any u c W
  obtain ⟨x6, X6, hX6, hn6⟩ : ∃ x X, amR (amE u c) (-u) c = .tuple #[.agg #[.int .i64 x, .string X], .int .i64 (amE u c)] ∧ ((amE u c = 0 ∧ x = -u ∧ X = ⟨c.toArray⟩ ∧ IntKind.i64.wrap (-u) = -u) ∨ (amE u c ≠ 0 ∧ x = 0 ∧ X = ⟨#[]⟩)) := by
    by_cases h : amE u c = 0
    · obtain ⟨u0, u1⟩ := inU_iff.1 (amE_inX h)
      exact ⟨-u, ⟨c.toArray⟩, by rw [h]; exact amR_0 rfl, .inl ⟨h, rfl, rfl, by rw [IntKind.wrap_i64]; omega⟩⟩
    · exact ⟨0, ⟨#[]⟩, amR_n h, .inr ⟨h, rfl, rfl⟩⟩
  have A6 : Hid (∀ W, Calls Tryz.prog 49 #[.agg #[.int .i64 u, .string ⟨c.toArray⟩]] W fun e w' => e = .returned (.tuple #[.agg #[.int .i64 x6, .string X6], .int .i64 (amE u c)]) ∧ Below W.heap.size W w') := Lib.hid fun W => by rw [← hX6]; exact neg_any u c W
  have zc : ¬ (200 : Int) < ((⟨c.toArray⟩ : ByteArray).size : Int) := by rw [ba_szP]; omega
  have zd : ¬ (200 : Int) < ((⟨d.toArray⟩ : ByteArray).size : Int) := by rw [ba_szP]; omega
  have zs : ¬ (200 : Int) < ((⟨cu.toArray⟩ : ByteArray).size : Int) := by rw [ba_szP]; omega
  have zn : ¬ (60 : Int) < (k : Int) := by omega
  have HN6 := Lib.hid hn6
  clear E T hl hX1 hX2 hX4 hX5 hX6 hn6 lc ld lcu
  generalize mcmpN u c v d = z3 at *
  generalize pairE u c v d = e3 at *
  generalize amE u c = e6 at *
  generalize (⟨c.toArray⟩ : ByteArray) = C at *
  generalize (⟨d.toArray⟩ : ByteArray) = D at *
  generalize (⟨cu.toArray⟩ : ByteArray) = S at *
  go_enter Tryz.func10, Tryz.ntmps10
  go_upto_region 4 with (first | (go_at_call 18; refine (F0.out _ (by repeat (first | exact Below.refl _ _ | refine Below.setCell ?_ (by first | (simp; done) | (simp; omega) | omega) _ | refine Below.alloc ?_ (by first | (simp; done) | (simp; omega) | omega) _ | refine Below.drew ?_ | assumption | refine Below.trans ?_ (Below.mono (by assumption) (by first | (simp; done) | (simp; omega) | omega))))).mono ?_; rintro e w1 ⟨rfl, hb1⟩; obtain ⟨hc1, hf1⟩ := bcell hb1; have hs1 := hb1.size; (try simp at hs1); have hz1 : w.heap.size < w1.heap.size ∧ w.heap.size + 1 < w1.heap.size := by have := hb1.size; (try simp at this); omega))
  have BW : Below w.heap.size w w1 := (by repeat (first | exact Below.refl _ _ | refine Below.setCell ?_ (by first | (simp; done) | (simp; omega) | omega) _ | refine Below.alloc ?_ (by first | (simp; done) | (simp; omega) | omega) _ | refine Below.drew ?_ | assumption | refine Below.trans ?_ (Below.mono (by assumption) (by first | (simp; done) | (simp; omega) | omega))))
  have BA : Hid (Bx w1 (w.heap.size) u C) := Lib.hid ⟨by omega, by simp [go_sem, *], by simp [go_sem, *]⟩
  have BB : Hid (Bx w1 (w.heap.size + 1) v D) := Lib.hid ⟨by omega, by simp [go_sem, *], by simp [go_sem, *]⟩
  have hsk := BW.size
  clear hb1 hc1 hf1 hz1
  go_wp2
  go_loopw [14, 15] (fun o i wr => ∃ (r : Nat) (vO : Value), r ≤ k ∧ i = .int .i64 r ∧ vO = o ∧ Hid (wr.ownsRow w1.heap.size 49 2 vO r (cellsAm (l.take r))) ∧ Below w1.heap.size w1 wr) (fun _ i _ => k - (intOf i).toNat)
  case atStart => exact ⟨0, _, Nat.zero_le _, rfl, rfl, Lib.hid (World.ownsRow_nil _ _ _ _), Below.refl _ _⟩
  case round =>
    obtain ⟨r, vO, hr, rfl, hv, HO, hB⟩ := hrel; subst hv
    obtain ⟨wo, rfl⟩ : ∃ wo : World, wo = wr := ⟨_, rfl⟩
    have hso := hB.size
    have hBw : Below w.heap.size w wo := BW.trans (hB.mono hsk)
    by_cases hlt : r < k
    · have hlt' : (r : Int) < (k : Int) := by omega
      obtain ⟨t, ht⟩ : ∃ t, l[r]? = some t := ⟨_, List.getElem?_eq_getElem (by rw [HL.out]; omega)⟩
      obtain ⟨b, off, rfl, hbw, c0, c1⟩ := TT.out wo hBw r t ht
      have NX : Hid (cellsAm (l.take (r + 1)) = cellsAm (l.take r) ++ [.int .i64 t.1, .string ⟨t.2.toArray⟩]) := Lib.hid (by
        rw [List.take_succ, ht, Option.toList_some, cellsAm_app])
      clear ht A1 R1 A2 R2 A3 R3 A4 R4 A5 R5 A6 R6 HN6 NU SM BA BB
      generalize cellsAm (l.take r) = xs at *
      generalize t.1 = zz at *
      generalize (⟨t.2.toArray⟩ : ByteArray) = CU at *
      go_wp2_with (first | (go_at_call 21; refine (AM.out _ _ _).mono ?_; rintro e w5 ⟨rfl, hb5⟩; obtain ⟨hc5, hf5⟩ := bcell hb5; have hs5 := hb5.size; (try simp at hs5)) | (at_builtin; refine wpList_append_own _ rfl (.tmp 72) (.tmp 78) 46 rfl w1.heap.size 49 i1 _ 2 24 Tryz.underlying46 hi1 iy0 iy1 iy2 rfl (by decide) vO r xs rfl ((own_below HO.out (by repeat (first | exact Below.refl _ _ | refine Below.setCell ?_ (by first | (simp; done) | (simp; omega) | omega) _ | refine Below.alloc ?_ (by first | (simp; done) | (simp; omega) | omega) _ | refine Below.drew ?_ | assumption | refine Below.trans ?_ (Below.mono (by assumption) (by first | (simp; done) | (simp; omega) | omega)))))) _ 1 1 [.int .i64 zz, .string CU] rfl rfl (by intro j u' hj; match j, hj with | 0, hj => (simp at hj; subst hj; simp [Addr.add, go_sem]) | 1, hj => (simp at hj; subst hj; simp [Addr.add, go_sem])) (by intro u' hu'; simp at hu'; rcases hu' with rfl | rfl <;> rfl) (by unfold maxLen; omega) (by omega) (by simp; omega) ?_; intro v6 w6 hown6 hgrow6 hiff; clear hiff; have HO6 := Lib.hid hown6; have B6 : Below w1.heap.size w1 w6 := Below.grown (by repeat (first | exact Below.refl _ _ | refine Below.setCell ?_ (by first | (simp; done) | (simp; omega) | omega) _ | refine Below.alloc ?_ (by first | (simp; done) | (simp; omega) | omega) _ | refine Below.drew ?_ | assumption | refine Below.trans ?_ (Below.mono (by assumption) (by first | (simp; done) | (simp; omega) | omega)))) hgrow6 (by simp; omega) (fun g hg => (HO.out.lt g hg).1); clear hown6 hgrow6))
      go_roundw
      case rel => exact ⟨r + 1, _, by omega, by go_num, rfl, Lib.hid (by rw [NX.out]; exact HO6.out), B6⟩
      case measure => first | (simp [intOf]; done) | (simp [intOf]; omega)
    · obtain rfl : r = k := by omega
      have hkk : ¬ (r : Int) < (r : Int) := by omega
      obtain ⟨A', cp', hA'⟩ := own_form HO.out
      subst hA'
      have AW : Hid (Am wo A' l) := Lib.hid (am_own6 HL.out (by have := HO.out; rwa [List.take_of_length_le (by rw [HL.out]; exact Nat.le_refl _)] at this))
      replace BA := Lib.hid (BA.out.below hB)
      replace BB := Lib.hid (BB.out.below hB)
      replace BW := hBw
      have hB0 : w.heap.size < wo.heap.size ∧ w.heap.size + 1 < wo.heap.size := ⟨BA.out.1, BB.out.1⟩
      clear HO hB HL TT hsk
      go_upto_region 9 with (fail)
      go_cut [16, 17] from 80 to 85 (fun p q wx => ∃ b : Nat, p = .pointer (some ⟨b, 0, none⟩) ∧ q = .int .i64 e1 ∧ Hid (Bx wx b x1 X1) ∧ Below wo.heap.size wo wx)
      case first =>
        obtain ⟨qa0, qa1, qa2⟩ := BA.out
        obtain ⟨qb0, qb1, qb2⟩ := BB.out
        clear HN6 R1 A2 R2 A3 R3 A4 R4 A5 R5 A6 R6 NU SM AM
        go_wp2_with (first | (go_at_call 43; (with_reducible refine (A1.out _).mono ?_); rintro e w10 ⟨rfl, hb10⟩; obtain ⟨hc10, hf10⟩ := bcell hb10; have hs10 := hb10.size; (try simp at hs10); have hz10 : w.heap.size < w10.heap.size ∧ w.heap.size < w10.heap.size + 1 ∧ w.heap.size + 1 < w10.heap.size ∧ w.heap.size + 1 < w10.heap.size + 1 := (by omega)))
        go_meet; exact ⟨_, rfl, rfl, Lib.hid ⟨(by first | (simp; done) | (simp; omega) | omega), by simp [go_sem, *], by simp [go_sem, *]⟩, (by repeat (first | exact Below.refl _ _ | refine Below.setCell ?_ (by first | (simp; done) | (simp; omega) | omega) _ | refine Below.alloc ?_ (by first | (simp; done) | (simp; omega) | omega) _ | refine Below.drew ?_ | assumption | refine Below.trans ?_ (Below.mono (by assumption) (by first | (simp; done) | (simp; omega) | omega))))⟩
      case rest =>
      obtain ⟨b1, rfl, rfl, Qb1, hC1⟩ := hcut
      obtain ⟨wn1, rfl⟩ : ∃ wn1 : World, wn1 = wc := ⟨_, rfl⟩
      replace BA := Lib.hid (BA.out.below hC1)
      replace BB := Lib.hid (BB.out.below hC1)
      replace AW := Lib.hid (AW.out.below hC1)
      replace BW := BW.trans (hC1.mono (by first | (simp; done) | (simp; omega) | omega))
      have hS1 := hC1.size
      go_upto_region 10 with (fail)
      go_cut [18, 19] from 86 to 93 (fun p q wx => ∃ b : Nat, p = .pointer (some ⟨b, 0, none⟩) ∧ q = .int .i64 e1 ∧ Hid (Bx wx b x1 X1) ∧ Below wn1.heap.size wn1 wx)
      case first =>
        obtain ⟨qa0, qa1, qa2⟩ := BA.out
        obtain ⟨qb0, qb1, qb2⟩ := BB.out
        clear HN6 A1 A2 R2 A3 R3 A4 R4 A5 R5 A6 R6 NU SM
        go_region_law (first | (go_simp; go_at_call 21; (with_reducible refine (AM.out u C _).mono ?_); rintro e w11 ⟨rfl, hb11⟩; obtain ⟨hc11, hf11⟩ := bcell hb11; (try simp only [drew_size, drew_cell, drew_frozen] at hc11 hf11); have hs11 := hb11.size; (try simp at hs11); have hz11 : w.heap.size < w11.heap.size ∧ w.heap.size < w11.heap.size + 1 ∧ w.heap.size + 1 < w11.heap.size ∧ w.heap.size + 1 < w11.heap.size + 1 := (by omega); (try have hywn111 : wn1.heap.size < w11.heap.size := by omega)) | (go_simp; go_at_call 21; (with_reducible refine (AM.out v D _).mono ?_); rintro e w12 ⟨rfl, hb12⟩; obtain ⟨hc12, hf12⟩ := bcell hb12; (try simp only [drew_size, drew_cell, drew_frozen] at hc12 hf12); have hs12 := hb12.size; (try simp at hs12); have hz12 : w.heap.size < w12.heap.size ∧ w.heap.size < w12.heap.size + 1 ∧ w.heap.size + 1 < w12.heap.size ∧ w.heap.size + 1 < w12.heap.size + 1 := (by omega); (try have hywn112 : wn1.heap.size < w12.heap.size := by omega); (try have hyw1112 : w11.heap.size < w12.heap.size := by omega)) | (go_simp; go_at_call 44; (with_reducible refine (R1.out _).mono ?_); rintro e w13 ⟨rfl, hb13⟩; obtain ⟨hc13, hf13⟩ := bcell hb13; (try simp only [drew_size, drew_cell, drew_frozen] at hc13 hf13); have hs13 := hb13.size; (try simp at hs13); have hz13 : w.heap.size < w13.heap.size ∧ w.heap.size < w13.heap.size + 1 ∧ w.heap.size + 1 < w13.heap.size ∧ w.heap.size + 1 < w13.heap.size + 1 := (by omega); (try have hywn113 : wn1.heap.size < w13.heap.size := by omega); (try have hyw1113 : w11.heap.size < w13.heap.size := by omega); (try have hyw1213 : w12.heap.size < w13.heap.size := by omega)))
        all_goals (go_wp2_with (fail); go_meet; exact ⟨_, rfl, rfl, Lib.hid ⟨(by first | (simp; done) | (simp; omega) | omega), by simp [go_sem, *], by simp [go_sem, *]⟩, (by repeat (first | exact Below.refl _ _ | refine Below.setCell ?_ (by first | (simp; done) | (simp; omega) | omega) _ | refine Below.alloc ?_ (by first | (simp; done) | (simp; omega) | omega) _ | refine Below.drew ?_ | assumption | refine Below.trans ?_ (Below.mono (by assumption) (by first | (simp; done) | (simp; omega) | omega))))⟩)
      case rest =>
      obtain ⟨b2, rfl, rfl, Qb2, hC2⟩ := hcut
      obtain ⟨wn2, rfl⟩ : ∃ wn2 : World, wn2 = wc := ⟨_, rfl⟩
      replace BA := Lib.hid (BA.out.below hC2)
      replace BB := Lib.hid (BB.out.below hC2)
      replace Qb1 := Lib.hid (Qb1.out.below hC2)
      replace AW := Lib.hid (AW.out.below hC2)
      replace BW := BW.trans (hC2.mono (by first | (simp; done) | (simp; omega) | omega))
      have hS2 := hC2.size
      go_upto_region 11 with (fail)
      go_cut [20, 21] from 94 to 99 (fun p q wx => ∃ b : Nat, p = .pointer (some ⟨b, 0, none⟩) ∧ q = .int .i64 e2 ∧ Hid (Bx wx b x2 X2) ∧ Below wn2.heap.size wn2 wx)
      case first =>
        obtain ⟨qa0, qa1, qa2⟩ := BA.out
        obtain ⟨qb0, qb1, qb2⟩ := BB.out
        clear HN6 A1 R1 R2 A3 R3 A4 R4 A5 R5 A6 R6 NU SM AM
        go_wp2_with (first | (go_at_call 42; (with_reducible refine (A2.out _).mono ?_); rintro e w10 ⟨rfl, hb10⟩; obtain ⟨hc10, hf10⟩ := bcell hb10; have hs10 := hb10.size; (try simp at hs10); have hz10 : w.heap.size < w10.heap.size ∧ w.heap.size < w10.heap.size + 1 ∧ w.heap.size + 1 < w10.heap.size ∧ w.heap.size + 1 < w10.heap.size + 1 := (by omega)))
        go_meet; exact ⟨_, rfl, rfl, Lib.hid ⟨(by first | (simp; done) | (simp; omega) | omega), by simp [go_sem, *], by simp [go_sem, *]⟩, (by repeat (first | exact Below.refl _ _ | refine Below.setCell ?_ (by first | (simp; done) | (simp; omega) | omega) _ | refine Below.alloc ?_ (by first | (simp; done) | (simp; omega) | omega) _ | refine Below.drew ?_ | assumption | refine Below.trans ?_ (Below.mono (by assumption) (by first | (simp; done) | (simp; omega) | omega))))⟩
      case rest =>
      obtain ⟨b3, rfl, rfl, Qb3, hC3⟩ := hcut
      obtain ⟨wn3, rfl⟩ : ∃ wn3 : World, wn3 = wc := ⟨_, rfl⟩
      replace BA := Lib.hid (BA.out.below hC3)
      replace BB := Lib.hid (BB.out.below hC3)
      replace Qb1 := Lib.hid (Qb1.out.below hC3)
      replace Qb2 := Lib.hid (Qb2.out.below hC3)
      replace AW := Lib.hid (AW.out.below hC3)
      replace BW := BW.trans (hC3.mono (by first | (simp; done) | (simp; omega) | omega))
      have hS3 := hC3.size
      go_upto_region 12 with (fail)
      go_cut [22, 23] from 100 to 107 (fun p q wx => ∃ b : Nat, p = .pointer (some ⟨b, 0, none⟩) ∧ q = .int .i64 e2 ∧ Hid (Bx wx b x2 X2) ∧ Below wn3.heap.size wn3 wx)
      case first =>
        obtain ⟨qa0, qa1, qa2⟩ := BA.out
        obtain ⟨qb0, qb1, qb2⟩ := BB.out
        clear HN6 A1 R1 A2 A3 R3 A4 R4 A5 R5 A6 R6 NU SM
        go_region_law (first | (go_simp; go_at_call 21; (with_reducible refine (AM.out u C _).mono ?_); rintro e w11 ⟨rfl, hb11⟩; obtain ⟨hc11, hf11⟩ := bcell hb11; (try simp only [drew_size, drew_cell, drew_frozen] at hc11 hf11); have hs11 := hb11.size; (try simp at hs11); have hz11 : w.heap.size < w11.heap.size ∧ w.heap.size < w11.heap.size + 1 ∧ w.heap.size + 1 < w11.heap.size ∧ w.heap.size + 1 < w11.heap.size + 1 := (by omega); (try have hywn311 : wn3.heap.size < w11.heap.size := by omega)) | (go_simp; go_at_call 21; (with_reducible refine (AM.out v D _).mono ?_); rintro e w12 ⟨rfl, hb12⟩; obtain ⟨hc12, hf12⟩ := bcell hb12; (try simp only [drew_size, drew_cell, drew_frozen] at hc12 hf12); have hs12 := hb12.size; (try simp at hs12); have hz12 : w.heap.size < w12.heap.size ∧ w.heap.size < w12.heap.size + 1 ∧ w.heap.size + 1 < w12.heap.size ∧ w.heap.size + 1 < w12.heap.size + 1 := (by omega); (try have hywn312 : wn3.heap.size < w12.heap.size := by omega); (try have hyw1112 : w11.heap.size < w12.heap.size := by omega)) | (go_simp; go_at_call 45; (with_reducible refine (R2.out _).mono ?_); rintro e w13 ⟨rfl, hb13⟩; obtain ⟨hc13, hf13⟩ := bcell hb13; (try simp only [drew_size, drew_cell, drew_frozen] at hc13 hf13); have hs13 := hb13.size; (try simp at hs13); have hz13 : w.heap.size < w13.heap.size ∧ w.heap.size < w13.heap.size + 1 ∧ w.heap.size + 1 < w13.heap.size ∧ w.heap.size + 1 < w13.heap.size + 1 := (by omega); (try have hywn313 : wn3.heap.size < w13.heap.size := by omega); (try have hyw1113 : w11.heap.size < w13.heap.size := by omega); (try have hyw1213 : w12.heap.size < w13.heap.size := by omega)))
        all_goals (go_wp2_with (fail); go_meet; exact ⟨_, rfl, rfl, Lib.hid ⟨(by first | (simp; done) | (simp; omega) | omega), by simp [go_sem, *], by simp [go_sem, *]⟩, (by repeat (first | exact Below.refl _ _ | refine Below.setCell ?_ (by first | (simp; done) | (simp; omega) | omega) _ | refine Below.alloc ?_ (by first | (simp; done) | (simp; omega) | omega) _ | refine Below.drew ?_ | assumption | refine Below.trans ?_ (Below.mono (by assumption) (by first | (simp; done) | (simp; omega) | omega))))⟩)
      case rest =>
      obtain ⟨b4, rfl, rfl, Qb4, hC4⟩ := hcut
      obtain ⟨wn4, rfl⟩ : ∃ wn4 : World, wn4 = wc := ⟨_, rfl⟩
      replace BA := Lib.hid (BA.out.below hC4)
      replace BB := Lib.hid (BB.out.below hC4)
      replace Qb1 := Lib.hid (Qb1.out.below hC4)
      replace Qb2 := Lib.hid (Qb2.out.below hC4)
      replace Qb3 := Lib.hid (Qb3.out.below hC4)
      replace AW := Lib.hid (AW.out.below hC4)
      replace BW := BW.trans (hC4.mono (by first | (simp; done) | (simp; omega) | omega))
      have hS4 := hC4.size
      go_upto_region 13 with (fail)
      go_cut [24, 25] from 108 to 113 (fun p q wx => p = .int .i64 z3 ∧ q = .int .i64 e3 ∧ Below wn4.heap.size wn4 wx)
      case first =>
        obtain ⟨qa0, qa1, qa2⟩ := BA.out
        obtain ⟨qb0, qb1, qb2⟩ := BB.out
        clear HN6 A1 R1 A2 R2 R3 A4 R4 A5 R5 A6 R6 NU SM AM
        go_wp2_with (first | (go_at_call 41; (with_reducible refine (A3.out _).mono ?_); rintro e w10 ⟨rfl, hb10⟩; obtain ⟨hc10, hf10⟩ := bcell hb10; have hs10 := hb10.size; (try simp at hs10); have hz10 : w.heap.size < w10.heap.size ∧ w.heap.size < w10.heap.size + 1 ∧ w.heap.size + 1 < w10.heap.size ∧ w.heap.size + 1 < w10.heap.size + 1 := (by omega)))
        go_meet; exact ⟨rfl, rfl, (by repeat (first | exact Below.refl _ _ | refine Below.setCell ?_ (by first | (simp; done) | (simp; omega) | omega) _ | refine Below.alloc ?_ (by first | (simp; done) | (simp; omega) | omega) _ | refine Below.drew ?_ | assumption | refine Below.trans ?_ (Below.mono (by assumption) (by first | (simp; done) | (simp; omega) | omega))))⟩
      case rest =>
      obtain ⟨rfl, rfl, hC5⟩ := hcut
      obtain ⟨wn5, rfl⟩ : ∃ wn5 : World, wn5 = wc := ⟨_, rfl⟩
      replace BA := Lib.hid (BA.out.below hC5)
      replace BB := Lib.hid (BB.out.below hC5)
      replace Qb1 := Lib.hid (Qb1.out.below hC5)
      replace Qb2 := Lib.hid (Qb2.out.below hC5)
      replace Qb3 := Lib.hid (Qb3.out.below hC5)
      replace Qb4 := Lib.hid (Qb4.out.below hC5)
      replace AW := Lib.hid (AW.out.below hC5)
      replace BW := BW.trans (hC5.mono (by first | (simp; done) | (simp; omega) | omega))
      have hS5 := hC5.size
      go_upto_region 14 with (fail)
      go_cut [26, 27] from 114 to 121 (fun p q wx => p = .int .i64 z3 ∧ q = .int .i64 e3 ∧ Below wn5.heap.size wn5 wx)
      case first =>
        obtain ⟨qa0, qa1, qa2⟩ := BA.out
        obtain ⟨qb0, qb1, qb2⟩ := BB.out
        clear HN6 A1 R1 A2 R2 A3 A4 R4 A5 R5 A6 R6 NU SM
        go_region_law (first | (go_simp; go_at_call 21; (with_reducible refine (AM.out u C _).mono ?_); rintro e w11 ⟨rfl, hb11⟩; obtain ⟨hc11, hf11⟩ := bcell hb11; (try simp only [drew_size, drew_cell, drew_frozen] at hc11 hf11); have hs11 := hb11.size; (try simp at hs11); have hz11 : w.heap.size < w11.heap.size ∧ w.heap.size < w11.heap.size + 1 ∧ w.heap.size + 1 < w11.heap.size ∧ w.heap.size + 1 < w11.heap.size + 1 := (by omega); (try have hywn511 : wn5.heap.size < w11.heap.size := by omega)) | (go_simp; go_at_call 21; (with_reducible refine (AM.out v D _).mono ?_); rintro e w12 ⟨rfl, hb12⟩; obtain ⟨hc12, hf12⟩ := bcell hb12; (try simp only [drew_size, drew_cell, drew_frozen] at hc12 hf12); have hs12 := hb12.size; (try simp at hs12); have hz12 : w.heap.size < w12.heap.size ∧ w.heap.size < w12.heap.size + 1 ∧ w.heap.size + 1 < w12.heap.size ∧ w.heap.size + 1 < w12.heap.size + 1 := (by omega); (try have hywn512 : wn5.heap.size < w12.heap.size := by omega); (try have hyw1112 : w11.heap.size < w12.heap.size := by omega)) | (go_simp; go_at_call 46; (with_reducible refine (R3.out _).mono ?_); rintro e w13 ⟨rfl, hb13⟩; obtain ⟨hc13, hf13⟩ := bcell hb13; (try simp only [drew_size, drew_cell, drew_frozen] at hc13 hf13); have hs13 := hb13.size; (try simp at hs13); have hz13 : w.heap.size < w13.heap.size ∧ w.heap.size < w13.heap.size + 1 ∧ w.heap.size + 1 < w13.heap.size ∧ w.heap.size + 1 < w13.heap.size + 1 := (by omega); (try have hywn513 : wn5.heap.size < w13.heap.size := by omega); (try have hyw1113 : w11.heap.size < w13.heap.size := by omega); (try have hyw1213 : w12.heap.size < w13.heap.size := by omega)))
        all_goals (go_wp2_with (fail); go_meet; exact ⟨rfl, rfl, (by repeat (first | exact Below.refl _ _ | refine Below.setCell ?_ (by first | (simp; done) | (simp; omega) | omega) _ | refine Below.alloc ?_ (by first | (simp; done) | (simp; omega) | omega) _ | refine Below.drew ?_ | assumption | refine Below.trans ?_ (Below.mono (by assumption) (by first | (simp; done) | (simp; omega) | omega))))⟩)
      case rest =>
      obtain ⟨rfl, rfl, hC6⟩ := hcut
      obtain ⟨wn6, rfl⟩ : ∃ wn6 : World, wn6 = wc := ⟨_, rfl⟩
      replace BA := Lib.hid (BA.out.below hC6)
      replace BB := Lib.hid (BB.out.below hC6)
      replace Qb1 := Lib.hid (Qb1.out.below hC6)
      replace Qb2 := Lib.hid (Qb2.out.below hC6)
      replace Qb3 := Lib.hid (Qb3.out.below hC6)
      replace Qb4 := Lib.hid (Qb4.out.below hC6)
      replace AW := Lib.hid (AW.out.below hC6)
      replace BW := BW.trans (hC6.mono (by first | (simp; done) | (simp; omega) | omega))
      have hS6 := hC6.size
      go_upto_region 15 with (fail)
      go_cut [28, 29] from 122 to 128 (fun p q wx => ∃ b : Nat, p = .pointer (some ⟨b, 0, none⟩) ∧ q = .int .i64 e4 ∧ Hid (Bx wx b x4 X4) ∧ Below wn6.heap.size wn6 wx)
      case first =>
        obtain ⟨qa0, qa1, qa2⟩ := BA.out
        obtain ⟨qb0, qb1, qb2⟩ := BB.out
        clear HN6 A1 R1 A2 R2 A3 R3 R4 A5 R5 A6 R6 NU SM AM
        go_wp2_with (first | (go_at_call 34; (with_reducible refine (A4.out _).mono ?_); rintro e w10 ⟨rfl, hb10⟩; obtain ⟨hc10, hf10⟩ := bcell hb10; have hs10 := hb10.size; (try simp at hs10); have hz10 : w.heap.size < w10.heap.size ∧ w.heap.size < w10.heap.size + 1 ∧ w.heap.size + 1 < w10.heap.size ∧ w.heap.size + 1 < w10.heap.size + 1 := (by omega)))
        go_meet; exact ⟨_, rfl, rfl, Lib.hid ⟨(by first | (simp; done) | (simp; omega) | omega), by simp [go_sem, *], by simp [go_sem, *]⟩, (by repeat (first | exact Below.refl _ _ | refine Below.setCell ?_ (by first | (simp; done) | (simp; omega) | omega) _ | refine Below.alloc ?_ (by first | (simp; done) | (simp; omega) | omega) _ | refine Below.drew ?_ | assumption | refine Below.trans ?_ (Below.mono (by assumption) (by first | (simp; done) | (simp; omega) | omega))))⟩
      case rest =>
      obtain ⟨b7, rfl, rfl, Qb7, hC7⟩ := hcut
      obtain ⟨wn7, rfl⟩ : ∃ wn7 : World, wn7 = wc := ⟨_, rfl⟩
      replace BA := Lib.hid (BA.out.below hC7)
      replace BB := Lib.hid (BB.out.below hC7)
      replace Qb1 := Lib.hid (Qb1.out.below hC7)
      replace Qb2 := Lib.hid (Qb2.out.below hC7)
      replace Qb3 := Lib.hid (Qb3.out.below hC7)
      replace Qb4 := Lib.hid (Qb4.out.below hC7)
      replace AW := Lib.hid (AW.out.below hC7)
      replace BW := BW.trans (hC7.mono (by first | (simp; done) | (simp; omega) | omega))
      have hS7 := hC7.size
      go_upto_region 16 with (fail)
      go_cut [30, 31] from 129 to 136 (fun p q wx => ∃ b : Nat, p = .pointer (some ⟨b, 0, none⟩) ∧ q = .int .i64 e4 ∧ Hid (Bx wx b x4 X4) ∧ Below wn7.heap.size wn7 wx)
      case first =>
        obtain ⟨qa0, qa1, qa2⟩ := BA.out
        obtain ⟨qb0, qb1, qb2⟩ := BB.out
        clear HN6 A1 R1 A2 R2 A3 R3 A4 A5 R5 A6 R6 NU SM
        go_wp2_with (first | (go_at_call 21; (with_reducible refine (AM.out u C _).mono ?_); rintro e w11 ⟨rfl, hb11⟩; obtain ⟨hc11, hf11⟩ := bcell hb11; have hs11 := hb11.size; (try simp at hs11); have hz11 : w.heap.size < w11.heap.size ∧ w.heap.size < w11.heap.size + 1 ∧ w.heap.size + 1 < w11.heap.size ∧ w.heap.size + 1 < w11.heap.size + 1 := (by omega)) | (go_at_call 47; (with_reducible refine (R4.out _).mono ?_); rintro e w13 ⟨rfl, hb13⟩; obtain ⟨hc13, hf13⟩ := bcell hb13; have hs13 := hb13.size; (try simp at hs13); have hz13 : w.heap.size < w13.heap.size ∧ w.heap.size < w13.heap.size + 1 ∧ w.heap.size + 1 < w13.heap.size ∧ w.heap.size + 1 < w13.heap.size + 1 := (by omega)))
        go_meet; exact ⟨_, rfl, rfl, Lib.hid ⟨(by first | (simp; done) | (simp; omega) | omega), by simp [go_sem, *], by simp [go_sem, *]⟩, (by repeat (first | exact Below.refl _ _ | refine Below.setCell ?_ (by first | (simp; done) | (simp; omega) | omega) _ | refine Below.alloc ?_ (by first | (simp; done) | (simp; omega) | omega) _ | refine Below.drew ?_ | assumption | refine Below.trans ?_ (Below.mono (by assumption) (by first | (simp; done) | (simp; omega) | omega))))⟩
      case rest =>
      obtain ⟨b8, rfl, rfl, Qb8, hC8⟩ := hcut
      obtain ⟨wn8, rfl⟩ : ∃ wn8 : World, wn8 = wc := ⟨_, rfl⟩
      replace BA := Lib.hid (BA.out.below hC8)
      replace BB := Lib.hid (BB.out.below hC8)
      replace Qb1 := Lib.hid (Qb1.out.below hC8)
      replace Qb2 := Lib.hid (Qb2.out.below hC8)
      replace Qb3 := Lib.hid (Qb3.out.below hC8)
      replace Qb4 := Lib.hid (Qb4.out.below hC8)
      replace Qb7 := Lib.hid (Qb7.out.below hC8)
      replace AW := Lib.hid (AW.out.below hC8)
      replace BW := BW.trans (hC8.mono (by first | (simp; done) | (simp; omega) | omega))
      have hS8 := hC8.size
      go_upto_region 17 with (fail)
      go_cut [32, 33] from 137 to 142 (fun p q wx => ∃ b : Nat, p = .pointer (some ⟨b, 0, none⟩) ∧ q = .int .i64 e5 ∧ Hid (Bx wx b x5 X5) ∧ Below wn8.heap.size wn8 wx)
      case first =>
        obtain ⟨qa0, qa1, qa2⟩ := BA.out
        obtain ⟨qb0, qb1, qb2⟩ := BB.out
        clear HN6 A1 R1 A2 R2 A3 R3 A4 R4 R5 A6 R6 NU SM AM
        go_wp2_with (first | (go_at_call 35; (with_reducible refine (A5.out _ (by repeat (first | exact Below.refl _ _ | refine Below.setCell ?_ (by first | (simp; done) | (simp; omega) | omega) _ | refine Below.alloc ?_ (by first | (simp; done) | (simp; omega) | omega) _ | refine Below.drew ?_ | assumption | refine Below.trans ?_ (Below.mono (by assumption) (by first | (simp; done) | (simp; omega) | omega))))).mono ?_); rintro e w10 ⟨rfl, hb10⟩; obtain ⟨hc10, hf10⟩ := bcell hb10; have hs10 := hb10.size; (try simp at hs10); have hz10 : w.heap.size < w10.heap.size ∧ w.heap.size < w10.heap.size + 1 ∧ w.heap.size + 1 < w10.heap.size ∧ w.heap.size + 1 < w10.heap.size + 1 := (by omega)))
        go_meet; exact ⟨_, rfl, rfl, Lib.hid ⟨(by first | (simp; done) | (simp; omega) | omega), by simp [go_sem, *], by simp [go_sem, *]⟩, (by repeat (first | exact Below.refl _ _ | refine Below.setCell ?_ (by first | (simp; done) | (simp; omega) | omega) _ | refine Below.alloc ?_ (by first | (simp; done) | (simp; omega) | omega) _ | refine Below.drew ?_ | assumption | refine Below.trans ?_ (Below.mono (by assumption) (by first | (simp; done) | (simp; omega) | omega))))⟩
      case rest =>
      obtain ⟨b9, rfl, rfl, Qb9, hC9⟩ := hcut
      obtain ⟨wn9, rfl⟩ : ∃ wn9 : World, wn9 = wc := ⟨_, rfl⟩
      replace BA := Lib.hid (BA.out.below hC9)
      replace BB := Lib.hid (BB.out.below hC9)
      replace Qb1 := Lib.hid (Qb1.out.below hC9)
      replace Qb2 := Lib.hid (Qb2.out.below hC9)
      replace Qb3 := Lib.hid (Qb3.out.below hC9)
      replace Qb4 := Lib.hid (Qb4.out.below hC9)
      replace Qb7 := Lib.hid (Qb7.out.below hC9)
      replace Qb8 := Lib.hid (Qb8.out.below hC9)
      replace AW := Lib.hid (AW.out.below hC9)
      replace BW := BW.trans (hC9.mono (by first | (simp; done) | (simp; omega) | omega))
      have hS9 := hC9.size
      go_upto_region 18 with (fail)
      go_cut [34, 35] from 143 to 148 (fun p q wx => ∃ b : Nat, p = .pointer (some ⟨b, 0, none⟩) ∧ q = .int .i64 e5 ∧ Hid (Bx wx b x5 X5) ∧ Below wn9.heap.size wn9 wx)
      case first =>
        obtain ⟨qa0, qa1, qa2⟩ := BA.out
        obtain ⟨qb0, qb1, qb2⟩ := BB.out
        clear HN6 A1 R1 A2 R2 A3 R3 A4 R4 A5 A6 R6 NU SM AM
        go_wp2_with (first | (go_at_call 48; (with_reducible refine (R5.out _ _ _ AW.out).mono ?_); rintro e w13 ⟨rfl, hb13⟩; obtain ⟨hc13, hf13⟩ := bcell hb13; have hs13 := hb13.size; (try simp at hs13); have hz13 : w.heap.size < w13.heap.size ∧ w.heap.size < w13.heap.size + 1 ∧ w.heap.size + 1 < w13.heap.size ∧ w.heap.size + 1 < w13.heap.size + 1 := (by omega)))
        go_meet; exact ⟨_, rfl, rfl, Lib.hid ⟨(by first | (simp; done) | (simp; omega) | omega), by simp [go_sem, *], by simp [go_sem, *]⟩, (by repeat (first | exact Below.refl _ _ | refine Below.setCell ?_ (by first | (simp; done) | (simp; omega) | omega) _ | refine Below.alloc ?_ (by first | (simp; done) | (simp; omega) | omega) _ | refine Below.drew ?_ | assumption | refine Below.trans ?_ (Below.mono (by assumption) (by first | (simp; done) | (simp; omega) | omega))))⟩
      case rest =>
      obtain ⟨b10, rfl, rfl, Qb10, hC10⟩ := hcut
      obtain ⟨wn10, rfl⟩ : ∃ wn10 : World, wn10 = wc := ⟨_, rfl⟩
      replace BA := Lib.hid (BA.out.below hC10)
      replace BB := Lib.hid (BB.out.below hC10)
      replace Qb1 := Lib.hid (Qb1.out.below hC10)
      replace Qb2 := Lib.hid (Qb2.out.below hC10)
      replace Qb3 := Lib.hid (Qb3.out.below hC10)
      replace Qb4 := Lib.hid (Qb4.out.below hC10)
      replace Qb7 := Lib.hid (Qb7.out.below hC10)
      replace Qb8 := Lib.hid (Qb8.out.below hC10)
      replace Qb9 := Lib.hid (Qb9.out.below hC10)
      replace AW := Lib.hid (AW.out.below hC10)
      replace BW := BW.trans (hC10.mono (by first | (simp; done) | (simp; omega) | omega))
      have hS10 := hC10.size
      go_upto_region 19 with (fail)
      go_cut [36, 37] from 149 to 153 (fun p q wx => ∃ b : Nat, p = .pointer (some ⟨b, 0, none⟩) ∧ q = .int .i64 e6 ∧ Hid (Bx wx b x6 X6) ∧ Below wn10.heap.size wn10 wx)
      case first =>
        obtain ⟨qa0, qa1, qa2⟩ := BA.out
        obtain ⟨qb0, qb1, qb2⟩ := BB.out
        clear HN6 A1 R1 A2 R2 A3 R3 A4 R4 A5 R5 R6 NU SM AM
        go_wp2_with (first | (go_at_call 49; (with_reducible refine (A6.out _).mono ?_); rintro e w10 ⟨rfl, hb10⟩; obtain ⟨hc10, hf10⟩ := bcell hb10; have hs10 := hb10.size; (try simp at hs10); have hz10 : w.heap.size < w10.heap.size ∧ w.heap.size < w10.heap.size + 1 ∧ w.heap.size + 1 < w10.heap.size ∧ w.heap.size + 1 < w10.heap.size + 1 := (by omega)))
        go_meet; exact ⟨_, rfl, rfl, Lib.hid ⟨(by first | (simp; done) | (simp; omega) | omega), by simp [go_sem, *], by simp [go_sem, *]⟩, (by repeat (first | exact Below.refl _ _ | refine Below.setCell ?_ (by first | (simp; done) | (simp; omega) | omega) _ | refine Below.alloc ?_ (by first | (simp; done) | (simp; omega) | omega) _ | refine Below.drew ?_ | assumption | refine Below.trans ?_ (Below.mono (by assumption) (by first | (simp; done) | (simp; omega) | omega))))⟩
      case rest =>
      obtain ⟨b11, rfl, rfl, Qb11, hC11⟩ := hcut
      obtain ⟨wn11, rfl⟩ : ∃ wn11 : World, wn11 = wc := ⟨_, rfl⟩
      replace BA := Lib.hid (BA.out.below hC11)
      replace BB := Lib.hid (BB.out.below hC11)
      replace Qb1 := Lib.hid (Qb1.out.below hC11)
      replace Qb2 := Lib.hid (Qb2.out.below hC11)
      replace Qb3 := Lib.hid (Qb3.out.below hC11)
      replace Qb4 := Lib.hid (Qb4.out.below hC11)
      replace Qb7 := Lib.hid (Qb7.out.below hC11)
      replace Qb8 := Lib.hid (Qb8.out.below hC11)
      replace Qb9 := Lib.hid (Qb9.out.below hC11)
      replace Qb10 := Lib.hid (Qb10.out.below hC11)
      replace AW := Lib.hid (AW.out.below hC11)
      replace BW := BW.trans (hC11.mono (by first | (simp; done) | (simp; omega) | omega))
      have hS11 := hC11.size
      go_upto_region 20 with (fail)
      go_cut [38] from 154 to 156 (fun q wx => q = .int .i64 e6 ∧ Below wn11.heap.size wn11 wx)
      case first =>
        obtain ⟨qa0, qa1, qa2⟩ := BA.out
        obtain ⟨qb0, qb1, qb2⟩ := BB.out
        clear HN6 A1 R1 A2 R2 A3 R3 A4 R4 A5 R5 A6 NU SM
        go_wp2_with (first | (go_at_call 21; (with_reducible refine (AM.out u C _).mono ?_); rintro e w11 ⟨rfl, hb11⟩; obtain ⟨hc11, hf11⟩ := bcell hb11; have hs11 := hb11.size; (try simp at hs11); have hz11 : w.heap.size < w11.heap.size ∧ w.heap.size < w11.heap.size + 1 ∧ w.heap.size + 1 < w11.heap.size ∧ w.heap.size + 1 < w11.heap.size + 1 := (by omega)) | (go_at_call 29; (with_reducible refine (R6.out _).mono ?_); rintro e w13 ⟨rfl, hb13⟩; obtain ⟨hc13, hf13⟩ := bcell hb13; have hs13 := hb13.size; (try simp at hs13); have hz13 : w.heap.size < w13.heap.size ∧ w.heap.size < w13.heap.size + 1 ∧ w.heap.size + 1 < w13.heap.size ∧ w.heap.size + 1 < w13.heap.size + 1 := (by omega)))
        go_meet; exact ⟨rfl, (by repeat (first | exact Below.refl _ _ | refine Below.setCell ?_ (by first | (simp; done) | (simp; omega) | omega) _ | refine Below.alloc ?_ (by first | (simp; done) | (simp; omega) | omega) _ | refine Below.drew ?_ | assumption | refine Below.trans ?_ (Below.mono (by assumption) (by first | (simp; done) | (simp; omega) | omega))))⟩
      case rest =>
      obtain ⟨rfl, hC12⟩ := hcut
      obtain ⟨wn12, rfl⟩ : ∃ wn12 : World, wn12 = wc := ⟨_, rfl⟩
      replace BA := Lib.hid (BA.out.below hC12)
      replace BB := Lib.hid (BB.out.below hC12)
      replace Qb1 := Lib.hid (Qb1.out.below hC12)
      replace Qb2 := Lib.hid (Qb2.out.below hC12)
      replace Qb3 := Lib.hid (Qb3.out.below hC12)
      replace Qb4 := Lib.hid (Qb4.out.below hC12)
      replace Qb7 := Lib.hid (Qb7.out.below hC12)
      replace Qb8 := Lib.hid (Qb8.out.below hC12)
      replace Qb9 := Lib.hid (Qb9.out.below hC12)
      replace Qb10 := Lib.hid (Qb10.out.below hC12)
      replace Qb11 := Lib.hid (Qb11.out.below hC12)
      replace AW := Lib.hid (AW.out.below hC12)
      replace BW := BW.trans (hC12.mono (by first | (simp; done) | (simp; omega) | omega))
      have hS12 := hC12.size
      clear A1 R1 A2 R2 A3 R3 A4 R4 A5 R5 A6 R6 AW AM
      go_upto_region 21 with (fail)
      go_cut [39] from 157 to 182 (fun p wx => p = .bool true ∧ wn12 = wx)
      case first =>
        obtain ⟨qa0, qa1, qa2⟩ := BA.out
        obtain ⟨qn0, qn1, qn2⟩ := Qb11.out
        clear NU SM
        rcases HN6.out with ⟨rfl, rfl, rfl, hw⟩ | ⟨h6, rfl, rfl⟩
        · go_wp2_with (fail)
          go_meet
          exact ⟨rfl, rfl⟩
        · have h6a : (e6 == 0) = false := beq_eq_false_iff_ne.2 h6
          have h6b : (e6 != 0) = true := bne_iff_ne.2 h6
          go_wp2_with (fail)
          go_meet
          exact ⟨rfl, rfl⟩
      case rest =>
      obtain ⟨rfl, rfl⟩ := hcut
      obtain ⟨qb10, qb11, qb12⟩ := Qb1.out
      obtain ⟨qb20, qb21, qb22⟩ := Qb2.out
      obtain ⟨qb30, qb31, qb32⟩ := Qb3.out
      obtain ⟨qb40, qb41, qb42⟩ := Qb4.out
      obtain ⟨qb70, qb71, qb72⟩ := Qb7.out
      obtain ⟨qb80, qb81, qb82⟩ := Qb8.out
      obtain ⟨qb90, qb91, qb92⟩ := Qb9.out
      obtain ⟨qb100, qb101, qb102⟩ := Qb10.out
      obtain ⟨qb110, qb111, qb112⟩ := Qb11.out
      clear HN6 BA BB Qb1 Qb2 Qb3 Qb4 Qb7 Qb8 Qb9 Qb10 Qb11 hC1 hC2 hC3 hC4 hC5 hC6 hC7 hC8 hC9 hC10 hC11 hC12 hS1 hS2 hS3 hS4 hS5 hS6 hS7 hS8 hS9 hS10 hS11 hB0
      have SM2 : Hid (∀ x X W, Below wn12.heap.size wn12 W → Calls Tryz.prog 23 #[.agg #[.int .i64 x, .string X], .agg #[.int .i64 x, .string X]] W fun e w' => e = .returned (.bool true) ∧ Below wn12.heap.size wn12 w') := Lib.hid fun x X W hb => (SM.out x X W).mono fun e w9 hh => ⟨hh.1, hb.trans (hh.2.mono hb.size)⟩
      have NU2 : Hid (∀ q W, Below wn12.heap.size wn12 W → Calls Tryz.prog 17 #[.int .i64 q] W fun e w' => e = .returned (.int .i64 q) ∧ Below wn12.heap.size wn12 w') := Lib.hid fun q W hb => (NU.out q W).mono fun e w9 hh => ⟨hh.1, hb.trans (hh.2.mono hb.size)⟩
      have B00 := Below.refl wn12.heap.size wn12
      have hle := BW.size
      clear SM NU
      go_wp2_with (first | (go_at_call 23; (refine (SM2.out _ _ _ (by assumption)).mono ?_); rintro e w20 ⟨rfl, hb20⟩; obtain ⟨hc20, hf20⟩ := bcell hb20) | (go_at_call 17; (refine (NU2.out _ _ (by assumption)).mono ?_); rintro e w21 ⟨rfl, hb21⟩; obtain ⟨hc21, hf21⟩ := bcell hb21))
      go_ret
      exact ⟨rfl, BW.trans (Below.mono (by assumption) hle)⟩
theorem sums_walk6 (u : Int) (c : List UInt8) (v : Int) (d : List UInt8) (n m : Int) (cu : List UInt8) (A : Option Addr) (k cp : Nat) (l : List (Int × List UInt8)) (hl : l.length = k) (_hm : k ≤ 9223372036854775807) (_hu : In64 u) (_hv : In64 v) (hn : In64 n) (hm : In64 m) (_hw : ∀ t ∈ l, In64 t.1) (w : World) (T : Am w A l) (E : Env w) :
    Calls Tryz.prog 10 #[.agg #[.int .i64 u, .string ⟨c.toArray⟩], .agg #[.int .i64 v, .string ⟨d.toArray⟩], .int .i64 n, .int .i64 m, .string ⟨cu.toArray⟩, .slice A k cp] w fun e w' => e = .returned (.bool true) ∧ Below w.heap.size w w' := by
  by_cases h1 : 60 < k
  · exact sums_big u c v d n m cu A k cp w E (.inl h1)
  by_cases h2 : 200 < c.length
  · exact sums_big u c v d n m cu A k cp w E (.inr (.inl ⟨by omega, h2⟩))
  by_cases h3 : 200 < d.length
  · exact sums_big u c v d n m cu A k cp w E (.inr (.inr (.inl ⟨by omega, by omega, h3⟩)))
  by_cases h4 : 200 < cu.length
  · exact sums_big u c v d n m cu A k cp w E (.inr (.inr (.inr ⟨by omega, by omega, by omega, h4⟩)))
  exact sums_main u c v d n m hn hm cu A k cp l hl (by omega) (by omega) (by omega) (by omega) w T E
end Go.Proofs.YtdpoahfjiomhbaaGreatDoor

