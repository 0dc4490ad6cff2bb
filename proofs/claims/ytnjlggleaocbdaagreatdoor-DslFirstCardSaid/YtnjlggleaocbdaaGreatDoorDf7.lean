/-
  Contract of the printer's lay. (Printed by tools/mkdf7.py.)
-/
import Derived.Test.YtnjlggleaocbdaaGreatDoorDf6
import Derived.Test.YtnjlggleaocbdaaGreatDoorDq1
namespace Go.Proofs.YtnjlggleaocbdaaGreatDoor
set_option linter.all false
open Go.RowKit Go.Shelf
attribute [local go_sem] cell_set_self lt_1 lt_2 lt_3 lt_4 lt_5 lt_6

set_option maxHeartbeats 8000000 in
set_option maxRecDepth 100000 in
theorem lay_4 (n : Int) (s : List UInt8) (args : List ExprT) (hf : fine1 4 n s args.length = true) (hs : s.length ≤ 1000000) : LayOk (.mk 4 n s args) := by
  intro B b l cs w H E h8 hv hl
  obtain ⟨A, c, rfl, hac, hA, hL⟩ := hv.open
  dsimp only [exprC]
  obtain ⟨X, hX⟩ : ∃ X, layX (.mk 4 n s args) = X := ⟨_, rfl⟩
  rw [hX] at hl ⊢
  have hX2 : X = s := by rw [← hX, layX, if_neg (by decide), if_neg (by decide), if_neg (by decide), if_pos rfl]
  clear hX
  subst hX2
  suffices key : ∀ Q : Ending → World → Prop, Hid (∀ e w', ((∃ v, e = .returned v) ∧ PrS B b (l ++ X) w' ∧ Grew B b w w') → Q e w') → Calls Tryz.prog 25 #[.pointer (some ⟨b, 0, none⟩), .agg #[.int .i64 4, .int .i64 n, .string ⟨X.toArray⟩, .slice A args.length c]] w Q from key _ (Lib.hid fun _ _ h => h)
  intro Q HQQ
  have hlt := H.2.2
  have hBw := H.2.1
  have HP1 : Hid (PrS B b l (w.alloc (.cells #[.int .i64 4, .int .i64 n, .string ⟨X.toArray⟩, .slice A args.length c] 24))) := Lib.hid (H.full ((Below.refl _ _).alloc (Nat.le_refl _) _))
  have HG1 : Hid (Grew B b w (w.alloc (.cells #[.int .i64 4, .int .i64 n, .string ⟨X.toArray⟩, .slice A args.length c] 24))) := Lib.hid (Grew.full ((Below.refl _ _).alloc (Nat.le_refl _) _) hBw)
  have HZ1 := Lib.hid (heap_alloc_new w (.cells #[.int .i64 4, .int .i64 n, .string ⟨X.toArray⟩, .slice A args.length c] 24))
  have HE1 : Hid (Env (w.alloc (.cells #[.int .i64 4, .int .i64 n, .string ⟨X.toArray⟩, .slice A args.length c] 24))) := Lib.hid (E.grew HG1.out h8)
  have HV := Lib.hid hv
  have hwb : w.heap.size ≠ b := by omega
  have hs1 : (w.alloc (.cells #[.int .i64 4, .int .i64 n, .string ⟨X.toArray⟩, .slice A args.length c] 24)).heap.size = w.heap.size + 1 := by simp
  have hBb := H.1
  clear H E hv hf
  go_enter Tryz.func25, Tryz.ntmps25
  go_upto_region 16 with (fail)
  refine name_world ?_
  intro V1 hV1
  rw [← hV1] at HP1 HG1 HZ1 HE1 hs1
  clear hV1
  generalize w.heap.size = z at *
  obtain ⟨⟨z0, z1, z2, z3⟩, zf⟩ := four_cells HZ1.out
  have hzl : z < V1.heap.size := by omega
  have hbl := HP1.out.2.2
  have HPC := Lib.hid (PrS.full HP1.out (Below.drew (Below.refl _ _)))
  have HGC := Lib.hid (HG1.out.trans (Grew.full (b := b) (B := B) (w := V1) (Below.drew (Below.refl _ _)) HP1.out.2.1))
  have HZC := HZ1
  go_region_held3 (fun w' => w'.cell? ⟨z, 2, none⟩ = some (.string ⟨X.toArray⟩)) (first | assumption | (simp [go_sem, *]; done)) (first | (go_at_call 36; (refine (PrS.write (b := b) (B := B) (l := l) HPC.out X (by omega)).mono ?_); rintro e w5 ⟨⟨v5, rfl⟩, hp5, hg5⟩; have hz5 := hg5.cells HZC.out hwb (by decide); have kz5 : w5.cell? ⟨z, 2, none⟩ = some (.string ⟨X.toArray⟩) := (four_cells hz5).1.2.2.1; have HF := Lib.hid (HQQ.out (.returned (.tuple #[])) w5 ⟨⟨_, rfl⟩, hp5, HGC.out.trans hg5⟩); clear hz5 hp5 hg5))
  all_goals (go_wp2_with (fail); refine bodyPost_end (results_none rfl _ _ _) rfl ?_; exact HF.out)
set_option maxHeartbeats 8000000 in
set_option maxRecDepth 100000 in
theorem lay_5 (n : Int) (s : List UInt8) (args : List ExprT) (hf : fine1 5 n s args.length = true) (hs : s.length ≤ 1000000) : LayOk (.mk 5 n s args) := by
  intro B b l cs w H E h8 hv hl
  obtain ⟨A, c, rfl, hac, hA, hL⟩ := hv.open
  dsimp only [exprC]
  obtain ⟨X, hX⟩ : ∃ X, layX (.mk 5 n s args) = X := ⟨_, rfl⟩
  rw [hX] at hl ⊢
  have hX2 : X = [107, 110, 111, 119, 110, 32] ++ s := by rw [← hX, layX, if_neg (by decide), if_neg (by decide), if_neg (by decide), if_neg (by decide), if_pos rfl]; rfl
  have hcat : (⟨#[107, 110, 111, 119, 110, 32]⟩ : ByteArray) ++ ⟨s.toArray⟩ = ⟨X.toArray⟩ := by rw [hX2]; apply ByteArray.ext; simp
  have hsz : (⟨s.toArray⟩ : ByteArray).size = s.length := by simp [ByteArray.size]
  clear hX hX2
  suffices key : ∀ Q : Ending → World → Prop, Hid (∀ e w', ((∃ v, e = .returned v) ∧ PrS B b (l ++ X) w' ∧ Grew B b w w') → Q e w') → Calls Tryz.prog 25 #[.pointer (some ⟨b, 0, none⟩), .agg #[.int .i64 5, .int .i64 n, .string ⟨s.toArray⟩, .slice A args.length c]] w Q from key _ (Lib.hid fun _ _ h => h)
  intro Q HQQ
  have hlt := H.2.2
  have hBw := H.2.1
  have HP1 : Hid (PrS B b l (w.alloc (.cells #[.int .i64 5, .int .i64 n, .string ⟨s.toArray⟩, .slice A args.length c] 24))) := Lib.hid (H.full ((Below.refl _ _).alloc (Nat.le_refl _) _))
  have HG1 : Hid (Grew B b w (w.alloc (.cells #[.int .i64 5, .int .i64 n, .string ⟨s.toArray⟩, .slice A args.length c] 24))) := Lib.hid (Grew.full ((Below.refl _ _).alloc (Nat.le_refl _) _) hBw)
  have HZ1 := Lib.hid (heap_alloc_new w (.cells #[.int .i64 5, .int .i64 n, .string ⟨s.toArray⟩, .slice A args.length c] 24))
  have HE1 : Hid (Env (w.alloc (.cells #[.int .i64 5, .int .i64 n, .string ⟨s.toArray⟩, .slice A args.length c] 24))) := Lib.hid (E.grew HG1.out h8)
  have HV := Lib.hid hv
  have hwb : w.heap.size ≠ b := by omega
  have hs1 : (w.alloc (.cells #[.int .i64 5, .int .i64 n, .string ⟨s.toArray⟩, .slice A args.length c] 24)).heap.size = w.heap.size + 1 := by simp
  have hBb := H.1
  clear H E hv hf
  obtain ⟨U, hU⟩ : ∃ U : ByteArray, (⟨s.toArray⟩ : ByteArray) = U := ⟨_, rfl⟩
  rw [hU] at hcat hsz HP1 HG1 HZ1 HE1 hs1 ⊢
  have hz1 : U.size ≤ 1000000 := by omega
  have hz2 : ¬ 9223372036854775807 < 6 + U.size ∧ 6 + U.size ≤ 9223372036854775807 := by omega
  clear hU hsz
  go_enter Tryz.func25, Tryz.ntmps25
  go_upto_region 18 with (fail)
  refine name_world ?_
  intro V1 hV1
  rw [← hV1] at HP1 HG1 HZ1 HE1 hs1
  clear hV1
  generalize w.heap.size = z at *
  obtain ⟨⟨z0, z1, z2, z3⟩, zf⟩ := four_cells HZ1.out
  have hzl : z < V1.heap.size := by omega
  have hbl := HP1.out.2.2
  have HPC := Lib.hid (PrS.full HP1.out (Below.drew (Below.refl _ _)))
  have HGC := Lib.hid (HG1.out.trans (Grew.full (b := b) (B := B) (w := V1) (Below.drew (Below.refl _ _)) HP1.out.2.1))
  have HZC := HZ1
  go_region_held3 (fun w' => w'.cell? ⟨z, 2, none⟩ = some (.string U)) (first | assumption | (simp [go_sem, *]; done)) (first | (go_at_call 36; (refine (PrS.write (b := b) (B := B) (l := l) HPC.out X (by omega)).mono ?_); rintro e w5 ⟨⟨v5, rfl⟩, hp5, hg5⟩; have hz5 := hg5.cells HZC.out hwb (by decide); have kz5 : w5.cell? ⟨z, 2, none⟩ = some (.string U) := (four_cells hz5).1.2.2.1; have HF := Lib.hid (HQQ.out (.returned (.tuple #[])) w5 ⟨⟨_, rfl⟩, hp5, HGC.out.trans hg5⟩); clear hz5 hp5 hg5))
  all_goals (go_wp2_with (fail); refine bodyPost_end (results_none rfl _ _ _) rfl ?_; exact HF.out)
set_option maxHeartbeats 8000000 in
set_option maxRecDepth 100000 in
theorem lay_1 (n : Int) (s : List UInt8) (args : List ExprT) (hf : fine1 1 n s args.length = true) (hs : s.length ≤ 1000000) : LayOk (.mk 1 n s args) := by
  intro B b l cs w H E h8 hv hl
  obtain ⟨A, c, rfl, hac, hA, hL⟩ := hv.open
  dsimp only [exprC]
  obtain ⟨X, hX⟩ : ∃ X, layX (.mk 1 n s args) = X := ⟨_, rfl⟩
  rw [hX] at hl ⊢
  have hX2 : X = Lib.itoa n := by rw [← hX, layX, if_pos rfl]
  have hnn : 0 ≤ n ∧ n ≤ 4611686018427387904 := by rw [fine1_eq] at hf; simp [kindB] at hf; omega
  have MK := Lib.hid (fun V (E : Env V) => itoa_any n (by omega) (by omega) V E)
  rw [← hX2] at MK
  clear hX hX2 hnn
  suffices key : ∀ Q : Ending → World → Prop, Hid (∀ e w', ((∃ v, e = .returned v) ∧ PrS B b (l ++ X) w' ∧ Grew B b w w') → Q e w') → Calls Tryz.prog 25 #[.pointer (some ⟨b, 0, none⟩), .agg #[.int .i64 1, .int .i64 n, .string ⟨s.toArray⟩, .slice A args.length c]] w Q from key _ (Lib.hid fun _ _ h => h)
  intro Q HQQ
  have hlt := H.2.2
  have hBw := H.2.1
  have HP1 : Hid (PrS B b l (w.alloc (.cells #[.int .i64 1, .int .i64 n, .string ⟨s.toArray⟩, .slice A args.length c] 24))) := Lib.hid (H.full ((Below.refl _ _).alloc (Nat.le_refl _) _))
  have HG1 : Hid (Grew B b w (w.alloc (.cells #[.int .i64 1, .int .i64 n, .string ⟨s.toArray⟩, .slice A args.length c] 24))) := Lib.hid (Grew.full ((Below.refl _ _).alloc (Nat.le_refl _) _) hBw)
  have HZ1 := Lib.hid (heap_alloc_new w (.cells #[.int .i64 1, .int .i64 n, .string ⟨s.toArray⟩, .slice A args.length c] 24))
  have HE1 : Hid (Env (w.alloc (.cells #[.int .i64 1, .int .i64 n, .string ⟨s.toArray⟩, .slice A args.length c] 24))) := Lib.hid (E.grew HG1.out h8)
  have HV := Lib.hid hv
  have hwb : w.heap.size ≠ b := by omega
  have hs1 : (w.alloc (.cells #[.int .i64 1, .int .i64 n, .string ⟨s.toArray⟩, .slice A args.length c] 24)).heap.size = w.heap.size + 1 := by simp
  have hBb := H.1
  clear H E hv hf
  go_enter Tryz.func25, Tryz.ntmps25
  go_upto_region 10 with (fail)
  refine name_world ?_
  intro V1 hV1
  rw [← hV1] at HP1 HG1 HZ1 HE1 hs1
  clear hV1
  generalize w.heap.size = z at *
  obtain ⟨⟨z0, z1, z2, z3⟩, zf⟩ := four_cells HZ1.out
  have hzl : z < V1.heap.size := by omega
  have hbl := HP1.out.2.2
  have HPC := Lib.hid (PrS.full HP1.out (Below.drew (Below.refl _ _)))
  have HGC := Lib.hid (HG1.out.trans (Grew.full (b := b) (B := B) (w := V1) (Below.drew (Below.refl _ _)) HP1.out.2.1))
  have HZC := HZ1
  go_region_held3 (fun w' => w'.cell? ⟨z, 1, none⟩ = some (.int .i64 n)) (first | assumption | (simp [go_sem, *]; done)) (first | (go_at_call 41; (refine (MK.out _ (HE1.out.below (Below.drew (Below.refl _ _)))).mono ?_); rintro e w3 ⟨rfl, hb3⟩; have hz3 := (Grew.full (b := b) (B := B) hb3 HPC.out.2.1).cells HZC.out hwb (by decide); have kz3 : w3.cell? ⟨z, 1, none⟩ = some (.int .i64 n) := (four_cells hz3).1.2.1; have HGC := Lib.hid (HGC.out.trans (Grew.full hb3 HPC.out.2.1)); have HPC := Lib.hid (PrS.full HPC.out hb3); have HZC := Lib.hid hz3; clear hz3 hb3) | (go_at_call 36; (refine (PrS.write (b := b) (B := B) (l := l) HPC.out X (by omega)).mono ?_); rintro e w5 ⟨⟨v5, rfl⟩, hp5, hg5⟩; have hz5 := hg5.cells HZC.out hwb (by decide); have kz5 : w5.cell? ⟨z, 1, none⟩ = some (.int .i64 n) := (four_cells hz5).1.2.1; have HF := Lib.hid (HQQ.out (.returned (.tuple #[])) w5 ⟨⟨_, rfl⟩, hp5, HGC.out.trans hg5⟩); clear hz5 hp5 hg5))
  all_goals (go_wp2_with (fail); refine bodyPost_end (results_none rfl _ _ _) rfl ?_; exact HF.out)
set_option maxHeartbeats 8000000 in
set_option maxRecDepth 100000 in
theorem lay_2 (n : Int) (s : List UInt8) (args : List ExprT) (hf : fine1 2 n s args.length = true) (hs : s.length ≤ 1000000) : LayOk (.mk 2 n s args) := by
  intro B b l cs w H E h8 hv hl
  obtain ⟨A, c, rfl, hac, hA, hL⟩ := hv.open
  dsimp only [exprC]
  obtain ⟨X, hX⟩ : ∃ X, layX (.mk 2 n s args) = X := ⟨_, rfl⟩
  rw [hX] at hl ⊢
  have hX2 : X = quoteX s := by rw [← hX, layX, if_neg (by decide), if_pos rfl]
  have MK := Lib.hid (fun V (E : Env V) => quote_any s (by omega) V E)
  rw [← hX2] at MK
  clear hX hX2
  suffices key : ∀ Q : Ending → World → Prop, Hid (∀ e w', ((∃ v, e = .returned v) ∧ PrS B b (l ++ X) w' ∧ Grew B b w w') → Q e w') → Calls Tryz.prog 25 #[.pointer (some ⟨b, 0, none⟩), .agg #[.int .i64 2, .int .i64 n, .string ⟨s.toArray⟩, .slice A args.length c]] w Q from key _ (Lib.hid fun _ _ h => h)
  intro Q HQQ
  have hlt := H.2.2
  have hBw := H.2.1
  have HP1 : Hid (PrS B b l (w.alloc (.cells #[.int .i64 2, .int .i64 n, .string ⟨s.toArray⟩, .slice A args.length c] 24))) := Lib.hid (H.full ((Below.refl _ _).alloc (Nat.le_refl _) _))
  have HG1 : Hid (Grew B b w (w.alloc (.cells #[.int .i64 2, .int .i64 n, .string ⟨s.toArray⟩, .slice A args.length c] 24))) := Lib.hid (Grew.full ((Below.refl _ _).alloc (Nat.le_refl _) _) hBw)
  have HZ1 := Lib.hid (heap_alloc_new w (.cells #[.int .i64 2, .int .i64 n, .string ⟨s.toArray⟩, .slice A args.length c] 24))
  have HE1 : Hid (Env (w.alloc (.cells #[.int .i64 2, .int .i64 n, .string ⟨s.toArray⟩, .slice A args.length c] 24))) := Lib.hid (E.grew HG1.out h8)
  have HV := Lib.hid hv
  have hwb : w.heap.size ≠ b := by omega
  have hs1 : (w.alloc (.cells #[.int .i64 2, .int .i64 n, .string ⟨s.toArray⟩, .slice A args.length c] 24)).heap.size = w.heap.size + 1 := by simp
  have hBb := H.1
  clear H E hv hf
  go_enter Tryz.func25, Tryz.ntmps25
  go_upto_region 12 with (fail)
  refine name_world ?_
  intro V1 hV1
  rw [← hV1] at HP1 HG1 HZ1 HE1 hs1
  clear hV1
  generalize w.heap.size = z at *
  obtain ⟨⟨z0, z1, z2, z3⟩, zf⟩ := four_cells HZ1.out
  have hzl : z < V1.heap.size := by omega
  have hbl := HP1.out.2.2
  have HPC := Lib.hid (PrS.full HP1.out (Below.drew (Below.refl _ _)))
  have HGC := Lib.hid (HG1.out.trans (Grew.full (b := b) (B := B) (w := V1) (Below.drew (Below.refl _ _)) HP1.out.2.1))
  have HZC := HZ1
  go_region_held3 (fun w' => w'.cell? ⟨z, 2, none⟩ = some (.string ⟨s.toArray⟩)) (first | assumption | (simp [go_sem, *]; done)) (first | (go_at_call 42; (refine (MK.out _ (HE1.out.below (Below.drew (Below.refl _ _)))).mono ?_); rintro e w3 ⟨rfl, hb3⟩; have hz3 := (Grew.full (b := b) (B := B) hb3 HPC.out.2.1).cells HZC.out hwb (by decide); have kz3 : w3.cell? ⟨z, 2, none⟩ = some (.string ⟨s.toArray⟩) := (four_cells hz3).1.2.2.1; have HGC := Lib.hid (HGC.out.trans (Grew.full hb3 HPC.out.2.1)); have HPC := Lib.hid (PrS.full HPC.out hb3); have HZC := Lib.hid hz3; clear hz3 hb3) | (go_at_call 36; (refine (PrS.write (b := b) (B := B) (l := l) HPC.out X (by omega)).mono ?_); rintro e w5 ⟨⟨v5, rfl⟩, hp5, hg5⟩; have hz5 := hg5.cells HZC.out hwb (by decide); have kz5 : w5.cell? ⟨z, 2, none⟩ = some (.string ⟨s.toArray⟩) := (four_cells hz5).1.2.2.1; have HF := Lib.hid (HQQ.out (.returned (.tuple #[])) w5 ⟨⟨_, rfl⟩, hp5, HGC.out.trans hg5⟩); clear hz5 hp5 hg5))
  all_goals (go_wp2_with (fail); refine bodyPost_end (results_none rfl _ _ _) rfl ?_; exact HF.out)
set_option maxHeartbeats 8000000 in
set_option maxRecDepth 100000 in
theorem lay_3 (n : Int) (s : List UInt8) (args : List ExprT) (hf : fine1 3 n s args.length = true) (hs : s.length ≤ 1000000) : LayOk (.mk 3 n s args) := by
  intro B b l cs w H E h8 hv hl
  obtain ⟨A, c, rfl, hac, hA, hL⟩ := hv.open
  dsimp only [exprC]
  obtain ⟨X, hX⟩ : ∃ X, layX (.mk 3 n s args) = X := ⟨_, rfl⟩
  rw [hX] at hl ⊢
  have hnn : n = 0 ∨ n = 1 := by rw [fine1_eq] at hf; simp [kindB] at hf; omega
  have hX2 : X = if n = 0 then wFalse else wTrue := by rw [← hX, layX, if_neg (by decide), if_neg (by decide), if_pos rfl]
  clear hX
  suffices key : ∀ Q : Ending → World → Prop, Hid (∀ e w', ((∃ v, e = .returned v) ∧ PrS B b (l ++ X) w' ∧ Grew B b w w') → Q e w') → Calls Tryz.prog 25 #[.pointer (some ⟨b, 0, none⟩), .agg #[.int .i64 3, .int .i64 n, .string ⟨s.toArray⟩, .slice A args.length c]] w Q from key _ (Lib.hid fun _ _ h => h)
  intro Q HQQ
  have hlt := H.2.2
  have hBw := H.2.1
  have HP1 : Hid (PrS B b l (w.alloc (.cells #[.int .i64 3, .int .i64 n, .string ⟨s.toArray⟩, .slice A args.length c] 24))) := Lib.hid (H.full ((Below.refl _ _).alloc (Nat.le_refl _) _))
  have HG1 : Hid (Grew B b w (w.alloc (.cells #[.int .i64 3, .int .i64 n, .string ⟨s.toArray⟩, .slice A args.length c] 24))) := Lib.hid (Grew.full ((Below.refl _ _).alloc (Nat.le_refl _) _) hBw)
  have HZ1 := Lib.hid (heap_alloc_new w (.cells #[.int .i64 3, .int .i64 n, .string ⟨s.toArray⟩, .slice A args.length c] 24))
  have HE1 : Hid (Env (w.alloc (.cells #[.int .i64 3, .int .i64 n, .string ⟨s.toArray⟩, .slice A args.length c] 24))) := Lib.hid (E.grew HG1.out h8)
  have HV := Lib.hid hv
  have hwb : w.heap.size ≠ b := by omega
  have hs1 : (w.alloc (.cells #[.int .i64 3, .int .i64 n, .string ⟨s.toArray⟩, .slice A args.length c] 24)).heap.size = w.heap.size + 1 := by simp
  have hBb := H.1
  clear H E hv hf
  rcases hnn with hn0 | hn0
  · subst hn0
    have hX3 : X = [102, 97, 108, 115, 101] := hX2
    clear hX2
    subst hX3
    go_enter Tryz.func25, Tryz.ntmps25
    go_upto_region 14 with (fail)
    refine name_world ?_
    intro V1 hV1
    rw [← hV1] at HP1 HG1 HZ1 HE1 hs1
    clear hV1
    generalize w.heap.size = z at *
    obtain ⟨⟨z0, z1, z2, z3⟩, zf⟩ := four_cells HZ1.out
    have hzl : z < V1.heap.size := by omega
    have hbl := HP1.out.2.2
    refine wp_region_held_drew (S := fun W' => W'.cell? ⟨z, 1, none⟩ = some (.int .i64 0)) (by kernel_rfl) (by simp [go_sem, *]) fun hHeld => ?_
    (refine take2 0 (some 61) (.pointer (some ⟨b, 0, none⟩)) rfl (by kernel_rfl) (by kernel_rfl) (by kernel_rfl) rfl (fun _ _ _ h => h) (Or.inl ⟨by rfl, fun W' hSw => (by (try dsimp only at hSw); go_simp)⟩) (by assumption) ?_; (try simp only [Act.put, List.setIfInBounds_toArray, List.set_cons_zero, List.set_cons_succ]))
    (refine take2 1 (some 62) (.pointer (some ⟨b, 0, none⟩)) rfl (by kernel_rfl) (by kernel_rfl) (by kernel_rfl) rfl (fun _ _ _ h => h) (Or.inl ⟨by rfl, fun W' hSw => (by (try dsimp only at hSw); go_simp)⟩) (by assumption) ?_; (try simp only [Act.put, List.setIfInBounds_toArray, List.set_cons_zero, List.set_cons_succ]))
    (refine take2 2 (some 63) (.pointer (some ⟨b, 0, none⟩)) rfl (by kernel_rfl) (by kernel_rfl) (by kernel_rfl) rfl (fun _ _ _ h => h) (Or.inl ⟨by rfl, fun W' hSw => (by (try dsimp only at hSw); go_simp)⟩) (by assumption) ?_; (try simp only [Act.put, List.setIfInBounds_toArray, List.set_cons_zero, List.set_cons_succ]))
    (refine take2 4 (some 65) (.pointer (some ⟨z, 1, none⟩)) rfl (by kernel_rfl) (by kernel_rfl) (by kernel_rfl) rfl (fun _ _ _ h => h) (Or.inl ⟨by rfl, fun W' hSw => (by (try dsimp only at hSw); go_simp)⟩) (by assumption) ?_; (try simp only [Act.put, List.setIfInBounds_toArray, List.set_cons_zero, List.set_cons_succ]))
    (refine take2 5 (some 66) (.int .i64 0) rfl (by kernel_rfl) (by kernel_rfl) (by kernel_rfl) rfl (fun _ _ _ h => h) (Or.inl ⟨by rfl, fun W' hSw => (by (try dsimp only at hSw); go_simp)⟩) (by assumption) ?_; (try simp only [Act.put, List.setIfInBounds_toArray, List.set_cons_zero, List.set_cons_succ]))
    (refine wpAnyH_ready (rs := [3]) (by kernel_rfl) (by simp) ?_; refine AllReadyH.cons rfl (fun K hK => ?_) AllReadyH.nil; (go_simp); refine hK.out _ _ ?hS1 (fun hHeld1 => ?_); (case hS1 => ((try dsimp only); (first | exact hHeld | (simp [go_sem, *]; done)))); clear hK K hHeld; have hHeld := hHeld1; clear hHeld1; (try simp only [Act.put, List.setIfInBounds_toArray, List.set_cons_zero, List.set_cons_succ]))
    (refine wpAnyH_ready (rs := [6]) (by kernel_rfl) (by simp) ?_; refine AllReadyH.cons rfl (fun K hK => ?_) AllReadyH.nil; (go_simp); refine hK.out _ _ ?hS1 (fun hHeld1 => ?_); (case hS1 => ((try dsimp only); (first | exact hHeld | (simp [go_sem, *]; done)))); clear hK K hHeld; have hHeld := hHeld1; clear hHeld1; (try simp only [Act.put, List.setIfInBounds_toArray, List.set_cons_zero, List.set_cons_succ]))
    (refine wpAnyH_ready (rs := [7]) (by kernel_rfl) (by simp) ?_; refine AllReadyH.cons rfl (fun K hK => ?_) AllReadyH.nil; (go_simp); refine hK.out _ _ ?hS1 (fun hHeld1 => ?_); (case hS1 => ((try dsimp only); (first | exact hHeld | (simp [go_sem, *]; done)))); clear hK K hHeld; have hHeld := hHeld1; clear hHeld1; (try simp only [Act.put, List.setIfInBounds_toArray, List.set_cons_zero, List.set_cons_succ]))
    refine wpAnyH_ready (rs := [8]) (by kernel_rfl) (by simp) ?_
    refine AllReadyH.cons rfl (fun K hK => ?_) AllReadyH.nil
    go_simp
    go_at_call 36
    have hbx : Below V1.heap.size V1 (V1.drew.alloc (.cells #[.string ⟨#[102, 97, 108, 115, 101]⟩, .string ⟨#[116, 114, 117, 101]⟩] 9)) := (Below.drew (Below.refl _ _)).alloc (Nat.le_refl _) _
    refine (PrS.write (b := b) (B := B) (l := l) (HP1.out.full hbx) [102, 97, 108, 115, 101] (by simp at hl ⊢; omega)).mono ?_
    rintro e w5 ⟨⟨v5, rfl⟩, hp5, hg5⟩
    have hg6 := (Grew.full (b := b) (B := B) hbx HP1.out.2.1).trans hg5
    have hz5 := hg6.cells HZ1.out hwb (by decide)
    have HF := Lib.hid (HQQ.out (.returned (.tuple #[])) w5 ⟨⟨_, rfl⟩, hp5, HG1.out.trans hg6⟩)
    refine hK.out _ _ (four_cells hz5).1.2.1 (fun _ => ?_)
    clear hK hz5 hp5 hg5 hg6
    refine wpAnyH_done (by kernel_rfl) ?_ _
    go_wp2_with (fail)
    refine bodyPost_end (results_none rfl _ _ _) rfl ?_
    exact HF.out
  · subst hn0
    have hX3 : X = [116, 114, 117, 101] := hX2
    clear hX2
    subst hX3
    go_enter Tryz.func25, Tryz.ntmps25
    go_upto_region 14 with (fail)
    refine name_world ?_
    intro V1 hV1
    rw [← hV1] at HP1 HG1 HZ1 HE1 hs1
    clear hV1
    generalize w.heap.size = z at *
    obtain ⟨⟨z0, z1, z2, z3⟩, zf⟩ := four_cells HZ1.out
    have hzl : z < V1.heap.size := by omega
    have hbl := HP1.out.2.2
    refine wp_region_held_drew (S := fun W' => W'.cell? ⟨z, 1, none⟩ = some (.int .i64 1)) (by kernel_rfl) (by simp [go_sem, *]) fun hHeld => ?_
    (refine take2 0 (some 61) (.pointer (some ⟨b, 0, none⟩)) rfl (by kernel_rfl) (by kernel_rfl) (by kernel_rfl) rfl (fun _ _ _ h => h) (Or.inl ⟨by rfl, fun W' hSw => (by (try dsimp only at hSw); go_simp)⟩) (by assumption) ?_; (try simp only [Act.put, List.setIfInBounds_toArray, List.set_cons_zero, List.set_cons_succ]))
    (refine take2 1 (some 62) (.pointer (some ⟨b, 0, none⟩)) rfl (by kernel_rfl) (by kernel_rfl) (by kernel_rfl) rfl (fun _ _ _ h => h) (Or.inl ⟨by rfl, fun W' hSw => (by (try dsimp only at hSw); go_simp)⟩) (by assumption) ?_; (try simp only [Act.put, List.setIfInBounds_toArray, List.set_cons_zero, List.set_cons_succ]))
    (refine take2 2 (some 63) (.pointer (some ⟨b, 0, none⟩)) rfl (by kernel_rfl) (by kernel_rfl) (by kernel_rfl) rfl (fun _ _ _ h => h) (Or.inl ⟨by rfl, fun W' hSw => (by (try dsimp only at hSw); go_simp)⟩) (by assumption) ?_; (try simp only [Act.put, List.setIfInBounds_toArray, List.set_cons_zero, List.set_cons_succ]))
    (refine take2 4 (some 65) (.pointer (some ⟨z, 1, none⟩)) rfl (by kernel_rfl) (by kernel_rfl) (by kernel_rfl) rfl (fun _ _ _ h => h) (Or.inl ⟨by rfl, fun W' hSw => (by (try dsimp only at hSw); go_simp)⟩) (by assumption) ?_; (try simp only [Act.put, List.setIfInBounds_toArray, List.set_cons_zero, List.set_cons_succ]))
    (refine take2 5 (some 66) (.int .i64 1) rfl (by kernel_rfl) (by kernel_rfl) (by kernel_rfl) rfl (fun _ _ _ h => h) (Or.inl ⟨by rfl, fun W' hSw => (by (try dsimp only at hSw); go_simp)⟩) (by assumption) ?_; (try simp only [Act.put, List.setIfInBounds_toArray, List.set_cons_zero, List.set_cons_succ]))
    (refine wpAnyH_ready (rs := [3]) (by kernel_rfl) (by simp) ?_; refine AllReadyH.cons rfl (fun K hK => ?_) AllReadyH.nil; (go_simp); refine hK.out _ _ ?hS1 (fun hHeld1 => ?_); (case hS1 => ((try dsimp only); (first | exact hHeld | (simp [go_sem, *]; done)))); clear hK K hHeld; have hHeld := hHeld1; clear hHeld1; (try simp only [Act.put, List.setIfInBounds_toArray, List.set_cons_zero, List.set_cons_succ]))
    (refine wpAnyH_ready (rs := [6]) (by kernel_rfl) (by simp) ?_; refine AllReadyH.cons rfl (fun K hK => ?_) AllReadyH.nil; (go_simp); refine hK.out _ _ ?hS1 (fun hHeld1 => ?_); (case hS1 => ((try dsimp only); (first | exact hHeld | (simp [go_sem, *]; done)))); clear hK K hHeld; have hHeld := hHeld1; clear hHeld1; (try simp only [Act.put, List.setIfInBounds_toArray, List.set_cons_zero, List.set_cons_succ]))
    (refine wpAnyH_ready (rs := [7]) (by kernel_rfl) (by simp) ?_; refine AllReadyH.cons rfl (fun K hK => ?_) AllReadyH.nil; (go_simp); refine hK.out _ _ ?hS1 (fun hHeld1 => ?_); (case hS1 => ((try dsimp only); (first | exact hHeld | (simp [go_sem, *]; done)))); clear hK K hHeld; have hHeld := hHeld1; clear hHeld1; (try simp only [Act.put, List.setIfInBounds_toArray, List.set_cons_zero, List.set_cons_succ]))
    refine wpAnyH_ready (rs := [8]) (by kernel_rfl) (by simp) ?_
    refine AllReadyH.cons rfl (fun K hK => ?_) AllReadyH.nil
    go_simp
    go_at_call 36
    have hbx : Below V1.heap.size V1 (V1.drew.alloc (.cells #[.string ⟨#[102, 97, 108, 115, 101]⟩, .string ⟨#[116, 114, 117, 101]⟩] 9)) := (Below.drew (Below.refl _ _)).alloc (Nat.le_refl _) _
    refine (PrS.write (b := b) (B := B) (l := l) (HP1.out.full hbx) [116, 114, 117, 101] (by simp at hl ⊢; omega)).mono ?_
    rintro e w5 ⟨⟨v5, rfl⟩, hp5, hg5⟩
    have hg6 := (Grew.full (b := b) (B := B) hbx HP1.out.2.1).trans hg5
    have hz5 := hg6.cells HZ1.out hwb (by decide)
    have HF := Lib.hid (HQQ.out (.returned (.tuple #[])) w5 ⟨⟨_, rfl⟩, hp5, HG1.out.trans hg6⟩)
    refine hK.out _ _ (four_cells hz5).1.2.1 (fun _ => ?_)
    clear hK hz5 hp5 hg5 hg6
    refine wpAnyH_done (by kernel_rfl) ?_ _
    go_wp2_with (fail)
    refine bodyPost_end (results_none rfl _ _ _) rfl ?_
    exact HF.out
end Go.Proofs.YtnjlggleaocbdaaGreatDoor
