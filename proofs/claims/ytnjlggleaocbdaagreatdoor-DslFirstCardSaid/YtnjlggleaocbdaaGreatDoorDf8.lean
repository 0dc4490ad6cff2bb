/-
  Contract of the printer's lay: signs with one argument, with two; all together. (Printed by tools/mkdf8.py.)
-/
import Derived.Test.YtnjlggleaocbdaaGreatDoorDf7
namespace Go.Proofs.YtnjlggleaocbdaaGreatDoor
set_option linter.all false
open Go.RowKit Go.Shelf
attribute [local go_sem] cell_set_self lt_1 lt_2 lt_3 lt_4 lt_5 lt_6

set_option maxHeartbeats 8000000 in
set_option maxRecDepth 100000 in
theorem lay_8 (n : Int) (s : List UInt8) (x : ExprT) (hx : LayOk x) : LayOk (.mk 8 n s [x]) := by
  intro B b l cs w H E h8 hv hl
  obtain ⟨A, c, rfl, hac, hA, hL⟩ := hv.open
  dsimp only [exprC, List.length_cons, List.length_nil, Nat.zero_add, Nat.reduceAdd]
  obtain ⟨X, hX⟩ : ∃ X, layX (.mk 8 n s [x]) = X := ⟨_, rfl⟩
  rw [hX] at hl ⊢
  suffices key : ∀ Q : Ending → World → Prop, Hid (∀ e w', ((∃ v, e = .returned v) ∧ PrS B b (l ++ X) w' ∧ Grew B b w w') → Q e w') → Calls Tryz.prog 25 #[.pointer (some ⟨b, 0, none⟩), .agg #[.int .i64 8, .int .i64 n, .string ⟨s.toArray⟩, .slice A 1 c]] w Q from key _ (Lib.hid fun _ _ h => h)
  intro Q HQQ
  have hlt := H.2.2
  have hBw := H.2.1
  have HP1 : Hid (PrS B b l (w.alloc (.cells #[.int .i64 8, .int .i64 n, .string ⟨s.toArray⟩, .slice A 1 c] 24))) := Lib.hid (H.full ((Below.refl _ _).alloc (Nat.le_refl _) _))
  have HG1 : Hid (Grew B b w (w.alloc (.cells #[.int .i64 8, .int .i64 n, .string ⟨s.toArray⟩, .slice A 1 c] 24))) := Lib.hid (Grew.full ((Below.refl _ _).alloc (Nat.le_refl _) _) hBw)
  have HZ1 := Lib.hid (heap_alloc_new w (.cells #[.int .i64 8, .int .i64 n, .string ⟨s.toArray⟩, .slice A 1 c] 24))
  have HE := Lib.hid E
  have HL := Lib.hid hL
  have hwb : w.heap.size ≠ b := by omega
  have hsm := hac.2
  clear H E hv hL hA
  have hX2 : X = [110, 111, 116, 32] ++ parX (decide (3 ≤ bindN x.op)) (layX x) := by rw [← hX, layX, if_neg (by decide), if_neg (by decide), if_neg (by decide), if_neg (by decide), if_neg (by decide), if_pos rfl, lay1] <;> rfl
  obtain ⟨Y, hY⟩ : ∃ Y, parX (decide (3 ≤ bindN x.op)) (layX x) = Y := ⟨_, rfl⟩
  rw [hY] at hX2
  have hXl : X.length = 4 + Y.length := by rw [hX2]; first | (simp; done) | (simp; omega)
  have OPC := Lib.hid (fun B b l cs W H E h8 hv hl => operand_any x hx 3 (by omega) B b l cs W H E h8 hv hl)
  rw [hY] at OPC
  have hnn : ((3 : Nat) : Int) = 3 := rfl
  rw [hnn] at OPC
  clear hX hY hnn hac
  go_enter Tryz.func25, Tryz.ntmps25
  go_wp2_with (fail)
  go_at_call 36
  refine (PrS.write (b := b) (B := B) (l := l) HP1.out [110, 111, 116, 32] (by simp; omega)).mono ?_
  rintro e w5 ⟨⟨v5, rfl⟩, hp5, hg5⟩
  have hz5 := hg5.cells HZ1.out hwb (by decide)
  have hg5w := HG1.out.trans hg5
  have HP5 := Lib.hid hp5
  have HG5 := Lib.hid hg5w
  obtain ⟨op1, n1, s1, a1⟩ := x
  obtain ⟨b1, off1, A1, c1, rfl, hPb, hb1, ⟨k0, k1, k2, k3⟩, hvx⟩ := (EVL.keep (w := w) (W := w5) (P := fun k => k < B) ⟨hg5w.1.size, fun k hk _ => hg5w.1.block k hk⟩ HL.out).elem (k := 0) rfl
  simp only [Nat.zero_mul, Nat.add_zero] at k0 k1 k2 k3
  have HVX := Lib.hid hvx
  dsimp only [exprC] at HVX
  generalize hzz : w.heap.size = z at *
  obtain ⟨⟨z0, z1, z2, z3⟩, zf⟩ := four_cells hz5
  clear hz5 hp5 hg5 hg5w hvx hzz
  go_wp2_with (fail)
  go_at_call 43
  refine (OPC.out B b _ _ w5 HP5.out (HE.out.grew HG5.out h8) h8 HVX.out (by first | (simp; done) | (simp; omega) | omega)).mono ?_
  rintro e w6 ⟨⟨v6, rfl⟩, hp6, hg6⟩
  have HF := Lib.hid (HQQ.out (.returned (.tuple #[])) w6 ⟨⟨_, rfl⟩, by rw [hX2]; simpa using hp6, HG5.out.trans hg6⟩)
  clear hp6 hg6
  go_wp2
  refine bodyPost_end (results_none rfl _ _ _) rfl ?_
  exact HF.out
set_option maxHeartbeats 8000000 in
set_option maxRecDepth 100000 in
theorem lay_20 (n : Int) (s : List UInt8) (x : ExprT) (hx : LayOk x) : LayOk (.mk 20 n s [x]) := by
  intro B b l cs w H E h8 hv hl
  obtain ⟨A, c, rfl, hac, hA, hL⟩ := hv.open
  dsimp only [exprC, List.length_cons, List.length_nil, Nat.zero_add, Nat.reduceAdd]
  obtain ⟨X, hX⟩ : ∃ X, layX (.mk 20 n s [x]) = X := ⟨_, rfl⟩
  rw [hX] at hl ⊢
  suffices key : ∀ Q : Ending → World → Prop, Hid (∀ e w', ((∃ v, e = .returned v) ∧ PrS B b (l ++ X) w' ∧ Grew B b w w') → Q e w') → Calls Tryz.prog 25 #[.pointer (some ⟨b, 0, none⟩), .agg #[.int .i64 20, .int .i64 n, .string ⟨s.toArray⟩, .slice A 1 c]] w Q from key _ (Lib.hid fun _ _ h => h)
  intro Q HQQ
  have hlt := H.2.2
  have hBw := H.2.1
  have HP1 : Hid (PrS B b l (w.alloc (.cells #[.int .i64 20, .int .i64 n, .string ⟨s.toArray⟩, .slice A 1 c] 24))) := Lib.hid (H.full ((Below.refl _ _).alloc (Nat.le_refl _) _))
  have HG1 : Hid (Grew B b w (w.alloc (.cells #[.int .i64 20, .int .i64 n, .string ⟨s.toArray⟩, .slice A 1 c] 24))) := Lib.hid (Grew.full ((Below.refl _ _).alloc (Nat.le_refl _) _) hBw)
  have HZ1 := Lib.hid (heap_alloc_new w (.cells #[.int .i64 20, .int .i64 n, .string ⟨s.toArray⟩, .slice A 1 c] 24))
  have HE := Lib.hid E
  have HL := Lib.hid hL
  have hwb : w.heap.size ≠ b := by omega
  have hsm := hac.2
  clear H E hv hL hA
  have hX2 : X = [45] ++ parX (decide (7 ≤ bindN x.op)) (layX x) := by rw [← hX, layX, if_neg (by decide), if_neg (by decide), if_neg (by decide), if_neg (by decide), if_neg (by decide), if_neg (by decide), if_pos rfl, lay1] <;> rfl
  obtain ⟨Y, hY⟩ : ∃ Y, parX (decide (7 ≤ bindN x.op)) (layX x) = Y := ⟨_, rfl⟩
  rw [hY] at hX2
  have hXl : X.length = 1 + Y.length := by rw [hX2]; first | (simp; done) | (simp; omega)
  have OPC := Lib.hid (fun B b l cs W H E h8 hv hl => operand_any x hx 7 (by omega) B b l cs W H E h8 hv hl)
  rw [hY] at OPC
  have hnn : ((7 : Nat) : Int) = 7 := rfl
  rw [hnn] at OPC
  clear hX hY hnn hac
  go_enter Tryz.func25, Tryz.ntmps25
  go_wp2_with (fail)
  go_at_call 44
  refine (PrS.byte (b := b) (B := B) (l := l) HP1.out 45 (by omega)).mono ?_
  rintro e w5 ⟨⟨v5, rfl⟩, hp5, hg5⟩
  have hz5 := hg5.cells HZ1.out hwb (by decide)
  have hg5w := HG1.out.trans hg5
  have HP5 := Lib.hid hp5
  have HG5 := Lib.hid hg5w
  obtain ⟨op1, n1, s1, a1⟩ := x
  obtain ⟨b1, off1, A1, c1, rfl, hPb, hb1, ⟨k0, k1, k2, k3⟩, hvx⟩ := (EVL.keep (w := w) (W := w5) (P := fun k => k < B) ⟨hg5w.1.size, fun k hk _ => hg5w.1.block k hk⟩ HL.out).elem (k := 0) rfl
  simp only [Nat.zero_mul, Nat.add_zero] at k0 k1 k2 k3
  have HVX := Lib.hid hvx
  dsimp only [exprC] at HVX
  generalize hzz : w.heap.size = z at *
  obtain ⟨⟨z0, z1, z2, z3⟩, zf⟩ := four_cells hz5
  clear hz5 hp5 hg5 hg5w hvx hzz
  go_wp2_with (fail)
  go_at_call 43
  refine (OPC.out B b _ _ w5 HP5.out (HE.out.grew HG5.out h8) h8 HVX.out (by first | (simp; done) | (simp; omega) | omega)).mono ?_
  rintro e w6 ⟨⟨v6, rfl⟩, hp6, hg6⟩
  have HF := Lib.hid (HQQ.out (.returned (.tuple #[])) w6 ⟨⟨_, rfl⟩, by rw [hX2]; simpa using hp6, HG5.out.trans hg6⟩)
  clear hp6 hg6
  go_wp2
  refine bodyPost_end (results_none rfl _ _ _) rfl ?_
  exact HF.out
theorem bin_not (op : Int) (h : Pl.binB op = true) : (¬ op = 1 ∧ ¬ op = 2 ∧ ¬ op = 3 ∧ ¬ op = 4 ∧ ¬ op = 5 ∧ ¬ op = 8 ∧ ¬ op = 20) ∧ (signX op).length ≤ 3 ∧ bindN op ≤ 6 := by
  refine Pl.bin_cases (P := fun op => (¬ op = 1 ∧ ¬ op = 2 ∧ ¬ op = 3 ∧ ¬ op = 4 ∧ ¬ op = 5 ∧ ¬ op = 8 ∧ ¬ op = 20) ∧ (signX op).length ≤ 3 ∧ bindN op ≤ 6) ?_ op h
  exact ⟨by decide, by decide, by decide, by decide, by decide, by decide, by decide, by decide, by decide, by decide, by decide, by decide, by decide⟩
theorem signs_below (op : Int) (h : Pl.binB op = true) (W : World) : Calls Tryz.prog 46 #[] W fun e w' => e = .returned (.map (some W.heap.size)) ∧ (Instr.lookup 105 (.map (some W.heap.size)) (.int .i64 op) false).run Tryz.prog w' = .ok (.string ⟨(signX op).toArray⟩) w' ∧ Below W.heap.size W w' :=
  (signs_any W).mono fun e w' ⟨h1, h2⟩ => ⟨h1, by subst h2; exact look_sign op h _ _ (heap_alloc_new W _), by subst h2; exact (Below.refl _ _).alloc (Nat.le_refl _) _⟩
set_option maxHeartbeats 16000000 in
set_option maxRecDepth 100000 in
theorem lay_bin (op n : Int) (hb : Pl.binB op = true) (s : List UInt8) (x y : ExprT) (hx : LayOk x) (hy : LayOk y) : LayOk (.mk op n s [x, y]) := by
  intro B b l cs w H E h8 hv hl
  obtain ⟨A, c, rfl, hac, hA, hL⟩ := hv.open
  dsimp only [exprC, List.length_cons, List.length_nil, Nat.zero_add, Nat.reduceAdd]
  obtain ⟨X, hX⟩ : ∃ X, layX (.mk op n s [x, y]) = X := ⟨_, rfl⟩
  rw [hX] at hl ⊢
  suffices key : ∀ Q : Ending → World → Prop, Hid (∀ e w', ((∃ v, e = .returned v) ∧ PrS B b (l ++ X) w' ∧ Grew B b w w') → Q e w') → Calls Tryz.prog 25 #[.pointer (some ⟨b, 0, none⟩), .agg #[.int .i64 op, .int .i64 n, .string ⟨s.toArray⟩, .slice A 2 c]] w Q from key _ (Lib.hid fun _ _ h => h)
  intro Q HQQ
  have hlt := H.2.2
  have hBw := H.2.1
  have HP1 : Hid (PrS B b l (w.alloc (.cells #[.int .i64 op, .int .i64 n, .string ⟨s.toArray⟩, .slice A 2 c] 24))) := Lib.hid (H.full ((Below.refl _ _).alloc (Nat.le_refl _) _))
  have HG1 : Hid (Grew B b w (w.alloc (.cells #[.int .i64 op, .int .i64 n, .string ⟨s.toArray⟩, .slice A 2 c] 24))) := Lib.hid (Grew.full ((Below.refl _ _).alloc (Nat.le_refl _) _) hBw)
  have HZ1 := Lib.hid (heap_alloc_new w (.cells #[.int .i64 op, .int .i64 n, .string ⟨s.toArray⟩, .slice A 2 c] 24))
  have HE := Lib.hid E
  have HL := Lib.hid hL
  have hwb : w.heap.size ≠ b := by omega
  have hsm := hac.2
  clear H E hv hL hA
  obtain ⟨⟨o1, o2, o3, o4, o5, o8, o20⟩, hsl, hbn⟩ := bin_not op hb
  have hX2 : X = parX (decide (leftN op ≤ bindN x.op)) (layX x) ++ ([32] ++ signX op ++ [32]) ++ parX (decide (bindN op + 1 ≤ bindN y.op)) (layX y) := by rw [← hX, layX, if_neg o1, if_neg o2, if_neg o3, if_neg o4, if_neg o5, if_neg o8, if_neg o20, lay1, lay2, lay1]; simp
  obtain ⟨Y1, hY1⟩ : ∃ Y, parX (decide (leftN op ≤ bindN x.op)) (layX x) = Y := ⟨_, rfl⟩
  obtain ⟨Y2, hY2⟩ : ∃ Y, parX (decide (bindN op + 1 ≤ bindN y.op)) (layX y) = Y := ⟨_, rfl⟩
  rw [hY1, hY2] at hX2
  have hln : leftN op ≤ 10 := by unfold leftN; split <;> omega
  have OP1 := Lib.hid (fun B b l cs W H E h8 hv hl => operand_any x hx (leftN op) hln B b l cs W H E h8 hv hl)
  rw [hY1] at OP1
  have OP2 := Lib.hid (fun B b l cs W H E h8 hv hl => operand_any y hy (bindN op + 1) (by omega) B b l cs W H E h8 hv hl)
  rw [hY2] at OP2
  have BD := Lib.hid (fun W => binds_any op W)
  have SG := Lib.hid (fun W => signs_below op hb W)
  obtain ⟨T, hT⟩ : ∃ T, [32] ++ signX op ++ [32] = T := ⟨_, rfl⟩
  rw [hT] at hX2
  have hTl : T.length ≤ 5 := by rw [← hT]; simp; omega
  obtain ⟨U, hU⟩ : ∃ U : ByteArray, (⟨(signX op).toArray⟩ : ByteArray) = U := ⟨_, rfl⟩
  have hUz : U.size ≤ 3 := by rw [← hU]; simpa [ByteArray.size] using hsl
  have hc2 : (⟨#[32]⟩ : ByteArray) ++ U ++ ⟨#[32]⟩ = ⟨T.toArray⟩ := by rw [← hU, ← hT]; apply ByteArray.ext; simp
  have hu1 : ¬ 9223372036854775807 < 1 + U.size ∧ ¬ 9223372036854775807 < 1 + U.size + 1 ∧ 1 + U.size ≤ 9223372036854775807 ∧ 1 + U.size + 1 ≤ 9223372036854775807 := by omega
  rw [hU] at SG
  have hXl : X.length = Y1.length + T.length + Y2.length := by rw [hX2]; simp; omega
  have hlf : leftN op = if bindN op = 4 then 5 else bindN op := rfl
  rw [hlf] at OP1
  generalize hbb : bindN op = bn at *
  have e1 : (op == 1) = false ∧ (op == 2) = false ∧ (op == 3) = false ∧ (op == 4) = false ∧ (op == 5) = false ∧ (op == 8) = false ∧ (op == 20) = false := by simp; omega
  clear hX hY1 hY2 hT hU hac hlf hln hbb o1 o2 o3 o4 o5 o8 o20 hb hsl
  obtain ⟨lf, hlf1, hlf2⟩ : ∃ lf : Nat, (if bn = 4 then 5 else bn) = lf ∧ lf ≤ 10 := ⟨_, rfl, by split <;> omega⟩
  rw [hlf1] at OP1
  obtain ⟨op1, n1, s1, a1⟩ := x
  obtain ⟨op2, n2, s2, a2⟩ := y
  obtain ⟨b1, off1, A1, c1, rfl, hPb, hb1, ⟨k0, k1, k2, k3⟩, hvx⟩ := HL.out.elem (k := 0) rfl
  obtain ⟨b2, off2, A2, c2, hAe, hPb2, hb2, ⟨j0, j1, j2, j3⟩, hvy⟩ := HL.out.elem (k := 1) rfl
  injection hAe with hAe; injection hAe with e2 e3; subst e2 e3
  simp only [Nat.zero_mul, Nat.add_zero, Nat.one_mul] at k0 k1 k2 k3 j0 j1 j2 j3
  have HVX := Lib.hid hvx
  have HVY := Lib.hid hvy
  dsimp only [exprC] at HVX HVY
  clear hvx hvy
  by_cases hb4 : bn = 4
  · subst hb4
    rw [if_pos rfl] at hlf1
    subst hlf1
    go_enter Tryz.func25, Tryz.ntmps25
    go_wp2_with (first | (go_at_call 45; (with_reducible refine (BD.out _).mono ?_); rintro e w3 ⟨rfl, rfl⟩))
    go_at_call 43
    refine (OP1.out B b _ _ _ HP1.out (HE.out.grew HG1.out h8) h8 (HVX.out.grew HG1.out) (by omega)).mono ?_
    rintro e w5 ⟨⟨v5, rfl⟩, hp5, hg5⟩
    have hz5 := hg5.cells HZ1.out hwb (by decide)
    have hg5w := HG1.out.trans hg5
    have HZ5 := Lib.hid hz5
    have HP5 := Lib.hid hp5
    have HG5 := Lib.hid hg5w
    obtain ⟨⟨z0, z1, z2, z3⟩, zf⟩ := four_cells hz5
    clear hp5 hg5 hg5w hz5
    go_wp2_with (fail)
    generalize w.heap.size = z at *
    refine wp_region_held_drew (S := fun W' => W'.cell? ⟨z, 0, none⟩ = some (.int .i64 op)) (by kernel_rfl) (by simp [go_sem, *]) fun hHeld => ?_
    (refine take2 0 (some 23) (.pointer (some ⟨b, 0, none⟩)) rfl (by kernel_rfl) (by kernel_rfl) (by kernel_rfl) rfl (fun _ _ _ h => h) (Or.inl ⟨by rfl, fun W' hSw => (by (try dsimp only at hSw); go_simp)⟩) (by assumption) ?_; (try simp only [Act.put, List.setIfInBounds_toArray, List.set_cons_zero, List.set_cons_succ]))
    (refine take2 1 (some 24) (.pointer (some ⟨b, 0, none⟩)) rfl (by kernel_rfl) (by kernel_rfl) (by kernel_rfl) rfl (fun _ _ _ h => h) (Or.inl ⟨by rfl, fun W' hSw => (by (try dsimp only at hSw); go_simp)⟩) (by assumption) ?_; (try simp only [Act.put, List.setIfInBounds_toArray, List.set_cons_zero, List.set_cons_succ]))
    (refine take2 2 (some 25) (.pointer (some ⟨b, 0, none⟩)) rfl (by kernel_rfl) (by kernel_rfl) (by kernel_rfl) rfl (fun _ _ _ h => h) (Or.inl ⟨by rfl, fun W' hSw => (by (try dsimp only at hSw); go_simp)⟩) (by assumption) ?_; (try simp only [Act.put, List.setIfInBounds_toArray, List.set_cons_zero, List.set_cons_succ]))
    (refine take2 4 (some 27) (.pointer (some ⟨z, 0, none⟩)) rfl (by kernel_rfl) (by kernel_rfl) (by kernel_rfl) rfl (fun _ _ _ h => h) (Or.inl ⟨by rfl, fun W' hSw => (by (try dsimp only at hSw); go_simp)⟩) (by assumption) ?_; (try simp only [Act.put, List.setIfInBounds_toArray, List.set_cons_zero, List.set_cons_succ]))
    (refine take2 5 (some 28) (.int .i64 op) rfl (by kernel_rfl) (by kernel_rfl) (by kernel_rfl) rfl (fun _ _ _ h => h) (Or.inl ⟨by rfl, fun W' hSw => (by (try dsimp only at hSw); go_simp)⟩) (by assumption) ?_; (try simp only [Act.put, List.setIfInBounds_toArray, List.set_cons_zero, List.set_cons_succ]))
    (refine wpAnyH_ready (rs := [3]) (by kernel_rfl) (by simp) ?_; refine AllReadyH.cons rfl (fun K hK => ?_) AllReadyH.nil; (go_simp; go_at_call 46; (refine (SG.out _).mono ?_); rintro e w7 ⟨rfl, hlk, hb7⟩; (try simp only [drew_size] at hlk); have hbx : Below w5.heap.size w5 w7 := (Below.drew (Below.refl _ _)).trans hb7; have hz7 := (Grew.full (b := b) (B := B) hbx HP5.out.2.1).cells HZ5.out hwb (by decide); go_wp2_with (fail)); refine hK.out _ _ ?hS1 (fun hHeld1 => ?_); (case hS1 => ((try dsimp only); (exact (four_cells hz7).1.1))); clear hK K hHeld; have hHeld := hHeld1; clear hHeld1; (try simp only [Act.put, List.setIfInBounds_toArray, List.set_cons_zero, List.set_cons_succ]))
    (refine wpAnyH_ready (rs := [6]) (by kernel_rfl) (by simp) ?_; refine AllReadyH.cons rfl (fun K hK => ?_) AllReadyH.nil; (go_simp); refine hK.out _ _ ?hS1 (fun hHeld1 => ?_); (case hS1 => ((try dsimp only); (exact hHeld))); clear hK K hHeld; have hHeld := hHeld1; clear hHeld1; (try simp only [Act.put, List.setIfInBounds_toArray, List.set_cons_zero, List.set_cons_succ]))
    (refine wpAnyH_ready (rs := [7]) (by kernel_rfl) (by simp) ?_; refine AllReadyH.cons rfl (fun K hK => ?_) AllReadyH.nil; (go_simp); refine hK.out _ _ ?hS1 (fun hHeld1 => ?_); (case hS1 => ((try dsimp only); (exact hHeld))); clear hK K hHeld; have hHeld := hHeld1; clear hHeld1; (try simp only [Act.put, List.setIfInBounds_toArray, List.set_cons_zero, List.set_cons_succ]))
    (refine wpAnyH_ready (rs := [8]) (by kernel_rfl) (by simp) ?_; refine AllReadyH.cons rfl (fun K hK => ?_) AllReadyH.nil; (go_simp); refine hK.out _ _ ?hS1 (fun hHeld1 => ?_); (case hS1 => ((try dsimp only); (exact hHeld))); clear hK K hHeld; have hHeld := hHeld1; clear hHeld1; (try simp only [Act.put, List.setIfInBounds_toArray, List.set_cons_zero, List.set_cons_succ]))
    refine wpAnyH_ready (rs := [9]) (by kernel_rfl) (by simp) ?_
    refine AllReadyH.cons rfl (fun K hK => ?_) AllReadyH.nil
    go_simp
    go_at_call 36
    refine (PrS.write (b := b) (B := B) (l := l ++ Y1) (HP5.out.full hbx) T (by simp; omega)).mono ?_
    rintro e w8 ⟨⟨v8, rfl⟩, hp8, hg8⟩
    have hg8w := (Grew.full (b := b) (B := B) hbx HP5.out.2.1).trans hg8
    have hz8 := hg8w.cells HZ5.out hwb (by decide)
    have HG8 := Lib.hid (HG5.out.trans hg8w)
    have HP8 := Lib.hid hp8
    refine hK.out _ _ (four_cells hz8).1.1 (fun _ => ?_)
    clear z0 z1 z2 z3 zf hHeld hK
    obtain ⟨⟨z0, z1, z2, z3⟩, zf⟩ := four_cells hz8
    clear hz8 hp8 hg8 hg8w hz7 hlk hbx
    refine wpAnyH_done (by kernel_rfl) ?_ _
    have kb : ∀ o v, w.cell? ⟨b1, o, none⟩ = some v → w8.cell? ⟨b1, o, none⟩ = some v := fun o v h => (HG8.out.1.cell (p := ⟨b1, o, none⟩) hPb).trans h
    have i0 := kb _ _ j0
    have i1 := kb _ _ j1
    have i2 := kb _ _ j2
    have i3 := kb _ _ j3
    clear kb
    go_wp2_with (fail)
    go_at_call 43
    refine (OP2.out B b _ _ w8 HP8.out (HE.out.grew HG8.out h8) h8 (HVY.out.grew HG8.out) (by simp; omega)).mono ?_
    rintro e w9 ⟨⟨v9, rfl⟩, hp9, hg9⟩
    have HF := Lib.hid (HQQ.out (.returned (.tuple #[])) w9 ⟨⟨_, rfl⟩, by rw [hX2]; simpa using hp9, HG8.out.trans hg9⟩)
    clear hp9 hg9
    go_wp2
    refine bodyPost_end (results_none rfl _ _ _) rfl ?_
    exact HF.out
  · rw [if_neg hb4] at hlf1
    subst hlf1
    have eb : ((bn : Int) == 4) = false := by simp; omega
    have eb2 : ¬ (bn : Int) = 4 := by omega
    go_enter Tryz.func25, Tryz.ntmps25
    go_wp2_with (first | (go_at_call 45; (with_reducible refine (BD.out _).mono ?_); rintro e w3 ⟨rfl, rfl⟩))
    go_at_call 43
    refine (OP1.out B b _ _ _ HP1.out (HE.out.grew HG1.out h8) h8 (HVX.out.grew HG1.out) (by omega)).mono ?_
    rintro e w5 ⟨⟨v5, rfl⟩, hp5, hg5⟩
    have hz5 := hg5.cells HZ1.out hwb (by decide)
    have hg5w := HG1.out.trans hg5
    have HZ5 := Lib.hid hz5
    have HP5 := Lib.hid hp5
    have HG5 := Lib.hid hg5w
    obtain ⟨⟨z0, z1, z2, z3⟩, zf⟩ := four_cells hz5
    clear hp5 hg5 hg5w hz5
    go_wp2_with (fail)
    generalize w.heap.size = z at *
    refine wp_region_held_drew (S := fun W' => W'.cell? ⟨z, 0, none⟩ = some (.int .i64 op)) (by kernel_rfl) (by simp [go_sem, *]) fun hHeld => ?_
    (refine take2 0 (some 23) (.pointer (some ⟨b, 0, none⟩)) rfl (by kernel_rfl) (by kernel_rfl) (by kernel_rfl) rfl (fun _ _ _ h => h) (Or.inl ⟨by rfl, fun W' hSw => (by (try dsimp only at hSw); go_simp)⟩) (by assumption) ?_; (try simp only [Act.put, List.setIfInBounds_toArray, List.set_cons_zero, List.set_cons_succ]))
    (refine take2 1 (some 24) (.pointer (some ⟨b, 0, none⟩)) rfl (by kernel_rfl) (by kernel_rfl) (by kernel_rfl) rfl (fun _ _ _ h => h) (Or.inl ⟨by rfl, fun W' hSw => (by (try dsimp only at hSw); go_simp)⟩) (by assumption) ?_; (try simp only [Act.put, List.setIfInBounds_toArray, List.set_cons_zero, List.set_cons_succ]))
    (refine take2 2 (some 25) (.pointer (some ⟨b, 0, none⟩)) rfl (by kernel_rfl) (by kernel_rfl) (by kernel_rfl) rfl (fun _ _ _ h => h) (Or.inl ⟨by rfl, fun W' hSw => (by (try dsimp only at hSw); go_simp)⟩) (by assumption) ?_; (try simp only [Act.put, List.setIfInBounds_toArray, List.set_cons_zero, List.set_cons_succ]))
    (refine take2 4 (some 27) (.pointer (some ⟨z, 0, none⟩)) rfl (by kernel_rfl) (by kernel_rfl) (by kernel_rfl) rfl (fun _ _ _ h => h) (Or.inl ⟨by rfl, fun W' hSw => (by (try dsimp only at hSw); go_simp)⟩) (by assumption) ?_; (try simp only [Act.put, List.setIfInBounds_toArray, List.set_cons_zero, List.set_cons_succ]))
    (refine take2 5 (some 28) (.int .i64 op) rfl (by kernel_rfl) (by kernel_rfl) (by kernel_rfl) rfl (fun _ _ _ h => h) (Or.inl ⟨by rfl, fun W' hSw => (by (try dsimp only at hSw); go_simp)⟩) (by assumption) ?_; (try simp only [Act.put, List.setIfInBounds_toArray, List.set_cons_zero, List.set_cons_succ]))
    (refine wpAnyH_ready (rs := [3]) (by kernel_rfl) (by simp) ?_; refine AllReadyH.cons rfl (fun K hK => ?_) AllReadyH.nil; (go_simp; go_at_call 46; (refine (SG.out _).mono ?_); rintro e w7 ⟨rfl, hlk, hb7⟩; (try simp only [drew_size] at hlk); have hbx : Below w5.heap.size w5 w7 := (Below.drew (Below.refl _ _)).trans hb7; have hz7 := (Grew.full (b := b) (B := B) hbx HP5.out.2.1).cells HZ5.out hwb (by decide); go_wp2_with (fail)); refine hK.out _ _ ?hS1 (fun hHeld1 => ?_); (case hS1 => ((try dsimp only); (exact (four_cells hz7).1.1))); clear hK K hHeld; have hHeld := hHeld1; clear hHeld1; (try simp only [Act.put, List.setIfInBounds_toArray, List.set_cons_zero, List.set_cons_succ]))
    (refine wpAnyH_ready (rs := [6]) (by kernel_rfl) (by simp) ?_; refine AllReadyH.cons rfl (fun K hK => ?_) AllReadyH.nil; (go_simp); refine hK.out _ _ ?hS1 (fun hHeld1 => ?_); (case hS1 => ((try dsimp only); (exact hHeld))); clear hK K hHeld; have hHeld := hHeld1; clear hHeld1; (try simp only [Act.put, List.setIfInBounds_toArray, List.set_cons_zero, List.set_cons_succ]))
    (refine wpAnyH_ready (rs := [7]) (by kernel_rfl) (by simp) ?_; refine AllReadyH.cons rfl (fun K hK => ?_) AllReadyH.nil; (go_simp); refine hK.out _ _ ?hS1 (fun hHeld1 => ?_); (case hS1 => ((try dsimp only); (exact hHeld))); clear hK K hHeld; have hHeld := hHeld1; clear hHeld1; (try simp only [Act.put, List.setIfInBounds_toArray, List.set_cons_zero, List.set_cons_succ]))
    (refine wpAnyH_ready (rs := [8]) (by kernel_rfl) (by simp) ?_; refine AllReadyH.cons rfl (fun K hK => ?_) AllReadyH.nil; (go_simp); refine hK.out _ _ ?hS1 (fun hHeld1 => ?_); (case hS1 => ((try dsimp only); (exact hHeld))); clear hK K hHeld; have hHeld := hHeld1; clear hHeld1; (try simp only [Act.put, List.setIfInBounds_toArray, List.set_cons_zero, List.set_cons_succ]))
    refine wpAnyH_ready (rs := [9]) (by kernel_rfl) (by simp) ?_
    refine AllReadyH.cons rfl (fun K hK => ?_) AllReadyH.nil
    go_simp
    go_at_call 36
    refine (PrS.write (b := b) (B := B) (l := l ++ Y1) (HP5.out.full hbx) T (by simp; omega)).mono ?_
    rintro e w8 ⟨⟨v8, rfl⟩, hp8, hg8⟩
    have hg8w := (Grew.full (b := b) (B := B) hbx HP5.out.2.1).trans hg8
    have hz8 := hg8w.cells HZ5.out hwb (by decide)
    have HG8 := Lib.hid (HG5.out.trans hg8w)
    have HP8 := Lib.hid hp8
    refine hK.out _ _ (four_cells hz8).1.1 (fun _ => ?_)
    clear z0 z1 z2 z3 zf hHeld hK
    obtain ⟨⟨z0, z1, z2, z3⟩, zf⟩ := four_cells hz8
    clear hz8 hp8 hg8 hg8w hz7 hlk hbx
    refine wpAnyH_done (by kernel_rfl) ?_ _
    have kb : ∀ o v, w.cell? ⟨b1, o, none⟩ = some v → w8.cell? ⟨b1, o, none⟩ = some v := fun o v h => (HG8.out.1.cell (p := ⟨b1, o, none⟩) hPb).trans h
    have i0 := kb _ _ j0
    have i1 := kb _ _ j1
    have i2 := kb _ _ j2
    have i3 := kb _ _ j3
    clear kb
    go_wp2_with (fail)
    go_at_call 43
    refine (OP2.out B b _ _ w8 HP8.out (HE.out.grew HG8.out h8) h8 (HVY.out.grew HG8.out) (by simp; omega)).mono ?_
    rintro e w9 ⟨⟨v9, rfl⟩, hp9, hg9⟩
    have HF := Lib.hid (HQQ.out (.returned (.tuple #[])) w9 ⟨⟨_, rfl⟩, by rw [hX2]; simpa using hp9, HG8.out.trans hg9⟩)
    clear hp9 hg9
    go_wp2
    refine bodyPost_end (results_none rfl _ _ _) rfl ?_
    exact HF.out
theorem text_len {s : List UInt8} (h : textB s = true) : s.length ≤ 1000000 := by simp [textB] at h; omega
theorem name_len {s : List UInt8} (h : nameB s = true) : s.length ≤ 1000000 := by simp [nameB] at h; omega
theorem lay_ok (e : ExprT) (h : fineE e = true) : LayOk e :=
  Pl.fine_ind (P := LayOk) (fun n h0 h1 => lay_1 n [] [] (by simp [fine1, argsN, h0, h1]) (by simp)) (fun s hs => lay_2 0 s [] (by simp [fine1, argsN, hs]) (text_len hs))
    (fun n hn => lay_3 n [] [] (by rcases hn with rfl | rfl <;> simp [fine1, argsN]) (by simp)) (fun s hs => lay_4 0 s [] (by simp [fine1, argsN, hs]) (name_len hs)) (fun s hs => lay_5 0 s [] (by simp [fine1, argsN, hs]) (name_len hs))
    (fun a _ ha => lay_8 0 [] a ha) (fun a _ ha => lay_20 0 [] a ha) (fun op a b hb _ _ ha hb' => lay_bin op 0 hb [] a b ha hb') e h
end Go.Proofs.YtnjlggleaocbdaaGreatDoor
