/-
  The law's bareCond: a condition made bare. (Printed by tools/mksg2.py.)
-/
import Derived.Test.YtijlifdbjhieaaaGreatDoorSg1
namespace Go.Proofs.YtijlifdbjhieaaaGreatDoor
set_option linter.all false
open Go.RowKit Go.Shelf Go.Sort
attribute [local go_sem] cell_set_self lt_1 lt_2 lt_3 lt_4 lt_5 lt_6

theorem bareL_map : ∀ l : List CondT, bareL l = l.map bareC
  | [] => by simp [bareL]
  | c :: l => by rw [bareL, bareL_map l]; rfl
set_option maxHeartbeats 8000000 in
set_option maxRecDepth 100000 in
theorem lbareC_any (P : Nat → Prop) : ∀ (n : Nat) (t : CondT) (cs : List Value) (w : World), SizeOf.sizeOf t ≤ n → CV P w t cs → LtC 1000000 t → Calls Tryz.prog 32 #[.agg cs.toArray] w fun e w' => (∃ cs', e = .returned (.agg cs'.toArray) ∧ CV (fun b => w.heap.size ≤ b) w' (bareC t) cs') ∧ Below w.heap.size w w' := by
  intro n
  induction n with
  | zero => intro t cs w hn; cases t; simp at hn
  | succ n ih =>
    intro t cs w hn hv hd
    obtain ⟨op, args, ⟨lc, lt, ln, ls⟩, ⟨rc, rt, rn, rs⟩⟩ := t
    obtain ⟨A, c, rfl, hac, hA, hL⟩ := hv.open
    suffices key : ∀ Q : Ending → World → Prop, Hid (∀ cs' w', CV (fun b => w.heap.size ≤ b) w' (bareC (.mk op args ⟨lc, lt, ln, ls⟩ ⟨rc, rt, rn, rs⟩)) cs' → Below w.heap.size w w' → Q (.returned (.agg cs'.toArray)) w') → Calls Tryz.prog 32 #[.agg (condC op A args.length c ⟨lc, lt, ln, ls⟩ ⟨rc, rt, rn, rs⟩).toArray] w Q from key _ (Lib.hid fun cs' _ h1 h2 => ⟨⟨cs', rfl, h1⟩, h2⟩)
    intro Q HQQ
    unfold LtC at hd
    dsimp only at hd
    have hal : args.length ≤ 1000000 := hd.1.2.2.2.2
    have IH := Lib.hid (fun (k : Nat) (x : CondT) (hx : args[k]? = some x) (cs : List Value) (W : World) (hv : CV P W x cs) => ih x cs W (by have := CondT.size_arg (op := op) (l := ⟨lc, lt, ln, ls⟩) (r := ⟨rc, rt, rn, rs⟩) hx; omega) hv (hd.2.at hx))
    have HL := Lib.hid hL
    have TL := Lib.hid (fun W => bareT_any lc lt ln ls W)
    have TR := Lib.hid (fun W => bareT_any rc rt rn rs W)
    have HBC : bareC (.mk op args ⟨lc, lt, ln, ls⟩ ⟨rc, rt, rn, rs⟩) = if op = 0 then cond0 else if 3 < op then .mk op [] (bareT ⟨lc, lt, ln, ls⟩) (bareT ⟨rc, rt, rn, rs⟩) else .mk op (args.map bareC) term0 term0 := by
      rw [bareC.eq_def]; simp only [bareL_map]
    rw [HBC] at HQQ
    by_cases h0 : op = 0
    · rw [if_pos h0] at HQQ
      have e0 : (op == 0) = true := by simp [h0]
      have HQ : Hid (∀ w', Below w.heap.size w w' → Q (.returned (.agg #[.int .i64 0, .slice none 0 0, .string ⟨#[]⟩, .int .i64 0, .int .i64 0, .string ⟨#[]⟩, .string ⟨#[]⟩, .int .i64 0, .int .i64 0, .string ⟨#[]⟩])) w') := Lib.hid fun w' hb => HQQ.out [.int .i64 0, .slice none 0 0, .string ⟨#[]⟩, .int .i64 0, .int .i64 0, .string ⟨#[]⟩, .string ⟨#[]⟩, .int .i64 0, .int .i64 0, .string ⟨#[]⟩] w' (by unfold cond0 CV; exact ⟨none, 0, rfl, ⟨Nat.le_refl _, by simp⟩, fun _ => rfl, by unfold CVL; trivial⟩) hb
      clear HQQ HBC h0 hv hL ih hn hA hac hd IH HL TL TR
      dsimp only [condC, termC, List.cons_append, List.nil_append]
      generalize (⟨lc.toArray⟩ : ByteArray) = U1 at *
      generalize (⟨ls.toArray⟩ : ByteArray) = U2 at *
      generalize (⟨rc.toArray⟩ : ByteArray) = U3 at *
      generalize (⟨rs.toArray⟩ : ByteArray) = U4 at *
      have z0 : w.heap.size < w.heap.size + 1 + 1 ∧ w.heap.size + 1 < w.heap.size + 1 + 1 := by omega
      go_enter Tryz.func32, Tryz.ntmps32
      go_wp2_with (fail)
      exact bodyPost_ret (v := .agg #[.int .i64 0, .slice none 0 0, .string ⟨#[]⟩, .int .i64 0, .int .i64 0, .string ⟨#[]⟩, .string ⟨#[]⟩, .int .i64 0, .int .i64 0, .string ⟨#[]⟩]) (by simp [results, Tryz.results32, go_sem, *]) rfl (HQ.out _ (by repeat (first | (with_reducible exact Below.refl _ _) | (with_reducible refine Below.setCell ?_ (by first | (simp; done) | (simp; omega)) _) | (with_reducible refine Below.alloc ?_ (by first | (simp; done) | (simp; omega)) _))))
    rw [if_neg h0] at HQQ
    have e0 : (op == 0) = false := by simp [h0]
    by_cases h3 : 3 < op
    · rw [if_pos h3] at HQQ
      obtain ⟨⟨xc, xt, xn, xs⟩, hx⟩ : ∃ x, bareT ⟨lc, lt, ln, ls⟩ = x := ⟨_, rfl⟩
      obtain ⟨⟨yc, yt, yn, ys⟩, hy⟩ : ∃ x, bareT ⟨rc, rt, rn, rs⟩ = x := ⟨_, rfl⟩
      rw [hx, hy] at HQQ
      rw [hx] at TL
      rw [hy] at TR
      dsimp only [termC] at TL TR
      have HQ : Hid (∀ w', Below w.heap.size w w' → Q (.returned (.agg #[.int .i64 op, .slice none 0 0, .string ⟨xc.toArray⟩, .int .i64 xt, .int .i64 xn, .string ⟨xs.toArray⟩, .string ⟨yc.toArray⟩, .int .i64 yt, .int .i64 yn, .string ⟨ys.toArray⟩])) w') := Lib.hid fun w' hb => HQQ.out [.int .i64 op, .slice none 0 0, .string ⟨xc.toArray⟩, .int .i64 xt, .int .i64 xn, .string ⟨xs.toArray⟩, .string ⟨yc.toArray⟩, .int .i64 yt, .int .i64 yn, .string ⟨ys.toArray⟩] w' (by unfold CV; exact ⟨none, 0, rfl, ⟨Nat.le_refl _, by simp⟩, fun _ => rfl, by unfold CVL; trivial⟩) hb
      clear HQQ HBC h0 hv hL ih hn hA hac hd IH HL hx hy
      dsimp only [condC, termC, List.cons_append, List.nil_append]
      generalize (⟨lc.toArray⟩ : ByteArray) = U1 at *
      generalize (⟨ls.toArray⟩ : ByteArray) = U2 at *
      generalize (⟨rc.toArray⟩ : ByteArray) = U3 at *
      generalize (⟨rs.toArray⟩ : ByteArray) = U4 at *
      generalize (⟨xc.toArray⟩ : ByteArray) = X1 at *
      generalize (⟨xs.toArray⟩ : ByteArray) = X2 at *
      generalize (⟨yc.toArray⟩ : ByteArray) = X3 at *
      generalize (⟨ys.toArray⟩ : ByteArray) = X4 at *
      have z0 : w.heap.size < w.heap.size + 1 + 1 ∧ w.heap.size + 1 < w.heap.size + 1 + 1 := by omega
      go_enter Tryz.func32, Tryz.ntmps32
      go_wp2_with (first | (go_at_call 71; (with_reducible refine (TL.out _).mono ?_); rintro e w5 ⟨rfl, hb5⟩; obtain ⟨hc5, hf5⟩ := bcell hb5; (try simp only [World.size_alloc] at hc5 hf5); have hs5 := hb5.size; (try simp at hs5); have hz5 : w.heap.size < w5.heap.size ∧ w.heap.size + 1 < w5.heap.size ∧ w.heap.size + 1 + 1 < w5.heap.size := (by omega); clear TL) | (go_at_call 71; (with_reducible refine (TR.out _).mono ?_); rintro e w6 ⟨rfl, hb6⟩; obtain ⟨hc6, hf6⟩ := bcell hb6; (try simp only [World.size_setCell] at hc6 hf6); have hs6 := hb6.size; (try simp at hs6); have hz6 : w.heap.size < w6.heap.size ∧ w.heap.size + 1 < w6.heap.size ∧ w.heap.size + 1 + 1 < w6.heap.size := (by omega)))
      have hB5 : Below w.heap.size w w5 := Below.trans (by repeat (first | (with_reducible exact Below.refl _ _) | (with_reducible refine Below.alloc ?_ (by first | (simp; done) | (simp; omega)) _))) (hb5.mono (by first | (simp; done) | (simp; omega)))
      have hB6 : Below w.heap.size w w6 := Below.trans (by repeat (first | (with_reducible exact hB5) | (with_reducible refine Below.setCell ?_ (by first | (simp; done) | (simp; omega)) _))) (hb6.mono (by first | (simp; done) | (simp; omega)))
      exact bodyPost_ret (v := .agg #[.int .i64 op, .slice none 0 0, .string X1, .int .i64 xt, .int .i64 xn, .string X2, .string X3, .int .i64 yt, .int .i64 yn, .string X4]) (by simp [results, Tryz.results32, go_sem, *]) rfl (HQ.out _ (by repeat (first | (with_reducible exact hB6) | (with_reducible refine Below.setCell ?_ (by first | (simp; done) | (simp; omega)) _))))
    rw [if_neg h3] at HQQ
    have h3' : ¬ 3 < op := h3
    have HQ : Hid (∀ (A' : Option Addr) (c' bs : Nat) W W', args.length ≤ c' → (A' = none → c' = 0) → CVL (fun b => bs ≤ b) W A' 0 (args.map bareC) → w.heap.size ≤ bs → Kp (fun b => bs ≤ b) W W' → Below w.heap.size w W' → Q (.returned (.agg #[.int .i64 op, .slice A' args.length c', .string ⟨#[]⟩, .int .i64 0, .int .i64 0, .string ⟨#[]⟩, .string ⟨#[]⟩, .int .i64 0, .int .i64 0, .string ⟨#[]⟩])) W') := Lib.hid fun A' c' bs W W' h1 h2 h3 h4 h5 h6 => HQQ.out [.int .i64 op, .slice A' args.length c', .string ⟨#[]⟩, .int .i64 0, .int .i64 0, .string ⟨#[]⟩, .string ⟨#[]⟩, .int .i64 0, .int .i64 0, .string ⟨#[]⟩] W' (by
      unfold CV
      exact ⟨A', c', by rw [List.length_map]; rfl, ⟨by rw [List.length_map]; exact h1, by rw [List.length_map]; omega⟩, h2, (h3.keep h5).mono fun b _ hb => Nat.le_trans h4 hb⟩) h6
    clear HBC TL TR h0 h3
    clear HQQ
    dsimp only [condC, termC, List.cons_append, List.nil_append] at HQ ⊢
    generalize (⟨lc.toArray⟩ : ByteArray) = U1 at *
    generalize (⟨ls.toArray⟩ : ByteArray) = U2 at *
    generalize (⟨rc.toArray⟩ : ByteArray) = U3 at *
    generalize (⟨rs.toArray⟩ : ByteArray) = U4 at *
    clear hv hL ih hn hA hac hd
    have z0 : w.heap.size < w.heap.size + 1 + 1 ∧ w.heap.size + 1 < w.heap.size + 1 + 1 := by omega
    go_enter Tryz.func32, Tryz.ntmps32
    have al := fun (X : World) (o : Obj) (k : Nat) (h : k < X.heap.size) => (((Below.refl _ X).alloc (Nat.le_refl _) o).block k h)
    obtain ⟨i0, hi0, iz0, iz1, iz2⟩ := info_parts info_lcond
    go_wp2_with (fail)
    go_loopw [4] (fun j wr => ∃ (k : Nat) (V : Value), k ≤ args.length ∧ j = .int .i64 k ∧ Hid (RowC ((w.heap.size + 1 + 1) + 1) wr ((args.take k).map bareC) V) ∧ Hid (wr.heap[(w.heap.size + 1 + 1)]? = some (.cells #[.int .i64 op, V, .string ⟨#[]⟩, .int .i64 0, .int .i64 0, .string ⟨#[]⟩, .string ⟨#[]⟩, .int .i64 0, .int .i64 0, .string ⟨#[]⟩] 45 (0, 0))) ∧ Hid (wr.heap[w.heap.size + 1]? = some (.cells #[.int .i64 0, .slice none 0 0, .string ⟨#[]⟩, .int .i64 0, .int .i64 0, .string ⟨#[]⟩, .string ⟨#[]⟩, .int .i64 0, .int .i64 0, .string ⟨#[]⟩] 45 (0, 0))) ∧ (w.heap.size + 1 + 1) < wr.heap.size ∧ Hid (wr.cell? ⟨w.heap.size, 1, none⟩ = some (.slice A args.length c) ∧ w.heap.size < wr.heap.size ∧ Below w.heap.size w wr)) (fun j _ => args.length - (intOf j).toNat)
    case atStart => exact ⟨0, _, by omega, rfl, Lib.hid (RowC.nil _ _), Lib.hid (by (repeat (first | (with_reducible exact heap_alloc_at (by first | rfl | (simp; done) | (simp; omega))) | (with_reducible apply ten_set) | (with_reducible refine (setCell_block _ _ _ _ (by first | (simp; done) | (simp; omega) | omega)).trans ?_) | (with_reducible refine (al _ _ _ (by first | (simp; done) | (simp; omega) | omega)).trans ?_)))), Lib.hid (by (repeat (first | (with_reducible exact heap_alloc_at (by first | rfl | (simp; done) | (simp; omega))) | (with_reducible apply ten_set) | (with_reducible refine (setCell_block _ _ _ _ (by first | (simp; done) | (simp; omega) | omega)).trans ?_) | (with_reducible refine (al _ _ _ (by first | (simp; done) | (simp; omega) | omega)).trans ?_)))), by simp, Lib.hid (by (refine ⟨?_, ?_, ?_⟩ <;> first | (simp [go_sem, *]; done) | omega | (simp; omega) | exact (by repeat (first | (with_reducible exact Below.refl _ _) | (with_reducible assumption) | (with_reducible refine Below.setCell ?_ (by first | (simp; done) | (simp; omega) | omega) _) | (with_reducible refine Below.alloc ?_ (by first | (simp; done) | (simp; omega) | omega) _) | (with_reducible refine Below.drew ?_) | (with_reducible refine Below.trans ?_ (Below.mono (by assumption) (by first | (simp; done) | (simp; omega) | omega)))))))⟩
    case round =>
      obtain ⟨k, V, hk, rfl, HR, HB3, HB1, h3w, HC⟩ := hrel
      obtain ⟨wo, rfl⟩ : ∃ wo : World, wo = wr := ⟨_, rfl⟩
      obtain ⟨o1, y0, B0⟩ := HC.out
      have htl : ((args.take k).map bareC).length = k := by rw [List.length_map, List.length_take]; omega
      obtain ⟨A2, c2, hV2⟩ := HR.out.form
      rw [htl] at hV2
      subst hV2
      obtain ⟨o31, f31⟩ := qbox (l := [.int .i64 op, .slice A2 k c2, .string ⟨#[]⟩, .int .i64 0, .int .i64 0, .string ⟨#[]⟩, .string ⟨#[]⟩, .int .i64 0, .int .i64 0, .string ⟨#[]⟩]) HB3.out 1 _ rfl
      by_cases hlt : k < args.length
      · have hlt' : (k : Int) < (args.length : Int) := by omega
        obtain ⟨x, hx⟩ : ∃ x, args[k]? = some x := ⟨_, List.getElem?_eq_getElem hlt⟩
        have htk : Hid ((args.take (k + 1)).map bareC = (args.take k).map bareC ++ [bareC x]) := Lib.hid (by rw [List.take_succ, hx, List.map_append]; rfl)
        obtain ⟨op', args', ⟨lc', lt', ln', ls'⟩, ⟨rc', rt', rn', rs'⟩⟩ := x
        obtain ⟨b, off, A1, c1, rfl, hPb, hb, hka, hvx⟩ := HL.out.elem hx
        have IHx := Lib.hid (IH.out k _ hx)
        obtain ⟨y, hy⟩ : ∃ y, bareC (.mk op' args' ⟨lc', lt', ln', ls'⟩ ⟨rc', rt', rn', rs'⟩) = y := ⟨_, rfl⟩
        rw [hy] at IHx htk
        clear hy
        obtain ⟨op8, args8, ⟨lc8, lt8, ln8, ls8⟩, ⟨rc8, rt8, rn8, rs8⟩⟩ := y
        have HVX := Lib.hid hvx
        dsimp only [condC, termC, List.cons_append, List.nil_append] at HVX
        obtain ⟨bc0, -⟩ := bcell B0
        have hbo : b < wo.heap.size := Nat.lt_of_lt_of_le hb B0.size
        simp only [← bc0 b _ hb] at hka
        obtain ⟨k0, k1, k2, k3, k4, k5, k6, k7, k8, k9⟩ := hka
        clear hx hvx bc0
        have hne0 : b ≠ w.heap.size ∧ (w.heap.size + 1 + 1) ≠ b ∧ (w.heap.size + 1 + 1) ≠ w.heap.size := by omega
        go_wp2_with (fail)
        (refine wp_region_last_held ((fun w' => w'.cell? ⟨w.heap.size, 1, none⟩ = some (.slice (some ⟨b, off, none⟩) args.length c) ∧ w'.cell? ⟨(w.heap.size + 1 + 1), 1, none⟩ = some (.slice A2 k c2) ∧ w'.cell? ⟨b, off + k * 10, none⟩ = some (.int .i64 op') ∧ w'.cell? ⟨b, off + k * 10 + 1, none⟩ = some (.slice A1 args'.length c1) ∧ w'.cell? ⟨b, off + k * 10 + 2, none⟩ = some (.string ⟨lc'.toArray⟩) ∧ w'.cell? ⟨b, off + k * 10 + 3, none⟩ = some (.int .i64 lt') ∧ w'.cell? ⟨b, off + k * 10 + 4, none⟩ = some (.int .i64 ln') ∧ w'.cell? ⟨b, off + k * 10 + 5, none⟩ = some (.string ⟨ls'.toArray⟩) ∧ w'.cell? ⟨b, off + k * 10 + 6, none⟩ = some (.string ⟨rc'.toArray⟩) ∧ w'.cell? ⟨b, off + k * 10 + 7, none⟩ = some (.int .i64 rt') ∧ w'.cell? ⟨b, off + k * 10 + 8, none⟩ = some (.int .i64 rn') ∧ w'.cell? ⟨b, off + k * 10 + 9, none⟩ = some (.string ⟨rs'.toArray⟩) ∧ w.heap.size < w'.heap.size ∧ b < w'.heap.size ∧ (w.heap.size + 1 + 1) < w'.heap.size ∧ Below w.heap.size w w')) rfl (by kernel_rfl) (by kernel_rfl) ?hS0 (fun hHeld => ?_); (case hS0 => ((try dsimp only); (refine ⟨?_, ?_, ?_, ?_, ?_, ?_, ?_, ?_, ?_, ?_, ?_, ?_, ?_, ?_, ?_, ?_⟩ <;> first | (simp [go_sem, *]; done) | omega | (simp; omega) | exact (by repeat (first | (with_reducible exact Below.refl _ _) | (with_reducible assumption) | (with_reducible refine Below.setCell ?_ (by first | (simp; done) | (simp; omega) | omega) _) | (with_reducible refine Below.alloc ?_ (by first | (simp; done) | (simp; omega) | omega) _) | (with_reducible refine Below.drew ?_) | (with_reducible refine Below.trans ?_ (Below.mono (by assumption) (by first | (simp; done) | (simp; omega) | omega)))))))); simp only [List.dropLast_cons_cons, List.dropLast_singleton, List.length_cons, List.length_nil, Nat.zero_add, Nat.reduceAdd])
        (refine take2 0 (some 31) (.pointer (some ⟨(w.heap.size + 1 + 1), 1, none⟩)) rfl (by kernel_rfl) (by kernel_rfl) (by kernel_rfl) rfl (fun _ _ _ h => h) (Or.inl ⟨by rfl, fun W' hSw => (by (try dsimp only at hSw); go_simp)⟩) (by assumption) ?_; (try simp only [Act.put, List.setIfInBounds_toArray, List.set_cons_zero, List.set_cons_succ]))
        (refine take2 1 (some 32) (.slice A2 k c2) rfl (by kernel_rfl) (by kernel_rfl) (by kernel_rfl) rfl (fun _ _ _ h => h) (Or.inl ⟨by rfl, fun W' hSw => (by (try dsimp only at hSw); go_simp)⟩) (by assumption) ?_; (try simp only [Act.put, List.setIfInBounds_toArray, List.set_cons_zero, List.set_cons_succ]))
        (refine take2 2 (some 33) (.pointer (some ⟨w.heap.size, 1, none⟩)) rfl (by kernel_rfl) (by kernel_rfl) (by kernel_rfl) rfl (fun _ _ _ h => h) (Or.inl ⟨by rfl, fun W' hSw => (by (try dsimp only at hSw); go_simp)⟩) (by assumption) ?_; (try simp only [Act.put, List.setIfInBounds_toArray, List.set_cons_zero, List.set_cons_succ]))
        (refine take2 3 (some 34) (.slice (some ⟨b, off, none⟩) args.length c) rfl (by kernel_rfl) (by kernel_rfl) (by kernel_rfl) rfl (fun _ _ _ h => h) (Or.inl ⟨by rfl, fun W' hSw => (by (try dsimp only at hSw); go_simp)⟩) (by assumption) ?_; (try simp only [Act.put, List.setIfInBounds_toArray, List.set_cons_zero, List.set_cons_succ]))
        (refine take2 4 (some 35) (.int .i64 k) rfl (by kernel_rfl) (by kernel_rfl) (by kernel_rfl) rfl (fun _ _ _ h => h) (Or.inl ⟨by rfl, fun W' hSw => (by (try dsimp only at hSw); go_simp)⟩) (by assumption) ?_; (try simp only [Act.put, List.setIfInBounds_toArray, List.set_cons_zero, List.set_cons_succ]))
        (refine take2 5 (some 36) (.pointer (some ⟨b, off + k * 10, none⟩)) rfl (by kernel_rfl) (by kernel_rfl) (by kernel_rfl) rfl (fun _ _ _ h => h) (Or.inl ⟨by rfl, fun W' hSw => (by (try dsimp only at hSw); go_simp)⟩) (by assumption) ?_; (try simp only [Act.put, List.setIfInBounds_toArray, List.set_cons_zero, List.set_cons_succ]))
        (refine take2 6 (some 37) (.agg #[.int .i64 op', .slice A1 args'.length c1, .string ⟨lc'.toArray⟩, .int .i64 lt', .int .i64 ln', .string ⟨ls'.toArray⟩, .string ⟨rc'.toArray⟩, .int .i64 rt', .int .i64 rn', .string ⟨rs'.toArray⟩]) rfl (by kernel_rfl) (by kernel_rfl) (by kernel_rfl) rfl (fun _ _ _ h => h) (Or.inl ⟨by rfl, fun W' hSw => (by (try dsimp only at hSw); go_simp)⟩) (by assumption) ?_; (try simp only [Act.put, List.setIfInBounds_toArray, List.set_cons_zero, List.set_cons_succ]))
        (refine wpAnyH_ready (rs := [7]) (by kernel_rfl) (by simp) ?_; refine AllReadyH.cons rfl (fun K hK => ?_) AllReadyH.nil; (go_simp; go_at_call 32; (with_reducible refine (IHx.out _ _ (HVX.out.keep (Kp.below (by repeat (first | (with_reducible exact Below.refl _ _) | (with_reducible assumption) | (with_reducible refine Below.setCell ?_ (by first | (simp; done) | (simp; omega) | omega) _) | (with_reducible refine Below.alloc ?_ (by first | (simp; done) | (simp; omega) | omega) _) | (with_reducible refine Below.drew ?_) | (with_reducible refine Below.trans ?_ (Below.mono (by assumption) (by first | (simp; done) | (simp; omega) | omega)))))))).mono ?_); rintro e w7 ⟨⟨cs7, rfl, hv7⟩, hb7⟩; obtain ⟨A7, c7, rfl, -⟩ := hv7.open; dsimp only [condC, termC, List.cons_append, List.nil_append] at hv7 ⊢; have HV7 := Lib.hid hv7; clear hv7; obtain ⟨hc7, hf7⟩ := bcell hb7; (try simp only [drew_size, drew_cell, drew_frozen] at hc7 hf7); have hs7 := hb7.size; (try simp at hs7); have hz7 : w.heap.size < w7.heap.size ∧ b < w7.heap.size ∧ (w.heap.size + 1 + 1) < w7.heap.size := (by omega); go_wp2_with (fail)); refine hK.out _ _ ?hS1 (fun hHeld1 => ?_); (case hS1 => ((try dsimp only); (refine ⟨?_, ?_, ?_, ?_, ?_, ?_, ?_, ?_, ?_, ?_, ?_, ?_, ?_, ?_, ?_, ?_⟩ <;> first | (simp [go_sem, *]; done) | omega | (simp; omega) | exact (by repeat (first | (with_reducible exact Below.refl _ _) | (with_reducible assumption) | (with_reducible refine Below.setCell ?_ (by first | (simp; done) | (simp; omega) | omega) _) | (with_reducible refine Below.alloc ?_ (by first | (simp; done) | (simp; omega) | omega) _) | (with_reducible refine Below.drew ?_) | (with_reducible refine Below.trans ?_ (Below.mono (by assumption) (by first | (simp; done) | (simp; omega) | omega)))))))); clear hK K hHeld; have hHeld := hHeld1; clear hHeld1; (try simp only [Act.put, List.setIfInBounds_toArray, List.set_cons_zero, List.set_cons_succ]))
        have hB7 : Below wo.heap.size wo w7 := ((Below.refl _ _).drew).trans hb7
        obtain ⟨css, hcl, hro, -⟩ := (HR.out.below hB7)
        rw [htl] at hro
        have HRO := Lib.hid hro
        have hw7 : (w.heap.size + 1 + 1) + 1 ≤ w7.heap.size := by omega
        clear hcl hro
        (refine wpAnyH_ready (rs := [8]) (by kernel_rfl) (by simp) ?_; refine AllReadyH.cons rfl (fun K hK => ?_) AllReadyH.nil; (go_simp); refine hK.out _ _ ?hS1 (fun hHeld1 => ?_); (case hS1 => ((try dsimp only); (refine ⟨?_, ?_, ?_, ?_, ?_, ?_, ?_, ?_, ?_, ?_, ?_, ?_, ?_, ?_, ?_, ?_⟩ <;> first | (simp [go_sem, *]; done) | omega | (simp; omega) | exact (by repeat (first | (with_reducible exact Below.refl _ _) | (with_reducible assumption) | (with_reducible refine Below.setCell ?_ (by first | (simp; done) | (simp; omega) | omega) _) | (with_reducible refine Below.alloc ?_ (by first | (simp; done) | (simp; omega) | omega) _) | (with_reducible refine Below.drew ?_) | (with_reducible refine Below.trans ?_ (Below.mono (by assumption) (by first | (simp; done) | (simp; omega) | omega)))))))); clear hK K hHeld; have hHeld := hHeld1; clear hHeld1; (try simp only [Act.put, List.setIfInBounds_toArray, List.set_cons_zero, List.set_cons_succ]))
        (refine wpAnyH_ready (rs := [9]) (by kernel_rfl) (by simp) ?_; refine AllReadyH.cons rfl (fun K hK => ?_) AllReadyH.nil; (refine step_append_lies _ rfl (.tmp 32) (.tmp 39) 42 rfl ((w.heap.size + 1 + 1) + 1) 45 i0 _ 10 128 Tryz.underlying42 hi0 iz0 iz1 iz2 rfl (by decide) (.slice A2 k c2) k css.flatten rfl (HRO.out.alloc _) ⟨w7.heap.size, 0, none⟩ 1 1 [.int .i64 op8, .slice A7 args8.length c7, .string ⟨lc8.toArray⟩, .int .i64 lt8, .int .i64 ln8, .string ⟨ls8.toArray⟩, .string ⟨rc8.toArray⟩, .int .i64 rt8, .int .i64 rn8, .string ⟨rs8.toArray⟩] rfl rfl (World.news_of_block (cs := #[.int .i64 op8, .slice A7 args8.length c7, .string ⟨lc8.toArray⟩, .int .i64 lt8, .int .i64 ln8, .string ⟨ls8.toArray⟩, .string ⟨rc8.toArray⟩, .int .i64 rt8, .int .i64 rn8, .string ⟨rs8.toArray⟩]) (t := 45) (fr := (0, 0)) (heap_alloc_new w7 _)) (by simp [Value.oneCell']) (by omega) (by unfold maxLen; omega) (by omega) (by simp; omega) (w7.heap.size + 1) (by simp) ?_; intro gg cap w9 hown1 hgrow hat hlt9; change K (Act.put _ (some 40) _) _; have hr9 : ∀ q, (Value.slice A2 k c2).ownBlock = some q → (w.heap.size + 1 + 1) + 1 ≤ q := (fun q hq => (HRO.out.lt q hq).1); have hc9 := grown_low hgrow hr9; have hs9 : w7.heap.size < w9.heap.size := (by have := hgrow.size; simp at this; omega); have hb9 : Below w.heap.size w w9 := (Below.grown (Below.alloc ((B0.drew).trans (hb7.mono (by simp; omega))) (by omega) _) hgrow (by simp; omega) (fun j hj => by have := hr9 j hj; omega))); refine hK.out _ _ ?hS1 (fun hHeld1 => ?_); (case hS1 => ((try dsimp only); (obtain ⟨e0, e1, e2, e3, e4, e5, e6, e7, e8, e9, e10, e11, -⟩ := hHeld; exact ⟨(hc9 _ _ (by omega) (by simp; omega)).trans e0, (hc9 _ _ (by omega) (by simp; omega)).trans e1, (hc9 _ _ (by omega) (by simp; omega)).trans e2, (hc9 _ _ (by omega) (by simp; omega)).trans e3, (hc9 _ _ (by omega) (by simp; omega)).trans e4, (hc9 _ _ (by omega) (by simp; omega)).trans e5, (hc9 _ _ (by omega) (by simp; omega)).trans e6, (hc9 _ _ (by omega) (by simp; omega)).trans e7, (hc9 _ _ (by omega) (by simp; omega)).trans e8, (hc9 _ _ (by omega) (by simp; omega)).trans e9, (hc9 _ _ (by omega) (by simp; omega)).trans e10, (hc9 _ _ (by omega) (by simp; omega)).trans e11, by omega, by omega, by omega, hb9⟩))); clear hK K hHeld; have hHeld := hHeld1; clear hHeld1; (try simp only [Act.put, List.setIfInBounds_toArray, List.set_cons_zero, List.set_cons_succ]))
        (refine take2 10 (some 41) (.pointer (some ⟨(w.heap.size + 1 + 1), 1, none⟩)) rfl (by kernel_rfl) (by kernel_rfl) (by kernel_rfl) rfl (fun _ _ _ h => h) (Or.inl ⟨by rfl, fun W' hSw => (by (try dsimp only at hSw); go_simp)⟩) (by assumption) ?_; (try simp only [Act.put, List.setIfInBounds_toArray, List.set_cons_zero, List.set_cons_succ]))
        have HEL := Lib.hid hHeld
        (refine wpAnyH_done (by kernel_rfl) ?_ _; simp only [lastQ]; clear hHeld; change Oper.wp _ (Oper.mk none (Op.store 42 (Operand.tmp 41) (Operand.tmp 40)) _ _ _ none) _ _ _ _)
        obtain ⟨e0, e1, -, -, -, -, -, -, -, -, -, -, x0, x1, x2, -⟩ := HEL.out
        have blk9 : ∀ q, q < (w.heap.size + 1 + 1) + 1 → q < wo.heap.size → w9.heap[q]? = wo.heap[q]? := fun q hq hqs => (hgrow.block q (by simp; omega) (fun e => by have := hr9 q e.symm; omega)).trans ((al _ _ q (by omega)).trans (hb7.block q hqs))
        have HB39 := Lib.hid ((blk9 (w.heap.size + 1 + 1) (by omega) (by omega)).trans HB3.out)
        have HB19 := Lib.hid ((blk9 (w.heap.size + 1) (by omega) (by omega)).trans HB1.out)
        obtain ⟨-, f39⟩ := qbox (l := [.int .i64 op, .slice A2 k c2, .string ⟨#[]⟩, .int .i64 0, .int .i64 0, .string ⟨#[]⟩, .string ⟨#[]⟩, .int .i64 0, .int .i64 0, .string ⟨#[]⟩]) HB39.out 1 _ rfl
        have HRN : Hid (RowC ((w.heap.size + 1 + 1) + 1) w9 ((args.take (k + 1)).map bareC) (.slice (some ⟨gg, 0, none⟩) (k + 1) cap)) := Lib.hid (by
          have hR7 := (HR.out.below hB7).below (((Below.refl _ _).alloc (Nat.le_refl _) (.cells #[.int .i64 op8, .slice A7 args8.length c7, .string ⟨lc8.toArray⟩, .int .i64 lt8, .int .i64 ln8, .string ⟨ls8.toArray⟩, .string ⟨rc8.toArray⟩, .int .i64 rt8, .int .i64 rn8, .string ⟨rs8.toArray⟩] 45)))
          have hown2 := hown1
          rw [htk.out]
          have hlt9' : ∀ q, (Value.slice A2 k c2).ownBlock = some q → q < wo.heap.size := fun q hq => by
            obtain ⟨css', -, ho', -⟩ := HR.out
            rw [htl] at ho'
            exact (ho'.lt q hq).2
          have := hR7.push (x := .mk op8 args8 ⟨lc8, lt8, ln8, ls8⟩ ⟨rc8, rt8, rn8, rs8⟩) (cx := [.int .i64 op8, .slice A7 args8.length c7, .string ⟨lc8.toArray⟩, .int .i64 lt8, .int .i64 ln8, .string ⟨ls8.toArray⟩, .string ⟨rc8.toArray⟩, .int .i64 rt8, .int .i64 rn8, .string ⟨rs8.toArray⟩]) (g := gg) (cap := cap) (W' := w9)
            (((HV7.out).mono fun b _ hb => ⟨by simp at hb; omega, fun e => by have := hlt9' b e; simp at hb; omega⟩).keep (Kp.alloc (Kp.refl _ _) _)) (xs := css.flatten)
            (fun css' h1 h2 => by rw [htl] at h2; exact own_uniq h2 (HRO.out.alloc _)) (by rw [htl]; exact hown2) hgrow (by rcases hat with e | e; exact .inl e; exact .inr (by simp; omega))
          rw [htl] at this
          exact this)
        clear hgrow hat hown1 hc9 hr9 HRO HV7
        go_simp
        go_wp2_with (fail)
        refine ⟨⟨k + 1, _, by omega, by go_num, Lib.hid (HRN.out.set (by omega) _ _), Lib.hid (set_at HB39.out 1 _), Lib.hid ((setCell_block _ _ _ _ (by omega)).trans HB19.out), by simp; omega, Lib.hid ⟨?_, by simp; omega, ?_⟩⟩, ?_⟩
        · rw [World.cell?_setCell_far _ _ _ _ (by dsimp only; omega)]; exact e0
        · exact Below.setCell hb9 (by dsimp only; omega) _
        · first | (simp [intOf]; done) | (simp [intOf]; omega)
      · obtain rfl : k = args.length := by omega
        have hkk : ¬ (args.length : Int) < (args.length : Int) := by omega
        have hR := HR.out
        rw [List.take_of_length_le (Nat.le_refl _)] at hR
        obtain ⟨A9, c9, hV9, hl9, hn9, hL9⟩ := hR.args
        rw [List.length_map] at hV9 hl9
        injection hV9 with e1 e2 e3
        subst e1 e3
        have HL9 := Lib.hid (And.intro hl9 (And.intro hn9 hL9))
        obtain ⟨p0, -⟩ := qbox (l := [.int .i64 op, .slice A2 args.length c2, .string ⟨#[]⟩, .int .i64 0, .int .i64 0, .string ⟨#[]⟩, .string ⟨#[]⟩, .int .i64 0, .int .i64 0, .string ⟨#[]⟩]) HB3.out 0 _ rfl
        obtain ⟨q0, r0⟩ := qbox (l := [.int .i64 0, .slice none 0 0, .string ⟨#[]⟩, .int .i64 0, .int .i64 0, .string ⟨#[]⟩, .string ⟨#[]⟩, .int .i64 0, .int .i64 0, .string ⟨#[]⟩]) HB1.out 0 _ rfl
        obtain ⟨p1, -⟩ := qbox (l := [.int .i64 op, .slice A2 args.length c2, .string ⟨#[]⟩, .int .i64 0, .int .i64 0, .string ⟨#[]⟩, .string ⟨#[]⟩, .int .i64 0, .int .i64 0, .string ⟨#[]⟩]) HB3.out 1 _ rfl
        obtain ⟨q1, r1⟩ := qbox (l := [.int .i64 0, .slice none 0 0, .string ⟨#[]⟩, .int .i64 0, .int .i64 0, .string ⟨#[]⟩, .string ⟨#[]⟩, .int .i64 0, .int .i64 0, .string ⟨#[]⟩]) HB1.out 1 _ rfl
        obtain ⟨p2, -⟩ := qbox (l := [.int .i64 op, .slice A2 args.length c2, .string ⟨#[]⟩, .int .i64 0, .int .i64 0, .string ⟨#[]⟩, .string ⟨#[]⟩, .int .i64 0, .int .i64 0, .string ⟨#[]⟩]) HB3.out 2 _ rfl
        obtain ⟨q2, r2⟩ := qbox (l := [.int .i64 0, .slice none 0 0, .string ⟨#[]⟩, .int .i64 0, .int .i64 0, .string ⟨#[]⟩, .string ⟨#[]⟩, .int .i64 0, .int .i64 0, .string ⟨#[]⟩]) HB1.out 2 _ rfl
        obtain ⟨p3, -⟩ := qbox (l := [.int .i64 op, .slice A2 args.length c2, .string ⟨#[]⟩, .int .i64 0, .int .i64 0, .string ⟨#[]⟩, .string ⟨#[]⟩, .int .i64 0, .int .i64 0, .string ⟨#[]⟩]) HB3.out 3 _ rfl
        obtain ⟨q3, r3⟩ := qbox (l := [.int .i64 0, .slice none 0 0, .string ⟨#[]⟩, .int .i64 0, .int .i64 0, .string ⟨#[]⟩, .string ⟨#[]⟩, .int .i64 0, .int .i64 0, .string ⟨#[]⟩]) HB1.out 3 _ rfl
        obtain ⟨p4, -⟩ := qbox (l := [.int .i64 op, .slice A2 args.length c2, .string ⟨#[]⟩, .int .i64 0, .int .i64 0, .string ⟨#[]⟩, .string ⟨#[]⟩, .int .i64 0, .int .i64 0, .string ⟨#[]⟩]) HB3.out 4 _ rfl
        obtain ⟨q4, r4⟩ := qbox (l := [.int .i64 0, .slice none 0 0, .string ⟨#[]⟩, .int .i64 0, .int .i64 0, .string ⟨#[]⟩, .string ⟨#[]⟩, .int .i64 0, .int .i64 0, .string ⟨#[]⟩]) HB1.out 4 _ rfl
        obtain ⟨p5, -⟩ := qbox (l := [.int .i64 op, .slice A2 args.length c2, .string ⟨#[]⟩, .int .i64 0, .int .i64 0, .string ⟨#[]⟩, .string ⟨#[]⟩, .int .i64 0, .int .i64 0, .string ⟨#[]⟩]) HB3.out 5 _ rfl
        obtain ⟨q5, r5⟩ := qbox (l := [.int .i64 0, .slice none 0 0, .string ⟨#[]⟩, .int .i64 0, .int .i64 0, .string ⟨#[]⟩, .string ⟨#[]⟩, .int .i64 0, .int .i64 0, .string ⟨#[]⟩]) HB1.out 5 _ rfl
        obtain ⟨p6, -⟩ := qbox (l := [.int .i64 op, .slice A2 args.length c2, .string ⟨#[]⟩, .int .i64 0, .int .i64 0, .string ⟨#[]⟩, .string ⟨#[]⟩, .int .i64 0, .int .i64 0, .string ⟨#[]⟩]) HB3.out 6 _ rfl
        obtain ⟨q6, r6⟩ := qbox (l := [.int .i64 0, .slice none 0 0, .string ⟨#[]⟩, .int .i64 0, .int .i64 0, .string ⟨#[]⟩, .string ⟨#[]⟩, .int .i64 0, .int .i64 0, .string ⟨#[]⟩]) HB1.out 6 _ rfl
        obtain ⟨p7, -⟩ := qbox (l := [.int .i64 op, .slice A2 args.length c2, .string ⟨#[]⟩, .int .i64 0, .int .i64 0, .string ⟨#[]⟩, .string ⟨#[]⟩, .int .i64 0, .int .i64 0, .string ⟨#[]⟩]) HB3.out 7 _ rfl
        obtain ⟨q7, r7⟩ := qbox (l := [.int .i64 0, .slice none 0 0, .string ⟨#[]⟩, .int .i64 0, .int .i64 0, .string ⟨#[]⟩, .string ⟨#[]⟩, .int .i64 0, .int .i64 0, .string ⟨#[]⟩]) HB1.out 7 _ rfl
        obtain ⟨p8, -⟩ := qbox (l := [.int .i64 op, .slice A2 args.length c2, .string ⟨#[]⟩, .int .i64 0, .int .i64 0, .string ⟨#[]⟩, .string ⟨#[]⟩, .int .i64 0, .int .i64 0, .string ⟨#[]⟩]) HB3.out 8 _ rfl
        obtain ⟨q8, r8⟩ := qbox (l := [.int .i64 0, .slice none 0 0, .string ⟨#[]⟩, .int .i64 0, .int .i64 0, .string ⟨#[]⟩, .string ⟨#[]⟩, .int .i64 0, .int .i64 0, .string ⟨#[]⟩]) HB1.out 8 _ rfl
        obtain ⟨p9, -⟩ := qbox (l := [.int .i64 op, .slice A2 args.length c2, .string ⟨#[]⟩, .int .i64 0, .int .i64 0, .string ⟨#[]⟩, .string ⟨#[]⟩, .int .i64 0, .int .i64 0, .string ⟨#[]⟩]) HB3.out 9 _ rfl
        obtain ⟨q9, r9⟩ := qbox (l := [.int .i64 0, .slice none 0 0, .string ⟨#[]⟩, .int .i64 0, .int .i64 0, .string ⟨#[]⟩, .string ⟨#[]⟩, .int .i64 0, .int .i64 0, .string ⟨#[]⟩]) HB1.out 9 _ rfl
        have hz9 : w.heap.size + 1 ≠ (w.heap.size + 1 + 1) ∧ (w.heap.size + 1 + 1) ≠ w.heap.size + 1 := by omega
        clear o31 f31
        go_wp2_with (fail)
        exact bodyPost_ret (v := .agg #[.int .i64 op, .slice A2 args.length c2, .string ⟨#[]⟩, .int .i64 0, .int .i64 0, .string ⟨#[]⟩, .string ⟨#[]⟩, .int .i64 0, .int .i64 0, .string ⟨#[]⟩]) (by simp [results, Tryz.results33, go_sem, *]) rfl (HQ.out A2 c2 ((w.heap.size + 1 + 1) + 1) _ _ HL9.out.1 HL9.out.2.1 HL9.out.2.2 (by omega) (by repeat (first | (with_reducible exact Kp.refl _ _) | (with_reducible refine Kp.set ?_ (by dsimp only; omega) _))) (by repeat (first | (with_reducible exact B0) | (with_reducible refine Below.setCell ?_ (by dsimp only; omega) _))))
end Go.Proofs.YtijlifdbjhieaaaGreatDoor
