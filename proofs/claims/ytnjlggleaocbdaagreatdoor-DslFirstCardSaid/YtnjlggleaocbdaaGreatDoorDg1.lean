/-
  Contract of dsl.FormatExpr.
-/
import Derived.Test.YtnjlggleaocbdaaGreatDoorDf8
import Derived.Test.YtnjlggleaocbdaaGreatDoorDp10

/-
  Contract of dsl.FormatExpr.
-/
namespace Go.Proofs.YtnjlggleaocbdaaGreatDoor
set_option linter.all false
open Go.RowKit Go.Shelf
attribute [local go_sem] cell_set_self lt_1 lt_2 lt_3 lt_4 lt_5 lt_6

theorem esc_len : ∀ (l : List UInt8), (escQ l).length ≤ 2 * l.length
  | [] => by simp [escQ]
  | c :: r => by
    have := esc_len r
    unfold escQ
    split
    · simp; omega
    · split <;> (simp; omega)
theorem par_len (b : Bool) (s : List UInt8) : (parX b s).length ≤ s.length + 2 := by cases b <;> simp [parX]
theorem pow_le {a b : Nat} (h : a ≤ b) : 2 ^ a ≤ 2 ^ b := Nat.pow_le_pow_right (by omega) h
theorem lay_len (e : ExprT) (h : fineE e = true) : (layX e).length + 10 ≤ 220 * 2 ^ depthE e := by
  refine Pl.fine_ind (P := fun e => (layX e).length + 10 ≤ 220 * 2 ^ depthE e) ?_ ?_ ?_ ?_ ?_ ?_ ?_ ?_ e h
  · intro n h0 h1
    have := Lib.itoa_length_le n
    rw [dep0, layX, if_pos rfl]
    simp; omega
  · intro s hs
    have := esc_len s
    have h1 : s.length ≤ 100 := by simp [textB] at hs; omega
    rw [dep0, layX, if_neg (by decide), if_pos rfl]
    simp [quoteX]; omega
  · intro n hn
    rw [dep0, layX, if_neg (by decide), if_neg (by decide), if_pos rfl]
    split <;> simp
  · intro s hs
    have h1 : s.length ≤ 30 := by simp [nameB] at hs; omega
    rw [dep0, layX, if_neg (by decide), if_neg (by decide), if_neg (by decide), if_pos rfl]
    simp; omega
  · intro s hs
    have h1 : s.length ≤ 30 := by simp [nameB] at hs; omega
    rw [dep0, layX, if_neg (by decide), if_neg (by decide), if_neg (by decide), if_neg (by decide), if_pos rfl]
    simp; omega
  · intro a _ ha
    have h2 := par_len (decide (3 ≤ bindN a.op)) (layX a)
    have h3 : 2 ^ (1 + depthE a) = 2 * 2 ^ depthE a := by rw [Nat.add_comm, Nat.pow_succ]; omega
    have h4 : 1 ≤ 2 ^ depthE a := Nat.one_le_two_pow
    rw [dep1, h3, layX, if_neg (by decide), if_neg (by decide), if_neg (by decide), if_neg (by decide), if_neg (by decide), if_pos rfl, lay1]
    simp; omega
  · intro a _ ha
    have h2 := par_len (decide (7 ≤ bindN a.op)) (layX a)
    have h3 : 2 ^ (1 + depthE a) = 2 * 2 ^ depthE a := by rw [Nat.add_comm, Nat.pow_succ]; omega
    have h4 : 1 ≤ 2 ^ depthE a := Nat.one_le_two_pow
    rw [dep1, h3, layX, if_neg (by decide), if_neg (by decide), if_neg (by decide), if_neg (by decide), if_neg (by decide), if_neg (by decide), if_pos rfl, lay1]
    simp; omega
  · intro op a b hb _ _ ha hb'
    obtain ⟨⟨o1, o2, o3, o4, o5, o8, o20⟩, hsl, -⟩ := bin_not op hb
    have h2 := par_len (decide (leftN op ≤ bindN a.op)) (layX a)
    have h5 := par_len (decide (bindN op + 1 ≤ bindN b.op)) (layX b)
    have h3 : 2 ^ (1 + max (depthE a) (depthE b)) = 2 * 2 ^ max (depthE a) (depthE b) := by rw [Nat.add_comm, Nat.pow_succ]; omega
    have h6 := pow_le (Nat.le_max_left (depthE a) (depthE b))
    have h7 := pow_le (Nat.le_max_right (depthE a) (depthE b))
    rw [dep2, h3, layX, if_neg o1, if_neg o2, if_neg o3, if_neg o4, if_neg o5, if_neg o8, if_neg o20, lay1, lay2, lay1]
    simp; omega
set_option maxRecDepth 100000 in
theorem printer_len (B b : Nat) (l : List UInt8) (w : World) (H : PrS B b l w) : Calls Tryz.prog 26 #[.pointer (some ⟨b, 0, none⟩)] w fun e w' => e = .returned (.int .i64 l.length) ∧ w = w' := by
  obtain ⟨h1, h2, h3⟩ := H
  obtain ⟨p, hB, v, hbk, hown, hne⟩ : ∃ p, Lib.BuilderAt 73 5 B b p (Lib.byteCells l) w := h1.elim (fun x => ⟨_, x⟩) (fun x => ⟨_, x⟩)
  obtain ⟨A, c, rfl⟩ := own_form hown
  rw [Lib.byteCells_length] at hbk
  obtain ⟨⟨c0, c1⟩, cf⟩ := two_cells hbk
  clear hown hne hbk h1
  go_enter Tryz.func26, Tryz.ntmps26
  go_wp2
  go_ret
  exact ⟨rfl, rfl⟩
set_option maxHeartbeats 1000000 in
set_option maxRecDepth 100000 in
theorem printer_string (B b : Nat) (l : List UInt8) (w : World) (H : PrS B b l w) (h0 : l ≠ []) : Calls Tryz.prog 27 #[.pointer (some ⟨b, 0, none⟩)] w fun e w' => e = .returned (.string ⟨l.toArray⟩) ∧ Below B w w' := by
  obtain ⟨h1, h2, h3⟩ := H
  obtain ⟨p, hB, v, hbk, hown, hne⟩ : ∃ p, Lib.BuilderAt 73 5 B b p (Lib.byteCells l) w := h1.elim (fun x => ⟨_, x⟩) (fun x => ⟨_, x⟩)
  have hl0 : l.length ≠ 0 := by simpa using h0
  rw [Lib.byteCells_length] at hown
  rcases hown.2 with ⟨_, hz⟩ | ⟨g, cap, cur, rfl, hbg, hg, hnc, hcm, hcs, htake⟩
  · exact absurd hz hl0
  have c1 : w.drew.cell? ⟨b, 1, none⟩ = some (.slice (some ⟨g, 0, none⟩) l.length cap) := (two_cells (w := w.drew) hbk).1.2
  have hSD : (Builtin.unsafeSliceData_ #[69] 107 #[.slice (some ⟨g, 0, none⟩) l.length cap]).run Tryz.prog w.drew = .ok (.pointer (some ⟨g, 0, none⟩)) w.drew :=
    Lib.run_unsafeSliceData_row _ _ _ _ _ _ (by omega)
  have hUS : (Builtin.unsafeString_ #[107, 3] 9 #[.pointer (some ⟨g, 0, none⟩), .int .i64 l.length]).run Tryz.prog w.drew = .ok (.string ⟨l.toArray⟩) (w.drew.freeze ⟨g, 0, none⟩ l.length) := by
    refine Lib.run_unsafeString_row w.drew 107 3 9 5 Tryz.underlying107 Tryz.Builder_Extra_169.cellsByte g cur.size (by have hg' : w.drew.heap[g]? = some (.cells cur 5 (0, 0)) := hg; simp [World.shape?, hg']) l h0 (by omega) (by unfold maxLen at hcm; omega) ?_
    intro j x hx
    exact hown.cells (g := g) rfl j (.int .u8 x.toNat) (by simp [Lib.byteCells, hx])
  clear hown hne hcs htake h1
  have mixed : Tryz.prog.follows .mixedOrders = true := by kernel_rfl
  go_enter Tryz.func27, Tryz.ntmps27
  go_wp2
  go_region_o
  all_goals (go_wp2; go_ret; exact ⟨rfl, Lib.below_freeze (Below.drew (Below.refl B w)) (p := ⟨g, 0, none⟩) hbg _⟩)
end Go.Proofs.YtnjlggleaocbdaaGreatDoor

/-
  Contract of dsl.FormatExpr.
-/
namespace Go.Proofs.YtnjlggleaocbdaaGreatDoor
set_option linter.all false
open Go.RowKit Go.Shelf
attribute [local go_sem] cell_set_self lt_1 lt_2 lt_3 lt_4 lt_5 lt_6

theorem lay_ne (e : ExprT) (h : fineE e = true) : layX e ≠ [] := by
  refine Pl.fine_ind (P := fun e => layX e ≠ []) ?_ ?_ ?_ ?_ ?_ ?_ ?_ ?_ e h
  · intro n h0 h1 hx
    rw [layX, if_pos rfl] at hx
    obtain ⟨c, r, hcr, -⟩ := Pl.itoa_digits h0
    rw [hcr] at hx; cases hx
  · intro s hs
    rw [layX, if_neg (by decide), if_pos rfl]; simp [quoteX]
  · intro n hn
    rw [layX, if_neg (by decide), if_neg (by decide), if_pos rfl]
    split <;> simp
  · intro s hs
    rw [layX, if_neg (by decide), if_neg (by decide), if_neg (by decide), if_pos rfl]
    intro hx; subst hx; simp [nameB] at hs
  · intro s hs
    rw [layX, if_neg (by decide), if_neg (by decide), if_neg (by decide), if_neg (by decide), if_pos rfl]; simp
  · intro a _ ha
    rw [layX, if_neg (by decide), if_neg (by decide), if_neg (by decide), if_neg (by decide), if_neg (by decide), if_pos rfl]; simp
  · intro a _ ha
    rw [layX, if_neg (by decide), if_neg (by decide), if_neg (by decide), if_neg (by decide), if_neg (by decide), if_neg (by decide), if_pos rfl]; simp
  · intro op a b hb _ _ ha hb'
    obtain ⟨⟨o1, o2, o3, o4, o5, o8, o20⟩, hsl, -⟩ := bin_not op hb
    rw [layX, if_neg o1, if_neg o2, if_neg o3, if_neg o4, if_neg o5, if_neg o8, if_neg o20]; simp
theorem PrS.new (W : World) : PrS W.heap.size W.heap.size [] (W.alloc (.cells #[.pointer none, .slice none 0 0] 73)) :=
  ⟨.inl ⟨Nat.le_refl _, .slice none 0 0, heap_alloc_new W _, World.ownsRow_nil _ _ _ _, (fun h => by cases h)⟩, by simp, by simp⟩
set_option maxHeartbeats 8000000 in
set_option maxRecDepth 100000 in
theorem fexpr_any (P : Nat → Prop) (t : ExprT) (cs : List Value) (w : World) (hv : EV P w t cs) (hlt : LtE 1000000000000000 t) (hd : depthE t ≤ 1000000000) (E : Env w) :
    Calls Tryz.prog 9 #[.agg cs.toArray] w fun e w' => e = .returned (.tuple #[.string ⟨(exprX t).toArray⟩, .int .i64 (exprErr t)]) ∧ Below w.heap.size w w' := by
  suffices key : ∀ Q : Ending → World → Prop, Hid (∀ s er w', exprX t = s → exprErr t = er → Below w.heap.size w w' → Q (.returned (.tuple #[.string ⟨s.toArray⟩, .int .i64 er])) w') → Calls Tryz.prog 9 #[.agg cs.toArray] w Q from key _ (Lib.hid fun s er w' h1 h2 h3 => by rw [h1, h2]; exact ⟨rfl, h3⟩)
  intro Q HQQ
  have DP := Lib.hid (fun W hb => depth_any P _ t cs W (Nat.le_refl _) (hv.keep (Kp.below hb)) hd)
  have AF := Lib.hid (fun W hb => allFine_any P _ t cs W (Nat.le_refl _) (hv.keep (Kp.below hb)) hlt)
  have HLK := Lib.hid (fun (hf : fineE t = true) => lay_ok t hf)
  have HLN := Lib.hid (fun (hf : fineE t = true) => lay_len t hf)
  have HNE := Lib.hid (fun (hf : fineE t = true) => lay_ne t hf)
  have HV := Lib.hid hv
  have HE := Lib.hid E
  have hXX : exprErr t = if 32 < depthE t then 20 else if fineE t = false then 10 else if 65536 < (layX t).length then 8 else 0 := rfl
  have hYY : exprX t = if exprErr t = 0 then layX t else [] := rfl
  obtain ⟨D, hD⟩ : ∃ D, depthE t = D := ⟨_, rfl⟩
  obtain ⟨F, hF⟩ : ∃ F, fineE t = F := ⟨_, rfl⟩
  rw [hD] at DP hXX HLN
  rw [hF] at AF hXX HLK HLN HNE
  obtain ⟨op, n, s, args⟩ := t
  obtain ⟨A, c, rfl, hac, -⟩ := hv.open
  dsimp only [exprC] at *
  clear hv E hlt hD hF hac
  by_cases h32 : 32 < D
  · have h32' : (32 : Int) < (D : Int) := by omega
    rw [if_pos h32] at hXX
    rw [hXX, if_neg (by decide)] at hYY
    have HF := Lib.hid (fun w' hb => HQQ.out [] 20 w' hYY hXX hb)
    clear hXX hYY h32 hd
    go_enter Tryz.func9, Tryz.ntmps9
    go_wp2_with (first | (go_at_call 23; (with_reducible refine (DP.out _ (by repeat (first | exact Below.refl _ _ | refine Below.setCell ?_ (by first | (simp; done) | (simp; omega) | omega) _ | refine Below.alloc ?_ (by first | (simp; done) | (simp; omega) | omega) _ | refine Below.drew ?_ | assumption | refine Below.trans ?_ (Below.mono (by assumption) (by first | (simp; done) | (simp; omega) | omega))))).mono ?_); rintro e w3 ⟨rfl, hb3⟩))
    exact HF.out _ (by repeat (first | exact Below.refl _ _ | refine Below.setCell ?_ (by first | (simp; done) | (simp; omega) | omega) _ | refine Below.alloc ?_ (by first | (simp; done) | (simp; omega) | omega) _ | refine Below.drew ?_ | assumption | refine Below.trans ?_ (Below.mono (by assumption) (by first | (simp; done) | (simp; omega) | omega))))
  · have h32' : ¬ (32 : Int) < (D : Int) := by omega
    rw [if_neg h32] at hXX
    cases F with
    | false =>
      rw [if_pos rfl] at hXX
      rw [hXX, if_neg (by decide)] at hYY
      have HF := Lib.hid (fun w' hb => HQQ.out [] 10 w' hYY hXX hb)
      clear hXX hYY h32 hd
      go_enter Tryz.func9, Tryz.ntmps9
      go_wp2_with (first | (go_at_call 23; (with_reducible refine (DP.out _ (by repeat (first | exact Below.refl _ _ | refine Below.setCell ?_ (by first | (simp; done) | (simp; omega) | omega) _ | refine Below.alloc ?_ (by first | (simp; done) | (simp; omega) | omega) _ | refine Below.drew ?_ | assumption | refine Below.trans ?_ (Below.mono (by assumption) (by first | (simp; done) | (simp; omega) | omega))))).mono ?_); rintro e w3 ⟨rfl, hb3⟩; obtain ⟨hc3, hf3⟩ := bcell hb3; simp only [World.size_alloc] at hc3 hf3; have hs3 := hb3.size; (try simp at hs3); have hz3 : w.heap.size < w3.heap.size ∧ w.heap.size < w.heap.size + 1 := (by omega)) | (go_at_call 24; (with_reducible refine (AF.out _ (by repeat (first | exact Below.refl _ _ | refine Below.setCell ?_ (by first | (simp; done) | (simp; omega) | omega) _ | refine Below.alloc ?_ (by first | (simp; done) | (simp; omega) | omega) _ | refine Below.drew ?_ | assumption | refine Below.trans ?_ (Below.mono (by assumption) (by first | (simp; done) | (simp; omega) | omega))))).mono ?_); rintro e w4 ⟨rfl, hb4⟩))
      exact HF.out _ (by repeat (first | exact Below.refl _ _ | refine Below.setCell ?_ (by first | (simp; done) | (simp; omega) | omega) _ | refine Below.alloc ?_ (by first | (simp; done) | (simp; omega) | omega) _ | refine Below.drew ?_ | assumption | refine Below.trans ?_ (Below.mono (by assumption) (by first | (simp; done) | (simp; omega) | omega))))
    | true =>
      rw [if_neg (by simp)] at hXX
      have HLK := Lib.hid (HLK.out rfl)
      have hln := HLN.out rfl
      have h2 := pow_le (show D ≤ 32 by omega)
      have hll : (layX (.mk op n s args)).length ≤ 10000000000000 := by
        have : (2 : Nat) ^ 32 = 4294967296 := by decide
        omega
      have hne := HNE.out rfl
      clear HLN HNE hln h2 h32 hd
      generalize hT : layX (.mk op n s args) = T at *
      have HLK2 : Hid (∀ (B b : Nat) (l : List UInt8) (cs : List Value) (w : World), PrS B b l w → Env w → 8 ≤ B → EV (fun k => k < B) w (.mk op n s args) cs → l.length + T.length ≤ 100000000000000 → Calls Tryz.prog 25 #[.pointer (some ⟨b, 0, none⟩), .agg cs.toArray] w fun e w' => (∃ v, e = .returned v) ∧ PrS B b (l ++ T) w' ∧ Grew B b w w') := Lib.hid (by have h := HLK.out; unfold LayOk at h; rw [hT] at h; exact h)
      clear HLK hT
      go_enter Tryz.func9, Tryz.ntmps9
      go_wp2_with (first | (go_at_call 23; (with_reducible refine (DP.out _ (by repeat (first | exact Below.refl _ _ | refine Below.setCell ?_ (by first | (simp; done) | (simp; omega) | omega) _ | refine Below.alloc ?_ (by first | (simp; done) | (simp; omega) | omega) _ | refine Below.drew ?_ | assumption | refine Below.trans ?_ (Below.mono (by assumption) (by first | (simp; done) | (simp; omega) | omega))))).mono ?_); rintro e w3 ⟨rfl, hb3⟩; obtain ⟨hc3, hf3⟩ := bcell hb3; simp only [World.size_alloc] at hc3 hf3; have hs3 := hb3.size; (try simp at hs3); have hz3 : w.heap.size < w3.heap.size ∧ w.heap.size < w.heap.size + 1 := (by omega)) | (go_at_call 24; (with_reducible refine (AF.out _ (by repeat (first | exact Below.refl _ _ | refine Below.setCell ?_ (by first | (simp; done) | (simp; omega) | omega) _ | refine Below.alloc ?_ (by first | (simp; done) | (simp; omega) | omega) _ | refine Below.drew ?_ | assumption | refine Below.trans ?_ (Below.mono (by assumption) (by first | (simp; done) | (simp; omega) | omega))))).mono ?_); rintro e w4 ⟨rfl, hb4⟩; obtain ⟨hc4, hf4⟩ := bcell hb4; have hs4 := hb4.size; have hz4 : w.heap.size < w4.heap.size := (by omega)))
      have HB4 : Hid (Below w.heap.size w w4) := Lib.hid (by repeat (first | exact Below.refl _ _ | refine Below.setCell ?_ (by first | (simp; done) | (simp; omega) | omega) _ | refine Below.alloc ?_ (by first | (simp; done) | (simp; omega) | omega) _ | refine Below.drew ?_ | assumption | refine Below.trans ?_ (Below.mono (by assumption) (by first | (simp; done) | (simp; omega) | omega))))
      have HP := Lib.hid (PrS.new w4)
      have h8 : 8 ≤ w4.heap.size := Nat.le_trans HE.out.1 HB4.out.size
      have HB5 : Hid (Below w4.heap.size w4 (w4.alloc (.cells #[.pointer none, .slice none 0 0] 73))) := Lib.hid ((Below.refl _ _).alloc (Nat.le_refl _) _)
      go_at_call 25
      refine (HLK2.out _ _ [] _ _ HP.out (HE.out.below (HB4.out.trans (HB5.out.mono HB4.out.size))) h8 (((HV.out.keep (Kp.below HB4.out)).mono (P' := fun k => k < w4.heap.size) (fun k hk _ => hk)).keep ⟨HB5.out.size, fun k hk _ => HB5.out.block k hk⟩) (by simp; omega)).mono ?_
      rintro e w6 ⟨⟨v6, rfl⟩, hp6, hg6⟩
      rw [List.nil_append] at hp6
      have HP6 := Lib.hid hp6
      have HB6 : Hid (Below w.heap.size w w6) := Lib.hid (HB4.out.trans ((HB5.out.trans hg6.1).mono HB4.out.size))
      have LN := Lib.hid (printer_len _ _ T w6 hp6)
      have ST := Lib.hid (printer_string _ _ T w6 hp6 hne)
      clear hp6 hg6 HB5 HP hb3 hb4 hc3 hc4 hf3 hf4
      by_cases hbig : 65536 < T.length
      · have hbig' : (65536 : Int) < (T.length : Int) := by omega
        rw [if_pos hbig] at hXX
        rw [hXX, if_neg (by decide)] at hYY
        have HF := Lib.hid (fun w' hb => HQQ.out [] 8 w' hYY hXX hb)
        clear hbig hXX hYY
        go_wp2_with (first | (go_at_call 26; (with_reducible refine LN.out.mono ?_); rintro e w7 ⟨rfl, rfl⟩))
        exact HF.out _ HB6.out
      · have hbig' : ¬ (65536 : Int) < (T.length : Int) := by omega
        rw [if_neg hbig] at hXX
        rw [hXX, if_pos rfl] at hYY
        have HF := Lib.hid (fun w' hb => HQQ.out T 0 w' hYY hXX hb)
        clear hbig hXX hYY
        go_wp2_with (first | (go_at_call 26; (with_reducible refine LN.out.mono ?_); rintro e w7 ⟨rfl, rfl⟩) | (go_at_call 27; (with_reducible refine ST.out.mono ?_); rintro e w8 ⟨rfl, hb8⟩))
        exact HF.out _ (HB6.out.trans (hb8.mono HB4.out.size))
end Go.Proofs.YtnjlggleaocbdaaGreatDoor
