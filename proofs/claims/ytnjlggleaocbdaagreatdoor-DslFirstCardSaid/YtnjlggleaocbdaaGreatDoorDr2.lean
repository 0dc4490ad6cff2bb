/-
  The reader of tokens in memory; contracts of here, fail, may, must, name. (Printed by tools/mkdr.py.)
-/
import Derived.Test.YtnjlggleaocbdaaGreatDoorDc3
import Derived.StillTailTactics
namespace Go.Proofs.YtnjlggleaocbdaaGreatDoor
set_option linter.all false
open Go.RowKit Go.Shelf
attribute [local go_sem] cell_set_self lt_1 lt_2 lt_3 lt_4 lt_5 lt_6

/-- The reader at rb: its tokens ts, and which one is read. -/
structure RdS (w : World) (rb gt n cap : Nat) (ts : List Tok) (at' : Nat) : Prop where
  c0 : w.cell? ⟨rb, 0, none⟩ = some (.slice (some ⟨gt, 0, none⟩) n cap)
  c1 : w.cell? ⟨rb, 1, none⟩ = some (.int .i64 (at' : Int))
  f1 : w.frozen? ⟨rb, 1, none⟩ = false
  len : ts.length = n
  le : at' ≤ n
  cap : n ≤ cap
  big : n ≤ 1000001
  ne : gt ≠ rb
  tok : ∀ i t, ts[i]? = some t → w.cell? ⟨gt, i * 4, none⟩ = some (.int .u8 t.k) ∧ w.cell? ⟨gt, i * 4 + 1, none⟩ = some (.string ⟨t.s.toArray⟩) ∧ w.cell? ⟨gt, i * 4 + 2, none⟩ = some (.int .i64 t.n) ∧ w.cell? ⟨gt, i * 4 + 3, none⟩ = some (.int .i64 (t.p : Int))
theorem RdS.lt {w : World} {rb gt n cap at' : Nat} {ts : List Tok} (h : RdS w rb gt n cap ts at') : rb < w.heap.size := World.block_lt_of_cell? w _ h.c0
theorem RdS.block {w W : World} {rb gt n cap at' : Nat} {ts : List Tok} (h : RdS w rb gt n cap ts at') (h1 : W.heap[rb]? = w.heap[rb]?) (h2 : W.heap[gt]? = w.heap[gt]?) : RdS W rb gt n cap ts at' := by
  have e : ∀ b o, W.heap[b]? = w.heap[b]? → W.cell? ⟨b, o, none⟩ = w.cell? ⟨b, o, none⟩ := fun b o h => by simp only [World.cell?, h]
  have f : ∀ b o, W.heap[b]? = w.heap[b]? → W.frozen? ⟨b, o, none⟩ = w.frozen? ⟨b, o, none⟩ := fun b o h => by simp only [World.frozen?, h]
  exact ⟨by rw [e _ _ h1]; exact h.c0, by rw [e _ _ h1]; exact h.c1, by rw [f _ _ h1]; exact h.f1, h.len, h.le, h.cap, h.big, h.ne, fun i t hi => by rw [e _ _ h2, e _ _ h2, e _ _ h2, e _ _ h2]; exact h.tok i t hi⟩
theorem RdS.gt_lt {w : World} {rb gt n cap at' : Nat} {ts : List Tok} (h : RdS w rb gt n cap ts at') {i : Nat} {t : Tok} (hi : ts[i]? = some t) : gt < w.heap.size := World.block_lt_of_cell? w _ (h.tok i t hi).1
/-- The reader, by the tokens that are left. -/
def RdR (w : World) (rb gt : Nat) (r : List Tok) : Prop := ∃ n cap ts p, RdS w rb gt n cap ts p ∧ ts.drop p = r ∧ gt < w.heap.size ∧ rb < w.heap.size ∧ gt ≠ rb
theorem RdR.block {w W : World} {rb gt : Nat} {r : List Tok} (h : RdR w rb gt r) (h1 : W.heap[rb]? = w.heap[rb]?) (h2 : W.heap[gt]? = w.heap[gt]?) (hs : w.heap.size ≤ W.heap.size) : RdR W rb gt r := by
  obtain ⟨n, cap, ts, p, h3, h4, h5, h6, h7⟩ := h
  exact ⟨n, cap, ts, p, h3.block h1 h2, h4, by omega, by omega, h7⟩
theorem RdR.below {w W : World} {rb gt : Nat} {r : List Tok} (h : RdR w rb gt r) (hb : Below w.heap.size w W) : RdR W rb gt r := by
  have h' := h
  obtain ⟨n, cap, ts, p, h3, h4, h5, h6, h7⟩ := h'
  exact h.block (hb.block _ h6) (hb.block _ h5) hb.size
theorem RdR.alloc {w : World} {rb gt : Nat} {r : List Tok} (h : RdR w rb gt r) (o : Obj) : RdR (w.alloc o) rb gt r := h.below ((Below.refl _ _).alloc (Nat.le_refl _) o)
theorem RdR.drew {w : World} {rb gt : Nat} {r : List Tok} (h : RdR w rb gt r) : RdR w.drew rb gt r := h.block rfl rfl (Nat.le_refl _)
theorem RdR.setCell {w : World} {rb gt : Nat} {r : List Tok} (h : RdR w rb gt r) {p : Addr} (h1 : ¬ p.block = rb) (h2 : ¬ p.block = gt) (v : Value) : RdR (w.setCell p v) rb gt r := by
  refine h.block ?_ ?_ (by simp) <;> (simp only [World.setCell, Array.getElem?_modify]; rw [if_neg (by omega)])
/-- A reading's tokens end in one that nothing takes. -/
def EndsT (r : List Tok) : Prop := ∃ t, r.getLast? = some t ∧ t.k ≠ 119 ∧ t.k ≠ 109 ∧ t.k ≠ 110 ∧ t.k ≠ 116
theorem EndsT.ne {r : List Tok} (h : EndsT r) : r ≠ [] := by rintro rfl; obtain ⟨t, h, -⟩ := h; cases h
theorem EndsT.tail {t : Tok} {r : List Tok} (h : EndsT (t :: r)) (hk : t.k = 119 ∨ t.k = 109 ∨ t.k = 110 ∨ t.k = 116) : EndsT r := by
  obtain ⟨u, h1, h2⟩ := h
  cases r with
  | nil => simp at h1; subst h1; omega
  | cons a l => exact ⟨u, by rw [List.getLast?_cons_cons] at h1; exact h1, h2⟩
set_option maxHeartbeats 4000000 in
set_option maxRecDepth 100000 in
theorem here_any (rb gt : Nat) (t : Tok) (r : List Tok) (w : World) (R : RdR w rb gt (t :: r)) :
    Calls Tryz.prog 31 #[.pointer (some ⟨rb, 0, none⟩)] w fun e w' => e = .returned (tokV t) ∧ Below w.heap.size w w' := by
  obtain ⟨n, cap, ts, p, ⟨c0, c1, f1, len, le, cp, big, ne, tok⟩, hd, hgt, hrb, -⟩ := R
  have ht : ts[p]? = some t := by
    have := congrArg List.head? hd
    rw [List.head?_drop] at this; exact this
  clear hd
  obtain ⟨t0, t1, t2, t3⟩ := tok p t ht
  have hp : p < n := by rw [← len]; exact (List.getElem?_eq_some_iff.1 ht).1
  have hp' : (p : Int) < (n : Int) := by omega
  clear tok ht len
  obtain ⟨tk, tS, tn, tp⟩ := t
  dsimp only at t0 t1 t2 t3
  dsimp only [tokV]
  generalize (⟨tS.toArray⟩ : ByteArray) = S at *
  suffices key : ∀ Q : Ending → World → Prop, Hid (∀ e w', (e = .returned (.agg #[.int .u8 tk, .string S, .int .i64 tn, .int .i64 (tp : Int)]) ∧ Below w.heap.size w w') → Q e w') → Calls Tryz.prog 31 #[.pointer (some ⟨rb, 0, none⟩)] w Q from key _ (Lib.hid fun _ _ h => h)
  intro Q HQQ
  go_enter Tryz.func31, Tryz.ntmps31
  go_wp2
  have hz : rb < w.heap.size + 1 ∧ gt < w.heap.size + 1 := by omega
  go_region_held3 (fun w' => w'.cell? ⟨rb, 0, none⟩ = some (.slice (some ⟨gt, 0, none⟩) n cap) ∧ w'.cell? ⟨rb, 1, none⟩ = some (.int .i64 (p : Int)) ∧ w'.cell? ⟨gt, p * 4, none⟩ = some (.int .u8 tk) ∧ w'.cell? ⟨gt, p * 4 + 1, none⟩ = some (.string S) ∧ w'.cell? ⟨gt, p * 4 + 2, none⟩ = some (.int .i64 tn) ∧ w'.cell? ⟨gt, p * 4 + 3, none⟩ = some (.int .i64 (tp : Int)) ∧ rb < w'.heap.size ∧ gt < w'.heap.size ∧ Below w.heap.size w w')
      (first | (refine ⟨?_, ?_, ?_, ?_, ?_, ?_, ?_, ?_, ?_⟩ <;> first | (simp [go_sem, *]; done) | omega | (simp; omega) | exact (by repeat (first | exact Below.refl _ _ | refine Below.setCell ?_ (by first | (simp; done) | (simp; omega) | omega) _ | refine Below.alloc ?_ (by first | (simp; done) | (simp; omega) | omega) _ | refine Below.drew ?_ | assumption | refine Below.trans ?_ (Below.mono (by assumption) (by first | (simp; done) | (simp; omega) | omega))))))
      (first | (fail))
  go_wp2
  exact bodyPost_ret (v := .agg #[.int .u8 tk, .string S, .int .i64 tn, .int .i64 (tp : Int)]) (by simp [results, Tryz.results31, go_sem, *]) rfl (HQQ.out _ _ ⟨rfl, (by repeat (first | exact Below.refl _ _ | refine Below.setCell ?_ (by first | (simp; done) | (simp; omega) | omega) _ | refine Below.alloc ?_ (by first | (simp; done) | (simp; omega) | omega) _ | refine Below.drew ?_ | assumption | refine Below.trans ?_ (Below.mono (by assumption) (by first | (simp; done) | (simp; omega) | omega))))⟩)
theorem fld_k (a b c d : Value) (w : World) : (Instr.field 83 (.agg #[a, b, c, d]) 0).run Tryz.prog w = .ok a w := by kernel_rfl
theorem fld_s (a b c d : Value) (w : World) : (Instr.field 83 (.agg #[a, b, c, d]) 1).run Tryz.prog w = .ok b w := by kernel_rfl
theorem fld_n (a b c d : Value) (w : World) : (Instr.field 83 (.agg #[a, b, c, d]) 2).run Tryz.prog w = .ok c w := by kernel_rfl
theorem fld_p (a b c d : Value) (w : World) : (Instr.field 83 (.agg #[a, b, c, d]) 3).run Tryz.prog w = .ok d w := by kernel_rfl
attribute [local go_sem] fld_k fld_s fld_n fld_p
/-- What a reading is given up with. -/
def fltP (p : Nat) (e : Int) : List PanicEntry := [{ v := .iface 78 (.agg #[.int .i64 (p : Int), .int .i64 e]), recovered := false }]
set_option maxHeartbeats 1000000 in
set_option maxRecDepth 100000 in
theorem fail_any (rb gt : Nat) (t : Tok) (r : List Tok) (er : Int) (w : World) (R : RdR w rb gt (t :: r)) :
    Calls Tryz.prog 32 #[.pointer (some ⟨rb, 0, none⟩), .int .i64 er] w fun e w' => e = .panicked (fltP t.p er) ∧ Below w.heap.size w w' := by
  suffices key : ∀ Q : Ending → World → Prop, Hid (∀ e w', (e = .panicked (fltP t.p er) ∧ Below w.heap.size w w') → Q e w') → Calls Tryz.prog 32 #[.pointer (some ⟨rb, 0, none⟩), .int .i64 er] w Q from key _ (Lib.hid fun _ _ h => h)
  intro Q HQQ
  have HR := Lib.hid R
  have HH := Lib.hid (fun W R' => here_any rb gt t r W R')
  clear R
  dsimp only [tokV] at HH
  go_enter Tryz.func32, Tryz.ntmps32
  go_wp2_with (first | (go_at_call 31; (with_reducible refine (HH.out _ HR.out).mono ?_); rintro e w3 ⟨rfl, hb3⟩))
  exact ⟨rfl, HQQ.out _ _ ⟨rfl, hb3⟩⟩
attribute [local go_sem] fld_k fld_s fld_n fld_p
theorem RdR.step {w : World} {rb gt : Nat} {t : Tok} {r : List Tok} (h : RdR w rb gt (t :: r)) : ∃ p : Nat, p ≤ 1000000000 ∧ w.cell? ⟨rb, 1, none⟩ = some (.int .i64 (p : Int)) ∧ w.frozen? ⟨rb, 1, none⟩ = false ∧ ∀ W, Below w.heap.size w W → RdR (W.setCell ⟨rb, 1, none⟩ (.int .i64 ((p : Int) + 1))) rb gt r := by
  obtain ⟨n, cap, ts, p, h3, h4, h5, h6, h7⟩ := h
  have hp : p < n := by
    rw [← h3.len]
    rcases Nat.lt_or_ge p ts.length with h | h
    · exact h
    · rw [List.drop_eq_nil_of_le h] at h4; cases h4
  have hb := h3.big
  refine ⟨p, by omega, h3.c1, h3.f1, fun W hW => ?_⟩
  have e1 := hW.block _ h6
  have e2 := hW.block _ h5
  have k := h3.block e1 e2
  have hs := hW.size
  refine ⟨n, cap, ts, p + 1, ⟨?_, ?_, ?_, k.len, by omega, k.cap, k.big, k.ne, fun i t hi => ?_⟩, ?_, by simp; omega, by simp; omega, h7⟩
  · rw [World.cell?_setCell_other _ _ _ _ (by simp)]; exact k.c0
  · rw [cell_set_self, k.c1]; simp
  · rw [World.frozen?_setCell]; exact k.f1
  · obtain ⟨a0, a1, a2, a3⟩ := k.tok i t hi
    have hne := k.ne
    exact ⟨by rw [World.cell?_setCell_far _ _ ⟨gt, i * 4, none⟩ _ (fun e => hne e.symm)]; exact a0, by rw [World.cell?_setCell_far _ _ ⟨gt, i * 4 + 1, none⟩ _ (fun e => hne e.symm)]; exact a1, by rw [World.cell?_setCell_far _ _ ⟨gt, i * 4 + 2, none⟩ _ (fun e => hne e.symm)]; exact a2, by rw [World.cell?_setCell_far _ _ ⟨gt, i * 4 + 3, none⟩ _ (fun e => hne e.symm)]; exact a3⟩
  · rw [← List.drop_drop, h4]; rfl
def mayB (s : List UInt8) (r : List Tok) : Bool := (mayF s r).isSome
def mayR (s : List UInt8) (r : List Tok) : List Tok := (mayF s r).getD r
set_option maxHeartbeats 4000000 in
set_option maxRecDepth 100000 in
theorem may_any (rb gt : Nat) (s : List UInt8) (r : List Tok) (hr : r ≠ []) (w : World) (R : RdR w rb gt r) :
    Calls Tryz.prog 72 #[.pointer (some ⟨rb, 0, none⟩), .string ⟨s.toArray⟩] w fun e w' => e = .returned (.bool (mayB s r)) ∧ RdR w' rb gt (mayR s r) ∧ Gr w.heap.size rb w w' := by
  cases r with
  | nil => exact absurd rfl hr
  | cons t r =>
  suffices key : ∀ Q : Ending → World → Prop, Hid (∀ e w', (e = .returned (.bool (mayB s (t :: r))) ∧ RdR w' rb gt (mayR s (t :: r)) ∧ Gr w.heap.size rb w w') → Q e w') → Calls Tryz.prog 72 #[.pointer (some ⟨rb, 0, none⟩), .string ⟨s.toArray⟩] w Q from key _ (Lib.hid fun _ _ h => h)
  intro Q HQQ
  have HH := Lib.hid (fun W R' => here_any rb gt t r W R')
  have SB := str_beq t.s s
  have HR := Lib.hid R
  obtain ⟨n, cap, ts, p, h3, h4, h5, h6, h7⟩ := R
  clear h3 h4 h5
  obtain ⟨p, hp, c1, f1, ST⟩ := HR.out.step
  have HST := Lib.hid ST
  have HF : Hid (∀ b, isT t s = b → ∀ e w', (e = .returned (.bool b) ∧ RdR w' rb gt (cond b r (t :: r)) ∧ Gr w.heap.size rb w w') → Q e w') := Lib.hid fun b hb e w' ⟨h1, h2, h3⟩ => by
    refine HQQ.out e w' ⟨?_, ?_, h3⟩
    · rw [h1]; unfold mayB mayF; cases b <;> simp [hb]
    · unfold mayR mayF; cases b <;> simpa [hb] using h2
  have IS : isT t s = ((t.s == s) && (decide (t.k = 119) || decide (t.k = 109))) := rfl
  dsimp only [tokV] at HH
  obtain ⟨tk, tS, tn, tp⟩ := t
  dsimp only at HH SB IS
  clear ST HQQ
  by_cases hs : tS = s
  · rw [decide_eq_true hs] at SB
    rw [show (tS == s) = true by simp [hs], Bool.true_and] at IS
    clear hs
    obtain ⟨U, hU⟩ : ∃ U : ByteArray, (⟨tS.toArray⟩ : ByteArray) = U := ⟨_, rfl⟩
    obtain ⟨V, hV⟩ : ∃ V : ByteArray, (⟨s.toArray⟩ : ByteArray) = V := ⟨_, rfl⟩
    rw [hU, hV] at SB
    rw [hU] at HH
    rw [hV]
    clear hU hV
    by_cases h1 : tk = 119
    · have e1 : (tk != 119) = false := by simp [h1]
      have FN := Lib.hid (HF.out true (by rw [IS]; simp [h1]))
      clear h1 IS HF
      go_enter Tryz.func72, Tryz.ntmps72
      go_wp2_with (first | (go_at_call 31; (with_reducible refine (HH.out _ HR.out).mono ?_); rintro e w3 ⟨rfl, hb3⟩; obtain ⟨hc3, hf3⟩ := bcell hb3; have hs3 := hb3.size; have hz3 : ¬ w3.heap.size = rb ∧ ¬ rb = w3.heap.size ∧ rb < w3.heap.size ∧ rb < w3.heap.size + 1 := (by omega); have d1 : w3.cell? ⟨rb, 1, none⟩ = some (.int .i64 (p : Int)) := (by rw [hc3 _ _ h6]; exact c1); have d2 : w3.frozen? ⟨rb, 1, none⟩ = false := (by rw [hf3 _ _ h6]; exact f1)))
      refine FN.out _ _ ⟨rfl, ?_, ?_⟩
      · exact (HST.out _ hb3).alloc _
      · exact (by repeat (first | (with_reducible exact Gr.refl _ _ _) | (with_reducible assumption) | ((with_reducible refine Gr.setCell ?_ ?hq1 _); (case hq1 => (first | (right; rfl) | (left; (first | (simp; done) | (simp; omega) | omega))))) | ((with_reducible refine Gr.alloc ?_ ?hq1 _); (case hq1 => (first | (simp; done) | (simp; omega) | omega))) | (with_reducible refine Gr.drew ?_) | exact Gr.of_below (by assumption) | refine Gr.trans ?_ (by assumption) (by first | (simp; done) | (simp; omega) | omega) | refine Gr.below ?_ (by assumption) (by first | (simp; done) | (simp; omega) | omega)))
    · have e1 : (tk != 119) = true := by simp [h1]
      by_cases h2 : tk = 109
      · have e2 : (tk != 109) = false := by simp [h2]
        have FN := Lib.hid (HF.out true (by rw [IS]; simp [h2]))
        clear h1 h2 IS HF
        go_enter Tryz.func72, Tryz.ntmps72
        go_wp2_with (first | (go_at_call 31; (with_reducible refine (HH.out _ HR.out).mono ?_); rintro e w3 ⟨rfl, hb3⟩; obtain ⟨hc3, hf3⟩ := bcell hb3; have hs3 := hb3.size; have hz3 : ¬ w3.heap.size = rb ∧ ¬ rb = w3.heap.size ∧ rb < w3.heap.size ∧ rb < w3.heap.size + 1 := (by omega); have d1 : w3.cell? ⟨rb, 1, none⟩ = some (.int .i64 (p : Int)) := (by rw [hc3 _ _ h6]; exact c1); have d2 : w3.frozen? ⟨rb, 1, none⟩ = false := (by rw [hf3 _ _ h6]; exact f1)))
        refine FN.out _ _ ⟨rfl, ?_, ?_⟩
        · exact (HST.out _ hb3).alloc _
        · exact (by repeat (first | (with_reducible exact Gr.refl _ _ _) | (with_reducible assumption) | ((with_reducible refine Gr.setCell ?_ ?hq1 _); (case hq1 => (first | (right; rfl) | (left; (first | (simp; done) | (simp; omega) | omega))))) | ((with_reducible refine Gr.alloc ?_ ?hq1 _); (case hq1 => (first | (simp; done) | (simp; omega) | omega))) | (with_reducible refine Gr.drew ?_) | exact Gr.of_below (by assumption) | refine Gr.trans ?_ (by assumption) (by first | (simp; done) | (simp; omega) | omega) | refine Gr.below ?_ (by assumption) (by first | (simp; done) | (simp; omega) | omega)))
      · have e2 : (tk != 109) = true := by simp [h2]
        have FN := Lib.hid (HF.out false (by rw [IS]; simp [h1, h2]))
        clear h1 h2 IS HF
        go_enter Tryz.func72, Tryz.ntmps72
        go_wp2_with (first | (go_at_call 31; (with_reducible refine (HH.out _ HR.out).mono ?_); rintro e w3 ⟨rfl, hb3⟩; obtain ⟨hc3, hf3⟩ := bcell hb3; have hs3 := hb3.size; have hz3 : ¬ w3.heap.size = rb ∧ ¬ rb = w3.heap.size ∧ rb < w3.heap.size ∧ rb < w3.heap.size + 1 := (by omega); have d1 : w3.cell? ⟨rb, 1, none⟩ = some (.int .i64 (p : Int)) := (by rw [hc3 _ _ h6]; exact c1); have d2 : w3.frozen? ⟨rb, 1, none⟩ = false := (by rw [hf3 _ _ h6]; exact f1)))
        refine FN.out _ _ ⟨rfl, ?_, ?_⟩
        · exact (HR.out.below hb3).alloc _
        · exact (by repeat (first | (with_reducible exact Gr.refl _ _ _) | (with_reducible assumption) | ((with_reducible refine Gr.setCell ?_ ?hq1 _); (case hq1 => (first | (right; rfl) | (left; (first | (simp; done) | (simp; omega) | omega))))) | ((with_reducible refine Gr.alloc ?_ ?hq1 _); (case hq1 => (first | (simp; done) | (simp; omega) | omega))) | (with_reducible refine Gr.drew ?_) | exact Gr.of_below (by assumption) | refine Gr.trans ?_ (by assumption) (by first | (simp; done) | (simp; omega) | omega) | refine Gr.below ?_ (by assumption) (by first | (simp; done) | (simp; omega) | omega)))
  · rw [decide_eq_false hs] at SB
    rw [show (tS == s) = false by simp [hs], Bool.false_and] at IS
    have FN := Lib.hid (HF.out false IS)
    clear hs IS HF
    obtain ⟨U, hU⟩ : ∃ U : ByteArray, (⟨tS.toArray⟩ : ByteArray) = U := ⟨_, rfl⟩
    obtain ⟨V, hV⟩ : ∃ V : ByteArray, (⟨s.toArray⟩ : ByteArray) = V := ⟨_, rfl⟩
    rw [hU, hV] at SB
    rw [hU] at HH
    rw [hV]
    clear hU hV
    go_enter Tryz.func72, Tryz.ntmps72
    go_wp2_with (first | (go_at_call 31; (with_reducible refine (HH.out _ HR.out).mono ?_); rintro e w3 ⟨rfl, hb3⟩; obtain ⟨hc3, hf3⟩ := bcell hb3; have hs3 := hb3.size; have hz3 : ¬ w3.heap.size = rb ∧ ¬ rb = w3.heap.size ∧ rb < w3.heap.size ∧ rb < w3.heap.size + 1 := (by omega); have d1 : w3.cell? ⟨rb, 1, none⟩ = some (.int .i64 (p : Int)) := (by rw [hc3 _ _ h6]; exact c1); have d2 : w3.frozen? ⟨rb, 1, none⟩ = false := (by rw [hf3 _ _ h6]; exact f1)))
    refine FN.out _ _ ⟨rfl, ?_, ?_⟩
    · exact (HR.out.below hb3).alloc _
    · exact (by repeat (first | (with_reducible exact Gr.refl _ _ _) | (with_reducible assumption) | ((with_reducible refine Gr.setCell ?_ ?hq1 _); (case hq1 => (first | (right; rfl) | (left; (first | (simp; done) | (simp; omega) | omega))))) | ((with_reducible refine Gr.alloc ?_ ?hq1 _); (case hq1 => (first | (simp; done) | (simp; omega) | omega))) | (with_reducible refine Gr.drew ?_) | exact Gr.of_below (by assumption) | refine Gr.trans ?_ (by assumption) (by first | (simp; done) | (simp; omega) | omega) | refine Gr.below ?_ (by assumption) (by first | (simp; done) | (simp; omega) | omega)))
theorem may_yes {s : List UInt8} {r r' : List Tok} (h : mayF s r = some r') : mayB s r = true ∧ mayR s r = r' := by unfold mayB mayR; rw [h]; exact ⟨rfl, rfl⟩
theorem may_no {s : List UInt8} {r : List Tok} (h : mayF s r = none) : mayB s r = false ∧ mayR s r = r := by unfold mayB mayR; rw [h]; exact ⟨rfl, rfl⟩
theorem may_ends {s : List UInt8} {r r' : List Tok} (h : mayF s r = some r') (hE : EndsT r) : EndsT r' := by
  cases r with
  | nil => cases h
  | cons t l =>
    unfold mayF at h
    simp only at h
    split at h
    · rename_i h2
      injection h with h
      subst h
      refine hE.tail ?_
      unfold isT at h2
      simp only [Bool.and_eq_true, Bool.or_eq_true, decide_eq_true_eq] at h2
      omega
    · cases h
theorem must_yes (rb gt : Nat) (s : List UInt8) (r r' : List Tok) (hr : r ≠ []) (h : mayF s r = some r') (w : World) (R : RdR w rb gt r) :
    Calls Tryz.prog 71 #[.pointer (some ⟨rb, 0, none⟩), .string ⟨s.toArray⟩] w fun e w' => e = .returned (.tuple #[]) ∧ RdR w' rb gt r' ∧ Gr w.heap.size rb w w' := by
  have MY := Lib.hid (fun W R' => may_any rb gt s r hr W R')
  rw [(may_yes h).1, (may_yes h).2] at MY
  have HR := Lib.hid R
  clear R h
  generalize (⟨s.toArray⟩ : ByteArray) = S at *
  go_enter Tryz.func71, Tryz.ntmps71
  go_wp2_with (first | (go_at_call 72; (with_reducible refine (MY.out _ HR.out).mono ?_); rintro e w3 ⟨rfl, hR3, hg3⟩; have HR3 := Lib.hid hR3; clear hR3; have hs3 := hg3.size))
  refine bodyPost_end (results_none rfl _ _ _) rfl ?_
  exact ⟨rfl, HR3.out, hg3⟩
theorem must_no (rb gt : Nat) (s : List UInt8) (t : Tok) (r : List Tok) (h : mayF s (t :: r) = none) (w : World) (R : RdR w rb gt (t :: r)) :
    Calls Tryz.prog 71 #[.pointer (some ⟨rb, 0, none⟩), .string ⟨s.toArray⟩] w fun e w' => e = .panicked (fltP t.p 11) ∧ Gr w.heap.size rb w w' := by
  have MY := Lib.hid (fun W R' => may_any rb gt s (t :: r) (by simp) W R')
  rw [(may_no h).1, (may_no h).2] at MY
  have FL := Lib.hid (fun W R' => fail_any rb gt t r 11 W R')
  have HR := Lib.hid R
  clear R h
  generalize (⟨s.toArray⟩ : ByteArray) = S at *
  go_enter Tryz.func71, Tryz.ntmps71
  go_wp2_with (first | (go_at_call 72; (with_reducible refine (MY.out _ HR.out).mono ?_); rintro e w3 ⟨rfl, hR3, hg3⟩; have HR3 := Lib.hid hR3; clear hR3; have hs3 := hg3.size) | (go_at_call 32; (with_reducible refine (FL.out _ HR3.out).mono ?_); rintro e w4 ⟨rfl, hb4⟩))
  exact ⟨rfl, rfl, (by repeat (first | (with_reducible exact Gr.refl _ _ _) | (with_reducible assumption) | ((with_reducible refine Gr.setCell ?_ ?hq1 _); (case hq1 => (first | (right; rfl) | (left; (first | (simp; done) | (simp; omega) | omega))))) | ((with_reducible refine Gr.alloc ?_ ?hq1 _); (case hq1 => (first | (simp; done) | (simp; omega) | omega))) | (with_reducible refine Gr.drew ?_) | exact Gr.of_below (by assumption) | refine Gr.trans ?_ (by assumption) (by first | (simp; done) | (simp; omega) | omega) | refine Gr.below ?_ (by assumption) (by first | (simp; done) | (simp; omega) | omega)))⟩
theorem ends_step {t : Tok} {r : List Tok} (h : isNm t = true) (hE : EndsT (t :: r)) : EndsT r := by
  refine hE.tail ?_
  unfold isNm at h
  simp only [Bool.and_eq_true, decide_eq_true_eq] at h
  omega
theorem RdR.lens {w : World} {rb gt : Nat} {r : List Tok} (h : RdR w rb gt r) : rb < w.heap.size ∧ gt < w.heap.size ∧ ¬ gt = rb := by
  obtain ⟨n, cap, ts, p, h3, h4, h5, h6, h7⟩ := h
  exact ⟨h6, h5, h7⟩
/-- Strings that may stand in memory. -/
def ShortT (r : List Tok) : Prop := ∀ t ∈ r, t.s.length ≤ 1000000000
theorem ShortT.tail {t : Tok} {r : List Tok} (h : ShortT (t :: r)) : ShortT r := fun x hx => h x (List.mem_cons_of_mem _ hx)
set_option maxHeartbeats 4000000 in
set_option maxRecDepth 100000 in
theorem nm_yes (rb gt : Nat) (t : Tok) (r : List Tok) (hl : t.s.length ≤ 1000000000) (h : isNm t = true) (w : World) (R : RdR w rb gt (t :: r)) :
    Calls Tryz.prog 70 #[.pointer (some ⟨rb, 0, none⟩)] w fun e w' => e = .returned (.string ⟨t.s.toArray⟩) ∧ RdR w' rb gt r ∧ Gr w.heap.size rb w w' := by
  suffices key : ∀ Q : Ending → World → Prop, Hid (∀ e w', (e = .returned (.string ⟨t.s.toArray⟩) ∧ RdR w' rb gt r ∧ Gr w.heap.size rb w w') → Q e w') → Calls Tryz.prog 70 #[.pointer (some ⟨rb, 0, none⟩)] w Q from key _ (Lib.hid fun _ _ h => h)
  intro Q HQQ
  have HH := Lib.hid (fun W R' => here_any rb gt t r W R')
  have NM := Lib.hid (fun W => isName_any t.s (by omega) W)
  have HR := Lib.hid R
  obtain ⟨h6, hg0, -⟩ := R.lens
  obtain ⟨p, hp, c1, f1, ST⟩ := R.step
  have HST := Lib.hid ST
  unfold isNm at h
  simp only [Bool.and_eq_true, decide_eq_true_eq] at h
  obtain ⟨hk, hn⟩ := h
  rw [hn] at NM
  dsimp only [tokV] at HH
  obtain ⟨tk, tS, tn, tp⟩ := t
  dsimp only at HH NM hk HQQ
  have e1 : (tk != 119) = false := by simp [hk]
  clear ST R hn hl hk
  generalize (⟨tS.toArray⟩ : ByteArray) = U at *
  go_enter Tryz.func70, Tryz.ntmps70
  go_wp2_with (first | (go_at_call 31; (with_reducible refine (HH.out _ HR.out).mono ?_); rintro e w3 ⟨rfl, hb3⟩; obtain ⟨hc3, hf3⟩ := bcell hb3; have hs3 := hb3.size) | (go_at_call 35; (with_reducible refine (NM.out _).mono ?_); rintro e w4 ⟨rfl, hb4⟩; obtain ⟨hc4, hf4⟩ := bcell hb4; have hs4 := hb4.size; (try simp at hs4); have hz3 : ¬ w3.heap.size = rb ∧ ¬ rb = w3.heap.size ∧ rb < w3.heap.size ∧ rb < w3.heap.size + 1 ∧ rb < w4.heap.size ∧ w3.heap.size < w4.heap.size := (by omega); have d1 : w4.cell? ⟨rb, 1, none⟩ = some (.int .i64 (p : Int)) := (by rw [hc4 _ _ (by simp; omega)]; simp [go_sem, hz3, hc3 _ _ h6, c1]); have d2 : w4.frozen? ⟨rb, 1, none⟩ = false := (by rw [hf4 _ _ (by simp; omega)]; simp [go_sem, hz3, hf3 _ _ h6, f1])))
  exact HQQ.out _ _ ⟨rfl, HST.out _ (by repeat (first | exact Below.refl _ _ | refine Below.setCell ?_ (by first | (simp; done) | (simp; omega) | omega) _ | refine Below.alloc ?_ (by first | (simp; done) | (simp; omega) | omega) _ | refine Below.drew ?_ | assumption | refine Below.trans ?_ (Below.mono (by assumption) (by first | (simp; done) | (simp; omega) | omega)))), (by repeat (first | (with_reducible exact Gr.refl _ _ _) | (with_reducible assumption) | ((with_reducible refine Gr.setCell ?_ ?hq1 _); (case hq1 => (first | (right; rfl) | (left; (first | (simp; done) | (simp; omega) | omega))))) | ((with_reducible refine Gr.alloc ?_ ?hq1 _); (case hq1 => (first | (simp; done) | (simp; omega) | omega))) | (with_reducible refine Gr.drew ?_) | exact Gr.of_below (by assumption) | refine Gr.trans ?_ (by assumption) (by first | (simp; done) | (simp; omega) | omega) | refine Gr.below ?_ (by assumption) (by first | (simp; done) | (simp; omega) | omega)))⟩
set_option maxHeartbeats 4000000 in
set_option maxRecDepth 100000 in
theorem nm_no (rb gt : Nat) (t : Tok) (r : List Tok) (hl : t.s.length ≤ 1000000000) (h : isNm t = false) (w : World) (R : RdR w rb gt (t :: r)) :
    Calls Tryz.prog 70 #[.pointer (some ⟨rb, 0, none⟩)] w fun e w' => e = .panicked (fltP t.p 11) ∧ Gr w.heap.size rb w w' := by
  suffices key : ∀ Q : Ending → World → Prop, Hid (∀ e w', (e = .panicked (fltP t.p 11) ∧ Gr w.heap.size rb w w') → Q e w') → Calls Tryz.prog 70 #[.pointer (some ⟨rb, 0, none⟩)] w Q from key _ (Lib.hid fun _ _ h => h)
  intro Q HQQ
  have HH := Lib.hid (fun W R' => here_any rb gt t r W R')
  have NM := Lib.hid (fun W => isName_any t.s (by omega) W)
  have FL := Lib.hid (fun W R' => fail_any rb gt t r 11 W R')
  have HR := Lib.hid R
  obtain ⟨h6, hg0, -⟩ := R.lens
  dsimp only [tokV] at HH
  obtain ⟨tk, tS, tn, tp⟩ := t
  dsimp only at HH NM HQQ FL
  clear R hl
  unfold isNm at h
  dsimp only at h
  by_cases hk : tk = 119
  · have e1 : (tk != 119) = false := by simp [hk]
    rw [decide_eq_true hk, Bool.true_and] at h
    rw [h] at NM
    clear hk h
    generalize (⟨tS.toArray⟩ : ByteArray) = U at *
    go_enter Tryz.func70, Tryz.ntmps70
    go_wp2_with (first | (go_at_call 31; (with_reducible refine (HH.out _ HR.out).mono ?_); rintro e w3 ⟨rfl, hb3⟩; obtain ⟨hc3, hf3⟩ := bcell hb3; have hs3 := hb3.size) | (go_at_call 35; (with_reducible refine (NM.out _).mono ?_); rintro e w4 ⟨rfl, hb4⟩; have HB4 := Lib.hid hb4; have hs4 := hb4.size; (try simp at hs4)) | (go_at_call 32; (with_reducible refine (FL.out _ (((HR.out.below hb3).alloc _).below HB4.out)).mono ?_); rintro e w5 ⟨rfl, hb5⟩))
    exact ⟨rfl, HQQ.out _ _ ⟨rfl, (by repeat (first | (with_reducible exact Gr.refl _ _ _) | (with_reducible assumption) | ((with_reducible refine Gr.setCell ?_ ?hq1 _); (case hq1 => (first | (right; rfl) | (left; (first | (simp; done) | (simp; omega) | omega))))) | ((with_reducible refine Gr.alloc ?_ ?hq1 _); (case hq1 => (first | (simp; done) | (simp; omega) | omega))) | (with_reducible refine Gr.drew ?_) | exact Gr.of_below (by assumption) | refine Gr.trans ?_ (by assumption) (by first | (simp; done) | (simp; omega) | omega) | refine Gr.below ?_ (by assumption) (by first | (simp; done) | (simp; omega) | omega)))⟩⟩
  · have e1 : (tk != 119) = true := by simp [hk]
    clear hk h NM
    generalize (⟨tS.toArray⟩ : ByteArray) = U at *
    go_enter Tryz.func70, Tryz.ntmps70
    go_wp2_with (first | (go_at_call 31; (with_reducible refine (HH.out _ HR.out).mono ?_); rintro e w3 ⟨rfl, hb3⟩; obtain ⟨hc3, hf3⟩ := bcell hb3; have hs3 := hb3.size) | (go_at_call 32; (with_reducible refine (FL.out _ ((HR.out.below hb3).alloc _)).mono ?_); rintro e w5 ⟨rfl, hb5⟩))
    exact ⟨rfl, HQQ.out _ _ ⟨rfl, (by repeat (first | (with_reducible exact Gr.refl _ _ _) | (with_reducible assumption) | ((with_reducible refine Gr.setCell ?_ ?hq1 _); (case hq1 => (first | (right; rfl) | (left; (first | (simp; done) | (simp; omega) | omega))))) | ((with_reducible refine Gr.alloc ?_ ?hq1 _); (case hq1 => (first | (simp; done) | (simp; omega) | omega))) | (with_reducible refine Gr.drew ?_) | exact Gr.of_below (by assumption) | refine Gr.trans ?_ (by assumption) (by first | (simp; done) | (simp; omega) | omega) | refine Gr.below ?_ (by assumption) (by first | (simp; done) | (simp; omega) | omega)))⟩⟩
end Go.Proofs.YtnjlggleaocbdaaGreatDoor
