/-
  Rows of conditions under construction; the law's cond: a condition made anew.
-/
import Derived.Test.YtijlifdbjhieaaaGreatDoorSm2
import Derived.Test.YtijlifdbjhieaaaGreatDoorQz
namespace Go.Proofs.YtijlifdbjhieaaaGreatDoor
set_option linter.all false
open Go.RowKit Go.Shelf Go.Sort
attribute [local go_sem] cell_set_self lt_1 lt_2 lt_3 lt_4 lt_5 lt_6

/-- A row of conditions that is being made, its block and theirs from bs on. -/
def RowC (bs : Nat) (W : World) (l : List CondT) (V : Value) : Prop :=
  ∃ css : List (List Value), css.length = l.length ∧ W.ownsRow bs 45 10 V l.length css.flatten ∧ ∀ (i : Nat) (x : CondT) (cs : List Value), l[i]? = some x → css[i]? = some cs → CV (fun b => bs ≤ b ∧ V.ownBlock ≠ some b) W x cs
theorem RowC.nil (bs : Nat) (W : World) : RowC bs W [] (.slice none 0 0) := ⟨[], rfl, World.ownsRow_nil _ _ _ _, fun i x cs h => by simp at h⟩
theorem RowC.form {bs : Nat} {W : World} {l : List CondT} {V : Value} (h : RowC bs W l V) : ∃ A c, V = .slice A l.length c := by
  obtain ⟨css, -, ho, -⟩ := h
  exact own_form ho
theorem RowC.below {bs : Nat} {W W' : World} {l : List CondT} {V : Value} (h : RowC bs W l V) (hb : Below W.heap.size W W') : RowC bs W' l V := by
  obtain ⟨css, h1, ho, hc⟩ := h
  exact ⟨css, h1, own_below ho hb, fun i x cs hi hj => (hc i x cs hi hj).keep (Kp.below hb)⟩
theorem RowC.set {bs : Nat} {W : World} {l : List CondT} {V : Value} (h : RowC bs W l V) {b : Nat} (hb : b < bs) (o : Nat) (v : Value) : RowC bs (W.setCell ⟨b, o, none⟩ v) l V := by
  obtain ⟨css, h1, ho, hc⟩ := h
  exact ⟨css, h1, own_set ho hb o v, fun i x cs hi hj => (hc i x cs hi hj).keep (Kp.set (Kp.refl _ _) (by dsimp only; omega) v)⟩
theorem kp_grown {W W' : World} {row : Option Nat} (hg : W.grownBy W' row) : Kp (fun b => row ≠ some b) W W' := ⟨hg.size, fun k hk hlt => hg.block k hlt (fun e => hk e.symm)⟩
theorem own_uniq {W : World} {bs n sz : Nat} {e : TypeId} {V : Value} {xs ys : List Value} (h : W.ownsRow bs e sz V n xs) (h' : W.ownsRow bs e sz V n ys) : xs = ys := by
  rcases h.2 with ⟨rfl, h0⟩ | ⟨g, cap, cur, rfl, -, hh, -, -, -, ht⟩
  · have h1 := h.1; have h2 := h'.1
    rw [h0, Nat.zero_mul] at h1 h2
    rw [List.eq_nil_of_length_eq_zero h1, List.eq_nil_of_length_eq_zero h2]
  · rcases h'.2 with ⟨e', -⟩ | ⟨g', cap', cur', e', -, hh', -, -, -, ht'⟩
    · cases e'
    · injection e' with e1 e2 e3; injection e1 with e1; injection e1 with e1
      subst e1
      rw [hh] at hh'; injection hh' with hh'; injection hh' with hh'; subst hh'
      rw [← ht, ← ht']
/-- One more. -/
theorem RowC.push {bs : Nat} {W W' : World} {l : List CondT} {V : Value} {x : CondT} {cx : List Value} {g cap : Nat} (h : RowC bs W l V) (hx : CV (fun b => bs ≤ b ∧ V.ownBlock ≠ some b) W x cx) {xs : List Value} (hxs : ∀ css : List (List Value), css.length = l.length → W.ownsRow bs 45 10 V l.length css.flatten → css.flatten = xs)
    (hown : W'.ownsRow bs 45 10 (.slice (some ⟨g, 0, none⟩) (l.length + 1) cap) (l.length + 1) (xs ++ cx)) (hg : W.grownBy W' V.ownBlock) (hat : V.ownBlock = some g ∨ g = W.heap.size) : RowC bs W' (l ++ [x]) (.slice (some ⟨g, 0, none⟩) (l.length + 1) cap) := by
  obtain ⟨css, h1, ho, hc⟩ := h
  have tr : ∀ {y : CondT} {cs : List Value}, CV (fun b => bs ≤ b ∧ V.ownBlock ≠ some b) W y cs → CV (fun b => bs ≤ b ∧ (Value.slice (some ⟨g, 0, none⟩) (l.length + 1) cap).ownBlock ≠ some b) W' y cs := fun {y cs} hv => by
    have h2 : CV (fun b => (bs ≤ b ∧ b ≠ g) ∧ V.ownBlock ≠ some b) W y cs := hv.mono fun b hb hP => ⟨⟨hP.1, by
      rintro rfl
      rcases hat with e | e
      · exact hP.2 e
      · omega⟩, hP.2⟩
    have h3 : CV (fun b => (bs ≤ b ∧ b ≠ g) ∧ V.ownBlock ≠ some b) W' y cs := h2.keep ⟨hg.size, fun k hk hlt => hg.block k hlt (fun e => hk.2 e.symm)⟩
    exact h3.mono fun b _ hP => ⟨hP.1.1, fun e => hP.1.2 (by injection e with e; exact e.symm)⟩
  refine ⟨css ++ [cx], by simp [h1], ?_, fun i y cs hi hj => ?_⟩
  · rw [List.flatten_append, hxs css h1 ho]
    simpa using hown
  · rcases Nat.lt_or_ge i l.length with k | k
    · rw [List.getElem?_append_left k] at hi
      rw [List.getElem?_append_left (by omega)] at hj
      exact tr (hc i y cs hi hj)
    · have hlt := (List.getElem?_eq_some_iff.1 hi).1
      simp only [List.length_append, List.length_cons, List.length_nil] at hlt
      obtain rfl : i = l.length := by omega
      rw [List.getElem?_append_right (by omega), Nat.sub_self] at hi
      rw [List.getElem?_append_right (by omega), h1, Nat.sub_self] at hj
      simp at hi hj
      subst hi hj
      exact tr hx
theorem grown_low {W W' : World} {row : Option Nat} {B : Nat} (hg : W.grownBy W' row) (hr : ∀ q, row = some q → B ≤ q) (q o : Nat) (hq : q < B) (hs : q < W.heap.size) : W'.cell? ⟨q, o, none⟩ = W.cell? ⟨q, o, none⟩ := by
  have e := hg.block q hs (fun e => by have := hr q e.symm; omega)
  simp only [World.cell?, e]
theorem drew_blk (W : World) (k : Nat) : W.drew.heap[k]? = W.heap[k]? := rfl
theorem info_lcond : (Tryz.prog.info? 45).map (fun i => (i.zero, i.size, i.bytes)) = some (some (.agg #[.int .i64 0, .slice none 0 0, .string ⟨#[]⟩, .int .i64 0, .int .i64 0, .string ⟨#[]⟩, .string ⟨#[]⟩, .int .i64 0, .int .i64 0, .string ⟨#[]⟩]), 10, 128) := by kernel_rfl
theorem flat10 : ∀ (css : List (List Value)), (∀ (i : Nat) (c : List Value), css[i]? = some c → c.length = 10) → ∀ (k : Nat) (cs : List Value), css[k]? = some cs → ∀ (j : Nat) (v : Value), cs[j]? = some v → css.flatten[k * 10 + j]? = some v
  | [], _, k, cs, h, _, _, _ => by simp at h
  | c :: r, h, 0, cs, hc, j, v, hj => by
    simp at hc; subst hc
    rw [List.flatten_cons, Nat.zero_mul, Nat.zero_add, List.getElem?_append_left (List.getElem?_eq_some_iff.1 hj).1]
    exact hj
  | c :: r, h, k + 1, cs, hc, j, v, hj => by
    have h0 := h 0 c rfl
    rw [List.flatten_cons, List.getElem?_append_right (by omega), h0, show (k + 1) * 10 + j - 10 = k * 10 + j by omega]
    exact flat10 r (fun i c hi => h (i + 1) c (by simpa using hi)) k cs (by simpa using hc) j v hj
/-- The row, done: a condition's arguments. -/
theorem RowC.args {bs : Nat} {W : World} {l : List CondT} {V : Value} (h : RowC bs W l V) : ∃ A c, V = .slice A l.length c ∧ l.length ≤ c ∧ (A = none → c = 0) ∧ CVL (fun b => bs ≤ b) W A 0 l := by
  obtain ⟨css, h1, ho, hc⟩ := h
  rcases ho.2 with ⟨rfl, h0⟩ | ⟨g, cap, cur, rfl, hg, hh, hn, hm, hz, ht⟩
  · have : l = [] := List.eq_nil_of_length_eq_zero h0
    subst this
    exact ⟨none, 0, rfl, Nat.le_refl _, fun _ => rfl, by unfold CVL; trivial⟩
  · have hlt := (Array.getElem?_eq_some_iff.1 hh).1
    refine ⟨some ⟨g, 0, none⟩, cap, rfl, hn, fun e => (by cases e), CVL.mk fun k x hk => ?_⟩
    have hkl := (List.getElem?_eq_some_iff.1 hk).1
    obtain ⟨cs, hcs⟩ : ∃ cs, css[k]? = some cs := ⟨_, List.getElem?_eq_getElem (by omega)⟩
    have hv := hc k x cs hk hcs
    refine ⟨g, 0, cs, rfl, hg, hlt, fun j v hj => ?_, hv.mono fun b _ hP => hP.1⟩
    have all10 : ∀ (i : Nat) (c : List Value), css[i]? = some c → c.length = 10 := fun i c hi => by
      have := (List.getElem?_eq_some_iff.1 hi).1
      obtain ⟨y, hy⟩ : ∃ y, l[i]? = some y := ⟨_, List.getElem?_eq_getElem (by omega)⟩
      exact (hc i y c hy hi).len
    have hj10 : j < 10 := by have := (List.getElem?_eq_some_iff.1 hj).1; rw [hv.len] at this; exact this
    have hf : css.flatten[k * 10 + j]? = some v := flat10 css all10 k cs hcs j v hj
    have hi2 : k * 10 + j < l.length * 10 := by omega
    rw [← ht, List.getElem?_take, if_pos hi2] at hf
    simp only [World.cell?, hh, Nat.zero_add]
    simpa using hf
set_option maxHeartbeats 8000000 in
set_option maxRecDepth 100000 in
theorem lcond_any (P : Nat → Prop) : ∀ (n : Nat) (t : CondT) (cs : List Value) (w : World), SizeOf.sizeOf t ≤ n → CV P w t cs → LtC 1000000 t → Calls Tryz.prog 33 #[.agg cs.toArray] w fun e w' => (∃ cs', e = .returned (.agg cs'.toArray) ∧ CV (fun b => w.heap.size ≤ b) w' t cs') ∧ Below w.heap.size w w' := by
  intro n
  induction n with
  | zero => intro t cs w hn; cases t; simp at hn
  | succ n ih =>
    intro t cs w hn hv hd
    obtain ⟨op, args, ⟨lc, lt, ln, ls⟩, ⟨rc, rt, rn, rs⟩⟩ := t
    obtain ⟨A, c, rfl, hac, hA, hL⟩ := hv.open
    suffices key : ∀ Q : Ending → World → Prop, Hid (∀ cs' w', CV (fun b => w.heap.size ≤ b) w' (.mk op args ⟨lc, lt, ln, ls⟩ ⟨rc, rt, rn, rs⟩) cs' → Below w.heap.size w w' → Q (.returned (.agg cs'.toArray)) w') → Calls Tryz.prog 33 #[.agg (condC op A args.length c ⟨lc, lt, ln, ls⟩ ⟨rc, rt, rn, rs⟩).toArray] w Q from key _ (Lib.hid fun cs' _ h1 h2 => ⟨⟨cs', rfl, h1⟩, h2⟩)
    intro Q HQQ
    unfold LtC at hd
    dsimp only at hd
    have hal : args.length ≤ 1000000 := hd.1.2.2.2.2
    have IH := Lib.hid (fun (k : Nat) (x : CondT) (hx : args[k]? = some x) (cs : List Value) (W : World) (hv : CV P W x cs) => ih x cs W (by have := CondT.size_arg (op := op) (l := ⟨lc, lt, ln, ls⟩) (r := ⟨rc, rt, rn, rs⟩) hx; omega) hv (hd.2.at hx))
    have HL := Lib.hid hL
    have TL := Lib.hid (fun W => lterm_any lc lt ln ls W)
    have TR := Lib.hid (fun W => lterm_any rc rt rn rs W)
    have HQ : Hid (∀ (A' : Option Addr) (c' bs : Nat) W W', args.length ≤ c' → (A' = none → c' = 0) → CVL (fun b => bs ≤ b) W A' 0 args → w.heap.size ≤ bs → Kp (fun b => bs ≤ b) W W' → Below w.heap.size w W' → Q (.returned (.agg (condC op A' args.length c' ⟨lc, lt, ln, ls⟩ ⟨rc, rt, rn, rs⟩).toArray)) W') := Lib.hid fun A' c' bs W W' h1 h2 h3 h4 h5 h6 => HQQ.out _ W' (by
      unfold CV
      exact ⟨A', c', rfl, ⟨h1, by omega⟩, h2, (h3.keep h5).mono fun b _ hb => Nat.le_trans h4 hb⟩) h6
    clear HQQ
    dsimp only [condC, termC, List.cons_append, List.nil_append] at HQ ⊢
    generalize (⟨lc.toArray⟩ : ByteArray) = U1 at *
    generalize (⟨ls.toArray⟩ : ByteArray) = U2 at *
    generalize (⟨rc.toArray⟩ : ByteArray) = U3 at *
    generalize (⟨rs.toArray⟩ : ByteArray) = U4 at *
    clear hv hL ih hn hA hac hd
    have z0 : w.heap.size < w.heap.size + 1 + 1 ∧ w.heap.size + 1 < w.heap.size + 1 + 1 := by omega
    go_enter Tryz.func33, Tryz.ntmps33
    go_upto_region 1 with (fail)
    have al := fun (X : World) (o : Obj) (k : Nat) (h : k < X.heap.size) => (((Below.refl _ X).alloc (Nat.le_refl _) o).block k h)
    go_cut [3] from 5 to 13 (fun v3 wx => ∃ b3 : Nat, v3 = .pointer (some ⟨b3, 0, none⟩) ∧ w.heap.size + 2 ≤ b3 ∧ b3 < wx.heap.size ∧ Hid (wx.heap[b3]? = some (.cells #[.int .i64 op, .slice none 0 0, .string U1, .int .i64 lt, .int .i64 ln, .string U2, .string U3, .int .i64 rt, .int .i64 rn, .string U4] 45 (0, 0))) ∧ Hid (wx.heap[w.heap.size + 1]? = some (.cells #[.int .i64 0, .slice none 0 0, .string ⟨#[]⟩, .int .i64 0, .int .i64 0, .string ⟨#[]⟩, .string ⟨#[]⟩, .int .i64 0, .int .i64 0, .string ⟨#[]⟩] 45 (0, 0))) ∧ wx.cell? ⟨w.heap.size, 1, none⟩ = some (.slice A args.length c) ∧ w.heap.size < wx.heap.size ∧ Below w.heap.size w wx)
    case first =>
      go_region_held3 (fun w' => w'.cell? ⟨w.heap.size, 1, none⟩ = some (.slice A args.length c) ∧ w'.cell? ⟨w.heap.size, 0, none⟩ = some (.int .i64 op) ∧ w'.cell? ⟨w.heap.size, 2, none⟩ = some (.string U1) ∧ w'.cell? ⟨w.heap.size, 3, none⟩ = some (.int .i64 lt) ∧ w'.cell? ⟨w.heap.size, 4, none⟩ = some (.int .i64 ln) ∧ w'.cell? ⟨w.heap.size, 5, none⟩ = some (.string U2) ∧ w'.cell? ⟨w.heap.size, 6, none⟩ = some (.string U3) ∧ w'.cell? ⟨w.heap.size, 7, none⟩ = some (.int .i64 rt) ∧ w'.cell? ⟨w.heap.size, 8, none⟩ = some (.int .i64 rn) ∧ w'.cell? ⟨w.heap.size, 9, none⟩ = some (.string U4) ∧ w.heap.size < w'.heap.size ∧ w.heap.size + 1 < w'.heap.size ∧ Below w.heap.size w w')
      (first | (refine ⟨?_, ?_, ?_, ?_, ?_, ?_, ?_, ?_, ?_, ?_, ?_, ?_, ?_⟩ <;> first | (simp [go_sem, *]; done) | omega | (simp; omega) | exact (by repeat (first | (with_reducible exact Below.refl _ _) | (with_reducible assumption) | (with_reducible refine Below.setCell ?_ (by first | (simp; done) | (simp; omega) | omega) _) | (with_reducible refine Below.alloc ?_ (by first | (simp; done) | (simp; omega) | omega) _) | (with_reducible refine Below.drew ?_) | (with_reducible refine Below.trans ?_ (Below.mono (by assumption) (by first | (simp; done) | (simp; omega) | omega)))))))
      (first | (first | (go_at_call 70; (with_reducible refine (TL.out _).mono ?_); rintro e w5 ⟨rfl, hb5⟩; obtain ⟨hc5, hf5⟩ := bcell hb5; (try simp only [drew_size, drew_cell, drew_frozen] at hc5 hf5); have hs5 := hb5.size; (try simp at hs5); have hz5 : w.heap.size < w5.heap.size ∧ w.heap.size + 1 < w5.heap.size := (by omega); (try (have hy5 : w.heap.size + 1 + 1 < w5.heap.size := (by omega)))) | (go_at_call 70; (with_reducible refine (TR.out _).mono ?_); rintro e w6 ⟨rfl, hb6⟩; obtain ⟨hc6, hf6⟩ := bcell hb6; (try simp only [drew_size, drew_cell, drew_frozen] at hc6 hf6); have hs6 := hb6.size; (try simp at hs6); have hz6 : w.heap.size < w6.heap.size ∧ w.heap.size + 1 < w6.heap.size := (by omega); (try (have hy6 : w.heap.size + 1 + 1 < w6.heap.size := (by omega))); (try (have hx6 : w5.heap.size < w6.heap.size := (by omega))))))
      all_goals (
        go_wp2_with (fail)
        go_meet
        refine ⟨_, rfl, ?_, ?_, Lib.hid ?_, Lib.hid ?_, ?_⟩
        · first | (simp; done) | (simp; omega) | omega
        · first | (simp; done) | (simp; omega) | omega
        · (repeat (first | (with_reducible exact heap_alloc_at (by first | rfl | (simp; done) | (simp; omega))) | (with_reducible apply ten_set) | (with_reducible refine (drew_blk _ _).trans ?_) | (with_reducible refine (setCell_block _ _ _ _ (by first | (simp; done) | (simp; omega) | omega)).trans ?_) | (with_reducible refine (hb6.block _ (by first | (simp; done) | (simp; omega) | omega)).trans ?_) | (with_reducible refine (hb5.block _ (by first | (simp; done) | (simp; omega) | omega)).trans ?_) | (with_reducible refine (al _ _ _ (by first | (simp; done) | (simp; omega) | omega)).trans ?_)))
        · (repeat (first | (with_reducible exact heap_alloc_at (by first | rfl | (simp; done) | (simp; omega))) | (with_reducible apply ten_set) | (with_reducible refine (drew_blk _ _).trans ?_) | (with_reducible refine (setCell_block _ _ _ _ (by first | (simp; done) | (simp; omega) | omega)).trans ?_) | (with_reducible refine (hb6.block _ (by first | (simp; done) | (simp; omega) | omega)).trans ?_) | (with_reducible refine (hb5.block _ (by first | (simp; done) | (simp; omega) | omega)).trans ?_) | (with_reducible refine (al _ _ _ (by first | (simp; done) | (simp; omega) | omega)).trans ?_)))
        · (refine ⟨?_, ?_, ?_⟩ <;> first | (simp [go_sem, *]; done) | omega | (simp; omega) | exact (by repeat (first | (with_reducible exact Below.refl _ _) | (with_reducible assumption) | (with_reducible refine Below.setCell ?_ (by first | (simp; done) | (simp; omega) | omega) _) | (with_reducible refine Below.alloc ?_ (by first | (simp; done) | (simp; omega) | omega) _) | (with_reducible refine Below.drew ?_) | (with_reducible refine Below.trans ?_ (Below.mono (by assumption) (by first | (simp; done) | (simp; omega) | omega)))))))
    case rest =>
    obtain ⟨b3, rfl, h32, h3l, HB3, HB1, o1, y0, B0⟩ := hcut
    obtain ⟨w3, rfl⟩ : ∃ wq : World, wq = wc := ⟨_, rfl⟩
    obtain ⟨i0, hi0, iz0, iz1, iz2⟩ := info_parts info_lcond
    go_wp2_with (fail)
    go_loopw [4] (fun j wr => ∃ (k : Nat) (V : Value), k ≤ args.length ∧ j = .int .i64 k ∧ Hid (RowC (b3 + 1) wr (args.take k) V) ∧ Hid (wr.heap[b3]? = some (.cells #[.int .i64 op, V, .string U1, .int .i64 lt, .int .i64 ln, .string U2, .string U3, .int .i64 rt, .int .i64 rn, .string U4] 45 (0, 0))) ∧ Hid (wr.heap[w.heap.size + 1]? = some (.cells #[.int .i64 0, .slice none 0 0, .string ⟨#[]⟩, .int .i64 0, .int .i64 0, .string ⟨#[]⟩, .string ⟨#[]⟩, .int .i64 0, .int .i64 0, .string ⟨#[]⟩] 45 (0, 0))) ∧ b3 < wr.heap.size ∧ Hid (wr.cell? ⟨w.heap.size, 1, none⟩ = some (.slice A args.length c) ∧ w.heap.size < wr.heap.size ∧ Below w.heap.size w wr)) (fun j _ => args.length - (intOf j).toNat)
    case atStart => exact ⟨0, _, by omega, rfl, Lib.hid (RowC.nil _ _), HB3, HB1, h3l, Lib.hid ⟨o1, y0, B0⟩⟩
    case round =>
      clear HB3 HB1 o1 y0 B0
      obtain ⟨k, V, hk, rfl, HR, HB3, HB1, h3w, HC⟩ := hrel
      obtain ⟨wo, rfl⟩ : ∃ wo : World, wo = wr := ⟨_, rfl⟩
      obtain ⟨o1, y0, B0⟩ := HC.out
      have htl : (args.take k).length = k := by rw [List.length_take]; omega
      obtain ⟨A2, c2, hV2⟩ := HR.out.form
      rw [htl] at hV2
      subst hV2
      obtain ⟨o31, f31⟩ := qbox (l := [.int .i64 op, .slice A2 k c2, .string U1, .int .i64 lt, .int .i64 ln, .string U2, .string U3, .int .i64 rt, .int .i64 rn, .string U4]) HB3.out 1 _ rfl
      by_cases hlt : k < args.length
      · have hlt' : (k : Int) < (args.length : Int) := by omega
        obtain ⟨x, hx⟩ : ∃ x, args[k]? = some x := ⟨_, List.getElem?_eq_getElem hlt⟩
        have htk : Hid (args.take (k + 1) = args.take k ++ [x]) := Lib.hid (by rw [List.take_succ, hx]; rfl)
        obtain ⟨op', args', ⟨lc', lt', ln', ls'⟩, ⟨rc', rt', rn', rs'⟩⟩ := x
        obtain ⟨b, off, A1, c1, rfl, hPb, hb, hka, hvx⟩ := HL.out.elem hx
        have IHx := Lib.hid (IH.out k _ hx)
        have HVX := Lib.hid hvx
        dsimp only [condC, termC, List.cons_append, List.nil_append] at HVX
        obtain ⟨bc0, -⟩ := bcell B0
        have hbo : b < wo.heap.size := Nat.lt_of_lt_of_le hb B0.size
        simp only [← bc0 b _ hb] at hka
        obtain ⟨k0, k1, k2, k3, k4, k5, k6, k7, k8, k9⟩ := hka
        clear hx hvx bc0
        have hne0 : b ≠ w.heap.size ∧ b3 ≠ b ∧ b3 ≠ w.heap.size := by omega
        go_wp2_with (fail)
        (refine wp_region_last_held ((fun w' => w'.cell? ⟨w.heap.size, 1, none⟩ = some (.slice (some ⟨b, off, none⟩) args.length c) ∧ w'.cell? ⟨b3, 1, none⟩ = some (.slice A2 k c2) ∧ w'.cell? ⟨b, off + k * 10, none⟩ = some (.int .i64 op') ∧ w'.cell? ⟨b, off + k * 10 + 1, none⟩ = some (.slice A1 args'.length c1) ∧ w'.cell? ⟨b, off + k * 10 + 2, none⟩ = some (.string ⟨lc'.toArray⟩) ∧ w'.cell? ⟨b, off + k * 10 + 3, none⟩ = some (.int .i64 lt') ∧ w'.cell? ⟨b, off + k * 10 + 4, none⟩ = some (.int .i64 ln') ∧ w'.cell? ⟨b, off + k * 10 + 5, none⟩ = some (.string ⟨ls'.toArray⟩) ∧ w'.cell? ⟨b, off + k * 10 + 6, none⟩ = some (.string ⟨rc'.toArray⟩) ∧ w'.cell? ⟨b, off + k * 10 + 7, none⟩ = some (.int .i64 rt') ∧ w'.cell? ⟨b, off + k * 10 + 8, none⟩ = some (.int .i64 rn') ∧ w'.cell? ⟨b, off + k * 10 + 9, none⟩ = some (.string ⟨rs'.toArray⟩) ∧ w.heap.size < w'.heap.size ∧ b < w'.heap.size ∧ b3 < w'.heap.size ∧ Below w.heap.size w w')) rfl (by kernel_rfl) (by kernel_rfl) ?hS0 (fun hHeld => ?_); (case hS0 => ((try dsimp only); (refine ⟨?_, ?_, ?_, ?_, ?_, ?_, ?_, ?_, ?_, ?_, ?_, ?_, ?_, ?_, ?_, ?_⟩ <;> first | (simp [go_sem, *]; done) | omega | (simp; omega) | exact (by repeat (first | (with_reducible exact Below.refl _ _) | (with_reducible assumption) | (with_reducible refine Below.setCell ?_ (by first | (simp; done) | (simp; omega) | omega) _) | (with_reducible refine Below.alloc ?_ (by first | (simp; done) | (simp; omega) | omega) _) | (with_reducible refine Below.drew ?_) | (with_reducible refine Below.trans ?_ (Below.mono (by assumption) (by first | (simp; done) | (simp; omega) | omega)))))))); simp only [List.dropLast_cons_cons, List.dropLast_singleton, List.length_cons, List.length_nil, Nat.zero_add, Nat.reduceAdd])
        (refine take2 0 (some 21) (.pointer (some ⟨b3, 1, none⟩)) rfl (by kernel_rfl) (by kernel_rfl) (by kernel_rfl) rfl (fun _ _ _ h => h) (Or.inl ⟨by rfl, fun W' hSw => (by (try dsimp only at hSw); go_simp)⟩) (by assumption) ?_; (try simp only [Act.put, List.setIfInBounds_toArray, List.set_cons_zero, List.set_cons_succ]))
        (refine take2 1 (some 22) (.slice A2 k c2) rfl (by kernel_rfl) (by kernel_rfl) (by kernel_rfl) rfl (fun _ _ _ h => h) (Or.inl ⟨by rfl, fun W' hSw => (by (try dsimp only at hSw); go_simp)⟩) (by assumption) ?_; (try simp only [Act.put, List.setIfInBounds_toArray, List.set_cons_zero, List.set_cons_succ]))
        (refine take2 2 (some 23) (.pointer (some ⟨w.heap.size, 1, none⟩)) rfl (by kernel_rfl) (by kernel_rfl) (by kernel_rfl) rfl (fun _ _ _ h => h) (Or.inl ⟨by rfl, fun W' hSw => (by (try dsimp only at hSw); go_simp)⟩) (by assumption) ?_; (try simp only [Act.put, List.setIfInBounds_toArray, List.set_cons_zero, List.set_cons_succ]))
        (refine take2 3 (some 24) (.slice (some ⟨b, off, none⟩) args.length c) rfl (by kernel_rfl) (by kernel_rfl) (by kernel_rfl) rfl (fun _ _ _ h => h) (Or.inl ⟨by rfl, fun W' hSw => (by (try dsimp only at hSw); go_simp)⟩) (by assumption) ?_; (try simp only [Act.put, List.setIfInBounds_toArray, List.set_cons_zero, List.set_cons_succ]))
        (refine take2 4 (some 25) (.int .i64 k) rfl (by kernel_rfl) (by kernel_rfl) (by kernel_rfl) rfl (fun _ _ _ h => h) (Or.inl ⟨by rfl, fun W' hSw => (by (try dsimp only at hSw); go_simp)⟩) (by assumption) ?_; (try simp only [Act.put, List.setIfInBounds_toArray, List.set_cons_zero, List.set_cons_succ]))
        (refine take2 5 (some 26) (.pointer (some ⟨b, off + k * 10, none⟩)) rfl (by kernel_rfl) (by kernel_rfl) (by kernel_rfl) rfl (fun _ _ _ h => h) (Or.inl ⟨by rfl, fun W' hSw => (by (try dsimp only at hSw); go_simp)⟩) (by assumption) ?_; (try simp only [Act.put, List.setIfInBounds_toArray, List.set_cons_zero, List.set_cons_succ]))
        (refine take2 6 (some 27) (.agg #[.int .i64 op', .slice A1 args'.length c1, .string ⟨lc'.toArray⟩, .int .i64 lt', .int .i64 ln', .string ⟨ls'.toArray⟩, .string ⟨rc'.toArray⟩, .int .i64 rt', .int .i64 rn', .string ⟨rs'.toArray⟩]) rfl (by kernel_rfl) (by kernel_rfl) (by kernel_rfl) rfl (fun _ _ _ h => h) (Or.inl ⟨by rfl, fun W' hSw => (by (try dsimp only at hSw); go_simp)⟩) (by assumption) ?_; (try simp only [Act.put, List.setIfInBounds_toArray, List.set_cons_zero, List.set_cons_succ]))
        (refine wpAnyH_ready (rs := [7]) (by kernel_rfl) (by simp) ?_; refine AllReadyH.cons rfl (fun K hK => ?_) AllReadyH.nil; (go_simp; go_at_call 33; (with_reducible refine (IHx.out _ _ (HVX.out.keep (Kp.below (by repeat (first | (with_reducible exact Below.refl _ _) | (with_reducible assumption) | (with_reducible refine Below.setCell ?_ (by first | (simp; done) | (simp; omega) | omega) _) | (with_reducible refine Below.alloc ?_ (by first | (simp; done) | (simp; omega) | omega) _) | (with_reducible refine Below.drew ?_) | (with_reducible refine Below.trans ?_ (Below.mono (by assumption) (by first | (simp; done) | (simp; omega) | omega)))))))).mono ?_); rintro e w7 ⟨⟨cs7, rfl, hv7⟩, hb7⟩; obtain ⟨A7, c7, rfl, -⟩ := hv7.open; dsimp only [condC, termC, List.cons_append, List.nil_append] at hv7 ⊢; have HV7 := Lib.hid hv7; clear hv7; obtain ⟨hc7, hf7⟩ := bcell hb7; (try simp only [drew_size, drew_cell, drew_frozen] at hc7 hf7); have hs7 := hb7.size; (try simp at hs7); have hz7 : w.heap.size < w7.heap.size ∧ b < w7.heap.size ∧ b3 < w7.heap.size := (by omega); go_wp2_with (fail)); refine hK.out _ _ ?hS1 (fun hHeld1 => ?_); (case hS1 => ((try dsimp only); (refine ⟨?_, ?_, ?_, ?_, ?_, ?_, ?_, ?_, ?_, ?_, ?_, ?_, ?_, ?_, ?_, ?_⟩ <;> first | (simp [go_sem, *]; done) | omega | (simp; omega) | exact (by repeat (first | (with_reducible exact Below.refl _ _) | (with_reducible assumption) | (with_reducible refine Below.setCell ?_ (by first | (simp; done) | (simp; omega) | omega) _) | (with_reducible refine Below.alloc ?_ (by first | (simp; done) | (simp; omega) | omega) _) | (with_reducible refine Below.drew ?_) | (with_reducible refine Below.trans ?_ (Below.mono (by assumption) (by first | (simp; done) | (simp; omega) | omega)))))))); clear hK K hHeld; have hHeld := hHeld1; clear hHeld1; (try simp only [Act.put, List.setIfInBounds_toArray, List.set_cons_zero, List.set_cons_succ]))
        have hB7 : Below wo.heap.size wo w7 := ((Below.refl _ _).drew).trans hb7
        obtain ⟨css, hcl, hro, -⟩ := (HR.out.below hB7)
        rw [htl] at hro
        have HRO := Lib.hid hro
        have hw7 : b3 + 1 ≤ w7.heap.size := by omega
        clear hcl hro
        (refine wpAnyH_ready (rs := [8]) (by kernel_rfl) (by simp) ?_; refine AllReadyH.cons rfl (fun K hK => ?_) AllReadyH.nil; (go_simp); refine hK.out _ _ ?hS1 (fun hHeld1 => ?_); (case hS1 => ((try dsimp only); (refine ⟨?_, ?_, ?_, ?_, ?_, ?_, ?_, ?_, ?_, ?_, ?_, ?_, ?_, ?_, ?_, ?_⟩ <;> first | (simp [go_sem, *]; done) | omega | (simp; omega) | exact (by repeat (first | (with_reducible exact Below.refl _ _) | (with_reducible assumption) | (with_reducible refine Below.setCell ?_ (by first | (simp; done) | (simp; omega) | omega) _) | (with_reducible refine Below.alloc ?_ (by first | (simp; done) | (simp; omega) | omega) _) | (with_reducible refine Below.drew ?_) | (with_reducible refine Below.trans ?_ (Below.mono (by assumption) (by first | (simp; done) | (simp; omega) | omega)))))))); clear hK K hHeld; have hHeld := hHeld1; clear hHeld1; (try simp only [Act.put, List.setIfInBounds_toArray, List.set_cons_zero, List.set_cons_succ]))
        (refine wpAnyH_ready (rs := [9]) (by kernel_rfl) (by simp) ?_; refine AllReadyH.cons rfl (fun K hK => ?_) AllReadyH.nil; (refine step_append_lies _ rfl (.tmp 22) (.tmp 29) 42 rfl (b3 + 1) 45 i0 _ 10 128 Tryz.underlying42 hi0 iz0 iz1 iz2 rfl (by decide) (.slice A2 k c2) k css.flatten rfl (HRO.out.alloc _) ⟨w7.heap.size, 0, none⟩ 1 1 [.int .i64 op', .slice A7 args'.length c7, .string ⟨lc'.toArray⟩, .int .i64 lt', .int .i64 ln', .string ⟨ls'.toArray⟩, .string ⟨rc'.toArray⟩, .int .i64 rt', .int .i64 rn', .string ⟨rs'.toArray⟩] rfl rfl (World.news_of_block (cs := #[.int .i64 op', .slice A7 args'.length c7, .string ⟨lc'.toArray⟩, .int .i64 lt', .int .i64 ln', .string ⟨ls'.toArray⟩, .string ⟨rc'.toArray⟩, .int .i64 rt', .int .i64 rn', .string ⟨rs'.toArray⟩]) (t := 45) (fr := (0, 0)) (heap_alloc_new w7 _)) (by simp [Value.oneCell']) (by omega) (by unfold maxLen; omega) (by omega) (by simp; omega) (w7.heap.size + 1) (by simp) ?_; intro gg cap w9 hown1 hgrow hat hlt9; change K (Act.put _ (some 30) _) _; have hr9 : ∀ q, (Value.slice A2 k c2).ownBlock = some q → b3 + 1 ≤ q := (fun q hq => (HRO.out.lt q hq).1); have hc9 := grown_low hgrow hr9; have hs9 : w7.heap.size < w9.heap.size := (by have := hgrow.size; simp at this; omega); have hb9 : Below w.heap.size w w9 := (Below.grown (Below.alloc ((B0.drew).trans (hb7.mono (by simp; omega))) (by omega) _) hgrow (by simp; omega) (fun j hj => by have := hr9 j hj; omega))); refine hK.out _ _ ?hS1 (fun hHeld1 => ?_); (case hS1 => ((try dsimp only); (obtain ⟨e0, e1, e2, e3, e4, e5, e6, e7, e8, e9, e10, e11, -⟩ := hHeld; exact ⟨(hc9 _ _ (by omega) (by simp; omega)).trans e0, (hc9 _ _ (by omega) (by simp; omega)).trans e1, (hc9 _ _ (by omega) (by simp; omega)).trans e2, (hc9 _ _ (by omega) (by simp; omega)).trans e3, (hc9 _ _ (by omega) (by simp; omega)).trans e4, (hc9 _ _ (by omega) (by simp; omega)).trans e5, (hc9 _ _ (by omega) (by simp; omega)).trans e6, (hc9 _ _ (by omega) (by simp; omega)).trans e7, (hc9 _ _ (by omega) (by simp; omega)).trans e8, (hc9 _ _ (by omega) (by simp; omega)).trans e9, (hc9 _ _ (by omega) (by simp; omega)).trans e10, (hc9 _ _ (by omega) (by simp; omega)).trans e11, by omega, by omega, by omega, hb9⟩))); clear hK K hHeld; have hHeld := hHeld1; clear hHeld1; (try simp only [Act.put, List.setIfInBounds_toArray, List.set_cons_zero, List.set_cons_succ]))
        (refine take2 10 (some 31) (.pointer (some ⟨b3, 1, none⟩)) rfl (by kernel_rfl) (by kernel_rfl) (by kernel_rfl) rfl (fun _ _ _ h => h) (Or.inl ⟨by rfl, fun W' hSw => (by (try dsimp only at hSw); go_simp)⟩) (by assumption) ?_; (try simp only [Act.put, List.setIfInBounds_toArray, List.set_cons_zero, List.set_cons_succ]))
        have HEL := Lib.hid hHeld
        (refine wpAnyH_done (by kernel_rfl) ?_ _; simp only [lastQ]; clear hHeld; change Oper.wp _ (Oper.mk none (Op.store 42 (Operand.tmp 31) (Operand.tmp 30)) _ _ _ none) _ _ _ _)
        obtain ⟨e0, e1, -, -, -, -, -, -, -, -, -, -, x0, x1, x2, -⟩ := HEL.out
        have blk9 : ∀ q, q < b3 + 1 → q < wo.heap.size → w9.heap[q]? = wo.heap[q]? := fun q hq hqs => (hgrow.block q (by simp; omega) (fun e => by have := hr9 q e.symm; omega)).trans ((al _ _ q (by omega)).trans (hb7.block q hqs))
        have HB39 := Lib.hid ((blk9 b3 (by omega) (by omega)).trans HB3.out)
        have HB19 := Lib.hid ((blk9 (w.heap.size + 1) (by omega) (by omega)).trans HB1.out)
        obtain ⟨-, f39⟩ := qbox (l := [.int .i64 op, .slice A2 k c2, .string U1, .int .i64 lt, .int .i64 ln, .string U2, .string U3, .int .i64 rt, .int .i64 rn, .string U4]) HB39.out 1 _ rfl
        have HRN : Hid (RowC (b3 + 1) w9 (args.take (k + 1)) (.slice (some ⟨gg, 0, none⟩) (k + 1) cap)) := Lib.hid (by
          have hR7 := (HR.out.below hB7).below (((Below.refl _ _).alloc (Nat.le_refl _) (.cells #[.int .i64 op', .slice A7 args'.length c7, .string ⟨lc'.toArray⟩, .int .i64 lt', .int .i64 ln', .string ⟨ls'.toArray⟩, .string ⟨rc'.toArray⟩, .int .i64 rt', .int .i64 rn', .string ⟨rs'.toArray⟩] 45)))
          have hown2 := hown1
          rw [htk.out]
          have hlt9' : ∀ q, (Value.slice A2 k c2).ownBlock = some q → q < wo.heap.size := fun q hq => by
            obtain ⟨css', -, ho', -⟩ := HR.out
            rw [htl] at ho'
            exact (ho'.lt q hq).2
          have := hR7.push (x := .mk op' args' ⟨lc', lt', ln', ls'⟩ ⟨rc', rt', rn', rs'⟩) (cx := [.int .i64 op', .slice A7 args'.length c7, .string ⟨lc'.toArray⟩, .int .i64 lt', .int .i64 ln', .string ⟨ls'.toArray⟩, .string ⟨rc'.toArray⟩, .int .i64 rt', .int .i64 rn', .string ⟨rs'.toArray⟩]) (g := gg) (cap := cap) (W' := w9)
            (((HV7.out).mono fun b _ hb => ⟨by simp at hb; omega, fun e => by have := hlt9' b e; simp at hb; omega⟩).keep (Kp.alloc (Kp.refl _ _) _)) (xs := css.flatten)
            (fun css' h1 h2 => by rw [htl] at h2; exact own_uniq h2 (HRO.out.alloc _)) (by rw [htl]; exact hown2) hgrow (by rcases hat with e | e; exact .inl e; exact .inr (by simp; omega))
          rw [htl] at this
          exact this)
        clear hgrow hat hown1 hc9 hr9 HRO HV7
        go_simp
        go_wp2_with (fail)
        refine ⟨⟨k + 1, _, by omega, by go_num, Lib.hid (HRN.out.set (by omega) _ _), Lib.hid (set_at HB39.out 1 _), Lib.hid ((setCell_block _ _ _ _ (by omega)).trans HB19.out), by simp; omega, Lib.hid ⟨?_, by simp; omega, ?_⟩⟩, ?_⟩
        · rw [World.cell?_setCell_far _ _ _ _ (by dsimp only; omega)]; exact e0
        · exact Below.setCell hb9 (by dsimp only; omega) _
        · first | (simp [intOf]; done) | (simp [intOf]; omega)
      · obtain rfl : k = args.length := by omega
        have hkk : ¬ (args.length : Int) < (args.length : Int) := by omega
        have hR := HR.out
        rw [List.take_of_length_le (Nat.le_refl _)] at hR
        obtain ⟨A9, c9, hV9, hl9, hn9, hL9⟩ := hR.args
        injection hV9 with e1 e2 e3
        subst e1 e3
        have HL9 := Lib.hid (And.intro hl9 (And.intro hn9 hL9))
        obtain ⟨p0, -⟩ := qbox (l := [.int .i64 op, .slice A2 args.length c2, .string U1, .int .i64 lt, .int .i64 ln, .string U2, .string U3, .int .i64 rt, .int .i64 rn, .string U4]) HB3.out 0 _ rfl
        obtain ⟨q0, r0⟩ := qbox (l := [.int .i64 0, .slice none 0 0, .string ⟨#[]⟩, .int .i64 0, .int .i64 0, .string ⟨#[]⟩, .string ⟨#[]⟩, .int .i64 0, .int .i64 0, .string ⟨#[]⟩]) HB1.out 0 _ rfl
        obtain ⟨p1, -⟩ := qbox (l := [.int .i64 op, .slice A2 args.length c2, .string U1, .int .i64 lt, .int .i64 ln, .string U2, .string U3, .int .i64 rt, .int .i64 rn, .string U4]) HB3.out 1 _ rfl
        obtain ⟨q1, r1⟩ := qbox (l := [.int .i64 0, .slice none 0 0, .string ⟨#[]⟩, .int .i64 0, .int .i64 0, .string ⟨#[]⟩, .string ⟨#[]⟩, .int .i64 0, .int .i64 0, .string ⟨#[]⟩]) HB1.out 1 _ rfl
        obtain ⟨p2, -⟩ := qbox (l := [.int .i64 op, .slice A2 args.length c2, .string U1, .int .i64 lt, .int .i64 ln, .string U2, .string U3, .int .i64 rt, .int .i64 rn, .string U4]) HB3.out 2 _ rfl
        obtain ⟨q2, r2⟩ := qbox (l := [.int .i64 0, .slice none 0 0, .string ⟨#[]⟩, .int .i64 0, .int .i64 0, .string ⟨#[]⟩, .string ⟨#[]⟩, .int .i64 0, .int .i64 0, .string ⟨#[]⟩]) HB1.out 2 _ rfl
        obtain ⟨p3, -⟩ := qbox (l := [.int .i64 op, .slice A2 args.length c2, .string U1, .int .i64 lt, .int .i64 ln, .string U2, .string U3, .int .i64 rt, .int .i64 rn, .string U4]) HB3.out 3 _ rfl
        obtain ⟨q3, r3⟩ := qbox (l := [.int .i64 0, .slice none 0 0, .string ⟨#[]⟩, .int .i64 0, .int .i64 0, .string ⟨#[]⟩, .string ⟨#[]⟩, .int .i64 0, .int .i64 0, .string ⟨#[]⟩]) HB1.out 3 _ rfl
        obtain ⟨p4, -⟩ := qbox (l := [.int .i64 op, .slice A2 args.length c2, .string U1, .int .i64 lt, .int .i64 ln, .string U2, .string U3, .int .i64 rt, .int .i64 rn, .string U4]) HB3.out 4 _ rfl
        obtain ⟨q4, r4⟩ := qbox (l := [.int .i64 0, .slice none 0 0, .string ⟨#[]⟩, .int .i64 0, .int .i64 0, .string ⟨#[]⟩, .string ⟨#[]⟩, .int .i64 0, .int .i64 0, .string ⟨#[]⟩]) HB1.out 4 _ rfl
        obtain ⟨p5, -⟩ := qbox (l := [.int .i64 op, .slice A2 args.length c2, .string U1, .int .i64 lt, .int .i64 ln, .string U2, .string U3, .int .i64 rt, .int .i64 rn, .string U4]) HB3.out 5 _ rfl
        obtain ⟨q5, r5⟩ := qbox (l := [.int .i64 0, .slice none 0 0, .string ⟨#[]⟩, .int .i64 0, .int .i64 0, .string ⟨#[]⟩, .string ⟨#[]⟩, .int .i64 0, .int .i64 0, .string ⟨#[]⟩]) HB1.out 5 _ rfl
        obtain ⟨p6, -⟩ := qbox (l := [.int .i64 op, .slice A2 args.length c2, .string U1, .int .i64 lt, .int .i64 ln, .string U2, .string U3, .int .i64 rt, .int .i64 rn, .string U4]) HB3.out 6 _ rfl
        obtain ⟨q6, r6⟩ := qbox (l := [.int .i64 0, .slice none 0 0, .string ⟨#[]⟩, .int .i64 0, .int .i64 0, .string ⟨#[]⟩, .string ⟨#[]⟩, .int .i64 0, .int .i64 0, .string ⟨#[]⟩]) HB1.out 6 _ rfl
        obtain ⟨p7, -⟩ := qbox (l := [.int .i64 op, .slice A2 args.length c2, .string U1, .int .i64 lt, .int .i64 ln, .string U2, .string U3, .int .i64 rt, .int .i64 rn, .string U4]) HB3.out 7 _ rfl
        obtain ⟨q7, r7⟩ := qbox (l := [.int .i64 0, .slice none 0 0, .string ⟨#[]⟩, .int .i64 0, .int .i64 0, .string ⟨#[]⟩, .string ⟨#[]⟩, .int .i64 0, .int .i64 0, .string ⟨#[]⟩]) HB1.out 7 _ rfl
        obtain ⟨p8, -⟩ := qbox (l := [.int .i64 op, .slice A2 args.length c2, .string U1, .int .i64 lt, .int .i64 ln, .string U2, .string U3, .int .i64 rt, .int .i64 rn, .string U4]) HB3.out 8 _ rfl
        obtain ⟨q8, r8⟩ := qbox (l := [.int .i64 0, .slice none 0 0, .string ⟨#[]⟩, .int .i64 0, .int .i64 0, .string ⟨#[]⟩, .string ⟨#[]⟩, .int .i64 0, .int .i64 0, .string ⟨#[]⟩]) HB1.out 8 _ rfl
        obtain ⟨p9, -⟩ := qbox (l := [.int .i64 op, .slice A2 args.length c2, .string U1, .int .i64 lt, .int .i64 ln, .string U2, .string U3, .int .i64 rt, .int .i64 rn, .string U4]) HB3.out 9 _ rfl
        obtain ⟨q9, r9⟩ := qbox (l := [.int .i64 0, .slice none 0 0, .string ⟨#[]⟩, .int .i64 0, .int .i64 0, .string ⟨#[]⟩, .string ⟨#[]⟩, .int .i64 0, .int .i64 0, .string ⟨#[]⟩]) HB1.out 9 _ rfl
        have hz9 : w.heap.size + 1 ≠ b3 ∧ b3 ≠ w.heap.size + 1 := by omega
        clear o31 f31
        go_wp2_with (fail)
        exact bodyPost_ret (v := .agg #[.int .i64 op, .slice A2 args.length c2, .string U1, .int .i64 lt, .int .i64 ln, .string U2, .string U3, .int .i64 rt, .int .i64 rn, .string U4]) (by simp [results, Tryz.results33, go_sem, *]) rfl (HQ.out A2 c2 (b3 + 1) _ _ HL9.out.1 HL9.out.2.1 HL9.out.2.2 (by omega) (by repeat (first | (with_reducible exact Kp.refl _ _) | (with_reducible refine Kp.set ?_ (by dsimp only; omega) _))) (by repeat (first | (with_reducible exact B0) | (with_reducible refine Below.setCell ?_ (by dsimp only; omega) _))))
end Go.Proofs.YtijlifdbjhieaaaGreatDoor
