/-
  Contract of exref22.ParseResponse: it answers what 'respF' says of the bytes. (Printed by tools/mkhzf.py.)
-/
import Derived.Test.YtkaimfeiahogaaaGreatDoorHzP
import Derived.Test.YtkaimfeiahogaaaGreatDoorHzC
import Derived.Test.YtkaimfeiahogaaaGreatDoorHv6
import Derived.Test.YtkaimfeiahogaaaGreatDoorBw5
import Derived.Test.YtkaimfeiahogaaaGreatDoorBw11

/-
  What exref22.ParseResponse's walk needs: its own cells; exref.Atoi at a text of no number; the bytes of a status.
-/
namespace Go.Proofs.YtkaimfeiahogaaaGreatDoor
set_option linter.all false
open Go.RowKit Go.Shelf
attribute [local go_sem] cell_set_self lt_1 lt_2 lt_3 lt_4 lt_5 lt_6 drew_cell drew_frozen drew_size

/-- The cells of the result, empty. -/
structure ResS (w W : World) : Prop where
  a0 : W.cell? ⟨w.heap.size, 0, none⟩ = some (.int .i64 0)
  a1 : W.cell? ⟨w.heap.size, 1, none⟩ = some (.slice none 0 0)
  a2 : W.cell? ⟨w.heap.size, 2, none⟩ = some (.bool false)
  fa : ∀ j, W.frozen? ⟨w.heap.size, j, none⟩ = false
  hs : w.heap.size + 1 ≤ W.heap.size
  bel : Below w.heap.size w W
theorem ResS.below {w W W' : World} (h : ResS w W) (hb : Below (w.heap.size + 1) W W') : ResS w W' :=
  have k0 : w.heap.size < w.heap.size + 1 := by omega
  ⟨(hb.cell (p := ⟨w.heap.size, 0, none⟩) k0).trans h.a0, (hb.cell (p := ⟨w.heap.size, 1, none⟩) k0).trans h.a1, (hb.cell (p := ⟨w.heap.size, 2, none⟩) k0).trans h.a2,
   fun j => (hb.frozen (p := ⟨w.heap.size, j, none⟩) k0).trans (h.fa j), Nat.le_trans h.hs hb.size, h.bel.trans (hb.mono (by omega))⟩
theorem ResS.call {w W W' : World} (h : ResS w W) (hb : Below W.heap.size W W') : ResS w W' := h.below (hb.mono h.hs)
/-- The response's cells, as far as it is read. -/
structure RpS (rb : Nat) (W : World) (z : Int) (cl : Bool) : Prop where
  r0 : W.cell? ⟨rb, 0, none⟩ = some (.int .i64 z)
  r1 : W.cell? ⟨rb, 1, none⟩ = some (.slice none 0 0)
  r2 : W.cell? ⟨rb, 2, none⟩ = some (.bool cl)
  fr : ∀ j, W.frozen? ⟨rb, j, none⟩ = false
  hs : rb < W.heap.size
theorem RpS.call {rb : Nat} {W W' : World} {z : Int} {cl : Bool} (h : RpS rb W z cl) (hb : Below W.heap.size W W') : RpS rb W' z cl :=
  ⟨(hb.cell (p := ⟨rb, 0, none⟩) h.hs).trans h.r0, (hb.cell (p := ⟨rb, 1, none⟩) h.hs).trans h.r1, (hb.cell (p := ⟨rb, 2, none⟩) h.hs).trans h.r2,
   fun j => (hb.frozen (p := ⟨rb, j, none⟩) h.hs).trans (h.fr j), Nat.lt_of_lt_of_le h.hs hb.size⟩
theorem RpS.close {rb : Nat} {W : World} {z : Int} (h : RpS rb W z false) : RpS rb (W.setCell ⟨rb, 2, none⟩ (.bool true)) z true := by
  obtain ⟨r0, r1, r2, fr, hs⟩ := h
  exact ⟨by simp [go_sem, *], by simp [go_sem, *], by simp [go_sem, *, cell_set_self], by intro j; simpa [go_sem] using fr j, by simpa using hs⟩
theorem ResS.set {w W : World} (h : ResS w W) {rb j : Nat} (hr : w.heap.size + 1 ≤ rb) (v : Value) : ResS w (W.setCell ⟨rb, j, none⟩ v) := by
  obtain ⟨a0, a1, a2, fa, hs, bel⟩ := h
  have k0 : ¬ rb = w.heap.size := by omega
  exact ⟨by simp [go_sem, *], by simp [go_sem, *], by simp [go_sem, *], by intro j; simpa [go_sem] using fa j, by simpa using hs, bel.setCell (by dsimp only; omega) _⟩
theorem bs_farR {w W : World} {B rb : Nat} {A : Option Addr} {c : Nat} {l : List UInt8} (T : BsN B W A c l) (h : w.heap.size < B) (hr : rb < B) {v0 v1 v2 v3 : Value} : Bs ((((W.setCell ⟨rb, 1, none⟩ v0).setCell ⟨w.heap.size, 0, none⟩ v1).setCell ⟨w.heap.size, 1, none⟩ v2).setCell ⟨w.heap.size, 2, none⟩ v3) A c l := by
  have h0 : ∀ a, A = some a → w.heap.size ≠ a.block := fun a ha => by have := T.2 a ha; omega
  have h1 : ∀ a, A = some a → rb ≠ a.block := fun a ha => by have := T.2 a ha; omega
  exact (((T.1.setFar _ _ h1).setFar _ _ h0).setFar _ _ h0).setFar _ _ h0
/-- Both fronts at once: at most two bytes. -/
theorem both_beg {t : List UInt8} (h1 : begF t tPlain = true) (h2 : begF t tClosing = true) : t.length ≤ 2 := by
  have e1 : tPlain.length = 4 := rfl
  have e2 : tClosing.length = 23 := by rfl
  unfold begF at h1 h2
  rw [decide_eq_true_eq] at h1 h2
  match t, h1, h2 with
  | [], _, _ => simp
  | [_], _, _ => simp
  | [_, _], _, _ => simp
  | a :: b :: c :: r, h1, h2 =>
    exfalso
    rw [e1] at h1
    rw [e2] at h2
    have k1 : c = 13 := by
      have := congrArg (fun l => l[2]?) h1
      simpa [tPlain, List.getElem?_take] using this
    have k2 : c = 99 := by
      have := congrArg (fun l => l[2]?) h2
      simpa [tClosing, closeLine, tConn, List.getElem?_take] using this
    rw [k1] at k2
    exact absurd k2 (by decide)
section
variable {t : List UInt8}
theorem closeR_bad (h1 : begF t tPlain = false) (h2 : begF t tClosing = false) : closeR t = .bad := by unfold closeR; rw [if_pos ⟨h1, h2⟩]
theorem closeR_close (h2 : begF t tClosing = true) (h : 23 ≤ t.length) : closeR t = .got true (t.drop 23) := by
  unfold closeR; rw [if_neg (by rw [h2]; simp), if_pos ⟨h, h2⟩]; rfl
theorem closeR_plain (h1 : begF t tPlain = true) (h2 : begF t tClosing = false) (h : 4 ≤ t.length) : closeR t = .got false (t.drop 4) := by
  unfold closeR; rw [if_neg (by rw [h1]; simp), if_neg (by rw [h2]; simp), if_pos ⟨h, h1⟩]; rfl
theorem closeR_wait1 (h1 : begF t tPlain = false) (h2 : begF t tClosing = true) (h : t.length < 23) : closeR t = .wait := by
  unfold closeR; rw [if_neg (by rw [h2]; simp), if_neg (fun e => by have := e.1; have e2 : tClosing.length = 23 := (by rfl); omega), if_neg (by rw [h1]; simp)]
theorem closeR_wait2 (h1 : begF t tPlain = true) (h : t.length < 4) : closeR t = .wait := by
  unfold closeR; rw [if_neg (by rw [h1]; simp), if_neg (fun e => by have := e.1; have e2 : tClosing.length = 23 := (by rfl); omega), if_neg (fun e => by have := e.1; have e2 : tPlain.length = 4 := rfl; omega)]
end
theorem okN_fits2 {d : List UInt8} : okN d = (numF d && fitsN d) := by
  unfold okN fitsN
  congr 1
  rw [decide_eq_decide]; omega
set_option maxHeartbeats 2000000 in
theorem atoi_bad (v : List UInt8) (hv : v.length ≤ 1000000) (hf : formB v = false) (w : World) :
    Calls Tryz.prog 46 #[.string ⟨v.toArray⟩] w fun e w' => e = .returned (.tuple #[.int .i64 0, .bool false]) ∧ Below w.heap.size w w' := by
  have FM := fun W => form_all v hv W
  rw [hf] at FM
  have FM := Lib.hid FM
  generalize (⟨v.toArray⟩ : ByteArray) = V at *
  go_enter Tryz.func46, Tryz.ntmps46
  go_wp2_with (first | (go_at_call 45; (with_reducible refine (FM.out _).mono ?_); rintro e w6 ⟨rfl, hb6⟩))
  go_ret2
  exact ⟨rfl, hb6⟩
theorem dig_form {d : List UInt8} (h : DigB d) : formB d = numF d := by
  unfold formB
  split
  · rename_i c r; exact absurd (h 45 (List.mem_cons_self ..)) (by decide)
  · rfl
/-- Three digits, no 0 ahead. -/
theorem pre3_num {r : List UInt8} (h : pre3 r = true) (hl : 3 ≤ r.length) : numF (r.take 3) = true ∧ DigB (r.take 3) ∧ (r.take 3).length = 3 ∧ dv (r.take 3) ≤ 999 ∧ txt (dv (r.take 3) : Int) = r.take 3 := by
  unfold pre3 at h
  rw [Bool.and_eq_true] at h
  have hd : DigB (r.take 3) := fun b hb => dgB_iff.1 (List.all_eq_true.1 h.1 b hb)
  have hl3 : (r.take 3).length = 3 := by rw [List.length_take]; omega
  have hh : (r.take 3).head? ≠ some 48 := by
    cases r with
    | nil => simp at hl
    | cons a q => simpa using h.2
  have hne : r.take 3 ≠ [] := fun e => by rw [e] at hl3; cases hl3
  have := dv_lt hd
  rw [hl3] at this
  exact ⟨numF_iff.2 ⟨hne, hd, .inr hh⟩, hd, hl3, by omega, txt_dv hd hne hh⟩
/-- The bytes that were looked at: digits, no 0 ahead. -/
def Pre (r : List UInt8) (j : Nat) : Prop := (r.take j).all dgB = true ∧ (0 < j → r.head? ≠ some 48)
theorem Pre.zero (r : List UInt8) : Pre r 0 := ⟨rfl, fun h => absurd h (by decide)⟩
theorem Pre.next {r : List UInt8} {j : Nat} {x : UInt8} (h : Pre r j) (hx : r[j]? = some x) (hd : dgB x = true) (h0 : j = 0 → x.toNat ≠ 48) : Pre r (j + 1) := by
  refine ⟨?_, fun _ => ?_⟩
  · rw [List.take_succ, hx, Option.toList_some, List.all_append, h.1]; simpa using hd
  · by_cases e : j = 0
    · subst e
      rw [List.head?_eq_getElem?, hx]
      intro k; injection k with k; exact h0 rfl (by rw [k]; rfl)
    · exact h.2 (by omega)
theorem Pre.done {r : List UInt8} {j : Nat} (h : Pre r j) (hj : j = 3 ∨ r.length ≤ j) (hl : 0 < j ∨ r = []) : pre3 r = true := by
  unfold pre3
  have e : (r.take 3).all dgB = true := by
    rcases hj with rfl | hj
    · exact h.1
    · have := h.1
      rw [List.take_of_length_le hj] at this
      exact List.all_eq_true.2 fun b hb => List.all_eq_true.1 this b (List.mem_of_mem_take hb)
  rw [e, Bool.true_and]
  rcases hl with hl | rfl
  · simpa using h.2 hl
  · rfl
theorem pre3_bad {r : List UInt8} {j : Nat} {x : UInt8} (hj : j < 3) (hx : r[j]? = some x) (h : dgB x = false ∨ (j = 0 ∧ x.toNat = 48)) : pre3 r = false := by
  unfold pre3
  rw [Bool.and_eq_false_iff]
  rcases h with h | ⟨rfl, h⟩
  · left
    cases g : (r.take 3).all dgB with
    | false => rfl
    | true =>
      have : x ∈ r.take 3 := List.mem_of_getElem? (i := j) (by rw [List.getElem?_take, if_pos hj]; exact hx)
      rw [List.all_eq_true.1 g x this] at h; cases h
  · right
    rw [List.head?_eq_getElem?, hx]
    have : x = 48 := UInt8.toNat_inj.1 h
    subst this; rfl
theorem span_inR {q : List UInt8} {j : Nat} (h : j < (spanT q).length) : ∃ x, q[j]? = some x ∧ dgB x = true := by
  have e := span_app q
  obtain ⟨x, hx⟩ : ∃ x, (spanT q)[j]? = some x := ⟨_, List.getElem?_eq_getElem h⟩
  refine ⟨x, ?_, dgB_iff.2 (spanT_dig q x (List.mem_of_getElem? hx))⟩
  rw [← e, List.getElem?_append_left h]; exact hx
theorem span_outR {q : List UInt8} {x : UInt8} (h : q[(spanT q).length]? = some x) : dgB x = false := by
  induction q with
  | nil => simp at h
  | cons b q ih =>
    unfold spanT at h ih
    rw [List.takeWhile_cons] at h
    by_cases g : dgB b = true
    · rw [if_pos g, List.length_cons, List.getElem?_cons_succ] at h
      exact ih h
    · rw [if_neg g] at h
      simp at h
      rw [← h]; simpa using g
theorem span_takeR (q : List UInt8) : q.take (spanT q).length = spanT q ∧ q.drop (spanT q).length = spanD q := by
  have e := span_app q
  constructor
  · conv => lhs; arg 2; rw [← e]
    exact List.take_left
  · conv => lhs; arg 2; rw [← e]
    exact List.drop_left
theorem span_le (q : List UInt8) : (spanT q).length ≤ q.length := by
  have := congrArg List.length (span_app q)
  rw [List.length_append] at this; omega
end Go.Proofs.YtkaimfeiahogaaaGreatDoor

/-
  Contract of exref22.ParseResponse: it answers what 'respF' says of the bytes. (Printed by tools/mkhzf.py.)
-/
namespace Go.Proofs.YtkaimfeiahogaaaGreatDoor
set_option linter.all false
open Go.RowKit Go.Shelf
attribute [local go_sem] cell_set_self lt_1 lt_2 lt_3 lt_4 lt_5 lt_6 drew_cell drew_frozen drew_size

theorem in64_abs2 {z : Int} (h : In64 z) : z.natAbs ≤ 9223372036854775808 := by have := h.1; have := h.2; omega
set_option maxHeartbeats 40000000 in
set_option maxRecDepth 100000 in
theorem rpresp_any (A : Option Addr) (n c : Nat) (l : List UInt8) (hl : l.length = n) (hn : n ≤ 100000) (w : World) (T : Bs w A c l) :
    Calls Tryz.prog 30 #[.slice A n c] w fun e w' => RespO w.heap.size w' l e ∧ Below w.heap.size w w' := by
  have HL := Lib.hid hl
  have HT := Lib.hid T
  have hnc : (n : Int) ≤ (c : Int) := by have := T.1; omega
  have BG := Lib.hid (fun (s : List UInt8) (hs : s.length ≤ 1000000) W (hb : Below w.heap.size w W) => begins_ref A n c l hl (by omega) s hs W (T.below hb))
  have RR := Lib.hid (respR_eq l)
  clear T hl
  suffices key : ∀ Q : Ending → World → Prop, Hid (∀ e w', RespO w.heap.size w' l e ∧ Below w.heap.size w w' → Q e w') → Calls Tryz.prog 30 #[.slice A n c] w Q from key _ (Lib.hid fun _ _ h => h)
  intro Q HQQ
  cases hb0 : begF l tStart with
  | false =>
    have HX : Hid (respF l = .bad) := Lib.hid (by rw [← RR.out]; unfold respR; rw [if_pos hb0])
    have BG0 := fun W hb => BG.out tStart (by decide) W hb
    rw [hb0] at BG0
    unfold tStart tVers at BG0
    simp only [List.cons_append, List.nil_append] at BG0
    have BG0 := Lib.hid BG0
    clear hb0
    go_enter Tryz.func30, Tryz.ntmps30
    go_wp2_with (first | (go_at_call 51; (with_reducible refine (BG0.out _ (by repeat (first | exact Below.refl _ _ | refine Below.setCell ?_ (by first | (simp; done) | (simp; omega) | omega) _ | refine Below.alloc ?_ (by first | (simp; done) | (simp; omega) | omega) _ | refine Below.drew ?_ | assumption | refine Below.trans ?_ (Below.mono (by assumption) (by first | (simp; done) | (simp; omega) | omega))))).mono ?_); rintro e w1 ⟨rfl, hb1⟩; have RS1 := Lib.hid (ResS.call (w := w) ⟨by simp [go_sem], by simp [go_sem], by simp [go_sem], by intro j; simp [go_sem], by simp, (by repeat (first | exact Below.refl _ _ | refine Below.setCell ?_ (by first | (simp; done) | (simp; omega) | omega) _ | refine Below.alloc ?_ (by first | (simp; done) | (simp; omega) | omega) _ | refine Below.drew ?_ | assumption | refine Below.trans ?_ (Below.mono (by assumption) (by first | (simp; done) | (simp; omega) | omega))))⟩ hb1); have a01 := RS1.out.a0; have a11 := RS1.out.a1; have a21 := RS1.out.a2; have fa1 := RS1.out.fa; have hs1 := RS1.out.hs; have bel1 := RS1.out.bel))
    exact bodyPost_ret (v := .tuple #[.agg #[.int .i64 0, .slice none 0 0, .bool false], .int .i64 0, .bool false, .int .i64 10]) (by simp [results, Tryz.results30, go_sem, *]) rfl (HQQ.out _ _ ⟨by unfold RespO; rw [HX.out]; rfl, (by repeat (first | exact Below.refl _ _ | refine Below.setCell ?_ (by first | (simp; done) | (simp; omega) | omega) _ | refine Below.alloc ?_ (by first | (simp; done) | (simp; omega) | omega) _ | refine Below.drew ?_ | assumption | refine Below.trans ?_ (Below.mono (by assumption) (by first | (simp; done) | (simp; omega) | omega))))⟩)
  | true =>
    have BG0 := fun W hb => BG.out tStart (by decide) W hb
    rw [hb0] at BG0
    unfold tStart tVers at BG0
    simp only [List.cons_append, List.nil_append] at BG0
    have BG0 := Lib.hid BG0
    have HB0 := Lib.hid hb0
    clear hb0
    go_enter Tryz.func30, Tryz.ntmps30
    go_wp2_with (first | (go_at_call 51; (with_reducible refine (BG0.out _ (by repeat (first | exact Below.refl _ _ | refine Below.setCell ?_ (by first | (simp; done) | (simp; omega) | omega) _ | refine Below.alloc ?_ (by first | (simp; done) | (simp; omega) | omega) _ | refine Below.drew ?_ | assumption | refine Below.trans ?_ (Below.mono (by assumption) (by first | (simp; done) | (simp; omega) | omega))))).mono ?_); rintro e w1 ⟨rfl, hb1⟩; have RS1 := Lib.hid (ResS.call (w := w) ⟨by simp [go_sem], by simp [go_sem], by simp [go_sem], by intro j; simp [go_sem], by simp, (by repeat (first | exact Below.refl _ _ | refine Below.setCell ?_ (by first | (simp; done) | (simp; omega) | omega) _ | refine Below.alloc ?_ (by first | (simp; done) | (simp; omega) | omega) _ | refine Below.drew ?_ | assumption | refine Below.trans ?_ (Below.mono (by assumption) (by first | (simp; done) | (simp; omega) | omega))))⟩ hb1); have a01 := RS1.out.a0; have a11 := RS1.out.a1; have a21 := RS1.out.a2; have fa1 := RS1.out.fa; have hs1 := RS1.out.hs; have bel1 := RS1.out.bel))
    go_loop [7] (fun i => ∃ j : Nat, i = .int .i64 ((9 + j : Nat) : Int) ∧ j ≤ 3 ∧ Hid (Pre (l.drop 9) j)) (fun i => 12 - (intOf i).toNat)
    case atStart => exact ⟨0, rfl, by omega, Lib.hid (Pre.zero _)⟩
    case round =>
      obtain ⟨j, rfl, hj3, HP⟩ := hrel
      obtain ⟨i, hi⟩ : ∃ i, 9 + j = i := ⟨_, rfl⟩
      rw [hi]
      have HI := Lib.hid hi
      have hi12 : i ≤ 12 := by omega
      have hi9 : 9 ≤ i := by omega
      by_cases hin : i < n ∧ i < 12
      · have h1 : (i : Int) < (n : Int) := by omega
        have h2 : (i : Int) < 12 := by omega
        obtain ⟨x, hx⟩ : ∃ x, l[i]? = some x := ⟨_, List.getElem?_eq_getElem (by rw [HL.out]; omega)⟩
        have hx9 : (l.drop 9)[j]? = some x := by rw [List.getElem?_drop, hi]; exact hx
        obtain ⟨b0, off0, hA0, hbl0, e0⟩ := HT.out.2.2 i x hx
        subst hA0
        have e1 := (RS1.out.bel.cell (p := ⟨b0, off0 + i, none⟩) hbl0).trans e0
        have hz1 : b0 < w1.heap.size := Nat.lt_of_lt_of_le hbl0 RS1.out.bel.size
        have DG := fun W => rdigit_any x W
        have hin2 : j < 3 := by omega
        have HX9 := Lib.hid hx9
        clear hx hx9 hin
        cases hd : digB x with
        | false =>
          rw [hd] at DG
          have DG := Lib.hid DG
          have HX : Hid (respF l = .bad) := Lib.hid (by rw [← RR.out]; unfold respR; rw [if_neg (by rw [HB0.out]; decide), if_pos (pre3_bad hin2 HX9.out (.inl hd))])
          clear hd hi
          generalize x.toNat = xx at *
          go_wp2_with (first | (go_at_call 52; (with_reducible refine (DG.out _).mono ?_); rintro e w2 ⟨rfl, rfl⟩))
          exact bodyPost_ret (v := .tuple #[.agg #[.int .i64 0, .slice none 0 0, .bool false], .int .i64 0, .bool false, .int .i64 10]) (by simp [results, Tryz.results30, go_sem, *]) rfl (HQQ.out _ _ ⟨by unfold RespO; rw [HX.out]; rfl, (by repeat (first | exact Below.refl _ _ | refine Below.setCell ?_ (by first | (simp; done) | (simp; omega) | omega) _ | refine Below.alloc ?_ (by first | (simp; done) | (simp; omega) | omega) _ | refine Below.drew ?_ | assumption | refine Below.trans ?_ (Below.mono (by assumption) (by first | (simp; done) | (simp; omega) | omega))))⟩)
        | true =>
          rw [hd] at DG
          have DG := Lib.hid DG
          by_cases hj0 : j = 0
          · have hi9' : ((i : Int) == 9) = true := by rw [beq_iff_eq]; omega
            by_cases h48 : x.toNat = 48
            · have HX : Hid (respF l = .bad) := Lib.hid (by rw [← RR.out]; unfold respR; rw [if_neg (by rw [HB0.out]; decide), if_pos (pre3_bad hin2 HX9.out (.inr ⟨hj0, h48⟩))])
              have h48' : ((x.toNat : Int) == 48) = true := by rw [beq_iff_eq]; omega
              clear hd hi hj0 h48 e0
              generalize x.toNat = xx at *
              go_wp2_with (first | (go_at_call 52; (with_reducible refine (DG.out _).mono ?_); rintro e w2 ⟨rfl, rfl⟩))
              exact bodyPost_ret (v := .tuple #[.agg #[.int .i64 0, .slice none 0 0, .bool false], .int .i64 0, .bool false, .int .i64 10]) (by simp [results, Tryz.results30, go_sem, *]) rfl (HQQ.out _ _ ⟨by unfold RespO; rw [HX.out]; rfl, (by repeat (first | exact Below.refl _ _ | refine Below.setCell ?_ (by first | (simp; done) | (simp; omega) | omega) _ | refine Below.alloc ?_ (by first | (simp; done) | (simp; omega) | omega) _ | refine Below.drew ?_ | assumption | refine Below.trans ?_ (Below.mono (by assumption) (by first | (simp; done) | (simp; omega) | omega))))⟩)
            · have h48' : ((x.toNat : Int) == 48) = false := by rw [beq_eq_false_iff_ne]; omega
              have HN := Lib.hid (HP.out.next HX9.out hd (fun _ => h48))
              clear hd hi hj0 h48 e0
              generalize x.toNat = xx at *
              go_wp2_with (first | (go_at_call 52; (with_reducible refine (DG.out _).mono ?_); rintro e w2 ⟨rfl, rfl⟩))
              go_roundw
              case rel => exact ⟨j + 1, by have := HI.out; rw [show 9 + (j + 1) = i + 1 by omega]; go_num, by omega, HN⟩
              case measure => first | (simp [intOf]; done) | (simp [intOf]; omega)
          · have hi9' : ((i : Int) == 9) = false := by rw [beq_eq_false_iff_ne]; omega
            have HN := Lib.hid (HP.out.next HX9.out hd (fun e => absurd e hj0))
            clear hd hi hj0 e0
            generalize x.toNat = xx at *
            go_wp2_with (first | (go_at_call 52; (with_reducible refine (DG.out _).mono ?_); rintro e w2 ⟨rfl, rfl⟩))
            go_roundw
            case rel => exact ⟨j + 1, by have := HI.out; rw [show 9 + (j + 1) = i + 1 by omega]; go_num, by omega, HN⟩
            case measure => first | (simp [intOf]; done) | (simp [intOf]; omega)
      · have hP3 : pre3 (l.drop 9) = true := HP.out.done (by rw [List.length_drop, HL.out]; omega) (by
          by_cases g : 0 < j
          · exact .inl g
          · right; exact List.drop_of_length_le (by rw [HL.out]; omega))
        have HP3 := Lib.hid hP3
        clear hP3 HP
        by_cases h12 : n < 12
        · have h1 : ¬ (i : Int) < (n : Int) := by omega
          have h12' : (n : Int) < 12 := by omega
          have HX : Hid (respF l = .wait) := Lib.hid (by rw [← RR.out]; unfold respR; rw [if_neg (by rw [HB0.out]; decide), if_neg (by rw [HP3.out]; decide), if_pos (by rw [HL.out]; exact h12)])
          clear hin hi
          go_wp2
          exact bodyPost_ret (v := .tuple #[.agg #[.int .i64 0, .slice none 0 0, .bool false], .int .i64 0, .bool false, .int .i64 0]) (by simp [results, Tryz.results30, go_sem, *]) rfl (HQQ.out _ _ ⟨by unfold RespO; rw [HX.out]; rfl, (by repeat (first | exact Below.refl _ _ | refine Below.setCell ?_ (by first | (simp; done) | (simp; omega) | omega) _ | refine Below.alloc ?_ (by first | (simp; done) | (simp; omega) | omega) _ | refine Below.drew ?_ | assumption | refine Below.trans ?_ (Below.mono (by assumption) (by first | (simp; done) | (simp; omega) | omega))))⟩)
        · have h12' : ¬ (n : Int) < 12 := by omega
          obtain rfl : i = 12 := by omega
          clear hin hi
          by_cases hn12 : n = 12
          · have hlt : ¬ (12 : Int) < (n : Int) := by omega
            have HN12 := Lib.hid hn12
            clear hn12
            have H12 := Lib.hid (show ¬ n < 12 by omega)
            have hlen9 : 3 ≤ (l.drop 9).length := by rw [List.length_drop, HL.out]; omega
            obtain ⟨p1, p2, p3, p4, p5⟩ := pre3_num HP3.out hlen9
            obtain ⟨d3, hd3⟩ : ∃ d3, (l.drop 9).take 3 = d3 := ⟨_, rfl⟩
            rw [hd3] at p1 p2 p3 p4 p5
            have HD3 := Lib.hid hd3
            obtain ⟨z, hz⟩ : ∃ z, dv d3 = z := ⟨_, rfl⟩
            rw [hz] at p4 p5
            have HZ := Lib.hid hz
            have AI3 := fun W => atoi_plain d3 p1 (by omega) W
            rw [show valN 0 d3 = (z : Int) by unfold valN; rw [hz, if_pos (by omega)], show fitsN d3 = true by unfold fitsN; rw [hz]; exact decide_eq_true (by omega)] at AI3
            obtain ⟨x0, hx0⟩ : ∃ x, l[0]? = some x := ⟨_, List.getElem?_eq_getElem (by rw [HL.out]; omega)⟩
            obtain ⟨b0, off0, hA0, -, -⟩ := HT.out.2.2 0 x0 hx0
            subst hA0
            have hc9 : ¬ (c : Int) - 9 = 0 := by omega
            have hc12 : (12 : Int) ≤ (c : Int) := by omega
            have hzi : In64 (z : Int) := by unfold In64; omega
            have HBO := Lib.hid (fun W => bigOf_any (z : Int) hzi W)
            have HBT := Lib.hid (fun W s A k c (P : Pt 0 W s A k c (z : Int)) => bigText_any s A k c (z : Int) (by rw [P.2.1]; exact dgs_len (k := 12) (Nat.lt_of_le_of_lt (in64_abs2 hzi) (by decide))) W P)
            have HRE := Lib.hid (fun W => rreason_any (z : Int) W)
            rw [show txt (z : Int) = d3 from p5] at HBT
            have hrl := reason_len (z : Int)
            have ht : tLen.length = 14 := rfl
            have hcl : tCtype.length = 30 := rfl
            have hsl : tStart.length = 9 := rfl
            have s1 := sadd [72, 84, 84, 80, 47, 49, 46, 49, 32] d3 (tStart ++ d3) rfl (by simp) (by omega)
            have s2 := sadd (tStart ++ d3) [32] (tStart ++ d3 ++ [32]) rfl (by simp [hsl]; omega) (by simp)
            have s3 := sadd (tStart ++ d3 ++ [32]) (reasonF (z : Int)) (tStart ++ d3 ++ [32] ++ reasonF (z : Int)) rfl (by simp [hsl]; omega) (by omega)
            have s4 := sadd (tStart ++ d3 ++ [32] ++ reasonF (z : Int)) [13, 10] (tStart ++ d3 ++ [32] ++ reasonF (z : Int) ++ [13, 10]) rfl (by simp [hsl]; omega) (by simp)
            have s5 := sadd (tStart ++ d3 ++ [32] ++ reasonF (z : Int) ++ [13, 10]) [99, 111, 110, 116, 101, 110, 116, 45, 116, 121, 112, 101, 58, 32, 97, 112, 112, 108, 105, 99, 97, 116, 105, 111, 110, 47, 106, 115, 111, 110] (tStart ++ d3 ++ [32] ++ reasonF (z : Int) ++ [13, 10] ++ tCtype) rfl (by simp [hsl]; omega) (by simp)
            have s6 := sadd (tStart ++ d3 ++ [32] ++ reasonF (z : Int) ++ [13, 10] ++ tCtype) [13, 10] (tStart ++ d3 ++ [32] ++ reasonF (z : Int) ++ [13, 10] ++ tCtype ++ [13, 10]) rfl (by simp [hsl, hcl]; omega) (by simp)
            have s7 := sadd (tStart ++ d3 ++ [32] ++ reasonF (z : Int) ++ [13, 10] ++ tCtype ++ [13, 10]) [99, 111, 110, 116, 101, 110, 116, 45, 108, 101, 110, 103, 116, 104, 58, 32] (tStart ++ (d3 ++ tMid z)) (by unfold tMid; simp only [List.append_assoc]; rfl) (by simp [hsl, hcl]; omega) (by simp)
            obtain ⟨S, hS⟩ : ∃ S, tStart ++ (d3 ++ tMid z) = S := ⟨_, rfl⟩
            have HS := Lib.hid hS
            have hSl : S.length ≤ 1000 := by rw [← hS]; unfold tMid; simp [hsl, hcl, ht]; omega
            have hS9 : 12 ≤ S.length := by rw [← hS]; unfold tMid; simp [hsl, hcl, ht]; omega
            rw [hS] at s7
            go_upto_region 12 with (fail)
            refine name_world ?_
            intro Wb hWb
            obtain ⟨rb, hrb⟩ : ∃ rb, w1.heap.size = rb := ⟨_, rfl⟩
            have RPB : Hid (RpS rb Wb 0 false) := Lib.hid (by
              rw [hWb, ← hrb]
              exact ⟨by simp [go_sem], by simp [go_sem], by simp [go_sem], by intro j; simp [go_sem], by simp⟩)
            have b1b : Below w1.heap.size w1 Wb := by rw [hWb]; exact (by repeat (first | exact Below.refl _ _ | refine Below.setCell ?_ (by first | (simp; done) | (simp; omega) | omega) _ | refine Below.alloc ?_ (by first | (simp; done) | (simp; omega) | omega) _ | refine Below.drew ?_ | assumption | refine Below.trans ?_ (Below.mono (by assumption) (by first | (simp; done) | (simp; omega) | omega))))
            have RSB := Lib.hid (RS1.out.call b1b)
            have HRB : Hid (w.heap.size + 1 ≤ rb) := Lib.hid (by rw [← hrb]; exact RS1.out.hs)
            rw [hrb]
            clear hWb b1b hrb a01 a11 a21 fa1 hs1 bel1
            have bb := RSB.out.bel
            have hcv : (convert 22 9 (.slice (some ⟨b0, off0 + 9, none⟩) 3 (c - 9))).run Tryz.prog Wb = .ok (.string ⟨d3.toArray⟩) Wb := by
              have := conv_bs (((HT.out.below bb).drop 9 (by rw [HL.out]; omega)).take 3)
              rw [HD3.out, p3] at this
              exact this
            clear p1 p2 p3 p4 p5 hz hd3 hlen9 hx0 ht hcl hsl hS hrl hzi
            have a0b := RSB.out.a0
            have a1b := RSB.out.a1
            have a2b := RSB.out.a2
            have fab := RSB.out.fa
            have hsb := RSB.out.hs
            have belb := RSB.out.bel
            have r0b := RPB.out.r0
            have r1b := RPB.out.r1
            have r2b := RPB.out.r2
            have frb := RPB.out.fr
            have AI3 := Lib.hid AI3
            generalize (⟨(tStart ++ d3).toArray⟩ : ByteArray) = S1 at *
            generalize (⟨(tStart ++ d3 ++ [32]).toArray⟩ : ByteArray) = S2 at *
            generalize (⟨(tStart ++ d3 ++ [32] ++ reasonF (z : Int)).toArray⟩ : ByteArray) = S3 at *
            generalize (⟨(tStart ++ d3 ++ [32] ++ reasonF (z : Int) ++ [13, 10]).toArray⟩ : ByteArray) = S4 at *
            generalize (⟨(tStart ++ d3 ++ [32] ++ reasonF (z : Int) ++ [13, 10] ++ tCtype).toArray⟩ : ByteArray) = S5 at *
            generalize (⟨(tStart ++ d3 ++ [32] ++ reasonF (z : Int) ++ [13, 10] ++ tCtype ++ [13, 10]).toArray⟩ : ByteArray) = S6 at *
            generalize (⟨(reasonF (z : Int)).toArray⟩ : ByteArray) = RZ at *
            generalize (⟨d3.toArray⟩ : ByteArray) = DD at *
            go_wp2_with (first | (go_at_call 46; (with_reducible refine (AI3.out _).mono ?_); rintro e w3 ⟨rfl, hb3⟩; have RS3 := Lib.hid (RSB.out.call hb3); have RP3 := Lib.hid (RPB.out.call hb3); have a03 := RS3.out.a0; have a13 := RS3.out.a1; have a23 := RS3.out.a2; have fa3 := RS3.out.fa; have hs3 := RS3.out.hs; have bel3 := RS3.out.bel; have r03 := RP3.out.r0; have r13 := RP3.out.r1; have r23 := RP3.out.r2; have fr3 := RP3.out.fr))
            refine name_world ?_
            intro Wc hWc
            have RPC0 : Hid (RpS rb Wc (z : Int) false) := Lib.hid (by
              rw [hWc]
              exact ⟨by simp [go_sem, *, cell_set_self], by simp [go_sem, *], by simp [go_sem, *], by intro j; simpa [go_sem] using fr3 j, by simpa using RP3.out.hs⟩)
            have RSC0 : Hid (ResS w Wc) := Lib.hid (by
              have hr : w.heap.size + 1 ≤ rb := HRB.out
              have k0 : ¬ rb = w.heap.size := by omega
              have k1 : ¬ w.heap.size = rb := by omega
              rw [hWc]
              exact ⟨by simp [go_sem, *], by simp [go_sem, *], by simp [go_sem, *], by intro j; simpa [go_sem] using fa3 j, by simpa using RS3.out.hs, RS3.out.bel.setCell (by dsimp only; omega) _⟩)
            clear hWc a03 a13 a23 fa3 hs3 bel3 r03 r13 r23 fr3 a0b a1b a2b fab hsb belb r0b r1b r2b frb
            have c0r := RPC0.out.r0
            have hrz := RPC0.out.hs
            have HX1 : Hid (∀ b, begF l S = b → respR l = if b = false then .bad else if n ≤ S.length then .wait else if okN (spanT (l.drop S.length)) = false then .bad else (closeR (spanD (l.drop S.length))).bind fun cl r => if r.length < dv (spanT (l.drop S.length)) then .wait else .got (z, cl, dv (spanT (l.drop S.length))) r) := Lib.hid fun b hb => by
              unfold respR
              rw [if_neg (by rw [HB0.out]; decide), if_neg (by rw [HP3.out]; decide), if_neg (by rw [HL.out]; exact H12.out), HD3.out, HZ.out, HS.out, HL.out, hb]
            go_wp2_with (fail)
            go_region_held3 (fun w' => w'.cell? ⟨rb, 0, none⟩ = some (.int .i64 (z : Int)) ∧ rb < w'.heap.size ∧ Below Wc.heap.size Wc w')
      (first | (refine ⟨?_, ?_, ?_⟩ <;> first | (simp [go_sem, *]; done) | omega | (simp; omega) | exact (by repeat (first | exact Below.refl _ _ | refine Below.setCell ?_ (by first | (simp; done) | (simp; omega) | omega) _ | refine Below.alloc ?_ (by first | (simp; done) | (simp; omega) | omega) _ | refine Below.drew ?_ | assumption | refine Below.trans ?_ (Below.mono (by assumption) (by first | (simp; done) | (simp; omega) | omega))))))
      (first | (first | (go_at_call 16; refine (HBO.out _).mono ?_; rintro e w5 ⟨⟨s5, A5, n5, c5, rfl, hP5⟩, hb5⟩; obtain ⟨hc5, hf5⟩ := bcell hb5; (try simp only [drew_size, drew_cell, drew_frozen] at hc5 hf5); have hs5 := hb5.size; (try simp at hs5); have hz5 : rb < w5.heap.size := (by have := hb5.size; (try simp at this); omega); have HP5 := Lib.hid hP5; clear hP5) | (go_at_call 15; refine (HBT.out _ _ _ _ _ ((HP5.out.mono (Nat.zero_le _)).below (by repeat (first | exact Below.refl _ _ | refine Below.setCell ?_ (by first | (simp; done) | (simp; omega) | omega) _ | refine Below.alloc ?_ (by first | (simp; done) | (simp; omega) | omega) _ | refine Below.drew ?_ | assumption | refine Below.trans ?_ (Below.mono (by assumption) (by first | (simp; done) | (simp; omega) | omega)))))).mono ?_; rintro e w6 ⟨rfl, hb6⟩; obtain ⟨hc6, hf6⟩ := bcell hb6; (try simp only [drew_size, drew_cell, drew_frozen] at hc6 hf6); have hs6 := hb6.size; (try simp at hs6); have hz6 : rb < w6.heap.size := by have := hb6.size; (try simp at this); omega) | (go_at_call 26; refine (HRE.out _).mono ?_; rintro e w7 ⟨rfl, hb7⟩; obtain ⟨hc7, hf7⟩ := bcell hb7; (try simp only [drew_size, drew_cell, drew_frozen] at hc7 hf7); have hs7 := hb7.size; (try simp at hs7); have hz7 : rb < w7.heap.size := by have := hb7.size; (try simp at this); omega)))
            refine name_q ?_
            intro Wd hWd
            have bcd : Below Wc.heap.size Wc Wd := by rw [hWd]; exact (by repeat (first | exact Below.refl _ _ | refine Below.setCell ?_ (by first | (simp; done) | (simp; omega) | omega) _ | refine Below.alloc ?_ (by first | (simp; done) | (simp; omega) | omega) _ | refine Below.drew ?_ | assumption | refine Below.trans ?_ (Below.mono (by assumption) (by first | (simp; done) | (simp; omega) | omega))))
            have RSC := Lib.hid (RSC0.out.call bcd)
            have RPC := Lib.hid (RPC0.out.call bcd)
            have bc := RSC.out.bel
            clear hWd bcd c0r hrz hcv bb
            have BGS1 := fun W hb => BG.out S (by omega) W hb
            have hSz : (⟨S.toArray⟩ : ByteArray).size = S.length := ba_sz S
            have a0c := RSC.out.a0
            have a1c := RSC.out.a1
            have a2c := RSC.out.a2
            have fac := RSC.out.fa
            have hsc := RSC.out.hs
            have belc := RSC.out.bel
            have r0c := RPC.out.r0
            have r1c := RPC.out.r1
            have r2c := RPC.out.r2
            have frc := RPC.out.fr

            cases hbS : begF l S with
            | false =>
              have HX : Hid (respF l = .bad) := Lib.hid (by rw [← RR.out, HX1.out _ hbS, if_pos rfl])
              rw [hbS] at BGS1
              have BGS := Lib.hid BGS1
              clear hbS BGS1
              go_wp2_with (first | (go_at_call 51; (with_reducible refine (BGS.out _ bc).mono ?_); rintro e wd ⟨rfl, hbd⟩; have RSD := Lib.hid (RSC.out.call hbd); have RPD := Lib.hid (RPC.out.call hbd); have a0d := RSD.out.a0; have a1d := RSD.out.a1; have a2d := RSD.out.a2; have fad := RSD.out.fa; have hsd := RSD.out.hs; have beld := RSD.out.bel; have r0d := RPD.out.r0; have r1d := RPD.out.r1; have r2d := RPD.out.r2; have frd := RPD.out.fr))
              exact bodyPost_ret (v := .tuple #[.agg #[.int .i64 0, .slice none 0 0, .bool false], .int .i64 0, .bool false, .int .i64 10]) (by simp [results, Tryz.results30, go_sem, *]) rfl (HQQ.out _ _ ⟨by unfold RespO; rw [HX.out]; rfl, (by repeat (first | exact Below.refl _ _ | refine Below.setCell ?_ (by first | (simp; done) | (simp; omega) | omega) _ | refine Below.alloc ?_ (by first | (simp; done) | (simp; omega) | omega) _ | refine Below.drew ?_ | assumption | refine Below.trans ?_ (Below.mono (by assumption) (by first | (simp; done) | (simp; omega) | omega))))⟩)
            | true =>
              have HX : Hid (respF l = .wait) := Lib.hid (by rw [← RR.out, HX1.out _ hbS, if_neg (by decide), if_pos (by rw [HN12.out]; exact hS9)])
              rw [hbS] at BGS1
              have BGS := Lib.hid BGS1
              have hle : (n : Int) ≤ ((⟨S.toArray⟩ : ByteArray).size : Int) := by have := HN12.out; omega
              clear hbS BGS1
              generalize (⟨S.toArray⟩ : ByteArray) = SB at *
              go_wp2_with (first | (go_at_call 51; (with_reducible refine (BGS.out _ bc).mono ?_); rintro e wd ⟨rfl, hbd⟩; have RSD := Lib.hid (RSC.out.call hbd); have RPD := Lib.hid (RPC.out.call hbd); have a0d := RSD.out.a0; have a1d := RSD.out.a1; have a2d := RSD.out.a2; have fad := RSD.out.fa; have hsd := RSD.out.hs; have beld := RSD.out.bel; have r0d := RPD.out.r0; have r1d := RPD.out.r1; have r2d := RPD.out.r2; have frd := RPD.out.fr))
              exact bodyPost_ret (v := .tuple #[.agg #[.int .i64 0, .slice none 0 0, .bool false], .int .i64 0, .bool false, .int .i64 0]) (by simp [results, Tryz.results30, go_sem, *]) rfl (HQQ.out _ _ ⟨by unfold RespO; rw [HX.out]; rfl, (by repeat (first | exact Below.refl _ _ | refine Below.setCell ?_ (by first | (simp; done) | (simp; omega) | omega) _ | refine Below.alloc ?_ (by first | (simp; done) | (simp; omega) | omega) _ | refine Below.drew ?_ | assumption | refine Below.trans ?_ (Below.mono (by assumption) (by first | (simp; done) | (simp; omega) | omega))))⟩)
          · have hlt : (12 : Int) < (n : Int) := by omega
            clear hn12
            have H12 := Lib.hid (show ¬ n < 12 by omega)
            have hlen9 : 3 ≤ (l.drop 9).length := by rw [List.length_drop, HL.out]; omega
            obtain ⟨p1, p2, p3, p4, p5⟩ := pre3_num HP3.out hlen9
            obtain ⟨d3, hd3⟩ : ∃ d3, (l.drop 9).take 3 = d3 := ⟨_, rfl⟩
            rw [hd3] at p1 p2 p3 p4 p5
            have HD3 := Lib.hid hd3
            obtain ⟨z, hz⟩ : ∃ z, dv d3 = z := ⟨_, rfl⟩
            rw [hz] at p4 p5
            have HZ := Lib.hid hz
            have AI3 := fun W => atoi_plain d3 p1 (by omega) W
            rw [show valN 0 d3 = (z : Int) by unfold valN; rw [hz, if_pos (by omega)], show fitsN d3 = true by unfold fitsN; rw [hz]; exact decide_eq_true (by omega)] at AI3
            obtain ⟨x0, hx0⟩ : ∃ x, l[0]? = some x := ⟨_, List.getElem?_eq_getElem (by rw [HL.out]; omega)⟩
            obtain ⟨b0, off0, hA0, -, -⟩ := HT.out.2.2 0 x0 hx0
            subst hA0
            have hc9 : ¬ (c : Int) - 9 = 0 := by omega
            have hc12 : (12 : Int) ≤ (c : Int) := by omega
            have hzi : In64 (z : Int) := by unfold In64; omega
            have HBO := Lib.hid (fun W => bigOf_any (z : Int) hzi W)
            have HBT := Lib.hid (fun W s A k c (P : Pt 0 W s A k c (z : Int)) => bigText_any s A k c (z : Int) (by rw [P.2.1]; exact dgs_len (k := 12) (Nat.lt_of_le_of_lt (in64_abs2 hzi) (by decide))) W P)
            have HRE := Lib.hid (fun W => rreason_any (z : Int) W)
            rw [show txt (z : Int) = d3 from p5] at HBT
            have hrl := reason_len (z : Int)
            have ht : tLen.length = 14 := rfl
            have hcl : tCtype.length = 30 := rfl
            have hsl : tStart.length = 9 := rfl
            have s1 := sadd [72, 84, 84, 80, 47, 49, 46, 49, 32] d3 (tStart ++ d3) rfl (by simp) (by omega)
            have s2 := sadd (tStart ++ d3) [32] (tStart ++ d3 ++ [32]) rfl (by simp [hsl]; omega) (by simp)
            have s3 := sadd (tStart ++ d3 ++ [32]) (reasonF (z : Int)) (tStart ++ d3 ++ [32] ++ reasonF (z : Int)) rfl (by simp [hsl]; omega) (by omega)
            have s4 := sadd (tStart ++ d3 ++ [32] ++ reasonF (z : Int)) [13, 10] (tStart ++ d3 ++ [32] ++ reasonF (z : Int) ++ [13, 10]) rfl (by simp [hsl]; omega) (by simp)
            have s5 := sadd (tStart ++ d3 ++ [32] ++ reasonF (z : Int) ++ [13, 10]) [99, 111, 110, 116, 101, 110, 116, 45, 116, 121, 112, 101, 58, 32, 97, 112, 112, 108, 105, 99, 97, 116, 105, 111, 110, 47, 106, 115, 111, 110] (tStart ++ d3 ++ [32] ++ reasonF (z : Int) ++ [13, 10] ++ tCtype) rfl (by simp [hsl]; omega) (by simp)
            have s6 := sadd (tStart ++ d3 ++ [32] ++ reasonF (z : Int) ++ [13, 10] ++ tCtype) [13, 10] (tStart ++ d3 ++ [32] ++ reasonF (z : Int) ++ [13, 10] ++ tCtype ++ [13, 10]) rfl (by simp [hsl, hcl]; omega) (by simp)
            have s7 := sadd (tStart ++ d3 ++ [32] ++ reasonF (z : Int) ++ [13, 10] ++ tCtype ++ [13, 10]) [99, 111, 110, 116, 101, 110, 116, 45, 108, 101, 110, 103, 116, 104, 58, 32] (tStart ++ (d3 ++ tMid z)) (by unfold tMid; simp only [List.append_assoc]; rfl) (by simp [hsl, hcl]; omega) (by simp)
            obtain ⟨S, hS⟩ : ∃ S, tStart ++ (d3 ++ tMid z) = S := ⟨_, rfl⟩
            have HS := Lib.hid hS
            have hSl : S.length ≤ 1000 := by rw [← hS]; unfold tMid; simp [hsl, hcl, ht]; omega
            have hS9 : 12 ≤ S.length := by rw [← hS]; unfold tMid; simp [hsl, hcl, ht]; omega
            rw [hS] at s7
            go_upto_region 12 with (fail)
            refine name_world ?_
            intro Wb hWb
            obtain ⟨rb, hrb⟩ : ∃ rb, w1.heap.size = rb := ⟨_, rfl⟩
            have RPB : Hid (RpS rb Wb 0 false) := Lib.hid (by
              rw [hWb, ← hrb]
              exact ⟨by simp [go_sem], by simp [go_sem], by simp [go_sem], by intro j; simp [go_sem], by simp⟩)
            have b1b : Below w1.heap.size w1 Wb := by rw [hWb]; exact (by repeat (first | exact Below.refl _ _ | refine Below.setCell ?_ (by first | (simp; done) | (simp; omega) | omega) _ | refine Below.alloc ?_ (by first | (simp; done) | (simp; omega) | omega) _ | refine Below.drew ?_ | assumption | refine Below.trans ?_ (Below.mono (by assumption) (by first | (simp; done) | (simp; omega) | omega))))
            have RSB := Lib.hid (RS1.out.call b1b)
            have HRB : Hid (w.heap.size + 1 ≤ rb) := Lib.hid (by rw [← hrb]; exact RS1.out.hs)
            rw [hrb]
            clear hWb b1b hrb a01 a11 a21 fa1 hs1 bel1
            have bb := RSB.out.bel
            have hcv : (convert 22 9 (.slice (some ⟨b0, off0 + 9, none⟩) 3 (c - 9))).run Tryz.prog Wb = .ok (.string ⟨d3.toArray⟩) Wb := by
              have := conv_bs (((HT.out.below bb).drop 9 (by rw [HL.out]; omega)).take 3)
              rw [HD3.out, p3] at this
              exact this
            clear p1 p2 p3 p4 p5 hz hd3 hlen9 hx0 ht hcl hsl hS hrl hzi
            have a0b := RSB.out.a0
            have a1b := RSB.out.a1
            have a2b := RSB.out.a2
            have fab := RSB.out.fa
            have hsb := RSB.out.hs
            have belb := RSB.out.bel
            have r0b := RPB.out.r0
            have r1b := RPB.out.r1
            have r2b := RPB.out.r2
            have frb := RPB.out.fr
            have AI3 := Lib.hid AI3
            generalize (⟨(tStart ++ d3).toArray⟩ : ByteArray) = S1 at *
            generalize (⟨(tStart ++ d3 ++ [32]).toArray⟩ : ByteArray) = S2 at *
            generalize (⟨(tStart ++ d3 ++ [32] ++ reasonF (z : Int)).toArray⟩ : ByteArray) = S3 at *
            generalize (⟨(tStart ++ d3 ++ [32] ++ reasonF (z : Int) ++ [13, 10]).toArray⟩ : ByteArray) = S4 at *
            generalize (⟨(tStart ++ d3 ++ [32] ++ reasonF (z : Int) ++ [13, 10] ++ tCtype).toArray⟩ : ByteArray) = S5 at *
            generalize (⟨(tStart ++ d3 ++ [32] ++ reasonF (z : Int) ++ [13, 10] ++ tCtype ++ [13, 10]).toArray⟩ : ByteArray) = S6 at *
            generalize (⟨(reasonF (z : Int)).toArray⟩ : ByteArray) = RZ at *
            generalize (⟨d3.toArray⟩ : ByteArray) = DD at *
            go_wp2_with (first | (go_at_call 46; (with_reducible refine (AI3.out _).mono ?_); rintro e w3 ⟨rfl, hb3⟩; have RS3 := Lib.hid (RSB.out.call hb3); have RP3 := Lib.hid (RPB.out.call hb3); have a03 := RS3.out.a0; have a13 := RS3.out.a1; have a23 := RS3.out.a2; have fa3 := RS3.out.fa; have hs3 := RS3.out.hs; have bel3 := RS3.out.bel; have r03 := RP3.out.r0; have r13 := RP3.out.r1; have r23 := RP3.out.r2; have fr3 := RP3.out.fr))
            refine name_world ?_
            intro Wc hWc
            have RPC0 : Hid (RpS rb Wc (z : Int) false) := Lib.hid (by
              rw [hWc]
              exact ⟨by simp [go_sem, *, cell_set_self], by simp [go_sem, *], by simp [go_sem, *], by intro j; simpa [go_sem] using fr3 j, by simpa using RP3.out.hs⟩)
            have RSC0 : Hid (ResS w Wc) := Lib.hid (by
              have hr : w.heap.size + 1 ≤ rb := HRB.out
              have k0 : ¬ rb = w.heap.size := by omega
              have k1 : ¬ w.heap.size = rb := by omega
              rw [hWc]
              exact ⟨by simp [go_sem, *], by simp [go_sem, *], by simp [go_sem, *], by intro j; simpa [go_sem] using fa3 j, by simpa using RS3.out.hs, RS3.out.bel.setCell (by dsimp only; omega) _⟩)
            clear hWc a03 a13 a23 fa3 hs3 bel3 r03 r13 r23 fr3 a0b a1b a2b fab hsb belb r0b r1b r2b frb
            have c0r := RPC0.out.r0
            have hrz := RPC0.out.hs
            have HX1 : Hid (∀ b, begF l S = b → respR l = if b = false then .bad else if n ≤ S.length then .wait else if okN (spanT (l.drop S.length)) = false then .bad else (closeR (spanD (l.drop S.length))).bind fun cl r => if r.length < dv (spanT (l.drop S.length)) then .wait else .got (z, cl, dv (spanT (l.drop S.length))) r) := Lib.hid fun b hb => by
              unfold respR
              rw [if_neg (by rw [HB0.out]; decide), if_neg (by rw [HP3.out]; decide), if_neg (by rw [HL.out]; exact H12.out), HD3.out, HZ.out, HS.out, HL.out, hb]
            go_wp2_with (fail)
            go_region_held3 (fun w' => w'.cell? ⟨rb, 0, none⟩ = some (.int .i64 (z : Int)) ∧ rb < w'.heap.size ∧ Below Wc.heap.size Wc w')
      (first | (refine ⟨?_, ?_, ?_⟩ <;> first | (simp [go_sem, *]; done) | omega | (simp; omega) | exact (by repeat (first | exact Below.refl _ _ | refine Below.setCell ?_ (by first | (simp; done) | (simp; omega) | omega) _ | refine Below.alloc ?_ (by first | (simp; done) | (simp; omega) | omega) _ | refine Below.drew ?_ | assumption | refine Below.trans ?_ (Below.mono (by assumption) (by first | (simp; done) | (simp; omega) | omega))))))
      (first | (first | (go_at_call 16; refine (HBO.out _).mono ?_; rintro e w5 ⟨⟨s5, A5, n5, c5, rfl, hP5⟩, hb5⟩; obtain ⟨hc5, hf5⟩ := bcell hb5; (try simp only [drew_size, drew_cell, drew_frozen] at hc5 hf5); have hs5 := hb5.size; (try simp at hs5); have hz5 : rb < w5.heap.size := (by have := hb5.size; (try simp at this); omega); have HP5 := Lib.hid hP5; clear hP5) | (go_at_call 15; refine (HBT.out _ _ _ _ _ ((HP5.out.mono (Nat.zero_le _)).below (by repeat (first | exact Below.refl _ _ | refine Below.setCell ?_ (by first | (simp; done) | (simp; omega) | omega) _ | refine Below.alloc ?_ (by first | (simp; done) | (simp; omega) | omega) _ | refine Below.drew ?_ | assumption | refine Below.trans ?_ (Below.mono (by assumption) (by first | (simp; done) | (simp; omega) | omega)))))).mono ?_; rintro e w6 ⟨rfl, hb6⟩; obtain ⟨hc6, hf6⟩ := bcell hb6; (try simp only [drew_size, drew_cell, drew_frozen] at hc6 hf6); have hs6 := hb6.size; (try simp at hs6); have hz6 : rb < w6.heap.size := by have := hb6.size; (try simp at this); omega) | (go_at_call 26; refine (HRE.out _).mono ?_; rintro e w7 ⟨rfl, hb7⟩; obtain ⟨hc7, hf7⟩ := bcell hb7; (try simp only [drew_size, drew_cell, drew_frozen] at hc7 hf7); have hs7 := hb7.size; (try simp at hs7); have hz7 : rb < w7.heap.size := by have := hb7.size; (try simp at this); omega)))
            refine name_q ?_
            intro Wd hWd
            have bcd : Below Wc.heap.size Wc Wd := by rw [hWd]; exact (by repeat (first | exact Below.refl _ _ | refine Below.setCell ?_ (by first | (simp; done) | (simp; omega) | omega) _ | refine Below.alloc ?_ (by first | (simp; done) | (simp; omega) | omega) _ | refine Below.drew ?_ | assumption | refine Below.trans ?_ (Below.mono (by assumption) (by first | (simp; done) | (simp; omega) | omega))))
            have RSC := Lib.hid (RSC0.out.call bcd)
            have RPC := Lib.hid (RPC0.out.call bcd)
            have bc := RSC.out.bel
            clear hWd bcd c0r hrz hcv bb
            have BGS1 := fun W hb => BG.out S (by omega) W hb
            have hSz : (⟨S.toArray⟩ : ByteArray).size = S.length := ba_sz S
            have a0c := RSC.out.a0
            have a1c := RSC.out.a1
            have a2c := RSC.out.a2
            have fac := RSC.out.fa
            have hsc := RSC.out.hs
            have belc := RSC.out.bel
            have r0c := RPC.out.r0
            have r1c := RPC.out.r1
            have r2c := RPC.out.r2
            have frc := RPC.out.fr

            cases hbS : begF l S with
            | false =>
              have HX : Hid (respF l = .bad) := Lib.hid (by rw [← RR.out, HX1.out _ hbS, if_pos rfl])
              rw [hbS] at BGS1
              have BGS := Lib.hid BGS1
              clear hbS BGS1
              go_wp2_with (first | (go_at_call 51; (with_reducible refine (BGS.out _ bc).mono ?_); rintro e wd ⟨rfl, hbd⟩; have RSD := Lib.hid (RSC.out.call hbd); have RPD := Lib.hid (RPC.out.call hbd); have a0d := RSD.out.a0; have a1d := RSD.out.a1; have a2d := RSD.out.a2; have fad := RSD.out.fa; have hsd := RSD.out.hs; have beld := RSD.out.bel; have r0d := RPD.out.r0; have r1d := RPD.out.r1; have r2d := RPD.out.r2; have frd := RPD.out.fr))
              exact bodyPost_ret (v := .tuple #[.agg #[.int .i64 0, .slice none 0 0, .bool false], .int .i64 0, .bool false, .int .i64 10]) (by simp [results, Tryz.results30, go_sem, *]) rfl (HQQ.out _ _ ⟨by unfold RespO; rw [HX.out]; rfl, (by repeat (first | exact Below.refl _ _ | refine Below.setCell ?_ (by first | (simp; done) | (simp; omega) | omega) _ | refine Below.alloc ?_ (by first | (simp; done) | (simp; omega) | omega) _ | refine Below.drew ?_ | assumption | refine Below.trans ?_ (Below.mono (by assumption) (by first | (simp; done) | (simp; omega) | omega))))⟩)
            | true =>
              have HSL := Lib.hid hSz
              by_cases hleN : n ≤ S.length
              · have HX : Hid (respF l = .wait) := Lib.hid (by rw [← RR.out, HX1.out _ hbS, if_neg (by decide), if_pos hleN])
                rw [hbS] at BGS1
                have BGS := Lib.hid BGS1
                have hle : (n : Int) ≤ ((⟨S.toArray⟩ : ByteArray).size : Int) := by omega
                clear hbS BGS1 hleN hSz
                generalize (⟨S.toArray⟩ : ByteArray) = SB at *
                go_wp2_with (first | (go_at_call 51; (with_reducible refine (BGS.out _ bc).mono ?_); rintro e wd ⟨rfl, hbd⟩; have RSD := Lib.hid (RSC.out.call hbd); have RPD := Lib.hid (RPC.out.call hbd); have a0d := RSD.out.a0; have a1d := RSD.out.a1; have a2d := RSD.out.a2; have fad := RSD.out.fa; have hsd := RSD.out.hs; have beld := RSD.out.bel; have r0d := RPD.out.r0; have r1d := RPD.out.r1; have r2d := RPD.out.r2; have frd := RPD.out.fr))
                exact bodyPost_ret (v := .tuple #[.agg #[.int .i64 0, .slice none 0 0, .bool false], .int .i64 0, .bool false, .int .i64 0]) (by simp [results, Tryz.results30, go_sem, *]) rfl (HQQ.out _ _ ⟨by unfold RespO; rw [HX.out]; rfl, (by repeat (first | exact Below.refl _ _ | refine Below.setCell ?_ (by first | (simp; done) | (simp; omega) | omega) _ | refine Below.alloc ?_ (by first | (simp; done) | (simp; omega) | omega) _ | refine Below.drew ?_ | assumption | refine Below.trans ?_ (Below.mono (by assumption) (by first | (simp; done) | (simp; omega) | omega))))⟩)
              · have HX2 : Hid (respR l = if okN (spanT (l.drop S.length)) = false then .bad else (closeR (spanD (l.drop S.length))).bind fun cl r => if r.length < dv (spanT (l.drop S.length)) then .wait else .got (z, cl, dv (spanT (l.drop S.length))) r) := Lib.hid (by rw [HX1.out _ hbS, if_neg (by decide), if_neg hleN])
                rw [hbS] at BGS1
                have BGS := Lib.hid BGS1
                have hle : ¬ (n : Int) ≤ ((⟨S.toArray⟩ : ByteArray).size : Int) := by omega
                rw [← hSz] at hleN
                have HS2 : Hid (S.length = (⟨S.toArray⟩ : ByteArray).size) := Lib.hid (by rw [hSz])
                clear hbS BGS1 hSz HSL
                generalize (⟨S.toArray⟩ : ByteArray) = SB at *
                obtain ⟨q, hq⟩ : ∃ q, l.drop S.length = q := ⟨_, rfl⟩
                rw [hq] at HX2
                have HQ := Lib.hid hq
                obtain ⟨d, hd⟩ : ∃ d, spanT q = d := ⟨_, rfl⟩
                rw [hd] at HX2
                have HD := Lib.hid hd
                have hql : q.length = n - SB.size := by rw [← hq, List.length_drop, HL.out, HS2.out]
                have hdl := span_le q
                rw [hd, hql] at hdl
                obtain ⟨m, hm⟩ : ∃ m, d.length = m := ⟨_, rfl⟩
                rw [hm] at hdl
                have HM := Lib.hid hm
                have QAT : Hid (∀ j x, l[SB.size + j]? = some x → q[j]? = some x) := Lib.hid fun j x h => by rw [← HQ.out, List.getElem?_drop, HS2.out]; exact h
                have hdd : DigB d := by rw [← hd]; exact spanT_dig q
                have HDD := Lib.hid hdd
                clear hq hd hm hdd hql
                go_wp2_with (first | (go_at_call 51; (with_reducible refine (BGS.out _ bc).mono ?_); rintro e wd ⟨rfl, hbd⟩; have RSD := Lib.hid (RSC.out.call hbd); have RPD := Lib.hid (RPC.out.call hbd); have a0d := RSD.out.a0; have a1d := RSD.out.a1; have a2d := RSD.out.a2; have fad := RSD.out.fa; have hsd := RSD.out.hs; have beld := RSD.out.bel; have r0d := RPD.out.r0; have r1d := RPD.out.r1; have r2d := RPD.out.r2; have frd := RPD.out.fr))
                go_loop [10] (fun at' => ∃ j : Nat, at' = .int .i64 ((SB.size + j : Nat) : Int) ∧ j ≤ m) (fun at' => SB.size + m - (intOf at').toNat)
                case atStart => exact ⟨0, rfl, by omega⟩
                case round =>
                  obtain ⟨j, rfl, hjm⟩ := hrel
                  obtain ⟨k, hk⟩ : ∃ k, SB.size + j = k := ⟨_, rfl⟩
                  rw [hk]
                  have HK := Lib.hid hk
                  by_cases hjlt : j < m
                  · have hkn : k < n := by omega
                    have hkn' : (k : Int) < (n : Int) := by omega
                    obtain ⟨x, hx⟩ : ∃ x, l[k]? = some x := ⟨_, List.getElem?_eq_getElem (by rw [HL.out]; exact hkn)⟩
                    obtain ⟨y, hy, hyd⟩ := span_inR (q := q) (j := j) (by rw [HD.out, HM.out]; exact hjlt)
                    have hxy := QAT.out j x (by rw [HK.out]; exact hx)
                    rw [hy] at hxy
                    injection hxy with hxy
                    subst hxy
                    obtain ⟨b9, off9, hA9, hbl9, e9⟩ := HT.out.2.2 k y hx
                    obtain ⟨rfl, rfl⟩ : b0 = b9 ∧ off0 = off9 := by simpa using hA9
                    have e1 := (RSD.out.bel.cell (p := ⟨b0, off0 + k, none⟩) hbl9).trans e9
                    have hz1 : b0 < wd.heap.size := Nat.lt_of_lt_of_le hbl9 RSD.out.bel.size
                    have DG2 := Lib.hid (fun W => rdigit_any y W)
                    rw [show digB y = true from hyd] at DG2
                    clear hx hy hyd hA9 e9 hk
                    generalize y.toNat = yy at *
                    go_wp2_with (first | (go_at_call 52; (with_reducible refine (DG2.out _).mono ?_); rintro e w2 ⟨rfl, rfl⟩))
                    go_roundw
                    case rel => exact ⟨j + 1, by have := HK.out; rw [show SB.size + (j + 1) = k + 1 by omega]; go_num, by omega⟩
                    case measure => (have hkk := HK.out; first | (simp [intOf]; done) | (simp [intOf]; omega))
                  · obtain rfl : j = m := by omega
                    have hcv2 : (convert 22 9 (.slice (some ⟨b0, off0 + SB.size, none⟩) (k - SB.size) (c - SB.size))).run Tryz.prog wd = .ok (.string ⟨d.toArray⟩) wd := by
                      have := conv_bs (((HT.out.below RSD.out.bel).drop SB.size (by rw [HL.out]; omega)).take (k - SB.size))
                      rw [← HS2.out, HQ.out, show (k - S.length) = d.length by have h1 := HM.out; have h2 := HS2.out; have h3 := HK.out; omega, ← HD.out, (span_takeR q).1, HD.out, HS2.out, HM.out] at this
                      rw [show k - SB.size = j by have h3 := HK.out; omega]
                      exact this
                    have hsc : ¬ (c : Int) - (SB.size : Int) = 0 := by omega
                    have hsk : (SB.size : Int) ≤ (k : Int) := by omega
                    have hkc : (k : Int) ≤ (c : Int) := by omega
                    have hTD : Hid (spanD q = l.drop k) := Lib.hid (by rw [← (span_takeR q).2, HD.out, HM.out, ← HQ.out, List.drop_drop, HS2.out, HK.out])
                    have FM1 := fun W => form_all d (by rw [HM.out]; omega) W
                    rw [dig_form HDD.out] at FM1
                    have HX3 := HX2.out
                    rw [hTD.out, okN_fits2] at HX3
                    have hkn2 : k ≤ n := by omega
                    have hK12 : 12 ≤ k := by have := HS2.out; omega
                    clear hjlt hk
                    obtain ⟨dg, dgK, hAI⟩ : ∃ (dg : Int) (dgK : Bool), (∀ W, Calls Tryz.prog 46 #[.string ⟨d.toArray⟩] W fun e w' => e = .returned (.tuple #[.int .i64 dg, .bool dgK]) ∧ Below W.heap.size W w') ∧ (numF d = true → dgK = fitsN d ∧ (fitsN d = true → dg = dv d)) := by
                      cases hnf : numF d with
                      | false => exact ⟨0, false, fun W => atoi_bad d (by rw [HM.out]; omega) (by rw [dig_form HDD.out]; exact hnf) W, fun h => by cases h⟩
                      | true => exact ⟨valN 0 d, fitsN d, fun W => atoi_plain d hnf (by rw [HM.out]; omega) W, fun _ => ⟨rfl, fun h => by unfold fitsN at h; unfold valN; rw [if_pos (by simpa using h)]⟩⟩
                    obtain ⟨AI1, hAI2⟩ := hAI
                    have AI := Lib.hid AI1
                    clear AI1
                    -- the test of the loop: at the end of the bytes, or at another byte
                    by_cases hend : k = n
                    · have hkn' : ¬ (k : Int) < (n : Int) := by omega
                      have ht0 : l.drop k = [] := List.drop_of_length_le (by rw [HL.out, hend]; exact Nat.le_refl _)
                      rw [ht0] at HX3
                      have hnk0 : (n : Int) - (k : Int) = 0 := by omega
                      cases hnf : numF d with
                      | false =>
                        rw [hnf] at FM1 HX3
                        rw [Bool.false_and] at HX3
                        have FM := Lib.hid FM1
                        have HX : Hid (respF l = .bad) := Lib.hid (by rw [← RR.out, HX3, if_pos rfl])
                        clear hnf FM1 HX3 hAI2 hend
                        generalize (⟨d.toArray⟩ : ByteArray) = DD2 at *
                        go_wp2_with (first | (go_at_call 45; (with_reducible refine (FM.out _).mono ?_); rintro e w4 ⟨rfl, hb4⟩) | (go_at_call 46; (with_reducible refine (AI.out _).mono ?_); rintro e we ⟨rfl, hb5⟩; have RSE := Lib.hid ((RSD.out.call hb4).call hb5); have RPE := Lib.hid ((RPD.out.call hb4).call hb5); have a0e := RSE.out.a0; have a1e := RSE.out.a1; have a2e := RSE.out.a2; have fae := RSE.out.fa; have hse := RSE.out.hs; have bele := RSE.out.bel; have r0e := RPE.out.r0; have r1e := RPE.out.r1; have r2e := RPE.out.r2; have fre := RPE.out.fr))
                        exact bodyPost_ret (v := .tuple #[.agg #[.int .i64 0, .slice none 0 0, .bool false], .int .i64 0, .bool false, .int .i64 10]) (by simp [results, Tryz.results30, go_sem, *]) rfl (HQQ.out _ _ ⟨by unfold RespO; rw [HX.out]; rfl, (by repeat (first | exact Below.refl _ _ | refine Below.setCell ?_ (by first | (simp; done) | (simp; omega) | omega) _ | refine Below.alloc ?_ (by first | (simp; done) | (simp; omega) | omega) _ | refine Below.drew ?_ | assumption | refine Below.trans ?_ (Below.mono (by assumption) (by first | (simp; done) | (simp; omega) | omega))))⟩)
                      | true =>
                        obtain ⟨hA1, hA2⟩ := hAI2 hnf
                        rw [hnf, Bool.true_and] at HX3
                        rw [hnf] at FM1
                        have FM := Lib.hid FM1
                        cases hft : fitsN d with
                        | false =>
                          rw [hft] at hA1 HX3
                          subst hA1
                          have HX : Hid (respF l = .bad) := Lib.hid (by rw [← RR.out, HX3, if_pos rfl])
                          clear hnf FM1 HX3 hA2 hend hft hAI2
                          generalize (⟨d.toArray⟩ : ByteArray) = DD2 at *
                          go_wp2_with (first | (go_at_call 45; (with_reducible refine (FM.out _).mono ?_); rintro e w4 ⟨rfl, hb4⟩) | (go_at_call 46; (with_reducible refine (AI.out _).mono ?_); rintro e we ⟨rfl, hb5⟩; have RSE := Lib.hid ((RSD.out.call hb4).call hb5); have RPE := Lib.hid ((RPD.out.call hb4).call hb5); have a0e := RSE.out.a0; have a1e := RSE.out.a1; have a2e := RSE.out.a2; have fae := RSE.out.fa; have hse := RSE.out.hs; have bele := RSE.out.bel; have r0e := RPE.out.r0; have r1e := RPE.out.r1; have r2e := RPE.out.r2; have fre := RPE.out.fr))
                          exact bodyPost_ret (v := .tuple #[.agg #[.int .i64 0, .slice none 0 0, .bool false], .int .i64 0, .bool false, .int .i64 10]) (by simp [results, Tryz.results30, go_sem, *]) rfl (HQQ.out _ _ ⟨by unfold RespO; rw [HX.out]; rfl, (by repeat (first | exact Below.refl _ _ | refine Below.setCell ?_ (by first | (simp; done) | (simp; omega) | omega) _ | refine Below.alloc ?_ (by first | (simp; done) | (simp; omega) | omega) _ | refine Below.drew ?_ | assumption | refine Below.trans ?_ (Below.mono (by assumption) (by first | (simp; done) | (simp; omega) | omega))))⟩)
                        | true =>
                          rw [hft] at hA1 HX3
                          have hA3 := hA2 hft
                          subst hA1 hA3
                          rw [if_neg (by decide)] at HX3
                          have HX3 := Lib.hid HX3
                          obtain ⟨M, hM⟩ : ∃ M, dv d = M := ⟨_, rfl⟩
                          rw [hM] at HX3 AI
                          have hM63 : (M : Int) ≤ 9223372036854775807 := by unfold fitsN at hft; rw [hM] at hft; simp at hft; omega
                          have FM := Lib.hid FM1
                          clear hnf FM1 hft hA2 hend hM hAI2
                          generalize (⟨d.toArray⟩ : ByteArray) = DD2 at *
                          have HX : Hid (respF l = .wait) := Lib.hid (by rw [← RR.out, HX3.out, closeR_wait2 (by rfl) (by decide)]; rfl)
                          have BQ : ∀ s : List UInt8, s.length ≤ 1000000 → ∀ W, Below w.heap.size w W → Calls Tryz.prog 51 #[.slice (advA (some ⟨b0, off0, none⟩) c k) (n - k) (c - k), .string ⟨s.toArray⟩] W fun e w' => e = .returned (.bool (begF (l.drop k) s)) ∧ Below W.heap.size W w' := fun s hs W hb => begins_ref _ (n - k) (c - k) (l.drop k) (by rw [List.length_drop, HL.out]) (by omega) s hs W ((HT.out.below hb).adv k (by rw [HL.out]; exact hkn2))
                          have BPC := fun W hb => BQ [13, 10, 13, 10] (by decide) W hb
                          rw [ht0, show begF [] [13, 10, 13, 10] = true from rfl] at BPC
                          unfold advA at BPC
                          dsimp only [Option.map_some] at BPC
                          by_cases hcK : c = k
                          · have hcK' : (c : Int) - (k : Int) = 0 := by omega
                            rw [if_pos hcK] at BPC
                            have BPC := Lib.hid BPC
                            clear hcK BQ ht0
                            go_wp2_with (first | (go_at_call 45; (with_reducible refine (FM.out _).mono ?_); rintro e w4 ⟨rfl, hb4⟩) | (go_at_call 46; (with_reducible refine (AI.out _).mono ?_); rintro e we ⟨rfl, hb5⟩; have RSE := Lib.hid ((RSD.out.call hb4).call hb5); have RPE := Lib.hid ((RPD.out.call hb4).call hb5); have a0e := RSE.out.a0; have a1e := RSE.out.a1; have a2e := RSE.out.a2; have fae := RSE.out.fa; have hse := RSE.out.hs; have bele := RSE.out.bel; have r0e := RPE.out.r0; have r1e := RPE.out.r1; have r2e := RPE.out.r2; have fre := RPE.out.fr) | (go_at_call 51; (with_reducible refine (BPC.out _ (by assumption)).mono ?_); rintro e wf ⟨rfl, hbf⟩; have RSF := Lib.hid (ResS.call (by first | exact RSF.out | exact RSE.out) hbf); have RPF := Lib.hid (RpS.call (by first | exact RPF.out | exact RPE.out) hbf); clear hbf; have a0f := RSF.out.a0; have a1f := RSF.out.a1; have a2f := RSF.out.a2; have faf := RSF.out.fa; have hsf := RSF.out.hs; have belf := RSF.out.bel; have r0f := RPF.out.r0; have r1f := RPF.out.r1; have r2f := RPF.out.r2; have frf := RPF.out.fr))
                            exact bodyPost_ret (v := .tuple #[.agg #[.int .i64 0, .slice none 0 0, .bool false], .int .i64 0, .bool false, .int .i64 0]) (by simp [results, Tryz.results30, go_sem, *]) rfl (HQQ.out _ _ ⟨by unfold RespO; rw [HX.out]; rfl, (by repeat (first | exact Below.refl _ _ | refine Below.setCell ?_ (by first | (simp; done) | (simp; omega) | omega) _ | refine Below.alloc ?_ (by first | (simp; done) | (simp; omega) | omega) _ | refine Below.drew ?_ | assumption | refine Below.trans ?_ (Below.mono (by assumption) (by first | (simp; done) | (simp; omega) | omega))))⟩)
                          · have hcK' : ¬ (c : Int) - (k : Int) = 0 := by omega
                            rw [if_neg hcK, addr_off] at BPC
                            have BPC := Lib.hid BPC
                            clear hcK BQ ht0
                            go_wp2_with (first | (go_at_call 45; (with_reducible refine (FM.out _).mono ?_); rintro e w4 ⟨rfl, hb4⟩) | (go_at_call 46; (with_reducible refine (AI.out _).mono ?_); rintro e we ⟨rfl, hb5⟩; have RSE := Lib.hid ((RSD.out.call hb4).call hb5); have RPE := Lib.hid ((RPD.out.call hb4).call hb5); have a0e := RSE.out.a0; have a1e := RSE.out.a1; have a2e := RSE.out.a2; have fae := RSE.out.fa; have hse := RSE.out.hs; have bele := RSE.out.bel; have r0e := RPE.out.r0; have r1e := RPE.out.r1; have r2e := RPE.out.r2; have fre := RPE.out.fr) | (go_at_call 51; (with_reducible refine (BPC.out _ (by assumption)).mono ?_); rintro e wf ⟨rfl, hbf⟩; have RSF := Lib.hid (ResS.call (by first | exact RSF.out | exact RSE.out) hbf); have RPF := Lib.hid (RpS.call (by first | exact RPF.out | exact RPE.out) hbf); clear hbf; have a0f := RSF.out.a0; have a1f := RSF.out.a1; have a2f := RSF.out.a2; have faf := RSF.out.fa; have hsf := RSF.out.hs; have belf := RSF.out.bel; have r0f := RPF.out.r0; have r1f := RPF.out.r1; have r2f := RPF.out.r2; have frf := RPF.out.fr))
                            exact bodyPost_ret (v := .tuple #[.agg #[.int .i64 0, .slice none 0 0, .bool false], .int .i64 0, .bool false, .int .i64 0]) (by simp [results, Tryz.results30, go_sem, *]) rfl (HQQ.out _ _ ⟨by unfold RespO; rw [HX.out]; rfl, (by repeat (first | exact Below.refl _ _ | refine Below.setCell ?_ (by first | (simp; done) | (simp; omega) | omega) _ | refine Below.alloc ?_ (by first | (simp; done) | (simp; omega) | omega) _ | refine Below.drew ?_ | assumption | refine Below.trans ?_ (Below.mono (by assumption) (by first | (simp; done) | (simp; omega) | omega))))⟩)
                    · have hkn' : (k : Int) < (n : Int) := by omega
                      obtain ⟨x, hx⟩ : ∃ x, l[k]? = some x := ⟨_, List.getElem?_eq_getElem (by rw [HL.out]; omega)⟩
                      obtain ⟨b9, off9, hA9, hbl9, e9⟩ := HT.out.2.2 k x hx
                      obtain ⟨rfl, rfl⟩ : b0 = b9 ∧ off0 = off9 := by simpa using hA9
                      have e1 := (RSD.out.bel.cell (p := ⟨b0, off0 + k, none⟩) hbl9).trans e9
                      have hz1 : b0 < wd.heap.size := Nat.lt_of_lt_of_le hbl9 RSD.out.bel.size
                      have hxo := span_outR (q := q) (x := x) (by rw [HD.out, HM.out]; exact QAT.out j x (by rw [HK.out]; exact hx))
                      have DG2 := Lib.hid (fun W => rdigit_any x W)
                      rw [show digB x = false from hxo] at DG2
                      clear hx hxo hA9 e9
                      generalize x.toNat = xx at *
                      cases hnf : numF d with
                      | false =>
                        rw [hnf] at FM1 HX3
                        rw [Bool.false_and] at HX3
                        have FM := Lib.hid FM1
                        have HX : Hid (respF l = .bad) := Lib.hid (by rw [← RR.out, HX3, if_pos rfl])
                        clear hnf FM1 HX3 hAI2 hend
                        generalize (⟨d.toArray⟩ : ByteArray) = DD2 at *
                        go_wp2_with (first | (go_at_call 52; (with_reducible refine (DG2.out _).mono ?_); rintro e w2 ⟨rfl, rfl⟩) | (go_at_call 45; (with_reducible refine (FM.out _).mono ?_); rintro e w4 ⟨rfl, hb4⟩) | (go_at_call 46; (with_reducible refine (AI.out _).mono ?_); rintro e we ⟨rfl, hb5⟩; have RSE := Lib.hid ((RSD.out.call hb4).call hb5); have RPE := Lib.hid ((RPD.out.call hb4).call hb5); have a0e := RSE.out.a0; have a1e := RSE.out.a1; have a2e := RSE.out.a2; have fae := RSE.out.fa; have hse := RSE.out.hs; have bele := RSE.out.bel; have r0e := RPE.out.r0; have r1e := RPE.out.r1; have r2e := RPE.out.r2; have fre := RPE.out.fr))
                        exact bodyPost_ret (v := .tuple #[.agg #[.int .i64 0, .slice none 0 0, .bool false], .int .i64 0, .bool false, .int .i64 10]) (by simp [results, Tryz.results30, go_sem, *]) rfl (HQQ.out _ _ ⟨by unfold RespO; rw [HX.out]; rfl, (by repeat (first | exact Below.refl _ _ | refine Below.setCell ?_ (by first | (simp; done) | (simp; omega) | omega) _ | refine Below.alloc ?_ (by first | (simp; done) | (simp; omega) | omega) _ | refine Below.drew ?_ | assumption | refine Below.trans ?_ (Below.mono (by assumption) (by first | (simp; done) | (simp; omega) | omega))))⟩)
                      | true =>
                        obtain ⟨hA1, hA2⟩ := hAI2 hnf
                        rw [hnf, Bool.true_and] at HX3
                        rw [hnf] at FM1
                        have FM := Lib.hid FM1
                        cases hft : fitsN d with
                        | false =>
                          rw [hft] at hA1 HX3
                          subst hA1
                          have HX : Hid (respF l = .bad) := Lib.hid (by rw [← RR.out, HX3, if_pos rfl])
                          clear hnf FM1 HX3 hA2 hend hft hAI2
                          generalize (⟨d.toArray⟩ : ByteArray) = DD2 at *
                          go_wp2_with (first | (go_at_call 52; (with_reducible refine (DG2.out _).mono ?_); rintro e w2 ⟨rfl, rfl⟩) | (go_at_call 45; (with_reducible refine (FM.out _).mono ?_); rintro e w4 ⟨rfl, hb4⟩) | (go_at_call 46; (with_reducible refine (AI.out _).mono ?_); rintro e we ⟨rfl, hb5⟩; have RSE := Lib.hid ((RSD.out.call hb4).call hb5); have RPE := Lib.hid ((RPD.out.call hb4).call hb5); have a0e := RSE.out.a0; have a1e := RSE.out.a1; have a2e := RSE.out.a2; have fae := RSE.out.fa; have hse := RSE.out.hs; have bele := RSE.out.bel; have r0e := RPE.out.r0; have r1e := RPE.out.r1; have r2e := RPE.out.r2; have fre := RPE.out.fr))
                          exact bodyPost_ret (v := .tuple #[.agg #[.int .i64 0, .slice none 0 0, .bool false], .int .i64 0, .bool false, .int .i64 10]) (by simp [results, Tryz.results30, go_sem, *]) rfl (HQQ.out _ _ ⟨by unfold RespO; rw [HX.out]; rfl, (by repeat (first | exact Below.refl _ _ | refine Below.setCell ?_ (by first | (simp; done) | (simp; omega) | omega) _ | refine Below.alloc ?_ (by first | (simp; done) | (simp; omega) | omega) _ | refine Below.drew ?_ | assumption | refine Below.trans ?_ (Below.mono (by assumption) (by first | (simp; done) | (simp; omega) | omega))))⟩)
                        | true =>
                          rw [hft] at hA1 HX3
                          have hA3 := hA2 hft
                          subst hA1 hA3
                          rw [if_neg (by decide)] at HX3
                          have HX3 := Lib.hid HX3
                          obtain ⟨M, hM⟩ : ∃ M, dv d = M := ⟨_, rfl⟩
                          rw [hM] at HX3 AI
                          have hM63 : (M : Int) ≤ 9223372036854775807 := by unfold fitsN at hft; rw [hM] at hft; simp at hft; omega
                          have FM := Lib.hid FM1
                          clear hnf FM1 hft hA2 hend hM hAI2
                          generalize (⟨d.toArray⟩ : ByteArray) = DD2 at *
                          have BQ : ∀ s : List UInt8, s.length ≤ 1000000 → ∀ W, Below w.heap.size w W → Calls Tryz.prog 51 #[.slice (some ⟨b0, off0 + k, none⟩) (n - k) (c - k), .string ⟨s.toArray⟩] W fun e w' => e = .returned (.bool (begF (l.drop k) s)) ∧ Below W.heap.size W w' := fun s hs W hb => begins_ref _ (n - k) (c - k) (l.drop k) (by rw [List.length_drop, HL.out]) (by omega) s hs W ((HT.out.below hb).drop k (by rw [HL.out]; exact hkn2))
                          have hcK' : ¬ (c : Int) - (k : Int) = 0 := by omega
                          have BP1 := fun W hb => BQ tPlain (by decide) W hb
                          have BC1 := fun W hb => BQ tClosing (by decide) W hb
                          unfold tPlain at BP1
                          unfold tClosing closeLine tConn tClose at BC1
                          simp only [List.cons_append, List.nil_append] at BP1 BC1
                          have hdl9 : (l.drop k).length = n - k := by rw [List.length_drop, HL.out]
                          have HNK := Lib.hid hdl9
                          clear hdl9 BQ
                          cases hP : begF (l.drop k) tPlain with
                          | false =>
                            rw [show begF (l.drop k) [13, 10, 13, 10] = false from hP] at BP1
                            have BPC := Lib.hid BP1
                            cases hC : begF (l.drop k) tClosing with
                            | false =>
                              rw [show begF (l.drop k) [13, 10, 99, 111, 110, 110, 101, 99, 116, 105, 111, 110, 58, 32, 99, 108, 111, 115, 101, 13, 10, 13, 10] = false from hC] at BC1
                              have BCC := Lib.hid BC1
                              have HX : Hid (respF l = .bad) := Lib.hid (by rw [← RR.out, HX3.out, closeR_bad hP hC]; rfl)
                              clear hP hC BP1 BC1
                              go_wp2_with (first | (go_at_call 52; (with_reducible refine (DG2.out _).mono ?_); rintro e w2 ⟨rfl, rfl⟩) | (go_at_call 45; (with_reducible refine (FM.out _).mono ?_); rintro e w4 ⟨rfl, hb4⟩) | (go_at_call 46; (with_reducible refine (AI.out _).mono ?_); rintro e we ⟨rfl, hb5⟩; have RSE := Lib.hid ((RSD.out.call hb4).call hb5); have RPE := Lib.hid ((RPD.out.call hb4).call hb5); have a0e := RSE.out.a0; have a1e := RSE.out.a1; have a2e := RSE.out.a2; have fae := RSE.out.fa; have hse := RSE.out.hs; have bele := RSE.out.bel; have r0e := RPE.out.r0; have r1e := RPE.out.r1; have r2e := RPE.out.r2; have fre := RPE.out.fr) | (go_at_call 51; (with_reducible refine (BPC.out _ (by assumption)).mono ?_); rintro e wf ⟨rfl, hbf⟩; have RSF := Lib.hid (ResS.call (by first | exact RSF.out | exact RSE.out) hbf); have RPF := Lib.hid (RpS.call (by first | exact RPF.out | exact RPE.out) hbf); clear hbf; have a0f := RSF.out.a0; have a1f := RSF.out.a1; have a2f := RSF.out.a2; have faf := RSF.out.fa; have hsf := RSF.out.hs; have belf := RSF.out.bel; have r0f := RPF.out.r0; have r1f := RPF.out.r1; have r2f := RPF.out.r2; have frf := RPF.out.fr) | (go_at_call 51; (with_reducible refine (BCC.out _ (by assumption)).mono ?_); rintro e wf ⟨rfl, hbf⟩; have RSF := Lib.hid (ResS.call (by first | exact RSF.out | exact RSE.out) hbf); have RPF := Lib.hid (RpS.call (by first | exact RPF.out | exact RPE.out) hbf); clear hbf; have a0f := RSF.out.a0; have a1f := RSF.out.a1; have a2f := RSF.out.a2; have faf := RSF.out.fa; have hsf := RSF.out.hs; have belf := RSF.out.bel; have r0f := RPF.out.r0; have r1f := RPF.out.r1; have r2f := RPF.out.r2; have frf := RPF.out.fr))
                              exact bodyPost_ret (v := .tuple #[.agg #[.int .i64 0, .slice none 0 0, .bool false], .int .i64 0, .bool false, .int .i64 10]) (by simp [results, Tryz.results30, go_sem, *]) rfl (HQQ.out _ _ ⟨by unfold RespO; rw [HX.out]; rfl, (by repeat (first | exact Below.refl _ _ | refine Below.setCell ?_ (by first | (simp; done) | (simp; omega) | omega) _ | refine Below.alloc ?_ (by first | (simp; done) | (simp; omega) | omega) _ | refine Below.drew ?_ | assumption | refine Below.trans ?_ (Below.mono (by assumption) (by first | (simp; done) | (simp; omega) | omega))))⟩)
                            | true =>
                              rw [show begF (l.drop k) [13, 10, 99, 111, 110, 110, 101, 99, 116, 105, 111, 110, 58, 32, 99, 108, 111, 115, 101, 13, 10, 13, 10] = true from hC] at BC1
                              have BCC := Lib.hid BC1
                              by_cases h23 : 23 ≤ n - k
                              · have h23' : (23 : Int) ≤ (n : Int) - (k : Int) := by omega
                                have HX4 := HX3.out
                                rw [closeR_close hC (by rw [HNK.out]; exact h23), List.drop_drop] at HX4
                                clear hP hC BP1 BC1
                                obtain ⟨K4, hK4⟩ : ∃ K4, k + 23 = K4 := ⟨_, rfl⟩
                                rw [hK4] at HX4
                                have hk4 : (k : Int) + 23 = (K4 : Int) := by omega
                                have hrb1 : w.heap.size + 1 ≤ rb := HRB.out
                                have hrbn : ¬ rb = w.heap.size := by omega
                                have hrbm : ¬ w.heap.size = rb := by omega
                                have hK4n : K4 ≤ n := by omega
                                have HX5 : Hid (respR l = if n - K4 < M then .wait else .got (z, true, M) (l.drop K4)) := Lib.hid (by rw [HX4]; show (if (l.drop K4).length < M then Tk.wait else _) = _; rw [List.length_drop, HL.out])
                                clear hK4 HX4
                                by_cases hsh : n - K4 < M
                                · have hsh' : (n : Int) - (K4 : Int) < (M : Int) := by omega
                                  have HX : Hid (respF l = .wait) := Lib.hid (by rw [← RR.out, HX5.out, if_pos hsh])
                                  clear hsh
                                  go_wp2_with (first | (go_at_call 52; (with_reducible refine (DG2.out _).mono ?_); rintro e w2 ⟨rfl, rfl⟩) | (go_at_call 45; (with_reducible refine (FM.out _).mono ?_); rintro e w4 ⟨rfl, hb4⟩) | (go_at_call 46; (with_reducible refine (AI.out _).mono ?_); rintro e we ⟨rfl, hb5⟩; have RSE := Lib.hid ((RSD.out.call hb4).call hb5); have RPE := Lib.hid ((RPD.out.call hb4).call hb5); have a0e := RSE.out.a0; have a1e := RSE.out.a1; have a2e := RSE.out.a2; have fae := RSE.out.fa; have hse := RSE.out.hs; have bele := RSE.out.bel; have r0e := RPE.out.r0; have r1e := RPE.out.r1; have r2e := RPE.out.r2; have fre := RPE.out.fr) | (go_at_call 51; (with_reducible refine (BPC.out _ (by assumption)).mono ?_); rintro e wf ⟨rfl, hbf⟩; have RSF := Lib.hid (ResS.call (by first | exact RSF.out | exact RSE.out) hbf); have RPF := Lib.hid (RpS.call (by first | exact RPF.out | exact RPE.out) hbf); clear hbf; have a0f := RSF.out.a0; have a1f := RSF.out.a1; have a2f := RSF.out.a2; have faf := RSF.out.fa; have hsf := RSF.out.hs; have belf := RSF.out.bel; have r0f := RPF.out.r0; have r1f := RPF.out.r1; have r2f := RPF.out.r2; have frf := RPF.out.fr) | (go_at_call 51; (with_reducible refine (BCC.out _ (by assumption)).mono ?_); rintro e wf ⟨rfl, hbf⟩; have RSF := Lib.hid (ResS.call (by first | exact RSF.out | exact RSE.out) hbf); have RPF := Lib.hid (RpS.call (by first | exact RPF.out | exact RPE.out) hbf); clear hbf; have a0f := RSF.out.a0; have a1f := RSF.out.a1; have a2f := RSF.out.a2; have faf := RSF.out.fa; have hsf := RSF.out.hs; have belf := RSF.out.bel; have r0f := RPF.out.r0; have r1f := RPF.out.r1; have r2f := RPF.out.r2; have frf := RPF.out.fr))
                                  exact bodyPost_ret (v := .tuple #[.agg #[.int .i64 0, .slice none 0 0, .bool false], .int .i64 0, .bool false, .int .i64 0]) (by simp [results, Tryz.results30, go_sem, *]) rfl (HQQ.out _ _ ⟨by unfold RespO; rw [HX.out]; rfl, (by repeat (first | exact Below.refl _ _ | refine Below.setCell ?_ (by first | (simp; done) | (simp; omega) | omega) _ | refine Below.alloc ?_ (by first | (simp; done) | (simp; omega) | omega) _ | refine Below.drew ?_ | assumption | refine Below.trans ?_ (Below.mono (by assumption) (by first | (simp; done) | (simp; omega) | omega))))⟩)
                                · have hsh' : ¬ (n : Int) - (K4 : Int) < (M : Int) := by omega
                                  have HX : Hid (respF l = .got (z, true, M) (l.drop K4)) := Lib.hid (by rw [← RR.out, HX5.out, if_neg hsh])
                                  have hg1 : (K4 : Int) ≤ (K4 : Int) + (M : Int) := by omega
                                  have hg2 : (K4 : Int) + (M : Int) ≤ (c : Int) := by omega
                                  have hg3 : (K4 : Int) + (M : Int) - (K4 : Int) = (M : Int) := by omega
                                  have HEQ : Hid (((l.length - (l.drop K4).length + M : Nat) : Int) = (K4 : Int) + (M : Int)) := Lib.hid (by rw [List.length_drop, HL.out]; omega)
                                  have BY1 : ∀ W, Below w.heap.size w W → Calls Tryz.prog 33 #[.slice (advA (some ⟨b0, off0, none⟩) c K4) M (c - K4)] W fun e w' => (∃ A' c', e = .returned (.slice A' M c') ∧ BsN W.heap.size w' A' c' ((l.drop K4).take M)) ∧ Below W.heap.size W w' := fun W hb => bytes_any (advA (some ⟨b0, off0, none⟩) c K4) M (c - K4) ((l.drop K4).take M) (by rw [List.length_take, List.length_drop, HL.out]; omega) (by omega) W (((HT.out.below hb).adv K4 (by rw [HL.out]; exact hK4n)).take M)
                                  unfold advA at BY1
                                  dsimp only [Option.map_some] at BY1
                                  by_cases hcK4 : c = K4
                                  · have hcK4' : (c : Int) - (K4 : Int) = 0 := by omega
                                    rw [if_pos hcK4] at BY1
                                    have BY := Lib.hid BY1
                                    clear BY1 hcK4 hsh
                                    go_wp2_with (first | (go_at_call 52; (with_reducible refine (DG2.out _).mono ?_); rintro e w2 ⟨rfl, rfl⟩) | (go_at_call 45; (with_reducible refine (FM.out _).mono ?_); rintro e w4 ⟨rfl, hb4⟩) | (go_at_call 46; (with_reducible refine (AI.out _).mono ?_); rintro e we ⟨rfl, hb5⟩; have RSE := Lib.hid ((RSD.out.call hb4).call hb5); have RPE := Lib.hid ((RPD.out.call hb4).call hb5); have a0e := RSE.out.a0; have a1e := RSE.out.a1; have a2e := RSE.out.a2; have fae := RSE.out.fa; have hse := RSE.out.hs; have bele := RSE.out.bel; have r0e := RPE.out.r0; have r1e := RPE.out.r1; have r2e := RPE.out.r2; have fre := RPE.out.fr) | (go_at_call 51; (with_reducible refine (BPC.out _ (by assumption)).mono ?_); rintro e wf ⟨rfl, hbf⟩; have RSF := Lib.hid (ResS.call (by first | exact RSF.out | exact RSE.out) hbf); have RPF := Lib.hid (RpS.call (by first | exact RPF.out | exact RPE.out) hbf); clear hbf; have a0f := RSF.out.a0; have a1f := RSF.out.a1; have a2f := RSF.out.a2; have faf := RSF.out.fa; have hsf := RSF.out.hs; have belf := RSF.out.bel; have r0f := RPF.out.r0; have r1f := RPF.out.r1; have r2f := RPF.out.r2; have frf := RPF.out.fr) | (go_at_call 51; (with_reducible refine (BCC.out _ (by assumption)).mono ?_); rintro e wf ⟨rfl, hbf⟩; have RSF := Lib.hid (ResS.call (by first | exact RSF.out | exact RSE.out) hbf); have RPF := Lib.hid (RpS.call (by first | exact RPF.out | exact RPE.out) hbf); clear hbf; have a0f := RSF.out.a0; have a1f := RSF.out.a1; have a2f := RSF.out.a2; have faf := RSF.out.fa; have hsf := RSF.out.hs; have belf := RSF.out.bel; have r0f := RPF.out.r0; have r1f := RPF.out.r1; have r2f := RPF.out.r2; have frf := RPF.out.fr) | (go_at_call 33; (with_reducible refine (BY.out _ ((RSF.out.set (j := 2) HRB.out (.bool true))).bel).mono ?_); rintro e wg ⟨⟨A11, c11, rfl, T11⟩, hbg⟩; have HT11 := Lib.hid T11; have RSG := Lib.hid (ResS.call (RSF.out.set (j := 2) HRB.out (.bool true)) hbg); have RPG := Lib.hid (RpS.call RPF.out.close hbg); have hzg := ((RSF.out.set (j := 2) HRB.out (.bool true))).hs; have hrg := (RPF.out.close).hs; have a0g := RSG.out.a0; have a1g := RSG.out.a1; have a2g := RSG.out.a2; have fag := RSG.out.fa; have hsg := RSG.out.hs; have belg := RSG.out.bel; have r0g := RPG.out.r0; have r1g := RPG.out.r1; have r2g := RPG.out.r2; have frg := RPG.out.fr; clear T11))
                                    exact bodyPost_ret (v := .tuple #[.agg #[.int .i64 (z : Int), .slice A11 M c11, .bool true], .int .i64 ((K4 : Int) + (M : Int)), .bool true, .int .i64 0]) (by simp [results, Tryz.results30, go_sem, *]) rfl (HQQ.out _ _ ⟨by unfold RespO; rw [HX.out]; exact ⟨A11, c11, by rw [HEQ.out]; rfl, bs_farR HT11.out hzg hrg, fun a ha => Nat.le_trans (Nat.le_of_succ_le hzg) (HT11.out.2 a ha)⟩, (by repeat (first | exact Below.refl _ _ | refine Below.setCell ?_ (by first | (simp; done) | (simp; omega) | omega) _ | refine Below.alloc ?_ (by first | (simp; done) | (simp; omega) | omega) _ | refine Below.drew ?_ | assumption | refine Below.trans ?_ (Below.mono (by assumption) (by first | (simp; done) | (simp; omega) | omega))))⟩)
                                  · have hcK4' : ¬ (c : Int) - (K4 : Int) = 0 := by omega
                                    rw [if_neg hcK4, addr_off] at BY1
                                    have BY := Lib.hid BY1
                                    clear BY1 hcK4 hsh
                                    go_wp2_with (first | (go_at_call 52; (with_reducible refine (DG2.out _).mono ?_); rintro e w2 ⟨rfl, rfl⟩) | (go_at_call 45; (with_reducible refine (FM.out _).mono ?_); rintro e w4 ⟨rfl, hb4⟩) | (go_at_call 46; (with_reducible refine (AI.out _).mono ?_); rintro e we ⟨rfl, hb5⟩; have RSE := Lib.hid ((RSD.out.call hb4).call hb5); have RPE := Lib.hid ((RPD.out.call hb4).call hb5); have a0e := RSE.out.a0; have a1e := RSE.out.a1; have a2e := RSE.out.a2; have fae := RSE.out.fa; have hse := RSE.out.hs; have bele := RSE.out.bel; have r0e := RPE.out.r0; have r1e := RPE.out.r1; have r2e := RPE.out.r2; have fre := RPE.out.fr) | (go_at_call 51; (with_reducible refine (BPC.out _ (by assumption)).mono ?_); rintro e wf ⟨rfl, hbf⟩; have RSF := Lib.hid (ResS.call (by first | exact RSF.out | exact RSE.out) hbf); have RPF := Lib.hid (RpS.call (by first | exact RPF.out | exact RPE.out) hbf); clear hbf; have a0f := RSF.out.a0; have a1f := RSF.out.a1; have a2f := RSF.out.a2; have faf := RSF.out.fa; have hsf := RSF.out.hs; have belf := RSF.out.bel; have r0f := RPF.out.r0; have r1f := RPF.out.r1; have r2f := RPF.out.r2; have frf := RPF.out.fr) | (go_at_call 51; (with_reducible refine (BCC.out _ (by assumption)).mono ?_); rintro e wf ⟨rfl, hbf⟩; have RSF := Lib.hid (ResS.call (by first | exact RSF.out | exact RSE.out) hbf); have RPF := Lib.hid (RpS.call (by first | exact RPF.out | exact RPE.out) hbf); clear hbf; have a0f := RSF.out.a0; have a1f := RSF.out.a1; have a2f := RSF.out.a2; have faf := RSF.out.fa; have hsf := RSF.out.hs; have belf := RSF.out.bel; have r0f := RPF.out.r0; have r1f := RPF.out.r1; have r2f := RPF.out.r2; have frf := RPF.out.fr) | (go_at_call 33; (with_reducible refine (BY.out _ ((RSF.out.set (j := 2) HRB.out (.bool true))).bel).mono ?_); rintro e wg ⟨⟨A11, c11, rfl, T11⟩, hbg⟩; have HT11 := Lib.hid T11; have RSG := Lib.hid (ResS.call (RSF.out.set (j := 2) HRB.out (.bool true)) hbg); have RPG := Lib.hid (RpS.call RPF.out.close hbg); have hzg := ((RSF.out.set (j := 2) HRB.out (.bool true))).hs; have hrg := (RPF.out.close).hs; have a0g := RSG.out.a0; have a1g := RSG.out.a1; have a2g := RSG.out.a2; have fag := RSG.out.fa; have hsg := RSG.out.hs; have belg := RSG.out.bel; have r0g := RPG.out.r0; have r1g := RPG.out.r1; have r2g := RPG.out.r2; have frg := RPG.out.fr; clear T11))
                                    exact bodyPost_ret (v := .tuple #[.agg #[.int .i64 (z : Int), .slice A11 M c11, .bool true], .int .i64 ((K4 : Int) + (M : Int)), .bool true, .int .i64 0]) (by simp [results, Tryz.results30, go_sem, *]) rfl (HQQ.out _ _ ⟨by unfold RespO; rw [HX.out]; exact ⟨A11, c11, by rw [HEQ.out]; rfl, bs_farR HT11.out hzg hrg, fun a ha => Nat.le_trans (Nat.le_of_succ_le hzg) (HT11.out.2 a ha)⟩, (by repeat (first | exact Below.refl _ _ | refine Below.setCell ?_ (by first | (simp; done) | (simp; omega) | omega) _ | refine Below.alloc ?_ (by first | (simp; done) | (simp; omega) | omega) _ | refine Below.drew ?_ | assumption | refine Below.trans ?_ (Below.mono (by assumption) (by first | (simp; done) | (simp; omega) | omega))))⟩)
                              · have h23' : ¬ (23 : Int) ≤ (n : Int) - (k : Int) := by omega
                                have HX : Hid (respF l = .wait) := Lib.hid (by rw [← RR.out, HX3.out, closeR_wait1 hP hC (by rw [HNK.out]; omega)]; rfl)
                                clear hP hC BP1 BC1
                                by_cases h4 : 4 ≤ n - k
                                · have h4' : (4 : Int) ≤ (n : Int) - (k : Int) := by omega
                                  go_wp2_with (first | (go_at_call 52; (with_reducible refine (DG2.out _).mono ?_); rintro e w2 ⟨rfl, rfl⟩) | (go_at_call 45; (with_reducible refine (FM.out _).mono ?_); rintro e w4 ⟨rfl, hb4⟩) | (go_at_call 46; (with_reducible refine (AI.out _).mono ?_); rintro e we ⟨rfl, hb5⟩; have RSE := Lib.hid ((RSD.out.call hb4).call hb5); have RPE := Lib.hid ((RPD.out.call hb4).call hb5); have a0e := RSE.out.a0; have a1e := RSE.out.a1; have a2e := RSE.out.a2; have fae := RSE.out.fa; have hse := RSE.out.hs; have bele := RSE.out.bel; have r0e := RPE.out.r0; have r1e := RPE.out.r1; have r2e := RPE.out.r2; have fre := RPE.out.fr) | (go_at_call 51; (with_reducible refine (BPC.out _ (by assumption)).mono ?_); rintro e wf ⟨rfl, hbf⟩; have RSF := Lib.hid (ResS.call (by first | exact RSF.out | exact RSE.out) hbf); have RPF := Lib.hid (RpS.call (by first | exact RPF.out | exact RPE.out) hbf); clear hbf; have a0f := RSF.out.a0; have a1f := RSF.out.a1; have a2f := RSF.out.a2; have faf := RSF.out.fa; have hsf := RSF.out.hs; have belf := RSF.out.bel; have r0f := RPF.out.r0; have r1f := RPF.out.r1; have r2f := RPF.out.r2; have frf := RPF.out.fr) | (go_at_call 51; (with_reducible refine (BCC.out _ (by assumption)).mono ?_); rintro e wf ⟨rfl, hbf⟩; have RSF := Lib.hid (ResS.call (by first | exact RSF.out | exact RSE.out) hbf); have RPF := Lib.hid (RpS.call (by first | exact RPF.out | exact RPE.out) hbf); clear hbf; have a0f := RSF.out.a0; have a1f := RSF.out.a1; have a2f := RSF.out.a2; have faf := RSF.out.fa; have hsf := RSF.out.hs; have belf := RSF.out.bel; have r0f := RPF.out.r0; have r1f := RPF.out.r1; have r2f := RPF.out.r2; have frf := RPF.out.fr))
                                  exact bodyPost_ret (v := .tuple #[.agg #[.int .i64 0, .slice none 0 0, .bool false], .int .i64 0, .bool false, .int .i64 0]) (by simp [results, Tryz.results30, go_sem, *]) rfl (HQQ.out _ _ ⟨by unfold RespO; rw [HX.out]; rfl, (by repeat (first | exact Below.refl _ _ | refine Below.setCell ?_ (by first | (simp; done) | (simp; omega) | omega) _ | refine Below.alloc ?_ (by first | (simp; done) | (simp; omega) | omega) _ | refine Below.drew ?_ | assumption | refine Below.trans ?_ (Below.mono (by assumption) (by first | (simp; done) | (simp; omega) | omega))))⟩)
                                · have h4' : ¬ (4 : Int) ≤ (n : Int) - (k : Int) := by omega
                                  go_wp2_with (first | (go_at_call 52; (with_reducible refine (DG2.out _).mono ?_); rintro e w2 ⟨rfl, rfl⟩) | (go_at_call 45; (with_reducible refine (FM.out _).mono ?_); rintro e w4 ⟨rfl, hb4⟩) | (go_at_call 46; (with_reducible refine (AI.out _).mono ?_); rintro e we ⟨rfl, hb5⟩; have RSE := Lib.hid ((RSD.out.call hb4).call hb5); have RPE := Lib.hid ((RPD.out.call hb4).call hb5); have a0e := RSE.out.a0; have a1e := RSE.out.a1; have a2e := RSE.out.a2; have fae := RSE.out.fa; have hse := RSE.out.hs; have bele := RSE.out.bel; have r0e := RPE.out.r0; have r1e := RPE.out.r1; have r2e := RPE.out.r2; have fre := RPE.out.fr) | (go_at_call 51; (with_reducible refine (BPC.out _ (by assumption)).mono ?_); rintro e wf ⟨rfl, hbf⟩; have RSF := Lib.hid (ResS.call (by first | exact RSF.out | exact RSE.out) hbf); have RPF := Lib.hid (RpS.call (by first | exact RPF.out | exact RPE.out) hbf); clear hbf; have a0f := RSF.out.a0; have a1f := RSF.out.a1; have a2f := RSF.out.a2; have faf := RSF.out.fa; have hsf := RSF.out.hs; have belf := RSF.out.bel; have r0f := RPF.out.r0; have r1f := RPF.out.r1; have r2f := RPF.out.r2; have frf := RPF.out.fr) | (go_at_call 51; (with_reducible refine (BCC.out _ (by assumption)).mono ?_); rintro e wf ⟨rfl, hbf⟩; have RSF := Lib.hid (ResS.call (by first | exact RSF.out | exact RSE.out) hbf); have RPF := Lib.hid (RpS.call (by first | exact RPF.out | exact RPE.out) hbf); clear hbf; have a0f := RSF.out.a0; have a1f := RSF.out.a1; have a2f := RSF.out.a2; have faf := RSF.out.fa; have hsf := RSF.out.hs; have belf := RSF.out.bel; have r0f := RPF.out.r0; have r1f := RPF.out.r1; have r2f := RPF.out.r2; have frf := RPF.out.fr))
                                  exact bodyPost_ret (v := .tuple #[.agg #[.int .i64 0, .slice none 0 0, .bool false], .int .i64 0, .bool false, .int .i64 0]) (by simp [results, Tryz.results30, go_sem, *]) rfl (HQQ.out _ _ ⟨by unfold RespO; rw [HX.out]; rfl, (by repeat (first | exact Below.refl _ _ | refine Below.setCell ?_ (by first | (simp; done) | (simp; omega) | omega) _ | refine Below.alloc ?_ (by first | (simp; done) | (simp; omega) | omega) _ | refine Below.drew ?_ | assumption | refine Below.trans ?_ (Below.mono (by assumption) (by first | (simp; done) | (simp; omega) | omega))))⟩)
                          | true =>
                            rw [show begF (l.drop k) [13, 10, 13, 10] = true from hP] at BP1
                            have BPC := Lib.hid BP1
                            by_cases h4 : 4 ≤ n - k
                            · have h4' : (4 : Int) ≤ (n : Int) - (k : Int) := by omega
                              have hC : begF (l.drop k) tClosing = false := by
                                cases hC : begF (l.drop k) tClosing with
                                | false => rfl
                                | true => have := both_beg hP hC; rw [HNK.out] at this; omega
                              rw [show begF (l.drop k) [13, 10, 99, 111, 110, 110, 101, 99, 116, 105, 111, 110, 58, 32, 99, 108, 111, 115, 101, 13, 10, 13, 10] = false from hC] at BC1
                              have BCC := Lib.hid BC1
                              have HX4 := HX3.out
                              rw [closeR_plain hP hC (by rw [HNK.out]; exact h4), List.drop_drop] at HX4
                              clear hP hC BP1 BC1
                              by_cases h23 : 23 ≤ n - k
                              · have h23' : (23 : Int) ≤ (n : Int) - (k : Int) := by omega
                                obtain ⟨K4, hK4⟩ : ∃ K4, k + 4 = K4 := ⟨_, rfl⟩
                                rw [hK4] at HX4
                                have hk4 : (k : Int) + 4 = (K4 : Int) := by omega
                                have hrb1 : w.heap.size + 1 ≤ rb := HRB.out
                                have hrbn : ¬ rb = w.heap.size := by omega
                                have hrbm : ¬ w.heap.size = rb := by omega
                                have hK4n : K4 ≤ n := by omega
                                have HX5 : Hid (respR l = if n - K4 < M then .wait else .got (z, false, M) (l.drop K4)) := Lib.hid (by rw [HX4]; show (if (l.drop K4).length < M then Tk.wait else _) = _; rw [List.length_drop, HL.out])
                                clear hK4 HX4
                                by_cases hsh : n - K4 < M
                                · have hsh' : (n : Int) - (K4 : Int) < (M : Int) := by omega
                                  have HX : Hid (respF l = .wait) := Lib.hid (by rw [← RR.out, HX5.out, if_pos hsh])
                                  clear hsh
                                  go_wp2_with (first | (go_at_call 52; (with_reducible refine (DG2.out _).mono ?_); rintro e w2 ⟨rfl, rfl⟩) | (go_at_call 45; (with_reducible refine (FM.out _).mono ?_); rintro e w4 ⟨rfl, hb4⟩) | (go_at_call 46; (with_reducible refine (AI.out _).mono ?_); rintro e we ⟨rfl, hb5⟩; have RSE := Lib.hid ((RSD.out.call hb4).call hb5); have RPE := Lib.hid ((RPD.out.call hb4).call hb5); have a0e := RSE.out.a0; have a1e := RSE.out.a1; have a2e := RSE.out.a2; have fae := RSE.out.fa; have hse := RSE.out.hs; have bele := RSE.out.bel; have r0e := RPE.out.r0; have r1e := RPE.out.r1; have r2e := RPE.out.r2; have fre := RPE.out.fr) | (go_at_call 51; (with_reducible refine (BPC.out _ (by assumption)).mono ?_); rintro e wf ⟨rfl, hbf⟩; have RSF := Lib.hid (ResS.call (by first | exact RSF.out | exact RSE.out) hbf); have RPF := Lib.hid (RpS.call (by first | exact RPF.out | exact RPE.out) hbf); clear hbf; have a0f := RSF.out.a0; have a1f := RSF.out.a1; have a2f := RSF.out.a2; have faf := RSF.out.fa; have hsf := RSF.out.hs; have belf := RSF.out.bel; have r0f := RPF.out.r0; have r1f := RPF.out.r1; have r2f := RPF.out.r2; have frf := RPF.out.fr) | (go_at_call 51; (with_reducible refine (BCC.out _ (by assumption)).mono ?_); rintro e wf ⟨rfl, hbf⟩; have RSF := Lib.hid (ResS.call (by first | exact RSF.out | exact RSE.out) hbf); have RPF := Lib.hid (RpS.call (by first | exact RPF.out | exact RPE.out) hbf); clear hbf; have a0f := RSF.out.a0; have a1f := RSF.out.a1; have a2f := RSF.out.a2; have faf := RSF.out.fa; have hsf := RSF.out.hs; have belf := RSF.out.bel; have r0f := RPF.out.r0; have r1f := RPF.out.r1; have r2f := RPF.out.r2; have frf := RPF.out.fr))
                                  exact bodyPost_ret (v := .tuple #[.agg #[.int .i64 0, .slice none 0 0, .bool false], .int .i64 0, .bool false, .int .i64 0]) (by simp [results, Tryz.results30, go_sem, *]) rfl (HQQ.out _ _ ⟨by unfold RespO; rw [HX.out]; rfl, (by repeat (first | exact Below.refl _ _ | refine Below.setCell ?_ (by first | (simp; done) | (simp; omega) | omega) _ | refine Below.alloc ?_ (by first | (simp; done) | (simp; omega) | omega) _ | refine Below.drew ?_ | assumption | refine Below.trans ?_ (Below.mono (by assumption) (by first | (simp; done) | (simp; omega) | omega))))⟩)
                                · have hsh' : ¬ (n : Int) - (K4 : Int) < (M : Int) := by omega
                                  have HX : Hid (respF l = .got (z, false, M) (l.drop K4)) := Lib.hid (by rw [← RR.out, HX5.out, if_neg hsh])
                                  have hg1 : (K4 : Int) ≤ (K4 : Int) + (M : Int) := by omega
                                  have hg2 : (K4 : Int) + (M : Int) ≤ (c : Int) := by omega
                                  have hg3 : (K4 : Int) + (M : Int) - (K4 : Int) = (M : Int) := by omega
                                  have HEQ : Hid (((l.length - (l.drop K4).length + M : Nat) : Int) = (K4 : Int) + (M : Int)) := Lib.hid (by rw [List.length_drop, HL.out]; omega)
                                  have BY1 : ∀ W, Below w.heap.size w W → Calls Tryz.prog 33 #[.slice (advA (some ⟨b0, off0, none⟩) c K4) M (c - K4)] W fun e w' => (∃ A' c', e = .returned (.slice A' M c') ∧ BsN W.heap.size w' A' c' ((l.drop K4).take M)) ∧ Below W.heap.size W w' := fun W hb => bytes_any (advA (some ⟨b0, off0, none⟩) c K4) M (c - K4) ((l.drop K4).take M) (by rw [List.length_take, List.length_drop, HL.out]; omega) (by omega) W (((HT.out.below hb).adv K4 (by rw [HL.out]; exact hK4n)).take M)
                                  unfold advA at BY1
                                  dsimp only [Option.map_some] at BY1
                                  by_cases hcK4 : c = K4
                                  · have hcK4' : (c : Int) - (K4 : Int) = 0 := by omega
                                    rw [if_pos hcK4] at BY1
                                    have BY := Lib.hid BY1
                                    clear BY1 hcK4 hsh
                                    exfalso; omega
                                  · have hcK4' : ¬ (c : Int) - (K4 : Int) = 0 := by omega
                                    rw [if_neg hcK4, addr_off] at BY1
                                    have BY := Lib.hid BY1
                                    clear BY1 hcK4 hsh
                                    go_wp2_with (first | (go_at_call 52; (with_reducible refine (DG2.out _).mono ?_); rintro e w2 ⟨rfl, rfl⟩) | (go_at_call 45; (with_reducible refine (FM.out _).mono ?_); rintro e w4 ⟨rfl, hb4⟩) | (go_at_call 46; (with_reducible refine (AI.out _).mono ?_); rintro e we ⟨rfl, hb5⟩; have RSE := Lib.hid ((RSD.out.call hb4).call hb5); have RPE := Lib.hid ((RPD.out.call hb4).call hb5); have a0e := RSE.out.a0; have a1e := RSE.out.a1; have a2e := RSE.out.a2; have fae := RSE.out.fa; have hse := RSE.out.hs; have bele := RSE.out.bel; have r0e := RPE.out.r0; have r1e := RPE.out.r1; have r2e := RPE.out.r2; have fre := RPE.out.fr) | (go_at_call 51; (with_reducible refine (BPC.out _ (by assumption)).mono ?_); rintro e wf ⟨rfl, hbf⟩; have RSF := Lib.hid (ResS.call (by first | exact RSF.out | exact RSE.out) hbf); have RPF := Lib.hid (RpS.call (by first | exact RPF.out | exact RPE.out) hbf); clear hbf; have a0f := RSF.out.a0; have a1f := RSF.out.a1; have a2f := RSF.out.a2; have faf := RSF.out.fa; have hsf := RSF.out.hs; have belf := RSF.out.bel; have r0f := RPF.out.r0; have r1f := RPF.out.r1; have r2f := RPF.out.r2; have frf := RPF.out.fr) | (go_at_call 51; (with_reducible refine (BCC.out _ (by assumption)).mono ?_); rintro e wf ⟨rfl, hbf⟩; have RSF := Lib.hid (ResS.call (by first | exact RSF.out | exact RSE.out) hbf); have RPF := Lib.hid (RpS.call (by first | exact RPF.out | exact RPE.out) hbf); clear hbf; have a0f := RSF.out.a0; have a1f := RSF.out.a1; have a2f := RSF.out.a2; have faf := RSF.out.fa; have hsf := RSF.out.hs; have belf := RSF.out.bel; have r0f := RPF.out.r0; have r1f := RPF.out.r1; have r2f := RPF.out.r2; have frf := RPF.out.fr) | (go_at_call 33; (with_reducible refine (BY.out _ (RSF.out).bel).mono ?_); rintro e wg ⟨⟨A11, c11, rfl, T11⟩, hbg⟩; have HT11 := Lib.hid T11; have RSG := Lib.hid (ResS.call RSF.out hbg); have RPG := Lib.hid (RpS.call RPF.out hbg); have hzg := (RSF.out).hs; have hrg := (RPF.out).hs; have a0g := RSG.out.a0; have a1g := RSG.out.a1; have a2g := RSG.out.a2; have fag := RSG.out.fa; have hsg := RSG.out.hs; have belg := RSG.out.bel; have r0g := RPG.out.r0; have r1g := RPG.out.r1; have r2g := RPG.out.r2; have frg := RPG.out.fr; clear T11))
                                    exact bodyPost_ret (v := .tuple #[.agg #[.int .i64 (z : Int), .slice A11 M c11, .bool false], .int .i64 ((K4 : Int) + (M : Int)), .bool true, .int .i64 0]) (by simp [results, Tryz.results30, go_sem, *]) rfl (HQQ.out _ _ ⟨by unfold RespO; rw [HX.out]; exact ⟨A11, c11, by rw [HEQ.out]; rfl, bs_farR HT11.out hzg hrg, fun a ha => Nat.le_trans (Nat.le_of_succ_le hzg) (HT11.out.2 a ha)⟩, (by repeat (first | exact Below.refl _ _ | refine Below.setCell ?_ (by first | (simp; done) | (simp; omega) | omega) _ | refine Below.alloc ?_ (by first | (simp; done) | (simp; omega) | omega) _ | refine Below.drew ?_ | assumption | refine Below.trans ?_ (Below.mono (by assumption) (by first | (simp; done) | (simp; omega) | omega))))⟩)
                              · have h23' : ¬ (23 : Int) ≤ (n : Int) - (k : Int) := by omega
                                obtain ⟨K4, hK4⟩ : ∃ K4, k + 4 = K4 := ⟨_, rfl⟩
                                rw [hK4] at HX4
                                have hk4 : (k : Int) + 4 = (K4 : Int) := by omega
                                have hrb1 : w.heap.size + 1 ≤ rb := HRB.out
                                have hrbn : ¬ rb = w.heap.size := by omega
                                have hrbm : ¬ w.heap.size = rb := by omega
                                have hK4n : K4 ≤ n := by omega
                                have HX5 : Hid (respR l = if n - K4 < M then .wait else .got (z, false, M) (l.drop K4)) := Lib.hid (by rw [HX4]; show (if (l.drop K4).length < M then Tk.wait else _) = _; rw [List.length_drop, HL.out])
                                clear hK4 HX4
                                by_cases hsh : n - K4 < M
                                · have hsh' : (n : Int) - (K4 : Int) < (M : Int) := by omega
                                  have HX : Hid (respF l = .wait) := Lib.hid (by rw [← RR.out, HX5.out, if_pos hsh])
                                  clear hsh
                                  go_wp2_with (first | (go_at_call 52; (with_reducible refine (DG2.out _).mono ?_); rintro e w2 ⟨rfl, rfl⟩) | (go_at_call 45; (with_reducible refine (FM.out _).mono ?_); rintro e w4 ⟨rfl, hb4⟩) | (go_at_call 46; (with_reducible refine (AI.out _).mono ?_); rintro e we ⟨rfl, hb5⟩; have RSE := Lib.hid ((RSD.out.call hb4).call hb5); have RPE := Lib.hid ((RPD.out.call hb4).call hb5); have a0e := RSE.out.a0; have a1e := RSE.out.a1; have a2e := RSE.out.a2; have fae := RSE.out.fa; have hse := RSE.out.hs; have bele := RSE.out.bel; have r0e := RPE.out.r0; have r1e := RPE.out.r1; have r2e := RPE.out.r2; have fre := RPE.out.fr) | (go_at_call 51; (with_reducible refine (BPC.out _ (by assumption)).mono ?_); rintro e wf ⟨rfl, hbf⟩; have RSF := Lib.hid (ResS.call (by first | exact RSF.out | exact RSE.out) hbf); have RPF := Lib.hid (RpS.call (by first | exact RPF.out | exact RPE.out) hbf); clear hbf; have a0f := RSF.out.a0; have a1f := RSF.out.a1; have a2f := RSF.out.a2; have faf := RSF.out.fa; have hsf := RSF.out.hs; have belf := RSF.out.bel; have r0f := RPF.out.r0; have r1f := RPF.out.r1; have r2f := RPF.out.r2; have frf := RPF.out.fr) | (go_at_call 51; (with_reducible refine (BCC.out _ (by assumption)).mono ?_); rintro e wf ⟨rfl, hbf⟩; have RSF := Lib.hid (ResS.call (by first | exact RSF.out | exact RSE.out) hbf); have RPF := Lib.hid (RpS.call (by first | exact RPF.out | exact RPE.out) hbf); clear hbf; have a0f := RSF.out.a0; have a1f := RSF.out.a1; have a2f := RSF.out.a2; have faf := RSF.out.fa; have hsf := RSF.out.hs; have belf := RSF.out.bel; have r0f := RPF.out.r0; have r1f := RPF.out.r1; have r2f := RPF.out.r2; have frf := RPF.out.fr))
                                  exact bodyPost_ret (v := .tuple #[.agg #[.int .i64 0, .slice none 0 0, .bool false], .int .i64 0, .bool false, .int .i64 0]) (by simp [results, Tryz.results30, go_sem, *]) rfl (HQQ.out _ _ ⟨by unfold RespO; rw [HX.out]; rfl, (by repeat (first | exact Below.refl _ _ | refine Below.setCell ?_ (by first | (simp; done) | (simp; omega) | omega) _ | refine Below.alloc ?_ (by first | (simp; done) | (simp; omega) | omega) _ | refine Below.drew ?_ | assumption | refine Below.trans ?_ (Below.mono (by assumption) (by first | (simp; done) | (simp; omega) | omega))))⟩)
                                · have hsh' : ¬ (n : Int) - (K4 : Int) < (M : Int) := by omega
                                  have HX : Hid (respF l = .got (z, false, M) (l.drop K4)) := Lib.hid (by rw [← RR.out, HX5.out, if_neg hsh])
                                  have hg1 : (K4 : Int) ≤ (K4 : Int) + (M : Int) := by omega
                                  have hg2 : (K4 : Int) + (M : Int) ≤ (c : Int) := by omega
                                  have hg3 : (K4 : Int) + (M : Int) - (K4 : Int) = (M : Int) := by omega
                                  have HEQ : Hid (((l.length - (l.drop K4).length + M : Nat) : Int) = (K4 : Int) + (M : Int)) := Lib.hid (by rw [List.length_drop, HL.out]; omega)
                                  have BY1 : ∀ W, Below w.heap.size w W → Calls Tryz.prog 33 #[.slice (advA (some ⟨b0, off0, none⟩) c K4) M (c - K4)] W fun e w' => (∃ A' c', e = .returned (.slice A' M c') ∧ BsN W.heap.size w' A' c' ((l.drop K4).take M)) ∧ Below W.heap.size W w' := fun W hb => bytes_any (advA (some ⟨b0, off0, none⟩) c K4) M (c - K4) ((l.drop K4).take M) (by rw [List.length_take, List.length_drop, HL.out]; omega) (by omega) W (((HT.out.below hb).adv K4 (by rw [HL.out]; exact hK4n)).take M)
                                  unfold advA at BY1
                                  dsimp only [Option.map_some] at BY1
                                  by_cases hcK4 : c = K4
                                  · have hcK4' : (c : Int) - (K4 : Int) = 0 := by omega
                                    rw [if_pos hcK4] at BY1
                                    have BY := Lib.hid BY1
                                    clear BY1 hcK4 hsh
                                    go_wp2_with (first | (go_at_call 52; (with_reducible refine (DG2.out _).mono ?_); rintro e w2 ⟨rfl, rfl⟩) | (go_at_call 45; (with_reducible refine (FM.out _).mono ?_); rintro e w4 ⟨rfl, hb4⟩) | (go_at_call 46; (with_reducible refine (AI.out _).mono ?_); rintro e we ⟨rfl, hb5⟩; have RSE := Lib.hid ((RSD.out.call hb4).call hb5); have RPE := Lib.hid ((RPD.out.call hb4).call hb5); have a0e := RSE.out.a0; have a1e := RSE.out.a1; have a2e := RSE.out.a2; have fae := RSE.out.fa; have hse := RSE.out.hs; have bele := RSE.out.bel; have r0e := RPE.out.r0; have r1e := RPE.out.r1; have r2e := RPE.out.r2; have fre := RPE.out.fr) | (go_at_call 51; (with_reducible refine (BPC.out _ (by assumption)).mono ?_); rintro e wf ⟨rfl, hbf⟩; have RSF := Lib.hid (ResS.call (by first | exact RSF.out | exact RSE.out) hbf); have RPF := Lib.hid (RpS.call (by first | exact RPF.out | exact RPE.out) hbf); clear hbf; have a0f := RSF.out.a0; have a1f := RSF.out.a1; have a2f := RSF.out.a2; have faf := RSF.out.fa; have hsf := RSF.out.hs; have belf := RSF.out.bel; have r0f := RPF.out.r0; have r1f := RPF.out.r1; have r2f := RPF.out.r2; have frf := RPF.out.fr) | (go_at_call 51; (with_reducible refine (BCC.out _ (by assumption)).mono ?_); rintro e wf ⟨rfl, hbf⟩; have RSF := Lib.hid (ResS.call (by first | exact RSF.out | exact RSE.out) hbf); have RPF := Lib.hid (RpS.call (by first | exact RPF.out | exact RPE.out) hbf); clear hbf; have a0f := RSF.out.a0; have a1f := RSF.out.a1; have a2f := RSF.out.a2; have faf := RSF.out.fa; have hsf := RSF.out.hs; have belf := RSF.out.bel; have r0f := RPF.out.r0; have r1f := RPF.out.r1; have r2f := RPF.out.r2; have frf := RPF.out.fr) | (go_at_call 33; (with_reducible refine (BY.out _ (RSF.out).bel).mono ?_); rintro e wg ⟨⟨A11, c11, rfl, T11⟩, hbg⟩; have HT11 := Lib.hid T11; have RSG := Lib.hid (ResS.call RSF.out hbg); have RPG := Lib.hid (RpS.call RPF.out hbg); have hzg := (RSF.out).hs; have hrg := (RPF.out).hs; have a0g := RSG.out.a0; have a1g := RSG.out.a1; have a2g := RSG.out.a2; have fag := RSG.out.fa; have hsg := RSG.out.hs; have belg := RSG.out.bel; have r0g := RPG.out.r0; have r1g := RPG.out.r1; have r2g := RPG.out.r2; have frg := RPG.out.fr; clear T11))
                                    exact bodyPost_ret (v := .tuple #[.agg #[.int .i64 (z : Int), .slice A11 M c11, .bool false], .int .i64 ((K4 : Int) + (M : Int)), .bool true, .int .i64 0]) (by simp [results, Tryz.results30, go_sem, *]) rfl (HQQ.out _ _ ⟨by unfold RespO; rw [HX.out]; exact ⟨A11, c11, by rw [HEQ.out]; rfl, bs_farR HT11.out hzg hrg, fun a ha => Nat.le_trans (Nat.le_of_succ_le hzg) (HT11.out.2 a ha)⟩, (by repeat (first | exact Below.refl _ _ | refine Below.setCell ?_ (by first | (simp; done) | (simp; omega) | omega) _ | refine Below.alloc ?_ (by first | (simp; done) | (simp; omega) | omega) _ | refine Below.drew ?_ | assumption | refine Below.trans ?_ (Below.mono (by assumption) (by first | (simp; done) | (simp; omega) | omega))))⟩)
                                  · have hcK4' : ¬ (c : Int) - (K4 : Int) = 0 := by omega
                                    rw [if_neg hcK4, addr_off] at BY1
                                    have BY := Lib.hid BY1
                                    clear BY1 hcK4 hsh
                                    go_wp2_with (first | (go_at_call 52; (with_reducible refine (DG2.out _).mono ?_); rintro e w2 ⟨rfl, rfl⟩) | (go_at_call 45; (with_reducible refine (FM.out _).mono ?_); rintro e w4 ⟨rfl, hb4⟩) | (go_at_call 46; (with_reducible refine (AI.out _).mono ?_); rintro e we ⟨rfl, hb5⟩; have RSE := Lib.hid ((RSD.out.call hb4).call hb5); have RPE := Lib.hid ((RPD.out.call hb4).call hb5); have a0e := RSE.out.a0; have a1e := RSE.out.a1; have a2e := RSE.out.a2; have fae := RSE.out.fa; have hse := RSE.out.hs; have bele := RSE.out.bel; have r0e := RPE.out.r0; have r1e := RPE.out.r1; have r2e := RPE.out.r2; have fre := RPE.out.fr) | (go_at_call 51; (with_reducible refine (BPC.out _ (by assumption)).mono ?_); rintro e wf ⟨rfl, hbf⟩; have RSF := Lib.hid (ResS.call (by first | exact RSF.out | exact RSE.out) hbf); have RPF := Lib.hid (RpS.call (by first | exact RPF.out | exact RPE.out) hbf); clear hbf; have a0f := RSF.out.a0; have a1f := RSF.out.a1; have a2f := RSF.out.a2; have faf := RSF.out.fa; have hsf := RSF.out.hs; have belf := RSF.out.bel; have r0f := RPF.out.r0; have r1f := RPF.out.r1; have r2f := RPF.out.r2; have frf := RPF.out.fr) | (go_at_call 51; (with_reducible refine (BCC.out _ (by assumption)).mono ?_); rintro e wf ⟨rfl, hbf⟩; have RSF := Lib.hid (ResS.call (by first | exact RSF.out | exact RSE.out) hbf); have RPF := Lib.hid (RpS.call (by first | exact RPF.out | exact RPE.out) hbf); clear hbf; have a0f := RSF.out.a0; have a1f := RSF.out.a1; have a2f := RSF.out.a2; have faf := RSF.out.fa; have hsf := RSF.out.hs; have belf := RSF.out.bel; have r0f := RPF.out.r0; have r1f := RPF.out.r1; have r2f := RPF.out.r2; have frf := RPF.out.fr) | (go_at_call 33; (with_reducible refine (BY.out _ (RSF.out).bel).mono ?_); rintro e wg ⟨⟨A11, c11, rfl, T11⟩, hbg⟩; have HT11 := Lib.hid T11; have RSG := Lib.hid (ResS.call RSF.out hbg); have RPG := Lib.hid (RpS.call RPF.out hbg); have hzg := (RSF.out).hs; have hrg := (RPF.out).hs; have a0g := RSG.out.a0; have a1g := RSG.out.a1; have a2g := RSG.out.a2; have fag := RSG.out.fa; have hsg := RSG.out.hs; have belg := RSG.out.bel; have r0g := RPG.out.r0; have r1g := RPG.out.r1; have r2g := RPG.out.r2; have frg := RPG.out.fr; clear T11))
                                    exact bodyPost_ret (v := .tuple #[.agg #[.int .i64 (z : Int), .slice A11 M c11, .bool false], .int .i64 ((K4 : Int) + (M : Int)), .bool true, .int .i64 0]) (by simp [results, Tryz.results30, go_sem, *]) rfl (HQQ.out _ _ ⟨by unfold RespO; rw [HX.out]; exact ⟨A11, c11, by rw [HEQ.out]; rfl, bs_farR HT11.out hzg hrg, fun a ha => Nat.le_trans (Nat.le_of_succ_le hzg) (HT11.out.2 a ha)⟩, (by repeat (first | exact Below.refl _ _ | refine Below.setCell ?_ (by first | (simp; done) | (simp; omega) | omega) _ | refine Below.alloc ?_ (by first | (simp; done) | (simp; omega) | omega) _ | refine Below.drew ?_ | assumption | refine Below.trans ?_ (Below.mono (by assumption) (by first | (simp; done) | (simp; omega) | omega))))⟩)
                            · have h4' : ¬ (4 : Int) ≤ (n : Int) - (k : Int) := by omega
                              have h23' : ¬ (23 : Int) ≤ (n : Int) - (k : Int) := by omega
                              have HX : Hid (respF l = .wait) := Lib.hid (by rw [← RR.out, HX3.out, closeR_wait2 hP (by rw [HNK.out]; omega)]; rfl)
                              clear hP BP1 BC1
                              go_wp2_with (first | (go_at_call 52; (with_reducible refine (DG2.out _).mono ?_); rintro e w2 ⟨rfl, rfl⟩) | (go_at_call 45; (with_reducible refine (FM.out _).mono ?_); rintro e w4 ⟨rfl, hb4⟩) | (go_at_call 46; (with_reducible refine (AI.out _).mono ?_); rintro e we ⟨rfl, hb5⟩; have RSE := Lib.hid ((RSD.out.call hb4).call hb5); have RPE := Lib.hid ((RPD.out.call hb4).call hb5); have a0e := RSE.out.a0; have a1e := RSE.out.a1; have a2e := RSE.out.a2; have fae := RSE.out.fa; have hse := RSE.out.hs; have bele := RSE.out.bel; have r0e := RPE.out.r0; have r1e := RPE.out.r1; have r2e := RPE.out.r2; have fre := RPE.out.fr) | (go_at_call 51; (with_reducible refine (BPC.out _ (by assumption)).mono ?_); rintro e wf ⟨rfl, hbf⟩; have RSF := Lib.hid (ResS.call (by first | exact RSF.out | exact RSE.out) hbf); have RPF := Lib.hid (RpS.call (by first | exact RPF.out | exact RPE.out) hbf); clear hbf; have a0f := RSF.out.a0; have a1f := RSF.out.a1; have a2f := RSF.out.a2; have faf := RSF.out.fa; have hsf := RSF.out.hs; have belf := RSF.out.bel; have r0f := RPF.out.r0; have r1f := RPF.out.r1; have r2f := RPF.out.r2; have frf := RPF.out.fr) | (go_at_call 51; (with_reducible refine (BCC.out _ (by assumption)).mono ?_); rintro e wf ⟨rfl, hbf⟩; have RSF := Lib.hid (ResS.call (by first | exact RSF.out | exact RSE.out) hbf); have RPF := Lib.hid (RpS.call (by first | exact RPF.out | exact RPE.out) hbf); clear hbf; have a0f := RSF.out.a0; have a1f := RSF.out.a1; have a2f := RSF.out.a2; have faf := RSF.out.fa; have hsf := RSF.out.hs; have belf := RSF.out.bel; have r0f := RPF.out.r0; have r1f := RPF.out.r1; have r2f := RPF.out.r2; have frf := RPF.out.fr))
                              exact bodyPost_ret (v := .tuple #[.agg #[.int .i64 0, .slice none 0 0, .bool false], .int .i64 0, .bool false, .int .i64 0]) (by simp [results, Tryz.results30, go_sem, *]) rfl (HQQ.out _ _ ⟨by unfold RespO; rw [HX.out]; rfl, (by repeat (first | exact Below.refl _ _ | refine Below.setCell ?_ (by first | (simp; done) | (simp; omega) | omega) _ | refine Below.alloc ?_ (by first | (simp; done) | (simp; omega) | omega) _ | refine Below.drew ?_ | assumption | refine Below.trans ?_ (Below.mono (by assumption) (by first | (simp; done) | (simp; omega) | omega))))⟩)
end Go.Proofs.YtkaimfeiahogaaaGreatDoor
