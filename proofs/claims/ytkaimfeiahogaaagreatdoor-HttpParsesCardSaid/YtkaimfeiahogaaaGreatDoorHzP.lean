/-
  Plain Lean: a response read in the reference's way is a response read piece by piece.
-/
import Derived.Test.YtkaimfeiahogaaaGreatDoorHz1
import Derived.Test.YtkaimfeiahogaaaGreatDoorHc1
import Derived.Deep.LoopGhost
import Derived.Test.YtkaimfeiahogaaaGreatDoorHp7

/-
  Contracts of exref.Has and exref22.begins.
-/
namespace Go.Proofs.YtkaimfeiahogaaaGreatDoor
set_option linter.all false
open Go.RowKit Go.Shelf
attribute [local go_sem] cell_set_self lt_1 lt_2 lt_3 lt_4 lt_5 lt_6 drew_cell drew_frozen drew_size

set_option maxHeartbeats 4000000 in
set_option maxRecDepth 100000 in
theorem has_any (A : Option Addr) (n c : Nat) (xs : List (List UInt8)) (hx : xs.length = n) (hn : n ≤ 1000000) (s : List UInt8) (w : World) (T : Strs w A xs) :
    Calls Tryz.prog 43 #[.slice A n c, .string ⟨s.toArray⟩] w fun e w' => e = .returned (.bool (decide (s ∈ xs))) ∧ w = w' := by
  have HT := Lib.hid T
  have HX := Lib.hid hx
  have HQ := Lib.hid (fun t => str_beq t s)
  obtain ⟨S, hS⟩ : ∃ S : ByteArray, (⟨s.toArray⟩ : ByteArray) = S := ⟨_, rfl⟩
  rw [hS] at HQ ⊢
  clear T hx hS
  go_enter Tryz.func43, Tryz.ntmps43
  go_wp2
  go_loop [5] (fun i => ∃ k : Nat, k ≤ n ∧ i = .int .i64 k ∧ Hid (s ∉ xs.take k)) (fun i => n - (intOf i).toNat)
  case atStart => exact ⟨0, by omega, rfl, Lib.hid (by simp)⟩
  case round =>
    obtain ⟨k, hk, rfl, HN⟩ := hrel
    by_cases hlt : k < n
    · have hlt' : (k : Int) < (n : Int) := by omega
      obtain ⟨t, ht⟩ : ∃ t, xs[k]? = some t := ⟨_, List.getElem?_eq_getElem (by rw [HX.out]; exact hlt)⟩
      obtain ⟨b, off, rfl, hb, e0⟩ := HT.out k t ht
      have q := HQ.out t
      have HTT := Lib.hid ht
      clear ht
      by_cases he : t = s
      · rw [decide_eq_true he] at q
        have HD : Hid (decide (s ∈ xs) = true) := Lib.hid (decide_eq_true (by rw [← he]; exact List.mem_of_getElem? HTT.out))
        clear he
        generalize (⟨t.toArray⟩ : ByteArray) = TB at *
        go_wp2
        go_ret
        exact ⟨by rw [HD.out]; rfl, rfl⟩
      · rw [decide_eq_false he] at q
        have HNE := Lib.hid he
        clear he
        generalize (⟨t.toArray⟩ : ByteArray) = TB at *
        go_wp2
        go_roundw
        case rel => exact ⟨k + 1, by omega, by go_num, Lib.hid (by rw [List.take_succ, HTT.out, Option.toList_some, List.mem_append, List.mem_singleton]; exact fun h => h.elim HN.out (fun e => HNE.out e.symm))⟩
        case measure => first | (simp [intOf]; done) | (simp [intOf]; omega)
    · obtain rfl : k = n := by omega
      have hlt' : ¬ (k : Int) < (k : Int) := by omega
      have HD : Hid (decide (s ∈ xs) = false) := Lib.hid (decide_eq_false (by have := HN.out; rwa [List.take_of_length_le (by rw [HX.out]; exact Nat.le_refl _)] at this))
      go_wp2
      go_ret
      exact ⟨by rw [HD.out]; rfl, rfl⟩
/-- Bytes that a text begins with, or that begin with it. -/
def begF (l s : List UInt8) : Bool := decide (l.take s.length = s.take l.length)
theorem beg_at {l s : List UInt8} {k : Nat} {x y : UInt8} (hx : l[k]? = some x) (hy : s[k]? = some y) (h : l.take k = s.take k) : (l.take (k + 1) = s.take (k + 1) ↔ x = y) := by
  rw [List.take_succ, List.take_succ, hx, hy, h]
  simp
set_option maxHeartbeats 4000000 in
set_option maxRecDepth 100000 in
theorem begins_ref (A : Option Addr) (n c : Nat) (l : List UInt8) (hl : l.length = n) (hn : n ≤ 1000000000) (s : List UInt8) (hs : s.length ≤ 1000000) (w : World) (T : Bs w A c l) :
    Calls Tryz.prog 51 #[.slice A n c, .string ⟨s.toArray⟩] w fun e w' => e = .returned (.bool (begF l s)) ∧ Below w.heap.size w w' := by
  have HT := Lib.hid T
  have HL := Lib.hid hl
  have AT := Lib.hid (fun i (h : i < (⟨s.toArray⟩ : ByteArray).size) (c : UInt8) (hc : s[i]? = some c) => (show ((⟨s.toArray⟩ : ByteArray)[i]'h).toNat = c.toNat by
    obtain ⟨h1, h2⟩ := List.getElem?_eq_some_iff.1 hc
    rw [← h2]; rfl))
  have hsz : (⟨s.toArray⟩ : ByteArray).size = s.length := ba_sz s
  have HSZ := Lib.hid hsz
  have hSz : (⟨s.toArray⟩ : ByteArray).size ≤ 1000000 := by omega
  generalize (⟨s.toArray⟩ : ByteArray) = S at *
  clear T hl hsz hs
  go_enter Tryz.func51, Tryz.ntmps51
  go_wp2
  go_loopw [5] (fun i wr => ∃ k : Nat, k ≤ n ∧ k ≤ S.size ∧ i = .int .i64 k ∧ Hid (l.take k = s.take k) ∧ Below w.heap.size w wr) (fun i _ => n - (intOf i).toNat)
  case atStart => exact ⟨0, by omega, by omega, rfl, Lib.hid (by simp), Below.refl _ _⟩
  case round =>
    obtain ⟨k, hk, hkS, rfl, HE, hB⟩ := hrel
    by_cases h1 : k < n
    · have h1' : (k : Int) < (n : Int) := by omega
      by_cases h2 : k < S.size
      · have h2' : (k : Int) < (S.size : Int) := by omega
        obtain ⟨x, hx⟩ : ∃ x, l[k]? = some x := ⟨_, List.getElem?_eq_getElem (by rw [HL.out]; exact h1)⟩
        obtain ⟨y, hy⟩ : ∃ y, s[k]? = some y := ⟨_, List.getElem?_eq_getElem (by have := HSZ.out; omega)⟩
        obtain ⟨b, off, rfl, hb, e0⟩ := (HT.out.below hB).2.2 k x hx
        have a1 := AT.out k h2 y hy
        have HB := Lib.hid (beg_at hx hy HE.out)
        have HXY := Lib.hid (And.intro hx hy)
        clear hx hy
        by_cases he : x = y
        · have HST : Hid (l.take (k + 1) = s.take (k + 1)) := Lib.hid (HB.out.2 he)
          subst he
          generalize x.toNat = xx at *
          go_wp2
          go_big_region
          all_goals go_wp2
          go_roundw
          case rel => exact ⟨k + 1, by omega, by omega, by go_num, HST, Below.drew hB⟩
          case measure => first | (simp [intOf]; done) | (simp [intOf]; omega)
        · have hne : ((x.toNat : Int) != (y.toNat : Int)) = true := by
            have : x.toNat ≠ y.toNat := fun e => he (UInt8.toNat_inj.1 e)
            simp; omega
          have HR : Hid (begF l s = false) := Lib.hid (decide_eq_false (fun e => he (HB.out.1 (by
            have h3 := congrArg (List.take (k + 1)) e
            have i1 := (List.getElem?_eq_some_iff.1 HXY.out.1).1
            have i2 := (List.getElem?_eq_some_iff.1 HXY.out.2).1
            rw [List.take_take, List.take_take, Nat.min_eq_left (by omega), Nat.min_eq_left (by omega)] at h3
            exact h3))))
          generalize x.toNat = xx at *
          generalize y.toNat = yy at *
          go_wp2
          go_big_region
          all_goals go_wp2
          go_ret
          exact ⟨by rw [HR.out]; rfl, Below.drew hB⟩
      · have h2' : ¬ (k : Int) < (S.size : Int) := by omega
        have HR : Hid (begF l s = true) := Lib.hid (decide_eq_true (by
          have e1 : k = s.length := by have := HSZ.out; omega
          have := HE.out
          rw [e1] at this
          rw [this, List.take_of_length_le (Nat.le_refl _), List.take_of_length_le (by rw [HL.out]; omega)]))
        go_wp2
        go_ret
        exact ⟨by rw [HR.out]; rfl, hB⟩
    · obtain rfl : k = n := by omega
      have h1' : ¬ (k : Int) < (k : Int) := by omega
      have HR : Hid (begF l s = true) := Lib.hid (decide_eq_true (by
        have := HE.out
        rw [List.take_of_length_le (by rw [HL.out]; exact Nat.le_refl _)] at this
        rw [HL.out, ← this, List.take_of_length_le (by rw [HL.out]; have := HSZ.out; omega)]))
      go_wp2
      go_ret
      exact ⟨by rw [HR.out]; rfl, hB⟩
end Go.Proofs.YtkaimfeiahogaaaGreatDoor

/-
  Plain Lean: 'begins' of the reference and 'take': one after the other, and both at once.
-/
namespace Go.Proofs.YtkaimfeiahogaaaGreatDoor
set_option linter.all false
open Go.Lib

theorem takeT_beg (s l : List UInt8) : takeT s l = if begF l s = true then (if l.length < s.length then .wait else .got () (l.drop s.length)) else .bad := by
  unfold takeT begF
  by_cases h : l.length < s.length
  · rw [if_pos h, if_pos h, List.take_of_length_le (show l.length ≤ s.length by omega)]
    by_cases g : s.take l.length = l
    · rw [if_pos g, if_pos (decide_eq_true g.symm)]
    · rw [if_neg g, if_neg (by simp; exact fun e => g e.symm)]
  · rw [if_neg h, if_neg h, List.take_of_length_le (show s.length ≤ l.length by omega)]
    by_cases g : l.take s.length = s
    · rw [if_pos g, if_pos (decide_eq_true g)]
    · rw [if_neg g, if_neg (by simp; exact g)]
/-- Two texts, one behind the other. -/
theorem takeT_app (a b l : List UInt8) : takeT (a ++ b) l = (takeT a l).bind fun _ r => takeT b r := by
  unfold takeT
  by_cases h : l.length < a.length
  · rw [if_pos h, if_pos (show l.length < (a ++ b).length by rw [List.length_append]; omega), List.take_append_of_le_length (by omega)]
    split <;> rfl
  · rw [if_neg h]
    by_cases g : l.take a.length = a
    · rw [if_pos g]
      have el : l = a ++ l.drop a.length := by conv => lhs; rw [← List.take_append_drop a.length l, g]
      obtain ⟨r, hr⟩ : ∃ r, l.drop a.length = r := ⟨_, rfl⟩
      rw [hr] at el
      show _ = (if (l.drop a.length).length < b.length then _ else _)
      rw [hr]
      by_cases k : r.length < b.length
      · rw [if_pos k, if_pos (show l.length < (a ++ b).length by rw [el, List.length_append, List.length_append]; omega)]
        have e1 : (a ++ b).take l.length = a ++ b.take r.length := by
          rw [el, List.length_append, List.take_append]
          rw [List.take_of_length_le (by omega), Nat.add_sub_cancel_left]
        rw [e1]
        by_cases q : b.take r.length = r
        · rw [if_pos q, if_pos (by rw [q, ← el])]
        · rw [if_neg q, if_neg (fun e => q (by rw [el] at e; exact List.append_cancel_left e))]
      · rw [if_neg k, if_neg (show ¬ l.length < (a ++ b).length by rw [el, List.length_append, List.length_append]; omega)]
        have e1 : l.take (a ++ b).length = a ++ r.take b.length := by
          rw [el, List.length_append, List.take_append]
          rw [List.take_of_length_le (by omega), Nat.add_sub_cancel_left]
        have e2 : l.drop (a ++ b).length = r.drop b.length := by
          rw [List.length_append, ← List.drop_drop, hr]
        rw [e1, e2]
        by_cases q : r.take b.length = b
        · rw [if_pos q, if_pos (by rw [q])]
        · rw [if_neg q, if_neg (fun e => q (List.append_cancel_left e))]
    · rw [if_neg g]
      show _ = Tk.bad
      have hle : a.length ≤ l.length := by omega
      split
      · rename_i k
        rw [if_neg]
        intro e
        apply g
        have := congrArg (List.take a.length) e
        rw [List.take_take, Nat.min_eq_left hle, List.take_append_of_le_length (Nat.le_refl _), List.take_of_length_le (Nat.le_refl _)] at this
        exact this.symm
      · rw [if_neg]
        intro e
        apply g
        have := congrArg (List.take a.length) e
        rw [List.take_take, Nat.min_eq_left (by rw [List.length_append]; omega), List.take_left] at this
        exact this
end Go.Proofs.YtkaimfeiahogaaaGreatDoor

/-
  Plain Lean: a response read in the reference's way is a response read piece by piece.
-/
namespace Go.Proofs.YtkaimfeiahogaaaGreatDoor
set_option linter.all false
open Go.Lib

theorem dec_dv : ∀ (k : Nat) (l : List UInt8), l.length = k → DigB l → l.head? ≠ some 48 → dec (dv l) = l
  | 0, l, h, _, _ => by rw [List.eq_nil_of_length_eq_zero h]; exact dec_0
  | k + 1, l, h, hd, hh => by
    obtain ⟨e, b, rfl⟩ : ∃ e b, l = e ++ [b] := ⟨l.dropLast, l.getLast (by intro e; rw [e] at h; simp at h), (List.dropLast_concat_getLast _).symm⟩
    have hb := hd b (by simp)
    have hbb : dg8 (b.toNat - 48) = b := UInt8.toNat_inj.1 (by rw [byte_digit _ (by omega)]; omega)
    rw [dv_snoc]
    cases he : e with
    | nil =>
      subst he
      have hne : b.toNat ≠ 48 := fun x => hh (by simp; exact UInt8.toNat_inj.1 x)
      rw [show dv [] = 0 from rfl, dec_pos (by omega), show (10 * 0 + (b.toNat - 48)) / 10 = 0 by omega, show (10 * 0 + (b.toNat - 48)) % 10 = b.toNat - 48 by omega, dec_0, hbb]
    | cons a r =>
      rw [← he]
      have ih := dec_dv k e (by simpa using h) (fun x hx => hd x (List.mem_append.2 (.inl hx))) (by rw [he] at hh ⊢; simpa using hh)
      have h0 : dv e ≠ 0 := fun x => by rw [x, dec_0] at ih; rw [← ih] at he; cases he
      rw [dec_pos (by omega), show (10 * dv e + (b.toNat - 48)) / 10 = dv e by omega, show (10 * dv e + (b.toNat - 48)) % 10 = b.toNat - 48 by omega, ih, hbb]
theorem txt_dv {l : List UInt8} (hd : DigB l) (h0 : l ≠ []) (hh : l.head? ≠ some 48) : txt (dv l : Int) = l := by
  have h := dec_dv _ l rfl hd hh
  have h0 : dv l ≠ 0 := fun x => by rw [x, dec_0] at h; exact h0 h.symm
  unfold txt
  rw [if_neg (by omega), if_neg (by omega)]
  exact h
def tPlain : List UInt8 := [13, 10] ++ [13, 10]
def tClosing : List UInt8 := [13, 10] ++ closeLine ++ [13, 10] ++ [13, 10]
/-- What stands behind the body's length, in the reference's way. -/
def closeR (t : List UInt8) : Tk Bool := if begF t tPlain = false ∧ begF t tClosing = false then .bad else if tClosing.length ≤ t.length ∧ begF t tClosing = true then .got true (t.drop tClosing.length) else if tPlain.length ≤ t.length ∧ begF t tPlain = true then .got false (t.drop tPlain.length) else .wait
theorem bind_assoc {α β γ : Type} (x : Tk α) (f : α → List UInt8 → Tk β) (g : β → List UInt8 → Tk γ) : (x.bind f).bind g = x.bind fun a r => (f a r).bind g := by cases x <;> rfl
theorem closeR_eq (t : List UInt8) : closeR t = closeT t := by
  have hp := takeT_beg tPlain t
  have hc := takeT_beg tClosing t
  have hs : closeT t = if (t.drop 2).head? = some 99 then (takeT tClosing t).bind fun _ r => .got true r else (takeT tPlain t).bind fun _ r => .got false r := by
    unfold closeT tClosing tPlain
    rw [List.append_assoc, List.append_assoc, ← List.append_assoc closeLine, takeT_app, takeT_app [13, 10] [13, 10]]
    simp only [takeT_app (closeLine ++ [13, 10]), bind_assoc]
    cases h : takeT [13, 10] t with
    | wait => show _ = ite _ _ _; split <;> rfl
    | bad => show _ = ite _ _ _; split <;> rfl
    | got a r =>
      have hr : r = t.drop 2 := by
        unfold takeT at h
        split at h
        · split at h <;> cases h
        · split at h
          · injection h with _ h; exact h.symm
          · cases h
      rw [hr]
      rfl
  rw [hs, hp, hc]
  unfold closeR
  have e1 : tPlain.length = 4 := rfl
  have e2 : tClosing.length = 23 := by rfl
  rw [e1, e2]
  -- both at once: only where at most two bytes stand there
  have both : begF t tPlain = true → begF t tClosing = true → t.length ≤ 2 := fun h1 h2 => by
    unfold begF at h1 h2
    rw [decide_eq_true_eq] at h1 h2
    match t, h1, h2 with
    | [], _, _ => simp
    | [_], _, _ => simp
    | [_, _], _, _ => simp
    | a :: b :: c :: r, h1, h2 =>
      exfalso
      have g1 := congrArg (fun l => l[2]?) h1
      have g2 := congrArg (fun l => l[2]?) h2
      rw [e1] at h1
      rw [e2] at h2
      have k1 : c = 13 := by
        have := congrArg (fun l => l[2]?) h1
        simpa [tPlain, List.getElem?_take] using this
      have k2 : c = 99 := by
        have := congrArg (fun l => l[2]?) h2
        simpa [tClosing, closeLine, tConn, List.getElem?_take] using this
      rw [k1] at k2
      exact absurd k2 (by decide)
  have third : ∀ {s : List UInt8} {x : UInt8}, s[2]? = some x → begF t s = true → 3 ≤ t.length → (t.drop 2).head? = some x := fun {s x} hx hb hl => by
    unfold begF at hb
    rw [decide_eq_true_eq] at hb
    have hs : 2 < s.length := (List.getElem?_eq_some_iff.1 hx).1
    have := congrArg (fun l => l[2]?) hb
    simp only [List.getElem?_take] at this
    rw [if_pos hs, if_pos (by omega), hx] at this
    rw [List.head?_drop]; exact this
  by_cases h2 : t.length ≤ 2
  · have n99 : ¬ (t.drop 2).head? = some 99 := by rw [List.drop_of_length_le h2]; simp
    have same : begF t tPlain = begF t tClosing := by
      unfold begF
      rw [e1, e2, List.take_of_length_le (show t.length ≤ 4 by omega), List.take_of_length_le (show t.length ≤ 23 by omega)]
      have : ∀ n, n ≤ 2 → tPlain.take n = tClosing.take n := fun n hn => by
        have : n = 0 ∨ n = 1 ∨ n = 2 := by omega
        rcases this with rfl | rfl | rfl <;> rfl
      rw [this _ h2]
    rw [if_neg n99, same, if_pos (show t.length < 4 by omega)]
    cases hb : begF t tClosing with
    | true => rw [if_neg (by simp), if_neg (by omega), if_neg (by omega), if_pos rfl]; rfl
    | false => rw [if_pos ⟨rfl, rfl⟩, if_neg (by simp)]; rfl
  · by_cases h99 : (t.drop 2).head? = some 99
    · have np : begF t tPlain = false := by
        cases hb : begF t tPlain with
        | false => rfl
        | true =>
          have := third (s := tPlain) (x := 13) rfl hb (by omega)
          rw [h99] at this
          exact absurd this (by decide)
      rw [if_pos h99, np]
      cases hb : begF t tClosing with
      | true =>
        rw [if_neg (by simp), if_pos rfl]
        by_cases h23 : t.length < 23
        · rw [if_neg (by omega), if_neg (by simp), if_pos h23]; rfl
        · rw [if_pos ⟨by omega, rfl⟩, if_neg h23]; rfl
      | false => rw [if_pos ⟨rfl, rfl⟩, if_neg (by simp)]; rfl
    · have nc : begF t tClosing = false := by
        cases hb : begF t tClosing with
        | false => rfl
        | true => exact absurd (third (s := tClosing) (x := 99) rfl hb (by omega)) h99
      rw [if_neg h99, nc]
      cases hb : begF t tPlain with
      | true =>
        rw [if_neg (by simp), if_neg (by simp), if_pos rfl]
        by_cases h4 : t.length < 4
        · rw [if_neg (by omega), if_pos h4]; rfl
        · rw [if_pos ⟨by omega, rfl⟩, if_neg h4]; rfl
      | false => rw [if_pos ⟨rfl, rfl⟩, if_neg (by simp)]; rfl
/-- The first three bytes of the status: digits, no 0 ahead. -/
def pre3 (r : List UInt8) : Bool := (r.take 3).all dgB && r.head? != some 48
/-- A response read in the reference's way. -/
def respR (l : List UInt8) : Tk (Nat × Bool × Nat) :=
  if begF l tStart = false then .bad
  else if pre3 (l.drop 9) = false then .bad
  else if l.length < 12 then .wait
  else if begF l (tStart ++ ((l.drop 9).take 3 ++ tMid (dv ((l.drop 9).take 3)))) = false then .bad
  else if l.length ≤ (tStart ++ ((l.drop 9).take 3 ++ tMid (dv ((l.drop 9).take 3)))).length then .wait
  else if okN (spanT (l.drop (tStart ++ ((l.drop 9).take 3 ++ tMid (dv ((l.drop 9).take 3)))).length)) = false then .bad
  else (closeR (spanD (l.drop (tStart ++ ((l.drop 9).take 3 ++ tMid (dv ((l.drop 9).take 3)))).length))).bind fun cl r =>
    if r.length < dv (spanT (l.drop (tStart ++ ((l.drop 9).take 3 ++ tMid (dv ((l.drop 9).take 3)))).length)) then .wait
    else .got (dv ((l.drop 9).take 3), cl, dv (spanT (l.drop (tStart ++ ((l.drop 9).take 3 ++ tMid (dv ((l.drop 9).take 3)))).length))) r
theorem beg_app {a b l : List UInt8} (h : begF l a = true) (hl : a.length ≤ l.length) : begF l (a ++ b) = begF (l.drop a.length) b := by
  unfold begF at h ⊢
  rw [decide_eq_true_eq, List.take_of_length_le hl] at h
  have el : l = a ++ l.drop a.length := by conv => lhs; rw [← List.take_append_drop a.length l, h]
  generalize l.drop a.length = r at el
  subst el
  rw [decide_eq_decide, List.length_append, List.length_append, List.take_append, List.take_append, List.take_of_length_le (show a.length ≤ a.length + b.length by omega), List.take_of_length_le (show a.length ≤ a.length + r.length by omega), Nat.add_sub_cancel_left, Nat.add_sub_cancel_left]
  exact ⟨fun e => List.append_cancel_left e, fun e => by rw [e]⟩
theorem spanT_all {l : List UInt8} (h : l.all dgB = true) : spanT l = l ∧ spanD l = [] := by
  unfold spanT spanD
  induction l with
  | nil => exact ⟨rfl, rfl⟩
  | cons b l ih =>
    simp only [List.all_cons, Bool.and_eq_true] at h
    obtain ⟨i1, i2⟩ := ih h.2
    rw [List.takeWhile_cons, List.dropWhile_cons, if_pos h.1, if_pos h.1, i1, i2]
    exact ⟨rfl, rfl⟩
theorem begF_cons_ne {a b : UInt8} {r s : List UInt8} (h : a ≠ b) : begF (a :: r) (b :: s) = false := by
  unfold begF
  rw [decide_eq_false_iff_not]
  intro e
  simp at e
  exact h e.1
/-- The status, in the reference's way. -/
theorem num3_eq (r : List UInt8) : pre3 r = false → numT okW3 okG3 r = .bad := fun h => by
  unfold numT
  have key : spanD r = [] → okW3 (spanT r) = false := fun hd => by
    have e : spanT r = r := by have := span_app r; rw [hd, List.append_nil] at this; exact this
    rw [e]
    unfold pre3 at h
    unfold okW3
    rw [Bool.and_eq_false_iff] at h ⊢
    rcases h with h | h
    · exfalso
      have hall : r.all dgB = true := by rw [← e]; exact List.all_eq_true.2 fun b hb => dgB_iff.2 (spanT_dig r b hb)
      rw [List.all_eq_true.2 fun b hb => List.all_eq_true.1 hall b (List.mem_of_mem_take hb)] at h
      cases h
    · exact .inr h
  have key2 : okG3 (spanT r) = false := by
    unfold pre3 at h
    unfold okG3
    rw [Bool.and_eq_false_iff] at h ⊢
    by_cases hl : (spanT r).length = 3
    · right
      rcases h with h | h
      · exfalso
        have e : r.take 3 = spanT r := by
          conv => lhs; rw [← span_app r]
          rw [← hl, List.take_left]
        rw [e, List.all_eq_true.2 fun b hb => dgB_iff.2 (spanT_dig r b hb)] at h
        cases h
      · have e : r.head? = (spanT r).head? := by
          conv => lhs; rw [← span_app r]
          cases hs : spanT r with
          | nil => rw [hs] at hl; simp at hl
          | cons a b => rfl
        rw [← e]; exact h
    · left; exact decide_eq_false hl
  by_cases hd : spanD r = []
  · rw [if_pos hd, key hd]; rfl
  · rw [if_neg hd, key2]; rfl
theorem tMid_cons (z : Nat) : ∃ m, tMid z = 32 :: m := ⟨_, rfl⟩
theorem mid_eq (r : List UInt8) (h : pre3 r = true) : ((numT okW3 okG3 r).bind fun z q => (takeT (tMid z) q).bind fun _ q => Tk.got z q) = if r.length < 3 then .wait else (takeT (r.take 3 ++ tMid (dv (r.take 3))) r).bind fun _ q => .got (dv (r.take 3)) q := by
  unfold pre3 at h
  rw [Bool.and_eq_true] at h
  obtain ⟨h1, h2⟩ := h
  by_cases hl : r.length < 3
  · rw [if_pos hl]
    rw [List.take_of_length_le (by omega)] at h1
    obtain ⟨e1, e2⟩ := spanT_all h1
    unfold numT
    rw [if_pos e2, e1, if_pos (by unfold okW3; rw [h2, decide_eq_true (by omega)]; rfl)]
    rfl
  · rw [if_neg hl]
    obtain ⟨x, t, rfl, hx⟩ : ∃ x t, r = x ++ t ∧ x.length = 3 := ⟨r.take 3, r.drop 3, (List.take_append_drop 3 r).symm, by rw [List.length_take]; omega⟩
    have ex : (x ++ t).take 3 = x := by rw [← hx, List.take_left]
    rw [ex] at h1 ⊢
    have hxd : DigB x := fun b hb => dgB_iff.1 (List.all_eq_true.1 h1 b hb)
    have hh : (x ++ t).head? = x.head? := by cases x with
      | nil => simp at hx
      | cons a b => rfl
    rw [hh] at h2
    rw [takeT_app, takeT_got]
    show _ = Tk.bind (takeT (tMid (dv x)) t) _
    obtain ⟨m, hm⟩ := tMid_cons (dv x)
    cases t with
    | nil =>
      rw [List.append_nil]
      obtain ⟨e1, e2⟩ := spanT_all h1
      unfold numT
      rw [if_pos e2, e1, if_pos (by unfold okW3; rw [h2, decide_eq_true (by omega)]; rfl), hm]
      rfl
    | cons b t =>
      cases hb : dgB b with
      | false =>
        obtain ⟨s1, s2⟩ := span_mk t hxd hb
        unfold numT
        rw [s1, s2, if_neg (by simp), if_pos (by unfold okG3; rw [h2, decide_eq_true hx]; rfl)]
        rfl
      | true =>
        have h32 : b ≠ 32 := fun e => by rw [e] at hb; exact absurd hb (by decide)
        have hbad : takeT (tMid (dv x)) (b :: t) = .bad := by
          rw [takeT_beg, hm, begF_cons_ne h32]; rfl
        rw [hbad]
        obtain ⟨y, hy⟩ : ∃ y, spanT (x ++ b :: t) = x ++ b :: y := by
          refine ⟨spanT t, ?_⟩
          obtain ⟨e1, e2⟩ := spanT_all h1
          have := (span_end (l := x) (b :: t) e2).1
          rw [this]
          unfold spanT
          rw [List.takeWhile_cons, if_pos hb]
        have k1 : okW3 (spanT (x ++ b :: t)) = false := by
          rw [hy]; unfold okW3; rw [decide_eq_false (by rw [List.length_append, List.length_cons]; omega)]; rfl
        have k2 : okG3 (spanT (x ++ b :: t)) = false := by
          rw [hy]; unfold okG3; rw [decide_eq_false (by rw [List.length_append, List.length_cons]; omega)]; rfl
        unfold numT
        rw [k1, k2]
        split <;> rfl
theorem numN_eqR (q : List UInt8) : numT okWN okN q = if q = [] then .wait else if okN (spanT q) = false then .bad else if spanD q = [] then .wait else .got (dv (spanT q)) (spanD q) := by
  unfold numT
  by_cases h : q = []
  · subst h; rfl
  · rw [if_neg h]
    by_cases hd : spanD q = []
    · have e : spanT q = q := by have := span_app q; rw [hd, List.append_nil] at this; exact this
      rw [if_pos hd, if_pos hd, e]
      have ek : okWN q = okN q := by
        unfold okWN
        cases q with
        | nil => exact absurd rfl h
        | cons a b => rfl
      rw [ek]
      cases okN q <;> rfl
    · rw [if_neg hd, if_neg hd]
      cases okN (spanT q) <;> rfl
theorem respR_eq (l : List UInt8) : respR l = respF l := by
  have hstart : tStart.length = 9 := rfl
  unfold respR respF
  rw [takeT_beg]
  cases hb : begF l tStart with
  | false => rfl
  | true =>
    rw [if_neg (by simp), if_pos rfl, hstart]
    by_cases h9 : l.length < 9
    · have e : l.drop 9 = [] := List.drop_of_length_le (by omega)
      rw [if_pos h9, e, if_neg (by decide), if_pos (by omega)]
      rfl
    · rw [if_neg h9]
      show _ = Tk.bind (numT okW3 okG3 (l.drop 9)) _
      have hlen : (l.drop 9).length = l.length - 9 := List.length_drop
      cases hp : pre3 (l.drop 9) with
      | false => rw [num3_eq _ hp]; rfl
      | true =>
        rw [if_neg (by simp)]
        have hm := mid_eq _ hp
        have ha : ∀ b, begF l (tStart ++ b) = begF (l.drop 9) b := fun b => beg_app hb (by rw [hstart]; omega)
        have hd : ∀ b : List UInt8, l.drop (tStart ++ b).length = (l.drop 9).drop b.length := fun b => by rw [List.length_append, ← List.drop_drop, hstart]
        have hll : ∀ b : List UInt8, (l.length ≤ (tStart ++ b).length) = ((l.drop 9).length ≤ b.length) := fun b => by rw [List.length_append, hlen, hstart]; exact propext (by omega)
        have hl12 : (l.length < 12) = ((l.drop 9).length < 3) := by rw [hlen]; exact propext (by omega)
        simp only [ha, hd, hll, hl12]
        generalize l.drop 9 = r at *
        have step : ∀ (G : Nat → List UInt8 → Tk (Nat × Bool × Nat)), ((numT okW3 okG3 r).bind fun z q => (takeT (tMid z) q).bind fun _ q => G z q) = if r.length < 3 then .wait else (takeT (r.take 3 ++ tMid (dv (r.take 3))) r).bind fun _ q => G (dv (r.take 3)) q := fun G => by
          have := congrArg (fun t => Tk.bind t G) hm
          simp only [bind_assoc] at this
          rw [apply_ite (fun t => Tk.bind t G)] at this
          simp only [bind_assoc] at this
          exact this
        rw [step]
        by_cases h3 : r.length < 3
        · rw [if_pos h3, if_pos h3]
        · rw [if_neg h3, if_neg h3, takeT_beg]
          generalize r.take 3 ++ tMid (dv (r.take 3)) = s
          generalize dv (r.take 3) = z
          cases hs : begF r s with
          | false => rfl
          | true =>
            rw [if_neg (by simp), if_pos rfl]
            by_cases hlt : r.length < s.length
            · rw [if_pos (by omega), if_pos hlt]; rfl
            · rw [if_neg hlt]
              show _ = Tk.bind (numT okWN okN (r.drop s.length)) _
              rw [numN_eqR]
              by_cases he : r.length ≤ s.length
              · rw [if_pos he, if_pos (show r.drop s.length = [] from List.drop_of_length_le he)]; rfl
              · rw [if_neg he, if_neg (show ¬ r.drop s.length = [] from fun e => he (by have := congrArg List.length e; simp at this; omega))]
                generalize r.drop s.length = q
                cases ho : okN (spanT q) with
                | false => rfl
                | true =>
                  rw [if_neg (by simp), if_neg (by simp), closeR_eq]
                  by_cases hq : spanD q = []
                  · rw [if_pos hq, hq]; rfl
                  · rw [if_neg hq]
                    show _ = Tk.bind (closeT (spanD q)) _
                    congr 1
                    funext cl t
                    unfold bodyT
                    by_cases hn : t.length < dv (spanT q)
                    · rw [if_pos hn, if_pos hn]; rfl
                    · rw [if_neg hn, if_neg hn]; rfl
end Go.Proofs.YtkaimfeiahogaaaGreatDoor
