/-
  Plain Lean: the bytes of a response, read; what fronts tell; what is printed is read back.
-/
import Derived.Test.YtkaimfeiahogaaaGreatDoorHp5
import Derived.Test.YtkaimfeiahogaaaGreatDoorHw1
namespace Go.Proofs.YtkaimfeiahogaaaGreatDoor
set_option linter.all false
open Go.Lib

/-- What bytes tell: nothing yet; they cannot be; a value, and what stands behind it. -/
inductive Tk (α : Type) where
  | wait
  | bad
  | got (a : α) (r : List UInt8)
def Tk.bind {α β : Type} (x : Tk α) (f : α → List UInt8 → Tk β) : Tk β := match x with
  | .wait => .wait
  | .bad => .bad
  | .got a r => f a r
/-- What is told stays, whatever comes behind. -/
def Stays {α : Type} (p : List UInt8 → Tk α) : Prop := ∀ l t, (p l = .bad → p (l ++ t) = .bad) ∧ ∀ a r, p l = .got a r → p (l ++ t) = .got a (r ++ t)
theorem Stays.bind {α β : Type} {p : List UInt8 → Tk α} {f : α → List UInt8 → Tk β} (hp : Stays p) (hf : ∀ a, Stays (f a)) : Stays (fun l => (p l).bind f) := fun l t => by
  show ((p l).bind f = .bad → (p (l ++ t)).bind f = .bad) ∧ ∀ a r, (p l).bind f = .got a r → (p (l ++ t)).bind f = .got a (r ++ t)
  cases h : p l with
  | wait => exact ⟨fun e => (by cases e), fun a r e => by cases e⟩
  | bad => rw [(hp l t).1 h]; exact ⟨fun e => e, fun a r e => by cases e⟩
  | got a r => rw [(hp l t).2 a r h]; exact hf a r t
theorem stays_got {α : Type} (v : α) : Stays (fun r => Tk.got v r) := fun l t => ⟨fun e => (by cases e), fun a r e => by injection e with e1 e2; rw [e1, e2]⟩
/-- A text stands next. -/
def takeT (s l : List UInt8) : Tk Unit := if l.length < s.length then (if s.take l.length = l then .wait else .bad) else if l.take s.length = s then .got () (l.drop s.length) else .bad
theorem takeT_stays (s : List UInt8) : Stays (takeT s) := fun l t => by
  unfold takeT
  by_cases h : l.length < s.length
  · rw [if_pos h]
    by_cases g : s.take l.length = l
    · rw [if_pos g]; exact ⟨fun e => (by cases e), fun a r e => by cases e⟩
    · rw [if_neg g]
      refine ⟨fun _ => ?_, fun a r e => by cases e⟩
      by_cases k : (l ++ t).length < s.length
      · rw [if_pos k, if_neg]
        intro e
        apply g
        have := congrArg (List.take l.length) e
        rw [List.take_take, List.take_left, Nat.min_eq_left (by rw [List.length_append]; omega)] at this
        exact this
      · rw [if_neg k, if_neg]
        intro e
        apply g
        have := congrArg (List.take l.length) e
        rw [List.take_take, Nat.min_eq_left (by omega), List.take_left] at this
        exact this.symm
  · have h2 : ¬ (l ++ t).length < s.length := by rw [List.length_append]; omega
    rw [if_neg h, if_neg h2, List.take_append_of_le_length (by omega), List.drop_append_of_le_length (by omega)]
    by_cases g : l.take s.length = s
    · rw [if_pos g, if_pos g]
      exact ⟨fun e => (by cases e), fun a r e => by injection e with e1 e2; rw [e2]⟩
    · rw [if_neg g, if_neg g]
      exact ⟨fun e => e, fun a r e => by cases e⟩
theorem takeT_got (s r : List UInt8) : takeT s (s ++ r) = .got () r := by
  unfold takeT
  rw [if_neg (by rw [List.length_append]; omega), if_pos List.take_left, List.drop_left]
def dgB (c : UInt8) : Bool := decide (48 ≤ c.toNat) && decide (c.toNat ≤ 57)
def spanT (l : List UInt8) : List UInt8 := l.takeWhile dgB
def spanD (l : List UInt8) : List UInt8 := l.dropWhile dgB
theorem span_app (l : List UInt8) : spanT l ++ spanD l = l := List.takeWhile_append_dropWhile
theorem span_end {l : List UInt8} (t : List UInt8) (h : spanD l = []) : spanT (l ++ t) = l ++ spanT t ∧ spanD (l ++ t) = spanD t ∧ spanT l = l := by
  induction l with
  | nil => exact ⟨rfl, rfl, rfl⟩
  | cons b l ih =>
    unfold spanD at h
    rw [List.dropWhile_cons] at h
    by_cases g : dgB b = true
    · rw [if_pos g] at h
      obtain ⟨h1, h2, h3⟩ := ih h
      simp only [spanT, spanD] at h1 h2 h3 ⊢
      refine ⟨?_, ?_, ?_⟩
      · rw [List.cons_append, List.takeWhile_cons, if_pos g, h1, List.cons_append]
      · rw [List.cons_append, List.dropWhile_cons, if_pos g, h2]
      · rw [List.takeWhile_cons, if_pos g, h3]
    · rw [if_neg g] at h; cases h
theorem span_more {l : List UInt8} (t : List UInt8) (h : spanD l ≠ []) : spanT (l ++ t) = spanT l ∧ spanD (l ++ t) = spanD l ++ t := by
  induction l with
  | nil => exact absurd rfl h
  | cons b l ih =>
    simp only [spanT, spanD] at ih h ⊢
    rw [List.cons_append, List.takeWhile_cons, List.takeWhile_cons, List.dropWhile_cons, List.dropWhile_cons]
    by_cases g : dgB b = true
    · rw [List.dropWhile_cons, if_pos g] at h
      obtain ⟨h1, h2⟩ := ih h
      rw [if_pos g, if_pos g, if_pos g, if_pos g, h1, h2]
      exact ⟨rfl, rfl⟩
    · rw [if_neg g, if_neg g, if_neg g, if_neg g]
      exact ⟨rfl, rfl⟩
theorem dgB_iff {c : UInt8} : dgB c = true ↔ 48 ≤ c.toNat ∧ c.toNat ≤ 57 := by simp [dgB]
theorem spanT_dig (l : List UInt8) : DigB (spanT l) := fun b hb => by
  have : ∀ l : List UInt8, ∀ b ∈ l.takeWhile dgB, dgB b = true := fun l => by
    induction l with
    | nil => intro b hb; simp at hb
    | cons c l ih =>
      intro b hb
      rw [List.takeWhile_cons] at hb
      by_cases g : dgB c = true
      · rw [if_pos g] at hb
        rcases List.mem_cons.1 hb with rfl | hb
        · exact g
        · exact ih b hb
      · rw [if_neg g] at hb; simp at hb
  exact dgB_iff.1 (this l b hb)
theorem span_mk {d : List UInt8} {c : UInt8} (r : List UInt8) (hd : DigB d) (hc : dgB c = false) : spanT (d ++ c :: r) = d ∧ spanD (d ++ c :: r) = c :: r := by
  induction d with
  | nil =>
    simp only [spanT, spanD]
    rw [List.nil_append, List.takeWhile_cons, List.dropWhile_cons, if_neg (by rw [hc]; decide), if_neg (by rw [hc]; decide)]
    exact ⟨rfl, rfl⟩
  | cons b d ih =>
    obtain ⟨h1, h2⟩ := ih (fun x hx => hd x (List.mem_cons_of_mem _ hx))
    have hb : dgB b = true := dgB_iff.2 (hd b (List.mem_cons_self ..))
    simp only [spanT, spanD] at h1 h2 ⊢
    rw [List.cons_append, List.takeWhile_cons, List.dropWhile_cons, if_pos hb, if_pos hb, h1, h2]
    exact ⟨rfl, rfl⟩
/-- Digits stand next: at the end of the bytes okW tells whether more may come; ahead of another byte okG tells whether they are fine. -/
def numT (okW okG : List UInt8 → Bool) (l : List UInt8) : Tk Nat := if spanD l = [] then (if okW (spanT l) = true then .wait else .bad) else if okG (spanT l) = true then .got (dv (spanT l)) (spanD l) else .bad
theorem numT_stays {okW okG : List UInt8 → Bool} (h : ∀ d t, okW d = false → okW (d ++ t) = false ∧ okG (d ++ t) = false) : Stays (numT okW okG) := fun l t => by
  unfold numT
  by_cases g : spanD l = []
  · obtain ⟨g1, g2, g3⟩ := span_end t g
    rw [if_pos g, g3, g1, g2]
    cases k : okW l with
    | true => rw [if_pos rfl]; exact ⟨fun e => (by cases e), fun a r e => by cases e⟩
    | false =>
      obtain ⟨k1, k2⟩ := h l (spanT t) k
      rw [k1, k2]
      exact ⟨fun _ => by split <;> rfl, fun a r e => by simp at e⟩
  · obtain ⟨g1, g2⟩ := span_more t g
    rw [if_neg g, g1, g2, if_neg (fun e => g (List.append_eq_nil_iff.1 e).1)]
    by_cases k : okG (spanT l) = true
    · rw [if_pos k, if_pos k]
      exact ⟨fun e => (by cases e), fun a r e => by injection e with e1 e2; rw [e1, e2]⟩
    · rw [if_neg k, if_neg k]
      exact ⟨fun e => e, fun a r e => by cases e⟩
def okW3 (d : List UInt8) : Bool := decide (d.length ≤ 3) && d.head? != some 48
def okG3 (d : List UInt8) : Bool := decide (d.length = 3) && d.head? != some 48
def okN (d : List UInt8) : Bool := numF d && decide (dv d ≤ 9223372036854775807)
def okWN (d : List UInt8) : Bool := d.isEmpty || okN d
theorem ok3_stays (d t : List UInt8) (h : okW3 d = false) : okW3 (d ++ t) = false ∧ okG3 (d ++ t) = false := by
  unfold okW3 at h
  unfold okW3 okG3
  cases d with
  | nil => simp at h
  | cons b d =>
    simp only [Bool.and_eq_false_iff, decide_eq_false_iff_not, List.cons_append, List.head?_cons, List.length_cons, List.length_append] at h ⊢
    rcases h with h | h
    · exact ⟨.inl (by omega), .inl (by omega)⟩
    · exact ⟨.inr h, .inr h⟩
theorem dv_front (d t : List UInt8) : dv d ≤ dv (d ++ t) := by
  have := dv_mono (d ++ t) d.length (d.length + t.length) (by omega)
  rwa [List.take_left, List.take_of_length_le (by rw [List.length_append]; omega)] at this
theorem okN_stays (d t : List UInt8) (h : okWN d = false) : okWN (d ++ t) = false ∧ okN (d ++ t) = false := by
  unfold okWN at h ⊢
  simp only [Bool.or_eq_false_iff] at h ⊢
  have key : okN (d ++ t) = false := by
    have h2 := h.2
    cases d with
    | nil => simp at h
    | cons b d =>
      unfold okN at h2 ⊢
      rw [Bool.and_eq_false_iff] at h2 ⊢
      rcases h2 with h2 | h2
      · left
        cases k : numF (b :: d ++ t) with
        | false => rfl
        | true =>
          obtain ⟨k1, k2, k3⟩ := numF_iff.1 k
          have : numF (b :: d) = true := numF_iff.2 ⟨by simp, fun x hx => k2 x (List.mem_append.2 (.inl hx)), by
            rcases k3 with k3 | k3
            · left; simp only [List.length_append, List.length_cons] at k3 ⊢; omega
            · right; simpa using k3⟩
          rw [this] at h2; cases h2
      · right
        simp only [decide_eq_false_iff_not] at h2 ⊢
        have := dv_front (b :: d) t
        omega
  refine ⟨⟨?_, key⟩, key⟩
  cases d with
  | nil => simp at h
  | cons b d => rfl
def tStart : List UInt8 := tVers ++ [32]
def tMid (z : Nat) : List UInt8 := [32] ++ reasonF (z : Int) ++ [13, 10] ++ tCtype ++ [13, 10] ++ tLen ++ [58, 32]
/-- What stands behind the body's length. -/
def closeT (l : List UInt8) : Tk Bool := (takeT [13, 10] l).bind fun _ r => if r.head? = some 99 then (takeT (closeLine ++ [13, 10]) r).bind fun _ r => (takeT [13, 10] r).bind fun _ r => .got true r else (takeT [13, 10] r).bind fun _ r => .got false r
theorem stays_if {α : Type} {A B : List UInt8 → Tk α} {c : UInt8} (hA : Stays A) (hB : Stays B) (h0 : B [] = .wait) : Stays (fun r => if r.head? = some c then A r else B r) := fun l t => by
  cases l with
  | nil =>
    show ((if ([] : List UInt8).head? = some c then A [] else B []) = .bad → _) ∧ ∀ a r, (if ([] : List UInt8).head? = some c then A [] else B []) = .got a r → _
    rw [if_neg (by simp), h0]
    exact ⟨fun e => (by cases e), fun a r e => by cases e⟩
  | cons b l =>
    show ((if (b :: l).head? = some c then A (b :: l) else B (b :: l)) = .bad → (if (b :: l ++ t).head? = some c then A (b :: l ++ t) else B (b :: l ++ t)) = .bad) ∧ ∀ a r, (if (b :: l).head? = some c then A (b :: l) else B (b :: l)) = .got a r → (if (b :: l ++ t).head? = some c then A (b :: l ++ t) else B (b :: l ++ t)) = .got a (r ++ t)
    have e : (b :: l ++ t).head? = (b :: l).head? := rfl
    rw [e]
    split
    · exact hA _ t
    · exact hB _ t
theorem closeT_stays : Stays closeT :=
  (takeT_stays _).bind fun _ => stays_if ((takeT_stays _).bind fun _ => (takeT_stays _).bind fun _ => stays_got true) ((takeT_stays _).bind fun _ => stays_got false) (by rfl)
def bodyT (n : Nat) (l : List UInt8) : Tk Unit := if l.length < n then .wait else .got () l
theorem bodyT_stays (n : Nat) : Stays (bodyT n) := fun l t => by
  unfold bodyT
  by_cases h : l.length < n
  · rw [if_pos h]; exact ⟨fun e => (by cases e), fun a r e => by cases e⟩
  · rw [if_neg h, if_neg (by rw [List.length_append]; omega)]
    exact ⟨fun e => (by cases e), fun a r e => by injection e with e1 e2; rw [e2]⟩
/-- A response at the beginning of bytes: its status, whether it closes, its body's length; what stands behind the head. -/
def respF (l : List UInt8) : Tk (Nat × Bool × Nat) :=
  (takeT tStart l).bind fun _ r => (numT okW3 okG3 r).bind fun z r => (takeT (tMid z) r).bind fun _ r => (numT okWN okN r).bind fun n r => (closeT r).bind fun cl r => (bodyT n r).bind fun _ r => .got (z, cl, n) r
theorem respF_stays : Stays respF :=
  (takeT_stays _).bind fun _ => (numT_stays ok3_stays).bind fun _ => (takeT_stays _).bind fun _ => (numT_stays okN_stays).bind fun _ => closeT_stays.bind fun _ => (bodyT_stays _).bind fun _ => stays_got _
theorem bind_got {α β : Type} {x : Tk α} {f : α → List UInt8 → Tk β} {b : β} {r : List UInt8} (h : x.bind f = .got b r) : ∃ a q, x = .got a q ∧ f a q = .got b r := by
  cases x with
  | wait => cases h
  | bad => cases h
  | got a q => exact ⟨a, q, rfl, h⟩
theorem respF_len {l r : List UInt8} {z n : Nat} {cl : Bool} (h : respF l = .got (z, cl, n) r) : n ≤ r.length := by
  unfold respF at h
  obtain ⟨_, _, _, h⟩ := bind_got h
  obtain ⟨_, _, _, h⟩ := bind_got h
  obtain ⟨_, _, _, h⟩ := bind_got h
  obtain ⟨_, _, _, h⟩ := bind_got h
  obtain ⟨_, _, _, h⟩ := bind_got h
  obtain ⟨_, q, h1, h⟩ := bind_got h
  injection h with h2 h3
  simp at h2
  obtain ⟨rfl, rfl, rfl⟩ := h2
  unfold bodyT at h1
  split at h1
  · cases h1
  · injection h1 with h4 h5; subst h5 h3; omega
/-- A front of a response tells nothing yet. -/
theorem resp_front {x t b : List UInt8} {z n : Nat} {cl : Bool} (h : respF (x ++ t) = .got (z, cl, n) b) (hb : b.length = n) (ht : t ≠ []) : respF x = .wait := by
  cases hx : respF x with
  | wait => rfl
  | bad => rw [(respF_stays x t).1 hx] at h; cases h
  | got v q =>
    obtain ⟨z', cl', n'⟩ := v
    rw [(respF_stays x t).2 _ _ hx] at h
    injection h with h1 h2
    simp at h1
    obtain ⟨rfl, rfl, rfl⟩ := h1
    have := respF_len hx
    have := List.length_pos_iff.2 ht
    rw [← h2, List.length_append] at hb
    omega
theorem dv_lt {d : List UInt8} (h : DigB d) : dv d < 10 ^ d.length := by
  have : ∀ (k : Nat) (d : List UInt8), d.length = k → DigB d → dv d < 10 ^ k := fun k => by
    induction k with
    | zero => intro d hd _; rw [List.eq_nil_of_length_eq_zero hd]; decide
    | succ k ih =>
      intro d hd h
      obtain ⟨e, b, rfl⟩ : ∃ e b, d = e ++ [b] := ⟨d.dropLast, d.getLast (by intro e; rw [e] at hd; simp at hd), (List.dropLast_concat_getLast _).symm⟩
      rw [dv_snoc]
      have h1 := ih e (by simp at hd; omega) (fun x hx => h x (List.mem_append.2 (.inl hx)))
      have h2 := h b (by simp)
      rw [Nat.pow_succ]
      omega
  exact this _ _ rfl h
theorem txt_three {z : Nat} (h1 : 100 ≤ z) (h2 : z ≤ 999) : okG3 (txt (z : Int)) = true ∧ dv (txt (z : Int)) = z := by
  obtain ⟨t1, t2⟩ := txt_nonneg (z := (z : Int)) (by omega)
  obtain ⟨k1, k2, k3⟩ := numF_iff.1 t1
  have h3 : dv (txt (z : Int)) = z := by rw [t2]; omega
  have h4 := dv_lt k2
  have h5 : (txt (z : Int)).length ≤ 3 := by
    unfold txt
    rw [if_neg (by omega), if_neg (by omega)]
    exact dec_len_le 3 _ (by simp; omega)
  have h6 : (txt (z : Int)).length = 3 := by
    have hp : 0 < (txt (z : Int)).length := List.length_pos_iff.2 k1
    generalize (txt (z : Int)).length = k at *
    rw [h3] at h4
    have : k = 1 ∨ k = 2 ∨ k = 3 := by omega
    rcases this with rfl | rfl | rfl
    · omega
    · omega
    · rfl
  refine ⟨?_, h3⟩
  unfold okG3
  rcases k3 with k3 | k3
  · omega
  · simp [h6, k3]
/-- A response that is printed is read back. -/
theorem resp_print {z n : Nat} (cl : Bool) (h1 : 100 ≤ z) (h2 : z ≤ 999) (hn : n ≤ 9223372036854775807) {t : List UInt8} (ht : n ≤ t.length) : respF (respH (z : Int) n cl ++ t) = .got (z, cl, n) t := by
  obtain ⟨z1, z2⟩ := txt_three h1 h2
  obtain ⟨t1, t2⟩ := txt_nonneg (z := (n : Int)) (by omega)
  have d1 := txt_dig (z := (z : Int)) (by omega)
  have d2 := txt_dig (z := (n : Int)) (by omega)
  have hk : okN (txt (n : Int)) = true := by
    unfold okN; rw [t1, t2]; simp; omega
  have hdn : dv (txt (n : Int)) = n := by rw [t2]; omega
  obtain ⟨C, hC⟩ : ∃ C, (if cl = true then closeLine ++ [13, 10] else []) ++ [13, 10] ++ t = C := ⟨_, rfl⟩
  have e : respH (z : Int) n cl ++ t = tStart ++ (txt (z : Int) ++ 32 :: ((reasonF (z : Int) ++ [13, 10] ++ tCtype ++ [13, 10] ++ tLen ++ [58, 32]) ++ (txt (n : Int) ++ 13 :: (10 :: C)))) := by
    rw [← hC]
    unfold respH respA tStart lenLine
    simp only [List.append_assoc, List.cons_append, List.nil_append]
  have hclose : closeT (13 :: 10 :: C) = .got cl t := by
    unfold closeT
    rw [show (13 :: 10 :: C : List UInt8) = [13, 10] ++ C from rfl, takeT_got]
    show (if C.head? = some 99 then _ else _) = _
    rw [← hC]
    cases cl with
    | true =>
      rw [if_pos (by rfl)]
      simp only [if_true, List.append_assoc]
      rw [show closeLine ++ ([13, 10] ++ ([13, 10] ++ t)) = (closeLine ++ [13, 10]) ++ ([13, 10] ++ t) by simp, takeT_got]
      show (takeT [13, 10] ([13, 10] ++ t)).bind (fun _ r => Tk.got true r) = _
      rw [takeT_got]
      rfl
    | false =>
      rw [if_neg (by simp)]
      show (takeT [13, 10] ([13, 10] ++ t)).bind (fun _ r => Tk.got false r) = _
      rw [takeT_got]
      rfl
  rw [e]
  unfold respF
  rw [takeT_got]
  show ((numT okW3 okG3 (txt (z : Int) ++ 32 :: _)).bind _) = _
  obtain ⟨s1, s2⟩ := span_mk (d := txt (z : Int)) (c := 32) ((reasonF (z : Int) ++ [13, 10] ++ tCtype ++ [13, 10] ++ tLen ++ [58, 32]) ++ (txt (n : Int) ++ 13 :: (10 :: C))) d1 (by decide)
  rw [show numT okW3 okG3 (txt (z : Int) ++ 32 :: ((reasonF (z : Int) ++ [13, 10] ++ tCtype ++ [13, 10] ++ tLen ++ [58, 32]) ++ (txt (n : Int) ++ 13 :: (10 :: C)))) = .got z (tMid z ++ (txt (n : Int) ++ 13 :: (10 :: C))) by
    unfold numT
    rw [s1, s2, if_neg (by simp), if_pos z1, z2]
    unfold tMid
    simp only [List.append_assoc, List.cons_append, List.nil_append]]
  show (takeT (tMid z) _).bind _ = _
  rw [takeT_got]
  show (numT okWN okN _).bind _ = _
  obtain ⟨s3, s4⟩ := span_mk (d := txt (n : Int)) (c := 13) (10 :: C) d2 (by decide)
  rw [show numT okWN okN (txt (n : Int) ++ 13 :: (10 :: C)) = .got n (13 :: 10 :: C) by
    unfold numT
    rw [s3, s4, if_neg (by simp), if_pos hk, hdn]]
  show (closeT _).bind _ = _
  rw [hclose]
  show (bodyT n t).bind _ = _
  unfold bodyT
  rw [if_neg (by omega)]
  rfl
end Go.Proofs.YtkaimfeiahogaaaGreatDoor
