/-
  Plain: what is read has the form that is printed, and is short.
-/
import Derived.Test.YtnjlggleaocbdaaGreatDoorDp4
namespace Go.Proofs.YtnjlggleaocbdaaGreatDoor.Pl
set_option linter.all false
open Go.Lib

/-- A token that is in no bad text. -/
def TokOK (t : Tok) : Prop := (t.k = 110 → 0 ≤ t.n ∧ t.n ≤ 4611686018427387904 ∧ t.s = itoa t.n) ∧ (t.k = 116 → textB t.s = true)
def costT (t : Tok) : Nat := 10 + (tokX t.k0).length
def costs (ts : List Tok) : Nat := (ts.map costT).sum
theorem escQ_app : ∀ (a b : List UInt8), escQ (a ++ b) = escQ a ++ escQ b
  | [], b => rfl
  | c :: a, b => by
    simp only [List.cons_append, escQ, escQ_app a b]
    split
    · rfl
    · split <;> rfl
theorem quo_size : ∀ (n : Nat) (r : List UInt8) (i : Nat) (acc a : List UInt8) (m : Nat), r.length ≤ n → quoF r i acc = some (a, m) → m + (escQ acc).length = i + (escQ a).length + 1 ∧ i + 1 ≤ m ∧ m ≤ i + r.length := by
  intro n
  induction n with
  | zero =>
    intro r i acc a m hr h
    cases r with
    | nil => simp [quoF] at h
    | cons c r => simp at hr
  | succ n ih =>
    intro r i acc a m hr h
    cases r with
    | nil => simp [quoF] at h
    | cons c r =>
      simp only [List.length_cons] at hr ⊢
      rw [quoF.eq_def] at h
      simp only at h
      split at h
      · injection h with h; injection h with h1 h2; subst h1; omega
      rename_i hc
      split at h
      · cases h
      split at h
      · cases r with
        | nil => simp at h
        | cons d r =>
          simp only [List.length_cons] at hr ⊢
          simp only at h
          split at h
          · rename_i hd
            obtain ⟨h1, h2, h3⟩ := ih _ _ _ _ _ (by omega) h
            have e : (escQ [d]).length = 2 := by
              simp only [escQ]
              rcases hd with e | e
              · rw [if_neg (by omega), if_pos e]; rfl
              · rw [if_pos e]; rfl
            rw [escQ_app, List.length_append, e] at h1
            omega
          · cases h
      · rename_i h92
        obtain ⟨h1, h2, h3⟩ := ih _ _ _ _ _ (by omega) h
        have e : (escQ [c]).length = 1 := by simp only [escQ]; rw [if_neg h92, if_neg hc]; rfl
        rw [escQ_app, List.length_append, e] at h1
        omega
theorem numB_itoa' {s : List UInt8} (h : numB s = true) (hd : headB digitB s = true) : 0 ≤ numV s ∧ numV s ≤ 4611686018427387904 ∧ s = itoa (numV s) := by
  unfold numB at h
  unfold numV
  cases ha : atoiAll s with
  | range => rw [ha] at h; cases h
  | ok n =>
    rw [ha] at h
    simp only [Bool.and_eq_true, decide_eq_true_eq] at h ⊢
    refine ⟨?_, h.2, h.1.symm⟩
    rcases Int.lt_or_le n 0 with hn | hn
    · rw [← h.1] at hd
      unfold itoa at hd
      rw [if_pos hn] at hd
      simp [headB, digitB] at hd
    · exact hn
  | _ => rw [ha] at h; cases h
theorem span_le (l : List UInt8) : spanW l ≤ l.length := by
  induction l with
  | nil => simp [spanW]
  | cons c r ih => simp only [spanW, List.length_cons]; split <;> omega
theorem next_ok (c : UInt8) (r : List UInt8) (q : Nat) : TokOK ((nextF c r).1.at q) ∧ (tokX (nextF c r).1).length ≤ (nextF c r).2 ∧ 1 ≤ (nextF c r).2 ∧ (nextF c r).2 ≤ r.length + 1 := by
  unfold nextF
  split
  · have hl := span_le r
    simp only
    refine ⟨?_, ?_, by omega, by omega⟩
    · unfold namedF
      split
      · rename_i hd
        split
        · rename_i hn
          exact ⟨fun _ => numB_itoa' hn hd, fun h => by simp [Tk0.at] at h⟩
        · exact ⟨fun h => by simp [Tk0.at] at h, fun h => by simp [Tk0.at] at h⟩
      · split
        · exact ⟨fun h => by simp [Tk0.at] at h, fun h => by simp [Tk0.at] at h⟩
        · exact ⟨fun h => by simp [Tk0.at] at h, fun h => by simp [Tk0.at] at h⟩
    · have e : (tokX (namedF (c :: r.take (spanW r)))).length = (c :: r.take (spanW r)).length := by
        unfold namedF
        split
        · split <;> simp [tokX]
        · split <;> simp [tokX]
      rw [e]; simp; omega
  split
  · unfold quotedF
    split
    · rename_i a n hq
      obtain ⟨h1, h2, h3⟩ := quo_size _ _ _ _ _ _ (Nat.le_refl _) hq
      simp only [escQ, List.length_nil] at h1
      simp only
      refine ⟨?_, ?_, by omega, by omega⟩
      · cases ht : textB a with
        | true => simp [TokOK, Tk0.at, ht]
        | false => simp [TokOK, Tk0.at]
      · cases ht : textB a with
        | true => simp [tokX, quoteX]; omega
        | false =>
          have : a.length ≤ (escQ a).length := by
            clear hq h1 h2 h3 ht
            induction a with
            | nil => simp
            | cons d a ih => simp only [escQ]; split; · simp; omega
                             · split <;> simp <;> omega
          simp [tokX]; omega
    · exact ⟨⟨fun h => by simp [Tk0.at] at h, fun h => by simp [Tk0.at] at h⟩, by simp [tokX], by simp, by simp⟩
  split
  · rename_i hr
    refine ⟨⟨fun h => by simp [Tk0.at] at h, fun h => by simp [Tk0.at] at h⟩, by simp [tokX], by simp, ?_⟩
    cases r with
    | nil => simp [isEq, headB] at hr
    | cons d r => simp
  split
  · exact ⟨⟨fun h => by simp [Tk0.at] at h, fun h => by simp [Tk0.at] at h⟩, by simp [tokX], by simp, by simp⟩
  · exact ⟨⟨fun h => by simp [Tk0.at] at h, fun h => by simp [Tk0.at] at h⟩, by simp [tokX], by simp, by simp⟩
theorem skip_len : ∀ (l : List UInt8) (b : Bool) (p q : Nat) (r : List UInt8), skipF b p l = (q, r) → r.length ≤ l.length := by
  intro l
  induction l with
  | nil => intro b p q r h; cases b <;> simp [skipF] at h <;> simp [← h.2]
  | cons c l ih =>
    intro b p q r h
    cases b with
    | true =>
      simp only [skipF] at h
      split at h
      · have := ih _ _ _ _ h; simp; omega
      · have := ih _ _ _ _ h; simp; omega
    | false =>
      simp only [skipF] at h
      split at h
      · have := ih _ _ _ _ h; simp; omega
      split at h
      · have := ih _ _ _ _ h; simp; omega
      split at h
      · have := ih _ _ _ _ h; simp; omega
      · injection h with _ h; rw [← h]; exact Nat.le_refl _
theorem lex_ok : ∀ (f p : Nat) (l : List UInt8), l.length + 1 ≤ f → (∀ t ∈ lexF f p l, TokOK t) ∧ costs (lexF f p l) ≤ 11 * l.length + 10 := by
  intro f
  induction f with
  | zero => intro p l h; omega
  | succ f ih =>
    intro p l h
    simp only [lexF]
    generalize hsk : skipF false p l = qr
    obtain ⟨q, r⟩ := qr
    have h1 := skip_len _ _ _ _ _ hsk
    cases r with
    | nil => simp [TokOK, costs, costT, tokX, Tok.k0]
    | cons c r =>
      simp only [List.length_cons] at h1
      obtain ⟨k1, k2, k3, k4⟩ := next_ok c r q
      simp only
      split
      · refine ⟨fun t ht => ?_, ?_⟩
        · simp only [List.mem_singleton] at ht; subst ht; exact k1
        · simp only [costs, List.map_cons, List.map_nil, List.sum_cons, List.sum_nil, costT, Tk0.at_k0]; omega
      · have h3 : ((c :: r).drop (nextF c r).2).length + (nextF c r).2 ≤ l.length := by rw [List.length_drop, List.length_cons]; omega
        obtain ⟨i1, i2⟩ := ih q ((c :: r).drop (nextF c r).2) (by omega)
        refine ⟨fun t ht => ?_, ?_⟩
        · rcases List.mem_cons.1 ht with rfl | ht
          · exact k1
          · exact i1 t ht
        · simp only [costs, List.map_cons, List.sum_cons, costT, Tk0.at_k0] at i2 ⊢; omega
theorem costs_cons (t : Tok) (ts : List Tok) : costs (t :: ts) = costT t + costs ts := by simp [costs]
/-- What is left of tokens. -/
def Rest (ts r : List Tok) : Prop := ∀ t ∈ r, t ∈ ts
theorem may_snd {s : List UInt8} {ts r : List Tok} (h : mayF s ts = some r) : ∃ t, ts = t :: r ∧ t.s = s ∧ costT t = 10 + s.length := by
  cases ts with
  | nil => simp [mayF] at h
  | cons t ts =>
    simp only [mayF] at h
    split at h
    · rename_i ht
      injection h with h; subst h
      simp only [isT, Bool.and_eq_true, beq_iff_eq, Bool.or_eq_true, decide_eq_true_eq] at ht
      refine ⟨t, rfl, ht.1, ?_⟩
      unfold costT tokX
      rw [if_neg (by rcases ht.2 with e | e <;> simp [Tok.k0, e])]
      simp only [Tok.k0, ht.1]
    · cases h
theorem must_snd {s : List UInt8} {ts r : List Tok} {u : Unit} (h : mustF s ts = .ok u r) : ∃ t, ts = t :: r ∧ t.s = s ∧ costT t = 10 + s.length := by
  unfold mustF at h
  split at h
  · rename_i r' hm; injection h with _ h; subst h; exact may_snd hm
  · cases h
theorem nm_snd {ts r : List Tok} {s : List UInt8} (h : nmF ts = .ok s r) : nameB s = true ∧ ∃ t, ts = t :: r ∧ costT t = 10 + s.length := by
  cases ts with
  | nil => simp [nmF] at h
  | cons t ts =>
    simp only [nmF] at h
    split at h
    · rename_i hn
      injection h with h1 h2; subst h1 h2
      simp only [isNm, Bool.and_eq_true, decide_eq_true_eq] at hn
      refine ⟨hn.2, t, rfl, ?_⟩
      unfold costT tokX
      rw [if_neg (by simp [Tok.k0, hn.1])]
      rfl
    · cases h
theorem one_snd : ∀ {l : List (List UInt8)} {i j : Nat} {ts r : List Tok}, oneF l i ts = some (j, r) → ∃ k s t, j = i + k ∧ l[k]? = some s ∧ s ≠ [] ∧ ts = t :: r ∧ costT t = 10 + s.length
  | [], i, j, ts, r, h => by simp [oneF] at h
  | s :: l, i, j, ts, r, h => by
    rw [oneF] at h
    split at h
    · obtain ⟨k, s', t, h1, h2, h3, h4, h5⟩ := one_snd h
      exact ⟨k + 1, s', t, by omega, by simpa using h2, h3, h4, h5⟩
    · rename_i hs
      split at h
      · rename_i r' hm
        injection h with h; injection h with h1 h2; subst h1 h2
        obtain ⟨t, h3, h4, h5⟩ := may_snd hm
        exact ⟨0, s, t, rfl, rfl, hs, h3, h5⟩
      · obtain ⟨k, s', t, h1, h2, h3, h4, h5⟩ := one_snd h
        exact ⟨k + 1, s', t, by omega, by simpa using h2, h3, h4, h5⟩
theorem bind_ok {α β : Type} {x : PR α} {f : α → List Tok → PR β} {b : β} {r : List Tok} (h : x.bind f = .ok b r) : ∃ a r', x = .ok a r' ∧ f a r' = .ok b r := by
  cases x with
  | ok a r' => exact ⟨a, r', rfl, h⟩
  | no p e => cases h
/-- What is read of expressions. -/
structure Snd (e : ExprT) (ts r : List Tok) : Prop where
  f : fineE e = true
  c : (layX e).length + 4 + costs r ≤ costs ts
  s : Rest ts r
theorem par_len (q : Bool) (s : List UInt8) : (parX q s).length ≤ s.length + 2 := by
  cases q <;> simp [parX] <;> omega
theorem fine_bin {op : Int} (h : binB op = true) {a b : ExprT} (ha : fineE a = true) (hb : fineE b = true) : fineE (.mk op 0 [] [a, b]) = true := by
  simp only [binB, Bool.and_eq_true, decide_eq_true_eq, Bool.not_eq_true', decide_eq_false_iff_not] at h
  rw [fineE.eq_def]
  simp only [fine1, fineL, ha, hb, Bool.and_true, Bool.and_eq_true, decide_eq_true_eq]
  refine ⟨?_, ?_⟩
  · unfold argsN; rw [if_neg (by omega), if_neg (by omega), if_neg (by omega)]; rfl
  · rw [if_neg (by omega), if_neg (by omega), if_neg (by omega), if_neg (by omega)]; rfl
theorem snd_bin {op : Int} (h : binB op = true) {a b : ExprT} {ts r1 r2 r3 : List Tok} {t : Tok} (ha : (layX a).length + 4 + costs r1 ≤ costs ts ∧ fineE a = true) (ht : r1 = t :: r2) (hc : costT t = 10 + (signX op).length) (hb : Snd b r2 r3) : fineE (.mk op 0 [] [a, b]) = true ∧ (layX (.mk op 0 [] [a, b])).length + 4 + costs r3 ≤ costs ts := by
  refine ⟨fine_bin h ha.2 hb.f, ?_⟩
  rw [layX_bin h]
  have p1 := par_len (decide (leftN op ≤ bindN a.op)) (layX a)
  have p2 := par_len (decide (bindN op + 1 ≤ bindN b.op)) (layX b)
  have h1 := ha.1
  have h2 := hb.c
  rw [ht, costs_cons, hc] at h1
  simp only [List.length_append, List.length_cons, List.length_nil]
  omega
theorem ops_at {k i : Nat} {s : List UInt8} (h : ((opsK k).map signX)[i]? = some s) : binB ((opsK k).getD i 0) = true ∧ signX ((opsK k).getD i 0) = s := by
  rw [List.getElem?_map] at h
  cases ho : (opsK k)[i]? with
  | none => rw [ho] at h; cases h
  | some op =>
    rw [ho] at h
    have : (opsK k).getD i 0 = op := by rw [List.getD_eq_getElem?_getD, ho]; rfl
    rw [this]
    exact ⟨(ops_bin k op (List.mem_of_getElem? ho)).1, by simpa using h⟩
theorem loop_snd {k : Nat} {part : List Tok → PR ExprT} (hp : ∀ e ts r, (∀ t ∈ ts, TokOK t) → part ts = .ok e r → Snd e ts r) : ∀ (n : Nat) (c : ExprT) (ts r t0 : List Tok) (e : ExprT), (∀ t ∈ ts, TokOK t) → Snd c t0 ts → loopF part (opsK k) n c ts = .ok e r → Snd e t0 r := by
  intro n
  induction n with
  | zero =>
    intro c ts r t0 e hok hc h
    cases ho : oneF ((opsK k).map signX) 0 ts with
    | none => simp only [loopF, ho] at h; injection h with h1 h2; subst h1 h2; exact hc
    | some p => obtain ⟨i, r1⟩ := p; simp only [loopF, ho] at h; cases h
  | succ n ih =>
    intro c ts r t0 e hok hc h
    cases ho : oneF ((opsK k).map signX) 0 ts with
    | none => rw [loopF.eq_def] at h; simp only [ho] at h; injection h with h1 h2; subst h1 h2; exact hc
    | some p =>
      obtain ⟨i, r1⟩ := p
      rw [loopF.eq_def] at h
      simp only [ho] at h
      obtain ⟨d, r2, hd, h⟩ := bind_ok h
      obtain ⟨j, s, t, e1, e2, -, e3, e4⟩ := one_snd ho
      obtain rfl : i = j := by omega
      obtain ⟨b1, b2⟩ := ops_at e2
      have hok1 : ∀ t ∈ r1, TokOK t := fun t ht => hok t (by rw [e3]; simp [ht])
      have sd := hp d r1 r2 hok1 hd
      obtain ⟨q1, q2⟩ := snd_bin b1 ⟨hc.c, hc.f⟩ e3 (by rw [e4, b2]) sd
      refine ih _ r2 r t0 e (fun t ht => hok1 t (sd.s t ht)) ⟨q1, q2, fun t ht => hc.s t ?_⟩ h
      rw [e3]; simp [sd.s t ht]
theorem fine_leaf (op n : Int) (s : List UInt8) (h : fine1 op n s 0 = true) : fineE (.mk op n s []) = true := by
  rw [fineE.eq_def]; simp [fineL, h]
theorem fine_one {op : Int} (h : op = 8 ∨ op = 20) {a : ExprT} (ha : fineE a = true) : fineE (.mk op 0 [] [a]) = true := by
  rw [fineE.eq_def]; rcases h with rfl | rfl <;> simp [fine1, argsN, fineL, ha]
theorem expr_snd : ∀ (f l : Nat) (e : ExprT) (ts r : List Tok), (∀ t ∈ ts, TokOK t) → exprF f l ts = .ok e r → Snd e ts r := by
  intro f
  induction f with
  | zero => intro l e ts r _ h; simp [exprF] at h
  | succ f ih =>
    intro l e ts r hok h
    have lp : ∀ k j, (exprF f j ts).bind (fun c r => loopF (exprF f j) (opsK k) r.length c r) = .ok e r → Snd e ts r := by
      intro k j h
      obtain ⟨c, r1, hc, h⟩ := bind_ok h
      have sc := ih j c ts r1 hok hc
      exact loop_snd (fun e ts r hok h => ih j e ts r hok h) _ c r1 r ts e (fun t ht => hok t (sc.s t ht)) sc h
    match l, h with
    | 0, h => exact lp 1 1 h
    | 1, h => exact lp 2 2 h
    | 3, h => exact lp 5 4 h
    | 4, h => exact lp 6 5 h
    | 2, h =>
      simp only [exprF] at h
      split at h
      · rename_i r1 hm
        obtain ⟨c, r2, hc, h⟩ := bind_ok h
        obtain ⟨t, e1, -, e2⟩ := may_snd hm
        injection h with h1 h2; subst h1 h2
        have sc := ih 2 c r1 r2 (fun t ht => hok t (by rw [e1]; simp [ht])) hc
        have p1 := par_len (decide (3 ≤ bindN c.op)) (layX c)
        have h2 := sc.c
        refine ⟨fine_one (.inl rfl) sc.f, ?_, fun t ht => by rw [e1]; simp [sc.s t ht]⟩
        rw [e1, costs_cons, e2, layX_not]
        simp only [List.length_append, List.length_cons, List.length_nil]
        omega
      · obtain ⟨c, r1, hc, h⟩ := bind_ok h
        have sc := ih 3 c ts r1 hok hc
        split at h
        · injection h with h1 h2; subst h1 h2; exact sc
        · rename_i i r2 ho
          obtain ⟨d, r3, hd, h⟩ := bind_ok h
          injection h with h1 h2; subst h1 h2
          obtain ⟨j, s, t, e1, e2, -, e3, e4⟩ := one_snd ho
          obtain rfl : i = j := by omega
          obtain ⟨b1, b2⟩ := ops_at (k := 4) e2
          have hok1 : ∀ t ∈ r2, TokOK t := fun t ht => hok t (sc.s t (by rw [e3]; simp [ht]))
          have sd := ih 3 d r2 r3 hok1 hd
          obtain ⟨q1, q2⟩ := snd_bin b1 ⟨sc.c, sc.f⟩ e3 (by rw [e4, b2]) sd
          exact ⟨q1, q2, fun t ht => sc.s t (by rw [e3]; simp [sd.s t ht])⟩
    | l + 5, h =>
      simp only [exprF] at h
      split at h
      · rename_i r1 hm
        obtain ⟨c, r2, hc, h⟩ := bind_ok h
        obtain ⟨t, e1, -, e2⟩ := may_snd hm
        injection h with h1 h2; subst h1 h2
        have sc := ih 5 c r1 r2 (fun t ht => hok t (by rw [e1]; simp [ht])) hc
        have p1 := par_len (decide (7 ≤ bindN c.op)) (layX c)
        have h2 := sc.c
        refine ⟨fine_one (.inr rfl) sc.f, ?_, fun t ht => by rw [e1]; simp [sc.s t ht]⟩
        rw [e1, costs_cons, e2, layX_neg]
        simp only [List.length_append, List.length_cons, List.length_nil]
        omega
      split at h
      · rename_i r1 hm
        obtain ⟨c, r2, hc, h⟩ := bind_ok h
        obtain ⟨u, r3, hu, h⟩ := bind_ok h
        obtain ⟨t, e1, -, e2⟩ := may_snd hm
        obtain ⟨t', e3, -, e4⟩ := must_snd hu
        injection h with h1 h2; subst h1 h2
        have sc := ih 0 c r1 r2 (fun t ht => hok t (by rw [e1]; simp [ht])) hc
        have h2 := sc.c
        rw [e3, costs_cons] at h2
        refine ⟨sc.f, by rw [e1, costs_cons]; omega, fun t ht => ?_⟩
        rw [e1]
        exact List.mem_cons_of_mem _ (sc.s t (by rw [e3]; simp [ht]))
      split at h
      · rename_i r1 hm
        obtain ⟨s, r2, hs, h⟩ := bind_ok h
        obtain ⟨t, e1, -, e2⟩ := may_snd hm
        obtain ⟨n1, t', e3, e4⟩ := nm_snd hs
        injection h with h1 h2; subst h1 h2
        refine ⟨fine_leaf _ _ _ (by simp [fine1, argsN, n1]), ?_, fun t ht => by rw [e1, e3]; simp [ht]⟩
        rw [e1, e3, costs_cons, costs_cons, e2, e4, layX.eq_def]
        simp
        omega
      split at h
      · rename_i r1 hm
        obtain ⟨t, e1, -, e2⟩ := may_snd hm
        injection h with h1 h2; subst h1 h2
        refine ⟨fine_leaf _ _ _ (by simp [fine1, argsN]), ?_, fun t ht => by rw [e1]; simp [ht]⟩
        rw [e1, costs_cons, e2, layX.eq_def]
        first | (simp; done) | (simp; omega)
      split at h
      · rename_i r1 hm
        obtain ⟨t, e1, -, e2⟩ := may_snd hm
        injection h with h1 h2; subst h1 h2
        refine ⟨fine_leaf _ _ _ (by simp [fine1, argsN]), ?_, fun t ht => by rw [e1]; simp [ht]⟩
        rw [e1, costs_cons, e2, layX.eq_def]
        first | (simp; done) | (simp; omega)
      cases ts with
      | nil => simp at h
      | cons t ts =>
        simp only at h
        have ht := hok t (by simp)
        split at h
        · rename_i hk
          injection h with h1 h2; subst h1 h2
          obtain ⟨q1, q2, q3⟩ := ht.1 hk
          refine ⟨fine_leaf _ _ _ (by simp [fine1, argsN, q1, q2]), ?_, fun t ht => by simp [ht]⟩
          have hc : costT t = 10 + (itoa t.n).length := by unfold costT tokX; rw [if_neg (by simp [Tok.k0, hk])]; simp only [Tok.k0]; rw [← q3]
          rw [costs_cons, hc, layX.eq_def]
          simp
          omega
        split at h
        · rename_i hk
          injection h with h1 h2; subst h1 h2
          refine ⟨fine_leaf _ _ _ (by simp [fine1, argsN, ht.2 hk]), ?_, fun t ht => by simp [ht]⟩
          have hc : costT t = 10 + (quoteX t.s).length := by unfold costT tokX; rw [if_pos (by simp [Tok.k0, hk])]; rfl
          rw [costs_cons, hc, layX.eq_def]
          simp
          omega
        · obtain ⟨s, r2, hs, h⟩ := bind_ok h
          obtain ⟨n1, t', e3, e4⟩ := nm_snd hs
          injection h with h1 h2; subst h1 h2
          refine ⟨fine_leaf _ _ _ (by simp [fine1, argsN, n1]), ?_, fun t ht => by rw [e3]; simp [ht]⟩
          rw [e3, costs_cons, e4, layX.eq_def]
          simp
          omega
theorem exprD_snd {f : Nat} {e : ExprT} {ts r : List Tok} (hok : ∀ t ∈ ts, TokOK t) (h : exprD f ts = .ok e r) : Snd e ts r ∧ depthE e ≤ 32 := by
  unfold exprD at h
  obtain ⟨c, r1, hc, h⟩ := bind_ok h
  split at h
  · cases h
  · injection h with h1 h2; subst h1 h2
    exact ⟨expr_snd f 0 _ _ _ hok hc, by omega⟩
theorem cost_pos (t : Tok) : 10 ≤ costT t := by unfold costT; omega
theorem expr0_empty : emptyB expr0 = true := rfl
/-- What is read of rules; sizes apart. -/
structure SndR (x : RuleT) (ts r : List Tok) : Prop where
  nm : nameB x.name = true
  tg : nameB x.target = true
  r0 : 0 ≤ x.rank
  r1 : x.rank ≤ 4611686018427387904
  c1 : emptyB x.cond = false → fineE x.cond = true ∧ depthE x.cond ≤ 32
  t1 : fineE x.thn = true ∧ depthE x.thn ≤ 32
  c : (ruleX x).length + costs r ≤ costs ts + 10
  c2 : (layX x.cond).length + (layX x.thn).length + costs r ≤ costs ts + 20
  s : Rest ts r
theorem rule_snd {f : Nat} {x : RuleT} {ts r : List Tok} (hok : ∀ t ∈ ts, TokOK t) (h : ruleF f ts = .ok x r) : SndR x ts r := by
  unfold ruleF at h
  obtain ⟨n, r1, hn, h⟩ := bind_ok h
  obtain ⟨n1, t1, e1, c1⟩ := nm_snd hn
  cases r1 with
  | nil => simp at h
  | cons u r2 =>
    simp only at h
    split at h
    · rename_i hk
      obtain ⟨v3, r3, h3, h⟩ := bind_ok h
      obtain ⟨cd, r4, h4, h⟩ := bind_ok h
      obtain ⟨v5, r5, h5, h⟩ := bind_ok h
      obtain ⟨g, r6, h6, h⟩ := bind_ok h
      obtain ⟨v7, r7, h7, h⟩ := bind_ok h
      obtain ⟨e, r8, h8, h⟩ := bind_ok h
      obtain ⟨v9, r9, h9, h⟩ := bind_ok h
      injection h with q1 q2; subst q1 q2
      obtain ⟨t3, e3, -, c3⟩ := must_snd h3
      obtain ⟨t5, e5, -, c5⟩ := must_snd h5
      obtain ⟨n6, t6, e6, c6⟩ := nm_snd h6
      obtain ⟨t7, e7, -, c7⟩ := must_snd h7
      obtain ⟨t9, e9, -, c9⟩ := must_snd h9
      subst e1 e3
      have hok3 : ∀ t ∈ r3, TokOK t := fun t ht => hok t (by simp [ht])
      have key : (emptyB cd = false → fineE cd = true ∧ depthE cd ≤ 32) ∧ (condX cd).length + costs r4 ≤ costs r3 ∧ (layX cd).length + costs r4 ≤ costs r3 + 3 ∧ Rest r3 r4 := by
        unfold ifF at h4
        split at h4
        · injection h4 with q1 q2; subst q1 q2
          refine ⟨fun he => (by rw [expr0_empty] at he; cases he), by simp [condX, expr0_empty], ?_, fun t ht => ht⟩
          have : (layX expr0).length = 2 := by kernel_rfl
          omega
        · rename_i r' hm
          obtain ⟨t4, e4, -, c4⟩ := may_snd hm
          subst e4
          obtain ⟨sd, hd⟩ := exprD_snd (fun t ht => hok3 t (by simp [ht])) h4
          have h2 := sd.c
          refine ⟨fun _ => ⟨sd.f, hd⟩, ?_, ?_, fun t ht => List.mem_cons_of_mem _ (sd.s t ht)⟩
          · unfold condX
            split
            · rw [costs_cons]; simp; omega
            · rw [costs_cons, c4]; simp only [List.length_append, List.length_cons, List.length_nil]; omega
          · rw [costs_cons]; omega
      obtain ⟨k1, k2, k2', k3⟩ := key
      subst e5 e6 e7
      have hok7 : ∀ t ∈ r7, TokOK t := fun t ht => hok3 t (k3 t (by simp [ht]))
      obtain ⟨sd, hd⟩ := exprD_snd hok7 h8
      subst e9
      have hu := (hok u (by simp)).1 hk
      have cu : costT u = 10 + (itoa u.n).length := by unfold costT tokX; rw [if_neg (by simp [Tok.k0, hk])]; simp only [Tok.k0]; rw [← hu.2.2]
      have h2 := sd.c
      simp only [costs_cons] at k2 k2' h2 ⊢
      refine ⟨n1, n6, hu.1, hu.2.1, k1, ⟨sd.f, hd⟩, ?_, ?_, fun t ht => ?_⟩
      · simp only [costs_cons, ruleX, List.length_append, List.length_cons, List.length_nil]
        simp only [List.length_cons, List.length_nil] at c3 c5 c7 c9
        omega
      · simp only [costs_cons]
        have := cost_pos t9
        omega
      · have a1 : t ∈ r7 := sd.s t (by simp [ht])
        have a2 := k3 t (by simp [a1])
        simp [a2]
    · cases h
theorem decl_snd {o : Bool} {x : DeclT} {ts r : List Tok} (h : declF o ts = .ok x r) : declB x = true ∧ x.out = o ∧ (declX x).length + costs r ≤ costs ts + 10 ∧ Rest ts r := by
  unfold declF at h
  obtain ⟨n, r1, hn, h⟩ := bind_ok h
  obtain ⟨v, r2, h2, h⟩ := bind_ok h
  obtain ⟨n1, t1, e1, c1⟩ := nm_snd hn
  obtain ⟨t2, e2, -, c2⟩ := must_snd h2
  split at h
  · cases h
  rename_i i r3 h3
  obtain ⟨v4, r4, h4, h⟩ := bind_ok h
  injection h with q1 q2; subst q1 q2
  obtain ⟨t4, e4, -, c4⟩ := must_snd h4
  obtain ⟨j, s, t3, e3, e3', e3'', e5, c3⟩ := one_snd h3
  obtain rfl : i = j := by omega
  have hi : i = 1 ∨ i = 2 ∨ i = 3 := by
    have : i < 4 := by have := (List.getElem?_eq_some_iff.1 e3').1; simpa [typesL] using this
    have : i ≠ 0 := fun e => by subst e; simp [typesL] at e3'; exact e3'' e3'
    omega
  subst e1 e2 e5 e4
  have ht : typesL.getD i [] = s := by rw [List.getD_eq_getElem?_getD, e3']; rfl
  refine ⟨?_, rfl, ?_, fun t ht => by simp [ht]⟩
  · rcases hi with rfl | rfl | rfl <;> simp [declB, n1]
  · have hw : (if o = true then wOutput else wInput).length ≤ 6 := by cases o <;> decide
    have e58 : ([58] : List UInt8).length = 1 := rfl
    have e59 : ([59] : List UInt8).length = 1 := rfl
    simp only [costs_cons, declX, List.length_append, List.length_cons, List.length_nil, Int.toNat_natCast, ht]
    generalize (if o = true then wOutput else wInput) = W at *
    omega
/-- What is read of theories; sizes apart. -/
structure SndT (T : TheoryT) (b : Nat) : Prop where
  d : ∀ d ∈ T.decls, declB d = true
  r : ∀ x ∈ T.rules, nameB x.name = true ∧ nameB x.target = true ∧ 0 ≤ x.rank ∧ x.rank ≤ 4611686018427387904 ∧ (emptyB x.cond = false → fineE x.cond = true ∧ depthE x.cond ≤ 32) ∧ (fineE x.thn = true ∧ depthE x.thn ≤ 32) ∧ (layX x.cond).length + (layX x.thn).length ≤ b + 20
theorem theory_app_d (T : TheoryT) (x : DeclT) : (theoryX ⟨T.decls ++ [x], T.rules⟩).length = (theoryX T).length + (declX x).length := by
  simp [theoryX]; omega
theorem theory_app_r (T : TheoryT) (x : RuleT) : (theoryX ⟨T.decls, T.rules ++ [x]⟩).length = (theoryX T).length + (ruleX x).length := by
  simp [theoryX]; omega
theorem items_snd (f b : Nat) : ∀ (g n : Nat) (T : TheoryT) (ts : List Tok) (T' : TheoryT) (r : List Tok), (∀ t ∈ ts, TokOK t) → costs ts ≤ b → n = T.decls.length + T.rules.length → n ≤ 100 → SndT T b → itemsF f g n T ts = .ok T' r → SndT T' b ∧ T'.decls.length + T'.rules.length ≤ 100 ∧ (theoryX T').length + costs r ≤ (theoryX T).length + costs ts := by
  intro g
  induction g with
  | zero =>
    intro n T ts T' r hok hb hn h100 hT h
    cases ts with
    | nil => simp [itemsF] at h
    | cons t ts =>
      rw [itemsF.eq_def] at h
      simp only at h
      split at h
      · injection h with h1 h2; subst h1 h2; exact ⟨hT, by omega, Nat.le_refl _⟩
      split at h
      · cases h
      split at h <;> cases h
  | succ g ih =>
    intro n T ts T' r hok hb hn h100 hT h
    cases ts with
    | nil => simp [itemsF] at h
    | cons t ts =>
      rw [itemsF.eq_def] at h
      simp only at h
      have hok' : ∀ t ∈ ts, TokOK t := fun t ht => hok t (by simp [ht])
      rw [costs_cons] at hb
      have ht10 := cost_pos t
      split at h
      · injection h with h1 h2; subst h1 h2; exact ⟨hT, by omega, Nat.le_refl _⟩
      split at h
      · cases h
      split at h
      · cases h
      rename_i h3
      split at h
      · obtain ⟨x, r1, hx, h⟩ := bind_ok h
        have sd := rule_snd hok' hx
        have k1 := sd.c
        have k2 := sd.c2
        obtain ⟨q1, q2, q3⟩ := ih (n + 1) ⟨T.decls, T.rules ++ [x]⟩ r1 T' r (fun t ht => hok' t (sd.s t ht)) (by omega) (by simp; omega) (by omega) ⟨hT.d, fun y hy => by
          rcases List.mem_append.1 hy with hy | hy
          · exact hT.r y hy
          · simp only [List.mem_singleton] at hy; subst hy
            exact ⟨sd.nm, sd.tg, sd.r0, sd.r1, sd.c1, sd.t1, by omega⟩⟩ h
        refine ⟨q1, q2, ?_⟩
        rw [theory_app_r] at q3
        rw [costs_cons]; omega
      · obtain ⟨x, r1, hx, h⟩ := bind_ok h
        obtain ⟨k0, -, k1, k2⟩ := decl_snd hx
        obtain ⟨q1, q2, q3⟩ := ih (n + 1) ⟨T.decls ++ [x], T.rules⟩ r1 T' r (fun t ht => hok' t (k2 t ht)) (by omega) (by simp; omega) (by omega) ⟨fun y hy => by
          rcases List.mem_append.1 hy with hy | hy
          · exact hT.d y hy
          · simp only [List.mem_singleton] at hy; subst hy; exact k0, hT.r⟩ h
        refine ⟨q1, q2, ?_⟩
        rw [theory_app_d] at q3
        rw [costs_cons]; omega
/-- What is read of a text of 5900 bytes at most can be printed; of any, it is of the form, or too long. -/
theorem parse_snd {l : List UInt8} {T : TheoryT} {r : List Tok} (h : parseF l = .ok T r) : theoryErr T = 0 ∨ theoryErr T = 8 ∧ 5900 < l.length := by
  unfold parseF at h
  split at h
  · cases h
  obtain ⟨l1, l2⟩ := lex_ok _ 1 l (Nat.le_refl _)
  obtain ⟨q1, q2, q3⟩ := items_snd (fuelL l) (costs (lexL l)) 101 0 theory0 (lexL l) T r l1 (Nat.le_refl _) rfl (by omega) ⟨fun d hd => (by cases hd), fun d hd => (by cases hd)⟩ h
  have l3 : costs (lexL l) ≤ 11 * l.length + 10 := l2
  have e0 : (theoryX theory0).length = 0 := rfl
  rw [e0] at q3
  have hr : ∀ x ∈ T.rules, ruleErr x = 0 ∨ ruleErr x = 8 ∧ 5900 < l.length := by
    intro x hx
    obtain ⟨a1, a2, a3, a4, a5, a6, a7⟩ := q1.r x hx
    have ex : ∀ e, fineE e = true ∧ depthE e ≤ 32 → (layX e).length ≤ (layX x.cond).length + (layX x.thn).length → exprErr e = 0 ∨ exprErr e = 8 ∧ 5900 < l.length := by
      intro e h1 h2
      unfold exprErr
      rw [if_neg (by omega), if_neg (by rw [h1.1]; decide)]
      split
      · exact .inr ⟨rfl, by omega⟩
      · exact .inl rfl
    unfold ruleErr
    rw [if_neg (by simp [a1, a2, a3, a4])]
    have k1 := ex x.thn a6 (by omega)
    split
    · rename_i hc
      rcases ex x.cond (a5 hc.1) (by omega) with k | k
      · exact absurd k hc.2
      · exact .inr k
    · exact k1
  have hrs : ∀ L : List RuleT, (∀ x ∈ L, ruleErr x = 0 ∨ ruleErr x = 8 ∧ 5900 < l.length) → rulesErr L = 0 ∨ rulesErr L = 8 ∧ 5900 < l.length := by
    intro L
    induction L with
    | nil => intro _; exact .inl rfl
    | cons x L ih =>
      intro hL
      rw [rulesErr]
      split
      · rename_i hx
        rcases hL x (by simp) with k | k
        · exact absurd k hx
        · exact .inr k
      · exact ih (fun y hy => hL y (by simp [hy]))
  unfold theoryErr
  rw [if_neg (by omega), if_neg (by simpa using q1.d)]
  split
  · rename_i hc
    rcases hrs T.rules hr with k | k
    · exact absurd k hc
    · exact .inr k
  · split
    · exact .inr ⟨rfl, by omega⟩
    · exact .inl rfl
end Go.Proofs.YtnjlggleaocbdaaGreatDoor.Pl
