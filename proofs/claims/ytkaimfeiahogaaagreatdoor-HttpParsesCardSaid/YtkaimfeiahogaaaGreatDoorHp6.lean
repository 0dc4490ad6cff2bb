/-
  Plain Lean: a request's lines; a header that nobody asks for, and the case of a header's name, change nothing.
-/
import Derived.Test.YtkaimfeiahogaaaGreatDoorHp5
namespace Go.Proofs.YtkaimfeiahogaaaGreatDoor
set_option linter.all false
open Go.Lib

/-- The lines of a request's head, without their ends; the last one is empty. -/
def lns (m p : List UInt8) (n : Nat) (cl : Bool) : List (List UInt8) := headLine m p :: ((if 0 < n then [lenLine n] else []) ++ ((if cl = true then [closeLine] else []) ++ [[]]))
/-- The pieces of a request's head between its line feeds. -/
def lcut (m p : List UInt8) (n : Nat) (cl : Bool) : List (List UInt8) := (lns m p n cl).map (· ++ [13]) ++ [[]]
theorem pieces_line {x r : List UInt8} (h : ∀ b ∈ x, b ≠ 10 ∧ b ≠ 13) : pieces 10 (x ++ 13 :: 10 :: r) = (x ++ [13]) :: pieces 10 r := by
  have : x ++ 13 :: 10 :: r = (x ++ [13]) ++ 10 :: r := by simp
  rw [this]
  refine pieces_cut r (fun b hb => ?_)
  rcases List.mem_append.1 hb with hb | hb
  · exact (h b hb).1
  · rw [List.mem_singleton.1 hb]; decide
theorem closeLine_bytes : ∀ b ∈ closeLine, b ≠ 10 ∧ b ≠ 13 := by decide
theorem pieces_fmt {m p : List UInt8} {n : Nat} (cl : Bool) (h : fmtE m p n = 0) : pieces 10 (fmtH m p n cl) = lcut m p n cl := by
  obtain ⟨hm, hp, hn⟩ := fmtE_zero h
  obtain ⟨a1, a2⟩ := headLine_bytes hm hp
  obtain ⟨c1, c2, c3⟩ := lenLine_bytes n hn
  have e0 : ∀ r, pieces 10 (13 :: 10 :: r) = [13] :: pieces 10 r := fun r => pieces_line (x := []) (by simp)
  have e1 : pieces 10 [] = [[]] := rfl
  unfold fmtH lcut lns
  by_cases hn0 : 0 < n <;> cases cl <;> simp only [hn0, if_true, if_false, Bool.false_eq_true, List.append_assoc, List.cons_append, List.nil_append, List.append_nil, List.map_cons, List.map_nil, List.map_append] <;>
    rw [pieces_line a1] <;> (try rw [pieces_line c1]) <;> (try rw [pieces_line closeLine_bytes]) <;> rw [e0, e1]
def tLenB : List UInt8 := tLen ++ [58, 32]
def tLEN : List UInt8 := [67, 111, 110, 116, 101, 110, 116, 45, 76, 69, 78, 71, 84, 72, 58]
/-- A line as it is printed anew. -/
def repF (i : Nat) (x : List UInt8) : List UInt8 := if 0 < i ∧ x.take 16 = tLenB then tLEN ++ x.drop 16 else x
/-- The lines from the i-th on, as they are printed anew; ahead of the line at: X. -/
def outF (at' : Nat) (X : List UInt8) : Nat → List (List UInt8) → List UInt8
  | _, [] => []
  | i, x :: r => (if i = at' then X ++ [13, 10] else []) ++ (repF i x ++ [10]) ++ outF at' X (i + 1) r
theorem outF_app (at' : Nat) (X : List UInt8) : ∀ (l : List (List UInt8)) (i : Nat) (x : List UInt8), outF at' X i (l ++ [x]) = outF at' X i l ++ (if i + l.length = at' then X ++ [13, 10] else []) ++ (repF (i + l.length) x ++ [10])
  | [], i, x => by simp [outF]
  | y :: l, i, x => by
    rw [List.cons_append, outF, outF_app at' X l (i + 1) x, outF, List.length_cons, show i + 1 + l.length = i + (l.length + 1) by omega]
    simp only [List.append_assoc]
theorem outF_len (at' : Nat) (X : List UInt8) (M : Nat) : ∀ (l : List (List UInt8)) (i : Nat), (∀ x ∈ l, x.length ≤ M) → (outF at' X i l).length ≤ l.length * (X.length + M + 3)
  | [], i, _ => by simp [outF]
  | y :: l, i, h => by
    have ih := outF_len at' X M l (i + 1) (fun x hx => h x (List.mem_cons_of_mem _ hx))
    have h1 := h y (List.mem_cons_self ..)
    have h2 : (repF i y).length ≤ y.length := by
      unfold repF
      split
      · rename_i hc
        have := congrArg List.length hc.2
        have e : tLenB.length = 16 := rfl
        rw [List.length_take, e] at this
        rw [List.length_append, List.length_drop]
        have e2 : tLEN.length = 15 := rfl
        omega
      · exact Nat.le_refl _
    have h3 : (if i = at' then X ++ [13, 10] else [] : List UInt8).length ≤ X.length + 2 := by
      split
      · simp
      · simp
    have e : (y :: l).length * (X.length + M + 3) = l.length * (X.length + M + 3) + (X.length + M + 3) := Nat.succ_mul _ _
    rw [e, outF, List.length_append, List.length_append, List.length_append]
    have e1 : ([10] : List UInt8).length = 1 := rfl
    omega
def tcB (c : UInt8) : UInt8 := if 97 ≤ c.toNat ∧ c.toNat ≤ 122 then c - 32 else if 65 ≤ c.toNat ∧ c.toNat ≤ 90 then c + 32 else c
/-- A byte of a name in small letters. -/
def lowN (c : UInt8) : Bool := (decide (97 ≤ c.toNat) && decide (c.toNat ≤ 122)) || (decide (48 ≤ c.toNat) && decide (c.toNat ≤ 57)) || decide (c.toNat = 45)
def visB (c : UInt8) : Bool := decide (32 ≤ c.toNat) && decide (c.toNat ≤ 126)
theorem lowN_all : ∀ n : Fin 256, lowN (UInt8.ofNat n.val) = true → nameB (tcB (UInt8.ofNat n.val)) = true ∧ Lib.lowerB (tcB (UInt8.ofNat n.val)) = UInt8.ofNat n.val ∧ tcB (UInt8.ofNat n.val) ≠ 58 ∧ tcB (UInt8.ofNat n.val) ≠ 10 ∧ tcB (UInt8.ofNat n.val) ≠ 13 := by decide +kernel
theorem lowN_tc {c : UInt8} (h : lowN c = true) : nameB (tcB c) = true ∧ Lib.lowerB (tcB c) = c ∧ tcB c ≠ 58 ∧ tcB c ≠ 10 ∧ tcB c ≠ 13 := by
  have hc : UInt8.ofNat c.toNat = c := by simp
  have hlt : c.toNat < 256 := c.toNat_lt
  have := lowN_all ⟨c.toNat, hlt⟩
  simp only [hc] at this
  exact this h
/-- The header line of a name and a value. -/
def hdr (name value : List UInt8) : List UInt8 := name.map tcB ++ [58, 32] ++ value
theorem trimH_mem {v : List UInt8} {b : UInt8} (h : b ∈ trimH v) : b ∈ v := by
  unfold trimH trimS trimLeftS trimRightS at h
  have h1 := (List.dropWhile_sublist _).subset h
  have h2 := (List.dropWhile_sublist _).subset (List.mem_reverse.1 h1)
  exact List.mem_reverse.1 h2
theorem field_hdr {name value : List UInt8} (h1 : name ≠ []) (h2 : name.length ≤ 40) (hn : name.all lowN = true) (hv : value.all visB = true) : fieldF (hdr name value) = some (name, trimH (32 :: value)) := by
  have hn' := List.all_eq_true.1 hn
  have e : hdr name value = name.map tcB ++ 58 :: (32 :: value) := by unfold hdr; simp
  have hs : someL nameB 40 (name.map tcB) = true := by
    unfold someL
    simp only [Bool.and_eq_true, decide_eq_true_eq, List.all_eq_true, List.length_map, ne_eq, List.map_eq_nil_iff]
    refine ⟨h1, h2, fun b hb => ?_⟩
    obtain ⟨c, hc, rfl⟩ := List.mem_map.1 hb
    exact (lowN_tc (hn' c hc)).1
  have hq : (trimH (32 :: value)).all valB = true := List.all_eq_true.2 fun b hb => by
    rcases List.mem_cons.1 (trimH_mem hb) with rfl | h
    · decide
    · have := List.all_eq_true.1 hv b h
      unfold visB at this
      unfold valB
      rw [this, Bool.or_true]
  have hc : ∀ b ∈ name.map tcB, b ≠ 58 := fun b hb => by
    obtain ⟨c, hc, rfl⟩ := List.mem_map.1 hb
    exact (lowN_tc (hn' c hc)).2.2.1
  have hsm : small (name.map tcB) = name := by
    unfold small
    rw [List.map_map]
    conv => rhs; rw [← List.map_id name]
    exact List.map_congr_left fun c hc => (lowN_tc (hn' c hc)).2.1
  unfold fieldF
  rw [e, cutAt_hit _ hc]
  simp only [hs, hq, Bool.true_and, if_true, hsm]
theorem hdr_bytes {name value : List UInt8} (h1 : name ≠ []) (h2 : name.length ≤ 40) (h3 : value.length ≤ 900) (hn : name.all lowN = true) (hv : value.all visB = true) : (∀ b ∈ hdr name value, b ≠ 10 ∧ b ≠ 13) ∧ (hdr name value).length ≤ 1000 ∧ hdr name value ≠ [] := by
  refine ⟨fun b hb => ?_, ?_, ?_⟩
  · unfold hdr at hb
    simp only [List.mem_append] at hb
    rcases hb with (hb | hb) | hb
    · obtain ⟨c, hc, rfl⟩ := List.mem_map.1 hb
      exact (lowN_tc (List.all_eq_true.1 hn c hc)).2.2.2
    · revert b; decide
    · have := List.all_eq_true.1 hv b hb
      unfold visB at this
      simp only [Bool.and_eq_true, decide_eq_true_eq] at this
      exact ⟨ne_of_nat (by rw [show (10 : UInt8).toNat = 10 from rfl]; omega), ne_of_nat (by rw [show (13 : UInt8).toNat = 13 from rfl]; omega)⟩
  · unfold hdr; simp; omega
  · unfold hdr; simp
/-- The line of the length, its name with great letters. -/
def lenLINE (n : Nat) : List UInt8 := tLEN ++ txt n
theorem trimH_full {t : List UInt8} (h0 : t ≠ []) (h : ∀ b ∈ t, b ≠ 32 ∧ b ≠ 9) : trimH t = t := by
  have hc : ∀ b ∈ t, ([32, 9] : List UInt8).contains b = false := fun b hb => by
    obtain ⟨h1, h2⟩ := h b hb
    simp [h1, h2]
  unfold trimH trimS
  rw [trimRightS_take t [32, 9] t.length (Nat.le_refl _) (fun j b hj hb => by
    have := (List.getElem?_eq_some_iff.1 hb).1
    omega) (fun b _ hb => hc b (List.mem_of_getElem? hb))]
  rw [List.take_of_length_le (Nat.le_refl _)]
  rw [trimLeftS_drop t [32, 9] 0 (Nat.zero_le _) (fun j b hj hb => by omega) (fun b hb => hc b (List.mem_of_getElem? hb))]
  rfl
theorem field_LEN (n : Nat) : fieldF (lenLINE n) = some (tLen, txt (n : Int)) := by
  obtain ⟨h0, hb⟩ := txt_bytes n
  have e : lenLINE n = [67, 111, 110, 116, 101, 110, 116, 45, 76, 69, 78, 71, 84, 72] ++ 58 :: txt (n : Int) := by unfold lenLINE tLEN; simp
  have ht : trimH (txt (n : Int)) = txt (n : Int) := trimH_full h0 (fun b h => by
    have := hb b h
    exact ⟨ne_of_nat (by rw [show (32 : UInt8).toNat = 32 from rfl]; omega), ne_of_nat (by rw [show (9 : UInt8).toNat = 9 from rfl]; omega)⟩)
  have hv : (txt (n : Int)).all valB = true := List.all_eq_true.2 fun b h => by
    have := hb b h
    unfold valB
    simp only [Bool.or_eq_true, Bool.and_eq_true, decide_eq_true_eq]
    right
    omega
  unfold fieldF
  rw [e, cutAt_hit _ (by decide)]
  simp only [ht, hv, show someL nameB 40 [67, 111, 110, 116, 101, 110, 116, 45, 76, 69, 78, 71, 84, 72] = true by decide, Bool.true_and, if_true]
  rfl
theorem lenLINE_bytes (n : Nat) (hn : n ≤ 32768) : (∀ b ∈ lenLINE n, b ≠ 10 ∧ b ≠ 13) ∧ (lenLINE n).length ≤ 1000 ∧ lenLINE n ≠ [] := by
  obtain ⟨c1, c2, c3⟩ := lenLine_bytes n hn
  refine ⟨fun b h => ?_, ?_, by unfold lenLINE tLEN; simp⟩
  · have q : ∀ b ∈ tLEN, b ≠ 10 ∧ b ≠ 13 := by decide
    unfold lenLINE at h
    rcases List.mem_append.1 h with h | h
    · exact q b h
    · exact c1 b (by unfold lenLine; exact List.mem_append.2 (.inr h))
  · unfold lenLine at c2
    unfold lenLINE
    rw [List.length_append] at c2 ⊢
    have e1 : (tLen ++ [58, 32]).length = 16 := rfl
    have e2 : tLEN.length = 15 := rfl
    omega
theorem headF_line' {f : Nat} {st : St} {x : List UInt8} (r : List UInt8) (h1 : ∀ b ∈ x, b ≠ 10 ∧ b ≠ 13) (h2 : x.length ≤ 1000) (h0 : x ≠ []) (hn : st.n ≠ 0) (he : stepE st x = 0) : headF (f + 1) st (x ++ 13 :: 10 :: r) = headF f (stepS st x) r := by
  have := headF_line (f := f) (st := st) r h1 h2 h0 hn he
  rw [List.append_assoc] at this
  exact this
theorem rep_len (n i : Nat) (hi : 0 < i) : repF i (lenLine n ++ [13]) = lenLINE n ++ [13] := by
  have e : lenLine n ++ [13] = tLenB ++ (txt n ++ [13]) := by unfold lenLine tLenB; simp
  have hl : tLenB.length = 16 := rfl
  have e1 : (tLenB ++ (txt (n : Int) ++ [13])).take 16 = tLenB := List.take_left' hl
  have e2 : (tLenB ++ (txt (n : Int) ++ [13])).drop 16 = txt (n : Int) ++ [13] := List.drop_left' hl
  unfold repF lenLINE
  rw [e, e1, e2]
  rw [if_pos ⟨hi, rfl⟩, List.append_assoc]
theorem rep_close (i : Nat) : repF i (closeLine ++ [13]) = closeLine ++ [13] := by
  unfold repF; rw [if_neg (fun h => absurd h.2 (by decide))]
theorem rep_end (i : Nat) : repF i [13] = [13] := by
  unfold repF; rw [if_neg (fun h => absurd h.2 (by decide))]
theorem rep_zero (x : List UInt8) : repF 0 x = x := by
  unfold repF; rw [if_neg (fun h => absurd h.1 (by decide))]
/-- A request printed anew, with one more header, and with its length's name in great letters, reads as before. -/
theorem head_anew {m p : List UInt8} {n : Nat} (cl : Bool) (h : fmtE m p n = 0) {name value : List UInt8} (h1 : name ≠ []) (h2 : name.length ≤ 40) (h3 : value.length ≤ 900) (hn : name.all lowN = true) (hv : value.all visB = true) (hL : name ≠ tLen) (hC : name ≠ tConn)
    (at' : Nat) (ha : 1 ≤ at') (hb : at' < (lns m p n cl).length) : ∃ s, headF 23 st0 (outF at' (hdr name value) 0 ((lns m p n cl).map (· ++ [13]))) = some (s, []) ∧ s.m = m ∧ s.p = p ∧ s.close = cl ∧ s.len = n := by
  obtain ⟨hm, hp, hn'⟩ := fmtE_zero h
  obtain ⟨a1, a2⟩ := headLine_bytes hm hp
  obtain ⟨b1, b2, b3⟩ := headLine_ok hm hp
  obtain ⟨c1, c2, c3⟩ := lenLINE_bytes n hn'
  obtain ⟨d1, d2, d3⟩ := hdr_bytes h1 h2 h3 hn hv
  obtain ⟨t1, t2⟩ := txt_nonneg (z := (n : Int)) (by omega)
  have hX := field_hdr h1 h2 hn hv
  generalize hdr name value = X at *
  have hl0 : lenE (txt (n : Int)) = 0 := by
    unfold lenE
    rw [if_pos t1, t2, if_pos (by omega)]
  have HF : ∀ f r, headF (f + 1) st0 (headLine m p ++ 13 :: 10 :: r) = headF f ⟨1, m, p, false, 0, false, false⟩ r := fun f r => by
    have := headF_first (f := f) r a1 a2 b1
    rw [b2, b3, List.append_assoc] at this
    exact this
  have SE : ∀ f k p m c l b r, k ≤ 19 → headF (f + 1) ⟨k + 1, m, p, c, l, false, b⟩ (lenLINE n ++ 13 :: 10 :: r) = headF f ⟨k + 2, m, p, c, n, true, b⟩ r := fun f k p m c l b r hk => by
    rw [headF_line' r c1 c2 c3 (by simp) (by unfold stepE; rw [field_LEN]; simp only [if_true, hl0]; rw [if_neg (by omega)]; rfl)]
    unfold stepS
    rw [field_LEN]
    simp only [if_true, t2]
    simp
  have SC : ∀ f k p m c l b r, k ≤ 19 → headF (f + 1) ⟨k + 1, m, p, c, l, b, false⟩ (closeLine ++ 13 :: 10 :: r) = headF f ⟨k + 2, m, p, true, l, b, true⟩ r := fun f k p m c l b r hk => by
    rw [headF_line' r closeLine_bytes (by decide) (by decide) (by simp) (by unfold stepE; rw [field_close]; simp only [show tConn ≠ tLen by decide, if_false, if_true, show small tClose = tClose by kernel_rfl, true_or]; rw [if_neg (by omega)]; rfl)]
    unfold stepS
    rw [field_close]
    simp only [show tConn ≠ tLen by decide, if_false, if_true, show small tClose = tClose by kernel_rfl, decide_true]
  have SX : ∀ f k p m c l b d r, k ≤ 19 → headF (f + 1) ⟨k + 1, m, p, c, l, b, d⟩ (X ++ 13 :: 10 :: r) = headF f ⟨k + 2, m, p, c, l, b, d⟩ r := fun f k p m c l b d r hk => by
    rw [headF_line' r d1 d2 d3 (by simp) (by unfold stepE; rw [hX]; simp only; rw [if_neg (by omega), if_neg hL, if_neg hC])]
    unfold stepS
    rw [hX]
    simp only
    rw [if_neg hL, if_neg hC]
  have EN : ∀ f k m p c l b d, headF (f + 1) ⟨k + 1, m, p, c, l, b, d⟩ [13, 10] = some (⟨k + 1, m, p, c, l, b, d⟩, []) := fun f k m p c l b d => headF_end [] (by simp)
  unfold lns at hb ⊢
  have hat : at' = 1 ∨ at' = 2 ∨ at' = 3 := by
    have : at' < 4 := Nat.lt_of_lt_of_le hb (by split <;> split <;> simp)
    omega
  by_cases hn0 : 0 < n
  · cases cl with
    | true =>
      rcases hat with rfl | rfl | rfl <;>
        simp only [hn0, if_true, if_false, Bool.false_eq_true, List.map_cons, List.map_nil, List.map_append, List.cons_append, List.nil_append, outF, rep_zero, rep_len _ 1 (by decide), rep_close, rep_end, Nat.zero_add, Nat.reduceAdd, Nat.reduceEqDiff, List.append_assoc, List.append_nil] <;>
        rw [HF] <;> (repeat first | rw [SE _ _ _ _ _ _ _ _ (by decide)] | rw [SC _ _ _ _ _ _ _ _ (by decide)] | rw [SX _ _ _ _ _ _ _ _ _ (by decide)]) <;> rw [EN] <;> exact ⟨_, rfl, rfl, rfl, rfl, rfl⟩
    | false =>
      simp [hn0] at hb
      obtain rfl | rfl : at' = 1 ∨ at' = 2 := by omega
      all_goals
        simp only [hn0, if_true, if_false, Bool.false_eq_true, List.map_cons, List.map_nil, List.map_append, List.cons_append, List.nil_append, outF, rep_zero, rep_len _ 1 (by decide), rep_close, rep_end, Nat.zero_add, Nat.reduceAdd, Nat.reduceEqDiff, List.append_assoc, List.append_nil]
        rw [HF]
        (repeat first | rw [SE _ _ _ _ _ _ _ _ (by decide)] | rw [SC _ _ _ _ _ _ _ _ (by decide)] | rw [SX _ _ _ _ _ _ _ _ _ (by decide)])
        rw [EN]
        exact ⟨_, rfl, rfl, rfl, rfl, rfl⟩
  · obtain rfl : n = 0 := by omega
    cases cl with
    | true =>
      simp at hb
      obtain rfl | rfl : at' = 1 ∨ at' = 2 := by omega
      all_goals
        simp only [Nat.lt_irrefl, if_true, if_false, Bool.false_eq_true, List.map_cons, List.map_nil, List.map_append, List.cons_append, List.nil_append, outF, rep_zero, rep_close, rep_end, Nat.zero_add, Nat.reduceAdd, Nat.reduceEqDiff, List.append_assoc, List.append_nil]
        rw [HF]
        (repeat first | rw [SC _ _ _ _ _ _ _ _ (by decide)] | rw [SX _ _ _ _ _ _ _ _ _ (by decide)])
        rw [EN]
        exact ⟨_, rfl, rfl, rfl, rfl, rfl⟩
    | false =>
      simp at hb
      obtain rfl : at' = 1 := by omega
      simp only [Nat.lt_irrefl, if_true, if_false, Bool.false_eq_true, List.map_cons, List.map_nil, List.map_append, List.cons_append, List.nil_append, outF, rep_zero, rep_close, rep_end, Nat.zero_add, Nat.reduceAdd, Nat.reduceEqDiff, List.append_assoc, List.append_nil]
      rw [HF, SX _ _ _ _ _ _ _ _ _ (by decide), EN]
      exact ⟨_, rfl, rfl, rfl, rfl, rfl⟩
end Go.Proofs.YtkaimfeiahogaaaGreatDoor
