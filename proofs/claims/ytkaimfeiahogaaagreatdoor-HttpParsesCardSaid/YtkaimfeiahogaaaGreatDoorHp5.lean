/-
  Plain Lean: a request printed; it is read back.
-/
import Derived.Test.YtkaimfeiahogaaaGreatDoorHp4
namespace Go.Proofs.YtkaimfeiahogaaaGreatDoor
set_option linter.all false
open Go.Lib

/-- Why a request is not printed (0: it is). -/
def fmtE (m p : List UInt8) (n : Nat) : Int := if m ≠ tGet ∧ m ≠ tPost then 30 else if pathB p = false then 10 else if 32768 < n then 8 else 0
def lenLine (n : Nat) : List UInt8 := tLen ++ [58, 32] ++ txt n
def closeLine : List UInt8 := tConn ++ [58, 32] ++ tClose
def headLine (m p : List UInt8) : List UInt8 := m ++ [32] ++ p ++ [32] ++ tVers
/-- All ahead of a request's body. -/
def fmtH (m p : List UInt8) (n : Nat) (cl : Bool) : List UInt8 :=
  headLine m p ++ [13, 10] ++ (if 0 < n then lenLine n ++ [13, 10] else []) ++ (if cl = true then closeLine ++ [13, 10] else []) ++ [13, 10]
theorem fmtE_zero {m p : List UInt8} {n : Nat} (h : fmtE m p n = 0) : (m = tGet ∨ m = tPost) ∧ pathB p = true ∧ n ≤ 32768 := by
  unfold fmtE at h
  split at h
  · cases h
  · rename_i h1
    split at h
    · cases h
    · rename_i h2
      split at h
      · cases h
      · rename_i h3
        refine ⟨?_, by simpa using h2, by omega⟩
        by_cases g : m = tGet
        · exact .inl g
        · exact .inr (Classical.byContradiction fun g2 => h1 ⟨g, g2⟩)
theorem path_bytes {p : List UInt8} (h : pathB p = true) : p ≠ [] ∧ p.length ≤ 200 ∧ ∀ b ∈ p, 33 ≤ b.toNat ∧ b.toNat ≤ 126 := by
  unfold pathB someL at h
  simp only [Bool.and_eq_true, decide_eq_true_eq, List.all_eq_true, seenB] at h
  exact ⟨h.1.1, h.1.2.1, fun b hb => h.1.2.2 b hb⟩
theorem meth_bytes {m : List UInt8} (h : m = tGet ∨ m = tPost) : someL bigB 10 m = true ∧ m.length ≤ 4 ∧ ∀ b ∈ m, 65 ≤ b.toNat ∧ b.toNat ≤ 90 := by
  rcases h with rfl | rfl <;> decide
theorem ne_of_nat {b : UInt8} {k : UInt8} (h : b.toNat ≠ k.toNat) : b ≠ k := fun e => h (by rw [e])
theorem headLine_bytes {m p : List UInt8} (hm : m = tGet ∨ m = tPost) (hp : pathB p = true) : (∀ b ∈ headLine m p, b ≠ 10 ∧ b ≠ 13) ∧ (headLine m p).length ≤ 1000 := by
  obtain ⟨_, m2, m3⟩ := meth_bytes hm
  obtain ⟨_, p2, p3⟩ := path_bytes hp
  constructor
  · intro b hb
    unfold headLine at hb
    simp only [List.mem_append, List.mem_singleton] at hb
    rcases hb with (((hb | hb) | hb) | hb) | hb
    · have := m3 b hb; exact ⟨ne_of_nat (by rw [show (10 : UInt8).toNat = 10 from rfl]; omega), ne_of_nat (by rw [show (13 : UInt8).toNat = 13 from rfl]; omega)⟩
    · rw [hb]; decide
    · have := p3 b hb; exact ⟨ne_of_nat (by rw [show (10 : UInt8).toNat = 10 from rfl]; omega), ne_of_nat (by rw [show (13 : UInt8).toNat = 13 from rfl]; omega)⟩
    · rw [hb]; decide
    · revert b; decide
  · unfold headLine
    simp only [List.length_append, List.length_singleton]
    have : tVers.length = 8 := rfl
    omega
theorem headLine_ok {m p : List UInt8} (hm : m = tGet ∨ m = tPost) (hp : pathB p = true) : headE (headLine m p) = 0 ∧ headM (headLine m p) = m ∧ headP (headLine m p) = p := by
  obtain ⟨m1, m2, m3⟩ := meth_bytes hm
  obtain ⟨_, p2, p3⟩ := path_bytes hp
  have hs : pieces 32 (headLine m p) = [m, p, tVers] := by
    have e : headLine m p = m ++ 32 :: (p ++ 32 :: tVers) := by unfold headLine; simp
    rw [e, pieces_cut _ (fun b hb => ne_of_nat (by have := m3 b hb; rw [show (32 : UInt8).toNat = 32 from rfl]; omega)), pieces_cut _ (fun b hb => ne_of_nat (by have := p3 b hb; rw [show (32 : UInt8).toNat = 32 from rfl]; omega)), pieces_free (by decide)]
  have he : headE (headLine m p) = 0 := by
    unfold headE
    rw [hs]
    simp only [m1, hp, Bool.true_and, decide_true, if_true]
    rw [if_pos hm]
  refine ⟨he, ?_, ?_⟩
  · unfold headM; rw [if_pos he, hs]; rfl
  · unfold headP; rw [if_pos he, hs]; rfl
theorem trimH_blank {t : List UInt8} (h0 : t ≠ []) (h : ∀ b ∈ t, b ≠ 32 ∧ b ≠ 9) : trimH (32 :: t) = t := by
  have hc : ∀ b ∈ t, ([32, 9] : List UInt8).contains b = false := fun b hb => by
    obtain ⟨h1, h2⟩ := h b hb
    simp [h1, h2]
  have hpos : 0 < t.length := List.length_pos_iff.2 h0
  unfold trimH trimS
  rw [trimRightS_take (32 :: t) [32, 9] (t.length + 1) (by simp) (fun j b hj hb => by
    have := (List.getElem?_eq_some_iff.1 hb).1
    simp at this; omega) (fun b _ hb => by
    obtain ⟨j, hj⟩ : ∃ j, t.length = j + 1 := ⟨t.length - 1, by omega⟩
    rw [Nat.add_sub_cancel, hj, List.getElem?_cons_succ] at hb
    exact hc b (List.mem_of_getElem? hb))]
  rw [List.take_of_length_le (by simp)]
  rw [trimLeftS_drop (32 :: t) [32, 9] 1 (by simp) (fun j b hj hb => by
    obtain rfl : j = 0 := by omega
    simp at hb
    rw [← hb]; decide) (fun b hb => by
    rw [show (1 : Nat) = 0 + 1 from rfl, List.getElem?_cons_succ] at hb
    exact hc b (List.mem_of_getElem? hb))]
  rfl
theorem txt_bytes (n : Nat) : txt (n : Int) ≠ [] ∧ ∀ b ∈ txt (n : Int), 48 ≤ b.toNat ∧ b.toNat ≤ 57 := by
  have h1 := (numF_iff.1 (txt_nonneg (z := (n : Int)) (by omega)).1)
  have h2 := txt_dig (z := (n : Int)) (by omega)
  refine ⟨h1.1, fun b hb => ?_⟩
  rcases Nat.lt_or_ge b.toNat 48 with h | h
  · exact absurd rfl (dig_ne h2 (c := b) (.inl h) b hb)
  · rcases Nat.lt_or_ge 57 b.toNat with k | k
    · exact absurd rfl (dig_ne h2 (c := b) (.inr k) b hb)
    · exact ⟨h, k⟩
theorem field_len (n : Nat) : fieldF (lenLine n) = some (tLen, txt (n : Int)) := by
  obtain ⟨h0, hb⟩ := txt_bytes n
  have e : lenLine n = tLen ++ 58 :: (32 :: txt (n : Int)) := by unfold lenLine; simp
  have ht : trimH (32 :: txt (n : Int)) = txt (n : Int) := trimH_blank h0 (fun b h => by
    have := hb b h
    exact ⟨ne_of_nat (by rw [show (32 : UInt8).toNat = 32 from rfl]; omega), ne_of_nat (by rw [show (9 : UInt8).toNat = 9 from rfl]; omega)⟩)
  have hv : (txt (n : Int)).all valB = true := List.all_eq_true.2 fun b h => by
    have := hb b h
    unfold valB
    simp only [Bool.or_eq_true, Bool.and_eq_true, decide_eq_true_eq]
    right
    omega
  unfold fieldF
  rw [e, cutAt_hit _ (by decide)]
  simp only [ht, hv, show someL nameB 40 tLen = true by decide, Bool.true_and, if_true]
  rfl
theorem field_close : fieldF closeLine = some (tConn, tClose) := by kernel_rfl
theorem lenLine_bytes (n : Nat) (hn : n ≤ 32768) : (∀ b ∈ lenLine n, b ≠ 10 ∧ b ≠ 13) ∧ (lenLine n).length ≤ 1000 ∧ lenLine n ≠ [] := by
  obtain ⟨h0, hb⟩ := txt_bytes n
  refine ⟨fun b h => ?_, ?_, by unfold lenLine; simp [tLen]⟩
  · unfold lenLine at h
    simp only [List.mem_append] at h
    rcases h with (h | h) | h
    · revert b; decide
    · revert b; decide
    · have := hb b h
      exact ⟨ne_of_nat (by rw [show (10 : UInt8).toNat = 10 from rfl]; omega), ne_of_nat (by rw [show (13 : UInt8).toNat = 13 from rfl]; omega)⟩
  · have h1 : (txt (n : Int)).length ≤ 5 := by
      unfold txt
      by_cases h : n = 0
      · subst h; simp
      · have h2 := dec_len_le 5 n (by omega)
        have h3 : ¬ ((n : Int) < 0) := by omega
        have h4 : ¬ ((n : Int) = 0) := by omega
        simp [h, h3]
        omega
    unfold lenLine
    simp only [List.length_append]
    have : tLen.length = 14 := rfl
    simp only [List.length_cons, List.length_nil]
    omega
theorem headF_line {f : Nat} {st : St} {x : List UInt8} (r : List UInt8) (h1 : ∀ b ∈ x, b ≠ 10 ∧ b ≠ 13) (h2 : x.length ≤ 1000) (h0 : x ≠ []) (hn : st.n ≠ 0) (he : stepE st x = 0) : headF (f + 1) st (x ++ [13, 10] ++ r) = headF f (stepS st x) r := by
  have hl : lineF 0 (x ++ [13, 10] ++ r) = .got x.length := by
    have := lineF_mk (x := x) (n := 0) r h1 (by omega)
    rw [Nat.zero_add] at this
    rw [List.append_assoc]; exact this
  have ht : (x ++ [13, 10] ++ r).take x.length = x := by rw [List.append_assoc]; exact List.take_left
  have hd : (x ++ [13, 10] ++ r).drop (x.length + 2) = r := by
    rw [show x.length + 2 = (x ++ [13, 10]).length by simp]
    exact List.drop_left
  rw [headF, hl]
  simp only [ht, hd]
  rw [if_neg hn, if_neg (fun e => h0 (List.eq_nil_of_length_eq_zero e)), if_pos he]
theorem headF_first {f : Nat} {x : List UInt8} (r : List UInt8) (h1 : ∀ b ∈ x, b ≠ 10 ∧ b ≠ 13) (h2 : x.length ≤ 1000) (he : headE x = 0) : headF (f + 1) st0 (x ++ [13, 10] ++ r) = headF f ⟨1, headM x, headP x, false, 0, false, false⟩ r := by
  have hl : lineF 0 (x ++ [13, 10] ++ r) = .got x.length := by
    have := lineF_mk (x := x) (n := 0) r h1 (by omega)
    rw [Nat.zero_add] at this
    rw [List.append_assoc]; exact this
  have ht : (x ++ [13, 10] ++ r).take x.length = x := by rw [List.append_assoc]; exact List.take_left
  have hd : (x ++ [13, 10] ++ r).drop (x.length + 2) = r := by
    rw [show x.length + 2 = (x ++ [13, 10]).length by simp]
    exact List.drop_left
  rw [headF, hl]
  simp only [ht, hd]
  rw [if_pos (show st0.n = 0 from rfl), if_pos he]
theorem headF_end {f : Nat} {st : St} (r : List UInt8) (hn : st.n ≠ 0) : headF (f + 1) st ([13, 10] ++ r) = some (st, r) := by
  have hl : lineF 0 ([13, 10] ++ r) = .got 0 := lineF_mk (x := []) (n := 0) r (fun b h => by cases h) (by decide)
  rw [headF, hl]
  simp only
  rw [if_neg hn]
  rfl
/-- A request that is printed is read back. -/
theorem head_fmt {m p : List UInt8} {n : Nat} (cl : Bool) (h : fmtE m p n = 0) : ∃ s, headF 23 st0 (fmtH m p n cl) = some (s, []) ∧ s.m = m ∧ s.p = p ∧ s.close = cl ∧ s.len = n := by
  obtain ⟨hm, hp, hn⟩ := fmtE_zero h
  obtain ⟨a1, a2⟩ := headLine_bytes hm hp
  obtain ⟨b1, b2, b3⟩ := headLine_ok hm hp
  obtain ⟨c1, c2, c3⟩ := lenLine_bytes n hn
  obtain ⟨t1, t2⟩ := txt_nonneg (z := (n : Int)) (by omega)
  have hl0 : lenE (txt (n : Int)) = 0 := by
    unfold lenE
    rw [if_pos t1, t2, if_pos (by omega)]
  have cb : ∀ b ∈ closeLine, b ≠ 10 ∧ b ≠ 13 := by decide
  have se : ∀ st : St, st.n ≤ 20 → st.sl = false → stepE st (lenLine n) = 0 ∧ stepS st (lenLine n) = ⟨st.n + 1, st.m, st.p, st.close, n, true, st.sc⟩ := fun st h1 h2 => by
    unfold stepE stepS
    rw [field_len]
    simp only [if_true, h2, hl0, t2]
    exact ⟨by first | (rw [if_neg (by omega)]; done) | (rw [if_neg (by omega)]; rfl), by simp⟩
  have sc : ∀ st : St, st.n ≤ 20 → st.sc = false → stepE st closeLine = 0 ∧ stepS st closeLine = ⟨st.n + 1, st.m, st.p, true, st.len, st.sl, true⟩ := fun st h1 h2 => by
    unfold stepE stepS
    rw [field_close]
    simp only [h2, show tConn ≠ tLen by decide, if_false, if_true, show small tClose = tClose by kernel_rfl, true_or, decide_true]
    exact ⟨by first | (rw [if_neg (by omega)]; done) | (rw [if_neg (by omega)]; rfl), by first | rfl | trivial⟩
  unfold fmtH
  by_cases hn0 : 0 < n
  · cases cl with
    | true =>
      refine ⟨⟨3, m, p, true, n, true, true⟩, ?_, rfl, rfl, rfl, rfl⟩
      simp only [if_pos hn0, if_true]
      have e : headLine m p ++ [13, 10] ++ (lenLine n ++ [13, 10]) ++ (closeLine ++ [13, 10]) ++ [13, 10] = headLine m p ++ [13, 10] ++ (lenLine n ++ [13, 10] ++ (closeLine ++ [13, 10] ++ ([13, 10] ++ []))) := by simp only [List.append_assoc, List.append_nil]
      rw [e, headF_first _ a1 a2 b1, b2, b3, headF_line _ c1 c2 c3 (by simp) (se _ (by simp) rfl).1, (se _ (by simp) rfl).2, headF_line _ cb (by decide) (by decide) (by simp) (sc _ (by simp) rfl).1, (sc _ (by simp) rfl).2]
      exact headF_end [] (by simp)
    | false =>
      refine ⟨⟨2, m, p, false, n, true, false⟩, ?_, rfl, rfl, rfl, rfl⟩
      simp only [if_pos hn0, Bool.false_eq_true, if_false]
      have e : headLine m p ++ [13, 10] ++ (lenLine n ++ [13, 10]) ++ [] ++ [13, 10] = headLine m p ++ [13, 10] ++ (lenLine n ++ [13, 10] ++ ([13, 10] ++ [])) := by simp only [List.append_assoc, List.append_nil]
      rw [e, headF_first _ a1 a2 b1, b2, b3, headF_line _ c1 c2 c3 (by simp) (se _ (by simp) rfl).1, (se _ (by simp) rfl).2]
      exact headF_end [] (by simp)
  · obtain rfl : n = 0 := by omega
    cases cl with
    | true =>
      refine ⟨⟨2, m, p, true, 0, false, true⟩, ?_, rfl, rfl, rfl, rfl⟩
      simp only [if_neg hn0, if_true]
      have e : headLine m p ++ [13, 10] ++ [] ++ (closeLine ++ [13, 10]) ++ [13, 10] = headLine m p ++ [13, 10] ++ (closeLine ++ [13, 10] ++ ([13, 10] ++ [])) := by simp only [List.append_assoc, List.append_nil, List.nil_append]
      rw [e, headF_first _ a1 a2 b1, b2, b3, headF_line _ cb (by decide) (by decide) (by simp) (sc _ (by simp) rfl).1, (sc _ (by simp) rfl).2]
      exact headF_end [] (by simp)
    | false =>
      refine ⟨⟨1, m, p, false, 0, false, false⟩, ?_, rfl, rfl, rfl, rfl⟩
      simp only [if_neg hn0, Bool.false_eq_true, if_false]
      have e : headLine m p ++ [13, 10] ++ [] ++ [] ++ [13, 10] = headLine m p ++ [13, 10] ++ ([13, 10] ++ []) := by simp only [List.append_assoc, List.append_nil, List.nil_append]
      rw [e, headF_first _ a1 a2 b1, b2, b3]
      exact headF_end [] (by simp)
end Go.Proofs.YtkaimfeiahogaaaGreatDoor
