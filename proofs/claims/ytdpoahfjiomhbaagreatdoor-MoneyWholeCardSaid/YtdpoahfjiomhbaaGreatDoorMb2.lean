/-
  The walk of the statement MoneyBack: it returns true, whatever it is given. (Printed by tools/mkmb2.py.)
-/
import Derived.Test.YtdpoahfjiomhbaaGreatDoorMp2
import Derived.Test.YtdpoahfjiomhbaaGreatDoorMp3
import Derived.Test.YtdpoahfjiomhbaaGreatDoorMc6
import Derived.Test.YtdpoahfjiomhbaaGreatDoorMf1

/-
  Plain Lean: an amount's text is read as that amount; a text that is an amount's is no longer than that amount's text.
-/
namespace Go.Proofs.YtdpoahfjiomhbaaGreatDoor
set_option linter.all false
open Go.RowKit Go.Sort

theorem cutW_hit {c : UInt8} {z : List UInt8} (r : List UInt8) (h : ∀ b ∈ z, b ≠ c) : cutW c (z ++ c :: r) = (z, r, true) := by unfold cutW; rw [cutAt_hit r h]
theorem cutW_free {c : UInt8} {l : List UInt8} (h : ∀ b ∈ l, b ≠ c) : cutW c l = (l, [], false) := by unfold cutW; rw [cutAt_free h]
theorem dvA_lowM : ∀ (l : List UInt8) (a : Nat), a * 10 ^ l.length ≤ dvA a l
  | [], a => by simp [dvA]
  | b :: l, a => by
    rw [dvA_cons, List.length_cons, Nat.pow_succ]
    have h := dvA_lowM l (10 * a + (b.toNat - 48))
    have : a * (10 ^ l.length * 10) ≤ (10 * a + (b.toNat - 48)) * 10 ^ l.length := by
      rw [Nat.add_mul, show a * (10 ^ l.length * 10) = 10 * a * 10 ^ l.length by rw [Nat.mul_comm (10 ^ l.length) 10, ← Nat.mul_assoc, Nat.mul_comm a 10]]
      exact Nat.le_add_right _ _
    omega
theorem dv_zero_cons (t : List UInt8) : dv (48 :: t) = dv t := by
  show dvA 0 (48 :: t) = dvA 0 t
  rw [dvA_cons]; rfl
theorem dv_zeros (k : Nat) (t : List UInt8) : dv (List.replicate k 48 ++ t) = dv t := by
  induction k with
  | zero => rfl
  | succ k ih => rw [List.replicate_succ, List.cons_append, dv_zero_cons, ih]
/-- A number's text has as many digits as digits without 0 ahead that make it. -/
theorem txt_dv_len {l : List UInt8} (hd : DigB l) (hne : l ≠ []) (hh : l.head? ≠ some 48) : l.length ≤ (txt (dv l : Int)).length := by
  cases l with
  | nil => exact absurd rfl hne
  | cons c r =>
    have hc := hd c (List.mem_cons_self ..)
    have hc48 : c.toNat ≠ 48 := fun e => hh (by rw [List.head?_cons, Option.some.injEq]; exact UInt8.toNat_inj.1 e)
    have e : dv (c :: r) = dvA (10 * 0 + (c.toNat - 48)) r := by rw [← dvA_cons]; rfl
    have low := dvA_lowM r (10 * 0 + (c.toNat - 48))
    have h10 : 1 * 10 ^ r.length ≤ (10 * 0 + (c.toNat - 48)) * 10 ^ r.length := Nat.mul_le_mul_right _ (by omega)
    have hpos : 0 < 10 ^ r.length := Nat.pos_of_ne_zero (by simp)
    have hge : 10 ^ r.length ≤ dv (c :: r) := by rw [e]; omega
    have := dec_len_ge r.length hge
    unfold txt
    rw [if_neg (by omega), if_neg (by omega), show ((dv (c :: r) : Nat) : Int).natAbs = dv (c :: r) by omega]
    simp; omega
theorem padM_len (sc : Nat) (t : List UInt8) : (padM sc t).length = max (sc + 1) t.length := by unfold padM; simp; omega
theorem padM_dig (sc : Nat) {t : List UInt8} (h : DigB t) : DigB (padM sc t) := digB_app (digB_zeros _) h
theorem padM_dv (sc : Nat) (t : List UInt8) : dv (padM sc t) = dv t := dv_zeros _ _
theorem ptM_len (sc : Nat) (P : List UInt8) (h : sc + 1 ≤ P.length) : (ptM sc P).length = if sc = 0 then P.length else P.length + 1 := by
  unfold ptM
  split
  · rfl
  · simp; omega
theorem ptM_mem (sc : Nat) {P : List UInt8} (hd : DigB P) : ∀ b ∈ ptM sc P, b = 46 ∨ (48 ≤ b.toNat ∧ b.toNat ≤ 57) := fun b hb => by
  unfold ptM at hb
  split at hb
  · exact .inr (hd b hb)
  · rcases List.mem_append.1 hb with h | h
    · exact .inr (hd b (List.mem_of_mem_take h))
    · rcases List.mem_cons.1 h with h | h
      · exact .inl h
      · exact .inr (hd b (List.mem_of_mem_drop h))
theorem ptM_head (sc : Nat) {P : List UInt8} (hd : DigB P) (h : sc + 1 ≤ P.length) : (ptM sc P).head? ≠ some 45 := by
  cases P with
  | nil => simp at h
  | cons b r =>
    have hb := hd b (List.mem_cons_self ..)
    have hne : b ≠ 45 := fun e => by rw [e] at hb; simp at hb
    unfold ptM
    split
    · simpa using hne
    · rw [show (b :: r).length - sc = (r.length - sc) + 1 by simp at h ⊢; omega]
      simpa using hne
theorem ptM_cut (sc : Nat) {P : List UInt8} (hd : DigB P) : cutW 46 (ptM sc P) = if sc = 0 then (P, [], false) else (P.take (P.length - sc), P.drop (P.length - sc), true) := by
  have no : ∀ b ∈ P, b ≠ 46 := fun b hb e => by have := hd b hb; rw [e] at this; simp at this
  unfold ptM
  split
  · exact cutW_free no
  · exact cutW_hit _ fun b hb => no b (List.mem_of_mem_take hb)
theorem digB_no {l : List UInt8} (h : ∀ b ∈ l, b = 46 ∨ (48 ≤ b.toNat ∧ b.toNat ≤ 57)) : ∀ b ∈ l, b ≠ 32 := fun b hb e => by
  rcases h b hb with k | k
  · rw [k] at e; simp at e
  · rw [e] at k; simp at k
theorem cur_noblank {k : Nat} {t : List UInt8 × Int} (h : curL[k]? = some t) : hasB 32 t.1 = false :=
  cur_all (p := fun _ t => hasB 32 t.1 = false) (by decide) (by decide) (by decide) (by decide) (by decide) (by decide) h
theorem parse_str {u : Int} {c : List UInt8} (h : amE u c = 0) : codeM (strM u c) = 0 ∧ numM (strM u c) = u ∧ (mA (strM u c)).2.1 = c := by
  have hstr : strM u c = (if u < 0 then [45] else []) ++ (ptM (scN c).toNat (padM (scN c).toNat (txt u.natAbs)) ++ 32 :: c) := by unfold strM; rw [if_pos h]
  obtain ⟨hu, k, t, hk, rfl⟩ := amE_0 h
  obtain ⟨s1, s2, s3, s4⟩ := cur_sc hk
  obtain ⟨u0, u1⟩ := inU_iffS.1 hu
  have nb := cur_noblank hk
  obtain ⟨sc, hsc⟩ : ∃ sc : Nat, t.2 = (sc : Int) := Int.eq_ofNat_of_zero_le (by omega)
  rw [s1, hsc, Int.toNat_natCast] at hstr
  obtain ⟨nf, nv⟩ := txt_nonneg (z := (u.natAbs : Int)) (by omega)
  obtain ⟨tne, td, th⟩ := numF_iff.1 nf
  obtain ⟨τ, hτ⟩ : ∃ τ, txt (u.natAbs : Int) = τ := ⟨_, rfl⟩
  rw [hτ] at hstr tne td th nv
  obtain ⟨P, hP⟩ : ∃ P, padM sc τ = P := ⟨_, rfl⟩
  have Pd : DigB P := by rw [← hP]; exact padM_dig sc td
  have Pl : P.length = max (sc + 1) τ.length := by rw [← hP]; exact padM_len sc τ
  have Pv : dv P = u.natAbs := by rw [← hP, padM_dv, nv]; omega
  rw [hP] at hstr
  have hl : sc + 1 ≤ P.length := by omega
  have mem := ptM_mem sc Pd
  have hA : mA (strM u t.1) = ((if u < 0 then [45] else []) ++ ptM sc P, t.1, true) := by
    unfold mA
    rw [hstr, ← List.append_assoc]
    refine cutW_hit _ fun b hb => ?_
    rcases List.mem_append.1 hb with hb | hb
    · split at hb
      · simp at hb; subst hb; decide
      · simp at hb
    · exact digB_no mem b hb
  have hB : mB (strM u t.1) = (ptM sc P, decide (u < 0)) := by
    unfold mB pf
    rw [hA]
    by_cases hn : u < 0
    · simp [hn]
    · have hh := ptM_head sc Pd hl
      simp [hn, hh]
  have hC : mC (strM u t.1) = if sc = 0 then (P, [], false) else (P.take (P.length - sc), P.drop (P.length - sc), true) := by
    unfold mC; rw [hB]; exact ptM_cut sc Pd
  have hz : zlead (P.take (P.length - sc)) = false := by
    unfold zlead
    by_cases h1 : τ.length ≤ sc + 1
    · have : (P.take (P.length - sc)).length = 1 := by rw [List.length_take]; omega
      rw [decide_eq_false (by omega)]; rfl
    · have e : P = τ := by rw [← hP]; unfold padM; rw [show sc + 1 - τ.length = 0 by omega]; rfl
      have h2 : τ.head? ≠ some 48 := by
        rcases th with k | k
        · omega
        · exact k
      have h3 : (P.take (P.length - sc)).head? = τ.head? := by
        rw [e, List.head?_take, if_neg (by omega)]
      rw [h3]
      simp [h2]
  have hw : (P.take (P.length - sc)) ≠ [] := fun e => by
    have := congrArg List.length e
    rw [List.length_take] at this; simp at this; omega
  have dt : DigB (P.take (P.length - sc)) := fun b hb => Pd b (List.mem_of_mem_take hb)
  have dd : DigB (P.drop (P.length - sc)) := fun b hb => Pd b (List.mem_of_mem_drop hb)
  have ld : (P.drop (P.length - sc)).length = sc := by rw [List.length_drop]; omega
  have hbad : badM (strM u t.1) = false := by
    unfold badM
    rw [hC, hA]
    by_cases h0 : sc = 0
    · subst h0
      rw [if_pos rfl]
      have e : P.take (P.length - 0) = P := by simp
      rw [e] at hz hw dt
      simp only [nb, hz, digS_iff.2 ⟨hw, dt⟩]; rfl
    · rw [if_neg h0]
      have hdn : P.drop (P.length - sc) ≠ [] := fun e => by rw [e] at ld; simp at ld; omega
      simp only [nb, hz, digS_iff.2 ⟨hw, dt⟩, digS_iff.2 ⟨hdn, dd⟩]; rfl
  have hall : allM (strM u t.1) = P := by
    unfold allM
    rw [hC, hA]
    simp only
    rw [s1, hsc]
    by_cases h0 : sc = 0
    · subst h0; simp
    · rw [if_neg h0]
      simp only
      rw [ld]; simp
  have hlen : ((mC (strM u t.1)).2.1.length : Int) ≤ sc := by
    rw [hC]
    by_cases h0 : sc = 0
    · rw [if_pos h0]; simp
    · rw [if_neg h0]; simp only; rw [ld]; omega
  refine ⟨?_, ?_, by rw [hA]⟩
  · unfold codeM
    rw [if_neg (by rw [hbad]; decide), hall, Pv, hA, hB]
    simp only
    rw [s2, if_neg (by decide), s1, hsc, if_neg (by omega), if_neg (by omega), if_neg]
    rintro ⟨h1, h2⟩
    have := of_decide_eq_true h2
    omega
  · unfold numM
    rw [hall, Pv, hB]
    simp only
    by_cases hn : u < 0
    · rw [if_pos (decide_eq_true hn)]; omega
    · rw [if_neg (by simpa using hn)]; omega
theorem str_parse {s : List UInt8} (h : codeM s = 0) : amE (numM s) (mA s).2.1 = 0 ∧ s.length ≤ (strM (numM s) (mA s).2.1).length := by
  unfold codeM at h
  split at h
  · simp at h
  rename_i hbad
  split at h
  · simp at h
  rename_i hsc
  split at h
  · simp at h
  rename_i hpl
  split at h
  · simp at h
  rename_i hV
  split at h
  · simp at h
  rename_i hneg
  have hE : scE (mA s).2.1 = 0 := by
    rcases scE_cases (mA s).2.1 with k | k
    · exact k
    · exact absurd k hsc
  have hin : inU (numM s) = true := by
    rw [inU_iffS]; unfold numM; split <;> omega
  have hE0 : amE (numM s) (mA s).2.1 = 0 := by unfold amE; rw [if_pos hE, hin]; rfl
  refine ⟨hE0, ?_⟩
  have hb : badM s = false := by simpa using hbad
  have hg : (mA s).2.2 = true ∧ digS (mC s).1 = true ∧ zlead (mC s).1 = false ∧ ((mC s).2.2 = false ∨ ((mC s).2.2 = true ∧ digS (mC s).2.1 = true)) := by
    unfold badM at hb
    cases h1 : (mA s).2.2 <;> cases h2 : hasB 32 (mA s).2.1 <;> cases h3 : digS (mC s).1 <;> cases h4 : zlead (mC s).1 <;> cases h5 : (mC s).2.2 <;> cases h6 : digS (mC s).2.1 <;> simp_all
  obtain ⟨g1, g2, g3, g4⟩ := hg
  obtain ⟨wne, wd⟩ := digS_iff.1 g2
  -- the lengths of the parts
  have lA : s.length = (mA s).1.length + 1 + (mA s).2.1.length := by
    rcases cutW_cases 32 s with ⟨k, _⟩ | ⟨z, r, k1, _, k2⟩
    · unfold mA at g1; rw [k] at g1; simp at g1
    · have : mA s = (z, r, true) := k2
      rw [this, k1]; simp; omega
  have lB : (mA s).1.length = (mB s).1.length + (if (mB s).2 = true then 1 else 0) := by
    unfold mB pf
    by_cases k : (mA s).1.head? = some 45
    · rw [if_pos k]
      cases hm : (mA s).1 with
      | nil => rw [hm] at k; simp at k
      | cons b r => simp
    · rw [if_neg k]; simp
  have lC : (mB s).1.length = (mC s).1.length + (if (mC s).2.2 = true then 1 + (mC s).2.1.length else 0) ∧ ((mC s).2.2 = false → (mC s).2.1 = []) := by
    rcases cutW_cases 46 (mB s).1 with ⟨k, _⟩ | ⟨z, r, k1, _, k2⟩
    · have : mC s = ((mB s).1, [], false) := k
      rw [this]; simp
    · have : mC s = (z, r, true) := k2
      rw [this]; rw [k1]; simp; omega
  obtain ⟨n0, n3⟩ := scN_bd (mA s).2.1
  obtain ⟨sc, hscN⟩ : ∃ sc : Nat, scN (mA s).2.1 = (sc : Int) := Int.eq_ofNat_of_zero_le n0
  have hstr : strM (numM s) (mA s).2.1 = (if numM s < 0 then [45] else []) ++ (ptM sc (padM sc (txt (numM s).natAbs)) ++ 32 :: (mA s).2.1) := by unfold strM; rw [if_pos hE0, hscN]; rfl
  have hnat : (numM s).natAbs = dv (allM s) := by unfold numM; split <;> omega
  have hsg : numM s < 0 ↔ (mB s).2 = true := by
    unfold numM
    constructor
    · intro k; split at k
      · assumption
      · omega
    · intro k
      rw [if_pos k]
      have : dv (allM s) ≠ 0 := fun e => hneg ⟨e, k⟩
      omega
  have hlen : (strM (numM s) (mA s).2.1).length = (if (mB s).2 = true then 1 else 0) + (ptM sc (padM sc (txt (dv (allM s) : Int)))).length + 1 + (mA s).2.1.length := by
    rw [hstr, hnat]
    by_cases k : numM s < 0
    · rw [if_pos k, if_pos (hsg.1 k)]; simp; omega
    · rw [if_neg k, if_neg (fun e => k (hsg.2 e))]; simp; omega
  have pl : (mC s).2.1.length ≤ sc := by rw [hscN] at hpl; omega
  have Pl := padM_len sc (txt (dv (allM s) : Int))
  have PL := ptM_len sc (padM sc (txt (dv (allM s) : Int))) (by rw [Pl]; omega)
  have w1 : 1 ≤ (mC s).1.length := List.length_pos_iff.2 wne
  have key : (mC s).1.length + sc ≤ max (sc + 1) (txt (dv (allM s) : Int)).length := by
    by_cases k1 : (mC s).1.length = 1
    · omega
    · have hh : (mC s).1.head? ≠ some 48 := fun e => by
        unfold zlead at g3
        rw [decide_eq_true (by omega), e] at g3; simp at g3
      have pd : DigB (mC s).2.1 := by
        rcases g4 with k | ⟨_, k⟩
        · rw [lC.2 k]; intro x hx; cases hx
        · exact (digS_iff.1 k).2
      have ad : DigB (allM s) := digB_app (digB_app wd pd) (digB_zeros _)
      have al : (allM s).length = (mC s).1.length + sc := by unfold allM; rw [hscN]; simp; omega
      have ah : (allM s).head? ≠ some 48 := by
        unfold allM
        cases hw : (mC s).1 with
        | nil => exact absurd hw wne
        | cons b r => rw [hw] at hh; simpa using hh
      have := txt_dv_len ad (fun e => by rw [e] at al; simp at al; omega) ah
      omega
  rw [hlen, lA, lB, lC.1, PL, Pl]
  rcases g4 with k | ⟨k, k2⟩
  · rw [k]
    simp only [Bool.false_eq_true, if_false]
    by_cases h0 : sc = 0
    · rw [if_pos h0]; omega
    · rw [if_neg h0]; omega
  · rw [k]
    have : 1 ≤ (mC s).2.1.length := List.length_pos_iff.2 (digS_iff.1 k2).1
    simp only [if_true]
    rw [if_neg (show ¬ sc = 0 by omega)]
    split <;> omega
end Go.Proofs.YtdpoahfjiomhbaaGreatDoor

/-
  Contract of money.Sum.
-/
namespace Go.Proofs.YtdpoahfjiomhbaaGreatDoor
set_option linter.all false
open Go.RowKit Go.Sort
attribute [local go_sem] cell_set_self lt_1 lt_2 lt_3 lt_4 lt_5 lt_6

/-- A slice of amounts, as memory has it. -/
def Am (w : World) (A : Option Addr) (l : List (Int × List UInt8)) : Prop := ∀ (i : Nat) (t : Int × List UInt8), l[i]? = some t → ∃ b off, A = some ⟨b, off, none⟩ ∧ b < w.heap.size ∧ w.cell? ⟨b, off + i * 2, none⟩ = some (.int .i64 t.1) ∧ w.cell? ⟨b, off + i * 2 + 1, none⟩ = some (.string ⟨t.2.toArray⟩)
theorem Am.below {w W : World} {A : Option Addr} {l : List (Int × List UInt8)} (h : Am w A l) (hb : Below w.heap.size w W) : Am W A l := fun i t hi => by
  obtain ⟨b, off, hA, h1, h2, h3⟩ := h i t hi
  exact ⟨b, off, hA, Nat.lt_of_lt_of_le h1 hb.size, (hb.cell (p := ⟨b, off + i * 2, none⟩) h1).trans h2, (hb.cell (p := ⟨b, off + i * 2 + 1, none⟩) h1).trans h3⟩
/-- The first error of some amounts beside a currency. -/
def sumC (c : List UInt8) : List (Int × List UInt8) → Int
  | [] => 0
  | t :: r => if pairE t.1 t.2 0 c = 0 then sumC c r else pairE t.1 t.2 0 c
def totA : List (Int × List UInt8) → Int
  | [] => 0
  | t :: r => t.1 + totA r
theorem totA_app (a b : List (Int × List UInt8)) : totA (a ++ b) = totA a + totA b := by
  induction a with
  | nil => simp [totA]
  | cons x r ih => simp [totA, ih]; omega
theorem totA_take {l : List (Int × List UInt8)} {k : Nat} {t : Int × List UInt8} (h : l[k]? = some t) : totA (l.take (k + 1)) = totA (l.take k) + t.1 := by
  rw [List.take_succ, h, Option.toList_some, totA_app]; simp [totA]
def sumCode (c : List UInt8) (l : List (Int × List UInt8)) : Int := if scE c = 0 then (if sumC c l = 0 then maE (totA l) else sumC c l) else scE c
theorem ret_vU {a b : Value} (h : a = b) : Ending.returned b = .returned a := by rw [h]
set_option maxHeartbeats 8000000 in
set_option maxRecDepth 100000 in
theorem msum_any (c : List UInt8) (A : Option Addr) (n cp : Nat) (l : List (Int × List UInt8)) (hl : l.length = n) (hn : n ≤ 9223372036854775807) (w : World) (T : Am w A l) :
    Calls Tryz.prog 35 #[.string ⟨c.toArray⟩, .slice A n cp] w fun e w' => e = .returned (amR (sumCode c l) (totA l) c) ∧ Below w.heap.size w w' := by
  have SC := Lib.hid (fun W => scale_any c W)
  rcases scE_cases c with hs | hs
  · have HL := Lib.hid hl
    have TT := Lib.hid (fun W (hb : Below w.heap.size w W) => T.below hb)
    have PA := Lib.hid (fun (t : Int × List UInt8) W => pair_any t.1 t.2 0 c W)
    have HS := Lib.hid hs
    rw [hs] at SC
    have AM0 : Hid (∀ z : Int, amR 0 z c = .tuple #[.agg #[.int .i64 z, .string ⟨c.toArray⟩], .int .i64 0]) := Lib.hid fun z => amR_0 rfl
    clear hs hl T
    obtain ⟨C, hC⟩ : ∃ C : ByteArray, (⟨c.toArray⟩ : ByteArray) = C := ⟨_, rfl⟩
    have HC := Lib.hid hC
    rw [hC] at SC AM0
    obtain ⟨RV, hRV⟩ : ∃ RV, amR (sumCode c l) (totA l) c = RV := ⟨_, rfl⟩
    have HRV := Lib.hid hRV
    rw [hRV]
    clear hRV
    generalize scN c = sc at *
    have h00 := hiOf_0
    have l00 := loOf_0
    go_enter Tryz.func35, Tryz.ntmps35
    go_wp2_with (first | (go_at_call 27; refine (SC.out _).mono ?_; rintro e w1 ⟨rfl, hb1⟩; obtain ⟨hc1, hf1⟩ := bcell hb1; have hs1 := hb1.size; (try simp at hs1); have hz1 : w.heap.size < w1.heap.size := by have := hb1.size; (try simp at this); omega))
    go_loopw [24] (fun i wr => ∃ (k : Nat) (S : Int), k ≤ n ∧ i = .int .i64 k ∧ (-4611686018427387904 * k ≤ S ∧ S ≤ 4611686018427387904 * k) ∧ Hid (S = totA (l.take k) ∧ sumC c l = sumC c (l.drop k)) ∧ (wr.cell? ⟨w1.heap.size, 0, none⟩ = some (.int .u64 (hiOf S)) ∧ wr.cell? ⟨w1.heap.size, 1, none⟩ = some (.int .u64 (loOf S)) ∧ wr.frozen? ⟨w1.heap.size, 0, none⟩ = false ∧ wr.frozen? ⟨w1.heap.size, 1, none⟩ = false) ∧ (wr.cell? ⟨w.heap.size, 0, none⟩ = some (.int .i64 0) ∧ wr.cell? ⟨w.heap.size, 1, none⟩ = some (.string ⟨#[]⟩) ∧ wr.frozen? ⟨w.heap.size, 0, none⟩ = false ∧ wr.frozen? ⟨w.heap.size, 1, none⟩ = false) ∧ w.heap.size < wr.heap.size ∧ w1.heap.size < wr.heap.size ∧ Below w.heap.size w wr) (fun i _ => n - (intOf i).toNat)
    case atStart => exact ⟨0, 0, by omega, rfl, by omega, Lib.hid ⟨rfl, rfl⟩, (by rw [h00, l00]; refine ⟨?_, ?_, ?_, ?_⟩ <;> (simp [go_sem, *]; done)), (by refine ⟨?_, ?_, ?_, ?_⟩ <;> (simp [go_sem, *]; done)), (by first | (simp; done) | (simp; omega) | omega), (by first | (simp; done) | (simp; omega) | omega), (by repeat (first | exact Below.refl _ _ | refine Below.setCell ?_ (by first | (simp; done) | (simp; omega) | omega) _ | refine Below.alloc ?_ (by first | (simp; done) | (simp; omega) | omega) _ | refine Below.drew ?_ | assumption | refine Below.trans ?_ (Below.mono (by assumption) (by first | (simp; done) | (simp; omega) | omega))))⟩
    case round =>
      obtain ⟨k, S, hk, rfl, ⟨s0, s1⟩, HK, ⟨a0, a1, a2, a3⟩, ⟨b0, b1, b2, b3⟩, hz0, hzw, hB⟩ := hrel
      obtain ⟨wo, rfl⟩ : ∃ wo : World, wo = wr := ⟨_, rfl⟩
      have hso := hB.size
      have hne : ¬ w1.heap.size = w.heap.size := by omega
      have hzz : w.heap.size < wo.heap.size + 1 ∧ w1.heap.size < wo.heap.size + 1 := by omega
      by_cases hlt : k < n
      · have hlt' : (k : Int) < (n : Int) := by omega
        obtain ⟨t, ht⟩ : ∃ t, l[k]? = some t := ⟨_, List.getElem?_eq_getElem (by rw [HL.out]; exact hlt)⟩
        obtain ⟨b, off, rfl, hbw, c0, c1⟩ := TT.out wo hB k t ht
        have PT := Lib.hid (PA.out t)
        rw [HC.out] at PT
        have hd : l.drop k = t :: l.drop (k + 1) := by
          obtain ⟨h1, h2⟩ := List.getElem?_eq_some_iff.1 ht
          rw [List.drop_eq_getElem_cons h1, h2]
        by_cases hp : pairE t.1 t.2 0 c = 0
        · obtain ⟨hu, _, _, _, _⟩ := pairE_in hp
          obtain ⟨u0, u1⟩ := inU_iff.1 hu
          have F1 := Lib.hid (fun W => fromInt_any t.1 (by omega) (by omega) W)
          have AD := Lib.hid (fun W => add_fits S t.1 (by unfold In128; omega) (by unfold In128; omega) (by unfold In128; omega) W)
          have NK : Hid (S + t.1 = totA (l.take (k + 1)) ∧ sumC c l = sumC c (l.drop (k + 1))) := Lib.hid ⟨by rw [totA_take ht, ← HK.out.1], by rw [HK.out.2, hd]; simp [sumC, hp]⟩
          rw [hp] at PT
          clear hp hu hd ht PA
          generalize t.1 = z at *
          generalize (⟨t.2.toArray⟩ : ByteArray) = CU at *
          generalize hiOf z = hz at *
          generalize loOf z = lz at *
          generalize hS : hiOf S = hS' at *
          generalize hL : loOf S = lS' at *
          clear hS hL
          go_wp2_with (first | (go_at_call 91; refine (PT.out _).mono ?_; rintro e w2 ⟨rfl, hb2⟩; obtain ⟨hc2, hf2⟩ := bcell hb2; have hs2 := hb2.size; (try simp at hs2); have hz2 : w.heap.size < w2.heap.size ∧ w1.heap.size < w2.heap.size ∧ wo.heap.size < w2.heap.size := by have := hb2.size; (try simp at this); omega))
          go_region_law (first | (go_simp; go_at_call 93; (refine (F1.out _).mono ?_); rintro e w3 ⟨rfl, hb3⟩; obtain ⟨hc3, hf3⟩ := bcell hb3; (try simp only [drew_sizeM, drew_cellM, drew_frozenM] at hc3 hf3); have hs3 := hb3.size; (try simp at hs3); have hz3 : w.heap.size < w3.heap.size ∧ w1.heap.size < w3.heap.size := (by omega)) | (go_simp; go_at_call 92; (refine (AD.out _).mono ?_); rintro e w4 ⟨rfl, hb4⟩; obtain ⟨hc4, hf4⟩ := bcell hb4; (try simp only [drew_sizeM, drew_cellM, drew_frozenM] at hc4 hf4); have hs4 := hb4.size; (try simp at hs4); have hz4 : w.heap.size < w4.heap.size ∧ w1.heap.size < w4.heap.size := (by omega)))
          all_goals (
            go_wp2
            go_roundw
            case rel => exact ⟨k + 1, S + z, by omega, by go_num, by omega, NK, (by refine ⟨?_, ?_, ?_, ?_⟩ <;> (simp [go_sem, *]; done)), (by refine ⟨?_, ?_, ?_, ?_⟩ <;> (simp [go_sem, *]; done)), (by first | (simp; done) | (simp; omega) | omega), (by first | (simp; done) | (simp; omega) | omega), (by repeat (first | exact Below.refl _ _ | refine Below.setCell ?_ (by first | (simp; done) | (simp; omega) | omega) _ | refine Below.alloc ?_ (by first | (simp; done) | (simp; omega) | omega) _ | refine Below.drew ?_ | assumption | refine Below.trans ?_ (Below.mono (by assumption) (by first | (simp; done) | (simp; omega) | omega))))⟩
            case measure => first | (simp [intOf]; done) | (simp [intOf]; omega))
        · have E : Hid (RV = .tuple #[.agg #[.int .i64 0, .string ⟨#[]⟩], .int .i64 (pairE t.1 t.2 0 c)]) := Lib.hid (by
            rw [← HRV.out]
            have e1 : sumC c l = pairE t.1 t.2 0 c := by rw [HK.out.2, hd]; simp [sumC, hp]
            have e2 : sumCode c l = pairE t.1 t.2 0 c := by unfold sumCode; rw [if_pos HS.out, e1, if_neg hp]
            rw [e2]; exact amR_n hp)
          generalize pairE t.1 t.2 0 c = pe at *
          have x0 : (pe != 0) = true := bne_iff_ne.2 hp
          clear hp hd ht PA
          generalize t.1 = z at *
          generalize (⟨t.2.toArray⟩ : ByteArray) = CU at *
          generalize hiOf S = hS' at *
          generalize loOf S = lS' at *
          go_wp2_with (first | (go_at_call 91; refine (PT.out _).mono ?_; rintro e w2 ⟨rfl, hb2⟩; obtain ⟨hc2, hf2⟩ := bcell hb2; have hs2 := hb2.size; (try simp at hs2); have hz2 : w.heap.size < w2.heap.size ∧ w1.heap.size < w2.heap.size ∧ wo.heap.size < w2.heap.size := by have := hb2.size; (try simp at this); omega))
          exact bodyPost_ret (v := .tuple #[.agg #[.int .i64 0, .string ⟨#[]⟩], .int .i64 pe]) (by simp [results, Tryz.results35, go_sem, *]) rfl ⟨ret_vU E.out, (by repeat (first | exact Below.refl _ _ | refine Below.setCell ?_ (by first | (simp; done) | (simp; omega) | omega) _ | refine Below.alloc ?_ (by first | (simp; done) | (simp; omega) | omega) _ | refine Below.drew ?_ | assumption | refine Below.trans ?_ (Below.mono (by assumption) (by first | (simp; done) | (simp; omega) | omega))))⟩
      · obtain rfl : k = n := by omega
        have hkk : ¬ (k : Int) < (k : Int) := by omega
        have htk : l.take k = l := List.take_of_length_le (by rw [HL.out]; exact Nat.le_refl _)
        have hdk : l.drop k = [] := List.drop_of_length_le (by rw [HL.out]; exact Nat.le_refl _)
        have hS := HK.out.1
        have hC0 := HK.out.2
        rw [htk] at hS
        rw [hdk] at hC0
        have e2 : sumCode c l = maE (totA l) := by unfold sumCode; rw [if_pos HS.out, hC0, if_pos (show sumC c [] = 0 from rfl)]
        have MA := Lib.hid (fun W => made_any S (by unfold In128; omega) c W)
        have E : RV = amR (maE S) S c := by rw [← HRV.out, e2, ← hS]
        rw [HC.out] at MA
        have hR : ∃ (r : Int × ByteArray) (q : Int), amR (maE S) S c = .tuple #[.agg #[.int .i64 r.1, .string r.2], .int .i64 q] := ⟨(_, _), _, rfl⟩
        obtain ⟨⟨r, C2⟩, q, hR⟩ := hR
        simp only at hR
        rw [hR] at MA E
        replace E := Lib.hid E
        clear e2 hS hC0 htk hdk hR HK
        generalize hiOf S = hS' at *
        generalize loOf S = lS' at *
        go_wp2_with (first | (go_at_call 90; refine (MA.out _).mono ?_; rintro e w5 ⟨rfl, hb5⟩; obtain ⟨hc5, hf5⟩ := bcell hb5; have hs5 := hb5.size; (try simp at hs5); have hz5 : w.heap.size < w5.heap.size ∧ w1.heap.size < w5.heap.size := by have := hb5.size; (try simp at this); omega))
        exact bodyPost_ret (v := .tuple #[.agg #[.int .i64 r, .string C2], .int .i64 q]) (by simp [results, Tryz.results35, go_sem, *]) rfl ⟨ret_vU E.out, (by repeat (first | exact Below.refl _ _ | refine Below.setCell ?_ (by first | (simp; done) | (simp; omega) | omega) _ | refine Below.alloc ?_ (by first | (simp; done) | (simp; omega) | omega) _ | refine Below.drew ?_ | assumption | refine Below.trans ?_ (Below.mono (by assumption) (by first | (simp; done) | (simp; omega) | omega))))⟩
  · have e : sumCode c l = 18 := by unfold sumCode; rw [hs]; rfl
    rw [e, amR_n (by decide)]
    rw [hs] at SC
    clear e hs T hl
    generalize scN c = sc at *
    generalize (⟨c.toArray⟩ : ByteArray) = C at *
    go_enter Tryz.func35, Tryz.ntmps35
    go_wp2_with (first | (go_at_call 27; refine (SC.out _).mono ?_; rintro e w1 ⟨rfl, hb1⟩; obtain ⟨hc1, hf1⟩ := bcell hb1; have hs1 := hb1.size; (try simp at hs1); have hz1 : w.heap.size < w1.heap.size := by have := hb1.size; (try simp at this); omega))
    exact bodyPost_ret (v := .tuple #[.agg #[.int .i64 0, .string ⟨#[]⟩], .int .i64 18]) (by simp [results, Tryz.results35, go_sem, *]) rfl ⟨rfl, (by repeat (first | exact Below.refl _ _ | refine Below.setCell ?_ (by first | (simp; done) | (simp; omega) | omega) _ | refine Below.alloc ?_ (by first | (simp; done) | (simp; omega) | omega) _ | refine Below.drew ?_ | assumption | refine Below.trans ?_ (Below.mono (by assumption) (by first | (simp; done) | (simp; omega) | omega))))⟩
end Go.Proofs.YtdpoahfjiomhbaaGreatDoor

/-
  The walk of the statement MoneyBack: it returns true, whatever it is given. (Printed by tools/mkmb2.py.)
-/
namespace Go.Proofs.YtdpoahfjiomhbaaGreatDoor
set_option linter.all false
open Go.RowKit Go.Sort
attribute [local go_sem] cell_set_self lt_1 lt_2 lt_3 lt_4 lt_5 lt_6

theorem amR_formB (e u : Int) (c : List UInt8) : ∃ (x : Int) (X : ByteArray), amR e u c = .tuple #[.agg #[.int .i64 x, .string X], .int .i64 e] ∧ (e = 0 → x = u ∧ X = ⟨c.toArray⟩) := ⟨_, _, rfl, fun h => by rw [if_pos h, if_pos h]; exact ⟨rfl, rfl⟩⟩
def cellsAm (l : List (Int × List UInt8)) : List Value := l.flatMap fun t => [.int .i64 t.1, .string ⟨t.2.toArray⟩]
theorem cellsAm_app (a : List (Int × List UInt8)) (t : Int × List UInt8) : cellsAm (a ++ [t]) = cellsAm a ++ [.int .i64 t.1, .string ⟨t.2.toArray⟩] := by simp [cellsAm]
theorem cellsAm_at : ∀ {l : List (Int × List UInt8)} {i : Nat} {t : Int × List UInt8}, l[i]? = some t → (cellsAm l)[i * 2]? = some (.int .i64 t.1) ∧ (cellsAm l)[i * 2 + 1]? = some (.string ⟨t.2.toArray⟩)
  | [], i, t, h => by simp at h
  | y :: l, 0, t, h => by simp at h; subst h; simp [cellsAm]
  | y :: l, i + 1, t, h => by
    have ih := cellsAm_at (l := l) (i := i) (t := t) (by simpa using h)
    have e : cellsAm (y :: l) = .int .i64 y.1 :: .string ⟨y.2.toArray⟩ :: cellsAm l := rfl
    rw [e, show (i + 1) * 2 = i * 2 + 1 + 1 by omega]
    exact ih
theorem am_own {w : World} {base : Nat} {A : Option Addr} {n c : Nat} {l : List (Int × List UInt8)} (hl : l.length = n) (h : w.ownsRow base 41 2 (.slice A n c) n (cellsAm l)) : Am w A l := fun i t hi => by
  have hn : 0 < n := by have := (List.getElem?_eq_some_iff.1 hi).1; omega
  obtain ⟨g, cap, hv, _, hlt⟩ := h.form hn
  have hA : A = some ⟨g, 0, none⟩ := by injection hv
  subst hA
  obtain ⟨h1, h2⟩ := cellsAm_at hi
  have hc := h.cells (g := g) rfl
  refine ⟨g, 0, rfl, hlt, ?_, ?_⟩
  · have := hc _ _ h1; rw [addr0] at this; simpa using this
  · have := hc _ _ h2; rw [addr0] at this; simpa [Nat.add_assoc] using this
theorem sumC_0 (c : List UInt8) : ∀ l : List (Int × List UInt8), sumC c l = 0 ↔ ∀ t ∈ l, pairE t.1 t.2 0 c = 0
  | [] => by simp [sumC]
  | t :: r => by
    have ih := sumC_0 c r
    simp only [sumC]
    by_cases h : pairE t.1 t.2 0 c = 0
    · rw [if_pos h, ih]
      constructor
      · intro k x hx
        rcases List.mem_cons.1 hx with rfl | hx
        · exact h
        · exact k x hx
      · intro k x hx; exact k x (List.mem_cons_of_mem _ hx)
    · rw [if_neg h]
      exact ⟨fun k => absurd k h, fun k => absurd (k t (List.mem_cons_self ..)) h⟩
theorem totA_rev (l : List (Int × List UInt8)) : totA l.reverse = totA l := by
  induction l with
  | nil => rfl
  | cons t r ih => rw [List.reverse_cons, totA_app, ih]; simp [totA]; omega
/-- The sum hangs on no order, nor does whether there is one. -/
theorem sum_rev (c : List UInt8) (l : List (Int × List UInt8)) : ∃ (x : Int) (X : ByteArray) (e1 e2 : Int), amR (sumCode c l) (totA l) c = .tuple #[.agg #[.int .i64 x, .string X], .int .i64 e1] ∧ amR (sumCode c l.reverse) (totA l.reverse) c = .tuple #[.agg #[.int .i64 x, .string X], .int .i64 e2] ∧ (e1 == 0) = (e2 == 0) := by
  rw [totA_rev]
  unfold sumCode
  rw [totA_rev]
  by_cases hs : scE c = 0
  · rw [if_pos hs, if_pos hs]
    by_cases h : sumC c l = 0
    · have h2 : sumC c l.reverse = 0 := (sumC_0 c _).2 fun t ht => (sumC_0 c l).1 h t (List.mem_reverse.1 ht)
      rw [if_pos h, if_pos h2]
      exact ⟨_, _, _, _, rfl, rfl, rfl⟩
    · have h2 : ¬ sumC c l.reverse = 0 := fun k => h ((sumC_0 c l).2 fun t ht => (sumC_0 c _).1 k t (List.mem_reverse.2 ht))
      rw [if_neg h, if_neg h2]
      exact ⟨_, _, _, _, amR_n h, amR_n h2, by rw [beq_eq_false_iff_ne.2 h, beq_eq_false_iff_ne.2 h2]⟩
  · rw [if_neg hs, if_neg hs]
    exact ⟨_, _, _, _, rfl, rfl, rfl⟩
theorem opE_0 {u : Int} {c : List UInt8} {v : Int} {d : List UInt8} (h : opE (pairE u c v d) (u + v) = 0) : pairE (u + v) c v d = 0 ∧ inU u = true := by
  unfold opE at h
  have hp : pairE u c v d = 0 := by
    by_cases k : pairE u c v d = 0
    · exact k
    · rw [if_neg k] at h; exact absurd h k
  rw [if_pos hp] at h
  obtain ⟨h1, h2, h3, h4, h5⟩ := pairE_in hp
  have hi : inU (u + v) = true := by
    unfold maE at h
    cases hu : inU (u + v) with
    | true => rfl
    | false => rw [hu] at h; simp at h
  have a1 : amE (u + v) c = 0 := by unfold amE; rw [if_pos h3, hi]; rfl
  have a2 : amE v d = 0 := by unfold amE; rw [if_pos h4, h2]; rfl
  refine ⟨?_, h1⟩
  unfold pairE fstE
  rw [if_pos a1, a2, if_pos rfl, if_pos h5]
set_option maxHeartbeats 16000000 in
set_option maxRecDepth 100000 in
theorem back_big (u : Int) (c : List UInt8) (v : Int) (d : List UInt8) (s : List UInt8) (A : Option Addr) (n cp : Nat) (w : World) (E : Env w)
    (big : 200 < s.length ∨ (s.length ≤ 200 ∧ 60 < n) ∨ (s.length ≤ 200 ∧ n ≤ 60 ∧ 200 < c.length) ∨ (s.length ≤ 200 ∧ n ≤ 60 ∧ c.length ≤ 200 ∧ 200 < d.length)) :
    Calls Tryz.prog 9 #[.agg #[.int .i64 u, .string ⟨c.toArray⟩], .agg #[.int .i64 v, .string ⟨d.toArray⟩], .string ⟨s.toArray⟩, .slice A n cp] w fun e w' => e = .returned (.bool true) ∧ Below w.heap.size w w' := by
  have F0 := Lib.hid (fun W (hb : Below w.heap.size w W) => first6_any W (E.below hb))
  have e1 := ba_szP c
  have e2 := ba_szP d
  have e3 := ba_szP s
  rw [← e1, ← e2, ← e3] at big
  clear E e1 e2 e3
  generalize (⟨c.toArray⟩ : ByteArray) = C at *
  generalize (⟨d.toArray⟩ : ByteArray) = D at *
  generalize (⟨s.toArray⟩ : ByteArray) = S at *
  rcases big with h1 | ⟨h1, h2⟩ | ⟨h1, h2, h3⟩ | ⟨h1, h2, h3, h4⟩
  · have k1 : (200 : Int) < (S.size : Int) := by omega
    go_enter Tryz.func9, Tryz.ntmps9
    go_wp2_with (first | (go_at_call 18; refine (F0.out _ (by repeat (first | exact Below.refl _ _ | refine Below.setCell ?_ (by first | (simp; done) | (simp; omega) | omega) _ | refine Below.alloc ?_ (by first | (simp; done) | (simp; omega) | omega) _ | refine Below.drew ?_ | assumption | refine Below.trans ?_ (Below.mono (by assumption) (by first | (simp; done) | (simp; omega) | omega))))).mono ?_; rintro e w1 ⟨rfl, hb1⟩; obtain ⟨hc1, hf1⟩ := bcell hb1; have hs1 := hb1.size; (try simp at hs1); have hz1 : w.heap.size < w1.heap.size ∧ w.heap.size + 1 < w1.heap.size := by have := hb1.size; (try simp at this); omega))
    go_ret
    exact ⟨rfl, (by repeat (first | exact Below.refl _ _ | refine Below.setCell ?_ (by first | (simp; done) | (simp; omega) | omega) _ | refine Below.alloc ?_ (by first | (simp; done) | (simp; omega) | omega) _ | refine Below.drew ?_ | assumption | refine Below.trans ?_ (Below.mono (by assumption) (by first | (simp; done) | (simp; omega) | omega))))⟩
  · have k1 : ¬ (200 : Int) < (S.size : Int) := by omega
    have k2 : (60 : Int) < (n : Int) := by omega
    go_enter Tryz.func9, Tryz.ntmps9
    go_wp2_with (first | (go_at_call 18; refine (F0.out _ (by repeat (first | exact Below.refl _ _ | refine Below.setCell ?_ (by first | (simp; done) | (simp; omega) | omega) _ | refine Below.alloc ?_ (by first | (simp; done) | (simp; omega) | omega) _ | refine Below.drew ?_ | assumption | refine Below.trans ?_ (Below.mono (by assumption) (by first | (simp; done) | (simp; omega) | omega))))).mono ?_; rintro e w1 ⟨rfl, hb1⟩; obtain ⟨hc1, hf1⟩ := bcell hb1; have hs1 := hb1.size; (try simp at hs1); have hz1 : w.heap.size < w1.heap.size ∧ w.heap.size + 1 < w1.heap.size := by have := hb1.size; (try simp at this); omega))
    go_ret
    exact ⟨rfl, (by repeat (first | exact Below.refl _ _ | refine Below.setCell ?_ (by first | (simp; done) | (simp; omega) | omega) _ | refine Below.alloc ?_ (by first | (simp; done) | (simp; omega) | omega) _ | refine Below.drew ?_ | assumption | refine Below.trans ?_ (Below.mono (by assumption) (by first | (simp; done) | (simp; omega) | omega))))⟩
  · have k1 : ¬ (200 : Int) < (S.size : Int) := by omega
    have k2 : ¬ (60 : Int) < (n : Int) := by omega
    have k3 : (200 : Int) < (C.size : Int) := by omega
    go_enter Tryz.func9, Tryz.ntmps9
    go_wp2_with (first | (go_at_call 18; refine (F0.out _ (by repeat (first | exact Below.refl _ _ | refine Below.setCell ?_ (by first | (simp; done) | (simp; omega) | omega) _ | refine Below.alloc ?_ (by first | (simp; done) | (simp; omega) | omega) _ | refine Below.drew ?_ | assumption | refine Below.trans ?_ (Below.mono (by assumption) (by first | (simp; done) | (simp; omega) | omega))))).mono ?_; rintro e w1 ⟨rfl, hb1⟩; obtain ⟨hc1, hf1⟩ := bcell hb1; have hs1 := hb1.size; (try simp at hs1); have hz1 : w.heap.size < w1.heap.size ∧ w.heap.size + 1 < w1.heap.size := by have := hb1.size; (try simp at this); omega))
    go_ret
    exact ⟨rfl, (by repeat (first | exact Below.refl _ _ | refine Below.setCell ?_ (by first | (simp; done) | (simp; omega) | omega) _ | refine Below.alloc ?_ (by first | (simp; done) | (simp; omega) | omega) _ | refine Below.drew ?_ | assumption | refine Below.trans ?_ (Below.mono (by assumption) (by first | (simp; done) | (simp; omega) | omega))))⟩
  · have k1 : ¬ (200 : Int) < (S.size : Int) := by omega
    have k2 : ¬ (60 : Int) < (n : Int) := by omega
    have k3 : ¬ (200 : Int) < (C.size : Int) := by omega
    have k4 : (200 : Int) < (D.size : Int) := by omega
    go_enter Tryz.func9, Tryz.ntmps9
    go_wp2_with (first | (go_at_call 18; refine (F0.out _ (by repeat (first | exact Below.refl _ _ | refine Below.setCell ?_ (by first | (simp; done) | (simp; omega) | omega) _ | refine Below.alloc ?_ (by first | (simp; done) | (simp; omega) | omega) _ | refine Below.drew ?_ | assumption | refine Below.trans ?_ (Below.mono (by assumption) (by first | (simp; done) | (simp; omega) | omega))))).mono ?_; rintro e w1 ⟨rfl, hb1⟩; obtain ⟨hc1, hf1⟩ := bcell hb1; have hs1 := hb1.size; (try simp at hs1); have hz1 : w.heap.size < w1.heap.size ∧ w.heap.size + 1 < w1.heap.size := by have := hb1.size; (try simp at this); omega))
    go_ret
    exact ⟨rfl, (by repeat (first | exact Below.refl _ _ | refine Below.setCell ?_ (by first | (simp; done) | (simp; omega) | omega) _ | refine Below.alloc ?_ (by first | (simp; done) | (simp; omega) | omega) _ | refine Below.drew ?_ | assumption | refine Below.trans ?_ (Below.mono (by assumption) (by first | (simp; done) | (simp; omega) | omega))))⟩
set_option maxHeartbeats 16000000 in
set_option maxRecDepth 100000 in
theorem back_main (u : Int) (c : List UInt8) (v : Int) (d : List UInt8) (s : List UInt8) (A : Option Addr) (n cp : Nat) (l : List (Int × List UInt8)) (hl : l.length = n) (hs : s.length ≤ 200) (hn : n ≤ 60) (hc : c.length ≤ 200) (hd : d.length ≤ 200) (w : World) (T : Am w A l) (E : Env w) :
    Calls Tryz.prog 9 #[.agg #[.int .i64 u, .string ⟨c.toArray⟩], .agg #[.int .i64 v, .string ⟨d.toArray⟩], .string ⟨s.toArray⟩, .slice A n cp] w fun e w' => e = .returned (.bool true) ∧ Below w.heap.size w w' := by
  obtain ⟨i1, hi1, iy0, iy1, iy2⟩ := info_parts Tryz.infoAmt
  have F0 := Lib.hid (fun W (hb : Below w.heap.size w W) => first6_any W (E.below hb))
  have NU := Lib.hid (fun n W => num_any n W)
  have S1 : Hid (∀ W, Below w.heap.size w W → Calls Tryz.prog 32 #[.agg #[.int .i64 u, .string ⟨c.toArray⟩]] W fun e w' => e = .returned (.string ⟨(strM u c).toArray⟩) ∧ Below W.heap.size W w') := Lib.hid fun W hb => mstring_any u c W (E.below hb)
  -- the text of a
  have hA : (strM u c = []) ∨ ((⟨(strM u c).toArray⟩ : ByteArray).toList == []) = false ∧ Hid (∀ W, Below w.heap.size w W → Calls Tryz.prog 30 #[.string ⟨(strM u c).toArray⟩] W fun e w' => e = .returned (.tuple #[.agg #[.int .i64 u, .string ⟨c.toArray⟩], .int .i64 0]) ∧ Below W.heap.size W w') := by
    by_cases h : amE u c = 0
    · right
      obtain ⟨p1, p2, p3⟩ := parse_str h
      have ln : (strM u c).length ≤ 100000 := by
        have hh : strM u c = (if u < 0 then [45] else []) ++ (ptM (scN c).toNat (padM (scN c).toNat (txt u.natAbs)) ++ 32 :: c) := by unfold strM; rw [if_pos h]
        have t2 := (txt_abs_len u (amE_in h)).2
        have Pl := padM_len (scN c).toNat (txt u.natAbs)
        have PL := ptM_len (scN c).toNat (padM (scN c).toNat (txt u.natAbs)) (by rw [Pl]; omega)
        have n3 := (scN_bd c).2
        rw [hh]
        split at PL <;> (split <;> simp <;> omega)
      refine ⟨?_, Lib.hid fun W hb => ?_⟩
      · rw [ByteArray.toList_mk]
        cases hc : strM u c with
        | nil => rw [hc] at p1; exact absurd p1 (by decide)
        | cons _ _ => rfl
      · have := mparse_any (strM u c) ln W (E.below hb)
        rw [amR_0 p1, p2, p3] at this
        exact this
    · left; unfold strM; rw [if_neg h]
  -- the text s
  obtain ⟨x0, X0, hX, hX0⟩ := amR_formB (codeM s) (numM s) (mA s).2.1
  have P0 : Hid (∀ W, Below w.heap.size w W → Calls Tryz.prog 30 #[.string ⟨s.toArray⟩] W fun e w' => e = .returned (.tuple #[.agg #[.int .i64 x0, .string X0], .int .i64 (codeM s)]) ∧ Below W.heap.size W w') := Lib.hid fun W hb => by
    rw [← hX]; exact mparse_any s (by omega) W (E.below hb)
  have hS : (¬ codeM s = 0) ∨ (codeM s = 0 ∧ ∃ SP : ByteArray, (s.length ≤ SP.size) ∧ Hid (∀ W, Below w.heap.size w W → Calls Tryz.prog 32 #[.agg #[.int .i64 x0, .string X0]] W fun e w' => e = .returned (.string SP) ∧ Below W.heap.size W w') ∧ Hid (∀ W, Below w.heap.size w W → Calls Tryz.prog 30 #[.string SP] W fun e w' => e = .returned (.tuple #[.agg #[.int .i64 x0, .string X0], .int .i64 0]) ∧ Below W.heap.size W w')) := by
    by_cases h : codeM s = 0
    · right
      obtain ⟨a0, alen⟩ := str_parse h
      obtain ⟨q1, q2⟩ := hX0 h
      obtain ⟨p1, p2, p3⟩ := parse_str a0
      have ln : (strM (numM s) (mA s).2.1).length ≤ 100000 := by
        have hh : strM (numM s) (mA s).2.1 = (if numM s < 0 then [45] else []) ++ (ptM (scN (mA s).2.1).toNat (padM (scN (mA s).2.1).toNat (txt (numM s).natAbs)) ++ 32 :: (mA s).2.1) := by unfold strM; rw [if_pos a0]
        have t2 := (txt_abs_len (numM s) (amE_in a0)).2
        have Pl := padM_len (scN (mA s).2.1).toNat (txt (numM s).natAbs)
        have PL := ptM_len (scN (mA s).2.1).toNat (padM (scN (mA s).2.1).toNat (txt (numM s).natAbs)) (by rw [Pl]; omega)
        have n3 := (scN_bd (mA s).2.1).2
        have l2 := (cutW_len 32 s).2
        have l3 : (mA s).2.1.length ≤ 200 := Nat.le_trans l2 hs
        rw [hh]
        split at PL <;> (split <;> simp <;> omega)
      refine ⟨h, ⟨(strM (numM s) (mA s).2.1).toArray⟩, by rw [ba_szP]; exact alen, Lib.hid fun W hb => ?_, Lib.hid fun W hb => ?_⟩
      · rw [q1, q2]; exact mstring_any (numM s) (mA s).2.1 W (E.below hb)
      · have := mparse_any (strM (numM s) (mA s).2.1) ln W (E.below hb)
        rw [amR_0 p1, p2, p3] at this
        rw [q1, q2]; exact this
    · exact .inl h
  -- there and back by Add and Sub
  obtain ⟨y0, Y0, hY, hY0⟩ := amR_formB (opE (pairE u c v d) (u + v)) (u + v) c
  have AD : Hid (∀ W, Calls Tryz.prog 43 #[.agg #[.int .i64 u, .string ⟨c.toArray⟩], .agg #[.int .i64 v, .string ⟨d.toArray⟩]] W fun e w' => e = .returned (.tuple #[.agg #[.int .i64 y0, .string Y0], .int .i64 (opE (pairE u c v d) (u + v))]) ∧ Below W.heap.size W w') := Lib.hid fun W => by rw [← hY]; exact madd_any u c v d W
  have hD : (¬ opE (pairE u c v d) (u + v) = 0) ∨ (opE (pairE u c v d) (u + v) = 0 ∧ Hid (∀ W, Calls Tryz.prog 42 #[.agg #[.int .i64 y0, .string Y0], .agg #[.int .i64 v, .string ⟨d.toArray⟩]] W fun e w' => e = .returned (.tuple #[.agg #[.int .i64 u, .string ⟨c.toArray⟩], .int .i64 0]) ∧ Below W.heap.size W w')) := by
    by_cases h : opE (pairE u c v d) (u + v) = 0
    · right
      obtain ⟨q1, q2⟩ := hY0 h
      obtain ⟨r1, r2⟩ := opE_0 h
      refine ⟨h, Lib.hid fun W => ?_⟩
      have := msub_any (u + v) c v d W
      have e : u + v - v = u := by omega
      have e0 : opE (pairE (u + v) c v d) (u + v - v) = 0 := by unfold opE; rw [if_pos r1, e]; unfold maE; rw [r2]; rfl
      rw [amR_0 e0, e] at this
      rw [q1, q2]; exact this
    · exact .inl h
  -- the sums
  obtain ⟨z0, Z0, e1, e2, hZ1, hZ2, hZ⟩ := sum_rev [85, 83, 68] l
  have SU1 : Hid (∀ W, Below w.heap.size w W → Calls Tryz.prog 35 #[.string ⟨#[85, 83, 68]⟩, .slice A n cp] W fun e w' => e = .returned (.tuple #[.agg #[.int .i64 z0, .string Z0], .int .i64 e1]) ∧ Below W.heap.size W w') := Lib.hid fun W hb => by
    have := msum_any [85, 83, 68] A n cp l hl (by omega) W (T.below hb)
    rw [hZ1] at this; exact this
  have SU2 : Hid (∀ A' cp' W, Am W A' l.reverse → Calls Tryz.prog 35 #[.string ⟨#[85, 83, 68]⟩, .slice A' n cp'] W fun e w' => e = .returned (.tuple #[.agg #[.int .i64 z0, .string Z0], .int .i64 e2]) ∧ Below W.heap.size W w') := Lib.hid fun A' cp' W hT => by
    have := msum_any [85, 83, 68] A' n cp' l.reverse (by rw [List.length_reverse]; exact hl) (by omega) W hT
    rw [hZ2] at this; exact this
  have HL := Lib.hid hl
  have TT := Lib.hid (fun W (hb : Below w.heap.size w W) => T.below hb)
  have HS := Lib.hid hS
  have HD := Lib.hid hD
  have HA := Lib.hid hA
  have zc : ¬ (200 : Int) < ((⟨c.toArray⟩ : ByteArray).size : Int) := by rw [ba_szP]; omega
  have zd : ¬ (200 : Int) < ((⟨d.toArray⟩ : ByteArray).size : Int) := by rw [ba_szP]; omega
  have zs : ¬ (200 : Int) < ((⟨s.toArray⟩ : ByteArray).size : Int) := by rw [ba_szP]; omega
  have zs' : (⟨s.toArray⟩ : ByteArray).size = s.length := ba_szP s
  have zn : ¬ (60 : Int) < (n : Int) := by omega
  clear E T hl hX hX0 hY hY0 hZ1 hZ2 hS hD hA hs hc hd
  generalize opE (pairE u c v d) (u + v) = eD at *
  generalize codeM s = eS at *
  generalize s.length = ls at *
  generalize hsm : strM u c = sm at *
  clear hsm
  generalize (⟨c.toArray⟩ : ByteArray) = C at *
  generalize (⟨d.toArray⟩ : ByteArray) = D at *
  generalize (⟨s.toArray⟩ : ByteArray) = S at *
  go_enter Tryz.func9, Tryz.ntmps9
  obtain ⟨BA, hBA⟩ : ∃ BA : Bool, ((sm = [] ∧ BA = false) ∨ (((⟨sm.toArray⟩ : ByteArray).toList == []) = false ∧ BA = true ∧ Hid (∀ W, Below w.heap.size w W → Calls Tryz.prog 30 #[.string ⟨sm.toArray⟩] W fun e w' => e = .returned (.tuple #[.agg #[.int .i64 u, .string C], .int .i64 0]) ∧ Below W.heap.size W w'))) := by
    rcases HA.out with h | ⟨h1, h2⟩
    · exact ⟨false, .inl ⟨h, rfl⟩⟩
    · exact ⟨true, .inr ⟨h1, rfl, h2⟩⟩
  have HBA := Lib.hid hBA
  clear hBA HA
  go_upto_region 4 with (first | (go_at_call 18; refine (F0.out _ (by repeat (first | exact Below.refl _ _ | refine Below.setCell ?_ (by first | (simp; done) | (simp; omega) | omega) _ | refine Below.alloc ?_ (by first | (simp; done) | (simp; omega) | omega) _ | refine Below.drew ?_ | assumption | refine Below.trans ?_ (Below.mono (by assumption) (by first | (simp; done) | (simp; omega) | omega))))).mono ?_; rintro e w1 ⟨rfl, hb1⟩; obtain ⟨hc1, hf1⟩ := bcell hb1; have hs1 := hb1.size; (try simp at hs1); have hz1 : w.heap.size < w1.heap.size ∧ w.heap.size + 1 < w1.heap.size := by have := hb1.size; (try simp at this); omega))
  go_cut [54] from 52 to 53 (fun b wx => b = .bool BA ∧ (wx.cell? ⟨w.heap.size, 0, none⟩ = some (.int .i64 u) ∧ wx.cell? ⟨w.heap.size, 1, none⟩ = some (.string C)) ∧ (wx.cell? ⟨w.heap.size + 1, 0, none⟩ = some (.int .i64 v) ∧ wx.cell? ⟨w.heap.size + 1, 1, none⟩ = some (.string D)) ∧ w.heap.size < wx.heap.size ∧ w.heap.size + 1 < wx.heap.size ∧ Below w.heap.size w wx)
  case first =>
    rcases HBA.out with ⟨rfl, rfl⟩ | ⟨k1, rfl, _⟩
    all_goals (
      (try generalize (⟨sm.toArray⟩ : ByteArray) = SA at *)
      go_wp2_with (first | (go_at_call 32; (with_reducible refine (S1.out _ (by repeat (first | exact Below.refl _ _ | refine Below.setCell ?_ (by first | (simp; done) | (simp; omega) | omega) _ | refine Below.alloc ?_ (by first | (simp; done) | (simp; omega) | omega) _ | refine Below.drew ?_ | assumption | refine Below.trans ?_ (Below.mono (by assumption) (by first | (simp; done) | (simp; omega) | omega))))).mono ?_); rintro e w2 ⟨rfl, hb2⟩; obtain ⟨hc2, hf2⟩ := bcell hb2; have hs2 := hb2.size; (try simp at hs2); have hz2 : w.heap.size < w2.heap.size ∧ w.heap.size + 1 < w2.heap.size := (by omega)))
      go_meet
      exact ⟨rfl, (by refine ⟨?_, ?_⟩ <;> (simp [go_sem, *]; done)), (by refine ⟨?_, ?_⟩ <;> (simp [go_sem, *]; done)), (by first | (simp; done) | (simp; omega) | omega), (by first | (simp; done) | (simp; omega) | omega), (by repeat (first | exact Below.refl _ _ | refine Below.setCell ?_ (by first | (simp; done) | (simp; omega) | omega) _ | refine Below.alloc ?_ (by first | (simp; done) | (simp; omega) | omega) _ | refine Below.drew ?_ | assumption | refine Below.trans ?_ (Below.mono (by assumption) (by first | (simp; done) | (simp; omega) | omega))))⟩)
  case rest =>
  obtain ⟨rfl, ⟨q1, q2⟩, ⟨q3, q4⟩, q7, q8, qB⟩ := hcut
  go_upto_if 54 with (fail)
  go_cut [] from 55 to 68 (fun wy => (wy.cell? ⟨w.heap.size, 0, none⟩ = some (.int .i64 u) ∧ wy.cell? ⟨w.heap.size, 1, none⟩ = some (.string C)) ∧ (wy.cell? ⟨w.heap.size + 1, 0, none⟩ = some (.int .i64 v) ∧ wy.cell? ⟨w.heap.size + 1, 1, none⟩ = some (.string D)) ∧ w.heap.size < wy.heap.size ∧ w.heap.size + 1 < wy.heap.size ∧ Below w.heap.size w wy)
  case first =>
    rcases HBA.out with ⟨_, rfl⟩ | ⟨_, rfl, PA⟩
    · go_wp2_with (fail)
      go_meet
      exact ⟨(by refine ⟨?_, ?_⟩ <;> (simp [go_sem, *]; done)), (by refine ⟨?_, ?_⟩ <;> (simp [go_sem, *]; done)), (by first | (simp; done) | (simp; omega) | omega), (by first | (simp; done) | (simp; omega) | omega), (by repeat (first | exact Below.refl _ _ | refine Below.setCell ?_ (by first | (simp; done) | (simp; omega) | omega) _ | refine Below.alloc ?_ (by first | (simp; done) | (simp; omega) | omega) _ | refine Below.drew ?_ | assumption | refine Below.trans ?_ (Below.mono (by assumption) (by first | (simp; done) | (simp; omega) | omega))))⟩
    · clear HBA HS HD SU1 SU2 TT HL
      generalize (⟨sm.toArray⟩ : ByteArray) = SA at *
      go_wp2_with (first | (go_at_call 32; (with_reducible refine (S1.out _ (by repeat (first | exact Below.refl _ _ | refine Below.setCell ?_ (by first | (simp; done) | (simp; omega) | omega) _ | refine Below.alloc ?_ (by first | (simp; done) | (simp; omega) | omega) _ | refine Below.drew ?_ | assumption | refine Below.trans ?_ (Below.mono (by assumption) (by first | (simp; done) | (simp; omega) | omega))))).mono ?_); rintro e w2 ⟨rfl, hb2⟩; obtain ⟨hc2, hf2⟩ := bcell hb2; have hs2 := hb2.size; (try simp at hs2); have hz2 : w.heap.size < w2.heap.size ∧ w.heap.size + 1 < w2.heap.size := (by omega)) | (go_at_call 30; (with_reducible refine (PA.out _ (by repeat (first | exact Below.refl _ _ | refine Below.setCell ?_ (by first | (simp; done) | (simp; omega) | omega) _ | refine Below.alloc ?_ (by first | (simp; done) | (simp; omega) | omega) _ | refine Below.drew ?_ | assumption | refine Below.trans ?_ (Below.mono (by assumption) (by first | (simp; done) | (simp; omega) | omega))))).mono ?_); rintro e w3 ⟨rfl, hb3⟩; obtain ⟨hc3, hf3⟩ := bcell hb3; have hs3 := hb3.size; (try simp at hs3); have hz3 : w.heap.size < w3.heap.size ∧ w.heap.size < w3.heap.size + 1 ∧ w.heap.size + 1 < w3.heap.size ∧ w.heap.size + 1 < w3.heap.size + 1 := (by omega)) | (go_at_call 17; (with_reducible refine (NU.out _ _).mono ?_); rintro e w4 ⟨rfl, hb4⟩; obtain ⟨hc4, hf4⟩ := bcell hb4; have hs4 := hb4.size; (try simp at hs4); have hz4 : w.heap.size < w4.heap.size ∧ w.heap.size + 1 < w4.heap.size ∧ w3.heap.size < w4.heap.size := (by omega)))
      go_meet
      exact ⟨(by refine ⟨?_, ?_⟩ <;> (simp [go_sem, *]; done)), (by refine ⟨?_, ?_⟩ <;> (simp [go_sem, *]; done)), (by first | (simp; done) | (simp; omega) | omega), (by first | (simp; done) | (simp; omega) | omega), (by repeat (first | exact Below.refl _ _ | refine Below.setCell ?_ (by first | (simp; done) | (simp; omega) | omega) _ | refine Below.alloc ?_ (by first | (simp; done) | (simp; omega) | omega) _ | refine Below.drew ?_ | assumption | refine Below.trans ?_ (Below.mono (by assumption) (by first | (simp; done) | (simp; omega) | omega))))⟩
  case rest =>
  obtain ⟨⟨r1, r2⟩, ⟨r3, r4⟩, r7, r8, rB⟩ := hcut
  clear q1 q2 q3 q4 q7 q8 qB HBA S1
  go_upto_if 76 with (first | (go_at_call 30; (with_reducible refine (P0.out _ (by repeat (first | exact Below.refl _ _ | refine Below.setCell ?_ (by first | (simp; done) | (simp; omega) | omega) _ | refine Below.alloc ?_ (by first | (simp; done) | (simp; omega) | omega) _ | refine Below.drew ?_ | assumption | refine Below.trans ?_ (Below.mono (by assumption) (by first | (simp; done) | (simp; omega) | omega))))).mono ?_); rintro e w5 ⟨rfl, hb5⟩; obtain ⟨hc5, hf5⟩ := bcell hb5; have hs5 := hb5.size; (try simp at hs5); have hz5 : w.heap.size < w5.heap.size ∧ w.heap.size < w5.heap.size + 1 ∧ w.heap.size + 1 < w5.heap.size ∧ w.heap.size + 1 < w5.heap.size + 1 := (by omega)) | (go_at_call 17; (with_reducible refine (NU.out _ _).mono ?_); rintro e w6 ⟨rfl, hb6⟩; obtain ⟨hc6, hf6⟩ := bcell hb6; have hs6 := hb6.size; (try simp at hs6); have hz6 : w.heap.size < w6.heap.size ∧ w.heap.size + 1 < w6.heap.size ∧ w5.heap.size < w6.heap.size := (by omega)))
  go_cut [] from 77 to 98 (fun wz => (wz.cell? ⟨w.heap.size, 0, none⟩ = some (.int .i64 u) ∧ wz.cell? ⟨w.heap.size, 1, none⟩ = some (.string C)) ∧ (wz.cell? ⟨w.heap.size + 1, 0, none⟩ = some (.int .i64 v) ∧ wz.cell? ⟨w.heap.size + 1, 1, none⟩ = some (.string D)) ∧ w.heap.size < wz.heap.size ∧ w.heap.size + 1 < wz.heap.size ∧ Below w.heap.size w wz)
  case first =>
    rcases HS.out with h | ⟨rfl, SP, zp, SS, PP⟩
    · have h' : (eS == 0) = false := beq_eq_false_iff_ne.2 h
      clear HS HD SU1 SU2 TT HL
      go_wp2_with (fail)
      go_meet
      exact ⟨(by refine ⟨?_, ?_⟩ <;> (simp [go_sem, *]; done)), (by refine ⟨?_, ?_⟩ <;> (simp [go_sem, *]; done)), (by first | (simp; done) | (simp; omega) | omega), (by first | (simp; done) | (simp; omega) | omega), (by repeat (first | exact Below.refl _ _ | refine Below.setCell ?_ (by first | (simp; done) | (simp; omega) | omega) _ | refine Below.alloc ?_ (by first | (simp; done) | (simp; omega) | omega) _ | refine Below.drew ?_ | assumption | refine Below.trans ?_ (Below.mono (by assumption) (by first | (simp; done) | (simp; omega) | omega))))⟩
    · have zp' : ¬ (SP.size : Int) < (S.size : Int) := by omega
      clear HS HD SU1 SU2 TT HL
      go_wp2_with (first | (go_at_call 32; (with_reducible refine (SS.out _ (by repeat (first | exact Below.refl _ _ | refine Below.setCell ?_ (by first | (simp; done) | (simp; omega) | omega) _ | refine Below.alloc ?_ (by first | (simp; done) | (simp; omega) | omega) _ | refine Below.drew ?_ | assumption | refine Below.trans ?_ (Below.mono (by assumption) (by first | (simp; done) | (simp; omega) | omega))))).mono ?_); rintro e w7 ⟨rfl, hb7⟩; obtain ⟨hc7, hf7⟩ := bcell hb7; have hs7 := hb7.size; (try simp at hs7); have hz7 : w.heap.size < w7.heap.size ∧ w.heap.size + 1 < w7.heap.size ∧ w5.heap.size < w7.heap.size ∧ w8.heap.size < w7.heap.size := (by omega)) | (go_at_call 32; (with_reducible refine (SS.out _ (by repeat (first | exact Below.refl _ _ | refine Below.setCell ?_ (by first | (simp; done) | (simp; omega) | omega) _ | refine Below.alloc ?_ (by first | (simp; done) | (simp; omega) | omega) _ | refine Below.drew ?_ | assumption | refine Below.trans ?_ (Below.mono (by assumption) (by first | (simp; done) | (simp; omega) | omega))))).mono ?_); rintro e w7 ⟨rfl, hb7⟩; obtain ⟨hc7, hf7⟩ := bcell hb7; have hs7 := hb7.size; (try simp at hs7); have hz7 : w.heap.size < w7.heap.size ∧ w.heap.size + 1 < w7.heap.size ∧ w5.heap.size < w7.heap.size := (by omega)) | (go_at_call 30; (with_reducible refine (PP.out _ (by repeat (first | exact Below.refl _ _ | refine Below.setCell ?_ (by first | (simp; done) | (simp; omega) | omega) _ | refine Below.alloc ?_ (by first | (simp; done) | (simp; omega) | omega) _ | refine Below.drew ?_ | assumption | refine Below.trans ?_ (Below.mono (by assumption) (by first | (simp; done) | (simp; omega) | omega))))).mono ?_); rintro e w8 ⟨rfl, hb8⟩; obtain ⟨hc8, hf8⟩ := bcell hb8; have hs8 := hb8.size; (try simp at hs8); have hz8 : w.heap.size < w8.heap.size ∧ w.heap.size < w8.heap.size + 1 ∧ w.heap.size + 1 < w8.heap.size ∧ w.heap.size + 1 < w8.heap.size + 1 ∧ w5.heap.size < w8.heap.size ∧ w5.heap.size < w8.heap.size + 1 := (by omega)) | (go_at_call 17; (with_reducible refine (NU.out _ _).mono ?_); rintro e w9 ⟨rfl, hb9⟩; obtain ⟨hc9, hf9⟩ := bcell hb9; have hs9 := hb9.size; (try simp at hs9); have hz9 : w.heap.size < w9.heap.size ∧ w.heap.size + 1 < w9.heap.size ∧ w5.heap.size < w9.heap.size ∧ w8.heap.size < w9.heap.size := (by omega)))
      go_meet
      exact ⟨(by refine ⟨?_, ?_⟩ <;> (simp [go_sem, *]; done)), (by refine ⟨?_, ?_⟩ <;> (simp [go_sem, *]; done)), (by first | (simp; done) | (simp; omega) | omega), (by first | (simp; done) | (simp; omega) | omega), (by repeat (first | exact Below.refl _ _ | refine Below.setCell ?_ (by first | (simp; done) | (simp; omega) | omega) _ | refine Below.alloc ?_ (by first | (simp; done) | (simp; omega) | omega) _ | refine Below.drew ?_ | assumption | refine Below.trans ?_ (Below.mono (by assumption) (by first | (simp; done) | (simp; omega) | omega))))⟩
  case rest =>
  obtain ⟨⟨r1, r2⟩, ⟨r3, r4⟩, r7, r8, rB⟩ := hcut
  go_upto_if 107 with (first | (go_at_call 43; (with_reducible refine (AD.out _).mono ?_); rintro e w10 ⟨rfl, hb10⟩; obtain ⟨hc10, hf10⟩ := bcell hb10; have hs10 := hb10.size; (try simp at hs10); have hz10 : w.heap.size < w10.heap.size ∧ w.heap.size < w10.heap.size + 1 ∧ w.heap.size + 1 < w10.heap.size ∧ w.heap.size + 1 < w10.heap.size + 1 := (by omega)) | (go_at_call 17; (with_reducible refine (NU.out _ _).mono ?_); rintro e w11 ⟨rfl, hb11⟩; obtain ⟨hc11, hf11⟩ := bcell hb11; have hs11 := hb11.size; (try simp at hs11); have hz11 : w.heap.size < w11.heap.size ∧ w.heap.size + 1 < w11.heap.size ∧ w10.heap.size < w11.heap.size := (by omega)))
  go_cut [] from 108 to 121 (fun wv => (wv.cell? ⟨w.heap.size, 0, none⟩ = some (.int .i64 u) ∧ wv.cell? ⟨w.heap.size, 1, none⟩ = some (.string C)) ∧ (wv.cell? ⟨w.heap.size + 1, 0, none⟩ = some (.int .i64 v) ∧ wv.cell? ⟨w.heap.size + 1, 1, none⟩ = some (.string D)) ∧ w.heap.size < wv.heap.size ∧ w.heap.size + 1 < wv.heap.size ∧ Below w.heap.size w wv)
  case first =>
    rcases HD.out with h | ⟨rfl, SB⟩
    · have h' : (eD == 0) = false := beq_eq_false_iff_ne.2 h
      clear HS HD SU1 SU2 TT HL
      go_wp2_with (fail)
      go_meet
      exact ⟨(by refine ⟨?_, ?_⟩ <;> (simp [go_sem, *]; done)), (by refine ⟨?_, ?_⟩ <;> (simp [go_sem, *]; done)), (by first | (simp; done) | (simp; omega) | omega), (by first | (simp; done) | (simp; omega) | omega), (by repeat (first | exact Below.refl _ _ | refine Below.setCell ?_ (by first | (simp; done) | (simp; omega) | omega) _ | refine Below.alloc ?_ (by first | (simp; done) | (simp; omega) | omega) _ | refine Below.drew ?_ | assumption | refine Below.trans ?_ (Below.mono (by assumption) (by first | (simp; done) | (simp; omega) | omega))))⟩
    · clear HS HD SU1 SU2 TT HL
      go_wp2_with (first | (go_at_call 42; (with_reducible refine (SB.out _).mono ?_); rintro e w12 ⟨rfl, hb12⟩; obtain ⟨hc12, hf12⟩ := bcell hb12; have hs12 := hb12.size; (try simp at hs12); have hz12 : w.heap.size < w12.heap.size ∧ w.heap.size < w12.heap.size + 1 ∧ w.heap.size + 1 < w12.heap.size ∧ w.heap.size + 1 < w12.heap.size + 1 ∧ w10.heap.size < w12.heap.size ∧ w10.heap.size < w12.heap.size + 1 := (by omega)) | (go_at_call 17; (with_reducible refine (NU.out _ _).mono ?_); rintro e w13 ⟨rfl, hb13⟩; obtain ⟨hc13, hf13⟩ := bcell hb13; have hs13 := hb13.size; (try simp at hs13); have hz13 : w.heap.size < w13.heap.size ∧ w.heap.size + 1 < w13.heap.size ∧ w10.heap.size < w13.heap.size ∧ w12.heap.size < w13.heap.size := (by omega)) | (go_at_call 17; (with_reducible refine (NU.out _ _).mono ?_); rintro e w11 ⟨rfl, hb11⟩; obtain ⟨hc11, hf11⟩ := bcell hb11; have hs11 := hb11.size; (try simp at hs11); have hz11 : w.heap.size < w11.heap.size ∧ w.heap.size + 1 < w11.heap.size ∧ w10.heap.size < w11.heap.size := (by omega)))
      go_meet
      exact ⟨(by refine ⟨?_, ?_⟩ <;> (simp [go_sem, *]; done)), (by refine ⟨?_, ?_⟩ <;> (simp [go_sem, *]; done)), (by first | (simp; done) | (simp; omega) | omega), (by first | (simp; done) | (simp; omega) | omega), (by repeat (first | exact Below.refl _ _ | refine Below.setCell ?_ (by first | (simp; done) | (simp; omega) | omega) _ | refine Below.alloc ?_ (by first | (simp; done) | (simp; omega) | omega) _ | refine Below.drew ?_ | assumption | refine Below.trans ?_ (Below.mono (by assumption) (by first | (simp; done) | (simp; omega) | omega))))⟩
  case rest =>
  obtain ⟨⟨r1, r2⟩, ⟨r3, r4⟩, r7, r8, rB⟩ := hcut
  obtain ⟨wk, rfl⟩ : ∃ wk : World, wk = wc := ⟨_, rfl⟩
  have hsk := rB.size
  clear HS HD AD P0 r1 r2 r3 r4
  go_wp2
  go_loopw [20, 21] (fun o i wr => ∃ (r : Nat) (z : Int) (vO : Value), r ≤ n ∧ i = .int .i64 z ∧ z + 1 = (r : Int) ∧ vO = o ∧ Hid (wr.ownsRow wk.heap.size 41 2 vO (n - r) (cellsAm (l.drop r).reverse)) ∧ Below wk.heap.size wk wr) (fun _ i _ => (intOf i + 1).toNat)
  case atStart => exact ⟨n, (n : Int) - 1, _, Nat.le_refl _, by go_num, by omega, rfl, Lib.hid (by rw [List.drop_of_length_le (by rw [HL.out]; exact Nat.le_refl _), Nat.sub_self]; exact World.ownsRow_nil _ _ _ _), Below.refl _ _⟩
  case round =>
    obtain ⟨r, z, vO, hr, rfl, hz, hv, HO, hB⟩ := hrel; subst hv
    obtain ⟨wo, rfl⟩ : ∃ wo : World, wo = wr := ⟨_, rfl⟩
    have hso := hB.size
    have hBw : Below w.heap.size w wo := rB.trans (hB.mono hsk)
    by_cases h0 : r = 0
    · have z1 : z = -1 := by omega
      subst h0 z1
      obtain ⟨A', cp', hA'⟩ := own_form HO.out
      subst hA'
      have hAm : Am wo A' l.reverse := am_own (by rw [List.length_reverse, HL.out]) (by have := HO.out; rwa [List.drop_zero] at this)
      have HAm := Lib.hid (fun W (hb : Below wo.heap.size wo W) => hAm.below hb)
      have hn0 : n - 0 = n := rfl
      clear hAm HO hz
      go_wp2_with (first | (go_at_call 35; (with_reducible refine (SU1.out _ (by repeat (first | exact Below.refl _ _ | refine Below.setCell ?_ (by first | (simp; done) | (simp; omega) | omega) _ | refine Below.alloc ?_ (by first | (simp; done) | (simp; omega) | omega) _ | refine Below.drew ?_ | assumption | refine Below.trans ?_ (Below.mono (by assumption) (by first | (simp; done) | (simp; omega) | omega))))).mono ?_); rintro e w14 ⟨rfl, hb14⟩; obtain ⟨hc14, hf14⟩ := bcell hb14; have hs14 := hb14.size; (try simp at hs14)) | (go_at_call 35; (refine (SU2.out _ _ _ (HAm.out _ (by repeat (first | exact Below.refl _ _ | refine Below.setCell ?_ (by first | (simp; done) | (simp; omega) | omega) _ | refine Below.alloc ?_ (by first | (simp; done) | (simp; omega) | omega) _ | refine Below.drew ?_ | assumption | refine Below.trans ?_ (Below.mono (by assumption) (by first | (simp; done) | (simp; omega) | omega)))))).mono ?_); rintro e w15 ⟨rfl, hb15⟩; obtain ⟨hc15, hf15⟩ := bcell hb15; have hs15 := hb15.size; (try simp at hs15); have hz15 : w14.heap.size < w15.heap.size ∧ w14.heap.size < w15.heap.size + 1 := (by omega)) | (go_at_call 17; refine (NU.out _ _).mono ?_; rintro e w16 ⟨rfl, hb16⟩; obtain ⟨hc16, hf16⟩ := bcell hb16; have hs16 := hb16.size; (try simp at hs16)))
      go_ret
      exact ⟨rfl, (by repeat (first | exact Below.refl _ _ | refine Below.setCell ?_ (by first | (simp; done) | (simp; omega) | omega) _ | refine Below.alloc ?_ (by first | (simp; done) | (simp; omega) | omega) _ | refine Below.drew ?_ | assumption | refine Below.trans ?_ (Below.mono (by assumption) (by first | (simp; done) | (simp; omega) | omega))))⟩
    · obtain ⟨q, hq⟩ : ∃ q, r = q + 1 := ⟨r - 1, by omega⟩
      obtain rfl : z = (q : Int) := by omega
      have hqn : (q : Int) < (n : Int) := by omega
      obtain ⟨t, ht⟩ : ∃ t, l[q]? = some t := ⟨_, List.getElem?_eq_getElem (by rw [HL.out]; omega)⟩
      obtain ⟨b, off, rfl, hbw, c0, c1⟩ := TT.out wo hBw q t ht
      have NX : Hid (cellsAm (l.drop q).reverse = cellsAm (l.drop r).reverse ++ [.int .i64 t.1, .string ⟨t.2.toArray⟩]) := Lib.hid (by
        obtain ⟨h1, h2⟩ := List.getElem?_eq_some_iff.1 ht
        rw [List.drop_eq_getElem_cons h1, h2, List.reverse_cons, cellsAm_app, hq])
      have NN : n - q = n - r + 1 := by omega
      have q1 : ((q : Int) - 1) + 1 = (q : Int) := by omega
      have qw : IntKind.i64.wrap ((q : Int) - 1) = (q : Int) - 1 := by rw [IntKind.wrap_i64]; omega
      clear ht SU1 SU2 hz
      generalize cellsAm (l.drop r).reverse = xs at *
      generalize t.1 = zz at *
      generalize (⟨t.2.toArray⟩ : ByteArray) = CU at *
      go_wp2_with (first | (at_builtin; refine wpList_append_own _ rfl (.tmp 129) (.tmp 134) 43 rfl wk.heap.size 41 i1 _ 2 24 Tryz.underlying43 hi1 iy0 iy1 iy2 rfl (by decide) vO (n - r) xs rfl ((own_below HO.out (by repeat (first | exact Below.refl _ _ | refine Below.setCell ?_ (by first | (simp; done) | (simp; omega) | omega) _ | refine Below.alloc ?_ (by first | (simp; done) | (simp; omega) | omega) _ | refine Below.drew ?_ | assumption | refine Below.trans ?_ (Below.mono (by assumption) (by first | (simp; done) | (simp; omega) | omega)))))) _ 1 1 [.int .i64 zz, .string CU] rfl rfl (by intro j u' hj; match j, hj with | 0, hj => (simp at hj; subst hj; simp [Addr.add, go_sem]) | 1, hj => (simp at hj; subst hj; simp [Addr.add, go_sem])) (by intro u' hu'; simp at hu'; rcases hu' with rfl | rfl <;> rfl) (by unfold maxLen; omega) (by omega) (by simp; omega) ?_; intro v6 w6 hown6 hgrow6 hiff; clear hiff; have HO6 := Lib.hid hown6; have B6 : Below wk.heap.size wk w6 := Below.grown (by repeat (first | exact Below.refl _ _ | refine Below.setCell ?_ (by first | (simp; done) | (simp; omega) | omega) _ | refine Below.alloc ?_ (by first | (simp; done) | (simp; omega) | omega) _ | refine Below.drew ?_ | assumption | refine Below.trans ?_ (Below.mono (by assumption) (by first | (simp; done) | (simp; omega) | omega)))) hgrow6 (by simp; omega) (fun g hg => (HO.out.lt g hg).1); clear hown6 hgrow6))
      go_roundw
      case rel => exact ⟨q, (q : Int) - 1, _, by omega, by first | rfl | (rw [qw]) | go_num, q1, rfl, Lib.hid (by rw [NX.out, NN]; exact HO6.out), B6⟩
      case measure => first | (simp [intOf]; done) | (simp [intOf]; omega)
theorem back_walk6 (u : Int) (c : List UInt8) (v : Int) (d : List UInt8) (s : List UInt8) (A : Option Addr) (n cp : Nat) (l : List (Int × List UInt8)) (hl : l.length = n) (_hm : n ≤ 9223372036854775807) (_hu : In64 u) (_hv : In64 v) (_hw : ∀ t ∈ l, In64 t.1) (w : World) (T : Am w A l) (E : Env w) :
    Calls Tryz.prog 9 #[.agg #[.int .i64 u, .string ⟨c.toArray⟩], .agg #[.int .i64 v, .string ⟨d.toArray⟩], .string ⟨s.toArray⟩, .slice A n cp] w fun e w' => e = .returned (.bool true) ∧ Below w.heap.size w w' := by
  by_cases h1 : 200 < s.length
  · exact back_big u c v d s A n cp w E (.inl h1)
  by_cases h2 : 60 < n
  · exact back_big u c v d s A n cp w E (.inr (.inl ⟨by omega, h2⟩))
  by_cases h3 : 200 < c.length
  · exact back_big u c v d s A n cp w E (.inr (.inr (.inl ⟨by omega, by omega, h3⟩)))
  by_cases h4 : 200 < d.length
  · exact back_big u c v d s A n cp w E (.inr (.inr (.inr ⟨by omega, by omega, by omega, h4⟩)))
  exact back_main u c v d s A n cp l hl (by omega) (by omega) (by omega) (by omega) w T E
end Go.Proofs.YtdpoahfjiomhbaaGreatDoor
