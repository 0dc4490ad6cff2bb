/-
  Plain Lean: requests as bytes: lines, the request's line, header lines, the whole; what fronts tell.
-/
import Derived.Test.YtkaimfeiahogaaaGreatDoorPt2
import Derived.Lib.Case
import Derived.Lib.SlTrimSet
namespace Go.Proofs.YtkaimfeiahogaaaGreatDoor
set_option linter.all false

/-- The line that bytes begin with: not whole yet; it cannot be; its length. -/
inductive LR where
  | wait
  | bad (e : Int)
  | got (n : Nat)
def lineF : Nat → List UInt8 → LR
  | _, [] => .wait
  | n, c :: r => if c = 10 then .bad 10 else if c = 13 then (if r = [] then .wait else if r.head? = some 10 then .got n else .bad 10) else if n = 1000 then .bad 8 else lineF (n + 1) r
theorem lineF_nil (n : Nat) : lineF n [] = .wait := rfl
theorem lineF_10 (n : Nat) (r : List UInt8) : lineF n (10 :: r) = .bad 10 := rfl
theorem lineF_13 (n : Nat) (r : List UInt8) : lineF n (13 :: r) = if r = [] then .wait else if r.head? = some 10 then .got n else .bad 10 := rfl
theorem lineF_step {n : Nat} {c : UInt8} {r : List UInt8} (h1 : c ≠ 10) (h2 : c ≠ 13) (h3 : n ≠ 1000) : lineF n (c :: r) = lineF (n + 1) r := by
  rw [lineF, if_neg h1, if_neg h2, if_neg h3]
theorem lineF_long {c : UInt8} {r : List UInt8} (h1 : c ≠ 10) (h2 : c ≠ 13) : lineF 1000 (c :: r) = .bad 8 := by
  rw [lineF, if_neg h1, if_neg h2, if_pos rfl]
/-- A whole line: so many bytes, then 13, 10. -/
theorem lineF_got : ∀ {l : List UInt8} {n k : Nat}, lineF n l = .got k → n ≤ k ∧ ∃ x r, l = x ++ 13 :: 10 :: r ∧ x.length = k - n ∧ (∀ b ∈ x, b ≠ 10 ∧ b ≠ 13)
  | [], n, k, h => by cases h
  | c :: r, n, k, h => by
    by_cases h1 : c = 10
    · subst h1; rw [lineF_10] at h; cases h
    · by_cases h2 : c = 13
      · subst h2
        rw [lineF_13] at h
        split at h
        · cases h
        · split at h
          · rename_i h3 h4
            injection h with h; subst h
            cases r with
            | nil => exact absurd rfl h3
            | cons d r =>
              simp at h4; subst h4
              exact ⟨Nat.le_refl _, [], r, rfl, by simp, by simp⟩
          · cases h
      · by_cases h3 : n = 1000
        · subst h3; rw [lineF_long h1 h2] at h; cases h
        · rw [lineF_step h1 h2 h3] at h
          obtain ⟨a, x, t, b, e, g⟩ := lineF_got h
          refine ⟨by omega, c :: x, t, by rw [b]; rfl, by simp; omega, fun y hy => ?_⟩
          rcases List.mem_cons.1 hy with rfl | hy
          · exact ⟨h1, h2⟩
          · exact g y hy
/-- What stands behind changes nothing that is told. -/
theorem lineF_more (t : List UInt8) : ∀ {l : List UInt8} {n : Nat}, (∀ k, lineF n l = .got k → lineF n (l ++ t) = .got k) ∧ (∀ e, lineF n l = .bad e → lineF n (l ++ t) = .bad e)
  | [], n => ⟨fun k h => (by cases h), fun e h => by cases h⟩
  | c :: r, n => by
    rw [List.cons_append]
    by_cases h1 : c = 10
    · subst h1; rw [lineF_10, lineF_10]; exact ⟨fun k h => h, fun e h => h⟩
    · by_cases h2 : c = 13
      · subst h2
        rw [lineF_13, lineF_13]
        cases r with
        | nil => exact ⟨fun k h => by simp at h, fun e h => by simp at h⟩
        | cons d r =>
          rw [if_neg (show ¬ (d :: r = []) by simp), if_neg (show ¬ (d :: r ++ t = []) by simp)]
          exact ⟨fun k h => h, fun e h => h⟩
      · by_cases h3 : n = 1000
        · subst h3; rw [lineF_long h1 h2, lineF_long h1 h2]; exact ⟨fun k h => h, fun e h => h⟩
        · rw [lineF_step h1 h2 h3, lineF_step h1 h2 h3]; exact lineF_more t
/-- A whole line stands there as it is. -/
theorem lineF_mk : ∀ {x : List UInt8} {n : Nat} (r : List UInt8), (∀ b ∈ x, b ≠ 10 ∧ b ≠ 13) → n + x.length ≤ 1000 → lineF n (x ++ 13 :: 10 :: r) = .got (n + x.length)
  | [], n, r, _, _ => by rw [List.nil_append, lineF_13, if_neg (by simp)]; rfl
  | c :: x, n, r, h, hn => by
    have hc := h c (List.mem_cons_self ..)
    simp only [List.length_cons] at hn
    rw [List.cons_append, lineF_step hc.1 hc.2 (by omega), lineF_mk r (fun b hb => h b (List.mem_cons_of_mem _ hb)) (by omega), List.length_cons]
    congr 1; omega
theorem lineF_got_le : ∀ {l : List UInt8} {n k : Nat}, lineF n l = .got k → n ≤ 1000 → k ≤ 1000
  | [], n, k, h, _ => by cases h
  | c :: r, n, k, h, hn => by
    by_cases h1 : c = 10
    · subst h1; rw [lineF_10] at h; cases h
    · by_cases h2 : c = 13
      · subst h2
        rw [lineF_13] at h
        split at h
        · cases h
        · split at h
          · injection h with h; omega
          · cases h
      · by_cases h3 : n = 1000
        · subst h3; rw [lineF_long h1 h2] at h; cases h
        · rw [lineF_step h1 h2 h3] at h
          exact lineF_got_le h (by omega)
/-- A line of a thousand and one bytes is too long. -/
theorem lineF_over : ∀ {x : List UInt8} {n : Nat} (r : List UInt8), (∀ b ∈ x, b ≠ 10 ∧ b ≠ 13) → n ≤ 1000 → 1000 < n + x.length → lineF n (x ++ r) = .bad 8
  | [], n, r, _, h0, h => by simp at h; omega
  | c :: x, n, r, h, h0, hn => by
    have hc := h c (List.mem_cons_self ..)
    simp only [List.length_cons] at hn
    rw [List.cons_append]
    by_cases e : n = 1000
    · subst e; exact lineF_long hc.1 hc.2
    · rw [lineF_step hc.1 hc.2 e, lineF_over r (fun b hb => h b (List.mem_cons_of_mem _ hb)) (by omega) (by omega)]
/-- A line without an end: nothing is told yet. -/
theorem lineF_open : ∀ {x : List UInt8} {n : Nat}, (∀ b ∈ x, b ≠ 10 ∧ b ≠ 13) → n + x.length ≤ 1000 → lineF n x = .wait ∧ lineF n (x ++ [13]) = .wait
  | [], n, _, _ => ⟨rfl, rfl⟩
  | c :: x, n, h, hn => by
    have hc := h c (List.mem_cons_self ..)
    simp only [List.length_cons] at hn
    rw [List.cons_append, lineF_step hc.1 hc.2 (by omega), lineF_step hc.1 hc.2 (by omega)]
    exact lineF_open (fun b hb => h b (List.mem_cons_of_mem _ hb)) (by omega)

def bigB (c : UInt8) : Bool := decide (65 ≤ c.toNat) && decide (c.toNat ≤ 90)
def seenB (c : UInt8) : Bool := decide (33 ≤ c.toNat) && decide (c.toNat ≤ 126)
def nameB (c : UInt8) : Bool := (decide (65 ≤ c.toNat) && decide (c.toNat ≤ 90)) || (decide (97 ≤ c.toNat) && decide (c.toNat ≤ 122)) || (decide (48 ≤ c.toNat) && decide (c.toNat ≤ 57)) || decide (c.toNat = 45)
def valB (c : UInt8) : Bool := decide (c.toNat = 9) || (decide (32 ≤ c.toNat) && decide (c.toNat ≤ 126))
def someL (p : UInt8 → Bool) (most : Nat) (s : List UInt8) : Bool := decide (s ≠ []) && (decide (s.length ≤ most) && s.all p)
def pathB (s : List UInt8) : Bool := someL seenB 200 s && s.head? == some 47
def tVers : List UInt8 := [72, 84, 84, 80, 47, 49, 46, 49]
def tGet : List UInt8 := [71, 69, 84]
def tPost : List UInt8 := [80, 79, 83, 84]
def tLen : List UInt8 := [99, 111, 110, 116, 101, 110, 116, 45, 108, 101, 110, 103, 116, 104]
def tConn : List UInt8 := [99, 111, 110, 110, 101, 99, 116, 105, 111, 110]
def tClose : List UInt8 := [99, 108, 111, 115, 101]
def tKeep : List UInt8 := [107, 101, 101, 112, 45, 97, 108, 105, 118, 101]
/-- A request's line: an error; its method and path. -/
def headE (s : List UInt8) : Int := match pieces 32 s with
  | [m, p, v] => if someL bigB 10 m && (pathB p && decide (v = tVers)) then (if m = tGet ∨ m = tPost then 0 else 30) else 10
  | _ => 10
def headM (s : List UInt8) : List UInt8 := if headE s = 0 then (pieces 32 s).getD 0 [] else []
def headP (s : List UInt8) : List UInt8 := if headE s = 0 then (pieces 32 s).getD 1 [] else []
def trimH (v : List UInt8) : List UInt8 := Lib.trimS v [32, 9]
def small (s : List UInt8) : List UInt8 := s.map Lib.lowerB
/-- A header line: its name in small letters, its value. -/
def fieldF (s : List UInt8) : Option (List UInt8 × List UInt8) := match cutAt 58 s with
  | none => none
  | some (n, v) => if someL nameB 40 n && (trimH v).all valB then some (small n, trimH v) else none
def lenE (v : List UInt8) : Int := if numF v = true then (if dv v ≤ 32768 then 0 else 8) else 10
/-- A request as far as it is read: n lines; its content-length, and connection, have been there. -/
structure St where
  n : Nat
  m : List UInt8
  p : List UInt8
  close : Bool
  len : Nat
  sl : Bool
  sc : Bool
def st0 : St := ⟨0, [], [], false, 0, false, false⟩
/-- A header line is read: an error. -/
def stepE (st : St) (s : List UInt8) : Int := match fieldF s with
  | none => 10
  | some (nm, v) => if 20 < st.n then 9
    else if nm = tLen then (if st.sl = true then 12 else lenE v)
    else if nm = tConn then (if st.sc = true then 12 else if small v = tClose ∨ small v = tKeep then 0 else 10)
    else 0
def stepS (st : St) (s : List UInt8) : St := match fieldF s with
  | none => st
  | some (nm, v) => if nm = tLen then ⟨st.n + 1, st.m, st.p, st.close, dv v, true, st.sc⟩
    else if nm = tConn then ⟨st.n + 1, st.m, st.p, decide (small v = tClose), st.len, st.sl, true⟩
    else ⟨st.n + 1, st.m, st.p, st.close, st.len, st.sl, st.sc⟩
theorem stepS_n {st : St} {s : List UInt8} (h : stepE st s = 0) : (stepS st s).n = st.n + 1 ∧ st.n ≤ 20 := by
  unfold stepE at h; unfold stepS
  cases hf : fieldF s with
  | none => rw [hf] at h; simp at h
  | some x =>
    obtain ⟨nm, v⟩ := x
    rw [hf] at h
    simp only at h ⊢
    by_cases h1 : 20 < st.n
    · rw [if_pos h1] at h; simp at h
    · refine ⟨?_, by omega⟩
      by_cases h2 : nm = tLen
      · rw [if_pos h2]
      · rw [if_neg h2]
        by_cases h3 : nm = tConn
        · rw [if_pos h3]
        · rw [if_neg h3]
inductive POut where
  | wait
  | bad (e : Int)
  | done (st : St) (rest : List UInt8)
def scanF : Nat → St → List UInt8 → POut
  | 0, _, _ => .wait
  | f + 1, st, l => match lineF 0 l with
    | .wait => .wait
    | .bad e => .bad e
    | .got k => if st.n = 0 then (if headE (l.take k) = 0 then scanF f ⟨1, headM (l.take k), headP (l.take k), false, 0, false, false⟩ (l.drop (k + 2)) else .bad (headE (l.take k)))
      else if k = 0 then (if (l.drop (k + 2)).length < st.len then .wait else .done st (l.drop (k + 2)))
      else if stepE st (l.take k) = 0 then scanF f (stepS st (l.take k)) (l.drop (k + 2)) else .bad (stepE st (l.take k))
/-- A request read at the beginning of bytes. -/
def parseF (l : List UInt8) : POut := scanF 23 st0 l

section
variable {f k : Nat} {st : St} {l : List UInt8}
theorem scan_wait (h : lineF 0 l = .wait) : scanF f st l = .wait := by
  cases f with
  | zero => rfl
  | succ f => rw [scanF, h]
theorem scan_bad {e : Int} (h : lineF 0 l = .bad e) : scanF (f + 1) st l = .bad e := by rw [scanF, h]
theorem scan_head (h : lineF 0 l = .got k) (hn : st.n = 0) (he : headE (l.take k) = 0) : scanF (f + 1) st l = scanF f ⟨1, headM (l.take k), headP (l.take k), false, 0, false, false⟩ (l.drop (k + 2)) := by
  rw [scanF, h]; simp only; rw [if_pos hn, if_pos he]
theorem scan_headE (h : lineF 0 l = .got k) (hn : st.n = 0) (he : headE (l.take k) ≠ 0) : scanF (f + 1) st l = .bad (headE (l.take k)) := by
  rw [scanF, h]; simp only; rw [if_pos hn, if_neg he]
theorem scan_end (h : lineF 0 l = .got 0) (hn : st.n ≠ 0) : scanF (f + 1) st l = if (l.drop 2).length < st.len then .wait else .done st (l.drop 2) := by
  rw [scanF, h]; show (if st.n = 0 then _ else if 0 = 0 then _ else _) = _; rw [if_neg hn, if_pos (rfl : 0 = 0)]
theorem scan_step (h : lineF 0 l = .got k) (hn : st.n ≠ 0) (hk : k ≠ 0) (he : stepE st (l.take k) = 0) : scanF (f + 1) st l = scanF f (stepS st (l.take k)) (l.drop (k + 2)) := by
  rw [scanF, h]; simp only; rw [if_neg hn, if_neg hk, if_pos he]
theorem scan_stepE (h : lineF 0 l = .got k) (hn : st.n ≠ 0) (hk : k ≠ 0) (he : stepE st (l.take k) ≠ 0) : scanF (f + 1) st l = .bad (stepE st (l.take k)) := by
  rw [scanF, h]; simp only; rw [if_neg hn, if_neg hk, if_neg he]
end
theorem got_len {l : List UInt8} {k : Nat} (h : lineF 0 l = .got k) : k + 2 ≤ l.length := by
  obtain ⟨_, x, r, e, hx, _⟩ := lineF_got h
  rw [e]; simp; omega
/-- What is told stays, whatever comes behind. -/
theorem scan_more (t : List UInt8) : ∀ (f : Nat) (st : St) (l : List UInt8), (∀ e, scanF f st l = .bad e → scanF f st (l ++ t) = .bad e) ∧ (∀ s r, scanF f st l = .done s r → scanF f st (l ++ t) = .done s (r ++ t))
  | 0, st, l => ⟨fun e h => (by cases h), fun s r h => by cases h⟩
  | f + 1, st, l => by
    cases hl : lineF 0 l with
    | wait => rw [scan_wait hl]; exact ⟨fun e h => (by cases h), fun s r h => by cases h⟩
    | bad e =>
      rw [scan_bad hl, scan_bad ((lineF_more t).2 e hl)]
      exact ⟨fun e h => h, fun s r h => by cases h⟩
    | got k =>
      have hm := (lineF_more t).1 k hl
      have hk := got_len hl
      have ht : (l ++ t).take k = l.take k := List.take_append_of_le_length (by omega)
      have hd : (l ++ t).drop (k + 2) = l.drop (k + 2) ++ t := List.drop_append_of_le_length (by omega)
      by_cases hn : st.n = 0
      · by_cases he : headE (l.take k) = 0
        · rw [scan_head hl hn he, scan_head hm hn (by rw [ht]; exact he), ht, hd]; exact scan_more t f _ _
        · rw [scan_headE hl hn he, scan_headE hm hn (by rw [ht]; exact he), ht]; exact ⟨fun e h => h, fun s r h => by cases h⟩
      · by_cases hz : k = 0
        · subst hz
          replace hd : (l ++ t).drop 2 = l.drop 2 ++ t := hd
          rw [scan_end hl hn, scan_end hm hn, hd]
          by_cases hr : (l.drop 2).length < st.len
          · rw [if_pos hr]; exact ⟨fun e h => (by cases h), fun s r h => by cases h⟩
          · rw [if_neg hr, if_neg (by rw [List.length_append]; omega)]
            exact ⟨fun e h => (by cases h), fun s r h => by injection h with h1 h2; rw [h1, h2]⟩
        · by_cases he : stepE st (l.take k) = 0
          · rw [scan_step hl hn hz he, scan_step hm hn hz (by rw [ht]; exact he), ht, hd]; exact scan_more t f _ _
          · rw [scan_stepE hl hn hz he, scan_stepE hm hn hz (by rw [ht]; exact he), ht]; exact ⟨fun e h => h, fun s r h => by cases h⟩
/-- A whole line is there as soon as its end is. -/
theorem lineF_less {t : List UInt8} {l : List UInt8} {n k : Nat} (h : lineF n (l ++ t) = .got k) (hn : n ≤ 1000) (hl : k - n + 2 ≤ l.length) : lineF n l = .got k := by
  obtain ⟨h1, x, r, e, hx, hf⟩ := lineF_got h
  have hk := lineF_got_le h hn
  have e2 : l = x ++ 13 :: 10 :: (l.drop (x.length + 2)) := by
    have e3 : (l ++ t).take (x.length + 2) = l.take (x.length + 2) := List.take_append_of_le_length (by omega)
    rw [e] at e3
    have e4 : (x ++ 13 :: 10 :: r).take (x.length + 2) = x ++ [13, 10] := by
      rw [List.take_append, List.take_of_length_le (by omega)]
      simp
    rw [e4] at e3
    conv => lhs; rw [← List.take_append_drop (x.length + 2) l, ← e3]
    simp
  rw [e2, lineF_mk _ hf (by omega)]
  congr 1; omega
/-- A request is told as soon as all its bytes are there. -/
theorem scan_less (t : List UInt8) : ∀ (f : Nat) (st : St) (l : List UInt8) (s : St) (r : List UInt8), scanF f st (l ++ t) = .done s r → t.length + s.len ≤ r.length → ∃ q, scanF f st l = .done s q ∧ r = q ++ t
  | 0, st, l, s, r, h, _ => by cases h
  | f + 1, st, l, s, r, h, hr => by
    cases hl : lineF 0 (l ++ t) with
    | wait => rw [scan_wait hl] at h; cases h
    | bad e => rw [scan_bad hl] at h; cases h
    | got k =>
      have hk := got_len hl
      have key : t.length ≤ ((l ++ t).drop (k + 2)).length → k + 2 ≤ l.length := fun h => by
        rw [List.length_drop, List.length_append] at h
        rw [List.length_append] at hk
        omega
      -- the bytes behind the empty line are the end of all of them
      have tail : ∀ (f : Nat) (st : St) (l : List UInt8) (s : St) (r : List UInt8), scanF f st l = .done s r → r.length ≤ l.length := by
        intro f
        induction f with
        | zero => intro st l s r h; cases h
        | succ f ih =>
          intro st l s r h
          cases hl : lineF 0 l with
          | wait => rw [scan_wait hl] at h; cases h
          | bad e => rw [scan_bad hl] at h; cases h
          | got k =>
            by_cases hn : st.n = 0
            · by_cases he : headE (l.take k) = 0
              · rw [scan_head hl hn he] at h; have := ih _ _ _ _ h; rw [List.length_drop] at this; omega
              · rw [scan_headE hl hn he] at h; cases h
            · by_cases hz : k = 0
              · subst hz
                rw [scan_end hl hn] at h
                split at h
                · cases h
                · injection h with h1 h2; rw [← h2, List.length_drop]; omega
              · by_cases he : stepE st (l.take k) = 0
                · rw [scan_step hl hn hz he] at h; have := ih _ _ _ _ h; rw [List.length_drop] at this; omega
                · rw [scan_stepE hl hn hz he] at h; cases h
      have go : k + 2 ≤ l.length → lineF 0 l = .got k ∧ (l ++ t).take k = l.take k ∧ (l ++ t).drop (k + 2) = l.drop (k + 2) ++ t := fun h =>
        ⟨lineF_less hl (by omega) (by omega), List.take_append_of_le_length (by omega), List.drop_append_of_le_length (by omega)⟩
      by_cases hn : st.n = 0
      · by_cases he : headE ((l ++ t).take k) = 0
        · rw [scan_head hl hn he] at h
          obtain ⟨g1, g2, g3⟩ := go (key (by have := tail _ _ _ _ _ h; omega))
          rw [g2] at he
          rw [g2, g3] at h
          rw [scan_head g1 hn he]
          exact scan_less t f _ _ _ _ h hr
        · rw [scan_headE hl hn he] at h; cases h
      · by_cases hz : k = 0
        · subst hz
          rw [scan_end hl hn] at h
          split at h
          · cases h
          · rename_i h3
            injection h with h1 h2
            subst h1
            obtain ⟨g1, g2, g3⟩ := go (key (by
              show t.length ≤ ((l ++ t).drop 2).length
              rw [h2]; omega))
            replace g3 : (l ++ t).drop 2 = l.drop 2 ++ t := g3
            rw [scan_end g1 hn]
            rw [g3] at h2
            refine ⟨l.drop 2, ?_, h2.symm⟩
            rw [if_neg]
            rw [← h2, List.length_append] at hr
            omega
        · by_cases he : stepE st ((l ++ t).take k) = 0
          · rw [scan_step hl hn hz he] at h
            obtain ⟨g1, g2, g3⟩ := go (key (by have := tail _ _ _ _ _ h; omega))
            rw [g2] at he
            rw [g2, g3] at h
            rw [scan_step g1 hn hz he]
            exact scan_less t f _ _ _ _ h hr
          · rw [scan_stepE hl hn hz he] at h; cases h
theorem scan_len : ∀ (f : Nat) (st : St) (l : List UInt8) (s : St) (r : List UInt8), scanF f st l = .done s r → s.len ≤ r.length ∧ r.length + 2 ≤ l.length ∧ r = l.drop (l.length - r.length)
  | 0, st, l, s, r, h => by cases h
  | f + 1, st, l, s, r, h => by
    have up : ∀ k, k + 2 ≤ l.length → (s.len ≤ r.length ∧ r.length + 2 ≤ (l.drop (k + 2)).length ∧ r = (l.drop (k + 2)).drop ((l.drop (k + 2)).length - r.length)) → s.len ≤ r.length ∧ r.length + 2 ≤ l.length ∧ r = l.drop (l.length - r.length) := fun k hk ⟨h1, h2, h3⟩ => by
      rw [List.length_drop] at h2 h3
      rw [List.drop_drop] at h3
      refine ⟨h1, by omega, ?_⟩
      conv => lhs; rw [h3]
      congr 1; omega
    cases hl : lineF 0 l with
    | wait => rw [scan_wait hl] at h; cases h
    | bad e => rw [scan_bad hl] at h; cases h
    | got k =>
      have hk := got_len hl
      by_cases hn : st.n = 0
      · by_cases he : headE (l.take k) = 0
        · rw [scan_head hl hn he] at h; exact up k hk (scan_len f _ _ _ _ h)
        · rw [scan_headE hl hn he] at h; cases h
      · by_cases hz : k = 0
        · subst hz
          rw [scan_end hl hn] at h
          split at h
          · cases h
          · rename_i h3
            injection h with h1 h2
            subst h1
            rw [← h2]
            refine ⟨by omega, by rw [List.length_drop]; omega, ?_⟩
            rw [List.length_drop]; congr 1; omega
        · by_cases he : stepE st (l.take k) = 0
          · rw [scan_step hl hn hz he] at h; exact up k hk (scan_len f _ _ _ _ h)
          · rw [scan_stepE hl hn hz he] at h; cases h
end Go.Proofs.YtkaimfeiahogaaaGreatDoor
