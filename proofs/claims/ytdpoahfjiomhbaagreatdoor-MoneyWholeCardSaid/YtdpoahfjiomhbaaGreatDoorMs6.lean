/-
  Plain laws of the parts that Allocate makes: they sum up to the amount, each next to its exact part, in the order of the weights.
-/
import Derived.Test.YtdpoahfjiomhbaaGreatDoorMs5
namespace Go.Proofs.YtdpoahfjiomhbaaGreatDoor
set_option linter.all false

theorem sumI_set : ∀ {l : List Int} {i : Nat} {v : Int} (w : Int), l[i]? = some v → sumI (l.set i w) = sumI l - v + w
  | [], i, v, w, h => by simp at h
  | y :: l, 0, v, w, h => by simp at h; subst h; simp only [List.set_cons_zero, sumI]; omega
  | y :: l, i + 1, v, w, h => by
    have := sumI_set (l := l) (i := i) w (by simpa using h)
    simp only [List.set_cons_succ, sumI]; omega
theorem getD_of {l : List Int} {i : Nat} {v : Int} (h : l[i]? = some v) : l.getD i 0 = v := by simp [List.getD, h]
theorem some_lt {l : List Int} {i : Nat} (h : i < l.length) : l[i]? = some (l.getD i 0) := by simp [List.getD, h]
section
variable {key : Nat → Int} {f : Nat → Nat} {n : Nat}
theorem upd_sum {s : Int} {l : List Int} (hf : ∀ x, x < n → f x < n) (hl : l.length = n) : ∀ e, e ≤ n → sumI (upd s f l e) = sumI l + s * e
  | 0, _ => by unfold upd; simp
  | e + 1, he => by
    have ih := upd_sum (s := s) hf hl e (by omega)
    unfold upd
    rw [sumI_set _ (some_lt (by rw [upd_len, hl]; exact hf e (by omega))), ih]
    rw [show ((e + 1 : Nat) : Int) = (e : Int) + 1 by omega, Int.mul_add]; omega
/-- What stands at i behind e steps. -/
theorem upd_at {s : Int} {l : List Int} (g : Good key f 0 n) (hl : l.length = n) {i : Nat} : ∀ e, e ≤ n → ((∃ y, y < e ∧ f y = i) → (upd s f l e).getD i 0 = l.getD i 0 + s) ∧ ((∀ y, y < e → f y ≠ i) → (upd s f l e).getD i 0 = l.getD i 0)
  | e, he => by
    refine ⟨?_, fun h => ?_⟩
    · induction e with
      | zero => rintro ⟨y, hy, _⟩; omega
      | succ e ih =>
        rintro ⟨y, hy, e1⟩
        have hfe : f e < n := (g.2.1 e (by omega) (by omega)).2
        by_cases hye : y = e
        · subst hye
          have fr : (upd s f l y).getD i 0 = l.getD i 0 := by
            have := upd_fresh (s := s) (f := f) (l := l) (i := i) (e := y) (fun z hz h2 => by
              have := srt_inj g.1 (i := z) (j := y) (by omega) (by omega) (by rw [h2, e1]); omega)
            simp [List.getD, this]
          unfold upd
          rw [← e1] at fr ⊢
          simp only [List.getD]
          rw [List.getElem?_set_self (by rw [upd_len, hl]; exact hfe)]
          simp only [Option.getD_some]
          simp only [List.getD] at fr
          rw [fr]
        · have hne : f e ≠ i := fun h2 => hye (srt_inj g.1 (i := y) (j := e) (by omega) (by omega) (by rw [e1, h2]))
          have := ih (by omega) ⟨y, by omega, e1⟩
          unfold upd
          simp only [List.getD] at this ⊢
          rw [List.getElem?_set_ne hne]; exact this
    · have := upd_fresh (s := s) (f := f) (l := l) (i := i) (e := e) h
      simp [List.getD, this]
/-- The entries f 0 .. f (e - 1) made zero. -/
def zer (f : Nat → Nat) (l : List Int) : Nat → List Int
  | 0 => l
  | e + 1 => (zer f l e).set (f e) 0
theorem zer_len (l : List Int) : ∀ e, (zer f l e).length = l.length
  | 0 => rfl
  | e + 1 => by unfold zer; rw [List.length_set]; exact zer_len l e
theorem zer_at {l : List Int} {i : Nat} : ∀ {e : Nat}, (zer f l e).getD i 0 = l.getD i 0 ∨ (zer f l e).getD i 0 = 0
  | 0 => .inl rfl
  | e + 1 => by
    unfold zer
    by_cases h : f e = i
    · right
      subst h
      simp only [List.getD]
      by_cases hl : f e < (zer f l e).length
      · rw [List.getElem?_set_self hl]; rfl
      · rw [List.getElem?_eq_none (by rw [List.length_set]; omega)]; rfl
    · have := zer_at (l := l) (i := i) (e := e)
      simp only [List.getD] at this ⊢
      rw [List.getElem?_set_ne h]; exact this
theorem zer_hit {l : List Int} {i : Nat} : ∀ {e : Nat}, (∃ y, y < e ∧ f y = i) → (zer f l e).getD i 0 = 0
  | 0, ⟨y, hy, _⟩ => by omega
  | e + 1, ⟨y, hy, e1⟩ => by
    unfold zer
    by_cases h : f e = i
    · subst h
      simp only [List.getD]
      by_cases hl : f e < (zer f l e).length
      · rw [List.getElem?_set_self hl]; rfl
      · rw [List.getElem?_eq_none (by rw [List.length_set]; omega)]; rfl
    · have := zer_hit (l := l) (i := i) (e := e) ⟨y, by
        rcases Nat.lt_or_eq_of_le (show y ≤ e by omega) with k | k
        · exact k
        · subst k; exact absurd e1 h, e1⟩
      simp only [List.getD] at this ⊢
      rw [List.getElem?_set_ne h]; exact this
theorem zer_sum {l : List Int} {b : Int} (hf : ∀ x, x < n → f x < n) (hl : l.length = n) (hb : ∀ i, l.getD i 0 ≤ b) (h0 : 0 ≤ b) : ∀ e, e ≤ n → sumI l ≤ sumI (zer f l e) + b * e
  | 0, _ => by unfold zer; simp
  | e + 1, he => by
    have ih := zer_sum hf hl hb h0 e (by omega)
    unfold zer
    rw [sumI_set _ (some_lt (by rw [zer_len, hl]; exact hf e (by omega)))]
    have h1 : (zer f l e).getD (f e) 0 ≤ b := by
      rcases zer_at (f := f) (l := l) (i := f e) (e := e) with k | k
      · rw [k]; exact hb _
      · rw [k]; exact h0
    rw [show ((e + 1 : Nat) : Int) = (e : Int) + 1 by omega, Int.mul_add]; omega
theorem sumI_zero : ∀ {l : List Int}, (∀ i, l.getD i 0 = 0) → sumI l = 0
  | [], _ => rfl
  | x :: r, h => by
    have h0 := h 0
    have := sumI_zero (l := r) (fun i => by simpa [List.getD] using h (i + 1))
    simp [List.getD] at h0
    simp only [sumI]; omega
end
theorem rsL_getD {a D : Int} {ws : List Int} {i : Nat} {w : Int} (h : ws[i]? = some w) : (rsL a D ws).getD i 0 = a * w % D := by
  unfold rsL; simp [List.getD, h]
theorem nsL_getD {a D : Int} {ws : List Int} {i : Nat} {w : Int} (h : ws[i]? = some w) : (nsL a D ws).getD i 0 = a * w / D := by
  unfold nsL; simp [List.getD, h]
theorem nsL_len (a D : Int) (ws : List Int) : (nsL a D ws).length = ws.length := by simp [nsL]
theorem rsL_len (a D : Int) (ws : List Int) : (rsL a D ws).length = ws.length := by simp [rsL]
theorem rsL_bd {a D : Int} (hD : 0 < D) (ws : List Int) (i : Nat) : 0 ≤ (rsL a D ws).getD i 0 ∧ (rsL a D ws).getD i 0 ≤ D - 1 := by
  cases h : ws[i]? with
  | none =>
    have : (rsL a D ws).getD i 0 = 0 := by unfold rsL; simp [List.getD, h]
    omega
  | some w =>
    rw [rsL_getD h]
    have h0 := Int.emod_nonneg (a * w) (show D ≠ 0 by omega)
    have h1 := Int.emod_lt_of_pos (a * w) hD
    omega
/-- Whoever gets one more has a rest above 0. -/
theorem pick_pos {a : Int} {ws : List Int} {f : Nat → Nat} {n : Nat} (hl : ws.length = n) (hD : 0 < sumI ws) (g : Good (keyL a ws) f 0 n) {lf : Nat} (hlf : (lf : Int) = a - sumI (nsL a (sumI ws) ws)) (hln : lf ≤ n) {e : Nat} (he : e < lf) : 0 < keyL a ws (f e) := by
  have hb := fun i => rsL_bd (a := a) hD ws i
  rcases Int.lt_or_eq_of_le (show 0 ≤ keyL a ws (f e) from (hb (f e)).1) with k | k
  · exact k
  · exfalso
    have hf : ∀ x, x < n → f x < n := fun x hx => (g.2.1 x (by omega) hx).2
    have hs := zer_sum (l := rsL a (sumI ws) ws) (f := f) (n := n) (b := sumI ws - 1) hf (by rw [rsL_len, hl]) (fun i => (hb i).2) (by omega) e (by omega)
    have hz : sumI (zer f (rsL a (sumI ws) ws) e) = 0 := sumI_zero fun i => by
      by_cases hi : i < n
      · obtain ⟨y, _, hy, hfy⟩ := g.2.2 i (by omega) hi
        by_cases hye : y < e
        · exact zer_hit ⟨y, hye, hfy⟩
        · have h1 : keyL a ws i ≤ keyL a ws (f e) := by
            rcases Nat.lt_or_eq_of_le (show e ≤ y by omega) with c | c
            · have := g.1 e y (by omega) c hy
              rw [hfy] at this
              unfold Lk at this; omega
            · rw [c, hfy]; exact Int.le_refl _
          have h2 := (hb i).1
          have h3 : (rsL a (sumI ws) ws).getD i 0 = 0 := by
            have : keyL a ws i = (rsL a (sumI ws) ws).getD i 0 := rfl
            omega
          rcases zer_at (f := f) (l := rsL a (sumI ws) ws) (i := i) (e := e) with c | c
          · rw [c, h3]
          · exact c
      · have : (zer f (rsL a (sumI ws) ws) e)[i]? = none := List.getElem?_eq_none (by rw [zer_len, rsL_len, hl]; omega)
        simp [List.getD, this]
    have hp := parts_sum a (sumI ws) ws
    rw [hz] at hs
    -- the rests sum up to what is left, times the sum of the weights
    have h1 : sumI (rsL a (sumI ws) ws) = sumI ws * (lf : Int) := by
      rw [hlf, Int.mul_sub, Int.mul_comm (sumI ws) a]; omega
    rw [h1] at hs
    have h2 : sumI ws * ((e : Int) + 1) ≤ sumI ws * (lf : Int) := Int.mul_le_mul_of_nonneg_left (by omega) (by omega)
    rw [Int.mul_add] at h2
    have h3 : (sumI ws - 1) * (e : Int) ≤ sumI ws * (e : Int) := by rw [Int.sub_mul]; omega
    omega
/-- What the statement asks of the parts P of u by the weights ws. -/
def WholeOK (u : Int) (ws P : List Int) : Prop := P.length = ws.length ∧ sumI P = u ∧ (∀ i, -4611686018427387904 ≤ P.getD i 0 ∧ P.getD i 0 ≤ 4611686018427387904) ∧
  (∀ (i : Nat) (w : Int), ws[i]? = some w → -(sumI ws) < P.getD i 0 * sumI ws - u * w ∧ P.getD i 0 * sumI ws - u * w < sumI ws ∧ (w = 0 → P.getD i 0 = 0)) ∧
  (∀ (i k : Nat) (w v : Int), ws[i]? = some w → ws[k]? = some v → w < v → (0 ≤ u → P.getD i 0 ≤ P.getD k 0) ∧ (u < 0 → P.getD k 0 ≤ P.getD i 0))
theorem mem_le_sum : ∀ {l : List Int} (i : Nat), (∀ x ∈ l, 0 ≤ x) → l.getD i 0 ≤ sumI l
  | [], i, _ => by simp [List.getD, sumI]
  | x :: r, 0, h => by
    have := sumI_nonneg (l := r) (fun y hy => h y (List.mem_cons_of_mem _ hy))
    simp [List.getD, sumI]; omega
  | x :: r, i + 1, h => by
    have := mem_le_sum (l := r) i (fun y hy => h y (List.mem_cons_of_mem _ hy))
    have := h x (List.mem_cons_self ..)
    simp only [List.getD, List.getElem?_cons_succ, sumI] at *; omega
theorem whole_ok {u : Int} {c : List UInt8} {ws : List Int} {f : Nat → Nat} {n : Nat} (hl : ws.length = n) (hE : amE u c = 0) (hS : sumE ws = 0) (g : Good (keyL (absU u) ws) f 0 n) : WholeOK u ws (upd (sgnU u) f (psL u ws) (lfU u ws)) := by
  obtain ⟨_, n0, hw, hD⟩ := sumE_0 hS
  have hub := inU_iff.1 (amE_in hE)
  have hab : 0 ≤ absU u ∧ absU u ≤ 4611686018427387904 := by unfold absU; split <;> omega
  have hus : sgnU u * absU u = u ∧ (sgnU u = 1 ∨ sgnU u = -1) := by unfold sgnU absU; split <;> omega
  have hlb := left_bd (u := absU u) hab.1 hw hD ws.length
  rw [List.take_of_length_le (by rw [nsL_len]; exact Nat.le_refl _)] at hlb
  have hll := left_lt (u := absU u) hD
  have hlf : (lfU u ws : Int) = absU u - sumI (nsL (absU u) (sumI ws) ws) := by unfold lfU; omega
  have hln : lfU u ws ≤ n := by omega
  have hf : ∀ x, x < n → f x < n := fun x hx => (g.2.1 x (by omega) hx).2
  have pl : (psL u ws).length = n := by unfold psL; rw [List.length_map, nsL_len, hl]
  have psD : ∀ (i : Nat) (w : Int), ws[i]? = some w → (psL u ws).getD i 0 = sgnU u * (absU u * w / sumI ws) := fun i w h => by
    unfold psL nsL; simp [List.getD, h]
  -- the parts without their sign
  have AT : ∀ (i : Nat) (w : Int), ws[i]? = some w → ∃ b : Int, (b = 0 ∨ b = 1) ∧ (upd (sgnU u) f (psL u ws) (lfU u ws)).getD i 0 = sgnU u * (absU u * w / sumI ws + b) ∧ (b = 1 → 0 < absU u * w % sumI ws) ∧ (b = 1 → ∃ y, y < lfU u ws ∧ f y = i) ∧ (b = 0 → ∀ y, y < lfU u ws → f y ≠ i) := fun i w h => by
    have ua := upd_at (s := sgnU u) (l := psL u ws) g pl (i := i) (lfU u ws) hln
    by_cases hp : ∃ y, y < lfU u ws ∧ f y = i
    · refine ⟨1, .inr rfl, by rw [ua.1 hp, psD i w h, Int.mul_add, Int.mul_one], fun _ => ?_, fun _ => hp, fun k => by simp at k⟩
      obtain ⟨y, hy, e⟩ := hp
      have := pick_pos hl hD g hlf hln hy
      rw [e] at this
      have e2 : keyL (absU u) ws i = absU u * w % sumI ws := rsL_getD h
      omega
    · refine ⟨0, .inl rfl, by rw [ua.2 (fun y hy e => hp ⟨y, hy, e⟩), psD i w h, Int.add_zero], fun k => by simp at k, fun k => by simp at k, fun _ y hy e => hp ⟨y, hy, e⟩⟩
  obtain ⟨a, ha⟩ : ∃ a, absU u = a := ⟨_, rfl⟩
  obtain ⟨s, hs⟩ : ∃ s, sgnU u = s := ⟨_, rfl⟩
  obtain ⟨D, hDD⟩ : ∃ D, sumI ws = D := ⟨_, rfl⟩
  have HSU : s = 1 ∧ a = u ∧ 0 ≤ u ∨ s = -1 ∧ a = -u ∧ u < 0 := by
    rw [← ha, ← hs]; unfold sgnU absU
    split
    · right; exact ⟨rfl, rfl, by assumption⟩
    · left; exact ⟨rfl, rfl, by omega⟩
  have hw0 := wOK_iff.1 hw
  have sm := upd_sum (s := sgnU u) (l := psL u ws) hf pl (lfU u ws) hln
  have sps : ∀ l : List Int, sumI (l.map (fun q => s * q)) = s * sumI l := fun l => by
    induction l with
    | nil => simp [sumI]
    | cons x r ih => simp only [List.map_cons, sumI]; rw [ih, Int.mul_add]
  have spl : sumI (psL u ws) = s * sumI (nsL a D ws) := by unfold psL; rw [ha, hs, hDD]; exact sps _
  rw [spl, hlf] at sm
  rw [ha, hs] at AT hus
  rw [ha, hDD] at hlf
  rw [hDD] at AT hD
  rw [ha] at hab
  rw [ha, hs, hDD] at sm
  have hsum : sumI (upd (sgnU u) f (psL u ws) (lfU u ws)) = u := by
    rw [hs, sm, Int.mul_sub, ← hus.1]; omega
  -- one part
  have ONE : ∀ (i : Nat) (w : Int), ws[i]? = some w → 0 ≤ a * w / D ∧ a * w = D * (a * w / D) + a * w % D ∧ 0 ≤ a * w % D ∧ a * w % D < D := fun i w h => by
    have hwi := hw0 w (List.mem_of_getElem? h)
    have h0 := Int.emod_nonneg (a * w) (show D ≠ 0 by omega)
    have h1 := Int.emod_lt_of_pos (a * w) hD
    have h2 := Int.mul_ediv_add_emod (a * w) D
    exact ⟨Int.ediv_nonneg (Int.mul_nonneg hab.1 hwi.1) (by omega), by omega, h0, h1⟩
  have BD : ∀ (i : Nat) (w : Int), ws[i]? = some w → a * w / D + 1 ≤ a ∨ (a * w / D ≤ a ∧ a * w % D = 0) := fun i w h => by
    have hwi := hw0 w (List.mem_of_getElem? h)
    have hwD : w ≤ D := by
      rw [← hDD]
      have := mem_le_sum (l := ws) i (fun x hx => (hw0 x hx).1)
      rwa [getD_of h] at this
    obtain ⟨q0, q1, q2, q3⟩ := ONE i w h
    have h1 : a * w ≤ a * D := Int.mul_le_mul_of_nonneg_left hwD hab.1
    have h2 : D * (a * w / D) ≤ D * a := by rw [Int.mul_comm D a]; omega
    have h3 := Int.le_of_mul_le_mul_left h2 hD
    rcases Int.lt_or_eq_of_le h3 with k | k
    · left; omega
    · right
      refine ⟨h3, ?_⟩
      rw [k, Int.mul_comm D a] at q1
      omega
  refine ⟨by rw [upd_len, pl, hl], hsum, fun i => ?_, fun i w h => ?_, fun i k w v hi hk hwv => ?_⟩
  · rw [hs]
    cases h : ws[i]? with
    | none =>
      have : (upd s f (psL u ws) (lfU u ws))[i]? = none := List.getElem?_eq_none (by
        have := List.getElem?_eq_none_iff.1 h
        rw [upd_len, pl]; omega)
      have e : (upd s f (psL u ws) (lfU u ws)).getD i 0 = 0 := by simp [List.getD, this]
      omega
    | some w =>
      obtain ⟨b, hb, e, hb1, -, -⟩ := AT i w h
      obtain ⟨q0, _, _, _⟩ := ONE i w h
      have bd := BD i w h
      have t : 0 ≤ a * w / D + b ∧ a * w / D + b ≤ a := by
        rcases bd with k | ⟨k, k2⟩
        · omega
        · rcases hb with rfl | rfl
          · omega
          · have := hb1 rfl; omega
      rw [e]
      generalize a * w / D + b = T at *
      clear q0 bd hlb hll sm spl hsum ONE BD AT
      rcases hus.2 with h | h <;> rw [h] <;> omega
  · rw [hs, hDD]
    obtain ⟨b, hb, e, hb1, -, -⟩ := AT i w h
    obtain ⟨q0, q1, q2, q3⟩ := ONE i w h
    rw [e]
    have e1 : s * (a * w / D + b) * D - u * w = s * (b * D - a * w % D) := by
      have k1 : u * w = s * (a * w) := by rw [← hus.1, Int.mul_assoc]
      have k2 : a * w = (a * w / D) * D + a * w % D := by rw [Int.mul_comm (a * w / D) D]; exact q1
      rw [k1]
      generalize a * w / D = q at *
      generalize a * w % D = r at *
      rw [k2, Int.mul_assoc, ← Int.mul_sub, Int.add_mul]
      congr 1
      omega
    rw [e1]
    refine ⟨?_, ?_, fun w0 => ?_⟩
    · rcases hb with rfl | rfl
      · rcases hus.2 with rfl | rfl <;> simp <;> omega
      · have := hb1 rfl
        rcases hus.2 with rfl | rfl <;> simp <;> omega
    · rcases hb with rfl | rfl
      · rcases hus.2 with rfl | rfl <;> simp <;> omega
      · have := hb1 rfl
        rcases hus.2 with rfl | rfl <;> simp <;> omega
    · subst w0
      simp at hb1 ⊢
      rcases hb with rfl | rfl
      · simp
      · simp at hb1
  · rw [hs]
    obtain ⟨b, hb, e, hb1, hb2, hb3⟩ := AT i w hi
    obtain ⟨b', hb', e', hb1', hb2', hb3'⟩ := AT k v hk
    obtain ⟨q0, q1, q2, q3⟩ := ONE i w hi
    obtain ⟨p0, p1, p2, p3⟩ := ONE k v hk
    have hm : a * w ≤ a * v := Int.mul_le_mul_of_nonneg_left (by omega) hab.1
    have key : a * w / D + b ≤ a * v / D + b' := by
      have hq : a * w / D ≤ a * v / D := Int.ediv_le_ediv hD hm
      rcases Int.lt_or_eq_of_le hq with c | c
      · clear hb2 hb2' hb3 hb3' hb1 hb1'
        omega
      · rw [c]
        rcases hb with rfl | rfl
        · clear hb2 hb2' hb3 hb3' hb1 hb1'
          omega
        · rcases hb' with rfl | rfl
          · exfalso
            have r1 := hb1 rfl
            obtain ⟨y, hy, hfy⟩ := hb2 rfl
            have a0 : 0 < a := by
              rcases Int.lt_or_eq_of_le hab.1 with z | z
              · exact z
              · rw [← z] at r1; simp at r1
            have hlt : a * w < a * v := Int.mul_lt_mul_of_pos_left hwv a0
            rw [c] at q1
            have rlt : a * w % D < a * v % D := by omega
            -- k stands ahead of i
            have hkn : k < n := by rw [← hl]; exact (List.getElem?_eq_some_iff.1 hk).1
            obtain ⟨x, _, hx, hfx⟩ := g.2.2 k (by omega) hkn
            have kk : keyL (absU u) ws i < keyL (absU u) ws k := by
              have e1 : keyL (absU u) ws i = a * w % D := by rw [ha]; unfold keyL; rw [hDD]; exact rsL_getD hi
              have e2 : keyL (absU u) ws k = a * v % D := by rw [ha]; unfold keyL; rw [hDD]; exact rsL_getD hk
              omega
            have hxy : x < y := by
              rcases Nat.lt_trichotomy x y with z | z | z
              · exact z
              · subst z; rw [hfx] at hfy; subst hfy; omega
              · have := g.1 y x (by omega) z hx
                rw [hfx, hfy] at this
                unfold Lk at this; omega
            exact hb3' rfl x (by omega) hfx
          · exact Int.le_refl _
    rw [e, e']
    clear hb1 hb2 hb3 hb1' hb2' hb3' hb hb' e e' q0 q1 q2 q3 p0 p1 p2 p3 hm hlb hll sm spl hsum ONE BD AT
    generalize a * w / D + b = T at *
    generalize a * v / D + b' = T' at *
    rcases HSU with ⟨h1, _, h0⟩ | ⟨h1, _, h0⟩
    · rw [h1]; exact ⟨fun _ => by omega, fun h => by omega⟩
    · rw [h1]; exact ⟨fun h => by omega, fun _ => by omega⟩
end Go.Proofs.YtdpoahfjiomhbaaGreatDoor
