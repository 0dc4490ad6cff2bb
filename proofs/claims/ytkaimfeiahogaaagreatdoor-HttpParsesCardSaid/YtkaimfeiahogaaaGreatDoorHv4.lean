/-
  Plain: the stages of a response as http.ParseResponse reads them. Contract of number in any state.
-/
import Derived.Test.YtkaimfeiahogaaaGreatDoorHv3
namespace Go.Proofs.YtkaimfeiahogaaaGreatDoor
set_option linter.all false
open Go.RowKit Go.Shelf
attribute [local go_sem] cell_set_self lt_1 lt_2 lt_3 lt_4 lt_5 lt_6 drew_cell drew_frozen drew_size

theorem takeT_nil (l : List UInt8) : takeT [] l = .got () l := by
  unfold takeT; rw [if_neg (by simp), if_pos (show l.take ([] : List UInt8).length = [] from rfl)]; rfl
/-- What stands behind the start: a status. -/
def statN (r : List UInt8) : Tk Nat := if r.head? = some 48 then .bad else (numN 3 [] r).bind fun z q => if z < 100 then .bad else .got z q
theorem dv_ge {d : List UInt8} (hd : DigB d) (h : d.head? ≠ some 48) (h3 : d.length = 3) : 100 ≤ dv d := by
  match d, h3 with
  | [a, b, c], _ =>
    have ha := hd a (by simp)
    have : a.toNat ≠ 48 := fun e => h (by simp; exact UInt8.toNat_inj.1 e)
    simp only [dv, List.foldl_cons, List.foldl_nil]
    omega
theorem statN_eq (r : List UInt8) : statN r = numT okW3 okG3 r := by
  unfold statN
  have hd := spanT_dig r
  have happ := span_app r
  by_cases h48 : r.head? = some 48
  · rw [if_pos h48]
    obtain ⟨q, rfl⟩ : ∃ q, r = 48 :: q := by
      cases r with
      | nil => cases h48
      | cons b q => simp at h48; exact ⟨q, by rw [h48]⟩
    have hs : (spanT (48 :: q)).head? = some 48 := by unfold spanT; rw [List.takeWhile_cons, if_pos (by decide)]; rfl
    unfold numT okW3 okG3
    rw [hs]
    simp
  · rw [if_neg h48]
    by_cases hr : r = []
    · subst hr
      rw [numN_nil]
      unfold numT
      rw [if_pos (show spanD [] = [] from rfl), if_pos (show okW3 (spanT []) = true by decide)]
      rfl
    · by_cases h0 : spanT r = []
      · have hD : spanD r ≠ [] := fun e => hr (by rw [← happ, h0, e]; rfl)
        rw [numN_bad (.inl (by rw [h0]; exact okN_nil)) hr]
        unfold numT
        rw [if_neg hD, h0, if_neg (by decide)]
        rfl
      · have hh : (spanT r).head? ≠ some 48 := by
          intro e
          apply h48
          rw [← happ]
          cases hs : spanT r with
          | nil => exact absurd hs h0
          | cons b q => rw [hs] at e; simpa using e
        by_cases h3 : (spanT r).length ≤ 3
        · have hlt : dv (spanT r) < 1000 := Nat.lt_of_lt_of_le (dv_lt hd) (Nat.pow_le_pow_right (by decide) h3)
          have hok : okN (spanT r) = true := okN_fits h0 hd (by omega) (.inl hh)
          by_cases hD : spanD r = []
          · rw [numN_wait hok h3 hD]
            unfold numT okW3
            rw [if_pos hD, decide_eq_true h3, if_pos (by simp [hh])]
            rfl
          · rw [numN_ok hok h3 hD, takeT_nil]
            show (if dv (spanT r) < 100 then Tk.bad else Tk.got (dv (spanT r)) (spanD r)) = _
            unfold numT okG3
            rw [if_neg hD]
            by_cases he : (spanT r).length = 3
            · have := dv_ge hd hh he
              rw [if_neg (by omega), decide_eq_true he, if_pos (by simp [hh])]
            · have hlt2 : dv (spanT r) < 100 := Nat.lt_of_lt_of_le (dv_lt hd) (show 10 ^ (spanT r).length ≤ 10 ^ 2 from Nat.pow_le_pow_right (by decide) (by omega))
              rw [if_pos hlt2, decide_eq_false he, if_neg (by simp)]
        · rw [numN_bad (.inr (by omega)) hr]
          unfold numT okW3 okG3
          by_cases hD : spanD r = []
          · rw [if_pos hD, decide_eq_false h3, if_neg (by simp)]; rfl
          · rw [if_neg hD, decide_eq_false (by omega), if_neg (by simp)]; rfl
theorem numN_eq {most : Nat} {l : List UInt8} (ahead : List UInt8) (h : l.length ≤ most) : numN most ahead l = (numT okWN okN l).bind fun z r => (takeT ahead r).bind fun _ q => .got z q := by
  have happ := span_app l
  have hle : (spanT l).length ≤ most := by have := congrArg List.length happ; rw [List.length_append] at this; omega
  cases hok : okN (spanT l) with
  | true =>
    by_cases hD : spanD l = []
    · rw [numN_wait hok hle hD]
      unfold numT okWN
      rw [if_pos hD, hok, if_pos (by simp)]
      rfl
    · rw [numN_ok hok hle hD]
      unfold numT
      rw [if_neg hD, if_pos hok]
      rfl
  | false =>
    by_cases hl : l = []
    · subst hl
      rw [numN_nil]
      unfold numT
      rw [if_pos (show spanD [] = [] from rfl), if_pos (show okWN (spanT []) = true by decide)]
      rfl
    · rw [numN_bad (.inl hok) hl]
      unfold numT
      by_cases hD : spanD l = []
      · have h0 : spanT l ≠ [] := fun e => hl (by rw [← happ, e, hD]; rfl)
        rw [if_pos hD, if_neg]
        · rfl
        · unfold okWN
          rw [hok, Bool.or_false]
          cases hs : spanT l with
          | nil => exact absurd hs h0
          | cons b q => simp
      · rw [if_neg hD, hok, if_neg (by decide)]
        rfl
/-- How long what is left may be. -/
def Short {α : Type} (n : Nat) (o : Tk α) : Prop := ∀ a r, o = .got a r → r.length ≤ n
theorem takeT_len {s l r : List UInt8} {u : Unit} (h : takeT s l = .got u r) : r.length ≤ l.length := by
  unfold takeT at h
  split at h
  · split at h <;> cases h
  · split at h
    · injection h with _ h; rw [← h, List.length_drop]; omega
    · cases h
theorem Short.take {α : Type} {n : Nat} {o : Tk α} (h : Short n o) (s : List UInt8) : Short n (o.bind fun z l => (takeT s l).bind fun _ r => Tk.got z r) := fun a r e => by
  obtain ⟨z, l, h1, h2⟩ := bind_got e
  obtain ⟨_, q, h3, h4⟩ := bind_got h2
  injection h4 with _ h4
  rw [← h4]
  exact Nat.le_trans (takeT_len h3) (h z l h1)
theorem numN_len {most : Nat} {ahead l r : List UInt8} {z : Nat} (h : numN most ahead l = .got z r) : r.length ≤ l.length := by
  have happ := congrArg List.length (span_app l)
  rw [List.length_append] at happ
  unfold numN at h
  split at h
  · split at h
    · cases h
    · obtain ⟨_, q, h1, h2⟩ := bind_got h
      injection h2 with _ h2
      rw [← h2]
      have := takeT_len h1
      omega
  · split at h <;> cases h
theorem Short.num {α : Type} {n : Nat} {o : Tk α} (h : Short n o) (most : Nat) (ahead : List UInt8) : Short n (o.bind fun _ l => numN most ahead l) := fun a r e => by
  obtain ⟨z, l, h1, h2⟩ := bind_got e
  exact Nat.le_trans (numN_len h2) (h z l h1)
set_option maxHeartbeats 4000000 in
set_option maxRecDepth 100000 in
theorem number_off (m : Int) (s : ByteArray) (pb : Nat) (A : Option Addr) (n c : Nat) (e x : Bool) (h : (e || x) = true) (W : World) (K : Pc W pb A n c e x) :
    Calls Tryz.prog 49 #[.pointer (some ⟨pb, 0, none⟩), .int .i64 m, .string s] W fun ex W' => ex = .returned (.int .i64 0) ∧ W = W' := by
  obtain ⟨c0, c1, c2, -, -, -, lt⟩ := K
  cases e with
  | true =>
    clear h
    go_enter Tryz.func49, Tryz.ntmps49
    go_wp2
    go_ret
    exact ⟨rfl, rfl⟩
  | false =>
    cases x with
    | false => cases h
    | true =>
      clear h
      go_enter Tryz.func49, Tryz.ntmps49
      go_wp2
      go_ret
      exact ⟨rfl, rfl⟩
theorem grown_refl (W : World) (h : Option Nat) : W.grownBy W h := ⟨rfl, rfl, rfl, Nat.le_refl _, fun _ _ _ => rfl⟩
theorem number_st {α : Type} (o : Tk α) (most : Nat) (ahead : List UInt8) (pb : Nat) (hb : Short 1000000000 o) (W : World) (E : EnvS W) (S : StO W pb o) :
    Calls Tryz.prog 49 #[.pointer (some ⟨pb, 0, none⟩), .int .i64 (most : Int), .string ⟨ahead.toArray⟩] W fun ex W' => (∃ v : Int, ex = .returned (.int .i64 v) ∧ ∀ v' r', (o.bind fun _ l => numN most ahead l) = .got v' r' → v = (v' : Int)) ∧ StO W' pb (o.bind fun _ l => numN most ahead l) ∧ W.grownBy W' (some pb) := by
  cases o with
  | wait =>
    obtain ⟨A, n, c, K⟩ := S
    refine (number_off _ _ pb A n c true false rfl W K).mono ?_
    rintro ex W' ⟨rfl, rfl⟩
    exact ⟨⟨0, rfl, fun _ _ e => by cases e⟩, ⟨A, n, c, K⟩, grown_refl _ _⟩
  | bad =>
    obtain ⟨A, n, c, K⟩ := S
    refine (number_off _ _ pb A n c false true rfl W K).mono ?_
    rintro ex W' ⟨rfl, rfl⟩
    exact ⟨⟨0, rfl, fun _ _ e => by cases e⟩, ⟨A, n, c, K⟩, grown_refl _ _⟩
  | got z l =>
    obtain ⟨A, c, K, T, hne⟩ := S
    refine (number_on l most ahead pb A l.length c rfl (hb z l rfl) W E K T hne).mono ?_
    rintro ex W' ⟨v, rfl, h1, h2, hg⟩
    exact ⟨⟨v, rfl, h2⟩, h1, hg⟩
/-- A response, stage by stage. -/
theorem respF_eq (l : List UInt8) : respF l = ((takeT tStart l).bind fun _ r => statN r).bind fun z r => ((takeT (tMid z) r).bind fun _ r => numT okWN okN r).bind fun n r => (closeT r).bind fun cl r => (bodyT n r).bind fun _ r => .got (z, cl, n) r := by
  unfold respF
  cases takeT tStart l with
  | wait => rfl
  | bad => rfl
  | got u r =>
    show (numT okW3 okG3 r).bind _ = (statN r).bind _
    rw [statN_eq]
    cases numT okW3 okG3 r with
    | wait => rfl
    | bad => rfl
    | got z q =>
      show (takeT (tMid z) q).bind _ = ((takeT (tMid z) q).bind _).bind _
      cases takeT (tMid z) q with
      | wait => rfl
      | bad => rfl
      | got u r => rfl
end Go.Proofs.YtkaimfeiahogaaaGreatDoor
