/-
  dsl's small functions; what dsl calls in the library.
-/
import Derived.Test.YtnjlggleaocbdaaGreatDoorHb
import Derived.Test.YtnjlggleaocbdaaGreatDoorDp1
import Derived.Lib.SlicesS
import Derived.WalkSmall
import Derived.Lib.AppendIntMem
import Derived.Lib.AtoiAllCases

/-
  Plain: a predicate on runes that no byte above 7F pays, gone through a text.
-/
namespace Go.Proofs.YtnjlggleaocbdaaGreatDoor
set_option linter.all false
open Go.Lib Go.Shelf

theorem idx_any (p : Nat → Bool) (q : UInt8 → Bool) (h1 : ∀ b : UInt8, b.toNat < 128 → p b.toNat = q b) (h2 : ∀ r, 128 ≤ r → p r = true) (h3 : ∀ b : UInt8, 128 ≤ b.toNat → q b = true) (s : ByteArray) : ∀ (f pos : Nat), s.size ≤ pos + f → (0 ≤ Lib.idxFuncFrom p true s f pos ↔ ∃ (i : Nat) (h : i < s.size), pos ≤ i ∧ q (s[i]'h) = true)
  | 0, pos, h => by
    simp only [Lib.idxFuncFrom]
    constructor
    · intro h; omega
    · rintro ⟨i, hi, hp, _⟩; omega
  | f + 1, pos, h => by
    rw [Lib.idxFuncFrom]
    by_cases hp : pos < s.size
    · rw [if_pos hp]
      cases hq : q (s[pos]'hp) with
      | false =>
        have hlt : (s[pos]'hp).toNat < 128 := by
          rcases Nat.lt_or_ge (s[pos]'hp).toNat 128 with k | k
          · exact k
          · rw [h3 _ k] at hq; cases hq
        rw [decode_ascii s pos hp hlt]
        have ho : p (s[pos]'hp).toNat = false := by rw [h1 _ hlt, hq]
        rw [if_neg (by simp [ho])]
        rw [idx_any p q h1 h2 h3 s f (pos + 1) (by omega)]
        constructor
        · rintro ⟨i, hi, k1, k2⟩; exact ⟨i, hi, by omega, k2⟩
        · rintro ⟨i, hi, k1, k2⟩
          refine ⟨i, hi, ?_, k2⟩
          rcases Nat.lt_or_ge pos i with k3 | k3
          · omega
          · have : i = pos := by omega
            subst this
            rw [hq] at k2; cases k2
      | true =>
        have ho : p (Utf8.decode s pos).1 = true := by
          by_cases ha : (s[pos]'hp).toNat < 128
          · rw [decode_ascii s pos hp ha]; show p (s[pos]'hp).toNat = true; rw [h1 _ ha, hq]
          · exact h2 _ (decode_high s pos hp (by omega)).1
        rw [if_pos ho]
        exact ⟨fun _ => ⟨pos, hp, Nat.le_refl _, hq⟩, fun _ => by omega⟩
    · rw [if_neg hp]
      constructor
      · intro h; omega
      · rintro ⟨i, hi, k1, _⟩; omega
theorem idx_all (p : Nat → Bool) (q : UInt8 → Bool) (h1 : ∀ b : UInt8, b.toNat < 128 → p b.toNat = !q b) (h2 : ∀ r, 128 ≤ r → p r = true) (h3 : ∀ b : UInt8, 128 ≤ b.toNat → q b = false) (l : List UInt8) : decide (0 ≤ Lib.idxFunc p true ⟨l.toArray⟩) = !l.all q := by
  have h := idx_any p (fun b => !q b) h1 h2 (fun b hb => by rw [h3 b hb]; rfl) ⟨l.toArray⟩ (⟨l.toArray⟩ : ByteArray).size 0 (by omega)
  unfold Lib.idxFunc
  rw [Bool.eq_iff_iff]
  simp only [decide_eq_true_eq, Bool.not_eq_true', Bool.eq_false_iff, ne_eq]
  rw [h]
  constructor
  · rintro ⟨i, hi, _, k2⟩ hd
    have hil : i < l.length := by simpa [ByteArray.size] using hi
    have := List.all_eq_true.1 hd (l[i]) (List.getElem_mem hil)
    have e : (⟨l.toArray⟩ : ByteArray)[i]'hi = l[i] := rfl
    rw [e, this] at k2
    cases k2
  · intro hn
    have hn' : ∃ b ∈ l, ¬ q b = true := Classical.byContradiction fun hc => hn (List.all_eq_true.2 fun b hb => Classical.byContradiction fun hq => hc ⟨b, hb, hq⟩)
    obtain ⟨b, hb, hnb⟩ := hn'
    obtain ⟨i, hi, rfl⟩ := List.mem_iff_getElem.1 hb
    refine ⟨i, by simpa [ByteArray.size] using hi, Nat.zero_le _, ?_⟩
    show (!q l[i]) = true
    simpa using hnb
end Go.Proofs.YtnjlggleaocbdaaGreatDoor

/-
  Contracts of dsl's small functions: small, digit, within, words, isName, isText.
-/
namespace Go.Proofs.YtnjlggleaocbdaaGreatDoor
set_option linter.all false
open Go.RowKit Go.Shelf
attribute [local go_sem] cell_set_self lt_1 lt_2 lt_3 lt_4 lt_5 lt_6

set_option maxHeartbeats 1000000 in
theorem small_any (c : UInt8) (w : World) : Calls Tryz.prog 54 #[.int .u8 (c.toNat : Int)] w fun e w' => e = .returned (.bool (smallB c)) ∧ w = w' := by
  unfold smallB
  generalize c.toNat = z
  by_cases h1 : 97 ≤ z
  · by_cases h2 : z ≤ 122
    · have z1 : (97 : Int) ≤ (z : Int) := by omega
      have z2 : (z : Int) ≤ 122 := by omega
      rw [decide_eq_true h1, decide_eq_true h2]
      clear h1 h2
      go_enter Tryz.func54, Tryz.ntmps54
      go_wp2
      go_ret
      exact ⟨rfl, rfl⟩
    · have z1 : (97 : Int) ≤ (z : Int) := by omega
      have z2 : ¬ (z : Int) ≤ 122 := by omega
      rw [decide_eq_true h1, decide_eq_false h2]
      clear h1 h2
      go_enter Tryz.func54, Tryz.ntmps54
      go_wp2
      go_ret
      exact ⟨rfl, rfl⟩
  · have z1 : ¬ (97 : Int) ≤ (z : Int) := by omega
    rw [decide_eq_false h1]
    clear h1
    go_enter Tryz.func54, Tryz.ntmps54
    go_wp2
    go_ret
    exact ⟨rfl, rfl⟩
set_option maxHeartbeats 1000000 in
theorem digit_any (c : UInt8) (w : World) : Calls Tryz.prog 74 #[.int .u8 (c.toNat : Int)] w fun e w' => e = .returned (.bool (digitB c)) ∧ w = w' := by
  unfold digitB
  generalize c.toNat = z
  by_cases h1 : 48 ≤ z
  · by_cases h2 : z ≤ 57
    · have z1 : (48 : Int) ≤ (z : Int) := by omega
      have z2 : (z : Int) ≤ 57 := by omega
      rw [decide_eq_true h1, decide_eq_true h2]
      clear h1 h2
      go_enter Tryz.func74, Tryz.ntmps74
      go_wp2
      go_ret
      exact ⟨rfl, rfl⟩
    · have z1 : (48 : Int) ≤ (z : Int) := by omega
      have z2 : ¬ (z : Int) ≤ 57 := by omega
      rw [decide_eq_true h1, decide_eq_false h2]
      clear h1 h2
      go_enter Tryz.func74, Tryz.ntmps74
      go_wp2
      go_ret
      exact ⟨rfl, rfl⟩
  · have z1 : ¬ (48 : Int) ≤ (z : Int) := by omega
    rw [decide_eq_false h1]
    clear h1
    go_enter Tryz.func74, Tryz.ntmps74
    go_wp2
    go_ret
    exact ⟨rfl, rfl⟩
set_option maxHeartbeats 1000000 in
theorem within_any (c : UInt8) (w : World) : Calls Tryz.prog 57 #[.int .u8 (c.toNat : Int)] w fun e w' => e = .returned (.bool (withB c)) ∧ w = w' := by
  have S := Lib.hid (fun W => small_any c W)
  have D := Lib.hid (fun W => digit_any c W)
  unfold withB
  cases h1 : smallB c with
  | true =>
    rw [h1] at S
    rw [Bool.true_or, Bool.true_or]
    clear h1 D
    go_enter Tryz.func57, Tryz.ntmps57
    go_wp2_with (first | (go_at_call 54; (with_reducible refine (S.out _).mono ?_); rintro e w3 ⟨rfl, rfl⟩))
    go_ret
    exact ⟨rfl, rfl⟩
  | false =>
    rw [h1] at S
    cases h2 : digitB c with
    | true =>
      rw [h2] at D
      rw [Bool.false_or, Bool.true_or]
      clear h1 h2
      go_enter Tryz.func57, Tryz.ntmps57
      go_wp2_with (first | (go_at_call 54; (with_reducible refine (S.out _).mono ?_); rintro e w3 ⟨rfl, rfl⟩) | (go_at_call 74; (with_reducible refine (D.out _).mono ?_); rintro e w3 ⟨rfl, rfl⟩))
      go_ret
      exact ⟨rfl, rfl⟩
    | false =>
      rw [h2] at D
      rw [Bool.false_or, Bool.false_or]
      clear h1 h2
      by_cases h3 : c.toNat = 95
      · have e1 : ((c.toNat : Int) == 95) = true := by simp [h3]
        rw [decide_eq_true h3]
        clear h3
        generalize (c.toNat : Int) = z at *
        go_enter Tryz.func57, Tryz.ntmps57
        go_wp2_with (first | (go_at_call 54; (with_reducible refine (S.out _).mono ?_); rintro e w3 ⟨rfl, rfl⟩) | (go_at_call 74; (with_reducible refine (D.out _).mono ?_); rintro e w3 ⟨rfl, rfl⟩))
        go_ret
        exact ⟨by simp [e1], rfl⟩
      · have e1 : ((c.toNat : Int) == 95) = false := by rw [beq_eq_false_iff_ne]; omega
        rw [decide_eq_false h3]
        clear h3
        generalize (c.toNat : Int) = z at *
        go_enter Tryz.func57, Tryz.ntmps57
        go_wp2_with (first | (go_at_call 54; (with_reducible refine (S.out _).mono ?_); rintro e w3 ⟨rfl, rfl⟩) | (go_at_call 74; (with_reducible refine (D.out _).mono ?_); rintro e w3 ⟨rfl, rfl⟩))
        go_ret
        exact ⟨by simp [e1], rfl⟩
/-- A slice of strings that lies in memory. -/
def Strs (w : World) (A : Option Addr) (xs : List (List UInt8)) : Prop := ∀ (i : Nat) (x : List UInt8), xs[i]? = some x → ∃ b off, A = some ⟨b, off, none⟩ ∧ b < w.heap.size ∧ w.cell? ⟨b, off + i, none⟩ = some (.string ⟨x.toArray⟩)
theorem Strs.below {w w' : World} {A : Option Addr} {l : List (List UInt8)} (h : Strs w A l) (hb : Below w.heap.size w w') : Strs w' A l := fun i p hi => by
  obtain ⟨b, off, h1, h2, h3⟩ := h i p hi
  obtain ⟨hc, _⟩ := bcell hb
  exact ⟨b, off, h1, Nat.lt_of_lt_of_le h2 hb.size, by rw [hc _ _ h2, h3]⟩
theorem strs_alloc (W : World) (xs : List (List UInt8)) (t : TypeId) (cs : Array Value) (h : cs = (xs.map fun x => Value.string ⟨x.toArray⟩).toArray) : Strs (W.alloc (.cells cs t)) (some ⟨W.heap.size, 0, none⟩) xs := by
  subst h
  intro i x hx
  refine ⟨_, _, rfl, by simp, ?_⟩
  have hc : (xs.map fun x => Value.string ⟨x.toArray⟩)[i]? = some (.string ⟨x.toArray⟩) := by rw [List.getElem?_map, hx]; rfl
  simp [go_sem, hx]
theorem containsS_eq (xs : List (List UInt8)) (x : List UInt8) : Lib.containsS (xs.map fun y => (⟨y.toArray⟩ : ByteArray)) ⟨x.toArray⟩ = xs.contains x := by
  rw [Bool.eq_iff_iff, Lib.containsS_iff, List.mem_map, List.contains_iff_mem]
  constructor
  · rintro ⟨y, hy, e⟩
    have : y = x := by
      have := congrArg (fun b : ByteArray => b.data.toList) e
      simpa using this
    exact this ▸ hy
  · intro h; exact ⟨x, h, rfl⟩
theorem contains_any (A : Option Addr) (c : Nat) (xs : List (List UInt8)) (n : Nat) (hn : xs.length = n) (hb : n ≤ 1000000000) (x : List UInt8) (w : World) (T : Strs w A xs) :
    Calls Tryz.prog 55 #[.slice A n c, .string ⟨x.toArray⟩] w fun e w' => e = .returned (.bool (xs.contains x)) ∧ w = w' := by
  subst hn
  cases xs with
  | nil =>
    refine (Tryz.slices_Contains_string_empty A c ⟨x.toArray⟩ w).mono ?_
    rintro e w' ⟨rfl, rfl⟩
    exact ⟨rfl, rfl⟩
  | cons y ys =>
    obtain ⟨b, off, rfl, h2, -⟩ := T 0 y rfl
    have hz : ((y :: ys).map fun y => (⟨y.toArray⟩ : ByteArray)).length = (y :: ys).length := List.length_map ..
    refine (Tryz.slices_Contains_string b off (y :: ys).length c ((y :: ys).map fun y => (⟨y.toArray⟩ : ByteArray)) ⟨x.toArray⟩ w (by omega) (by omega) (fun j hj => ?_)).mono ?_
    · obtain ⟨z, hz2⟩ : ∃ z, (y :: ys)[j]? = some z := ⟨_, List.getElem?_eq_getElem (by omega)⟩
      obtain ⟨b', off', e, -, hc⟩ := T j z hz2
      injection e with e; injection e with e1 e2; subst e1 e2
      rw [hc, List.getD_eq_getElem?_getD, List.getElem?_map, hz2]; rfl
    · rintro e w' ⟨rfl, rfl⟩
      refine ⟨?_, rfl⟩
      rw [← containsS_eq, List.take_of_length_le (by omega)]
set_option maxRecDepth 100000 in
theorem words_any (w : World) : Calls Tryz.prog 56 #[] w fun e w' => e = .returned (.slice (some ⟨w.heap.size, 0, none⟩) 14 14) ∧ Strs w' (some ⟨w.heap.size, 0, none⟩) wordsL ∧ Below w.heap.size w w' := by
  go_enter Tryz.func56, Tryz.ntmps56
  go_wp2
  go_ret
  exact ⟨rfl, strs_alloc w wordsL _ _ rfl, (by repeat (first | exact Below.refl _ _ | refine Below.setCell ?_ (by first | (simp; done) | (simp; omega) | omega) _ | refine Below.alloc ?_ (by first | (simp; done) | (simp; omega) | omega) _ | refine Below.drew ?_ | assumption | refine Below.trans ?_ (Below.mono (by assumption) (by first | (simp; done) | (simp; omega) | omega))))⟩
theorem types_any (w : World) : Calls Tryz.prog 37 #[] w fun e w' => e = .returned (.slice (some ⟨w.heap.size, 0, none⟩) 4 4) ∧ Strs w' (some ⟨w.heap.size, 0, none⟩) typesL ∧ Below w.heap.size w w' := by
  go_enter Tryz.func37, Tryz.ntmps37
  go_wp2
  go_ret
  exact ⟨rfl, strs_alloc w typesL _ _ rfl, (by repeat (first | exact Below.refl _ _ | refine Below.setCell ?_ (by first | (simp; done) | (simp; omega) | omega) _ | refine Below.alloc ?_ (by first | (simp; done) | (simp; omega) | omega) _ | refine Below.drew ?_ | assumption | refine Below.trans ?_ (Below.mono (by assumption) (by first | (simp; done) | (simp; omega) | omega))))⟩
end Go.Proofs.YtnjlggleaocbdaaGreatDoor

/-
  Contracts of dsl.isName, dsl.isText.
-/
namespace Go.Proofs.YtnjlggleaocbdaaGreatDoor
set_option linter.all false
open Go.RowKit Go.Shelf
attribute [local go_sem] cell_set_self lt_1 lt_2 lt_3 lt_4 lt_5 lt_6

theorem all_take1 {p : UInt8 → Bool} {l : List UInt8} {k : Nat} {x : UInt8} (h : l[k]? = some x) (ht : (l.take k).all p = true) : (l.take (k + 1)).all p = p x := by
  rw [List.take_succ, h, Option.toList_some, List.all_append, ht, Bool.true_and]
  simp
theorem all_false1 {p : UInt8 → Bool} {l : List UInt8} {k : Nat} {x : UInt8} (h : l[k]? = some x) (hx : p x = false) : l.all p = false := by
  cases ha : l.all p with
  | false => rfl
  | true => rw [List.all_eq_true.1 ha x (List.mem_of_getElem? h)] at hx; cases hx
set_option maxHeartbeats 4000000 in
set_option maxRecDepth 100000 in
theorem isName_any (s : List UInt8) (hs : s.length ≤ 9223372036854775807) (w : World) : Calls Tryz.prog 35 #[.string ⟨s.toArray⟩] w fun e w' => e = .returned (.bool (nameB s)) ∧ Below w.heap.size w w' := by
  suffices key : ∀ Q : Ending → World → Prop, Hid (∀ e w', (e = .returned (.bool (nameB s)) ∧ Below w.heap.size w w') → Q e w') → Calls Tryz.prog 35 #[.string ⟨s.toArray⟩] w Q from key _ (Lib.hid fun _ _ h => h)
  intro Q HQQ
  cases s with
  | nil =>
    have HE : Hid (nameB [] = false) := Lib.hid rfl
    go_enter Tryz.func35, Tryz.ntmps35
    go_wp2
    exact HQQ.out _ _ ⟨ret_bool HE.out.symm, (by repeat (first | exact Below.refl _ _ | refine Below.setCell ?_ (by first | (simp; done) | (simp; omega) | omega) _ | refine Below.alloc ?_ (by first | (simp; done) | (simp; omega) | omega) _ | refine Below.drew ?_ | assumption | refine Below.trans ?_ (Below.mono (by assumption) (by first | (simp; done) | (simp; omega) | omega))))⟩
  | cons c r =>
    have S := Lib.hid (fun W => small_any c W)
    obtain ⟨L, hL⟩ : ∃ L, c :: r = L := ⟨_, rfl⟩
    have hh : headB smallB L = smallB c := by rw [← hL]; rfl
    have h0 : L ≠ [] := by rw [← hL]; simp
    have hc0 : L[0]? = some c := by rw [← hL]; rfl
    rw [hL] at hs HQQ ⊢
    clear hL
    have NB : nameB L = (decide (L.length ≤ 30) && smallB c && !wordsL.contains L && L.all withB) := by
      unfold nameB; rw [hh]; cases L with
      | nil => exact absurd rfl h0
      | cons a b => rfl
    obtain ⟨t, ht⟩ : ∃ t : ByteArray, (⟨L.toArray⟩ : ByteArray) = t := ⟨_, rfl⟩
    have hsz : L.length = t.size := by rw [← ht, ba_sz]
    have HT := Lib.hid ht
    have AT : Hid (∀ (i : Nat) (h : i < t.size), L[i]? = some (t[i]'h)) := Lib.hid fun i h => by
      subst ht
      rw [List.getElem?_eq_getElem (by rw [hsz]; exact h)]; rfl
    have e0 : (t.toList == []) = false := by rw [← ht, ByteArray.toList_mk]; cases L with | nil => exact absurd rfl h0 | cons a r => rfl
    have e0' : t.toList.isEmpty = false := by rw [← ht, ByteArray.toList_mk]; cases L with | nil => exact absurd rfl h0 | cons a r => rfl
    have tp : 0 < t.size := by rw [← hsz]; cases L with | nil => exact absurd rfl h0 | cons a r => simp
    have q1 : (t[0]'tp) = c := by have := AT.out 0 tp; rw [hc0] at this; injection this with this; exact this.symm
    have q2 : (((t[0]'tp).toNat : Int)) = (c.toNat : Int) := by rw [q1]
    rw [hsz] at hs NB
    rw [ht]
    clear ht h0 hh hc0 q1
    by_cases hlt : t.size ≤ 30
    · have hlt' : ¬ (30 : Int) < (t.size : Int) := by omega
      rw [decide_eq_true hlt, Bool.true_and] at NB
      cases hsm : smallB c with
      | false =>
        rw [hsm] at S NB
        have NB' := Lib.hid NB
        clear NB hsm hsz hlt
        go_enter Tryz.func35, Tryz.ntmps35
        go_wp2_with (first | (go_at_call 54; (with_reducible refine (S.out _).mono ?_); rintro e w3 ⟨rfl, rfl⟩))
        exact HQQ.out _ _ ⟨ret_bool (by rw [NB'.out]; rfl), (by repeat (first | exact Below.refl _ _ | refine Below.setCell ?_ (by first | (simp; done) | (simp; omega) | omega) _ | refine Below.alloc ?_ (by first | (simp; done) | (simp; omega) | omega) _ | refine Below.drew ?_ | assumption | refine Below.trans ?_ (Below.mono (by assumption) (by first | (simp; done) | (simp; omega) | omega))))⟩
      | true =>
        rw [hsm] at S NB
        have W0 := Lib.hid (fun W => words_any W)
        have CN := Lib.hid (fun A W (T : Strs W A wordsL) => contains_any A 14 wordsL 14 rfl (by omega) L W T)
        rw [HT.out] at CN
        cases hcw : wordsL.contains L with
        | true =>
          rw [hcw] at CN NB
          have NB' := Lib.hid NB
          clear NB hsm hsz hlt hcw
          go_enter Tryz.func35, Tryz.ntmps35
          go_wp2_with (first | (go_at_call 54; (with_reducible refine (S.out _).mono ?_); rintro e w3 ⟨rfl, rfl⟩) | (go_at_call 56; (with_reducible refine (W0.out _).mono ?_); rintro e w4 ⟨rfl, hS4, hb4⟩; have HS4 := Lib.hid hS4; clear hS4) | (go_at_call 55; (with_reducible refine (CN.out _ _ HS4.out).mono ?_); rintro e w5 ⟨rfl, rfl⟩))
          exact HQQ.out _ _ ⟨ret_bool (by rw [NB'.out]; rfl), (by repeat (first | exact Below.refl _ _ | refine Below.setCell ?_ (by first | (simp; done) | (simp; omega) | omega) _ | refine Below.alloc ?_ (by first | (simp; done) | (simp; omega) | omega) _ | refine Below.drew ?_ | assumption | refine Below.trans ?_ (Below.mono (by assumption) (by first | (simp; done) | (simp; omega) | omega))))⟩
        | false =>
          rw [hcw] at CN NB
          rw [Bool.not_false, Bool.true_and, Bool.true_and] at NB
          have NB' := Lib.hid NB
          have HSZ := Lib.hid hsz
          clear NB hsm hsz hlt hcw
          go_enter Tryz.func35, Tryz.ntmps35
          go_wp2_with (first | (go_at_call 54; (with_reducible refine (S.out _).mono ?_); rintro e w3 ⟨rfl, rfl⟩) | (go_at_call 56; (with_reducible refine (W0.out _).mono ?_); rintro e w4 ⟨rfl, hS4, hb4⟩; have HS4 := Lib.hid hS4; clear hS4) | (go_at_call 55; (with_reducible refine (CN.out _ _ HS4.out).mono ?_); rintro e w5 ⟨rfl, rfl⟩))
          go_loop [3] (fun i => ∃ k : Nat, k ≤ t.size ∧ i = .int .i64 k ∧ Hid ((L.take k).all withB = true)) (fun i => t.size - (intOf i).toNat)
          case atStart => exact ⟨0, by omega, rfl, Lib.hid rfl⟩
          case round =>
            obtain ⟨k, hk, rfl, HA⟩ := hrel
            by_cases hkt : k < t.size
            · have hkt' : (k : Int) < (t.size : Int) := by omega
              have hx := AT.out k hkt
              have HX := Lib.hid hx
              clear hx
              have WI := Lib.hid (fun W => within_any (t[k]'hkt) W)
              cases hp : withB (t[k]'hkt) with
              | true =>
                rw [hp] at WI
                have HN : Hid ((L.take (k + 1)).all withB = true) := Lib.hid (by rw [all_take1 HX.out HA.out, hp])
                clear hp
                go_wp2_with (first | (go_at_call 57; (with_reducible refine (WI.out _).mono ?_); rintro e w6 ⟨rfl, rfl⟩))
                go_round
                case rel => exact ⟨k + 1, by omega, by go_num, HN⟩
                case measure => simp [intOf]; omega
              | false =>
                rw [hp] at WI
                have HN : Hid (nameB L = false) := Lib.hid (by rw [NB'.out]; exact all_false1 HX.out hp)
                clear hp
                go_wp2_with (first | (go_at_call 57; (with_reducible refine (WI.out _).mono ?_); rintro e w6 ⟨rfl, rfl⟩))
                exact HQQ.out _ _ ⟨ret_bool HN.out.symm, (by repeat (first | exact Below.refl _ _ | refine Below.setCell ?_ (by first | (simp; done) | (simp; omega) | omega) _ | refine Below.alloc ?_ (by first | (simp; done) | (simp; omega) | omega) _ | refine Below.drew ?_ | assumption | refine Below.trans ?_ (Below.mono (by assumption) (by first | (simp; done) | (simp; omega) | omega))))⟩
            · obtain rfl : k = t.size := by omega
              have HN : Hid (nameB L = true) := Lib.hid (by rw [NB'.out, ← HA.out, List.take_of_length_le (by rw [HSZ.out]; exact Nat.le_refl _)])
              go_wp2
              exact HQQ.out _ _ ⟨ret_bool HN.out.symm, (by repeat (first | exact Below.refl _ _ | refine Below.setCell ?_ (by first | (simp; done) | (simp; omega) | omega) _ | refine Below.alloc ?_ (by first | (simp; done) | (simp; omega) | omega) _ | refine Below.drew ?_ | assumption | refine Below.trans ?_ (Below.mono (by assumption) (by first | (simp; done) | (simp; omega) | omega))))⟩
    · have hlt' : (30 : Int) < (t.size : Int) := by omega
      rw [decide_eq_false hlt] at NB
      have NB' := Lib.hid NB
      clear NB hsz hlt
      go_enter Tryz.func35, Tryz.ntmps35
      go_wp2
      exact HQQ.out _ _ ⟨ret_bool (by rw [NB'.out]; rfl), (by repeat (first | exact Below.refl _ _ | refine Below.setCell ?_ (by first | (simp; done) | (simp; omega) | omega) _ | refine Below.alloc ?_ (by first | (simp; done) | (simp; omega) | omega) _ | refine Below.drew ?_ | assumption | refine Below.trans ?_ (Below.mono (by assumption) (by first | (simp; done) | (simp; omega) | omega))))⟩
def oddT (r : Nat) : Bool := decide (r < 32) || decide (126 < r)
theorem pred_oddT (w : World) : PredAt Tryz.prog 77 #[] encR oddT w := fun W r _ => by
  unfold FnGives
  by_cases h1 : r < 32
  · have z1 : (r : Int) < 32 := by omega
    have e : oddT r = true := by unfold oddT; simp [h1]
    rw [e]
    clear h1 e
    go_enter Tryz.func77, Tryz.ntmps77
    go_wp2
    go_ret
    exact ⟨rfl, 0, rfl⟩
  · have z1 : ¬ (r : Int) < 32 := by omega
    by_cases h2 : 126 < r
    · have z2 : (126 : Int) < r := by omega
      have e : oddT r = true := by unfold oddT; simp [h2]
      rw [e]
      clear h1 h2 e
      go_enter Tryz.func77, Tryz.ntmps77
      go_wp2
      go_ret
      exact ⟨rfl, 0, rfl⟩
    · have z2 : ¬ (126 : Int) < r := by omega
      have e : oddT r = false := by unfold oddT; simp [h1, h2]
      rw [e]
      clear h1 h2 e
      go_enter Tryz.func77, Tryz.ntmps77
      go_wp2
      go_ret
      exact ⟨rfl, 0, rfl⟩
theorem contains_odd (l : List UInt8) (w : World) : Calls Tryz.prog 76 #[.string ⟨l.toArray⟩, .func (.func 77) #[] #[]] w fun e w' => e = .returned (.bool (!l.all seeB)) ∧ Below w.heap.size w w' := by
  have h := Tryz.strings_ContainsFunc 77 #[] (enters_of Tryz.func77 (by kernel_rfl) rfl) oddT ⟨l.toArray⟩ w (pred_oddT w)
  rw [idx_all oddT seeB (fun b hb => by
    unfold oddT seeB
    by_cases h1 : b.toNat < 32
    · have : ¬ 32 ≤ b.toNat := by omega
      simp [h1, this]
    · have h2 : 32 ≤ b.toNat := by omega
      by_cases h3 : b.toNat ≤ 126
      · have : ¬ 126 < b.toNat := by omega
        simp [h1, h2, h3, this]
      · have : 126 < b.toNat := by omega
        simp [h1, h3, this]) (fun r hr => by
    unfold oddT; simp; omega) (fun b hb => by
    unfold seeB; simp; omega)] at h
  exact h
set_option maxHeartbeats 1000000 in
theorem isText_any (s : List UInt8) (hs : s.length ≤ 9223372036854775807) (w : World) : Calls Tryz.prog 61 #[.string ⟨s.toArray⟩] w fun e w' => e = .returned (.bool (textB s)) ∧ Below w.heap.size w w' := by
  have C0 := Lib.hid (fun W => contains_odd s W)
  have hsz := ba_sz s
  unfold textB
  by_cases h1 : s.length ≤ 100
  · have h1' : ((s.length : Int) ≤ 100) := by omega
    rw [decide_eq_true h1, Bool.true_and]
    cases ha : s.all seeB with
    | true =>
      rw [ha] at C0
      rw [← hsz] at h1 h1' hs
      clear ha hsz
      generalize (⟨s.toArray⟩ : ByteArray) = t at *
      go_enter Tryz.func61, Tryz.ntmps61
      go_wp2_with (first | (go_at_call 76; (with_reducible refine (C0.out _).mono ?_); rintro e w3 ⟨rfl, hb3⟩))
      go_ret
      exact ⟨rfl, (by repeat (first | exact Below.refl _ _ | refine Below.setCell ?_ (by first | (simp; done) | (simp; omega) | omega) _ | refine Below.alloc ?_ (by first | (simp; done) | (simp; omega) | omega) _ | refine Below.drew ?_ | assumption | refine Below.trans ?_ (Below.mono (by assumption) (by first | (simp; done) | (simp; omega) | omega))))⟩
    | false =>
      rw [ha] at C0
      rw [← hsz] at h1 h1' hs
      clear ha hsz
      generalize (⟨s.toArray⟩ : ByteArray) = t at *
      go_enter Tryz.func61, Tryz.ntmps61
      go_wp2_with (first | (go_at_call 76; (with_reducible refine (C0.out _).mono ?_); rintro e w3 ⟨rfl, hb3⟩))
      go_ret
      exact ⟨rfl, (by repeat (first | exact Below.refl _ _ | refine Below.setCell ?_ (by first | (simp; done) | (simp; omega) | omega) _ | refine Below.alloc ?_ (by first | (simp; done) | (simp; omega) | omega) _ | refine Below.drew ?_ | assumption | refine Below.trans ?_ (Below.mono (by assumption) (by first | (simp; done) | (simp; omega) | omega))))⟩
  · have h1' : ¬ ((s.length : Int) ≤ 100) := by omega
    rw [decide_eq_false h1, Bool.false_and]
    rw [← hsz] at h1 h1' hs
    clear hsz C0
    generalize (⟨s.toArray⟩ : ByteArray) = t at *
    go_enter Tryz.func61, Tryz.ntmps61
    go_wp2
    go_ret
    exact ⟨rfl, (by repeat (first | exact Below.refl _ _ | refine Below.setCell ?_ (by first | (simp; done) | (simp; omega) | omega) _ | refine Below.alloc ?_ (by first | (simp; done) | (simp; omega) | omega) _ | refine Below.drew ?_ | assumption | refine Below.trans ?_ (Below.mono (by assumption) (by first | (simp; done) | (simp; omega) | omega))))⟩
end Go.Proofs.YtnjlggleaocbdaaGreatDoor

/-
  dsl's small functions; what dsl calls in the library.
-/
namespace Go.Proofs.YtnjlggleaocbdaaGreatDoor
set_option linter.all false
open Go.RowKit Go.Shelf
attribute [local go_sem] cell_set_self lt_1 lt_2 lt_3 lt_4 lt_5 lt_6

theorem gPow : Tryz.prog.globalNamed "internal/strconv.uint64pow10" = some 0 := by kernel_rfl
theorem gErr : Tryz.prog.globalNamed "strconv.ErrRange" = some 5 := by kernel_rfl
theorem gSyn : Tryz.prog.globalNamed "strconv.ErrSyntax" = some 4 := by kernel_rfl
/-- What the library's calls read. -/
def Env (w : World) : Prop := 8 ≤ w.heap.size ∧ (∃ m, w.cell? ⟨1, 0, none⟩ = some (.int .i64 m)) ∧ Lib.TabIs Tryz.prog w "internal/strconv.uint64pow10" .u64 Lib.pow10Tab ∧ (∃ tp p, w.var? Tryz.prog "strconv.ErrRange" = some #[.iface tp p]) ∧ (∃ tp p, w.var? Tryz.prog "strconv.ErrSyntax" = some #[.iface tp p])
theorem Env.below {w w' : World} (h : Env w) (hb : Below w.heap.size w w') : Env w' := by
  obtain ⟨h0, ⟨m, hm⟩, ht, ⟨tp, p, hv⟩, ⟨tp2, p2, hv2⟩⟩ := h
  refine ⟨Nat.le_trans h0 hb.size, ⟨m, by rw [hb.cell (p := ⟨_, 0, none⟩) (Nat.lt_of_lt_of_le (by decide) h0), hm]⟩, ?_, ⟨tp, p, ?_⟩, ⟨tp2, p2, ?_⟩⟩
  · exact var?_below hb gPow (Nat.lt_of_lt_of_le (by decide) h0) ht
  · exact var?_below hb gErr (Nat.lt_of_lt_of_le (by decide) h0) hv
  · exact var?_below hb gSyn (Nat.lt_of_lt_of_le (by decide) h0) hv2
/-- The first blocks stay, whatever comes behind. -/
theorem Env.at {w w' : World} (h : Env w) (hb : Below w.heap.size w w') : Env w' := h.below hb
theorem itoa_any (z : Int) (h0 : -9223372036854775808 ≤ z) (h1 : z ≤ 9223372036854775807) (w : World) (h : Env w) : Calls Tryz.prog 41 #[.int .i64 z] w fun e w' => e = .returned (.string ⟨(Lib.itoa z).toArray⟩) ∧ Below w.heap.size w w' := by
  refine (Tryz.strconv_Itoa z h0 h1 w h.2.2.1).mono ?_
  rintro e w' ⟨rfl, k, os, rfl⟩
  exact ⟨rfl, Lib.below_grow _ w (Nat.le_refl _) k os⟩
theorem atoi_fits (l : List UInt8) (hl : l.length ≤ 1000000000) (v : Int) (h : Lib.atoiAll l = .ok v) (w : World) : Calls Tryz.prog 82 #[.string ⟨l.toArray⟩] w fun e w' => e = .returned (.tuple #[.int .i64 v, .nilIface]) ∧ Below w.heap.size w w' := by
  refine (Tryz.strconv_Atoi_ok ⟨l.toArray⟩ (by rw [ba_sz]; omega) v h w).mono ?_
  rintro e w' ⟨rfl, hw⟩
  refine ⟨rfl, ?_⟩
  rcases hw with rfl | ⟨t, rfl⟩
  · exact Below.refl _ _
  · exact Lib.bytesWorld_below w _ t
theorem atoi_bad (l : List UInt8) (hl : l.length ≤ 1000000000) (h : ∀ v, Lib.atoiAll l ≠ .ok v) (w : World) (E : Env w) : Calls Tryz.prog 82 #[.string ⟨l.toArray⟩] w fun e w' => (∃ n t q, e = .returned (.tuple #[.int .i64 n, .iface t (.pointer (some q))])) ∧ Below w.heap.size w w' := by
  obtain ⟨_, _, _, ⟨tp, p, hv⟩, ⟨tp2, p2, hv2⟩⟩ := E
  cases hh : Lib.atoiAll l with
  | ok v => exact absurd hh (h v)
  | range =>
    refine (Tryz.strconv_Atoi_range_var ⟨l.toArray⟩ (by rw [ba_sz]; omega) hh tp p w hv).mono ?_
    rintro e w' ⟨N, rfl, _, _, hb⟩
    exact ⟨⟨_, _, _, rfl⟩, hb⟩
  | _ =>
    refine (Any.strconv_Atoi_syntax_var Tryz.laysC172 ⟨l.toArray⟩ (by rw [ba_sz]; omega) hh tp2 p2 w hv2).mono ?_
    rintro e w' ⟨N, rfl, _, _, hb⟩
    exact ⟨⟨_, _, _, rfl⟩, hb⟩
end Go.Proofs.YtnjlggleaocbdaaGreatDoor
