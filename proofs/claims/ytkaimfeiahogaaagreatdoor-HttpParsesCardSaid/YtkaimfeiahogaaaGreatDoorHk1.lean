/-
  Contracts of http.line, http.some at its three predicates, http.isPath. (Printed by tools/mkhk1.py.)
-/
import Derived.Test.YtkaimfeiahogaaaGreatDoorHb
import Derived.Test.YtkaimfeiahogaaaGreatDoorHp2
namespace Go.Proofs.YtkaimfeiahogaaaGreatDoor
set_option linter.all false
open Go.RowKit
attribute [local go_sem] cell_set_self lt_1 lt_2 lt_3 lt_4 lt_5 lt_6

/-- A slice of bytes, as memory has it. -/
def Bs (w : World) (A : Option Addr) (c : Nat) (l : List UInt8) : Prop :=
  l.length ≤ c ∧ (A = none → c = 0) ∧ ∀ (i : Nat) (x : UInt8), l[i]? = some x → ∃ b off, A = some ⟨b, off, none⟩ ∧ b < w.heap.size ∧ w.cell? ⟨b, off + i, none⟩ = some (.int .u8 (x.toNat : Int))
theorem Bs.below {w W : World} {A : Option Addr} {c : Nat} {l : List UInt8} (T : Bs w A c l) (h : Below w.heap.size w W) : Bs W A c l := ⟨T.1, T.2.1, fun i v hi => by
  obtain ⟨b, off, hA, hb, hc⟩ := T.2.2 i v hi
  exact ⟨b, off, hA, Nat.lt_of_lt_of_le hb h.size, (h.cell (p := ⟨b, off + i, none⟩) hb).trans hc⟩⟩
def lrV : LR → Value
  | .wait => .tuple #[.int .i64 (-1), .int .i64 0]
  | .bad e => .tuple #[.int .i64 (-1), .int .i64 e]
  | .got n => .tuple #[.int .i64 (n : Int), .int .i64 0]
theorem line_at {l : List UInt8} {k : Nat} {x : UInt8} (hx : l[k]? = some x) : lineF k (l.drop k) = if x = 10 then .bad 10 else if x = 13 then (match l[k + 1]? with | none => .wait | some y => if y = 10 then .got k else .bad 10) else if k = 1000 then .bad 8 else lineF (k + 1) (l.drop (k + 1)) := by
  obtain ⟨hk, e⟩ := List.getElem?_eq_some_iff.1 hx
  rw [List.drop_eq_getElem_cons hk, e, lineF]
  split
  · rfl
  · split
    · cases h : l[k + 1]? with
      | none =>
        have := List.getElem?_eq_none_iff.1 h
        rw [if_pos (List.drop_eq_nil_of_le this)]
      | some y =>
        obtain ⟨hk2, e2⟩ := List.getElem?_eq_some_iff.1 h
        rw [List.drop_eq_getElem_cons hk2, e2, if_neg (by simp)]
        simp
    · rfl
theorem u8_eq {x y : UInt8} : (x = y) ↔ (x.toNat : Int) = (y.toNat : Int) := by
  rw [← UInt8.toNat_inj]; omega
theorem ret_lr {l : List UInt8} {r : LR} (h : lineF 0 l = r) : Ending.returned (lrV r) = .returned (lrV (lineF 0 l)) := by rw [h]
set_option maxHeartbeats 4000000 in
set_option maxRecDepth 100000 in
theorem line_any (A : Option Addr) (n c : Nat) (l : List UInt8) (hl : l.length = n) (hn : n ≤ 1000000000) (w : World) (T : Bs w A c l) :
    Calls Tryz.prog 54 #[.slice A n c] w fun e w' => e = .returned (lrV (lineF 0 l)) ∧ w = w' := by
  have HL := Lib.hid hl
  have TT := Lib.hid T.2.2
  clear T hl
  go_enter Tryz.func54, Tryz.ntmps54
  go_wp2
  go_loop [8] (fun i => ∃ k : Nat, k ≤ n ∧ i = .int .i64 k ∧ Hid (lineF 0 l = lineF k (l.drop k))) (fun i => n - (intOf i).toNat)
  case atStart => exact ⟨0, by omega, rfl, Lib.hid rfl⟩
  case round =>
    obtain ⟨k, hk, rfl, HR⟩ := hrel
    by_cases hlt : k < n
    · have hlt' : (k : Int) < (n : Int) := by omega
      obtain ⟨x, hx⟩ : ∃ x, l[k]? = some x := ⟨_, List.getElem?_eq_getElem (by rw [HL.out]; exact hlt)⟩
      obtain ⟨b, off, rfl, hb, hc⟩ := TT.out k x hx
      have LA := Lib.hid (line_at hx)
      obtain ⟨z, hz⟩ : ∃ z : Int, (x.toNat : Int) = z := ⟨_, rfl⟩
      have X10 : Hid (x = 10 ↔ z = 10) := Lib.hid (by rw [← hz]; exact u8_eq)
      have X13 : Hid (x = 13 ↔ z = 13) := Lib.hid (by rw [← hz]; exact u8_eq)
      rw [hz] at hc
      clear hx hz
      by_cases h10 : z = 10
      · subst h10
        have R : Hid (lineF 0 l = .bad 10) := Lib.hid (by rw [HR.out, LA.out, if_pos (X10.out.2 rfl)])
        go_wp2
        go_ret2
        exact ⟨ret_lr R.out, rfl⟩
      · have n10 : ¬ x = 10 := fun h => h10 (X10.out.1 h)
        have g10 : (z == 10) = false := by simp [h10]
        by_cases h13 : z = 13
        · subst h13
          have x13 := X13.out.2 rfl
          by_cases hk1 : k + 1 < n
          · have hk1' : (k : Int) + 1 < (n : Int) := by omega
            obtain ⟨y, hy⟩ : ∃ y, l[k + 1]? = some y := ⟨_, List.getElem?_eq_getElem (by rw [HL.out]; exact hk1)⟩
            obtain ⟨b', off', e', hb', hc'⟩ := TT.out (k + 1) y hy
            injection e' with e'; injection e' with e1 e2; subst e1 e2
            have hc2 : w.cell? ⟨b, off + k + 1, none⟩ = some (.int .u8 (y.toNat : Int)) := hc'
            have Y10 : Hid (y = 10 ↔ (y.toNat : Int) = 10) := Lib.hid u8_eq
            have LR2 : Hid (lineF 0 l = if y = 10 then .got k else .bad 10) := Lib.hid (by rw [HR.out, LA.out, if_neg n10, if_pos x13, hy])
            clear hy x13 n10 LA
            generalize (y.toNat : Int) = v at *
            by_cases hv : v = 10
            · subst hv
              have R : Hid (lineF 0 l = .got k) := Lib.hid (by rw [LR2.out, if_pos (Y10.out.2 rfl)])
              go_wp2
              go_ret2
              exact ⟨ret_lr R.out, rfl⟩
            · have R : Hid (lineF 0 l = .bad 10) := Lib.hid (by rw [LR2.out, if_neg (fun h => hv (Y10.out.1 h))])
              have hv1 : (v != 10) = true := by simp [hv]
              clear hv
              go_wp2
              go_ret2
              exact ⟨ret_lr R.out, rfl⟩
          · have hk1' : ¬ (k : Int) + 1 < (n : Int) := by omega
            have R : Hid (lineF 0 l = .wait) := Lib.hid (by
              have hy : l[k + 1]? = none := List.getElem?_eq_none (by rw [HL.out]; omega)
              rw [HR.out, LA.out, if_neg n10, if_pos x13, hy])
            clear x13 n10 LA
            go_wp2
            go_ret2
            exact ⟨ret_lr R.out, rfl⟩
        · have n13 : ¬ x = 13 := fun h => h13 (X13.out.1 h)
          have g13 : (z == 13) = false := by simp [h13]
          by_cases hk1 : k = 1000
          · have R : Hid (lineF 0 l = .bad 8) := Lib.hid (by rw [HR.out, LA.out, if_neg n10, if_neg n13, if_pos hk1])
            subst hk1
            clear h10 h13 n10 n13 LA
            go_wp2
            go_ret2
            exact ⟨ret_lr R.out, rfl⟩
          · have R : Hid (lineF 0 l = lineF (k + 1) (l.drop (k + 1))) := Lib.hid (by rw [HR.out, LA.out, if_neg n10, if_neg n13, if_neg hk1])
            have gk : ((k : Int) == 1000) = false := by simp; omega
            clear h10 h13 n10 n13 LA
            go_wp2
            go_round
            case rel => exact ⟨k + 1, by omega, by go_num, R⟩
            case measure => first | (simp [intOf]; done) | (simp [intOf]; omega)
    · obtain rfl : k = n := by omega
      have hlt' : ¬ (k : Int) < (k : Int) := by omega
      have R : Hid (lineF 0 l = .wait) := Lib.hid (by rw [HR.out, List.drop_eq_nil_of_le (by rw [HL.out]; exact Nat.le_refl _)]; rfl)
      go_wp2
      go_ret2
      exact ⟨ret_lr R.out, rfl⟩
def digB (c : UInt8) : Bool := decide (48 ≤ c.toNat) && decide (c.toNat ≤ 57)
set_option maxHeartbeats 1000000 in
theorem big_any (c : UInt8) (w : World) : Calls Tryz.prog 67 #[.int .u8 (c.toNat : Int)] w fun e w' => e = .returned (.bool (bigB c)) ∧ w = w' := by
  unfold bigB
  generalize c.toNat = z
  by_cases h1 : 65 ≤ z
  · by_cases h2 : z ≤ 90
    · have z1 : (65 : Int) ≤ (z : Int) := by omega
      have z2 : (z : Int) ≤ 90 := by omega
      have z3 : (64 : Int) < (z : Int) := by omega
      have z4 : (z : Int) < 91 := by omega
      rw [decide_eq_true h1, decide_eq_true h2]
      clear h1 h2
      go_enter Tryz.func67, Tryz.ntmps67
      go_wp2
      go_ret
      exact ⟨rfl, rfl⟩
    · have z1 : (65 : Int) ≤ (z : Int) := by omega
      have z2 : ¬ (z : Int) ≤ 90 := by omega
      have z3 : (64 : Int) < (z : Int) := by omega
      have z4 : ¬ (z : Int) < 91 := by omega
      rw [decide_eq_true h1, decide_eq_false h2]
      clear h1 h2
      go_enter Tryz.func67, Tryz.ntmps67
      go_wp2
      go_ret
      exact ⟨rfl, rfl⟩
  · have z1 : ¬ (65 : Int) ≤ (z : Int) := by omega
    have z3 : ¬ (64 : Int) < (z : Int) := by omega
    rw [decide_eq_false h1]
    clear h1
    go_enter Tryz.func67, Tryz.ntmps67
    go_wp2
    go_ret
    exact ⟨rfl, rfl⟩
set_option maxHeartbeats 1000000 in
theorem seen_any (c : UInt8) (w : World) : Calls Tryz.prog 60 #[.int .u8 (c.toNat : Int)] w fun e w' => e = .returned (.bool (seenB c)) ∧ w = w' := by
  unfold seenB
  generalize c.toNat = z
  by_cases h1 : 33 ≤ z
  · by_cases h2 : z ≤ 126
    · have z1 : (33 : Int) ≤ (z : Int) := by omega
      have z2 : (z : Int) ≤ 126 := by omega
      have z3 : (32 : Int) < (z : Int) := by omega
      have z4 : (z : Int) < 127 := by omega
      rw [decide_eq_true h1, decide_eq_true h2]
      clear h1 h2
      go_enter Tryz.func60, Tryz.ntmps60
      go_wp2
      go_ret
      exact ⟨rfl, rfl⟩
    · have z1 : (33 : Int) ≤ (z : Int) := by omega
      have z2 : ¬ (z : Int) ≤ 126 := by omega
      have z3 : (32 : Int) < (z : Int) := by omega
      have z4 : ¬ (z : Int) < 127 := by omega
      rw [decide_eq_true h1, decide_eq_false h2]
      clear h1 h2
      go_enter Tryz.func60, Tryz.ntmps60
      go_wp2
      go_ret
      exact ⟨rfl, rfl⟩
  · have z1 : ¬ (33 : Int) ≤ (z : Int) := by omega
    have z3 : ¬ (32 : Int) < (z : Int) := by omega
    rw [decide_eq_false h1]
    clear h1
    go_enter Tryz.func60, Tryz.ntmps60
    go_wp2
    go_ret
    exact ⟨rfl, rfl⟩
set_option maxHeartbeats 1000000 in
theorem digit_any (c : UInt8) (w : World) : Calls Tryz.prog 64 #[.int .u8 (c.toNat : Int)] w fun e w' => e = .returned (.bool (digB c)) ∧ w = w' := by
  unfold digB
  generalize c.toNat = z
  by_cases h1 : 48 ≤ z
  · by_cases h2 : z ≤ 57
    · have z1 : (48 : Int) ≤ (z : Int) := by omega
      have z2 : (z : Int) ≤ 57 := by omega
      have z3 : (47 : Int) < (z : Int) := by omega
      have z4 : (z : Int) < 58 := by omega
      rw [decide_eq_true h1, decide_eq_true h2]
      clear h1 h2
      go_enter Tryz.func64, Tryz.ntmps64
      go_wp2
      go_ret
      exact ⟨rfl, rfl⟩
    · have z1 : (48 : Int) ≤ (z : Int) := by omega
      have z2 : ¬ (z : Int) ≤ 57 := by omega
      have z3 : (47 : Int) < (z : Int) := by omega
      have z4 : ¬ (z : Int) < 58 := by omega
      rw [decide_eq_true h1, decide_eq_false h2]
      clear h1 h2
      go_enter Tryz.func64, Tryz.ntmps64
      go_wp2
      go_ret
      exact ⟨rfl, rfl⟩
  · have z1 : ¬ (48 : Int) ≤ (z : Int) := by omega
    have z3 : ¬ (47 : Int) < (z : Int) := by omega
    rw [decide_eq_false h1]
    clear h1
    go_enter Tryz.func64, Tryz.ntmps64
    go_wp2
    go_ret
    exact ⟨rfl, rfl⟩
set_option maxHeartbeats 1000000 in
theorem lowName_any (c : UInt8) (w : World) : Calls Tryz.prog 71 #[.int .u8 (c.toNat : Int)] w fun e w' => e = .returned (.bool (lowNameB c)) ∧ w = w' := by
  have D := Lib.hid (fun W => digit_any c W)
  unfold digB at D
  unfold lowNameB
  generalize c.toNat = z at *
  by_cases h1 : 97 ≤ z
  · have e4 : decide (48 ≤ z) = true := decide_eq_true (by omega)
    have e5 : decide (z ≤ 57) = false := decide_eq_false (by omega)
    have e6 : decide (z = 45) = false := decide_eq_false (by omega)
    have z1 : (97 : Int) ≤ (z : Int) := by omega
    have z3 : ((z : Int) == 45) = false := by simp; omega
    rw [e4, e5] at D
    rw [decide_eq_true h1, e4, e5, e6]
    by_cases h2 : z ≤ 122
    · have z2 : (z : Int) ≤ 122 := by omega
      rw [decide_eq_true h2]
      clear h1 h2 e4 e5 e6
      go_enter Tryz.func71, Tryz.ntmps71
      go_wp2
      go_ret
      exact ⟨rfl, rfl⟩
    · have z2 : ¬ (z : Int) ≤ 122 := by omega
      rw [decide_eq_false h2]
      clear h1 h2 e4 e5 e6
      go_enter Tryz.func71, Tryz.ntmps71
      go_wp2_with (go_at_call 64; refine (D.out _).mono ?_; rintro e w' ⟨rfl, rfl⟩)
      go_ret
      exact ⟨rfl, rfl⟩
  · have z1 : ¬ (97 : Int) ≤ (z : Int) := by omega
    rw [decide_eq_false h1]
    clear h1
    cases hd : (decide (48 ≤ z) && decide (z ≤ 57)) with
    | true =>
      rw [hd] at D
      clear hd
      go_enter Tryz.func71, Tryz.ntmps71
      go_wp2_with (go_at_call 64; refine (D.out _).mono ?_; rintro e w' ⟨rfl, rfl⟩)
      go_ret
      exact ⟨rfl, rfl⟩
    | false =>
      rw [hd] at D
      clear hd
      by_cases h3 : z = 45
      · subst h3
        go_enter Tryz.func71, Tryz.ntmps71
        go_wp2_with (go_at_call 64; refine (D.out _).mono ?_; rintro e w' ⟨rfl, rfl⟩)
        go_ret
        exact ⟨rfl, rfl⟩
      · have z3 : ((z : Int) == 45) = false := by simp; omega
        rw [decide_eq_false h3]
        clear h3
        go_enter Tryz.func71, Tryz.ntmps71
        go_wp2_with (go_at_call 64; refine (D.out _).mono ?_; rintro e w' ⟨rfl, rfl⟩)
        go_ret
        exact ⟨rfl, rfl⟩
theorem all_take {p : UInt8 → Bool} {l : List UInt8} {k : Nat} {x : UInt8} (h : l[k]? = some x) (ht : (l.take k).all p = true) : (l.take (k + 1)).all p = p x := by
  rw [List.take_succ, h, Option.toList_some, List.all_append, ht]; simp
theorem all_false {p : UInt8 → Bool} {l : List UInt8} {k : Nat} {x : UInt8} (h : l[k]? = some x) (hx : p x = false) : l.all p = false := by
  cases ha : l.all p with
  | false => rfl
  | true => rw [List.all_eq_true.1 ha x (List.mem_of_getElem? h)] at hx; cases hx
set_option maxHeartbeats 4000000 in
set_option maxRecDepth 100000 in
theorem some_big (m : Nat) (hm : m ≤ 1000000) (s : List UInt8) (hs : s.length ≤ 9223372036854775807) (w : World) : Calls Tryz.prog 59 #[.string ⟨s.toArray⟩, .int .i64 m, .func (.func 67) #[] #[]] w fun e w' => e = .returned (.bool (someL bigB m s)) ∧ w = w' := by
  have PR := Lib.hid (fun c W => big_any c W)
  unfold someL
  obtain ⟨t, ht⟩ : ∃ t : ByteArray, (⟨s.toArray⟩ : ByteArray) = t := ⟨_, rfl⟩
  have hsz : s.length = t.size := by rw [← ht, ba_sz]
  have HT := Lib.hid ht
  have AT : Hid (∀ (i : Nat) (h : i < t.size), s[i]? = some (t[i]'h)) := Lib.hid fun i h => by
    subst ht
    rw [List.getElem?_eq_getElem (by rw [hsz]; exact h)]; rfl
  have E : Hid ((s = [] ↔ t.size = 0)) := Lib.hid (by rw [← hsz]; cases s <;> simp)
  by_cases h0 : s = []
  · subst h0
    clear ht HT
    go_enter Tryz.func59, Tryz.ntmps59
    go_wp2
    go_ret
    exact ⟨rfl, rfl⟩
  · have e0 : (t.toList == []) = false := by rw [← ht, ByteArray.toList_mk]; cases s with | nil => exact absurd rfl h0 | cons a r => rfl
    have e0' : t.toList.isEmpty = false := by rw [← ht, ByteArray.toList_mk]; cases s with | nil => exact absurd rfl h0 | cons a r => rfl
    rw [ht, decide_eq_true h0, Bool.true_and]
    rw [hsz] at hs ⊢
    have HS := Lib.hid hsz
    clear ht hsz h0 HT E
    by_cases hlt : t.size ≤ m
    · have hlt' : ¬ (m : Int) < (t.size : Int) := by omega
      rw [decide_eq_true hlt, Bool.true_and]
      clear hlt
      go_enter Tryz.func59, Tryz.ntmps59
      go_wp2
      go_loop [7] (fun i => ∃ k : Nat, k ≤ t.size ∧ i = .int .i64 k ∧ Hid ((s.take k).all bigB = true)) (fun i => t.size - (intOf i).toNat)
      case atStart => exact ⟨0, by omega, rfl, Lib.hid rfl⟩
      case round =>
        obtain ⟨k, hk, rfl, HA⟩ := hrel
        by_cases hkt : k < t.size
        · have hkt' : (k : Int) < (t.size : Int) := by omega
          have hx := AT.out k hkt
          have HX := Lib.hid hx
          clear hx
          obtain ⟨y, hy⟩ : ∃ y, t[k]'hkt = y := ⟨_, rfl⟩
          rw [hy] at HX
          cases hp : bigB y with
          | true =>
            have PY : Hid (∀ W, Calls Tryz.prog 67 #[.int .u8 (y.toNat : Int)] W fun e w' => e = .returned (.bool true) ∧ W = w') := Lib.hid fun W => by have := PR.out y W; rwa [hp] at this
            have NX : Hid ((s.take (k + 1)).all bigB = true) := Lib.hid (by rw [all_take HX.out HA.out, hp])
            clear hp
            go_wp2_with (go_at_call 67; refine (PY.out _).mono ?_; rintro e w' ⟨rfl, rfl⟩)
            go_round
            case rel => exact ⟨k + 1, by omega, by go_num, NX⟩
            case measure => first | (simp [intOf]; done) | (simp [intOf]; omega)
          | false =>
            have PY : Hid (∀ W, Calls Tryz.prog 67 #[.int .u8 (y.toNat : Int)] W fun e w' => e = .returned (.bool false) ∧ W = w') := Lib.hid fun W => by have := PR.out y W; rwa [hp] at this
            have NX : Hid (s.all bigB = false) := Lib.hid (all_false HX.out hp)
            clear hp
            go_wp2_with (go_at_call 67; refine (PY.out _).mono ?_; rintro e w' ⟨rfl, rfl⟩)
            go_ret
            exact ⟨(ret_bool NX.out).symm, rfl⟩
        · obtain rfl : k = t.size := by omega
          have NX : Hid (s.all bigB = true) := Lib.hid (by have := HA.out; rwa [List.take_of_length_le (by rw [HS.out]; exact Nat.le_refl _)] at this)
          go_wp2
          go_ret
          exact ⟨(ret_bool NX.out).symm, rfl⟩
    · have hlt' : (m : Int) < (t.size : Int) := by omega
      rw [decide_eq_false hlt, Bool.false_and]
      clear hlt
      go_enter Tryz.func59, Tryz.ntmps59
      go_wp2
      go_ret
      exact ⟨rfl, rfl⟩
set_option maxHeartbeats 4000000 in
set_option maxRecDepth 100000 in
theorem some_seen (m : Nat) (hm : m ≤ 1000000) (s : List UInt8) (hs : s.length ≤ 9223372036854775807) (w : World) : Calls Tryz.prog 59 #[.string ⟨s.toArray⟩, .int .i64 m, .func (.func 60) #[] #[]] w fun e w' => e = .returned (.bool (someL seenB m s)) ∧ w = w' := by
  have PR := Lib.hid (fun c W => seen_any c W)
  unfold someL
  obtain ⟨t, ht⟩ : ∃ t : ByteArray, (⟨s.toArray⟩ : ByteArray) = t := ⟨_, rfl⟩
  have hsz : s.length = t.size := by rw [← ht, ba_sz]
  have HT := Lib.hid ht
  have AT : Hid (∀ (i : Nat) (h : i < t.size), s[i]? = some (t[i]'h)) := Lib.hid fun i h => by
    subst ht
    rw [List.getElem?_eq_getElem (by rw [hsz]; exact h)]; rfl
  have E : Hid ((s = [] ↔ t.size = 0)) := Lib.hid (by rw [← hsz]; cases s <;> simp)
  by_cases h0 : s = []
  · subst h0
    clear ht HT
    go_enter Tryz.func59, Tryz.ntmps59
    go_wp2
    go_ret
    exact ⟨rfl, rfl⟩
  · have e0 : (t.toList == []) = false := by rw [← ht, ByteArray.toList_mk]; cases s with | nil => exact absurd rfl h0 | cons a r => rfl
    have e0' : t.toList.isEmpty = false := by rw [← ht, ByteArray.toList_mk]; cases s with | nil => exact absurd rfl h0 | cons a r => rfl
    rw [ht, decide_eq_true h0, Bool.true_and]
    rw [hsz] at hs ⊢
    have HS := Lib.hid hsz
    clear ht hsz h0 HT E
    by_cases hlt : t.size ≤ m
    · have hlt' : ¬ (m : Int) < (t.size : Int) := by omega
      rw [decide_eq_true hlt, Bool.true_and]
      clear hlt
      go_enter Tryz.func59, Tryz.ntmps59
      go_wp2
      go_loop [7] (fun i => ∃ k : Nat, k ≤ t.size ∧ i = .int .i64 k ∧ Hid ((s.take k).all seenB = true)) (fun i => t.size - (intOf i).toNat)
      case atStart => exact ⟨0, by omega, rfl, Lib.hid rfl⟩
      case round =>
        obtain ⟨k, hk, rfl, HA⟩ := hrel
        by_cases hkt : k < t.size
        · have hkt' : (k : Int) < (t.size : Int) := by omega
          have hx := AT.out k hkt
          have HX := Lib.hid hx
          clear hx
          obtain ⟨y, hy⟩ : ∃ y, t[k]'hkt = y := ⟨_, rfl⟩
          rw [hy] at HX
          cases hp : seenB y with
          | true =>
            have PY : Hid (∀ W, Calls Tryz.prog 60 #[.int .u8 (y.toNat : Int)] W fun e w' => e = .returned (.bool true) ∧ W = w') := Lib.hid fun W => by have := PR.out y W; rwa [hp] at this
            have NX : Hid ((s.take (k + 1)).all seenB = true) := Lib.hid (by rw [all_take HX.out HA.out, hp])
            clear hp
            go_wp2_with (go_at_call 60; refine (PY.out _).mono ?_; rintro e w' ⟨rfl, rfl⟩)
            go_round
            case rel => exact ⟨k + 1, by omega, by go_num, NX⟩
            case measure => first | (simp [intOf]; done) | (simp [intOf]; omega)
          | false =>
            have PY : Hid (∀ W, Calls Tryz.prog 60 #[.int .u8 (y.toNat : Int)] W fun e w' => e = .returned (.bool false) ∧ W = w') := Lib.hid fun W => by have := PR.out y W; rwa [hp] at this
            have NX : Hid (s.all seenB = false) := Lib.hid (all_false HX.out hp)
            clear hp
            go_wp2_with (go_at_call 60; refine (PY.out _).mono ?_; rintro e w' ⟨rfl, rfl⟩)
            go_ret
            exact ⟨(ret_bool NX.out).symm, rfl⟩
        · obtain rfl : k = t.size := by omega
          have NX : Hid (s.all seenB = true) := Lib.hid (by have := HA.out; rwa [List.take_of_length_le (by rw [HS.out]; exact Nat.le_refl _)] at this)
          go_wp2
          go_ret
          exact ⟨(ret_bool NX.out).symm, rfl⟩
    · have hlt' : (m : Int) < (t.size : Int) := by omega
      rw [decide_eq_false hlt, Bool.false_and]
      clear hlt
      go_enter Tryz.func59, Tryz.ntmps59
      go_wp2
      go_ret
      exact ⟨rfl, rfl⟩
set_option maxHeartbeats 4000000 in
set_option maxRecDepth 100000 in
theorem some_lowName (m : Nat) (hm : m ≤ 1000000) (s : List UInt8) (hs : s.length ≤ 9223372036854775807) (w : World) : Calls Tryz.prog 59 #[.string ⟨s.toArray⟩, .int .i64 m, .func (.func 71) #[] #[]] w fun e w' => e = .returned (.bool (someL lowNameB m s)) ∧ w = w' := by
  have PR := Lib.hid (fun c W => lowName_any c W)
  unfold someL
  obtain ⟨t, ht⟩ : ∃ t : ByteArray, (⟨s.toArray⟩ : ByteArray) = t := ⟨_, rfl⟩
  have hsz : s.length = t.size := by rw [← ht, ba_sz]
  have HT := Lib.hid ht
  have AT : Hid (∀ (i : Nat) (h : i < t.size), s[i]? = some (t[i]'h)) := Lib.hid fun i h => by
    subst ht
    rw [List.getElem?_eq_getElem (by rw [hsz]; exact h)]; rfl
  have E : Hid ((s = [] ↔ t.size = 0)) := Lib.hid (by rw [← hsz]; cases s <;> simp)
  by_cases h0 : s = []
  · subst h0
    clear ht HT
    go_enter Tryz.func59, Tryz.ntmps59
    go_wp2
    go_ret
    exact ⟨rfl, rfl⟩
  · have e0 : (t.toList == []) = false := by rw [← ht, ByteArray.toList_mk]; cases s with | nil => exact absurd rfl h0 | cons a r => rfl
    have e0' : t.toList.isEmpty = false := by rw [← ht, ByteArray.toList_mk]; cases s with | nil => exact absurd rfl h0 | cons a r => rfl
    rw [ht, decide_eq_true h0, Bool.true_and]
    rw [hsz] at hs ⊢
    have HS := Lib.hid hsz
    clear ht hsz h0 HT E
    by_cases hlt : t.size ≤ m
    · have hlt' : ¬ (m : Int) < (t.size : Int) := by omega
      rw [decide_eq_true hlt, Bool.true_and]
      clear hlt
      go_enter Tryz.func59, Tryz.ntmps59
      go_wp2
      go_loop [7] (fun i => ∃ k : Nat, k ≤ t.size ∧ i = .int .i64 k ∧ Hid ((s.take k).all lowNameB = true)) (fun i => t.size - (intOf i).toNat)
      case atStart => exact ⟨0, by omega, rfl, Lib.hid rfl⟩
      case round =>
        obtain ⟨k, hk, rfl, HA⟩ := hrel
        by_cases hkt : k < t.size
        · have hkt' : (k : Int) < (t.size : Int) := by omega
          have hx := AT.out k hkt
          have HX := Lib.hid hx
          clear hx
          obtain ⟨y, hy⟩ : ∃ y, t[k]'hkt = y := ⟨_, rfl⟩
          rw [hy] at HX
          cases hp : lowNameB y with
          | true =>
            have PY : Hid (∀ W, Calls Tryz.prog 71 #[.int .u8 (y.toNat : Int)] W fun e w' => e = .returned (.bool true) ∧ W = w') := Lib.hid fun W => by have := PR.out y W; rwa [hp] at this
            have NX : Hid ((s.take (k + 1)).all lowNameB = true) := Lib.hid (by rw [all_take HX.out HA.out, hp])
            clear hp
            go_wp2_with (go_at_call 71; refine (PY.out _).mono ?_; rintro e w' ⟨rfl, rfl⟩)
            go_round
            case rel => exact ⟨k + 1, by omega, by go_num, NX⟩
            case measure => first | (simp [intOf]; done) | (simp [intOf]; omega)
          | false =>
            have PY : Hid (∀ W, Calls Tryz.prog 71 #[.int .u8 (y.toNat : Int)] W fun e w' => e = .returned (.bool false) ∧ W = w') := Lib.hid fun W => by have := PR.out y W; rwa [hp] at this
            have NX : Hid (s.all lowNameB = false) := Lib.hid (all_false HX.out hp)
            clear hp
            go_wp2_with (go_at_call 71; refine (PY.out _).mono ?_; rintro e w' ⟨rfl, rfl⟩)
            go_ret
            exact ⟨(ret_bool NX.out).symm, rfl⟩
        · obtain rfl : k = t.size := by omega
          have NX : Hid (s.all lowNameB = true) := Lib.hid (by have := HA.out; rwa [List.take_of_length_le (by rw [HS.out]; exact Nat.le_refl _)] at this)
          go_wp2
          go_ret
          exact ⟨(ret_bool NX.out).symm, rfl⟩
    · have hlt' : (m : Int) < (t.size : Int) := by omega
      rw [decide_eq_false hlt, Bool.false_and]
      clear hlt
      go_enter Tryz.func59, Tryz.ntmps59
      go_wp2
      go_ret
      exact ⟨rfl, rfl⟩
set_option maxHeartbeats 1000000 in
theorem isPath_any (s : List UInt8) (hs : s.length ≤ 1000000000) (w : World) : Calls Tryz.prog 37 #[.string ⟨s.toArray⟩] w fun e w' => e = .returned (.bool (pathB s)) ∧ w = w' := by
  have SO := Lib.hid (fun W => some_seen 200 (by omega) s (by omega) W)
  cases h : someL seenB 200 s with
  | false =>
    have e : pathB s = false := by unfold pathB; rw [h]; rfl
    rw [h] at SO
    rw [e]
    clear h e
    generalize (⟨s.toArray⟩ : ByteArray) = t at *
    go_enter Tryz.func37, Tryz.ntmps37
    go_wp2_with (go_at_call 59; refine (SO.out _).mono ?_; rintro e w' ⟨rfl, rfl⟩)
    go_ret
    exact ⟨rfl, rfl⟩
  | true =>
    cases s with
    | nil => simp [someL] at h
    | cons a r =>
      rw [h] at SO
      have e : Hid (pathB (a :: r) = decide ((a.toNat : Int) = 47)) := Lib.hid (by
        unfold pathB; rw [h, Bool.true_and]
        rw [Bool.eq_iff_iff]; simp [u8_eq])
      have h0 : 0 < (⟨(a :: r).toArray⟩ : ByteArray).size := by rw [ba_sz]; simp
      have h1 : (⟨(a :: r).toArray⟩ : ByteArray)[0]'h0 = a := rfl
      clear h
      obtain ⟨z, hz⟩ : ∃ z : Int, (a.toNat : Int) = z := ⟨_, rfl⟩
      rw [hz] at e
      have H1 := Lib.hid h1; have HZ := Lib.hid hz
      rw [e.out]
      clear h1 hz e
      generalize (⟨(a :: r).toArray⟩ : ByteArray) = t at *
      have ht : (t[0]'h0).toNat = z.toNat := by rw [H1.out, ← HZ.out]; simp
      have hz0 : 0 ≤ z := by rw [← HZ.out]; omega
      have ht2 : ((t[0]'h0).toNat : Int) = z := by omega
      clear ht H1 HZ
      have hq : (0 : Int) < (t.size : Int) := by omega
      by_cases h47 : z = 47
      · have g : (z == 47) = true := by simp [h47]
        rw [decide_eq_true h47]
        clear h47
        go_enter Tryz.func37, Tryz.ntmps37
        go_wp2_with (go_at_call 59; refine (SO.out _).mono ?_; rintro e w' ⟨rfl, rfl⟩)
        go_ret
        exact ⟨rfl, rfl⟩
      · have g : (z == 47) = false := by simp [h47]
        rw [decide_eq_false h47]
        clear h47
        go_enter Tryz.func37, Tryz.ntmps37
        go_wp2_with (go_at_call 59; refine (SO.out _).mono ?_; rintro e w' ⟨rfl, rfl⟩)
        go_ret
        exact ⟨rfl, rfl⟩
end Go.Proofs.YtkaimfeiahogaaaGreatDoor
