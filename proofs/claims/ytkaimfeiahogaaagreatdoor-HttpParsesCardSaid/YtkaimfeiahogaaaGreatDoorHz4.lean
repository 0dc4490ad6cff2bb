/-
  Contract of exref22.field: a header line.
-/
import Derived.Test.YtkaimfeiahogaaaGreatDoorHp6
import Derived.Test.YtkaimfeiahogaaaGreatDoorHz1
import Derived.Deep.CutRange
import Derived.Deep.LoopGhost

/-
  Plain Lean: a header line read from the left: its name's bytes, a colon, its value without blanks at both ends.
-/
namespace Go.Proofs.YtkaimfeiahogaaaGreatDoor
set_option linter.all false
open Go.Lib

theorem trimR_cons (cs : List UInt8) (a : UInt8) (t : List UInt8) : trimRightS (a :: t) cs = if trimRightS t cs = [] ∧ cs.contains a = true then [] else a :: trimRightS t cs := by
  unfold trimRightS
  rw [List.reverse_cons, List.dropWhile_append]
  by_cases h : (List.dropWhile (fun x => cs.contains x) t.reverse) = []
  · rw [h]
    by_cases g : cs.contains a = true
    · simp [List.dropWhile_cons]
      split <;> rfl
    · simp [List.dropWhile_cons]
      split <;> rfl
  · have h2 : (List.dropWhile (fun x => cs.contains x) t.reverse).isEmpty = false := by
      cases hh : List.dropWhile (fun x => cs.contains x) t.reverse with
      | nil => exact absurd hh h
      | cons x q => rfl
    have h3 : ¬ ((List.dropWhile (fun x => cs.contains x) t.reverse).reverse = []) := fun e => h (List.reverse_eq_nil_iff.1 e)
    rw [h2, if_neg (by decide), if_neg (fun e => h3 e.1)]
    simp
theorem trim_comm (cs : List UInt8) : ∀ v : List UInt8, trimLeftS (trimRightS v cs) cs = trimRightS (trimLeftS v cs) cs
  | [] => rfl
  | a :: t => by
    have ih := trim_comm cs t
    by_cases g : cs.contains a = true
    · have hl : trimLeftS (a :: t) cs = trimLeftS t cs := by unfold trimLeftS; rw [List.dropWhile_cons, if_pos g]
      rw [hl, ← ih, trimR_cons]
      by_cases h : trimRightS t cs = []
      · rw [if_pos ⟨h, g⟩, h]
      · rw [if_neg (fun e => h e.1)]
        unfold trimLeftS
        rw [List.dropWhile_cons, if_pos g]
    · have hl : ∀ q, trimLeftS (a :: q) cs = a :: q := fun q => by unfold trimLeftS; rw [List.dropWhile_cons, if_neg g]
      rw [hl, trimR_cons, if_neg (fun e => g e.2), hl]
theorem trimH_lr (v : List UInt8) : trimH v = trimRightS (trimLeftS v [32, 9]) [32, 9] := trim_comm [32, 9] v
/-- How many bytes of a name stand ahead. -/
def nameN (s : List UInt8) : Nat := (s.takeWhile nameB).length
theorem nameN_le (s : List UInt8) : nameN s ≤ s.length := by
  unfold nameN
  have := congrArg List.length (List.takeWhile_append_dropWhile (p := nameB) (l := s))
  rw [List.length_append] at this
  omega
theorem name_take (s : List UInt8) : s.take (nameN s) = s.takeWhile nameB := by
  unfold nameN
  conv => lhs; rw [← List.takeWhile_append_dropWhile (p := nameB) (l := s)]
  have h : s.takeWhile nameB ++ s.dropWhile nameB = s := List.takeWhile_append_dropWhile
  rw [h]
  conv => lhs; arg 2; rw [← h]
  exact List.take_left
theorem name_in : ∀ {s : List UInt8} {j : Nat} {x : UInt8}, j < nameN s → s[j]? = some x → nameB x = true
  | [], j, x, h, hx => by simp at hx
  | b :: s, j, x, h, hx => by
    unfold nameN at h
    rw [List.takeWhile_cons] at h
    by_cases g : nameB b = true
    · rw [if_pos g, List.length_cons] at h
      cases j with
      | zero => simp at hx; rw [← hx]; exact g
      | succ j => exact name_in (s := s) (j := j) (by unfold nameN; omega) (by simpa using hx)
    · rw [if_neg g] at h; simp at h
theorem name_stop : ∀ {s : List UInt8} {x : UInt8}, s[nameN s]? = some x → nameB x = false
  | [], x, h => by simp at h
  | b :: s, x, h => by
    unfold nameN at h
    rw [List.takeWhile_cons] at h
    by_cases g : nameB b = true
    · rw [if_pos g, List.length_cons, List.getElem?_cons_succ] at h
      exact name_stop (s := s) h
    · rw [if_neg g] at h
      simp at h
      rw [← h]
      exact (Bool.not_eq_true _).mp g
theorem cutAt_app {c : UInt8} : ∀ {l a r : List UInt8}, cutAt c l = some (a, r) → l = a ++ c :: r
  | [], a, r, h => by cases h
  | b :: l, a, r, h => by
    rw [cutAt] at h
    by_cases g : b = c
    · rw [if_pos g] at h
      injection h with h
      injection h with h1 h2
      rw [← h1, ← h2, g]; rfl
    · rw [if_neg g] at h
      cases hc : cutAt c l with
      | none => rw [hc] at h; cases h
      | some x =>
        obtain ⟨a', r'⟩ := x
        rw [hc] at h
        injection h with h
        injection h with h1 h2
        rw [← h1, ← h2, List.cons_append, ← cutAt_app hc]
/-- A header line, read from the left. -/
def fieldG (s : List UInt8) : Option (List UInt8 × List UInt8) := if 1 ≤ nameN s ∧ nameN s ≤ 40 ∧ s[nameN s]? = some 58 then (if (trimH (s.drop (nameN s + 1))).all valB = true then some (small (s.take (nameN s)), trimH (s.drop (nameN s + 1))) else none) else none
theorem fieldG_eq (s : List UInt8) : fieldF s = fieldG s := by
  have hall : ∀ b ∈ s.take (nameN s), nameB b = true := fun b hb => by
    rw [name_take] at hb
    exact List.all_takeWhile |> fun h => List.all_eq_true.1 h b hb
  have hno : ∀ b ∈ s.take (nameN s), b ≠ 58 := fun b hb e => by
    have := hall b hb
    rw [e] at this
    exact absurd this (by decide)
  unfold fieldG fieldF
  by_cases h58 : s[nameN s]? = some 58
  · obtain ⟨h1, h2⟩ := List.getElem?_eq_some_iff.1 h58
    have es : s = s.take (nameN s) ++ 58 :: s.drop (nameN s + 1) := by
      conv => lhs; rw [← List.take_append_drop (nameN s) s, List.drop_eq_getElem_cons h1, h2]
    have hc : cutAt 58 s = some (s.take (nameN s), s.drop (nameN s + 1)) := by
      conv => lhs; rw [es]
      exact cutAt_hit _ hno
    rw [hc]
    have hlen : (s.take (nameN s)).length = nameN s := by rw [List.length_take]; have := nameN_le s; omega
    have hsome : someL nameB 40 (s.take (nameN s)) = decide (1 ≤ nameN s ∧ nameN s ≤ 40) := by
      unfold someL
      rw [List.all_eq_true.2 hall, Bool.and_true, hlen]
      by_cases h0 : nameN s = 0
      · rw [h0]; simp
      · have : s.take (nameN s) ≠ [] := fun e => h0 (by rw [← hlen, e]; rfl)
        rw [decide_eq_true this, Bool.true_and]
        congr 1
        apply propext
        omega
    simp only [hsome]
    by_cases h40 : 1 ≤ nameN s ∧ nameN s ≤ 40
    · rw [decide_eq_true h40, Bool.true_and, if_pos (show 1 ≤ nameN s ∧ nameN s ≤ 40 ∧ s[nameN s]? = some 58 from ⟨h40.1, h40.2, h58⟩)]
    · rw [decide_eq_false h40, Bool.false_and, if_neg (show ¬ (false = true) by decide), if_neg (show ¬ (1 ≤ nameN s ∧ nameN s ≤ 40 ∧ s[nameN s]? = some 58) from fun e => h40 ⟨e.1, e.2.1⟩)]
  · rw [if_neg (fun e => h58 e.2.2)]
    cases hc : cutAt 58 s with
    | none => rfl
    | some x =>
      obtain ⟨a, r⟩ := x
      have es := cutAt_app hc
      have hsome : someL nameB 40 a = false := by
        cases hq : someL nameB 40 a with
        | false => rfl
        | true =>
          exfalso
          unfold someL at hq
          simp only [Bool.and_eq_true, decide_eq_true_eq] at hq
          have hall2 := List.all_eq_true.1 hq.2.2
          apply h58
          have hn : nameN s = a.length := by
            unfold nameN
            rw [es]
            have : ∀ a : List UInt8, (∀ b ∈ a, nameB b = true) → (a ++ 58 :: r).takeWhile nameB = a := fun a => by
              induction a with
              | nil => intro _; rw [List.nil_append, List.takeWhile_cons, if_neg (by decide)]
              | cons b a ih => intro h; rw [List.cons_append, List.takeWhile_cons, if_pos (h b (List.mem_cons_self ..)), ih (fun x hx => h x (List.mem_cons_of_mem _ hx))]
            rw [this a hall2]
          rw [hn, es, List.getElem?_append_right (Nat.le_refl _), Nat.sub_self]
          rfl
      simp only [hsome, Bool.false_and, Bool.false_eq_true, if_false]
end Go.Proofs.YtkaimfeiahogaaaGreatDoor

/-
  Contract of exref22.field.
-/
namespace Go.Proofs.YtkaimfeiahogaaaGreatDoor
set_option linter.all false
open Go.RowKit Go.Shelf
attribute [local go_sem] cell_set_self lt_1 lt_2 lt_3 lt_4 lt_5 lt_6 drew_cell drew_frozen drew_size

/-- What exref22.field answers. -/
def rfieldV : Option (List UInt8 × List UInt8) → Value
  | none => .tuple #[.string ⟨#[]⟩, .string ⟨#[]⟩, .bool false]
  | some (a, v) => .tuple #[.string ⟨a.toArray⟩, .string ⟨v.toArray⟩, .bool true]
theorem nameB_eq (x : UInt8) : nameB x = (letB x || digB x || decide (x.toNat = 45)) := by
  have key : ∀ n : Fin 256, nameB (UInt8.ofNat n.val) = (letB (UInt8.ofNat n.val) || digB (UInt8.ofNat n.val) || decide ((UInt8.ofNat n.val).toNat = 45)) := by decide +kernel
  have := key ⟨x.toNat, UInt8.toNat_lt x⟩
  simpa using this
def blk (x : UInt8) : Bool := ([32, 9] : List UInt8).contains x
theorem blk_cases (x : UInt8) : (blk x = true ∧ (x.toNat = 32 ∨ x.toNat = 9)) ∨ (blk x = false ∧ x.toNat ≠ 32 ∧ x.toNat ≠ 9) := by
  have key : ∀ n : Fin 256, (blk (UInt8.ofNat n.val) = true ∧ ((UInt8.ofNat n.val).toNat = 32 ∨ (UInt8.ofNat n.val).toNat = 9)) ∨ (blk (UInt8.ofNat n.val) = false ∧ (UInt8.ofNat n.val).toNat ≠ 32 ∧ (UInt8.ofNat n.val).toNat ≠ 9) := by decide +kernel
  have := key ⟨x.toNat, UInt8.toNat_lt x⟩
  simpa using this
theorem valB_cases (x : UInt8) : (valB x = true ∧ (x.toNat = 9 ∨ (32 ≤ x.toNat ∧ x.toNat ≤ 126))) ∨ (valB x = false ∧ x.toNat ≠ 9 ∧ (x.toNat < 32 ∨ 126 < x.toNat)) := by
  have key : ∀ n : Fin 256, (valB (UInt8.ofNat n.val) = true ∧ ((UInt8.ofNat n.val).toNat = 9 ∨ (32 ≤ (UInt8.ofNat n.val).toNat ∧ (UInt8.ofNat n.val).toNat ≤ 126))) ∨ (valB (UInt8.ofNat n.val) = false ∧ (UInt8.ofNat n.val).toNat ≠ 9 ∧ ((UInt8.ofNat n.val).toNat < 32 ∨ 126 < (UInt8.ofNat n.val).toNat)) := by decide +kernel
  have := key ⟨x.toNat, UInt8.toNat_lt x⟩
  simpa using this
theorem str_at (l : List UInt8) (i : Nat) (h : i < (⟨l.toArray⟩ : ByteArray).size) (c : UInt8) (hc : l[i]? = some c) : ((⟨l.toArray⟩ : ByteArray)[i]'h).toNat = c.toNat := by
  obtain ⟨h1, h2⟩ := List.getElem?_eq_some_iff.1 hc
  rw [← h2]; rfl
theorem str_cut (l : List UInt8) (a : Nat) : (⟨l.toArray⟩ : ByteArray).extract a (⟨l.toArray⟩ : ByteArray).size = ⟨(l.drop a).toArray⟩ := by
  rw [ba_sz]
  apply ByteArray.ext
  simp [List.extract_eq_take_drop]
  exact List.take_of_length_le (by simp)
theorem str_front (l : List UInt8) (a : Nat) : (⟨l.toArray⟩ : ByteArray).extract 0 a = ⟨(l.take a).toArray⟩ := by
  apply ByteArray.ext
  simp [List.extract_eq_take_drop]
theorem str_ne {l : List UInt8} {x : UInt8} {q : List UInt8} (h : l = x :: q) : ((⟨l.toArray⟩ : ByteArray).toList == []) = false ∧ (⟨l.toArray⟩ : ByteArray).toList.isEmpty = false := by
  subst h
  rw [ByteArray.toList_mk]
  exact ⟨rfl, rfl⟩
set_option maxHeartbeats 16000000 in
set_option maxRecDepth 100000 in
/-- The part of exref22.field up to its value: nothing is a header line. -/
theorem rfield_none (s : List UInt8) (hs : s.length ≤ 100000) (h : ¬ (1 ≤ nameN s ∧ nameN s ≤ 40 ∧ s[nameN s]? = some 58)) (w : World) :
    Calls Tryz.prog 42 #[.string ⟨s.toArray⟩] w fun e w' => e = .returned (rfieldV (fieldF s)) ∧ Below w.heap.size w w' := by
  have hF : fieldF s = none := by rw [fieldG_eq]; unfold fieldG; rw [if_neg h]
  rw [hF]
  have AT := Lib.hid (str_at s)
  have hsz : (⟨s.toArray⟩ : ByteArray).size = s.length := ba_sz s
  have HSZ := Lib.hid hsz
  obtain ⟨K, hK⟩ : ∃ K, nameN s = K := ⟨_, rfl⟩
  have hle := nameN_le s
  rw [hK] at hle h
  have HK := Lib.hid hK
  have HH := Lib.hid h
  have hle' : (K : Int) ≤ ((⟨s.toArray⟩ : ByteArray).size : Int) := by rw [hsz]; omega
  have LT := Lib.hid (fun x W => rletter_any x W)
  have DT := Lib.hid (fun x W => rdigit_any x W)
  generalize (⟨s.toArray⟩ : ByteArray) = S at *
  clear hsz hK h
  go_enter Tryz.func42, Tryz.ntmps42
  go_wp2
  go_loop [5] (fun i => ∃ k : Nat, k ≤ K ∧ i = .int .i64 k) (fun i => K - (intOf i).toNat)
  case atStart => exact ⟨0, by omega, rfl⟩
  case round =>
    obtain ⟨k, hk, rfl⟩ := hrel
    by_cases hlt : k < K
    · have hlt' : (k : Int) < (S.size : Int) := by omega
      have hltN : k < S.size := by omega
      obtain ⟨x, hx⟩ : ∃ x, s[k]? = some x := ⟨_, List.getElem?_eq_getElem (by have := HSZ.out; omega)⟩
      have hn := name_in (by rw [HK.out]; exact hlt) hx
      have at1 := AT.out k hltN x hx
      have L1 := Lib.hid (fun W => LT.out x W)
      have D1 := Lib.hid (fun W => DT.out x W)
      rw [nameB_eq] at hn
      cases h1 : letB x with
      | true =>
        rw [h1] at L1
        generalize x.toNat = xx at *
        clear hn hx h1
        go_wp2_with (first | (go_at_call 62; (with_reducible refine (L1.out _).mono ?_); rintro e w3 ⟨rfl, rfl⟩))
        go_roundw
        case rel => exact ⟨k + 1, by omega, by go_num⟩
        case measure => first | (simp [intOf]; done) | (simp [intOf]; omega)
      | false =>
        rw [h1] at L1 hn
        cases h2 : digB x with
        | true =>
          rw [h2] at D1
          generalize x.toNat = xx at *
          clear hn hx h1 h2
          go_wp2_with (first | (go_at_call 62; (with_reducible refine (L1.out _).mono ?_); rintro e w3 ⟨rfl, rfl⟩) | (go_at_call 52; (with_reducible refine (D1.out _).mono ?_); rintro e w4 ⟨rfl, rfl⟩))
          go_roundw
          case rel => exact ⟨k + 1, by omega, by go_num⟩
          case measure => first | (simp [intOf]; done) | (simp [intOf]; omega)
        | false =>
          rw [h2] at D1 hn
          have h45 : x.toNat = 45 := by simpa using hn
          have hb45 : ((x.toNat : Int) == 45) = true := by rw [h45]; rfl
          clear h45
          generalize x.toNat = xx at *
          clear hn hx h1 h2
          go_wp2_with (first | (go_at_call 62; (with_reducible refine (L1.out _).mono ?_); rintro e w3 ⟨rfl, rfl⟩) | (go_at_call 52; (with_reducible refine (D1.out _).mono ?_); rintro e w4 ⟨rfl, rfl⟩))
          go_roundw
          case rel => exact ⟨k + 1, by omega, by go_num⟩
          case measure => first | (simp [intOf]; done) | (simp [intOf]; omega)
    · obtain rfl : k = K := by omega
      by_cases hend : k = s.length
      · have he1 : ¬ (k : Int) < (S.size : Int) := by have := HSZ.out; omega
        have he2 : (S.size : Int) ≤ (k : Int) := by have := HSZ.out; omega
        by_cases h1 : k < 1
        · have h1' : (k : Int) < 1 := by omega
          go_wp2
          exact bodyPost_ret (v := .tuple #[.string ⟨#[]⟩, .string ⟨#[]⟩, .bool false]) (by simp [results, Tryz.results42, go_sem, *]) rfl ⟨rfl, (by repeat (first | exact Below.refl _ _ | refine Below.setCell ?_ (by first | (simp; done) | (simp; omega) | omega) _ | refine Below.alloc ?_ (by first | (simp; done) | (simp; omega) | omega) _ | refine Below.drew ?_ | assumption | refine Below.trans ?_ (Below.mono (by assumption) (by first | (simp; done) | (simp; omega) | omega))))⟩
        · have h1' : ¬ (k : Int) < 1 := by omega
          by_cases h2 : 40 < k
          · have h2' : (40 : Int) < (k : Int) := by omega
            go_wp2
            exact bodyPost_ret (v := .tuple #[.string ⟨#[]⟩, .string ⟨#[]⟩, .bool false]) (by simp [results, Tryz.results42, go_sem, *]) rfl ⟨rfl, (by repeat (first | exact Below.refl _ _ | refine Below.setCell ?_ (by first | (simp; done) | (simp; omega) | omega) _ | refine Below.alloc ?_ (by first | (simp; done) | (simp; omega) | omega) _ | refine Below.drew ?_ | assumption | refine Below.trans ?_ (Below.mono (by assumption) (by first | (simp; done) | (simp; omega) | omega))))⟩
          · have h2' : ¬ (40 : Int) < (k : Int) := by omega
            go_wp2
            exact bodyPost_ret (v := .tuple #[.string ⟨#[]⟩, .string ⟨#[]⟩, .bool false]) (by simp [results, Tryz.results42, go_sem, *]) rfl ⟨rfl, (by repeat (first | exact Below.refl _ _ | refine Below.setCell ?_ (by first | (simp; done) | (simp; omega) | omega) _ | refine Below.alloc ?_ (by first | (simp; done) | (simp; omega) | omega) _ | refine Below.drew ?_ | assumption | refine Below.trans ?_ (Below.mono (by assumption) (by first | (simp; done) | (simp; omega) | omega))))⟩
      · have hltN : k < S.size := by have := HSZ.out; omega
        have he1 : (k : Int) < (S.size : Int) := by omega
        have he2 : ¬ (S.size : Int) ≤ (k : Int) := by omega
        obtain ⟨x, hx⟩ : ∃ x, s[k]? = some x := ⟨_, List.getElem?_eq_getElem (by have := HSZ.out; omega)⟩
        have hn : nameB x = false := name_stop (by rw [HK.out]; exact hx)
        have at1 := AT.out k hltN x hx
        have L1 := Lib.hid (fun W => LT.out x W)
        have D1 := Lib.hid (fun W => DT.out x W)
        rw [nameB_eq] at hn
        simp only [Bool.or_eq_false_iff, decide_eq_false_iff_not] at hn
        rw [hn.1.1] at L1
        rw [hn.1.2] at D1
        have hb45 : ((x.toNat : Int) == 45) = false := by rw [beq_eq_false_iff_ne]; have := hn.2; omega
        by_cases h1 : k < 1
        · have h1' : (k : Int) < 1 := by omega
          generalize x.toNat = xx at *
          clear hn hx
          go_wp2_with (first | (go_at_call 62; (with_reducible refine (L1.out _).mono ?_); rintro e w3 ⟨rfl, rfl⟩) | (go_at_call 52; (with_reducible refine (D1.out _).mono ?_); rintro e w4 ⟨rfl, rfl⟩))
          exact bodyPost_ret (v := .tuple #[.string ⟨#[]⟩, .string ⟨#[]⟩, .bool false]) (by simp [results, Tryz.results42, go_sem, *]) rfl ⟨rfl, (by repeat (first | exact Below.refl _ _ | refine Below.setCell ?_ (by first | (simp; done) | (simp; omega) | omega) _ | refine Below.alloc ?_ (by first | (simp; done) | (simp; omega) | omega) _ | refine Below.drew ?_ | assumption | refine Below.trans ?_ (Below.mono (by assumption) (by first | (simp; done) | (simp; omega) | omega))))⟩
        · have h1' : ¬ (k : Int) < 1 := by omega
          by_cases h2 : 40 < k
          · have h2' : (40 : Int) < (k : Int) := by omega
            generalize x.toNat = xx at *
            clear hn hx
            go_wp2_with (first | (go_at_call 62; (with_reducible refine (L1.out _).mono ?_); rintro e w3 ⟨rfl, rfl⟩) | (go_at_call 52; (with_reducible refine (D1.out _).mono ?_); rintro e w4 ⟨rfl, rfl⟩))
            exact bodyPost_ret (v := .tuple #[.string ⟨#[]⟩, .string ⟨#[]⟩, .bool false]) (by simp [results, Tryz.results42, go_sem, *]) rfl ⟨rfl, (by repeat (first | exact Below.refl _ _ | refine Below.setCell ?_ (by first | (simp; done) | (simp; omega) | omega) _ | refine Below.alloc ?_ (by first | (simp; done) | (simp; omega) | omega) _ | refine Below.drew ?_ | assumption | refine Below.trans ?_ (Below.mono (by assumption) (by first | (simp; done) | (simp; omega) | omega))))⟩
          · have h2' : ¬ (40 : Int) < (k : Int) := by omega
            have h58 : ((x.toNat : Int) != 58) = true := by
              have : x.toNat ≠ 58 := fun e => HH.out ⟨by omega, by omega, by rw [hx]; congr 1; exact UInt8.toNat_inj.1 e⟩
              simp; omega
            generalize x.toNat = xx at *
            clear hn hx
            go_wp2_with (first | (go_at_call 62; (with_reducible refine (L1.out _).mono ?_); rintro e w3 ⟨rfl, rfl⟩) | (go_at_call 52; (with_reducible refine (D1.out _).mono ?_); rintro e w4 ⟨rfl, rfl⟩))
            exact bodyPost_ret (v := .tuple #[.string ⟨#[]⟩, .string ⟨#[]⟩, .bool false]) (by simp [results, Tryz.results42, go_sem, *]) rfl ⟨rfl, (by repeat (first | exact Below.refl _ _ | refine Below.setCell ?_ (by first | (simp; done) | (simp; omega) | omega) _ | refine Below.alloc ?_ (by first | (simp; done) | (simp; omega) | omega) _ | refine Below.drew ?_ | assumption | refine Below.trans ?_ (Below.mono (by assumption) (by first | (simp; done) | (simp; omega) | omega))))⟩
end Go.Proofs.YtkaimfeiahogaaaGreatDoor

/-
  Contract of exref22.field: a header line.
-/
namespace Go.Proofs.YtkaimfeiahogaaaGreatDoor
set_option linter.all false
open Go.RowKit Go.Shelf
attribute [local go_sem] cell_set_self lt_1 lt_2 lt_3 lt_4 lt_5 lt_6 drew_cell drew_frozen drew_size

def strLen : Value → Nat
  | .string b => b.size
  | _ => 0
theorem trimL_at {v : List UInt8} {j : Nat} (hj : j ≤ v.length) (h1 : ∀ i x, i < j → v[i]? = some x → blk x = true) (h2 : ∀ y, v[j]? = some y → blk y = false) : Lib.trimLeftS v [32, 9] = v.drop j := Lib.trimLeftS_drop v [32, 9] j hj (fun i b h e => h1 i b h e) h2
theorem trimR_at {v : List UInt8} {j : Nat} (hj : j ≤ v.length) (h1 : ∀ i x, j ≤ i → v[i]? = some x → blk x = true) (h2 : ∀ y, 0 < j → v[j - 1]? = some y → blk y = false) : Lib.trimRightS v [32, 9] = v.take j := Lib.trimRightS_take v [32, 9] j hj (fun i b h e => h1 i b h e) h2
set_option maxHeartbeats 16000000 in
set_option maxRecDepth 100000 in
theorem rfield_some (s : List UInt8) (hs : s.length ≤ 100000) (h : 1 ≤ nameN s ∧ nameN s ≤ 40 ∧ s[nameN s]? = some 58) (w : World) :
    Calls Tryz.prog 42 #[.string ⟨s.toArray⟩] w fun e w' => e = .returned (rfieldV (fieldF s)) ∧ Below w.heap.size w w' := by
  have AT := Lib.hid (str_at s)
  have hsz : (⟨s.toArray⟩ : ByteArray).size = s.length := ba_sz s
  have HSZ := Lib.hid hsz
  obtain ⟨K, hK⟩ : ∃ K, nameN s = K := ⟨_, rfl⟩
  have hle := nameN_le s
  have SM := Lib.hid (fun W => small_any (s.take (nameN s)) (by rw [List.length_take]; omega) W)
  have hcutv := str_cut s (nameN s + 1)
  have hcutn := str_front s (nameN s)
  rw [hK] at hle h SM hcutv hcutn
  have HK := Lib.hid hK
  have HH := Lib.hid h
  have hle' : (K : Int) ≤ ((⟨s.toArray⟩ : ByteArray).size : Int) := by rw [hsz]; omega
  have LT := Lib.hid (fun x W => rletter_any x W)
  have DT := Lib.hid (fun x W => rdigit_any x W)
  obtain ⟨v, hv⟩ : ∃ v, s.drop (K + 1) = v := ⟨_, rfl⟩
  have HV := Lib.hid hv
  rw [hv] at hcutv
  have hvl : v.length ≤ 100000 := by rw [← hv, List.length_drop]; omega
  generalize (⟨s.toArray⟩ : ByteArray) = S at *
  obtain ⟨SV, hSV⟩ : ∃ SV : ByteArray, (⟨v.toArray⟩ : ByteArray) = SV := ⟨_, rfl⟩
  rw [hSV] at hcutv
  have HSV := Lib.hid hSV
  obtain ⟨SN, hSN⟩ : ∃ SN : ByteArray, (⟨(s.take K).toArray⟩ : ByteArray) = SN := ⟨_, rfl⟩
  rw [hSN] at hcutn SM
  clear hsz hK h hv hSV hSN
  go_enter Tryz.func42, Tryz.ntmps42
  go_wp2
  go_loop [5] (fun i => ∃ k : Nat, k ≤ K ∧ i = .int .i64 k) (fun i => K - (intOf i).toNat)
  case atStart => exact ⟨0, by omega, rfl⟩
  case round =>
    obtain ⟨k, hk, rfl⟩ := hrel
    by_cases hlt : k < K
    · have hlt' : (k : Int) < (S.size : Int) := by omega
      have hltN : k < S.size := by omega
      obtain ⟨x, hx⟩ : ∃ x, s[k]? = some x := ⟨_, List.getElem?_eq_getElem (by have := HSZ.out; omega)⟩
      have hn := name_in (by rw [HK.out]; exact hlt) hx
      have at1 := AT.out k hltN x hx
      have L1 := Lib.hid (fun W => LT.out x W)
      have D1 := Lib.hid (fun W => DT.out x W)
      rw [nameB_eq] at hn
      cases h1 : letB x with
      | true =>
        rw [h1] at L1
        generalize x.toNat = xx at *
        clear hn hx h1
        go_wp2_with (first | (go_at_call 62; (with_reducible refine (L1.out _).mono ?_); rintro e w3 ⟨rfl, rfl⟩))
        go_roundw
        case rel => exact ⟨k + 1, by omega, by go_num⟩
        case measure => first | (simp [intOf]; done) | (simp [intOf]; omega)
      | false =>
        rw [h1] at L1 hn
        cases h2 : digB x with
        | true =>
          rw [h2] at D1
          generalize x.toNat = xx at *
          clear hn hx h1 h2
          go_wp2_with (first | (go_at_call 62; (with_reducible refine (L1.out _).mono ?_); rintro e w3 ⟨rfl, rfl⟩) | (go_at_call 52; (with_reducible refine (D1.out _).mono ?_); rintro e w4 ⟨rfl, rfl⟩))
          go_roundw
          case rel => exact ⟨k + 1, by omega, by go_num⟩
          case measure => first | (simp [intOf]; done) | (simp [intOf]; omega)
        | false =>
          rw [h2] at D1 hn
          have h45 : x.toNat = 45 := by simpa using hn
          have hb45 : ((x.toNat : Int) == 45) = true := by rw [h45]; rfl
          clear h45
          generalize x.toNat = xx at *
          clear hn hx h1 h2
          go_wp2_with (first | (go_at_call 62; (with_reducible refine (L1.out _).mono ?_); rintro e w3 ⟨rfl, rfl⟩) | (go_at_call 52; (with_reducible refine (D1.out _).mono ?_); rintro e w4 ⟨rfl, rfl⟩))
          go_roundw
          case rel => exact ⟨k + 1, by omega, by go_num⟩
          case measure => first | (simp [intOf]; done) | (simp [intOf]; omega)
    · obtain rfl : k = K := by omega
      have hK1 := HH.out.1
      have hK2 := HH.out.2.1
      have hltN : k < S.size := by
        have h3 := (List.getElem?_eq_some_iff.1 HH.out.2.2).1
        have := HSZ.out; omega
      have he1 : (k : Int) < (S.size : Int) := by omega
      have he2 : ¬ (S.size : Int) ≤ (k : Int) := by omega
      have he3 : (k : Int) + 1 ≤ (S.size : Int) := by omega
      have hx : s[k]? = some 58 := HH.out.2.2
      have at1 := AT.out k hltN 58 hx
      have L1 := Lib.hid (fun W => LT.out 58 W)
      have D1 := Lib.hid (fun W => DT.out 58 W)
      rw [show letB 58 = false by decide] at L1
      rw [show digB 58 = false by decide] at D1
      have h1' : ¬ (k : Int) < 1 := by omega
      have h2' : ¬ (40 : Int) < (k : Int) := by omega
      obtain ⟨xx, hxx⟩ : ∃ xx, (58 : UInt8).toNat = xx := ⟨_, rfl⟩
      have hxx2 : xx = 58 := by rw [← hxx]; rfl
      have hb58 : ((xx : Int) != 58) = false := by rw [hxx2]; rfl
      have hb45 : ((xx : Int) == 45) = false := by rw [hxx2]; rfl
      rw [hxx] at at1 L1 D1
      clear hx hxx hxx2
      go_upto_block 2 with (first | (go_at_call 62; (with_reducible refine (L1.out _).mono ?_); rintro e w3 ⟨rfl, rfl⟩) | (go_at_call 52; (with_reducible refine (D1.out _).mono ?_); rintro e w4 ⟨rfl, rfl⟩))
      go_cut [6] from 54 to 67 (fun t6 wx => ∃ SB : ByteArray, t6 = .string SB ∧ SB = ⟨(Lib.trimLeftS v [32, 9]).toArray⟩ ∧ w = wx)
      case first =>
        go_wp2_with (fail)
        go_loopg [6] v.length (fun g t6 wx => w = wx ∧ ∃ (j : Nat) (SB : ByteArray), j ≤ v.length ∧ g = v.length - j ∧ t6 = .string SB ∧ Hid (SB = ⟨(v.drop j).toArray⟩ ∧ ∀ i x, i < j → v[i]? = some x → blk x = true))
        case atStart => exact ⟨rfl, 0, SV, by omega, by omega, rfl, Lib.hid ⟨HSV.out.symm, fun i x h => by omega⟩⟩
        case round =>
          obtain ⟨rfl, j, SB, hj, rfl, rfl, HB⟩ := hrel
          cases hd : v.drop j with
          | nil =>
            have n1 : (SB.toList == []) = true := by rw [HB.out.1, hd, ByteArray.toList_mk]; rfl
            have n2 : SB.toList.isEmpty = true := by rw [HB.out.1, hd, ByteArray.toList_mk]; rfl
            have HE : Hid (SB = ⟨(Lib.trimLeftS v [32, 9]).toArray⟩) := Lib.hid (by
              rw [trimL_at hj HB.out.2 (fun y e => by have := (List.getElem?_eq_some_iff.1 e).1; have h2 := congrArg List.length hd; rw [List.length_drop] at h2; simp at h2; omega)]; exact HB.out.1)
            clear hd
            go_wp2
            go_meet
            exact ⟨_, rfl, HE.out, rfl⟩
          | cons y r =>
            obtain ⟨n1, n2⟩ := str_ne hd
            have hsz2 : (⟨(v.drop j).toArray⟩ : ByteArray).size = r.length + 1 := by rw [ba_sz, hd]; rfl
            have hy : v[j]? = some y := by have := List.head?_drop (l := v) (i := j); rw [hd] at this; exact this.symm
            have a0 := str_at (v.drop j) 0 (by rw [hsz2]; omega) y (by rw [hd]; rfl)
            have c1 := str_cut (v.drop j) 1
            rw [List.drop_drop] at c1
            obtain ⟨hSBe, hblk⟩ := HB.out
            subst hSBe
            have HBK := Lib.hid hblk
            clear hblk HB
            generalize hSBq : (⟨(v.drop j).toArray⟩ : ByteArray) = SB at *
            have HSBq := Lib.hid hSBq
            clear hSBq
            have hp : 0 < SB.size := by rw [hsz2]; omega
            have a1 : (SB[0]'hp).toNat = y.toNat := a0
            clear a0
            have hp' : (0 : Int) < (SB.size : Int) := by omega
            have hp1 : (1 : Int) ≤ (SB.size : Int) := by omega
            have HY := Lib.hid hy
            have hjl : j + 1 ≤ v.length := (List.getElem?_eq_some_iff.1 hy).1
            rcases blk_cases y with ⟨hb, hc⟩ | ⟨hb, hc1, hc2⟩
            · have HBY := Lib.hid hb
              have HST : Hid (∀ i x, i < j + 1 → v[i]? = some x → blk x = true) := Lib.hid (fun i x hi e => by
                by_cases q : i = j
                · subst q; rw [HY.out] at e; injection e with e; rw [← e]; exact HBY.out
                · exact HBK.out i x (by omega) e)
              have hlen : Hid ((⟨(v.drop (j + 1)).toArray⟩ : ByteArray).size < SB.size) := Lib.hid (by rw [ba_sz, hsz2]; have h2 := congrArg List.length hd; rw [List.length_drop] at h2 ⊢; simp at h2; omega)
              generalize hSB2 : (⟨(v.drop (j + 1)).toArray⟩ : ByteArray) = SB2 at *
              have HSB2 := Lib.hid hSB2
              clear hSB2 hd hy hsz2 hb
              rcases hc with hc | hc
              · rw [hc] at a1
                go_wp2
                go_roundg (v.length - (j + 1))
                case measure => omega
                case rel => exact ⟨rfl, j + 1, SB2, hjl, rfl, rfl, Lib.hid ⟨HSB2.out.symm, HST.out⟩⟩
              · rw [hc] at a1
                go_wp2
                go_roundg (v.length - (j + 1))
                case measure => omega
                case rel => exact ⟨rfl, j + 1, SB2, hjl, rfl, rfl, Lib.hid ⟨HSB2.out.symm, HST.out⟩⟩
            · have HE : Hid (SB = ⟨(Lib.trimLeftS v [32, 9]).toArray⟩) := Lib.hid (by
                rw [trimL_at hj HBK.out (fun z e => by rw [HY.out] at e; injection e with e; rw [← e]; exact hb)]; exact HSBq.out.symm)
              have q1 : ((y.toNat : Int) == 32) = false := by rw [beq_eq_false_iff_ne]; omega
              have q2 : ((y.toNat : Int) == 9) = false := by rw [beq_eq_false_iff_ne]; omega
              generalize y.toNat = yy at *
              clear hd hy hsz2 hb c1
              go_wp2
              go_meet
              exact ⟨_, rfl, HE.out, rfl⟩
      obtain ⟨SU, rfl, hSU, rfl⟩ := hcut
      obtain ⟨u, hu⟩ : ∃ u, Lib.trimLeftS v [32, 9] = u := ⟨_, rfl⟩
      have HTR : Hid (trimH v = Lib.trimRightS u [32, 9]) := Lib.hid (by rw [← hu]; exact trimH_lr v)
      have hul : u.length ≤ 100000 := by rw [← hu]; exact Nat.le_trans (List.dropWhile_sublist _).length_le hvl
      rw [hu] at hSU
      have HSU := Lib.hid hSU
      clear hSU hu
      go_upto_block 4 with (fail)
      go_cut [6] from 68 to 90 (fun t6 wx => ∃ SB : ByteArray, t6 = .string SB ∧ SB = ⟨(trimH v).toArray⟩ ∧ w = wx)
      case first =>
        go_wp2_with (fail)
        go_loopg [6] u.length (fun g t6 wx => w = wx ∧ ∃ (j : Nat) (SB : ByteArray), j ≤ u.length ∧ g = j ∧ t6 = .string SB ∧ Hid (SB = ⟨(u.take j).toArray⟩ ∧ ∀ i x, j ≤ i → u[i]? = some x → blk x = true))
        case atStart => exact ⟨rfl, u.length, SU, by omega, rfl, rfl, Lib.hid ⟨by rw [List.take_of_length_le (Nat.le_refl _)]; exact HSU.out, fun i x h e => by have := (List.getElem?_eq_some_iff.1 e).1; omega⟩⟩
        case round =>
          obtain ⟨rfl, j, SB, hj, hg, rfl, HB⟩ := hrel
          cases j with
          | zero =>
            have n1 : (SB.toList == []) = true := by rw [HB.out.1, ByteArray.toList_mk]; rfl
            have n2 : SB.toList.isEmpty = true := by rw [HB.out.1, ByteArray.toList_mk]; rfl
            have HE : Hid (SB = ⟨(trimH v).toArray⟩) := Lib.hid (by
              rw [HTR.out, trimR_at (Nat.zero_le _) HB.out.2 (fun y h e => by omega)]; exact HB.out.1)
            go_wp2
            go_meet
            exact ⟨_, rfl, HE.out, rfl⟩
          | succ i =>
            obtain ⟨y, hy⟩ : ∃ y, u[i]? = some y := ⟨_, List.getElem?_eq_getElem (by omega)⟩
            have hty : (u.take (i + 1))[i]? = some y := by rw [List.getElem?_take_of_lt (by omega)]; exact hy
            have hsz2 : (⟨(u.take (i + 1)).toArray⟩ : ByteArray).size = i + 1 := by rw [ba_sz, List.length_take]; omega
            have n0 : ∃ x q, u.take (i + 1) = x :: q := by
              cases hc : u.take (i + 1) with
              | nil => rw [hc] at hty; simp at hty
              | cons x q => exact ⟨x, q, rfl⟩
            obtain ⟨x0, q0, hxq⟩ := n0
            obtain ⟨n1, n2⟩ := str_ne hxq
            have a0 := str_at (u.take (i + 1)) i (by rw [hsz2]; omega) y hty
            have c1 := str_front (u.take (i + 1)) i
            rw [List.take_take, Nat.min_eq_left (by omega)] at c1
            obtain ⟨hSBe, hblk⟩ := HB.out
            subst hSBe
            have HBK := Lib.hid hblk
            clear hblk HB hxq hty
            generalize hSBq : (⟨(u.take (i + 1)).toArray⟩ : ByteArray) = SB at *
            have HSBq := Lib.hid hSBq
            clear hSBq
            have hp : i < SB.size := by omega
            have a1 : (SB[i]'hp).toNat = y.toNat := a0
            clear a0
            have hszI : (SB.size : Int) - 1 = (i : Int) := by omega
            have hiI : (i : Int) < (SB.size : Int) := by omega
            have hiI2 : (i : Int) ≤ (SB.size : Int) := by omega
            have HY := Lib.hid hy
            rcases blk_cases y with ⟨hb, hc⟩ | ⟨hb, hc1, hc2⟩
            · have HBY := Lib.hid hb
              have HST : Hid (∀ k x, i ≤ k → u[k]? = some x → blk x = true) := Lib.hid (fun k x hk e => by
                by_cases q : k = i
                · subst q; rw [HY.out] at e; injection e with e; rw [← e]; exact HBY.out
                · exact HBK.out k x (by omega) e)
              generalize hSB2 : (⟨(u.take i).toArray⟩ : ByteArray) = SB2 at *
              have HSB2 := Lib.hid hSB2
              clear hSB2 hy hsz2 hb
              rcases hc with hc | hc
              · rw [hc] at a1
                go_wp2
                go_roundg i
                case measure => omega
                case rel => exact ⟨rfl, i, SB2, by omega, rfl, rfl, Lib.hid ⟨HSB2.out.symm, HST.out⟩⟩
              · rw [hc] at a1
                go_wp2
                go_roundg i
                case measure => omega
                case rel => exact ⟨rfl, i, SB2, by omega, rfl, rfl, Lib.hid ⟨HSB2.out.symm, HST.out⟩⟩
            · have HE : Hid (SB = ⟨(trimH v).toArray⟩) := Lib.hid (by
                rw [HTR.out, trimR_at hj HBK.out (fun z h e => by rw [Nat.add_sub_cancel, HY.out] at e; injection e with e; rw [← e]; exact hb)]; exact HSBq.out.symm)
              have q1 : ((y.toNat : Int) == 32) = false := by rw [beq_eq_false_iff_ne]; omega
              have q2 : ((y.toNat : Int) == 9) = false := by rw [beq_eq_false_iff_ne]; omega
              generalize y.toNat = yy at *
              clear hy hsz2 hb c1
              go_wp2
              go_meet
              exact ⟨_, rfl, HE.out, rfl⟩
      obtain ⟨SW, rfl, hSW, rfl⟩ := hcut
      have HFG : Hid (fieldF s = if (trimH v).all valB = true then some (small (s.take k), trimH v) else none) := Lib.hid (by
        have h3 := HH.out
        rw [fieldG_eq]; unfold fieldG
        rw [HK.out, if_pos h3, HV.out])
      have hvl2 : (trimH v).length ≤ 100000 := by
        have h1 : ∀ q : List UInt8, (Lib.trimLeftS q [32, 9]).length ≤ q.length := fun q => (List.dropWhile_sublist _).length_le
        have h2 : ∀ q : List UInt8, (Lib.trimRightS q [32, 9]).length ≤ q.length := fun q => by
          unfold Lib.trimRightS
          rw [List.length_reverse]
          have := (List.dropWhile_sublist (fun x => ([32, 9] : List UInt8).contains x) (l := q.reverse)).length_le
          rwa [List.length_reverse] at this
        exact Nat.le_trans (h1 _) (Nat.le_trans (h2 v) hvl)
      have AW := Lib.hid (str_at (trimH v))
      have hwz : (⟨(trimH v).toArray⟩ : ByteArray).size = (trimH v).length := ba_sz _
      rw [← hSW] at AW hwz
      have HWZ := Lib.hid hwz
      have HSW := Lib.hid hSW
      clear hSW hwz
      obtain ⟨v2, hv2⟩ : ∃ v2, trimH v = v2 := ⟨_, rfl⟩
      rw [hv2] at HFG hvl2 AW HWZ HSW
      have hsw : SW.size ≤ 100000 := by rw [HWZ.out]; exact hvl2
      clear hv2 HTR HSU
      go_wp2
      go_loop [7] (fun i => ∃ j : Nat, j ≤ SW.size ∧ i = .int .i64 j ∧ Hid ((v2.take j).all valB = true)) (fun i => SW.size - (intOf i).toNat)
      case atStart => exact ⟨0, by omega, rfl, Lib.hid rfl⟩
      case round =>
        obtain ⟨j, hj, rfl, HA⟩ := hrel
        by_cases hlt : j < SW.size
        · have hlt' : (j : Int) < (SW.size : Int) := by omega
          obtain ⟨x, hx⟩ : ∃ x, v2[j]? = some x := ⟨_, List.getElem?_eq_getElem (by have := HWZ.out; omega)⟩
          have at2 := AW.out j hlt x hx
          have HX := Lib.hid hx
          have hxx := UInt8.toNat_lt x
          clear hx
          rcases valB_cases x with ⟨hb, hc⟩ | ⟨hb, hc1, hc2⟩
          · have HBV := Lib.hid hb
            generalize x.toNat = xx at *
            clear hb
            rcases hc with hc | ⟨hc, hd⟩
            · subst hc
              go_wp2
              go_roundw
              case rel => exact ⟨j + 1, by omega, by go_num, Lib.hid ((all_take HX.out HA.out).trans HBV.out)⟩
              case measure => first | (simp [intOf]; done) | (simp [intOf]; omega)
            · have p1 : ¬ (xx : Int) < 32 := by omega
              have p2 : ¬ (126 : Int) < (xx : Int) := by omega
              go_wp2
              go_roundw
              case rel => exact ⟨j + 1, by omega, by go_num, Lib.hid ((all_take HX.out HA.out).trans HBV.out)⟩
              case measure => first | (simp [intOf]; done) | (simp [intOf]; omega)
          · have HN : Hid (fieldF s = none) := Lib.hid (by
              rw [HFG.out, if_neg (fun e => by have := List.all_eq_true.1 e x (List.mem_of_getElem? HX.out); rw [hb] at this; cases this)])
            have q9 : ((x.toNat : Int) != 9) = true := by simp; omega
            generalize x.toNat = xx at *
            clear hb
            by_cases p0 : xx < 32
            · have p1 : (xx : Int) < 32 := by omega
              clear hc2 p0
              go_wp2
              exact bodyPost_ret (v := .tuple #[.string ⟨#[]⟩, .string ⟨#[]⟩, .bool false]) (by simp [results, Tryz.results42, go_sem, *]) rfl ⟨by rw [HN.out]; rfl, (by repeat (first | exact Below.refl _ _ | refine Below.setCell ?_ (by first | (simp; done) | (simp; omega) | omega) _ | refine Below.alloc ?_ (by first | (simp; done) | (simp; omega) | omega) _ | refine Below.drew ?_ | assumption | refine Below.trans ?_ (Below.mono (by assumption) (by first | (simp; done) | (simp; omega) | omega))))⟩
            · have p1 : ¬ (xx : Int) < 32 := by omega
              have p2 : (126 : Int) < (xx : Int) := by omega
              clear hc2 p0
              go_wp2
              exact bodyPost_ret (v := .tuple #[.string ⟨#[]⟩, .string ⟨#[]⟩, .bool false]) (by simp [results, Tryz.results42, go_sem, *]) rfl ⟨by rw [HN.out]; rfl, (by repeat (first | exact Below.refl _ _ | refine Below.setCell ?_ (by first | (simp; done) | (simp; omega) | omega) _ | refine Below.alloc ?_ (by first | (simp; done) | (simp; omega) | omega) _ | refine Below.drew ?_ | assumption | refine Below.trans ?_ (Below.mono (by assumption) (by first | (simp; done) | (simp; omega) | omega))))⟩
        · obtain rfl : j = SW.size := by omega
          have hlt' : ¬ (SW.size : Int) < (SW.size : Int) := by omega
          have HN : Hid (fieldF s = some (small (s.take k), v2)) := Lib.hid (by
            have := HA.out
            rw [List.take_of_length_le (by have := HWZ.out; omega)] at this
            rw [HFG.out, if_pos this])
          have hkS : (k : Int) ≤ (S.size : Int) := by omega
          go_wp2_with (first | (go_at_call 44; (with_reducible refine (SM.out _).mono ?_); rintro e w5 ⟨rfl, hb5⟩))
          exact bodyPost_ret (v := .tuple #[.string ⟨(small (s.take k)).toArray⟩, .string SW, .bool true]) (by simp [results, Tryz.results42, go_sem, *]) rfl ⟨by rw [HN.out, HSW.out]; rfl, (by repeat (first | exact Below.refl _ _ | refine Below.setCell ?_ (by first | (simp; done) | (simp; omega) | omega) _ | refine Below.alloc ?_ (by first | (simp; done) | (simp; omega) | omega) _ | refine Below.drew ?_ | assumption | refine Below.trans ?_ (Below.mono (by assumption) (by first | (simp; done) | (simp; omega) | omega))))⟩
/-- exref22.field answers what 'fieldF' says. -/
theorem rfield_any (s : List UInt8) (hs : s.length ≤ 100000) (w : World) :
    Calls Tryz.prog 42 #[.string ⟨s.toArray⟩] w fun e w' => e = .returned (rfieldV (fieldF s)) ∧ Below w.heap.size w w' := by
  by_cases h : 1 ≤ nameN s ∧ nameN s ≤ 40 ∧ s[nameN s]? = some 58
  · exact rfield_some s hs h w
  · exact rfield_none s hs h w
end Go.Proofs.YtkaimfeiahogaaaGreatDoor
