/-
  Contract of sql.next.
-/
import Derived.Test.YtijlifdbjhieaaaGreatDoorSc4
import Derived.Lib.IndexLaws
namespace Go.Proofs.YtijlifdbjhieaaaGreatDoor
set_option linter.all false
open Go.RowKit Go.Shelf
attribute [local go_sem] cell_set_self lt_1 lt_2 lt_3 lt_4 lt_5 lt_6

theorem ib_any (s : List UInt8) (c : UInt8) (w : World) : Calls Tryz.prog 55 #[.string ⟨s.toArray⟩, .int .u8 (c.toNat : Int)] w fun e w' => e = .returned (.int .i64 (Lib.indexByte s c)) ∧ w = w' := by
  refine (Tryz.strings_IndexByte ⟨s.toArray⟩ (c.toNat : Int) w).mono ?_
  rintro e w' ⟨rfl, rfl⟩
  refine ⟨?_, rfl⟩
  have : ((c.toNat : Int).toNat.toUInt8) = c := by simp
  rw [this]
theorem ib_yes {s : List UInt8} {c : UInt8} (h : c ∈ s) : 0 ≤ Lib.indexByte s c := by
  obtain ⟨k, hk, e⟩ := List.mem_iff_getElem.1 h
  have h1 := Lib.indexByte_ge s c
  rcases Int.lt_or_le (Lib.indexByte s c) 0 with h2 | h2
  · have : Lib.indexByte s c = -1 := by omega
    exact absurd (by rw [List.getElem?_eq_getElem hk, e]) (Lib.indexByte_none this k)
  · exact h2
theorem ib_no {s : List UInt8} {c : UInt8} (h : c ∉ s) : Lib.indexByte s c < 0 := by
  rcases Int.lt_or_le (Lib.indexByte s c) 0 with h2 | h2
  · exact h2
  · obtain ⟨o, ho⟩ := Int.eq_ofNat_of_zero_le h2
    exact absurd (List.mem_of_getElem? (Lib.indexByte_some ho).1) h
theorem mem_rel (c : UInt8) : c ∈ ([33, 60, 62] : List UInt8) ↔ relB c = true := by
  unfold relB
  simp only [List.mem_cons, List.not_mem_nil, or_false, Bool.or_eq_true, decide_eq_true_eq, ← UInt8.toNat_inj]
  show (c.toNat = 33 ∨ c.toNat = 60 ∨ c.toNat = 62) ↔ _
  omega
theorem mem_mark (c : UInt8) : c ∈ ([44, 40, 41, 42, 61, 60, 62] : List UInt8) ↔ markB c = true := by
  unfold markB
  simp only [List.mem_cons, List.not_mem_nil, or_false, Bool.or_eq_true, decide_eq_true_eq, ← UInt8.toNat_inj]
  show (c.toNat = 44 ∨ c.toNat = 40 ∨ c.toNat = 41 ∨ c.toNat = 42 ∨ c.toNat = 61 ∨ c.toNat = 60 ∨ c.toNat = 62) ↔ _
  omega
theorem mem_blank (c : UInt8) : c ∈ ([32, 9, 13, 10] : List UInt8) ↔ blankB c = true := by
  unfold blankB
  simp only [List.mem_cons, List.not_mem_nil, or_false, Bool.or_eq_true, decide_eq_true_eq, ← UInt8.toNat_inj]
  show (c.toNat = 32 ∨ c.toNat = 9 ∨ c.toNat = 13 ∨ c.toNat = 10) ↔ _
  omega
theorem span_le (l : List UInt8) : spanW l ≤ l.length := by
  induction l with
  | nil => simp [spanW]
  | cons c r ih => unfold spanW; split <;> simp <;> omega
theorem span_at {l : List UInt8} {k : Nat} {x : UInt8} (h : l[k]? = some x) : spanW (l.drop k) = if withB x = true then spanW (l.drop (k + 1)) + 1 else 0 := by
  obtain ⟨hk, e⟩ := List.getElem?_eq_some_iff.1 h
  rw [List.drop_eq_getElem_cons hk, e, spanW]
theorem ext_front (L : List UInt8) (n : Nat) : (⟨L.toArray⟩ : ByteArray).extract 0 n = ⟨(L.take n).toArray⟩ := by
  apply ByteArray.ext
  simp
def tkR (t : Tk0 × Nat) : Value := .tuple #[tkV t.1 0, .int .i64 (t.2 : Int)]
set_option maxHeartbeats 16000000 in
set_option maxRecDepth 100000 in
theorem next_any (c : UInt8) (r : List UInt8) (hs : (c :: r).length ≤ 1000000000) (w : World) (E : Env w) :
    Calls Tryz.prog 56 #[.string ⟨(c :: r).toArray⟩] w fun e w' => e = .returned (tkR (nextF c r)) ∧ Below w.heap.size w w' := by
  suffices key : ∀ Q : Ending → World → Prop, Hid (∀ e w', (e = .returned (tkR (nextF c r)) ∧ Below w.heap.size w w') → Q e w') → Calls Tryz.prog 56 #[.string ⟨(c :: r).toArray⟩] w Q from key _ (Lib.hid fun _ _ h => h)
  intro Q HQQ
  have NF : nextF c r = if (withB c || decide (c.toNat = 45)) = true then (namedF (c :: r.take (spanW r)), spanW r + 1)
    else if c.toNat = 39 then quotedF r
    else if (relB c && isEq r) = true then (⟨109, [c, 61], 0⟩, 2)
    else if markB c = true then (⟨109, [c], 0⟩, 1)
    else (bad0, 1) := rfl
  have HF : Hid (∀ tn, nextF c r = tn → ∀ e w', (e = .returned (tkR tn) ∧ Below w.heap.size w w') → Q e w') := Lib.hid fun tn h e w' => by
    subst h; exact HQQ.out e w'
  have WI := Lib.hid (fun W => within_any c W)
  have HE := Lib.hid E
  obtain ⟨t, ht⟩ : ∃ t : ByteArray, (⟨(c :: r).toArray⟩ : ByteArray) = t := ⟨_, rfl⟩
  have hsz : r.length + 1 = t.size := by rw [← ht, ba_sz]; rfl
  have tp : 0 < t.size := by omega
  have q2 : (((t[0]'tp).toNat : Int)) = (c.toNat : Int) := by subst ht; rfl
  have AT : Hid (∀ (i : Nat) (h : i + 1 < t.size), r[i]? = some (t[i + 1]'h)) := Lib.hid fun i h => by
    subst ht
    have h2 : i < r.length := by omega
    exact (List.getElem?_eq_getElem h2).trans rfl
  have HT := Lib.hid ht
  have QT := Lib.hid (fun W => quoted_any c r hs W)
  have hs' : t.size ≤ 1000000000 := by simp at hs; omega
  have HSZ := Lib.hid hsz
  rw [ht] at QT ⊢
  clear HQQ ht hsz E hs
  by_cases hA : (withB c || decide (c.toNat = 45)) = true
  · rw [if_pos hA] at NF
    clear QT
    have NM := Lib.hid (fun W (E' : Env W) => named_any c (r.take (spanW r)) (by have := span_le r; have := HSZ.out; simp; omega) W E')
    have EX : Hid (t.extract 0 (spanW r + 1) = ⟨(c :: r.take (spanW r)).toArray⟩) := Lib.hid (by rw [← HT.out, ext_front]; rfl)
    have NF' := Lib.hid NF
    clear NF
    have NF := NF'
    clear NF'
    by_cases hw1 : withB c = true
    · rw [hw1] at WI
      clear hA hw1
      go_enter Tryz.func56, Tryz.ntmps56
      go_wp2_with (first | (go_at_call 86; (with_reducible refine (WI.out _).mono ?_); rintro e w3 ⟨rfl, rfl⟩))
      go_loop [5] (fun j => ∃ k : Nat, k + 1 ≤ t.size ∧ j = .int .i64 ((k : Int) + 1) ∧ Hid (spanW r = k + spanW (r.drop k))) (fun j => t.size - (intOf j).toNat)
      case atStart => exact ⟨0, by omega, rfl, Lib.hid (by simp)⟩
      case round =>
        obtain ⟨k, hk, rfl, HS⟩ := hrel
        by_cases hkt : k + 1 < t.size
        · have hkt' : (k : Int) + 1 < (t.size : Int) := by omega
          have hx := AT.out k hkt
          have hsp := span_at hx
          have WX := Lib.hid (fun W => within_any (t[k + 1]'hkt) W)
          cases hp : withB (t[k + 1]'hkt) with
          | true =>
            rw [hp] at WX hsp
            rw [if_pos rfl] at hsp
            have HS2 : Hid (spanW r = k + 1 + spanW (r.drop (k + 1))) := Lib.hid (by rw [HS.out, hsp]; omega)
            clear hx hsp hp HS
            go_wp2_with (first | (go_at_call 86; (with_reducible refine (WX.out _).mono ?_); rintro e w3 ⟨rfl, rfl⟩))
            go_round
            case rel => exact ⟨k + 1, by omega, by go_num, HS2⟩
            case measure => first | (simp [intOf]; done) | (simp [intOf]; omega)
          | false =>
            rw [hp] at WX hsp
            rw [if_neg (by simp)] at hsp
            have HK : Hid (k = spanW r) := Lib.hid (by rw [HS.out, hsp]; omega)
            clear hx hsp hp HS
            have EX' : t.extract 0 (k + 1) = ⟨(c :: r.take (spanW r)).toArray⟩ := by rw [HK.out]; exact EX.out
            obtain ⟨u, hu⟩ : ∃ u : ByteArray, (⟨(c :: r.take (spanW r)).toArray⟩ : ByteArray) = u := ⟨_, rfl⟩
            have NM' := NM
            rw [hu] at EX' NM'
            clear hu NM
            have FN : Hid (nextF c r = (namedF (c :: r.take (spanW r)), k + 1)) := Lib.hid (by rw [NF.out, HK.out])
            generalize namedF (c :: r.take (spanW r)) = T at *
            obtain ⟨tk, tS, tn⟩ := T
            dsimp only [tkV] at NM'
            go_wp2_with (first | (go_at_call 86; (with_reducible refine (WX.out _).mono ?_); rintro e w3 ⟨rfl, rfl⟩) | (go_at_call 98; (with_reducible refine (NM'.out _ (HE.out.below (by repeat (first | exact Below.refl _ _ | refine Below.setCell ?_ (by first | (simp; done) | (simp; omega) | omega) _ | refine Below.alloc ?_ (by first | (simp; done) | (simp; omega) | omega) _ | refine Below.drew ?_ | assumption | refine Below.trans ?_ (Below.mono (by assumption) (by first | (simp; done) | (simp; omega) | omega)))))).mono ?_); rintro e w4 ⟨rfl, hb4⟩; obtain ⟨hc4, hf4⟩ := bcell hb4; have hs4 := hb4.size; (try simp at hs4); have hz4 : w.heap.size < w4.heap.size := by omega))
            exact bodyPost_ret (v := .tuple #[.agg #[.int .u8 tk, .string ⟨tS.toArray⟩, .int .i64 tn, .int .i64 0], .int .i64 ((k : Int) + 1)]) (by simp [results, Tryz.results56, go_sem, *]) rfl (HF.out _ FN.out _ _ ⟨by simp [tkR, tkV], (by repeat (first | exact Below.refl _ _ | refine Below.setCell ?_ (by first | (simp; done) | (simp; omega) | omega) _ | refine Below.alloc ?_ (by first | (simp; done) | (simp; omega) | omega) _ | refine Below.drew ?_ | assumption | refine Below.trans ?_ (Below.mono (by assumption) (by first | (simp; done) | (simp; omega) | omega))))⟩)
        · have hke : k + 1 = t.size := by omega
          have HK : Hid (k = spanW r) := Lib.hid (by rw [HS.out, List.drop_eq_nil_of_le (by have := HSZ.out; omega)]; simp [spanW])
          have WX : Hid True := Lib.hid trivial
          have hkt' : ¬ (k : Int) + 1 < (t.size : Int) := by omega
          clear HS hke
          have EX' : t.extract 0 (k + 1) = ⟨(c :: r.take (spanW r)).toArray⟩ := by rw [HK.out]; exact EX.out
          obtain ⟨u, hu⟩ : ∃ u : ByteArray, (⟨(c :: r.take (spanW r)).toArray⟩ : ByteArray) = u := ⟨_, rfl⟩
          have NM' := NM
          rw [hu] at EX' NM'
          clear hu NM
          have FN : Hid (nextF c r = (namedF (c :: r.take (spanW r)), k + 1)) := Lib.hid (by rw [NF.out, HK.out])
          generalize namedF (c :: r.take (spanW r)) = T at *
          obtain ⟨tk, tS, tn⟩ := T
          dsimp only [tkV] at NM'
          go_wp2_with (first | (go_at_call 98; (with_reducible refine (NM'.out _ (HE.out.below (by repeat (first | exact Below.refl _ _ | refine Below.setCell ?_ (by first | (simp; done) | (simp; omega) | omega) _ | refine Below.alloc ?_ (by first | (simp; done) | (simp; omega) | omega) _ | refine Below.drew ?_ | assumption | refine Below.trans ?_ (Below.mono (by assumption) (by first | (simp; done) | (simp; omega) | omega)))))).mono ?_); rintro e w4 ⟨rfl, hb4⟩; obtain ⟨hc4, hf4⟩ := bcell hb4; have hs4 := hb4.size; (try simp at hs4); have hz4 : w.heap.size < w4.heap.size := by omega))
          exact bodyPost_ret (v := .tuple #[.agg #[.int .u8 tk, .string ⟨tS.toArray⟩, .int .i64 tn, .int .i64 0], .int .i64 ((k : Int) + 1)]) (by simp [results, Tryz.results56, go_sem, *]) rfl (HF.out _ FN.out _ _ ⟨by simp [tkR, tkV], (by repeat (first | exact Below.refl _ _ | refine Below.setCell ?_ (by first | (simp; done) | (simp; omega) | omega) _ | refine Below.alloc ?_ (by first | (simp; done) | (simp; omega) | omega) _ | refine Below.drew ?_ | assumption | refine Below.trans ?_ (Below.mono (by assumption) (by first | (simp; done) | (simp; omega) | omega))))⟩)
    · have hw2 : withB c = false := by simpa using hw1
      rw [hw2] at WI
      have h45 : c.toNat = 45 := by rw [hw2, Bool.false_or] at hA; simpa using hA
      have e45 : ((c.toNat : Int) == 45) = true := by rw [h45]; rfl
      clear hA hw1 hw2 h45
      go_enter Tryz.func56, Tryz.ntmps56
      go_wp2_with (first | (go_at_call 86; (with_reducible refine (WI.out _).mono ?_); rintro e w3 ⟨rfl, rfl⟩))
      go_loop [5] (fun j => ∃ k : Nat, k + 1 ≤ t.size ∧ j = .int .i64 ((k : Int) + 1) ∧ Hid (spanW r = k + spanW (r.drop k))) (fun j => t.size - (intOf j).toNat)
      case atStart => exact ⟨0, by omega, rfl, Lib.hid (by simp)⟩
      case round =>
        obtain ⟨k, hk, rfl, HS⟩ := hrel
        by_cases hkt : k + 1 < t.size
        · have hkt' : (k : Int) + 1 < (t.size : Int) := by omega
          have hx := AT.out k hkt
          have hsp := span_at hx
          have WX := Lib.hid (fun W => within_any (t[k + 1]'hkt) W)
          cases hp : withB (t[k + 1]'hkt) with
          | true =>
            rw [hp] at WX hsp
            rw [if_pos rfl] at hsp
            have HS2 : Hid (spanW r = k + 1 + spanW (r.drop (k + 1))) := Lib.hid (by rw [HS.out, hsp]; omega)
            clear hx hsp hp HS
            go_wp2_with (first | (go_at_call 86; (with_reducible refine (WX.out _).mono ?_); rintro e w3 ⟨rfl, rfl⟩))
            go_round
            case rel => exact ⟨k + 1, by omega, by go_num, HS2⟩
            case measure => first | (simp [intOf]; done) | (simp [intOf]; omega)
          | false =>
            rw [hp] at WX hsp
            rw [if_neg (by simp)] at hsp
            have HK : Hid (k = spanW r) := Lib.hid (by rw [HS.out, hsp]; omega)
            clear hx hsp hp HS
            have EX' : t.extract 0 (k + 1) = ⟨(c :: r.take (spanW r)).toArray⟩ := by rw [HK.out]; exact EX.out
            obtain ⟨u, hu⟩ : ∃ u : ByteArray, (⟨(c :: r.take (spanW r)).toArray⟩ : ByteArray) = u := ⟨_, rfl⟩
            have NM' := NM
            rw [hu] at EX' NM'
            clear hu NM
            have FN : Hid (nextF c r = (namedF (c :: r.take (spanW r)), k + 1)) := Lib.hid (by rw [NF.out, HK.out])
            generalize namedF (c :: r.take (spanW r)) = T at *
            obtain ⟨tk, tS, tn⟩ := T
            dsimp only [tkV] at NM'
            go_wp2_with (first | (go_at_call 86; (with_reducible refine (WX.out _).mono ?_); rintro e w3 ⟨rfl, rfl⟩) | (go_at_call 98; (with_reducible refine (NM'.out _ (HE.out.below (by repeat (first | exact Below.refl _ _ | refine Below.setCell ?_ (by first | (simp; done) | (simp; omega) | omega) _ | refine Below.alloc ?_ (by first | (simp; done) | (simp; omega) | omega) _ | refine Below.drew ?_ | assumption | refine Below.trans ?_ (Below.mono (by assumption) (by first | (simp; done) | (simp; omega) | omega)))))).mono ?_); rintro e w4 ⟨rfl, hb4⟩; obtain ⟨hc4, hf4⟩ := bcell hb4; have hs4 := hb4.size; (try simp at hs4); have hz4 : w.heap.size < w4.heap.size := by omega))
            exact bodyPost_ret (v := .tuple #[.agg #[.int .u8 tk, .string ⟨tS.toArray⟩, .int .i64 tn, .int .i64 0], .int .i64 ((k : Int) + 1)]) (by simp [results, Tryz.results56, go_sem, *]) rfl (HF.out _ FN.out _ _ ⟨by simp [tkR, tkV], (by repeat (first | exact Below.refl _ _ | refine Below.setCell ?_ (by first | (simp; done) | (simp; omega) | omega) _ | refine Below.alloc ?_ (by first | (simp; done) | (simp; omega) | omega) _ | refine Below.drew ?_ | assumption | refine Below.trans ?_ (Below.mono (by assumption) (by first | (simp; done) | (simp; omega) | omega))))⟩)
        · have hke : k + 1 = t.size := by omega
          have HK : Hid (k = spanW r) := Lib.hid (by rw [HS.out, List.drop_eq_nil_of_le (by have := HSZ.out; omega)]; simp [spanW])
          have WX : Hid True := Lib.hid trivial
          have hkt' : ¬ (k : Int) + 1 < (t.size : Int) := by omega
          clear HS hke
          have EX' : t.extract 0 (k + 1) = ⟨(c :: r.take (spanW r)).toArray⟩ := by rw [HK.out]; exact EX.out
          obtain ⟨u, hu⟩ : ∃ u : ByteArray, (⟨(c :: r.take (spanW r)).toArray⟩ : ByteArray) = u := ⟨_, rfl⟩
          have NM' := NM
          rw [hu] at EX' NM'
          clear hu NM
          have FN : Hid (nextF c r = (namedF (c :: r.take (spanW r)), k + 1)) := Lib.hid (by rw [NF.out, HK.out])
          generalize namedF (c :: r.take (spanW r)) = T at *
          obtain ⟨tk, tS, tn⟩ := T
          dsimp only [tkV] at NM'
          go_wp2_with (first | (go_at_call 98; (with_reducible refine (NM'.out _ (HE.out.below (by repeat (first | exact Below.refl _ _ | refine Below.setCell ?_ (by first | (simp; done) | (simp; omega) | omega) _ | refine Below.alloc ?_ (by first | (simp; done) | (simp; omega) | omega) _ | refine Below.drew ?_ | assumption | refine Below.trans ?_ (Below.mono (by assumption) (by first | (simp; done) | (simp; omega) | omega)))))).mono ?_); rintro e w4 ⟨rfl, hb4⟩; obtain ⟨hc4, hf4⟩ := bcell hb4; have hs4 := hb4.size; (try simp at hs4); have hz4 : w.heap.size < w4.heap.size := by omega))
          exact bodyPost_ret (v := .tuple #[.agg #[.int .u8 tk, .string ⟨tS.toArray⟩, .int .i64 tn, .int .i64 0], .int .i64 ((k : Int) + 1)]) (by simp [results, Tryz.results56, go_sem, *]) rfl (HF.out _ FN.out _ _ ⟨by simp [tkR, tkV], (by repeat (first | exact Below.refl _ _ | refine Below.setCell ?_ (by first | (simp; done) | (simp; omega) | omega) _ | refine Below.alloc ?_ (by first | (simp; done) | (simp; omega) | omega) _ | refine Below.drew ?_ | assumption | refine Below.trans ?_ (Below.mono (by assumption) (by first | (simp; done) | (simp; omega) | omega))))⟩)
  · rw [if_neg hA] at NF
    have hw2 : withB c = false := by
      cases h : withB c with
      | false => rfl
      | true => rw [h] at hA; simp at hA
    have h45 : c.toNat ≠ 45 := fun h => hA (by simp [h])
    have e45 : ((c.toNat : Int) == 45) = false := by rw [beq_eq_false_iff_ne]; omega
    rw [hw2] at WI
    clear hA hw2 h45
    by_cases h39 : c.toNat = 39
    · have e39 : ((c.toNat : Int) == 39) = true := by rw [h39]; rfl
      rw [if_pos h39] at NF
      have FN := Lib.hid NF
      have QT' := QT
      clear h39 NF QT
      generalize quotedF r = T at *
      obtain ⟨⟨tk, tS, tn⟩, m⟩ := T
      dsimp only [tkV] at QT'
      go_enter Tryz.func56, Tryz.ntmps56
      go_wp2_with (first | (go_at_call 86; (with_reducible refine (WI.out _).mono ?_); rintro e w3 ⟨rfl, rfl⟩) | (go_at_call 99; (with_reducible refine (QT'.out _).mono ?_); rintro e w4 ⟨rfl, hb4⟩; obtain ⟨hc4, hf4⟩ := bcell hb4; have hs4 := hb4.size; (try simp at hs4); have hz4 : w.heap.size < w4.heap.size := by omega))
      exact bodyPost_ret (v := .tuple #[.agg #[.int .u8 tk, .string ⟨tS.toArray⟩, .int .i64 tn, .int .i64 0], .int .i64 (m : Int)]) (by simp [results, Tryz.results56, go_sem, *]) rfl (HF.out _ FN.out _ _ ⟨by simp [tkR, tkV], (by repeat (first | exact Below.refl _ _ | refine Below.setCell ?_ (by first | (simp; done) | (simp; omega) | omega) _ | refine Below.alloc ?_ (by first | (simp; done) | (simp; omega) | omega) _ | refine Below.drew ?_ | assumption | refine Below.trans ?_ (Below.mono (by assumption) (by first | (simp; done) | (simp; omega) | omega))))⟩)
    · have e39 : ((c.toNat : Int) == 39) = false := by rw [beq_eq_false_iff_ne]; omega
      rw [if_neg h39] at NF
      clear h39 QT
      have IR := Lib.hid (fun W => ib_any [33, 60, 62] c W)
      have IM := Lib.hid (fun W => ib_any [44, 40, 41, 42, 61, 60, 62] c W)
      have IRy := fun h => ib_yes (s := [33, 60, 62]) (c := c) ((mem_rel c).2 h)
      have IRn := fun (h : ¬ relB c = true) => ib_no (s := [33, 60, 62]) (c := c) (fun hm => h ((mem_rel c).1 hm))
      have IMy := fun h => ib_yes (s := [44, 40, 41, 42, 61, 60, 62]) (c := c) ((mem_mark c).2 h)
      have IMn := fun (h : ¬ markB c = true) => ib_no (s := [44, 40, 41, 42, 61, 60, 62]) (c := c) (fun hm => h ((mem_mark c).1 hm))
      generalize Lib.indexByte [33, 60, 62] c = ir at *
      generalize Lib.indexByte [44, 40, 41, 42, 61, 60, 62] c = im at *
      have EX1 : t.extract 0 1 = ⟨#[c]⟩ := by rw [← HT.out, ext_front]; rfl
      by_cases hC : (relB c && isEq r) = true
      · rw [if_pos hC] at NF
        have hr1 : relB c = true := by
          cases h : relB c with
          | true => rfl
          | false => rw [h] at hC; simp at hC
        have hr2 : isEq r = true := by rw [hr1] at hC; simpa using hC
        have hir := IRy hr1
        have h1 : 1 < t.size := by
          have := HSZ.out
          cases r with
          | nil => simp [isEq, headB] at hr2
          | cons d r' => simp at this; omega
        have h1' : (1 : Int) < (t.size : Int) := by omega
        have hx := AT.out 0 h1
        have e61 : (((t[1]'h1).toNat : Int) == 61) = true := by
          cases r with
          | nil => simp [isEq, headB] at hr2
          | cons d r' =>
            have : d = t[0 + 1]'h1 := by simpa using hx
            have hd : d.toNat = 61 := by simpa [isEq, headB] using hr2
            rw [show (t[1]'h1) = d from this.symm, hd]; rfl
        have EX2 : t.extract 0 2 = ⟨#[c, 61]⟩ := by
          rw [← HT.out, ext_front]
          cases r with
          | nil => simp [isEq, headB] at hr2
          | cons d r' =>
            have hd : d.toNat = 61 := by simpa [isEq, headB] using hr2
            have : d = 61 := UInt8.toNat_inj.1 hd
            rw [this]; rfl
        have FN := Lib.hid NF
        clear NF hC hr1 hr2 IRy IRn IMy IMn EX1 hx IM
        go_enter Tryz.func56, Tryz.ntmps56
        go_wp2_with (first | (go_at_call 86; (with_reducible refine (WI.out _).mono ?_); rintro e w3 ⟨rfl, rfl⟩) | (go_at_call_of 55 (Value.string ⟨#[33, 60, 62]⟩); (with_reducible refine (IR.out _).mono ?_); rintro e w5 ⟨rfl, rfl⟩))
        exact bodyPost_ret (v := .tuple #[.agg #[.int .u8 109, .string ⟨#[c, 61]⟩, .int .i64 0, .int .i64 0], .int .i64 2]) (by simp [results, Tryz.results56, go_sem, *]) rfl (HF.out _ FN.out _ _ ⟨rfl, (by repeat (first | exact Below.refl _ _ | refine Below.setCell ?_ (by first | (simp; done) | (simp; omega) | omega) _ | refine Below.alloc ?_ (by first | (simp; done) | (simp; omega) | omega) _ | refine Below.drew ?_ | assumption | refine Below.trans ?_ (Below.mono (by assumption) (by first | (simp; done) | (simp; omega) | omega))))⟩)
      · rw [if_neg hC] at NF
        by_cases hm : markB c = true
        · rw [if_pos hm] at NF
          have him := IMy hm
          have him' : ¬ im < 0 := by omega
          have FN := Lib.hid NF
          by_cases hr1 : relB c = true
          · have hir := IRy hr1
            by_cases h1 : 1 < t.size
            · have h1' : (1 : Int) < (t.size : Int) := by omega
              have hx := AT.out 0 h1
              have e61 : (((t[1]'h1).toNat : Int) == 61) = false := by
                rw [beq_eq_false_iff_ne]
                intro h
                refine hC ?_
                rw [hr1, Bool.true_and]
                cases r with
                | nil => simp at hx
                | cons d r' =>
                  have : d = t[0 + 1]'h1 := by simpa using hx
                  have hd : d.toNat = 61 := by rw [this]; exact Int.ofNat_inj.1 h
                  simp [isEq, headB, hd]
              clear NF hC hr1 hm IRy IRn IMy IMn hx
              go_enter Tryz.func56, Tryz.ntmps56
              go_wp2_with (first | (go_at_call 86; (with_reducible refine (WI.out _).mono ?_); rintro e w3 ⟨rfl, rfl⟩) | (go_at_call_of 55 (Value.string ⟨#[33, 60, 62]⟩); (with_reducible refine (IR.out _).mono ?_); rintro e w5 ⟨rfl, rfl⟩) | (go_at_call_of 55 (Value.string ⟨#[44, 40, 41, 42, 61, 60, 62]⟩); (with_reducible refine (IM.out _).mono ?_); rintro e w5 ⟨rfl, rfl⟩))
              exact bodyPost_ret (v := .tuple #[.agg #[.int .u8 109, .string ⟨#[c]⟩, .int .i64 0, .int .i64 0], .int .i64 1]) (by simp [results, Tryz.results56, go_sem, *]) rfl (HF.out _ FN.out _ _ ⟨rfl, (by repeat (first | exact Below.refl _ _ | refine Below.setCell ?_ (by first | (simp; done) | (simp; omega) | omega) _ | refine Below.alloc ?_ (by first | (simp; done) | (simp; omega) | omega) _ | refine Below.drew ?_ | assumption | refine Below.trans ?_ (Below.mono (by assumption) (by first | (simp; done) | (simp; omega) | omega))))⟩)
            · have h1' : ¬ (1 : Int) < (t.size : Int) := by omega
              clear NF hC hr1 hm IRy IRn IMy IMn
              go_enter Tryz.func56, Tryz.ntmps56
              go_wp2_with (first | (go_at_call 86; (with_reducible refine (WI.out _).mono ?_); rintro e w3 ⟨rfl, rfl⟩) | (go_at_call_of 55 (Value.string ⟨#[33, 60, 62]⟩); (with_reducible refine (IR.out _).mono ?_); rintro e w5 ⟨rfl, rfl⟩) | (go_at_call_of 55 (Value.string ⟨#[44, 40, 41, 42, 61, 60, 62]⟩); (with_reducible refine (IM.out _).mono ?_); rintro e w5 ⟨rfl, rfl⟩))
              exact bodyPost_ret (v := .tuple #[.agg #[.int .u8 109, .string ⟨#[c]⟩, .int .i64 0, .int .i64 0], .int .i64 1]) (by simp [results, Tryz.results56, go_sem, *]) rfl (HF.out _ FN.out _ _ ⟨rfl, (by repeat (first | exact Below.refl _ _ | refine Below.setCell ?_ (by first | (simp; done) | (simp; omega) | omega) _ | refine Below.alloc ?_ (by first | (simp; done) | (simp; omega) | omega) _ | refine Below.drew ?_ | assumption | refine Below.trans ?_ (Below.mono (by assumption) (by first | (simp; done) | (simp; omega) | omega))))⟩)
          · have hir := IRn hr1
            have hir' : ¬ 0 ≤ ir := by omega
            clear NF hC hr1 hm IRy IRn IMy IMn
            go_enter Tryz.func56, Tryz.ntmps56
            go_wp2_with (first | (go_at_call 86; (with_reducible refine (WI.out _).mono ?_); rintro e w3 ⟨rfl, rfl⟩) | (go_at_call_of 55 (Value.string ⟨#[33, 60, 62]⟩); (with_reducible refine (IR.out _).mono ?_); rintro e w5 ⟨rfl, rfl⟩) | (go_at_call_of 55 (Value.string ⟨#[44, 40, 41, 42, 61, 60, 62]⟩); (with_reducible refine (IM.out _).mono ?_); rintro e w5 ⟨rfl, rfl⟩))
            exact bodyPost_ret (v := .tuple #[.agg #[.int .u8 109, .string ⟨#[c]⟩, .int .i64 0, .int .i64 0], .int .i64 1]) (by simp [results, Tryz.results56, go_sem, *]) rfl (HF.out _ FN.out _ _ ⟨rfl, (by repeat (first | exact Below.refl _ _ | refine Below.setCell ?_ (by first | (simp; done) | (simp; omega) | omega) _ | refine Below.alloc ?_ (by first | (simp; done) | (simp; omega) | omega) _ | refine Below.drew ?_ | assumption | refine Below.trans ?_ (Below.mono (by assumption) (by first | (simp; done) | (simp; omega) | omega))))⟩)
        · rw [if_neg hm] at NF
          have him := IMn hm
          have FN := Lib.hid NF
          by_cases hr1 : relB c = true
          · have hir := IRy hr1
            by_cases h1 : 1 < t.size
            · have h1' : (1 : Int) < (t.size : Int) := by omega
              have hx := AT.out 0 h1
              have e61 : (((t[1]'h1).toNat : Int) == 61) = false := by
                rw [beq_eq_false_iff_ne]
                intro h
                refine hC ?_
                rw [hr1, Bool.true_and]
                cases r with
                | nil => simp at hx
                | cons d r' =>
                  have : d = t[0 + 1]'h1 := by simpa using hx
                  have hd : d.toNat = 61 := by rw [this]; exact Int.ofNat_inj.1 h
                  simp [isEq, headB, hd]
              clear NF hC hr1 hm IRy IRn IMy IMn hx
              go_enter Tryz.func56, Tryz.ntmps56
              go_wp2_with (first | (go_at_call 86; (with_reducible refine (WI.out _).mono ?_); rintro e w3 ⟨rfl, rfl⟩) | (go_at_call_of 55 (Value.string ⟨#[33, 60, 62]⟩); (with_reducible refine (IR.out _).mono ?_); rintro e w5 ⟨rfl, rfl⟩) | (go_at_call_of 55 (Value.string ⟨#[44, 40, 41, 42, 61, 60, 62]⟩); (with_reducible refine (IM.out _).mono ?_); rintro e w5 ⟨rfl, rfl⟩))
              exact bodyPost_ret (v := .tuple #[.agg #[.int .u8 33, .string ⟨#[]⟩, .int .i64 0, .int .i64 0], .int .i64 1]) (by simp [results, Tryz.results56, go_sem, *]) rfl (HF.out _ FN.out _ _ ⟨rfl, (by repeat (first | exact Below.refl _ _ | refine Below.setCell ?_ (by first | (simp; done) | (simp; omega) | omega) _ | refine Below.alloc ?_ (by first | (simp; done) | (simp; omega) | omega) _ | refine Below.drew ?_ | assumption | refine Below.trans ?_ (Below.mono (by assumption) (by first | (simp; done) | (simp; omega) | omega))))⟩)
            · have h1' : ¬ (1 : Int) < (t.size : Int) := by omega
              clear NF hC hr1 hm IRy IRn IMy IMn
              go_enter Tryz.func56, Tryz.ntmps56
              go_wp2_with (first | (go_at_call 86; (with_reducible refine (WI.out _).mono ?_); rintro e w3 ⟨rfl, rfl⟩) | (go_at_call_of 55 (Value.string ⟨#[33, 60, 62]⟩); (with_reducible refine (IR.out _).mono ?_); rintro e w5 ⟨rfl, rfl⟩) | (go_at_call_of 55 (Value.string ⟨#[44, 40, 41, 42, 61, 60, 62]⟩); (with_reducible refine (IM.out _).mono ?_); rintro e w5 ⟨rfl, rfl⟩))
              exact bodyPost_ret (v := .tuple #[.agg #[.int .u8 33, .string ⟨#[]⟩, .int .i64 0, .int .i64 0], .int .i64 1]) (by simp [results, Tryz.results56, go_sem, *]) rfl (HF.out _ FN.out _ _ ⟨rfl, (by repeat (first | exact Below.refl _ _ | refine Below.setCell ?_ (by first | (simp; done) | (simp; omega) | omega) _ | refine Below.alloc ?_ (by first | (simp; done) | (simp; omega) | omega) _ | refine Below.drew ?_ | assumption | refine Below.trans ?_ (Below.mono (by assumption) (by first | (simp; done) | (simp; omega) | omega))))⟩)
          · have hir := IRn hr1
            have hir' : ¬ 0 ≤ ir := by omega
            clear NF hC hr1 hm IRy IRn IMy IMn
            go_enter Tryz.func56, Tryz.ntmps56
            go_wp2_with (first | (go_at_call 86; (with_reducible refine (WI.out _).mono ?_); rintro e w3 ⟨rfl, rfl⟩) | (go_at_call_of 55 (Value.string ⟨#[33, 60, 62]⟩); (with_reducible refine (IR.out _).mono ?_); rintro e w5 ⟨rfl, rfl⟩) | (go_at_call_of 55 (Value.string ⟨#[44, 40, 41, 42, 61, 60, 62]⟩); (with_reducible refine (IM.out _).mono ?_); rintro e w5 ⟨rfl, rfl⟩))
            exact bodyPost_ret (v := .tuple #[.agg #[.int .u8 33, .string ⟨#[]⟩, .int .i64 0, .int .i64 0], .int .i64 1]) (by simp [results, Tryz.results56, go_sem, *]) rfl (HF.out _ FN.out _ _ ⟨rfl, (by repeat (first | exact Below.refl _ _ | refine Below.setCell ?_ (by first | (simp; done) | (simp; omega) | omega) _ | refine Below.alloc ?_ (by first | (simp; done) | (simp; omega) | omega) _ | refine Below.drew ?_ | assumption | refine Below.trans ?_ (Below.mono (by assumption) (by first | (simp; done) | (simp; omega) | omega))))⟩)
end Go.Proofs.YtijlifdbjhieaaaGreatDoor
