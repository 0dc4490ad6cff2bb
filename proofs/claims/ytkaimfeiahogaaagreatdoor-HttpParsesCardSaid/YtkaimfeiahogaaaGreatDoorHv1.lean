/-
  Contract of http.pieces.take.
-/
import Derived.Test.YtkaimfeiahogaaaGreatDoorHp7
namespace Go.Proofs.YtkaimfeiahogaaaGreatDoor
set_option linter.all false
open Go.RowKit Go.Shelf
attribute [local go_sem] cell_set_self lt_1 lt_2 lt_3 lt_4 lt_5 lt_6 drew_cell drew_frozen drew_size

/-- The cells of a reader of pieces: what is left; whether it ends too early, or cannot be. -/
structure Pc (W : World) (pb : Nat) (A : Option Addr) (n c : Nat) (e x : Bool) : Prop where
  c0 : W.cell? ⟨pb, 0, none⟩ = some (.slice A n c)
  c1 : W.cell? ⟨pb, 1, none⟩ = some (.bool e)
  c2 : W.cell? ⟨pb, 2, none⟩ = some (.bool x)
  f0 : W.frozen? ⟨pb, 0, none⟩ = false
  f1 : W.frozen? ⟨pb, 1, none⟩ = false
  f2 : W.frozen? ⟨pb, 2, none⟩ = false
  lt : pb < W.heap.size
theorem setCell_ne (W : World) (b o o' : Nat) (v : Value) (h : o ≠ o') : (W.setCell ⟨b, o, none⟩ v).cell? ⟨b, o', none⟩ = W.cell? ⟨b, o', none⟩ :=
  World.cell?_setCell_other W ⟨b, o, none⟩ ⟨b, o', none⟩ v (by intro q; injection q with q1 q2; exact h q2)
theorem setCell_eq (W : World) (b o : Nat) (v u : Value) (h : W.cell? ⟨b, o, none⟩ = some u) : (W.setCell ⟨b, o, none⟩ v).cell? ⟨b, o, none⟩ = some v :=
  World.cell?_setCell_same' _ _ _ (by rw [h]; rfl)
theorem Pc.set0 {W : World} {pb : Nat} {A : Option Addr} {n c : Nat} {e x : Bool} (K : Pc W pb A n c e x) (A' : Option Addr) (n' c' : Nat) : Pc (W.setCell ⟨pb, 0, none⟩ (.slice A' n' c')) pb A' n' c' e x :=
  ⟨setCell_eq _ _ _ _ _ K.c0, (setCell_ne _ _ _ _ _ (by decide)).trans K.c1, (setCell_ne _ _ _ _ _ (by decide)).trans K.c2, by rw [World.frozen?_setCell]; exact K.f0, by rw [World.frozen?_setCell]; exact K.f1, by rw [World.frozen?_setCell]; exact K.f2, by simpa using K.lt⟩
theorem Pc.set1 {W : World} {pb : Nat} {A : Option Addr} {n c : Nat} {e x : Bool} (K : Pc W pb A n c e x) (b : Bool) : Pc (W.setCell ⟨pb, 1, none⟩ (.bool b)) pb A n c b x :=
  ⟨(setCell_ne _ _ _ _ _ (by decide)).trans K.c0, setCell_eq _ _ _ _ _ K.c1, (setCell_ne _ _ _ _ _ (by decide)).trans K.c2, by rw [World.frozen?_setCell]; exact K.f0, by rw [World.frozen?_setCell]; exact K.f1, by rw [World.frozen?_setCell]; exact K.f2, by simpa using K.lt⟩
theorem Pc.set2 {W : World} {pb : Nat} {A : Option Addr} {n c : Nat} {e x : Bool} (K : Pc W pb A n c e x) (b : Bool) : Pc (W.setCell ⟨pb, 2, none⟩ (.bool b)) pb A n c e b :=
  ⟨(setCell_ne _ _ _ _ _ (by decide)).trans K.c0, (setCell_ne _ _ _ _ _ (by decide)).trans K.c1, setCell_eq _ _ _ _ _ K.c2, by rw [World.frozen?_setCell]; exact K.f0, by rw [World.frozen?_setCell]; exact K.f1, by rw [World.frozen?_setCell]; exact K.f2, by simpa using K.lt⟩
/-- The address k places on; at the end of the memory it stays. -/
def advA (A : Option Addr) (c k : Nat) : Option Addr := A.map fun a => if c = k then a else a.add k
theorem advA_block {A : Option Addr} {c k : Nat} {a : Addr} (h : advA A c k = some a) : ∃ b, A = some b ∧ a.block = b.block := by
  cases A with
  | none => cases h
  | some b =>
    refine ⟨b, rfl, ?_⟩
    unfold advA at h
    simp only [Option.map_some, Option.some.injEq] at h
    rw [← h]; split
    · rfl
    · unfold Addr.add; split <;> rfl
theorem Bs.adv {w : World} {A : Option Addr} {c : Nat} {l : List UInt8} (T : Bs w A c l) (k : Nat) (hk : k ≤ l.length) : Bs w (advA A c k) (c - k) (l.drop k) := by
  have h1 := T.1
  cases A with
  | none =>
    have := T.2.1 rfl
    exact ⟨by rw [List.length_drop]; omega, fun _ => by omega, fun i v hi => by rw [List.getElem?_drop] at hi; have := (List.getElem?_eq_some_iff.1 hi).1; omega⟩
  | some a =>
    refine ⟨by rw [List.length_drop]; omega, fun h => by simp [advA] at h, fun i v hi => ?_⟩
    rw [List.getElem?_drop] at hi
    have hlt := (List.getElem?_eq_some_iff.1 hi).1
    obtain ⟨b, off, e, h2, h3⟩ := T.2.2 _ _ hi
    injection e with e; subst e
    unfold advA
    simp only [Option.map_some]
    rw [if_neg (by omega)]
    exact ⟨b, off + k, by rw [addr_off], h2, by rw [show off + k + i = off + (k + i) by omega]; exact h3⟩
set_option maxHeartbeats 4000000 in
set_option maxRecDepth 100000 in
theorem take_off (s : ByteArray) (pb : Nat) (A : Option Addr) (n c : Nat) (e x : Bool) (h : (e || x) = true) (W : World) (K : Pc W pb A n c e x) :
    Calls Tryz.prog 47 #[.pointer (some ⟨pb, 0, none⟩), .string s] W fun ex W' => ex = .returned (.tuple #[]) ∧ W = W' := by
  obtain ⟨c0, c1, c2, -, -, -, lt⟩ := K
  cases e with
  | true =>
    clear h
    go_enter Tryz.func47, Tryz.ntmps47
    go_wp2
    refine bodyPost_end (results_none rfl _ _ _) rfl ?_
    exact ⟨rfl, rfl⟩
  | false =>
    cases x with
    | false => cases h
    | true =>
      clear h
      go_enter Tryz.func47, Tryz.ntmps47
      go_wp2
      refine bodyPost_end (results_none rfl _ _ _) rfl ?_
      exact ⟨rfl, rfl⟩
/-- What take leaves of a reader. -/
def TakeO (W : World) (pb : Nat) (A : Option Addr) (n c : Nat) (s l : List UInt8) : Prop := match takeT s l with
  | .wait => Pc W pb A n c true false
  | .bad => Pc W pb A n c false true
  | .got _ _ => Pc W pb (advA A c s.length) (n - s.length) (c - s.length) false false
theorem Pc.drew {W : World} {pb : Nat} {A : Option Addr} {n c : Nat} {e x : Bool} (K : Pc W pb A n c e x) : Pc W.drew pb A n c e x := ⟨K.c0, K.c1, K.c2, K.f0, K.f1, K.f2, K.lt⟩
theorem grown_drew (W : World) (h : Option Nat) : W.grownBy W.drew h := ⟨rfl, rfl, rfl, Nat.le_refl _, fun _ _ _ => rfl⟩
theorem grown_set1 (W : World) (pb o : Nat) (v : Value) : W.grownBy (W.setCell ⟨pb, o, none⟩ v) (some pb) :=
  ⟨rfl, rfl, rfl, by simp, fun i hi hne => by
    simp only [World.setCell, Array.getElem?_modify]
    rw [if_neg (fun e => hne (by rw [← e]))]⟩
set_option maxHeartbeats 8000000 in
set_option maxRecDepth 100000 in
theorem take_on (s l : List UInt8) (pb : Nat) (A : Option Addr) (n c : Nat) (hl : l.length = n) (W : World) (K : Pc W pb A n c false false) (T : Bs W A c l) :
    Calls Tryz.prog 47 #[.pointer (some ⟨pb, 0, none⟩), .string ⟨s.toArray⟩] W fun ex W' => ex = .returned (.tuple #[]) ∧ TakeO W' pb A n c s l ∧ W.grownBy W' (some pb) := by
  have HK := Lib.hid K
  obtain ⟨c0, c1, c2, f0, f1, f2, lt⟩ := K
  have hsz : (⟨s.toArray⟩ : ByteArray).size = s.length := ba_sz s
  have hnc : n ≤ c := by have := T.1; omega
  obtain ⟨k, hk⟩ : ∃ k, min s.length n = k := ⟨_, rfl⟩
  have hm : min ((⟨s.toArray⟩ : ByteArray).size : Int) (n : Int) = (k : Int) := by rw [hsz]; omega
  have hx : (⟨s.toArray⟩ : ByteArray).extract 0 k = ⟨(s.take k).toArray⟩ := by
    apply ByteArray.ext
    simp [List.extract_eq_take_drop]
  have hcv : (convert 22 9 (.slice A k c)).run Tryz.prog W.drew = .ok (.string ⟨(l.take k).toArray⟩) W.drew := by
    have := conv_bs (W := W.drew) (T.take k)
    rwa [List.length_take, Nat.min_eq_left (by omega)] at this
  have hq := str_beq (l.take k) (s.take k)
  have hA : A = none → c = 0 := T.2.1
  have hkc : (k : Int) ≤ (c : Int) := by omega
  have hks : (k : Int) ≤ ((⟨s.toArray⟩ : ByteArray).size : Int) := by rw [hsz]; omega
  unfold TakeO takeT
  by_cases hlt : l.length < s.length
  · rw [if_pos hlt]
    have hkn : k = n := by omega
    have h1 : l.take k = l := List.take_of_length_le (by omega)
    have h2 : s.take k = s.take l.length := by rw [hkn, hl]
    have hks2 : (k : Int) < ((⟨s.toArray⟩ : ByteArray).size : Int) := by rw [hsz]; omega
    rw [h1, h2] at hq
    by_cases g : s.take l.length = l
    · rw [if_pos g]
      rw [decide_eq_true g.symm] at hq
      rw [h1] at hcv
      rw [h2] at hx
      generalize (⟨(s.take l.length).toArray⟩ : ByteArray) = X at *
      generalize (⟨l.toArray⟩ : ByteArray) = L at *
      generalize (⟨s.toArray⟩ : ByteArray) = S at *
      clear hlt hkn h1 h2 hk hsz T g hl
      go_enter Tryz.func47, Tryz.ntmps47
      go_wp2_with (fail)
      go_big_region
      all_goals go_wp2
      refine bodyPost_end (results_none rfl _ _ _) rfl ?_
      exact ⟨rfl, HK.out.drew.set1 true, (grown_drew _ _).trans (grown_set1 _ _ _ _)⟩
    · rw [if_neg g]
      rw [decide_eq_false (fun e => g e.symm)] at hq
      rw [h1] at hcv
      rw [h2] at hx
      generalize (⟨(s.take l.length).toArray⟩ : ByteArray) = X at *
      generalize (⟨l.toArray⟩ : ByteArray) = L at *
      generalize (⟨s.toArray⟩ : ByteArray) = S at *
      clear hlt hkn h1 h2 hk hsz T g hl
      go_enter Tryz.func47, Tryz.ntmps47
      go_wp2_with (fail)
      go_big_region
      all_goals go_wp2
      refine bodyPost_end (results_none rfl _ _ _) rfl ?_
      exact ⟨rfl, HK.out.drew.set2 true, (grown_drew _ _).trans (grown_set1 _ _ _ _)⟩
  · rw [if_neg hlt]
    obtain rfl : k = s.length := by omega
    have h2 : s.take s.length = s := List.take_of_length_le (Nat.le_refl _)
    have hks2 : ¬ ((s.length : Nat) : Int) < ((⟨s.toArray⟩ : ByteArray).size : Int) := by rw [hsz]; omega
    have hkn : ((s.length : Nat) : Int) ≤ (n : Int) := by omega
    have hn2 : (n : Int) ≤ (c : Int) := by omega
    rw [h2] at hq hx
    have HXE : Hid (s.length = 0 → (⟨(l.take s.length).toArray⟩ : ByteArray).toList.isEmpty = true) := Lib.hid (by intro h; rw [h, ByteArray.toList_mk]; rfl)
    generalize (⟨(l.take s.length).toArray⟩ : ByteArray) = X at *
    by_cases g : l.take s.length = s
    · rw [if_pos g]
      rw [decide_eq_true g] at hq
      generalize (⟨s.toArray⟩ : ByteArray) = S at *
      clear hlt hk hsz g hl h2 T
      generalize s.length = k at *
      show Calls Tryz.prog 47 _ W fun ex W' => ex = .returned (.tuple #[]) ∧ Pc W' pb (advA A c k) (n - k) (c - k) false false ∧ W.grownBy W' (some pb)
      have HS := Lib.hid (fun A' => (HK.out.set0 A' (n - k) (c - k)).drew)
      cases A with
      | none =>
        obtain rfl : c = 0 := hA rfl
        obtain rfl : k = 0 := by omega
        obtain rfl : n = 0 := by omega
        have hm0 : min (S.size : Int) 0 = 0 := by omega
        have hxe := HXE.out rfl
        go_enter Tryz.func47, Tryz.ntmps47
        go_wp2_with (fail)
        go_big_region
        all_goals go_wp2
        refine bodyPost_end (results_none rfl _ _ _) rfl ?_
        exact ⟨rfl, HS.out none, (grown_set1 _ _ _ _).trans (grown_drew _ _)⟩
      | some a =>
        obtain ⟨ab, ao, asp⟩ := a
        by_cases hck : c = k
        · have HE := Lib.hid (show advA (some ⟨ab, ao, asp⟩) c k = some ⟨ab, ao, asp⟩ by unfold advA; simp [hck])
          subst hck
          go_enter Tryz.func47, Tryz.ntmps47
          go_wp2_with (fail)
          go_big_region
          all_goals go_wp2
          refine bodyPost_end (results_none rfl _ _ _) rfl ?_
          refine ⟨rfl, ?_, (grown_set1 _ _ _ _).trans (grown_drew _ _)⟩
          rw [HE.out]
          have := HS.out (some ⟨ab, ao, asp⟩)
          rw [show n - c = 0 by omega, Nat.sub_self] at this ⊢
          exact this
        · have hck2 : ¬ (c : Int) - (k : Int) = 0 := by omega
          have HE := Lib.hid (show advA (some ⟨ab, ao, asp⟩) c k = some (Addr.add ⟨ab, ao, asp⟩ k) by unfold advA; simp [hck])
          go_enter Tryz.func47, Tryz.ntmps47
          go_wp2_with (fail)
          go_big_region
          all_goals go_wp2
          refine bodyPost_end (results_none rfl _ _ _) rfl ?_
          refine ⟨rfl, ?_, (grown_set1 _ _ _ _).trans (grown_drew _ _)⟩
          rw [HE.out]
          exact HS.out (some (Addr.add ⟨ab, ao, asp⟩ k))
    · rw [if_neg g]
      rw [decide_eq_false g] at hq
      generalize (⟨s.toArray⟩ : ByteArray) = S at *
      clear hlt hk hsz g hl h2 T
      generalize s.length = k at *
      go_enter Tryz.func47, Tryz.ntmps47
      go_wp2_with (fail)
      go_big_region
      all_goals go_wp2
      refine bodyPost_end (results_none rfl _ _ _) rfl ?_
      exact ⟨rfl, HK.out.drew.set2 true, (grown_drew _ _).trans (grown_set1 _ _ _ _)⟩
end Go.Proofs.YtkaimfeiahogaaaGreatDoor
