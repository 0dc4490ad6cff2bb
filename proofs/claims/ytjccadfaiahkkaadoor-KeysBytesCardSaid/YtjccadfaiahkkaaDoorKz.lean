/-
  The walk of KeysBytes.
-/
import Derived.Test.YtjccadfaiahkkaaDoorKy
import Derived.Test.YtjccadfaiahkkaaDoorKt
namespace Go.Proofs.YtjccadfaiahkkaaDoor
set_option linter.all false
open Go.RowKit
attribute [local go_sem] cell_set_self lt_1 lt_2 lt_3 lt_4 lt_5 lt_6 alloc_drewN setCell_drewN

set_option maxHeartbeats 2000000 in
set_option maxRecDepth 100000 in
theorem bytes_few (A B : Option Addr) (n c m d : Nat) (l l' : List Part) (t : List UInt8) (hl : l.length = n) (hm : l'.length = m) (hn : n ≤ 9223372036854775807) (hmn : m ≤ 9223372036854775807) (ht : t.length ≤ 9223372036854775807)
    (f : fewB l = false ∨ (fewB l = true ∧ fewB l' = false) ∨ (fewB l = true ∧ fewB l' = true ∧ 2000 < t.length)) (w : World) (T : Parts w A l) (U : Parts w B l') (ml : ML w) :
    Calls Tryd.prog 5 #[.slice A n c, .slice B m d, .string ⟨t.toArray⟩] w fun e w' => e = .returned (.bool true) ∧ Below w.heap.size w w' := by
  have hF := Lib.hid (fun W (hb : Below w.heap.size w W) => first_any W (ml.below hb))
  have FW1 : Hid (∀ W, Below w.heap.size w W → Calls Tryd.prog 8 #[.slice A n c] W fun e w' => e = .returned (.bool (fewB l)) ∧ Below W.heap.size W w') := Lib.hid fun W hb => few_any A n c l hl hn W (T.below hb)
  have FW2 : Hid (∀ W, Below w.heap.size w W → Calls Tryd.prog 8 #[.slice B m d] W fun e w' => e = .returned (.bool (fewB l')) ∧ Below W.heap.size W w') := Lib.hid fun W hb => few_any B m d l' hm hmn W (U.below hb)
  rcases f with f1 | ⟨f1, f2⟩ | ⟨f1, f2, f3⟩
  · rw [f1] at FW1
    clear f1 hl hm T U ml
    go_enter Tryd.func5, Tryd.ntmps5
    go_wp2_with (first
      | (go_at_call 7; refine (hF.out _ (by repeat (first | exact Below.refl _ _ | refine Below.setCell ?_ (by first | (simp; done) | (simp; omega) | omega) _ | refine Below.alloc ?_ (by first | (simp; done) | (simp; omega) | omega) _ | refine Below.drew ?_ | assumption | refine Below.trans ?_ (Below.mono (by assumption) (by first | (simp; done) | (simp; omega) | omega))))).mono ?_; rintro e w1 ⟨rfl, hb1⟩; obtain ⟨hc1, hf1⟩ := bcell hb1; have hs1 := hb1.size; (try simp at hs1))
      | (go_at_call 8; (with_reducible refine (FW1.out _ (by repeat (first | exact Below.refl _ _ | refine Below.setCell ?_ (by first | (simp; done) | (simp; omega) | omega) _ | refine Below.alloc ?_ (by first | (simp; done) | (simp; omega) | omega) _ | refine Below.drew ?_ | assumption | refine Below.trans ?_ (Below.mono (by assumption) (by first | (simp; done) | (simp; omega) | omega))))).mono ?_); rintro e w2 ⟨rfl, hb2⟩; have hs2 := hb2.size; (try simp at hs2))
      | (go_at_call 8; (with_reducible refine (FW2.out _ (by repeat (first | exact Below.refl _ _ | refine Below.setCell ?_ (by first | (simp; done) | (simp; omega) | omega) _ | refine Below.alloc ?_ (by first | (simp; done) | (simp; omega) | omega) _ | refine Below.drew ?_ | assumption | refine Below.trans ?_ (Below.mono (by assumption) (by first | (simp; done) | (simp; omega) | omega))))).mono ?_); rintro e w3 ⟨rfl, hb3⟩; have hs3 := hb3.size; (try simp at hs3)))
    go_ret
    exact ⟨rfl, (by repeat (first | exact Below.refl _ _ | refine Below.setCell ?_ (by first | (simp; done) | (simp; omega) | omega) _ | refine Below.alloc ?_ (by first | (simp; done) | (simp; omega) | omega) _ | refine Below.drew ?_ | assumption | refine Below.trans ?_ (Below.mono (by assumption) (by first | (simp; done) | (simp; omega) | omega))))⟩
  · rw [f1] at FW1
    rw [f2] at FW2
    clear f1 f2 hl hm T U ml
    go_enter Tryd.func5, Tryd.ntmps5
    go_wp2_with (first
      | (go_at_call 7; refine (hF.out _ (by repeat (first | exact Below.refl _ _ | refine Below.setCell ?_ (by first | (simp; done) | (simp; omega) | omega) _ | refine Below.alloc ?_ (by first | (simp; done) | (simp; omega) | omega) _ | refine Below.drew ?_ | assumption | refine Below.trans ?_ (Below.mono (by assumption) (by first | (simp; done) | (simp; omega) | omega))))).mono ?_; rintro e w1 ⟨rfl, hb1⟩; obtain ⟨hc1, hf1⟩ := bcell hb1; have hs1 := hb1.size; (try simp at hs1))
      | (go_at_call 8; (with_reducible refine (FW1.out _ (by repeat (first | exact Below.refl _ _ | refine Below.setCell ?_ (by first | (simp; done) | (simp; omega) | omega) _ | refine Below.alloc ?_ (by first | (simp; done) | (simp; omega) | omega) _ | refine Below.drew ?_ | assumption | refine Below.trans ?_ (Below.mono (by assumption) (by first | (simp; done) | (simp; omega) | omega))))).mono ?_); rintro e w2 ⟨rfl, hb2⟩; have hs2 := hb2.size; (try simp at hs2))
      | (go_at_call 8; (with_reducible refine (FW2.out _ (by repeat (first | exact Below.refl _ _ | refine Below.setCell ?_ (by first | (simp; done) | (simp; omega) | omega) _ | refine Below.alloc ?_ (by first | (simp; done) | (simp; omega) | omega) _ | refine Below.drew ?_ | assumption | refine Below.trans ?_ (Below.mono (by assumption) (by first | (simp; done) | (simp; omega) | omega))))).mono ?_); rintro e w3 ⟨rfl, hb3⟩; have hs3 := hb3.size; (try simp at hs3)))
    go_ret
    exact ⟨rfl, (by repeat (first | exact Below.refl _ _ | refine Below.setCell ?_ (by first | (simp; done) | (simp; omega) | omega) _ | refine Below.alloc ?_ (by first | (simp; done) | (simp; omega) | omega) _ | refine Below.drew ?_ | assumption | refine Below.trans ?_ (Below.mono (by assumption) (by first | (simp; done) | (simp; omega) | omega))))⟩
  · rw [f1] at FW1
    rw [f2] at FW2
    have f3' : (2000 : Int) < t.length := by omega
    clear f1 f2 hl hm T U ml
    go_enter Tryd.func5, Tryd.ntmps5
    go_wp2_with (first
      | (go_at_call 7; refine (hF.out _ (by repeat (first | exact Below.refl _ _ | refine Below.setCell ?_ (by first | (simp; done) | (simp; omega) | omega) _ | refine Below.alloc ?_ (by first | (simp; done) | (simp; omega) | omega) _ | refine Below.drew ?_ | assumption | refine Below.trans ?_ (Below.mono (by assumption) (by first | (simp; done) | (simp; omega) | omega))))).mono ?_; rintro e w1 ⟨rfl, hb1⟩; obtain ⟨hc1, hf1⟩ := bcell hb1; have hs1 := hb1.size; (try simp at hs1))
      | (go_at_call 8; (with_reducible refine (FW1.out _ (by repeat (first | exact Below.refl _ _ | refine Below.setCell ?_ (by first | (simp; done) | (simp; omega) | omega) _ | refine Below.alloc ?_ (by first | (simp; done) | (simp; omega) | omega) _ | refine Below.drew ?_ | assumption | refine Below.trans ?_ (Below.mono (by assumption) (by first | (simp; done) | (simp; omega) | omega))))).mono ?_); rintro e w2 ⟨rfl, hb2⟩; have hs2 := hb2.size; (try simp at hs2))
      | (go_at_call 8; (with_reducible refine (FW2.out _ (by repeat (first | exact Below.refl _ _ | refine Below.setCell ?_ (by first | (simp; done) | (simp; omega) | omega) _ | refine Below.alloc ?_ (by first | (simp; done) | (simp; omega) | omega) _ | refine Below.drew ?_ | assumption | refine Below.trans ?_ (Below.mono (by assumption) (by first | (simp; done) | (simp; omega) | omega))))).mono ?_); rintro e w3 ⟨rfl, hb3⟩; have hs3 := hb3.size; (try simp at hs3)))
    go_ret
    exact ⟨rfl, (by repeat (first | exact Below.refl _ _ | refine Below.setCell ?_ (by first | (simp; done) | (simp; omega) | omega) _ | refine Below.alloc ?_ (by first | (simp; done) | (simp; omega) | omega) _ | refine Below.drew ?_ | assumption | refine Below.trans ?_ (Below.mono (by assumption) (by first | (simp; done) | (simp; omega) | omega))))⟩

def BRel (w w8 wr : World) (n k : Nat) : Prop := k ≤ n ∧ Below w.heap.size w w8 ∧ Below w8.heap.size w8 wr
theorem dec_cases (t : List UInt8) : ∃ (L : List Part) (de : Int), L.length ≤ 8 ∧ ∀ e w', DecPost t e w' → ∃ A c, e = .returned (.tuple #[.slice A L.length c, .int .i64 de]) ∧ Parts w' A L := by
  cases h : dec t with
  | none => exact ⟨[], 10, by simp, fun e w' hp => ⟨none, 0, by unfold DecPost at hp; rw [h] at hp; exact hp, parts_nil _ _⟩⟩
  | some l => exact ⟨l, 0, (dec_facts h).2.1, fun e w' hp => by
      unfold DecPost at hp; rw [h] at hp
      obtain ⟨A, c, h1, h2, _⟩ := hp
      exact ⟨A, c, h1, h2⟩⟩

set_option maxHeartbeats 4000000 in
set_option maxRecDepth 100000 in
theorem bytes_main (A B : Option Addr) (n c m d : Nat) (l l' : List Part) (t : List UInt8) (hl : l.length = n) (hm : l'.length = m) (hi : ∀ p ∈ l, In64 p.n) (ht : t.length ≤ 2000)
    (fl : fewB l = true) (fm : fewB l' = true) (w : World) (T : Parts w A l) (U : Parts w B l') (ml : ML w) :
    Calls Tryd.prog 5 #[.slice A n c, .slice B m d, .string ⟨t.toArray⟩] w fun e w' => e = .returned (.bool true) ∧ Below w.heap.size w w' := by
  have hn : n ≤ 9223372036854775807 := by have := (few_yes fl).1; omega
  have hmn : m ≤ 9223372036854775807 := by have := (few_yes fm).1; omega
  have hn10 : n ≤ 10 := by have := (few_yes fl).1; omega
  have hm10 : m ≤ 10 := by have := (few_yes fm).1; omega
  have ht' : ¬ (2000 : Int) < t.length := by omega
  have hF := Lib.hid (fun W (hb : Below w.heap.size w W) => first_any W (ml.below hb))
  have FW1 : Hid (∀ W, Below w.heap.size w W → Calls Tryd.prog 8 #[.slice A n c] W fun e w' => e = .returned (.bool (fewB l)) ∧ Below W.heap.size W w') := Lib.hid fun W hb => few_any A n c l hl hn W (T.below hb)
  have FW2 : Hid (∀ W, Below w.heap.size w W → Calls Tryd.prog 8 #[.slice B m d] W fun e w' => e = .returned (.bool (fewB l')) ∧ Below W.heap.size W w') := Lib.hid fun W hb => few_any B m d l' hm hmn W (U.below hb)
  rw [fl] at FW1
  rw [fm] at FW2
  have hE : Hid (∀ W, Below w.heap.size w W → Calls Tryd.prog 9 #[.slice A n c] W fun e w' => e = .returned (.tuple #[.string ⟨(bytesE l).toArray⟩, .int .i64 (errE l)]) ∧ Below W.heap.size W w') := Lib.hid fun W hb =>
    encode_any A n c l hl (by omega) (fun _ p hp => ⟨by have := (few_yes fl).2 p hp; omega, hi p hp⟩) W (T.below hb) (ml.below hb)
  have hR : Hid (∀ W, Below w.heap.size w W → Calls Tryd.prog 17 #[.slice A n c] W fun e w' => e = .returned (.tuple #[.string ⟨(bytesE l).toArray⟩, .string ⟨(toE l).toArray⟩, .int .i64 (errE l)]) ∧ Below W.heap.size W w') := Lib.hid fun W hb =>
    prefix_any A n c l hl (by omega) (fun _ p hp => ⟨by have := (few_yes fl).2 p hp; omega, hi p hp⟩) W (T.below hb) (ml.below hb)
  have hP : Hid (∀ W, Below w.heap.size w W → Calls Tryd.prog 15 #[.slice A n c] W fun e w' => (∃ B d, e = .returned (.slice B n d) ∧ Parts w' B l) ∧ Below W.heap.size W w') := Lib.hid fun W hb => parts8_any A n c l hl (by omega) W (T.below hb)
  have hP2 : Hid (∀ W, Below w.heap.size w W → Calls Tryd.prog 15 #[.slice B m d] W fun e w' => (∃ B d, e = .returned (.slice B m d) ∧ Parts w' B l') ∧ Below W.heap.size W w') := Lib.hid fun W hb => parts8_any B m d l' hm (by omega) W (U.below hb)
  have hE8 : Hid (∀ X k W, Parts W X l → Calls Tryd.prog 14 #[.slice X n k] W fun e w' => e = .returned (.tuple #[.string ⟨(bytesE l).toArray⟩, .int .i64 (errE l)]) ∧ Below W.heap.size W w') := Lib.hid fun X k W hX =>
    e8_any X n k l hl (by omega) (fun _ p hp => ⟨by have := (few_yes fl).2 p hp; omega, hi p hp⟩) W hX
  have hC : Hid (∀ W, Below w.heap.size w W → Calls Tryd.prog 11 #[.slice A n c, .slice B m d] W fun e w' => e = .returned (.int .i64 (cmpL l l')) ∧ Below W.heap.size W w') := Lib.hid fun W hb => compare_any A B n c m d l l' hl hm (by omega) (by omega) W (T.below hb) (U.below hb)
  have hC8 : Hid (∀ X Y k j W, Parts W X l → Parts W Y l' → Calls Tryd.prog 18 #[.slice X n k, .slice Y m j] W fun e w' => e = .returned (.int .i64 (cmpL l l')) ∧ Below W.heap.size W w') := Lib.hid fun X Y k j W hX hY => c8_any X Y n k m j l l' hl hm (by omega) (by omega) W hX hY
  obtain ⟨L, de, hL8, hdc⟩ := dec_cases t
  obtain ⟨r, hr⟩ : ∃ r, L.length = r := ⟨_, rfl⟩
  have hD : Hid (∀ W, Calls Tryd.prog 12 #[.string ⟨t.toArray⟩] W fun e w' => (∃ A c, e = .returned (.tuple #[.slice A r c, .int .i64 de]) ∧ Parts w' A L) ∧ Below W.heap.size W w') := Lib.hid fun W => (decode_any t (by omega) W).mono fun e w' ⟨h1, h2⟩ => ⟨by have := hdc e w' h1; rwa [hr] at this, h2⟩
  have hD8 : Hid (∀ W, Calls Tryd.prog 16 #[.string ⟨t.toArray⟩] W fun e w' => (∃ A c, e = .returned (.tuple #[.slice A r c, .int .i64 de]) ∧ Parts w' A L) ∧ Below W.heap.size W w') := Lib.hid fun W => (d8_any t ht W).mono fun e w' ⟨h1, h2⟩ => ⟨by have := hdc e w' h1; rwa [hr] at this, h2⟩
  have CN := Lib.hid (fun n W => num_any n W)
  have HR := Lib.hid hr
  have hr8 : r ≤ 8 := by omega
  clear hL8
  have hbl : (bytesE l).length ≤ 200 := bytesE_le
  generalize cmpL l l' = v at *
  by_cases e0 : errE l = 0
  · have hz : toE l = bytesE l ++ [255] := by unfold toE; rw [if_pos e0]
    have HA := app_str (bytesE l) [255]
    rw [← hz] at HA
    rw [e0] at hE hR hE8
    have hsz : (⟨(bytesE l).toArray⟩ : ByteArray).size ≤ 200 := by simpa [ByteArray.size] using hbl
    clear e0 hz hbl fl fm T U ml hl hm hi hdc hr
    have hA2 : (⟨(bytesE l).toArray⟩ : ByteArray) ++ ⟨#[255]⟩ = ⟨(toE l).toArray⟩ := HA
    clear HA
    generalize (⟨(toE l).toArray⟩ : ByteArray) = z at *
    generalize (⟨(bytesE l).toArray⟩ : ByteArray) = x at *
    go_enter Tryd.func5, Tryd.ntmps5
    go_wp2_with (first
      | (go_at_call 7; refine (hF.out _ (by repeat (first | exact Below.refl _ _ | refine Below.setCell ?_ (by first | (simp; done) | (simp; omega) | omega) _ | refine Below.alloc ?_ (by first | (simp; done) | (simp; omega) | omega) _ | refine Below.drew ?_ | assumption | refine Below.trans ?_ (Below.mono (by assumption) (by first | (simp; done) | (simp; omega) | omega))))).mono ?_; rintro e w1 ⟨rfl, hb1⟩; obtain ⟨hc1, hf1⟩ := bcell hb1; have hs1 := hb1.size; (try simp at hs1))
      | (go_at_call 8; (with_reducible refine (FW1.out _ (by repeat (first | exact Below.refl _ _ | refine Below.setCell ?_ (by first | (simp; done) | (simp; omega) | omega) _ | refine Below.alloc ?_ (by first | (simp; done) | (simp; omega) | omega) _ | refine Below.drew ?_ | assumption | refine Below.trans ?_ (Below.mono (by assumption) (by first | (simp; done) | (simp; omega) | omega))))).mono ?_); rintro e w2 ⟨rfl, hb2⟩; have hs2 := hb2.size; (try simp at hs2))
      | (go_at_call 8; (with_reducible refine (FW2.out _ (by repeat (first | exact Below.refl _ _ | refine Below.setCell ?_ (by first | (simp; done) | (simp; omega) | omega) _ | refine Below.alloc ?_ (by first | (simp; done) | (simp; omega) | omega) _ | refine Below.drew ?_ | assumption | refine Below.trans ?_ (Below.mono (by assumption) (by first | (simp; done) | (simp; omega) | omega))))).mono ?_); rintro e w3 ⟨rfl, hb3⟩; have hs3 := hb3.size; (try simp at hs3))
      | (go_at_call 9; (with_reducible refine (hE.out _ (by repeat (first | exact Below.refl _ _ | refine Below.setCell ?_ (by first | (simp; done) | (simp; omega) | omega) _ | refine Below.alloc ?_ (by first | (simp; done) | (simp; omega) | omega) _ | refine Below.drew ?_ | assumption | refine Below.trans ?_ (Below.mono (by assumption) (by first | (simp; done) | (simp; omega) | omega))))).mono ?_); rintro e w4 ⟨rfl, hb4⟩; have hs4 := hb4.size; (try simp at hs4))
      | (go_at_call 15; (with_reducible refine (hP.out _ (by repeat (first | exact Below.refl _ _ | refine Below.setCell ?_ (by first | (simp; done) | (simp; omega) | omega) _ | refine Below.alloc ?_ (by first | (simp; done) | (simp; omega) | omega) _ | refine Below.drew ?_ | assumption | refine Below.trans ?_ (Below.mono (by assumption) (by first | (simp; done) | (simp; omega) | omega))))).mono ?_); rintro e w5 ⟨⟨X1, d1, rfl, hX1⟩, hb5⟩; have hs5 := hb5.size; (try simp at hs5); have HX1 := Lib.hid hX1; clear hX1)
      | (go_at_call 14; (with_reducible refine (hE8.out _ _ _ (HX1.out.below (by repeat (first | exact Below.refl _ _ | refine Below.setCell ?_ (by first | (simp; done) | (simp; omega) | omega) _ | refine Below.alloc ?_ (by first | (simp; done) | (simp; omega) | omega) _ | refine Below.drew ?_ | assumption | refine Below.trans ?_ (Below.mono (by assumption) (by first | (simp; done) | (simp; omega) | omega)))))).mono ?_); rintro e w6 ⟨rfl, hb6⟩; have hs6 := hb6.size; (try simp at hs6))
      | (go_at_call 12; (with_reducible refine (hD.out _).mono ?_); rintro e w7 ⟨⟨D1, c1, rfl, hD1⟩, hb7⟩; have hs7 := hb7.size; (try simp at hs7); have HD1 := Lib.hid hD1; clear hD1)
      | (go_at_call 16; (with_reducible refine (hD8.out _).mono ?_); rintro e w8 ⟨⟨D2, c2, rfl, hD2⟩, hb8⟩; have hs8 := hb8.size; (try simp at hs8); have HD2 := Lib.hid hD2; clear hD2)
      | (go_at_call 10; refine (CN.out _ _).mono ?_; rintro e w9 ⟨rfl, hb9⟩; obtain ⟨hc9, hf9⟩ := bcell hb9; have hs9 := hb9.size; (try simp at hs9)))
    have hbw8 : Below w.heap.size w w8 := (by repeat (first | exact Below.refl _ _ | refine Below.setCell ?_ (by first | (simp; done) | (simp; omega) | omega) _ | refine Below.alloc ?_ (by first | (simp; done) | (simp; omega) | omega) _ | refine Below.drew ?_ | assumption | refine Below.trans ?_ (Below.mono (by assumption) (by first | (simp; done) | (simp; omega) | omega))))
    have HB8 := Lib.hid hbw8
    have HP1 : Hid (∀ W, Below w8.heap.size w8 W → Parts W D1 L) := Lib.hid fun W hb => (HD1.out.below (by repeat (first | exact Below.refl _ _ | refine Below.setCell ?_ (by first | (simp; done) | (simp; omega) | omega) _ | refine Below.alloc ?_ (by first | (simp; done) | (simp; omega) | omega) _ | refine Below.drew ?_ | assumption | refine Below.trans ?_ (Below.mono (by assumption) (by first | (simp; done) | (simp; omega) | omega))))).below hb
    have HP2 : Hid (∀ W, Below w8.heap.size w8 W → Parts W D2 L) := Lib.hid fun W hb => (HD2.out.below (by repeat (first | exact Below.refl _ _ | refine Below.setCell ?_ (by first | (simp; done) | (simp; omega) | omega) _ | refine Below.alloc ?_ (by first | (simp; done) | (simp; omega) | omega) _ | refine Below.drew ?_ | assumption | refine Below.trans ?_ (Below.mono (by assumption) (by first | (simp; done) | (simp; omega) | omega))))).below hb
    go_loopw [17] (fun i wr => ∃ k : Nat, i = .int .i64 k ∧ BRel w w8 wr r k) (fun i _ => r - (intOf i).toNat)
    case atStart => exact ⟨0, rfl, Nat.zero_le _, HB8.out, (by repeat (first | exact Below.refl _ _ | refine Below.setCell ?_ (by first | (simp; done) | (simp; omega) | omega) _ | refine Below.alloc ?_ (by first | (simp; done) | (simp; omega) | omega) _ | refine Below.drew ?_ | assumption | refine Below.trans ?_ (Below.mono (by assumption) (by first | (simp; done) | (simp; omega) | omega))))⟩
    case round =>
      obtain ⟨k, rfl, hk, -, hbl⟩ := hrel
      obtain ⟨wo, rfl⟩ : ∃ wo : World, wo = wr := ⟨_, rfl⟩
      have hsl := hbl.size
      have hws := HB8.out.size
      have hwr : Below w.heap.size w wo := HB8.out.trans (hbl.mono hws)
      by_cases hkr : k < r
      · have hkr' : (k : Int) < r := by omega
        obtain ⟨p, hp⟩ : ∃ p, L[k]? = some p := ⟨_, List.getElem?_eq_getElem (by rw [HR.out]; exact hkr)⟩
        obtain ⟨b, off, rfl, hbw, x0, x1, x2⟩ := HP1.out wo hbl k p hp
        obtain ⟨b', off', rfl, hbw', y0, y1, y2⟩ := HP2.out wo hbl k p hp
        clear hp
        go_wp2
        go_quiet (fail)
        go_wp2
        go_roundw
        case rel => exact ⟨k + 1, by go_num, by omega, HB8.out, (by repeat (first | exact Below.refl _ _ | refine Below.setCell ?_ (by first | (simp; done) | (simp; omega) | omega) _ | refine Below.alloc ?_ (by first | (simp; done) | (simp; omega) | omega) _ | refine below_drewN ?_ _ | refine Below.drew ?_ | assumption | refine Below.trans ?_ (Below.mono (by assumption) (by first | (simp; done) | (simp; omega) | omega))))⟩
        case measure => first | (simp [intOf]; done) | (simp [intOf]; omega)
      · have hkr' : ¬ (k : Int) < r := by omega
        go_wp2_with (first
          | (go_at_call 17; (with_reducible refine (hR.out _ (by repeat (first | exact Below.refl _ _ | refine Below.setCell ?_ (by first | (simp; done) | (simp; omega) | omega) _ | refine Below.alloc ?_ (by first | (simp; done) | (simp; omega) | omega) _ | refine Below.drew ?_ | assumption | refine Below.trans ?_ (Below.mono (by assumption) (by first | (simp; done) | (simp; omega) | omega))))).mono ?_); rintro e w10 ⟨rfl, hb10⟩; have hs10 := hb10.size; (try simp at hs10))
          | (go_at_call 11; (with_reducible refine (hC.out _ (by repeat (first | exact Below.refl _ _ | refine Below.setCell ?_ (by first | (simp; done) | (simp; omega) | omega) _ | refine Below.alloc ?_ (by first | (simp; done) | (simp; omega) | omega) _ | refine Below.drew ?_ | assumption | refine Below.trans ?_ (Below.mono (by assumption) (by first | (simp; done) | (simp; omega) | omega))))).mono ?_); rintro e w11 ⟨rfl, hb11⟩; have hs11 := hb11.size; (try simp at hs11))
          | (go_at_call 15; (with_reducible refine (hP.out _ (by repeat (first | exact Below.refl _ _ | refine Below.setCell ?_ (by first | (simp; done) | (simp; omega) | omega) _ | refine Below.alloc ?_ (by first | (simp; done) | (simp; omega) | omega) _ | refine Below.drew ?_ | assumption | refine Below.trans ?_ (Below.mono (by assumption) (by first | (simp; done) | (simp; omega) | omega))))).mono ?_); rintro e w5 ⟨⟨X1, d1, rfl, hX1⟩, hb5⟩; have hs5 := hb5.size; (try simp at hs5); have HX1 := Lib.hid hX1; clear hX1)
          | (go_at_call 15; (with_reducible refine (hP2.out _ (by repeat (first | exact Below.refl _ _ | refine Below.setCell ?_ (by first | (simp; done) | (simp; omega) | omega) _ | refine Below.alloc ?_ (by first | (simp; done) | (simp; omega) | omega) _ | refine Below.drew ?_ | assumption | refine Below.trans ?_ (Below.mono (by assumption) (by first | (simp; done) | (simp; omega) | omega))))).mono ?_); rintro e w12 ⟨⟨X3, d3, rfl, hX3⟩, hb12⟩; have hs12 := hb12.size; (try simp at hs12); have HX3 := Lib.hid hX3; clear hX3)
          | (go_at_call 18; (with_reducible refine (hC8.out _ _ _ _ _ (HX1.out.below (by repeat (first | exact Below.refl _ _ | refine Below.setCell ?_ (by first | (simp; done) | (simp; omega) | omega) _ | refine Below.alloc ?_ (by first | (simp; done) | (simp; omega) | omega) _ | refine Below.drew ?_ | assumption | refine Below.trans ?_ (Below.mono (by assumption) (by first | (simp; done) | (simp; omega) | omega))))) (HX3.out.below (by repeat (first | exact Below.refl _ _ | refine Below.setCell ?_ (by first | (simp; done) | (simp; omega) | omega) _ | refine Below.alloc ?_ (by first | (simp; done) | (simp; omega) | omega) _ | refine Below.drew ?_ | assumption | refine Below.trans ?_ (Below.mono (by assumption) (by first | (simp; done) | (simp; omega) | omega)))))).mono ?_); rintro e w13 ⟨rfl, hb13⟩; have hs13 := hb13.size; (try simp at hs13))
          | (go_at_call 10; refine (CN.out _ _).mono ?_; rintro e w9 ⟨rfl, hb9⟩; obtain ⟨hc9, hf9⟩ := bcell hb9; have hs9 := hb9.size; (try simp at hs9)))
        go_ret
        exact ⟨rfl, (by repeat (first | exact Below.refl _ _ | refine Below.setCell ?_ (by first | (simp; done) | (simp; omega) | omega) _ | refine Below.alloc ?_ (by first | (simp; done) | (simp; omega) | omega) _ | refine Below.drew ?_ | assumption | refine Below.trans ?_ (Below.mono (by assumption) (by first | (simp; done) | (simp; omega) | omega))))⟩
  · have hz : toE l = [] := if_neg e0
    have hx : bytesE l = [] := bytesE_n e0
    rw [hx] at hE hE8 hR
    rw [hz] at hR
    obtain ⟨ex, hex⟩ : ∃ ex, errE l = ex := ⟨_, rfl⟩
    rw [hex] at hE hE8 hR e0
    have x0 : (ex != 0) = true := by simpa using e0
    have x1 : (ex == 0) = false := by simpa using e0
    have hem : (⟨#[]⟩ : ByteArray) ++ ⟨#[]⟩ = ⟨#[]⟩ := app_str [] []
    clear hx hz hex e0 hbl fl fm T U ml hl hm hi hdc hr
    go_enter Tryd.func5, Tryd.ntmps5
    go_wp2_with (first
      | (go_at_call 7; refine (hF.out _ (by repeat (first | exact Below.refl _ _ | refine Below.setCell ?_ (by first | (simp; done) | (simp; omega) | omega) _ | refine Below.alloc ?_ (by first | (simp; done) | (simp; omega) | omega) _ | refine Below.drew ?_ | assumption | refine Below.trans ?_ (Below.mono (by assumption) (by first | (simp; done) | (simp; omega) | omega))))).mono ?_; rintro e w1 ⟨rfl, hb1⟩; obtain ⟨hc1, hf1⟩ := bcell hb1; have hs1 := hb1.size; (try simp at hs1))
      | (go_at_call 8; (with_reducible refine (FW1.out _ (by repeat (first | exact Below.refl _ _ | refine Below.setCell ?_ (by first | (simp; done) | (simp; omega) | omega) _ | refine Below.alloc ?_ (by first | (simp; done) | (simp; omega) | omega) _ | refine Below.drew ?_ | assumption | refine Below.trans ?_ (Below.mono (by assumption) (by first | (simp; done) | (simp; omega) | omega))))).mono ?_); rintro e w2 ⟨rfl, hb2⟩; have hs2 := hb2.size; (try simp at hs2))
      | (go_at_call 8; (with_reducible refine (FW2.out _ (by repeat (first | exact Below.refl _ _ | refine Below.setCell ?_ (by first | (simp; done) | (simp; omega) | omega) _ | refine Below.alloc ?_ (by first | (simp; done) | (simp; omega) | omega) _ | refine Below.drew ?_ | assumption | refine Below.trans ?_ (Below.mono (by assumption) (by first | (simp; done) | (simp; omega) | omega))))).mono ?_); rintro e w3 ⟨rfl, hb3⟩; have hs3 := hb3.size; (try simp at hs3))
      | (go_at_call 9; (with_reducible refine (hE.out _ (by repeat (first | exact Below.refl _ _ | refine Below.setCell ?_ (by first | (simp; done) | (simp; omega) | omega) _ | refine Below.alloc ?_ (by first | (simp; done) | (simp; omega) | omega) _ | refine Below.drew ?_ | assumption | refine Below.trans ?_ (Below.mono (by assumption) (by first | (simp; done) | (simp; omega) | omega))))).mono ?_); rintro e w4 ⟨rfl, hb4⟩; have hs4 := hb4.size; (try simp at hs4))
      | (go_at_call 15; (with_reducible refine (hP.out _ (by repeat (first | exact Below.refl _ _ | refine Below.setCell ?_ (by first | (simp; done) | (simp; omega) | omega) _ | refine Below.alloc ?_ (by first | (simp; done) | (simp; omega) | omega) _ | refine Below.drew ?_ | assumption | refine Below.trans ?_ (Below.mono (by assumption) (by first | (simp; done) | (simp; omega) | omega))))).mono ?_); rintro e w5 ⟨⟨X1, d1, rfl, hX1⟩, hb5⟩; have hs5 := hb5.size; (try simp at hs5); have HX1 := Lib.hid hX1; clear hX1)
      | (go_at_call 14; (with_reducible refine (hE8.out _ _ _ (HX1.out.below (by repeat (first | exact Below.refl _ _ | refine Below.setCell ?_ (by first | (simp; done) | (simp; omega) | omega) _ | refine Below.alloc ?_ (by first | (simp; done) | (simp; omega) | omega) _ | refine Below.drew ?_ | assumption | refine Below.trans ?_ (Below.mono (by assumption) (by first | (simp; done) | (simp; omega) | omega)))))).mono ?_); rintro e w6 ⟨rfl, hb6⟩; have hs6 := hb6.size; (try simp at hs6))
      | (go_at_call 12; (with_reducible refine (hD.out _).mono ?_); rintro e w7 ⟨⟨D1, c1, rfl, hD1⟩, hb7⟩; have hs7 := hb7.size; (try simp at hs7); have HD1 := Lib.hid hD1; clear hD1)
      | (go_at_call 16; (with_reducible refine (hD8.out _).mono ?_); rintro e w8 ⟨⟨D2, c2, rfl, hD2⟩, hb8⟩; have hs8 := hb8.size; (try simp at hs8); have HD2 := Lib.hid hD2; clear hD2)
      | (go_at_call 10; refine (CN.out _ _).mono ?_; rintro e w9 ⟨rfl, hb9⟩; obtain ⟨hc9, hf9⟩ := bcell hb9; have hs9 := hb9.size; (try simp at hs9)))
    have hbw8 : Below w.heap.size w w8 := (by repeat (first | exact Below.refl _ _ | refine Below.setCell ?_ (by first | (simp; done) | (simp; omega) | omega) _ | refine Below.alloc ?_ (by first | (simp; done) | (simp; omega) | omega) _ | refine Below.drew ?_ | assumption | refine Below.trans ?_ (Below.mono (by assumption) (by first | (simp; done) | (simp; omega) | omega))))
    have HB8 := Lib.hid hbw8
    have HP1 : Hid (∀ W, Below w8.heap.size w8 W → Parts W D1 L) := Lib.hid fun W hb => (HD1.out.below (by repeat (first | exact Below.refl _ _ | refine Below.setCell ?_ (by first | (simp; done) | (simp; omega) | omega) _ | refine Below.alloc ?_ (by first | (simp; done) | (simp; omega) | omega) _ | refine Below.drew ?_ | assumption | refine Below.trans ?_ (Below.mono (by assumption) (by first | (simp; done) | (simp; omega) | omega))))).below hb
    have HP2 : Hid (∀ W, Below w8.heap.size w8 W → Parts W D2 L) := Lib.hid fun W hb => (HD2.out.below (by repeat (first | exact Below.refl _ _ | refine Below.setCell ?_ (by first | (simp; done) | (simp; omega) | omega) _ | refine Below.alloc ?_ (by first | (simp; done) | (simp; omega) | omega) _ | refine Below.drew ?_ | assumption | refine Below.trans ?_ (Below.mono (by assumption) (by first | (simp; done) | (simp; omega) | omega))))).below hb
    go_loopw [17] (fun i wr => ∃ k : Nat, i = .int .i64 k ∧ BRel w w8 wr r k) (fun i _ => r - (intOf i).toNat)
    case atStart => exact ⟨0, rfl, Nat.zero_le _, HB8.out, (by repeat (first | exact Below.refl _ _ | refine Below.setCell ?_ (by first | (simp; done) | (simp; omega) | omega) _ | refine Below.alloc ?_ (by first | (simp; done) | (simp; omega) | omega) _ | refine Below.drew ?_ | assumption | refine Below.trans ?_ (Below.mono (by assumption) (by first | (simp; done) | (simp; omega) | omega))))⟩
    case round =>
      obtain ⟨k, rfl, hk, -, hbl⟩ := hrel
      obtain ⟨wo, rfl⟩ : ∃ wo : World, wo = wr := ⟨_, rfl⟩
      have hsl := hbl.size
      have hws := HB8.out.size
      have hwr : Below w.heap.size w wo := HB8.out.trans (hbl.mono hws)
      by_cases hkr : k < r
      · have hkr' : (k : Int) < r := by omega
        obtain ⟨p, hp⟩ : ∃ p, L[k]? = some p := ⟨_, List.getElem?_eq_getElem (by rw [HR.out]; exact hkr)⟩
        obtain ⟨b, off, rfl, hbw, x0, x1, x2⟩ := HP1.out wo hbl k p hp
        obtain ⟨b', off', rfl, hbw', y0, y1, y2⟩ := HP2.out wo hbl k p hp
        clear hp
        go_wp2
        go_quiet (fail)
        go_wp2
        go_roundw
        case rel => exact ⟨k + 1, by go_num, by omega, HB8.out, (by repeat (first | exact Below.refl _ _ | refine Below.setCell ?_ (by first | (simp; done) | (simp; omega) | omega) _ | refine Below.alloc ?_ (by first | (simp; done) | (simp; omega) | omega) _ | refine below_drewN ?_ _ | refine Below.drew ?_ | assumption | refine Below.trans ?_ (Below.mono (by assumption) (by first | (simp; done) | (simp; omega) | omega))))⟩
        case measure => first | (simp [intOf]; done) | (simp [intOf]; omega)
      · have hkr' : ¬ (k : Int) < r := by omega
        go_wp2_with (first
          | (go_at_call 17; (with_reducible refine (hR.out _ (by repeat (first | exact Below.refl _ _ | refine Below.setCell ?_ (by first | (simp; done) | (simp; omega) | omega) _ | refine Below.alloc ?_ (by first | (simp; done) | (simp; omega) | omega) _ | refine Below.drew ?_ | assumption | refine Below.trans ?_ (Below.mono (by assumption) (by first | (simp; done) | (simp; omega) | omega))))).mono ?_); rintro e w10 ⟨rfl, hb10⟩; have hs10 := hb10.size; (try simp at hs10))
          | (go_at_call 11; (with_reducible refine (hC.out _ (by repeat (first | exact Below.refl _ _ | refine Below.setCell ?_ (by first | (simp; done) | (simp; omega) | omega) _ | refine Below.alloc ?_ (by first | (simp; done) | (simp; omega) | omega) _ | refine Below.drew ?_ | assumption | refine Below.trans ?_ (Below.mono (by assumption) (by first | (simp; done) | (simp; omega) | omega))))).mono ?_); rintro e w11 ⟨rfl, hb11⟩; have hs11 := hb11.size; (try simp at hs11))
          | (go_at_call 15; (with_reducible refine (hP.out _ (by repeat (first | exact Below.refl _ _ | refine Below.setCell ?_ (by first | (simp; done) | (simp; omega) | omega) _ | refine Below.alloc ?_ (by first | (simp; done) | (simp; omega) | omega) _ | refine Below.drew ?_ | assumption | refine Below.trans ?_ (Below.mono (by assumption) (by first | (simp; done) | (simp; omega) | omega))))).mono ?_); rintro e w5 ⟨⟨X1, d1, rfl, hX1⟩, hb5⟩; have hs5 := hb5.size; (try simp at hs5); have HX1 := Lib.hid hX1; clear hX1)
          | (go_at_call 15; (with_reducible refine (hP2.out _ (by repeat (first | exact Below.refl _ _ | refine Below.setCell ?_ (by first | (simp; done) | (simp; omega) | omega) _ | refine Below.alloc ?_ (by first | (simp; done) | (simp; omega) | omega) _ | refine Below.drew ?_ | assumption | refine Below.trans ?_ (Below.mono (by assumption) (by first | (simp; done) | (simp; omega) | omega))))).mono ?_); rintro e w12 ⟨⟨X3, d3, rfl, hX3⟩, hb12⟩; have hs12 := hb12.size; (try simp at hs12); have HX3 := Lib.hid hX3; clear hX3)
          | (go_at_call 18; (with_reducible refine (hC8.out _ _ _ _ _ (HX1.out.below (by repeat (first | exact Below.refl _ _ | refine Below.setCell ?_ (by first | (simp; done) | (simp; omega) | omega) _ | refine Below.alloc ?_ (by first | (simp; done) | (simp; omega) | omega) _ | refine Below.drew ?_ | assumption | refine Below.trans ?_ (Below.mono (by assumption) (by first | (simp; done) | (simp; omega) | omega))))) (HX3.out.below (by repeat (first | exact Below.refl _ _ | refine Below.setCell ?_ (by first | (simp; done) | (simp; omega) | omega) _ | refine Below.alloc ?_ (by first | (simp; done) | (simp; omega) | omega) _ | refine Below.drew ?_ | assumption | refine Below.trans ?_ (Below.mono (by assumption) (by first | (simp; done) | (simp; omega) | omega)))))).mono ?_); rintro e w13 ⟨rfl, hb13⟩; have hs13 := hb13.size; (try simp at hs13))
          | (go_at_call 10; refine (CN.out _ _).mono ?_; rintro e w9 ⟨rfl, hb9⟩; obtain ⟨hc9, hf9⟩ := bcell hb9; have hs9 := hb9.size; (try simp at hs9)))
        go_ret
        exact ⟨rfl, (by repeat (first | exact Below.refl _ _ | refine Below.setCell ?_ (by first | (simp; done) | (simp; omega) | omega) _ | refine Below.alloc ?_ (by first | (simp; done) | (simp; omega) | omega) _ | refine Below.drew ?_ | assumption | refine Below.trans ?_ (Below.mono (by assumption) (by first | (simp; done) | (simp; omega) | omega))))⟩
theorem bytes_walk (A B : Option Addr) (n c m d : Nat) (l l' : List Part) (t : List UInt8) (hl : l.length = n) (hm : l'.length = m) (hn : n ≤ 9223372036854775807) (hmn : m ≤ 9223372036854775807) (hi : ∀ p ∈ l, In64 p.n) (ht : t.length ≤ 9223372036854775807)
    (w : World) (T : Parts w A l) (U : Parts w B l') (ml : ML w) :
    Calls Tryd.prog 5 #[.slice A n c, .slice B m d, .string ⟨t.toArray⟩] w fun e w' => e = .returned (.bool true) ∧ Below w.heap.size w w' := by
  cases f1 : fewB l with
  | false => exact bytes_few A B n c m d l l' t hl hm hn hmn ht (.inl f1) w T U ml
  | true =>
    cases f2 : fewB l' with
    | false => exact bytes_few A B n c m d l l' t hl hm hn hmn ht (.inr (.inl ⟨f1, f2⟩)) w T U ml
    | true =>
      by_cases h : 2000 < t.length
      · exact bytes_few A B n c m d l l' t hl hm hn hmn ht (.inr (.inr ⟨f1, f2, h⟩)) w T U ml
      · exact bytes_main A B n c m d l l' t hl hm hi (by omega) f1 f2 w T U ml
end Go.Proofs.YtjccadfaiahkkaaDoor
