/-
  The walk of KeysBack.
-/
import Derived.Test.YtjccadfaiahkkaaDoorKr
namespace Go.Proofs.YtjccadfaiahkkaaDoor
set_option linter.all false
open Go.RowKit
attribute [local go_sem] cell_set_self lt_1 lt_2 lt_3 lt_4 lt_5 lt_6

/-- exref.Begins, where it is so. -/
theorem begins_yes (p r : List UInt8) (hs : p.length + r.length ≤ 1000000) (w : World) : Calls Tryd.prog 13 #[.string ⟨(p ++ r).toArray⟩, .string ⟨p.toArray⟩] w fun e w' => e = .returned (.bool true) ∧ Below w.heap.size w w' := by
  have e1 : (⟨(p ++ r).toArray⟩ : ByteArray).extract 0 (⟨p.toArray⟩ : ByteArray).size = ⟨p.toArray⟩ := by
    have := ext_front p r
    rwa [show (⟨p.toArray⟩ : ByteArray).size = p.length from by simp [ByteArray.size]]
  have h1 : (⟨p.toArray⟩ : ByteArray).size ≤ (⟨(p ++ r).toArray⟩ : ByteArray).size := by simp [ByteArray.size]
  have h2 : ((⟨p.toArray⟩ : ByteArray).size : Int) ≤ (⟨(p ++ r).toArray⟩ : ByteArray).size := by omega
  have h3 : (⟨(p ++ r).toArray⟩ : ByteArray).size ≤ 1000000 := by simp [ByteArray.size]; omega
  generalize (⟨(p ++ r).toArray⟩ : ByteArray) = a at *
  generalize (⟨p.toArray⟩ : ByteArray) = b at *
  go_enter Tryd.func13, Tryd.ntmps13
  go_wp2
  go_ret
  exact ⟨rfl, (by repeat (first | exact Below.refl _ _ | refine Below.setCell ?_ (by first | (simp; done) | (simp; omega) | omega) _ | refine Below.alloc ?_ (by first | (simp; done) | (simp; omega) | omega) _ | refine Below.drew ?_ | assumption | refine Below.trans ?_ (Below.mono (by assumption) (by first | (simp; done) | (simp; omega) | omega))))⟩

theorem en_mem_le {l : List Part} {p : Part} (hp : p ∈ l) : (enP p).length ≤ (en l).length := by
  induction l with
  | nil => cases hp
  | cons q l ih =>
    rw [en_cons, List.length_append]
    rcases List.mem_cons.1 hp with rfl | hp
    · omega
    · have := ih hp; omega
theorem enP_text {p : Part} (h : nrm p = p) : p.s.length ≤ (enP p).length := by
  unfold nrm at h
  unfold enP
  split at h
  · rw [← h]; simp
  · rename_i h1
    rw [if_neg h1]
    have := esc_ge p.s
    simp; omega
theorem dec_facts {t : List UInt8} {l : List Part} (h : dec t = some l) : t = en l ∧ l.length ≤ 8 ∧ t.length ≤ 200 ∧ (∀ p ∈ l, okP p) ∧ (∀ p ∈ l, p.s.length ≤ 200) := by
  unfold dec at h
  split at h
  · cases h
  · obtain ⟨h1, h2, h3, h4⟩ := decL_back 8 t h
    refine ⟨h1, h2, by omega, h3, fun p hp => ?_⟩
    have hn : nrm p = p := by
      obtain ⟨i, hi⟩ := List.getElem?_of_mem hp
      have := congrArg (·[i]?) h4
      simp [hi] at this
      exact this
    have := enP_text hn
    have := en_mem_le hp
    rw [← h1] at this
    omega
theorem take_facts {l : List Part} {k : Nat} (h8 : l.length ≤ 8) (hk : ∀ p ∈ l, okP p) (hl : (en l).length ≤ 200) : errE (l.take k) = 0 := by
  refine errE_fine (by rw [List.length_take]; omega) (fun p hp => (hk p (List.mem_of_mem_take hp)).1) ?_
  have e : en l = en (l.take k) ++ en (l.drop k) := by rw [← en_append, List.take_append_drop]
  rw [e, List.length_append] at hl
  omega
def BackRel (w w5 wr : World) (n k : Nat) : Prop := k ≤ n + 1 ∧ Below w.heap.size w w5 ∧ Below w5.heap.size w5 wr

set_option maxHeartbeats 1000000 in
set_option maxRecDepth 100000 in
theorem back_walk (t : List UInt8) (ht : t.length ≤ 9223372036854775807) (w : World) (ml : ML w) :
    Calls Tryd.prog 4 #[.string ⟨t.toArray⟩] w fun e w' => e = .returned (.bool true) ∧ Below w.heap.size w w' := by
  have hF := Lib.hid (fun W (hb : Below w.heap.size w W) => first_any W (ml.below hb))
  have CN := Lib.hid (fun n W => num_any n W)
  by_cases big : 2000 < t.length
  · have big' : (2000 : Int) < t.length := by omega
    go_enter Tryd.func4, Tryd.ntmps4
    go_wp2_with (first | (go_at_call 7; refine (hF.out _ (by repeat (first | exact Below.refl _ _ | refine Below.setCell ?_ (by first | (simp; done) | (simp; omega) | omega) _ | refine Below.alloc ?_ (by first | (simp; done) | (simp; omega) | omega) _ | refine Below.drew ?_ | assumption | refine Below.trans ?_ (Below.mono (by assumption) (by first | (simp; done) | (simp; omega) | omega))))).mono ?_; rintro e w1 ⟨rfl, hb1⟩; obtain ⟨hc1, hf1⟩ := bcell hb1; have hs1 := hb1.size; (try simp at hs1)))
    go_ret
    exact ⟨rfl, (by repeat (first | exact Below.refl _ _ | refine Below.setCell ?_ (by first | (simp; done) | (simp; omega) | omega) _ | refine Below.alloc ?_ (by first | (simp; done) | (simp; omega) | omega) _ | refine Below.drew ?_ | assumption | refine Below.trans ?_ (Below.mono (by assumption) (by first | (simp; done) | (simp; omega) | omega))))⟩
  · have big' : ¬ (2000 : Int) < t.length := by omega
    have hD := Lib.hid (fun W => decode_any t (by omega) W)
    cases hd : dec t with
    | none =>
      have hDn : Hid (∀ W, Calls Tryd.prog 12 #[.string ⟨t.toArray⟩] W fun e w' => e = .returned (.tuple #[.slice none 0 0, .int .i64 10]) ∧ Below W.heap.size W w') := Lib.hid fun W => (hD.out W).mono fun e w' ⟨h1, h2⟩ => ⟨by unfold DecPost at h1; rw [hd] at h1; exact h1, h2⟩
      clear hd hD
      go_enter Tryd.func4, Tryd.ntmps4
      go_wp2_with (first | (go_at_call 7; refine (hF.out _ (by repeat (first | exact Below.refl _ _ | refine Below.setCell ?_ (by first | (simp; done) | (simp; omega) | omega) _ | refine Below.alloc ?_ (by first | (simp; done) | (simp; omega) | omega) _ | refine Below.drew ?_ | assumption | refine Below.trans ?_ (Below.mono (by assumption) (by first | (simp; done) | (simp; omega) | omega))))).mono ?_; rintro e w1 ⟨rfl, hb1⟩; obtain ⟨hc1, hf1⟩ := bcell hb1; have hs1 := hb1.size; (try simp at hs1)) | (go_at_call 12; refine (hDn.out _).mono ?_; rintro e w2 ⟨rfl, hb2⟩; obtain ⟨hc2, hf2⟩ := bcell hb2; have hs2 := hb2.size; (try simp at hs2)) | (go_at_call 10; refine (CN.out _ _).mono ?_; rintro e w6 ⟨rfl, hb6⟩; obtain ⟨hc6, hf6⟩ := bcell hb6; have hs6 := hb6.size; (try simp at hs6)))
      go_ret
      exact ⟨rfl, (by repeat (first | exact Below.refl _ _ | refine Below.setCell ?_ (by first | (simp; done) | (simp; omega) | omega) _ | refine Below.alloc ?_ (by first | (simp; done) | (simp; omega) | omega) _ | refine Below.drew ?_ | assumption | refine Below.trans ?_ (Below.mono (by assumption) (by first | (simp; done) | (simp; omega) | omega))))⟩
    | some l =>
      obtain ⟨f1, f2, f3, f4, f5⟩ := dec_facts hd
      obtain ⟨n, hn⟩ : ∃ n, l.length = n := ⟨_, rfl⟩
      have hDy : Hid (∀ W, Calls Tryd.prog 12 #[.string ⟨t.toArray⟩] W fun e w' => (∃ A c, e = .returned (.tuple #[.slice A n c, .int .i64 0]) ∧ Parts w' A l ∧ n ≤ c) ∧ Below W.heap.size W w') := Lib.hid fun W => (hD.out W).mono fun e w' ⟨h1, h2⟩ => ⟨by unfold DecPost at h1; rw [hd] at h1; simp only [hn] at h1; exact h1, h2⟩
      have e0 : errE l = 0 := errE_fine f2 (fun p hp => (f4 p hp).1) (by rw [← f1]; exact f3)
      have hE : Hid (∀ W A c, Parts W A l → ML W → Calls Tryd.prog 9 #[.slice A n c] W fun e w' => e = .returned (.tuple #[.string ⟨t.toArray⟩, .int .i64 0]) ∧ Below W.heap.size W w') := Lib.hid fun W A c T m => by
        have h := encode_any A n c l hn (by omega) (fun _ p hp => ⟨by have := f5 p hp; omega, (f4 p hp).2⟩) W T m
        rwa [bytesE_0 e0, e0, ← f1] at h
      have hEk : Hid (∀ k, k ≤ n → ∀ W A c, Parts W A l → ML W → Calls Tryd.prog 9 #[.slice A k c] W fun e w' => e = .returned (.tuple #[.string ⟨(en (l.take k)).toArray⟩, .int .i64 0]) ∧ Below W.heap.size W w') := Lib.hid fun k hk W A c T m => by
        have ek : errE (l.take k) = 0 := take_facts f2 f4 (by rw [← f1]; exact f3)
        have h := encode_any A k c (l.take k) (by rw [List.length_take]; omega) (by omega) (fun _ p hp => ⟨by have := f5 p (List.mem_of_mem_take hp); omega, (f4 p (List.mem_of_mem_take hp)).2⟩) W (T.take k) m
        rwa [bytesE_0 ek, ek] at h
      have hB : Hid (∀ k W, Calls Tryd.prog 13 #[.string ⟨t.toArray⟩, .string ⟨(en (l.take k)).toArray⟩] W fun e w' => e = .returned (.bool true) ∧ Below W.heap.size W w') := Lib.hid fun k W => by
        have e : t = en (l.take k) ++ en (l.drop k) := by rw [f1, ← en_append, List.take_append_drop]
        have hl := congrArg List.length e
        rw [List.length_append] at hl
        have h := begins_yes (en (l.take k)) (en (l.drop k)) (by omega) W
        rwa [← e] at h
      have hn8 : n ≤ 8 := by omega
      have hn8' : (n : Int) ≤ 8 := by omega
      have hn8'' : ¬ (8 : Int) < n := by omega
      have hM := Lib.hid (fun W (hb : Below w.heap.size w W) => ml.below hb)
      have ht2 : (t.length : Int) ≤ 200 := by omega
      have ht2' : ¬ (200 : Int) < t.length := by omega
      clear hd hD f1 f2 f3 f4 f5 hn e0 ml
      go_enter Tryd.func4, Tryd.ntmps4
      go_wp2_with (first
        | (go_at_call 7; refine (hF.out _ (by repeat (first | exact Below.refl _ _ | refine Below.setCell ?_ (by first | (simp; done) | (simp; omega) | omega) _ | refine Below.alloc ?_ (by first | (simp; done) | (simp; omega) | omega) _ | refine Below.drew ?_ | assumption | refine Below.trans ?_ (Below.mono (by assumption) (by first | (simp; done) | (simp; omega) | omega))))).mono ?_; rintro e w1 ⟨rfl, hb1⟩; obtain ⟨hc1, hf1⟩ := bcell hb1; have hs1 := hb1.size; (try simp at hs1))
        | (go_at_call 12; refine (hDy.out _).mono ?_; rintro e w2 ⟨⟨A, c, rfl, hT, hc⟩, hb2⟩; have HT := Lib.hid hT; clear hT; have hs2 := hb2.size; (try simp at hs2); have hbw2 : Below w.heap.size w w2 := (by repeat (first | exact Below.refl _ _ | refine Below.setCell ?_ (by first | (simp; done) | (simp; omega) | omega) _ | refine Below.alloc ?_ (by first | (simp; done) | (simp; omega) | omega) _ | refine Below.drew ?_ | assumption | refine Below.trans ?_ (Below.mono (by assumption) (by first | (simp; done) | (simp; omega) | omega)))))
        | (go_at_call 9; refine (hE.out _ _ _ (HT.out.below (by repeat (first | exact Below.refl _ _ | refine Below.setCell ?_ (by first | (simp; done) | (simp; omega) | omega) _ | refine Below.alloc ?_ (by first | (simp; done) | (simp; omega) | omega) _ | refine Below.drew ?_ | assumption | refine Below.trans ?_ (Below.mono (by assumption) (by first | (simp; done) | (simp; omega) | omega))))) (hM.out _ (by repeat (first | exact Below.refl _ _ | refine Below.setCell ?_ (by first | (simp; done) | (simp; omega) | omega) _ | refine Below.alloc ?_ (by first | (simp; done) | (simp; omega) | omega) _ | refine Below.drew ?_ | assumption | refine Below.trans ?_ (Below.mono (by assumption) (by first | (simp; done) | (simp; omega) | omega)))))).mono ?_; rintro e w3 ⟨rfl, hb3⟩; have hs3 := hb3.size)
        | (go_at_call 10; refine (CN.out _ _).mono ?_; rintro e w6 ⟨rfl, hb6⟩; obtain ⟨hc6, hf6⟩ := bcell hb6; have hs6 := hb6.size; (try simp at hs6)))
      have hbw := Lib.hid hbw2
      go_loopw [8] (fun i wr => ∃ k : Nat, i = .int .i64 k ∧ BackRel w w2 wr n k) (fun i _ => n + 1 - (intOf i).toNat)
      case atStart => exact ⟨0, rfl, by omega, hbw.out, (by repeat (first | exact Below.refl _ _ | refine Below.setCell ?_ (by first | (simp; done) | (simp; omega) | omega) _ | refine Below.alloc ?_ (by first | (simp; done) | (simp; omega) | omega) _ | refine Below.drew ?_ | assumption | refine Below.trans ?_ (Below.mono (by assumption) (by first | (simp; done) | (simp; omega) | omega))))⟩
      case round =>
        obtain ⟨k, rfl, hk, -, hbl⟩ := hrel
        have hsl := hbl.size
        have hws := hbw.out.size
        have hwr : Below w.heap.size w wr := hbw.out.trans (hbl.mono hws)
        by_cases hkn : k ≤ n
        · have hkn' : (k : Int) ≤ n := by omega
          have hkc : (k : Int) ≤ c := by omega
          have hEkk := Lib.hid (hEk.out k hkn)
          have hBk := Lib.hid (fun W => hB.out k W)
          generalize en (l.take k) = x at *
          go_wp2_with (first
            | (go_at_call 9; refine (hEkk.out _ _ _ (HT.out.below (by repeat (first | exact Below.refl _ _ | refine Below.setCell ?_ (by first | (simp; done) | (simp; omega) | omega) _ | refine Below.alloc ?_ (by first | (simp; done) | (simp; omega) | omega) _ | refine Below.drew ?_ | assumption | refine Below.trans ?_ (Below.mono (by assumption) (by first | (simp; done) | (simp; omega) | omega))))) (hM.out _ (by repeat (first | exact Below.refl _ _ | refine Below.setCell ?_ (by first | (simp; done) | (simp; omega) | omega) _ | refine Below.alloc ?_ (by first | (simp; done) | (simp; omega) | omega) _ | refine Below.drew ?_ | assumption | refine Below.trans ?_ (Below.mono (by assumption) (by first | (simp; done) | (simp; omega) | omega)))))).mono ?_; rintro e w8 ⟨rfl, hb8⟩; have hs8 := hb8.size)
            | (go_at_call 10; refine (CN.out _ _).mono ?_; rintro e w6 ⟨rfl, hb6⟩; obtain ⟨hc6, hf6⟩ := bcell hb6; have hs6 := hb6.size; (try simp at hs6))
            | (go_at_call 13; refine (hBk.out _).mono ?_; rintro e w9 ⟨rfl, hb9⟩; have hs9 := hb9.size))
          go_roundw
          case rel => exact ⟨k + 1, by go_num, by omega, hbw.out, (by repeat (first | exact Below.refl _ _ | refine Below.setCell ?_ (by first | (simp; done) | (simp; omega) | omega) _ | refine Below.alloc ?_ (by first | (simp; done) | (simp; omega) | omega) _ | refine Below.drew ?_ | assumption | refine Below.trans ?_ (Below.mono (by assumption) (by first | (simp; done) | (simp; omega) | omega))))⟩
          case measure => simp [intOf]; omega
        · have hkn' : ¬ (k : Int) ≤ n := by omega
          go_wp2
          go_ret
          exact ⟨rfl, hwr⟩
end Go.Proofs.YtjccadfaiahkkaaDoor
