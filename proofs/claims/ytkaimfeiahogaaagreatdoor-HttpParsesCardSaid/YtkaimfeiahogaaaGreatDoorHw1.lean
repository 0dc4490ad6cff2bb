/-
  Contract of http's Response.Bytes.
-/
import Derived.Test.YtkaimfeiahogaaaGreatDoorHf2
import Derived.Test.YtkaimfeiahogaaaGreatDoorHq2
namespace Go.Proofs.YtkaimfeiahogaaaGreatDoor
set_option linter.all false
open Go.RowKit Go.Shelf
attribute [local go_sem] cell_set_self lt_1 lt_2 lt_3 lt_4 lt_5 lt_6 drew_cell drew_frozen drew_size

theorem name_q {Q : Exit → Act → World → Prop} {x : Exit} {a : Act} {w : World} (h : ∀ W, W = w → Q x a W) : Q x a w := h w rfl
def tCtype : List UInt8 := [99, 111, 110, 116, 101, 110, 116, 45, 116, 121, 112, 101, 58, 32, 97, 112, 112, 108, 105, 99, 97, 116, 105, 111, 110, 47, 106, 115, 111, 110]
/-- A response's line, and its type. -/
def respA (z : Int) : List UInt8 := tVers ++ [32] ++ txt z ++ [32] ++ reasonF z ++ [13, 10] ++ tCtype ++ [13, 10]
/-- All ahead of a response's body. -/
def respH (z : Int) (n : Nat) (cl : Bool) : List UInt8 := respA z ++ (lenLine n ++ [13, 10]) ++ (if cl = true then closeLine ++ [13, 10] else []) ++ [13, 10]
theorem reason_len (z : Int) : (reasonF z).length ≤ 30 := by
  unfold reasonF
  split
  · rename_i x h
    have hm := List.mem_of_find?_eq_some h
    have : ∀ x ∈ reasons, x.2.length ≤ 30 := by decide
    exact this x hm
  · decide
theorem txt_len (z : Int) (h : In64 z) : (txt z).length ≤ 30 := by
  have h1 := dec_len_le 20 z.natAbs (by have := h.1; have := h.2; omega)
  unfold txt
  split
  · simp
  · split
    · simp; omega
    · omega
/-- A response as a value. -/
def rpB (z : Int) (A : Option Addr) (n c : Nat) (cl : Bool) : Value := .agg #[.int .i64 z, .slice A n c, .bool cl]
set_option maxHeartbeats 16000000 in
set_option maxRecDepth 100000 in
theorem bytesR_any (z : Int) (hz : In64 z) (cl : Bool) (A : Option Addr) (n c : Nat) (l : List UInt8) (hl : l.length = n) (hn : n ≤ 100000) (w : World) (E : Env w) (T : Bs w A c l) :
    Calls Tryz.prog 23 #[rpB z A n c cl] w fun e w' => (∃ g c', e = .returned (.slice (some ⟨g, 0, none⟩) ((respH z n cl).length + n) c') ∧ Bs w' (some ⟨g, 0, none⟩) c' (respH z n cl ++ l) ∧ w.heap.size ≤ g) ∧ Below w.heap.size w w' := by
  have h1 := reason_len z
  have h2 := txt_len z hz
  have h3 := txt_len (n : Int) (by unfold In64; omega)
  have hv : tVers.length = 8 := rfl
  have ht : tLen.length = 14 := rfl
  have hc : tCtype.length = 30 := rfl
  have hcl : closeLine.length = 17 := rfl
  have hll : (lenLine n).length = 16 + (txt (n : Int)).length := by unfold lenLine; simp [ht]; omega
  have hra : (respA z).length = 44 + (txt z).length + (reasonF z).length := by unfold respA; simp [hv, hc]; omega
  have s1 := sadd [72, 84, 84, 80, 47, 49, 46, 49, 32] (txt z) (tVers ++ [32] ++ txt z) rfl (by simp) (by omega)
  have s2 := sadd (tVers ++ [32] ++ txt z) [32] (tVers ++ [32] ++ txt z ++ [32]) rfl (by simp [hv]; omega) (by simp)
  have s3 := sadd (tVers ++ [32] ++ txt z ++ [32]) (reasonF z) (tVers ++ [32] ++ txt z ++ [32] ++ reasonF z) rfl (by simp [hv]; omega) (by omega)
  have s4 := sadd (tVers ++ [32] ++ txt z ++ [32] ++ reasonF z) [13, 10] (tVers ++ [32] ++ txt z ++ [32] ++ reasonF z ++ [13, 10]) rfl (by simp [hv]; omega) (by simp)
  have s5 := sadd (tVers ++ [32] ++ txt z ++ [32] ++ reasonF z ++ [13, 10]) [99, 111, 110, 116, 101, 110, 116, 45, 116, 121, 112, 101, 58, 32, 97, 112, 112, 108, 105, 99, 97, 116, 105, 111, 110, 47, 106, 115, 111, 110] (tVers ++ [32] ++ txt z ++ [32] ++ reasonF z ++ [13, 10] ++ tCtype) rfl (by simp [hv]; omega) (by simp)
  have s6 := sadd (tVers ++ [32] ++ txt z ++ [32] ++ reasonF z ++ [13, 10] ++ tCtype) [13, 10] (respA z) rfl (by simp [hv, hc]; omega) (by simp)
  have s7 := sadd (respA z) [99, 111, 110, 116, 101, 110, 116, 45, 108, 101, 110, 103, 116, 104] (respA z ++ tLen) rfl (by omega) (by simp)
  have s8 := sadd (respA z ++ tLen) [58, 32] (respA z ++ tLen ++ [58, 32]) rfl (by simp [ht]; omega) (by simp)
  have s9 := sadd (respA z ++ tLen ++ [58, 32]) (txt (n : Int)) (respA z ++ lenLine n) (by unfold lenLine; simp) (by simp [ht]; omega) (by omega)
  have s10 := sadd (respA z ++ lenLine n) [13, 10] (respA z ++ (lenLine n ++ [13, 10])) (by simp) (by simp; omega) (by simp)
  have s11 := sadd (respA z ++ (lenLine n ++ [13, 10])) [99, 111, 110, 110, 101, 99, 116, 105, 111, 110, 58, 32, 99, 108, 111, 115, 101, 13, 10] (respA z ++ (lenLine n ++ [13, 10]) ++ (closeLine ++ [13, 10])) rfl (by simp; omega) (by simp)
  have s12 := sadd (respA z ++ (lenLine n ++ [13, 10]) ++ (if cl = true then closeLine ++ [13, 10] else [])) [13, 10] (respH z n cl) rfl (by cases cl <;> simp [hcl] <;> omega) (by simp)
  have hfl : (respH z n cl).length ≤ 1000 := by unfold respH; cases cl <;> simp [hcl] <;> omega
  have k3 := run_conv (respH z n cl)
  have HV := Lib.hid (fun (W : World) (g : Nat) (hg : W.heap.size = g) => cv_new (respH z n cl) (by omega) W g hg _ rfl)
  obtain ⟨F, hF⟩ : ∃ F, respH z n cl = F := ⟨_, rfl⟩
  rw [hF] at s12 k3 HV hfl ⊢
  obtain ⟨N, hN⟩ : ∃ N, F.length = N := ⟨_, rfl⟩
  rw [hN] at k3 HV hfl ⊢
  have HN := Lib.hid hN
  have HL := Lib.hid hl
  have HT := Lib.hid T
  have HI := Lib.hid (fun W (hb : Below w.heap.size w W) => itoa_any (n : Int) (by omega) (by omega) W (E.below hb))
  have HZ := Lib.hid (fun W (hb : Below w.heap.size w W) => itoa_any z (by have := hz.1; omega) (by have := hz.2; omega) W (E.below hb))
  have HR := Lib.hid (fun W => reason_any z W)
  unfold rpB
  have hNn : N + n ≤ 1000000 := by omega
  clear hF hN h1 h2 h3 hv ht hc hcl hll hra hfl hl T E hz
  generalize (⟨(tVers ++ [32] ++ txt z).toArray⟩ : ByteArray) = S1 at *
  generalize (⟨(tVers ++ [32] ++ txt z ++ [32]).toArray⟩ : ByteArray) = S2 at *
  generalize (⟨(tVers ++ [32] ++ txt z ++ [32] ++ reasonF z).toArray⟩ : ByteArray) = S3 at *
  generalize (⟨(tVers ++ [32] ++ txt z ++ [32] ++ reasonF z ++ [13, 10]).toArray⟩ : ByteArray) = S4 at *
  generalize (⟨(tVers ++ [32] ++ txt z ++ [32] ++ reasonF z ++ [13, 10] ++ tCtype).toArray⟩ : ByteArray) = S5 at *
  generalize (⟨(respA z).toArray⟩ : ByteArray) = S6 at *
  generalize (⟨(respA z ++ tLen).toArray⟩ : ByteArray) = S7 at *
  generalize (⟨(respA z ++ tLen ++ [58, 32]).toArray⟩ : ByteArray) = S8 at *
  generalize (⟨(respA z ++ lenLine n).toArray⟩ : ByteArray) = S9 at *
  obtain ⟨TZ, hTZ⟩ : ∃ TZ : ByteArray, (⟨(txt z).toArray⟩ : ByteArray) = TZ := ⟨_, rfl⟩
  obtain ⟨RZ, hRZ⟩ : ∃ RZ : ByteArray, (⟨(reasonF z).toArray⟩ : ByteArray) = RZ := ⟨_, rfl⟩
  rw [hTZ] at s1 HZ
  rw [hRZ] at s3 HR
  clear hTZ hRZ
  cases cl
  case false =>
    simp only [Bool.false_eq_true, if_false, List.append_nil] at s12
    generalize (⟨(respA z ++ (lenLine n ++ [13, 10])).toArray⟩ : ByteArray) = S10 at *
    obtain ⟨TN, hTN⟩ : ∃ TN : ByteArray, (⟨(txt (n : Int)).toArray⟩ : ByteArray) = TN := ⟨_, rfl⟩
    obtain ⟨SF, hSF⟩ : ∃ SF : ByteArray, (⟨F.toArray⟩ : ByteArray) = SF := ⟨_, rfl⟩
    rw [hTN] at s9 HI
    rw [hSF] at s12 k3 HV
    clear hTN hSF
    go_enter Tryz.func23, Tryz.ntmps23
    go_wp2_with (fail)
    go_region_held3 (fun w' => w'.cell? ⟨w.heap.size, 0, none⟩ = some (.int .i64 z) ∧ w'.cell? ⟨w.heap.size, 1, none⟩ = some (.slice A n c) ∧ w'.cell? ⟨w.heap.size, 2, none⟩ = some (.bool false) ∧ w.heap.size < w'.heap.size ∧ Below w.heap.size w w')
      (first | (refine ⟨?_, ?_, ?_, ?_, ?_⟩ <;> first | (simp [go_sem, *]; done) | omega | (simp; omega) | exact (by repeat (first | exact Below.refl _ _ | refine Below.setCell ?_ (by first | (simp; done) | (simp; omega) | omega) _ | refine Below.alloc ?_ (by first | (simp; done) | (simp; omega) | omega) _ | refine Below.drew ?_ | assumption | refine Below.trans ?_ (Below.mono (by assumption) (by first | (simp; done) | (simp; omega) | omega))))))
      (first | (first | (go_at_call 38; refine (HZ.out _ (by repeat (first | exact Below.refl _ _ | refine Below.setCell ?_ (by first | (simp; done) | (simp; omega) | omega) _ | refine Below.alloc ?_ (by first | (simp; done) | (simp; omega) | omega) _ | refine Below.drew ?_ | assumption | refine Below.trans ?_ (Below.mono (by assumption) (by first | (simp; done) | (simp; omega) | omega))))).mono ?_; rintro e w5 ⟨rfl, hb5⟩; obtain ⟨hc5, hf5⟩ := bcell hb5; (try simp only [drew_size, drew_cell, drew_frozen] at hc5 hf5); have hs5 := hb5.size; (try simp at hs5); have hz5 : w.heap.size < w5.heap.size := by have := hb5.size; (try simp at this); omega) | (go_at_call 38; refine (HI.out _ (by repeat (first | exact Below.refl _ _ | refine Below.setCell ?_ (by first | (simp; done) | (simp; omega) | omega) _ | refine Below.alloc ?_ (by first | (simp; done) | (simp; omega) | omega) _ | refine Below.drew ?_ | assumption | refine Below.trans ?_ (Below.mono (by assumption) (by first | (simp; done) | (simp; omega) | omega))))).mono ?_; rintro e w6 ⟨rfl, hb6⟩; obtain ⟨hc6, hf6⟩ := bcell hb6; (try simp only [drew_size, drew_cell, drew_frozen] at hc6 hf6); have hs6 := hb6.size; (try simp at hs6); have hz6 : w.heap.size < w6.heap.size := by have := hb6.size; (try simp at this); omega) | (go_at_call 25; refine (HR.out _).mono ?_; rintro e w7 ⟨rfl, hb7⟩; obtain ⟨hc7, hf7⟩ := bcell hb7; (try simp only [drew_size, drew_cell, drew_frozen] at hc7 hf7); have hs7 := hb7.size; (try simp at hs7); have hz7 : w.heap.size < w7.heap.size := by have := hb7.size; (try simp at this); omega)))
    refine name_q ?_
    intro W hW
    have bw : Below w.heap.size w W := by rw [hW]; exact (by repeat (first | exact Below.refl _ _ | refine Below.setCell ?_ (by first | (simp; done) | (simp; omega) | omega) _ | refine Below.alloc ?_ (by first | (simp; done) | (simp; omega) | omega) _ | refine Below.drew ?_ | assumption | refine Below.trans ?_ (Below.mono (by assumption) (by first | (simp; done) | (simp; omega) | omega))))
    have zw : w.heap.size < W.heap.size := by rw [hW]; first | (simp; done) | (simp; omega) | omega
    have q1 : W.cell? ⟨w.heap.size, 1, none⟩ = some (.slice A n c) := by rw [hW]; simp [go_sem, *]
    have q2 : W.cell? ⟨w.heap.size, 2, none⟩ = some (.bool false) := by rw [hW]; simp [go_sem, *]
    clear hW
    go_wp2_with (first | (at_builtin; refine wpList_append_cv _ rfl (.tmp 30) (.tmp 32) rfl _ _ N F HN.out rfl (HV.out W _ (by simp)) A n c l rfl HL.out hNn (HT.out.below (by repeat (first | exact Below.refl _ _ | refine Below.setCell ?_ (by first | (simp; done) | (simp; omega) | omega) _ | refine Below.alloc ?_ (by first | (simp; done) | (simp; omega) | omega) _ | refine Below.drew ?_ | assumption | refine Below.trans ?_ (Below.mono (by assumption) (by first | (simp; done) | (simp; omega) | omega))))) ?_; intro g9 c9 w9 hB9 hg9 hor9; have HB9 := Lib.hid hB9; clear hB9; have hb9 : Below w.heap.size w w9 := (Below.grown (show Below w.heap.size w _ from (by repeat (first | exact Below.refl _ _ | refine Below.setCell ?_ (by first | (simp; done) | (simp; omega) | omega) _ | refine Below.alloc ?_ (by first | (simp; done) | (simp; omega) | omega) _ | refine Below.drew ?_ | assumption | refine Below.trans ?_ (Below.mono (by assumption) (by first | (simp; done) | (simp; omega) | omega))))) hg9 (by first | (simp; done) | (simp; omega) | omega) (fun k e => by cases e; first | (simp; done) | (simp; omega) | omega)); have hge9 : w.heap.size ≤ g9 := (by rcases hor9 with hx | hx <;> (rw [hx]; first | (simp; done) | (simp; omega) | omega)); clear hg9 hor9))
    go_ret
    exact ⟨⟨g9, c9, rfl, HB9.out, hge9⟩, hb9⟩
  case true =>
    simp only [if_true] at s12
    generalize (⟨(respA z ++ (lenLine n ++ [13, 10]) ++ (closeLine ++ [13, 10])).toArray⟩ : ByteArray) = S11 at *
    generalize (⟨(respA z ++ (lenLine n ++ [13, 10])).toArray⟩ : ByteArray) = S10 at *
    obtain ⟨TN, hTN⟩ : ∃ TN : ByteArray, (⟨(txt (n : Int)).toArray⟩ : ByteArray) = TN := ⟨_, rfl⟩
    obtain ⟨SF, hSF⟩ : ∃ SF : ByteArray, (⟨F.toArray⟩ : ByteArray) = SF := ⟨_, rfl⟩
    rw [hTN] at s9 HI
    rw [hSF] at s12 k3 HV
    clear hTN hSF
    go_enter Tryz.func23, Tryz.ntmps23
    go_wp2_with (fail)
    go_region_held3 (fun w' => w'.cell? ⟨w.heap.size, 0, none⟩ = some (.int .i64 z) ∧ w'.cell? ⟨w.heap.size, 1, none⟩ = some (.slice A n c) ∧ w'.cell? ⟨w.heap.size, 2, none⟩ = some (.bool true) ∧ w.heap.size < w'.heap.size ∧ Below w.heap.size w w')
      (first | (refine ⟨?_, ?_, ?_, ?_, ?_⟩ <;> first | (simp [go_sem, *]; done) | omega | (simp; omega) | exact (by repeat (first | exact Below.refl _ _ | refine Below.setCell ?_ (by first | (simp; done) | (simp; omega) | omega) _ | refine Below.alloc ?_ (by first | (simp; done) | (simp; omega) | omega) _ | refine Below.drew ?_ | assumption | refine Below.trans ?_ (Below.mono (by assumption) (by first | (simp; done) | (simp; omega) | omega))))))
      (first | (first | (go_at_call 38; refine (HZ.out _ (by repeat (first | exact Below.refl _ _ | refine Below.setCell ?_ (by first | (simp; done) | (simp; omega) | omega) _ | refine Below.alloc ?_ (by first | (simp; done) | (simp; omega) | omega) _ | refine Below.drew ?_ | assumption | refine Below.trans ?_ (Below.mono (by assumption) (by first | (simp; done) | (simp; omega) | omega))))).mono ?_; rintro e w5 ⟨rfl, hb5⟩; obtain ⟨hc5, hf5⟩ := bcell hb5; (try simp only [drew_size, drew_cell, drew_frozen] at hc5 hf5); have hs5 := hb5.size; (try simp at hs5); have hz5 : w.heap.size < w5.heap.size := by have := hb5.size; (try simp at this); omega) | (go_at_call 38; refine (HI.out _ (by repeat (first | exact Below.refl _ _ | refine Below.setCell ?_ (by first | (simp; done) | (simp; omega) | omega) _ | refine Below.alloc ?_ (by first | (simp; done) | (simp; omega) | omega) _ | refine Below.drew ?_ | assumption | refine Below.trans ?_ (Below.mono (by assumption) (by first | (simp; done) | (simp; omega) | omega))))).mono ?_; rintro e w6 ⟨rfl, hb6⟩; obtain ⟨hc6, hf6⟩ := bcell hb6; (try simp only [drew_size, drew_cell, drew_frozen] at hc6 hf6); have hs6 := hb6.size; (try simp at hs6); have hz6 : w.heap.size < w6.heap.size := by have := hb6.size; (try simp at this); omega) | (go_at_call 25; refine (HR.out _).mono ?_; rintro e w7 ⟨rfl, hb7⟩; obtain ⟨hc7, hf7⟩ := bcell hb7; (try simp only [drew_size, drew_cell, drew_frozen] at hc7 hf7); have hs7 := hb7.size; (try simp at hs7); have hz7 : w.heap.size < w7.heap.size := by have := hb7.size; (try simp at this); omega)))
    refine name_q ?_
    intro W hW
    have bw : Below w.heap.size w W := by rw [hW]; exact (by repeat (first | exact Below.refl _ _ | refine Below.setCell ?_ (by first | (simp; done) | (simp; omega) | omega) _ | refine Below.alloc ?_ (by first | (simp; done) | (simp; omega) | omega) _ | refine Below.drew ?_ | assumption | refine Below.trans ?_ (Below.mono (by assumption) (by first | (simp; done) | (simp; omega) | omega))))
    have zw : w.heap.size < W.heap.size := by rw [hW]; first | (simp; done) | (simp; omega) | omega
    have q1 : W.cell? ⟨w.heap.size, 1, none⟩ = some (.slice A n c) := by rw [hW]; simp [go_sem, *]
    have q2 : W.cell? ⟨w.heap.size, 2, none⟩ = some (.bool true) := by rw [hW]; simp [go_sem, *]
    clear hW
    go_wp2_with (first | (at_builtin; refine wpList_append_cv _ rfl (.tmp 30) (.tmp 32) rfl _ _ N F HN.out rfl (HV.out W _ (by simp)) A n c l rfl HL.out hNn (HT.out.below (by repeat (first | exact Below.refl _ _ | refine Below.setCell ?_ (by first | (simp; done) | (simp; omega) | omega) _ | refine Below.alloc ?_ (by first | (simp; done) | (simp; omega) | omega) _ | refine Below.drew ?_ | assumption | refine Below.trans ?_ (Below.mono (by assumption) (by first | (simp; done) | (simp; omega) | omega))))) ?_; intro g9 c9 w9 hB9 hg9 hor9; have HB9 := Lib.hid hB9; clear hB9; have hb9 : Below w.heap.size w w9 := (Below.grown (show Below w.heap.size w _ from (by repeat (first | exact Below.refl _ _ | refine Below.setCell ?_ (by first | (simp; done) | (simp; omega) | omega) _ | refine Below.alloc ?_ (by first | (simp; done) | (simp; omega) | omega) _ | refine Below.drew ?_ | assumption | refine Below.trans ?_ (Below.mono (by assumption) (by first | (simp; done) | (simp; omega) | omega))))) hg9 (by first | (simp; done) | (simp; omega) | omega) (fun k e => by cases e; first | (simp; done) | (simp; omega) | omega)); have hge9 : w.heap.size ≤ g9 := (by rcases hor9 with hx | hx <;> (rw [hx]; first | (simp; done) | (simp; omega) | omega)); clear hg9 hor9))
    go_ret
    exact ⟨⟨g9, c9, rfl, HB9.out, hge9⟩, hb9⟩
end Go.Proofs.YtkaimfeiahogaaaGreatDoor
