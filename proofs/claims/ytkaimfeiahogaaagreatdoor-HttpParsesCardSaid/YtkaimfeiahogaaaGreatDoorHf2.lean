/-
  Contract of http.Format, where a request is printed.
-/
import Derived.Test.YtkaimfeiahogaaaGreatDoorHf1
namespace Go.Proofs.YtkaimfeiahogaaaGreatDoor
set_option linter.all false
open Go.RowKit Go.Shelf
attribute [local go_sem] cell_set_self lt_1 lt_2 lt_3 lt_4 lt_5 lt_6 drew_cell drew_frozen drew_size

theorem fmtH_len {m p : List UInt8} {n : Nat} (cl : Bool) (h : fmtE m p n = 0) : (fmtH m p n cl).length ≤ 4000 := by
  obtain ⟨hm, hp, hn⟩ := fmtE_zero h
  have h1 := (headLine_bytes hm hp).2
  have h2 := (lenLine_bytes n hn).2.1
  have h3 : closeLine.length = 17 := rfl
  unfold fmtH
  simp only [List.length_append]
  split <;> split <;> simp <;> omega
set_option maxHeartbeats 8000000 in
set_option maxRecDepth 100000 in
theorem format_tt (m p : List UInt8) (A : Option Addr) (n c : Nat) (l : List UInt8) (hl : l.length = n) (h : fmtE m p n = 0) (hpos : 0 < n) (w : World) (E : Env w) (T : Bs w A c l) :
    Calls Tryz.prog 17 #[rqB m p A n c true] w fun e w' => (∃ g c', e = .returned (.tuple #[.slice (some ⟨g, 0, none⟩) ((fmtH m p n true).length + n) c', .int .i64 0]) ∧ Bs w' (some ⟨g, 0, none⟩) c' (fmtH m p n true ++ l) ∧ w.heap.size ≤ g) ∧ Below w.heap.size w w' := by
  obtain ⟨hm, hp, hn⟩ := fmtE_zero h
  obtain ⟨a1, a2⟩ := headLine_bytes hm hp
  obtain ⟨c1, c2, c3⟩ := lenLine_bytes n hn
  have hml := (meth_bytes hm).2.1
  have hpl := (path_bytes hp).2.1
  have hfl := fmtH_len true h
  have hhl : (headLine m p).length = m.length + p.length + 10 := by unfold headLine; simp [tVers]; omega
  have hcl : closeLine.length = 17 := rfl
  have ht5 : (txt (n : Int)).length ≤ 1000 := by have := c2; unfold lenLine at this; simp at this; omega
  have htl : tLen.length = 14 := rfl
  have s1 := sadd m [32] (m ++ [32]) rfl (by omega) (by simp)
  have s2 := sadd (m ++ [32]) p (m ++ [32] ++ p) rfl (by simp; omega) (by omega)
  have s3 := sadd (m ++ [32] ++ p) [32] (m ++ [32] ++ p ++ [32]) rfl (by simp; omega) (by simp)
  have s4 := sadd (m ++ [32] ++ p ++ [32]) [72, 84, 84, 80, 47, 49, 46, 49] (headLine m p) rfl (by simp; omega) (by simp)
  have s5 := sadd (headLine m p) [13, 10] (headLine m p ++ [13, 10]) rfl (by omega) (by simp)
  have s6 := sadd [99, 111, 110, 116, 101, 110, 116, 45, 108, 101, 110, 103, 116, 104, 58, 32] (txt (n : Int)) (lenLine n) rfl (by simp) (by omega)
  have s7 := sadd (lenLine n) [13, 10] (lenLine n ++ [13, 10]) rfl (by omega) (by simp)
  have s8 := sadd (headLine m p ++ [13, 10]) (lenLine n ++ [13, 10]) (headLine m p ++ [13, 10] ++ (lenLine n ++ [13, 10])) rfl (by simp; omega) (by simp; omega)
  have hpos' : (0 : Int) < (n : Int) := by omega
  have s10 := sadd (headLine m p ++ [13, 10] ++ (lenLine n ++ [13, 10])) [99, 111, 110, 110, 101, 99, 116, 105, 111, 110, 58, 32, 99, 108, 111, 115, 101, 13, 10] (headLine m p ++ [13, 10] ++ (lenLine n ++ [13, 10]) ++ (closeLine ++ [13, 10])) rfl (by simp; omega) (by simp)
  have s9 := sadd (headLine m p ++ [13, 10] ++ (lenLine n ++ [13, 10]) ++ (closeLine ++ [13, 10])) [13, 10] (fmtH m p n true) (by unfold fmtH; simp only [if_pos hpos, if_true]) (by simp; omega) (by simp)
  have h3 := run_conv (fmtH m p n true)
  have HV := Lib.hid (fun (W : World) (g : Nat) (hg : W.heap.size = g) => cv_new (fmtH m p n true) (by omega) W g hg _ rfl)
  obtain ⟨F, hF⟩ : ∃ F, fmtH m p n true = F := ⟨_, rfl⟩
  rw [hF] at s9 h3 HV hfl ⊢
  obtain ⟨N, hN⟩ : ∃ N, F.length = N := ⟨_, rfl⟩
  rw [hN] at h3 HV hfl ⊢
  have HN := Lib.hid hN
  have IP := Lib.hid (fun W => isPath_any p (by omega) W)
  rw [hp] at IP
  have e1 := str_beq2 m [71, 69, 84]
  have e2 := str_beq2 m [80, 79, 83, 84]
  have e12 : decide (m = [71, 69, 84]) = true ∨ (decide (m = [71, 69, 84]) = false ∧ decide (m = [80, 79, 83, 84]) = true) := by
    rcases hm with h1 | h1
    · exact .inl (decide_eq_true h1)
    · exact .inr ⟨decide_eq_false (by rw [h1]; decide), decide_eq_true h1⟩
  have hn8 : ¬ (32768 : Int) < (n : Int) := by omega
  have HL := Lib.hid hl
  have HT := Lib.hid T
  have HI := Lib.hid (fun W (hb : Below w.heap.size w W) => itoa_any (n : Int) (by omega) (by omega) W (E.below hb))
  unfold rqB
  have hNn : N + n ≤ 1000000 := by omega
  clear hF hN hm hp a1 a2 c1 c2 c3 hml hpl hhl hcl ht5 htl h hl T E hfl
  generalize (⟨(m ++ [32]).toArray⟩ : ByteArray) = S1 at *
  generalize (⟨(m ++ [32] ++ p).toArray⟩ : ByteArray) = S2 at *
  generalize (⟨(m ++ [32] ++ p ++ [32]).toArray⟩ : ByteArray) = S3 at *
  generalize (⟨(headLine m p).toArray⟩ : ByteArray) = S4 at *
  generalize (⟨(lenLine n).toArray⟩ : ByteArray) = S5 at *
  generalize (⟨(txt (n : Int)).toArray⟩ : ByteArray) = S6 at *
  generalize (⟨(lenLine n ++ [13, 10]).toArray⟩ : ByteArray) = S7 at *
  generalize (⟨(headLine m p ++ [13, 10]).toArray⟩ : ByteArray) = S8 at *
  generalize (⟨(headLine m p ++ [13, 10] ++ (lenLine n ++ [13, 10])).toArray⟩ : ByteArray) = S9 at *
  generalize (⟨(headLine m p ++ [13, 10] ++ (lenLine n ++ [13, 10]) ++ (closeLine ++ [13, 10])).toArray⟩ : ByteArray) = S10 at *
  obtain ⟨SF, hSF⟩ : ∃ SF : ByteArray, (⟨F.toArray⟩ : ByteArray) = SF := ⟨_, rfl⟩
  rw [hSF] at s9 h3 HV
  clear hSF
  generalize (⟨m.toArray⟩ : ByteArray) = SM at *
  generalize (⟨p.toArray⟩ : ByteArray) = SP at *
  rcases e12 with k1 | ⟨k1, k2⟩
  all_goals
    rw [k1] at e1
    try rw [k2] at e2
    clear k1
    try clear k2
    go_enter Tryz.func17, Tryz.ntmps17
    go_wp2_with (first | (go_at_call 37; (with_reducible refine (IP.out _).mono ?_); rintro e w5 ⟨rfl, rfl⟩) | (go_at_call 38; (with_reducible refine (HI.out _ (by repeat (first | exact Below.refl _ _ | refine Below.setCell ?_ (by first | (simp; done) | (simp; omega) | omega) _ | refine Below.alloc ?_ (by first | (simp; done) | (simp; omega) | omega) _ | refine Below.drew ?_ | assumption | refine Below.trans ?_ (Below.mono (by assumption) (by first | (simp; done) | (simp; omega) | omega))))).mono ?_); rintro e w6 ⟨rfl, hb6⟩; obtain ⟨hc6, hf6⟩ := bcell hb6; have hs6 := hb6.size; (try simp at hs6); have hz6 : w.heap.size < w6.heap.size := (by omega)) | (at_builtin; refine wpList_append_cv _ rfl (.tmp 51) (.tmp 53) rfl _ _ N F HN.out rfl (HV.out _ _ (by simp)) A n c l rfl HL.out hNn (HT.out.below (by repeat (first | exact Below.refl _ _ | refine Below.setCell ?_ (by first | (simp; done) | (simp; omega) | omega) _ | refine Below.alloc ?_ (by first | (simp; done) | (simp; omega) | omega) _ | refine Below.drew ?_ | assumption | refine Below.trans ?_ (Below.mono (by assumption) (by first | (simp; done) | (simp; omega) | omega))))) ?_; intro g9 c9 w9 hB9 hg9 hor9; have HB9 := Lib.hid hB9; clear hB9; have hb9 : Below w.heap.size w w9 := (Below.grown (show Below w.heap.size w _ from (by repeat (first | exact Below.refl _ _ | refine Below.setCell ?_ (by first | (simp; done) | (simp; omega) | omega) _ | refine Below.alloc ?_ (by first | (simp; done) | (simp; omega) | omega) _ | refine Below.drew ?_ | assumption | refine Below.trans ?_ (Below.mono (by assumption) (by first | (simp; done) | (simp; omega) | omega))))) hg9 (by first | (simp; done) | (simp; omega) | omega) (fun k e => by cases e; first | (simp; done) | (simp; omega) | omega)); have hge9 : w.heap.size ≤ g9 := (by rcases hor9 with hx | hx <;> (rw [hx]; first | (simp; done) | (simp; omega) | omega)); clear hg9 hor9))
    go_ret2
    exact ⟨⟨g9, c9, rfl, HB9.out, hge9⟩, hb9⟩
set_option maxHeartbeats 8000000 in
set_option maxRecDepth 100000 in
theorem format_tf (m p : List UInt8) (A : Option Addr) (n c : Nat) (l : List UInt8) (hl : l.length = n) (h : fmtE m p n = 0) (hpos : 0 < n) (w : World) (E : Env w) (T : Bs w A c l) :
    Calls Tryz.prog 17 #[rqB m p A n c false] w fun e w' => (∃ g c', e = .returned (.tuple #[.slice (some ⟨g, 0, none⟩) ((fmtH m p n false).length + n) c', .int .i64 0]) ∧ Bs w' (some ⟨g, 0, none⟩) c' (fmtH m p n false ++ l) ∧ w.heap.size ≤ g) ∧ Below w.heap.size w w' := by
  obtain ⟨hm, hp, hn⟩ := fmtE_zero h
  obtain ⟨a1, a2⟩ := headLine_bytes hm hp
  obtain ⟨c1, c2, c3⟩ := lenLine_bytes n hn
  have hml := (meth_bytes hm).2.1
  have hpl := (path_bytes hp).2.1
  have hfl := fmtH_len false h
  have hhl : (headLine m p).length = m.length + p.length + 10 := by unfold headLine; simp [tVers]; omega
  have hcl : closeLine.length = 17 := rfl
  have ht5 : (txt (n : Int)).length ≤ 1000 := by have := c2; unfold lenLine at this; simp at this; omega
  have htl : tLen.length = 14 := rfl
  have s1 := sadd m [32] (m ++ [32]) rfl (by omega) (by simp)
  have s2 := sadd (m ++ [32]) p (m ++ [32] ++ p) rfl (by simp; omega) (by omega)
  have s3 := sadd (m ++ [32] ++ p) [32] (m ++ [32] ++ p ++ [32]) rfl (by simp; omega) (by simp)
  have s4 := sadd (m ++ [32] ++ p ++ [32]) [72, 84, 84, 80, 47, 49, 46, 49] (headLine m p) rfl (by simp; omega) (by simp)
  have s5 := sadd (headLine m p) [13, 10] (headLine m p ++ [13, 10]) rfl (by omega) (by simp)
  have s6 := sadd [99, 111, 110, 116, 101, 110, 116, 45, 108, 101, 110, 103, 116, 104, 58, 32] (txt (n : Int)) (lenLine n) rfl (by simp) (by omega)
  have s7 := sadd (lenLine n) [13, 10] (lenLine n ++ [13, 10]) rfl (by omega) (by simp)
  have s8 := sadd (headLine m p ++ [13, 10]) (lenLine n ++ [13, 10]) (headLine m p ++ [13, 10] ++ (lenLine n ++ [13, 10])) rfl (by simp; omega) (by simp; omega)
  have hpos' : (0 : Int) < (n : Int) := by omega

  have s9 := sadd (headLine m p ++ [13, 10] ++ (lenLine n ++ [13, 10])) [13, 10] (fmtH m p n false) (by unfold fmtH; simp only [if_pos hpos, Bool.false_eq_true, if_false]; simp only [List.append_nil]) (by simp; omega) (by simp)
  have h3 := run_conv (fmtH m p n false)
  have HV := Lib.hid (fun (W : World) (g : Nat) (hg : W.heap.size = g) => cv_new (fmtH m p n false) (by omega) W g hg _ rfl)
  obtain ⟨F, hF⟩ : ∃ F, fmtH m p n false = F := ⟨_, rfl⟩
  rw [hF] at s9 h3 HV hfl ⊢
  obtain ⟨N, hN⟩ : ∃ N, F.length = N := ⟨_, rfl⟩
  rw [hN] at h3 HV hfl ⊢
  have HN := Lib.hid hN
  have IP := Lib.hid (fun W => isPath_any p (by omega) W)
  rw [hp] at IP
  have e1 := str_beq2 m [71, 69, 84]
  have e2 := str_beq2 m [80, 79, 83, 84]
  have e12 : decide (m = [71, 69, 84]) = true ∨ (decide (m = [71, 69, 84]) = false ∧ decide (m = [80, 79, 83, 84]) = true) := by
    rcases hm with h1 | h1
    · exact .inl (decide_eq_true h1)
    · exact .inr ⟨decide_eq_false (by rw [h1]; decide), decide_eq_true h1⟩
  have hn8 : ¬ (32768 : Int) < (n : Int) := by omega
  have HL := Lib.hid hl
  have HT := Lib.hid T
  have HI := Lib.hid (fun W (hb : Below w.heap.size w W) => itoa_any (n : Int) (by omega) (by omega) W (E.below hb))
  unfold rqB
  have hNn : N + n ≤ 1000000 := by omega
  clear hF hN hm hp a1 a2 c1 c2 c3 hml hpl hhl hcl ht5 htl h hl T E hfl
  generalize (⟨(m ++ [32]).toArray⟩ : ByteArray) = S1 at *
  generalize (⟨(m ++ [32] ++ p).toArray⟩ : ByteArray) = S2 at *
  generalize (⟨(m ++ [32] ++ p ++ [32]).toArray⟩ : ByteArray) = S3 at *
  generalize (⟨(headLine m p).toArray⟩ : ByteArray) = S4 at *
  generalize (⟨(lenLine n).toArray⟩ : ByteArray) = S5 at *
  generalize (⟨(txt (n : Int)).toArray⟩ : ByteArray) = S6 at *
  generalize (⟨(lenLine n ++ [13, 10]).toArray⟩ : ByteArray) = S7 at *
  generalize (⟨(headLine m p ++ [13, 10]).toArray⟩ : ByteArray) = S8 at *
  generalize (⟨(headLine m p ++ [13, 10] ++ (lenLine n ++ [13, 10])).toArray⟩ : ByteArray) = S9 at *
  obtain ⟨SF, hSF⟩ : ∃ SF : ByteArray, (⟨F.toArray⟩ : ByteArray) = SF := ⟨_, rfl⟩
  rw [hSF] at s9 h3 HV
  clear hSF
  generalize (⟨m.toArray⟩ : ByteArray) = SM at *
  generalize (⟨p.toArray⟩ : ByteArray) = SP at *
  rcases e12 with k1 | ⟨k1, k2⟩
  all_goals
    rw [k1] at e1
    try rw [k2] at e2
    clear k1
    try clear k2
    go_enter Tryz.func17, Tryz.ntmps17
    go_wp2_with (first | (go_at_call 37; (with_reducible refine (IP.out _).mono ?_); rintro e w5 ⟨rfl, rfl⟩) | (go_at_call 38; (with_reducible refine (HI.out _ (by repeat (first | exact Below.refl _ _ | refine Below.setCell ?_ (by first | (simp; done) | (simp; omega) | omega) _ | refine Below.alloc ?_ (by first | (simp; done) | (simp; omega) | omega) _ | refine Below.drew ?_ | assumption | refine Below.trans ?_ (Below.mono (by assumption) (by first | (simp; done) | (simp; omega) | omega))))).mono ?_); rintro e w6 ⟨rfl, hb6⟩; obtain ⟨hc6, hf6⟩ := bcell hb6; have hs6 := hb6.size; (try simp at hs6); have hz6 : w.heap.size < w6.heap.size := (by omega)) | (at_builtin; refine wpList_append_cv _ rfl (.tmp 51) (.tmp 53) rfl _ _ N F HN.out rfl (HV.out _ _ (by simp)) A n c l rfl HL.out hNn (HT.out.below (by repeat (first | exact Below.refl _ _ | refine Below.setCell ?_ (by first | (simp; done) | (simp; omega) | omega) _ | refine Below.alloc ?_ (by first | (simp; done) | (simp; omega) | omega) _ | refine Below.drew ?_ | assumption | refine Below.trans ?_ (Below.mono (by assumption) (by first | (simp; done) | (simp; omega) | omega))))) ?_; intro g9 c9 w9 hB9 hg9 hor9; have HB9 := Lib.hid hB9; clear hB9; have hb9 : Below w.heap.size w w9 := (Below.grown (show Below w.heap.size w _ from (by repeat (first | exact Below.refl _ _ | refine Below.setCell ?_ (by first | (simp; done) | (simp; omega) | omega) _ | refine Below.alloc ?_ (by first | (simp; done) | (simp; omega) | omega) _ | refine Below.drew ?_ | assumption | refine Below.trans ?_ (Below.mono (by assumption) (by first | (simp; done) | (simp; omega) | omega))))) hg9 (by first | (simp; done) | (simp; omega) | omega) (fun k e => by cases e; first | (simp; done) | (simp; omega) | omega)); have hge9 : w.heap.size ≤ g9 := (by rcases hor9 with hx | hx <;> (rw [hx]; first | (simp; done) | (simp; omega) | omega)); clear hg9 hor9))
    go_ret2
    exact ⟨⟨g9, c9, rfl, HB9.out, hge9⟩, hb9⟩
set_option maxHeartbeats 8000000 in
set_option maxRecDepth 100000 in
theorem format_ft (m p : List UInt8) (A : Option Addr) (n c : Nat) (l : List UInt8) (hl : l.length = n) (h : fmtE m p n = 0) (hpos : ¬ 0 < n) (w : World) (E : Env w) (T : Bs w A c l) :
    Calls Tryz.prog 17 #[rqB m p A n c true] w fun e w' => (∃ g c', e = .returned (.tuple #[.slice (some ⟨g, 0, none⟩) ((fmtH m p n true).length + n) c', .int .i64 0]) ∧ Bs w' (some ⟨g, 0, none⟩) c' (fmtH m p n true ++ l) ∧ w.heap.size ≤ g) ∧ Below w.heap.size w w' := by
  obtain ⟨hm, hp, hn⟩ := fmtE_zero h
  obtain ⟨a1, a2⟩ := headLine_bytes hm hp
  obtain ⟨c1, c2, c3⟩ := lenLine_bytes n hn
  have hml := (meth_bytes hm).2.1
  have hpl := (path_bytes hp).2.1
  have hfl := fmtH_len true h
  have hhl : (headLine m p).length = m.length + p.length + 10 := by unfold headLine; simp [tVers]; omega
  have hcl : closeLine.length = 17 := rfl
  have ht5 : (txt (n : Int)).length ≤ 1000 := by have := c2; unfold lenLine at this; simp at this; omega
  have htl : tLen.length = 14 := rfl
  have s1 := sadd m [32] (m ++ [32]) rfl (by omega) (by simp)
  have s2 := sadd (m ++ [32]) p (m ++ [32] ++ p) rfl (by simp; omega) (by omega)
  have s3 := sadd (m ++ [32] ++ p) [32] (m ++ [32] ++ p ++ [32]) rfl (by simp; omega) (by simp)
  have s4 := sadd (m ++ [32] ++ p ++ [32]) [72, 84, 84, 80, 47, 49, 46, 49] (headLine m p) rfl (by simp; omega) (by simp)
  have s5 := sadd (headLine m p) [13, 10] (headLine m p ++ [13, 10]) rfl (by omega) (by simp)
  have hpos' : ¬ (0 : Int) < (n : Int) := by omega
  have s10 := sadd (headLine m p ++ [13, 10]) [99, 111, 110, 110, 101, 99, 116, 105, 111, 110, 58, 32, 99, 108, 111, 115, 101, 13, 10] (headLine m p ++ [13, 10] ++ (closeLine ++ [13, 10])) rfl (by simp; omega) (by simp)
  have s9 := sadd (headLine m p ++ [13, 10] ++ (closeLine ++ [13, 10])) [13, 10] (fmtH m p n true) (by unfold fmtH; simp only [if_neg hpos, if_true]; simp only [List.append_nil]) (by simp; omega) (by simp)
  have h3 := run_conv (fmtH m p n true)
  have HV := Lib.hid (fun (W : World) (g : Nat) (hg : W.heap.size = g) => cv_new (fmtH m p n true) (by omega) W g hg _ rfl)
  obtain ⟨F, hF⟩ : ∃ F, fmtH m p n true = F := ⟨_, rfl⟩
  rw [hF] at s9 h3 HV hfl ⊢
  obtain ⟨N, hN⟩ : ∃ N, F.length = N := ⟨_, rfl⟩
  rw [hN] at h3 HV hfl ⊢
  have HN := Lib.hid hN
  have IP := Lib.hid (fun W => isPath_any p (by omega) W)
  rw [hp] at IP
  have e1 := str_beq2 m [71, 69, 84]
  have e2 := str_beq2 m [80, 79, 83, 84]
  have e12 : decide (m = [71, 69, 84]) = true ∨ (decide (m = [71, 69, 84]) = false ∧ decide (m = [80, 79, 83, 84]) = true) := by
    rcases hm with h1 | h1
    · exact .inl (decide_eq_true h1)
    · exact .inr ⟨decide_eq_false (by rw [h1]; decide), decide_eq_true h1⟩
  have hn8 : ¬ (32768 : Int) < (n : Int) := by omega
  have HL := Lib.hid hl
  have HT := Lib.hid T
  have HI := Lib.hid (fun W (hb : Below w.heap.size w W) => itoa_any (n : Int) (by omega) (by omega) W (E.below hb))
  unfold rqB
  have hNn : N + n ≤ 1000000 := by omega
  clear hF hN hm hp a1 a2 c1 c2 c3 hml hpl hhl hcl ht5 htl h hl T E hfl
  generalize (⟨(m ++ [32]).toArray⟩ : ByteArray) = S1 at *
  generalize (⟨(m ++ [32] ++ p).toArray⟩ : ByteArray) = S2 at *
  generalize (⟨(m ++ [32] ++ p ++ [32]).toArray⟩ : ByteArray) = S3 at *
  generalize (⟨(headLine m p).toArray⟩ : ByteArray) = S4 at *
  generalize (⟨(headLine m p ++ [13, 10]).toArray⟩ : ByteArray) = S5 at *
  generalize (⟨(headLine m p ++ [13, 10] ++ (closeLine ++ [13, 10])).toArray⟩ : ByteArray) = S6 at *
  obtain ⟨SF, hSF⟩ : ∃ SF : ByteArray, (⟨F.toArray⟩ : ByteArray) = SF := ⟨_, rfl⟩
  rw [hSF] at s9 h3 HV
  clear hSF
  generalize (⟨m.toArray⟩ : ByteArray) = SM at *
  generalize (⟨p.toArray⟩ : ByteArray) = SP at *
  rcases e12 with k1 | ⟨k1, k2⟩
  all_goals
    rw [k1] at e1
    try rw [k2] at e2
    clear k1
    try clear k2
    go_enter Tryz.func17, Tryz.ntmps17
    go_wp2_with (first | (go_at_call 37; (with_reducible refine (IP.out _).mono ?_); rintro e w5 ⟨rfl, rfl⟩) | (at_builtin; refine wpList_append_cv _ rfl (.tmp 51) (.tmp 53) rfl _ _ N F HN.out rfl (HV.out (w.alloc (.cells #[.string SM, .string SP, .slice A n c, .bool true] 25)) _ (by simp)) A n c l rfl HL.out hNn (HT.out.below (by repeat (first | exact Below.refl _ _ | refine Below.setCell ?_ (by first | (simp; done) | (simp; omega) | omega) _ | refine Below.alloc ?_ (by first | (simp; done) | (simp; omega) | omega) _ | refine Below.drew ?_ | assumption | refine Below.trans ?_ (Below.mono (by assumption) (by first | (simp; done) | (simp; omega) | omega))))) ?_; intro g9 c9 w9 hB9 hg9 hor9; have HB9 := Lib.hid hB9; clear hB9; have hb9 : Below w.heap.size w w9 := (Below.grown (show Below w.heap.size w _ from (by repeat (first | exact Below.refl _ _ | refine Below.setCell ?_ (by first | (simp; done) | (simp; omega) | omega) _ | refine Below.alloc ?_ (by first | (simp; done) | (simp; omega) | omega) _ | refine Below.drew ?_ | assumption | refine Below.trans ?_ (Below.mono (by assumption) (by first | (simp; done) | (simp; omega) | omega))))) hg9 (by first | (simp; done) | (simp; omega) | omega) (fun k e => by cases e; first | (simp; done) | (simp; omega) | omega)); have hge9 : w.heap.size ≤ g9 := (by rcases hor9 with hx | hx <;> (rw [hx]; first | (simp; done) | (simp; omega) | omega)); clear hg9 hor9))
    go_ret2
    exact ⟨⟨g9, c9, rfl, HB9.out, hge9⟩, hb9⟩
set_option maxHeartbeats 8000000 in
set_option maxRecDepth 100000 in
theorem format_ff (m p : List UInt8) (A : Option Addr) (n c : Nat) (l : List UInt8) (hl : l.length = n) (h : fmtE m p n = 0) (hpos : ¬ 0 < n) (w : World) (E : Env w) (T : Bs w A c l) :
    Calls Tryz.prog 17 #[rqB m p A n c false] w fun e w' => (∃ g c', e = .returned (.tuple #[.slice (some ⟨g, 0, none⟩) ((fmtH m p n false).length + n) c', .int .i64 0]) ∧ Bs w' (some ⟨g, 0, none⟩) c' (fmtH m p n false ++ l) ∧ w.heap.size ≤ g) ∧ Below w.heap.size w w' := by
  obtain ⟨hm, hp, hn⟩ := fmtE_zero h
  obtain ⟨a1, a2⟩ := headLine_bytes hm hp
  obtain ⟨c1, c2, c3⟩ := lenLine_bytes n hn
  have hml := (meth_bytes hm).2.1
  have hpl := (path_bytes hp).2.1
  have hfl := fmtH_len false h
  have hhl : (headLine m p).length = m.length + p.length + 10 := by unfold headLine; simp [tVers]; omega
  have hcl : closeLine.length = 17 := rfl
  have ht5 : (txt (n : Int)).length ≤ 1000 := by have := c2; unfold lenLine at this; simp at this; omega
  have htl : tLen.length = 14 := rfl
  have s1 := sadd m [32] (m ++ [32]) rfl (by omega) (by simp)
  have s2 := sadd (m ++ [32]) p (m ++ [32] ++ p) rfl (by simp; omega) (by omega)
  have s3 := sadd (m ++ [32] ++ p) [32] (m ++ [32] ++ p ++ [32]) rfl (by simp; omega) (by simp)
  have s4 := sadd (m ++ [32] ++ p ++ [32]) [72, 84, 84, 80, 47, 49, 46, 49] (headLine m p) rfl (by simp; omega) (by simp)
  have s5 := sadd (headLine m p) [13, 10] (headLine m p ++ [13, 10]) rfl (by omega) (by simp)
  have hpos' : ¬ (0 : Int) < (n : Int) := by omega

  have s9 := sadd (headLine m p ++ [13, 10]) [13, 10] (fmtH m p n false) (by unfold fmtH; simp only [if_neg hpos, Bool.false_eq_true, if_false]; simp only [List.append_nil]) (by simp; omega) (by simp)
  have h3 := run_conv (fmtH m p n false)
  have HV := Lib.hid (fun (W : World) (g : Nat) (hg : W.heap.size = g) => cv_new (fmtH m p n false) (by omega) W g hg _ rfl)
  obtain ⟨F, hF⟩ : ∃ F, fmtH m p n false = F := ⟨_, rfl⟩
  rw [hF] at s9 h3 HV hfl ⊢
  obtain ⟨N, hN⟩ : ∃ N, F.length = N := ⟨_, rfl⟩
  rw [hN] at h3 HV hfl ⊢
  have HN := Lib.hid hN
  have IP := Lib.hid (fun W => isPath_any p (by omega) W)
  rw [hp] at IP
  have e1 := str_beq2 m [71, 69, 84]
  have e2 := str_beq2 m [80, 79, 83, 84]
  have e12 : decide (m = [71, 69, 84]) = true ∨ (decide (m = [71, 69, 84]) = false ∧ decide (m = [80, 79, 83, 84]) = true) := by
    rcases hm with h1 | h1
    · exact .inl (decide_eq_true h1)
    · exact .inr ⟨decide_eq_false (by rw [h1]; decide), decide_eq_true h1⟩
  have hn8 : ¬ (32768 : Int) < (n : Int) := by omega
  have HL := Lib.hid hl
  have HT := Lib.hid T
  have HI := Lib.hid (fun W (hb : Below w.heap.size w W) => itoa_any (n : Int) (by omega) (by omega) W (E.below hb))
  unfold rqB
  have hNn : N + n ≤ 1000000 := by omega
  clear hF hN hm hp a1 a2 c1 c2 c3 hml hpl hhl hcl ht5 htl h hl T E hfl
  generalize (⟨(m ++ [32]).toArray⟩ : ByteArray) = S1 at *
  generalize (⟨(m ++ [32] ++ p).toArray⟩ : ByteArray) = S2 at *
  generalize (⟨(m ++ [32] ++ p ++ [32]).toArray⟩ : ByteArray) = S3 at *
  generalize (⟨(headLine m p).toArray⟩ : ByteArray) = S4 at *
  generalize (⟨(headLine m p ++ [13, 10]).toArray⟩ : ByteArray) = S5 at *
  obtain ⟨SF, hSF⟩ : ∃ SF : ByteArray, (⟨F.toArray⟩ : ByteArray) = SF := ⟨_, rfl⟩
  rw [hSF] at s9 h3 HV
  clear hSF
  generalize (⟨m.toArray⟩ : ByteArray) = SM at *
  generalize (⟨p.toArray⟩ : ByteArray) = SP at *
  rcases e12 with k1 | ⟨k1, k2⟩
  all_goals
    rw [k1] at e1
    try rw [k2] at e2
    clear k1
    try clear k2
    go_enter Tryz.func17, Tryz.ntmps17
    go_wp2_with (first | (go_at_call 37; (with_reducible refine (IP.out _).mono ?_); rintro e w5 ⟨rfl, rfl⟩) | (at_builtin; refine wpList_append_cv _ rfl (.tmp 51) (.tmp 53) rfl _ _ N F HN.out rfl (HV.out (w.alloc (.cells #[.string SM, .string SP, .slice A n c, .bool false] 25)) _ (by simp)) A n c l rfl HL.out hNn (HT.out.below (by repeat (first | exact Below.refl _ _ | refine Below.setCell ?_ (by first | (simp; done) | (simp; omega) | omega) _ | refine Below.alloc ?_ (by first | (simp; done) | (simp; omega) | omega) _ | refine Below.drew ?_ | assumption | refine Below.trans ?_ (Below.mono (by assumption) (by first | (simp; done) | (simp; omega) | omega))))) ?_; intro g9 c9 w9 hB9 hg9 hor9; have HB9 := Lib.hid hB9; clear hB9; have hb9 : Below w.heap.size w w9 := (Below.grown (show Below w.heap.size w _ from (by repeat (first | exact Below.refl _ _ | refine Below.setCell ?_ (by first | (simp; done) | (simp; omega) | omega) _ | refine Below.alloc ?_ (by first | (simp; done) | (simp; omega) | omega) _ | refine Below.drew ?_ | assumption | refine Below.trans ?_ (Below.mono (by assumption) (by first | (simp; done) | (simp; omega) | omega))))) hg9 (by first | (simp; done) | (simp; omega) | omega) (fun k e => by cases e; first | (simp; done) | (simp; omega) | omega)); have hge9 : w.heap.size ≤ g9 := (by rcases hor9 with hx | hx <;> (rw [hx]; first | (simp; done) | (simp; omega) | omega)); clear hg9 hor9))
    go_ret2
    exact ⟨⟨g9, c9, rfl, HB9.out, hge9⟩, hb9⟩
theorem format_ok (m p : List UInt8) (cl : Bool) (A : Option Addr) (n c : Nat) (l : List UInt8) (hl : l.length = n) (h : fmtE m p n = 0) (w : World) (E : Env w) (T : Bs w A c l) :
    Calls Tryz.prog 17 #[rqB m p A n c cl] w fun e w' => (∃ g c', e = .returned (.tuple #[.slice (some ⟨g, 0, none⟩) ((fmtH m p n cl).length + n) c', .int .i64 0]) ∧ Bs w' (some ⟨g, 0, none⟩) c' (fmtH m p n cl ++ l) ∧ w.heap.size ≤ g) ∧ Below w.heap.size w w' := by
  by_cases hpos : 0 < n
  · cases cl with
    | true => exact format_tt m p A n c l hl h hpos w E T
    | false => exact format_tf m p A n c l hl h hpos w E T
  · cases cl with
    | true => exact format_ft m p A n c l hl h hpos w E T
    | false => exact format_ff m p A n c l hl h hpos w E T
end Go.Proofs.YtkaimfeiahogaaaGreatDoor
