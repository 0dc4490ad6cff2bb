/-
  Contracts of http.header and http.first. (Printed by tools/mkhk3.py.)
-/
import Derived.Test.YtkaimfeiahogaaaGreatDoorHk2
namespace Go.Proofs.YtkaimfeiahogaaaGreatDoor
set_option linter.all false
open Go.RowKit Go.Shelf
attribute [local go_sem] cell_set_self lt_1 lt_2 lt_3 lt_4 lt_5 lt_6

def hdN (s : List UInt8) : List UInt8 := Lib.toLowerD (cutW 58 s).1
def hdV (s : List UInt8) : List UInt8 := trimH (cutW 58 s).2.1
/-- A header line as the program reads it, and as the grammar says. -/
theorem field_none {s : List UInt8} (h : fieldF s = none) : ((cutW 58 s).2.2 && (someL lowNameB 40 (hdN s) && (decide ((hdN s).length = (cutW 58 s).1.length) && (hdV s).all valB))) = false := by
  unfold fieldF at h
  rcases cutW_cases 58 s with ⟨h1, _, _⟩ | ⟨z, r, _, _, h2, h3⟩
  · rw [h1]; rfl
  · rw [h2] at h
    simp only at h
    unfold hdN hdV
    rw [h3]
    simp only [Bool.true_and]
    have n1 := (name_low z).1
    rw [← Bool.and_assoc, n1]
    split at h
    · cases h
    · rename_i k; simpa using k
theorem field_some {s nm v : List UInt8} (h : fieldF s = some (nm, v)) : (cutW 58 s).2.2 = true ∧ someL lowNameB 40 (hdN s) = true ∧ (hdN s).length = (cutW 58 s).1.length ∧ (hdV s).all valB = true ∧ hdN s = nm ∧ hdV s = v := by
  unfold fieldF at h
  rcases cutW_cases 58 s with ⟨_, h1, _⟩ | ⟨z, r, _, _, h2, h3⟩
  · rw [h1] at h; simp at h
  · rw [h2] at h
    simp only at h
    unfold hdN hdV
    rw [h3]
    split at h
    · rename_i k
      rw [Bool.and_eq_true] at k
      obtain ⟨n1, n2⟩ := name_low z
      rw [k.1, Bool.and_eq_true] at n1
      injection h with h
      injection h with e1 e2
      exact ⟨rfl, n1.1, by simpa using n1.2, k.2, by rw [← e1]; exact n2 k.1, e2⟩
    · cases h
theorem field_all {s nm v : List UInt8} (h : fieldF s = some (nm, v)) : ∀ b ∈ v, b.toNat < 128 := by
  obtain ⟨_, _, _, h4, _, h5⟩ := field_some h
  rw [h5] at h4
  intro b hb
  have := List.all_eq_true.1 h4 b hb
  unfold valB at this
  simp at this; omega
theorem dropWhile_le (p : UInt8 → Bool) (l : List UInt8) : (l.dropWhile p).length ≤ l.length := (List.dropWhile_sublist p).length_le
theorem trimH_len (l : List UInt8) : (trimH l).length ≤ l.length := by
  unfold trimH Lib.trimS Lib.trimLeftS Lib.trimRightS
  have h1 := dropWhile_le (fun b => [32, 9].contains b) (l.reverse.dropWhile (fun b => [32, 9].contains b)).reverse
  have h2 := dropWhile_le (fun b => [32, 9].contains b) l.reverse
  simp at h1 h2 ⊢
  omega
set_option maxHeartbeats 4000000 in
set_option maxRecDepth 100000 in
/-- http.header. -/
theorem header_any (s : List UInt8) (hs : s.length ≤ 1000000) (w : World) (E : Env w) : Calls Tryz.prog 56 #[.string ⟨s.toArray⟩] w fun e w' => e = .returned (.tuple #[.string ⟨(hdN s).toArray⟩, .string ⟨(hdV s).toArray⟩, .bool ((cutW 58 s).2.2 && (someL lowNameB 40 (hdN s) && (decide ((hdN s).length = (cutW 58 s).1.length) && (hdV s).all valB)))]) ∧ Below w.heap.size w w' := by
  have hlen : (cutW 58 s).1.length ≤ s.length ∧ (cutW 58 s).2.1.length ≤ s.length := by
    rcases cutW_cases 58 s with ⟨h, _⟩ | ⟨z, r, h1, _, _, h⟩
    · rw [h]; simp
    · rw [h, h1]; simp; omega
  have hbig : (hdN s).length ≤ 1000000000000 := by have := lower_len _ (cutW 58 s).1 (Nat.le_refl _); unfold hdN; omega
  have CU := Lib.hid (fun W (hb : Below w.heap.size w W) => cutc_any 58 s (by omega) W (E.below hb))
  have LO : Hid (∀ W, Below w.heap.size w W → Calls Tryz.prog 58 #[.string ⟨(cutW 58 s).1.toArray⟩] W fun e w' => e = .returned (.string ⟨(hdN s).toArray⟩) ∧ Below W.heap.size W w') := Lib.hid (fun W hb => lower_any _ (by omega) W (E.below hb))
  have TR : Hid (∀ W, Calls Tryz.prog 69 #[.string ⟨(cutW 58 s).2.1.toArray⟩, .string ⟨#[32, 9]⟩] W fun e w' => e = .returned (.string ⟨(hdV s).toArray⟩) ∧ Below W.heap.size W w') := Lib.hid (fun W => trim_blanks _ (by omega) W)
  have SO := Lib.hid (fun W => some_lowName 40 (by omega) (hdN s) (by omega) W)
  have CO := Lib.hid (fun W => contains_odd (hdV s) W)
  have LE : ((⟨(hdN s).toArray⟩ : ByteArray).size : Int) = ((hdN s).length : Int) ∧ ((⟨(cutW 58 s).1.toArray⟩ : ByteArray).size : Int) = ((cutW 58 s).1.length : Int) := by rw [ba_sz, ba_sz]; exact ⟨rfl, rfl⟩
  have LB : ((((⟨(hdN s).toArray⟩ : ByteArray).size : Int) == ((⟨(cutW 58 s).1.toArray⟩ : ByteArray).size : Int)) = decide ((hdN s).length = (cutW 58 s).1.length)) := by
    rw [LE.1, LE.2, Bool.eq_iff_iff]; simp; omega
  generalize decide ((hdN s).length = (cutW 58 s).1.length) = b3 at *
  generalize (hdV s).all valB = b4 at *
  generalize someL lowNameB 40 (hdN s) = b2 at *
  generalize (cutW 58 s).2.2 = b1 at *
  obtain ⟨S, hS⟩ : ∃ S : ByteArray, (⟨s.toArray⟩ : ByteArray) = S := ⟨_, rfl⟩
  rw [hS] at CU ⊢
  generalize (⟨(hdN s).toArray⟩ : ByteArray) = N at *
  generalize (⟨(hdV s).toArray⟩ : ByteArray) = V at *
  generalize (⟨(cutW 58 s).1.toArray⟩ : ByteArray) = A at *
  generalize (⟨(cutW 58 s).2.1.toArray⟩ : ByteArray) = B at *
  clear hS E hbig LE hlen hs
  cases b1
  · go_enter Tryz.func56, Tryz.ntmps56
    go_wp2_with (first | (go_at_call 68; refine (CU.out _ (by repeat (first | exact Below.refl _ _ | refine Below.setCell ?_ (by first | (simp; done) | (simp; omega) | omega) _ | refine Below.alloc ?_ (by first | (simp; done) | (simp; omega) | omega) _ | refine Below.drew ?_ | assumption | refine Below.trans ?_ (Below.mono (by assumption) (by first | (simp; done) | (simp; omega) | omega))))).mono ?_; rintro e w1 ⟨rfl, hb1⟩; obtain ⟨hc1, hf1⟩ := bcell hb1; have hs1 := hb1.size; (try simp at hs1)) | (go_at_call 58; refine (LO.out _ (by repeat (first | exact Below.refl _ _ | refine Below.setCell ?_ (by first | (simp; done) | (simp; omega) | omega) _ | refine Below.alloc ?_ (by first | (simp; done) | (simp; omega) | omega) _ | refine Below.drew ?_ | assumption | refine Below.trans ?_ (Below.mono (by assumption) (by first | (simp; done) | (simp; omega) | omega))))).mono ?_; rintro e w2 ⟨rfl, hb2⟩; obtain ⟨hc2, hf2⟩ := bcell hb2; have hs2 := hb2.size; (try simp at hs2)) | (go_at_call 69; refine (TR.out _).mono ?_; rintro e w3 ⟨rfl, hb3⟩; obtain ⟨hc3, hf3⟩ := bcell hb3; have hs3 := hb3.size; (try simp at hs3)) | (go_at_call 59; refine (SO.out _).mono ?_; rintro e w8 ⟨rfl, rfl⟩) | (go_at_call 72; refine (CO.out _).mono ?_; rintro e w4 ⟨rfl, hb4⟩; obtain ⟨hc4, hf4⟩ := bcell hb4; have hs4 := hb4.size; (try simp at hs4)))
    go_ret3
    exact ⟨rfl, (by repeat (first | exact Below.refl _ _ | refine Below.setCell ?_ (by first | (simp; done) | (simp; omega) | omega) _ | refine Below.alloc ?_ (by first | (simp; done) | (simp; omega) | omega) _ | refine Below.drew ?_ | assumption | refine Below.trans ?_ (Below.mono (by assumption) (by first | (simp; done) | (simp; omega) | omega))))⟩
  · cases b2
    · go_enter Tryz.func56, Tryz.ntmps56
      go_wp2_with (first | (go_at_call 68; refine (CU.out _ (by repeat (first | exact Below.refl _ _ | refine Below.setCell ?_ (by first | (simp; done) | (simp; omega) | omega) _ | refine Below.alloc ?_ (by first | (simp; done) | (simp; omega) | omega) _ | refine Below.drew ?_ | assumption | refine Below.trans ?_ (Below.mono (by assumption) (by first | (simp; done) | (simp; omega) | omega))))).mono ?_; rintro e w1 ⟨rfl, hb1⟩; obtain ⟨hc1, hf1⟩ := bcell hb1; have hs1 := hb1.size; (try simp at hs1)) | (go_at_call 58; refine (LO.out _ (by repeat (first | exact Below.refl _ _ | refine Below.setCell ?_ (by first | (simp; done) | (simp; omega) | omega) _ | refine Below.alloc ?_ (by first | (simp; done) | (simp; omega) | omega) _ | refine Below.drew ?_ | assumption | refine Below.trans ?_ (Below.mono (by assumption) (by first | (simp; done) | (simp; omega) | omega))))).mono ?_; rintro e w2 ⟨rfl, hb2⟩; obtain ⟨hc2, hf2⟩ := bcell hb2; have hs2 := hb2.size; (try simp at hs2)) | (go_at_call 69; refine (TR.out _).mono ?_; rintro e w3 ⟨rfl, hb3⟩; obtain ⟨hc3, hf3⟩ := bcell hb3; have hs3 := hb3.size; (try simp at hs3)) | (go_at_call 59; refine (SO.out _).mono ?_; rintro e w8 ⟨rfl, rfl⟩) | (go_at_call 72; refine (CO.out _).mono ?_; rintro e w4 ⟨rfl, hb4⟩; obtain ⟨hc4, hf4⟩ := bcell hb4; have hs4 := hb4.size; (try simp at hs4)))
      go_ret3
      exact ⟨rfl, (by repeat (first | exact Below.refl _ _ | refine Below.setCell ?_ (by first | (simp; done) | (simp; omega) | omega) _ | refine Below.alloc ?_ (by first | (simp; done) | (simp; omega) | omega) _ | refine Below.drew ?_ | assumption | refine Below.trans ?_ (Below.mono (by assumption) (by first | (simp; done) | (simp; omega) | omega))))⟩
    · cases b3
      · go_enter Tryz.func56, Tryz.ntmps56
        go_wp2_with (first | (go_at_call 68; refine (CU.out _ (by repeat (first | exact Below.refl _ _ | refine Below.setCell ?_ (by first | (simp; done) | (simp; omega) | omega) _ | refine Below.alloc ?_ (by first | (simp; done) | (simp; omega) | omega) _ | refine Below.drew ?_ | assumption | refine Below.trans ?_ (Below.mono (by assumption) (by first | (simp; done) | (simp; omega) | omega))))).mono ?_; rintro e w1 ⟨rfl, hb1⟩; obtain ⟨hc1, hf1⟩ := bcell hb1; have hs1 := hb1.size; (try simp at hs1)) | (go_at_call 58; refine (LO.out _ (by repeat (first | exact Below.refl _ _ | refine Below.setCell ?_ (by first | (simp; done) | (simp; omega) | omega) _ | refine Below.alloc ?_ (by first | (simp; done) | (simp; omega) | omega) _ | refine Below.drew ?_ | assumption | refine Below.trans ?_ (Below.mono (by assumption) (by first | (simp; done) | (simp; omega) | omega))))).mono ?_; rintro e w2 ⟨rfl, hb2⟩; obtain ⟨hc2, hf2⟩ := bcell hb2; have hs2 := hb2.size; (try simp at hs2)) | (go_at_call 69; refine (TR.out _).mono ?_; rintro e w3 ⟨rfl, hb3⟩; obtain ⟨hc3, hf3⟩ := bcell hb3; have hs3 := hb3.size; (try simp at hs3)) | (go_at_call 59; refine (SO.out _).mono ?_; rintro e w8 ⟨rfl, rfl⟩) | (go_at_call 72; refine (CO.out _).mono ?_; rintro e w4 ⟨rfl, hb4⟩; obtain ⟨hc4, hf4⟩ := bcell hb4; have hs4 := hb4.size; (try simp at hs4)))
        go_ret3
        exact ⟨rfl, (by repeat (first | exact Below.refl _ _ | refine Below.setCell ?_ (by first | (simp; done) | (simp; omega) | omega) _ | refine Below.alloc ?_ (by first | (simp; done) | (simp; omega) | omega) _ | refine Below.drew ?_ | assumption | refine Below.trans ?_ (Below.mono (by assumption) (by first | (simp; done) | (simp; omega) | omega))))⟩
      · cases b4
        · go_enter Tryz.func56, Tryz.ntmps56
          go_wp2_with (first | (go_at_call 68; refine (CU.out _ (by repeat (first | exact Below.refl _ _ | refine Below.setCell ?_ (by first | (simp; done) | (simp; omega) | omega) _ | refine Below.alloc ?_ (by first | (simp; done) | (simp; omega) | omega) _ | refine Below.drew ?_ | assumption | refine Below.trans ?_ (Below.mono (by assumption) (by first | (simp; done) | (simp; omega) | omega))))).mono ?_; rintro e w1 ⟨rfl, hb1⟩; obtain ⟨hc1, hf1⟩ := bcell hb1; have hs1 := hb1.size; (try simp at hs1)) | (go_at_call 58; refine (LO.out _ (by repeat (first | exact Below.refl _ _ | refine Below.setCell ?_ (by first | (simp; done) | (simp; omega) | omega) _ | refine Below.alloc ?_ (by first | (simp; done) | (simp; omega) | omega) _ | refine Below.drew ?_ | assumption | refine Below.trans ?_ (Below.mono (by assumption) (by first | (simp; done) | (simp; omega) | omega))))).mono ?_; rintro e w2 ⟨rfl, hb2⟩; obtain ⟨hc2, hf2⟩ := bcell hb2; have hs2 := hb2.size; (try simp at hs2)) | (go_at_call 69; refine (TR.out _).mono ?_; rintro e w3 ⟨rfl, hb3⟩; obtain ⟨hc3, hf3⟩ := bcell hb3; have hs3 := hb3.size; (try simp at hs3)) | (go_at_call 59; refine (SO.out _).mono ?_; rintro e w8 ⟨rfl, rfl⟩) | (go_at_call 72; refine (CO.out _).mono ?_; rintro e w4 ⟨rfl, hb4⟩; obtain ⟨hc4, hf4⟩ := bcell hb4; have hs4 := hb4.size; (try simp at hs4)))
          go_ret3
          exact ⟨rfl, (by repeat (first | exact Below.refl _ _ | refine Below.setCell ?_ (by first | (simp; done) | (simp; omega) | omega) _ | refine Below.alloc ?_ (by first | (simp; done) | (simp; omega) | omega) _ | refine Below.drew ?_ | assumption | refine Below.trans ?_ (Below.mono (by assumption) (by first | (simp; done) | (simp; omega) | omega))))⟩
        · go_enter Tryz.func56, Tryz.ntmps56
          go_wp2_with (first | (go_at_call 68; refine (CU.out _ (by repeat (first | exact Below.refl _ _ | refine Below.setCell ?_ (by first | (simp; done) | (simp; omega) | omega) _ | refine Below.alloc ?_ (by first | (simp; done) | (simp; omega) | omega) _ | refine Below.drew ?_ | assumption | refine Below.trans ?_ (Below.mono (by assumption) (by first | (simp; done) | (simp; omega) | omega))))).mono ?_; rintro e w1 ⟨rfl, hb1⟩; obtain ⟨hc1, hf1⟩ := bcell hb1; have hs1 := hb1.size; (try simp at hs1)) | (go_at_call 58; refine (LO.out _ (by repeat (first | exact Below.refl _ _ | refine Below.setCell ?_ (by first | (simp; done) | (simp; omega) | omega) _ | refine Below.alloc ?_ (by first | (simp; done) | (simp; omega) | omega) _ | refine Below.drew ?_ | assumption | refine Below.trans ?_ (Below.mono (by assumption) (by first | (simp; done) | (simp; omega) | omega))))).mono ?_; rintro e w2 ⟨rfl, hb2⟩; obtain ⟨hc2, hf2⟩ := bcell hb2; have hs2 := hb2.size; (try simp at hs2)) | (go_at_call 69; refine (TR.out _).mono ?_; rintro e w3 ⟨rfl, hb3⟩; obtain ⟨hc3, hf3⟩ := bcell hb3; have hs3 := hb3.size; (try simp at hs3)) | (go_at_call 59; refine (SO.out _).mono ?_; rintro e w8 ⟨rfl, rfl⟩) | (go_at_call 72; refine (CO.out _).mono ?_; rintro e w4 ⟨rfl, hb4⟩; obtain ⟨hc4, hf4⟩ := bcell hb4; have hs4 := hb4.size; (try simp at hs4)))
          go_ret3
          exact ⟨rfl, (by repeat (first | exact Below.refl _ _ | refine Below.setCell ?_ (by first | (simp; done) | (simp; omega) | omega) _ | refine Below.alloc ?_ (by first | (simp; done) | (simp; omega) | omega) _ | refine Below.drew ?_ | assumption | refine Below.trans ?_ (Below.mono (by assumption) (by first | (simp; done) | (simp; omega) | omega))))⟩
/-! ### the request's line -/
theorem pieces_le (c : UInt8) : ∀ (l : List UInt8), ∀ p ∈ pieces c l, p.length ≤ l.length
  | [], p, hp => by simp [pieces] at hp; subst hp; simp
  | b :: r, p, hp => by
    have ih := pieces_le c r
    unfold pieces at hp
    split at hp
    · rcases List.mem_cons.1 hp with rfl | hp
      · simp
      · have := ih p hp; simp; omega
    · split at hp
      · simp at hp; subst hp; simp
      · rename_i q ps hq
        rcases List.mem_cons.1 hp with rfl | hp
        · have := ih q (by rw [hq]; exact List.mem_cons_self ..); simp; omega
        · have := ih p (by rw [hq]; exact List.mem_cons_of_mem _ hp); simp; omega
theorem head_3 {s a b c : List UInt8} (h : pieces 32 s = [a, b, c]) : headE s = (if (someL bigB 10 a && (pathB b && decide (c = tVers))) = true then (if a = tGet ∨ a = tPost then 0 else 30) else 10) := by unfold headE; rw [h]
theorem head_not3 {s : List UInt8} (h : (pieces 32 s).length ≠ 3) : headE s = 10 := by
  unfold headE
  split
  · rename_i m p v e; rw [e] at h; simp at h
  · rfl
/-- What http.first answers. -/
def rqV (m p : List UInt8) (cl : Bool) : Value := .agg #[.string ⟨m.toArray⟩, .string ⟨p.toArray⟩, .slice none 0 0, .bool cl]
def frV (s : List UInt8) : Value := .tuple #[rqV (headM s) (headP s) false, .int .i64 (headE s)]
set_option maxHeartbeats 8000000 in
set_option maxRecDepth 100000 in
theorem first_any (s : List UInt8) (hs : s.length ≤ 1000000) (w : World) (E : Env w) : Calls Tryz.prog 55 #[.string ⟨s.toArray⟩] w fun e w' => e = .returned (frV s) ∧ Below w.heap.size w w' := by
  have SP := Lib.hid (fun W (hb : Below w.heap.size w W) => split32_any s hs W (E.below hb))
  have hpl := pieces_le 32 s
  by_cases h3 : (pieces 32 s).length = 3
  · match hq : pieces 32 s, h3 with
    | [a, b, c], _ =>
      have hE := head_3 hq
      have la := hpl a (by rw [hq]; simp)
      have lb := hpl b (by rw [hq]; simp)
      have SO := Lib.hid (fun W => some_big 10 (by omega) a (by omega) W)
      have IP := Lib.hid (fun W => isPath_any b (by omega) W)
      have VB : ((⟨c.toArray⟩ : ByteArray).toList == [72, 84, 84, 80, 47, 49, 46, 49]) = decide (c = tVers) := str_beq2 c tVers
      have GB : ((⟨a.toArray⟩ : ByteArray).toList == [71, 69, 84]) = decide (a = tGet) := str_beq2 a tGet
      have PB : ((⟨a.toArray⟩ : ByteArray).toList == [80, 79, 83, 84]) = decide (a = tPost) := str_beq2 a tPost
      rw [hq] at SP
      have SQ : Hid (∀ W, Below w.heap.size w W → Calls Tryz.prog 66 #[.string ⟨s.toArray⟩, .string ⟨#[32]⟩] W fun e w' => (∃ g, e = .returned (.slice (some ⟨g, 0, none⟩) 3 3) ∧ g < w'.heap.size ∧ w'.cell? ⟨g, 0, none⟩ = some (.string ⟨a.toArray⟩) ∧ w'.cell? ⟨g, 1, none⟩ = some (.string ⟨b.toArray⟩) ∧ w'.cell? ⟨g, 2, none⟩ = some (.string ⟨c.toArray⟩)) ∧ Below W.heap.size W w') := Lib.hid fun W hb => (SP.out W hb).mono fun e w' hh => by
        obtain ⟨⟨h1, h2⟩, h3⟩ := hh
        refine ⟨⟨_, h1, ?_, ?_, ?_, ?_⟩, h3⟩
        · obtain ⟨g, o, e1, e2, _⟩ := h2 0 a rfl; injection e1 with e1; injection e1 with e1; rw [e1]; exact e2
        · obtain ⟨g, o, e1, _, e2⟩ := h2 0 a rfl; injection e1 with e1; injection e1 with e1 e3; subst e1 e3; exact e2
        · obtain ⟨g, o, e1, _, e2⟩ := h2 1 b rfl; injection e1 with e1; injection e1 with e1 e3; subst e1 e3; exact e2
        · obtain ⟨g, o, e1, _, e2⟩ := h2 2 c rfl; injection e1 with e1; injection e1 with e1 e3; subst e1 e3; exact e2
      clear SP E
      have eM : headM s = if headE s = 0 then a else [] := by unfold headM; rw [hq]; rfl
      have eP : headP s = if headE s = 0 then b else [] := by unfold headP; rw [hq]; rfl
      unfold frV
      rw [eM, eP]
      generalize headE s = hh at *
      generalize (⟨s.toArray⟩ : ByteArray) = S at *
      have bad : hh = 10 → ∀ b1 b2 b3 : Bool, someL bigB 10 a = b1 → pathB b = b2 → decide (c = tVers) = b3 → (b1 && (b2 && b3)) = false → Calls Tryz.prog 55 #[.string S] w fun e w' => e = .returned (.tuple #[rqV (if hh = 0 then a else []) (if hh = 0 then b else []) false, .int .i64 hh]) ∧ Below w.heap.size w w' := fun h10 b1 b2 b3 e1 e2 e3 e4 => by
        subst h10
        rw [if_neg (by omega), if_neg (by omega)]
        rw [e1] at SO; rw [e2] at IP; rw [e3] at VB
        unfold rqV
        clear hE GB PB hq hpl la lb eM eP e1 e2 e3
        generalize (⟨a.toArray⟩ : ByteArray) = A at *
        generalize (⟨b.toArray⟩ : ByteArray) = B at *
        generalize (⟨c.toArray⟩ : ByteArray) = C at *
        cases b1
        · go_enter Tryz.func55, Tryz.ntmps55
          go_wp2_with (first | (go_at_call 66; (with_reducible refine (SQ.out _ (by repeat (first | exact Below.refl _ _ | refine Below.setCell ?_ (by first | (simp; done) | (simp; omega) | omega) _ | refine Below.alloc ?_ (by first | (simp; done) | (simp; omega) | omega) _ | refine Below.drew ?_ | assumption | refine Below.trans ?_ (Below.mono (by assumption) (by first | (simp; done) | (simp; omega) | omega))))).mono ?_); rintro e w1 ⟨⟨g, rfl, hg, ca, cb, cc⟩, hb1⟩; obtain ⟨hc1, hf1⟩ := bcell hb1; have hs1 := hb1.size; (try simp at hs1); have hz1 : w.heap.size < w1.heap.size := (by omega)) | (go_at_call 59; refine (SO.out _).mono ?_; rintro e w8 ⟨rfl, rfl⟩) | (go_at_call 37; refine (IP.out _).mono ?_; rintro e w9 ⟨rfl, rfl⟩))
          exact bodyPost_ret (v := .tuple #[.agg #[.string ⟨#[]⟩, .string ⟨#[]⟩, .slice none 0 0, .bool false], .int .i64 10]) (by simp [results, Tryz.results55, go_sem, *]) rfl ⟨rfl, (by repeat (first | exact Below.refl _ _ | refine Below.setCell ?_ (by first | (simp; done) | (simp; omega) | omega) _ | refine Below.alloc ?_ (by first | (simp; done) | (simp; omega) | omega) _ | refine Below.drew ?_ | assumption | refine Below.trans ?_ (Below.mono (by assumption) (by first | (simp; done) | (simp; omega) | omega))))⟩
        · cases b2
          · go_enter Tryz.func55, Tryz.ntmps55
            go_wp2_with (first | (go_at_call 66; (with_reducible refine (SQ.out _ (by repeat (first | exact Below.refl _ _ | refine Below.setCell ?_ (by first | (simp; done) | (simp; omega) | omega) _ | refine Below.alloc ?_ (by first | (simp; done) | (simp; omega) | omega) _ | refine Below.drew ?_ | assumption | refine Below.trans ?_ (Below.mono (by assumption) (by first | (simp; done) | (simp; omega) | omega))))).mono ?_); rintro e w1 ⟨⟨g, rfl, hg, ca, cb, cc⟩, hb1⟩; obtain ⟨hc1, hf1⟩ := bcell hb1; have hs1 := hb1.size; (try simp at hs1); have hz1 : w.heap.size < w1.heap.size := (by omega)) | (go_at_call 59; refine (SO.out _).mono ?_; rintro e w8 ⟨rfl, rfl⟩) | (go_at_call 37; refine (IP.out _).mono ?_; rintro e w9 ⟨rfl, rfl⟩))
            exact bodyPost_ret (v := .tuple #[.agg #[.string ⟨#[]⟩, .string ⟨#[]⟩, .slice none 0 0, .bool false], .int .i64 10]) (by simp [results, Tryz.results55, go_sem, *]) rfl ⟨rfl, (by repeat (first | exact Below.refl _ _ | refine Below.setCell ?_ (by first | (simp; done) | (simp; omega) | omega) _ | refine Below.alloc ?_ (by first | (simp; done) | (simp; omega) | omega) _ | refine Below.drew ?_ | assumption | refine Below.trans ?_ (Below.mono (by assumption) (by first | (simp; done) | (simp; omega) | omega))))⟩
          · cases b3
            · go_enter Tryz.func55, Tryz.ntmps55
              go_wp2_with (first | (go_at_call 66; (with_reducible refine (SQ.out _ (by repeat (first | exact Below.refl _ _ | refine Below.setCell ?_ (by first | (simp; done) | (simp; omega) | omega) _ | refine Below.alloc ?_ (by first | (simp; done) | (simp; omega) | omega) _ | refine Below.drew ?_ | assumption | refine Below.trans ?_ (Below.mono (by assumption) (by first | (simp; done) | (simp; omega) | omega))))).mono ?_); rintro e w1 ⟨⟨g, rfl, hg, ca, cb, cc⟩, hb1⟩; obtain ⟨hc1, hf1⟩ := bcell hb1; have hs1 := hb1.size; (try simp at hs1); have hz1 : w.heap.size < w1.heap.size := (by omega)) | (go_at_call 59; refine (SO.out _).mono ?_; rintro e w8 ⟨rfl, rfl⟩) | (go_at_call 37; refine (IP.out _).mono ?_; rintro e w9 ⟨rfl, rfl⟩))
              exact bodyPost_ret (v := .tuple #[.agg #[.string ⟨#[]⟩, .string ⟨#[]⟩, .slice none 0 0, .bool false], .int .i64 10]) (by simp [results, Tryz.results55, go_sem, *]) rfl ⟨rfl, (by repeat (first | exact Below.refl _ _ | refine Below.setCell ?_ (by first | (simp; done) | (simp; omega) | omega) _ | refine Below.alloc ?_ (by first | (simp; done) | (simp; omega) | omega) _ | refine Below.drew ?_ | assumption | refine Below.trans ?_ (Below.mono (by assumption) (by first | (simp; done) | (simp; omega) | omega))))⟩
            · cases e4
      cases h1 : someL bigB 10 a with
      | false => exact bad (by rw [hE, h1]; rfl) _ _ _ h1 rfl rfl rfl
      | true =>
        cases h2 : pathB b with
        | false => exact bad (by rw [hE, h1, h2]; rfl) _ _ _ h1 h2 rfl rfl
        | true =>
          cases h3 : decide (c = tVers) with
          | false => exact bad (by rw [hE, h1, h2, h3]; rfl) _ _ _ h1 h2 h3 rfl
          | true =>
            clear bad
            rw [h1] at SO; rw [h2] at IP; rw [h3] at VB
            rw [h1, h2, h3, if_pos (show (true && (true && true)) = true from rfl)] at hE
            clear hq hpl la lb eM eP h1 h2 h3
            unfold rqV
            by_cases hG : a = tGet
            · rw [if_pos (.inl hG)] at hE
              subst hE
              rw [if_pos rfl, if_pos rfl]
              rw [decide_eq_true hG] at GB
              clear hG PB
              generalize (⟨a.toArray⟩ : ByteArray) = A at *
              generalize (⟨b.toArray⟩ : ByteArray) = B at *
              generalize (⟨c.toArray⟩ : ByteArray) = C at *
              go_enter Tryz.func55, Tryz.ntmps55
              go_wp2_with (first | (go_at_call 66; (with_reducible refine (SQ.out _ (by repeat (first | exact Below.refl _ _ | refine Below.setCell ?_ (by first | (simp; done) | (simp; omega) | omega) _ | refine Below.alloc ?_ (by first | (simp; done) | (simp; omega) | omega) _ | refine Below.drew ?_ | assumption | refine Below.trans ?_ (Below.mono (by assumption) (by first | (simp; done) | (simp; omega) | omega))))).mono ?_); rintro e w1 ⟨⟨g, rfl, hg, ca, cb, cc⟩, hb1⟩; obtain ⟨hc1, hf1⟩ := bcell hb1; have hs1 := hb1.size; (try simp at hs1); have hz1 : w.heap.size < w1.heap.size := (by omega)) | (go_at_call 59; refine (SO.out _).mono ?_; rintro e w8 ⟨rfl, rfl⟩) | (go_at_call 37; refine (IP.out _).mono ?_; rintro e w9 ⟨rfl, rfl⟩))
              go_big_region
              all_goals (
                go_wp2
                exact bodyPost_ret (v := .tuple #[.agg #[.string A, .string B, .slice none 0 0, .bool false], .int .i64 0]) (by simp [results, Tryz.results55, go_sem, *]) rfl ⟨rfl, (by repeat (first | exact Below.refl _ _ | refine Below.setCell ?_ (by first | (simp; done) | (simp; omega) | omega) _ | refine Below.alloc ?_ (by first | (simp; done) | (simp; omega) | omega) _ | refine below_drewN ?_ _ | refine Below.drew ?_ | assumption | refine Below.trans ?_ (Below.mono (by assumption) (by first | (simp; done) | (simp; omega) | omega))))⟩)
            · rw [decide_eq_false hG] at GB
              by_cases hP : a = tPost
              · rw [if_pos (.inr hP)] at hE
                subst hE
                rw [if_pos rfl, if_pos rfl]
                rw [decide_eq_true hP] at PB
                clear hG hP
                generalize (⟨a.toArray⟩ : ByteArray) = A at *
                generalize (⟨b.toArray⟩ : ByteArray) = B at *
                generalize (⟨c.toArray⟩ : ByteArray) = C at *
                go_enter Tryz.func55, Tryz.ntmps55
                go_wp2_with (first | (go_at_call 66; (with_reducible refine (SQ.out _ (by repeat (first | exact Below.refl _ _ | refine Below.setCell ?_ (by first | (simp; done) | (simp; omega) | omega) _ | refine Below.alloc ?_ (by first | (simp; done) | (simp; omega) | omega) _ | refine Below.drew ?_ | assumption | refine Below.trans ?_ (Below.mono (by assumption) (by first | (simp; done) | (simp; omega) | omega))))).mono ?_); rintro e w1 ⟨⟨g, rfl, hg, ca, cb, cc⟩, hb1⟩; obtain ⟨hc1, hf1⟩ := bcell hb1; have hs1 := hb1.size; (try simp at hs1); have hz1 : w.heap.size < w1.heap.size := (by omega)) | (go_at_call 59; refine (SO.out _).mono ?_; rintro e w8 ⟨rfl, rfl⟩) | (go_at_call 37; refine (IP.out _).mono ?_; rintro e w9 ⟨rfl, rfl⟩))
                go_big_region
                all_goals (
                  go_wp2
                  exact bodyPost_ret (v := .tuple #[.agg #[.string A, .string B, .slice none 0 0, .bool false], .int .i64 0]) (by simp [results, Tryz.results55, go_sem, *]) rfl ⟨rfl, (by repeat (first | exact Below.refl _ _ | refine Below.setCell ?_ (by first | (simp; done) | (simp; omega) | omega) _ | refine Below.alloc ?_ (by first | (simp; done) | (simp; omega) | omega) _ | refine below_drewN ?_ _ | refine Below.drew ?_ | assumption | refine Below.trans ?_ (Below.mono (by assumption) (by first | (simp; done) | (simp; omega) | omega))))⟩)
              · rw [if_neg (fun h => h.elim hG hP)] at hE
                subst hE
                rw [if_neg (by omega), if_neg (by omega)]
                rw [decide_eq_false hP] at PB
                clear hG hP
                generalize (⟨a.toArray⟩ : ByteArray) = A at *
                generalize (⟨b.toArray⟩ : ByteArray) = B at *
                generalize (⟨c.toArray⟩ : ByteArray) = C at *
                go_enter Tryz.func55, Tryz.ntmps55
                go_wp2_with (first | (go_at_call 66; (with_reducible refine (SQ.out _ (by repeat (first | exact Below.refl _ _ | refine Below.setCell ?_ (by first | (simp; done) | (simp; omega) | omega) _ | refine Below.alloc ?_ (by first | (simp; done) | (simp; omega) | omega) _ | refine Below.drew ?_ | assumption | refine Below.trans ?_ (Below.mono (by assumption) (by first | (simp; done) | (simp; omega) | omega))))).mono ?_); rintro e w1 ⟨⟨g, rfl, hg, ca, cb, cc⟩, hb1⟩; obtain ⟨hc1, hf1⟩ := bcell hb1; have hs1 := hb1.size; (try simp at hs1); have hz1 : w.heap.size < w1.heap.size := (by omega)) | (go_at_call 59; refine (SO.out _).mono ?_; rintro e w8 ⟨rfl, rfl⟩) | (go_at_call 37; refine (IP.out _).mono ?_; rintro e w9 ⟨rfl, rfl⟩))
                exact bodyPost_ret (v := .tuple #[.agg #[.string ⟨#[]⟩, .string ⟨#[]⟩, .slice none 0 0, .bool false], .int .i64 30]) (by simp [results, Tryz.results55, go_sem, *]) rfl ⟨rfl, (by repeat (first | exact Below.refl _ _ | refine Below.setCell ?_ (by first | (simp; done) | (simp; omega) | omega) _ | refine Below.alloc ?_ (by first | (simp; done) | (simp; omega) | omega) _ | refine Below.drew ?_ | assumption | refine Below.trans ?_ (Below.mono (by assumption) (by first | (simp; done) | (simp; omega) | omega))))⟩
  · have hE := head_not3 h3
    have eM : headM s = [] := by unfold headM; rw [hE, if_neg (by omega)]
    have eP : headP s = [] := by unfold headP; rw [hE, if_neg (by omega)]
    unfold frV rqV
    rw [eM, eP, hE]
    obtain ⟨n, hn⟩ : ∃ n, (pieces 32 s).length = n := ⟨_, rfl⟩
    rw [hn] at h3 SP
    have h3' : ((n : Int) != 3) = true := by simp; omega
    clear hE eM eP hn h3 E hpl
    have SQ : Hid (∀ W, Below w.heap.size w W → Calls Tryz.prog 66 #[.string ⟨s.toArray⟩, .string ⟨#[32]⟩] W fun e w' => e = .returned (.slice (some ⟨W.heap.size, 0, none⟩) n n) ∧ Below W.heap.size W w') := Lib.hid fun W hb => (SP.out W hb).mono fun e w' hh => ⟨hh.1.1, hh.2⟩
    clear SP
    generalize (⟨s.toArray⟩ : ByteArray) = S at *
    go_enter Tryz.func55, Tryz.ntmps55
    go_wp2_with (first | (go_at_call 66; refine (SQ.out _ (by repeat (first | exact Below.refl _ _ | refine Below.setCell ?_ (by first | (simp; done) | (simp; omega) | omega) _ | refine Below.alloc ?_ (by first | (simp; done) | (simp; omega) | omega) _ | refine Below.drew ?_ | assumption | refine Below.trans ?_ (Below.mono (by assumption) (by first | (simp; done) | (simp; omega) | omega))))).mono ?_; rintro e w1 ⟨rfl, hb1⟩; obtain ⟨hc1, hf1⟩ := bcell hb1; have hs1 := hb1.size; (try simp at hs1); have hz1 : w.heap.size < w1.heap.size := by have := hb1.size; (try simp at this); omega))
    exact bodyPost_ret (v := .tuple #[.agg #[.string ⟨#[]⟩, .string ⟨#[]⟩, .slice none 0 0, .bool false], .int .i64 10]) (by simp [results, Tryz.results55, go_sem, *]) rfl ⟨rfl, (by repeat (first | exact Below.refl _ _ | refine Below.setCell ?_ (by first | (simp; done) | (simp; omega) | omega) _ | refine Below.alloc ?_ (by first | (simp; done) | (simp; omega) | omega) _ | refine Below.drew ?_ | assumption | refine Below.trans ?_ (Below.mono (by assumption) (by first | (simp; done) | (simp; omega) | omega))))⟩
end Go.Proofs.YtkaimfeiahogaaaGreatDoor
