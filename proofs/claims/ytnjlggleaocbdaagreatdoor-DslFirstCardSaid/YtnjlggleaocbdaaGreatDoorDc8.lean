/-
  Contract of the lexer's next where no word begins. (Printed by tools/mkdc8.py.)
-/
import Derived.Test.YtnjlggleaocbdaaGreatDoorDc7
import Derived.StillTailTactics
namespace Go.Proofs.YtnjlggleaocbdaaGreatDoor
set_option linter.all false
open Go.RowKit Go.Shelf
attribute [local go_sem] cell_set_self lt_1 lt_2 lt_3 lt_4 lt_5 lt_6

theorem ib_yes {s : List UInt8} {c : UInt8} (h : c ∈ s) : 0 ≤ Lib.indexByte s c := by
  obtain ⟨k, hk, e⟩ := List.mem_iff_getElem.1 h
  have h1 := Lib.indexByte_ge s c
  rcases Int.lt_or_le (Lib.indexByte s c) 0 with h2 | h2
  · have : Lib.indexByte s c = -1 := by omega
    exact absurd (by rw [List.getElem?_eq_getElem hk, e]) (Lib.indexByte_none this k)
  · exact h2
theorem ib_no {s : List UInt8} {c : UInt8} (h : c ∉ s) : Lib.indexByte s c < 0 := by
  rcases Int.lt_or_le (Lib.indexByte s c) 0 with h2 | h2
  · exact h2
  · obtain ⟨o, ho⟩ := Int.eq_ofNat_of_zero_le h2
    exact absurd (List.mem_of_getElem? (Lib.indexByte_some ho).1) h
theorem mem_rel (c : UInt8) : c ∈ ([33, 60, 62] : List UInt8) ↔ relB c = true := by
  unfold relB
  simp only [List.mem_cons, List.not_mem_nil, or_false, Bool.or_eq_true, decide_eq_true_eq, ← UInt8.toNat_inj]
  show (c.toNat = 33 ∨ c.toNat = 60 ∨ c.toNat = 62) ↔ _
  omega
theorem mem_mark (c : UInt8) : c ∈ ([61, 60, 62, 43, 45, 42, 47, 37, 40, 41, 58, 59] : List UInt8) ↔ markB c = true := by
  unfold markB
  simp only [List.mem_cons, List.not_mem_nil, or_false, Bool.or_eq_true, decide_eq_true_eq, ← UInt8.toNat_inj]
  show (c.toNat = 61 ∨ c.toNat = 60 ∨ c.toNat = 62 ∨ c.toNat = 43 ∨ c.toNat = 45 ∨ c.toNat = 42 ∨ c.toNat = 47 ∨ c.toNat = 37 ∨ c.toNat = 40 ∨ c.toNat = 41 ∨ c.toNat = 58 ∨ c.toNat = 59) ↔ _
  omega
set_option maxHeartbeats 16000000 in
set_option maxRecDepth 100000 in
theorem next_sign (lb : Nat) (c : UInt8) (r : List UInt8) (p : Nat) (hs : (c :: r).length ≤ 1000000000) (hw : withB c = false) (w : World) (H : LxS w lb (c :: r) p) :
    Calls Tryz.prog 67 #[.pointer (some ⟨lb, 0, none⟩)] w fun e w' => e = .returned (tkV (nextF c r).1 p) ∧ LxS w' lb ((c :: r).drop (nextF c r).2) p ∧ Gr w.heap.size lb w w' := by
  suffices key : ∀ Q : Ending → World → Prop, Hid (∀ t n w', nextF c r = (t, n) → LxS w' lb ((c :: r).drop n) p → Gr w.heap.size lb w w' → Q (.returned (tkV t p)) w') → Calls Tryz.prog 67 #[.pointer (some ⟨lb, 0, none⟩)] w Q from key _ (Lib.hid fun t n w' h1 h2 h3 => by rw [h1]; exact ⟨rfl, h2, h3⟩)
  intro Q HF
  obtain ⟨L, hL⟩ : ∃ L, c :: r = L := ⟨_, rfl⟩
  have NF : nextF c r = if c.toNat = 34 then quotedF c r else if (relB c && isEq r) = true then (⟨109, [c, 61], 0⟩, 2) else if markB c = true then (⟨109, [c], 0⟩, 1) else (⟨33, [c], 0⟩, 1) := by
    unfold nextF; rw [if_neg (by simp [hw])]
  have h0 : 0 < L.length := by rw [← hL]; simp
  have T1 : L.take 1 = [c] := by rw [← hL]; rfl
  have QT : Hid (∀ W, LxS W lb L p → Calls Tryz.prog 83 #[.pointer (some ⟨lb, 0, none⟩)] W fun e w' => e = .returned (tkV (quotedF c r).1 p) ∧ LxS w' lb (L.drop (quotedF c r).2) p ∧ Gr W.heap.size lb W w') := Lib.hid fun W h => by
    rw [← hL] at h ⊢
    exact text_any lb c r p hs W h
  have HLr := Lib.hid hL
  rw [hL] at hs H HF
  have HH := Lib.hid H
  have hlb := H.lt
  have TK := Lib.hid (fun (k n : Nat) (s : List UInt8) (hn : n ≤ L.length) (ht : L.take n = s) W (h : LxS W lb L p) => (by subst ht; exact take_any lb L p k n hn hs W h : Calls Tryz.prog 81 #[.pointer (some ⟨lb, 0, none⟩), .int .u8 (k : Int), .int .i64 (n : Int)] W fun e w' => e = .returned (.agg #[.int .u8 (k : Int), .string ⟨s.toArray⟩, .int .i64 0, .int .i64 (p : Int)]) ∧ LxS w' lb (L.drop n) p ∧ Gr W.heap.size lb W w'))
  have WI := Lib.hid (fun W => within_any c W)
  rw [hw] at WI
  obtain ⟨c0, c1, f0, f1⟩ := H
  obtain ⟨t, ht⟩ : ∃ t : ByteArray, (⟨L.toArray⟩ : ByteArray) = t := ⟨_, rfl⟩
  have hsz : L.length = t.size := by rw [← ht, ba_sz]
  have hsr : r.length + 1 = t.size := by rw [← hsz, ← hL]; simp
  have A0 : ∀ h : 0 < t.size, (t[0]'h) = c := fun h => by subst ht; subst hL; rfl
  have A1 : ∀ (d : UInt8) (r' : List UInt8), r = d :: r' → ∀ h : 1 < t.size, (t[1]'h) = d := fun d r' e h => by subst e; subst ht; subst hL; rfl
  rw [hsz] at hs h0 TK
  rw [ht] at c0
  have h0' : (0 : Int) < (t.size : Int) := by omega
  have a0 := A0 h0
  have hnl : ¬ w.heap.size = lb ∧ ¬ lb = w.heap.size := by omega
  clear ht hsz A0 hw hL
  by_cases h34 : c.toNat = 34
  · have e34 : ((c.toNat : Int) == 34) = true := by rw [h34]; rfl
    rw [if_pos h34] at NF
    have FN := Lib.hid NF
    have QT' := QT
    clear h34 NF QT TK A1 T1
    generalize quotedF c r = T at *
    obtain ⟨⟨tk, tS, tn⟩, m⟩ := T
    dsimp only [tkV] at QT'
    go_enter Tryz.func67, Tryz.ntmps67
    go_wp2_with (first | (go_at_call 57; (with_reducible refine (WI.out _).mono ?_); rintro e w3 ⟨rfl, rfl⟩))
    go_at_call 83
    refine (QT'.out _ (HH.out.alloc _)).mono ?_
    rintro e w5 ⟨rfl, hL5, hg5⟩
    have HL5 := Lib.hid hL5
    have HG5 : Hid (Gr w.heap.size lb w w5) := Lib.hid (Gr.trans (Gr.alloc (Gr.refl _ _ _) (Nat.le_refl _) _) hg5 (by simp))
    obtain ⟨hc5, hf5⟩ := gcell hg5
    simp only [World.size_alloc] at hc5 hf5
    have hs5 := hg5.size
    simp only [World.size_alloc] at hs5
    have hz6 : w.heap.size < w5.heap.size ∧ w.heap.size < w.heap.size + 1 := by omega
    clear hL5 hg5
    go_wp2_with (fail)
    exact bodyPost_ret (v := .agg #[.int .u8 tk, .string ⟨tS.toArray⟩, .int .i64 tn, .int .i64 (p : Int)]) (by simp [results, Tryz.results67, go_sem, *]) rfl (HF.out _ _ _ FN.out (by repeat (first | (with_reducible exact HL5.out) | (with_reducible refine LxS.below ?_ (by assumption)) | (with_reducible refine LxS.alloc ?_ _) | (with_reducible refine LxS.far ?_ (by dsimp only; omega) _))) (by repeat (first | (with_reducible exact HG5.out) | ((with_reducible refine Gr.setCell ?_ ?hq1 _); (case hq1 => (left; (first | (simp; done) | (simp; omega) | omega)))) | ((with_reducible refine Gr.alloc ?_ ?hq1 _); (case hq1 => (first | (simp; done) | (simp; omega) | omega))) | refine Gr.below ?_ (by assumption) (by (first | (simp; done) | (simp; omega) | omega)))))
  · have e34 : ((c.toNat : Int) == 34) = false := by rw [beq_eq_false_iff_ne]; omega
    rw [if_neg h34] at NF
    clear h34 QT
    have IR := Lib.hid (fun W => ib_any [33, 60, 62] c W)
    have IM := Lib.hid (fun W => ib_any [61, 60, 62, 43, 45, 42, 47, 37, 40, 41, 58, 59] c W)
    have IRy := fun h => ib_yes (s := [33, 60, 62]) (c := c) ((mem_rel c).2 h)
    have IRn := fun (h : ¬ relB c = true) => ib_no (s := [33, 60, 62]) (c := c) (fun hm => h ((mem_rel c).1 hm))
    have IMy := fun h => ib_yes (s := [61, 60, 62, 43, 45, 42, 47, 37, 40, 41, 58, 59]) (c := c) ((mem_mark c).2 h)
    have IMn := fun (h : ¬ markB c = true) => ib_no (s := [61, 60, 62, 43, 45, 42, 47, 37, 40, 41, 58, 59]) (c := c) (fun hm => h ((mem_mark c).1 hm))
    generalize Lib.indexByte [33, 60, 62] c = ir at *
    generalize Lib.indexByte [61, 60, 62, 43, 45, 42, 47, 37, 40, 41, 58, 59] c = im at *
    by_cases hC : (relB c && isEq r) = true
    · rw [if_pos hC] at NF
      have FN := Lib.hid NF
      have hr1 : relB c = true := by
        cases h : relB c with
        | true => rfl
        | false => rw [h] at hC; simp at hC
      have hr2 : isEq r = true := by rw [hr1] at hC; simpa using hC
      have hir := IRy hr1
      cases r with
      | nil => simp [isEq, headB] at hr2
      | cons d r' =>
        have hd : d.toNat = 61 := by simpa [isEq, headB] using hr2
        have hd2 : d = 61 := UInt8.toNat_inj.1 hd
        have h1 : 1 < t.size := by simp at hsr; omega
        have h1' : (1 : Int) < (t.size : Int) := by omega
        have e61 : (((t[1]'h1).toNat : Int) == 61) = true := by rw [A1 d r' rfl h1, hd]; rfl
        have TK2 := Lib.hid (TK.out 109 2 [c, 61] (by omega) (by rw [← HLr.out, hd2]; rfl))
        clear NF hC hr1 hr2 IRy IRn IMy IMn IM TK A1 T1 hd hd2 hsr
        go_enter Tryz.func67, Tryz.ntmps67
        go_wp2_with (first | (go_at_call 57; (with_reducible refine (WI.out _).mono ?_); rintro e w3 ⟨rfl, rfl⟩) | (go_at_call_of 80 (Value.string ⟨#[33, 60, 62]⟩); (with_reducible refine (IR.out _).mono ?_); rintro e w4 ⟨rfl, rfl⟩))
        go_at_call 81
        refine (TK2.out _ (HH.out.alloc _)).mono ?_
        rintro e w5 ⟨rfl, hL5, hg5⟩
        have HL5 := Lib.hid hL5
        have HG5 : Hid (Gr w.heap.size lb w w5) := Lib.hid (Gr.trans (Gr.alloc (Gr.refl _ _ _) (Nat.le_refl _) _) hg5 (by simp))
        obtain ⟨hc5, hf5⟩ := gcell hg5
        simp only [World.size_alloc] at hc5 hf5
        have hs5 := hg5.size
        simp only [World.size_alloc] at hs5
        have hz6 : w.heap.size < w5.heap.size ∧ w.heap.size < w.heap.size + 1 := by omega
        clear hL5 hg5
        go_wp2_with (fail)
        exact bodyPost_ret (v := .agg #[.int .u8 109, .string ⟨#[c, 61]⟩, .int .i64 0, .int .i64 (p : Int)]) (by simp [results, Tryz.results67, go_sem, *]) rfl (HF.out _ _ _ FN.out (by repeat (first | (with_reducible exact HL5.out) | (with_reducible refine LxS.below ?_ (by assumption)) | (with_reducible refine LxS.alloc ?_ _) | (with_reducible refine LxS.far ?_ (by dsimp only; omega) _))) (by repeat (first | (with_reducible exact HG5.out) | ((with_reducible refine Gr.setCell ?_ ?hq1 _); (case hq1 => (left; (first | (simp; done) | (simp; omega) | omega)))) | ((with_reducible refine Gr.alloc ?_ ?hq1 _); (case hq1 => (first | (simp; done) | (simp; omega) | omega))) | refine Gr.below ?_ (by assumption) (by (first | (simp; done) | (simp; omega) | omega)))))
    · rw [if_neg hC] at NF
      have HC : Hid (∀ (h : 1 < t.size), relB c = true → (((t[1]'h).toNat : Int) == 61) = false) := Lib.hid fun h1 hr1 => by
        rw [beq_eq_false_iff_ne]
        intro h
        refine hC ?_
        rw [hr1, Bool.true_and]
        cases r with
        | nil => simp at hsr; omega
        | cons d r' =>
          rw [A1 d r' rfl h1] at h
          have hd : d.toNat = 61 := Int.ofNat_inj.1 h
          simp [isEq, headB, hd]
      clear hC A1 hsr
      by_cases hm : markB c = true
      · rw [if_pos hm] at NF
        have him := IMy hm
        have him' : ¬ im < 0 := by omega
        have FN := Lib.hid NF
        have TK2 := Lib.hid (TK.out 109 1 [c] (by omega) T1)
        clear NF hm IMy IMn TK T1
        by_cases hr1 : relB c = true
        · have hir := IRy hr1
          by_cases h1 : 1 < t.size
          · have h1' : (1 : Int) < (t.size : Int) := by omega
            have e61 := HC.out h1 hr1
            clear hr1 IRy IRn HC
            go_enter Tryz.func67, Tryz.ntmps67
            go_wp2_with (first | (go_at_call 57; (with_reducible refine (WI.out _).mono ?_); rintro e w3 ⟨rfl, rfl⟩) | (go_at_call_of 80 (Value.string ⟨#[33, 60, 62]⟩); (with_reducible refine (IR.out _).mono ?_); rintro e w4 ⟨rfl, rfl⟩) | (go_at_call_of 80 (Value.string ⟨#[61, 60, 62, 43, 45, 42, 47, 37, 40, 41, 58, 59]⟩); (with_reducible refine (IM.out _).mono ?_); rintro e w4 ⟨rfl, rfl⟩))
            go_at_call 81
            refine (TK2.out _ (HH.out.alloc _)).mono ?_
            rintro e w5 ⟨rfl, hL5, hg5⟩
            have HL5 := Lib.hid hL5
            have HG5 : Hid (Gr w.heap.size lb w w5) := Lib.hid (Gr.trans (Gr.alloc (Gr.refl _ _ _) (Nat.le_refl _) _) hg5 (by simp))
            obtain ⟨hc5, hf5⟩ := gcell hg5
            simp only [World.size_alloc] at hc5 hf5
            have hs5 := hg5.size
            simp only [World.size_alloc] at hs5
            have hz6 : w.heap.size < w5.heap.size ∧ w.heap.size < w.heap.size + 1 := by omega
            clear hL5 hg5
            go_wp2_with (fail)
            exact bodyPost_ret (v := .agg #[.int .u8 109, .string ⟨#[c]⟩, .int .i64 0, .int .i64 (p : Int)]) (by simp [results, Tryz.results67, go_sem, *]) rfl (HF.out _ _ _ FN.out (by repeat (first | (with_reducible exact HL5.out) | (with_reducible refine LxS.below ?_ (by assumption)) | (with_reducible refine LxS.alloc ?_ _) | (with_reducible refine LxS.far ?_ (by dsimp only; omega) _))) (by repeat (first | (with_reducible exact HG5.out) | ((with_reducible refine Gr.setCell ?_ ?hq1 _); (case hq1 => (left; (first | (simp; done) | (simp; omega) | omega)))) | ((with_reducible refine Gr.alloc ?_ ?hq1 _); (case hq1 => (first | (simp; done) | (simp; omega) | omega))) | refine Gr.below ?_ (by assumption) (by (first | (simp; done) | (simp; omega) | omega)))))
          · have h1' : ¬ (1 : Int) < (t.size : Int) := by omega
            clear hr1 IRy IRn HC
            go_enter Tryz.func67, Tryz.ntmps67
            go_wp2_with (first | (go_at_call 57; (with_reducible refine (WI.out _).mono ?_); rintro e w3 ⟨rfl, rfl⟩) | (go_at_call_of 80 (Value.string ⟨#[33, 60, 62]⟩); (with_reducible refine (IR.out _).mono ?_); rintro e w4 ⟨rfl, rfl⟩) | (go_at_call_of 80 (Value.string ⟨#[61, 60, 62, 43, 45, 42, 47, 37, 40, 41, 58, 59]⟩); (with_reducible refine (IM.out _).mono ?_); rintro e w4 ⟨rfl, rfl⟩))
            go_at_call 81
            refine (TK2.out _ (HH.out.alloc _)).mono ?_
            rintro e w5 ⟨rfl, hL5, hg5⟩
            have HL5 := Lib.hid hL5
            have HG5 : Hid (Gr w.heap.size lb w w5) := Lib.hid (Gr.trans (Gr.alloc (Gr.refl _ _ _) (Nat.le_refl _) _) hg5 (by simp))
            obtain ⟨hc5, hf5⟩ := gcell hg5
            simp only [World.size_alloc] at hc5 hf5
            have hs5 := hg5.size
            simp only [World.size_alloc] at hs5
            have hz6 : w.heap.size < w5.heap.size ∧ w.heap.size < w.heap.size + 1 := by omega
            clear hL5 hg5
            go_wp2_with (fail)
            exact bodyPost_ret (v := .agg #[.int .u8 109, .string ⟨#[c]⟩, .int .i64 0, .int .i64 (p : Int)]) (by simp [results, Tryz.results67, go_sem, *]) rfl (HF.out _ _ _ FN.out (by repeat (first | (with_reducible exact HL5.out) | (with_reducible refine LxS.below ?_ (by assumption)) | (with_reducible refine LxS.alloc ?_ _) | (with_reducible refine LxS.far ?_ (by dsimp only; omega) _))) (by repeat (first | (with_reducible exact HG5.out) | ((with_reducible refine Gr.setCell ?_ ?hq1 _); (case hq1 => (left; (first | (simp; done) | (simp; omega) | omega)))) | ((with_reducible refine Gr.alloc ?_ ?hq1 _); (case hq1 => (first | (simp; done) | (simp; omega) | omega))) | refine Gr.below ?_ (by assumption) (by (first | (simp; done) | (simp; omega) | omega)))))
        · have hir := IRn hr1
          have hir' : ¬ 0 ≤ ir := by omega
          clear hr1 IRy IRn HC
          go_enter Tryz.func67, Tryz.ntmps67
          go_wp2_with (first | (go_at_call 57; (with_reducible refine (WI.out _).mono ?_); rintro e w3 ⟨rfl, rfl⟩) | (go_at_call_of 80 (Value.string ⟨#[33, 60, 62]⟩); (with_reducible refine (IR.out _).mono ?_); rintro e w4 ⟨rfl, rfl⟩) | (go_at_call_of 80 (Value.string ⟨#[61, 60, 62, 43, 45, 42, 47, 37, 40, 41, 58, 59]⟩); (with_reducible refine (IM.out _).mono ?_); rintro e w4 ⟨rfl, rfl⟩))
          go_at_call 81
          refine (TK2.out _ (HH.out.alloc _)).mono ?_
          rintro e w5 ⟨rfl, hL5, hg5⟩
          have HL5 := Lib.hid hL5
          have HG5 : Hid (Gr w.heap.size lb w w5) := Lib.hid (Gr.trans (Gr.alloc (Gr.refl _ _ _) (Nat.le_refl _) _) hg5 (by simp))
          obtain ⟨hc5, hf5⟩ := gcell hg5
          simp only [World.size_alloc] at hc5 hf5
          have hs5 := hg5.size
          simp only [World.size_alloc] at hs5
          have hz6 : w.heap.size < w5.heap.size ∧ w.heap.size < w.heap.size + 1 := by omega
          clear hL5 hg5
          go_wp2_with (fail)
          exact bodyPost_ret (v := .agg #[.int .u8 109, .string ⟨#[c]⟩, .int .i64 0, .int .i64 (p : Int)]) (by simp [results, Tryz.results67, go_sem, *]) rfl (HF.out _ _ _ FN.out (by repeat (first | (with_reducible exact HL5.out) | (with_reducible refine LxS.below ?_ (by assumption)) | (with_reducible refine LxS.alloc ?_ _) | (with_reducible refine LxS.far ?_ (by dsimp only; omega) _))) (by repeat (first | (with_reducible exact HG5.out) | ((with_reducible refine Gr.setCell ?_ ?hq1 _); (case hq1 => (left; (first | (simp; done) | (simp; omega) | omega)))) | ((with_reducible refine Gr.alloc ?_ ?hq1 _); (case hq1 => (first | (simp; done) | (simp; omega) | omega))) | refine Gr.below ?_ (by assumption) (by (first | (simp; done) | (simp; omega) | omega)))))
      · rw [if_neg hm] at NF
        have him := IMn hm
        have FN := Lib.hid NF
        have TK2 := Lib.hid (TK.out 33 1 [c] (by omega) T1)
        clear NF hm IMy IMn TK T1
        by_cases hr1 : relB c = true
        · have hir := IRy hr1
          by_cases h1 : 1 < t.size
          · have h1' : (1 : Int) < (t.size : Int) := by omega
            have e61 := HC.out h1 hr1
            clear hr1 IRy IRn HC
            go_enter Tryz.func67, Tryz.ntmps67
            go_wp2_with (first | (go_at_call 57; (with_reducible refine (WI.out _).mono ?_); rintro e w3 ⟨rfl, rfl⟩) | (go_at_call_of 80 (Value.string ⟨#[33, 60, 62]⟩); (with_reducible refine (IR.out _).mono ?_); rintro e w4 ⟨rfl, rfl⟩) | (go_at_call_of 80 (Value.string ⟨#[61, 60, 62, 43, 45, 42, 47, 37, 40, 41, 58, 59]⟩); (with_reducible refine (IM.out _).mono ?_); rintro e w4 ⟨rfl, rfl⟩))
            go_at_call 81
            refine (TK2.out _ (HH.out.alloc _)).mono ?_
            rintro e w5 ⟨rfl, hL5, hg5⟩
            have HL5 := Lib.hid hL5
            have HG5 : Hid (Gr w.heap.size lb w w5) := Lib.hid (Gr.trans (Gr.alloc (Gr.refl _ _ _) (Nat.le_refl _) _) hg5 (by simp))
            obtain ⟨hc5, hf5⟩ := gcell hg5
            simp only [World.size_alloc] at hc5 hf5
            have hs5 := hg5.size
            simp only [World.size_alloc] at hs5
            have hz6 : w.heap.size < w5.heap.size ∧ w.heap.size < w.heap.size + 1 := by omega
            clear hL5 hg5
            go_wp2_with (fail)
            exact bodyPost_ret (v := .agg #[.int .u8 33, .string ⟨#[c]⟩, .int .i64 0, .int .i64 (p : Int)]) (by simp [results, Tryz.results67, go_sem, *]) rfl (HF.out _ _ _ FN.out (by repeat (first | (with_reducible exact HL5.out) | (with_reducible refine LxS.below ?_ (by assumption)) | (with_reducible refine LxS.alloc ?_ _) | (with_reducible refine LxS.far ?_ (by dsimp only; omega) _))) (by repeat (first | (with_reducible exact HG5.out) | ((with_reducible refine Gr.setCell ?_ ?hq1 _); (case hq1 => (left; (first | (simp; done) | (simp; omega) | omega)))) | ((with_reducible refine Gr.alloc ?_ ?hq1 _); (case hq1 => (first | (simp; done) | (simp; omega) | omega))) | refine Gr.below ?_ (by assumption) (by (first | (simp; done) | (simp; omega) | omega)))))
          · have h1' : ¬ (1 : Int) < (t.size : Int) := by omega
            clear hr1 IRy IRn HC
            go_enter Tryz.func67, Tryz.ntmps67
            go_wp2_with (first | (go_at_call 57; (with_reducible refine (WI.out _).mono ?_); rintro e w3 ⟨rfl, rfl⟩) | (go_at_call_of 80 (Value.string ⟨#[33, 60, 62]⟩); (with_reducible refine (IR.out _).mono ?_); rintro e w4 ⟨rfl, rfl⟩) | (go_at_call_of 80 (Value.string ⟨#[61, 60, 62, 43, 45, 42, 47, 37, 40, 41, 58, 59]⟩); (with_reducible refine (IM.out _).mono ?_); rintro e w4 ⟨rfl, rfl⟩))
            go_at_call 81
            refine (TK2.out _ (HH.out.alloc _)).mono ?_
            rintro e w5 ⟨rfl, hL5, hg5⟩
            have HL5 := Lib.hid hL5
            have HG5 : Hid (Gr w.heap.size lb w w5) := Lib.hid (Gr.trans (Gr.alloc (Gr.refl _ _ _) (Nat.le_refl _) _) hg5 (by simp))
            obtain ⟨hc5, hf5⟩ := gcell hg5
            simp only [World.size_alloc] at hc5 hf5
            have hs5 := hg5.size
            simp only [World.size_alloc] at hs5
            have hz6 : w.heap.size < w5.heap.size ∧ w.heap.size < w.heap.size + 1 := by omega
            clear hL5 hg5
            go_wp2_with (fail)
            exact bodyPost_ret (v := .agg #[.int .u8 33, .string ⟨#[c]⟩, .int .i64 0, .int .i64 (p : Int)]) (by simp [results, Tryz.results67, go_sem, *]) rfl (HF.out _ _ _ FN.out (by repeat (first | (with_reducible exact HL5.out) | (with_reducible refine LxS.below ?_ (by assumption)) | (with_reducible refine LxS.alloc ?_ _) | (with_reducible refine LxS.far ?_ (by dsimp only; omega) _))) (by repeat (first | (with_reducible exact HG5.out) | ((with_reducible refine Gr.setCell ?_ ?hq1 _); (case hq1 => (left; (first | (simp; done) | (simp; omega) | omega)))) | ((with_reducible refine Gr.alloc ?_ ?hq1 _); (case hq1 => (first | (simp; done) | (simp; omega) | omega))) | refine Gr.below ?_ (by assumption) (by (first | (simp; done) | (simp; omega) | omega)))))
        · have hir := IRn hr1
          have hir' : ¬ 0 ≤ ir := by omega
          clear hr1 IRy IRn HC
          go_enter Tryz.func67, Tryz.ntmps67
          go_wp2_with (first | (go_at_call 57; (with_reducible refine (WI.out _).mono ?_); rintro e w3 ⟨rfl, rfl⟩) | (go_at_call_of 80 (Value.string ⟨#[33, 60, 62]⟩); (with_reducible refine (IR.out _).mono ?_); rintro e w4 ⟨rfl, rfl⟩) | (go_at_call_of 80 (Value.string ⟨#[61, 60, 62, 43, 45, 42, 47, 37, 40, 41, 58, 59]⟩); (with_reducible refine (IM.out _).mono ?_); rintro e w4 ⟨rfl, rfl⟩))
          go_at_call 81
          refine (TK2.out _ (HH.out.alloc _)).mono ?_
          rintro e w5 ⟨rfl, hL5, hg5⟩
          have HL5 := Lib.hid hL5
          have HG5 : Hid (Gr w.heap.size lb w w5) := Lib.hid (Gr.trans (Gr.alloc (Gr.refl _ _ _) (Nat.le_refl _) _) hg5 (by simp))
          obtain ⟨hc5, hf5⟩ := gcell hg5
          simp only [World.size_alloc] at hc5 hf5
          have hs5 := hg5.size
          simp only [World.size_alloc] at hs5
          have hz6 : w.heap.size < w5.heap.size ∧ w.heap.size < w.heap.size + 1 := by omega
          clear hL5 hg5
          go_wp2_with (fail)
          exact bodyPost_ret (v := .agg #[.int .u8 33, .string ⟨#[c]⟩, .int .i64 0, .int .i64 (p : Int)]) (by simp [results, Tryz.results67, go_sem, *]) rfl (HF.out _ _ _ FN.out (by repeat (first | (with_reducible exact HL5.out) | (with_reducible refine LxS.below ?_ (by assumption)) | (with_reducible refine LxS.alloc ?_ _) | (with_reducible refine LxS.far ?_ (by dsimp only; omega) _))) (by repeat (first | (with_reducible exact HG5.out) | ((with_reducible refine Gr.setCell ?_ ?hq1 _); (case hq1 => (left; (first | (simp; done) | (simp; omega) | omega)))) | ((with_reducible refine Gr.alloc ?_ ?hq1 _); (case hq1 => (first | (simp; done) | (simp; omega) | omega))) | refine Gr.below ?_ (by assumption) (by (first | (simp; done) | (simp; omega) | omega)))))
end Go.Proofs.YtnjlggleaocbdaaGreatDoor
