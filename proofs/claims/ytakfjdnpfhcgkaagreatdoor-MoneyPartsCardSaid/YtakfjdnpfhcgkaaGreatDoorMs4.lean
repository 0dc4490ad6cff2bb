/-
  The stable sort of indices by the closure of Allocate: contracts of symMerge, stable, SortStableFunc.
-/
import Derived.Test.YtakfjdnpfhcgkaaGreatDoorMs3
import Derived.Deep.CutBlock
namespace Go.Proofs.YtakfjdnpfhcgkaaGreatDoor
set_option linter.all false
open Go.RowKit Go.Sort
attribute [local go_sem] cell_set_self lt_1 lt_2 lt_3 lt_4 lt_5 lt_6

set_option maxHeartbeats 16000000 in
set_option maxRecDepth 100000 in
theorem symMerge_any (key : Nat → Int) (z : Nat → Nat → Int) (hz : Fits key z) (h n c bL : Nat) (hn : n ≤ 1000000) (w0 : World) (CMP : CmpR h n bL z w0) : ∀ (d a m b : Nat) (f : Nat → Nat) (w : World), b - a ≤ d → a < m → m < b → b ≤ n → w0.grownBy w (some h) → RowI w h f n → Srt key f a m → Srt key f m b → Stb key f a m b →
    Calls Tryz.prog 77 #[.slice (some ⟨h, 0, none⟩) n c, .int .i64 a, .int .i64 m, .int .i64 b, cloV bL] w fun e w' => e = .returned (.tuple #[]) ∧ w.grownBy w' (some h) ∧ ∃ g, RowI w' h g n ∧ Same f g a b ∧ Srt key g a b := by
  intro d
  induction d with
  | zero => intro a m b f w h1 h2 h3; omega
  | succ d ih =>
  intro a m b f w hd ham hmb hb G0 R hl hr hS
  by_cases hm1 : m = a + 1
  · subst hm1; exact merge_left key z hz h n c bL hn w0 CMP a b f hmb hb w G0 R hr hS
  by_cases hb1 : b = m + 1
  · subst hb1; exact merge_right key z hz h n c bL hn w0 CMP a m f (by omega) hb w G0 R hl hS
  have IH := Lib.hid ih
  have HR := Lib.hid R
  have CM := Lib.hid CMP
  have HG0 := Lib.hid G0
  have HLs := Lib.hid hl
  have HRs := Lib.hid hr
  have HSt := Lib.hid hS
  have RO := Lib.hid (fun (p q r : Nat) (h1 : p < q) (h2 : q < r) (h3 : r ≤ n) W (hr : RowI W h f n) => rotate_any h n c bL p q r f h1 h2 h3 hn W hr)
  clear R CMP G0 hl hr hS ih
  obtain ⟨d1, hd1⟩ : ∃ x, m - a = x := ⟨_, rfl⟩
  obtain ⟨d2, hd2⟩ : ∃ x, b - m = x := ⟨_, rfl⟩
  have a1 : (m : Int) - (a : Int) = (d1 : Int) := by omega
  have a2 : (b : Int) - (m : Int) = (d2 : Int) := by omega
  have a3 : ((d1 : Int) == 1) = false := by simp; omega
  have a4 : ((d2 : Int) == 1) = false := by simp; omega
  have a5 : IntKind.i64.wrap (d1 : Int) = (d1 : Int) := by rw [IntKind.wrap_i64]; omega
  have a6 : IntKind.i64.wrap (d2 : Int) = (d2 : Int) := by rw [IntKind.wrap_i64]; omega
  obtain ⟨mid, hmid⟩ : ∃ x, (a + b) / 2 = x := ⟨_, rfl⟩
  have a7 : IntKind.u64.wrap ((a : Int) + (b : Int)) = (a : Int) + (b : Int) := by rw [IntKind.wrap_u64]; omega
  have a8 : ((a : Int) + (b : Int)) / 2 = (mid : Int) := by omega
  obtain ⟨N, hN⟩ : ∃ x, mid + m = x := ⟨_, rfl⟩
  have a9 : (mid : Int) + (m : Int) = (N : Int) := by omega
  have aw : IntKind.i64.wrap (N : Int) = (N : Int) := by rw [IntKind.wrap_i64]; omega
  obtain ⟨s0, hs0⟩ : ∃ s0 : Nat, (if mid < m then mid + m - b else a) = s0 := ⟨_, rfl⟩
  obtain ⟨r0, hr0⟩ : ∃ r0 : Nat, (if mid < m then mid else m) = r0 := ⟨_, rfl⟩
  obtain ⟨P, hP⟩ : ∃ P : Nat, N - 1 = P := ⟨_, rfl⟩
  have p1 : (N : Int) - 1 = (P : Int) := by omega
  have p2 : IntKind.i64.wrap (P : Int) = (P : Int) := by rw [IntKind.wrap_i64]; omega
  have SB : Hid (∀ x, s0 ≤ x → x < r0 → a ≤ x ∧ x < m ∧ x ≤ P ∧ m ≤ P - x ∧ P - x < b) := Lib.hid fun x h1 h2 => by
    by_cases hc : mid < m
    · rw [if_pos hc] at hs0 hr0; omega
    · rw [if_neg hc] at hs0 hr0; omega
  have SR : a ≤ s0 ∧ s0 ≤ r0 ∧ r0 ≤ m := by
    by_cases hc : mid < m
    · rw [if_pos hc] at hs0 hr0; omega
    · rw [if_neg hc] at hs0 hr0; omega
  have HMID := Lib.hid hmid
  have HN := Lib.hid hN
  have HP := Lib.hid hP
  have HS0 := Lib.hid hs0
  have HR0 := Lib.hid hr0
  clear hmid hN hP hs0 hr0
  obtain ⟨B, hB⟩ : ∃ B, decide (mid < m) = B := ⟨_, rfl⟩
  unfold cloV at *
  go_enter Tryz.func77, Tryz.ntmps77
  go_upto_if 140 with (fail)
  go_cut [20, 21] from 141 to 146 (fun s r wx => s = .int .i64 s0 ∧ r = .int .i64 r0 ∧ w = wx)
  case first =>
    cases B
    case true =>
      have hc : mid < m := of_decide_eq_true hB
      have hc' : (mid : Int) < (m : Int) := by omega
      have e1 := HS0.out
      have e2 := HR0.out
      have e3 := HN.out
      rw [if_pos hc] at e1 e2
      subst e2
      have e4 : (N : Int) - (b : Int) = (s0 : Int) := by
        have := HMID.out
        omega
      have e5 : IntKind.i64.wrap (s0 : Int) = (s0 : Int) := by rw [IntKind.wrap_i64]; omega
      clear e1 e3
      go_wp2_with (fail)
      go_meet
      exact ⟨rfl, rfl, rfl⟩
    case false =>
      have hc : ¬ mid < m := of_decide_eq_false hB
      have hc' : ¬ (mid : Int) < (m : Int) := by omega
      have e1 := HS0.out
      have e2 := HR0.out
      rw [if_neg hc] at e1 e2
      subst e1 e2
      go_wp2_with (fail)
      go_meet
      exact ⟨rfl, rfl, rfl⟩
  case rest =>
  obtain ⟨rfl, rfl, rfl⟩ := hcut
  clear hB
  go_wp2
  go_loopw [20, 21] (fun s r wr => ∃ (S T : Nat), s = .int .i64 S ∧ r = .int .i64 T ∧ (s0 ≤ S ∧ S ≤ T ∧ T ≤ r0) ∧ Hid (w.grownBy wr (some h)) ∧ Hid (RowI wr h f n) ∧ Hid ((∀ x, s0 ≤ x → x < S → Lk key (f x) (f (P - x))) ∧ (∀ x, T ≤ x → x < r0 → Lk key (f (P - x)) (f x)))) (fun s r _ => (intOf r).toNat - (intOf s).toNat)
  case atStart => exact ⟨s0, r0, rfl, rfl, by omega, Lib.hid (grown_below (Below.refl _ _) _), HR, Lib.hid ⟨fun x h1 h2 => absurd h2 (by omega), fun x h1 h2 => absurd h2 (by omega)⟩⟩
  case round =>
    obtain ⟨S, T, rfl, rfl, ⟨hS0, hST, hT⟩, HG, HI, HL⟩ := hrel
    obtain ⟨wo, rfl⟩ : ∃ wo : World, wo = wr := ⟨_, rfl⟩
    clear a1 a2 a3 a4 a5 a6 a7 a8 a9 aw p1 p2
    by_cases hlt : S < T
    · have hlt' : (S : Int) < (T : Int) := by omega
      obtain ⟨p, hp⟩ : ∃ p, (S + T) / 2 = p := ⟨_, rfl⟩
      have u1 : IntKind.u64.wrap ((S : Int) + (T : Int)) = (S : Int) + (T : Int) := by rw [IntKind.wrap_u64]; omega
      have u2 : ((S : Int) + (T : Int)) / 2 = (p : Int) := by omega
      have pm : s0 ≤ p ∧ S ≤ p ∧ p < T := by omega
      have sb := SB.out p (by omega) (by omega)
      obtain ⟨q, hq⟩ : ∃ q, P - p = q := ⟨_, rfl⟩
      rw [hq] at sb
      have q1 : (P : Int) - (p : Int) = (q : Int) := by omega
      have q2 : IntKind.i64.wrap (q : Int) = (q : Int) := by rw [IntKind.wrap_i64]; omega
      have pn : (p : Int) < (n : Int) := by omega
      have qn : (q : Int) < (n : Int) := by omega
      have hiI := HI.out
      have hbw := hiI.1
      have c0 := hiI.at (j := q) (by omega) rfl
      have c1 := hiI.at (j := p) (by omega) rfl
      have v0 := (hiI.2 q (by omega)).2.2
      have v1 := (hiI.2 p (by omega)).2.2
      have CK := Lib.hid (fun W (hb : Below wo.heap.size wo W) => CM.out W ((HG0.out.trans HG.out).trans (grown_below hb _)) (f q) (f p) v0 v1)
      have Y : Hid (z (f q) (f p) < 0 → ∀ x, p ≤ x → x < r0 → Lk key (f (P - x)) (f x)) := Lib.hid fun hn => by
        have h1 : Lk key (f q) (f p) := (HSt.out.cmp (i := p) (j := q) (by omega) (by omega) (by omega) (by omega)).1 ((hz _ _).1 hn)
        intro x h2 h3
        have sx := SB.out x (by omega) h3
        rcases Nat.lt_or_eq_of_le h2 with h4 | h4
        · exact ((HRs.out (P - x) q (by omega) (by omega) (by omega)).trans h1).trans (HLs.out p x (by omega) h4 (by omega))
        · rw [← h4, hq]; exact h1
      have NN : Hid (¬ z (f q) (f p) < 0 → ∀ x, s0 ≤ x → x < p + 1 → Lk key (f x) (f (P - x))) := Lib.hid fun hn => by
        have h1 : Lk key (f p) (f q) := (HSt.out.cmp' (i := p) (j := q) (by omega) (by omega) (by omega) (by omega)).1 (fun k => hn ((hz _ _).2 k))
        intro x h2 h3
        have sx := SB.out x h2 (by omega)
        rcases Nat.lt_or_eq_of_le (show x ≤ p by omega) with h4 | h4
        · exact ((HLs.out x p (by omega) h4 (by omega)).trans h1).trans (HRs.out q (P - x) (by omega) (by omega) (by omega))
        · rw [h4, hq]; exact h1
      clear hiI v0 v1 hp hq
      generalize z (f q) (f p) = zv at *
      by_cases hc : zv < 0
      · have L := Lib.hid (And.intro HL.out.1 (Y.out hc))
        clear Y NN HL
        generalize f p = x at *
        generalize f q = y at *
        go_upto_region 35 with (fail)
        go_region_held3 (fun w' => w'.cell? ⟨h, p, none⟩ = some (.int .i64 x) ∧ w'.cell? ⟨h, q, none⟩ = some (.int .i64 y) ∧ h < w'.heap.size ∧ Below wo.heap.size wo w')
      (first | (refine ⟨?_, ?_, ?_, ?_⟩ <;> first | (simp [go_sem, *]; done) | omega | (simp; omega) | exact (by repeat (first | exact Below.refl _ _ | refine Below.setCell ?_ (by first | (simp; done) | (simp; omega) | omega) _ | refine Below.alloc ?_ (by first | (simp; done) | (simp; omega) | omega) _ | refine Below.drew ?_ | assumption | refine Below.trans ?_ (Below.mono (by assumption) (by first | (simp; done) | (simp; omega) | omega))))))
      (first | (first | (go_at_call 20; refine (CK.out _ (by repeat (first | exact Below.refl _ _ | refine Below.setCell ?_ (by first | (simp; done) | (simp; omega) | omega) _ | refine Below.alloc ?_ (by first | (simp; done) | (simp; omega) | omega) _ | refine Below.drew ?_ | assumption | refine Below.trans ?_ (Below.mono (by assumption) (by first | (simp; done) | (simp; omega) | omega))))).mono ?_; rintro e w1 ⟨rfl, hb1⟩; obtain ⟨hc1, hf1⟩ := bcell hb1; (try simp only [drew_sizeM, drew_cellM, drew_frozenM] at hc1 hf1); have hs1 := hb1.size; (try simp at hs1); have hz1 : h < w1.heap.size := by have := hb1.size; (try simp at this); omega)))
        have hB1 : Below wo.heap.size wo w1 := (by repeat (first | exact Below.refl _ _ | refine Below.setCell ?_ (by first | (simp; done) | (simp; omega) | omega) _ | refine Below.alloc ?_ (by first | (simp; done) | (simp; omega) | omega) _ | refine Below.drew ?_ | assumption | refine Below.trans ?_ (Below.mono (by assumption) (by first | (simp; done) | (simp; omega) | omega))))
        go_wp2
        go_roundw
        case rel => exact ⟨S, p, rfl, rfl, by omega, Lib.hid (HG.out.trans (grown_below hB1 _)), Lib.hid (HI.out.below hB1), L⟩
        case measure => first | (simp [intOf]; done) | (simp [intOf]; omega)
      · have L := Lib.hid (And.intro (NN.out hc) HL.out.2)
        have hcd : decide (zv < 0) = false := decide_eq_false hc
        have hcn : (!decide (zv < 0)) = true := by rw [hcd]; rfl
        have hc0 : 0 ≤ zv := by omega
        clear Y NN HL
        generalize f p = x at *
        generalize f q = y at *
        go_upto_region 35 with (fail)
        go_region_held3 (fun w' => w'.cell? ⟨h, p, none⟩ = some (.int .i64 x) ∧ w'.cell? ⟨h, q, none⟩ = some (.int .i64 y) ∧ h < w'.heap.size ∧ Below wo.heap.size wo w')
      (first | (refine ⟨?_, ?_, ?_, ?_⟩ <;> first | (simp [go_sem, *]; done) | omega | (simp; omega) | exact (by repeat (first | exact Below.refl _ _ | refine Below.setCell ?_ (by first | (simp; done) | (simp; omega) | omega) _ | refine Below.alloc ?_ (by first | (simp; done) | (simp; omega) | omega) _ | refine Below.drew ?_ | assumption | refine Below.trans ?_ (Below.mono (by assumption) (by first | (simp; done) | (simp; omega) | omega))))))
      (first | (first | (go_at_call 20; refine (CK.out _ (by repeat (first | exact Below.refl _ _ | refine Below.setCell ?_ (by first | (simp; done) | (simp; omega) | omega) _ | refine Below.alloc ?_ (by first | (simp; done) | (simp; omega) | omega) _ | refine Below.drew ?_ | assumption | refine Below.trans ?_ (Below.mono (by assumption) (by first | (simp; done) | (simp; omega) | omega))))).mono ?_; rintro e w1 ⟨rfl, hb1⟩; obtain ⟨hc1, hf1⟩ := bcell hb1; (try simp only [drew_sizeM, drew_cellM, drew_frozenM] at hc1 hf1); have hs1 := hb1.size; (try simp at hs1); have hz1 : h < w1.heap.size := by have := hb1.size; (try simp at this); omega)))
        have hB1 : Below wo.heap.size wo w1 := (by repeat (first | exact Below.refl _ _ | refine Below.setCell ?_ (by first | (simp; done) | (simp; omega) | omega) _ | refine Below.alloc ?_ (by first | (simp; done) | (simp; omega) | omega) _ | refine Below.drew ?_ | assumption | refine Below.trans ?_ (Below.mono (by assumption) (by first | (simp; done) | (simp; omega) | omega))))
        go_wp2
        go_roundw
        case rel => exact ⟨p + 1, T, by go_num, rfl, by omega, Lib.hid (HG.out.trans (grown_below hB1 _)), Lib.hid (HI.out.below hB1), L⟩
        case measure => first | (simp [intOf]; done) | (simp [intOf]; omega)
    · obtain rfl : S = T := by omega
      have hlt' : ¬ (S : Int) < (S : Int) := by omega
      have CUT : Hid (Cut key f a m b S) := Lib.hid (by
        have e1 := HMID.out
        have e2 := HN.out
        have e3 := HP.out
        refine ⟨?_, ?_, ?_, ?_⟩
        · rw [e1, HS0.out]; exact hS0
        · rw [e1, HR0.out]; exact hT
        · rw [e1, HS0.out]
          intro h1
          have := HL.out.1 (S - 1) (by omega) (by omega)
          rwa [show P - (S - 1) = mid + m - S by omega] at this
        · rw [e1, HR0.out]
          intro h1
          have := HL.out.2 S (Nat.le_refl _) h1
          rwa [show P - S = mid + m - 1 - S by omega] at this)
      have FA := CUT.out.facts ham hmb
      have CS := Lib.hid (cut_srt ham hmb CUT.out HLs.out HRs.out HSt.out)
      rw [HMID.out, HN.out] at FA CS
      obtain ⟨E, hE⟩ : ∃ E, N - S = E := ⟨_, rfl⟩
      rw [hE] at FA CS
      have x1 : (N : Int) - (S : Int) = (E : Int) := by have := HN.out; omega
      have x2 : IntKind.i64.wrap (E : Int) = (E : Int) := by rw [IntKind.wrap_i64]; omega
      have hmidb : a < mid ∧ mid < b := by have := HMID.out; omega
      obtain ⟨g0, hg0⟩ : ∃ g0, rot f S m E = g0 := ⟨_, rfl⟩
      have HG0' := Lib.hid hg0
      have SM : Hid (Same f g0 a b) := Lib.hid (by rw [← hg0]; exact (same_rot FA.2.2.1 FA.2.2.2.1).wide FA.1 FA.2.2.2.2.1)
      rw [hg0] at CS
      have TEQ : Hid (¬ (S < m ∧ m < E) → f = g0) := Lib.hid fun hc => by
        rw [← hg0]
        rcases Nat.lt_or_ge S m with k | k
        · obtain rfl : m = E := by omega
          rw [rot_end]
        · obtain rfl : S = m := by omega
          rw [rot_start]
      clear HL CUT hg0 hE SB HS0 HR0 HP SR HLs HRs HSt
      obtain ⟨B1, hB1⟩ : ∃ B1, decide (S < m ∧ m < E) = B1 := ⟨_, rfl⟩
      go_upto_region 39 with (fail)
      go_cut [185] from 178 to 184 (fun t wx => t = .bool B1 ∧ wo = wx)
      case first =>
        by_cases k1 : S < m
        · have k1' : (S : Int) < (m : Int) := by omega
          by_cases k2 : m < E
          · have k2' : (m : Int) < (E : Int) := by omega
            rw [decide_eq_true (And.intro k1 k2)] at hB1
            subst hB1
            go_wp2_with (fail)
            go_meet
            exact ⟨rfl, rfl⟩
          · have k2' : ¬ (m : Int) < (E : Int) := by omega
            rw [decide_eq_false (fun h => k2 h.2)] at hB1
            subst hB1
            go_wp2_with (fail)
            go_meet
            exact ⟨rfl, rfl⟩
        · have k1' : ¬ (S : Int) < (m : Int) := by omega
          rw [decide_eq_false (fun h => k1 h.1)] at hB1
          subst hB1
          go_wp2_with (fail)
          go_meet
          exact ⟨rfl, rfl⟩
      case rest =>
      obtain ⟨rfl, rfl⟩ := hcut
      go_upto_if 185 with (fail)
      go_cut [] from 186 to 191 (fun wx => Hid (w.grownBy wx (some h) ∧ RowI wx h g0 n))
      case first =>
        cases B1
        case true =>
          have k := of_decide_eq_true hB1
          have RC := Lib.hid (RO.out S m E k.1 k.2 (by omega) _ HI.out)
          go_wp2_with (first | (go_at_call 95; (with_reducible refine RC.out.mono ?_); rintro e w1 ⟨rfl, hg1, hr1⟩))
          go_meet
          exact Lib.hid ⟨HG.out.trans hg1, by rw [← HG0'.out]; exact hr1⟩
        case false =>
          have k := of_decide_eq_false hB1
          go_wp2_with (fail)
          go_meet
          exact Lib.hid ⟨HG.out, by rw [← TEQ.out k]; exact HI.out⟩
      case rest =>
      have HC1 := hcut
      clear hcut TEQ RO HI HG hB1 HG0'
      obtain ⟨wa, rfl⟩ : ∃ wa : World, wa = wc := ⟨_, rfl⟩
      obtain ⟨B2, hB2⟩ : ∃ B2, decide (a < S ∧ S < mid) = B2 := ⟨_, rfl⟩
      go_upto_region 41 with (fail)
      go_cut [199] from 192 to 198 (fun t wx => t = .bool B2 ∧ wa = wx)
      case first =>
        by_cases k1 : a < S
        · have k1' : (a : Int) < (S : Int) := by omega
          by_cases k2 : S < mid
          · have k2' : (S : Int) < (mid : Int) := by omega
            rw [decide_eq_true (And.intro k1 k2)] at hB2
            subst hB2
            go_wp2_with (fail)
            go_meet
            exact ⟨rfl, rfl⟩
          · have k2' : ¬ (S : Int) < (mid : Int) := by omega
            rw [decide_eq_false (fun h => k2 h.2)] at hB2
            subst hB2
            go_wp2_with (fail)
            go_meet
            exact ⟨rfl, rfl⟩
        · have k1' : ¬ (a : Int) < (S : Int) := by omega
          rw [decide_eq_false (fun h => k1 h.1)] at hB2
          subst hB2
          go_wp2_with (fail)
          go_meet
          exact ⟨rfl, rfl⟩
      case rest =>
      obtain ⟨rfl, rfl⟩ := hcut
      go_upto_if 199 with (fail)
      go_cut [] from 200 to 205 (fun wx => Hid (∃ g1, w.grownBy wx (some h) ∧ RowI wx h g1 n ∧ Same g0 g1 a mid ∧ Srt key g1 a mid))
      case first =>
        cases B2
        case true =>
          have k := of_decide_eq_true hB2
          have RC := Lib.hid (IH.out a S mid g0 wa (by omega) k.1 k.2 (by omega) (HG0.out.trans HC1.out.1) HC1.out.2 CS.out.1.1 CS.out.1.2.1 CS.out.2.1)
          go_wp2_with (first | (go_at_call 77; (with_reducible refine RC.out.mono ?_); rintro e w1 ⟨rfl, hg1, g1, hr1, hs1, ht1⟩))
          go_meet
          exact Lib.hid ⟨g1, HC1.out.1.trans hg1, hr1, hs1, ht1⟩
        case false =>
          have k := of_decide_eq_false hB2
          have X : Srt key g0 a mid := by
            rcases Nat.lt_or_ge a S with h1 | h1
            · obtain rfl : S = mid := by omega
              exact CS.out.1.1
            · obtain rfl : S = a := by omega
              exact CS.out.1.2.1
          go_wp2_with (fail)
          go_meet
          exact Lib.hid ⟨g0, HC1.out.1, HC1.out.2, Same.refl _ _ _, X⟩
      case rest =>
      obtain ⟨g1, hG1, hR1, hS1, hT1⟩ := hcut.out
      have HC2 := Lib.hid (And.intro hG1 hR1)
      have S1 := Lib.hid hS1
      have T1 := Lib.hid hT1
      have E1 : Hid (∀ x, mid ≤ x → g1 x = g0 x) := Lib.hid fun x hx => hS1.1 x (by omega)
      have C3 : Hid (Srt key g1 mid E ∧ Srt key g1 E b ∧ Stb key g1 mid E b) := Lib.hid (by
        refine ⟨fun x y h1 h2 h3 => ?_, fun x y h1 h2 h3 => ?_, fun x y h1 h2 h3 h4 hk => ?_⟩
        · rw [E1.out x h1, E1.out y (by omega)]; exact CS.out.1.2.2.1 x y h1 h2 h3
        · rw [E1.out x (by omega), E1.out y (by omega)]; exact CS.out.1.2.2.2 x y h1 h2 h3
        · rw [E1.out x h1, E1.out y (by omega)] at hk ⊢; exact CS.out.2.2.1 x y h1 h2 h3 h4 hk)
      have FIN : Hid (∀ g2, Same g1 g2 mid b → Srt key g2 mid b → Same f g2 a b ∧ Srt key g2 a b) := Lib.hid fun g2 h1 h2 =>
        ⟨(SM.out.trans (S1.out.wide (Nat.le_refl _) (by omega))).trans (h1.wide (by omega) (Nat.le_refl _)), srt_join (by omega) (by omega) CS.out.2.2.2 S1.out h1 T1.out h2⟩
      clear hcut hG1 hR1 hS1 hT1 HC1 hB2 S1 T1 E1 SM CS
      obtain ⟨wb, rfl⟩ : ∃ wb : World, wb = wc := ⟨_, rfl⟩
      obtain ⟨B3, hB3⟩ : ∃ B3, decide (mid < E ∧ E < b) = B3 := ⟨_, rfl⟩
      go_upto_region 43 with (fail)
      go_cut [213] from 206 to 212 (fun t wx => t = .bool B3 ∧ wb = wx)
      case first =>
        by_cases k1 : mid < E
        · have k1' : (mid : Int) < (E : Int) := by omega
          by_cases k2 : E < b
          · have k2' : (E : Int) < (b : Int) := by omega
            rw [decide_eq_true (And.intro k1 k2)] at hB3
            subst hB3
            go_wp2_with (fail)
            go_meet
            exact ⟨rfl, rfl⟩
          · have k2' : ¬ (E : Int) < (b : Int) := by omega
            rw [decide_eq_false (fun h => k2 h.2)] at hB3
            subst hB3
            go_wp2_with (fail)
            go_meet
            exact ⟨rfl, rfl⟩
        · have k1' : ¬ (mid : Int) < (E : Int) := by omega
          rw [decide_eq_false (fun h => k1 h.1)] at hB3
          subst hB3
          go_wp2_with (fail)
          go_meet
          exact ⟨rfl, rfl⟩
      case rest =>
      obtain ⟨rfl, rfl⟩ := hcut
      go_upto_if 213 with (fail)
      cases B3
      case true =>
        have k := of_decide_eq_true hB3
        have RC := Lib.hid (IH.out mid E b g1 wb (by omega) k.1 k.2 (by omega) (HG0.out.trans HC2.out.1) HC2.out.2 C3.out.1 C3.out.2.1 C3.out.2.2)
        go_wp2_with (first | (go_at_call 77; (with_reducible refine RC.out.mono ?_); rintro e w1 ⟨rfl, hg1, g2, hr1, hs1, ht1⟩))
        first
          | (refine bodyPost_ret (results_none rfl _ _ _) rfl ?_; exact ⟨rfl, HC2.out.1.trans hg1, g2, hr1, FIN.out g2 hs1 ht1⟩)
          | (refine bodyPost_end (results_none rfl _ _ _) rfl ?_; exact ⟨rfl, HC2.out.1.trans hg1, g2, hr1, FIN.out g2 hs1 ht1⟩)
      case false =>
        have k := of_decide_eq_false hB3
        have X : Srt key g1 mid b := by
          rcases Nat.lt_or_ge mid E with h1 | h1
          · obtain rfl : E = b := by omega
            exact C3.out.1
          · obtain rfl : E = mid := by omega
            exact C3.out.2.1
        have FF := Lib.hid (FIN.out g1 (Same.refl _ _ _) X)
        go_wp2_with (fail)
        first
          | (refine bodyPost_ret (results_none rfl _ _ _) rfl ?_; exact ⟨rfl, HC2.out.1, g1, HC2.out.2, FF.out⟩)
          | (refine bodyPost_end (results_none rfl _ _ _) rfl ?_; exact ⟨rfl, HC2.out.1, g1, HC2.out.2, FF.out⟩)

set_option maxHeartbeats 16000000 in
set_option maxRecDepth 100000 in
theorem stable_any (key : Nat → Int) (z : Nat → Nat → Int) (hz : Fits key z) (h n c bL : Nat) (h0 : 0 < n) (hn : n ≤ 1000000) (w0 : World) (CMP : CmpR h n bL z w0) (f : Nat → Nat) (hf : ∀ x, x < n → f x = x) (w : World) (G0 : w0.grownBy w (some h)) (R : RowI w h f n) :
    Calls Tryz.prog 47 #[.slice (some ⟨h, 0, none⟩) n c, .int .i64 n, cloV bL] w fun e w' => e = .returned (.tuple #[]) ∧ w.grownBy w' (some h) ∧ ∃ g, RowI w' h g n ∧ Good key g 0 n := by
  have HR := Lib.hid R
  have HG0 := Lib.hid G0
  have HF := Lib.hid hf
  have IS := Lib.hid (fun (a b : Nat) (g : Nat → Nat) (h1 : a ≤ b) (h2 : b ≤ n) (h3 : ∀ x, a ≤ x → x < b → g x = x) W (h4 : w0.grownBy W (some h)) (h5 : RowI W h g n) => insertion_any key z hz h n c bL hn w0 CMP a b g h1 h2 h3 W h4 h5)
  have SMG := Lib.hid (fun (a m b : Nat) (g : Nat → Nat) W (h1 : a < m) (h2 : m < b) (h3 : b ≤ n) (h4 : w0.grownBy W (some h)) (h5 : RowI W h g n) (h6 : Good key g a m) (h7 : Good key g m b) => symMerge_any key z hz h n c bL hn w0 CMP (b - a) a m b g W (Nat.le_refl _) h1 h2 h3 h4 h5 h6.1 h7.1 (h6.stb h7))
  clear R G0 hf CMP
  unfold cloV at *
  go_enter Tryz.func47, Tryz.ntmps47
  go_wp2
  go_loopw [7, 8] (fun a b wr => ∃ (q : Nat) (g : Nat → Nat), a = .int .i64 (20 * q : Nat) ∧ b = .int .i64 (20 * q + 20 : Nat) ∧ 20 * q ≤ n ∧ Hid (w.grownBy wr (some h)) ∧ Hid (RowI wr h g n) ∧ Hid ((∀ p, p < q → Good key g (20 * p) (20 * p + 20)) ∧ (∀ x, 20 * q ≤ x → x < n → g x = x))) (fun a _ _ => n + 20 - (intOf a).toNat)
  case atStart => exact ⟨0, f, rfl, rfl, by omega, Lib.hid (grown_below (Below.refl _ _) _), HR, Lib.hid ⟨fun p hp => absurd hp (by omega), fun x _ hx => HF.out x hx⟩⟩
  case round =>
    obtain ⟨q, g, rfl, rfl, hq, HG, HI, HS⟩ := hrel
    obtain ⟨wo, rfl⟩ : ∃ wo : World, wo = wr := ⟨_, rfl⟩
    obtain ⟨A, hA⟩ : ∃ A, 20 * q = A := ⟨_, rfl⟩
    obtain ⟨B, hB⟩ : ∃ B, 20 * q + 20 = B := ⟨_, rfl⟩
    rw [hB, hA]
    by_cases hlt : B ≤ n
    · have hlt' : (B : Int) ≤ (n : Int) := by omega
      have Bw : (B : Int) + 20 = ((20 * (q + 1) + 20 : Nat) : Int) := by omega
      obtain ⟨B2, hB2⟩ : ∃ B2 : Nat, 20 * (q + 1) + 20 = B2 := ⟨_, rfl⟩
      rw [hB2] at Bw
      have Bw2 : IntKind.i64.wrap (B2 : Int) = (B2 : Int) := by rw [IntKind.wrap_i64]; omega
      have IC := Lib.hid (IS.out A B g (by omega) hlt (fun x h1 h2 => HS.out.2 x (by omega) (by omega)) wo (HG0.out.trans HG.out) HI.out)
      have NX : Hid (∀ g', Same g g' A B → Srt key g' A B → (∀ p, p < q + 1 → Good key g' (20 * p) (20 * p + 20)) ∧ (∀ x, 20 * (q + 1) ≤ x → x < n → g' x = x)) := Lib.hid fun g' s1 s2 => by
        refine ⟨fun p hp => ?_, fun x h1 h2 => ?_⟩
        · rcases Nat.lt_or_eq_of_le (show p ≤ q by omega) with h1 | h1
          · exact (HS.out.1 p h1).same s1 (.inl (by omega))
          · subst h1
            rw [show 20 * p = A by omega, show A + 20 = B by omega]
            exact Good.of (fun x k1 k2 => HS.out.2 x (by omega) (by omega)) s1 s2
        · rw [s1.1 x (by omega)]; exact HS.out.2 x (by omega) h2
      have Be : Hid (B = 20 * (q + 1)) := Lib.hid (by omega)
      have HB2 := Lib.hid hB2
      have AB : A < B := by omega
      clear hA hB hB2
      go_wp2_with (first | (go_at_call 76; (with_reducible refine IC.out.mono ?_); rintro e w1 ⟨rfl, hg1, g1, hr1, hs1, ht1⟩))
      go_roundw
      case rel => exact ⟨q + 1, g1, by rw [← Be.out], by rw [HB2.out], by rw [← Be.out]; omega, Lib.hid (HG.out.trans hg1), Lib.hid hr1, Lib.hid (NX.out g1 hs1 ht1)⟩
      case measure => first | (simp [intOf]; done) | (simp [intOf]; omega)
    · have hlt' : ¬ (B : Int) ≤ (n : Int) := by omega
      have IC := Lib.hid (IS.out A n g (by omega) (Nat.le_refl _) (fun x h1 h2 => HS.out.2 x (by omega) (by omega)) wo (HG0.out.trans HG.out) HI.out)
      have NX : Hid (∀ g', Same g g' A n → Srt key g' A n → Blks key g' n 20 0) := Lib.hid fun g' s1 s2 => by
        refine ⟨fun p hp => absurd hp (by omega), fun p _ hp => ?_⟩
        rcases Nat.lt_or_ge p q with h1 | h1
        · rw [Nat.min_eq_right (by omega)]; exact (HS.out.1 p h1).same s1 (.inl (by omega))
        · obtain rfl : p = q := by omega
          rw [Nat.min_eq_left (by omega), show 20 * p = A by omega]
          exact Good.of (fun x k1 k2 => HS.out.2 x (by omega) k2) s1 s2
      clear hA hB HS
      go_wp2_with (first | (go_at_call 76; (with_reducible refine IC.out.mono ?_); rintro e w1 ⟨rfl, hg1, g1, hr1, hs1, ht1⟩))
      have HG1 := Lib.hid (HG.out.trans hg1)
      have HI1 := Lib.hid hr1
      have HB1 := Lib.hid (NX.out g1 hs1 ht1)
      clear hg1 hr1 hs1 ht1 NX IC HG HI IS HR HF hlt hlt' hq
      go_loopw [6] (fun s wr => ∃ (s' : Nat) (g : Nat → Nat), s = .int .i64 s' ∧ (20 ≤ s' ∧ s' ≤ 2 * n + 20) ∧ Hid (w.grownBy wr (some h)) ∧ Hid (RowI wr h g n) ∧ Hid (Blks key g n s' 0)) (fun s _ => n - (intOf s).toNat)
      case atStart => exact ⟨20, g1, rfl, by omega, HG1, HI1, HB1⟩
      case round =>
        obtain ⟨s, g2, rfl, ⟨hs0, hs1⟩, HG, HI, HB⟩ := hrel
        obtain ⟨wp, rfl⟩ : ∃ wp : World, wp = wr := ⟨_, rfl⟩
        clear HG1 HI1 HB1
        by_cases hsn : s < n
        · have hsn' : (s : Int) < (n : Int) := by omega
          have s2e : (2 : Int) * (s : Int) = ((2 * s : Nat) : Int) := by omega
          obtain ⟨d, hd⟩ : ∃ d, 2 * s = d := ⟨_, rfl⟩
          rw [hd] at s2e
          have s2w : IntKind.i64.wrap (d : Int) = (d : Int) := by rw [IntKind.wrap_i64]; omega
          have s2f : (s : Int) * 2 = (d : Int) := by omega
          have hd1 : d ≤ 2 * n := by omega
          have d40 : 40 ≤ d := by omega
          have HD := Lib.hid hd
          clear hd
          go_wp2
          go_loopw [7, 8] (fun a b wr => ∃ (q A B : Nat) (g : Nat → Nat), a = .int .i64 A ∧ b = .int .i64 B ∧ (A ≤ n ∧ B = A + d) ∧ Hid (A = s * (2 * q)) ∧ Hid (w.grownBy wr (some h)) ∧ Hid (RowI wr h g n) ∧ Hid (Blks key g n s q)) (fun a _ _ => n + 1 - (intOf a).toNat)
          case atStart => exact ⟨0, 0, d, g2, rfl, rfl, by omega, Lib.hid rfl, HG, HI, HB⟩
          case round =>
            obtain ⟨q, A, B, g, rfl, rfl, ⟨hA, hB⟩, HAq, HGi, HIi, HBi⟩ := hrel
            obtain ⟨wi, rfl⟩ : ∃ wi : World, wi = wr := ⟨_, rfl⟩
            have E1 : Hid (s * (2 * q + 1) = A + s ∧ s * (2 * q + 2) = B) := Lib.hid (by
              have e1 : s * (2 * q + 1) = s * (2 * q) + s := Nat.mul_succ s (2 * q)
              have e2 : s * (2 * q + 2) = s * (2 * q) + s + s := by rw [show 2 * q + 2 = 2 * q + 1 + 1 by omega, Nat.mul_succ, e1]
              have := HAq.out
              have := HD.out
              omega)
            obtain ⟨M, hM⟩ : ∃ M, A + s = M := ⟨_, rfl⟩
            have Me : (A : Int) + (s : Int) = (M : Int) := by omega
            have Mw : IntKind.i64.wrap (M : Int) = (M : Int) := by rw [IntKind.wrap_i64]; omega
            rw [hM] at E1
            have MB : A < M ∧ M < B := by have := HD.out; omega
            by_cases hbn : B ≤ n
            · have hbn' : (B : Int) ≤ (n : Int) := by omega
              have Be : (B : Int) + (d : Int) = ((B + d : Nat) : Int) := by omega
              obtain ⟨B2, hB2⟩ : ∃ B2, B + d = B2 := ⟨_, rfl⟩
              rw [hB2] at Be
              have Bw : IntKind.i64.wrap (B2 : Int) = (B2 : Int) := by rw [IntKind.wrap_i64]; omega
              have SC := Lib.hid (SMG.out A M B g wi MB.1 MB.2 hbn (HG0.out.trans HGi.out) HIi.out (by
                have := HBi.out.2 (2 * q) (Nat.le_refl _) (by rw [← HAq.out]; omega)
                rwa [E1.out.1, ← HAq.out, Nat.min_eq_right (by omega)] at this) (by
                have := HBi.out.2 (2 * q + 1) (by omega) (by rw [E1.out.1]; omega)
                rwa [E1.out.1, show 2 * q + 1 + 1 = 2 * q + 2 by omega, E1.out.2, Nat.min_eq_right (by omega)] at this))
              have NX : Hid (∀ g', Same g g' A B → Srt key g' A B → Blks key g' n s (q + 1)) := Lib.hid fun g' s1 s2 => HBi.out.step (by rw [E1.out.2]; exact hbn) (by omega) (by rw [← HAq.out, E1.out.2]; exact s1) (by rw [← HAq.out, E1.out.2]; exact s2)
              have HAq2 : Hid (B = s * (2 * (q + 1))) := Lib.hid (by rw [← E1.out.2]; rfl)
              have HBd := Lib.hid hB2
              have HBe := Lib.hid hB
              have AB : A < B := by omega
              clear hM hB2 hB
              go_wp2_with (first | (go_at_call 77; (with_reducible refine SC.out.mono ?_); rintro e w1 ⟨rfl, hg1, g1, hr1, hs1, ht1⟩))
              go_roundw
              case rel => exact ⟨q + 1, B, B2, g1, by first | rfl | go_num, by first | rfl | go_num, by have := HBd.out; omega, HAq2, Lib.hid (HGi.out.trans hg1), Lib.hid hr1, Lib.hid (NX.out g1 hs1 ht1)⟩
              case measure => first | (simp [intOf]; done) | (simp [intOf]; omega)
            · have hbn' : ¬ (B : Int) ≤ (n : Int) := by omega
              by_cases hmn : M < n
              · have hmn' : (M : Int) < (n : Int) := by omega
                have SC := Lib.hid (SMG.out A M n g wi MB.1 hmn (Nat.le_refl _) (HG0.out.trans HGi.out) HIi.out (by
                  have := HBi.out.2 (2 * q) (Nat.le_refl _) (by rw [← HAq.out]; omega)
                  rwa [E1.out.1, ← HAq.out, Nat.min_eq_right (by omega)] at this) (by
                  have := HBi.out.2 (2 * q + 1) (by omega) (by rw [E1.out.1]; omega)
                  rwa [E1.out.1, show 2 * q + 1 + 1 = 2 * q + 2 by omega, E1.out.2, Nat.min_eq_left (by omega)] at this))
                have NX : Hid (∀ g', Same g g' A n → Srt key g' A n → Blks key g' n d 0) := Lib.hid fun g' s1 s2 => by
                  rw [← HD.out]
                  exact HBi.out.close (by rw [← HAq.out]; exact hA) (by rw [E1.out.2]; omega) (by omega) (fun _ => by rw [← HAq.out]; exact ⟨s1, s2⟩) (fun k => absurd hmn (by rw [E1.out.1] at k; exact k))
                clear hM hB
                go_wp2_with (first | (go_at_call 77; (with_reducible refine SC.out.mono ?_); rintro e w1 ⟨rfl, hg1, g1, hr1, hs1, ht1⟩))
                go_roundw
                case rel => exact ⟨d, g1, by first | rfl | go_num, by omega, Lib.hid (HGi.out.trans hg1), Lib.hid hr1, Lib.hid (NX.out g1 hs1 ht1)⟩
                case measure => first | (simp [intOf]; done) | (simp [intOf]; omega)
              · have hmn' : ¬ (M : Int) < (n : Int) := by omega
                have NX : Hid (Blks key g n d 0) := Lib.hid (by
                  rw [← HD.out]
                  exact HBi.out.close (by rw [← HAq.out]; exact hA) (by rw [E1.out.2]; omega) (by omega) (fun k => absurd (by rw [E1.out.1] at k; exact k) hmn) (fun _ => rfl))
                clear hM hB
                go_wp2
                go_roundw
                case rel => exact ⟨d, g, by first | rfl | go_num, by omega, HGi, HIi, NX⟩
                case measure => first | (simp [intOf]; done) | (simp [intOf]; omega)
        · have hsn' : ¬ (s : Int) < (n : Int) := by omega
          have FIN := Lib.hid (HB.out.done (by omega) h0)
          go_wp2
          first
            | (refine bodyPost_ret (results_none rfl _ _ _) rfl ?_; exact ⟨rfl, HG.out, g2, HI.out, FIN.out⟩)
            | (refine bodyPost_end (results_none rfl _ _ _) rfl ?_; exact ⟨rfl, HG.out, g2, HI.out, FIN.out⟩)
set_option maxHeartbeats 2000000 in
theorem sort_any (key : Nat → Int) (z : Nat → Nat → Int) (hz : Fits key z) (h n c bL : Nat) (h0 : 0 < n) (hn : n ≤ 1000000) (f : Nat → Nat) (hf : ∀ x, x < n → f x = x) (w : World) (CMP : CmpR h n bL z w) (R : RowI w h f n) :
    Calls Tryz.prog 19 #[.slice (some ⟨h, 0, none⟩) n c, .func (.func 20) #[] #[.pointer (some ⟨bL, 0, none⟩)]] w fun e w' => e = .returned (.tuple #[]) ∧ w.grownBy w' (some h) ∧ ∃ g, RowI w' h g n ∧ Good key g 0 n := by
  have IS := Lib.hid (stable_any key z hz h n c bL h0 hn w CMP f hf w (grown_below (Below.refl _ _) _) R)
  clear CMP R hf
  unfold cloV at IS
  go_enter Tryz.func19, Tryz.ntmps19
  go_wp2_with (first | (go_at_call 47; (with_reducible refine IS.out.mono ?_); rintro e w1 ⟨rfl, hg1, g1, hr1, hs1⟩))
  first
    | (refine bodyPost_ret (results_none rfl _ _ _) rfl ?_; exact ⟨rfl, hg1, g1, hr1, hs1⟩)
    | (refine bodyPost_end (results_none rfl _ _ _) rfl ?_; exact ⟨rfl, hg1, g1, hr1, hs1⟩)
end Go.Proofs.YtakfjdnpfhcgkaaGreatDoor
