/-
  The stable sort of indices by the closure of Allocate: contracts of insertionSort, symMerge, stable, SortStableFunc.
-/
import Derived.Test.YtakfjdnpfhcgkaaGreatDoorMs2
namespace Go.Proofs.YtakfjdnpfhcgkaaGreatDoor
set_option linter.all false
open Go.RowKit Go.Sort
attribute [local go_sem] cell_set_self lt_1 lt_2 lt_3 lt_4 lt_5 lt_6

/-- What the closure answers, of indices of the row, in each world of the sort. -/
def CmpR (h n bL : Nat) (z : Nat → Nat → Int) (w0 : World) : Prop := ∀ W, w0.grownBy W (some h) → ∀ x y, x < n → y < n → Calls Tryz.prog 20 #[.int .i64 x, .int .i64 y, .pointer (some ⟨bL, 0, none⟩)] W fun e w' => e = .returned (.int .i64 (z x y)) ∧ Below W.heap.size W w'
def Fits (key : Nat → Int) (z : Nat → Nat → Int) : Prop := ∀ x y, z x y < 0 ↔ key y < key x
theorem RowI.at {W : World} {h n : Nat} {f : Nat → Nat} (r : RowI W h f n) {j : Nat} (hj : j < n) {x : Nat} (hx : f j = x) : W.cell? ⟨h, j, none⟩ = some (.int .i64 (x : Int)) := hx ▸ (r.2 j hj).1
set_option maxHeartbeats 8000000 in
set_option maxRecDepth 100000 in
theorem insertion_any (key : Nat → Int) (z : Nat → Nat → Int) (hz : Fits key z) (h n c bL : Nat) (hn : n ≤ 1000000) (w0 : World) (CMP : CmpR h n bL z w0) (a b : Nat) (f : Nat → Nat) (hab : a ≤ b) (hb : b ≤ n) (hf : ∀ x, a ≤ x → x < b → f x = x) (w : World) (G0 : w0.grownBy w (some h)) (R : RowI w h f n) :
    Calls Tryz.prog 76 #[.slice (some ⟨h, 0, none⟩) n c, .int .i64 a, .int .i64 b, cloV bL] w fun e w' => e = .returned (.tuple #[]) ∧ w.grownBy w' (some h) ∧ ∃ g, RowI w' h g n ∧ Same f g a b ∧ Srt key g a b := by
  have HR := Lib.hid R
  have CM := Lib.hid CMP
  have HG0 := Lib.hid G0
  have HF := Lib.hid hf
  clear R CMP G0 hf
  unfold cloV
  go_enter Tryz.func76, Tryz.ntmps76
  go_wp2
  go_loopw [8] (fun i wr => ∃ (I : Nat) (g : Nat → Nat), i = .int .i64 I ∧ (a + 1 ≤ I ∧ I ≤ b + 1) ∧ Hid (w.grownBy wr (some h)) ∧ Hid (RowI wr h g n) ∧ Hid (Same f g a (min I b) ∧ Srt key g a (min I b))) (fun i _ => b + 2 - (intOf i).toNat)
  case atStart => exact ⟨a + 1, f, by go_num, by omega, Lib.hid (grown_below (Below.refl _ _) _), HR, Lib.hid ⟨Same.refl _ _ _, fun i j h1 h2 h3 => by omega⟩⟩
  case round =>
    obtain ⟨I, g, rfl, ⟨hI1, hI2⟩, HG, HI, HS⟩ := hrel
    obtain ⟨wo, rfl⟩ : ∃ wo : World, wo = wr := ⟨_, rfl⟩
    by_cases hlt : I < b
    · have hlt' : (I : Int) < (b : Int) := by omega
      have HS' : Hid (Same f g a I ∧ Srt key g a I) := Lib.hid (by have := HS.out; rwa [Nat.min_eq_left (by omega)] at this)
      have GD : Hid (Good key g a I) := Lib.hid (Good.of (f := f) (fun x h1 h2 => HF.out x h1 (by omega)) HS'.out.1 HS'.out.2)
      have gI : Hid (g I = I) := Lib.hid (by rw [HS'.out.1.1 I (by omega)]; exact HF.out I (by omega) hlt)
      go_wp2
      go_loopw [9] (fun j wi => ∃ J : Nat, j = .int .i64 J ∧ (a ≤ J ∧ J ≤ I) ∧ Hid (w.grownBy wi (some h)) ∧ Hid (RowI wi h (rot g J I (I + 1)) n) ∧ Hid (∀ x, J ≤ x → x < I → Lk key (g I) (g x))) (fun j _ => (intOf j).toNat)
      case atStart => exact ⟨I, rfl, by omega, HG, by rw [rot_start]; exact HI, Lib.hid (fun x h1 h2 => absurd h2 (by omega))⟩
      case round =>
        obtain ⟨J, rfl, ⟨hJ1, hJ2⟩, HGi, HIi, HL⟩ := hrel
        obtain ⟨wi, rfl⟩ : ∃ wi : World, wi = wr := ⟨_, rfl⟩
        have OUT : Hid ((∀ x, a ≤ x → x < J → Lk key (g x) (g I)) → Same f (rot g J I (I + 1)) a (min (I + 1) b) ∧ Srt key (rot g J I (I + 1)) a (min (I + 1) b)) := Lib.hid fun hlo => by
          rw [Nat.min_eq_left (by omega)]
          exact ⟨(HS'.out.1.wide (Nat.le_refl _) (by omega)).trans ((same_rot hJ2 (by omega)).wide hJ1 (by omega)), srt_down hJ1 hJ2 HS'.out.2 hlo HL.out⟩
        have hiI : RowI wi h (rot g J I (I + 1)) n := HIi.out
        have hbw := hiI.1
        by_cases hja : a < J
        · obtain ⟨j, hj⟩ : ∃ j, J = j + 1 := ⟨J - 1, by omega⟩
          have gj : rot g J I (I + 1) j = g j := rot_out (by omega)
          have gJ : rot g J I (I + 1) J = g I := by rw [rot_lo (by omega) (by omega) hJ2 (by omega)]; congr 1; omega
          have c0 := hiI.at (j := j) (by omega) gj
          have c1 := hiI.at (j := J) (by omega) gJ
          have f0 := (hiI.2 j (by omega)).2.1
          have f1 := (hiI.2 J (by omega)).2.1
          have v0 := (hiI.2 j (by omega)).2.2
          have v1 := (hiI.2 J (by omega)).2.2
          rw [gj] at v0
          rw [gJ] at v1
          have CK := Lib.hid (fun W (hb : Below wi.heap.size wi W) => CM.out W ((HG0.out.trans HGi.out).trans (grown_below hb _)) (g I) (g j) v1 v0)
          have zz : z (g I) (g j) < 0 → Lk key (g I) (g j) := fun hn => by
            rw [hz] at hn
            exact .inl hn
          have tot : ¬ z (g I) (g j) < 0 → Lk key (g j) (g I) := fun hn => by
            rw [hz] at hn
            have h1 := GD.out.2.1 j (by omega) (by omega)
            have h2 := gI.out
            unfold Lk; omega
          have je : (J : Int) - 1 = (j : Int) := by omega
          have jw : IntKind.i64.wrap (j : Int) = (j : Int) := by rw [IntKind.wrap_i64]; omega
          have hja' : (a : Int) < (J : Int) := by omega
          have hjT : decide ((a : Int) < (J : Int)) = true := decide_eq_true hja'
          have hjn : (J : Int) < (n : Int) := by omega
          have hjn' : (j : Int) < (n : Int) := by omega
          have NX : Hid (∀ W, Below wi.heap.size wi W → RowI ((W.setCell ⟨h, J, none⟩ (.int .i64 (g j : Int))).setCell ⟨h, j, none⟩ (.int .i64 (g I : Int))) h (rot g j I (I + 1)) n) := Lib.hid fun W hb => by
            have := (hiI.below hb).swap (i := J) (k := j) (by omega) (by omega) (by omega)
            rw [gj, gJ, show swp (rot g J I (I + 1)) J j = rot g j I (I + 1) by rw [hj]; exact rot_down (by omega)] at this
            exact this
          have LO : Hid (Lk key (g j) (g I) → Same f (rot g J I (I + 1)) a (min (I + 1) b) ∧ Srt key (rot g J I (I + 1)) a (min (I + 1) b)) := Lib.hid fun hl => OUT.out fun x h1 h2 => by
            rcases Nat.lt_or_eq_of_le (show x ≤ j by omega) with h3 | h3
            · exact (HS'.out.2 x j h1 h3 (by omega)).trans hl
            · rw [h3]; exact hl
          have HL2 : Hid (Lk key (g I) (g j) → ∀ x, j ≤ x → x < I → Lk key (g I) (g x)) := Lib.hid fun hl x h1 h2 => by
            rcases Nat.lt_or_eq_of_le h1 with h3 | h3
            · exact HL.out x (by omega) h2
            · rw [← h3]; exact hl
          have jb : a ≤ j ∧ j ≤ I ∧ j < J := by omega
          have hne : ¬ j = J := by omega
          have hne' : ¬ J = j := by omega
          clear OUT gj gJ hiI v0 v1 hj hja
          generalize z (g I) (g j) = zv at *
          by_cases hc : zv < 0
          · have NL := Lib.hid (HL2.out (zz hc))
            clear LO HL2 tot zz HL GD gI
            generalize hgI : g I = x at *
            generalize hgj : g j = y at *
            have HgI := Lib.hid hgI
            clear hgI hgj
            go_wp2_with (fail)
            go_region_held3 (fun w' => w'.cell? ⟨h, J, none⟩ = some (.int .i64 x) ∧ w'.cell? ⟨h, j, none⟩ = some (.int .i64 y) ∧ w'.frozen? ⟨h, J, none⟩ = false ∧ w'.frozen? ⟨h, j, none⟩ = false ∧ h < w'.heap.size ∧ Below wi.heap.size wi w')
      (first | (refine ⟨?_, ?_, ?_, ?_, ?_, ?_⟩ <;> first | (simp [go_sem, *]; done) | omega | (simp; omega) | exact (by repeat (first | exact Below.refl _ _ | refine Below.setCell ?_ (by first | (simp; done) | (simp; omega) | omega) _ | refine Below.alloc ?_ (by first | (simp; done) | (simp; omega) | omega) _ | refine Below.drew ?_ | assumption | refine Below.trans ?_ (Below.mono (by assumption) (by first | (simp; done) | (simp; omega) | omega))))))
      (first | (first | (go_at_call 20; refine (CK.out _ (by repeat (first | exact Below.refl _ _ | refine Below.setCell ?_ (by first | (simp; done) | (simp; omega) | omega) _ | refine Below.alloc ?_ (by first | (simp; done) | (simp; omega) | omega) _ | refine Below.drew ?_ | assumption | refine Below.trans ?_ (Below.mono (by assumption) (by first | (simp; done) | (simp; omega) | omega))))).mono ?_; rintro e w1 ⟨rfl, hb1⟩; obtain ⟨hc1, hf1⟩ := bcell hb1; (try simp only [drew_sizeM, drew_cellM, drew_frozenM] at hc1 hf1); have hs1 := hb1.size; (try simp at hs1); have hz1 : h < w1.heap.size := by have := hb1.size; (try simp at this); omega)))
            have hB1 : Below wi.heap.size wi w1 := (by repeat (first | exact Below.refl _ _ | refine Below.setCell ?_ (by first | (simp; done) | (simp; omega) | omega) _ | refine Below.alloc ?_ (by first | (simp; done) | (simp; omega) | omega) _ | refine Below.drew ?_ | assumption | refine Below.trans ?_ (Below.mono (by assumption) (by first | (simp; done) | (simp; omega) | omega))))
            go_wp2_with (fail)
            go_big_region
            all_goals (
              go_wp2
              go_roundw
              case rel => exact ⟨j, rfl, by omega, Lib.hid (((((HGi.out.trans (grown_below hB1 _)).trans (grown_set _ _ _ _)).trans (grown_set _ _ _ _)).trans (grown_drewS _ _))), Lib.hid (NX.out _ hB1).drew, by rw [← HgI.out] at NL ⊢; exact NL⟩
              case measure => first | (simp [intOf]; done) | (simp [intOf]; omega))
          · have NS := Lib.hid (LO.out (tot hc))
            clear LO HL2 tot zz HL GD gI NX
            generalize hgI : g I = x at *
            generalize hgj : g j = y at *
            clear hgI hgj
            go_wp2_with (fail)
            go_region_held3 (fun w' => w'.cell? ⟨h, J, none⟩ = some (.int .i64 x) ∧ w'.cell? ⟨h, j, none⟩ = some (.int .i64 y) ∧ h < w'.heap.size ∧ Below wi.heap.size wi w')
      (first | (refine ⟨?_, ?_, ?_, ?_⟩ <;> first | (simp [go_sem, *]; done) | omega | (simp; omega) | exact (by repeat (first | exact Below.refl _ _ | refine Below.setCell ?_ (by first | (simp; done) | (simp; omega) | omega) _ | refine Below.alloc ?_ (by first | (simp; done) | (simp; omega) | omega) _ | refine Below.drew ?_ | assumption | refine Below.trans ?_ (Below.mono (by assumption) (by first | (simp; done) | (simp; omega) | omega))))))
      (first | (first | (go_at_call 20; refine (CK.out _ (by repeat (first | exact Below.refl _ _ | refine Below.setCell ?_ (by first | (simp; done) | (simp; omega) | omega) _ | refine Below.alloc ?_ (by first | (simp; done) | (simp; omega) | omega) _ | refine Below.drew ?_ | assumption | refine Below.trans ?_ (Below.mono (by assumption) (by first | (simp; done) | (simp; omega) | omega))))).mono ?_; rintro e w1 ⟨rfl, hb1⟩; obtain ⟨hc1, hf1⟩ := bcell hb1; (try simp only [drew_sizeM, drew_cellM, drew_frozenM] at hc1 hf1); have hs1 := hb1.size; (try simp at hs1); have hz1 : h < w1.heap.size := by have := hb1.size; (try simp at this); omega)))
            have hB1 : Below wi.heap.size wi w1 := (by repeat (first | exact Below.refl _ _ | refine Below.setCell ?_ (by first | (simp; done) | (simp; omega) | omega) _ | refine Below.alloc ?_ (by first | (simp; done) | (simp; omega) | omega) _ | refine Below.drew ?_ | assumption | refine Below.trans ?_ (Below.mono (by assumption) (by first | (simp; done) | (simp; omega) | omega))))
            go_wp2
            go_roundw
            case rel => exact ⟨I + 1, _, by go_num, by omega, Lib.hid (HGi.out.trans (grown_below hB1 _)), Lib.hid (HIi.out.below hB1), NS⟩
            case measure => first | (simp [intOf]; done) | (simp [intOf]; omega)
        · have hjT : decide ((a : Int) < (J : Int)) = false := decide_eq_false (by omega)
          have hja' : ¬ (a : Int) < (J : Int) := by omega
          have NS := Lib.hid (OUT.out (fun x h1 h2 => absurd h2 (by omega)))
          clear OUT hiI HL GD gI
          go_wp2_with (fail)
          go_big_region
          all_goals (
            go_wp2
            go_roundw
            case rel => exact ⟨I + 1, _, by go_num, by omega, Lib.hid (HGi.out.trans (grown_drewS _ _)), Lib.hid HIi.out.drew, NS⟩
            case measure => first | (simp [intOf]; done) | (simp [intOf]; omega))
    · have hlt' : ¬ (I : Int) < (b : Int) := by omega
      have FIN : Hid (Same f g a b ∧ Srt key g a b) := Lib.hid (by have := HS.out; rwa [Nat.min_eq_right (by omega)] at this)
      go_wp2
      first
        | (refine bodyPost_ret (results_none rfl _ _ _) rfl ?_; exact ⟨rfl, HG.out, g, HI.out, FIN.out⟩)
        | (refine bodyPost_end (results_none rfl _ _ _) rfl ?_; exact ⟨rfl, HG.out, g, HI.out, FIN.out⟩)

set_option maxHeartbeats 16000000 in
set_option maxRecDepth 100000 in
/-- One on the left: it is put to its place among those on the right. -/
theorem merge_left (key : Nat → Int) (z : Nat → Nat → Int) (hz : Fits key z) (h n c bL : Nat) (hn : n ≤ 1000000) (w0 : World) (CMP : CmpR h n bL z w0) (a b : Nat) (f : Nat → Nat) (hab : a + 1 < b) (hb : b ≤ n) (w : World) (G0 : w0.grownBy w (some h)) (R : RowI w h f n) (hs : Srt key f (a + 1) b) (hS : Stb key f a (a + 1) b) :
    Calls Tryz.prog 77 #[.slice (some ⟨h, 0, none⟩) n c, .int .i64 a, .int .i64 (a + 1 : Nat), .int .i64 b, cloV bL] w fun e w' => e = .returned (.tuple #[]) ∧ w.grownBy w' (some h) ∧ ∃ g, RowI w' h g n ∧ Same f g a b ∧ Srt key g a b := by
  have HR := Lib.hid R
  have CM := Lib.hid CMP
  have HG0 := Lib.hid G0
  have HS := Lib.hid hs
  have HSt := Lib.hid hS
  clear R CMP G0 hs hS
  obtain ⟨m, hm⟩ : ∃ m, a + 1 = m := ⟨_, rfl⟩
  rw [hm]
  have e1 : (m : Int) - (a : Int) = 1 := by omega
  have HM := Lib.hid hm
  clear hm
  unfold cloV
  go_enter Tryz.func77, Tryz.ntmps77
  go_wp2
  go_loopw [10, 11] (fun i j wr => ∃ (I J : Nat), i = .int .i64 I ∧ j = .int .i64 J ∧ (m ≤ I ∧ I ≤ J ∧ J ≤ b) ∧ Hid (w.grownBy wr (some h)) ∧ Hid (RowI wr h f n) ∧ Hid ((∀ x, m ≤ x → x < I → Lk key (f x) (f a)) ∧ (∀ x, J ≤ x → x < b → Lk key (f a) (f x)))) (fun i j _ => (intOf j).toNat - (intOf i).toNat)
  case atStart => exact ⟨m, b, rfl, rfl, by have := HM.out; omega, Lib.hid (grown_below (Below.refl _ _) _), HR, Lib.hid ⟨fun x h1 h2 => absurd h2 (by omega), fun x h1 h2 => absurd h2 (by omega)⟩⟩
  case round =>
    obtain ⟨I, J, rfl, rfl, ⟨hI, hIJ, hJ⟩, HG, HI, HL⟩ := hrel
    obtain ⟨wo, rfl⟩ : ∃ wo : World, wo = wr := ⟨_, rfl⟩
    by_cases hlt : I < J
    · have hlt' : (I : Int) < (J : Int) := by omega
      obtain ⟨p, hp⟩ : ∃ p, (I + J) / 2 = p := ⟨_, rfl⟩
      have u1 : IntKind.u64.wrap ((I : Int) + (J : Int)) = (I : Int) + (J : Int) := by rw [IntKind.wrap_u64]; omega
      have u2 : ((I : Int) + (J : Int)) / 2 = (p : Int) := by omega
      have pm : m ≤ p ∧ I ≤ p ∧ p < J := by omega
      have hmm := HM.out
      have pn : (p : Int) < (n : Int) := by omega
      have an : (a : Int) < (n : Int) := by omega
      have hiI := HI.out
      have hbw := hiI.1
      have c0 := hiI.at (j := a) (by omega) rfl
      have c1 := hiI.at (j := p) (by omega) rfl
      have v0 := (hiI.2 a (by omega)).2.2
      have v1 := (hiI.2 p (by omega)).2.2
      have CK := Lib.hid (fun W (hb : Below wo.heap.size wo W) => CM.out W ((HG0.out.trans HG.out).trans (grown_below hb _)) (f p) (f a) v1 v0)
      have Y : Hid (z (f p) (f a) < 0 → ∀ x, m ≤ x → x < p + 1 → Lk key (f x) (f a)) := Lib.hid fun hn => by
        have h1 : Lk key (f p) (f a) := (HSt.out.cmp (i := a) (j := p) (by omega) (by omega) (by omega) (by omega)).1 ((hz _ _).1 hn)
        intro x h2 h3
        rcases Nat.lt_or_eq_of_le (show x ≤ p by omega) with h4 | h4
        · exact (HS.out x p (by omega) h4 (by omega)).trans h1
        · rw [h4]; exact h1
      have N : Hid (¬ z (f p) (f a) < 0 → ∀ x, p ≤ x → x < b → Lk key (f a) (f x)) := Lib.hid fun hn => by
        have h1 : Lk key (f a) (f p) := (HSt.out.cmp' (i := a) (j := p) (by omega) (by omega) (by omega) (by omega)).1 (fun k => hn ((hz _ _).2 k))
        intro x h2 h3
        rcases Nat.lt_or_eq_of_le h2 with h4 | h4
        · exact h1.trans (HS.out p x (by omega) h4 h3)
        · rw [← h4]; exact h1
      clear hiI v0 v1 hp hmm
      generalize z (f p) (f a) = zv at *
      by_cases hc : zv < 0
      · have L := Lib.hid (And.intro (Y.out hc) HL.out.2)
        clear Y N HL
        generalize hfp : f p = x at *
        generalize hfa : f a = y at *
        have HFa := Lib.hid hfa
        clear hfp hfa
        go_upto_region 5 with (fail)
        go_region_held3 (fun w' => w'.cell? ⟨h, p, none⟩ = some (.int .i64 x) ∧ w'.cell? ⟨h, a, none⟩ = some (.int .i64 y) ∧ h < w'.heap.size ∧ Below wo.heap.size wo w')
      (first | (refine ⟨?_, ?_, ?_, ?_⟩ <;> first | (simp [go_sem, *]; done) | omega | (simp; omega) | exact (by repeat (first | exact Below.refl _ _ | refine Below.setCell ?_ (by first | (simp; done) | (simp; omega) | omega) _ | refine Below.alloc ?_ (by first | (simp; done) | (simp; omega) | omega) _ | refine Below.drew ?_ | assumption | refine Below.trans ?_ (Below.mono (by assumption) (by first | (simp; done) | (simp; omega) | omega))))))
      (first | (first | (go_at_call 20; refine (CK.out _ (by repeat (first | exact Below.refl _ _ | refine Below.setCell ?_ (by first | (simp; done) | (simp; omega) | omega) _ | refine Below.alloc ?_ (by first | (simp; done) | (simp; omega) | omega) _ | refine Below.drew ?_ | assumption | refine Below.trans ?_ (Below.mono (by assumption) (by first | (simp; done) | (simp; omega) | omega))))).mono ?_; rintro e w1 ⟨rfl, hb1⟩; obtain ⟨hc1, hf1⟩ := bcell hb1; (try simp only [drew_sizeM, drew_cellM, drew_frozenM] at hc1 hf1); have hs1 := hb1.size; (try simp at hs1); have hz1 : h < w1.heap.size := by have := hb1.size; (try simp at this); omega)))
        have hB1 : Below wo.heap.size wo w1 := (by repeat (first | exact Below.refl _ _ | refine Below.setCell ?_ (by first | (simp; done) | (simp; omega) | omega) _ | refine Below.alloc ?_ (by first | (simp; done) | (simp; omega) | omega) _ | refine Below.drew ?_ | assumption | refine Below.trans ?_ (Below.mono (by assumption) (by first | (simp; done) | (simp; omega) | omega))))
        go_wp2
        go_roundw
        case rel => exact ⟨p + 1, J, by go_num, rfl, by omega, Lib.hid (HG.out.trans (grown_below hB1 _)), Lib.hid (HI.out.below hB1), by first | exact L | (rw [HFa.out]; exact L)⟩
        case measure => first | (simp [intOf]; done) | (simp [intOf]; omega)
      · have L := Lib.hid (And.intro HL.out.1 (N.out hc))
        clear Y N HL
        generalize hfp : f p = x at *
        generalize hfa : f a = y at *
        have HFa := Lib.hid hfa
        clear hfp hfa
        go_upto_region 5 with (fail)
        go_region_held3 (fun w' => w'.cell? ⟨h, p, none⟩ = some (.int .i64 x) ∧ w'.cell? ⟨h, a, none⟩ = some (.int .i64 y) ∧ h < w'.heap.size ∧ Below wo.heap.size wo w')
      (first | (refine ⟨?_, ?_, ?_, ?_⟩ <;> first | (simp [go_sem, *]; done) | omega | (simp; omega) | exact (by repeat (first | exact Below.refl _ _ | refine Below.setCell ?_ (by first | (simp; done) | (simp; omega) | omega) _ | refine Below.alloc ?_ (by first | (simp; done) | (simp; omega) | omega) _ | refine Below.drew ?_ | assumption | refine Below.trans ?_ (Below.mono (by assumption) (by first | (simp; done) | (simp; omega) | omega))))))
      (first | (first | (go_at_call 20; refine (CK.out _ (by repeat (first | exact Below.refl _ _ | refine Below.setCell ?_ (by first | (simp; done) | (simp; omega) | omega) _ | refine Below.alloc ?_ (by first | (simp; done) | (simp; omega) | omega) _ | refine Below.drew ?_ | assumption | refine Below.trans ?_ (Below.mono (by assumption) (by first | (simp; done) | (simp; omega) | omega))))).mono ?_; rintro e w1 ⟨rfl, hb1⟩; obtain ⟨hc1, hf1⟩ := bcell hb1; (try simp only [drew_sizeM, drew_cellM, drew_frozenM] at hc1 hf1); have hs1 := hb1.size; (try simp at hs1); have hz1 : h < w1.heap.size := by have := hb1.size; (try simp at this); omega)))
        have hB1 : Below wo.heap.size wo w1 := (by repeat (first | exact Below.refl _ _ | refine Below.setCell ?_ (by first | (simp; done) | (simp; omega) | omega) _ | refine Below.alloc ?_ (by first | (simp; done) | (simp; omega) | omega) _ | refine Below.drew ?_ | assumption | refine Below.trans ?_ (Below.mono (by assumption) (by first | (simp; done) | (simp; omega) | omega))))
        go_wp2
        go_roundw
        case rel => exact ⟨I, p, rfl, rfl, by omega, Lib.hid (HG.out.trans (grown_below hB1 _)), Lib.hid (HI.out.below hB1), by first | exact L | (rw [HFa.out]; exact L)⟩
        case measure => first | (simp [intOf]; done) | (simp [intOf]; omega)
    · obtain rfl : I = J := by omega
      have hlt' : ¬ (I : Int) < (I : Int) := by omega
      obtain ⟨i, hi⟩ : ∃ i, I = i + 1 := ⟨I - 1, by have := HM.out; omega⟩
      have ie : (I : Int) - 1 = (i : Int) := by omega
      have iw : IntKind.i64.wrap (i : Int) = (i : Int) := by rw [IntKind.wrap_i64]; omega
      have FIN : Hid (Same f (rot f a m I) a b ∧ Srt key (rot f a m I) a b) := Lib.hid (by
        have hmm := HM.out
        refine ⟨(same_rot (by omega) hI).wide (Nat.le_refl _) hJ, ?_⟩
        rw [← hmm] at hI HL ⊢
        exact srt_up hI hJ HS.out HL.out.1 HL.out.2)
      have hii : a ≤ i ∧ i < b := by have := HM.out; omega
      have HI2 := Lib.hid hi
      clear hi HL
      go_wp2
      go_loopw [13] (fun k wr => ∃ K : Nat, k = .int .i64 K ∧ (a ≤ K ∧ K ≤ i) ∧ Hid (w.grownBy wr (some h)) ∧ Hid (RowI wr h (rot f a m (K + 1)) n)) (fun k _ => i - (intOf k).toNat)
      case atStart => exact ⟨a, rfl, by omega, HG, by rw [HM.out, rot_end]; exact HI⟩
      case round =>
        obtain ⟨K, rfl, ⟨hK1, hK2⟩, HGk, HIk⟩ := hrel
        obtain ⟨wk, rfl⟩ : ∃ wk : World, wk = wr := ⟨_, rfl⟩
        by_cases hki : K < i
        · have hki' : (K : Int) < (i : Int) := by omega
          obtain ⟨k1, hk1⟩ : ∃ k1, K + 1 = k1 := ⟨_, rfl⟩
          have ke : (K : Int) + 1 = (k1 : Int) := by omega
          have kw : IntKind.i64.wrap (k1 : Int) = (k1 : Int) := by rw [IntKind.wrap_i64]; omega
          have hiI := HIk.out
          have hbw := hiI.1
          have gK : rot f a m (K + 1) K = f a := by
            have hmm := HM.out
            rw [rot_hi (by omega) (by omega)]; congr 1; omega
          have gk1 : rot f a m (K + 1) k1 = f k1 := rot_out (by omega)
          have c0 := hiI.at (j := K) (by omega) gK
          have c1 := hiI.at (j := k1) (by omega) gk1
          have f0 := (hiI.2 K (by omega)).2.1
          have f1 := (hiI.2 k1 (by omega)).2.1
          have NX := Lib.hid (hiI.swap (i := K) (k := k1) (by omega) (by omega) (by omega))
          rw [gK, gk1, show swp (rot f a m (K + 1)) K k1 = rot f a m (k1 + 1) by rw [← hk1, ← HM.out]; exact rot_up hK1] at NX
          have kn : (K : Int) < (n : Int) := by omega
          have k1n : (k1 : Int) < (n : Int) := by omega
          have hne : ¬ K = k1 := by omega
          have hne' : ¬ k1 = K := by omega
          have kb : a ≤ k1 ∧ k1 ≤ i ∧ K < k1 := by omega
          clear hiI gK gk1 hk1
          generalize f a = x at *
          generalize f k1 = y at *
          go_wp2_with (fail)
          go_big_region
          all_goals (
            go_wp2
            go_roundw
            case rel => exact ⟨k1, by first | rfl | go_num, by omega, Lib.hid (((HGk.out.trans (grown_set _ _ _ _)).trans (grown_set _ _ _ _)).trans (grown_drewS _ _)), Lib.hid NX.out.drew⟩
            case measure => first | (simp [intOf]; done) | (simp [intOf]; omega))
        · obtain rfl : K = i := by omega
          have hki' : ¬ (K : Int) < (K : Int) := by omega
          have he := HI2.out
          rw [← he] at HIk
          go_wp2
          first
            | (refine bodyPost_ret (results_none rfl _ _ _) rfl ?_; exact ⟨rfl, HGk.out, _, HIk.out, FIN.out⟩)
            | (refine bodyPost_end (results_none rfl _ _ _) rfl ?_; exact ⟨rfl, HGk.out, _, HIk.out, FIN.out⟩)
set_option maxHeartbeats 16000000 in
set_option maxRecDepth 100000 in
/-- One on the right: it is put to its place among those on the left (two at least). -/
theorem merge_right (key : Nat → Int) (z : Nat → Nat → Int) (hz : Fits key z) (h n c bL : Nat) (hn : n ≤ 1000000) (w0 : World) (CMP : CmpR h n bL z w0) (a m : Nat) (f : Nat → Nat) (ham : a + 1 < m) (hb : m + 1 ≤ n) (w : World) (G0 : w0.grownBy w (some h)) (R : RowI w h f n) (hs : Srt key f a m) (hS : Stb key f a m (m + 1)) :
    Calls Tryz.prog 77 #[.slice (some ⟨h, 0, none⟩) n c, .int .i64 a, .int .i64 m, .int .i64 (m + 1 : Nat), cloV bL] w fun e w' => e = .returned (.tuple #[]) ∧ w.grownBy w' (some h) ∧ ∃ g, RowI w' h g n ∧ Same f g a (m + 1) ∧ Srt key g a (m + 1) := by
  have HR := Lib.hid R
  have CM := Lib.hid CMP
  have HG0 := Lib.hid G0
  have HS := Lib.hid hs
  have HSt := Lib.hid hS
  clear R CMP G0 hs hS
  obtain ⟨b, hm⟩ : ∃ b, m + 1 = b := ⟨_, rfl⟩
  rw [hm]
  have e0 : ((m : Int) - (a : Int) == 1) = false := by simp; omega
  obtain ⟨d0, hd0⟩ : ∃ d0 : Nat, m - a = d0 := ⟨_, rfl⟩
  have e2 : (m : Int) - (a : Int) = (d0 : Int) := by omega
  have e3 : ((d0 : Int) == 1) = false := by simp; omega
  have e4 : IntKind.i64.wrap (d0 : Int) = (d0 : Int) := by rw [IntKind.wrap_i64]; omega
  have e1 : (b : Int) - (m : Int) = 1 := by omega
  have HM := Lib.hid hm
  clear hm hd0 e0
  unfold cloV
  go_enter Tryz.func77, Tryz.ntmps77
  go_wp2
  go_loopw [14, 15] (fun i j wr => ∃ (I J : Nat), i = .int .i64 I ∧ j = .int .i64 J ∧ (a ≤ I ∧ I ≤ J ∧ J ≤ m) ∧ Hid (w.grownBy wr (some h)) ∧ Hid (RowI wr h f n) ∧ Hid ((∀ x, a ≤ x → x < I → Lk key (f x) (f m)) ∧ (∀ x, J ≤ x → x < m → Lk key (f m) (f x)))) (fun i j _ => (intOf j).toNat - (intOf i).toNat)
  case atStart => exact ⟨a, m, rfl, rfl, by omega, Lib.hid (grown_below (Below.refl _ _) _), HR, Lib.hid ⟨fun x h1 h2 => absurd h2 (by omega), fun x h1 h2 => absurd h2 (by omega)⟩⟩
  case round =>
    obtain ⟨I, J, rfl, rfl, ⟨hI, hIJ, hJ⟩, HG, HI, HL⟩ := hrel
    obtain ⟨wo, rfl⟩ : ∃ wo : World, wo = wr := ⟨_, rfl⟩
    clear e1 e2 e3 e4
    by_cases hlt : I < J
    · have hlt' : (I : Int) < (J : Int) := by omega
      obtain ⟨p, hp⟩ : ∃ p, (I + J) / 2 = p := ⟨_, rfl⟩
      have u1 : IntKind.u64.wrap ((I : Int) + (J : Int)) = (I : Int) + (J : Int) := by rw [IntKind.wrap_u64]; omega
      have u2 : ((I : Int) + (J : Int)) / 2 = (p : Int) := by omega
      have pm : a ≤ p ∧ I ≤ p ∧ p < J := by omega
      have pn : (p : Int) < (n : Int) := by omega
      have an : (m : Int) < (n : Int) := by omega
      have hiI := HI.out
      have hbw := hiI.1
      have c0 := hiI.at (j := m) (by omega) rfl
      have c1 := hiI.at (j := p) (by omega) rfl
      have v0 := (hiI.2 m (by omega)).2.2
      have v1 := (hiI.2 p (by omega)).2.2
      have CK := Lib.hid (fun W (hb : Below wo.heap.size wo W) => CM.out W ((HG0.out.trans HG.out).trans (grown_below hb _)) (f m) (f p) v0 v1)
      have Y : Hid (z (f m) (f p) < 0 → ∀ x, p ≤ x → x < m → Lk key (f m) (f x)) := Lib.hid fun hn => by
        have h1 : Lk key (f m) (f p) := (HSt.out.cmp (i := p) (j := m) (by omega) (by omega) (by omega) (by omega)).1 ((hz _ _).1 hn)
        intro x h2 h3
        rcases Nat.lt_or_eq_of_le h2 with h4 | h4
        · exact h1.trans (HS.out p x (by omega) h4 (by omega))
        · rw [← h4]; exact h1
      have N : Hid (¬ z (f m) (f p) < 0 → ∀ x, a ≤ x → x < p + 1 → Lk key (f x) (f m)) := Lib.hid fun hn => by
        have h1 : Lk key (f p) (f m) := (HSt.out.cmp' (i := p) (j := m) (by omega) (by omega) (by omega) (by omega)).1 (fun k => hn ((hz _ _).2 k))
        intro x h2 h3
        rcases Nat.lt_or_eq_of_le (show x ≤ p by omega) with h4 | h4
        · exact (HS.out x p (by omega) h4 (by omega)).trans h1
        · rw [h4]; exact h1
      clear hiI v0 v1 hp
      generalize z (f m) (f p) = zv at *
      by_cases hc : zv < 0
      · have L := Lib.hid (And.intro HL.out.1 (Y.out hc))
        clear Y N HL
        generalize hfp : f p = x at *
        generalize hfa : f m = y at *
        have HFa := Lib.hid hfa
        clear hfp hfa
        go_upto_region 17 with (fail)
        go_region_held3 (fun w' => w'.cell? ⟨h, p, none⟩ = some (.int .i64 x) ∧ w'.cell? ⟨h, m, none⟩ = some (.int .i64 y) ∧ h < w'.heap.size ∧ Below wo.heap.size wo w')
      (first | (refine ⟨?_, ?_, ?_, ?_⟩ <;> first | (simp [go_sem, *]; done) | omega | (simp; omega) | exact (by repeat (first | exact Below.refl _ _ | refine Below.setCell ?_ (by first | (simp; done) | (simp; omega) | omega) _ | refine Below.alloc ?_ (by first | (simp; done) | (simp; omega) | omega) _ | refine Below.drew ?_ | assumption | refine Below.trans ?_ (Below.mono (by assumption) (by first | (simp; done) | (simp; omega) | omega))))))
      (first | (first | (go_at_call 20; refine (CK.out _ (by repeat (first | exact Below.refl _ _ | refine Below.setCell ?_ (by first | (simp; done) | (simp; omega) | omega) _ | refine Below.alloc ?_ (by first | (simp; done) | (simp; omega) | omega) _ | refine Below.drew ?_ | assumption | refine Below.trans ?_ (Below.mono (by assumption) (by first | (simp; done) | (simp; omega) | omega))))).mono ?_; rintro e w1 ⟨rfl, hb1⟩; obtain ⟨hc1, hf1⟩ := bcell hb1; (try simp only [drew_sizeM, drew_cellM, drew_frozenM] at hc1 hf1); have hs1 := hb1.size; (try simp at hs1); have hz1 : h < w1.heap.size := by have := hb1.size; (try simp at this); omega)))
        have hB1 : Below wo.heap.size wo w1 := (by repeat (first | exact Below.refl _ _ | refine Below.setCell ?_ (by first | (simp; done) | (simp; omega) | omega) _ | refine Below.alloc ?_ (by first | (simp; done) | (simp; omega) | omega) _ | refine Below.drew ?_ | assumption | refine Below.trans ?_ (Below.mono (by assumption) (by first | (simp; done) | (simp; omega) | omega))))
        go_wp2
        go_roundw
        case rel => exact ⟨I, p, rfl, rfl, by omega, Lib.hid (HG.out.trans (grown_below hB1 _)), Lib.hid (HI.out.below hB1), by first | exact L | (rw [HFa.out]; exact L)⟩
        case measure => first | (simp [intOf]; done) | (simp [intOf]; omega)
      · have L := Lib.hid (And.intro (N.out hc) HL.out.2)
        have hcd : decide (zv < 0) = false := decide_eq_false hc
        have hcn : (!decide (zv < 0)) = true := by rw [hcd]; rfl
        have hc0 : 0 ≤ zv := by omega
        clear Y N HL
        generalize hfp : f p = x at *
        generalize hfa : f m = y at *
        have HFa := Lib.hid hfa
        clear hfp hfa
        go_upto_region 17 with (fail)
        go_region_held3 (fun w' => w'.cell? ⟨h, p, none⟩ = some (.int .i64 x) ∧ w'.cell? ⟨h, m, none⟩ = some (.int .i64 y) ∧ h < w'.heap.size ∧ Below wo.heap.size wo w')
      (first | (refine ⟨?_, ?_, ?_, ?_⟩ <;> first | (simp [go_sem, *]; done) | omega | (simp; omega) | exact (by repeat (first | exact Below.refl _ _ | refine Below.setCell ?_ (by first | (simp; done) | (simp; omega) | omega) _ | refine Below.alloc ?_ (by first | (simp; done) | (simp; omega) | omega) _ | refine Below.drew ?_ | assumption | refine Below.trans ?_ (Below.mono (by assumption) (by first | (simp; done) | (simp; omega) | omega))))))
      (first | (first | (go_at_call 20; refine (CK.out _ (by repeat (first | exact Below.refl _ _ | refine Below.setCell ?_ (by first | (simp; done) | (simp; omega) | omega) _ | refine Below.alloc ?_ (by first | (simp; done) | (simp; omega) | omega) _ | refine Below.drew ?_ | assumption | refine Below.trans ?_ (Below.mono (by assumption) (by first | (simp; done) | (simp; omega) | omega))))).mono ?_; rintro e w1 ⟨rfl, hb1⟩; obtain ⟨hc1, hf1⟩ := bcell hb1; (try simp only [drew_sizeM, drew_cellM, drew_frozenM] at hc1 hf1); have hs1 := hb1.size; (try simp at hs1); have hz1 : h < w1.heap.size := by have := hb1.size; (try simp at this); omega)))
        have hB1 : Below wo.heap.size wo w1 := (by repeat (first | exact Below.refl _ _ | refine Below.setCell ?_ (by first | (simp; done) | (simp; omega) | omega) _ | refine Below.alloc ?_ (by first | (simp; done) | (simp; omega) | omega) _ | refine Below.drew ?_ | assumption | refine Below.trans ?_ (Below.mono (by assumption) (by first | (simp; done) | (simp; omega) | omega))))
        go_wp2
        go_roundw
        case rel => exact ⟨p + 1, J, by go_num, rfl, by omega, Lib.hid (HG.out.trans (grown_below hB1 _)), Lib.hid (HI.out.below hB1), by first | exact L | (rw [HFa.out]; exact L)⟩
        case measure => first | (simp [intOf]; done) | (simp [intOf]; omega)
    · obtain rfl : I = J := by omega
      have hlt' : ¬ (I : Int) < (I : Int) := by omega
      have FIN : Hid (Same f (rot f I m b) a b ∧ Srt key (rot f I m b) a b) := Lib.hid (by
        have hmm := HM.out
        refine ⟨(same_rot hJ (by omega)).wide hI (Nat.le_refl _), ?_⟩
        rw [← hmm]
        exact srt_down hI hJ HS.out HL.out.1 HL.out.2)
      clear HL
      go_wp2
      go_loopw [17] (fun k wr => ∃ K : Nat, k = .int .i64 K ∧ (I ≤ K ∧ K ≤ m) ∧ Hid (w.grownBy wr (some h)) ∧ Hid (RowI wr h (rot f K m b) n)) (fun k _ => (intOf k).toNat)
      case atStart => exact ⟨m, rfl, by omega, HG, by rw [rot_start]; exact HI⟩
      case round =>
        obtain ⟨K, rfl, ⟨hK1, hK2⟩, HGk, HIk⟩ := hrel
        obtain ⟨wk, rfl⟩ : ∃ wk : World, wk = wr := ⟨_, rfl⟩
        by_cases hki : I < K
        · have hki' : (I : Int) < (K : Int) := by omega
          obtain ⟨k1, hk1⟩ : ∃ k1, K = k1 + 1 := ⟨K - 1, by omega⟩
          have ke : (K : Int) - 1 = (k1 : Int) := by omega
          have kw : IntKind.i64.wrap (k1 : Int) = (k1 : Int) := by rw [IntKind.wrap_i64]; omega
          have hmm := HM.out
          have hiI := HIk.out
          have hbw := hiI.1
          have gK : rot f K m b K = f m := by
            rw [rot_lo (by omega) (by omega) hK2 (by omega)]; congr 1; omega
          have gk1 : rot f K m b k1 = f k1 := rot_out (by omega)
          have c0 := hiI.at (j := K) (by omega) gK
          have c1 := hiI.at (j := k1) (by omega) gk1
          have f0 := (hiI.2 K (by omega)).2.1
          have f1 := (hiI.2 k1 (by omega)).2.1
          have NX := Lib.hid (hiI.swap (i := K) (k := k1) (by omega) (by omega) (by omega))
          rw [gK, gk1, show swp (rot f K m b) K k1 = rot f k1 m b by rw [hk1, ← hmm]; exact rot_down (by omega)] at NX
          have kn : (K : Int) < (n : Int) := by omega
          have k1n : (k1 : Int) < (n : Int) := by omega
          have hne : ¬ K = k1 := by omega
          have hne' : ¬ k1 = K := by omega
          have kb : I ≤ k1 ∧ k1 ≤ m ∧ k1 < K := by omega
          clear hiI gK gk1 hk1 hmm
          generalize f m = x at *
          generalize f k1 = y at *
          go_wp2_with (fail)
          go_big_region
          all_goals (
            go_wp2
            go_roundw
            case rel => exact ⟨k1, by first | rfl | go_num, by omega, Lib.hid (((HGk.out.trans (grown_set _ _ _ _)).trans (grown_set _ _ _ _)).trans (grown_drewS _ _)), Lib.hid NX.out.drew⟩
            case measure => first | (simp [intOf]; done) | (simp [intOf]; omega))
        · obtain rfl : K = I := by omega
          have hki' : ¬ (K : Int) < (K : Int) := by omega
          go_wp2
          first
            | (refine bodyPost_ret (results_none rfl _ _ _) rfl ?_; exact ⟨rfl, HGk.out, _, HIk.out, FIN.out⟩)
            | (refine bodyPost_end (results_none rfl _ _ _) rfl ?_; exact ⟨rfl, HGk.out, _, HIk.out, FIN.out⟩)
end Go.Proofs.YtakfjdnpfhcgkaaGreatDoor
