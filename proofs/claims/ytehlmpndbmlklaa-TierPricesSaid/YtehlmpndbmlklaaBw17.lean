/-
  Contract of exref14.Tiered.
-/
import Derived.Test.YtehlmpndbmlklaaBw15
import Derived.Test.YtehlmpndbmlklaaTp3
import Derived.Deep.CutRange
import Derived.Deep.RegionLaw
namespace Go.Proofs.Ytehlmpndbmlklaa
set_option linter.all false
open Go.RowKit Go.Sort
attribute [local go_sem] cell_set_self lt_1 lt_2 lt_3 lt_4 lt_5 lt_6

/-- What the loop of exref14.Tiered keeps. -/
def Stt (l : List (Int × Int)) (q : Int) (k : Nat) (ah s : Int) : Prop :=
  (ah = q ∧ s = byT l 0 q) ∨ (ah < q ∧ okFrom ah (l.drop k) = true ∧ s + byT (l.drop k) ah q = byT l 0 q)
theorem stt_step {l : List (Int × Int)} {q ah s u p : Int} {k : Nat} (hg : l[k]? = some (u, p)) (hok : okFrom ah (l.drop k) = true) (h : ah < q) (ha : 0 ≤ ah) (hs : s + byT (l.drop k) ah q = byT l 0 q) :
    0 ≤ p ∧ p ≤ 1125899906842624 ∧ (u = 0 ∨ (ah < u ∧ u ≤ 1125899906842624)) ∧
      (u = 0 ∨ q < u → Stt l q (k + 1) q (s + (q - ah) * p)) ∧ (u ≠ 0 → u ≤ q → Stt l q (k + 1) u (s + (u - ah) * p)) := by
  obtain ⟨hpos, hp0, hp1, hok'⟩ := tier_facts hg hok
  have hu : u = 0 ∨ (ah < u ∧ u ≤ 1125899906842624) := by omega
  have st := fun hh => byT_step (q := q) hg hs hh
  have ah0 : u = 0 ∨ 0 ≤ u ∨ u < 0 := by omega
  refine ⟨hp0, hp1, hu, fun c => ?_, fun c1 c2 => ?_⟩
  · by_cases u0 : 0 < u
    · have pt : partT ah u q = q - ah := by unfold partT; rw [if_pos u0]; omega
      have := st (by rw [pt]; omega)
      rw [pt, byT_past (show q ≤ u by omega)] at this
      exact .inl ⟨rfl, by omega⟩
    · have pt : partT ah u q = q - ah := by unfold partT; rw [if_neg u0]
      have := st (by rw [pt]; omega)
      rw [pt] at this
      rcases hpos with ⟨h1, h2⟩ | ⟨h1, h2, h3⟩
      · rw [List.drop_of_length_le (by omega)] at this
        simp only [byT] at this
        exact .inl ⟨rfl, by omega⟩
      · rcases c with c | c
        · subst c
          rw [show byT (l.drop (k + 1)) 0 q = byT (l.drop (k + 1)) 0 q from rfl] at this
          exfalso; omega
        · rw [byT_past (show q ≤ u by omega)] at this
          exact .inl ⟨rfl, by omega⟩
  · have u1 : ah < u := by omega
    by_cases u0 : 0 < u
    · have pt : partT ah u q = u - ah := by unfold partT; rw [if_pos u0]; omega
      have := st (by rw [pt]; omega)
      rw [pt] at this
      by_cases e : u = q
      · subst e
        rw [byT_past (Int.le_refl _)] at this
        exact .inl ⟨rfl, by omega⟩
      · exact .inr ⟨by omega, hok', this⟩
    · exact .inr (by exfalso; omega)

set_option maxHeartbeats 8000000 in
set_option maxRecDepth 100000 in
theorem tiered14_any (A : Option Addr) (n c : Nat) (l : List (Int × Int)) (q : Int) (hl : l.length = n) (hn : n ≤ 1000000) (hq : In64 q) (w : World) (T : Tiers w A l) :
    Calls Try.prog 17 #[.slice A n c, .int .i64 q] w fun e w' => e = .returned (.tuple #[.int .i64 (priceN l q (byT l 0 q)), .int .i64 (priceE l q (byT l 0 q))]) ∧ Below w.heap.size w w' := by
  have CK := Lib.hid (fun W (hb : Below w.heap.size w W) => check14_any A n c l hl hn W (T.below hb))
  rcases chk_cases l with k | k | ⟨k, k1, k2, k3⟩
  · have R : Hid (priceN l q (byT l 0 q) = 0 ∧ priceE l q (byT l 0 q) = 9) := Lib.hid (by unfold priceN priceE; rw [k, if_neg (by omega), if_neg (by omega)]; exact ⟨rfl, rfl⟩)
    rw [k] at CK
    clear k T hq
    go_enter Try.func17, Try.ntmps17
    go_wp2_with (first | (go_at_call 23; refine (CK.out _ (by repeat (first | exact Below.refl _ _ | refine Below.setCell ?_ (by first | (simp; done) | (simp; omega) | omega) _ | refine Below.alloc ?_ (by first | (simp; done) | (simp; omega) | omega) _ | refine Below.drew ?_ | assumption | refine Below.trans ?_ (Below.mono (by assumption) (by first | (simp; done) | (simp; omega) | omega))))).mono ?_; rintro e w1 ⟨rfl, hb1⟩; obtain ⟨hc1, hf1⟩ := bcell hb1; have hs1 := hb1.size; (try simp at hs1)))
    go_ret2
    exact ⟨ret_ii R.out, (by repeat (first | exact Below.refl _ _ | refine Below.setCell ?_ (by first | (simp; done) | (simp; omega) | omega) _ | refine Below.alloc ?_ (by first | (simp; done) | (simp; omega) | omega) _ | refine Below.drew ?_ | assumption | refine Below.trans ?_ (Below.mono (by assumption) (by first | (simp; done) | (simp; omega) | omega))))⟩
  · have R : Hid (priceN l q (byT l 0 q) = 0 ∧ priceE l q (byT l 0 q) = 6) := Lib.hid (by unfold priceN priceE; rw [k, if_neg (by omega), if_neg (by omega)]; exact ⟨rfl, rfl⟩)
    rw [k] at CK
    clear k T hq
    go_enter Try.func17, Try.ntmps17
    go_wp2_with (first | (go_at_call 23; refine (CK.out _ (by repeat (first | exact Below.refl _ _ | refine Below.setCell ?_ (by first | (simp; done) | (simp; omega) | omega) _ | refine Below.alloc ?_ (by first | (simp; done) | (simp; omega) | omega) _ | refine Below.drew ?_ | assumption | refine Below.trans ?_ (Below.mono (by assumption) (by first | (simp; done) | (simp; omega) | omega))))).mono ?_; rintro e w1 ⟨rfl, hb1⟩; obtain ⟨hc1, hf1⟩ := bcell hb1; have hs1 := hb1.size; (try simp at hs1)))
    go_ret2
    exact ⟨ret_ii R.out, (by repeat (first | exact Below.refl _ _ | refine Below.setCell ?_ (by first | (simp; done) | (simp; omega) | omega) _ | refine Below.alloc ?_ (by first | (simp; done) | (simp; omega) | omega) _ | refine Below.drew ?_ | assumption | refine Below.trans ?_ (Below.mono (by assumption) (by first | (simp; done) | (simp; omega) | omega))))⟩
  · rw [k] at CK
    by_cases hqq : 0 ≤ q ∧ q ≤ 1125899906842624
    · obtain ⟨q0, q1⟩ := hqq
      have R : Hid (priceN l q (byT l 0 q) = unitsN (rhe (byT l 0 q) 1000000) ∧ priceE l q (byT l 0 q) = unitsE (rhe (byT l 0 q) 1000000)) := Lib.hid (priceN_ok k q0 q1)
      have HL := Lib.hid hl; have HK := Lib.hid k3
      have TT := Lib.hid T
      have n20 : n ≤ 20 := by omega
      clear k k1 k2 k3 T hl hq hn
      go_enter Try.func17, Try.ntmps17
      go_wp2_with (first | (go_at_call 23; refine (CK.out _ (by repeat (first | exact Below.refl _ _ | refine Below.setCell ?_ (by first | (simp; done) | (simp; omega) | omega) _ | refine Below.alloc ?_ (by first | (simp; done) | (simp; omega) | omega) _ | refine Below.drew ?_ | assumption | refine Below.trans ?_ (Below.mono (by assumption) (by first | (simp; done) | (simp; omega) | omega))))).mono ?_; rintro e w1 ⟨rfl, hb1⟩; obtain ⟨hc1, hf1⟩ := bcell hb1; have hs1 := hb1.size; (try simp at hs1)))
      go_loopw [8, 9] (fun a i wr => ∃ (k : Nat) (ah s : Int) (SA : Option Addr) (sn sc : Nat), k ≤ n ∧ i = .int .i64 k ∧ a = .int .i64 ah ∧ 0 ≤ ah ∧ ah ≤ q ∧ 0 ≤ s ∧ s ≤ k * 1267650600228229401496703205376 ∧
        Hid (Stt l q k ah s ∧ Pt (w1.heap.size + 1) wr false SA sn sc s) ∧ (wr.cell? ⟨w1.heap.size, 0, none⟩ = some (.bool false) ∧ wr.cell? ⟨w1.heap.size, 1, none⟩ = some (.slice SA sn sc) ∧ wr.frozen? ⟨w1.heap.size, 0, none⟩ = false ∧ wr.frozen? ⟨w1.heap.size, 1, none⟩ = false) ∧ w1.heap.size < wr.heap.size ∧ Below w1.heap.size w1 wr) (fun _ i _ => n - (intOf i).toNat)
      case atStart => exact ⟨0, 0, 0, none, 0, 0, by omega, rfl, rfl, by omega, q0, by omega, by omega, Lib.hid ⟨by
        by_cases h : q = 0
        · subst h; exact .inl ⟨rfl, (byT_past (Int.le_refl _)).symm⟩
        · exact .inr ⟨by omega, by simpa using HK.out, by simp⟩, Pt.zero _ _⟩, by refine ⟨?_, ?_, ?_, ?_⟩ <;> (simp [go_sem, *]; done), by simp, Below.alloc (Below.refl _ _) (Nat.le_refl _) _⟩
      case round =>
        obtain ⟨k, ah, s, SA, sn, sc, hk, rfl, rfl, a0, a1, s0, s1, hI, ⟨c0, c1, f0, f1⟩, hz, hB⟩ := hrel
        have hBw : Below w.heap.size w wr := hb1.trans (hB.mono hs1)
        have hsz := hB.size
        have hs7 := hBw.size
        have s2 : s ≤ 25353012004564588029934064107520 := by omega
        by_cases hlt : k < n
        · obtain ⟨⟨u, p⟩, hg⟩ : ∃ t, l[k]? = some t := ⟨_, List.getElem?_eq_getElem (by rw [HL.out]; exact hlt)⟩
          obtain ⟨b, off, hA, hbs, hc0, hc1⟩ := TT.out k (u, p) hg
          subst hA
          have e0 : wr.cell? ⟨b, off + k * 2, none⟩ = some (.int .i64 u) := (hBw.cell (p := ⟨b, off + k * 2, none⟩) hbs).trans hc0
          have e1 : wr.cell? ⟨b, off + k * 2 + 1, none⟩ = some (.int .i64 p) := (hBw.cell (p := ⟨b, off + k * 2 + 1, none⟩) hbs).trans hc1
          have hbw : b < wr.heap.size := by omega
          have kn : (k : Int) < (n : Int) := by omega
          rcases hI.out.1 with ⟨h1, h2⟩ | ⟨h1, h2, h3⟩
          · have HN : Hid (Stt l q (k + 1) q s ∧ Pt (w1.heap.size + 1) wr false SA sn sc s) := Lib.hid ⟨.inl ⟨rfl, h2⟩, hI.out.2⟩
            subst h1
            have s3 : s ≤ ((k : Int) + 1) * 1267650600228229401496703205376 := by omega
            rcases (show u = 0 ∨ (u ≠ 0 ∧ ah < u) ∨ (u ≠ 0 ∧ ¬ ah < u) by omega) with h | ⟨h, h'⟩ | ⟨h, h'⟩
            · subst h
              clear hI hg hc0 hc1 HL HK TT CK h2 s2
              go_wp2
              go_roundw
              case rel => exact ⟨k + 1, ah, s, SA, sn, sc, by omega, by go_num, rfl, a0, by omega, s0, by simpa using s3, HN, ⟨c0, c1, f0, f1⟩, hz, hB⟩
              case measure => first | (simp [intOf]; done) | (simp [intOf]; omega)
            · have hu0 : (u == 0) = false := by simpa using h
              clear hI hg hc0 hc1 HL HK TT CK h2 h s2
              go_wp2
              go_roundw
              case rel => exact ⟨k + 1, ah, s, SA, sn, sc, by omega, by go_num, rfl, a0, by omega, s0, by simpa using s3, HN, ⟨c0, c1, f0, f1⟩, hz, hB⟩
              case measure => first | (simp [intOf]; done) | (simp [intOf]; omega)
            · have hu0 : (u == 0) = false := by simpa using h
              clear hI hg hc0 hc1 HL HK TT CK h2 h s2
              go_wp2
              go_roundw
              case rel => exact ⟨k + 1, ah, s, SA, sn, sc, by omega, by go_num, rfl, a0, by omega, s0, by simpa using s3, HN, ⟨c0, c1, f0, f1⟩, hz, hB⟩
              case measure => first | (simp [intOf]; done) | (simp [intOf]; omega)
          · obtain ⟨p0, p1, hu, st1, st2⟩ := stt_step hg h2 h1 a0 h3
            have ST1 := Lib.hid st1; have ST2 := Lib.hid st2
            have P7 := Lib.hid hI.out.2
            have ADD : ∀ z : Int, ah < z → z ≤ q → Hid (In64 (z - ah) ∧ In64 p ∧ 0 ≤ (z - ah) * p ∧ (z - ah) * p ≤ 1267650600228229401496703205376) := fun z h h' => by
              have m := mul_50 (a := z - ah) (b := p) (by omega) (by omega) p0 p1
              exact Lib.hid ⟨⟨by omega, by omega⟩, ⟨by omega, by omega⟩, m.1, m.2⟩
            have n12 : sn ≤ 12 := by rw [P7.out.2.1]; exact len48 (by omega)
            clear hI hg hc0 hc1 HL HK TT CK h2 h3 st1 st2
            rcases (show u = 0 ∨ (u ≠ 0 ∧ q < u) ∨ (u ≠ 0 ∧ ¬ q < u) by omega) with h | ⟨h, h'⟩ | ⟨h, h'⟩
            · obtain ⟨i1, i2, y0, y1⟩ := (ADD (q) (by omega) (by omega)).out
              have TI := Lib.hid (fun W => times_any (q - ah) p i1 i2 W)
              have ST : Hid (Stt l q (k + 1) (q) (s + (q - ah) * p)) := Lib.hid (ST1.out (.inl h))
              obtain ⟨y, hy⟩ : ∃ y, (q - ah) * p = y := ⟨_, rfl⟩
              rw [hy] at TI ST y0 y1
              have AO : Hid (∀ t B m d W b2, Below wr.heap.size wr W → Pt b2 W t B m d y → Calls Try.prog 31 #[.agg #[.bool false, .slice SA sn sc], .agg #[.bool t, .slice B m d]] W fun e w' => Res W.heap.size w' e (s + y) ∧ Below W.heap.size W w') := Lib.hid fun t B m d W b2 hb X => bigAdd_any false t SA B sn m sc d s y (by omega) (by rw [X.2.1]; have := len48 (n := y.natAbs) (by omega); omega) W ((P7.out.below hb).mono (Nat.zero_le _)) (X.mono (Nat.zero_le _))
              have hwr : IntKind.i64.wrap (q - ah) = q - ah := IntWalk.i64_in _ ⟨by omega, by omega⟩
              have sy : 0 ≤ s + y ∧ s + y ≤ ((k : Int) + 1) * 1267650600228229401496703205376 := by omega
              obtain ⟨sy0, sy1⟩ := sy
              have hzz : w1.heap.size < wr.heap.size := hz
              clear ADD ST1 ST2 P7 i1 i2 hu hy y0 y1
              subst h
              go_wp2
              go_cut [] from 23 to 56 (fun wc => ∃ (A8 : Option Addr) (n8 c8 : Nat), Hid (Pt (w1.heap.size + 1) wc false A8 n8 c8 (s + y)) ∧ (wc.cell? ⟨w1.heap.size, 0, none⟩ = some (.bool false) ∧ wc.cell? ⟨w1.heap.size, 1, none⟩ = some (.slice A8 n8 c8) ∧ wc.frozen? ⟨w1.heap.size, 0, none⟩ = false ∧ wc.frozen? ⟨w1.heap.size, 1, none⟩ = false) ∧ w1.heap.size < wc.heap.size ∧ Below w1.heap.size w1 wc)
              case first =>
                go_region_law (first | (go_simp; go_at_call 32; refine (TI.out _).mono ?_; rintro e w11 ⟨⟨s1', A1, n1, c1', rfl, hP1⟩, hb11⟩; obtain ⟨hc11, hf11⟩ := bcell hb11; (try simp only [drew_size, drew_cell, drew_frozen] at hc11 hf11); have hs11 := hb11.size; (try simp at hs11); have hz11 : w1.heap.size < w11.heap.size ∧ b < w11.heap.size := (by have := hb11.size; (try simp at this); omega); have HP1 := Lib.hid hP1; clear hP1) | (go_simp; go_at_call 31; refine (AO.out _ _ _ _ _ _ (by repeat (first | exact Below.refl _ _ | refine Below.drew ?_ | assumption | refine Below.trans ?_ (Below.mono (by assumption) (by first | (simp; done) | (simp; omega) | omega)))) HP1.out).mono ?_; rintro e w12 ⟨⟨s3, A3, n3, c3, rfl, hP3⟩, hb12⟩; obtain ⟨hc12, hf12⟩ := bcell hb12; (try simp only [drew_size, drew_cell, drew_frozen] at hc12 hf12); have hs12 := hb12.size; (try simp at hs12); have hz12 : w1.heap.size < w12.heap.size ∧ b < w12.heap.size := (by have := hb12.size; (try simp at this); omega); have e3 : s3 = false := (by rw [hP3.1]; exact decide_eq_false (by omega)); subst e3; have HP3 := Lib.hid hP3; clear hP3))
                all_goals (go_wp2_with (fail); go_meet; have hall : Below wr.heap.size wr w12 := (by repeat (first | exact Below.refl _ _ | refine Below.drew ?_ | assumption | refine Below.trans ?_ (Below.mono (by assumption) (by first | (simp; done) | (simp; omega) | omega)))); exact ⟨A3, n3, c3, Lib.hid (((HP3.out.setCell _ (by first | (simp; done) | (simp; omega) | omega)).setCell _ (by first | (simp; done) | (simp; omega) | omega)).mono (by first | (simp; done) | (simp; omega) | omega)), (by refine ⟨?_, ?_, ?_, ?_⟩ <;> (simp [go_sem, *]; done)), (by first | (simp; done) | (simp; omega) | omega), Below.setCell (Below.setCell (hB.trans (hall.mono hsz)) (by first | (simp; done) | (simp; omega) | omega) _) (by first | (simp; done) | (simp; omega) | omega) _⟩)
              case rest =>
                obtain ⟨A8, n8, c8, hP8, ⟨e40, e41, g40, g41⟩, hs10, hB10⟩ := hcut
                go_wp2
                go_roundw
                case rel => exact ⟨k + 1, q, s + y, A8, n8, c8, by omega, by go_num, rfl, by omega, by omega, sy0, by simpa using sy1, Lib.hid ⟨ST.out, hP8.out⟩, ⟨e40, e41, g40, g41⟩, hs10, hB10⟩
                case measure => first | (simp [intOf]; done) | (simp [intOf]; omega)
            · have hu0 : (u == 0) = false := by simpa using h
              obtain ⟨i1, i2, y0, y1⟩ := (ADD (q) (by omega) (by omega)).out
              have TI := Lib.hid (fun W => times_any (q - ah) p i1 i2 W)
              have ST : Hid (Stt l q (k + 1) (q) (s + (q - ah) * p)) := Lib.hid (ST1.out (.inr h'))
              obtain ⟨y, hy⟩ : ∃ y, (q - ah) * p = y := ⟨_, rfl⟩
              rw [hy] at TI ST y0 y1
              have AO : Hid (∀ t B m d W b2, Below wr.heap.size wr W → Pt b2 W t B m d y → Calls Try.prog 31 #[.agg #[.bool false, .slice SA sn sc], .agg #[.bool t, .slice B m d]] W fun e w' => Res W.heap.size w' e (s + y) ∧ Below W.heap.size W w') := Lib.hid fun t B m d W b2 hb X => bigAdd_any false t SA B sn m sc d s y (by omega) (by rw [X.2.1]; have := len48 (n := y.natAbs) (by omega); omega) W ((P7.out.below hb).mono (Nat.zero_le _)) (X.mono (Nat.zero_le _))
              have hwr : IntKind.i64.wrap (q - ah) = q - ah := IntWalk.i64_in _ ⟨by omega, by omega⟩
              have sy : 0 ≤ s + y ∧ s + y ≤ ((k : Int) + 1) * 1267650600228229401496703205376 := by omega
              obtain ⟨sy0, sy1⟩ := sy
              have hzz : w1.heap.size < wr.heap.size := hz
              clear ADD ST1 ST2 P7 i1 i2 hu hy y0 y1
              go_wp2
              go_cut [] from 23 to 56 (fun wc => ∃ (A8 : Option Addr) (n8 c8 : Nat), Hid (Pt (w1.heap.size + 1) wc false A8 n8 c8 (s + y)) ∧ (wc.cell? ⟨w1.heap.size, 0, none⟩ = some (.bool false) ∧ wc.cell? ⟨w1.heap.size, 1, none⟩ = some (.slice A8 n8 c8) ∧ wc.frozen? ⟨w1.heap.size, 0, none⟩ = false ∧ wc.frozen? ⟨w1.heap.size, 1, none⟩ = false) ∧ w1.heap.size < wc.heap.size ∧ Below w1.heap.size w1 wc)
              case first =>
                go_region_law (first | (go_simp; go_at_call 32; refine (TI.out _).mono ?_; rintro e w11 ⟨⟨s1', A1, n1, c1', rfl, hP1⟩, hb11⟩; obtain ⟨hc11, hf11⟩ := bcell hb11; (try simp only [drew_size, drew_cell, drew_frozen] at hc11 hf11); have hs11 := hb11.size; (try simp at hs11); have hz11 : w1.heap.size < w11.heap.size ∧ b < w11.heap.size := (by have := hb11.size; (try simp at this); omega); have HP1 := Lib.hid hP1; clear hP1) | (go_simp; go_at_call 31; refine (AO.out _ _ _ _ _ _ (by repeat (first | exact Below.refl _ _ | refine Below.drew ?_ | assumption | refine Below.trans ?_ (Below.mono (by assumption) (by first | (simp; done) | (simp; omega) | omega)))) HP1.out).mono ?_; rintro e w12 ⟨⟨s3, A3, n3, c3, rfl, hP3⟩, hb12⟩; obtain ⟨hc12, hf12⟩ := bcell hb12; (try simp only [drew_size, drew_cell, drew_frozen] at hc12 hf12); have hs12 := hb12.size; (try simp at hs12); have hz12 : w1.heap.size < w12.heap.size ∧ b < w12.heap.size := (by have := hb12.size; (try simp at this); omega); have e3 : s3 = false := (by rw [hP3.1]; exact decide_eq_false (by omega)); subst e3; have HP3 := Lib.hid hP3; clear hP3))
                all_goals (go_wp2_with (fail); go_meet; have hall : Below wr.heap.size wr w12 := (by repeat (first | exact Below.refl _ _ | refine Below.drew ?_ | assumption | refine Below.trans ?_ (Below.mono (by assumption) (by first | (simp; done) | (simp; omega) | omega)))); exact ⟨A3, n3, c3, Lib.hid (((HP3.out.setCell _ (by first | (simp; done) | (simp; omega) | omega)).setCell _ (by first | (simp; done) | (simp; omega) | omega)).mono (by first | (simp; done) | (simp; omega) | omega)), (by refine ⟨?_, ?_, ?_, ?_⟩ <;> (simp [go_sem, *]; done)), (by first | (simp; done) | (simp; omega) | omega), Below.setCell (Below.setCell (hB.trans (hall.mono hsz)) (by first | (simp; done) | (simp; omega) | omega) _) (by first | (simp; done) | (simp; omega) | omega) _⟩)
              case rest =>
                obtain ⟨A8, n8, c8, hP8, ⟨e40, e41, g40, g41⟩, hs10, hB10⟩ := hcut
                go_wp2
                go_roundw
                case rel => exact ⟨k + 1, q, s + y, A8, n8, c8, by omega, by go_num, rfl, by omega, by omega, sy0, by simpa using sy1, Lib.hid ⟨ST.out, hP8.out⟩, ⟨e40, e41, g40, g41⟩, hs10, hB10⟩
                case measure => first | (simp [intOf]; done) | (simp [intOf]; omega)
            · have hu0 : (u == 0) = false := by simpa using h
              have hu1 : ah < u := by omega
              obtain ⟨i1, i2, y0, y1⟩ := (ADD (u) (by omega) (by omega)).out
              have TI := Lib.hid (fun W => times_any (u - ah) p i1 i2 W)
              have ST : Hid (Stt l q (k + 1) (u) (s + (u - ah) * p)) := Lib.hid (ST2.out h (by omega))
              obtain ⟨y, hy⟩ : ∃ y, (u - ah) * p = y := ⟨_, rfl⟩
              rw [hy] at TI ST y0 y1
              have AO : Hid (∀ t B m d W b2, Below wr.heap.size wr W → Pt b2 W t B m d y → Calls Try.prog 31 #[.agg #[.bool false, .slice SA sn sc], .agg #[.bool t, .slice B m d]] W fun e w' => Res W.heap.size w' e (s + y) ∧ Below W.heap.size W w') := Lib.hid fun t B m d W b2 hb X => bigAdd_any false t SA B sn m sc d s y (by omega) (by rw [X.2.1]; have := len48 (n := y.natAbs) (by omega); omega) W ((P7.out.below hb).mono (Nat.zero_le _)) (X.mono (Nat.zero_le _))
              have hwr : IntKind.i64.wrap (u - ah) = u - ah := IntWalk.i64_in _ ⟨by omega, by omega⟩
              have sy : 0 ≤ s + y ∧ s + y ≤ ((k : Int) + 1) * 1267650600228229401496703205376 := by omega
              obtain ⟨sy0, sy1⟩ := sy
              have hzz : w1.heap.size < wr.heap.size := hz
              clear ADD ST1 ST2 P7 i1 i2 hu hy y0 y1
              go_wp2
              go_cut [] from 23 to 56 (fun wc => ∃ (A8 : Option Addr) (n8 c8 : Nat), Hid (Pt (w1.heap.size + 1) wc false A8 n8 c8 (s + y)) ∧ (wc.cell? ⟨w1.heap.size, 0, none⟩ = some (.bool false) ∧ wc.cell? ⟨w1.heap.size, 1, none⟩ = some (.slice A8 n8 c8) ∧ wc.frozen? ⟨w1.heap.size, 0, none⟩ = false ∧ wc.frozen? ⟨w1.heap.size, 1, none⟩ = false) ∧ w1.heap.size < wc.heap.size ∧ Below w1.heap.size w1 wc)
              case first =>
                go_region_law (first | (go_simp; go_at_call 32; refine (TI.out _).mono ?_; rintro e w11 ⟨⟨s1', A1, n1, c1', rfl, hP1⟩, hb11⟩; obtain ⟨hc11, hf11⟩ := bcell hb11; (try simp only [drew_size, drew_cell, drew_frozen] at hc11 hf11); have hs11 := hb11.size; (try simp at hs11); have hz11 : w1.heap.size < w11.heap.size ∧ b < w11.heap.size := (by have := hb11.size; (try simp at this); omega); have HP1 := Lib.hid hP1; clear hP1) | (go_simp; go_at_call 31; refine (AO.out _ _ _ _ _ _ (by repeat (first | exact Below.refl _ _ | refine Below.drew ?_ | assumption | refine Below.trans ?_ (Below.mono (by assumption) (by first | (simp; done) | (simp; omega) | omega)))) HP1.out).mono ?_; rintro e w12 ⟨⟨s3, A3, n3, c3, rfl, hP3⟩, hb12⟩; obtain ⟨hc12, hf12⟩ := bcell hb12; (try simp only [drew_size, drew_cell, drew_frozen] at hc12 hf12); have hs12 := hb12.size; (try simp at hs12); have hz12 : w1.heap.size < w12.heap.size ∧ b < w12.heap.size := (by have := hb12.size; (try simp at this); omega); have e3 : s3 = false := (by rw [hP3.1]; exact decide_eq_false (by omega)); subst e3; have HP3 := Lib.hid hP3; clear hP3))
                all_goals (go_wp2_with (fail); go_meet; have hall : Below wr.heap.size wr w12 := (by repeat (first | exact Below.refl _ _ | refine Below.drew ?_ | assumption | refine Below.trans ?_ (Below.mono (by assumption) (by first | (simp; done) | (simp; omega) | omega)))); exact ⟨A3, n3, c3, Lib.hid (((HP3.out.setCell _ (by first | (simp; done) | (simp; omega) | omega)).setCell _ (by first | (simp; done) | (simp; omega) | omega)).mono (by first | (simp; done) | (simp; omega) | omega)), (by refine ⟨?_, ?_, ?_, ?_⟩ <;> (simp [go_sem, *]; done)), (by first | (simp; done) | (simp; omega) | omega), Below.setCell (Below.setCell (hB.trans (hall.mono hsz)) (by first | (simp; done) | (simp; omega) | omega) _) (by first | (simp; done) | (simp; omega) | omega) _⟩)
              case rest =>
                obtain ⟨A8, n8, c8, hP8, ⟨e40, e41, g40, g41⟩, hs10, hB10⟩ := hcut
                go_wp2
                go_roundw
                case rel => exact ⟨k + 1, u, s + y, A8, n8, c8, by omega, by go_num, rfl, by omega, by omega, sy0, by simpa using sy1, Lib.hid ⟨ST.out, hP8.out⟩, ⟨e40, e41, g40, g41⟩, hs10, hB10⟩
                case measure => first | (simp [intOf]; done) | (simp [intOf]; omega)
        · have hkn : k = n := by omega
          subst hkn
          have ES : s = byT l 0 q := by
            rcases hI.out.1 with ⟨h1, h2⟩ | ⟨h1, h2, h3⟩
            · exact h2
            · exact (byT_end HL.out h3).symm
          have RO : Hid (Calls Try.prog 33 #[.agg #[.bool false, .slice SA sn sc]] wr fun e w' => e = .returned (.tuple #[.int .i64 (unitsN (rhe s 1000000)), .int .i64 (unitsE (rhe s 1000000))]) ∧ Below wr.heap.size wr w') := Lib.hid (round_any false SA sn sc s (by omega) wr (hI.out.2.mono (Nat.zero_le _)))
          have R : Hid (priceN l q (byT l 0 q) = unitsN (rhe s 1000000) ∧ priceE l q (byT l 0 q) = unitsE (rhe s 1000000)) := Lib.hid (by rw [ES]; exact R.out)
          clear ES hI HL HK TT CK
          go_wp2_with (first | (go_at_call 33; refine (RO.out).mono ?_; rintro e w10 ⟨rfl, hb10⟩; obtain ⟨hc10, hf10⟩ := bcell hb10; have hs10 := hb10.size; (try simp at hs10)))
          go_ret2
          exact ⟨ret_ii R.out, (by repeat (first | exact Below.refl _ _ | refine Below.setCell ?_ (by first | (simp; done) | (simp; omega) | omega) _ | refine Below.alloc ?_ (by first | (simp; done) | (simp; omega) | omega) _ | refine Below.drew ?_ | assumption | refine Below.trans ?_ (Below.mono (by assumption) (by first | (simp; done) | (simp; omega) | omega))))⟩
    · have R : Hid (priceN l q (byT l 0 q) = 0 ∧ priceE l q (byT l 0 q) = 6) := Lib.hid (by unfold priceN priceE; rw [k, if_neg (by omega), if_pos rfl, if_neg hqq]; exact ⟨rfl, rfl⟩)
      clear k T hq
      rcases (show q < 0 ∨ (0 ≤ q ∧ 1125899906842624 < q) by omega) with f | ⟨f1, f2⟩
      all_goals
        clear hqq
        go_enter Try.func17, Try.ntmps17
        go_wp2_with (first | (go_at_call 23; refine (CK.out _ (by repeat (first | exact Below.refl _ _ | refine Below.setCell ?_ (by first | (simp; done) | (simp; omega) | omega) _ | refine Below.alloc ?_ (by first | (simp; done) | (simp; omega) | omega) _ | refine Below.drew ?_ | assumption | refine Below.trans ?_ (Below.mono (by assumption) (by first | (simp; done) | (simp; omega) | omega))))).mono ?_; rintro e w1 ⟨rfl, hb1⟩; obtain ⟨hc1, hf1⟩ := bcell hb1; have hs1 := hb1.size; (try simp at hs1)))
        go_ret2
        exact ⟨ret_ii R.out, (by repeat (first | exact Below.refl _ _ | refine Below.setCell ?_ (by first | (simp; done) | (simp; omega) | omega) _ | refine Below.alloc ?_ (by first | (simp; done) | (simp; omega) | omega) _ | refine Below.drew ?_ | assumption | refine Below.trans ?_ (Below.mono (by assumption) (by first | (simp; done) | (simp; omega) | omega))))⟩
end Go.Proofs.Ytehlmpndbmlklaa
