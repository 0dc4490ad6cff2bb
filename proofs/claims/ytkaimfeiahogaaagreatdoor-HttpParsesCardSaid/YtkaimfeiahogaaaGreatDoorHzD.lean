/-
  Contract of exref22.Parse: it answers what 'parseF' says of the bytes. (Printed by tools/mkhzd.py.)
-/
import Derived.Test.YtkaimfeiahogaaaGreatDoorHzC
import Derived.Test.YtkaimfeiahogaaaGreatDoorHzP
import Derived.Test.YtkaimfeiahogaaaGreatDoorHv1
namespace Go.Proofs.YtkaimfeiahogaaaGreatDoor
set_option linter.all false
open Go.RowKit Go.Shelf
attribute [local go_sem] cell_set_self lt_1 lt_2 lt_3 lt_4 lt_5 lt_6 drew_cell drew_frozen drew_size

set_option maxHeartbeats 40000000 in
set_option maxRecDepth 100000 in
theorem rparse_any (A : Option Addr) (n c : Nat) (l : List UInt8) (hl : l.length = n) (hn : n ≤ 100000) (w : World) (T : Bs w A c l) :
    Calls Tryz.prog 28 #[.slice A n c] w fun e w' => (∃ V, e = .returned V ∧ PV w.heap.size w' l (parseF l) V) ∧ Below w.heap.size w w' := by
  obtain ⟨i0, hi0, hz0, hz1, hz2⟩ := info_parts infoStrH
  have LN := Lib.hid (fun (k : Nat) (hk : k ≤ n) W (hb : Below w.heap.size w W) => rline_any A n c k l hl (by omega) hk W (T.below hb))
  have HT := Lib.hid T
  have HL := Lib.hid hl
  have hnc : (n : Int) ≤ (c : Int) := by have := T.1; omega
  clear T hl
  suffices key : ∀ Q : Ending → World → Prop, Hid (∀ e w', ((∃ V, e = .returned V ∧ PV w.heap.size w' l (parseF l) V) ∧ Below w.heap.size w w') → Q e w') → Calls Tryz.prog 28 #[.slice A n c] w Q from key _ (Lib.hid fun _ _ h => h)
  intro Q HQQ
  go_enter Tryz.func28, Tryz.ntmps28
  go_wp2
  go_loopw [7, 8, 9, 10] (fun at' ln lg sn wr => ∃ (k : Nat) (st : St) (sv : Value), at' = .int .i64 k ∧ ln = .int .i64 st.n ∧ lg = .int .i64 st.len ∧ sv = sn ∧ k ≤ n ∧ st.n ≤ 21 ∧ st.len ≤ 32768 ∧ Hid (parseF l = scanF (23 - st.n) st (l.drop k)) ∧ Hid (st.n = 0 → st = st0 ∧ sv = .slice none 0 0) ∧ Hid (SeenR w wr sv st) ∧ Hid (ReqS w wr st)) (fun at' _ _ _ _ => n - (intOf at').toNat)
  case atStart => exact ⟨0, st0, _, rfl, rfl, rfl, rfl, by omega, by decide, by decide, Lib.hid rfl, Lib.hid (fun _ => ⟨rfl, rfl⟩), Lib.hid ⟨[], World.ownsRow_nil _ _ _ _, by decide, by decide, by decide⟩, Lib.hid ⟨by simp [go_sem, st0], by simp [go_sem, st0], by simp [go_sem, st0], by simp [go_sem, st0], by simp [go_sem, st0], by simp [go_sem, st0], by simp [go_sem, st0], by simp [go_sem, st0], by intro j; simp [go_sem], by intro j; simp [go_sem], by simp, (by repeat (first | exact Below.refl _ _ | refine Below.setCell ?_ (by first | (simp; done) | (simp; omega) | omega) _ | refine Below.alloc ?_ (by first | (simp; done) | (simp; omega) | omega) _ | refine Below.drew ?_ | assumption | refine Below.trans ?_ (Below.mono (by assumption) (by first | (simp; done) | (simp; omega) | omega))))⟩⟩
  case round =>
    obtain ⟨k, ⟨N, m, p, cl, L, sl, sc⟩, sn, rfl, rfl, rfl, hsv, hk, hN, hLL, HP, H0, HS, HR⟩ := hrel
    subst hsv
    dsimp only at hN hLL HP H0 ⊢
    have a0x := HR.out.a0
    have a1x := HR.out.a1
    have a2x := HR.out.a2
    have a3x := HR.out.a3
    have r0x := HR.out.r0
    have r1x := HR.out.r1
    have r2x := HR.out.r2
    have r3x := HR.out.r3
    have fax := HR.out.fa
    have frx := HR.out.fr
    have hsx := HR.out.hs
    have belx := HR.out.bel
    have hbel := HR.out.bel
    have LK := LN.out k hk
    cases hq : lineF 0 (l.drop k) with
    | wait =>
      rw [hq] at LK
      dsimp only [rlineV] at LK
      have LQ := Lib.hid LK
      have HX := Lib.hid (pf_wait hN HP.out hq)
      clear LK hq
      go_wp2_with (first | (go_at_call 40; (with_reducible refine (LQ.out _ hbel).mono ?_); rintro e w1 ⟨rfl, rfl⟩))
      exact bodyPost_ret (v := .tuple #[.agg #[.string ⟨#[]⟩, .string ⟨#[]⟩, .slice none 0 0, .bool false], .int .i64 0, .bool false, .int .i64 0]) (by simp [results, Tryz.results28, go_sem, *]) rfl (HQQ.out _ _ ⟨⟨_, rfl, by rw [HX.out]; exact rfl⟩, (by repeat (first | exact Below.refl _ _ | refine Below.setCell ?_ (by first | (simp; done) | (simp; omega) | omega) _ | refine Below.alloc ?_ (by first | (simp; done) | (simp; omega) | omega) _ | refine Below.drew ?_ | assumption | refine Below.trans ?_ (Below.mono (by assumption) (by first | (simp; done) | (simp; omega) | omega))))⟩)
    | bad E =>
      rw [hq] at LK
      dsimp only [rlineV] at LK
      have LQ := Lib.hid LK
      have HX := Lib.hid (pf_bad hN HP.out hq)
      have hE : E ≠ 0 := by rcases lineF_bad2 hq with h | h <;> omega
      have hE' : ((E : Int) != 0) = true := by simpa using hE
      clear LK hq
      go_wp2_with (first | (go_at_call 40; (with_reducible refine (LQ.out _ hbel).mono ?_); rintro e w1 ⟨rfl, rfl⟩))
      exact bodyPost_ret (v := .tuple #[.agg #[.string ⟨#[]⟩, .string ⟨#[]⟩, .slice none 0 0, .bool false], .int .i64 0, .bool false, .int .i64 E]) (by simp [results, Tryz.results28, go_sem, *]) rfl (HQQ.out _ _ ⟨⟨_, rfl, by rw [HX.out]; exact rfl⟩, (by repeat (first | exact Below.refl _ _ | refine Below.setCell ?_ (by first | (simp; done) | (simp; omega) | omega) _ | refine Below.alloc ?_ (by first | (simp; done) | (simp; omega) | omega) _ | refine Below.drew ?_ | assumption | refine Below.trans ?_ (Below.mono (by assumption) (by first | (simp; done) | (simp; omega) | omega))))⟩)
    | got q =>
      rw [hq] at LK
      have HQ := Lib.hid hq
      have hqk := got_len hq
      have hq1000 := lineF_got_le hq (by omega)
      rw [List.length_drop, HL.out] at hqk
      obtain ⟨K2, hK2⟩ : ∃ K2, k + q + 2 = K2 := ⟨_, rfl⟩
      obtain ⟨s, hs⟩ : ∃ s, (l.drop k).take q = s := ⟨_, rfl⟩
      have hsl : s.length = q := by rw [← hs, List.length_take, List.length_drop, HL.out]; omega
      have HSL := Lib.hid hsl
      have HSQ := Lib.hid hs
      have LQ : Hid (∀ (W : World), Below w.heap.size w W → Calls Tryz.prog 40 #[.slice A n c, .int .i64 (k : Int)] W fun e w' => e = .returned (.tuple #[.string ⟨s.toArray⟩, .int .i64 (K2 : Int), .int .i64 0]) ∧ W = w') := Lib.hid fun W hb => by
        have := LK W hb
        dsimp only [rlineV] at this
        rw [hs, hK2] at this
        exact this
      have HK2 := Lib.hid hK2
      have hK2n : K2 ≤ n := by omega
      have hK2k : k < K2 := by omega
      have hK2' : ¬ (K2 : Int) < 0 := by omega
      have hemp : ((⟨s.toArray⟩ : ByteArray).toList == []) = decide (s = []) := str_beq2 s []
      clear LK hq hsl
      by_cases hN0 : N = 0
      · subst hN0
        obtain ⟨hst, hsn⟩ := H0.out rfl
        unfold st0 at hst
        injection hst with _ e1 e2 e3 e4 e5 e6
        subst e1 e2 e3 e4 e5 e6 hsn
        have hs9 : s.length ≤ 100000 := by rw [HSL.out]; omega
        by_cases h0 : headE s = 0
        · have HD : Hid (∀ W, ReqS w W ⟨0, [], [], false, 0, false, false⟩ → Calls Tryz.prog 41 #[.string ⟨s.toArray⟩, .pointer (some ⟨w.heap.size + 1, 0, none⟩)] W fun e w' => e = .returned (.int .i64 0) ∧ ∃ w5, Below W.heap.size W w5 ∧ w' = (w5.setCell ⟨w.heap.size + 1, 0, none⟩ (.string ⟨(headM s).toArray⟩)).setCell ⟨w.heap.size + 1, 1, none⟩ (.string ⟨(headP s).toArray⟩)) := Lib.hid fun W h => by
            refine (rhead_any s hs9 (w.heap.size + 1) _ _ W h.r0 h.r1 (h.fr 0) (h.fr 1) (by have := h.hs; omega)).mono ?_
            rintro e w' ⟨rfl, w5, hB, hw⟩
            rw [if_pos h0] at hw
            exact ⟨by rw [h0], w5, hB, hw⟩
          have HX : Hid (parseF l = scanF 22 ⟨1, headM s, headP s, false, 0, false, false⟩ (l.drop K2)) := Lib.hid (by rw [← HSQ.out, ← HK2.out]; exact pf_head HP.out HQ.out rfl (by rw [HSQ.out]; exact h0))
          generalize headM s = mm at *
          generalize headP s = pp at *
          generalize (⟨s.toArray⟩ : ByteArray) = S at *
          clear hemp h0 hs hs9 hqk
          go_wp2_with (first | (go_at_call 40; (with_reducible refine (LQ.out _ hbel).mono ?_); rintro e w1 ⟨rfl, rfl⟩) | (go_at_call 41; (with_reducible refine (HD.out _ HR.out).mono ?_); rintro e w2 ⟨rfl, w5, hb5, rfl⟩; have HR5 := Lib.hid (HR.out.call hb5); have hs5 := hb5.size))
          go_roundw
          case rel => exact ⟨K2, ⟨1, mm, pp, false, 0, false, false⟩, _, rfl, rfl, rfl, rfl, hK2n, by simp, by simp, HX, Lib.hid (fun e => by cases e), Lib.hid ⟨[], World.ownsRow_nil _ _ _ _, by simp, by simp, by simp⟩, Lib.hid (HR5.out.head mm pp rfl)⟩
          case measure => first | (simp [intOf]; done) | (simp [intOf]; omega)
        · have HD : Hid (∀ W, ReqS w W ⟨0, [], [], false, 0, false, false⟩ → Calls Tryz.prog 41 #[.string ⟨s.toArray⟩, .pointer (some ⟨w.heap.size + 1, 0, none⟩)] W fun e w' => e = .returned (.int .i64 (headE s)) ∧ Below W.heap.size W w') := Lib.hid fun W h => by
            refine (rhead_any s hs9 (w.heap.size + 1) _ _ W h.r0 h.r1 (h.fr 0) (h.fr 1) (by have := h.hs; omega)).mono ?_
            rintro e w' ⟨rfl, w5, hB, hw⟩
            rw [if_neg h0] at hw
            rw [hw]
            exact ⟨rfl, hB⟩
          have HX : Hid (parseF l = .bad (headE s)) := Lib.hid (by rw [← HSQ.out]; exact pf_headE (by omega) HP.out HQ.out rfl (by rw [HSQ.out]; exact h0))
          have hE' : ((headE s : Int) != 0) = true := by simpa using h0
          generalize headE s = E at *
          generalize (⟨s.toArray⟩ : ByteArray) = S at *
          clear hemp hs hs9 hqk
          go_wp2_with (first | (go_at_call 40; (with_reducible refine (LQ.out _ hbel).mono ?_); rintro e w1 ⟨rfl, rfl⟩) | (go_at_call 41; (with_reducible refine (HD.out _ HR.out).mono ?_); rintro e w2 ⟨rfl, hb5⟩; have HR5 := HR.out.call hb5; have a0y := HR5.a0; have a1y := HR5.a1; have a2y := HR5.a2; have a3y := HR5.a3; have r0y := HR5.r0; have r1y := HR5.r1; have r2y := HR5.r2; have r3y := HR5.r3; have fay := HR5.fa; have fry := HR5.fr; have hsy := HR5.hs; have bely := HR5.bel))
          exact bodyPost_ret (v := .tuple #[.agg #[.string ⟨#[]⟩, .string ⟨#[]⟩, .slice none 0 0, .bool false], .int .i64 0, .bool false, .int .i64 E]) (by simp [results, Tryz.results28, go_sem, *]) rfl (HQQ.out _ _ ⟨⟨_, rfl, by rw [HX.out]; exact rfl⟩, (by repeat (first | exact Below.refl _ _ | refine Below.setCell ?_ (by first | (simp; done) | (simp; omega) | omega) _ | refine Below.alloc ?_ (by first | (simp; done) | (simp; omega) | omega) _ | refine Below.drew ?_ | assumption | refine Below.trans ?_ (Below.mono (by assumption) (by first | (simp; done) | (simp; omega) | omega))))⟩)
      · have hN0' : ((N : Int) == 0) = false := by rw [beq_eq_false_iff_ne]; omega
        clear H0
        by_cases hq0 : q = 0
        · have hse : s = [] := List.eq_nil_of_length_eq_zero (by rw [HSL.out]; exact hq0)
          rw [decide_eq_true hse] at hemp
          have HX : Hid (parseF l = if (l.drop K2).length < L then .wait else .done ⟨N, m, p, cl, L, sl, sc⟩ (l.drop K2)) := Lib.hid (by
            have hQ := HQ.out
            rw [hq0] at hQ
            rw [show K2 = k + 2 by have := HK2.out; omega]
            exact pf_end hN HP.out hQ hN0)
          generalize (⟨s.toArray⟩ : ByteArray) = S at *
          clear hs hse hqk
          by_cases hsh : n - K2 < L
          · have hsh' : (n : Int) - (K2 : Int) < (L : Int) := by omega
            have HX2 : Hid (parseF l = .wait) := Lib.hid (by rw [HX.out, if_pos (by rw [List.length_drop, HL.out]; exact hsh)])
            clear hsh
            go_wp2_with (first | (go_at_call 40; (with_reducible refine (LQ.out _ hbel).mono ?_); rintro e w1 ⟨rfl, rfl⟩))
            exact bodyPost_ret (v := .tuple #[.agg #[.string ⟨#[]⟩, .string ⟨#[]⟩, .slice none 0 0, .bool false], .int .i64 0, .bool false, .int .i64 0]) (by simp [results, Tryz.results28, go_sem, *]) rfl (HQQ.out _ _ ⟨⟨_, rfl, by rw [HX2.out]; exact rfl⟩, (by repeat (first | exact Below.refl _ _ | refine Below.setCell ?_ (by first | (simp; done) | (simp; omega) | omega) _ | refine Below.alloc ?_ (by first | (simp; done) | (simp; omega) | omega) _ | refine Below.drew ?_ | assumption | refine Below.trans ?_ (Below.mono (by assumption) (by first | (simp; done) | (simp; omega) | omega))))⟩)
          · have hsh' : ¬ (n : Int) - (K2 : Int) < (L : Int) := by omega
            have HX2 : Hid (parseF l = .done ⟨N, m, p, cl, L, sl, sc⟩ (l.drop K2)) := Lib.hid (by rw [HX.out, if_neg (by rw [List.length_drop, HL.out]; exact hsh)])
            clear hsh
            obtain ⟨x0, hx0⟩ : ∃ x, l[0]? = some x := ⟨_, List.getElem?_eq_getElem (by rw [HL.out]; omega)⟩
            obtain ⟨b0, off0, hA0, -, -⟩ := HT.out.2.2 0 x0 hx0
            subst hA0
            clear hx0
            have hKL : K2 + L ≤ n := by omega
            have hg1 : (K2 : Int) ≤ (K2 : Int) + (L : Int) := by omega
            have hg2 : (K2 : Int) + (L : Int) ≤ (c : Int) := by omega
            have hg3 : (K2 : Int) + (L : Int) - (K2 : Int) = (L : Int) := by omega
            have BY1 : ∀ W, Below w.heap.size w W → Calls Tryz.prog 33 #[.slice (advA (some ⟨b0, off0, none⟩) c K2) L (c - K2)] W fun e w' => (∃ A' c', e = .returned (.slice A' L c') ∧ BsN W.heap.size w' A' c' ((l.drop K2).take L)) ∧ Below W.heap.size W w' := fun W hb => bytes_any (advA (some ⟨b0, off0, none⟩) c K2) L (c - K2) ((l.drop K2).take L) (by rw [List.length_take, List.length_drop, HL.out]; omega) (by omega) W (((HT.out.below hb).adv K2 (by rw [HL.out]; exact hK2n)).take L)
            have HEQ : Hid (((l.length - (l.drop K2).length + L : Nat) : Int) = (K2 : Int) + (L : Int)) := Lib.hid (by rw [List.length_drop, HL.out]; omega)
            unfold advA at BY1
            dsimp only [Option.map_some] at BY1
            by_cases hcK : c = K2
            · have hcK' : (c : Int) - (K2 : Int) = 0 := by omega
              rw [if_pos hcK] at BY1
              have BY := Lib.hid BY1
              clear BY1 hcK
              go_wp2_with (first | (go_at_call 40; (with_reducible refine (LQ.out _ hbel).mono ?_); rintro e w1 ⟨rfl, rfl⟩) | (go_at_call 33; (with_reducible refine (BY.out _ hbel).mono ?_); rintro e w11 ⟨⟨A11, c11, rfl, T11⟩, hb11⟩; have HT11 := Lib.hid T11; have HRB := Lib.hid (HR.out.call hb11); have a0q := HRB.out.a0; have a1q := HRB.out.a1; have a2q := HRB.out.a2; have a3q := HRB.out.a3; have r0q := HRB.out.r0; have r1q := HRB.out.r1; have r2q := HRB.out.r2; have r3q := HRB.out.r3; have faq := HRB.out.fa; have frq := HRB.out.fr; have hsq := HRB.out.hs; have belq := HRB.out.bel; clear T11))
              exact bodyPost_ret (v := .tuple #[.agg #[.string ⟨m.toArray⟩, .string ⟨p.toArray⟩, .slice A11 L c11, .bool cl], .int .i64 ((K2 : Int) + (L : Int)), .bool true, .int .i64 0]) (by simp [results, Tryz.results28, go_sem, *]) rfl (HQQ.out _ _ ⟨⟨_, rfl, by rw [HX2.out]; exact ⟨A11, c11, by rw [HEQ.out]; rfl, bs_far5 HT11.out HR.out.hs, fun a ha => by have := HT11.out.2 a ha; have := HR.out.hs; omega⟩⟩, (by repeat (first | exact Below.refl _ _ | refine Below.setCell ?_ (by first | (simp; done) | (simp; omega) | omega) _ | refine Below.alloc ?_ (by first | (simp; done) | (simp; omega) | omega) _ | refine Below.drew ?_ | assumption | refine Below.trans ?_ (Below.mono (by assumption) (by first | (simp; done) | (simp; omega) | omega))))⟩)
            · have hcK' : ¬ (c : Int) - (K2 : Int) = 0 := by omega
              rw [if_neg hcK, addr_off] at BY1
              have BY := Lib.hid BY1
              clear BY1
              go_wp2_with (first | (go_at_call 40; (with_reducible refine (LQ.out _ hbel).mono ?_); rintro e w1 ⟨rfl, rfl⟩) | (go_at_call 33; (with_reducible refine (BY.out _ hbel).mono ?_); rintro e w11 ⟨⟨A11, c11, rfl, T11⟩, hb11⟩; have HT11 := Lib.hid T11; have HRB := Lib.hid (HR.out.call hb11); have a0q := HRB.out.a0; have a1q := HRB.out.a1; have a2q := HRB.out.a2; have a3q := HRB.out.a3; have r0q := HRB.out.r0; have r1q := HRB.out.r1; have r2q := HRB.out.r2; have r3q := HRB.out.r3; have faq := HRB.out.fa; have frq := HRB.out.fr; have hsq := HRB.out.hs; have belq := HRB.out.bel; clear T11))
              exact bodyPost_ret (v := .tuple #[.agg #[.string ⟨m.toArray⟩, .string ⟨p.toArray⟩, .slice A11 L c11, .bool cl], .int .i64 ((K2 : Int) + (L : Int)), .bool true, .int .i64 0]) (by simp [results, Tryz.results28, go_sem, *]) rfl (HQQ.out _ _ ⟨⟨_, rfl, by rw [HX2.out]; exact ⟨A11, c11, by rw [HEQ.out]; rfl, bs_far5 HT11.out HR.out.hs, fun a ha => by have := HT11.out.2 a ha; have := HR.out.hs; omega⟩⟩, (by repeat (first | exact Below.refl _ _ | refine Below.setCell ?_ (by first | (simp; done) | (simp; omega) | omega) _ | refine Below.alloc ?_ (by first | (simp; done) | (simp; omega) | omega) _ | refine Below.drew ?_ | assumption | refine Below.trans ?_ (Below.mono (by assumption) (by first | (simp; done) | (simp; omega) | omega))))⟩)
        · have hsne : s ≠ [] := fun e => hq0 (by rw [← HSL.out, e]; rfl)
          rw [decide_eq_false hsne] at hemp
          have hemp' : (⟨s.toArray⟩ : ByteArray).toList.isEmpty = false := by
            rw [ByteArray.toList_mk]
            cases s with
            | nil => exact absurd rfl hsne
            | cons a b => rfl
          have FA := fun W => rfield_any s (by rw [HSL.out]; omega) W
          have PE : Hid (∀ E : Int, stepE ⟨N, m, p, cl, L, sl, sc⟩ s = E → E ≠ 0 → parseF l = .bad E) := Lib.hid fun E h1 h2 => pf_stepE hN HP.out HQ.out hN0 hq0 (by rw [HSQ.out]; exact h1) h2
          have PS : Hid (∀ st', stepE ⟨N, m, p, cl, L, sl, sc⟩ s = 0 → stepS ⟨N, m, p, cl, L, sl, sc⟩ s = st' → parseF l = scanF (23 - (N + 1)) st' (l.drop K2)) := Lib.hid fun st' h1 h2 => by
            have := pf_step (st' := st') hN HP.out HQ.out hN0 hq0 (by rw [HSQ.out]; exact h1) (by rw [HSQ.out]; exact h2)
            rwa [HK2.out] at this
          cases hf : fieldF s with
          | none =>
            rw [hf] at FA
            dsimp only [rfieldV] at FA
            have FD := Lib.hid FA
            have HX := Lib.hid (PE.out 10 (sE_none hf) (by decide))
            clear hf FA hsne hs hqk
            generalize (⟨s.toArray⟩ : ByteArray) = S at *
            go_wp2_with (first | (go_at_call 40; (with_reducible refine (LQ.out _ hbel).mono ?_); rintro e w1 ⟨rfl, rfl⟩) | (go_at_call 42; (with_reducible refine (FD.out _).mono ?_); rintro e w6 ⟨rfl, hb6⟩; have HR6 := Lib.hid (HR.out.call hb6); have HS6 := Lib.hid (HS.out.below hb6); have a0z := HR6.out.a0; have a1z := HR6.out.a1; have a2z := HR6.out.a2; have a3z := HR6.out.a3; have r0z := HR6.out.r0; have r1z := HR6.out.r1; have r2z := HR6.out.r2; have r3z := HR6.out.r3; have faz := HR6.out.fa; have frz := HR6.out.fr; have hsz := HR6.out.hs; have belz := HR6.out.bel))
            exact bodyPost_ret (v := .tuple #[.agg #[.string ⟨#[]⟩, .string ⟨#[]⟩, .slice none 0 0, .bool false], .int .i64 0, .bool false, .int .i64 10]) (by simp [results, Tryz.results28, go_sem, *]) rfl (HQQ.out _ _ ⟨⟨_, rfl, by rw [HX.out]; exact rfl⟩, (by repeat (first | exact Below.refl _ _ | refine Below.setCell ?_ (by first | (simp; done) | (simp; omega) | omega) _ | refine Below.alloc ?_ (by first | (simp; done) | (simp; omega) | omega) _ | refine Below.drew ?_ | assumption | refine Below.trans ?_ (Below.mono (by assumption) (by first | (simp; done) | (simp; omega) | omega))))⟩)
          | some x =>
            obtain ⟨nm, v⟩ := x
            rw [hf] at FA
            dsimp only [rfieldV] at FA
            have FD := Lib.hid FA
            have HF := Lib.hid hf
            have hvl : v.length ≤ 100000 := by
              have := field_vlen hf
              rw [HSL.out] at this; omega
            clear hf FA hsne hs hqk
            have hM1 := str_beq2 nm tLen
            have hM2 := str_beq2 nm tConn
            unfold tLen at hM1
            unfold tConn at hM2
            generalize (⟨s.toArray⟩ : ByteArray) = S at *
            by_cases h20 : 20 < N
            · have h20' : (20 : Int) < (N : Int) := by omega
              have HX := Lib.hid (PE.out 9 (sE_many HF.out h20) (by decide))
              generalize (⟨nm.toArray⟩ : ByteArray) = NM at *
              generalize (⟨v.toArray⟩ : ByteArray) = VV at *
              clear hM1 hM2 h20
              go_wp2_with (first | (go_at_call 40; (with_reducible refine (LQ.out _ hbel).mono ?_); rintro e w1 ⟨rfl, rfl⟩) | (go_at_call 42; (with_reducible refine (FD.out _).mono ?_); rintro e w6 ⟨rfl, hb6⟩; have HR6 := Lib.hid (HR.out.call hb6); have HS6 := Lib.hid (HS.out.below hb6); have a0z := HR6.out.a0; have a1z := HR6.out.a1; have a2z := HR6.out.a2; have a3z := HR6.out.a3; have r0z := HR6.out.r0; have r1z := HR6.out.r1; have r2z := HR6.out.r2; have r3z := HR6.out.r3; have faz := HR6.out.fa; have frz := HR6.out.fr; have hsz := HR6.out.hs; have belz := HR6.out.bel))
              exact bodyPost_ret (v := .tuple #[.agg #[.string ⟨#[]⟩, .string ⟨#[]⟩, .slice none 0 0, .bool false], .int .i64 0, .bool false, .int .i64 9]) (by simp [results, Tryz.results28, go_sem, *]) rfl (HQQ.out _ _ ⟨⟨_, rfl, by rw [HX.out]; exact rfl⟩, (by repeat (first | exact Below.refl _ _ | refine Below.setCell ?_ (by first | (simp; done) | (simp; omega) | omega) _ | refine Below.alloc ?_ (by first | (simp; done) | (simp; omega) | omega) _ | refine Below.drew ?_ | assumption | refine Below.trans ?_ (Below.mono (by assumption) (by first | (simp; done) | (simp; omega) | omega))))⟩)
            · have h20' : ¬ (20 : Int) < (N : Int) := by omega
              obtain ⟨xs, XO', hxn, hx1, hx2⟩ := HS.out
              obtain ⟨SA, sc0, hsn⟩ := own_form XO'
              obtain ⟨XN, hXN⟩ : ∃ XN, xs.length = XN := ⟨_, rfl⟩
              rw [hXN] at XO' hxn hsn
              subst hsn
              have XO := Lib.hid XO'
              have HXN := Lib.hid hXN
              have HX1 := Lib.hid hx1
              have HX2 := Lib.hid hx2
              dsimp only at hxn
              have HA1 : Hid (∀ W, Below wr.heap.size wr W → Calls Tryz.prog 43 #[.slice SA XN sc0, .string ⟨nm.toArray⟩] W fun e w' => e = .returned (.bool (decide (nm ∈ xs))) ∧ W = w') := Lib.hid fun W hb => has_any SA XN sc0 xs HXN.out (by omega) nm W (strs_own HXN.out (own_below XO.out hb))
              clear XO' hXN hx1 hx2
              by_cases g1 : nm = tLen
              · rw [show decide (nm = [99, 111, 110, 116, 101, 110, 116, 45, 108, 101, 110, 103, 116, 104]) = true from decide_eq_true g1] at hM1
                rw [show decide (nm = [99, 111, 110, 110, 101, 99, 116, 105, 111, 110]) = false from decide_eq_false (by rw [g1]; decide)] at hM2
                have HG := Lib.hid g1
                clear g1
                cases hsl0 : sl with
                | true =>
                  have HX := Lib.hid (PE.out 12 (sE_twice1 (HG.out ▸ HF.out) h20 (by exact hsl0)) (by decide))
                  have HA : Hid (∀ W, Below wr.heap.size wr W → Calls Tryz.prog 43 #[.slice SA XN sc0, .string ⟨nm.toArray⟩] W fun e w' => e = .returned (.bool true) ∧ W = w') := Lib.hid (by have := HA1.out; rwa [decide_eq_true (by rw [HG.out]; exact HX1.out.2 hsl0)] at this)
                  clear hsl0 h20
                  generalize (⟨nm.toArray⟩ : ByteArray) = NM at *
                  generalize (⟨v.toArray⟩ : ByteArray) = VV at *
                  go_wp2_with (first | (go_at_call 40; (with_reducible refine (LQ.out _ hbel).mono ?_); rintro e w1 ⟨rfl, rfl⟩) | (go_at_call 42; (with_reducible refine (FD.out _).mono ?_); rintro e w6 ⟨rfl, hb6⟩; have HR6 := Lib.hid (HR.out.call hb6); have HS6 := Lib.hid (HS.out.below hb6); have a0z := HR6.out.a0; have a1z := HR6.out.a1; have a2z := HR6.out.a2; have a3z := HR6.out.a3; have r0z := HR6.out.r0; have r1z := HR6.out.r1; have r2z := HR6.out.r2; have r3z := HR6.out.r3; have faz := HR6.out.fa; have frz := HR6.out.fr; have hsz := HR6.out.hs; have belz := HR6.out.bel) | (go_at_call 43; (with_reducible refine (HA.out _ hb6).mono ?_); rintro e w7 ⟨rfl, rfl⟩))
                  exact bodyPost_ret (v := .tuple #[.agg #[.string ⟨#[]⟩, .string ⟨#[]⟩, .slice none 0 0, .bool false], .int .i64 0, .bool false, .int .i64 12]) (by simp [results, Tryz.results28, go_sem, *]) rfl (HQQ.out _ _ ⟨⟨_, rfl, by rw [HX.out]; exact rfl⟩, (by repeat (first | exact Below.refl _ _ | refine Below.setCell ?_ (by first | (simp; done) | (simp; omega) | omega) _ | refine Below.alloc ?_ (by first | (simp; done) | (simp; omega) | omega) _ | refine Below.drew ?_ | assumption | refine Below.trans ?_ (Below.mono (by assumption) (by first | (simp; done) | (simp; omega) | omega))))⟩)
                | false =>
                  subst hsl0
                  have hE := sE_len (st := ⟨N, m, p, cl, L, false, sc⟩) (HG.out ▸ HF.out : fieldF s = some (tLen, v)) h20 (by simp)
                  have hS := sS_len (st := ⟨N, m, p, cl, L, false, sc⟩) (HG.out ▸ HF.out : fieldF s = some (tLen, v))
                  have HE := Lib.hid hE
                  have HSS := Lib.hid hS
                  have HA : Hid (∀ W, Below wr.heap.size wr W → Calls Tryz.prog 43 #[.slice SA XN sc0, .string ⟨nm.toArray⟩] W fun e w' => e = .returned (.bool false) ∧ W = w') := Lib.hid (by have := HA1.out; rwa [decide_eq_false (by rw [HG.out]; exact fun h => by have := HX1.out.1 h; cases this)] at this)
                  have FM1 := fun W => form_all v (by omega) W
                  have HNM : Hid ((⟨nm.toArray⟩ : ByteArray) = ⟨nm.toArray⟩) := Lib.hid rfl
                  clear hE hS h20
                  rcases form_cases v with ⟨f1, f2⟩ | ⟨f1, f2, b, r, hv, hb45⟩ | ⟨f1, f2, b, r, hv, hb45⟩
                  · rw [f1] at FM1
                    have FM := Lib.hid FM1
                    have HX := Lib.hid (PE.out 10 (by rw [HE.out]; unfold lenE; rw [if_neg (by rw [f2]; decide)]) (by decide))
                    clear f1 f2 FM1
                    generalize hNMg : (⟨nm.toArray⟩ : ByteArray) = NM at *
                    clear hNMg
                    generalize (⟨v.toArray⟩ : ByteArray) = VV at *
                    go_wp2_with (first | (go_at_call 40; (with_reducible refine (LQ.out _ hbel).mono ?_); rintro e w1 ⟨rfl, rfl⟩) | (go_at_call 42; (with_reducible refine (FD.out _).mono ?_); rintro e w6 ⟨rfl, hb6⟩; have HR6 := Lib.hid (HR.out.call hb6); have HS6 := Lib.hid (HS.out.below hb6); have a0z := HR6.out.a0; have a1z := HR6.out.a1; have a2z := HR6.out.a2; have a3z := HR6.out.a3; have r0z := HR6.out.r0; have r1z := HR6.out.r1; have r2z := HR6.out.r2; have r3z := HR6.out.r3; have faz := HR6.out.fa; have frz := HR6.out.fr; have hsz := HR6.out.hs; have belz := HR6.out.bel) | (go_at_call 43; (with_reducible refine (HA.out _ hb6).mono ?_); rintro e w7 ⟨rfl, rfl⟩) | (at_builtin; refine wpList_append_own _ rfl (.tmp 72) (.tmp 74) 43 rfl (w.heap.size + 2) 9 i0 _ 1 16 Tryz.underlying43 hi0 hz0 hz1 hz2 rfl (by decide) (.slice SA XN sc0) XN (strsV xs) rfl ((own_below XO.out hb6).alloc _) _ 1 1 [.string NM] rfl rfl (by intro j u' hj; match j, hj with | 0, hj => (simp at hj; subst hj; simp [Addr.add, go_sem])) (by intro u' hu'; simp at hu'; subst hu'; rfl) (by unfold maxLen; omega) (by omega) (by have := hb6.size; have := HR.out.hs; simp; omega) ?_; intro v8 w8 hown8 hgrow8 hiff8; clear hiff8; have HO8 := Lib.hid hown8; have B8 : Below (w.heap.size + 2) w6 w8 := Below.grown ((Below.refl _ _).alloc (by have := hb6.size; have := HR.out.hs; omega) _) hgrow8 (by have := hb6.size; have := HR.out.hs; simp; omega) (fun g hg => ((own_below XO.out hb6).lt g hg).1); have HR8 := Lib.hid (HR6.out.below B8); have a0u := HR8.out.a0; have a1u := HR8.out.a1; have a2u := HR8.out.a2; have a3u := HR8.out.a3; have r0u := HR8.out.r0; have r1u := HR8.out.r1; have r2u := HR8.out.r2; have r3u := HR8.out.r3; have fau := HR8.out.fa; have fru := HR8.out.fr; have hsu := HR8.out.hs; have belu := HR8.out.bel; clear hown8 hgrow8) | (go_at_call 45; (with_reducible refine (FM.out _).mono ?_); rintro e w9 ⟨rfl, hb9⟩; have HR9 := Lib.hid (HR8.out.call hb9); have a0t := HR9.out.a0; have a1t := HR9.out.a1; have a2t := HR9.out.a2; have a3t := HR9.out.a3; have r0t := HR9.out.r0; have r1t := HR9.out.r1; have r2t := HR9.out.r2; have r3t := HR9.out.r3; have fat := HR9.out.fa; have frt := HR9.out.fr; have hst := HR9.out.hs; have belt := HR9.out.bel))
                    exact bodyPost_ret (v := .tuple #[.agg #[.string ⟨#[]⟩, .string ⟨#[]⟩, .slice none 0 0, .bool false], .int .i64 0, .bool false, .int .i64 10]) (by simp [results, Tryz.results28, go_sem, *]) rfl (HQQ.out _ _ ⟨⟨_, rfl, by rw [HX.out]; exact rfl⟩, (by repeat (first | exact Below.refl _ _ | refine Below.setCell ?_ (by first | (simp; done) | (simp; omega) | omega) _ | refine Below.alloc ?_ (by first | (simp; done) | (simp; omega) | omega) _ | refine Below.drew ?_ | assumption | refine Below.trans ?_ (Below.mono (by assumption) (by first | (simp; done) | (simp; omega) | omega))))⟩)
                  · rw [f1] at FM1
                    have FM := Lib.hid FM1
                    have HX := Lib.hid (PE.out 10 (by rw [HE.out]; unfold lenE; rw [if_neg (by rw [f2]; decide)]) (by decide))
                    have hsz : 0 < (⟨v.toArray⟩ : ByteArray).size := by rw [ba_sz, hv]; simp
                    have hat : ((⟨v.toArray⟩ : ByteArray)[0]'hsz).toNat = 45 := by rw [str_at v 0 hsz b (by rw [hv]; rfl)]; exact hb45
                    clear f1 f2 FM1 hv hb45
                    generalize hNMg : (⟨nm.toArray⟩ : ByteArray) = NM at *
                    clear hNMg
                    generalize (⟨v.toArray⟩ : ByteArray) = VV at *
                    go_wp2_with (first | (go_at_call 40; (with_reducible refine (LQ.out _ hbel).mono ?_); rintro e w1 ⟨rfl, rfl⟩) | (go_at_call 42; (with_reducible refine (FD.out _).mono ?_); rintro e w6 ⟨rfl, hb6⟩; have HR6 := Lib.hid (HR.out.call hb6); have HS6 := Lib.hid (HS.out.below hb6); have a0z := HR6.out.a0; have a1z := HR6.out.a1; have a2z := HR6.out.a2; have a3z := HR6.out.a3; have r0z := HR6.out.r0; have r1z := HR6.out.r1; have r2z := HR6.out.r2; have r3z := HR6.out.r3; have faz := HR6.out.fa; have frz := HR6.out.fr; have hsz := HR6.out.hs; have belz := HR6.out.bel) | (go_at_call 43; (with_reducible refine (HA.out _ hb6).mono ?_); rintro e w7 ⟨rfl, rfl⟩) | (at_builtin; refine wpList_append_own _ rfl (.tmp 72) (.tmp 74) 43 rfl (w.heap.size + 2) 9 i0 _ 1 16 Tryz.underlying43 hi0 hz0 hz1 hz2 rfl (by decide) (.slice SA XN sc0) XN (strsV xs) rfl ((own_below XO.out hb6).alloc _) _ 1 1 [.string NM] rfl rfl (by intro j u' hj; match j, hj with | 0, hj => (simp at hj; subst hj; simp [Addr.add, go_sem])) (by intro u' hu'; simp at hu'; subst hu'; rfl) (by unfold maxLen; omega) (by omega) (by have := hb6.size; have := HR.out.hs; simp; omega) ?_; intro v8 w8 hown8 hgrow8 hiff8; clear hiff8; have HO8 := Lib.hid hown8; have B8 : Below (w.heap.size + 2) w6 w8 := Below.grown ((Below.refl _ _).alloc (by have := hb6.size; have := HR.out.hs; omega) _) hgrow8 (by have := hb6.size; have := HR.out.hs; simp; omega) (fun g hg => ((own_below XO.out hb6).lt g hg).1); have HR8 := Lib.hid (HR6.out.below B8); have a0u := HR8.out.a0; have a1u := HR8.out.a1; have a2u := HR8.out.a2; have a3u := HR8.out.a3; have r0u := HR8.out.r0; have r1u := HR8.out.r1; have r2u := HR8.out.r2; have r3u := HR8.out.r3; have fau := HR8.out.fa; have fru := HR8.out.fr; have hsu := HR8.out.hs; have belu := HR8.out.bel; clear hown8 hgrow8) | (go_at_call 45; (with_reducible refine (FM.out _).mono ?_); rintro e w9 ⟨rfl, hb9⟩; have HR9 := Lib.hid (HR8.out.call hb9); have a0t := HR9.out.a0; have a1t := HR9.out.a1; have a2t := HR9.out.a2; have a3t := HR9.out.a3; have r0t := HR9.out.r0; have r1t := HR9.out.r1; have r2t := HR9.out.r2; have r3t := HR9.out.r3; have fat := HR9.out.fa; have frt := HR9.out.fr; have hst := HR9.out.hs; have belt := HR9.out.bel))
                    exact bodyPost_ret (v := .tuple #[.agg #[.string ⟨#[]⟩, .string ⟨#[]⟩, .slice none 0 0, .bool false], .int .i64 0, .bool false, .int .i64 10]) (by simp [results, Tryz.results28, go_sem, *]) rfl (HQQ.out _ _ ⟨⟨_, rfl, by rw [HX.out]; exact rfl⟩, (by repeat (first | exact Below.refl _ _ | refine Below.setCell ?_ (by first | (simp; done) | (simp; omega) | omega) _ | refine Below.alloc ?_ (by first | (simp; done) | (simp; omega) | omega) _ | refine Below.drew ?_ | assumption | refine Below.trans ?_ (Below.mono (by assumption) (by first | (simp; done) | (simp; omega) | omega))))⟩)
                  · rw [f1] at FM1
                    have FM := Lib.hid FM1
                    have hsz : 0 < (⟨v.toArray⟩ : ByteArray).size := by rw [ba_sz, hv]; simp
                    have hat : ((⟨v.toArray⟩ : ByteArray)[0]'hsz).toNat = b.toNat := str_at v 0 hsz b (by rw [hv]; rfl)
                    have hb45' : ((b.toNat : Int) == 45) = false := by rw [beq_eq_false_iff_ne]; omega
                    have AI1 := fun W => atoi_plain v f2 (by omega) W
                    generalize b.toNat = bb at *
                    rcases lenE_cases f2 with ⟨q1, q2⟩ | ⟨q1, q2, q3, q4⟩ | ⟨q1, q2, q3, q4⟩
                    · rw [q1] at AI1
                      have AI := Lib.hid AI1
                      have HX := Lib.hid (PE.out 8 (by rw [HE.out]; exact q2) (by decide))
                      clear f1 f2 FM1 hv hb45 q1 q2 AI1
                      generalize hNMg : (⟨nm.toArray⟩ : ByteArray) = NM at *
                      clear hNMg
                      generalize (⟨v.toArray⟩ : ByteArray) = VV at *
                      generalize valN 0 v = vn at *
                      go_wp2_with (first | (go_at_call 40; (with_reducible refine (LQ.out _ hbel).mono ?_); rintro e w1 ⟨rfl, rfl⟩) | (go_at_call 42; (with_reducible refine (FD.out _).mono ?_); rintro e w6 ⟨rfl, hb6⟩; have HR6 := Lib.hid (HR.out.call hb6); have HS6 := Lib.hid (HS.out.below hb6); have a0z := HR6.out.a0; have a1z := HR6.out.a1; have a2z := HR6.out.a2; have a3z := HR6.out.a3; have r0z := HR6.out.r0; have r1z := HR6.out.r1; have r2z := HR6.out.r2; have r3z := HR6.out.r3; have faz := HR6.out.fa; have frz := HR6.out.fr; have hsz := HR6.out.hs; have belz := HR6.out.bel) | (go_at_call 43; (with_reducible refine (HA.out _ hb6).mono ?_); rintro e w7 ⟨rfl, rfl⟩) | (at_builtin; refine wpList_append_own _ rfl (.tmp 72) (.tmp 74) 43 rfl (w.heap.size + 2) 9 i0 _ 1 16 Tryz.underlying43 hi0 hz0 hz1 hz2 rfl (by decide) (.slice SA XN sc0) XN (strsV xs) rfl ((own_below XO.out hb6).alloc _) _ 1 1 [.string NM] rfl rfl (by intro j u' hj; match j, hj with | 0, hj => (simp at hj; subst hj; simp [Addr.add, go_sem])) (by intro u' hu'; simp at hu'; subst hu'; rfl) (by unfold maxLen; omega) (by omega) (by have := hb6.size; have := HR.out.hs; simp; omega) ?_; intro v8 w8 hown8 hgrow8 hiff8; clear hiff8; have HO8 := Lib.hid hown8; have B8 : Below (w.heap.size + 2) w6 w8 := Below.grown ((Below.refl _ _).alloc (by have := hb6.size; have := HR.out.hs; omega) _) hgrow8 (by have := hb6.size; have := HR.out.hs; simp; omega) (fun g hg => ((own_below XO.out hb6).lt g hg).1); have HR8 := Lib.hid (HR6.out.below B8); have a0u := HR8.out.a0; have a1u := HR8.out.a1; have a2u := HR8.out.a2; have a3u := HR8.out.a3; have r0u := HR8.out.r0; have r1u := HR8.out.r1; have r2u := HR8.out.r2; have r3u := HR8.out.r3; have fau := HR8.out.fa; have fru := HR8.out.fr; have hsu := HR8.out.hs; have belu := HR8.out.bel; clear hown8 hgrow8) | (go_at_call 45; (with_reducible refine (FM.out _).mono ?_); rintro e w9 ⟨rfl, hb9⟩; have HR9 := Lib.hid (HR8.out.call hb9); have a0t := HR9.out.a0; have a1t := HR9.out.a1; have a2t := HR9.out.a2; have a3t := HR9.out.a3; have r0t := HR9.out.r0; have r1t := HR9.out.r1; have r2t := HR9.out.r2; have r3t := HR9.out.r3; have fat := HR9.out.fa; have frt := HR9.out.fr; have hst := HR9.out.hs; have belt := HR9.out.bel) | (go_at_call 46; (with_reducible refine (AI.out _).mono ?_); rintro e w10 ⟨rfl, hb10⟩; have HRA := Lib.hid (HR9.out.call hb10); have a0s := HRA.out.a0; have a1s := HRA.out.a1; have a2s := HRA.out.a2; have a3s := HRA.out.a3; have r0s := HRA.out.r0; have r1s := HRA.out.r1; have r2s := HRA.out.r2; have r3s := HRA.out.r3; have fas := HRA.out.fa; have frs := HRA.out.fr; have hss := HRA.out.hs; have bels := HRA.out.bel))
                      exact bodyPost_ret (v := .tuple #[.agg #[.string ⟨#[]⟩, .string ⟨#[]⟩, .slice none 0 0, .bool false], .int .i64 0, .bool false, .int .i64 8]) (by simp [results, Tryz.results28, go_sem, *]) rfl (HQQ.out _ _ ⟨⟨_, rfl, by rw [HX.out]; exact rfl⟩, (by repeat (first | exact Below.refl _ _ | refine Below.setCell ?_ (by first | (simp; done) | (simp; omega) | omega) _ | refine Below.alloc ?_ (by first | (simp; done) | (simp; omega) | omega) _ | refine Below.drew ?_ | assumption | refine Below.trans ?_ (Below.mono (by assumption) (by first | (simp; done) | (simp; omega) | omega))))⟩)
                    · rw [q1, q2] at AI1
                      have AI := Lib.hid AI1
                      have HX := Lib.hid (PE.out 8 (by rw [HE.out]; exact q4) (by decide))
                      clear f1 f2 FM1 hv hb45 q1 q2 q4 AI1
                      generalize hNMg : (⟨nm.toArray⟩ : ByteArray) = NM at *
                      clear hNMg
                      generalize (⟨v.toArray⟩ : ByteArray) = VV at *
                      generalize dv v = vn at *
                      have q3' : (32768 : Int) < (vn : Int) := by omega
                      go_wp2_with (first | (go_at_call 40; (with_reducible refine (LQ.out _ hbel).mono ?_); rintro e w1 ⟨rfl, rfl⟩) | (go_at_call 42; (with_reducible refine (FD.out _).mono ?_); rintro e w6 ⟨rfl, hb6⟩; have HR6 := Lib.hid (HR.out.call hb6); have HS6 := Lib.hid (HS.out.below hb6); have a0z := HR6.out.a0; have a1z := HR6.out.a1; have a2z := HR6.out.a2; have a3z := HR6.out.a3; have r0z := HR6.out.r0; have r1z := HR6.out.r1; have r2z := HR6.out.r2; have r3z := HR6.out.r3; have faz := HR6.out.fa; have frz := HR6.out.fr; have hsz := HR6.out.hs; have belz := HR6.out.bel) | (go_at_call 43; (with_reducible refine (HA.out _ hb6).mono ?_); rintro e w7 ⟨rfl, rfl⟩) | (at_builtin; refine wpList_append_own _ rfl (.tmp 72) (.tmp 74) 43 rfl (w.heap.size + 2) 9 i0 _ 1 16 Tryz.underlying43 hi0 hz0 hz1 hz2 rfl (by decide) (.slice SA XN sc0) XN (strsV xs) rfl ((own_below XO.out hb6).alloc _) _ 1 1 [.string NM] rfl rfl (by intro j u' hj; match j, hj with | 0, hj => (simp at hj; subst hj; simp [Addr.add, go_sem])) (by intro u' hu'; simp at hu'; subst hu'; rfl) (by unfold maxLen; omega) (by omega) (by have := hb6.size; have := HR.out.hs; simp; omega) ?_; intro v8 w8 hown8 hgrow8 hiff8; clear hiff8; have HO8 := Lib.hid hown8; have B8 : Below (w.heap.size + 2) w6 w8 := Below.grown ((Below.refl _ _).alloc (by have := hb6.size; have := HR.out.hs; omega) _) hgrow8 (by have := hb6.size; have := HR.out.hs; simp; omega) (fun g hg => ((own_below XO.out hb6).lt g hg).1); have HR8 := Lib.hid (HR6.out.below B8); have a0u := HR8.out.a0; have a1u := HR8.out.a1; have a2u := HR8.out.a2; have a3u := HR8.out.a3; have r0u := HR8.out.r0; have r1u := HR8.out.r1; have r2u := HR8.out.r2; have r3u := HR8.out.r3; have fau := HR8.out.fa; have fru := HR8.out.fr; have hsu := HR8.out.hs; have belu := HR8.out.bel; clear hown8 hgrow8) | (go_at_call 45; (with_reducible refine (FM.out _).mono ?_); rintro e w9 ⟨rfl, hb9⟩; have HR9 := Lib.hid (HR8.out.call hb9); have a0t := HR9.out.a0; have a1t := HR9.out.a1; have a2t := HR9.out.a2; have a3t := HR9.out.a3; have r0t := HR9.out.r0; have r1t := HR9.out.r1; have r2t := HR9.out.r2; have r3t := HR9.out.r3; have fat := HR9.out.fa; have frt := HR9.out.fr; have hst := HR9.out.hs; have belt := HR9.out.bel) | (go_at_call 46; (with_reducible refine (AI.out _).mono ?_); rintro e w10 ⟨rfl, hb10⟩; have HRA := Lib.hid (HR9.out.call hb10); have a0s := HRA.out.a0; have a1s := HRA.out.a1; have a2s := HRA.out.a2; have a3s := HRA.out.a3; have r0s := HRA.out.r0; have r1s := HRA.out.r1; have r2s := HRA.out.r2; have r3s := HRA.out.r3; have fas := HRA.out.fa; have frs := HRA.out.fr; have hss := HRA.out.hs; have bels := HRA.out.bel))
                      exact bodyPost_ret (v := .tuple #[.agg #[.string ⟨#[]⟩, .string ⟨#[]⟩, .slice none 0 0, .bool false], .int .i64 0, .bool false, .int .i64 8]) (by simp [results, Tryz.results28, go_sem, *]) rfl (HQQ.out _ _ ⟨⟨_, rfl, by rw [HX.out]; exact rfl⟩, (by repeat (first | exact Below.refl _ _ | refine Below.setCell ?_ (by first | (simp; done) | (simp; omega) | omega) _ | refine Below.alloc ?_ (by first | (simp; done) | (simp; omega) | omega) _ | refine Below.drew ?_ | assumption | refine Below.trans ?_ (Below.mono (by assumption) (by first | (simp; done) | (simp; omega) | omega))))⟩)
                    · rw [q1, q2] at AI1
                      have AI := Lib.hid AI1
                      have HX := Lib.hid (PS.out _ (by rw [HE.out]; exact q4) HSS.out)
                      have NX : Hid (∀ v' W', W'.ownsRow (w.heap.size + 2) 9 1 v' (XN + 1) (strsV xs ++ [.string ⟨nm.toArray⟩]) → SeenR w W' v' ⟨N + 1, m, p, cl, dv v, true, sc⟩) := Lib.hid fun v' W' h => ⟨xs ++ [nm], SeenR.next (by rw [HXN.out]; exact h), by simp [HXN.out]; omega, by simp [HG.out], by rw [HG.out]; simp [HX2.out, tConn_ne]⟩
                      clear f1 f2 FM1 hv hb45 q1 q2 q4 AI1
                      generalize hNMg : (⟨nm.toArray⟩ : ByteArray) = NM at *
                      clear hNMg
                      generalize (⟨v.toArray⟩ : ByteArray) = VV at *
                      generalize dv v = vn at *
                      have q3' : ¬ (32768 : Int) < (vn : Int) := by omega
                      go_wp2_with (first | (go_at_call 40; (with_reducible refine (LQ.out _ hbel).mono ?_); rintro e w1 ⟨rfl, rfl⟩) | (go_at_call 42; (with_reducible refine (FD.out _).mono ?_); rintro e w6 ⟨rfl, hb6⟩; have HR6 := Lib.hid (HR.out.call hb6); have HS6 := Lib.hid (HS.out.below hb6); have a0z := HR6.out.a0; have a1z := HR6.out.a1; have a2z := HR6.out.a2; have a3z := HR6.out.a3; have r0z := HR6.out.r0; have r1z := HR6.out.r1; have r2z := HR6.out.r2; have r3z := HR6.out.r3; have faz := HR6.out.fa; have frz := HR6.out.fr; have hsz := HR6.out.hs; have belz := HR6.out.bel) | (go_at_call 43; (with_reducible refine (HA.out _ hb6).mono ?_); rintro e w7 ⟨rfl, rfl⟩) | (at_builtin; refine wpList_append_own _ rfl (.tmp 72) (.tmp 74) 43 rfl (w.heap.size + 2) 9 i0 _ 1 16 Tryz.underlying43 hi0 hz0 hz1 hz2 rfl (by decide) (.slice SA XN sc0) XN (strsV xs) rfl ((own_below XO.out hb6).alloc _) _ 1 1 [.string NM] rfl rfl (by intro j u' hj; match j, hj with | 0, hj => (simp at hj; subst hj; simp [Addr.add, go_sem])) (by intro u' hu'; simp at hu'; subst hu'; rfl) (by unfold maxLen; omega) (by omega) (by have := hb6.size; have := HR.out.hs; simp; omega) ?_; intro v8 w8 hown8 hgrow8 hiff8; clear hiff8; have HO8 := Lib.hid hown8; have B8 : Below (w.heap.size + 2) w6 w8 := Below.grown ((Below.refl _ _).alloc (by have := hb6.size; have := HR.out.hs; omega) _) hgrow8 (by have := hb6.size; have := HR.out.hs; simp; omega) (fun g hg => ((own_below XO.out hb6).lt g hg).1); have HR8 := Lib.hid (HR6.out.below B8); have a0u := HR8.out.a0; have a1u := HR8.out.a1; have a2u := HR8.out.a2; have a3u := HR8.out.a3; have r0u := HR8.out.r0; have r1u := HR8.out.r1; have r2u := HR8.out.r2; have r3u := HR8.out.r3; have fau := HR8.out.fa; have fru := HR8.out.fr; have hsu := HR8.out.hs; have belu := HR8.out.bel; clear hown8 hgrow8) | (go_at_call 45; (with_reducible refine (FM.out _).mono ?_); rintro e w9 ⟨rfl, hb9⟩; have HR9 := Lib.hid (HR8.out.call hb9); have a0t := HR9.out.a0; have a1t := HR9.out.a1; have a2t := HR9.out.a2; have a3t := HR9.out.a3; have r0t := HR9.out.r0; have r1t := HR9.out.r1; have r2t := HR9.out.r2; have r3t := HR9.out.r3; have fat := HR9.out.fa; have frt := HR9.out.fr; have hst := HR9.out.hs; have belt := HR9.out.bel) | (go_at_call 46; (with_reducible refine (AI.out _).mono ?_); rintro e w10 ⟨rfl, hb10⟩; have HRA := Lib.hid (HR9.out.call hb10); have a0s := HRA.out.a0; have a1s := HRA.out.a1; have a2s := HRA.out.a2; have a3s := HRA.out.a3; have r0s := HRA.out.r0; have r1s := HRA.out.r1; have r2s := HRA.out.r2; have r3s := HRA.out.r3; have fas := HRA.out.fa; have frs := HRA.out.fr; have hss := HRA.out.hs; have bels := HRA.out.bel))
                      go_roundw
                      case rel => exact ⟨K2, ⟨N + 1, m, p, cl, vn, true, sc⟩, _, rfl, by go_num, rfl, rfl, hK2n, by dsimp only; omega, by dsimp only; omega, HX, Lib.hid (fun e => by cases e), Lib.hid (NX.out _ _ (own_below (own_below HO8.out hb9) hb10)), Lib.hid (HRA.out.same rfl rfl rfl)⟩
                      case measure => first | (simp [intOf]; done) | (simp [intOf]; omega)
              · rw [show decide (nm = [99, 111, 110, 116, 101, 110, 116, 45, 108, 101, 110, 103, 116, 104]) = false from decide_eq_false g1] at hM1
                by_cases g2 : nm = tConn
                · rw [show decide (nm = [99, 111, 110, 110, 101, 99, 116, 105, 111, 110]) = true from decide_eq_true g2] at hM2
                  have HG := Lib.hid g2
                  clear g1 g2
                  cases hsc0 : sc with
                  | true =>
                    have HX := Lib.hid (PE.out 12 (sE_twice2 (HG.out ▸ HF.out) h20 (by exact hsc0)) (by decide))
                    have HA : Hid (∀ W, Below wr.heap.size wr W → Calls Tryz.prog 43 #[.slice SA XN sc0, .string ⟨nm.toArray⟩] W fun e w' => e = .returned (.bool true) ∧ W = w') := Lib.hid (by have := HA1.out; rwa [decide_eq_true (by rw [HG.out]; exact HX2.out.2 hsc0)] at this)
                    clear hsc0 h20
                    generalize (⟨nm.toArray⟩ : ByteArray) = NM at *
                    generalize (⟨v.toArray⟩ : ByteArray) = VV at *
                    go_wp2_with (first | (go_at_call 40; (with_reducible refine (LQ.out _ hbel).mono ?_); rintro e w1 ⟨rfl, rfl⟩) | (go_at_call 42; (with_reducible refine (FD.out _).mono ?_); rintro e w6 ⟨rfl, hb6⟩; have HR6 := Lib.hid (HR.out.call hb6); have HS6 := Lib.hid (HS.out.below hb6); have a0z := HR6.out.a0; have a1z := HR6.out.a1; have a2z := HR6.out.a2; have a3z := HR6.out.a3; have r0z := HR6.out.r0; have r1z := HR6.out.r1; have r2z := HR6.out.r2; have r3z := HR6.out.r3; have faz := HR6.out.fa; have frz := HR6.out.fr; have hsz := HR6.out.hs; have belz := HR6.out.bel) | (go_at_call 43; (with_reducible refine (HA.out _ hb6).mono ?_); rintro e w7 ⟨rfl, rfl⟩))
                    exact bodyPost_ret (v := .tuple #[.agg #[.string ⟨#[]⟩, .string ⟨#[]⟩, .slice none 0 0, .bool false], .int .i64 0, .bool false, .int .i64 12]) (by simp [results, Tryz.results28, go_sem, *]) rfl (HQQ.out _ _ ⟨⟨_, rfl, by rw [HX.out]; exact rfl⟩, (by repeat (first | exact Below.refl _ _ | refine Below.setCell ?_ (by first | (simp; done) | (simp; omega) | omega) _ | refine Below.alloc ?_ (by first | (simp; done) | (simp; omega) | omega) _ | refine Below.drew ?_ | assumption | refine Below.trans ?_ (Below.mono (by assumption) (by first | (simp; done) | (simp; omega) | omega))))⟩)
                  | false =>
                    subst hsc0
                    have hE := sE_conn (st := ⟨N, m, p, cl, L, sl, false⟩) (HG.out ▸ HF.out : fieldF s = some (tConn, v)) h20 (by simp)
                    have hS := sS_conn (st := ⟨N, m, p, cl, L, sl, false⟩) (HG.out ▸ HF.out : fieldF s = some (tConn, v))
                    have HE := Lib.hid hE
                    have HSS := Lib.hid hS
                    have HA : Hid (∀ W, Below wr.heap.size wr W → Calls Tryz.prog 43 #[.slice SA XN sc0, .string ⟨nm.toArray⟩] W fun e w' => e = .returned (.bool false) ∧ W = w') := Lib.hid (by have := HA1.out; rwa [decide_eq_false (by rw [HG.out]; exact fun h => by have := HX2.out.1 h; cases this)] at this)
                    have SM := Lib.hid (fun W => small_any v hvl W)
                    have hM3 := str_beq2 (small v) tClose
                    have hM4 := str_beq2 (small v) tKeep
                    unfold tClose at hM3
                    unfold tKeep at hM4
                    have NX : Hid (∀ v' W' b, W'.ownsRow (w.heap.size + 2) 9 1 v' (XN + 1) (strsV xs ++ [.string ⟨nm.toArray⟩]) → SeenR w W' v' ⟨N + 1, m, p, b, L, sl, true⟩) := Lib.hid fun v' W' b h => ⟨xs ++ [nm], SeenR.next (by rw [HXN.out]; exact h), by simp [HXN.out]; omega, by rw [HG.out]; simp [HX1.out, tLen_ne], by simp [HG.out]⟩
                    clear hE hS h20
                    generalize hNMg : (⟨nm.toArray⟩ : ByteArray) = NM at *
                    clear hNMg
                    generalize (⟨v.toArray⟩ : ByteArray) = VV at *
                    by_cases k1 : small v = tClose
                    · rw [show decide (small v = [99, 108, 111, 115, 101]) = true from decide_eq_true k1] at hM3
                      have HX := Lib.hid (PS.out _ (by rw [HE.out, if_pos (.inl k1)]) (HSS.out.trans (by rw [decide_eq_true k1])))
                      clear k1 hM4
                      generalize (⟨(small v).toArray⟩ : ByteArray) = SV at *
                      go_wp2_with (first | (go_at_call 40; (with_reducible refine (LQ.out _ hbel).mono ?_); rintro e w1 ⟨rfl, rfl⟩) | (go_at_call 42; (with_reducible refine (FD.out _).mono ?_); rintro e w6 ⟨rfl, hb6⟩; have HR6 := Lib.hid (HR.out.call hb6); have HS6 := Lib.hid (HS.out.below hb6); have a0z := HR6.out.a0; have a1z := HR6.out.a1; have a2z := HR6.out.a2; have a3z := HR6.out.a3; have r0z := HR6.out.r0; have r1z := HR6.out.r1; have r2z := HR6.out.r2; have r3z := HR6.out.r3; have faz := HR6.out.fa; have frz := HR6.out.fr; have hsz := HR6.out.hs; have belz := HR6.out.bel) | (go_at_call 43; (with_reducible refine (HA.out _ hb6).mono ?_); rintro e w7 ⟨rfl, rfl⟩) | (at_builtin; refine wpList_append_own _ rfl (.tmp 72) (.tmp 74) 43 rfl (w.heap.size + 2) 9 i0 _ 1 16 Tryz.underlying43 hi0 hz0 hz1 hz2 rfl (by decide) (.slice SA XN sc0) XN (strsV xs) rfl ((own_below XO.out hb6).alloc _) _ 1 1 [.string NM] rfl rfl (by intro j u' hj; match j, hj with | 0, hj => (simp at hj; subst hj; simp [Addr.add, go_sem])) (by intro u' hu'; simp at hu'; subst hu'; rfl) (by unfold maxLen; omega) (by omega) (by have := hb6.size; have := HR.out.hs; simp; omega) ?_; intro v8 w8 hown8 hgrow8 hiff8; clear hiff8; have HO8 := Lib.hid hown8; have B8 : Below (w.heap.size + 2) w6 w8 := Below.grown ((Below.refl _ _).alloc (by have := hb6.size; have := HR.out.hs; omega) _) hgrow8 (by have := hb6.size; have := HR.out.hs; simp; omega) (fun g hg => ((own_below XO.out hb6).lt g hg).1); have HR8 := Lib.hid (HR6.out.below B8); have a0u := HR8.out.a0; have a1u := HR8.out.a1; have a2u := HR8.out.a2; have a3u := HR8.out.a3; have r0u := HR8.out.r0; have r1u := HR8.out.r1; have r2u := HR8.out.r2; have r3u := HR8.out.r3; have fau := HR8.out.fa; have fru := HR8.out.fr; have hsu := HR8.out.hs; have belu := HR8.out.bel; clear hown8 hgrow8) | (go_at_call 44; (with_reducible refine (SM.out _).mono ?_); rintro e w9 ⟨rfl, hb9⟩; have HR9 := Lib.hid (HR8.out.call hb9); have a0t := HR9.out.a0; have a1t := HR9.out.a1; have a2t := HR9.out.a2; have a3t := HR9.out.a3; have r0t := HR9.out.r0; have r1t := HR9.out.r1; have r2t := HR9.out.r2; have r3t := HR9.out.r3; have fat := HR9.out.fa; have frt := HR9.out.fr; have hst := HR9.out.hs; have belt := HR9.out.bel))
                      go_roundw
                      case rel => exact ⟨K2, ⟨N + 1, m, p, true, L, sl, true⟩, _, rfl, by go_num, rfl, rfl, hK2n, by dsimp only; omega, hLL, HX, Lib.hid (fun e => by cases e), Lib.hid ((NX.out _ _ _ (own_below HO8.out hb9)).set (by dsimp only; omega) _), Lib.hid (HR9.out.conn _ _ _ _ _)⟩
                      case measure => first | (simp [intOf]; done) | (simp [intOf]; omega)
                    · rw [show decide (small v = [99, 108, 111, 115, 101]) = false from decide_eq_false k1] at hM3
                      by_cases k2 : small v = tKeep
                      · rw [show decide (small v = [107, 101, 101, 112, 45, 97, 108, 105, 118, 101]) = true from decide_eq_true k2] at hM4
                        have HX := Lib.hid (PS.out _ (by rw [HE.out, if_pos (.inr k2)]) (HSS.out.trans (by rw [decide_eq_false k1])))
                        clear k1 k2
                        generalize (⟨(small v).toArray⟩ : ByteArray) = SV at *
                        go_wp2_with (first | (go_at_call 40; (with_reducible refine (LQ.out _ hbel).mono ?_); rintro e w1 ⟨rfl, rfl⟩) | (go_at_call 42; (with_reducible refine (FD.out _).mono ?_); rintro e w6 ⟨rfl, hb6⟩; have HR6 := Lib.hid (HR.out.call hb6); have HS6 := Lib.hid (HS.out.below hb6); have a0z := HR6.out.a0; have a1z := HR6.out.a1; have a2z := HR6.out.a2; have a3z := HR6.out.a3; have r0z := HR6.out.r0; have r1z := HR6.out.r1; have r2z := HR6.out.r2; have r3z := HR6.out.r3; have faz := HR6.out.fa; have frz := HR6.out.fr; have hsz := HR6.out.hs; have belz := HR6.out.bel) | (go_at_call 43; (with_reducible refine (HA.out _ hb6).mono ?_); rintro e w7 ⟨rfl, rfl⟩) | (at_builtin; refine wpList_append_own _ rfl (.tmp 72) (.tmp 74) 43 rfl (w.heap.size + 2) 9 i0 _ 1 16 Tryz.underlying43 hi0 hz0 hz1 hz2 rfl (by decide) (.slice SA XN sc0) XN (strsV xs) rfl ((own_below XO.out hb6).alloc _) _ 1 1 [.string NM] rfl rfl (by intro j u' hj; match j, hj with | 0, hj => (simp at hj; subst hj; simp [Addr.add, go_sem])) (by intro u' hu'; simp at hu'; subst hu'; rfl) (by unfold maxLen; omega) (by omega) (by have := hb6.size; have := HR.out.hs; simp; omega) ?_; intro v8 w8 hown8 hgrow8 hiff8; clear hiff8; have HO8 := Lib.hid hown8; have B8 : Below (w.heap.size + 2) w6 w8 := Below.grown ((Below.refl _ _).alloc (by have := hb6.size; have := HR.out.hs; omega) _) hgrow8 (by have := hb6.size; have := HR.out.hs; simp; omega) (fun g hg => ((own_below XO.out hb6).lt g hg).1); have HR8 := Lib.hid (HR6.out.below B8); have a0u := HR8.out.a0; have a1u := HR8.out.a1; have a2u := HR8.out.a2; have a3u := HR8.out.a3; have r0u := HR8.out.r0; have r1u := HR8.out.r1; have r2u := HR8.out.r2; have r3u := HR8.out.r3; have fau := HR8.out.fa; have fru := HR8.out.fr; have hsu := HR8.out.hs; have belu := HR8.out.bel; clear hown8 hgrow8) | (go_at_call 44; (with_reducible refine (SM.out _).mono ?_); rintro e w9 ⟨rfl, hb9⟩; have HR9 := Lib.hid (HR8.out.call hb9); have a0t := HR9.out.a0; have a1t := HR9.out.a1; have a2t := HR9.out.a2; have a3t := HR9.out.a3; have r0t := HR9.out.r0; have r1t := HR9.out.r1; have r2t := HR9.out.r2; have r3t := HR9.out.r3; have fat := HR9.out.fa; have frt := HR9.out.fr; have hst := HR9.out.hs; have belt := HR9.out.bel))
                        go_roundw
                        case rel => exact ⟨K2, ⟨N + 1, m, p, false, L, sl, true⟩, _, rfl, by go_num, rfl, rfl, hK2n, by dsimp only; omega, hLL, HX, Lib.hid (fun e => by cases e), Lib.hid ((NX.out _ _ _ (own_below HO8.out hb9)).set (by dsimp only; omega) _), Lib.hid (HR9.out.conn _ _ _ _ _)⟩
                        case measure => first | (simp [intOf]; done) | (simp [intOf]; omega)
                      · rw [show decide (small v = [107, 101, 101, 112, 45, 97, 108, 105, 118, 101]) = false from decide_eq_false k2] at hM4
                        have HX := Lib.hid (PE.out 10 (by rw [HE.out, if_neg (fun h => h.elim k1 k2)]) (by decide))
                        clear k1 k2
                        generalize (⟨(small v).toArray⟩ : ByteArray) = SV at *
                        go_wp2_with (first | (go_at_call 40; (with_reducible refine (LQ.out _ hbel).mono ?_); rintro e w1 ⟨rfl, rfl⟩) | (go_at_call 42; (with_reducible refine (FD.out _).mono ?_); rintro e w6 ⟨rfl, hb6⟩; have HR6 := Lib.hid (HR.out.call hb6); have HS6 := Lib.hid (HS.out.below hb6); have a0z := HR6.out.a0; have a1z := HR6.out.a1; have a2z := HR6.out.a2; have a3z := HR6.out.a3; have r0z := HR6.out.r0; have r1z := HR6.out.r1; have r2z := HR6.out.r2; have r3z := HR6.out.r3; have faz := HR6.out.fa; have frz := HR6.out.fr; have hsz := HR6.out.hs; have belz := HR6.out.bel) | (go_at_call 43; (with_reducible refine (HA.out _ hb6).mono ?_); rintro e w7 ⟨rfl, rfl⟩) | (at_builtin; refine wpList_append_own _ rfl (.tmp 72) (.tmp 74) 43 rfl (w.heap.size + 2) 9 i0 _ 1 16 Tryz.underlying43 hi0 hz0 hz1 hz2 rfl (by decide) (.slice SA XN sc0) XN (strsV xs) rfl ((own_below XO.out hb6).alloc _) _ 1 1 [.string NM] rfl rfl (by intro j u' hj; match j, hj with | 0, hj => (simp at hj; subst hj; simp [Addr.add, go_sem])) (by intro u' hu'; simp at hu'; subst hu'; rfl) (by unfold maxLen; omega) (by omega) (by have := hb6.size; have := HR.out.hs; simp; omega) ?_; intro v8 w8 hown8 hgrow8 hiff8; clear hiff8; have HO8 := Lib.hid hown8; have B8 : Below (w.heap.size + 2) w6 w8 := Below.grown ((Below.refl _ _).alloc (by have := hb6.size; have := HR.out.hs; omega) _) hgrow8 (by have := hb6.size; have := HR.out.hs; simp; omega) (fun g hg => ((own_below XO.out hb6).lt g hg).1); have HR8 := Lib.hid (HR6.out.below B8); have a0u := HR8.out.a0; have a1u := HR8.out.a1; have a2u := HR8.out.a2; have a3u := HR8.out.a3; have r0u := HR8.out.r0; have r1u := HR8.out.r1; have r2u := HR8.out.r2; have r3u := HR8.out.r3; have fau := HR8.out.fa; have fru := HR8.out.fr; have hsu := HR8.out.hs; have belu := HR8.out.bel; clear hown8 hgrow8) | (go_at_call 44; (with_reducible refine (SM.out _).mono ?_); rintro e w9 ⟨rfl, hb9⟩; have HR9 := Lib.hid (HR8.out.call hb9); have a0t := HR9.out.a0; have a1t := HR9.out.a1; have a2t := HR9.out.a2; have a3t := HR9.out.a3; have r0t := HR9.out.r0; have r1t := HR9.out.r1; have r2t := HR9.out.r2; have r3t := HR9.out.r3; have fat := HR9.out.fa; have frt := HR9.out.fr; have hst := HR9.out.hs; have belt := HR9.out.bel))
                        exact bodyPost_ret (v := .tuple #[.agg #[.string ⟨#[]⟩, .string ⟨#[]⟩, .slice none 0 0, .bool false], .int .i64 0, .bool false, .int .i64 10]) (by simp [results, Tryz.results28, go_sem, *]) rfl (HQQ.out _ _ ⟨⟨_, rfl, by rw [HX.out]; exact rfl⟩, (by repeat (first | exact Below.refl _ _ | refine Below.setCell ?_ (by first | (simp; done) | (simp; omega) | omega) _ | refine Below.alloc ?_ (by first | (simp; done) | (simp; omega) | omega) _ | refine Below.drew ?_ | assumption | refine Below.trans ?_ (Below.mono (by assumption) (by first | (simp; done) | (simp; omega) | omega))))⟩)
                · rw [show decide (nm = [99, 111, 110, 110, 101, 99, 116, 105, 111, 110]) = false from decide_eq_false g2] at hM2
                  have HX := Lib.hid (PS.out _ (sE_other HF.out h20 g1 g2) (sS_other HF.out g1 g2))
                  clear g1 g2 h20
                  generalize (⟨nm.toArray⟩ : ByteArray) = NM at *
                  generalize (⟨v.toArray⟩ : ByteArray) = VV at *
                  go_wp2_with (first | (go_at_call 40; (with_reducible refine (LQ.out _ hbel).mono ?_); rintro e w1 ⟨rfl, rfl⟩) | (go_at_call 42; (with_reducible refine (FD.out _).mono ?_); rintro e w6 ⟨rfl, hb6⟩; have HR6 := Lib.hid (HR.out.call hb6); have HS6 := Lib.hid (HS.out.below hb6); have a0z := HR6.out.a0; have a1z := HR6.out.a1; have a2z := HR6.out.a2; have a3z := HR6.out.a3; have r0z := HR6.out.r0; have r1z := HR6.out.r1; have r2z := HR6.out.r2; have r3z := HR6.out.r3; have faz := HR6.out.fa; have frz := HR6.out.fr; have hsz := HR6.out.hs; have belz := HR6.out.bel))
                  go_roundw
                  case rel => exact ⟨K2, ⟨N + 1, m, p, cl, L, sl, sc⟩, _, rfl, by go_num, rfl, rfl, hK2n, by dsimp only; omega, hLL, HX, Lib.hid (fun e => by cases e), Lib.hid (by obtain ⟨ys, y1, y2, y3⟩ := HS6.out; exact ⟨ys, y1, Nat.le_succ_of_le y2, y3⟩), Lib.hid (HR6.out.same rfl rfl rfl)⟩
                  case measure => first | (simp [intOf]; done) | (simp [intOf]; omega)
end Go.Proofs.YtkaimfeiahogaaaGreatDoor
