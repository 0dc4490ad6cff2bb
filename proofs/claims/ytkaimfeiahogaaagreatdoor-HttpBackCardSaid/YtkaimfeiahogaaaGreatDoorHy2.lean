/-
  HttpBack holds: the walk of the law. (Printed by tools/mkhy2.py.)
-/
import Derived.Test.YtkaimfeiahogaaaGreatDoorHy1
namespace Go.Proofs.YtkaimfeiahogaaaGreatDoor
set_option linter.all false
open Go.RowKit Go.Shelf
attribute [local go_sem] cell_set_self lt_1 lt_2 lt_3 lt_4 lt_5 lt_6 drew_cell drew_frozen drew_size

theorem prn_pos (t : Rq) : 1 ≤ (prn t).length := by
  unfold prn fmtH; simp only [List.length_append, List.length_cons]; omega
set_option maxHeartbeats 8000000 in
set_option maxRecDepth 100000 in
theorem back_far (m p : List UInt8) (A : Option Addr) (n c : Nat) (cl : Bool) (z : Int) (B : Option Addr) (k d : Nat) (C : Option Addr) (j f : Nat) (cl2 : Bool) (cut : Int) (w : World) (E : Env w) (h : 4000 < m.length ∨ 4000 < p.length ∨ 40000 < n ∨ 40000 < k ∨ 4000 < j) :
    Calls Tryz.prog 9 #[rqB m p A n c cl, .int .i64 z, .slice B k d, .slice C j f, .bool cl2, .int .i64 cut] w fun e w' => e = .returned (.bool true) ∧ Below w.heap.size w w' := by
  have FO := Lib.hid (fun W (hb : Below w.heap.size w W) => first_ok W (E.below hb))
  unfold rqB
  have hM : (⟨m.toArray⟩ : ByteArray).size = m.length := ba_sz m
  have hP : (⟨p.toArray⟩ : ByteArray).size = p.length := ba_sz p
  generalize (⟨m.toArray⟩ : ByteArray) = M at *
  generalize (⟨p.toArray⟩ : ByteArray) = P at *
  rw [← hM, ← hP] at h
  clear hM hP E
  by_cases h0 : 4000 < M.size
  · have h0' : (4000 : Int) < (M.size : Int) := by omega
    clear h
    go_enter Tryz.func9, Tryz.ntmps9
    go_wp2_with (first | (go_at_call 10; refine (FO.out _ (by repeat (first | exact Below.refl _ _ | refine Below.setCell ?_ (by first | (simp; done) | (simp; omega) | omega) _ | refine Below.alloc ?_ (by first | (simp; done) | (simp; omega) | omega) _ | refine Below.drew ?_ | assumption | refine Below.trans ?_ (Below.mono (by assumption) (by first | (simp; done) | (simp; omega) | omega))))).mono ?_; rintro e w4 ⟨rfl, hb4⟩; obtain ⟨hc4, hf4⟩ := bcell hb4; have hs4 := hb4.size; (try simp at hs4); have hz4 : w.heap.size < w4.heap.size := by have := hb4.size; (try simp at this); omega))
    go_ret
    exact ⟨rfl, (by repeat (first | exact Below.refl _ _ | refine Below.setCell ?_ (by first | (simp; done) | (simp; omega) | omega) _ | refine Below.alloc ?_ (by first | (simp; done) | (simp; omega) | omega) _ | refine Below.drew ?_ | assumption | refine Below.trans ?_ (Below.mono (by assumption) (by first | (simp; done) | (simp; omega) | omega))))⟩
  · have h0' : ¬ (4000 : Int) < (M.size : Int) := by omega
    by_cases h1 : 4000 < P.size
    · have h1' : (4000 : Int) < (P.size : Int) := by omega
      clear h
      go_enter Tryz.func9, Tryz.ntmps9
      go_wp2_with (first | (go_at_call 10; refine (FO.out _ (by repeat (first | exact Below.refl _ _ | refine Below.setCell ?_ (by first | (simp; done) | (simp; omega) | omega) _ | refine Below.alloc ?_ (by first | (simp; done) | (simp; omega) | omega) _ | refine Below.drew ?_ | assumption | refine Below.trans ?_ (Below.mono (by assumption) (by first | (simp; done) | (simp; omega) | omega))))).mono ?_; rintro e w4 ⟨rfl, hb4⟩; obtain ⟨hc4, hf4⟩ := bcell hb4; have hs4 := hb4.size; (try simp at hs4); have hz4 : w.heap.size < w4.heap.size := by have := hb4.size; (try simp at this); omega))
      go_ret
      exact ⟨rfl, (by repeat (first | exact Below.refl _ _ | refine Below.setCell ?_ (by first | (simp; done) | (simp; omega) | omega) _ | refine Below.alloc ?_ (by first | (simp; done) | (simp; omega) | omega) _ | refine Below.drew ?_ | assumption | refine Below.trans ?_ (Below.mono (by assumption) (by first | (simp; done) | (simp; omega) | omega))))⟩
    · have h1' : ¬ (4000 : Int) < (P.size : Int) := by omega
      by_cases h2 : 40000 < n
      · have h2' : (40000 : Int) < (n : Int) := by omega
        clear h
        go_enter Tryz.func9, Tryz.ntmps9
        go_wp2_with (first | (go_at_call 10; refine (FO.out _ (by repeat (first | exact Below.refl _ _ | refine Below.setCell ?_ (by first | (simp; done) | (simp; omega) | omega) _ | refine Below.alloc ?_ (by first | (simp; done) | (simp; omega) | omega) _ | refine Below.drew ?_ | assumption | refine Below.trans ?_ (Below.mono (by assumption) (by first | (simp; done) | (simp; omega) | omega))))).mono ?_; rintro e w4 ⟨rfl, hb4⟩; obtain ⟨hc4, hf4⟩ := bcell hb4; have hs4 := hb4.size; (try simp at hs4); have hz4 : w.heap.size < w4.heap.size := by have := hb4.size; (try simp at this); omega))
        go_ret
        exact ⟨rfl, (by repeat (first | exact Below.refl _ _ | refine Below.setCell ?_ (by first | (simp; done) | (simp; omega) | omega) _ | refine Below.alloc ?_ (by first | (simp; done) | (simp; omega) | omega) _ | refine Below.drew ?_ | assumption | refine Below.trans ?_ (Below.mono (by assumption) (by first | (simp; done) | (simp; omega) | omega))))⟩
      · have h2' : ¬ (40000 : Int) < (n : Int) := by omega
        by_cases h3 : 40000 < k
        · have h3' : (40000 : Int) < (k : Int) := by omega
          clear h
          go_enter Tryz.func9, Tryz.ntmps9
          go_wp2_with (first | (go_at_call 10; refine (FO.out _ (by repeat (first | exact Below.refl _ _ | refine Below.setCell ?_ (by first | (simp; done) | (simp; omega) | omega) _ | refine Below.alloc ?_ (by first | (simp; done) | (simp; omega) | omega) _ | refine Below.drew ?_ | assumption | refine Below.trans ?_ (Below.mono (by assumption) (by first | (simp; done) | (simp; omega) | omega))))).mono ?_; rintro e w4 ⟨rfl, hb4⟩; obtain ⟨hc4, hf4⟩ := bcell hb4; have hs4 := hb4.size; (try simp at hs4); have hz4 : w.heap.size < w4.heap.size := by have := hb4.size; (try simp at this); omega))
          go_ret
          exact ⟨rfl, (by repeat (first | exact Below.refl _ _ | refine Below.setCell ?_ (by first | (simp; done) | (simp; omega) | omega) _ | refine Below.alloc ?_ (by first | (simp; done) | (simp; omega) | omega) _ | refine Below.drew ?_ | assumption | refine Below.trans ?_ (Below.mono (by assumption) (by first | (simp; done) | (simp; omega) | omega))))⟩
        · have h3' : ¬ (40000 : Int) < (k : Int) := by omega
          have h4' : (4000 : Int) < (j : Int) := by omega
          clear h
          go_enter Tryz.func9, Tryz.ntmps9
          go_wp2_with (first | (go_at_call 10; refine (FO.out _ (by repeat (first | exact Below.refl _ _ | refine Below.setCell ?_ (by first | (simp; done) | (simp; omega) | omega) _ | refine Below.alloc ?_ (by first | (simp; done) | (simp; omega) | omega) _ | refine Below.drew ?_ | assumption | refine Below.trans ?_ (Below.mono (by assumption) (by first | (simp; done) | (simp; omega) | omega))))).mono ?_; rintro e w4 ⟨rfl, hb4⟩; obtain ⟨hc4, hf4⟩ := bcell hb4; have hs4 := hb4.size; (try simp at hs4); have hz4 : w.heap.size < w4.heap.size := by have := hb4.size; (try simp at this); omega))
          go_ret
          exact ⟨rfl, (by repeat (first | exact Below.refl _ _ | refine Below.setCell ?_ (by first | (simp; done) | (simp; omega) | omega) _ | refine Below.alloc ?_ (by first | (simp; done) | (simp; omega) | omega) _ | refine Below.drew ?_ | assumption | refine Below.trans ?_ (Below.mono (by assumption) (by first | (simp; done) | (simp; omega) | omega))))⟩
set_option maxHeartbeats 32000000 in
set_option maxRecDepth 100000 in
theorem back_near (m p : List UInt8) (A : Option Addr) (n c : Nat) (l : List UInt8) (hl : l.length = n) (cl : Bool) (z : Int) (hz : In64 z) (B : Option Addr) (k d : Nat) (q : List UInt8) (hq : q.length = k) (C : Option Addr) (j f : Nat) (mo : List UInt8) (hmo : mo.length = j) (cl2 : Bool) (cut : Int) (w : World) (ES : EnvS w) (T : Bs w A c l) (U : Bs w B d q) (V : Bs w C f mo)
    (hm4 : m.length ≤ 4000) (hp4 : p.length ≤ 4000) (hn4 : n ≤ 40000) (hk4 : k ≤ 40000) (hj4 : j ≤ 4000) :
    Calls Tryz.prog 9 #[rqB m p A n c cl, .int .i64 z, .slice B k d, .slice C j f, .bool cl2, .int .i64 cut] w fun e w' => e = .returned (.bool true) ∧ Below w.heap.size w w' := by
  obtain ⟨i0, hi0, hz0, hz1, hz2⟩ := info_parts info_u8h
  have E := ES.1
  have FO := Lib.hid (fun W (hb : Below w.heap.size w W) => first_ok W (E.below hb))
  have hM : (⟨m.toArray⟩ : ByteArray).size = m.length := ba_sz m
  have hP : (⟨p.toArray⟩ : ByteArray).size = p.length := ba_sz p
  obtain ⟨a, ha⟩ : ∃ a, (fmtO m p n cl l).length = a := ⟨_, rfl⟩
  have ha1 := fmtO_len m p n cl l hl hn4
  have FM := Lib.hid (fun W (hb : Below w.heap.size w W) => format_any m p cl A n c l hl (by omega) (by omega) a ha W (E.below hb) (T.below hb))
  have RQ := Lib.hid (fun W (hb : Below w.heap.size w W) => request_any m p cl A n c l hl (by omega) W (T.below hb))
  have HA := Lib.hid ha
  have HL := Lib.hid hl
  have HQ := Lib.hid hq
  have HJ := Lib.hid hmo
  have TB := Lib.hid (fun W (hb : Below w.heap.size w W) => T.below hb)
  have UB := Lib.hid (fun W (hb : Below w.heap.size w W) => U.below hb)
  have MB := Lib.hid (fun W (hb : Below w.heap.size w W) => V.below hb)
  have EB := Lib.hid (fun W (hb : Below w.heap.size w W) => ES.below hb)
  rw [ha] at ha1
  obtain ⟨O, hO⟩ : ∃ O, fmtO m p n cl l = O := ⟨_, rfl⟩
  rw [hO] at FM HA
  have HO := Lib.hid hO
  obtain ⟨e0, he0⟩ : ∃ e0, fmtE m p n = e0 := ⟨_, rfl⟩
  rw [he0] at FM
  have HE0 := Lib.hid he0
  obtain ⟨be, hbe⟩ : ∃ be, (e0 == 0) = be := ⟨_, rfl⟩
  have HBE := Lib.hid hbe
  unfold rqB at FM RQ ⊢
  obtain ⟨M, hMM⟩ : ∃ M : ByteArray, (⟨m.toArray⟩ : ByteArray) = M := ⟨_, rfl⟩
  obtain ⟨P, hPP⟩ : ∃ P : ByteArray, (⟨p.toArray⟩ : ByteArray) = P := ⟨_, rfl⟩
  rw [hMM] at hM FM RQ ⊢
  rw [hPP] at hP FM RQ ⊢
  have HM := Lib.hid hMM
  have HP := Lib.hid hPP
  rw [← hM] at hm4
  rw [← hP] at hp4
  have h1' : ¬ (4000 : Int) < (M.size : Int) := by omega
  have h2' : ¬ (4000 : Int) < (P.size : Int) := by omega
  have h3' : ¬ (40000 : Int) < (n : Int) := by omega
  have h4' : ¬ (40000 : Int) < (k : Int) := by omega
  have h5' : ¬ (4000 : Int) < (j : Int) := by omega
  clear hM hP hm4 hp4 E ES T U V hl hq hmo ha hO he0 hMM hPP
  go_enter Tryz.func9, Tryz.ntmps9
  go_upto_if 72 with (first | (go_at_call 10; refine (FO.out _ (by repeat (first | exact Below.refl _ _ | refine Below.setCell ?_ (by first | (simp; done) | (simp; omega) | omega) _ | refine Below.alloc ?_ (by first | (simp; done) | (simp; omega) | omega) _ | refine Below.drew ?_ | assumption | refine Below.trans ?_ (Below.mono (by assumption) (by first | (simp; done) | (simp; omega) | omega))))).mono ?_; rintro e w4 ⟨rfl, hb4⟩; obtain ⟨hc4, hf4⟩ := bcell hb4; have hs4 := hb4.size; (try simp at hs4); have hz4 : w.heap.size < w4.heap.size := by have := hb4.size; (try simp at this); omega) | (go_at_call 17; refine (FM.out _ (by repeat (first | exact Below.refl _ _ | refine Below.setCell ?_ (by first | (simp; done) | (simp; omega) | omega) _ | refine Below.alloc ?_ (by first | (simp; done) | (simp; omega) | omega) _ | refine Below.drew ?_ | assumption | refine Below.trans ?_ (Below.mono (by assumption) (by first | (simp; done) | (simp; omega) | omega))))).mono ?_; rintro e w5 ⟨⟨A5, c5, rfl, hN5⟩, hb5⟩; obtain ⟨hc5, hf5⟩ := bcell hb5; have hs5 := hb5.size; (try simp at hs5); have hz5 : w.heap.size < w5.heap.size := (by have := hb5.size; (try simp at this); omega); have HN5 := Lib.hid hN5.1; clear hN5) | (go_at_call 12; (with_reducible refine (num_same _ _).mono ?_); rintro e w9 ⟨rfl, rfl⟩))
  have u0 : w5.cell? ⟨w.heap.size, 0, none⟩ = some (.string M) := by rw [hc5 _ _ (by omega), hc4 _ _ (by simp)]; simp [go_sem]
  have u1 : w5.cell? ⟨w.heap.size, 1, none⟩ = some (.string P) := by rw [hc5 _ _ (by omega), hc4 _ _ (by simp)]; simp [go_sem]
  have u2 : w5.cell? ⟨w.heap.size, 2, none⟩ = some (.slice A n c) := by rw [hc5 _ _ (by omega), hc4 _ _ (by simp)]; simp [go_sem]
  have u3 : w5.cell? ⟨w.heap.size, 3, none⟩ = some (.bool cl) := by rw [hc5 _ _ (by omega), hc4 _ _ (by simp)]; simp [go_sem]
  have B5 : Below w.heap.size w w5 := (by repeat (first | exact Below.refl _ _ | refine Below.setCell ?_ (by first | (simp; done) | (simp; omega) | omega) _ | refine Below.alloc ?_ (by first | (simp; done) | (simp; omega) | omega) _ | refine Below.drew ?_ | assumption | refine Below.trans ?_ (Below.mono (by assumption) (by first | (simp; done) | (simp; omega) | omega))))
  have s5 := B5.size
  clear hb4 hc4 hf4 hs4 hz4 hb5 hc5 hf5 hs5
  go_cut [16, 17, 18, 19, 20, 21, 22, 23] from 73 to 130 (fun x16 x17 x18 x19 x20 x21 x22 x23 wx => Below w.heap.size w wx)
  case first =>
    cases be with
    | false =>
      go_wp2
      go_meet
      exact B5
    | true =>
      have he : e0 = 0 := by have := HBE.out; simpa using this
      obtain ⟨t, ht⟩ : ∃ t : Rq, t = ⟨m, p, A, n, c, l, cl⟩ := ⟨_, rfl⟩
      have hok : okR t = true := by rw [ht]; unfold okR; rw [HL.out, HE0.out, he]; rfl
      have hO1 : O = prn t := by rw [← HO.out, ht]; unfold fmtO prn; rw [HE0.out, if_pos he, HL.out]
      have ha2 : (prn t).length = a := by rw [← hO1]; exact HA.out
      have hapos : 1 ≤ a := by rw [← ha2]; exact prn_pos t
      have hA5 : A5 = none → c5 = 0 := HN5.out.2.1
      have hac : (a : Int) ≤ (c5 : Int) := by have := HN5.out.1; rw [HA.out] at this; omega
      obtain ⟨r1, kf, g1, g2, g3, g4, g5⟩ := rem_fit2 cut a hapos
      have hfit := take_front (l := O) (k := kf) (by rw [HA.out]; exact g5)
      have hwait : parseF (O.take kf) = .wait := by
        have h := hfit.1
        rw [hO1] at h ⊢
        exact front_prn hok h (by rw [← hO1]; exact hfit.2)
      have BR := Lib.hid (fun W (hb : Below w5.heap.size w5 W) => bytes_row A5 a c5 O HA.out (by omega) W (HN5.out.below hb))
      have PK : Hid (∀ W A' c', Below w.heap.size w W → Bs W A' c' (O ++ mo) → Calls Tryz.prog 11 #[.slice A' (a + j) c'] W fun e w' => (∃ A'' c'', e = .returned (.tuple #[.agg #[.string M, .string P, .slice A'' n c'', .bool cl], .int .i64 (a : Int), .bool true, .int .i64 0]) ∧ BsN W.heap.size w' A'' c'' l) ∧ Below W.heap.size W w') := Lib.hid (fun W A' c' hb T' => by
        have := pcall_prn t hok (by rw [ht]; exact HL.out) mo A' (a + j) c' (by rw [List.length_append, ha2, HJ.out]) (by omega) a ha2 W (EB.out W hb).1 (by rw [← hO1]; exact T')
        rw [ht] at this
        unfold rqB at this
        rw [HM.out, HP.out] at this
        exact this)
      have PW := Lib.hid (fun W (hb : Below w5.heap.size w5 W) => pcall_wait A5 kf c5 (O.take kf) (by rw [List.length_take, HA.out]; omega) (by omega) W (EB.out W (B5.trans (hb.mono s5))).1 ((HN5.out.below hb).take kf) hwait)
      have SQ := Lib.hid (fun W A' c' B' d' (T1 : Bs W A' c' l) (T2 : Bs W B' d' l) => same_eq m p cl A' B' n c' d' l HL.out (by omega) W T1 T2)
      unfold rqB at SQ
      rw [HM.out, HP.out] at SQ
      have haj : a + j ≤ 1000000 := by omega
      have hkc : (kf : Int) ≤ (c5 : Int) := by omega
      have hka : (kf : Int) ≤ (a : Int) := by omega
      have ha0 : ¬ (a : Int) = 0 := by omega
      have hwr : IntKind.i64.wrap (r1 + (a : Int)) = r1 + (a : Int) := by rw [IntKind.wrap_i64]; omega
      clear ht hok hO1 ha2 hfit hwait FM FO he
      go_upto_region 7 with (first | (go_at_call 33; (with_reducible refine (BR.out _ (Below.refl _ _)).mono ?_); rintro e w7 ⟨⟨A7, c7, rfl, hO7⟩, hb7⟩; have HO7 := Lib.hid hO7; have B7 : Below w5.heap.size w5 w7 := hb7; have s7 := hb7.size; clear hO7) | (at_builtin; refine wpList_append_bs _ rfl (.tmp 75) (.tmp 76) 22 rfl w5.heap.size i0 Tryz.underlying22 hi0 hz0 hz1 hz2 _ a (Lib.byteCells O) rfl HO7.out C j f mo rfl HJ.out (MB.out _ (B5.trans (B7.mono s5))) (by unfold maxLen; omega) (by omega) s7 ?_;  intro v8 w8 hown8 hgrow8; have HOW := Lib.hid (show w8.ownsRow w5.heap.size 5 1 v8 (a + j) (Lib.byteCells (O ++ mo)) by (rw [Lib.byteCells_append]; exact hown8)); have B8 : Below w5.heap.size w5 w8 := Below.grown B7 hgrow8 s7 (fun k e => (HO7.out.lt k e).1); clear hown8 hgrow8; obtain ⟨A8, c8, rfl, hT8, -⟩ := own_bs HOW.out; have HT8 := Lib.hid hT8; clear hT8) | (go_at_call 11; (with_reducible refine (PK.out _ _ _ (B5.trans (B8.mono s5)) HT8.out).mono ?_); rintro e w10 ⟨⟨A10, c10, rfl, hT10⟩, hb10⟩; have s8 := B8.size; have s10 := hb10.size; have HT10 := Lib.hid hT10.1; clear hT10))
      refine name_world ?_
      intro Wa hWa
      have zq : w10.heap.size < Wa.heap.size := by rw [hWa]; simp
      have b10a : Below w10.heap.size w10 Wa := by rw [hWa]; exact (Below.refl _ _).alloc (Nat.le_refl _) _
      have bWa5 : Below w5.heap.size w5 Wa := (B8.trans (hb10.mono s8)).trans (b10a.mono (Nat.le_trans s8 s10))
      have bWa : Below w.heap.size w Wa := B5.trans (bWa5.mono s5)
      have y0 : Wa.cell? ⟨w10.heap.size, 0, none⟩ = some (.string M) := by rw [hWa]; simp [go_sem]
      have y1 : Wa.cell? ⟨w10.heap.size, 1, none⟩ = some (.string P) := by rw [hWa]; simp [go_sem]
      have y2 : Wa.cell? ⟨w10.heap.size, 2, none⟩ = some (.slice A10 n c10) := by rw [hWa]; simp [go_sem]
      have y3 : Wa.cell? ⟨w10.heap.size, 3, none⟩ = some (.bool cl) := by rw [hWa]; simp [go_sem]
      have k0 := (bWa5.cell (p := ⟨w.heap.size, 0, none⟩) hz5).trans u0
      have k1 := (bWa5.cell (p := ⟨w.heap.size, 1, none⟩) hz5).trans u1
      have k2 := (bWa5.cell (p := ⟨w.heap.size, 2, none⟩) hz5).trans u2
      have k3 := (bWa5.cell (p := ⟨w.heap.size, 3, none⟩) hz5).trans u3
      have zb : w.heap.size < Wa.heap.size := Nat.lt_of_lt_of_le hz5 bWa5.size
      have HTa : Hid (Bs Wa A10 c10 l) := Lib.hid (HT10.out.below b10a)
      have hbs := bWa.size
      have RQa := Lib.hid (fun W (hb : Below Wa.heap.size Wa W) => RQ.out W (bWa.trans (hb.mono bWa.size)))
      have PWa := Lib.hid (fun W (hb : Below Wa.heap.size Wa W) => calls_abs hb (PW.out W (bWa5.trans (hb.mono bWa5.size))))
      clear RQ PW PK BR hWa b10a hb10 s8 s10 s7 B7 B8 HO7 HOW HT8 HT10 u0 u1 u2 u3 bWa5 hb7
      generalize w10.heap.size = qb at *
      generalize hwb : w.heap.size = wb at *
      go_region_held3 (fun w' => w'.cell? ⟨qb, 0, none⟩ = some (.string M) ∧ w'.cell? ⟨qb, 1, none⟩ = some (.string P) ∧ w'.cell? ⟨qb, 2, none⟩ = some (.slice A10 n c10) ∧ w'.cell? ⟨qb, 3, none⟩ = some (.bool cl) ∧ w'.cell? ⟨wb, 0, none⟩ = some (.string M) ∧ w'.cell? ⟨wb, 1, none⟩ = some (.string P) ∧ w'.cell? ⟨wb, 2, none⟩ = some (.slice A n c) ∧ w'.cell? ⟨wb, 3, none⟩ = some (.bool cl) ∧ qb < w'.heap.size ∧ wb < w'.heap.size ∧ Below Wa.heap.size Wa w')
      (first | (refine ⟨?_, ?_, ?_, ?_, ?_, ?_, ?_, ?_, ?_, ?_, ?_⟩ <;> first | (simp [go_sem, *]; done) | omega | (simp; omega) | exact (by repeat (first | exact Below.refl _ _ | refine Below.setCell ?_ (by first | (simp; done) | (simp; omega) | omega) _ | refine Below.alloc ?_ (by first | (simp; done) | (simp; omega) | omega) _ | refine Below.drew ?_ | assumption | refine Below.trans ?_ (Below.mono (by assumption) (by first | (simp; done) | (simp; omega) | omega))))))
      (first | (first | (go_at_call 14; refine (RQa.out _ (by repeat (first | exact Below.refl _ _ | refine Below.setCell ?_ (by first | (simp; done) | (simp; omega) | omega) _ | refine Below.alloc ?_ (by first | (simp; done) | (simp; omega) | omega) _ | refine Below.drew ?_ | assumption | refine Below.trans ?_ (Below.mono (by assumption) (by first | (simp; done) | (simp; omega) | omega))))).mono ?_; rintro e w11 ⟨⟨A11, c11, rfl, hT11⟩, hb11⟩; obtain ⟨hc11, hf11⟩ := bcell hb11; (try simp only [drew_size, drew_cell, drew_frozen] at hc11 hf11); have hs11 := hb11.size; (try simp at hs11); have hz11 : qb < w11.heap.size ∧ wb < w11.heap.size := (by have := hb11.size; (try simp at this); omega); have HT11 := Lib.hid hT11; clear hT11) | (go_at_call 13; refine (SQ.out _ _ _ _ _ (HTa.out.below (by repeat (first | exact Below.refl _ _ | refine Below.setCell ?_ (by first | (simp; done) | (simp; omega) | omega) _ | refine Below.alloc ?_ (by first | (simp; done) | (simp; omega) | omega) _ | refine Below.drew ?_ | assumption | refine Below.trans ?_ (Below.mono (by assumption) (by first | (simp; done) | (simp; omega) | omega))))) (HT11.out.1.below (by repeat (first | exact Below.refl _ _ | refine Below.setCell ?_ (by first | (simp; done) | (simp; omega) | omega) _ | refine Below.alloc ?_ (by first | (simp; done) | (simp; omega) | omega) _ | refine Below.drew ?_ | assumption | refine Below.trans ?_ (Below.mono (by assumption) (by first | (simp; done) | (simp; omega) | omega)))))).mono ?_; rintro e w12 ⟨rfl, hb12⟩; obtain ⟨hc12, hf12⟩ := bcell hb12; (try simp only [drew_size, drew_cell, drew_frozen] at hc12 hf12); have hs12 := hb12.size; (try simp at hs12); have hz12 : qb < w12.heap.size ∧ wb < w12.heap.size := by have := hb12.size; (try simp at this); omega) | (go_at_call 12; (with_reducible refine (num_same _ _).mono ?_); rintro e w13 ⟨rfl, rfl⟩)))
      all_goals
        go_wp2_with (first | (go_at_call 11; (with_reducible refine (PWa.out _ (by repeat (first | exact Below.refl _ _ | refine Below.setCell ?_ (by first | (simp; done) | (simp; omega) | omega) _ | refine Below.alloc ?_ (by first | (simp; done) | (simp; omega) | omega) _ | refine Below.drew ?_ | assumption | refine Below.trans ?_ (Below.mono (by assumption) (by first | (simp; done) | (simp; omega) | omega))))).mono ?_); rintro e w14 ⟨rfl, hb14⟩) | (go_at_call 12; (with_reducible refine (num_same _ _).mono ?_); rintro e w9 ⟨rfl, rfl⟩))
        go_meet
        first | exact bWa.trans ((hb14.alloc hb14.size _).mono hbs) | (rw [hwb]; exact bWa.trans ((hb14.alloc hb14.size _).mono hbs))
  have B6 := hcut
  have s6 := B6.size
  by_cases gz1 : z < 100
  · clear UB TB MB
    go_wp2
    go_ret
    exact ⟨rfl, B6⟩
  · by_cases gz2 : 999 < z
    · clear UB TB MB
      go_wp2
      go_ret
      exact ⟨rfl, B6⟩
    · obtain ⟨zn, rfl⟩ : ∃ zn : Nat, z = (zn : Int) := ⟨z.toNat, by omega⟩
      have hzn1 : 100 ≤ zn := by omega
      have hzn2 : zn ≤ 999 := by omega
      have hrl := respH_len (zn : Int) hz k cl2 (by omega)
      obtain ⟨b, hb⟩ : ∃ b, (respH (zn : Int) k cl2).length + k = b := ⟨_, rfl⟩
      have BY := Lib.hid (fun W (hb : Below wc.heap.size wc W) => bytesR_any (zn : Int) hz cl2 B k d q HQ.out (by omega) W (EB.out W (B6.trans (hb.mono s6))).1 (UB.out W (B6.trans (hb.mono s6))))
      rw [hb] at BY
      have hVl : (respH (zn : Int) k cl2 ++ q).length = b := by rw [List.length_append, HQ.out]; exact hb
      have hb1 : b ≤ 50000 := by omega
      have hbpos : 1 ≤ b := by
        have : 1 ≤ (respH (zn : Int) k cl2).length := by unfold respH; simp only [List.length_append, List.length_cons]; omega
        omega
      obtain ⟨r1, kf, g1, g2, g3, g4, g5⟩ := rem_fit2 cut b hbpos
      have PB := Lib.hid (fun W A' c' (hb : Below w.heap.size w W) (T' : Bs W A' c' (respH (zn : Int) k cl2 ++ q ++ mo)) => presp_back zn k cl2 hzn1 hzn2 q mo HQ.out A' (b + j) c' b (by rw [List.length_append, hVl, HJ.out]) (by omega) hVl W (EB.out W hb) T')
      have PF := Lib.hid (fun W A' c' (hb : Below w.heap.size w W) (T' : Bs W A' c' ((respH (zn : Int) k cl2 ++ q).take kf)) => presp_front zn k cl2 hzn1 hzn2 q HQ.out A' kf c' b hVl g5 (by omega) W (EB.out W hb) T')
      obtain ⟨V, hV⟩ : ∃ V, respH (zn : Int) k cl2 ++ q = V := ⟨_, rfl⟩
      rw [hV] at BY PB PF hVl
      have HVl := Lib.hid hVl
      have SB := Lib.hid (fun W A1 A2 c1 c2 (T1 : Bs W A1 c1 q) (T2 : Bs W A2 c2 q) => sb_eq A1 A2 k c1 c2 q HQ.out (by omega) W T1 T2)
      have hbj : b + j ≤ 1000000 := by omega
      have hkb : (kf : Int) ≤ (b : Int) := by omega
      have hb0 : ¬ (b : Int) = 0 := by omega
      have hwr : IntKind.i64.wrap (r1 + (b : Int)) = r1 + (b : Int) := by rw [IntKind.wrap_i64]; omega
      clear hrl hb hV hVl RQ FM FO TB hzn1 hzn2
      unfold rpB at BY
      go_upto_region 16 with (first | (go_at_call 23; (with_reducible refine (BY.out _ (Below.refl _ _)).mono ?_); rintro e w15 ⟨⟨g15, c15, rfl, hT15, hg15⟩, hb15⟩; have HT15 := Lib.hid hT15; have B15 : Below w.heap.size w w15 := B6.trans (hb15.mono s6); have s15 := B15.size; have BR := Lib.hid (fun W (hb : Below w15.heap.size w15 W) => bytes_row (some ⟨g15, 0, none⟩) b c15 V HVl.out (by omega) W (HT15.out.below hb)); clear hT15 hg15) | (go_at_call 33; (with_reducible refine (BR.out _ (Below.refl _ _)).mono ?_); rintro e w16 ⟨⟨A16, c16, rfl, hO16⟩, hb16⟩; have HO16 := Lib.hid hO16; have B16 : Below w15.heap.size w15 w16 := hb16; have s16 := hb16.size; clear hO16) | (at_builtin; refine wpList_append_bs _ rfl (.tmp 144) (.tmp 145) 22 rfl w15.heap.size i0 Tryz.underlying22 hi0 hz0 hz1 hz2 _ b (Lib.byteCells V) rfl HO16.out C j f mo rfl HJ.out (MB.out _ (B15.trans (B16.mono s15))) (by unfold maxLen; omega) (by omega) s16 ?_;  intro v17 w17 hown17 hgrow17; have HOW := Lib.hid (show w17.ownsRow w15.heap.size 5 1 v17 (b + j) (Lib.byteCells (V ++ mo)) by (rw [Lib.byteCells_append]; exact hown17)); have B17 : Below w15.heap.size w15 w17 := Below.grown B16 hgrow17 s16 (fun k e => (HO16.out.lt k e).1); clear hown17 hgrow17; obtain ⟨A17, c17, rfl, hT17, -⟩ := own_bs HOW.out; have HT17 := Lib.hid hT17; clear hT17) | (go_at_call 29; (with_reducible refine (PB.out _ _ _ (B15.trans (B17.mono s15)) HT17.out).mono ?_); rintro e w18 ⟨⟨A18, c18, rfl, hT18⟩, hb18⟩; have s17 := B17.size; have s18 := hb18.size; have HT18 := Lib.hid hT18.1; clear hT18))
      have hbc : (kf : Int) ≤ (c15 : Int) := by have := HT15.out.1; rw [HVl.out] at this; omega
      refine name_world ?_
      intro Wa hWa
      have zq : w18.heap.size < Wa.heap.size := by rw [hWa]; simp
      have b18a : Below w18.heap.size w18 Wa := by rw [hWa]; exact (Below.refl _ _).alloc (Nat.le_refl _) _
      have bWa15 : Below w15.heap.size w15 Wa := (B17.trans (hb18.mono s17)).trans (b18a.mono (Nat.le_trans s17 s18))
      have bWa : Below w.heap.size w Wa := B15.trans (bWa15.mono s15)
      have y0 : Wa.cell? ⟨w18.heap.size, 0, none⟩ = some (.int .i64 (zn : Int)) := by rw [hWa]; simp [go_sem]
      have y1 : Wa.cell? ⟨w18.heap.size, 1, none⟩ = some (.slice A18 k c18) := by rw [hWa]; simp [go_sem]
      have y2 : Wa.cell? ⟨w18.heap.size, 2, none⟩ = some (.bool cl2) := by rw [hWa]; simp [go_sem]
      have HTa : Hid (Bs Wa A18 c18 q) := Lib.hid (HT18.out.below b18a)
      have HTV : Hid (Bs Wa (some ⟨g15, 0, none⟩) c15 V) := Lib.hid (HT15.out.below bWa15)
      have sWa := bWa.size
      have SBa := Lib.hid (fun W (hb : Below Wa.heap.size Wa W) => calls_abs hb (SB.out W A18 B c18 d (HTa.out.below hb) (UB.out W (bWa.trans (hb.mono sWa)))))
      have PFa := Lib.hid (fun W (hb : Below Wa.heap.size Wa W) => calls_abs hb (PF.out W (some ⟨g15, 0, none⟩) c15 (bWa.trans (hb.mono sWa)) ((HTV.out.below hb).take kf)))
      clear hWa b18a hb18 s17 s18 B17 B16 s16 HO16 HOW HT17 HT18 BR PB PF SB BY B15 s15 bWa15 B6 s6 HT15 hb15 hb16
      generalize w18.heap.size = qb at *
      go_wp2_with (first | (go_at_call 22; (with_reducible refine (SBa.out _ (Below.refl _ _)).mono ?_); rintro e w19 ⟨rfl, hb19⟩) | (go_at_call 29; (with_reducible refine (PFa.out _ hb19).mono ?_); rintro e w20 ⟨rfl, hb20⟩) | (go_at_call 12; (with_reducible refine (num_same _ _).mono ?_); rintro e w9 ⟨rfl, rfl⟩))
      go_ret
      exact ⟨rfl, bWa.trans ((hb20.alloc hb20.size _).mono sWa)⟩
theorem back_walk (m p : List UInt8) (A : Option Addr) (n c : Nat) (l : List UInt8) (hl : l.length = n) (cl : Bool) (z : Int) (B : Option Addr) (k d : Nat) (q : List UInt8) (hq : q.length = k) (C : Option Addr) (j f : Nat) (mo : List UInt8) (hmo : mo.length = j) (cl2 : Bool) (cut : Int) (hz : In64 z) (w : World) (ES : EnvS w) (T : Bs w A c l) (U : Bs w B d q) (V : Bs w C f mo) :
    Calls Tryz.prog 9 #[rqB m p A n c cl, .int .i64 z, .slice B k d, .slice C j f, .bool cl2, .int .i64 cut] w fun e w' => e = .returned (.bool true) ∧ Below w.heap.size w w' := by
  by_cases h : 4000 < m.length ∨ 4000 < p.length ∨ 40000 < n ∨ 40000 < k ∨ 4000 < j
  · exact back_far m p A n c cl z B k d C j f cl2 cut w ES.1 h
  · exact back_near m p A n c l hl cl z hz B k d q hq C j f mo hmo cl2 cut w ES T U V (by omega) (by omega) (by omega) (by omega) (by omega)
end Go.Proofs.YtkaimfeiahogaaaGreatDoor
