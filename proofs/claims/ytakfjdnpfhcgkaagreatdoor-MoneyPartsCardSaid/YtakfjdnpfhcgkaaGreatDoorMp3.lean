/-
  Contract of money.Amount.String. (Printed by tools/mkmp3.py.)
-/
import Derived.Test.YtakfjdnpfhcgkaaGreatDoorMp1
namespace Go.Proofs.YtakfjdnpfhcgkaaGreatDoor
set_option linter.all false
open Go.RowKit Go.Sort
attribute [local go_sem] cell_set_self lt_1 lt_2 lt_3 lt_4 lt_5 lt_6

def padM (sc : Nat) (t : List UInt8) : List UInt8 := List.replicate (sc + 1 - t.length) 48 ++ t
def ptM (sc : Nat) (t : List UInt8) : List UInt8 := if sc = 0 then t else t.take (t.length - sc) ++ 46 :: t.drop (t.length - sc)
/-- An amount's text. -/
def strM (u : Int) (c : List UInt8) : List UInt8 := if amE u c = 0 then (if u < 0 then [45] else []) ++ (ptM (scN c).toNat (padM (scN c).toNat (txt u.natAbs)) ++ 32 :: c) else []
theorem pf_txt (u : Int) : pf (txt u) = (txt u.natAbs, decide (u < 0)) := by
  unfold txt
  by_cases h0 : u = 0
  · subst h0; rfl
  · have hn : ¬ ((u.natAbs : Int) = 0) := by omega
    rw [if_neg h0, if_neg hn, if_neg (show ¬ ((u.natAbs : Int) < 0) by omega)]
    have e : (u.natAbs : Int).natAbs = u.natAbs := by omega
    rw [e]
    by_cases h : u < 0
    · rw [if_pos h]; simp [pf, h]
    · rw [if_neg h]
      have : (dec u.natAbs).head? ≠ some 45 := by
        cases hd : dec u.natAbs with
        | nil => simp
        | cons b r =>
          have := dec_dig u.natAbs b (by rw [hd]; simp)
          simp only [List.head?_cons, ne_eq, Option.some.injEq]
          intro e; rw [e] at this; simp at this
      unfold pf; rw [if_neg this]; simp [h]
theorem inU_iffS {u : Int} : inU u = true ↔ (-4611686018427387904 ≤ u ∧ u ≤ 4611686018427387904) := by unfold inU; simp
theorem txt_abs_len (u : Int) (hu : inU u = true) : 1 ≤ (txt u.natAbs).length ∧ (txt u.natAbs).length ≤ 21 := by
  obtain ⟨u0, u1⟩ := inU_iffS.1 hu
  refine ⟨?_, txt_len (by omega) (by omega)⟩
  have := (numF_iff.1 (txt_nonneg (z := (u.natAbs : Int)) (by omega)).1).1
  exact List.length_pos_iff.2 this
theorem amE_0 {u : Int} {c : List UInt8} (h : amE u c = 0) : inU u = true ∧ ∃ (k : Nat) (t : List UInt8 × Int), curL[k]? = some t ∧ t.1 = c := by
  unfold amE at h
  rcases cur_cases c with hk | hm
  · refine ⟨?_, hk⟩
    rcases scE_cases c with k | k
    · rw [if_pos k] at h
      cases hu : inU u with
      | true => rfl
      | false => rw [hu] at h; simp at h
    · rw [k] at h; simp at h
  · have : scE c = 18 := by unfold scE; rw [cur_miss hm]; rfl
    rw [this] at h; simp at h
theorem cur_sc {k : Nat} {t : List UInt8 × Int} (h : curL[k]? = some t) : scN t.1 = t.2 ∧ scE t.1 = 0 ∧ (t.2 = 0 ∨ t.2 = 2 ∨ t.2 = 3) ∧ t.1.length = 3 := by
  refine ⟨by unfold scN; rw [cur_hit h]; rfl, by unfold scE; rw [cur_hit h]; rfl, ?_, (cur_bound h).2.2⟩
  exact cur_all (p := fun _ t => t.2 = 0 ∨ t.2 = 2 ∨ t.2 = 3) (by decide) (by decide) (by decide) (by decide) (by decide) (by decide) h
theorem ext_take (l : List UInt8) (m : Nat) : (⟨l.toArray⟩ : ByteArray).extract 0 m = ⟨(l.take m).toArray⟩ := by
  refine ByteArray.ext ?_
  rw [ByteArray.data_extract]; simp
theorem ext_drop (l : List UInt8) (m n : Nat) (h : l.length = n) : (⟨l.toArray⟩ : ByteArray).extract m n = ⟨(l.drop m).toArray⟩ := by
  refine ByteArray.ext ?_
  rw [ByteArray.data_extract]; subst h; simp
  exact List.take_of_length_le (by simp)
set_option maxHeartbeats 8000000 in
set_option maxRecDepth 100000 in
theorem mstring_any (u : Int) (c : List UInt8) (w : World) (E : Env w) : Calls Tryz.prog 13 #[.agg #[.int .i64 u, .string ⟨c.toArray⟩]] w fun e w' => e = .returned (.string ⟨(strM u c).toArray⟩) ∧ Below w.heap.size w w' := by
  have CK := Lib.hid (fun W => mcheck_any u c W)
  by_cases h : amE u c = 0
  · obtain ⟨hu, k, t, hk, rfl⟩ := amE_0 h
    obtain ⟨s1, s2, s3, s4⟩ := cur_sc hk
    obtain ⟨t1, t21⟩ := txt_abs_len u hu
    obtain ⟨u0, u1⟩ := inU_iffS.1 hu
    have SC := Lib.hid (fun W => scale_any t.1 W)
    have hEA := Lib.hid (fun W (hb : Below w.heap.size w W) => E.below hb)
    have IT : Hid (∀ W, Below w.heap.size w W → Calls Tryz.prog 39 #[.int .i64 u] W fun e w' => e = .returned (.string ⟨(txt u).toArray⟩) ∧ Below W.heap.size W w') := Lib.hid fun W hb => itoa_any u (by omega) (by omega) W (hEA.out W hb)
    have PF := Lib.hid (fun W => prefix_any (txt u) W)
    rw [pf_txt u] at PF
    have OUT : Hid (strM u t.1 = (if u < 0 then [45] else []) ++ (ptM t.2.toNat (padM t.2.toNat (txt u.natAbs)) ++ 32 :: t.1)) := Lib.hid (by unfold strM; rw [if_pos h, s1])
    obtain ⟨τ, hτ⟩ : ∃ τ, txt u.natAbs = τ := ⟨_, rfl⟩
    rw [hτ] at OUT PF t1 t21
    rw [h] at CK
    rw [s1, s2] at SC
    obtain ⟨F, hF⟩ : ∃ F : ByteArray, ⟨(strM u t.1).toArray⟩ = F := ⟨_, rfl⟩
    have FIN := Lib.hid hF
    rw [hF]
    have zc : (⟨t.1.toArray⟩ : ByteArray).size = 3 := by rw [ba_szP]; exact s4
    have zτ : (⟨τ.toArray⟩ : ByteArray).size = τ.length := ba_szP τ
    have s32 : (⟨#[32]⟩ : ByteArray).size = 1 := rfl
    have s45 : (⟨#[45]⟩ : ByteArray).size = 1 := rfl
    have s46 : (⟨#[46]⟩ : ByteArray).size = 1 := rfl
    clear h hu hk s1 s2 s4 hτ hF u0 u1 E
    generalize (⟨(txt u).toArray⟩ : ByteArray) = TU at *
    generalize strM u t.1 = sm at *
    generalize t.2 = sc at *
    generalize t.1 = cl at *
    rcases s3 with rfl | rfl | rfl
    · by_cases hn : u < 0
      · rw [decide_eq_true hn] at PF
        dsimp only at PF
        replace OUT : Hid (sm = (if u < 0 then [45] else []) ++ (ptM 0 (padM 0 τ) ++ 32 :: cl)) := OUT
        have hlen1 : 1 ≤ τ.length := t1
        have PD : padM 0 τ = τ := by unfold padM; rw [show 0 + 1 - τ.length = 0 by omega]; rfl
        rw [PD] at OUT
        obtain ⟨M, hM⟩ : ∃ Y, (⟨#[45]⟩ : ByteArray) ++ (⟨τ.toArray⟩ : ByteArray) = Y := ⟨_, rfl⟩
        have zM : M.size ≤ 100 := by rw [← hM, ByteArray.size_append]; omega
        obtain ⟨Q, hQ⟩ : ∃ Y, M ++ (⟨#[32]⟩ : ByteArray) = Y := ⟨_, rfl⟩
        have zQ : Q.size ≤ 200 := by rw [← hQ, ByteArray.size_append]; omega
        have hO : Q ++ (⟨cl.toArray⟩ : ByteArray) = F := by
          rw [← FIN.out, OUT.out, if_pos hn]
          rw [← hQ, ← hM]
          rw [show ptM 0 τ = τ from rfl]
          rw [show (⟨#[32]⟩ : ByteArray) = ⟨([32] : List UInt8).toArray⟩ from rfl]
          rw [show (⟨#[45]⟩ : ByteArray) = ⟨([45] : List UInt8).toArray⟩ from rfl]
          simp only [app_str]; simp
        clear OUT FIN PD
        generalize (⟨τ.toArray⟩ : ByteArray) = TT at *
        generalize (⟨cl.toArray⟩ : ByteArray) = CU at *
        go_enter Tryz.func13, Tryz.ntmps13
        go_wp2_with (first | (go_at_call 14; refine (CK.out _).mono ?_; rintro e w1 ⟨rfl, hb1⟩; obtain ⟨hc1, hf1⟩ := bcell hb1; have hs1 := hb1.size; (try simp at hs1); have hz1 : w.heap.size < w1.heap.size := by have := hb1.size; (try simp at this); omega) | (go_at_call 33; refine (SC.out _).mono ?_; rintro e w2 ⟨rfl, hb2⟩; obtain ⟨hc2, hf2⟩ := bcell hb2; have hs2 := hb2.size; (try simp at hs2); have hz2 : w.heap.size < w2.heap.size := by have := hb2.size; (try simp at this); omega) | (go_at_call 39; refine (IT.out _ (by repeat (first | exact Below.refl _ _ | refine Below.setCell ?_ (by first | (simp; done) | (simp; omega) | omega) _ | refine Below.alloc ?_ (by first | (simp; done) | (simp; omega) | omega) _ | refine Below.drew ?_ | assumption | refine Below.trans ?_ (Below.mono (by assumption) (by first | (simp; done) | (simp; omega) | omega))))).mono ?_; rintro e w3 ⟨rfl, hb3⟩; obtain ⟨hc3, hf3⟩ := bcell hb3; have hs3 := hb3.size; (try simp at hs3); have hz3 : w.heap.size < w3.heap.size := by have := hb3.size; (try simp at this); omega) | (go_at_call 30; refine (PF.out _).mono ?_; rintro e w4 ⟨rfl, hb4⟩; obtain ⟨hc4, hf4⟩ := bcell hb4; have hs4 := hb4.size; (try simp at hs4); have hz4 : w.heap.size < w4.heap.size := by have := hb4.size; (try simp at this); omega))
        go_ret
        exact ⟨rfl, (by repeat (first | exact Below.refl _ _ | refine Below.setCell ?_ (by first | (simp; done) | (simp; omega) | omega) _ | refine Below.alloc ?_ (by first | (simp; done) | (simp; omega) | omega) _ | refine below_drewM ?_ _ | refine Below.drew ?_ | assumption | refine Below.trans ?_ (Below.mono (by assumption) (by first | (simp; done) | (simp; omega) | omega))))⟩
      · rw [decide_eq_false hn] at PF
        dsimp only at PF
        replace OUT : Hid (sm = (if u < 0 then [45] else []) ++ (ptM 0 (padM 0 τ) ++ 32 :: cl)) := OUT
        have hlen1 : 1 ≤ τ.length := t1
        have PD : padM 0 τ = τ := by unfold padM; rw [show 0 + 1 - τ.length = 0 by omega]; rfl
        rw [PD] at OUT
        obtain ⟨Q, hQ⟩ : ∃ Y, (⟨τ.toArray⟩ : ByteArray) ++ (⟨#[32]⟩ : ByteArray) = Y := ⟨_, rfl⟩
        have zQ : Q.size ≤ 200 := by rw [← hQ, ByteArray.size_append]; omega
        have hO : Q ++ (⟨cl.toArray⟩ : ByteArray) = F := by
          rw [← FIN.out, OUT.out, if_neg hn]
          rw [← hQ]
          rw [show ptM 0 τ = τ from rfl]
          rw [show (⟨#[32]⟩ : ByteArray) = ⟨([32] : List UInt8).toArray⟩ from rfl]
          simp only [app_str]; simp
        clear OUT FIN PD
        generalize (⟨τ.toArray⟩ : ByteArray) = TT at *
        generalize (⟨cl.toArray⟩ : ByteArray) = CU at *
        go_enter Tryz.func13, Tryz.ntmps13
        go_wp2_with (first | (go_at_call 14; refine (CK.out _).mono ?_; rintro e w1 ⟨rfl, hb1⟩; obtain ⟨hc1, hf1⟩ := bcell hb1; have hs1 := hb1.size; (try simp at hs1); have hz1 : w.heap.size < w1.heap.size := by have := hb1.size; (try simp at this); omega) | (go_at_call 33; refine (SC.out _).mono ?_; rintro e w2 ⟨rfl, hb2⟩; obtain ⟨hc2, hf2⟩ := bcell hb2; have hs2 := hb2.size; (try simp at hs2); have hz2 : w.heap.size < w2.heap.size := by have := hb2.size; (try simp at this); omega) | (go_at_call 39; refine (IT.out _ (by repeat (first | exact Below.refl _ _ | refine Below.setCell ?_ (by first | (simp; done) | (simp; omega) | omega) _ | refine Below.alloc ?_ (by first | (simp; done) | (simp; omega) | omega) _ | refine Below.drew ?_ | assumption | refine Below.trans ?_ (Below.mono (by assumption) (by first | (simp; done) | (simp; omega) | omega))))).mono ?_; rintro e w3 ⟨rfl, hb3⟩; obtain ⟨hc3, hf3⟩ := bcell hb3; have hs3 := hb3.size; (try simp at hs3); have hz3 : w.heap.size < w3.heap.size := by have := hb3.size; (try simp at this); omega) | (go_at_call 30; refine (PF.out _).mono ?_; rintro e w4 ⟨rfl, hb4⟩; obtain ⟨hc4, hf4⟩ := bcell hb4; have hs4 := hb4.size; (try simp at hs4); have hz4 : w.heap.size < w4.heap.size := by have := hb4.size; (try simp at this); omega))
        go_ret
        exact ⟨rfl, (by repeat (first | exact Below.refl _ _ | refine Below.setCell ?_ (by first | (simp; done) | (simp; omega) | omega) _ | refine Below.alloc ?_ (by first | (simp; done) | (simp; omega) | omega) _ | refine below_drewM ?_ _ | refine Below.drew ?_ | assumption | refine Below.trans ?_ (Below.mono (by assumption) (by first | (simp; done) | (simp; omega) | omega))))⟩
    · by_cases hn : u < 0
      · rw [decide_eq_true hn] at PF
        dsimp only at PF
        replace OUT : Hid (sm = (if u < 0 then [45] else []) ++ (ptM 2 (padM 2 τ) ++ 32 :: cl)) := OUT
        rcases (show τ.length = 1 ∨ τ.length = 2 ∨ 3 ≤ τ.length by omega) with hlen | hlen | hlen
        · have PD : padM 2 τ = List.replicate 2 48 ++ τ := by unfold padM; rw [hlen]
          have ZR : Hid (∀ W, Calls Tryz.prog 35 #[.string ⟨#[48]⟩, .int .i64 2] W fun e w' => e = .returned (.string ⟨(List.replicate 2 48).toArray⟩) ∧ Below W.heap.size W w') := Lib.hid fun W => zeros_any 2 (by omega) W
          have hP : (⟨(List.replicate 2 (48 : UInt8)).toArray⟩ : ByteArray) ++ ⟨τ.toArray⟩ = ⟨(padM 2 τ).toArray⟩ := by rw [PD, app_str]
          have zZ : (⟨(List.replicate 2 (48 : UInt8)).toArray⟩ : ByteArray).size = 2 := by rw [ba_szP]; rfl
          have lP : (padM 2 τ).length = 3 := by rw [PD]; simp [hlen]
          have zP : (⟨(padM 2 τ).toArray⟩ : ByteArray).size = 3 := by rw [ba_szP]; exact lP
          rw [hlen] at zτ
          generalize (⟨(List.replicate 2 (48 : UInt8)).toArray⟩ : ByteArray) = ZS at *
          have e1 := ext_take (padM 2 τ) (1)
          have e2 := ext_drop (padM 2 τ) (1) (3) lP
          have hpt : ptM 2 (padM 2 τ) = (padM 2 τ).take (1) ++ 46 :: (padM 2 τ).drop (1) := by unfold ptM; rw [if_neg (by decide), lP]
          obtain ⟨H1, hH1⟩ : ∃ Y, (⟨((padM 2 τ).take (1)).toArray⟩ : ByteArray) ++ (⟨#[46]⟩ : ByteArray) = Y := ⟨_, rfl⟩
          obtain ⟨H2, hH2⟩ : ∃ Y, H1 ++ (⟨((padM 2 τ).drop (1)).toArray⟩ : ByteArray) = Y := ⟨_, rfl⟩
          have zF : (⟨((padM 2 τ).take (1)).toArray⟩ : ByteArray).size ≤ 25 := by rw [ba_szP, List.length_take]; omega
          have zG : (⟨((padM 2 τ).drop (1)).toArray⟩ : ByteArray).size ≤ 25 := by rw [ba_szP, List.length_drop]; omega
          have zH1 : H1.size ≤ 26 := by rw [← hH1, ByteArray.size_append]; omega
          have zH2 : H2.size ≤ 51 := by rw [← hH2, ByteArray.size_append]; omega
          have b1 : ∀ W : World, (Op.stringOp .add ⟨((padM 2 τ).take (1)).toArray⟩ ⟨#[46]⟩).run Tryz.prog W = .ok (.string H1) W := fun W => by rw [← hH1]; exact run_string_add_sum W _ _ (by omega)
          have b2 : ∀ W : World, (Op.stringOp .add H1 ⟨((padM 2 τ).drop (1)).toArray⟩).run Tryz.prog W = .ok (.string H2) W := fun W => by rw [← hH2]; exact run_string_add_sum W _ _ (by omega)
          obtain ⟨M, hM⟩ : ∃ Y, (⟨#[45]⟩ : ByteArray) ++ H2 = Y := ⟨_, rfl⟩
          have zM : M.size ≤ 100 := by rw [← hM, ByteArray.size_append]; omega
          obtain ⟨Q, hQ⟩ : ∃ Y, M ++ (⟨#[32]⟩ : ByteArray) = Y := ⟨_, rfl⟩
          have zQ : Q.size ≤ 200 := by rw [← hQ, ByteArray.size_append]; omega
          have hO : Q ++ (⟨cl.toArray⟩ : ByteArray) = F := by
            rw [← FIN.out, OUT.out, if_pos hn]
            rw [← hQ, ← hM, ← hH2, ← hH1]
            rw [hpt]
            rw [show (⟨#[32]⟩ : ByteArray) = ⟨([32] : List UInt8).toArray⟩ from rfl]
            rw [show (⟨#[45]⟩ : ByteArray) = ⟨([45] : List UInt8).toArray⟩ from rfl]
            rw [show (⟨#[46]⟩ : ByteArray) = ⟨([46] : List UInt8).toArray⟩ from rfl]
            simp only [app_str]; simp
          clear OUT FIN PD
          clear hpt hH1 hH2 lP
          generalize (⟨((padM 2 τ).take (1)).toArray⟩ : ByteArray) = FF at *
          generalize (⟨((padM 2 τ).drop (1)).toArray⟩ : ByteArray) = GG at *
          generalize (⟨(padM 2 τ).toArray⟩ : ByteArray) = PP at *
          generalize (⟨τ.toArray⟩ : ByteArray) = TT at *
          generalize (⟨cl.toArray⟩ : ByteArray) = CU at *
          go_enter Tryz.func13, Tryz.ntmps13
          go_wp2_with (first | (go_at_call 14; refine (CK.out _).mono ?_; rintro e w1 ⟨rfl, hb1⟩; obtain ⟨hc1, hf1⟩ := bcell hb1; have hs1 := hb1.size; (try simp at hs1); have hz1 : w.heap.size < w1.heap.size := by have := hb1.size; (try simp at this); omega) | (go_at_call 33; refine (SC.out _).mono ?_; rintro e w2 ⟨rfl, hb2⟩; obtain ⟨hc2, hf2⟩ := bcell hb2; have hs2 := hb2.size; (try simp at hs2); have hz2 : w.heap.size < w2.heap.size := by have := hb2.size; (try simp at this); omega) | (go_at_call 39; refine (IT.out _ (by repeat (first | exact Below.refl _ _ | refine Below.setCell ?_ (by first | (simp; done) | (simp; omega) | omega) _ | refine Below.alloc ?_ (by first | (simp; done) | (simp; omega) | omega) _ | refine Below.drew ?_ | assumption | refine Below.trans ?_ (Below.mono (by assumption) (by first | (simp; done) | (simp; omega) | omega))))).mono ?_; rintro e w3 ⟨rfl, hb3⟩; obtain ⟨hc3, hf3⟩ := bcell hb3; have hs3 := hb3.size; (try simp at hs3); have hz3 : w.heap.size < w3.heap.size := by have := hb3.size; (try simp at this); omega) | (go_at_call 30; refine (PF.out _).mono ?_; rintro e w4 ⟨rfl, hb4⟩; obtain ⟨hc4, hf4⟩ := bcell hb4; have hs4 := hb4.size; (try simp at hs4); have hz4 : w.heap.size < w4.heap.size := by have := hb4.size; (try simp at this); omega) | (go_at_call 35; refine (ZR.out _).mono ?_; rintro e w5 ⟨rfl, hb5⟩; obtain ⟨hc5, hf5⟩ := bcell hb5; have hs5 := hb5.size; (try simp at hs5); have hz5 : w.heap.size < w5.heap.size := by have := hb5.size; (try simp at this); omega))
          go_quiet (fail)
          go_wp2
          go_ret
          exact ⟨rfl, (by repeat (first | exact Below.refl _ _ | refine Below.setCell ?_ (by first | (simp; done) | (simp; omega) | omega) _ | refine Below.alloc ?_ (by first | (simp; done) | (simp; omega) | omega) _ | refine below_drewM ?_ _ | refine Below.drew ?_ | assumption | refine Below.trans ?_ (Below.mono (by assumption) (by first | (simp; done) | (simp; omega) | omega))))⟩
        · have PD : padM 2 τ = List.replicate 1 48 ++ τ := by unfold padM; rw [hlen]
          have ZR : Hid (∀ W, Calls Tryz.prog 35 #[.string ⟨#[48]⟩, .int .i64 1] W fun e w' => e = .returned (.string ⟨(List.replicate 1 48).toArray⟩) ∧ Below W.heap.size W w') := Lib.hid fun W => zeros_any 1 (by omega) W
          have hP : (⟨(List.replicate 1 (48 : UInt8)).toArray⟩ : ByteArray) ++ ⟨τ.toArray⟩ = ⟨(padM 2 τ).toArray⟩ := by rw [PD, app_str]
          have zZ : (⟨(List.replicate 1 (48 : UInt8)).toArray⟩ : ByteArray).size = 1 := by rw [ba_szP]; rfl
          have lP : (padM 2 τ).length = 3 := by rw [PD]; simp [hlen]
          have zP : (⟨(padM 2 τ).toArray⟩ : ByteArray).size = 3 := by rw [ba_szP]; exact lP
          rw [hlen] at zτ
          generalize (⟨(List.replicate 1 (48 : UInt8)).toArray⟩ : ByteArray) = ZS at *
          have e1 := ext_take (padM 2 τ) (1)
          have e2 := ext_drop (padM 2 τ) (1) (3) lP
          have hpt : ptM 2 (padM 2 τ) = (padM 2 τ).take (1) ++ 46 :: (padM 2 τ).drop (1) := by unfold ptM; rw [if_neg (by decide), lP]
          obtain ⟨H1, hH1⟩ : ∃ Y, (⟨((padM 2 τ).take (1)).toArray⟩ : ByteArray) ++ (⟨#[46]⟩ : ByteArray) = Y := ⟨_, rfl⟩
          obtain ⟨H2, hH2⟩ : ∃ Y, H1 ++ (⟨((padM 2 τ).drop (1)).toArray⟩ : ByteArray) = Y := ⟨_, rfl⟩
          have zF : (⟨((padM 2 τ).take (1)).toArray⟩ : ByteArray).size ≤ 25 := by rw [ba_szP, List.length_take]; omega
          have zG : (⟨((padM 2 τ).drop (1)).toArray⟩ : ByteArray).size ≤ 25 := by rw [ba_szP, List.length_drop]; omega
          have zH1 : H1.size ≤ 26 := by rw [← hH1, ByteArray.size_append]; omega
          have zH2 : H2.size ≤ 51 := by rw [← hH2, ByteArray.size_append]; omega
          have b1 : ∀ W : World, (Op.stringOp .add ⟨((padM 2 τ).take (1)).toArray⟩ ⟨#[46]⟩).run Tryz.prog W = .ok (.string H1) W := fun W => by rw [← hH1]; exact run_string_add_sum W _ _ (by omega)
          have b2 : ∀ W : World, (Op.stringOp .add H1 ⟨((padM 2 τ).drop (1)).toArray⟩).run Tryz.prog W = .ok (.string H2) W := fun W => by rw [← hH2]; exact run_string_add_sum W _ _ (by omega)
          obtain ⟨M, hM⟩ : ∃ Y, (⟨#[45]⟩ : ByteArray) ++ H2 = Y := ⟨_, rfl⟩
          have zM : M.size ≤ 100 := by rw [← hM, ByteArray.size_append]; omega
          obtain ⟨Q, hQ⟩ : ∃ Y, M ++ (⟨#[32]⟩ : ByteArray) = Y := ⟨_, rfl⟩
          have zQ : Q.size ≤ 200 := by rw [← hQ, ByteArray.size_append]; omega
          have hO : Q ++ (⟨cl.toArray⟩ : ByteArray) = F := by
            rw [← FIN.out, OUT.out, if_pos hn]
            rw [← hQ, ← hM, ← hH2, ← hH1]
            rw [hpt]
            rw [show (⟨#[32]⟩ : ByteArray) = ⟨([32] : List UInt8).toArray⟩ from rfl]
            rw [show (⟨#[45]⟩ : ByteArray) = ⟨([45] : List UInt8).toArray⟩ from rfl]
            rw [show (⟨#[46]⟩ : ByteArray) = ⟨([46] : List UInt8).toArray⟩ from rfl]
            simp only [app_str]; simp
          clear OUT FIN PD
          clear hpt hH1 hH2 lP
          generalize (⟨((padM 2 τ).take (1)).toArray⟩ : ByteArray) = FF at *
          generalize (⟨((padM 2 τ).drop (1)).toArray⟩ : ByteArray) = GG at *
          generalize (⟨(padM 2 τ).toArray⟩ : ByteArray) = PP at *
          generalize (⟨τ.toArray⟩ : ByteArray) = TT at *
          generalize (⟨cl.toArray⟩ : ByteArray) = CU at *
          go_enter Tryz.func13, Tryz.ntmps13
          go_wp2_with (first | (go_at_call 14; refine (CK.out _).mono ?_; rintro e w1 ⟨rfl, hb1⟩; obtain ⟨hc1, hf1⟩ := bcell hb1; have hs1 := hb1.size; (try simp at hs1); have hz1 : w.heap.size < w1.heap.size := by have := hb1.size; (try simp at this); omega) | (go_at_call 33; refine (SC.out _).mono ?_; rintro e w2 ⟨rfl, hb2⟩; obtain ⟨hc2, hf2⟩ := bcell hb2; have hs2 := hb2.size; (try simp at hs2); have hz2 : w.heap.size < w2.heap.size := by have := hb2.size; (try simp at this); omega) | (go_at_call 39; refine (IT.out _ (by repeat (first | exact Below.refl _ _ | refine Below.setCell ?_ (by first | (simp; done) | (simp; omega) | omega) _ | refine Below.alloc ?_ (by first | (simp; done) | (simp; omega) | omega) _ | refine Below.drew ?_ | assumption | refine Below.trans ?_ (Below.mono (by assumption) (by first | (simp; done) | (simp; omega) | omega))))).mono ?_; rintro e w3 ⟨rfl, hb3⟩; obtain ⟨hc3, hf3⟩ := bcell hb3; have hs3 := hb3.size; (try simp at hs3); have hz3 : w.heap.size < w3.heap.size := by have := hb3.size; (try simp at this); omega) | (go_at_call 30; refine (PF.out _).mono ?_; rintro e w4 ⟨rfl, hb4⟩; obtain ⟨hc4, hf4⟩ := bcell hb4; have hs4 := hb4.size; (try simp at hs4); have hz4 : w.heap.size < w4.heap.size := by have := hb4.size; (try simp at this); omega) | (go_at_call 35; refine (ZR.out _).mono ?_; rintro e w5 ⟨rfl, hb5⟩; obtain ⟨hc5, hf5⟩ := bcell hb5; have hs5 := hb5.size; (try simp at hs5); have hz5 : w.heap.size < w5.heap.size := by have := hb5.size; (try simp at this); omega))
          go_quiet (fail)
          go_wp2
          go_ret
          exact ⟨rfl, (by repeat (first | exact Below.refl _ _ | refine Below.setCell ?_ (by first | (simp; done) | (simp; omega) | omega) _ | refine Below.alloc ?_ (by first | (simp; done) | (simp; omega) | omega) _ | refine below_drewM ?_ _ | refine Below.drew ?_ | assumption | refine Below.trans ?_ (Below.mono (by assumption) (by first | (simp; done) | (simp; omega) | omega))))⟩
        · have PD : padM 2 τ = τ := by unfold padM; rw [show 2 + 1 - τ.length = 0 by omega]; rfl
          rw [PD] at OUT
          obtain ⟨m, hm⟩ : ∃ m, τ.length = m + 2 := ⟨τ.length - 2, by omega⟩
          rw [hm] at zτ
          have m1 : 1 ≤ m := by omega
          have m2 : m ≤ 21 := by omega
          have lP := hm
          have e1 := ext_take (τ) (m)
          have e2 := ext_drop (τ) (m) (m + 2) lP
          have hpt : ptM 2 τ = τ.take m ++ 46 :: τ.drop m := by unfold ptM; rw [if_neg (by decide), lP, show m + 2 - 2 = m by omega]
          obtain ⟨H1, hH1⟩ : ∃ Y, (⟨((τ).take (m)).toArray⟩ : ByteArray) ++ (⟨#[46]⟩ : ByteArray) = Y := ⟨_, rfl⟩
          obtain ⟨H2, hH2⟩ : ∃ Y, H1 ++ (⟨((τ).drop (m)).toArray⟩ : ByteArray) = Y := ⟨_, rfl⟩
          have zF : (⟨((τ).take (m)).toArray⟩ : ByteArray).size ≤ 25 := by rw [ba_szP, List.length_take]; omega
          have zG : (⟨((τ).drop (m)).toArray⟩ : ByteArray).size ≤ 25 := by rw [ba_szP, List.length_drop]; omega
          have zH1 : H1.size ≤ 26 := by rw [← hH1, ByteArray.size_append]; omega
          have zH2 : H2.size ≤ 51 := by rw [← hH2, ByteArray.size_append]; omega
          have b1 : ∀ W : World, (Op.stringOp .add ⟨((τ).take (m)).toArray⟩ ⟨#[46]⟩).run Tryz.prog W = .ok (.string H1) W := fun W => by rw [← hH1]; exact run_string_add_sum W _ _ (by omega)
          have b2 : ∀ W : World, (Op.stringOp .add H1 ⟨((τ).drop (m)).toArray⟩).run Tryz.prog W = .ok (.string H2) W := fun W => by rw [← hH2]; exact run_string_add_sum W _ _ (by omega)
          obtain ⟨M, hM⟩ : ∃ Y, (⟨#[45]⟩ : ByteArray) ++ H2 = Y := ⟨_, rfl⟩
          have zM : M.size ≤ 100 := by rw [← hM, ByteArray.size_append]; omega
          obtain ⟨Q, hQ⟩ : ∃ Y, M ++ (⟨#[32]⟩ : ByteArray) = Y := ⟨_, rfl⟩
          have zQ : Q.size ≤ 200 := by rw [← hQ, ByteArray.size_append]; omega
          have hO : Q ++ (⟨cl.toArray⟩ : ByteArray) = F := by
            rw [← FIN.out, OUT.out, if_pos hn]
            rw [← hQ, ← hM, ← hH2, ← hH1]
            rw [hpt]
            rw [show (⟨#[32]⟩ : ByteArray) = ⟨([32] : List UInt8).toArray⟩ from rfl]
            rw [show (⟨#[45]⟩ : ByteArray) = ⟨([45] : List UInt8).toArray⟩ from rfl]
            rw [show (⟨#[46]⟩ : ByteArray) = ⟨([46] : List UInt8).toArray⟩ from rfl]
            simp only [app_str]; simp
          clear OUT FIN PD
          clear hpt hH1 hH2 lP
          generalize (⟨((τ).take (m)).toArray⟩ : ByteArray) = FF at *
          generalize (⟨((τ).drop (m)).toArray⟩ : ByteArray) = GG at *
          generalize (⟨τ.toArray⟩ : ByteArray) = TT at *
          generalize (⟨cl.toArray⟩ : ByteArray) = CU at *
          go_enter Tryz.func13, Tryz.ntmps13
          go_wp2_with (first | (go_at_call 14; refine (CK.out _).mono ?_; rintro e w1 ⟨rfl, hb1⟩; obtain ⟨hc1, hf1⟩ := bcell hb1; have hs1 := hb1.size; (try simp at hs1); have hz1 : w.heap.size < w1.heap.size := by have := hb1.size; (try simp at this); omega) | (go_at_call 33; refine (SC.out _).mono ?_; rintro e w2 ⟨rfl, hb2⟩; obtain ⟨hc2, hf2⟩ := bcell hb2; have hs2 := hb2.size; (try simp at hs2); have hz2 : w.heap.size < w2.heap.size := by have := hb2.size; (try simp at this); omega) | (go_at_call 39; refine (IT.out _ (by repeat (first | exact Below.refl _ _ | refine Below.setCell ?_ (by first | (simp; done) | (simp; omega) | omega) _ | refine Below.alloc ?_ (by first | (simp; done) | (simp; omega) | omega) _ | refine Below.drew ?_ | assumption | refine Below.trans ?_ (Below.mono (by assumption) (by first | (simp; done) | (simp; omega) | omega))))).mono ?_; rintro e w3 ⟨rfl, hb3⟩; obtain ⟨hc3, hf3⟩ := bcell hb3; have hs3 := hb3.size; (try simp at hs3); have hz3 : w.heap.size < w3.heap.size := by have := hb3.size; (try simp at this); omega) | (go_at_call 30; refine (PF.out _).mono ?_; rintro e w4 ⟨rfl, hb4⟩; obtain ⟨hc4, hf4⟩ := bcell hb4; have hs4 := hb4.size; (try simp at hs4); have hz4 : w.heap.size < w4.heap.size := by have := hb4.size; (try simp at this); omega))
          go_quiet (fail)
          go_wp2
          go_ret
          exact ⟨rfl, (by repeat (first | exact Below.refl _ _ | refine Below.setCell ?_ (by first | (simp; done) | (simp; omega) | omega) _ | refine Below.alloc ?_ (by first | (simp; done) | (simp; omega) | omega) _ | refine below_drewM ?_ _ | refine Below.drew ?_ | assumption | refine Below.trans ?_ (Below.mono (by assumption) (by first | (simp; done) | (simp; omega) | omega))))⟩
      · rw [decide_eq_false hn] at PF
        dsimp only at PF
        replace OUT : Hid (sm = (if u < 0 then [45] else []) ++ (ptM 2 (padM 2 τ) ++ 32 :: cl)) := OUT
        rcases (show τ.length = 1 ∨ τ.length = 2 ∨ 3 ≤ τ.length by omega) with hlen | hlen | hlen
        · have PD : padM 2 τ = List.replicate 2 48 ++ τ := by unfold padM; rw [hlen]
          have ZR : Hid (∀ W, Calls Tryz.prog 35 #[.string ⟨#[48]⟩, .int .i64 2] W fun e w' => e = .returned (.string ⟨(List.replicate 2 48).toArray⟩) ∧ Below W.heap.size W w') := Lib.hid fun W => zeros_any 2 (by omega) W
          have hP : (⟨(List.replicate 2 (48 : UInt8)).toArray⟩ : ByteArray) ++ ⟨τ.toArray⟩ = ⟨(padM 2 τ).toArray⟩ := by rw [PD, app_str]
          have zZ : (⟨(List.replicate 2 (48 : UInt8)).toArray⟩ : ByteArray).size = 2 := by rw [ba_szP]; rfl
          have lP : (padM 2 τ).length = 3 := by rw [PD]; simp [hlen]
          have zP : (⟨(padM 2 τ).toArray⟩ : ByteArray).size = 3 := by rw [ba_szP]; exact lP
          rw [hlen] at zτ
          generalize (⟨(List.replicate 2 (48 : UInt8)).toArray⟩ : ByteArray) = ZS at *
          have e1 := ext_take (padM 2 τ) (1)
          have e2 := ext_drop (padM 2 τ) (1) (3) lP
          have hpt : ptM 2 (padM 2 τ) = (padM 2 τ).take (1) ++ 46 :: (padM 2 τ).drop (1) := by unfold ptM; rw [if_neg (by decide), lP]
          obtain ⟨H1, hH1⟩ : ∃ Y, (⟨((padM 2 τ).take (1)).toArray⟩ : ByteArray) ++ (⟨#[46]⟩ : ByteArray) = Y := ⟨_, rfl⟩
          obtain ⟨H2, hH2⟩ : ∃ Y, H1 ++ (⟨((padM 2 τ).drop (1)).toArray⟩ : ByteArray) = Y := ⟨_, rfl⟩
          have zF : (⟨((padM 2 τ).take (1)).toArray⟩ : ByteArray).size ≤ 25 := by rw [ba_szP, List.length_take]; omega
          have zG : (⟨((padM 2 τ).drop (1)).toArray⟩ : ByteArray).size ≤ 25 := by rw [ba_szP, List.length_drop]; omega
          have zH1 : H1.size ≤ 26 := by rw [← hH1, ByteArray.size_append]; omega
          have zH2 : H2.size ≤ 51 := by rw [← hH2, ByteArray.size_append]; omega
          have b1 : ∀ W : World, (Op.stringOp .add ⟨((padM 2 τ).take (1)).toArray⟩ ⟨#[46]⟩).run Tryz.prog W = .ok (.string H1) W := fun W => by rw [← hH1]; exact run_string_add_sum W _ _ (by omega)
          have b2 : ∀ W : World, (Op.stringOp .add H1 ⟨((padM 2 τ).drop (1)).toArray⟩).run Tryz.prog W = .ok (.string H2) W := fun W => by rw [← hH2]; exact run_string_add_sum W _ _ (by omega)
          obtain ⟨Q, hQ⟩ : ∃ Y, H2 ++ (⟨#[32]⟩ : ByteArray) = Y := ⟨_, rfl⟩
          have zQ : Q.size ≤ 200 := by rw [← hQ, ByteArray.size_append]; omega
          have hO : Q ++ (⟨cl.toArray⟩ : ByteArray) = F := by
            rw [← FIN.out, OUT.out, if_neg hn]
            rw [← hQ, ← hH2, ← hH1]
            rw [hpt]
            rw [show (⟨#[32]⟩ : ByteArray) = ⟨([32] : List UInt8).toArray⟩ from rfl]
            rw [show (⟨#[46]⟩ : ByteArray) = ⟨([46] : List UInt8).toArray⟩ from rfl]
            simp only [app_str]; simp
          clear OUT FIN PD
          clear hpt hH1 hH2 lP
          generalize (⟨((padM 2 τ).take (1)).toArray⟩ : ByteArray) = FF at *
          generalize (⟨((padM 2 τ).drop (1)).toArray⟩ : ByteArray) = GG at *
          generalize (⟨(padM 2 τ).toArray⟩ : ByteArray) = PP at *
          generalize (⟨τ.toArray⟩ : ByteArray) = TT at *
          generalize (⟨cl.toArray⟩ : ByteArray) = CU at *
          go_enter Tryz.func13, Tryz.ntmps13
          go_wp2_with (first | (go_at_call 14; refine (CK.out _).mono ?_; rintro e w1 ⟨rfl, hb1⟩; obtain ⟨hc1, hf1⟩ := bcell hb1; have hs1 := hb1.size; (try simp at hs1); have hz1 : w.heap.size < w1.heap.size := by have := hb1.size; (try simp at this); omega) | (go_at_call 33; refine (SC.out _).mono ?_; rintro e w2 ⟨rfl, hb2⟩; obtain ⟨hc2, hf2⟩ := bcell hb2; have hs2 := hb2.size; (try simp at hs2); have hz2 : w.heap.size < w2.heap.size := by have := hb2.size; (try simp at this); omega) | (go_at_call 39; refine (IT.out _ (by repeat (first | exact Below.refl _ _ | refine Below.setCell ?_ (by first | (simp; done) | (simp; omega) | omega) _ | refine Below.alloc ?_ (by first | (simp; done) | (simp; omega) | omega) _ | refine Below.drew ?_ | assumption | refine Below.trans ?_ (Below.mono (by assumption) (by first | (simp; done) | (simp; omega) | omega))))).mono ?_; rintro e w3 ⟨rfl, hb3⟩; obtain ⟨hc3, hf3⟩ := bcell hb3; have hs3 := hb3.size; (try simp at hs3); have hz3 : w.heap.size < w3.heap.size := by have := hb3.size; (try simp at this); omega) | (go_at_call 30; refine (PF.out _).mono ?_; rintro e w4 ⟨rfl, hb4⟩; obtain ⟨hc4, hf4⟩ := bcell hb4; have hs4 := hb4.size; (try simp at hs4); have hz4 : w.heap.size < w4.heap.size := by have := hb4.size; (try simp at this); omega) | (go_at_call 35; refine (ZR.out _).mono ?_; rintro e w5 ⟨rfl, hb5⟩; obtain ⟨hc5, hf5⟩ := bcell hb5; have hs5 := hb5.size; (try simp at hs5); have hz5 : w.heap.size < w5.heap.size := by have := hb5.size; (try simp at this); omega))
          go_quiet (fail)
          go_wp2
          go_ret
          exact ⟨rfl, (by repeat (first | exact Below.refl _ _ | refine Below.setCell ?_ (by first | (simp; done) | (simp; omega) | omega) _ | refine Below.alloc ?_ (by first | (simp; done) | (simp; omega) | omega) _ | refine below_drewM ?_ _ | refine Below.drew ?_ | assumption | refine Below.trans ?_ (Below.mono (by assumption) (by first | (simp; done) | (simp; omega) | omega))))⟩
        · have PD : padM 2 τ = List.replicate 1 48 ++ τ := by unfold padM; rw [hlen]
          have ZR : Hid (∀ W, Calls Tryz.prog 35 #[.string ⟨#[48]⟩, .int .i64 1] W fun e w' => e = .returned (.string ⟨(List.replicate 1 48).toArray⟩) ∧ Below W.heap.size W w') := Lib.hid fun W => zeros_any 1 (by omega) W
          have hP : (⟨(List.replicate 1 (48 : UInt8)).toArray⟩ : ByteArray) ++ ⟨τ.toArray⟩ = ⟨(padM 2 τ).toArray⟩ := by rw [PD, app_str]
          have zZ : (⟨(List.replicate 1 (48 : UInt8)).toArray⟩ : ByteArray).size = 1 := by rw [ba_szP]; rfl
          have lP : (padM 2 τ).length = 3 := by rw [PD]; simp [hlen]
          have zP : (⟨(padM 2 τ).toArray⟩ : ByteArray).size = 3 := by rw [ba_szP]; exact lP
          rw [hlen] at zτ
          generalize (⟨(List.replicate 1 (48 : UInt8)).toArray⟩ : ByteArray) = ZS at *
          have e1 := ext_take (padM 2 τ) (1)
          have e2 := ext_drop (padM 2 τ) (1) (3) lP
          have hpt : ptM 2 (padM 2 τ) = (padM 2 τ).take (1) ++ 46 :: (padM 2 τ).drop (1) := by unfold ptM; rw [if_neg (by decide), lP]
          obtain ⟨H1, hH1⟩ : ∃ Y, (⟨((padM 2 τ).take (1)).toArray⟩ : ByteArray) ++ (⟨#[46]⟩ : ByteArray) = Y := ⟨_, rfl⟩
          obtain ⟨H2, hH2⟩ : ∃ Y, H1 ++ (⟨((padM 2 τ).drop (1)).toArray⟩ : ByteArray) = Y := ⟨_, rfl⟩
          have zF : (⟨((padM 2 τ).take (1)).toArray⟩ : ByteArray).size ≤ 25 := by rw [ba_szP, List.length_take]; omega
          have zG : (⟨((padM 2 τ).drop (1)).toArray⟩ : ByteArray).size ≤ 25 := by rw [ba_szP, List.length_drop]; omega
          have zH1 : H1.size ≤ 26 := by rw [← hH1, ByteArray.size_append]; omega
          have zH2 : H2.size ≤ 51 := by rw [← hH2, ByteArray.size_append]; omega
          have b1 : ∀ W : World, (Op.stringOp .add ⟨((padM 2 τ).take (1)).toArray⟩ ⟨#[46]⟩).run Tryz.prog W = .ok (.string H1) W := fun W => by rw [← hH1]; exact run_string_add_sum W _ _ (by omega)
          have b2 : ∀ W : World, (Op.stringOp .add H1 ⟨((padM 2 τ).drop (1)).toArray⟩).run Tryz.prog W = .ok (.string H2) W := fun W => by rw [← hH2]; exact run_string_add_sum W _ _ (by omega)
          obtain ⟨Q, hQ⟩ : ∃ Y, H2 ++ (⟨#[32]⟩ : ByteArray) = Y := ⟨_, rfl⟩
          have zQ : Q.size ≤ 200 := by rw [← hQ, ByteArray.size_append]; omega
          have hO : Q ++ (⟨cl.toArray⟩ : ByteArray) = F := by
            rw [← FIN.out, OUT.out, if_neg hn]
            rw [← hQ, ← hH2, ← hH1]
            rw [hpt]
            rw [show (⟨#[32]⟩ : ByteArray) = ⟨([32] : List UInt8).toArray⟩ from rfl]
            rw [show (⟨#[46]⟩ : ByteArray) = ⟨([46] : List UInt8).toArray⟩ from rfl]
            simp only [app_str]; simp
          clear OUT FIN PD
          clear hpt hH1 hH2 lP
          generalize (⟨((padM 2 τ).take (1)).toArray⟩ : ByteArray) = FF at *
          generalize (⟨((padM 2 τ).drop (1)).toArray⟩ : ByteArray) = GG at *
          generalize (⟨(padM 2 τ).toArray⟩ : ByteArray) = PP at *
          generalize (⟨τ.toArray⟩ : ByteArray) = TT at *
          generalize (⟨cl.toArray⟩ : ByteArray) = CU at *
          go_enter Tryz.func13, Tryz.ntmps13
          go_wp2_with (first | (go_at_call 14; refine (CK.out _).mono ?_; rintro e w1 ⟨rfl, hb1⟩; obtain ⟨hc1, hf1⟩ := bcell hb1; have hs1 := hb1.size; (try simp at hs1); have hz1 : w.heap.size < w1.heap.size := by have := hb1.size; (try simp at this); omega) | (go_at_call 33; refine (SC.out _).mono ?_; rintro e w2 ⟨rfl, hb2⟩; obtain ⟨hc2, hf2⟩ := bcell hb2; have hs2 := hb2.size; (try simp at hs2); have hz2 : w.heap.size < w2.heap.size := by have := hb2.size; (try simp at this); omega) | (go_at_call 39; refine (IT.out _ (by repeat (first | exact Below.refl _ _ | refine Below.setCell ?_ (by first | (simp; done) | (simp; omega) | omega) _ | refine Below.alloc ?_ (by first | (simp; done) | (simp; omega) | omega) _ | refine Below.drew ?_ | assumption | refine Below.trans ?_ (Below.mono (by assumption) (by first | (simp; done) | (simp; omega) | omega))))).mono ?_; rintro e w3 ⟨rfl, hb3⟩; obtain ⟨hc3, hf3⟩ := bcell hb3; have hs3 := hb3.size; (try simp at hs3); have hz3 : w.heap.size < w3.heap.size := by have := hb3.size; (try simp at this); omega) | (go_at_call 30; refine (PF.out _).mono ?_; rintro e w4 ⟨rfl, hb4⟩; obtain ⟨hc4, hf4⟩ := bcell hb4; have hs4 := hb4.size; (try simp at hs4); have hz4 : w.heap.size < w4.heap.size := by have := hb4.size; (try simp at this); omega) | (go_at_call 35; refine (ZR.out _).mono ?_; rintro e w5 ⟨rfl, hb5⟩; obtain ⟨hc5, hf5⟩ := bcell hb5; have hs5 := hb5.size; (try simp at hs5); have hz5 : w.heap.size < w5.heap.size := by have := hb5.size; (try simp at this); omega))
          go_quiet (fail)
          go_wp2
          go_ret
          exact ⟨rfl, (by repeat (first | exact Below.refl _ _ | refine Below.setCell ?_ (by first | (simp; done) | (simp; omega) | omega) _ | refine Below.alloc ?_ (by first | (simp; done) | (simp; omega) | omega) _ | refine below_drewM ?_ _ | refine Below.drew ?_ | assumption | refine Below.trans ?_ (Below.mono (by assumption) (by first | (simp; done) | (simp; omega) | omega))))⟩
        · have PD : padM 2 τ = τ := by unfold padM; rw [show 2 + 1 - τ.length = 0 by omega]; rfl
          rw [PD] at OUT
          obtain ⟨m, hm⟩ : ∃ m, τ.length = m + 2 := ⟨τ.length - 2, by omega⟩
          rw [hm] at zτ
          have m1 : 1 ≤ m := by omega
          have m2 : m ≤ 21 := by omega
          have lP := hm
          have e1 := ext_take (τ) (m)
          have e2 := ext_drop (τ) (m) (m + 2) lP
          have hpt : ptM 2 τ = τ.take m ++ 46 :: τ.drop m := by unfold ptM; rw [if_neg (by decide), lP, show m + 2 - 2 = m by omega]
          obtain ⟨H1, hH1⟩ : ∃ Y, (⟨((τ).take (m)).toArray⟩ : ByteArray) ++ (⟨#[46]⟩ : ByteArray) = Y := ⟨_, rfl⟩
          obtain ⟨H2, hH2⟩ : ∃ Y, H1 ++ (⟨((τ).drop (m)).toArray⟩ : ByteArray) = Y := ⟨_, rfl⟩
          have zF : (⟨((τ).take (m)).toArray⟩ : ByteArray).size ≤ 25 := by rw [ba_szP, List.length_take]; omega
          have zG : (⟨((τ).drop (m)).toArray⟩ : ByteArray).size ≤ 25 := by rw [ba_szP, List.length_drop]; omega
          have zH1 : H1.size ≤ 26 := by rw [← hH1, ByteArray.size_append]; omega
          have zH2 : H2.size ≤ 51 := by rw [← hH2, ByteArray.size_append]; omega
          have b1 : ∀ W : World, (Op.stringOp .add ⟨((τ).take (m)).toArray⟩ ⟨#[46]⟩).run Tryz.prog W = .ok (.string H1) W := fun W => by rw [← hH1]; exact run_string_add_sum W _ _ (by omega)
          have b2 : ∀ W : World, (Op.stringOp .add H1 ⟨((τ).drop (m)).toArray⟩).run Tryz.prog W = .ok (.string H2) W := fun W => by rw [← hH2]; exact run_string_add_sum W _ _ (by omega)
          obtain ⟨Q, hQ⟩ : ∃ Y, H2 ++ (⟨#[32]⟩ : ByteArray) = Y := ⟨_, rfl⟩
          have zQ : Q.size ≤ 200 := by rw [← hQ, ByteArray.size_append]; omega
          have hO : Q ++ (⟨cl.toArray⟩ : ByteArray) = F := by
            rw [← FIN.out, OUT.out, if_neg hn]
            rw [← hQ, ← hH2, ← hH1]
            rw [hpt]
            rw [show (⟨#[32]⟩ : ByteArray) = ⟨([32] : List UInt8).toArray⟩ from rfl]
            rw [show (⟨#[46]⟩ : ByteArray) = ⟨([46] : List UInt8).toArray⟩ from rfl]
            simp only [app_str]; simp
          clear OUT FIN PD
          clear hpt hH1 hH2 lP
          generalize (⟨((τ).take (m)).toArray⟩ : ByteArray) = FF at *
          generalize (⟨((τ).drop (m)).toArray⟩ : ByteArray) = GG at *
          generalize (⟨τ.toArray⟩ : ByteArray) = TT at *
          generalize (⟨cl.toArray⟩ : ByteArray) = CU at *
          go_enter Tryz.func13, Tryz.ntmps13
          go_wp2_with (first | (go_at_call 14; refine (CK.out _).mono ?_; rintro e w1 ⟨rfl, hb1⟩; obtain ⟨hc1, hf1⟩ := bcell hb1; have hs1 := hb1.size; (try simp at hs1); have hz1 : w.heap.size < w1.heap.size := by have := hb1.size; (try simp at this); omega) | (go_at_call 33; refine (SC.out _).mono ?_; rintro e w2 ⟨rfl, hb2⟩; obtain ⟨hc2, hf2⟩ := bcell hb2; have hs2 := hb2.size; (try simp at hs2); have hz2 : w.heap.size < w2.heap.size := by have := hb2.size; (try simp at this); omega) | (go_at_call 39; refine (IT.out _ (by repeat (first | exact Below.refl _ _ | refine Below.setCell ?_ (by first | (simp; done) | (simp; omega) | omega) _ | refine Below.alloc ?_ (by first | (simp; done) | (simp; omega) | omega) _ | refine Below.drew ?_ | assumption | refine Below.trans ?_ (Below.mono (by assumption) (by first | (simp; done) | (simp; omega) | omega))))).mono ?_; rintro e w3 ⟨rfl, hb3⟩; obtain ⟨hc3, hf3⟩ := bcell hb3; have hs3 := hb3.size; (try simp at hs3); have hz3 : w.heap.size < w3.heap.size := by have := hb3.size; (try simp at this); omega) | (go_at_call 30; refine (PF.out _).mono ?_; rintro e w4 ⟨rfl, hb4⟩; obtain ⟨hc4, hf4⟩ := bcell hb4; have hs4 := hb4.size; (try simp at hs4); have hz4 : w.heap.size < w4.heap.size := by have := hb4.size; (try simp at this); omega))
          go_quiet (fail)
          go_wp2
          go_ret
          exact ⟨rfl, (by repeat (first | exact Below.refl _ _ | refine Below.setCell ?_ (by first | (simp; done) | (simp; omega) | omega) _ | refine Below.alloc ?_ (by first | (simp; done) | (simp; omega) | omega) _ | refine below_drewM ?_ _ | refine Below.drew ?_ | assumption | refine Below.trans ?_ (Below.mono (by assumption) (by first | (simp; done) | (simp; omega) | omega))))⟩
    · by_cases hn : u < 0
      · rw [decide_eq_true hn] at PF
        dsimp only at PF
        replace OUT : Hid (sm = (if u < 0 then [45] else []) ++ (ptM 3 (padM 3 τ) ++ 32 :: cl)) := OUT
        rcases (show τ.length = 1 ∨ τ.length = 2 ∨ τ.length = 3 ∨ 4 ≤ τ.length by omega) with hlen | hlen | hlen | hlen
        · have PD : padM 3 τ = List.replicate 3 48 ++ τ := by unfold padM; rw [hlen]
          have ZR : Hid (∀ W, Calls Tryz.prog 35 #[.string ⟨#[48]⟩, .int .i64 3] W fun e w' => e = .returned (.string ⟨(List.replicate 3 48).toArray⟩) ∧ Below W.heap.size W w') := Lib.hid fun W => zeros_any 3 (by omega) W
          have hP : (⟨(List.replicate 3 (48 : UInt8)).toArray⟩ : ByteArray) ++ ⟨τ.toArray⟩ = ⟨(padM 3 τ).toArray⟩ := by rw [PD, app_str]
          have zZ : (⟨(List.replicate 3 (48 : UInt8)).toArray⟩ : ByteArray).size = 3 := by rw [ba_szP]; rfl
          have lP : (padM 3 τ).length = 4 := by rw [PD]; simp [hlen]
          have zP : (⟨(padM 3 τ).toArray⟩ : ByteArray).size = 4 := by rw [ba_szP]; exact lP
          rw [hlen] at zτ
          generalize (⟨(List.replicate 3 (48 : UInt8)).toArray⟩ : ByteArray) = ZS at *
          have e1 := ext_take (padM 3 τ) (1)
          have e2 := ext_drop (padM 3 τ) (1) (4) lP
          have hpt : ptM 3 (padM 3 τ) = (padM 3 τ).take (1) ++ 46 :: (padM 3 τ).drop (1) := by unfold ptM; rw [if_neg (by decide), lP]
          obtain ⟨H1, hH1⟩ : ∃ Y, (⟨((padM 3 τ).take (1)).toArray⟩ : ByteArray) ++ (⟨#[46]⟩ : ByteArray) = Y := ⟨_, rfl⟩
          obtain ⟨H2, hH2⟩ : ∃ Y, H1 ++ (⟨((padM 3 τ).drop (1)).toArray⟩ : ByteArray) = Y := ⟨_, rfl⟩
          have zF : (⟨((padM 3 τ).take (1)).toArray⟩ : ByteArray).size ≤ 25 := by rw [ba_szP, List.length_take]; omega
          have zG : (⟨((padM 3 τ).drop (1)).toArray⟩ : ByteArray).size ≤ 25 := by rw [ba_szP, List.length_drop]; omega
          have zH1 : H1.size ≤ 26 := by rw [← hH1, ByteArray.size_append]; omega
          have zH2 : H2.size ≤ 51 := by rw [← hH2, ByteArray.size_append]; omega
          have b1 : ∀ W : World, (Op.stringOp .add ⟨((padM 3 τ).take (1)).toArray⟩ ⟨#[46]⟩).run Tryz.prog W = .ok (.string H1) W := fun W => by rw [← hH1]; exact run_string_add_sum W _ _ (by omega)
          have b2 : ∀ W : World, (Op.stringOp .add H1 ⟨((padM 3 τ).drop (1)).toArray⟩).run Tryz.prog W = .ok (.string H2) W := fun W => by rw [← hH2]; exact run_string_add_sum W _ _ (by omega)
          obtain ⟨M, hM⟩ : ∃ Y, (⟨#[45]⟩ : ByteArray) ++ H2 = Y := ⟨_, rfl⟩
          have zM : M.size ≤ 100 := by rw [← hM, ByteArray.size_append]; omega
          obtain ⟨Q, hQ⟩ : ∃ Y, M ++ (⟨#[32]⟩ : ByteArray) = Y := ⟨_, rfl⟩
          have zQ : Q.size ≤ 200 := by rw [← hQ, ByteArray.size_append]; omega
          have hO : Q ++ (⟨cl.toArray⟩ : ByteArray) = F := by
            rw [← FIN.out, OUT.out, if_pos hn]
            rw [← hQ, ← hM, ← hH2, ← hH1]
            rw [hpt]
            rw [show (⟨#[32]⟩ : ByteArray) = ⟨([32] : List UInt8).toArray⟩ from rfl]
            rw [show (⟨#[45]⟩ : ByteArray) = ⟨([45] : List UInt8).toArray⟩ from rfl]
            rw [show (⟨#[46]⟩ : ByteArray) = ⟨([46] : List UInt8).toArray⟩ from rfl]
            simp only [app_str]; simp
          clear OUT FIN PD
          clear hpt hH1 hH2 lP
          generalize (⟨((padM 3 τ).take (1)).toArray⟩ : ByteArray) = FF at *
          generalize (⟨((padM 3 τ).drop (1)).toArray⟩ : ByteArray) = GG at *
          generalize (⟨(padM 3 τ).toArray⟩ : ByteArray) = PP at *
          generalize (⟨τ.toArray⟩ : ByteArray) = TT at *
          generalize (⟨cl.toArray⟩ : ByteArray) = CU at *
          go_enter Tryz.func13, Tryz.ntmps13
          go_wp2_with (first | (go_at_call 14; refine (CK.out _).mono ?_; rintro e w1 ⟨rfl, hb1⟩; obtain ⟨hc1, hf1⟩ := bcell hb1; have hs1 := hb1.size; (try simp at hs1); have hz1 : w.heap.size < w1.heap.size := by have := hb1.size; (try simp at this); omega) | (go_at_call 33; refine (SC.out _).mono ?_; rintro e w2 ⟨rfl, hb2⟩; obtain ⟨hc2, hf2⟩ := bcell hb2; have hs2 := hb2.size; (try simp at hs2); have hz2 : w.heap.size < w2.heap.size := by have := hb2.size; (try simp at this); omega) | (go_at_call 39; refine (IT.out _ (by repeat (first | exact Below.refl _ _ | refine Below.setCell ?_ (by first | (simp; done) | (simp; omega) | omega) _ | refine Below.alloc ?_ (by first | (simp; done) | (simp; omega) | omega) _ | refine Below.drew ?_ | assumption | refine Below.trans ?_ (Below.mono (by assumption) (by first | (simp; done) | (simp; omega) | omega))))).mono ?_; rintro e w3 ⟨rfl, hb3⟩; obtain ⟨hc3, hf3⟩ := bcell hb3; have hs3 := hb3.size; (try simp at hs3); have hz3 : w.heap.size < w3.heap.size := by have := hb3.size; (try simp at this); omega) | (go_at_call 30; refine (PF.out _).mono ?_; rintro e w4 ⟨rfl, hb4⟩; obtain ⟨hc4, hf4⟩ := bcell hb4; have hs4 := hb4.size; (try simp at hs4); have hz4 : w.heap.size < w4.heap.size := by have := hb4.size; (try simp at this); omega) | (go_at_call 35; refine (ZR.out _).mono ?_; rintro e w5 ⟨rfl, hb5⟩; obtain ⟨hc5, hf5⟩ := bcell hb5; have hs5 := hb5.size; (try simp at hs5); have hz5 : w.heap.size < w5.heap.size := by have := hb5.size; (try simp at this); omega))
          go_quiet (fail)
          go_wp2
          go_ret
          exact ⟨rfl, (by repeat (first | exact Below.refl _ _ | refine Below.setCell ?_ (by first | (simp; done) | (simp; omega) | omega) _ | refine Below.alloc ?_ (by first | (simp; done) | (simp; omega) | omega) _ | refine below_drewM ?_ _ | refine Below.drew ?_ | assumption | refine Below.trans ?_ (Below.mono (by assumption) (by first | (simp; done) | (simp; omega) | omega))))⟩
        · have PD : padM 3 τ = List.replicate 2 48 ++ τ := by unfold padM; rw [hlen]
          have ZR : Hid (∀ W, Calls Tryz.prog 35 #[.string ⟨#[48]⟩, .int .i64 2] W fun e w' => e = .returned (.string ⟨(List.replicate 2 48).toArray⟩) ∧ Below W.heap.size W w') := Lib.hid fun W => zeros_any 2 (by omega) W
          have hP : (⟨(List.replicate 2 (48 : UInt8)).toArray⟩ : ByteArray) ++ ⟨τ.toArray⟩ = ⟨(padM 3 τ).toArray⟩ := by rw [PD, app_str]
          have zZ : (⟨(List.replicate 2 (48 : UInt8)).toArray⟩ : ByteArray).size = 2 := by rw [ba_szP]; rfl
          have lP : (padM 3 τ).length = 4 := by rw [PD]; simp [hlen]
          have zP : (⟨(padM 3 τ).toArray⟩ : ByteArray).size = 4 := by rw [ba_szP]; exact lP
          rw [hlen] at zτ
          generalize (⟨(List.replicate 2 (48 : UInt8)).toArray⟩ : ByteArray) = ZS at *
          have e1 := ext_take (padM 3 τ) (1)
          have e2 := ext_drop (padM 3 τ) (1) (4) lP
          have hpt : ptM 3 (padM 3 τ) = (padM 3 τ).take (1) ++ 46 :: (padM 3 τ).drop (1) := by unfold ptM; rw [if_neg (by decide), lP]
          obtain ⟨H1, hH1⟩ : ∃ Y, (⟨((padM 3 τ).take (1)).toArray⟩ : ByteArray) ++ (⟨#[46]⟩ : ByteArray) = Y := ⟨_, rfl⟩
          obtain ⟨H2, hH2⟩ : ∃ Y, H1 ++ (⟨((padM 3 τ).drop (1)).toArray⟩ : ByteArray) = Y := ⟨_, rfl⟩
          have zF : (⟨((padM 3 τ).take (1)).toArray⟩ : ByteArray).size ≤ 25 := by rw [ba_szP, List.length_take]; omega
          have zG : (⟨((padM 3 τ).drop (1)).toArray⟩ : ByteArray).size ≤ 25 := by rw [ba_szP, List.length_drop]; omega
          have zH1 : H1.size ≤ 26 := by rw [← hH1, ByteArray.size_append]; omega
          have zH2 : H2.size ≤ 51 := by rw [← hH2, ByteArray.size_append]; omega
          have b1 : ∀ W : World, (Op.stringOp .add ⟨((padM 3 τ).take (1)).toArray⟩ ⟨#[46]⟩).run Tryz.prog W = .ok (.string H1) W := fun W => by rw [← hH1]; exact run_string_add_sum W _ _ (by omega)
          have b2 : ∀ W : World, (Op.stringOp .add H1 ⟨((padM 3 τ).drop (1)).toArray⟩).run Tryz.prog W = .ok (.string H2) W := fun W => by rw [← hH2]; exact run_string_add_sum W _ _ (by omega)
          obtain ⟨M, hM⟩ : ∃ Y, (⟨#[45]⟩ : ByteArray) ++ H2 = Y := ⟨_, rfl⟩
          have zM : M.size ≤ 100 := by rw [← hM, ByteArray.size_append]; omega
          obtain ⟨Q, hQ⟩ : ∃ Y, M ++ (⟨#[32]⟩ : ByteArray) = Y := ⟨_, rfl⟩
          have zQ : Q.size ≤ 200 := by rw [← hQ, ByteArray.size_append]; omega
          have hO : Q ++ (⟨cl.toArray⟩ : ByteArray) = F := by
            rw [← FIN.out, OUT.out, if_pos hn]
            rw [← hQ, ← hM, ← hH2, ← hH1]
            rw [hpt]
            rw [show (⟨#[32]⟩ : ByteArray) = ⟨([32] : List UInt8).toArray⟩ from rfl]
            rw [show (⟨#[45]⟩ : ByteArray) = ⟨([45] : List UInt8).toArray⟩ from rfl]
            rw [show (⟨#[46]⟩ : ByteArray) = ⟨([46] : List UInt8).toArray⟩ from rfl]
            simp only [app_str]; simp
          clear OUT FIN PD
          clear hpt hH1 hH2 lP
          generalize (⟨((padM 3 τ).take (1)).toArray⟩ : ByteArray) = FF at *
          generalize (⟨((padM 3 τ).drop (1)).toArray⟩ : ByteArray) = GG at *
          generalize (⟨(padM 3 τ).toArray⟩ : ByteArray) = PP at *
          generalize (⟨τ.toArray⟩ : ByteArray) = TT at *
          generalize (⟨cl.toArray⟩ : ByteArray) = CU at *
          go_enter Tryz.func13, Tryz.ntmps13
          go_wp2_with (first | (go_at_call 14; refine (CK.out _).mono ?_; rintro e w1 ⟨rfl, hb1⟩; obtain ⟨hc1, hf1⟩ := bcell hb1; have hs1 := hb1.size; (try simp at hs1); have hz1 : w.heap.size < w1.heap.size := by have := hb1.size; (try simp at this); omega) | (go_at_call 33; refine (SC.out _).mono ?_; rintro e w2 ⟨rfl, hb2⟩; obtain ⟨hc2, hf2⟩ := bcell hb2; have hs2 := hb2.size; (try simp at hs2); have hz2 : w.heap.size < w2.heap.size := by have := hb2.size; (try simp at this); omega) | (go_at_call 39; refine (IT.out _ (by repeat (first | exact Below.refl _ _ | refine Below.setCell ?_ (by first | (simp; done) | (simp; omega) | omega) _ | refine Below.alloc ?_ (by first | (simp; done) | (simp; omega) | omega) _ | refine Below.drew ?_ | assumption | refine Below.trans ?_ (Below.mono (by assumption) (by first | (simp; done) | (simp; omega) | omega))))).mono ?_; rintro e w3 ⟨rfl, hb3⟩; obtain ⟨hc3, hf3⟩ := bcell hb3; have hs3 := hb3.size; (try simp at hs3); have hz3 : w.heap.size < w3.heap.size := by have := hb3.size; (try simp at this); omega) | (go_at_call 30; refine (PF.out _).mono ?_; rintro e w4 ⟨rfl, hb4⟩; obtain ⟨hc4, hf4⟩ := bcell hb4; have hs4 := hb4.size; (try simp at hs4); have hz4 : w.heap.size < w4.heap.size := by have := hb4.size; (try simp at this); omega) | (go_at_call 35; refine (ZR.out _).mono ?_; rintro e w5 ⟨rfl, hb5⟩; obtain ⟨hc5, hf5⟩ := bcell hb5; have hs5 := hb5.size; (try simp at hs5); have hz5 : w.heap.size < w5.heap.size := by have := hb5.size; (try simp at this); omega))
          go_quiet (fail)
          go_wp2
          go_ret
          exact ⟨rfl, (by repeat (first | exact Below.refl _ _ | refine Below.setCell ?_ (by first | (simp; done) | (simp; omega) | omega) _ | refine Below.alloc ?_ (by first | (simp; done) | (simp; omega) | omega) _ | refine below_drewM ?_ _ | refine Below.drew ?_ | assumption | refine Below.trans ?_ (Below.mono (by assumption) (by first | (simp; done) | (simp; omega) | omega))))⟩
        · have PD : padM 3 τ = List.replicate 1 48 ++ τ := by unfold padM; rw [hlen]
          have ZR : Hid (∀ W, Calls Tryz.prog 35 #[.string ⟨#[48]⟩, .int .i64 1] W fun e w' => e = .returned (.string ⟨(List.replicate 1 48).toArray⟩) ∧ Below W.heap.size W w') := Lib.hid fun W => zeros_any 1 (by omega) W
          have hP : (⟨(List.replicate 1 (48 : UInt8)).toArray⟩ : ByteArray) ++ ⟨τ.toArray⟩ = ⟨(padM 3 τ).toArray⟩ := by rw [PD, app_str]
          have zZ : (⟨(List.replicate 1 (48 : UInt8)).toArray⟩ : ByteArray).size = 1 := by rw [ba_szP]; rfl
          have lP : (padM 3 τ).length = 4 := by rw [PD]; simp [hlen]
          have zP : (⟨(padM 3 τ).toArray⟩ : ByteArray).size = 4 := by rw [ba_szP]; exact lP
          rw [hlen] at zτ
          generalize (⟨(List.replicate 1 (48 : UInt8)).toArray⟩ : ByteArray) = ZS at *
          have e1 := ext_take (padM 3 τ) (1)
          have e2 := ext_drop (padM 3 τ) (1) (4) lP
          have hpt : ptM 3 (padM 3 τ) = (padM 3 τ).take (1) ++ 46 :: (padM 3 τ).drop (1) := by unfold ptM; rw [if_neg (by decide), lP]
          obtain ⟨H1, hH1⟩ : ∃ Y, (⟨((padM 3 τ).take (1)).toArray⟩ : ByteArray) ++ (⟨#[46]⟩ : ByteArray) = Y := ⟨_, rfl⟩
          obtain ⟨H2, hH2⟩ : ∃ Y, H1 ++ (⟨((padM 3 τ).drop (1)).toArray⟩ : ByteArray) = Y := ⟨_, rfl⟩
          have zF : (⟨((padM 3 τ).take (1)).toArray⟩ : ByteArray).size ≤ 25 := by rw [ba_szP, List.length_take]; omega
          have zG : (⟨((padM 3 τ).drop (1)).toArray⟩ : ByteArray).size ≤ 25 := by rw [ba_szP, List.length_drop]; omega
          have zH1 : H1.size ≤ 26 := by rw [← hH1, ByteArray.size_append]; omega
          have zH2 : H2.size ≤ 51 := by rw [← hH2, ByteArray.size_append]; omega
          have b1 : ∀ W : World, (Op.stringOp .add ⟨((padM 3 τ).take (1)).toArray⟩ ⟨#[46]⟩).run Tryz.prog W = .ok (.string H1) W := fun W => by rw [← hH1]; exact run_string_add_sum W _ _ (by omega)
          have b2 : ∀ W : World, (Op.stringOp .add H1 ⟨((padM 3 τ).drop (1)).toArray⟩).run Tryz.prog W = .ok (.string H2) W := fun W => by rw [← hH2]; exact run_string_add_sum W _ _ (by omega)
          obtain ⟨M, hM⟩ : ∃ Y, (⟨#[45]⟩ : ByteArray) ++ H2 = Y := ⟨_, rfl⟩
          have zM : M.size ≤ 100 := by rw [← hM, ByteArray.size_append]; omega
          obtain ⟨Q, hQ⟩ : ∃ Y, M ++ (⟨#[32]⟩ : ByteArray) = Y := ⟨_, rfl⟩
          have zQ : Q.size ≤ 200 := by rw [← hQ, ByteArray.size_append]; omega
          have hO : Q ++ (⟨cl.toArray⟩ : ByteArray) = F := by
            rw [← FIN.out, OUT.out, if_pos hn]
            rw [← hQ, ← hM, ← hH2, ← hH1]
            rw [hpt]
            rw [show (⟨#[32]⟩ : ByteArray) = ⟨([32] : List UInt8).toArray⟩ from rfl]
            rw [show (⟨#[45]⟩ : ByteArray) = ⟨([45] : List UInt8).toArray⟩ from rfl]
            rw [show (⟨#[46]⟩ : ByteArray) = ⟨([46] : List UInt8).toArray⟩ from rfl]
            simp only [app_str]; simp
          clear OUT FIN PD
          clear hpt hH1 hH2 lP
          generalize (⟨((padM 3 τ).take (1)).toArray⟩ : ByteArray) = FF at *
          generalize (⟨((padM 3 τ).drop (1)).toArray⟩ : ByteArray) = GG at *
          generalize (⟨(padM 3 τ).toArray⟩ : ByteArray) = PP at *
          generalize (⟨τ.toArray⟩ : ByteArray) = TT at *
          generalize (⟨cl.toArray⟩ : ByteArray) = CU at *
          go_enter Tryz.func13, Tryz.ntmps13
          go_wp2_with (first | (go_at_call 14; refine (CK.out _).mono ?_; rintro e w1 ⟨rfl, hb1⟩; obtain ⟨hc1, hf1⟩ := bcell hb1; have hs1 := hb1.size; (try simp at hs1); have hz1 : w.heap.size < w1.heap.size := by have := hb1.size; (try simp at this); omega) | (go_at_call 33; refine (SC.out _).mono ?_; rintro e w2 ⟨rfl, hb2⟩; obtain ⟨hc2, hf2⟩ := bcell hb2; have hs2 := hb2.size; (try simp at hs2); have hz2 : w.heap.size < w2.heap.size := by have := hb2.size; (try simp at this); omega) | (go_at_call 39; refine (IT.out _ (by repeat (first | exact Below.refl _ _ | refine Below.setCell ?_ (by first | (simp; done) | (simp; omega) | omega) _ | refine Below.alloc ?_ (by first | (simp; done) | (simp; omega) | omega) _ | refine Below.drew ?_ | assumption | refine Below.trans ?_ (Below.mono (by assumption) (by first | (simp; done) | (simp; omega) | omega))))).mono ?_; rintro e w3 ⟨rfl, hb3⟩; obtain ⟨hc3, hf3⟩ := bcell hb3; have hs3 := hb3.size; (try simp at hs3); have hz3 : w.heap.size < w3.heap.size := by have := hb3.size; (try simp at this); omega) | (go_at_call 30; refine (PF.out _).mono ?_; rintro e w4 ⟨rfl, hb4⟩; obtain ⟨hc4, hf4⟩ := bcell hb4; have hs4 := hb4.size; (try simp at hs4); have hz4 : w.heap.size < w4.heap.size := by have := hb4.size; (try simp at this); omega) | (go_at_call 35; refine (ZR.out _).mono ?_; rintro e w5 ⟨rfl, hb5⟩; obtain ⟨hc5, hf5⟩ := bcell hb5; have hs5 := hb5.size; (try simp at hs5); have hz5 : w.heap.size < w5.heap.size := by have := hb5.size; (try simp at this); omega))
          go_quiet (fail)
          go_wp2
          go_ret
          exact ⟨rfl, (by repeat (first | exact Below.refl _ _ | refine Below.setCell ?_ (by first | (simp; done) | (simp; omega) | omega) _ | refine Below.alloc ?_ (by first | (simp; done) | (simp; omega) | omega) _ | refine below_drewM ?_ _ | refine Below.drew ?_ | assumption | refine Below.trans ?_ (Below.mono (by assumption) (by first | (simp; done) | (simp; omega) | omega))))⟩
        · have PD : padM 3 τ = τ := by unfold padM; rw [show 3 + 1 - τ.length = 0 by omega]; rfl
          rw [PD] at OUT
          obtain ⟨m, hm⟩ : ∃ m, τ.length = m + 3 := ⟨τ.length - 3, by omega⟩
          rw [hm] at zτ
          have m1 : 1 ≤ m := by omega
          have m2 : m ≤ 21 := by omega
          have lP := hm
          have e1 := ext_take (τ) (m)
          have e2 := ext_drop (τ) (m) (m + 3) lP
          have hpt : ptM 3 τ = τ.take m ++ 46 :: τ.drop m := by unfold ptM; rw [if_neg (by decide), lP, show m + 3 - 3 = m by omega]
          obtain ⟨H1, hH1⟩ : ∃ Y, (⟨((τ).take (m)).toArray⟩ : ByteArray) ++ (⟨#[46]⟩ : ByteArray) = Y := ⟨_, rfl⟩
          obtain ⟨H2, hH2⟩ : ∃ Y, H1 ++ (⟨((τ).drop (m)).toArray⟩ : ByteArray) = Y := ⟨_, rfl⟩
          have zF : (⟨((τ).take (m)).toArray⟩ : ByteArray).size ≤ 25 := by rw [ba_szP, List.length_take]; omega
          have zG : (⟨((τ).drop (m)).toArray⟩ : ByteArray).size ≤ 25 := by rw [ba_szP, List.length_drop]; omega
          have zH1 : H1.size ≤ 26 := by rw [← hH1, ByteArray.size_append]; omega
          have zH2 : H2.size ≤ 51 := by rw [← hH2, ByteArray.size_append]; omega
          have b1 : ∀ W : World, (Op.stringOp .add ⟨((τ).take (m)).toArray⟩ ⟨#[46]⟩).run Tryz.prog W = .ok (.string H1) W := fun W => by rw [← hH1]; exact run_string_add_sum W _ _ (by omega)
          have b2 : ∀ W : World, (Op.stringOp .add H1 ⟨((τ).drop (m)).toArray⟩).run Tryz.prog W = .ok (.string H2) W := fun W => by rw [← hH2]; exact run_string_add_sum W _ _ (by omega)
          obtain ⟨M, hM⟩ : ∃ Y, (⟨#[45]⟩ : ByteArray) ++ H2 = Y := ⟨_, rfl⟩
          have zM : M.size ≤ 100 := by rw [← hM, ByteArray.size_append]; omega
          obtain ⟨Q, hQ⟩ : ∃ Y, M ++ (⟨#[32]⟩ : ByteArray) = Y := ⟨_, rfl⟩
          have zQ : Q.size ≤ 200 := by rw [← hQ, ByteArray.size_append]; omega
          have hO : Q ++ (⟨cl.toArray⟩ : ByteArray) = F := by
            rw [← FIN.out, OUT.out, if_pos hn]
            rw [← hQ, ← hM, ← hH2, ← hH1]
            rw [hpt]
            rw [show (⟨#[32]⟩ : ByteArray) = ⟨([32] : List UInt8).toArray⟩ from rfl]
            rw [show (⟨#[45]⟩ : ByteArray) = ⟨([45] : List UInt8).toArray⟩ from rfl]
            rw [show (⟨#[46]⟩ : ByteArray) = ⟨([46] : List UInt8).toArray⟩ from rfl]
            simp only [app_str]; simp
          clear OUT FIN PD
          clear hpt hH1 hH2 lP
          generalize (⟨((τ).take (m)).toArray⟩ : ByteArray) = FF at *
          generalize (⟨((τ).drop (m)).toArray⟩ : ByteArray) = GG at *
          generalize (⟨τ.toArray⟩ : ByteArray) = TT at *
          generalize (⟨cl.toArray⟩ : ByteArray) = CU at *
          go_enter Tryz.func13, Tryz.ntmps13
          go_wp2_with (first | (go_at_call 14; refine (CK.out _).mono ?_; rintro e w1 ⟨rfl, hb1⟩; obtain ⟨hc1, hf1⟩ := bcell hb1; have hs1 := hb1.size; (try simp at hs1); have hz1 : w.heap.size < w1.heap.size := by have := hb1.size; (try simp at this); omega) | (go_at_call 33; refine (SC.out _).mono ?_; rintro e w2 ⟨rfl, hb2⟩; obtain ⟨hc2, hf2⟩ := bcell hb2; have hs2 := hb2.size; (try simp at hs2); have hz2 : w.heap.size < w2.heap.size := by have := hb2.size; (try simp at this); omega) | (go_at_call 39; refine (IT.out _ (by repeat (first | exact Below.refl _ _ | refine Below.setCell ?_ (by first | (simp; done) | (simp; omega) | omega) _ | refine Below.alloc ?_ (by first | (simp; done) | (simp; omega) | omega) _ | refine Below.drew ?_ | assumption | refine Below.trans ?_ (Below.mono (by assumption) (by first | (simp; done) | (simp; omega) | omega))))).mono ?_; rintro e w3 ⟨rfl, hb3⟩; obtain ⟨hc3, hf3⟩ := bcell hb3; have hs3 := hb3.size; (try simp at hs3); have hz3 : w.heap.size < w3.heap.size := by have := hb3.size; (try simp at this); omega) | (go_at_call 30; refine (PF.out _).mono ?_; rintro e w4 ⟨rfl, hb4⟩; obtain ⟨hc4, hf4⟩ := bcell hb4; have hs4 := hb4.size; (try simp at hs4); have hz4 : w.heap.size < w4.heap.size := by have := hb4.size; (try simp at this); omega))
          go_quiet (fail)
          go_wp2
          go_ret
          exact ⟨rfl, (by repeat (first | exact Below.refl _ _ | refine Below.setCell ?_ (by first | (simp; done) | (simp; omega) | omega) _ | refine Below.alloc ?_ (by first | (simp; done) | (simp; omega) | omega) _ | refine below_drewM ?_ _ | refine Below.drew ?_ | assumption | refine Below.trans ?_ (Below.mono (by assumption) (by first | (simp; done) | (simp; omega) | omega))))⟩
      · rw [decide_eq_false hn] at PF
        dsimp only at PF
        replace OUT : Hid (sm = (if u < 0 then [45] else []) ++ (ptM 3 (padM 3 τ) ++ 32 :: cl)) := OUT
        rcases (show τ.length = 1 ∨ τ.length = 2 ∨ τ.length = 3 ∨ 4 ≤ τ.length by omega) with hlen | hlen | hlen | hlen
        · have PD : padM 3 τ = List.replicate 3 48 ++ τ := by unfold padM; rw [hlen]
          have ZR : Hid (∀ W, Calls Tryz.prog 35 #[.string ⟨#[48]⟩, .int .i64 3] W fun e w' => e = .returned (.string ⟨(List.replicate 3 48).toArray⟩) ∧ Below W.heap.size W w') := Lib.hid fun W => zeros_any 3 (by omega) W
          have hP : (⟨(List.replicate 3 (48 : UInt8)).toArray⟩ : ByteArray) ++ ⟨τ.toArray⟩ = ⟨(padM 3 τ).toArray⟩ := by rw [PD, app_str]
          have zZ : (⟨(List.replicate 3 (48 : UInt8)).toArray⟩ : ByteArray).size = 3 := by rw [ba_szP]; rfl
          have lP : (padM 3 τ).length = 4 := by rw [PD]; simp [hlen]
          have zP : (⟨(padM 3 τ).toArray⟩ : ByteArray).size = 4 := by rw [ba_szP]; exact lP
          rw [hlen] at zτ
          generalize (⟨(List.replicate 3 (48 : UInt8)).toArray⟩ : ByteArray) = ZS at *
          have e1 := ext_take (padM 3 τ) (1)
          have e2 := ext_drop (padM 3 τ) (1) (4) lP
          have hpt : ptM 3 (padM 3 τ) = (padM 3 τ).take (1) ++ 46 :: (padM 3 τ).drop (1) := by unfold ptM; rw [if_neg (by decide), lP]
          obtain ⟨H1, hH1⟩ : ∃ Y, (⟨((padM 3 τ).take (1)).toArray⟩ : ByteArray) ++ (⟨#[46]⟩ : ByteArray) = Y := ⟨_, rfl⟩
          obtain ⟨H2, hH2⟩ : ∃ Y, H1 ++ (⟨((padM 3 τ).drop (1)).toArray⟩ : ByteArray) = Y := ⟨_, rfl⟩
          have zF : (⟨((padM 3 τ).take (1)).toArray⟩ : ByteArray).size ≤ 25 := by rw [ba_szP, List.length_take]; omega
          have zG : (⟨((padM 3 τ).drop (1)).toArray⟩ : ByteArray).size ≤ 25 := by rw [ba_szP, List.length_drop]; omega
          have zH1 : H1.size ≤ 26 := by rw [← hH1, ByteArray.size_append]; omega
          have zH2 : H2.size ≤ 51 := by rw [← hH2, ByteArray.size_append]; omega
          have b1 : ∀ W : World, (Op.stringOp .add ⟨((padM 3 τ).take (1)).toArray⟩ ⟨#[46]⟩).run Tryz.prog W = .ok (.string H1) W := fun W => by rw [← hH1]; exact run_string_add_sum W _ _ (by omega)
          have b2 : ∀ W : World, (Op.stringOp .add H1 ⟨((padM 3 τ).drop (1)).toArray⟩).run Tryz.prog W = .ok (.string H2) W := fun W => by rw [← hH2]; exact run_string_add_sum W _ _ (by omega)
          obtain ⟨Q, hQ⟩ : ∃ Y, H2 ++ (⟨#[32]⟩ : ByteArray) = Y := ⟨_, rfl⟩
          have zQ : Q.size ≤ 200 := by rw [← hQ, ByteArray.size_append]; omega
          have hO : Q ++ (⟨cl.toArray⟩ : ByteArray) = F := by
            rw [← FIN.out, OUT.out, if_neg hn]
            rw [← hQ, ← hH2, ← hH1]
            rw [hpt]
            rw [show (⟨#[32]⟩ : ByteArray) = ⟨([32] : List UInt8).toArray⟩ from rfl]
            rw [show (⟨#[46]⟩ : ByteArray) = ⟨([46] : List UInt8).toArray⟩ from rfl]
            simp only [app_str]; simp
          clear OUT FIN PD
          clear hpt hH1 hH2 lP
          generalize (⟨((padM 3 τ).take (1)).toArray⟩ : ByteArray) = FF at *
          generalize (⟨((padM 3 τ).drop (1)).toArray⟩ : ByteArray) = GG at *
          generalize (⟨(padM 3 τ).toArray⟩ : ByteArray) = PP at *
          generalize (⟨τ.toArray⟩ : ByteArray) = TT at *
          generalize (⟨cl.toArray⟩ : ByteArray) = CU at *
          go_enter Tryz.func13, Tryz.ntmps13
          go_wp2_with (first | (go_at_call 14; refine (CK.out _).mono ?_; rintro e w1 ⟨rfl, hb1⟩; obtain ⟨hc1, hf1⟩ := bcell hb1; have hs1 := hb1.size; (try simp at hs1); have hz1 : w.heap.size < w1.heap.size := by have := hb1.size; (try simp at this); omega) | (go_at_call 33; refine (SC.out _).mono ?_; rintro e w2 ⟨rfl, hb2⟩; obtain ⟨hc2, hf2⟩ := bcell hb2; have hs2 := hb2.size; (try simp at hs2); have hz2 : w.heap.size < w2.heap.size := by have := hb2.size; (try simp at this); omega) | (go_at_call 39; refine (IT.out _ (by repeat (first | exact Below.refl _ _ | refine Below.setCell ?_ (by first | (simp; done) | (simp; omega) | omega) _ | refine Below.alloc ?_ (by first | (simp; done) | (simp; omega) | omega) _ | refine Below.drew ?_ | assumption | refine Below.trans ?_ (Below.mono (by assumption) (by first | (simp; done) | (simp; omega) | omega))))).mono ?_; rintro e w3 ⟨rfl, hb3⟩; obtain ⟨hc3, hf3⟩ := bcell hb3; have hs3 := hb3.size; (try simp at hs3); have hz3 : w.heap.size < w3.heap.size := by have := hb3.size; (try simp at this); omega) | (go_at_call 30; refine (PF.out _).mono ?_; rintro e w4 ⟨rfl, hb4⟩; obtain ⟨hc4, hf4⟩ := bcell hb4; have hs4 := hb4.size; (try simp at hs4); have hz4 : w.heap.size < w4.heap.size := by have := hb4.size; (try simp at this); omega) | (go_at_call 35; refine (ZR.out _).mono ?_; rintro e w5 ⟨rfl, hb5⟩; obtain ⟨hc5, hf5⟩ := bcell hb5; have hs5 := hb5.size; (try simp at hs5); have hz5 : w.heap.size < w5.heap.size := by have := hb5.size; (try simp at this); omega))
          go_quiet (fail)
          go_wp2
          go_ret
          exact ⟨rfl, (by repeat (first | exact Below.refl _ _ | refine Below.setCell ?_ (by first | (simp; done) | (simp; omega) | omega) _ | refine Below.alloc ?_ (by first | (simp; done) | (simp; omega) | omega) _ | refine below_drewM ?_ _ | refine Below.drew ?_ | assumption | refine Below.trans ?_ (Below.mono (by assumption) (by first | (simp; done) | (simp; omega) | omega))))⟩
        · have PD : padM 3 τ = List.replicate 2 48 ++ τ := by unfold padM; rw [hlen]
          have ZR : Hid (∀ W, Calls Tryz.prog 35 #[.string ⟨#[48]⟩, .int .i64 2] W fun e w' => e = .returned (.string ⟨(List.replicate 2 48).toArray⟩) ∧ Below W.heap.size W w') := Lib.hid fun W => zeros_any 2 (by omega) W
          have hP : (⟨(List.replicate 2 (48 : UInt8)).toArray⟩ : ByteArray) ++ ⟨τ.toArray⟩ = ⟨(padM 3 τ).toArray⟩ := by rw [PD, app_str]
          have zZ : (⟨(List.replicate 2 (48 : UInt8)).toArray⟩ : ByteArray).size = 2 := by rw [ba_szP]; rfl
          have lP : (padM 3 τ).length = 4 := by rw [PD]; simp [hlen]
          have zP : (⟨(padM 3 τ).toArray⟩ : ByteArray).size = 4 := by rw [ba_szP]; exact lP
          rw [hlen] at zτ
          generalize (⟨(List.replicate 2 (48 : UInt8)).toArray⟩ : ByteArray) = ZS at *
          have e1 := ext_take (padM 3 τ) (1)
          have e2 := ext_drop (padM 3 τ) (1) (4) lP
          have hpt : ptM 3 (padM 3 τ) = (padM 3 τ).take (1) ++ 46 :: (padM 3 τ).drop (1) := by unfold ptM; rw [if_neg (by decide), lP]
          obtain ⟨H1, hH1⟩ : ∃ Y, (⟨((padM 3 τ).take (1)).toArray⟩ : ByteArray) ++ (⟨#[46]⟩ : ByteArray) = Y := ⟨_, rfl⟩
          obtain ⟨H2, hH2⟩ : ∃ Y, H1 ++ (⟨((padM 3 τ).drop (1)).toArray⟩ : ByteArray) = Y := ⟨_, rfl⟩
          have zF : (⟨((padM 3 τ).take (1)).toArray⟩ : ByteArray).size ≤ 25 := by rw [ba_szP, List.length_take]; omega
          have zG : (⟨((padM 3 τ).drop (1)).toArray⟩ : ByteArray).size ≤ 25 := by rw [ba_szP, List.length_drop]; omega
          have zH1 : H1.size ≤ 26 := by rw [← hH1, ByteArray.size_append]; omega
          have zH2 : H2.size ≤ 51 := by rw [← hH2, ByteArray.size_append]; omega
          have b1 : ∀ W : World, (Op.stringOp .add ⟨((padM 3 τ).take (1)).toArray⟩ ⟨#[46]⟩).run Tryz.prog W = .ok (.string H1) W := fun W => by rw [← hH1]; exact run_string_add_sum W _ _ (by omega)
          have b2 : ∀ W : World, (Op.stringOp .add H1 ⟨((padM 3 τ).drop (1)).toArray⟩).run Tryz.prog W = .ok (.string H2) W := fun W => by rw [← hH2]; exact run_string_add_sum W _ _ (by omega)
          obtain ⟨Q, hQ⟩ : ∃ Y, H2 ++ (⟨#[32]⟩ : ByteArray) = Y := ⟨_, rfl⟩
          have zQ : Q.size ≤ 200 := by rw [← hQ, ByteArray.size_append]; omega
          have hO : Q ++ (⟨cl.toArray⟩ : ByteArray) = F := by
            rw [← FIN.out, OUT.out, if_neg hn]
            rw [← hQ, ← hH2, ← hH1]
            rw [hpt]
            rw [show (⟨#[32]⟩ : ByteArray) = ⟨([32] : List UInt8).toArray⟩ from rfl]
            rw [show (⟨#[46]⟩ : ByteArray) = ⟨([46] : List UInt8).toArray⟩ from rfl]
            simp only [app_str]; simp
          clear OUT FIN PD
          clear hpt hH1 hH2 lP
          generalize (⟨((padM 3 τ).take (1)).toArray⟩ : ByteArray) = FF at *
          generalize (⟨((padM 3 τ).drop (1)).toArray⟩ : ByteArray) = GG at *
          generalize (⟨(padM 3 τ).toArray⟩ : ByteArray) = PP at *
          generalize (⟨τ.toArray⟩ : ByteArray) = TT at *
          generalize (⟨cl.toArray⟩ : ByteArray) = CU at *
          go_enter Tryz.func13, Tryz.ntmps13
          go_wp2_with (first | (go_at_call 14; refine (CK.out _).mono ?_; rintro e w1 ⟨rfl, hb1⟩; obtain ⟨hc1, hf1⟩ := bcell hb1; have hs1 := hb1.size; (try simp at hs1); have hz1 : w.heap.size < w1.heap.size := by have := hb1.size; (try simp at this); omega) | (go_at_call 33; refine (SC.out _).mono ?_; rintro e w2 ⟨rfl, hb2⟩; obtain ⟨hc2, hf2⟩ := bcell hb2; have hs2 := hb2.size; (try simp at hs2); have hz2 : w.heap.size < w2.heap.size := by have := hb2.size; (try simp at this); omega) | (go_at_call 39; refine (IT.out _ (by repeat (first | exact Below.refl _ _ | refine Below.setCell ?_ (by first | (simp; done) | (simp; omega) | omega) _ | refine Below.alloc ?_ (by first | (simp; done) | (simp; omega) | omega) _ | refine Below.drew ?_ | assumption | refine Below.trans ?_ (Below.mono (by assumption) (by first | (simp; done) | (simp; omega) | omega))))).mono ?_; rintro e w3 ⟨rfl, hb3⟩; obtain ⟨hc3, hf3⟩ := bcell hb3; have hs3 := hb3.size; (try simp at hs3); have hz3 : w.heap.size < w3.heap.size := by have := hb3.size; (try simp at this); omega) | (go_at_call 30; refine (PF.out _).mono ?_; rintro e w4 ⟨rfl, hb4⟩; obtain ⟨hc4, hf4⟩ := bcell hb4; have hs4 := hb4.size; (try simp at hs4); have hz4 : w.heap.size < w4.heap.size := by have := hb4.size; (try simp at this); omega) | (go_at_call 35; refine (ZR.out _).mono ?_; rintro e w5 ⟨rfl, hb5⟩; obtain ⟨hc5, hf5⟩ := bcell hb5; have hs5 := hb5.size; (try simp at hs5); have hz5 : w.heap.size < w5.heap.size := by have := hb5.size; (try simp at this); omega))
          go_quiet (fail)
          go_wp2
          go_ret
          exact ⟨rfl, (by repeat (first | exact Below.refl _ _ | refine Below.setCell ?_ (by first | (simp; done) | (simp; omega) | omega) _ | refine Below.alloc ?_ (by first | (simp; done) | (simp; omega) | omega) _ | refine below_drewM ?_ _ | refine Below.drew ?_ | assumption | refine Below.trans ?_ (Below.mono (by assumption) (by first | (simp; done) | (simp; omega) | omega))))⟩
        · have PD : padM 3 τ = List.replicate 1 48 ++ τ := by unfold padM; rw [hlen]
          have ZR : Hid (∀ W, Calls Tryz.prog 35 #[.string ⟨#[48]⟩, .int .i64 1] W fun e w' => e = .returned (.string ⟨(List.replicate 1 48).toArray⟩) ∧ Below W.heap.size W w') := Lib.hid fun W => zeros_any 1 (by omega) W
          have hP : (⟨(List.replicate 1 (48 : UInt8)).toArray⟩ : ByteArray) ++ ⟨τ.toArray⟩ = ⟨(padM 3 τ).toArray⟩ := by rw [PD, app_str]
          have zZ : (⟨(List.replicate 1 (48 : UInt8)).toArray⟩ : ByteArray).size = 1 := by rw [ba_szP]; rfl
          have lP : (padM 3 τ).length = 4 := by rw [PD]; simp [hlen]
          have zP : (⟨(padM 3 τ).toArray⟩ : ByteArray).size = 4 := by rw [ba_szP]; exact lP
          rw [hlen] at zτ
          generalize (⟨(List.replicate 1 (48 : UInt8)).toArray⟩ : ByteArray) = ZS at *
          have e1 := ext_take (padM 3 τ) (1)
          have e2 := ext_drop (padM 3 τ) (1) (4) lP
          have hpt : ptM 3 (padM 3 τ) = (padM 3 τ).take (1) ++ 46 :: (padM 3 τ).drop (1) := by unfold ptM; rw [if_neg (by decide), lP]
          obtain ⟨H1, hH1⟩ : ∃ Y, (⟨((padM 3 τ).take (1)).toArray⟩ : ByteArray) ++ (⟨#[46]⟩ : ByteArray) = Y := ⟨_, rfl⟩
          obtain ⟨H2, hH2⟩ : ∃ Y, H1 ++ (⟨((padM 3 τ).drop (1)).toArray⟩ : ByteArray) = Y := ⟨_, rfl⟩
          have zF : (⟨((padM 3 τ).take (1)).toArray⟩ : ByteArray).size ≤ 25 := by rw [ba_szP, List.length_take]; omega
          have zG : (⟨((padM 3 τ).drop (1)).toArray⟩ : ByteArray).size ≤ 25 := by rw [ba_szP, List.length_drop]; omega
          have zH1 : H1.size ≤ 26 := by rw [← hH1, ByteArray.size_append]; omega
          have zH2 : H2.size ≤ 51 := by rw [← hH2, ByteArray.size_append]; omega
          have b1 : ∀ W : World, (Op.stringOp .add ⟨((padM 3 τ).take (1)).toArray⟩ ⟨#[46]⟩).run Tryz.prog W = .ok (.string H1) W := fun W => by rw [← hH1]; exact run_string_add_sum W _ _ (by omega)
          have b2 : ∀ W : World, (Op.stringOp .add H1 ⟨((padM 3 τ).drop (1)).toArray⟩).run Tryz.prog W = .ok (.string H2) W := fun W => by rw [← hH2]; exact run_string_add_sum W _ _ (by omega)
          obtain ⟨Q, hQ⟩ : ∃ Y, H2 ++ (⟨#[32]⟩ : ByteArray) = Y := ⟨_, rfl⟩
          have zQ : Q.size ≤ 200 := by rw [← hQ, ByteArray.size_append]; omega
          have hO : Q ++ (⟨cl.toArray⟩ : ByteArray) = F := by
            rw [← FIN.out, OUT.out, if_neg hn]
            rw [← hQ, ← hH2, ← hH1]
            rw [hpt]
            rw [show (⟨#[32]⟩ : ByteArray) = ⟨([32] : List UInt8).toArray⟩ from rfl]
            rw [show (⟨#[46]⟩ : ByteArray) = ⟨([46] : List UInt8).toArray⟩ from rfl]
            simp only [app_str]; simp
          clear OUT FIN PD
          clear hpt hH1 hH2 lP
          generalize (⟨((padM 3 τ).take (1)).toArray⟩ : ByteArray) = FF at *
          generalize (⟨((padM 3 τ).drop (1)).toArray⟩ : ByteArray) = GG at *
          generalize (⟨(padM 3 τ).toArray⟩ : ByteArray) = PP at *
          generalize (⟨τ.toArray⟩ : ByteArray) = TT at *
          generalize (⟨cl.toArray⟩ : ByteArray) = CU at *
          go_enter Tryz.func13, Tryz.ntmps13
          go_wp2_with (first | (go_at_call 14; refine (CK.out _).mono ?_; rintro e w1 ⟨rfl, hb1⟩; obtain ⟨hc1, hf1⟩ := bcell hb1; have hs1 := hb1.size; (try simp at hs1); have hz1 : w.heap.size < w1.heap.size := by have := hb1.size; (try simp at this); omega) | (go_at_call 33; refine (SC.out _).mono ?_; rintro e w2 ⟨rfl, hb2⟩; obtain ⟨hc2, hf2⟩ := bcell hb2; have hs2 := hb2.size; (try simp at hs2); have hz2 : w.heap.size < w2.heap.size := by have := hb2.size; (try simp at this); omega) | (go_at_call 39; refine (IT.out _ (by repeat (first | exact Below.refl _ _ | refine Below.setCell ?_ (by first | (simp; done) | (simp; omega) | omega) _ | refine Below.alloc ?_ (by first | (simp; done) | (simp; omega) | omega) _ | refine Below.drew ?_ | assumption | refine Below.trans ?_ (Below.mono (by assumption) (by first | (simp; done) | (simp; omega) | omega))))).mono ?_; rintro e w3 ⟨rfl, hb3⟩; obtain ⟨hc3, hf3⟩ := bcell hb3; have hs3 := hb3.size; (try simp at hs3); have hz3 : w.heap.size < w3.heap.size := by have := hb3.size; (try simp at this); omega) | (go_at_call 30; refine (PF.out _).mono ?_; rintro e w4 ⟨rfl, hb4⟩; obtain ⟨hc4, hf4⟩ := bcell hb4; have hs4 := hb4.size; (try simp at hs4); have hz4 : w.heap.size < w4.heap.size := by have := hb4.size; (try simp at this); omega) | (go_at_call 35; refine (ZR.out _).mono ?_; rintro e w5 ⟨rfl, hb5⟩; obtain ⟨hc5, hf5⟩ := bcell hb5; have hs5 := hb5.size; (try simp at hs5); have hz5 : w.heap.size < w5.heap.size := by have := hb5.size; (try simp at this); omega))
          go_quiet (fail)
          go_wp2
          go_ret
          exact ⟨rfl, (by repeat (first | exact Below.refl _ _ | refine Below.setCell ?_ (by first | (simp; done) | (simp; omega) | omega) _ | refine Below.alloc ?_ (by first | (simp; done) | (simp; omega) | omega) _ | refine below_drewM ?_ _ | refine Below.drew ?_ | assumption | refine Below.trans ?_ (Below.mono (by assumption) (by first | (simp; done) | (simp; omega) | omega))))⟩
        · have PD : padM 3 τ = τ := by unfold padM; rw [show 3 + 1 - τ.length = 0 by omega]; rfl
          rw [PD] at OUT
          obtain ⟨m, hm⟩ : ∃ m, τ.length = m + 3 := ⟨τ.length - 3, by omega⟩
          rw [hm] at zτ
          have m1 : 1 ≤ m := by omega
          have m2 : m ≤ 21 := by omega
          have lP := hm
          have e1 := ext_take (τ) (m)
          have e2 := ext_drop (τ) (m) (m + 3) lP
          have hpt : ptM 3 τ = τ.take m ++ 46 :: τ.drop m := by unfold ptM; rw [if_neg (by decide), lP, show m + 3 - 3 = m by omega]
          obtain ⟨H1, hH1⟩ : ∃ Y, (⟨((τ).take (m)).toArray⟩ : ByteArray) ++ (⟨#[46]⟩ : ByteArray) = Y := ⟨_, rfl⟩
          obtain ⟨H2, hH2⟩ : ∃ Y, H1 ++ (⟨((τ).drop (m)).toArray⟩ : ByteArray) = Y := ⟨_, rfl⟩
          have zF : (⟨((τ).take (m)).toArray⟩ : ByteArray).size ≤ 25 := by rw [ba_szP, List.length_take]; omega
          have zG : (⟨((τ).drop (m)).toArray⟩ : ByteArray).size ≤ 25 := by rw [ba_szP, List.length_drop]; omega
          have zH1 : H1.size ≤ 26 := by rw [← hH1, ByteArray.size_append]; omega
          have zH2 : H2.size ≤ 51 := by rw [← hH2, ByteArray.size_append]; omega
          have b1 : ∀ W : World, (Op.stringOp .add ⟨((τ).take (m)).toArray⟩ ⟨#[46]⟩).run Tryz.prog W = .ok (.string H1) W := fun W => by rw [← hH1]; exact run_string_add_sum W _ _ (by omega)
          have b2 : ∀ W : World, (Op.stringOp .add H1 ⟨((τ).drop (m)).toArray⟩).run Tryz.prog W = .ok (.string H2) W := fun W => by rw [← hH2]; exact run_string_add_sum W _ _ (by omega)
          obtain ⟨Q, hQ⟩ : ∃ Y, H2 ++ (⟨#[32]⟩ : ByteArray) = Y := ⟨_, rfl⟩
          have zQ : Q.size ≤ 200 := by rw [← hQ, ByteArray.size_append]; omega
          have hO : Q ++ (⟨cl.toArray⟩ : ByteArray) = F := by
            rw [← FIN.out, OUT.out, if_neg hn]
            rw [← hQ, ← hH2, ← hH1]
            rw [hpt]
            rw [show (⟨#[32]⟩ : ByteArray) = ⟨([32] : List UInt8).toArray⟩ from rfl]
            rw [show (⟨#[46]⟩ : ByteArray) = ⟨([46] : List UInt8).toArray⟩ from rfl]
            simp only [app_str]; simp
          clear OUT FIN PD
          clear hpt hH1 hH2 lP
          generalize (⟨((τ).take (m)).toArray⟩ : ByteArray) = FF at *
          generalize (⟨((τ).drop (m)).toArray⟩ : ByteArray) = GG at *
          generalize (⟨τ.toArray⟩ : ByteArray) = TT at *
          generalize (⟨cl.toArray⟩ : ByteArray) = CU at *
          go_enter Tryz.func13, Tryz.ntmps13
          go_wp2_with (first | (go_at_call 14; refine (CK.out _).mono ?_; rintro e w1 ⟨rfl, hb1⟩; obtain ⟨hc1, hf1⟩ := bcell hb1; have hs1 := hb1.size; (try simp at hs1); have hz1 : w.heap.size < w1.heap.size := by have := hb1.size; (try simp at this); omega) | (go_at_call 33; refine (SC.out _).mono ?_; rintro e w2 ⟨rfl, hb2⟩; obtain ⟨hc2, hf2⟩ := bcell hb2; have hs2 := hb2.size; (try simp at hs2); have hz2 : w.heap.size < w2.heap.size := by have := hb2.size; (try simp at this); omega) | (go_at_call 39; refine (IT.out _ (by repeat (first | exact Below.refl _ _ | refine Below.setCell ?_ (by first | (simp; done) | (simp; omega) | omega) _ | refine Below.alloc ?_ (by first | (simp; done) | (simp; omega) | omega) _ | refine Below.drew ?_ | assumption | refine Below.trans ?_ (Below.mono (by assumption) (by first | (simp; done) | (simp; omega) | omega))))).mono ?_; rintro e w3 ⟨rfl, hb3⟩; obtain ⟨hc3, hf3⟩ := bcell hb3; have hs3 := hb3.size; (try simp at hs3); have hz3 : w.heap.size < w3.heap.size := by have := hb3.size; (try simp at this); omega) | (go_at_call 30; refine (PF.out _).mono ?_; rintro e w4 ⟨rfl, hb4⟩; obtain ⟨hc4, hf4⟩ := bcell hb4; have hs4 := hb4.size; (try simp at hs4); have hz4 : w.heap.size < w4.heap.size := by have := hb4.size; (try simp at this); omega))
          go_quiet (fail)
          go_wp2
          go_ret
          exact ⟨rfl, (by repeat (first | exact Below.refl _ _ | refine Below.setCell ?_ (by first | (simp; done) | (simp; omega) | omega) _ | refine Below.alloc ?_ (by first | (simp; done) | (simp; omega) | omega) _ | refine below_drewM ?_ _ | refine Below.drew ?_ | assumption | refine Below.trans ?_ (Below.mono (by assumption) (by first | (simp; done) | (simp; omega) | omega))))⟩
  · have e : strM u c = [] := by unfold strM; rw [if_neg h]
    rw [e]
    generalize amE u c = x at *
    have x0 : (x != 0) = true := by simpa using h
    clear h e E
    generalize (⟨c.toArray⟩ : ByteArray) = C at *
    go_enter Tryz.func13, Tryz.ntmps13
    go_wp2_with (first | (go_at_call 14; refine (CK.out _).mono ?_; rintro e w1 ⟨rfl, hb1⟩; obtain ⟨hc1, hf1⟩ := bcell hb1; have hs1 := hb1.size; (try simp at hs1); have hz1 : w.heap.size < w1.heap.size := by have := hb1.size; (try simp at this); omega))
    go_ret
    exact ⟨rfl, (by repeat (first | exact Below.refl _ _ | refine Below.setCell ?_ (by first | (simp; done) | (simp; omega) | omega) _ | refine Below.alloc ?_ (by first | (simp; done) | (simp; omega) | omega) _ | refine Below.drew ?_ | assumption | refine Below.trans ?_ (Below.mono (by assumption) (by first | (simp; done) | (simp; omega) | omega))))⟩
end Go.Proofs.YtakfjdnpfhcgkaaGreatDoor
