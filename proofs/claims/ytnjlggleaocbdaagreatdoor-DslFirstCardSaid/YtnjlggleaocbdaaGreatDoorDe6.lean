/-
  Contract of the reader's theory. (Printed by tools/mkde6.py.)
-/
import Derived.Test.YtnjlggleaocbdaaGreatDoorDe5
import Derived.Test.YtnjlggleaocbdaaGreatDoorQz
import Derived.Test.YtnjlggleaocbdaaGreatDoorQh
namespace Go.Proofs.YtnjlggleaocbdaaGreatDoor
set_option linter.all false
open Go.RowKit Go.Shelf
attribute [local go_sem] cell_set_self lt_1 lt_2 lt_3 lt_4 lt_5 lt_6 fld_k fld_s fld_n fld_p

theorem items_over {f g n : Nat} {T : TheoryT} {t : Tok} {r : List Tok} (h : t.k = 101) : itemsF f g n T (t :: r) = .ok T (t :: r) := by
  rw [itemsF.eq_def]; simp only; rw [if_pos h]
theorem items_bad {f g n : Nat} {T : TheoryT} {t : Tok} {r : List Tok} (h : ¬ t.k = 101) (h2 : ¬ (t.k = 119 ∧ (t.s = wInput ∨ t.s = wOutput ∨ t.s = wRule))) : itemsF f g n T (t :: r) = .no t.p 11 := by
  rw [itemsF.eq_def]; simp only; rw [if_neg h, if_pos h2]
theorem items_many {f g : Nat} {T : TheoryT} {t : Tok} {r : List Tok} (h : ¬ t.k = 101) (h2 : t.k = 119 ∧ (t.s = wInput ∨ t.s = wOutput ∨ t.s = wRule)) : itemsF f g 100 T (t :: r) = .no t.p 9 := by
  rw [itemsF.eq_def]; simp only; rw [if_neg h, if_neg (fun h3 => h3 h2)]; simp
theorem items_rule {f g n : Nat} {T : TheoryT} {t : Tok} {r : List Tok} (h : t.k = 119) (h2 : t.s = wRule) (hn : ¬ n = 100) : itemsF f (g + 1) n T (t :: r) = (ruleF f r).bind fun x r' => itemsF f g (n + 1) ⟨T.decls, T.rules ++ [x]⟩ r' := by
  rw [itemsF.eq_def]; simp only; rw [if_neg (by omega), if_neg (by simp [h, h2]), if_neg hn, if_pos h2]
theorem items_decl {f g n : Nat} {T : TheoryT} {t : Tok} {r : List Tok} (h : t.k = 119) (h2 : t.s = wInput ∨ t.s = wOutput) (hn : ¬ n = 100) : itemsF f (g + 1) n T (t :: r) = (declF (decide (t.s = wOutput)) r).bind fun x r' => itemsF f g (n + 1) ⟨T.decls ++ [x], T.rules⟩ r' := by
  have h3 : ¬ t.s = wRule := by rcases h2 with e | e <;> rw [e] <;> decide
  rw [itemsF.eq_def]; simp only; rw [if_neg (by omega), if_neg (by rcases h2 with e | e <;> simp [h, e]), if_neg hn, if_neg h3]
theorem rout_ok {rb gt : Nat} {W w' : World} {e : Ending} {x : RuleT} {r : List Tok} (h : POut rb gt W (encR W) (.ok x r) e w') : ∃ A1 c1 A2 c2, e = .returned (.agg (ruleC x (exprC x.cond.op x.cond.n x.cond.s A1 x.cond.args.length c1) (exprC x.thn.op x.thn.n x.thn.s A2 x.thn.args.length c2)).toArray) ∧ Hid (RlV (fun b => W.heap.size ≤ b) w' x (ruleC x (exprC x.cond.op x.cond.n x.cond.s A1 x.cond.args.length c1) (exprC x.thn.op x.thn.n x.thn.s A2 x.thn.args.length c2))) ∧ Hid (RdR w' rb gt r) ∧ Gr W.heap.size rb W w' := by
  obtain ⟨⟨V, h1, cs, ds, h2, h3, h3'⟩, h4, h5⟩ := h
  have h6 := h3
  have h6' := h3'
  obtain ⟨nm, rk, ⟨o1, n1, s1, a1⟩, tg, ⟨o2, n2, s2, a2⟩⟩ := x
  unfold EV at h6 h6'
  obtain ⟨A1, c1, h7, -⟩ := h6
  obtain ⟨A2, c2, h8, -⟩ := h6'
  subst h7 h8
  exact ⟨A1, c1, A2, c2, by rw [h1, h2]; rfl, Lib.hid ⟨_, _, rfl, h3, h3'⟩, Lib.hid h4, h5⟩
def encT (w : World) : TheoryT → World → Value → Prop := fun T W V => ∃ VD VR, V = .agg #[VD, VR] ∧ ThR (w.heap.size + 2) W T VD VR
theorem two_cells {w : World} {b : Nat} {v0 v1 : Value} {t : TypeId} (h : w.heap[b]? = some (.cells #[v0, v1] t (0, 0))) :
    (w.cell? ⟨b, 0, none⟩ = some v0 ∧ w.cell? ⟨b, 1, none⟩ = some v1) ∧ ∀ o, w.frozen? ⟨b, o, none⟩ = false := by
  refine ⟨by simp [World.cell?, h], fun o => by simp [World.frozen?, h]⟩
theorem word_of {s : List UInt8} : (s = wInput ∨ s = wOutput ∨ s = wRule → 0 ≤ wordI s) ∧ (¬ (s = wInput ∨ s = wOutput ∨ s = wRule) → wordI s < 0) := by
  refine ⟨?_, fun h => ?_⟩
  · rintro (rfl | rfl | rfl) <;> decide
  · unfold wordI
    rw [if_neg (fun e => h (.inl e)), if_neg (fun e => h (.inr (.inl e))), if_neg (fun e => h (.inr (.inr e)))]; decide
theorem rd_next1 {rb gt : Nat} {t : Tok} {r : List Tok} {w : World} (R : RdR w rb gt (t :: r)) : ∃ p : Nat, p ≤ 1000000000 ∧ w.cell? ⟨rb, 1, none⟩ = some (.int .i64 (p : Int)) ∧ w.frozen? ⟨rb, 1, none⟩ = false ∧ RdR (w.setCell ⟨rb, 1, none⟩ (.int .i64 ((p : Int) + 1))) rb gt r := by
  obtain ⟨p, hp, q0, q1, hs⟩ := RdR.step R
  exact ⟨p, hp, q0, q1, hs _ (Below.refl _ _)⟩
theorem grown_low {W W' : World} {row : Option Nat} {B : Nat} (hg : W.grownBy W' row) (hr : ∀ k, row = some k → B ≤ k) : ∀ b o, b < B → b < W.heap.size → W'.cell? ⟨b, o, none⟩ = W.cell? ⟨b, o, none⟩ := fun b o h1 h2 => World.cell?_of_block (hg.block b h2 (fun e => by have := hr b e.symm; omega))
set_option maxHeartbeats 16000000 in
set_option maxRecDepth 100000 in
theorem theory_any (rb gt f : Nat) (ts : List Tok) (w : World) (hf : 6 * ts.length + 6 ≤ f) (hd : f ≤ 1000000000) (R : RdR w rb gt ts) (hE : EndsT ts) (hS : ShortT ts) :
    Calls Tryz.prog 34 #[.pointer (some ⟨rb, 0, none⟩)] w (POut rb gt w (encT w) (itemsF f 101 0 theory0 ts)) := by
  suffices key : ∀ Q : Ending → World → Prop, Hid (∀ e w', POut rb gt w (encT w) (itemsF f 101 0 theory0 ts) e w' → Q e w') → Calls Tryz.prog 34 #[.pointer (some ⟨rb, 0, none⟩)] w Q from key _ (Lib.hid fun _ _ h => h)
  intro Q HQQ
  obtain ⟨hrb, hgt, hgr⟩ := R.lens
  have hn0 : ¬ w.heap.size = rb ∧ ¬ rb = w.heap.size ∧ ¬ w.heap.size = gt := by omega
  have FA := Lib.hid (fun er t r W R' => fail_any rb gt t r er W R')
  have HH := Lib.hid (fun t r W R' => here_any rb gt t r W R')
  have RU := Lib.hid (fun r W (h : 6 * r.length + 6 ≤ f) R' hE hS => rule_any rb gt f r W h hd R' hE hS)
  have DE := Lib.hid (fun o r W R' hE hS => decl_any rb gt o r W R' hE hS)
  dsimp only [tokV] at HH
  obtain ⟨X, hX⟩ : ∃ X, itemsF f 101 0 theory0 ts = X := ⟨_, rfl⟩
  rw [hX] at HQQ
  have HX := Lib.hid hX
  have HES := Lib.hid (And.intro hE hS)
  have HG0 : Hid (Gr w.heap.size rb w ((w.alloc (.cells #[.slice none 0 0, .slice none 0 0] 43)).alloc (.cells #[.slice none 0 0, .slice none 0 0] 43)) ∧ ((w.alloc (.cells #[.slice none 0 0, .slice none 0 0] 43)).alloc (.cells #[.slice none 0 0, .slice none 0 0] 43)).heap[w.heap.size]? = some (.cells #[.slice none 0 0, .slice none 0 0] 43) ∧ w.heap.size + 1 < ((w.alloc (.cells #[.slice none 0 0, .slice none 0 0] 43)).alloc (.cells #[.slice none 0 0, .slice none 0 0] 43)).heap.size) := Lib.hid ⟨((Gr.refl _ _ _).alloc (Nat.le_refl _) _).alloc (by simp) _, (((Below.refl _ _).alloc (Nat.le_refl _) _).block _ (by simp)).trans (heap_alloc_new w _), by simp⟩
  have HC0 : Hid (((w.alloc (.cells #[.slice none 0 0, .slice none 0 0] 43)).alloc (.cells #[.slice none 0 0, .slice none 0 0] 43)).heap[w.heap.size + 1]? = some (.cells #[.slice none 0 0, .slice none 0 0] 43)) := Lib.hid (heap_alloc_at (by simp))
  have HR0 := Lib.hid ((R.alloc (.cells #[.slice none 0 0, .slice none 0 0] 43)).alloc (.cells #[.slice none 0 0, .slice none 0 0] 43))
  have HT0 := Lib.hid (ThR.nil (w.heap.size + 1 + 1) ((w.alloc (.cells #[.slice none 0 0, .slice none 0 0] 43)).alloc (.cells #[.slice none 0 0, .slice none 0 0] 43)))
  clear hX R hE hS
  go_enter Tryz.func34, Tryz.ntmps34
  go_wp2_with (fail)
  generalize hb3 : w.heap.size + 1 = b3 at *
  have hb9 : ¬ b3 = rb ∧ ¬ rb = b3 ∧ ¬ b3 = gt ∧ ¬ b3 = w.heap.size ∧ ¬ w.heap.size = b3 ∧ rb < b3 ∧ w.heap.size < b3 := by omega
  have HB33 := Lib.hid hb3
  clear hb3
  go_loopg [4] ts.length (fun g j wx => ∃ (T : TheoryT) (AD AR : Option Addr) (nD cD nR cR : Nat) (r : List Tok) (n gg : Nat), g = r.length ∧ j = .int .i64 (n : Int) ∧ n ≤ 100 ∧ gg + n = 101 ∧ r.length ≤ ts.length ∧ (T.decls.length = nD ∧ T.rules.length = nR ∧ nD + nR = n) ∧ Hid (itemsF f gg n T r = X) ∧ Hid (EndsT r ∧ ShortT r ∧ RdR wx rb gt r) ∧ Hid (wx.heap[b3]? = some (.cells #[.slice AD nD cD, .slice AR nR cR] 43 (0, 0))) ∧ Hid (Gr w.heap.size rb w wx ∧ wx.heap[w.heap.size]? = some (.cells #[.slice none 0 0, .slice none 0 0] 43) ∧ b3 < wx.heap.size) ∧ Hid (ThR (b3 + 1) wx T (.slice AD nD cD) (.slice AR nR cR)))
  case atStart => exact ⟨theory0, none, none, 0, 0, 0, 0, ts, 0, 101, rfl, rfl, by omega, by omega, Nat.le_refl _, ⟨rfl, rfl, rfl⟩, HX, Lib.hid ⟨HES.out.1, HES.out.2, HR0.out⟩, HC0, HG0, HT0⟩
  case round =>
    obtain ⟨T, AD, AR, nD, cD, nR, cR, r, n, gg, hgl, rfl, hn, hgn, hrl, hnn, HM, HI, HC, HG, HT⟩ := hrel
    clear HC0 HR0 HT0 HG0
    obtain ⟨wo, rfl⟩ : ∃ wo : World, wo = wr := ⟨_, rfl⟩
    subst hgl
    obtain ⟨t, r2, rfl⟩ := head_cons HI.out.1.ne
    obtain ⟨g', rfl⟩ : ∃ g', gg = g' + 1 := ⟨gg - 1, by omega⟩
    simp only [List.length_cons] at hrl
    have hlt3 := HG.out.2.2
    have hso := HG.out.1.size
    have HRo := Lib.hid HI.out.2.2
    have HHt := Lib.hid (fun W R' => HH.out t r2 W R')
    by_cases h101 : t.k = 101
    · have HN : Hid (X = PR.ok T (t :: r2)) := Lib.hid (by rw [← HM.out, items_over h101])
      have ek : (t.k == 101) = true := by simp [h101]
      clear h101
      go_wp2_with (first | (go_at_call 31; (with_reducible refine (HHt.out _ HRo.out).mono ?_); rintro e w2 ⟨rfl, hb2⟩; obtain ⟨⟨k0, k1⟩, kf⟩ := two_cells ((hb2.block _ hlt3).trans HC.out); obtain ⟨⟨z0, z1⟩, zf⟩ := two_cells ((hb2.block _ (by omega)).trans HG.out.2.1); have HG2 := Lib.hid (HG.out.1.below hb2 hso); have HR2 := Lib.hid (HRo.out.below hb2); have HT2 := Lib.hid (HT.out.keep ⟨hb2.size, fun k _ h => hb2.block k h⟩); clear hb2))
      have hg2 := HG2.out
      have hr2 := HR2.out
      exact bodyPost_ret (v := .agg #[.slice AD nD cD, .slice AR nR cR]) (by simp [results, Tryz.results34, go_sem, *]) rfl (HQQ.out _ _ (by rw [HN.out]; exact ⟨⟨_, rfl, .slice AD nD cD, .slice AR nR cR, rfl, (by rw [show w.heap.size + 2 = b3 + 1 by have := HB33.out; omega]; exact HT2.out.keep (by repeat (first | (with_reducible exact Kp.refl _ _) | (with_reducible assumption) | ((with_reducible refine Kp.set ?_ ?hq1 _); (case hq1 => (first | (simp; done) | (simp; omega) | (dsimp only; omega)))) | (with_reducible refine Kp.alloc ?_ _) | (with_reducible refine Kp.drew ?_) | refine Kp.trans ?_ (Kp.gr (by assumption) (by first | (simp; done) | (simp; omega) | (dsimp only; omega))))))⟩, (by repeat (first | (with_reducible exact hr2) | ((with_reducible refine RdR.setCell ?_ ?hq1 ?hq2 _); (case hq1 => (first | (simp; done) | (simp; omega) | omega)); (case hq2 => (first | (simp; done) | (simp; omega) | omega))) | (with_reducible refine RdR.alloc ?_ _) | (with_reducible refine RdR.drew ?_) | refine RdR.below ?_ (by assumption))), (by repeat (first | (with_reducible exact Gr.refl _ _ _) | (with_reducible assumption) | ((with_reducible refine Gr.setCell ?_ ?hq1 _); (case hq1 => (first | (right; rfl) | (left; (first | (simp; done) | (simp; omega) | omega))))) | ((with_reducible refine Gr.alloc ?_ ?hq1 _); (case hq1 => (first | (simp; done) | (simp; omega) | omega))) | (with_reducible refine Gr.drew ?_) | exact Gr.of_below (by assumption) | refine Gr.trans ?_ (by assumption) (by first | (simp; done) | (simp; omega) | omega) | refine Gr.below ?_ (by assumption) (by first | (simp; done) | (simp; omega) | omega)))⟩))
    · have ek : (t.k == 101) = false := by simp [h101]
      have FAe := Lib.hid (fun W R' => FA.out 11 t r2 W R')
      by_cases h119 : t.k = 119
      · have ek2 : (t.k == 119) = true := by simp [h119]
        have ek3 : (t.k != 119) = false := by simp [h119]
        by_cases hw : t.s = wInput ∨ t.s = wOutput ∨ t.s = wRule
        · have hwi : ¬ wordI t.s < 0 := by have := word_of.1 hw; omega
          by_cases hn100 : n = 100
          · subst hn100
            have HN : Hid (X = PR.no t.p 9) := Lib.hid (by rw [← HM.out, items_many h101 ⟨h119, hw⟩])
            have FA9 := Lib.hid (fun W R' => FA.out 9 t r2 W R')
            clear h101 h119 hw
            go_wp2_with (first | (go_at_call 31; (with_reducible refine (HHt.out _ HRo.out).mono ?_); rintro e w2 ⟨rfl, hb2⟩; have HR2 := Lib.hid (HRo.out.below hb2); have HB2 := Lib.hid hb2; clear hb2) | (go_at_call 31; (with_reducible refine (HHt.out _ (HR2.out.alloc _)).mono ?_); rintro e w3 ⟨rfl, hb3⟩; have HR3 := Lib.hid ((HR2.out.alloc _).below hb3); have HB3 := Lib.hid ((HB2.out.alloc HB2.out.size _).trans (hb3.mono (by have := HB2.out.size; (try simp only [World.size_alloc]); omega))); have HS3 := Lib.hid (Strs.below (strs_alloc w2 [wInput, wOutput, wRule] 9 _ rfl) hb3); clear hb3) | (go_at_call 51; (refine (index_any _ _ _ HS3.out).mono ?_); rintro e w9 ⟨rfl, rfl⟩) | (go_at_call 31; (with_reducible refine (HHt.out _ HR3.out).mono ?_); rintro e w4 ⟨rfl, hb4⟩; have HR4 := Lib.hid (HR3.out.below hb4); have HB4 := Lib.hid (HB3.out.trans (hb4.mono HB3.out.size)); obtain ⟨p5, hp5, q0, q1, hstp⟩ := rd_next1 HR4.out; have HSTP := Lib.hid hstp; clear hb4 hstp))
            go_at_call 32
            refine (FA9.out _ HR4.out).mono ?_
            rintro e w6 ⟨rfl, hb6⟩
            have HG6 := Lib.hid (HG.out.1.below (HB4.out.trans (hb6.mono HB4.out.size)) hso)
            go_wp2
            exact ⟨rfl, HQQ.out _ _ (by rw [HN.out]; exact ⟨rfl, HG6.out⟩)⟩
          · have hni : ((n : Int) == 100) = false := by simp; omega
            have hni2 : ¬ (n : Int) = 100 := by omega
            have HET : Hid (EndsT r2 ∧ ShortT r2) := Lib.hid ⟨HI.out.1.tail (.inl h119), HI.out.2.1.tail⟩
            by_cases hr : t.s = wRule
            · have hI : Hid (itemsF f (g' + 1) n T (t :: r2) = (ruleF f r2).bind fun x r' => itemsF f g' (n + 1) ⟨T.decls, T.rules ++ [x]⟩ r') := Lib.hid (items_rule h119 hr hn100)
              have hw2 : wordI t.s = 2 := by rw [hr]; decide
              clear h101 h119 hw hr hn100
              rw [hw2] at hwi
              go_wp2_with (first | (go_at_call 31; (with_reducible refine (HHt.out _ HRo.out).mono ?_); rintro e w2 ⟨rfl, hb2⟩; have HR2 := Lib.hid (HRo.out.below hb2); have HB2 := Lib.hid hb2; clear hb2) | (go_at_call 31; (with_reducible refine (HHt.out _ (HR2.out.alloc _)).mono ?_); rintro e w3 ⟨rfl, hb3⟩; have HR3 := Lib.hid ((HR2.out.alloc _).below hb3); have HB3 := Lib.hid ((HB2.out.alloc HB2.out.size _).trans (hb3.mono (by have := HB2.out.size; (try simp only [World.size_alloc]); omega))); have HS3 := Lib.hid (Strs.below (strs_alloc w2 [wInput, wOutput, wRule] 9 _ rfl) hb3); clear hb3) | (go_at_call 51; (refine (index_any _ _ _ HS3.out).mono ?_); rintro e w9 ⟨rfl, rfl⟩) | (go_at_call 31; (with_reducible refine (HHt.out _ HR3.out).mono ?_); rintro e w4 ⟨rfl, hb4⟩; have HR4 := Lib.hid (HR3.out.below hb4); have HB4 := Lib.hid (HB3.out.trans (hb4.mono HB3.out.size)); obtain ⟨p5, hp5, q0, q1, hstp⟩ := rd_next1 HR4.out; have HSTP := Lib.hid hstp; clear hb4 hstp))
              have hs4 := HB4.out.size
              have HR5 := HSTP
              have HG5 : Hid (Gr w.heap.size rb w (w4.setCell ⟨rb, 1, none⟩ (.int .i64 ((p5 : Int) + 1)))) := Lib.hid ((HG.out.1.below HB4.out hso).setCell (p := ⟨rb, 1, none⟩) (.inr rfl) _)
              have HZ5 : Hid ((w4.setCell ⟨rb, 1, none⟩ (.int .i64 ((p5 : Int) + 1))).heap[w.heap.size]? = some (.cells #[.slice none 0 0, .slice none 0 0] 43)) := Lib.hid ((setCell_block _ _ _ _ hn0.1).trans ((HB4.out.block _ (by omega)).trans HG.out.2.1))
              have HC5 : Hid ((w4.setCell ⟨rb, 1, none⟩ (.int .i64 ((p5 : Int) + 1))).heap[b3]? = some (.cells #[.slice AD nD cD, .slice AR nR cR] 43 (0, 0))) := Lib.hid ((setCell_block _ _ _ _ hb9.1).trans ((HB4.out.block _ hlt3).trans HC.out))
              have HT5 : Hid (ThR (b3 + 1) (w4.setCell ⟨rb, 1, none⟩ (.int .i64 ((p5 : Int) + 1))) T (.slice AD nD cD) (.slice AR nR cR)) := Lib.hid (HT.out.keep (Kp.set (Kp.below HB4.out) (by dsimp only; omega) _))
              have hs5 : (w4.setCell ⟨rb, 1, none⟩ (.int .i64 ((p5 : Int) + 1))).heap.size = w4.heap.size := by simp
              refine name_world ?_
              intro V5 hV5
              rw [← hV5] at HR5 HG5 HZ5 HC5 HT5 hs5
              clear hV5 HSTP HR4 HB4 HS3 HB3 HR3 HB2 HR2 q0 q1
              have hlt5 : b3 < V5.heap.size ∧ w.heap.size < V5.heap.size ∧ rb < V5.heap.size := by omega
              obtain ⟨⟨k0, k1⟩, kf⟩ := two_cells HC5.out
              obtain ⟨⟨z0, z1⟩, zf⟩ := two_cells HZ5.out
              have PT0 := fun W R' => RU.out r2 W (by omega) R' HET.out.1 HET.out.2
              cases hp : ruleF f r2 with
              | no p er =>
                rw [hp] at PT0
                have PT := Lib.hid (fun W R' => (show Calls Tryz.prog 52 #[.pointer (some ⟨rb, 0, none⟩)] W (fun e w' => e = .panicked (fltP p er) ∧ Gr W.heap.size rb W w') from PT0 W R'))
                have HN : Hid (X = PR.no p er) := Lib.hid (by have h := HM.out; rw [hI.out, hp] at h; exact h.symm)
                clear PT0 hp
                have HS6 := Lib.hid (And.intro HR5.out HG5.out)
                (refine wp_region_last_held ((fun W' => W'.cell? ⟨b3, 0, none⟩ = some (.slice AD nD cD) ∧ W'.cell? ⟨b3, 1, none⟩ = some (.slice AR nR cR) ∧ Hid (RdR W' rb gt r2 ∧ Gr w.heap.size rb w W'))) rfl (by kernel_rfl) (by kernel_rfl) ?hS0 (fun hHeld => ?_); (case hS0 => ((try dsimp only); (refine ⟨?_, ?_, Lib.hid ⟨HS6.out.1.drew, HS6.out.2.drew⟩⟩ <;> simp [go_sem, *]))); simp only [List.dropLast_cons_cons, List.dropLast_singleton, List.length_cons, List.length_nil, Nat.zero_add, Nat.reduceAdd])
                (refine take2 0 (some 40) (.pointer (some ⟨b3, 1, none⟩)) rfl (by kernel_rfl) (by kernel_rfl) (by kernel_rfl) rfl (fun _ _ _ h => h) (Or.inl ⟨by rfl, fun W' hSw => (by (try dsimp only at hSw); go_simp)⟩) (by assumption) ?_; (try simp only [Act.put, List.setIfInBounds_toArray, List.set_cons_zero, List.set_cons_succ]))
                (refine take2 1 (some 41) (.slice AR nR cR) rfl (by kernel_rfl) (by kernel_rfl) (by kernel_rfl) rfl (fun _ _ _ h => h) (Or.inl ⟨by rfl, fun W' hSw => (by (try dsimp only at hSw); go_simp)⟩) (by assumption) ?_; (try simp only [Act.put, List.setIfInBounds_toArray, List.set_cons_zero, List.set_cons_succ]))
                (refine take2 2 (some 42) (.pointer (some ⟨rb, 0, none⟩)) rfl (by kernel_rfl) (by kernel_rfl) (by kernel_rfl) rfl (fun _ _ _ h => h) (Or.inl ⟨by rfl, fun W' hSw => (by (try dsimp only at hSw); go_simp)⟩) (by assumption) ?_; (try simp only [Act.put, List.setIfInBounds_toArray, List.set_cons_zero, List.set_cons_succ]))
                refine wpAnyH_ready (rs := [3]) (by kernel_rfl) (by simp) ?_
                refine AllReadyH.cons rfl (fun K hK => ?_) AllReadyH.nil
                clear hK
                obtain ⟨-, -, HRD⟩ := hHeld
                go_simp
                go_at_call 52
                refine (PT.out _ HRD.out.1).mono ?_
                rintro e w7 ⟨rfl, hg7⟩
                exact ⟨rfl, HQQ.out _ _ (by rw [HN.out]; exact ⟨rfl, HRD.out.2.trans hg7 HRD.out.2.size⟩)⟩
              | ok x r3 =>
                rw [hp] at PT0
                have PT1 := fun W R' => (PT0 W R').mono (fun e w' h => rout_ok h)
                obtain ⟨nm, rk, ⟨o1, n1, s1, a1⟩, tg, ⟨o2, n2, s2, a2⟩⟩ := x
                dsimp only [ruleC, exprC, ExprT.op, ExprT.n, ExprT.s, ExprT.args, List.cons_append, List.nil_append] at PT1
                have PT := Lib.hid PT1
                clear PT1
                have HM2 : Hid (itemsF f g' (n + 1) ⟨T.decls, T.rules ++ [⟨nm, rk, .mk o1 n1 s1 a1, tg, .mk o2 n2 s2 a2⟩]⟩ r3 = X) := Lib.hid (by have h := HM.out; rw [hI.out, hp] at h; exact h)
                have hT := rule_takes f _ _ _ hp
                have HE3 : Hid (EndsT r3 ∧ ShortT r3) := Lib.hid ⟨hT.2.1 HET.out.1, hT.2.2 HET.out.2⟩
                have hl3 := hT.1
                clear PT0 hp hT
                obtain ⟨i0, hi0, iz0, iz1, iz2⟩ := info_parts info_rul
                have hRd := HR5.out.drew
                (refine wp_region_last_held ((fun W' => W'.cell? ⟨b3, 0, none⟩ = some (.slice AD nD cD) ∧ W'.cell? ⟨b3, 1, none⟩ = some (.slice AR nR cR) ∧ b3 < W'.heap.size ∧ w.heap.size < W'.heap.size)) rfl (by kernel_rfl) (by kernel_rfl) ?hS0 (fun hHeld => ?_); (case hS0 => ((try dsimp only); (refine ⟨?_, ?_, ?_, ?_⟩ <;> first | (simp [go_sem, *]; done) | omega | (simp; omega)))); simp only [List.dropLast_cons_cons, List.dropLast_singleton, List.length_cons, List.length_nil, Nat.zero_add, Nat.reduceAdd])
                (refine take2 0 (some 40) (.pointer (some ⟨b3, 1, none⟩)) rfl (by kernel_rfl) (by kernel_rfl) (by kernel_rfl) rfl (fun _ _ _ h => h) (Or.inl ⟨by rfl, fun W' hSw => (by (try dsimp only at hSw); go_simp)⟩) (by assumption) ?_; (try simp only [Act.put, List.setIfInBounds_toArray, List.set_cons_zero, List.set_cons_succ]))
                (refine take2 1 (some 41) (.slice AR nR cR) rfl (by kernel_rfl) (by kernel_rfl) (by kernel_rfl) rfl (fun _ _ _ h => h) (Or.inl ⟨by rfl, fun W' hSw => (by (try dsimp only at hSw); go_simp)⟩) (by assumption) ?_; (try simp only [Act.put, List.setIfInBounds_toArray, List.set_cons_zero, List.set_cons_succ]))
                (refine take2 2 (some 42) (.pointer (some ⟨rb, 0, none⟩)) rfl (by kernel_rfl) (by kernel_rfl) (by kernel_rfl) rfl (fun _ _ _ h => h) (Or.inl ⟨by rfl, fun W' hSw => (by (try dsimp only at hSw); go_simp)⟩) (by assumption) ?_; (try simp only [Act.put, List.setIfInBounds_toArray, List.set_cons_zero, List.set_cons_succ]))
                (refine wpAnyH_ready (rs := [3]) (by kernel_rfl) (by simp) ?_; refine AllReadyH.cons rfl (fun K hK => ?_) AllReadyH.nil; (go_simp; go_at_call 52; (with_reducible refine (PT.out _ hRd).mono ?_); rintro e w7 ⟨A1, c1, A2, c2, rfl, hv7, hR7, hg7⟩; obtain ⟨hc7, hf7⟩ := gcell hg7; (try simp only [drew_size, drew_cell, drew_frozen] at hc7 hf7); have hs7 := hg7.size; (try simp only [drew_size] at hs7); have hz7 : w.heap.size < w7.heap.size ∧ b3 < w7.heap.size := (by omega); go_wp2_with (fail)); refine hK.out _ _ ?hS1 (fun hHeld1 => ?_); (case hS1 => ((try dsimp only); (exact ⟨(hc7 _ _ hlt5.1 hb9.1).trans k0, (hc7 _ _ hlt5.1 hb9.1).trans k1, by omega, by omega⟩))); clear hK K hHeld; have hHeld := hHeld1; clear hHeld1; (try simp only [Act.put, List.setIfInBounds_toArray, List.set_cons_zero, List.set_cons_succ]))
                have HG7 : Hid (Gr w.heap.size rb w w7) := Lib.hid (Gr.trans (B := w.heap.size) HG5.out.drew hg7 (by simp only [drew_size]; omega))
                have HT7 : Hid (ThR (b3 + 1) w7 T (.slice AD nD cD) (.slice AR nR cR)) := Lib.hid ((HT5.out.keep (Kp.drew (Kp.refl _ _))).keep (Kp.gr hg7 (by omega)))
                have HZ7 : Hid (w7.heap[w.heap.size]? = some (.cells #[.slice none 0 0, .slice none 0 0] 43)) := Lib.hid ((hg7.block _ (by simp only [drew_size]; omega) hn0.1).trans HZ5.out)
                have HC7 : Hid (w7.heap[b3]? = some (.cells #[.slice AD nD cD, .slice AR nR cR] 43 (0, 0))) := Lib.hid ((hg7.block _ (by simp only [drew_size]; omega) hb9.1).trans HC5.out)
                obtain ⟨css, -, hro, -⟩ := HT7.out.r
                rw [hnn.2.1] at hro
                have HX7 : Hid (RlV (fun b => b3 + 1 ≤ b ∧ (Value.slice AR nR cR).ownBlock ≠ some b ∧ (Value.slice AD nD cD).ownBlock ≠ some b) w7 ⟨nm, rk, .mk o1 n1 s1 a1, tg, .mk o2 n2 s2 a2⟩ [.string ⟨nm.toArray⟩, .int .i64 rk, .int .i64 o1, .int .i64 n1, .string ⟨s1.toArray⟩, .slice A1 a1.length c1, .string ⟨tg.toArray⟩, .int .i64 o2, .int .i64 n2, .string ⟨s2.toArray⟩, .slice A2 a2.length c2]) := Lib.hid (hv7.out.mono fun b hb hp => by
                  simp only [drew_size] at hp
                  obtain ⟨css5, -, ho5, -⟩ := HT5.out.r
                  exact ⟨by omega, fun e => by have := (ho5.lt b e).2; omega, fun e => by have := (HT5.out.d.lt b e).2; omega⟩)
                have HRO := Lib.hid hro
                have hw7 : b3 + 1 ≤ w7.heap.size := by omega
                clear hro hg7 hv7
                (refine wpAnyH_ready (rs := [4]) (by kernel_rfl) (by simp) ?_; refine AllReadyH.cons rfl (fun K hK => ?_) AllReadyH.nil; (go_simp); refine hK.out _ _ ?hS1 (fun hHeld1 => ?_); (case hS1 => ((try dsimp only); (obtain ⟨e0, e1, e2, e3⟩ := hHeld; exact ⟨(((Below.refl w7.heap.size w7).alloc (Nat.le_refl _) _).cell (p := ⟨b3, 0, none⟩) e2).trans e0, (((Below.refl w7.heap.size w7).alloc (Nat.le_refl _) _).cell (p := ⟨b3, 1, none⟩) e2).trans e1, by simp; omega, by simp; omega⟩))); clear hK K hHeld; have hHeld := hHeld1; clear hHeld1; (try simp only [Act.put, List.setIfInBounds_toArray, List.set_cons_zero, List.set_cons_succ]))
                (refine wpAnyH_ready (rs := [5]) (by kernel_rfl) (by simp) ?_; refine AllReadyH.cons rfl (fun K hK => ?_) AllReadyH.nil; (refine step_append_lies _ rfl (.tmp 41) (.tmp 44) 41 rfl (b3 + 1) 89 i0 _ 11 152 Tryz.underlying41 hi0 iz0 iz1 iz2 rfl (by decide) (.slice AR nR cR) nR (css.flatten) rfl (HRO.out.alloc _) ⟨w7.heap.size, 0, none⟩ 1 1 [.string ⟨nm.toArray⟩, .int .i64 rk, .int .i64 o1, .int .i64 n1, .string ⟨s1.toArray⟩, .slice A1 a1.length c1, .string ⟨tg.toArray⟩, .int .i64 o2, .int .i64 n2, .string ⟨s2.toArray⟩, .slice A2 a2.length c2] rfl rfl (World.news_of_block (cs := #[.string ⟨nm.toArray⟩, .int .i64 rk, .int .i64 o1, .int .i64 n1, .string ⟨s1.toArray⟩, .slice A1 a1.length c1, .string ⟨tg.toArray⟩, .int .i64 o2, .int .i64 n2, .string ⟨s2.toArray⟩, .slice A2 a2.length c2]) (t := 89) (fr := (0, 0)) (heap_alloc_new w7 _)) (by simp [Value.oneCell']) (by omega) (by unfold maxLen; omega) (by omega) (by simp; omega) (w7.heap.size + 1) (by simp) ?_; intro gg cap w9 hown1 hgrow hat hlt9; change K (Act.put _ (some 45) _) _; have hr9 : ∀ q, (Value.slice AR nR cR).ownBlock = some q → b3 + 1 ≤ q := (fun q hq => (HRO.out.lt q hq).1); have hc9 := grown_low hgrow hr9; have hs9 : w7.heap.size < w9.heap.size := (by have := hgrow.size; simp at this; omega)); refine hK.out _ _ ?hS1 (fun hHeld1 => ?_); (case hS1 => ((try dsimp only); (obtain ⟨e0, e1, e2, e3⟩ := hHeld; exact ⟨(hc9 _ _ (by omega) (by simp; omega)).trans e0, (hc9 _ _ (by omega) (by simp; omega)).trans e1, by omega, by omega⟩))); clear hK K hHeld; have hHeld := hHeld1; clear hHeld1; (try simp only [Act.put, List.setIfInBounds_toArray, List.set_cons_zero, List.set_cons_succ]))
                (refine take2 6 (some 46) (.pointer (some ⟨b3, 1, none⟩)) rfl (by kernel_rfl) (by kernel_rfl) (by kernel_rfl) rfl (fun _ _ _ h => h) (Or.inl ⟨by rfl, fun W' hSw => (by (try dsimp only at hSw); go_simp)⟩) (by assumption) ?_; (try simp only [Act.put, List.setIfInBounds_toArray, List.set_cons_zero, List.set_cons_succ]))
                have HEL := Lib.hid hHeld
                (refine wpAnyH_done (by kernel_rfl) ?_ _; simp only [lastQ]; clear hHeld; change Oper.wp _ (Oper.mk none (Op.store 41 (Operand.tmp 46) (Operand.tmp 45)) _ _ _ none) _ _ _ _)
                have blk9 : ∀ q, q < b3 + 1 → w9.heap[q]? = w7.heap[q]? := fun q hq => (hgrow.block q (by simp; omega) (fun e => by have := hr9 q e.symm; omega)).trans (((Below.refl w7.heap.size w7).alloc (Nat.le_refl _) _).block q (by omega))
                have HC9 := Lib.hid ((blk9 b3 (by omega)).trans HC7.out)
                have HZ9 := Lib.hid ((blk9 w.heap.size (by omega)).trans HZ7.out)
                obtain ⟨⟨y0, y1⟩, yf⟩ := two_cells HC9.out
                have HB79 : Hid (Below (b3 + 1) w7 w9) := Lib.hid (below_push (Below.refl _ _) hw7 hgrow hr9)
                have HG9 := Lib.hid (HG7.out.below HB79.out (by omega))
                have HR9 : Hid (RdR w9 rb gt r3) := Lib.hid (rd_push hR7.out hgrow hr9 (by omega) (by omega))
                have HT9 := Lib.hid ((HT7.out.keep (Kp.alloc (Kp.refl _ _) _)).pushR (cap := cap) (HX7.out.keep (Kp.alloc (Kp.refl _ _) _)) (by rw [hnn.2.1]; exact HRO.out.alloc _) (by rw [hnn.2.1]; exact hown1) hgrow (hat.elim .inl (fun e => .inr (by rw [e]; simp))))
                rw [hnn.2.1] at HT9
                clear hgrow hat hown1 hc9 hr9 HRO blk9
                go_simp
                go_wp2_with (fail)
                go_roundg r3.length
                case measure => simp only [List.length_cons]; omega
                case rel =>
                  have hgx := HG9.out
                  have hrx := HR9.out
                  have htx := HT9.out
                  refine ⟨⟨T.decls, T.rules ++ [⟨nm, rk, .mk o1 n1 s1 a1, tg, .mk o2 n2 s2 a2⟩]⟩, AD, some ⟨gg, 0, none⟩, nD, cD, nR + 1, cap, r3, n + 1, g', rfl, by go_num, by omega, by omega, by omega, ⟨by simp; omega, by simp; omega, by omega⟩, HM2, Lib.hid ⟨HE3.out.1, HE3.out.2, (by repeat (first | (with_reducible exact hrx) | ((with_reducible refine RdR.setCell ?_ ?hq1 ?hq2 _); (case hq1 => (first | (simp; done) | (simp; omega) | omega)); (case hq2 => (first | (simp; done) | (simp; omega) | omega))) | (with_reducible refine RdR.alloc ?_ _) | (with_reducible refine RdR.drew ?_) | refine RdR.below ?_ (by assumption)))⟩, Lib.hid (by have := set_at HC9.out 1 (.slice (some ⟨gg, 0, none⟩) (nR + 1) cap); simpa using this), Lib.hid ⟨(by repeat (first | (with_reducible exact Gr.refl _ _ _) | (with_reducible assumption) | ((with_reducible refine Gr.setCell ?_ ?hq1 _); (case hq1 => (first | (right; rfl) | (left; (first | (simp; done) | (simp; omega) | omega))))) | ((with_reducible refine Gr.alloc ?_ ?hq1 _); (case hq1 => (first | (simp; done) | (simp; omega) | omega))) | (with_reducible refine Gr.drew ?_) | exact Gr.of_below (by assumption) | refine Gr.trans ?_ (by assumption) (by first | (simp; done) | (simp; omega) | omega) | refine Gr.below ?_ (by assumption) (by first | (simp; done) | (simp; omega) | omega))), (setCell_block _ _ _ _ (by omega)).trans HZ9.out, by simp; omega⟩, Lib.hid (htx.keep (by repeat (first | (with_reducible exact Kp.refl _ _) | (with_reducible assumption) | ((with_reducible refine Kp.set ?_ ?hq1 _); (case hq1 => (first | (simp; done) | (simp; omega) | (dsimp only; omega)))) | (with_reducible refine Kp.alloc ?_ _) | (with_reducible refine Kp.drew ?_) | refine Kp.trans ?_ (Kp.gr (by assumption) (by first | (simp; done) | (simp; omega) | (dsimp only; omega))))))⟩
            · have hor : t.s = wInput ∨ t.s = wOutput := by rcases hw with e | e | e; exact .inl e; exact .inr e; exact absurd e hr
              have hI : Hid (itemsF f (g' + 1) n T (t :: r2) = (declF (decide (t.s = wOutput)) r2).bind fun x r' => itemsF f g' (n + 1) ⟨T.decls ++ [x], T.rules⟩ r') := Lib.hid (items_decl h119 hor hn100)
              have hw2 : ∃ i : Int, wordI t.s = i ∧ ((i == 2) = false ∧ ¬ i = 2) ∧ (i == 1) = decide (t.s = wOutput) ∧ decide (i = 1) = decide (t.s = wOutput) := by
                rcases hor with e | e <;> rw [e]
                · exact ⟨0, by decide, by decide, by decide, by decide⟩
                · exact ⟨1, by decide, by decide, by decide, by decide⟩
              obtain ⟨wi, hwi2, ⟨hne2, hne2'⟩, he1, he1'⟩ := hw2
              rw [hwi2] at hwi
              generalize decide (t.s = wOutput) = ob at *
              clear h101 h119 hw hr hor hn100
              go_wp2_with (first | (go_at_call 31; (with_reducible refine (HHt.out _ HRo.out).mono ?_); rintro e w2 ⟨rfl, hb2⟩; have HR2 := Lib.hid (HRo.out.below hb2); have HB2 := Lib.hid hb2; clear hb2) | (go_at_call 31; (with_reducible refine (HHt.out _ (HR2.out.alloc _)).mono ?_); rintro e w3 ⟨rfl, hb3⟩; have HR3 := Lib.hid ((HR2.out.alloc _).below hb3); have HB3 := Lib.hid ((HB2.out.alloc HB2.out.size _).trans (hb3.mono (by have := HB2.out.size; (try simp only [World.size_alloc]); omega))); have HS3 := Lib.hid (Strs.below (strs_alloc w2 [wInput, wOutput, wRule] 9 _ rfl) hb3); clear hb3) | (go_at_call 51; (refine (index_any _ _ _ HS3.out).mono ?_); rintro e w9 ⟨rfl, rfl⟩) | (go_at_call 31; (with_reducible refine (HHt.out _ HR3.out).mono ?_); rintro e w4 ⟨rfl, hb4⟩; have HR4 := Lib.hid (HR3.out.below hb4); have HB4 := Lib.hid (HB3.out.trans (hb4.mono HB3.out.size)); obtain ⟨p5, hp5, q0, q1, hstp⟩ := rd_next1 HR4.out; have HSTP := Lib.hid hstp; clear hb4 hstp))
              have hs4 := HB4.out.size
              have HR5 := HSTP
              have HG5 : Hid (Gr w.heap.size rb w (w4.setCell ⟨rb, 1, none⟩ (.int .i64 ((p5 : Int) + 1)))) := Lib.hid ((HG.out.1.below HB4.out hso).setCell (p := ⟨rb, 1, none⟩) (.inr rfl) _)
              have HZ5 : Hid ((w4.setCell ⟨rb, 1, none⟩ (.int .i64 ((p5 : Int) + 1))).heap[w.heap.size]? = some (.cells #[.slice none 0 0, .slice none 0 0] 43)) := Lib.hid ((setCell_block _ _ _ _ hn0.1).trans ((HB4.out.block _ (by omega)).trans HG.out.2.1))
              have HC5 : Hid ((w4.setCell ⟨rb, 1, none⟩ (.int .i64 ((p5 : Int) + 1))).heap[b3]? = some (.cells #[.slice AD nD cD, .slice AR nR cR] 43 (0, 0))) := Lib.hid ((setCell_block _ _ _ _ hb9.1).trans ((HB4.out.block _ hlt3).trans HC.out))
              have HT5 : Hid (ThR (b3 + 1) (w4.setCell ⟨rb, 1, none⟩ (.int .i64 ((p5 : Int) + 1))) T (.slice AD nD cD) (.slice AR nR cR)) := Lib.hid (HT.out.keep (Kp.set (Kp.below HB4.out) (by dsimp only; omega) _))
              have hs5 : (w4.setCell ⟨rb, 1, none⟩ (.int .i64 ((p5 : Int) + 1))).heap.size = w4.heap.size := by simp
              refine name_world ?_
              intro V5 hV5
              rw [← hV5] at HR5 HG5 HZ5 HC5 HT5 hs5
              clear hV5 HSTP HR4 HB4 HS3 HB3 HR3 HB2 HR2 q0 q1
              have hlt5 : b3 < V5.heap.size ∧ w.heap.size < V5.heap.size ∧ rb < V5.heap.size := by omega
              obtain ⟨⟨k0, k1⟩, kf⟩ := two_cells HC5.out
              obtain ⟨⟨z0, z1⟩, zf⟩ := two_cells HZ5.out
              have PT0 := fun W R' => DE.out ob r2 W R' HET.out.1 HET.out.2
              cases hp : declF ob r2 with
              | no p er =>
                rw [hp] at PT0
                have PT := Lib.hid (fun W R' => (show Calls Tryz.prog 53 #[.pointer (some ⟨rb, 0, none⟩), .bool ob] W (fun e w' => e = .panicked (fltP p er) ∧ Gr W.heap.size rb W w') from PT0 W R'))
                have HN : Hid (X = PR.no p er) := Lib.hid (by have h := HM.out; rw [hI.out, hp] at h; exact h.symm)
                clear PT0 hp
                have HS6 := Lib.hid (And.intro HR5.out HG5.out)
                (refine wp_region_last_held ((fun W' => W'.cell? ⟨b3, 0, none⟩ = some (.slice AD nD cD) ∧ W'.cell? ⟨b3, 1, none⟩ = some (.slice AR nR cR) ∧ Hid (RdR W' rb gt r2 ∧ Gr w.heap.size rb w W'))) rfl (by kernel_rfl) (by kernel_rfl) ?hS0 (fun hHeld => ?_); (case hS0 => ((try dsimp only); (refine ⟨?_, ?_, Lib.hid ⟨HS6.out.1.drew, HS6.out.2.drew⟩⟩ <;> simp [go_sem, *]))); simp only [List.dropLast_cons_cons, List.dropLast_singleton, List.length_cons, List.length_nil, Nat.zero_add, Nat.reduceAdd])
                (refine take2 0 (some 47) (.pointer (some ⟨b3, 0, none⟩)) rfl (by kernel_rfl) (by kernel_rfl) (by kernel_rfl) rfl (fun _ _ _ h => h) (Or.inl ⟨by rfl, fun W' hSw => (by (try dsimp only at hSw); go_simp)⟩) (by assumption) ?_; (try simp only [Act.put, List.setIfInBounds_toArray, List.set_cons_zero, List.set_cons_succ]))
                (refine take2 1 (some 48) (.slice AD nD cD) rfl (by kernel_rfl) (by kernel_rfl) (by kernel_rfl) rfl (fun _ _ _ h => h) (Or.inl ⟨by rfl, fun W' hSw => (by (try dsimp only at hSw); go_simp)⟩) (by assumption) ?_; (try simp only [Act.put, List.setIfInBounds_toArray, List.set_cons_zero, List.set_cons_succ]))
                (refine take2 2 (some 49) (.pointer (some ⟨rb, 0, none⟩)) rfl (by kernel_rfl) (by kernel_rfl) (by kernel_rfl) rfl (fun _ _ _ h => h) (Or.inl ⟨by rfl, fun W' hSw => (by (try dsimp only at hSw); go_simp)⟩) (by assumption) ?_; (try simp only [Act.put, List.setIfInBounds_toArray, List.set_cons_zero, List.set_cons_succ]))
                (refine take2 3 (some 50) (.int .i64 wi) rfl (by kernel_rfl) (by kernel_rfl) (by kernel_rfl) rfl (fun _ _ _ h => h) (Or.inl ⟨by rfl, fun W' hSw => (by (try dsimp only at hSw); go_simp)⟩) (by assumption) ?_; (try simp only [Act.put, List.setIfInBounds_toArray, List.set_cons_zero, List.set_cons_succ]))
                (refine take2 4 (some 51) (.bool ob) rfl (by kernel_rfl) (by kernel_rfl) (by kernel_rfl) rfl (fun _ _ _ h => h) (Or.inl ⟨by rfl, fun W' hSw => (by (try dsimp only at hSw); go_simp)⟩) (by assumption) ?_; (try simp only [Act.put, List.setIfInBounds_toArray, List.set_cons_zero, List.set_cons_succ]))
                refine wpAnyH_ready (rs := [5]) (by kernel_rfl) (by simp) ?_
                refine AllReadyH.cons rfl (fun K hK => ?_) AllReadyH.nil
                clear hK
                obtain ⟨-, -, HRD⟩ := hHeld
                go_simp
                go_at_call 53
                refine (PT.out _ HRD.out.1).mono ?_
                rintro e w7 ⟨rfl, hg7⟩
                exact ⟨rfl, HQQ.out _ _ (by rw [HN.out]; exact ⟨rfl, HRD.out.2.trans hg7 HRD.out.2.size⟩)⟩
              | ok x r3 =>
                rw [hp] at PT0
                obtain ⟨nm, ty, dob⟩ := x
                have PT1 := fun W R' => (show Calls Tryz.prog 53 #[.pointer (some ⟨rb, 0, none⟩), .bool ob] W (fun e w' => e = .returned (.agg #[.string ⟨nm.toArray⟩, .int .i64 ty, .bool dob]) ∧ Hid (RdR w' rb gt r3) ∧ Gr W.heap.size rb W w') from (PT0 W R').mono (fun e w' h => by obtain ⟨⟨V, h1, h2⟩, h3, h4⟩ := h; exact ⟨by rw [h1, h2]; rfl, Lib.hid h3, h4⟩))
                have PT := Lib.hid PT1
                clear PT1
                have HM2 : Hid (itemsF f g' (n + 1) ⟨T.decls ++ [⟨nm, ty, dob⟩], T.rules⟩ r3 = X) := Lib.hid (by have h := HM.out; rw [hI.out, hp] at h; exact h)
                have hT := decl_takes ob _ _ _ hp
                have HE3 : Hid (EndsT r3 ∧ ShortT r3) := Lib.hid ⟨hT.2.1 HET.out.1, hT.2.2 HET.out.2⟩
                have hl3 := hT.1
                clear PT0 hp hT
                obtain ⟨i0, hi0, iz0, iz1, iz2⟩ := info_parts info_dcl
                have hRd := HR5.out.drew
                (refine wp_region_last_held ((fun W' => W'.cell? ⟨b3, 0, none⟩ = some (.slice AD nD cD) ∧ W'.cell? ⟨b3, 1, none⟩ = some (.slice AR nR cR) ∧ b3 < W'.heap.size ∧ w.heap.size < W'.heap.size)) rfl (by kernel_rfl) (by kernel_rfl) ?hS0 (fun hHeld => ?_); (case hS0 => ((try dsimp only); (refine ⟨?_, ?_, ?_, ?_⟩ <;> first | (simp [go_sem, *]; done) | omega | (simp; omega)))); simp only [List.dropLast_cons_cons, List.dropLast_singleton, List.length_cons, List.length_nil, Nat.zero_add, Nat.reduceAdd])
                (refine take2 0 (some 47) (.pointer (some ⟨b3, 0, none⟩)) rfl (by kernel_rfl) (by kernel_rfl) (by kernel_rfl) rfl (fun _ _ _ h => h) (Or.inl ⟨by rfl, fun W' hSw => (by (try dsimp only at hSw); go_simp)⟩) (by assumption) ?_; (try simp only [Act.put, List.setIfInBounds_toArray, List.set_cons_zero, List.set_cons_succ]))
                (refine take2 1 (some 48) (.slice AD nD cD) rfl (by kernel_rfl) (by kernel_rfl) (by kernel_rfl) rfl (fun _ _ _ h => h) (Or.inl ⟨by rfl, fun W' hSw => (by (try dsimp only at hSw); go_simp)⟩) (by assumption) ?_; (try simp only [Act.put, List.setIfInBounds_toArray, List.set_cons_zero, List.set_cons_succ]))
                (refine take2 2 (some 49) (.pointer (some ⟨rb, 0, none⟩)) rfl (by kernel_rfl) (by kernel_rfl) (by kernel_rfl) rfl (fun _ _ _ h => h) (Or.inl ⟨by rfl, fun W' hSw => (by (try dsimp only at hSw); go_simp)⟩) (by assumption) ?_; (try simp only [Act.put, List.setIfInBounds_toArray, List.set_cons_zero, List.set_cons_succ]))
                (refine take2 3 (some 50) (.int .i64 wi) rfl (by kernel_rfl) (by kernel_rfl) (by kernel_rfl) rfl (fun _ _ _ h => h) (Or.inl ⟨by rfl, fun W' hSw => (by (try dsimp only at hSw); go_simp)⟩) (by assumption) ?_; (try simp only [Act.put, List.setIfInBounds_toArray, List.set_cons_zero, List.set_cons_succ]))
                (refine take2 4 (some 51) (.bool ob) rfl (by kernel_rfl) (by kernel_rfl) (by kernel_rfl) rfl (fun _ _ _ h => h) (Or.inl ⟨by rfl, fun W' hSw => (by (try dsimp only at hSw); go_simp)⟩) (by assumption) ?_; (try simp only [Act.put, List.setIfInBounds_toArray, List.set_cons_zero, List.set_cons_succ]))
                (refine wpAnyH_ready (rs := [5]) (by kernel_rfl) (by simp) ?_; refine AllReadyH.cons rfl (fun K hK => ?_) AllReadyH.nil; (go_simp; go_at_call 53; (with_reducible refine (PT.out _ hRd).mono ?_); rintro e w7 ⟨rfl, hR7, hg7⟩; obtain ⟨hc7, hf7⟩ := gcell hg7; (try simp only [drew_size, drew_cell, drew_frozen] at hc7 hf7); have hs7 := hg7.size; (try simp only [drew_size] at hs7); have hz7 : w.heap.size < w7.heap.size ∧ b3 < w7.heap.size := (by omega); go_wp2_with (fail)); refine hK.out _ _ ?hS1 (fun hHeld1 => ?_); (case hS1 => ((try dsimp only); (exact ⟨(hc7 _ _ hlt5.1 hb9.1).trans k0, (hc7 _ _ hlt5.1 hb9.1).trans k1, by omega, by omega⟩))); clear hK K hHeld; have hHeld := hHeld1; clear hHeld1; (try simp only [Act.put, List.setIfInBounds_toArray, List.set_cons_zero, List.set_cons_succ]))
                have HG7 : Hid (Gr w.heap.size rb w w7) := Lib.hid (Gr.trans (B := w.heap.size) HG5.out.drew hg7 (by simp only [drew_size]; omega))
                have HT7 : Hid (ThR (b3 + 1) w7 T (.slice AD nD cD) (.slice AR nR cR)) := Lib.hid ((HT5.out.keep (Kp.drew (Kp.refl _ _))).keep (Kp.gr hg7 (by omega)))
                have HZ7 : Hid (w7.heap[w.heap.size]? = some (.cells #[.slice none 0 0, .slice none 0 0] 43)) := Lib.hid ((hg7.block _ (by simp only [drew_size]; omega) hn0.1).trans HZ5.out)
                have HC7 : Hid (w7.heap[b3]? = some (.cells #[.slice AD nD cD, .slice AR nR cR] 43 (0, 0))) := Lib.hid ((hg7.block _ (by simp only [drew_size]; omega) hb9.1).trans HC5.out)
                have hro := HT7.out.d
                rw [hnn.1] at hro
                have HRO := Lib.hid hro
                have hw7 : b3 + 1 ≤ w7.heap.size := by omega
                clear hro hg7
                (refine wpAnyH_ready (rs := [6]) (by kernel_rfl) (by simp) ?_; refine AllReadyH.cons rfl (fun K hK => ?_) AllReadyH.nil; (go_simp); refine hK.out _ _ ?hS1 (fun hHeld1 => ?_); (case hS1 => ((try dsimp only); (obtain ⟨e0, e1, e2, e3⟩ := hHeld; exact ⟨(((Below.refl w7.heap.size w7).alloc (Nat.le_refl _) _).cell (p := ⟨b3, 0, none⟩) e2).trans e0, (((Below.refl w7.heap.size w7).alloc (Nat.le_refl _) _).cell (p := ⟨b3, 1, none⟩) e2).trans e1, by simp; omega, by simp; omega⟩))); clear hK K hHeld; have hHeld := hHeld1; clear hHeld1; (try simp only [Act.put, List.setIfInBounds_toArray, List.set_cons_zero, List.set_cons_succ]))
                (refine wpAnyH_ready (rs := [7]) (by kernel_rfl) (by simp) ?_; refine AllReadyH.cons rfl (fun K hK => ?_) AllReadyH.nil; (refine step_append_lies _ rfl (.tmp 48) (.tmp 53) 40 rfl (b3 + 1) 64 i0 _ 3 32 Tryz.underlying40 hi0 iz0 iz1 iz2 rfl (by decide) (.slice AD nD cD) nD (cellsD T.decls) rfl (HRO.out.alloc _) ⟨w7.heap.size, 0, none⟩ 1 1 [.string ⟨nm.toArray⟩, .int .i64 ty, .bool dob] rfl rfl (World.news_of_block (cs := #[.string ⟨nm.toArray⟩, .int .i64 ty, .bool dob]) (t := 64) (fr := (0, 0)) (heap_alloc_new w7 _)) (by simp [Value.oneCell']) (by omega) (by unfold maxLen; omega) (by omega) (by simp; omega) (w7.heap.size + 1) (by simp) ?_; intro gg cap w9 hown1 hgrow hat hlt9; change K (Act.put _ (some 54) _) _; have hr9 : ∀ q, (Value.slice AD nD cD).ownBlock = some q → b3 + 1 ≤ q := (fun q hq => (HRO.out.lt q hq).1); have hc9 := grown_low hgrow hr9; have hs9 : w7.heap.size < w9.heap.size := (by have := hgrow.size; simp at this; omega)); refine hK.out _ _ ?hS1 (fun hHeld1 => ?_); (case hS1 => ((try dsimp only); (obtain ⟨e0, e1, e2, e3⟩ := hHeld; exact ⟨(hc9 _ _ (by omega) (by simp; omega)).trans e0, (hc9 _ _ (by omega) (by simp; omega)).trans e1, by omega, by omega⟩))); clear hK K hHeld; have hHeld := hHeld1; clear hHeld1; (try simp only [Act.put, List.setIfInBounds_toArray, List.set_cons_zero, List.set_cons_succ]))
                (refine take2 8 (some 55) (.pointer (some ⟨b3, 0, none⟩)) rfl (by kernel_rfl) (by kernel_rfl) (by kernel_rfl) rfl (fun _ _ _ h => h) (Or.inl ⟨by rfl, fun W' hSw => (by (try dsimp only at hSw); go_simp)⟩) (by assumption) ?_; (try simp only [Act.put, List.setIfInBounds_toArray, List.set_cons_zero, List.set_cons_succ]))
                have HEL := Lib.hid hHeld
                (refine wpAnyH_done (by kernel_rfl) ?_ _; simp only [lastQ]; clear hHeld; change Oper.wp _ (Oper.mk none (Op.store 40 (Operand.tmp 55) (Operand.tmp 54)) _ _ _ none) _ _ _ _)
                have blk9 : ∀ q, q < b3 + 1 → w9.heap[q]? = w7.heap[q]? := fun q hq => (hgrow.block q (by simp; omega) (fun e => by have := hr9 q e.symm; omega)).trans (((Below.refl w7.heap.size w7).alloc (Nat.le_refl _) _).block q (by omega))
                have HC9 := Lib.hid ((blk9 b3 (by omega)).trans HC7.out)
                have HZ9 := Lib.hid ((blk9 w.heap.size (by omega)).trans HZ7.out)
                obtain ⟨⟨y0, y1⟩, yf⟩ := two_cells HC9.out
                have HB79 : Hid (Below (b3 + 1) w7 w9) := Lib.hid (below_push (Below.refl _ _) hw7 hgrow hr9)
                have HG9 := Lib.hid (HG7.out.below HB79.out (by omega))
                have HR9 : Hid (RdR w9 rb gt r3) := Lib.hid (rd_push hR7.out hgrow hr9 (by omega) (by omega))
                have HT9 := Lib.hid ((HT7.out.keep (Kp.alloc (Kp.refl _ _) _)).pushD (d := ⟨nm, ty, dob⟩) (cap := cap) (by rw [hnn.1]; exact hown1) hgrow (hat.elim .inl (fun e => .inr (by rw [e]; simp))))
                rw [hnn.1] at HT9
                clear hgrow hat hown1 hc9 hr9 HRO blk9
                go_simp
                go_wp2_with (fail)
                go_roundg r3.length
                case measure => simp only [List.length_cons]; omega
                case rel =>
                  have hgx := HG9.out
                  have hrx := HR9.out
                  have htx := HT9.out
                  refine ⟨⟨T.decls ++ [⟨nm, ty, dob⟩], T.rules⟩, some ⟨gg, 0, none⟩, AR, nD + 1, cap, nR, cR, r3, n + 1, g', rfl, by go_num, by omega, by omega, by omega, ⟨by simp; omega, by simp; omega, by omega⟩, HM2, Lib.hid ⟨HE3.out.1, HE3.out.2, (by repeat (first | (with_reducible exact hrx) | ((with_reducible refine RdR.setCell ?_ ?hq1 ?hq2 _); (case hq1 => (first | (simp; done) | (simp; omega) | omega)); (case hq2 => (first | (simp; done) | (simp; omega) | omega))) | (with_reducible refine RdR.alloc ?_ _) | (with_reducible refine RdR.drew ?_) | refine RdR.below ?_ (by assumption)))⟩, Lib.hid (by have := set_at HC9.out 0 (.slice (some ⟨gg, 0, none⟩) (nD + 1) cap); simpa using this), Lib.hid ⟨(by repeat (first | (with_reducible exact Gr.refl _ _ _) | (with_reducible assumption) | ((with_reducible refine Gr.setCell ?_ ?hq1 _); (case hq1 => (first | (right; rfl) | (left; (first | (simp; done) | (simp; omega) | omega))))) | ((with_reducible refine Gr.alloc ?_ ?hq1 _); (case hq1 => (first | (simp; done) | (simp; omega) | omega))) | (with_reducible refine Gr.drew ?_) | exact Gr.of_below (by assumption) | refine Gr.trans ?_ (by assumption) (by first | (simp; done) | (simp; omega) | omega) | refine Gr.below ?_ (by assumption) (by first | (simp; done) | (simp; omega) | omega))), (setCell_block _ _ _ _ (by omega)).trans HZ9.out, by simp; omega⟩, Lib.hid (htx.keep (by repeat (first | (with_reducible exact Kp.refl _ _) | (with_reducible assumption) | ((with_reducible refine Kp.set ?_ ?hq1 _); (case hq1 => (first | (simp; done) | (simp; omega) | (dsimp only; omega)))) | (with_reducible refine Kp.alloc ?_ _) | (with_reducible refine Kp.drew ?_) | refine Kp.trans ?_ (Kp.gr (by assumption) (by first | (simp; done) | (simp; omega) | (dsimp only; omega))))))⟩
        · have hwi : wordI t.s < 0 := word_of.2 hw
          have HN : Hid (X = PR.no t.p 11) := Lib.hid (by rw [← HM.out, items_bad h101 (fun h => hw h.2)])
          clear h101 h119 hw
          go_wp2_with (first | (go_at_call 31; (with_reducible refine (HHt.out _ HRo.out).mono ?_); rintro e w2 ⟨rfl, hb2⟩; have HR2 := Lib.hid (HRo.out.below hb2); have HB2 := Lib.hid hb2; clear hb2) | (go_at_call 31; (with_reducible refine (HHt.out _ (HR2.out.alloc _)).mono ?_); rintro e w3 ⟨rfl, hb3⟩; have HR3 := Lib.hid ((HR2.out.alloc _).below hb3); have HB3 := Lib.hid ((HB2.out.alloc HB2.out.size _).trans (hb3.mono (by have := HB2.out.size; (try simp only [World.size_alloc]); omega))); have HS3 := Lib.hid (Strs.below (strs_alloc w2 [wInput, wOutput, wRule] 9 _ rfl) hb3); clear hb3) | (go_at_call 51; (refine (index_any _ _ _ HS3.out).mono ?_); rintro e w9 ⟨rfl, rfl⟩) | (go_at_call 31; (with_reducible refine (HHt.out _ HR3.out).mono ?_); rintro e w4 ⟨rfl, hb4⟩; have HR4 := Lib.hid (HR3.out.below hb4); have HB4 := Lib.hid (HB3.out.trans (hb4.mono HB3.out.size)); obtain ⟨p5, hp5, q0, q1, hstp⟩ := rd_next1 HR4.out; have HSTP := Lib.hid hstp; clear hb4 hstp))
          go_at_call 32
          refine (FAe.out _ HR4.out).mono ?_
          rintro e w6 ⟨rfl, hb6⟩
          have HG6 := Lib.hid (HG.out.1.below (HB4.out.trans (hb6.mono HB4.out.size)) hso)
          go_wp2
          exact ⟨rfl, HQQ.out _ _ (by rw [HN.out]; exact ⟨rfl, HG6.out⟩)⟩
      · have ek2 : (t.k == 119) = false := by simp [h119]
        have ek3 : (t.k != 119) = true := by simp [h119]
        have HN : Hid (X = PR.no t.p 11) := Lib.hid (by rw [← HM.out, items_bad h101 (fun h => h119 h.1)])
        clear h101 h119
        go_wp2_with (first | (go_at_call 31; (with_reducible refine (HHt.out _ HRo.out).mono ?_); rintro e w2 ⟨rfl, hb2⟩; have HR2 := Lib.hid (HRo.out.below hb2); have HB2 := Lib.hid hb2; clear hb2) | (go_at_call 31; (with_reducible refine (HHt.out _ (HR2.out.alloc _)).mono ?_); rintro e w3 ⟨rfl, hb3⟩; have HR3 := Lib.hid ((HR2.out.alloc _).below hb3); have HB3 := Lib.hid ((HB2.out.alloc HB2.out.size _).trans (hb3.mono (by have := HB2.out.size; (try simp only [World.size_alloc]); omega))); have HS3 := Lib.hid (Strs.below (strs_alloc w2 [wInput, wOutput, wRule] 9 _ rfl) hb3); clear hb3) | (go_at_call 51; (refine (index_any _ _ _ HS3.out).mono ?_); rintro e w9 ⟨rfl, rfl⟩) | (go_at_call 31; (with_reducible refine (HHt.out _ HR3.out).mono ?_); rintro e w4 ⟨rfl, hb4⟩; have HR4 := Lib.hid (HR3.out.below hb4); have HB4 := Lib.hid (HB3.out.trans (hb4.mono HB3.out.size)); obtain ⟨p5, hp5, q0, q1, hstp⟩ := rd_next1 HR4.out; have HSTP := Lib.hid hstp; clear hb4 hstp))
        go_at_call 32
        refine (FAe.out _ HR4.out).mono ?_
        rintro e w6 ⟨rfl, hb6⟩
        have HG6 := Lib.hid (HG.out.1.below (HB4.out.trans (hb6.mono HB4.out.size)) hso)
        go_wp2
        exact ⟨rfl, HQQ.out _ _ (by rw [HN.out]; exact ⟨rfl, HG6.out⟩)⟩
end Go.Proofs.YtnjlggleaocbdaaGreatDoor
