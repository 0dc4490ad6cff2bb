/-
  Contract of the reader's rule. (Printed by tools/mkde4.py.)
-/
import Derived.Test.YtnjlggleaocbdaaGreatDoorDe3
namespace Go.Proofs.YtnjlggleaocbdaaGreatDoor
set_option linter.all false
open Go.RowKit Go.Shelf
attribute [local go_sem] cell_set_self lt_1 lt_2 lt_3 lt_4 lt_5 lt_6 fld_k fld_s fld_n fld_p

def ruleC (x : RuleT) (cs ds : List Value) : List Value := [.string ⟨x.name.toArray⟩, .int .i64 x.rank] ++ cs ++ [.string ⟨x.target.toArray⟩] ++ ds
def encR (w : World) : RuleT → World → Value → Prop := fun x W V => ∃ cs ds, V = .agg (ruleC x cs ds).toArray ∧ EV (fun b => w.heap.size ≤ b) W x.cond cs ∧ EV (fun b => w.heap.size ≤ b) W x.thn ds
theorem eleven_cells {w : World} {b : Nat} {v0 v1 v2 v3 v4 v5 v6 v7 v8 v9 v10 : Value} {t : TypeId} (h : w.heap[b]? = some (.cells #[v0, v1, v2, v3, v4, v5, v6, v7, v8, v9, v10] t (0, 0))) :
    (w.cell? ⟨b, 0, none⟩ = some v0 ∧ w.cell? ⟨b, 1, none⟩ = some v1 ∧ w.cell? ⟨b, 2, none⟩ = some v2 ∧ w.cell? ⟨b, 3, none⟩ = some v3 ∧ w.cell? ⟨b, 4, none⟩ = some v4 ∧ w.cell? ⟨b, 5, none⟩ = some v5 ∧ w.cell? ⟨b, 6, none⟩ = some v6 ∧ w.cell? ⟨b, 7, none⟩ = some v7 ∧ w.cell? ⟨b, 8, none⟩ = some v8 ∧ w.cell? ⟨b, 9, none⟩ = some v9 ∧ w.cell? ⟨b, 10, none⟩ = some v10) ∧ ∀ o, w.frozen? ⟨b, o, none⟩ = false := by
  refine ⟨by simp [World.cell?, h], fun o => by simp [World.frozen?, h]⟩
theorem if_no {f : Nat} {r : List Tok} (h : mayF wIf r = none) : ifF f r = .ok expr0 r := by unfold ifF; rw [h]
theorem if_yes {f : Nat} {r r' : List Tok} (h : mayF wIf r = some r') : ifF f r = exprD f r' := by unfold ifF; rw [h]
theorem rdR_next {rb gt b9 o : Nat} {v : Value} {t : Tok} {r : List Tok} {w : World} (R : RdR w rb gt (t :: r)) (h1 : ¬ b9 = rb) (h2 : ¬ b9 = gt) : ∃ p : Nat, p ≤ 1000000000 ∧ w.cell? ⟨rb, 1, none⟩ = some (.int .i64 (p : Int)) ∧ w.frozen? ⟨rb, 1, none⟩ = false ∧ RdR ((w.setCell ⟨b9, o, none⟩ v).setCell ⟨rb, 1, none⟩ (.int .i64 ((p : Int) + 1))) rb gt r := by
  obtain ⟨p, hp, q0, q1, hs⟩ := RdR.step (R.setCell (p := ⟨b9, o, none⟩) h1 h2 v)
  refine ⟨p, hp, ?_, ?_, hs _ (Below.refl _ _)⟩
  · rw [World.cell?_setCell_far _ _ ⟨rb, 1, none⟩ _ (fun e => h1 e)] at q0; exact q0
  · rw [World.frozen?_setCell] at q1; exact q1
set_option maxHeartbeats 16000000 in
set_option maxRecDepth 100000 in
theorem rule_any (rb gt f : Nat) (r : List Tok) (w : World) (hf : 6 * r.length + 6 ≤ f) (hd : f ≤ 1000000000) (R : RdR w rb gt r) (hE : EndsT r) (hS : ShortT r) :
    Calls Tryz.prog 52 #[.pointer (some ⟨rb, 0, none⟩)] w (POut rb gt w (encR w) (ruleF f r)) := by
  suffices key : ∀ Q : Ending → World → Prop, Hid (∀ e w', POut rb gt w (encR w) (ruleF f r) e w' → Q e w') → Calls Tryz.prog 52 #[.pointer (some ⟨rb, 0, none⟩)] w Q from key _ (Lib.hid fun _ _ h => h)
  intro Q HQQ
  obtain ⟨hrb, hgt, hgr⟩ := R.lens
  have hn0 : ¬ w.heap.size = rb ∧ ¬ rb = w.heap.size ∧ ¬ w.heap.size = gt := by omega
  have NA := Lib.hid (nameR_any rb gt r hE.ne hS (w.alloc (.cells #[.string ⟨#[]⟩, .int .i64 0, .int .i64 0, .int .i64 0, .string ⟨#[]⟩, .slice none 0 0, .string ⟨#[]⟩, .int .i64 0, .int .i64 0, .string ⟨#[]⟩, .slice none 0 0] 89)) (R.alloc _))
  have MU := Lib.hid (fun s r hr W R' => must_any rb gt s r hr W R')
  have MY := Lib.hid (fun s r hr W R' => may_any rb gt s r hr W R')
  have NM := Lib.hid (fun r hr hS W R' => nameR_any rb gt r hr hS W R')
  have FA := Lib.hid (fun t r W R' => fail_any rb gt t r 11 W R')
  have HH := Lib.hid (fun t r W R' => here_any rb gt t r W R')
  have XP := Lib.hid (fun r W (h : 6 * r.length + 6 ≤ f) R' hE hS => expr_any rb gt f r W h hd R' hE hS (fun c r' h' => by have := expr_dep f 0 _ _ _ h'; omega))
  dsimp only [tokV] at HH
  obtain ⟨X, hX⟩ : ∃ X, ruleF f r = X := ⟨_, rfl⟩
  rw [hX] at HQQ
  unfold ruleF at hX
  have HES := Lib.hid (And.intro hE hS)
  have hg0 : Gr w.heap.size rb w (w.alloc (.cells #[.string ⟨#[]⟩, .int .i64 0, .int .i64 0, .int .i64 0, .string ⟨#[]⟩, .slice none 0 0, .string ⟨#[]⟩, .int .i64 0, .int .i64 0, .string ⟨#[]⟩, .slice none 0 0] 89)) := (Gr.refl _ _ _).alloc (Nat.le_refl _) _
  have hz0 : (w.alloc (.cells #[.string ⟨#[]⟩, .int .i64 0, .int .i64 0, .int .i64 0, .string ⟨#[]⟩, .slice none 0 0, .string ⟨#[]⟩, .int .i64 0, .int .i64 0, .string ⟨#[]⟩, .slice none 0 0] 89)).heap[w.heap.size]? = some (.cells #[.string ⟨#[]⟩, .int .i64 0, .int .i64 0, .int .i64 0, .string ⟨#[]⟩, .slice none 0 0, .string ⟨#[]⟩, .int .i64 0, .int .i64 0, .string ⟨#[]⟩, .slice none 0 0] 89) := heap_alloc_new w _
  have hs0 : (w.alloc (.cells #[.string ⟨#[]⟩, .int .i64 0, .int .i64 0, .int .i64 0, .string ⟨#[]⟩, .slice none 0 0, .string ⟨#[]⟩, .int .i64 0, .int .i64 0, .string ⟨#[]⟩, .slice none 0 0] 89)).heap.size = w.heap.size + 1 := by simp
  clear R hE hS
  cases hp1 : nmF r with
  | no p er =>
    rw [hp1] at NA hX
    have HN : Hid (X = PR.no p er) := Lib.hid hX.symm
    clear hp1 hX
    go_enter Tryz.func52, Tryz.ntmps52
    go_wp2_with (fail)
    go_at_call 70
    refine NA.out.mono ?_
    rintro e w1 ⟨rfl, hg1⟩
    go_wp2
    exact ⟨rfl, HQQ.out _ _ (by rw [HN.out]; exact ⟨rfl, hg0.trans hg1 (by omega)⟩)⟩
  | ok s1 r1 =>
    have hT := nm_takes _ _ _ hp1
    have HE1 : Hid (EndsT r1 ∧ ShortT r1) := Lib.hid ⟨hT.2.1 HES.out.1, hT.2.2 HES.out.2⟩
    have hl1 := hT.1
    obtain ⟨t, r2, rfl⟩ := head_cons HE1.out.1.ne
    rw [hp1] at NA hX
    dsimp only [PR.bind] at hX
    clear hp1 hT
    have HC := Lib.hid hX
    have HHt := Lib.hid (fun W R' => HH.out t r2 W R')
    clear hX
    simp only [List.length_cons] at hl1
    go_enter Tryz.func52, Tryz.ntmps52
    go_wp2_with (fail)
    go_at_call 70
    refine NA.out.mono ?_
    rintro e w1 ⟨⟨V, rfl, hV⟩, hR1, hg1⟩
    obtain rfl := hV
    have hs1 := hg1.size
    rw [hs0] at hs1
    have HGV1 : Hid (Gr w.heap.size rb w (w1.alloc (.cells #[.string ⟨s1.toArray⟩, .int .i64 0, .int .i64 0, .int .i64 0, .string ⟨#[]⟩, .slice none 0 0, .string ⟨#[]⟩, .int .i64 0, .int .i64 0, .string ⟨#[]⟩, .slice none 0 0] 89))) := Lib.hid ((hg0.trans hg1 (by omega)).alloc (by omega) _)
    have HRV1 : Hid (RdR (w1.alloc (.cells #[.string ⟨s1.toArray⟩, .int .i64 0, .int .i64 0, .int .i64 0, .string ⟨#[]⟩, .slice none 0 0, .string ⟨#[]⟩, .int .i64 0, .int .i64 0, .string ⟨#[]⟩, .slice none 0 0] 89)) rb gt (t :: r2)) := Lib.hid (hR1.alloc _)
    have HZV1 : Hid ((w1.alloc (.cells #[.string ⟨s1.toArray⟩, .int .i64 0, .int .i64 0, .int .i64 0, .string ⟨#[]⟩, .slice none 0 0, .string ⟨#[]⟩, .int .i64 0, .int .i64 0, .string ⟨#[]⟩, .slice none 0 0] 89)).heap[w.heap.size]? = some (.cells #[.string ⟨#[]⟩, .int .i64 0, .int .i64 0, .int .i64 0, .string ⟨#[]⟩, .slice none 0 0, .string ⟨#[]⟩, .int .i64 0, .int .i64 0, .string ⟨#[]⟩, .slice none 0 0] 89)) := Lib.hid ((((Below.refl _ _).alloc (Nat.le_refl _) _).block _ (by omega)).trans ((hg1.block _ (by omega) hn0.1).trans hz0))
    have HKV1 : Hid ((w1.alloc (.cells #[.string ⟨s1.toArray⟩, .int .i64 0, .int .i64 0, .int .i64 0, .string ⟨#[]⟩, .slice none 0 0, .string ⟨#[]⟩, .int .i64 0, .int .i64 0, .string ⟨#[]⟩, .slice none 0 0] 89)).heap[w1.heap.size]? = some (.cells #[.string ⟨s1.toArray⟩, .int .i64 0, .int .i64 0, .int .i64 0, .string ⟨#[]⟩, .slice none 0 0, .string ⟨#[]⟩, .int .i64 0, .int .i64 0, .string ⟨#[]⟩, .slice none 0 0] 89)) := Lib.hid (heap_alloc_new w1 _)
    have hsV1 : (w1.alloc (.cells #[.string ⟨s1.toArray⟩, .int .i64 0, .int .i64 0, .int .i64 0, .string ⟨#[]⟩, .slice none 0 0, .string ⟨#[]⟩, .int .i64 0, .int .i64 0, .string ⟨#[]⟩, .slice none 0 0] 89)).heap.size = w1.heap.size + 1 := by simp
    have hb9 : ¬ w1.heap.size = rb ∧ ¬ rb = w1.heap.size ∧ ¬ w1.heap.size = gt ∧ ¬ w1.heap.size = w.heap.size ∧ ¬ w.heap.size = w1.heap.size ∧ rb < w1.heap.size ∧ w.heap.size < w1.heap.size := by omega
    clear hz0 hs0 hg0 hg1 NA hR1
    by_cases h110 : t.k = 110
    · rw [if_pos h110] at HC
      have ek : (t.k == 110) = true := by simp [h110]
      clear h110
      go_wp2_with (first | (go_at_call 31; (with_reducible refine (HHt.out _ HRV1.out).mono ?_); rintro e w2 ⟨rfl, hb2⟩; have HR2 := Lib.hid (HRV1.out.below hb2); have HG2 := Lib.hid (HGV1.out.below hb2 HGV1.out.size); have HB2 := Lib.hid hb2; clear hb2))
      go_at_call 31
      refine (HHt.out _ HR2.out).mono ?_
      rintro e w3 ⟨rfl, hb3⟩
      generalize (w1.alloc (.cells #[.string ⟨s1.toArray⟩, .int .i64 0, .int .i64 0, .int .i64 0, .string ⟨#[]⟩, .slice none 0 0, .string ⟨#[]⟩, .int .i64 0, .int .i64 0, .string ⟨#[]⟩, .slice none 0 0] 89)) = V1 at *
      generalize w1.heap.size = b9 at *
      have HR3 := Lib.hid (HR2.out.below hb3)
      have hs2 := HB2.out.size
      have hs3 := hb3.size
      have HG3 := Lib.hid (HG2.out.below hb3 HG2.out.size)
      have HZ3 : Hid (w3.heap[w.heap.size]? = some (.cells #[.string ⟨#[]⟩, .int .i64 0, .int .i64 0, .int .i64 0, .string ⟨#[]⟩, .slice none 0 0, .string ⟨#[]⟩, .int .i64 0, .int .i64 0, .string ⟨#[]⟩, .slice none 0 0] 89)) := Lib.hid ((hb3.block _ (by omega)).trans ((HB2.out.block _ (by omega)).trans HZV1.out))
      have HK3 : Hid (w3.heap[b9]? = some (.cells #[.string ⟨s1.toArray⟩, .int .i64 0, .int .i64 0, .int .i64 0, .string ⟨#[]⟩, .slice none 0 0, .string ⟨#[]⟩, .int .i64 0, .int .i64 0, .string ⟨#[]⟩, .slice none 0 0] 89)) := Lib.hid ((hb3.block _ (by omega)).trans ((HB2.out.block _ (by omega)).trans HKV1.out))
      have hlt3 : b9 < w3.heap.size ∧ w.heap.size < w3.heap.size := by omega
      obtain ⟨p5, hp5, q0, q1, hstp⟩ := rdR_next (o := 1) (v := .int .i64 t.n) HR3.out hb9.1 hb9.2.2.1
      have HE2 : Hid (EndsT r2 ∧ ShortT r2) := Lib.hid ⟨HE1.out.1.tail (by right; right; left; simpa using ek), HE1.out.2.tail⟩
      clear hb3 HB2 HG2 HR2 HZV1 HKV1 HGV1 HRV1
      obtain ⟨⟨z0, z1, z2, z3, z4, z5, z6, z7, z8, z9, z10⟩, zf⟩ := eleven_cells HZ3.out
      obtain ⟨⟨k0, k1, k2, k3, k4, k5, k6, k7, k8, k9, k10⟩, kf⟩ := eleven_cells HK3.out
      have HRV3 := Lib.hid hstp
      have HGV3 : Hid (Gr w.heap.size rb w ((w3.setCell ⟨b9, 1, none⟩ (.int .i64 t.n)).setCell ⟨rb, 1, none⟩ (.int .i64 ((p5 : Int) + 1)))) := Lib.hid (by have hg := HG3.out; exact (by repeat (first | (with_reducible exact Gr.refl _ _ _) | (with_reducible assumption) | ((with_reducible refine Gr.setCell ?_ ?hq1 _); (case hq1 => (first | (right; rfl) | (left; (first | (simp; done) | (simp; omega) | omega))))) | ((with_reducible refine Gr.alloc ?_ ?hq1 _); (case hq1 => (first | (simp; done) | (simp; omega) | omega))) | (with_reducible refine Gr.drew ?_) | exact Gr.of_below (by assumption) | refine Gr.trans ?_ (by assumption) (by first | (simp; done) | (simp; omega) | omega) | refine Gr.below ?_ (by assumption) (by first | (simp; done) | (simp; omega) | omega))))
      have HZV3 : Hid (((w3.setCell ⟨b9, 1, none⟩ (.int .i64 t.n)).setCell ⟨rb, 1, none⟩ (.int .i64 ((p5 : Int) + 1))).heap[w.heap.size]? = some (.cells #[.string ⟨#[]⟩, .int .i64 0, .int .i64 0, .int .i64 0, .string ⟨#[]⟩, .slice none 0 0, .string ⟨#[]⟩, .int .i64 0, .int .i64 0, .string ⟨#[]⟩, .slice none 0 0] 89)) := Lib.hid (by (repeat (with_reducible refine (setCell_block _ _ _ _ (by omega)).trans ?_)); exact HZ3.out)
      have HKV3 : Hid (((w3.setCell ⟨b9, 1, none⟩ (.int .i64 t.n)).setCell ⟨rb, 1, none⟩ (.int .i64 ((p5 : Int) + 1))).heap[b9]? = some (.cells #[.string ⟨s1.toArray⟩, .int .i64 t.n, .int .i64 0, .int .i64 0, .string ⟨#[]⟩, .slice none 0 0, .string ⟨#[]⟩, .int .i64 0, .int .i64 0, .string ⟨#[]⟩, .slice none 0 0] 89)) := Lib.hid (by refine (setCell_block _ _ _ _ (by omega)).trans ?_; have := set_at HK3.out 1 (.int .i64 t.n); simpa using this)
      have hsV3 : ((w3.setCell ⟨b9, 1, none⟩ (.int .i64 t.n)).setCell ⟨rb, 1, none⟩ (.int .i64 ((p5 : Int) + 1))).heap.size = w3.heap.size := by simp
      clear hstp HZ3 HK3 HG3 HR3
      have MUU := Lib.hid (MU.out [58] r2 HE2.out.1.ne _ HRV3.out)
      go_wp2_with (fail)
      go_at_call 71
      refine MUU.out.mono ?_
      clear MUU
      rintro e w4 hP
      generalize ((w3.setCell ⟨b9, 1, none⟩ (.int .i64 t.n)).setCell ⟨rb, 1, none⟩ (.int .i64 ((p5 : Int) + 1))) = V3 at *
      cases hp : mustF [58] r2 with
      | no p er =>
        rw [hp] at hP HC
        obtain ⟨rfl, hg⟩ := hP
        have HN : Hid (X = PR.no p er) := Lib.hid HC.out.symm
        have HG9 := Lib.hid (HGV3.out.trans hg HGV3.out.size)
        clear hp hg HC
        go_wp2
        exact ⟨rfl, HQQ.out _ _ (by rw [HN.out]; exact ⟨rfl, HG9.out⟩)⟩
      | ok u r4 =>
        rw [hp] at hP HC
        obtain ⟨⟨U, rfl, hV⟩, hR, hg⟩ := hP
        obtain rfl := hV
        have hT := must_takes [58] _ _ _ hp
        have HE4 : Hid (EndsT r4 ∧ ShortT r4) := Lib.hid ⟨hT.2.1 HE2.out.1, hT.2.2 HE2.out.2⟩
        have hl4 := hT.1
        dsimp only [PR.bind] at HC
        clear hp hT
        have hs4 := hg.size
        have HG4 := Lib.hid (HGV3.out.trans hg HGV3.out.size)
        have HZ4 : Hid (w4.heap[w.heap.size]? = some (.cells #[.string ⟨#[]⟩, .int .i64 0, .int .i64 0, .int .i64 0, .string ⟨#[]⟩, .slice none 0 0, .string ⟨#[]⟩, .int .i64 0, .int .i64 0, .string ⟨#[]⟩, .slice none 0 0] 89)) := Lib.hid ((hg.block _ (by omega) hn0.1).trans HZV3.out)
        have HK4 := Lib.hid ((hg.block _ (by omega) hb9.1).trans HKV3.out)
        have HR4 := Lib.hid hR
        have hlt4 : b9 < w4.heap.size ∧ w.heap.size < w4.heap.size := by omega
        clear hg hR HGV3 HZV3 HKV3 HRV3
        clear z0 z1 z2 z3 z4 z5 z6 z7 z8 z9 z10 zf k0 k1 k2 k3 k4 k5 k6 k7 k8 k9 k10 kf
        cases hm : mayF wIf r4 with
        | none =>
          rw [if_no hm] at HC
          dsimp only [PR.bind] at HC
          have MYY := Lib.hid (fun W R' => MY.out wIf r4 HE4.out.1.ne W R')
          rw [(may_no hm).1, (may_no hm).2] at MYY
          clear hm
          go_wp2_with (fail)
          go_at_call 72
          refine (MYY.out _ HR4.out).mono ?_
          clear MYY
          rintro e w6 ⟨rfl, hR, hg⟩
          have HGV4 := HG4
          have HRV4 := HR4
          have HZV4 := HZ4
          have HKV4 := HK4
          clear HG4 HR4 HZ4 HK4
          have hs6 := hg.size
          have HG6 := Lib.hid (HGV4.out.trans hg HGV4.out.size)
          have HZ6 : Hid (w6.heap[w.heap.size]? = some (.cells #[.string ⟨#[]⟩, .int .i64 0, .int .i64 0, .int .i64 0, .string ⟨#[]⟩, .slice none 0 0, .string ⟨#[]⟩, .int .i64 0, .int .i64 0, .string ⟨#[]⟩, .slice none 0 0] 89)) := Lib.hid ((hg.block _ (by omega) hn0.1).trans HZV4.out)
          have HK6 := Lib.hid ((hg.block _ (by omega) hb9.1).trans HKV4.out)
          have HR6 := Lib.hid hR
          have hlt6 : b9 < w6.heap.size ∧ w.heap.size < w6.heap.size := by omega
          clear hg hR HGV4 HZV4 HKV4 HRV4
          have HGV6 := HG6
          have HRV6 := HR6
          have HZV6 := HZ6
          have HKV6 := HK6
          clear HG6 HR6 HZ6 HK6
          have HE6 := HE4
          have hl6 := Nat.le_refl r4.length
          have MUU := Lib.hid (MU.out wThen r4 HE4.out.1.ne _ HRV6.out)
          go_wp2_with (fail)
          go_at_call 71
          refine MUU.out.mono ?_
          clear MUU
          rintro e w10 hP
          cases hp : mustF wThen r4 with
          | no p er =>
            rw [hp] at hP HC
            obtain ⟨rfl, hg⟩ := hP
            have HN : Hid (X = PR.no p er) := Lib.hid HC.out.symm
            have HG9 := Lib.hid (HGV6.out.trans hg HGV6.out.size)
            clear hp hg HC
            go_wp2
            exact ⟨rfl, HQQ.out _ _ (by rw [HN.out]; exact ⟨rfl, HG9.out⟩)⟩
          | ok u r10 =>
            rw [hp] at hP HC
            obtain ⟨⟨U, rfl, hV⟩, hR, hg⟩ := hP
            obtain rfl := hV
            have hT := must_takes wThen _ _ _ hp
            have HE10 : Hid (EndsT r10 ∧ ShortT r10) := Lib.hid ⟨hT.2.1 HE4.out.1, hT.2.2 HE4.out.2⟩
            have hl10 := hT.1
            dsimp only [PR.bind] at HC
            clear hp hT
            have hs10 := hg.size
            have HG10 := Lib.hid (HGV6.out.trans hg HGV6.out.size)
            have HZ10 : Hid (w10.heap[w.heap.size]? = some (.cells #[.string ⟨#[]⟩, .int .i64 0, .int .i64 0, .int .i64 0, .string ⟨#[]⟩, .slice none 0 0, .string ⟨#[]⟩, .int .i64 0, .int .i64 0, .string ⟨#[]⟩, .slice none 0 0] 89)) := Lib.hid ((hg.block _ (by omega) hn0.1).trans HZV6.out)
            have HK10 := Lib.hid ((hg.block _ (by omega) hb9.1).trans HKV6.out)
            have HR10 := Lib.hid hR
            have hlt10 : b9 < w10.heap.size ∧ w.heap.size < w10.heap.size := by omega
            clear hg hR HGV6 HZV6 HKV6 HRV6
            have HGV10 := HG10
            have HRV10 := HR10
            have HZV10 := HZ10
            have HKV10 := HK10
            clear HG10 HR10 HZ10 HK10
            have NMM := Lib.hid (NM.out r10 HE10.out.1.ne HE10.out.2 _ HRV10.out)
            go_wp2_with (fail)
            go_at_call 70
            refine NMM.out.mono ?_
            clear NMM
            rintro e w11 hP
            cases hp : nmF r10 with
            | no p er =>
              rw [hp] at hP HC
              obtain ⟨rfl, hg⟩ := hP
              have HN : Hid (X = PR.no p er) := Lib.hid HC.out.symm
              have HG9 := Lib.hid (HGV10.out.trans hg HGV10.out.size)
              clear hp hg HC
              go_wp2
              exact ⟨rfl, HQQ.out _ _ (by rw [HN.out]; exact ⟨rfl, HG9.out⟩)⟩
            | ok s11 r11 =>
              rw [hp] at hP HC
              obtain ⟨⟨U, rfl, hV⟩, hR, hg⟩ := hP
              obtain rfl := hV
              have hT := nm_takes _ _ _ hp
              have HE11 : Hid (EndsT r11 ∧ ShortT r11) := Lib.hid ⟨hT.2.1 HE10.out.1, hT.2.2 HE10.out.2⟩
              have hl11 := hT.1
              dsimp only [PR.bind] at HC
              clear hp hT
              have hs11 := hg.size
              have HG11 := Lib.hid (HGV10.out.trans hg HGV10.out.size)
              have HZ11 : Hid (w11.heap[w.heap.size]? = some (.cells #[.string ⟨#[]⟩, .int .i64 0, .int .i64 0, .int .i64 0, .string ⟨#[]⟩, .slice none 0 0, .string ⟨#[]⟩, .int .i64 0, .int .i64 0, .string ⟨#[]⟩, .slice none 0 0] 89)) := Lib.hid ((hg.block _ (by omega) hn0.1).trans HZV10.out)
              have HK11 := Lib.hid ((hg.block _ (by omega) hb9.1).trans HKV10.out)
              have HR11 := Lib.hid hR
              have hlt11 : b9 < w11.heap.size ∧ w.heap.size < w11.heap.size := by omega
              clear hg hR HGV10 HZV10 HKV10 HRV10
              obtain ⟨⟨z0, z1, z2, z3, z4, z5, z6, z7, z8, z9, z10⟩, zf⟩ := eleven_cells HZ11.out
              obtain ⟨⟨k0, k1, k2, k3, k4, k5, k6, k7, k8, k9, k10⟩, kf⟩ := eleven_cells HK11.out
              have HGV11 : Hid (Gr w.heap.size rb w (w11.setCell ⟨b9, 6, none⟩ (.string ⟨s11.toArray⟩))) := Lib.hid (by have hg := HG11.out; exact (by repeat (first | (with_reducible exact Gr.refl _ _ _) | (with_reducible assumption) | ((with_reducible refine Gr.setCell ?_ ?hq1 _); (case hq1 => (first | (right; rfl) | (left; (first | (simp; done) | (simp; omega) | omega))))) | ((with_reducible refine Gr.alloc ?_ ?hq1 _); (case hq1 => (first | (simp; done) | (simp; omega) | omega))) | (with_reducible refine Gr.drew ?_) | exact Gr.of_below (by assumption) | refine Gr.trans ?_ (by assumption) (by first | (simp; done) | (simp; omega) | omega) | refine Gr.below ?_ (by assumption) (by first | (simp; done) | (simp; omega) | omega))))
              have HRV11 : Hid (RdR (w11.setCell ⟨b9, 6, none⟩ (.string ⟨s11.toArray⟩)) rb gt r11) := Lib.hid (by have hr := HR11.out; exact (by repeat (first | (with_reducible exact hr) | ((with_reducible refine RdR.setCell ?_ ?hq1 ?hq2 _); (case hq1 => (first | (simp; done) | (simp; omega) | omega)); (case hq2 => (first | (simp; done) | (simp; omega) | omega))) | (with_reducible refine RdR.alloc ?_ _) | (with_reducible refine RdR.drew ?_) | refine RdR.below ?_ (by assumption))))
              have HZV11 : Hid ((w11.setCell ⟨b9, 6, none⟩ (.string ⟨s11.toArray⟩)).heap[w.heap.size]? = some (.cells #[.string ⟨#[]⟩, .int .i64 0, .int .i64 0, .int .i64 0, .string ⟨#[]⟩, .slice none 0 0, .string ⟨#[]⟩, .int .i64 0, .int .i64 0, .string ⟨#[]⟩, .slice none 0 0] 89)) := Lib.hid (by (repeat (with_reducible refine (setCell_block _ _ _ _ (by omega)).trans ?_)); exact HZ11.out)
              have HKV11 : Hid ((w11.setCell ⟨b9, 6, none⟩ (.string ⟨s11.toArray⟩)).heap[b9]? = some (.cells #[.string ⟨s1.toArray⟩, .int .i64 t.n, .int .i64 0, .int .i64 0, .string ⟨#[]⟩, .slice none 0 0, .string ⟨s11.toArray⟩, .int .i64 0, .int .i64 0, .string ⟨#[]⟩, .slice none 0 0] 89)) := Lib.hid (by have := set_at (HK11.out) 6 (.string ⟨s11.toArray⟩); simpa using this)
              have hsV11 : (w11.setCell ⟨b9, 6, none⟩ (.string ⟨s11.toArray⟩)).heap.size = w11.heap.size := by simp
              clear HG11 HR11 HZ11 HK11
              have MUU := Lib.hid (MU.out [61] r11 HE11.out.1.ne _ HRV11.out)
              go_wp2_with (fail)
              go_at_call 71
              refine MUU.out.mono ?_
              clear MUU
              rintro e w12 hP
              generalize (w11.setCell ⟨b9, 6, none⟩ (.string ⟨s11.toArray⟩)) = V11 at *
              cases hp : mustF [61] r11 with
              | no p er =>
                rw [hp] at hP HC
                obtain ⟨rfl, hg⟩ := hP
                have HN : Hid (X = PR.no p er) := Lib.hid HC.out.symm
                have HG9 := Lib.hid (HGV11.out.trans hg HGV11.out.size)
                clear hp hg HC
                go_wp2
                exact ⟨rfl, HQQ.out _ _ (by rw [HN.out]; exact ⟨rfl, HG9.out⟩)⟩
              | ok u r12 =>
                rw [hp] at hP HC
                obtain ⟨⟨U, rfl, hV⟩, hR, hg⟩ := hP
                obtain rfl := hV
                have hT := must_takes [61] _ _ _ hp
                have HE12 : Hid (EndsT r12 ∧ ShortT r12) := Lib.hid ⟨hT.2.1 HE11.out.1, hT.2.2 HE11.out.2⟩
                have hl12 := hT.1
                dsimp only [PR.bind] at HC
                clear hp hT
                have hs12 := hg.size
                have HG12 := Lib.hid (HGV11.out.trans hg HGV11.out.size)
                have HZ12 : Hid (w12.heap[w.heap.size]? = some (.cells #[.string ⟨#[]⟩, .int .i64 0, .int .i64 0, .int .i64 0, .string ⟨#[]⟩, .slice none 0 0, .string ⟨#[]⟩, .int .i64 0, .int .i64 0, .string ⟨#[]⟩, .slice none 0 0] 89)) := Lib.hid ((hg.block _ (by omega) hn0.1).trans HZV11.out)
                have HK12 := Lib.hid ((hg.block _ (by omega) hb9.1).trans HKV11.out)
                have HR12 := Lib.hid hR
                have hlt12 : b9 < w12.heap.size ∧ w.heap.size < w12.heap.size := by omega
                clear hg hR HGV11 HZV11 HKV11 HRV11
                clear z0 z1 z2 z3 z4 z5 z6 z7 z8 z9 z10 zf k0 k1 k2 k3 k4 k5 k6 k7 k8 k9 k10 kf
                have HGV12 := HG12
                have HRV12 := HR12
                have HZV12 := HZ12
                have HKV12 := HK12
                clear HG12 HR12 HZ12 HK12
                have XPP := Lib.hid (XP.out r12 _ (by omega) HRV12.out HE12.out.1 HE12.out.2)
                go_wp2_with (fail)
                go_at_call 30
                refine XPP.out.mono ?_
                clear XPP
                rintro e w13 hP
                cases hp : exprD f r12 with
                | no p er =>
                  rw [hp] at hP HC
                  obtain ⟨rfl, hg⟩ := hP
                  have HN : Hid (X = PR.no p er) := Lib.hid HC.out.symm
                  have HG9 := Lib.hid (HGV12.out.trans hg HGV12.out.size)
                  clear hp hg HC
                  go_wp2
                  exact ⟨rfl, HQQ.out _ _ (by rw [HN.out]; exact ⟨rfl, HG9.out⟩)⟩
                | ok c r13 =>
                  rw [hp] at hP HC
                  obtain ⟨A4, cc, rfl, hv, hR0, hg⟩ := pout_ok hP
                  have hR := hR0.out
                  have hT := exprD_takes f _ _ _ hp
                  have HE13 : Hid (EndsT r13 ∧ ShortT r13) := Lib.hid ⟨hT.2.1 HE12.out.1, hT.2.2 HE12.out.2⟩
                  dsimp only [PR.bind] at HC
                  clear hp hT hP hR0
                  obtain ⟨op, nn, ss, args⟩ := c
                  dsimp only [exprC, ExprT.op, ExprT.n, ExprT.s, ExprT.args, List.cons_append, List.nil_append] at hv ⊢
                  have HT13 : Hid (EV (fun b => w.heap.size < b ∧ ¬ b = b9) w13 (.mk op nn ss args) [.int .i64 op, .int .i64 nn, .string ⟨ss.toArray⟩, .slice A4 args.length cc]) := Lib.hid (hv.out.mono (fun b h1 h2 => by omega))
                  clear hv
                  have hs13 := hg.size
                  have HG13 := Lib.hid (HGV12.out.trans hg HGV12.out.size)
                  have HZ13 : Hid (w13.heap[w.heap.size]? = some (.cells #[.string ⟨#[]⟩, .int .i64 0, .int .i64 0, .int .i64 0, .string ⟨#[]⟩, .slice none 0 0, .string ⟨#[]⟩, .int .i64 0, .int .i64 0, .string ⟨#[]⟩, .slice none 0 0] 89)) := Lib.hid ((hg.block _ (by omega) hn0.1).trans HZV12.out)
                  have HK13 := Lib.hid ((hg.block _ (by omega) hb9.1).trans HKV12.out)
                  have HR13 := Lib.hid hR
                  have hlt13 : b9 < w13.heap.size ∧ w.heap.size < w13.heap.size := by omega
                  clear hg hR HGV12 HZV12 HKV12 HRV12
                  obtain ⟨⟨z0, z1, z2, z3, z4, z5, z6, z7, z8, z9, z10⟩, zf⟩ := eleven_cells HZ13.out
                  obtain ⟨⟨k0, k1, k2, k3, k4, k5, k6, k7, k8, k9, k10⟩, kf⟩ := eleven_cells HK13.out
                  have HGV13 : Hid (Gr w.heap.size rb w ((((w13.setCell ⟨b9, 7, none⟩ (.int .i64 op)).setCell ⟨b9, 8, none⟩ (.int .i64 nn)).setCell ⟨b9, 9, none⟩ (.string ⟨ss.toArray⟩)).setCell ⟨b9, 10, none⟩ (.slice A4 args.length cc))) := Lib.hid (by have hg := HG13.out; exact (by repeat (first | (with_reducible exact Gr.refl _ _ _) | (with_reducible assumption) | ((with_reducible refine Gr.setCell ?_ ?hq1 _); (case hq1 => (first | (right; rfl) | (left; (first | (simp; done) | (simp; omega) | omega))))) | ((with_reducible refine Gr.alloc ?_ ?hq1 _); (case hq1 => (first | (simp; done) | (simp; omega) | omega))) | (with_reducible refine Gr.drew ?_) | exact Gr.of_below (by assumption) | refine Gr.trans ?_ (by assumption) (by first | (simp; done) | (simp; omega) | omega) | refine Gr.below ?_ (by assumption) (by first | (simp; done) | (simp; omega) | omega))))
                  have HRV13 : Hid (RdR ((((w13.setCell ⟨b9, 7, none⟩ (.int .i64 op)).setCell ⟨b9, 8, none⟩ (.int .i64 nn)).setCell ⟨b9, 9, none⟩ (.string ⟨ss.toArray⟩)).setCell ⟨b9, 10, none⟩ (.slice A4 args.length cc)) rb gt r13) := Lib.hid (by have hr := HR13.out; exact (by repeat (first | (with_reducible exact hr) | ((with_reducible refine RdR.setCell ?_ ?hq1 ?hq2 _); (case hq1 => (first | (simp; done) | (simp; omega) | omega)); (case hq2 => (first | (simp; done) | (simp; omega) | omega))) | (with_reducible refine RdR.alloc ?_ _) | (with_reducible refine RdR.drew ?_) | refine RdR.below ?_ (by assumption))))
                  have HZV13 : Hid (((((w13.setCell ⟨b9, 7, none⟩ (.int .i64 op)).setCell ⟨b9, 8, none⟩ (.int .i64 nn)).setCell ⟨b9, 9, none⟩ (.string ⟨ss.toArray⟩)).setCell ⟨b9, 10, none⟩ (.slice A4 args.length cc)).heap[w.heap.size]? = some (.cells #[.string ⟨#[]⟩, .int .i64 0, .int .i64 0, .int .i64 0, .string ⟨#[]⟩, .slice none 0 0, .string ⟨#[]⟩, .int .i64 0, .int .i64 0, .string ⟨#[]⟩, .slice none 0 0] 89)) := Lib.hid (by (repeat (with_reducible refine (setCell_block _ _ _ _ (by omega)).trans ?_)); exact HZ13.out)
                  have HKV13 : Hid (((((w13.setCell ⟨b9, 7, none⟩ (.int .i64 op)).setCell ⟨b9, 8, none⟩ (.int .i64 nn)).setCell ⟨b9, 9, none⟩ (.string ⟨ss.toArray⟩)).setCell ⟨b9, 10, none⟩ (.slice A4 args.length cc)).heap[b9]? = some (.cells #[.string ⟨s1.toArray⟩, .int .i64 t.n, .int .i64 0, .int .i64 0, .string ⟨#[]⟩, .slice none 0 0, .string ⟨s11.toArray⟩, .int .i64 op, .int .i64 nn, .string ⟨ss.toArray⟩, .slice A4 args.length cc] 89)) := Lib.hid (by have := set_at (set_at (set_at (set_at (HK13.out) 7 (.int .i64 op)) 8 (.int .i64 nn)) 9 (.string ⟨ss.toArray⟩)) 10 (.slice A4 args.length cc); simpa using this)
                  have hsV13 : ((((w13.setCell ⟨b9, 7, none⟩ (.int .i64 op)).setCell ⟨b9, 8, none⟩ (.int .i64 nn)).setCell ⟨b9, 9, none⟩ (.string ⟨ss.toArray⟩)).setCell ⟨b9, 10, none⟩ (.slice A4 args.length cc)).heap.size = w13.heap.size := by simp
                  have HTV13 : Hid (EV (fun b => w.heap.size < b ∧ ¬ b = b9) ((((w13.setCell ⟨b9, 7, none⟩ (.int .i64 op)).setCell ⟨b9, 8, none⟩ (.int .i64 nn)).setCell ⟨b9, 9, none⟩ (.string ⟨ss.toArray⟩)).setCell ⟨b9, 10, none⟩ (.slice A4 args.length cc)) (.mk op nn ss args) [.int .i64 op, .int .i64 nn, .string ⟨ss.toArray⟩, .slice A4 args.length cc]) := Lib.hid (HT13.out.keep (by repeat (first | (with_reducible exact Kp.refl _ _) | (with_reducible assumption) | ((with_reducible refine Kp.set ?_ ?hq1 _); (case hq1 => (first | (simp; done) | (simp; omega) | (dsimp only; omega)))) | (with_reducible refine Kp.alloc ?_ _) | (with_reducible refine Kp.drew ?_) | refine Kp.trans ?_ (Kp.gr (by assumption) (by first | (simp; done) | (simp; omega) | (dsimp only; omega))))))
                  clear HG13 HR13 HZ13 HK13 HT13
                  have MUU := Lib.hid (MU.out [59] r13 HE13.out.1.ne _ HRV13.out)
                  go_wp2_with (fail)
                  go_at_call 71
                  refine MUU.out.mono ?_
                  clear MUU
                  rintro e w14 hP
                  generalize ((((w13.setCell ⟨b9, 7, none⟩ (.int .i64 op)).setCell ⟨b9, 8, none⟩ (.int .i64 nn)).setCell ⟨b9, 9, none⟩ (.string ⟨ss.toArray⟩)).setCell ⟨b9, 10, none⟩ (.slice A4 args.length cc)) = V13 at *
                  cases hp : mustF [59] r13 with
                  | no p er =>
                    rw [hp] at hP HC
                    obtain ⟨rfl, hg⟩ := hP
                    have HN : Hid (X = PR.no p er) := Lib.hid HC.out.symm
                    have HG9 := Lib.hid (HGV13.out.trans hg HGV13.out.size)
                    clear hp hg HC
                    go_wp2
                    exact ⟨rfl, HQQ.out _ _ (by rw [HN.out]; exact ⟨rfl, HG9.out⟩)⟩
                  | ok u r14 =>
                    rw [hp] at hP HC
                    obtain ⟨⟨U, rfl, hV⟩, hR, hg⟩ := hP
                    obtain rfl := hV
                    have hT := must_takes [59] _ _ _ hp
                    have HE14 : Hid (EndsT r14 ∧ ShortT r14) := Lib.hid ⟨hT.2.1 HE13.out.1, hT.2.2 HE13.out.2⟩
                    have hl14 := hT.1
                    dsimp only [PR.bind] at HC
                    clear hp hT
                    have hs14 := hg.size
                    have HG14 := Lib.hid (HGV13.out.trans hg HGV13.out.size)
                    have HZ14 : Hid (w14.heap[w.heap.size]? = some (.cells #[.string ⟨#[]⟩, .int .i64 0, .int .i64 0, .int .i64 0, .string ⟨#[]⟩, .slice none 0 0, .string ⟨#[]⟩, .int .i64 0, .int .i64 0, .string ⟨#[]⟩, .slice none 0 0] 89)) := Lib.hid ((hg.block _ (by omega) hn0.1).trans HZV13.out)
                    have HK14 := Lib.hid ((hg.block _ (by omega) hb9.1).trans HKV13.out)
                    have HR14 := Lib.hid hR
                    have hlt14 : b9 < w14.heap.size ∧ w.heap.size < w14.heap.size := by omega
                    have HT14 : Hid (EV (fun b => w.heap.size < b ∧ ¬ b = b9) w14 (.mk op nn ss args) [.int .i64 op, .int .i64 nn, .string ⟨ss.toArray⟩, .slice A4 args.length cc]) := Lib.hid (HTV13.out.keep (Kp.gr hg (by omega)))
                    clear hg hR HGV13 HZV13 HKV13 HRV13 HTV13
                    clear z0 z1 z2 z3 z4 z5 z6 z7 z8 z9 z10 zf k0 k1 k2 k3 k4 k5 k6 k7 k8 k9 k10 kf
                    obtain ⟨⟨z0, z1, z2, z3, z4, z5, z6, z7, z8, z9, z10⟩, zf⟩ := eleven_cells HZ14.out
                    obtain ⟨⟨k0, k1, k2, k3, k4, k5, k6, k7, k8, k9, k10⟩, kf⟩ := eleven_cells HK14.out
                    have HN : Hid (X = PR.ok ⟨s1, t.n, expr0, s11, .mk op nn ss args⟩ r14) := Lib.hid HC.out.symm
                    have hg14 := HG14.out
                    have hr14 := HR14.out
                    have ht14 := HT14.out
                    clear HZ14 HK14
                    go_wp2
                    exact bodyPost_ret (v := .agg #[.string ⟨s1.toArray⟩, .int .i64 t.n, .int .i64 0, .int .i64 0, .string ⟨#[]⟩, .slice none 0 0, .string ⟨s11.toArray⟩, .int .i64 op, .int .i64 nn, .string ⟨ss.toArray⟩, .slice A4 args.length cc]) (by simp [results, Tryz.results52, go_sem, *]) rfl (HQQ.out _ _ (by rw [HN.out]; exact ⟨⟨_, rfl, [.int .i64 0, .int .i64 0, .string ⟨#[]⟩, .slice none 0 0], [.int .i64 op, .int .i64 nn, .string ⟨ss.toArray⟩, .slice A4 args.length cc], rfl, (ev_leaf _ _ 0 0 []), ((ht14.keep (by repeat (first | (with_reducible exact Kp.refl _ _) | (with_reducible assumption) | ((with_reducible refine Kp.set ?_ ?hq1 _); (case hq1 => (first | (simp; done) | (simp; omega) | (dsimp only; omega)))) | (with_reducible refine Kp.alloc ?_ _) | (with_reducible refine Kp.drew ?_) | refine Kp.trans ?_ (Kp.gr (by assumption) (by first | (simp; done) | (simp; omega) | (dsimp only; omega)))))).mono (fun b h1 h2 => by (try dsimp only at h2 ⊢); omega))⟩, (by repeat (first | (with_reducible exact hr14) | ((with_reducible refine RdR.setCell ?_ ?hq1 ?hq2 _); (case hq1 => (first | (simp; done) | (simp; omega) | omega)); (case hq2 => (first | (simp; done) | (simp; omega) | omega))) | (with_reducible refine RdR.alloc ?_ _) | (with_reducible refine RdR.drew ?_) | refine RdR.below ?_ (by assumption))), (by repeat (first | (with_reducible exact Gr.refl _ _ _) | (with_reducible assumption) | ((with_reducible refine Gr.setCell ?_ ?hq1 _); (case hq1 => (first | (right; rfl) | (left; (first | (simp; done) | (simp; omega) | omega))))) | ((with_reducible refine Gr.alloc ?_ ?hq1 _); (case hq1 => (first | (simp; done) | (simp; omega) | omega))) | (with_reducible refine Gr.drew ?_) | exact Gr.of_below (by assumption) | refine Gr.trans ?_ (by assumption) (by first | (simp; done) | (simp; omega) | omega) | refine Gr.below ?_ (by assumption) (by first | (simp; done) | (simp; omega) | omega)))⟩))
        | some r6 =>
          rw [if_yes hm] at HC
          have hml := may_len hm
          have HE6 : Hid (EndsT r6 ∧ ShortT r6) := Lib.hid ⟨may_ends hm HE4.out.1, hml.2 HE4.out.2⟩
          have hl6 := hml.1
          have MYY := Lib.hid (fun W R' => MY.out wIf r4 HE4.out.1.ne W R')
          rw [(may_yes hm).1, (may_yes hm).2] at MYY
          clear hm hml
          go_wp2_with (first | (go_at_call 72; (with_reducible refine (MYY.out _ HR4.out).mono ?_); rintro e w6 ⟨rfl, hR, hg⟩))
          have HGV4 := HG4
          have HRV4 := HR4
          have HZV4 := HZ4
          have HKV4 := HK4
          clear HG4 HR4 HZ4 HK4 MYY
          have hs6 := hg.size
          have HG6 := Lib.hid (HGV4.out.trans hg HGV4.out.size)
          have HZ6 : Hid (w6.heap[w.heap.size]? = some (.cells #[.string ⟨#[]⟩, .int .i64 0, .int .i64 0, .int .i64 0, .string ⟨#[]⟩, .slice none 0 0, .string ⟨#[]⟩, .int .i64 0, .int .i64 0, .string ⟨#[]⟩, .slice none 0 0] 89)) := Lib.hid ((hg.block _ (by omega) hn0.1).trans HZV4.out)
          have HK6 := Lib.hid ((hg.block _ (by omega) hb9.1).trans HKV4.out)
          have HR6 := Lib.hid hR
          have hlt6 : b9 < w6.heap.size ∧ w.heap.size < w6.heap.size := by omega
          clear hg hR HGV4 HZV4 HKV4 HRV4
          have HGV6 := HG6
          have HRV6 := HR6
          have HZV6 := HZ6
          have HKV6 := HK6
          clear HG6 HR6 HZ6 HK6
          have XPP := Lib.hid (XP.out r6 _ (by omega) HRV6.out HE6.out.1 HE6.out.2)
          go_at_call 30
          refine XPP.out.mono ?_
          clear XPP
          rintro e w7 hP
          cases hp : exprD f r6 with
          | no p er =>
            rw [hp] at hP HC
            obtain ⟨rfl, hg⟩ := hP
            have HN : Hid (X = PR.no p er) := Lib.hid HC.out.symm
            have HG9 := Lib.hid (HGV6.out.trans hg HGV6.out.size)
            clear hp hg HC
            go_wp2
            exact ⟨rfl, HQQ.out _ _ (by rw [HN.out]; exact ⟨rfl, HG9.out⟩)⟩
          | ok ci r7 =>
            rw [hp] at hP HC
            obtain ⟨A7, cc7, rfl, hv, hR0, hg⟩ := pout_ok hP
            have hR := hR0.out
            have hT := exprD_takes f _ _ _ hp
            have HE7 : Hid (EndsT r7 ∧ ShortT r7) := Lib.hid ⟨hT.2.1 HE6.out.1, hT.2.2 HE6.out.2⟩
            have hl7 := hT.1
            dsimp only [PR.bind] at HC
            clear hp hT hP hR0
            obtain ⟨op7, nn7, ss7, args7⟩ := ci
            dsimp only [exprC, ExprT.op, ExprT.n, ExprT.s, ExprT.args, List.cons_append, List.nil_append] at hv ⊢
            have HI7 : Hid (EV (fun b => w.heap.size < b ∧ ¬ b = b9) w7 (.mk op7 nn7 ss7 args7) [.int .i64 op7, .int .i64 nn7, .string ⟨ss7.toArray⟩, .slice A7 args7.length cc7]) := Lib.hid (hv.out.mono (fun b h1 h2 => by omega))
            clear hv
            have hs7 := hg.size
            have HG7 := Lib.hid (HGV6.out.trans hg HGV6.out.size)
            have HZ7 : Hid (w7.heap[w.heap.size]? = some (.cells #[.string ⟨#[]⟩, .int .i64 0, .int .i64 0, .int .i64 0, .string ⟨#[]⟩, .slice none 0 0, .string ⟨#[]⟩, .int .i64 0, .int .i64 0, .string ⟨#[]⟩, .slice none 0 0] 89)) := Lib.hid ((hg.block _ (by omega) hn0.1).trans HZV6.out)
            have HK7 := Lib.hid ((hg.block _ (by omega) hb9.1).trans HKV6.out)
            have HR7 := Lib.hid hR
            have hlt7 : b9 < w7.heap.size ∧ w.heap.size < w7.heap.size := by omega
            clear hg hR HGV6 HZV6 HKV6 HRV6
            obtain ⟨⟨z0, z1, z2, z3, z4, z5, z6, z7, z8, z9, z10⟩, zf⟩ := eleven_cells HZ7.out
            obtain ⟨⟨k0, k1, k2, k3, k4, k5, k6, k7, k8, k9, k10⟩, kf⟩ := eleven_cells HK7.out
            have HGV7 : Hid (Gr w.heap.size rb w ((((w7.setCell ⟨b9, 2, none⟩ (.int .i64 op7)).setCell ⟨b9, 3, none⟩ (.int .i64 nn7)).setCell ⟨b9, 4, none⟩ (.string ⟨ss7.toArray⟩)).setCell ⟨b9, 5, none⟩ (.slice A7 args7.length cc7))) := Lib.hid (by have hg := HG7.out; exact (by repeat (first | (with_reducible exact Gr.refl _ _ _) | (with_reducible assumption) | ((with_reducible refine Gr.setCell ?_ ?hq1 _); (case hq1 => (first | (right; rfl) | (left; (first | (simp; done) | (simp; omega) | omega))))) | ((with_reducible refine Gr.alloc ?_ ?hq1 _); (case hq1 => (first | (simp; done) | (simp; omega) | omega))) | (with_reducible refine Gr.drew ?_) | exact Gr.of_below (by assumption) | refine Gr.trans ?_ (by assumption) (by first | (simp; done) | (simp; omega) | omega) | refine Gr.below ?_ (by assumption) (by first | (simp; done) | (simp; omega) | omega))))
            have HRV7 : Hid (RdR ((((w7.setCell ⟨b9, 2, none⟩ (.int .i64 op7)).setCell ⟨b9, 3, none⟩ (.int .i64 nn7)).setCell ⟨b9, 4, none⟩ (.string ⟨ss7.toArray⟩)).setCell ⟨b9, 5, none⟩ (.slice A7 args7.length cc7)) rb gt r7) := Lib.hid (by have hr := HR7.out; exact (by repeat (first | (with_reducible exact hr) | ((with_reducible refine RdR.setCell ?_ ?hq1 ?hq2 _); (case hq1 => (first | (simp; done) | (simp; omega) | omega)); (case hq2 => (first | (simp; done) | (simp; omega) | omega))) | (with_reducible refine RdR.alloc ?_ _) | (with_reducible refine RdR.drew ?_) | refine RdR.below ?_ (by assumption))))
            have HZV7 : Hid (((((w7.setCell ⟨b9, 2, none⟩ (.int .i64 op7)).setCell ⟨b9, 3, none⟩ (.int .i64 nn7)).setCell ⟨b9, 4, none⟩ (.string ⟨ss7.toArray⟩)).setCell ⟨b9, 5, none⟩ (.slice A7 args7.length cc7)).heap[w.heap.size]? = some (.cells #[.string ⟨#[]⟩, .int .i64 0, .int .i64 0, .int .i64 0, .string ⟨#[]⟩, .slice none 0 0, .string ⟨#[]⟩, .int .i64 0, .int .i64 0, .string ⟨#[]⟩, .slice none 0 0] 89)) := Lib.hid (by (repeat (with_reducible refine (setCell_block _ _ _ _ (by omega)).trans ?_)); exact HZ7.out)
            have HKV7 : Hid (((((w7.setCell ⟨b9, 2, none⟩ (.int .i64 op7)).setCell ⟨b9, 3, none⟩ (.int .i64 nn7)).setCell ⟨b9, 4, none⟩ (.string ⟨ss7.toArray⟩)).setCell ⟨b9, 5, none⟩ (.slice A7 args7.length cc7)).heap[b9]? = some (.cells #[.string ⟨s1.toArray⟩, .int .i64 t.n, .int .i64 op7, .int .i64 nn7, .string ⟨ss7.toArray⟩, .slice A7 args7.length cc7, .string ⟨#[]⟩, .int .i64 0, .int .i64 0, .string ⟨#[]⟩, .slice none 0 0] 89)) := Lib.hid (by have := set_at (set_at (set_at (set_at (HK7.out) 2 (.int .i64 op7)) 3 (.int .i64 nn7)) 4 (.string ⟨ss7.toArray⟩)) 5 (.slice A7 args7.length cc7); simpa using this)
            have hsV7 : ((((w7.setCell ⟨b9, 2, none⟩ (.int .i64 op7)).setCell ⟨b9, 3, none⟩ (.int .i64 nn7)).setCell ⟨b9, 4, none⟩ (.string ⟨ss7.toArray⟩)).setCell ⟨b9, 5, none⟩ (.slice A7 args7.length cc7)).heap.size = w7.heap.size := by simp
            have HIV7 : Hid (EV (fun b => w.heap.size < b ∧ ¬ b = b9) ((((w7.setCell ⟨b9, 2, none⟩ (.int .i64 op7)).setCell ⟨b9, 3, none⟩ (.int .i64 nn7)).setCell ⟨b9, 4, none⟩ (.string ⟨ss7.toArray⟩)).setCell ⟨b9, 5, none⟩ (.slice A7 args7.length cc7)) (.mk op7 nn7 ss7 args7) [.int .i64 op7, .int .i64 nn7, .string ⟨ss7.toArray⟩, .slice A7 args7.length cc7]) := Lib.hid (HI7.out.keep (by repeat (first | (with_reducible exact Kp.refl _ _) | (with_reducible assumption) | ((with_reducible refine Kp.set ?_ ?hq1 _); (case hq1 => (first | (simp; done) | (simp; omega) | (dsimp only; omega)))) | (with_reducible refine Kp.alloc ?_ _) | (with_reducible refine Kp.drew ?_) | refine Kp.trans ?_ (Kp.gr (by assumption) (by first | (simp; done) | (simp; omega) | (dsimp only; omega))))))
            clear HG7 HR7 HZ7 HK7 HI7
            have MUU := Lib.hid (MU.out wThen r7 HE7.out.1.ne _ HRV7.out)
            go_wp2_with (fail)
            go_at_call 71
            refine MUU.out.mono ?_
            clear MUU
            rintro e w10 hP
            generalize ((((w7.setCell ⟨b9, 2, none⟩ (.int .i64 op7)).setCell ⟨b9, 3, none⟩ (.int .i64 nn7)).setCell ⟨b9, 4, none⟩ (.string ⟨ss7.toArray⟩)).setCell ⟨b9, 5, none⟩ (.slice A7 args7.length cc7)) = V7 at *
            cases hp : mustF wThen r7 with
            | no p er =>
              rw [hp] at hP HC
              obtain ⟨rfl, hg⟩ := hP
              have HN : Hid (X = PR.no p er) := Lib.hid HC.out.symm
              have HG9 := Lib.hid (HGV7.out.trans hg HGV7.out.size)
              clear hp hg HC
              go_wp2
              exact ⟨rfl, HQQ.out _ _ (by rw [HN.out]; exact ⟨rfl, HG9.out⟩)⟩
            | ok u r10 =>
              rw [hp] at hP HC
              obtain ⟨⟨U, rfl, hV⟩, hR, hg⟩ := hP
              obtain rfl := hV
              have hT := must_takes wThen _ _ _ hp
              have HE10 : Hid (EndsT r10 ∧ ShortT r10) := Lib.hid ⟨hT.2.1 HE7.out.1, hT.2.2 HE7.out.2⟩
              have hl10 := hT.1
              dsimp only [PR.bind] at HC
              clear hp hT
              have hs10 := hg.size
              have HG10 := Lib.hid (HGV7.out.trans hg HGV7.out.size)
              have HZ10 : Hid (w10.heap[w.heap.size]? = some (.cells #[.string ⟨#[]⟩, .int .i64 0, .int .i64 0, .int .i64 0, .string ⟨#[]⟩, .slice none 0 0, .string ⟨#[]⟩, .int .i64 0, .int .i64 0, .string ⟨#[]⟩, .slice none 0 0] 89)) := Lib.hid ((hg.block _ (by omega) hn0.1).trans HZV7.out)
              have HK10 := Lib.hid ((hg.block _ (by omega) hb9.1).trans HKV7.out)
              have HR10 := Lib.hid hR
              have hlt10 : b9 < w10.heap.size ∧ w.heap.size < w10.heap.size := by omega
              have HI10 : Hid (EV (fun b => w.heap.size < b ∧ ¬ b = b9) w10 (.mk op7 nn7 ss7 args7) [.int .i64 op7, .int .i64 nn7, .string ⟨ss7.toArray⟩, .slice A7 args7.length cc7]) := Lib.hid (HIV7.out.keep (Kp.gr hg (by omega)))
              clear hg hR HGV7 HZV7 HKV7 HRV7 HIV7
              have HGV10 := HG10
              have HRV10 := HR10
              have HZV10 := HZ10
              have HKV10 := HK10
              have HIV10 := HI10
              clear HG10 HR10 HZ10 HK10 HI10
              have NMM := Lib.hid (NM.out r10 HE10.out.1.ne HE10.out.2 _ HRV10.out)
              go_wp2_with (fail)
              go_at_call 70
              refine NMM.out.mono ?_
              clear NMM
              rintro e w11 hP
              cases hp : nmF r10 with
              | no p er =>
                rw [hp] at hP HC
                obtain ⟨rfl, hg⟩ := hP
                have HN : Hid (X = PR.no p er) := Lib.hid HC.out.symm
                have HG9 := Lib.hid (HGV10.out.trans hg HGV10.out.size)
                clear hp hg HC
                go_wp2
                exact ⟨rfl, HQQ.out _ _ (by rw [HN.out]; exact ⟨rfl, HG9.out⟩)⟩
              | ok s11 r11 =>
                rw [hp] at hP HC
                obtain ⟨⟨U, rfl, hV⟩, hR, hg⟩ := hP
                obtain rfl := hV
                have hT := nm_takes _ _ _ hp
                have HE11 : Hid (EndsT r11 ∧ ShortT r11) := Lib.hid ⟨hT.2.1 HE10.out.1, hT.2.2 HE10.out.2⟩
                have hl11 := hT.1
                dsimp only [PR.bind] at HC
                clear hp hT
                have hs11 := hg.size
                have HG11 := Lib.hid (HGV10.out.trans hg HGV10.out.size)
                have HZ11 : Hid (w11.heap[w.heap.size]? = some (.cells #[.string ⟨#[]⟩, .int .i64 0, .int .i64 0, .int .i64 0, .string ⟨#[]⟩, .slice none 0 0, .string ⟨#[]⟩, .int .i64 0, .int .i64 0, .string ⟨#[]⟩, .slice none 0 0] 89)) := Lib.hid ((hg.block _ (by omega) hn0.1).trans HZV10.out)
                have HK11 := Lib.hid ((hg.block _ (by omega) hb9.1).trans HKV10.out)
                have HR11 := Lib.hid hR
                have hlt11 : b9 < w11.heap.size ∧ w.heap.size < w11.heap.size := by omega
                have HI11 : Hid (EV (fun b => w.heap.size < b ∧ ¬ b = b9) w11 (.mk op7 nn7 ss7 args7) [.int .i64 op7, .int .i64 nn7, .string ⟨ss7.toArray⟩, .slice A7 args7.length cc7]) := Lib.hid (HIV10.out.keep (Kp.gr hg (by omega)))
                clear hg hR HGV10 HZV10 HKV10 HRV10 HIV10
                obtain ⟨⟨z0, z1, z2, z3, z4, z5, z6, z7, z8, z9, z10⟩, zf⟩ := eleven_cells HZ11.out
                obtain ⟨⟨k0, k1, k2, k3, k4, k5, k6, k7, k8, k9, k10⟩, kf⟩ := eleven_cells HK11.out
                have HGV11 : Hid (Gr w.heap.size rb w (w11.setCell ⟨b9, 6, none⟩ (.string ⟨s11.toArray⟩))) := Lib.hid (by have hg := HG11.out; exact (by repeat (first | (with_reducible exact Gr.refl _ _ _) | (with_reducible assumption) | ((with_reducible refine Gr.setCell ?_ ?hq1 _); (case hq1 => (first | (right; rfl) | (left; (first | (simp; done) | (simp; omega) | omega))))) | ((with_reducible refine Gr.alloc ?_ ?hq1 _); (case hq1 => (first | (simp; done) | (simp; omega) | omega))) | (with_reducible refine Gr.drew ?_) | exact Gr.of_below (by assumption) | refine Gr.trans ?_ (by assumption) (by first | (simp; done) | (simp; omega) | omega) | refine Gr.below ?_ (by assumption) (by first | (simp; done) | (simp; omega) | omega))))
                have HRV11 : Hid (RdR (w11.setCell ⟨b9, 6, none⟩ (.string ⟨s11.toArray⟩)) rb gt r11) := Lib.hid (by have hr := HR11.out; exact (by repeat (first | (with_reducible exact hr) | ((with_reducible refine RdR.setCell ?_ ?hq1 ?hq2 _); (case hq1 => (first | (simp; done) | (simp; omega) | omega)); (case hq2 => (first | (simp; done) | (simp; omega) | omega))) | (with_reducible refine RdR.alloc ?_ _) | (with_reducible refine RdR.drew ?_) | refine RdR.below ?_ (by assumption))))
                have HZV11 : Hid ((w11.setCell ⟨b9, 6, none⟩ (.string ⟨s11.toArray⟩)).heap[w.heap.size]? = some (.cells #[.string ⟨#[]⟩, .int .i64 0, .int .i64 0, .int .i64 0, .string ⟨#[]⟩, .slice none 0 0, .string ⟨#[]⟩, .int .i64 0, .int .i64 0, .string ⟨#[]⟩, .slice none 0 0] 89)) := Lib.hid (by (repeat (with_reducible refine (setCell_block _ _ _ _ (by omega)).trans ?_)); exact HZ11.out)
                have HKV11 : Hid ((w11.setCell ⟨b9, 6, none⟩ (.string ⟨s11.toArray⟩)).heap[b9]? = some (.cells #[.string ⟨s1.toArray⟩, .int .i64 t.n, .int .i64 op7, .int .i64 nn7, .string ⟨ss7.toArray⟩, .slice A7 args7.length cc7, .string ⟨s11.toArray⟩, .int .i64 0, .int .i64 0, .string ⟨#[]⟩, .slice none 0 0] 89)) := Lib.hid (by have := set_at (HK11.out) 6 (.string ⟨s11.toArray⟩); simpa using this)
                have hsV11 : (w11.setCell ⟨b9, 6, none⟩ (.string ⟨s11.toArray⟩)).heap.size = w11.heap.size := by simp
                have HIV11 : Hid (EV (fun b => w.heap.size < b ∧ ¬ b = b9) (w11.setCell ⟨b9, 6, none⟩ (.string ⟨s11.toArray⟩)) (.mk op7 nn7 ss7 args7) [.int .i64 op7, .int .i64 nn7, .string ⟨ss7.toArray⟩, .slice A7 args7.length cc7]) := Lib.hid (HI11.out.keep (by repeat (first | (with_reducible exact Kp.refl _ _) | (with_reducible assumption) | ((with_reducible refine Kp.set ?_ ?hq1 _); (case hq1 => (first | (simp; done) | (simp; omega) | (dsimp only; omega)))) | (with_reducible refine Kp.alloc ?_ _) | (with_reducible refine Kp.drew ?_) | refine Kp.trans ?_ (Kp.gr (by assumption) (by first | (simp; done) | (simp; omega) | (dsimp only; omega))))))
                clear HG11 HR11 HZ11 HK11 HI11
                have MUU := Lib.hid (MU.out [61] r11 HE11.out.1.ne _ HRV11.out)
                go_wp2_with (fail)
                go_at_call 71
                refine MUU.out.mono ?_
                clear MUU
                rintro e w12 hP
                generalize (w11.setCell ⟨b9, 6, none⟩ (.string ⟨s11.toArray⟩)) = V11 at *
                cases hp : mustF [61] r11 with
                | no p er =>
                  rw [hp] at hP HC
                  obtain ⟨rfl, hg⟩ := hP
                  have HN : Hid (X = PR.no p er) := Lib.hid HC.out.symm
                  have HG9 := Lib.hid (HGV11.out.trans hg HGV11.out.size)
                  clear hp hg HC
                  go_wp2
                  exact ⟨rfl, HQQ.out _ _ (by rw [HN.out]; exact ⟨rfl, HG9.out⟩)⟩
                | ok u r12 =>
                  rw [hp] at hP HC
                  obtain ⟨⟨U, rfl, hV⟩, hR, hg⟩ := hP
                  obtain rfl := hV
                  have hT := must_takes [61] _ _ _ hp
                  have HE12 : Hid (EndsT r12 ∧ ShortT r12) := Lib.hid ⟨hT.2.1 HE11.out.1, hT.2.2 HE11.out.2⟩
                  have hl12 := hT.1
                  dsimp only [PR.bind] at HC
                  clear hp hT
                  have hs12 := hg.size
                  have HG12 := Lib.hid (HGV11.out.trans hg HGV11.out.size)
                  have HZ12 : Hid (w12.heap[w.heap.size]? = some (.cells #[.string ⟨#[]⟩, .int .i64 0, .int .i64 0, .int .i64 0, .string ⟨#[]⟩, .slice none 0 0, .string ⟨#[]⟩, .int .i64 0, .int .i64 0, .string ⟨#[]⟩, .slice none 0 0] 89)) := Lib.hid ((hg.block _ (by omega) hn0.1).trans HZV11.out)
                  have HK12 := Lib.hid ((hg.block _ (by omega) hb9.1).trans HKV11.out)
                  have HR12 := Lib.hid hR
                  have hlt12 : b9 < w12.heap.size ∧ w.heap.size < w12.heap.size := by omega
                  have HI12 : Hid (EV (fun b => w.heap.size < b ∧ ¬ b = b9) w12 (.mk op7 nn7 ss7 args7) [.int .i64 op7, .int .i64 nn7, .string ⟨ss7.toArray⟩, .slice A7 args7.length cc7]) := Lib.hid (HIV11.out.keep (Kp.gr hg (by omega)))
                  clear hg hR HGV11 HZV11 HKV11 HRV11 HIV11
                  clear z0 z1 z2 z3 z4 z5 z6 z7 z8 z9 z10 zf k0 k1 k2 k3 k4 k5 k6 k7 k8 k9 k10 kf
                  have HGV12 := HG12
                  have HRV12 := HR12
                  have HZV12 := HZ12
                  have HKV12 := HK12
                  have HIV12 := HI12
                  clear HG12 HR12 HZ12 HK12 HI12
                  have XPP := Lib.hid (XP.out r12 _ (by omega) HRV12.out HE12.out.1 HE12.out.2)
                  go_wp2_with (fail)
                  go_at_call 30
                  refine XPP.out.mono ?_
                  clear XPP
                  rintro e w13 hP
                  cases hp : exprD f r12 with
                  | no p er =>
                    rw [hp] at hP HC
                    obtain ⟨rfl, hg⟩ := hP
                    have HN : Hid (X = PR.no p er) := Lib.hid HC.out.symm
                    have HG9 := Lib.hid (HGV12.out.trans hg HGV12.out.size)
                    clear hp hg HC
                    go_wp2
                    exact ⟨rfl, HQQ.out _ _ (by rw [HN.out]; exact ⟨rfl, HG9.out⟩)⟩
                  | ok c r13 =>
                    rw [hp] at hP HC
                    obtain ⟨A4, cc, rfl, hv, hR0, hg⟩ := pout_ok hP
                    have hR := hR0.out
                    have hT := exprD_takes f _ _ _ hp
                    have HE13 : Hid (EndsT r13 ∧ ShortT r13) := Lib.hid ⟨hT.2.1 HE12.out.1, hT.2.2 HE12.out.2⟩
                    dsimp only [PR.bind] at HC
                    clear hp hT hP hR0
                    obtain ⟨op, nn, ss, args⟩ := c
                    dsimp only [exprC, ExprT.op, ExprT.n, ExprT.s, ExprT.args, List.cons_append, List.nil_append] at hv ⊢
                    have HT13 : Hid (EV (fun b => w.heap.size < b ∧ ¬ b = b9) w13 (.mk op nn ss args) [.int .i64 op, .int .i64 nn, .string ⟨ss.toArray⟩, .slice A4 args.length cc]) := Lib.hid (hv.out.mono (fun b h1 h2 => by omega))
                    clear hv
                    have hs13 := hg.size
                    have HG13 := Lib.hid (HGV12.out.trans hg HGV12.out.size)
                    have HZ13 : Hid (w13.heap[w.heap.size]? = some (.cells #[.string ⟨#[]⟩, .int .i64 0, .int .i64 0, .int .i64 0, .string ⟨#[]⟩, .slice none 0 0, .string ⟨#[]⟩, .int .i64 0, .int .i64 0, .string ⟨#[]⟩, .slice none 0 0] 89)) := Lib.hid ((hg.block _ (by omega) hn0.1).trans HZV12.out)
                    have HK13 := Lib.hid ((hg.block _ (by omega) hb9.1).trans HKV12.out)
                    have HR13 := Lib.hid hR
                    have hlt13 : b9 < w13.heap.size ∧ w.heap.size < w13.heap.size := by omega
                    have HI13 : Hid (EV (fun b => w.heap.size < b ∧ ¬ b = b9) w13 (.mk op7 nn7 ss7 args7) [.int .i64 op7, .int .i64 nn7, .string ⟨ss7.toArray⟩, .slice A7 args7.length cc7]) := Lib.hid (HIV12.out.keep (Kp.gr hg (by omega)))
                    clear hg hR HGV12 HZV12 HKV12 HRV12 HIV12
                    obtain ⟨⟨z0, z1, z2, z3, z4, z5, z6, z7, z8, z9, z10⟩, zf⟩ := eleven_cells HZ13.out
                    obtain ⟨⟨k0, k1, k2, k3, k4, k5, k6, k7, k8, k9, k10⟩, kf⟩ := eleven_cells HK13.out
                    have HGV13 : Hid (Gr w.heap.size rb w ((((w13.setCell ⟨b9, 7, none⟩ (.int .i64 op)).setCell ⟨b9, 8, none⟩ (.int .i64 nn)).setCell ⟨b9, 9, none⟩ (.string ⟨ss.toArray⟩)).setCell ⟨b9, 10, none⟩ (.slice A4 args.length cc))) := Lib.hid (by have hg := HG13.out; exact (by repeat (first | (with_reducible exact Gr.refl _ _ _) | (with_reducible assumption) | ((with_reducible refine Gr.setCell ?_ ?hq1 _); (case hq1 => (first | (right; rfl) | (left; (first | (simp; done) | (simp; omega) | omega))))) | ((with_reducible refine Gr.alloc ?_ ?hq1 _); (case hq1 => (first | (simp; done) | (simp; omega) | omega))) | (with_reducible refine Gr.drew ?_) | exact Gr.of_below (by assumption) | refine Gr.trans ?_ (by assumption) (by first | (simp; done) | (simp; omega) | omega) | refine Gr.below ?_ (by assumption) (by first | (simp; done) | (simp; omega) | omega))))
                    have HRV13 : Hid (RdR ((((w13.setCell ⟨b9, 7, none⟩ (.int .i64 op)).setCell ⟨b9, 8, none⟩ (.int .i64 nn)).setCell ⟨b9, 9, none⟩ (.string ⟨ss.toArray⟩)).setCell ⟨b9, 10, none⟩ (.slice A4 args.length cc)) rb gt r13) := Lib.hid (by have hr := HR13.out; exact (by repeat (first | (with_reducible exact hr) | ((with_reducible refine RdR.setCell ?_ ?hq1 ?hq2 _); (case hq1 => (first | (simp; done) | (simp; omega) | omega)); (case hq2 => (first | (simp; done) | (simp; omega) | omega))) | (with_reducible refine RdR.alloc ?_ _) | (with_reducible refine RdR.drew ?_) | refine RdR.below ?_ (by assumption))))
                    have HZV13 : Hid (((((w13.setCell ⟨b9, 7, none⟩ (.int .i64 op)).setCell ⟨b9, 8, none⟩ (.int .i64 nn)).setCell ⟨b9, 9, none⟩ (.string ⟨ss.toArray⟩)).setCell ⟨b9, 10, none⟩ (.slice A4 args.length cc)).heap[w.heap.size]? = some (.cells #[.string ⟨#[]⟩, .int .i64 0, .int .i64 0, .int .i64 0, .string ⟨#[]⟩, .slice none 0 0, .string ⟨#[]⟩, .int .i64 0, .int .i64 0, .string ⟨#[]⟩, .slice none 0 0] 89)) := Lib.hid (by (repeat (with_reducible refine (setCell_block _ _ _ _ (by omega)).trans ?_)); exact HZ13.out)
                    have HKV13 : Hid (((((w13.setCell ⟨b9, 7, none⟩ (.int .i64 op)).setCell ⟨b9, 8, none⟩ (.int .i64 nn)).setCell ⟨b9, 9, none⟩ (.string ⟨ss.toArray⟩)).setCell ⟨b9, 10, none⟩ (.slice A4 args.length cc)).heap[b9]? = some (.cells #[.string ⟨s1.toArray⟩, .int .i64 t.n, .int .i64 op7, .int .i64 nn7, .string ⟨ss7.toArray⟩, .slice A7 args7.length cc7, .string ⟨s11.toArray⟩, .int .i64 op, .int .i64 nn, .string ⟨ss.toArray⟩, .slice A4 args.length cc] 89)) := Lib.hid (by have := set_at (set_at (set_at (set_at (HK13.out) 7 (.int .i64 op)) 8 (.int .i64 nn)) 9 (.string ⟨ss.toArray⟩)) 10 (.slice A4 args.length cc); simpa using this)
                    have hsV13 : ((((w13.setCell ⟨b9, 7, none⟩ (.int .i64 op)).setCell ⟨b9, 8, none⟩ (.int .i64 nn)).setCell ⟨b9, 9, none⟩ (.string ⟨ss.toArray⟩)).setCell ⟨b9, 10, none⟩ (.slice A4 args.length cc)).heap.size = w13.heap.size := by simp
                    have HIV13 : Hid (EV (fun b => w.heap.size < b ∧ ¬ b = b9) ((((w13.setCell ⟨b9, 7, none⟩ (.int .i64 op)).setCell ⟨b9, 8, none⟩ (.int .i64 nn)).setCell ⟨b9, 9, none⟩ (.string ⟨ss.toArray⟩)).setCell ⟨b9, 10, none⟩ (.slice A4 args.length cc)) (.mk op7 nn7 ss7 args7) [.int .i64 op7, .int .i64 nn7, .string ⟨ss7.toArray⟩, .slice A7 args7.length cc7]) := Lib.hid (HI13.out.keep (by repeat (first | (with_reducible exact Kp.refl _ _) | (with_reducible assumption) | ((with_reducible refine Kp.set ?_ ?hq1 _); (case hq1 => (first | (simp; done) | (simp; omega) | (dsimp only; omega)))) | (with_reducible refine Kp.alloc ?_ _) | (with_reducible refine Kp.drew ?_) | refine Kp.trans ?_ (Kp.gr (by assumption) (by first | (simp; done) | (simp; omega) | (dsimp only; omega))))))
                    have HTV13 : Hid (EV (fun b => w.heap.size < b ∧ ¬ b = b9) ((((w13.setCell ⟨b9, 7, none⟩ (.int .i64 op)).setCell ⟨b9, 8, none⟩ (.int .i64 nn)).setCell ⟨b9, 9, none⟩ (.string ⟨ss.toArray⟩)).setCell ⟨b9, 10, none⟩ (.slice A4 args.length cc)) (.mk op nn ss args) [.int .i64 op, .int .i64 nn, .string ⟨ss.toArray⟩, .slice A4 args.length cc]) := Lib.hid (HT13.out.keep (by repeat (first | (with_reducible exact Kp.refl _ _) | (with_reducible assumption) | ((with_reducible refine Kp.set ?_ ?hq1 _); (case hq1 => (first | (simp; done) | (simp; omega) | (dsimp only; omega)))) | (with_reducible refine Kp.alloc ?_ _) | (with_reducible refine Kp.drew ?_) | refine Kp.trans ?_ (Kp.gr (by assumption) (by first | (simp; done) | (simp; omega) | (dsimp only; omega))))))
                    clear HG13 HR13 HZ13 HK13 HI13 HT13
                    have MUU := Lib.hid (MU.out [59] r13 HE13.out.1.ne _ HRV13.out)
                    go_wp2_with (fail)
                    go_at_call 71
                    refine MUU.out.mono ?_
                    clear MUU
                    rintro e w14 hP
                    generalize ((((w13.setCell ⟨b9, 7, none⟩ (.int .i64 op)).setCell ⟨b9, 8, none⟩ (.int .i64 nn)).setCell ⟨b9, 9, none⟩ (.string ⟨ss.toArray⟩)).setCell ⟨b9, 10, none⟩ (.slice A4 args.length cc)) = V13 at *
                    cases hp : mustF [59] r13 with
                    | no p er =>
                      rw [hp] at hP HC
                      obtain ⟨rfl, hg⟩ := hP
                      have HN : Hid (X = PR.no p er) := Lib.hid HC.out.symm
                      have HG9 := Lib.hid (HGV13.out.trans hg HGV13.out.size)
                      clear hp hg HC
                      go_wp2
                      exact ⟨rfl, HQQ.out _ _ (by rw [HN.out]; exact ⟨rfl, HG9.out⟩)⟩
                    | ok u r14 =>
                      rw [hp] at hP HC
                      obtain ⟨⟨U, rfl, hV⟩, hR, hg⟩ := hP
                      obtain rfl := hV
                      have hT := must_takes [59] _ _ _ hp
                      have HE14 : Hid (EndsT r14 ∧ ShortT r14) := Lib.hid ⟨hT.2.1 HE13.out.1, hT.2.2 HE13.out.2⟩
                      have hl14 := hT.1
                      dsimp only [PR.bind] at HC
                      clear hp hT
                      have hs14 := hg.size
                      have HG14 := Lib.hid (HGV13.out.trans hg HGV13.out.size)
                      have HZ14 : Hid (w14.heap[w.heap.size]? = some (.cells #[.string ⟨#[]⟩, .int .i64 0, .int .i64 0, .int .i64 0, .string ⟨#[]⟩, .slice none 0 0, .string ⟨#[]⟩, .int .i64 0, .int .i64 0, .string ⟨#[]⟩, .slice none 0 0] 89)) := Lib.hid ((hg.block _ (by omega) hn0.1).trans HZV13.out)
                      have HK14 := Lib.hid ((hg.block _ (by omega) hb9.1).trans HKV13.out)
                      have HR14 := Lib.hid hR
                      have hlt14 : b9 < w14.heap.size ∧ w.heap.size < w14.heap.size := by omega
                      have HI14 : Hid (EV (fun b => w.heap.size < b ∧ ¬ b = b9) w14 (.mk op7 nn7 ss7 args7) [.int .i64 op7, .int .i64 nn7, .string ⟨ss7.toArray⟩, .slice A7 args7.length cc7]) := Lib.hid (HIV13.out.keep (Kp.gr hg (by omega)))
                      have HT14 : Hid (EV (fun b => w.heap.size < b ∧ ¬ b = b9) w14 (.mk op nn ss args) [.int .i64 op, .int .i64 nn, .string ⟨ss.toArray⟩, .slice A4 args.length cc]) := Lib.hid (HTV13.out.keep (Kp.gr hg (by omega)))
                      clear hg hR HGV13 HZV13 HKV13 HRV13 HIV13 HTV13
                      clear z0 z1 z2 z3 z4 z5 z6 z7 z8 z9 z10 zf k0 k1 k2 k3 k4 k5 k6 k7 k8 k9 k10 kf
                      obtain ⟨⟨z0, z1, z2, z3, z4, z5, z6, z7, z8, z9, z10⟩, zf⟩ := eleven_cells HZ14.out
                      obtain ⟨⟨k0, k1, k2, k3, k4, k5, k6, k7, k8, k9, k10⟩, kf⟩ := eleven_cells HK14.out
                      have HN : Hid (X = PR.ok ⟨s1, t.n, .mk op7 nn7 ss7 args7, s11, .mk op nn ss args⟩ r14) := Lib.hid HC.out.symm
                      have hg14 := HG14.out
                      have hr14 := HR14.out
                      have ht14 := HT14.out
                      have hi14 := HI14.out
                      clear HZ14 HK14
                      go_wp2
                      exact bodyPost_ret (v := .agg #[.string ⟨s1.toArray⟩, .int .i64 t.n, .int .i64 op7, .int .i64 nn7, .string ⟨ss7.toArray⟩, .slice A7 args7.length cc7, .string ⟨s11.toArray⟩, .int .i64 op, .int .i64 nn, .string ⟨ss.toArray⟩, .slice A4 args.length cc]) (by simp [results, Tryz.results52, go_sem, *]) rfl (HQQ.out _ _ (by rw [HN.out]; exact ⟨⟨_, rfl, [.int .i64 op7, .int .i64 nn7, .string ⟨ss7.toArray⟩, .slice A7 args7.length cc7], [.int .i64 op, .int .i64 nn, .string ⟨ss.toArray⟩, .slice A4 args.length cc], rfl, ((hi14.keep (by repeat (first | (with_reducible exact Kp.refl _ _) | (with_reducible assumption) | ((with_reducible refine Kp.set ?_ ?hq1 _); (case hq1 => (first | (simp; done) | (simp; omega) | (dsimp only; omega)))) | (with_reducible refine Kp.alloc ?_ _) | (with_reducible refine Kp.drew ?_) | refine Kp.trans ?_ (Kp.gr (by assumption) (by first | (simp; done) | (simp; omega) | (dsimp only; omega)))))).mono (fun b h1 h2 => by (try dsimp only at h2 ⊢); omega)), ((ht14.keep (by repeat (first | (with_reducible exact Kp.refl _ _) | (with_reducible assumption) | ((with_reducible refine Kp.set ?_ ?hq1 _); (case hq1 => (first | (simp; done) | (simp; omega) | (dsimp only; omega)))) | (with_reducible refine Kp.alloc ?_ _) | (with_reducible refine Kp.drew ?_) | refine Kp.trans ?_ (Kp.gr (by assumption) (by first | (simp; done) | (simp; omega) | (dsimp only; omega)))))).mono (fun b h1 h2 => by (try dsimp only at h2 ⊢); omega))⟩, (by repeat (first | (with_reducible exact hr14) | ((with_reducible refine RdR.setCell ?_ ?hq1 ?hq2 _); (case hq1 => (first | (simp; done) | (simp; omega) | omega)); (case hq2 => (first | (simp; done) | (simp; omega) | omega))) | (with_reducible refine RdR.alloc ?_ _) | (with_reducible refine RdR.drew ?_) | refine RdR.below ?_ (by assumption))), (by repeat (first | (with_reducible exact Gr.refl _ _ _) | (with_reducible assumption) | ((with_reducible refine Gr.setCell ?_ ?hq1 _); (case hq1 => (first | (right; rfl) | (left; (first | (simp; done) | (simp; omega) | omega))))) | ((with_reducible refine Gr.alloc ?_ ?hq1 _); (case hq1 => (first | (simp; done) | (simp; omega) | omega))) | (with_reducible refine Gr.drew ?_) | exact Gr.of_below (by assumption) | refine Gr.trans ?_ (by assumption) (by first | (simp; done) | (simp; omega) | omega) | refine Gr.below ?_ (by assumption) (by first | (simp; done) | (simp; omega) | omega)))⟩))
    · rw [if_neg h110] at HC
      have ek : (t.k == 110) = false := by simp [h110]
      have HN : Hid (X = PR.no t.p 11) := Lib.hid HC.out.symm
      clear h110 HC
      go_wp2_with (first | (go_at_call 31; (with_reducible refine (HHt.out _ HRV1.out).mono ?_); rintro e w2 ⟨rfl, hb2⟩; have HR2 := Lib.hid (HRV1.out.below hb2); have HG2 := Lib.hid (HGV1.out.below hb2 HGV1.out.size); have HB2 := Lib.hid hb2; clear hb2))
      go_at_call 32
      refine (FA.out t r2 _ HR2.out).mono ?_
      rintro e w3 ⟨rfl, hg3⟩
      have HG3 := Lib.hid (HG2.out.below hg3 HG2.out.size)
      go_wp2
      exact ⟨rfl, HQQ.out _ _ (by rw [HN.out]; exact ⟨rfl, HG3.out⟩)⟩
end Go.Proofs.YtnjlggleaocbdaaGreatDoor
