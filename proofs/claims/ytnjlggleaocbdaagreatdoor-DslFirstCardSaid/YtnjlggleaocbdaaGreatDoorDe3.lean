/-
  Contracts of the reader's decl and rule. (Printed by tools/mkde3.py.)
-/
import Derived.Test.YtnjlggleaocbdaaGreatDoorDe2
namespace Go.Proofs.YtnjlggleaocbdaaGreatDoor
set_option linter.all false
open Go.RowKit Go.Shelf
attribute [local go_sem] cell_set_self lt_1 lt_2 lt_3 lt_4 lt_5 lt_6 fld_k fld_s fld_n fld_p

def declC (d : DeclT) : List Value := [.string ⟨d.name.toArray⟩, .int .i64 d.ty, .bool d.out]
def encDc : DeclT → World → Value → Prop := fun d _ V => V = .agg (declC d).toArray
def zeroD : Array Value := #[.string ⟨#[]⟩, .int .i64 0, .bool false]
theorem three_cells {w : World} {b : Nat} {v0 v1 v2 : Value} {t : TypeId} (h : w.heap[b]? = some (.cells #[v0, v1, v2] t (0, 0))) :
    (w.cell? ⟨b, 0, none⟩ = some v0 ∧ w.cell? ⟨b, 1, none⟩ = some v1 ∧ w.cell? ⟨b, 2, none⟩ = some v2) ∧ ∀ o, w.frozen? ⟨b, o, none⟩ = false := by
  refine ⟨by simp [World.cell?, h], fun o => by simp [World.frozen?, h]⟩
theorem head_cons {r : List Tok} (h : r ≠ []) : ∃ t r', r = t :: r' := by
  cases r with
  | nil => exact absurd rfl h
  | cons t r' => exact ⟨t, r', rfl⟩
theorem mustF_no {s : List UInt8} {r : List Tok} {p : Nat} {e : Int} : mustF s r = .no p e → True := fun _ => trivial
set_option maxHeartbeats 8000000 in
set_option maxRecDepth 100000 in
theorem decl_any (rb gt : Nat) (ob : Bool) (r : List Tok) (w : World) (R : RdR w rb gt r) (hE : EndsT r) (hS : ShortT r) :
    Calls Tryz.prog 53 #[.pointer (some ⟨rb, 0, none⟩), .bool ob] w (POut rb gt w encDc (declF ob r)) := by
  suffices key : ∀ Q : Ending → World → Prop, Hid (∀ e w', POut rb gt w encDc (declF ob r) e w' → Q e w') → Calls Tryz.prog 53 #[.pointer (some ⟨rb, 0, none⟩), .bool ob] w Q from key _ (Lib.hid fun _ _ h => h)
  intro Q HQQ
  obtain ⟨hrb, hgt, hgr⟩ := R.lens
  have hn0 : ¬ w.heap.size = rb ∧ ¬ rb = w.heap.size ∧ ¬ w.heap.size = gt := by omega
  have NA := Lib.hid (nameR_any rb gt r hE.ne hS (w.alloc (.cells zeroD 64)) (R.alloc _))
  have MU := Lib.hid (fun s r hr W R' => must_any rb gt s r hr W R')
  have TY := Lib.hid (fun W => types_any W)
  have ON := Lib.hid (fun A r (hr : r ≠ []) hA W T R' => one_any rb gt A 4 4 typesL rfl (by omega) hA r hr W T R')
  have FA := Lib.hid (fun t r W R' => fail_any rb gt t r 11 W R')
  obtain ⟨X, hX⟩ : ∃ X, declF ob r = X := ⟨_, rfl⟩
  rw [hX] at HQQ
  unfold declF at hX
  have HES := Lib.hid (And.intro hE hS)
  have hg0 : Gr w.heap.size rb w (w.alloc (.cells zeroD 64)) := (Gr.refl _ _ _).alloc (Nat.le_refl _) _
  have hz0 : (w.alloc (.cells zeroD 64)).heap[w.heap.size]? = some (.cells zeroD 64) := heap_alloc_new w _
  have hs0 : (w.alloc (.cells zeroD 64)).heap.size = w.heap.size + 1 := by simp
  clear R hE hS
  cases hp1 : nmF r with
  | no p er =>
    rw [hp1] at NA hX
    have HN : Hid (X = PR.no p er) := Lib.hid hX.symm
    clear hp1 hX
    unfold zeroD at *
    go_enter Tryz.func53, Tryz.ntmps53
    go_wp2_with (fail)
    go_at_call 70
    refine NA.out.mono ?_
    rintro e w1 ⟨rfl, hg1⟩
    go_wp2
    exact ⟨rfl, HQQ.out _ _ (by rw [HN.out]; exact ⟨rfl, hg0.trans hg1 (by omega)⟩)⟩
  | ok s1 r1 =>
    have hT := nm_takes _ _ _ hp1
    have HE1 : Hid (EndsT r1 ∧ ShortT r1) := Lib.hid ⟨hT.2.1 HES.out.1, hT.2.2 HES.out.2⟩
    rw [hp1] at NA hX
    dsimp only [PR.bind] at hX
    clear hp1 hT
    have HC := Lib.hid hX
    clear hX
    unfold zeroD at *
    go_enter Tryz.func53, Tryz.ntmps53
    go_wp2_with (fail)
    go_at_call 70
    refine NA.out.mono ?_
    rintro e w1 ⟨⟨V, rfl, hV⟩, hR1, hg1⟩
    obtain rfl := hV
    have hs1 := hg1.size
    rw [hs0] at hs1
    have HG1 : Hid (Gr w.heap.size rb w (w1.alloc (.cells #[.string ⟨s1.toArray⟩, .int .i64 0, .bool ob] 64))) := Lib.hid ((hg0.trans hg1 (by omega)).alloc (by omega) _)
    have HR1 := Lib.hid (hR1.alloc (.cells #[.string ⟨s1.toArray⟩, .int .i64 0, .bool ob] 64))
    have HZ1 : Hid ((w1.alloc (.cells #[.string ⟨s1.toArray⟩, .int .i64 0, .bool ob] 64)).heap[w.heap.size]? = some (.cells #[.string ⟨#[]⟩, .int .i64 0, .bool false] 64)) := Lib.hid ((((Below.refl _ _).alloc (Nat.le_refl _) _).block _ (by omega)).trans ((hg1.block _ (by omega) hn0.1).trans hz0))
    have HB1 : Hid ((w1.alloc (.cells #[.string ⟨s1.toArray⟩, .int .i64 0, .bool ob] 64)).heap[w1.heap.size]? = some (.cells #[.string ⟨s1.toArray⟩, .int .i64 0, .bool ob] 64)) := Lib.hid (heap_alloc_new w1 _)
    have hs1' : (w1.alloc (.cells #[.string ⟨s1.toArray⟩, .int .i64 0, .bool ob] 64)).heap.size = w1.heap.size + 1 := by simp
    have MU1 := Lib.hid (MU.out [58] r1 HE1.out.1.ne _ HR1.out)
    clear hz0 hs0 hg0 hg1 NA hR1
    go_wp2_with (fail)
    go_at_call 71
    refine MU1.out.mono ?_
    clear MU1
    rintro e w2 hP
    generalize w1.alloc (.cells #[.string ⟨s1.toArray⟩, .int .i64 0, .bool ob] 64) = V1 at *
    cases hp : mustF [58] r1 with
    | no p er =>
      rw [hp] at hP HC
      obtain ⟨rfl, hg⟩ := hP
      have HN : Hid (X = PR.no p er) := Lib.hid HC.out.symm
      have HG := Lib.hid (HG1.out.trans hg HG1.out.size)
      clear hp hg HC
      go_wp2
      exact ⟨rfl, HQQ.out _ _ (by rw [HN.out]; exact ⟨rfl, HG.out⟩)⟩
    | ok u r2 =>
      rw [hp] at hP HC
      obtain ⟨⟨V, rfl, hV⟩, hR2, hg2⟩ := hP
      obtain rfl := hV
      have hT := must_takes [58] _ _ _ hp
      have HE2 : Hid (EndsT r2 ∧ ShortT r2) := Lib.hid ⟨hT.2.1 HE1.out.1, hT.2.2 HE1.out.2⟩
      have hs2 := hg2.size
      have hb9 : ¬ w1.heap.size = rb ∧ ¬ rb = w1.heap.size ∧ ¬ w1.heap.size = gt ∧ ¬ w1.heap.size = w.heap.size ∧ ¬ w.heap.size = w1.heap.size ∧ rb < w1.heap.size ∧ w.heap.size < w1.heap.size := by omega
      have hz2 : w2.heap[w.heap.size]? = some (.cells #[.string ⟨#[]⟩, .int .i64 0, .bool false] 64) := (hg2.block _ (by omega) hn0.1).trans HZ1.out
      have hk2 : w2.heap[w1.heap.size]? = some (.cells #[.string ⟨s1.toArray⟩, .int .i64 0, .bool ob] 64) := (hg2.block _ (by omega) hb9.1).trans HB1.out
      have HG2 := Lib.hid (HG1.out.trans hg2 HG1.out.size)
      have HR2 := Lib.hid hR2
      have hlt9 : w1.heap.size < w2.heap.size := by omega
      have ON2 := Lib.hid (fun A hA W T R' => ON.out A r2 HE2.out.1.ne hA W T R')
      obtain ⟨y, hy⟩ : ∃ y, oneF typesL 0 r2 = y := ⟨_, rfl⟩
      have hyt := fun i r3 (h : y = some (i, r3)) => one_take typesL 0 r2 i r3 (hy.trans h)
      dsimp only [PR.bind] at HC
      rw [hy] at ON2 HC
      have HZ2 := Lib.hid hz2
      have HK2 := Lib.hid hk2
      generalize w1.heap.size = b9 at *
      clear hp hg2 hR2 hT hy HB1 HZ1 HG1 HR1 hz2 hk2
      go_wp2_with (first | (go_at_call 37; (with_reducible refine (TY.out _).mono ?_); rintro e w3 ⟨rfl, hS3, hb3⟩))
      go_at_call 73
      refine (ON2.out _ (fun a e => by cases e; dsimp only; omega) _ hS3 (HR2.out.below hb3)).mono ?_
      rintro e w4 ⟨rfl, hR4, hg4⟩
      have hs3 := hb3.size
      have hs4 := hg4.size
      have hz4 : w4.heap[w.heap.size]? = some (.cells #[.string ⟨#[]⟩, .int .i64 0, .bool false] 64) := (hg4.block _ (by omega) hn0.1).trans ((hb3.block _ (by omega)).trans HZ2.out)
      have hk4 : w4.heap[b9]? = some (.cells #[.string ⟨s1.toArray⟩, .int .i64 0, .bool ob] 64) := (hg4.block _ (by omega) hb9.1).trans ((hb3.block _ (by omega)).trans HK2.out)
      have HG4 := Lib.hid ((HG2.out.below hb3 HG2.out.size).trans hg4 (Nat.le_trans HG2.out.size hs3))
      obtain ⟨⟨z0, z1, z2⟩, zf⟩ := three_cells hz4
      obtain ⟨⟨k0, k1, k2⟩, kf⟩ := three_cells hk4
      have HR4 := Lib.hid hR4
      have HZ4 := Lib.hid hz4
      have HK4 := Lib.hid hk4
      have hlt4 : b9 < w4.heap.size ∧ w.heap.size < w4.heap.size := by omega
      clear hg4 hb3 hS3 hz4 hk4 HZ2 HK2 HG2 HR2 ON2 hs3 hs4 hR4
      cases y with
      | none =>
        dsimp only [oneI, oneL] at HR4 HC ⊢
        obtain ⟨t, r3, rfl⟩ := head_cons HE2.out.1.ne
        have HN : Hid (X = PR.no t.p 11) := Lib.hid HC.out.symm
        go_wp2_with (fail)
        go_at_call 32
        refine (FA.out t r3 _ (HR4.out.setCell (by dsimp only; omega) (by dsimp only; omega) _)).mono ?_
        rintro e w5 ⟨rfl, hg5⟩
        have HG5 := Lib.hid (Gr.below (HG4.out.setCell (p := ⟨b9, 1, none⟩) (by dsimp only; left; omega) (.int .i64 (-1))) hg5 (by simp; omega))
        go_wp2
        exact ⟨rfl, HQQ.out _ _ (by rw [HN.out]; exact ⟨rfl, HG5.out⟩)⟩
      | some y =>
        obtain ⟨i, r3⟩ := y
        obtain ⟨⟨-, hi⟩, hl3, he3, hsh3⟩ := hyt i r3 rfl
        have HE3 : Hid (EndsT r3 ∧ ShortT r3) := Lib.hid ⟨he3 HE2.out.1, hsh3 HE2.out.2⟩
        dsimp only [oneI, oneL] at HR4 HC ⊢
        have hi0 : ¬ (i : Int) < 0 := by omega
        have MU4 := Lib.hid (MU.out [59] r3 HE3.out.1.ne (w4.setCell ⟨b9, 1, none⟩ (.int .i64 (i : Int))) (HR4.out.setCell (by dsimp only; omega) (by dsimp only; omega) _))
        have HGS : Hid (Gr w.heap.size rb w (w4.setCell ⟨b9, 1, none⟩ (.int .i64 (i : Int)))) := Lib.hid (HG4.out.setCell (p := ⟨b9, 1, none⟩) (by dsimp only; left; omega) _)
        have HKS : Hid ((w4.setCell ⟨b9, 1, none⟩ (.int .i64 (i : Int))).heap[b9]? = some (.cells #[.string ⟨s1.toArray⟩, .int .i64 (i : Int), .bool ob] 64)) := Lib.hid (by have := set_at HK4.out 1 (.int .i64 (i : Int)); simpa using this)
        have HZS : Hid ((w4.setCell ⟨b9, 1, none⟩ (.int .i64 (i : Int))).heap[w.heap.size]? = some (.cells #[.string ⟨#[]⟩, .int .i64 0, .bool false] 64)) := Lib.hid ((setCell_block _ _ _ _ (by omega)).trans HZ4.out)
        clear hyt hi
        go_wp2_with (fail)
        go_at_call 71
        refine MU4.out.mono ?_
        rintro e w5 hP
        have hsz : (w4.setCell ⟨b9, 1, none⟩ (.int .i64 (i : Int))).heap.size = w4.heap.size := by simp
        generalize w4.setCell ⟨b9, 1, none⟩ (.int .i64 (i : Int)) = V4 at *
        cases hp : mustF [59] r3 with
        | no p er =>
          rw [hp] at hP HC
          obtain ⟨rfl, hg⟩ := hP
          have HN : Hid (X = PR.no p er) := Lib.hid HC.out.symm
          have HG := Lib.hid (HGS.out.trans hg HGS.out.size)
          clear hp hg HC
          go_wp2
          exact ⟨rfl, HQQ.out _ _ (by rw [HN.out]; exact ⟨rfl, HG.out⟩)⟩
        | ok u r5 =>
          rw [hp] at hP HC
          obtain ⟨⟨V, rfl, hV⟩, hR5, hg5⟩ := hP
          obtain rfl := hV
          have HN : Hid (X = PR.ok ⟨s1, (i : Int), ob⟩ r5) := Lib.hid HC.out.symm
          have hs5 := hg5.size
          have hz5 := (hg5.block _ (by omega) hn0.1).trans HZS.out
          have hk5 := (hg5.block _ (by omega) hb9.1).trans HKS.out
          have hg5' := HGS.out.trans hg5 HGS.out.size
          have hR5' := hR5
          have hlt5 : b9 < w5.heap.size ∧ w.heap.size < w5.heap.size := by omega
          clear hp hg5 HC z0 z1 z2 zf k0 k1 k2 kf
          obtain ⟨⟨z0, z1, z2⟩, zf⟩ := three_cells hz5
          obtain ⟨⟨k0, k1, k2⟩, kf⟩ := three_cells hk5
          clear hz5 hk5
          go_wp2
          exact bodyPost_ret (v := .agg #[.string ⟨s1.toArray⟩, .int .i64 (i : Int), .bool ob]) (by simp [results, Tryz.results53, go_sem, *]) rfl (HQQ.out _ _ (by rw [HN.out]; exact ⟨⟨_, rfl, rfl⟩, (by repeat (first | (with_reducible exact hR5') | ((with_reducible refine RdR.setCell ?_ ?hq1 ?hq2 _); (case hq1 => (first | (simp; done) | (simp; omega) | omega)); (case hq2 => (first | (simp; done) | (simp; omega) | omega))) | (with_reducible refine RdR.alloc ?_ _) | (with_reducible refine RdR.drew ?_) | refine RdR.below ?_ (by assumption))), (by repeat (first | (with_reducible exact Gr.refl _ _ _) | (with_reducible assumption) | ((with_reducible refine Gr.setCell ?_ ?hq1 _); (case hq1 => (first | (right; rfl) | (left; (first | (simp; done) | (simp; omega) | omega))))) | ((with_reducible refine Gr.alloc ?_ ?hq1 _); (case hq1 => (first | (simp; done) | (simp; omega) | omega))) | (with_reducible refine Gr.drew ?_) | exact Gr.of_below (by assumption) | refine Gr.trans ?_ (by assumption) (by first | (simp; done) | (simp; omega) | omega) | refine Gr.below ?_ (by assumption) (by first | (simp; done) | (simp; omega) | omega)))⟩))
end Go.Proofs.YtnjlggleaocbdaaGreatDoor
