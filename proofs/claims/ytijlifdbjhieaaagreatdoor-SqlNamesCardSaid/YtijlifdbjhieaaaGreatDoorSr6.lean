/-
  Contracts of the reader's lists: many at items and at orders. (Printed by tools/mksr6.py.)
-/
import Derived.Test.YtijlifdbjhieaaaGreatDoorSr5
namespace Go.Proofs.YtijlifdbjhieaaaGreatDoor
set_option linter.all false
open Go.RowKit Go.Shelf
attribute [local go_sem] cell_set_self lt_1 lt_2 lt_3 lt_4 lt_5 lt_6 fld_k fld_s fld_n fld_p

def cellsI : List ItemT → List Value
  | [] => []
  | a :: l => [.string ⟨a.agg.toArray⟩, .string ⟨a.col.toArray⟩] ++ cellsI l
theorem cellsI_app (l : List ItemT) (a : ItemT) : cellsI (l ++ [a]) = cellsI l ++ [.string ⟨a.agg.toArray⟩, .string ⟨a.col.toArray⟩] := by
  induction l with
  | nil => simp [cellsI]
  | cons b l ih => rw [List.cons_append, cellsI, ih, cellsI, List.append_assoc]
theorem info_I : (Tryz.prog.info? 54).map (fun i => (i.zero, i.size, i.bytes)) = some (some (.agg #[.string ⟨#[]⟩, .string ⟨#[]⟩]), 2, 32) := by kernel_rfl
set_option maxHeartbeats 8000000 in
set_option maxRecDepth 100000 in
theorem manyI_any (rb gt : Nat) (r0 : List Tok) (w : World) (R0 : RdR w rb gt r0) (hE : EndsT r0) (hS : ShortT r0) (hN : r0.length ≤ 1000000) :
    Calls Tryz.prog 58 #[.pointer (some ⟨rb, 0, none⟩), .func (.func 59) #[.pointer (some ⟨rb, 0, none⟩)] #[], .func (.func 60) #[.pointer (some ⟨rb, 0, none⟩)] #[]] w
      (POut rb gt w (fun (l : List ItemT) W V => W.ownsRow w.heap.size 54 2 V l.length (cellsI l)) (manyF itemF isItem r0.length [] r0)) := by
  suffices key : ∀ Q : Ending → World → Prop, Hid (∀ e w', POut rb gt w (fun (l : List ItemT) W V => W.ownsRow w.heap.size 54 2 V l.length (cellsI l)) (manyF itemF isItem r0.length [] r0) e w' → Q e w') → Calls Tryz.prog 58 #[.pointer (some ⟨rb, 0, none⟩), .func (.func 59) #[.pointer (some ⟨rb, 0, none⟩)] #[], .func (.func 60) #[.pointer (some ⟨rb, 0, none⟩)] #[]] w Q from key _ (Lib.hid fun _ _ h => h)
  intro Q HQQ
  obtain ⟨X, hX⟩ : ∃ X, manyF itemF isItem r0.length [] r0 = X := ⟨_, rfl⟩
  rw [hX] at HQQ
  obtain ⟨i, hi, iz0, iz1, iz2⟩ := info_parts info_I
  have NA := Lib.hid (fun r hr hE hS W R' => item_any rb gt r hr hE hS W R')
  have NB := Lib.hid (fun t r hl W R' => isItem_any rb gt t r hl W R')
  have FL := Lib.hid (fun t r W R' => fail_any rb gt t r 9 W R')
  have MY := Lib.hid (fun r hr W R' => may_any rb gt [44] r hr W R')
  obtain ⟨hrb, hgt, hne⟩ := R0.lens
  have HX := Lib.hid hX
  have HI0 : Hid (EndsT r0 ∧ ShortT r0 ∧ RdR w rb gt r0) := Lib.hid ⟨hE, hS, R0⟩
  clear hX hE hS R0
  go_enter Tryz.func58, Tryz.ntmps58
  go_wp2
  go_loopw [7] (fun v wr => ∃ (V : Value) (out : List ItemT) (r : List Tok) (n : Nat), V = v ∧ lenV V = out.length ∧ out.length + r.length ≤ r0.length ∧ r.length ≤ n ∧ Hid (manyF itemF isItem n out r = X) ∧ Hid (EndsT r ∧ ShortT r ∧ RdR wr rb gt r) ∧ Hid (wr.ownsRow w.heap.size 54 2 V out.length (cellsI out)) ∧ Hid (Gr w.heap.size rb w wr)) (fun v _ => r0.length - lenV v)
  case atStart => exact ⟨_, [], r0, r0.length, rfl, rfl, by simp, Nat.le_refl _, HX, HI0, Lib.hid (World.ownsRow_nil _ _ _ _), Lib.hid (Gr.refl _ _ _)⟩
  case round =>
    obtain ⟨V, out, r, n, hV, hln, hor, hrn, HM, HI, HO, HG⟩ := hrel
    subst hV
    obtain ⟨wo, rfl⟩ : ∃ wo : World, wo = wr := ⟨_, rfl⟩
    have hso := HG.out.size
    obtain ⟨A, cA, hVA⟩ := own_form HO.out
    subst hVA
    have hne := HI.out.1.ne
    cases r with
    | nil => exact absurd rfl hne
    | cons t r1 =>
    clear hne
    have hts := HI.out.2.1 t (by simp)
    rw [List.length_cons] at hor
    have NB' := Lib.hid (fun W R' => NB.out t r1 hts W R')
    by_cases hst : out.length = 20 ∧ isItem t = true
    · have e20 : ((out.length : Int) == 20) = true := by rw [hst.1]; rfl
      have HE : Hid (X = .no t.p 9) := Lib.hid (by rw [← HM.out, many_stop hst])
      rw [hst.2] at NB'
      clear hst
      go_wp2_with (first | (go_at_call 59; (with_reducible refine (NB'.out _ HI.out.2.2).mono ?_); rintro e w3 ⟨rfl, hb3⟩; have hs3 := hb3.size) | (go_at_call 64; (with_reducible refine (FL.out t r1 _ (HI.out.2.2.below hb3)).mono ?_); rintro e w4 ⟨rfl, hb4⟩))
      exact ⟨rfl, HQQ.out _ _ (by rw [HE.out]; exact ⟨rfl, (by repeat (first | (with_reducible exact Gr.refl _ _ _) | (with_reducible assumption) | ((with_reducible refine Gr.setCell ?_ ?hq1 _); (case hq1 => (first | (right; rfl) | (left; (first | (simp; done) | (simp; omega) | omega))))) | ((with_reducible refine Gr.alloc ?_ ?hq1 _); (case hq1 => (first | (simp; done) | (simp; omega) | omega))) | (with_reducible refine Gr.drew ?_) | exact Gr.of_below (by assumption) | refine Gr.trans ?_ (by assumption) (by first | (simp; done) | (simp; omega) | omega) | refine Gr.below ?_ (by assumption) (by first | (simp; done) | (simp; omega) | omega)))⟩)⟩
    · by_cases h20 : out.length = 20
      · have e20 : ((out.length : Int) == 20) = true := by rw [h20]; rfl
        have hnb : isItem t = false := by
          cases h : isItem t with
          | false => rfl
          | true => exact absurd ⟨h20, h⟩ hst
        rw [hnb] at NB'
        clear hnb h20
        go_wp2_with (first | (go_at_call 59; (with_reducible refine (NB'.out _ HI.out.2.2).mono ?_); rintro e w3 ⟨rfl, hb3⟩; have hs3 := hb3.size))
        go_at_call 60
        refine (NA.out (t :: r1) (by simp) HI.out.1 HI.out.2.1 _ (HI.out.2.2.below hb3)).mono ?_
        rintro e w5 hP
        cases hp : itemF (t :: r1) with
        | no p er =>
          rw [hp] at hP
          obtain ⟨rfl, hg5⟩ := hP
          have HE : Hid (X = .no p er) := Lib.hid (by rw [← HM.out, many_step hst, hp]; rfl)
          clear hp
          go_wp2
          exact ⟨rfl, HQQ.out _ _ (by rw [HE.out]; exact ⟨rfl, (by repeat (first | (with_reducible exact Gr.refl _ _ _) | (with_reducible assumption) | ((with_reducible refine Gr.setCell ?_ ?hq1 _); (case hq1 => (first | (right; rfl) | (left; (first | (simp; done) | (simp; omega) | omega))))) | ((with_reducible refine Gr.alloc ?_ ?hq1 _); (case hq1 => (first | (simp; done) | (simp; omega) | omega))) | (with_reducible refine Gr.drew ?_) | exact Gr.of_below (by assumption) | refine Gr.trans ?_ (by assumption) (by first | (simp; done) | (simp; omega) | omega) | refine Gr.below ?_ (by assumption) (by first | (simp; done) | (simp; omega) | omega)))⟩)⟩
        | ok a r2 =>
          rw [hp] at hP
          obtain ⟨⟨V5, rfl, rfl⟩, hR5, hg5⟩ := hP
          have hT := item_takes _ _ _ hp
          have hs5 := hg5.size
          have HO5 := Lib.hid (own_gr (own_below HO.out hb3) hg5 hrb)
          have HG5 := Lib.hid (HG.out.trans (Gr.trans (B := wo.heap.size) (Gr.of_below hb3) hg5 (by omega)) hso)
          have HR5 := Lib.hid hR5
          have HI5 : Hid (EndsT r2 ∧ ShortT r2) := Lib.hid ⟨hT.2.1 HI.out.1, hT.2.2 HI.out.2.1⟩
          have hT1 := hT.1
          rw [List.length_cons] at hT1
          have hB5 : w.heap.size ≤ w5.heap.size := by omega
          have MY5 := Lib.hid (fun W R' => MY.out r2 HI5.out.1.ne W R')
          cases hm : mayF [44] r2 with
          | none =>
            have HE : Hid (X = .ok (out ++ [a]) r2) := Lib.hid (by rw [← HM.out, many_step hst, hp]; simp [PR.bind, hm])
            rw [(may_no hm).1, (may_no hm).2] at MY5
            clear hp hm hT
            go_wp2_with (first | (at_builtin; refine wpList_append_lies _ rfl _ _ _ rfl (w.heap.size) 54 i _ 2 32 Tryz.underlying22 hi iz0 iz1 iz2 rfl (by decide) (.slice A out.length cA) (out.length) _ rfl (HO5.out.alloc _) ⟨w5.heap.size, 0, none⟩ 1 1 [.string ⟨a.agg.toArray⟩, .string ⟨a.col.toArray⟩] rfl rfl (World.news_of_block (cs := #[.string ⟨a.agg.toArray⟩, .string ⟨a.col.toArray⟩]) (t := 54) (fr := (0, 0)) (heap_alloc_new w5 _)) (by simp [Value.oneCell']) (by omega) (by unfold maxLen; omega) (by omega) (by simp; omega) (w5.heap.size + 1) (by simp) ?_; intro gg cap w1' hown1 hgrow hat hlt') | (go_at_call 62; (with_reducible refine (MY5.out _ (rd_push HR5.out hgrow (fun b hb => (HO5.out.lt b hb).1) hrb hgt)).mono ?_); rintro e w6 ⟨rfl, hR6, hg6⟩; have hs6 := hg6.size; have hsg := hgrow.size; (try simp at hsg)))
            refine HQQ.out _ _ ?_
            rw [HE.out]
            exact ⟨⟨_, rfl, (show World.ownsRow w6 w.heap.size 54 2 (.slice (some ⟨gg, 0, none⟩) (out.length + 1) cap) (out ++ [a]).length (cellsI (out ++ [a])) from by rw [cellsI_app, List.length_append]; exact own_gr hown1 hg6 hrb)⟩, hR6, (gr_push HG5.out hB5 hgrow fun b hb => (HO5.out.lt b hb).1).trans hg6 (by omega)⟩
          | some r3 =>
            have hml := may_len hm
            obtain ⟨n', rfl⟩ : ∃ n', n = n' + 1 := ⟨n - 1, by rw [List.length_cons] at hrn; omega⟩
            have HM2 : Hid (manyF itemF isItem n' (out ++ [a]) r3 = X) := Lib.hid (by rw [← HM.out, many_step hst, hp]; simp [PR.bind, hm])
            have HI6 : Hid (EndsT r3 ∧ ShortT r3) := Lib.hid ⟨may_ends hm HI5.out.1, hml.2 HI5.out.2⟩
            rw [(may_yes hm).1, (may_yes hm).2] at MY5
            have hml1 := hml.1
            rw [List.length_cons] at hrn
            clear hp hm hT hml
            go_wp2_with (first | (at_builtin; refine wpList_append_lies _ rfl _ _ _ rfl (w.heap.size) 54 i _ 2 32 Tryz.underlying22 hi iz0 iz1 iz2 rfl (by decide) (.slice A out.length cA) (out.length) _ rfl (HO5.out.alloc _) ⟨w5.heap.size, 0, none⟩ 1 1 [.string ⟨a.agg.toArray⟩, .string ⟨a.col.toArray⟩] rfl rfl (World.news_of_block (cs := #[.string ⟨a.agg.toArray⟩, .string ⟨a.col.toArray⟩]) (t := 54) (fr := (0, 0)) (heap_alloc_new w5 _)) (by simp [Value.oneCell']) (by omega) (by unfold maxLen; omega) (by omega) (by simp; omega) (w5.heap.size + 1) (by simp) ?_; intro gg cap w1' hown1 hgrow hat hlt') | (go_at_call 62; (with_reducible refine (MY5.out _ (rd_push HR5.out hgrow (fun b hb => (HO5.out.lt b hb).1) hrb hgt)).mono ?_); rintro e w6 ⟨rfl, hR6, hg6⟩; have hs6 := hg6.size; have hsg := hgrow.size; (try simp at hsg)))
            go_roundw
            case rel => exact ⟨_, out ++ [a], r3, n', rfl, by simp [lenV], by simp; omega, by omega, HM2, Lib.hid ⟨HI6.out.1, HI6.out.2, hR6⟩, Lib.hid (by rw [cellsI_app, List.length_append]; exact own_gr hown1 hg6 hrb), Lib.hid ((gr_push HG5.out hB5 hgrow fun b hb => (HO5.out.lt b hb).1).trans hg6 (by omega))⟩
            case measure => first | (simp [lenV]; done) | (simp [lenV]; omega)
      · have e20 : ((out.length : Int) == 20) = false := by rw [beq_eq_false_iff_ne]; omega
        clear h20
        go_wp2_with (fail)
        go_at_call 60
        refine (NA.out (t :: r1) (by simp) HI.out.1 HI.out.2.1 _ HI.out.2.2).mono ?_
        rintro e w5 hP
        cases hp : itemF (t :: r1) with
        | no p er =>
          rw [hp] at hP
          obtain ⟨rfl, hg5⟩ := hP
          have HE : Hid (X = .no p er) := Lib.hid (by rw [← HM.out, many_step hst, hp]; rfl)
          clear hp
          go_wp2
          exact ⟨rfl, HQQ.out _ _ (by rw [HE.out]; exact ⟨rfl, (by repeat (first | (with_reducible exact Gr.refl _ _ _) | (with_reducible assumption) | ((with_reducible refine Gr.setCell ?_ ?hq1 _); (case hq1 => (first | (right; rfl) | (left; (first | (simp; done) | (simp; omega) | omega))))) | ((with_reducible refine Gr.alloc ?_ ?hq1 _); (case hq1 => (first | (simp; done) | (simp; omega) | omega))) | (with_reducible refine Gr.drew ?_) | exact Gr.of_below (by assumption) | refine Gr.trans ?_ (by assumption) (by first | (simp; done) | (simp; omega) | omega) | refine Gr.below ?_ (by assumption) (by first | (simp; done) | (simp; omega) | omega)))⟩)⟩
        | ok a r2 =>
          rw [hp] at hP
          obtain ⟨⟨V5, rfl, rfl⟩, hR5, hg5⟩ := hP
          have hT := item_takes _ _ _ hp
          have hs5 := hg5.size
          have HO5 := Lib.hid (own_gr (HO.out) hg5 hrb)
          have HG5 := Lib.hid (HG.out.trans (hg5) hso)
          have HR5 := Lib.hid hR5
          have HI5 : Hid (EndsT r2 ∧ ShortT r2) := Lib.hid ⟨hT.2.1 HI.out.1, hT.2.2 HI.out.2.1⟩
          have hT1 := hT.1
          rw [List.length_cons] at hT1
          have hB5 : w.heap.size ≤ w5.heap.size := by omega
          have MY5 := Lib.hid (fun W R' => MY.out r2 HI5.out.1.ne W R')
          cases hm : mayF [44] r2 with
          | none =>
            have HE : Hid (X = .ok (out ++ [a]) r2) := Lib.hid (by rw [← HM.out, many_step hst, hp]; simp [PR.bind, hm])
            rw [(may_no hm).1, (may_no hm).2] at MY5
            clear hp hm hT
            go_wp2_with (first | (at_builtin; refine wpList_append_lies _ rfl _ _ _ rfl (w.heap.size) 54 i _ 2 32 Tryz.underlying22 hi iz0 iz1 iz2 rfl (by decide) (.slice A out.length cA) (out.length) _ rfl (HO5.out.alloc _) ⟨w5.heap.size, 0, none⟩ 1 1 [.string ⟨a.agg.toArray⟩, .string ⟨a.col.toArray⟩] rfl rfl (World.news_of_block (cs := #[.string ⟨a.agg.toArray⟩, .string ⟨a.col.toArray⟩]) (t := 54) (fr := (0, 0)) (heap_alloc_new w5 _)) (by simp [Value.oneCell']) (by omega) (by unfold maxLen; omega) (by omega) (by simp; omega) (w5.heap.size + 1) (by simp) ?_; intro gg cap w1' hown1 hgrow hat hlt') | (go_at_call 62; (with_reducible refine (MY5.out _ (rd_push HR5.out hgrow (fun b hb => (HO5.out.lt b hb).1) hrb hgt)).mono ?_); rintro e w6 ⟨rfl, hR6, hg6⟩; have hs6 := hg6.size; have hsg := hgrow.size; (try simp at hsg)))
            refine HQQ.out _ _ ?_
            rw [HE.out]
            exact ⟨⟨_, rfl, (show World.ownsRow w6 w.heap.size 54 2 (.slice (some ⟨gg, 0, none⟩) (out.length + 1) cap) (out ++ [a]).length (cellsI (out ++ [a])) from by rw [cellsI_app, List.length_append]; exact own_gr hown1 hg6 hrb)⟩, hR6, (gr_push HG5.out hB5 hgrow fun b hb => (HO5.out.lt b hb).1).trans hg6 (by omega)⟩
          | some r3 =>
            have hml := may_len hm
            obtain ⟨n', rfl⟩ : ∃ n', n = n' + 1 := ⟨n - 1, by rw [List.length_cons] at hrn; omega⟩
            have HM2 : Hid (manyF itemF isItem n' (out ++ [a]) r3 = X) := Lib.hid (by rw [← HM.out, many_step hst, hp]; simp [PR.bind, hm])
            have HI6 : Hid (EndsT r3 ∧ ShortT r3) := Lib.hid ⟨may_ends hm HI5.out.1, hml.2 HI5.out.2⟩
            rw [(may_yes hm).1, (may_yes hm).2] at MY5
            have hml1 := hml.1
            rw [List.length_cons] at hrn
            clear hp hm hT hml
            go_wp2_with (first | (at_builtin; refine wpList_append_lies _ rfl _ _ _ rfl (w.heap.size) 54 i _ 2 32 Tryz.underlying22 hi iz0 iz1 iz2 rfl (by decide) (.slice A out.length cA) (out.length) _ rfl (HO5.out.alloc _) ⟨w5.heap.size, 0, none⟩ 1 1 [.string ⟨a.agg.toArray⟩, .string ⟨a.col.toArray⟩] rfl rfl (World.news_of_block (cs := #[.string ⟨a.agg.toArray⟩, .string ⟨a.col.toArray⟩]) (t := 54) (fr := (0, 0)) (heap_alloc_new w5 _)) (by simp [Value.oneCell']) (by omega) (by unfold maxLen; omega) (by omega) (by simp; omega) (w5.heap.size + 1) (by simp) ?_; intro gg cap w1' hown1 hgrow hat hlt') | (go_at_call 62; (with_reducible refine (MY5.out _ (rd_push HR5.out hgrow (fun b hb => (HO5.out.lt b hb).1) hrb hgt)).mono ?_); rintro e w6 ⟨rfl, hR6, hg6⟩; have hs6 := hg6.size; have hsg := hgrow.size; (try simp at hsg)))
            go_roundw
            case rel => exact ⟨_, out ++ [a], r3, n', rfl, by simp [lenV], by simp; omega, by omega, HM2, Lib.hid ⟨HI6.out.1, HI6.out.2, hR6⟩, Lib.hid (by rw [cellsI_app, List.length_append]; exact own_gr hown1 hg6 hrb), Lib.hid ((gr_push HG5.out hB5 hgrow fun b hb => (HO5.out.lt b hb).1).trans hg6 (by omega))⟩
            case measure => first | (simp [lenV]; done) | (simp [lenV]; omega)
def cellsO : List OrderT → List Value
  | [] => []
  | a :: l => [.string ⟨a.col.toArray⟩, .bool a.desc] ++ cellsO l
theorem cellsO_app (l : List OrderT) (a : OrderT) : cellsO (l ++ [a]) = cellsO l ++ [.string ⟨a.col.toArray⟩, .bool a.desc] := by
  induction l with
  | nil => simp [cellsO]
  | cons b l ih => rw [List.cons_append, cellsO, ih, cellsO, List.append_assoc]
theorem info_O : (Tryz.prog.info? 68).map (fun i => (i.zero, i.size, i.bytes)) = some (some (.agg #[.string ⟨#[]⟩, .bool false]), 2, 24) := by kernel_rfl
set_option maxHeartbeats 8000000 in
set_option maxRecDepth 100000 in
theorem manyO_any (rb gt : Nat) (r0 : List Tok) (w : World) (R0 : RdR w rb gt r0) (hE : EndsT r0) (hS : ShortT r0) (hN : r0.length ≤ 1000000) :
    Calls Tryz.prog 67 #[.pointer (some ⟨rb, 0, none⟩), .func (.func 66) #[.pointer (some ⟨rb, 0, none⟩)] #[], .func (.func 68) #[.pointer (some ⟨rb, 0, none⟩)] #[]] w
      (POut rb gt w (fun (l : List OrderT) W V => W.ownsRow w.heap.size 68 2 V l.length (cellsO l)) (manyF orderF isNm r0.length [] r0)) := by
  suffices key : ∀ Q : Ending → World → Prop, Hid (∀ e w', POut rb gt w (fun (l : List OrderT) W V => W.ownsRow w.heap.size 68 2 V l.length (cellsO l)) (manyF orderF isNm r0.length [] r0) e w' → Q e w') → Calls Tryz.prog 67 #[.pointer (some ⟨rb, 0, none⟩), .func (.func 66) #[.pointer (some ⟨rb, 0, none⟩)] #[], .func (.func 68) #[.pointer (some ⟨rb, 0, none⟩)] #[]] w Q from key _ (Lib.hid fun _ _ h => h)
  intro Q HQQ
  obtain ⟨X, hX⟩ : ∃ X, manyF orderF isNm r0.length [] r0 = X := ⟨_, rfl⟩
  rw [hX] at HQQ
  obtain ⟨i, hi, iz0, iz1, iz2⟩ := info_parts info_O
  have NA := Lib.hid (fun r hr hE hS W R' => order_any rb gt r hr hE hS W R')
  have NB := Lib.hid (fun t r hl W R' => isNm_any rb gt t r hl W R')
  have FL := Lib.hid (fun t r W R' => fail_any rb gt t r 9 W R')
  have MY := Lib.hid (fun r hr W R' => may_any rb gt [44] r hr W R')
  obtain ⟨hrb, hgt, hne⟩ := R0.lens
  have HX := Lib.hid hX
  have HI0 : Hid (EndsT r0 ∧ ShortT r0 ∧ RdR w rb gt r0) := Lib.hid ⟨hE, hS, R0⟩
  clear hX hE hS R0
  go_enter Tryz.func67, Tryz.ntmps67
  go_wp2
  go_loopw [7] (fun v wr => ∃ (V : Value) (out : List OrderT) (r : List Tok) (n : Nat), V = v ∧ lenV V = out.length ∧ out.length + r.length ≤ r0.length ∧ r.length ≤ n ∧ Hid (manyF orderF isNm n out r = X) ∧ Hid (EndsT r ∧ ShortT r ∧ RdR wr rb gt r) ∧ Hid (wr.ownsRow w.heap.size 68 2 V out.length (cellsO out)) ∧ Hid (Gr w.heap.size rb w wr)) (fun v _ => r0.length - lenV v)
  case atStart => exact ⟨_, [], r0, r0.length, rfl, rfl, by simp, Nat.le_refl _, HX, HI0, Lib.hid (World.ownsRow_nil _ _ _ _), Lib.hid (Gr.refl _ _ _)⟩
  case round =>
    obtain ⟨V, out, r, n, hV, hln, hor, hrn, HM, HI, HO, HG⟩ := hrel
    subst hV
    obtain ⟨wo, rfl⟩ : ∃ wo : World, wo = wr := ⟨_, rfl⟩
    have hso := HG.out.size
    obtain ⟨A, cA, hVA⟩ := own_form HO.out
    subst hVA
    have hne := HI.out.1.ne
    cases r with
    | nil => exact absurd rfl hne
    | cons t r1 =>
    clear hne
    have hts := HI.out.2.1 t (by simp)
    rw [List.length_cons] at hor
    have NB' := Lib.hid (fun W R' => NB.out t r1 hts W R')
    by_cases hst : out.length = 20 ∧ isNm t = true
    · have e20 : ((out.length : Int) == 20) = true := by rw [hst.1]; rfl
      have HE : Hid (X = .no t.p 9) := Lib.hid (by rw [← HM.out, many_stop hst])
      rw [hst.2] at NB'
      clear hst
      go_wp2_with (first | (go_at_call 66; (with_reducible refine (NB'.out _ HI.out.2.2).mono ?_); rintro e w3 ⟨rfl, hb3⟩; have hs3 := hb3.size) | (go_at_call 64; (with_reducible refine (FL.out t r1 _ (HI.out.2.2.below hb3)).mono ?_); rintro e w4 ⟨rfl, hb4⟩))
      exact ⟨rfl, HQQ.out _ _ (by rw [HE.out]; exact ⟨rfl, (by repeat (first | (with_reducible exact Gr.refl _ _ _) | (with_reducible assumption) | ((with_reducible refine Gr.setCell ?_ ?hq1 _); (case hq1 => (first | (right; rfl) | (left; (first | (simp; done) | (simp; omega) | omega))))) | ((with_reducible refine Gr.alloc ?_ ?hq1 _); (case hq1 => (first | (simp; done) | (simp; omega) | omega))) | (with_reducible refine Gr.drew ?_) | exact Gr.of_below (by assumption) | refine Gr.trans ?_ (by assumption) (by first | (simp; done) | (simp; omega) | omega) | refine Gr.below ?_ (by assumption) (by first | (simp; done) | (simp; omega) | omega)))⟩)⟩
    · by_cases h20 : out.length = 20
      · have e20 : ((out.length : Int) == 20) = true := by rw [h20]; rfl
        have hnb : isNm t = false := by
          cases h : isNm t with
          | false => rfl
          | true => exact absurd ⟨h20, h⟩ hst
        rw [hnb] at NB'
        clear hnb h20
        go_wp2_with (first | (go_at_call 66; (with_reducible refine (NB'.out _ HI.out.2.2).mono ?_); rintro e w3 ⟨rfl, hb3⟩; have hs3 := hb3.size))
        go_at_call 68
        refine (NA.out (t :: r1) (by simp) HI.out.1 HI.out.2.1 _ (HI.out.2.2.below hb3)).mono ?_
        rintro e w5 hP
        cases hp : orderF (t :: r1) with
        | no p er =>
          rw [hp] at hP
          obtain ⟨rfl, hg5⟩ := hP
          have HE : Hid (X = .no p er) := Lib.hid (by rw [← HM.out, many_step hst, hp]; rfl)
          clear hp
          go_wp2
          exact ⟨rfl, HQQ.out _ _ (by rw [HE.out]; exact ⟨rfl, (by repeat (first | (with_reducible exact Gr.refl _ _ _) | (with_reducible assumption) | ((with_reducible refine Gr.setCell ?_ ?hq1 _); (case hq1 => (first | (right; rfl) | (left; (first | (simp; done) | (simp; omega) | omega))))) | ((with_reducible refine Gr.alloc ?_ ?hq1 _); (case hq1 => (first | (simp; done) | (simp; omega) | omega))) | (with_reducible refine Gr.drew ?_) | exact Gr.of_below (by assumption) | refine Gr.trans ?_ (by assumption) (by first | (simp; done) | (simp; omega) | omega) | refine Gr.below ?_ (by assumption) (by first | (simp; done) | (simp; omega) | omega)))⟩)⟩
        | ok a r2 =>
          rw [hp] at hP
          obtain ⟨⟨V5, rfl, rfl⟩, hR5, hg5⟩ := hP
          have hT := order_takes _ _ _ hp
          have hs5 := hg5.size
          have HO5 := Lib.hid (own_gr (own_below HO.out hb3) hg5 hrb)
          have HG5 := Lib.hid (HG.out.trans (Gr.trans (B := wo.heap.size) (Gr.of_below hb3) hg5 (by omega)) hso)
          have HR5 := Lib.hid hR5
          have HI5 : Hid (EndsT r2 ∧ ShortT r2) := Lib.hid ⟨hT.2.1 HI.out.1, hT.2.2 HI.out.2.1⟩
          have hT1 := hT.1
          rw [List.length_cons] at hT1
          have hB5 : w.heap.size ≤ w5.heap.size := by omega
          have MY5 := Lib.hid (fun W R' => MY.out r2 HI5.out.1.ne W R')
          cases hm : mayF [44] r2 with
          | none =>
            have HE : Hid (X = .ok (out ++ [a]) r2) := Lib.hid (by rw [← HM.out, many_step hst, hp]; simp [PR.bind, hm])
            rw [(may_no hm).1, (may_no hm).2] at MY5
            clear hp hm hT
            go_wp2_with (first | (at_builtin; refine wpList_append_lies _ rfl _ _ _ rfl (w.heap.size) 68 i _ 2 24 Tryz.underlying29 hi iz0 iz1 iz2 rfl (by decide) (.slice A out.length cA) (out.length) _ rfl (HO5.out.alloc _) ⟨w5.heap.size, 0, none⟩ 1 1 [.string ⟨a.col.toArray⟩, .bool a.desc] rfl rfl (World.news_of_block (cs := #[.string ⟨a.col.toArray⟩, .bool a.desc]) (t := 68) (fr := (0, 0)) (heap_alloc_new w5 _)) (by simp [Value.oneCell']) (by omega) (by unfold maxLen; omega) (by omega) (by simp; omega) (w5.heap.size + 1) (by simp) ?_; intro gg cap w1' hown1 hgrow hat hlt') | (go_at_call 62; (with_reducible refine (MY5.out _ (rd_push HR5.out hgrow (fun b hb => (HO5.out.lt b hb).1) hrb hgt)).mono ?_); rintro e w6 ⟨rfl, hR6, hg6⟩; have hs6 := hg6.size; have hsg := hgrow.size; (try simp at hsg)))
            refine HQQ.out _ _ ?_
            rw [HE.out]
            exact ⟨⟨_, rfl, (show World.ownsRow w6 w.heap.size 68 2 (.slice (some ⟨gg, 0, none⟩) (out.length + 1) cap) (out ++ [a]).length (cellsO (out ++ [a])) from by rw [cellsO_app, List.length_append]; exact own_gr hown1 hg6 hrb)⟩, hR6, (gr_push HG5.out hB5 hgrow fun b hb => (HO5.out.lt b hb).1).trans hg6 (by omega)⟩
          | some r3 =>
            have hml := may_len hm
            obtain ⟨n', rfl⟩ : ∃ n', n = n' + 1 := ⟨n - 1, by rw [List.length_cons] at hrn; omega⟩
            have HM2 : Hid (manyF orderF isNm n' (out ++ [a]) r3 = X) := Lib.hid (by rw [← HM.out, many_step hst, hp]; simp [PR.bind, hm])
            have HI6 : Hid (EndsT r3 ∧ ShortT r3) := Lib.hid ⟨may_ends hm HI5.out.1, hml.2 HI5.out.2⟩
            rw [(may_yes hm).1, (may_yes hm).2] at MY5
            have hml1 := hml.1
            rw [List.length_cons] at hrn
            clear hp hm hT hml
            go_wp2_with (first | (at_builtin; refine wpList_append_lies _ rfl _ _ _ rfl (w.heap.size) 68 i _ 2 24 Tryz.underlying29 hi iz0 iz1 iz2 rfl (by decide) (.slice A out.length cA) (out.length) _ rfl (HO5.out.alloc _) ⟨w5.heap.size, 0, none⟩ 1 1 [.string ⟨a.col.toArray⟩, .bool a.desc] rfl rfl (World.news_of_block (cs := #[.string ⟨a.col.toArray⟩, .bool a.desc]) (t := 68) (fr := (0, 0)) (heap_alloc_new w5 _)) (by simp [Value.oneCell']) (by omega) (by unfold maxLen; omega) (by omega) (by simp; omega) (w5.heap.size + 1) (by simp) ?_; intro gg cap w1' hown1 hgrow hat hlt') | (go_at_call 62; (with_reducible refine (MY5.out _ (rd_push HR5.out hgrow (fun b hb => (HO5.out.lt b hb).1) hrb hgt)).mono ?_); rintro e w6 ⟨rfl, hR6, hg6⟩; have hs6 := hg6.size; have hsg := hgrow.size; (try simp at hsg)))
            go_roundw
            case rel => exact ⟨_, out ++ [a], r3, n', rfl, by simp [lenV], by simp; omega, by omega, HM2, Lib.hid ⟨HI6.out.1, HI6.out.2, hR6⟩, Lib.hid (by rw [cellsO_app, List.length_append]; exact own_gr hown1 hg6 hrb), Lib.hid ((gr_push HG5.out hB5 hgrow fun b hb => (HO5.out.lt b hb).1).trans hg6 (by omega))⟩
            case measure => first | (simp [lenV]; done) | (simp [lenV]; omega)
      · have e20 : ((out.length : Int) == 20) = false := by rw [beq_eq_false_iff_ne]; omega
        clear h20
        go_wp2_with (fail)
        go_at_call 68
        refine (NA.out (t :: r1) (by simp) HI.out.1 HI.out.2.1 _ HI.out.2.2).mono ?_
        rintro e w5 hP
        cases hp : orderF (t :: r1) with
        | no p er =>
          rw [hp] at hP
          obtain ⟨rfl, hg5⟩ := hP
          have HE : Hid (X = .no p er) := Lib.hid (by rw [← HM.out, many_step hst, hp]; rfl)
          clear hp
          go_wp2
          exact ⟨rfl, HQQ.out _ _ (by rw [HE.out]; exact ⟨rfl, (by repeat (first | (with_reducible exact Gr.refl _ _ _) | (with_reducible assumption) | ((with_reducible refine Gr.setCell ?_ ?hq1 _); (case hq1 => (first | (right; rfl) | (left; (first | (simp; done) | (simp; omega) | omega))))) | ((with_reducible refine Gr.alloc ?_ ?hq1 _); (case hq1 => (first | (simp; done) | (simp; omega) | omega))) | (with_reducible refine Gr.drew ?_) | exact Gr.of_below (by assumption) | refine Gr.trans ?_ (by assumption) (by first | (simp; done) | (simp; omega) | omega) | refine Gr.below ?_ (by assumption) (by first | (simp; done) | (simp; omega) | omega)))⟩)⟩
        | ok a r2 =>
          rw [hp] at hP
          obtain ⟨⟨V5, rfl, rfl⟩, hR5, hg5⟩ := hP
          have hT := order_takes _ _ _ hp
          have hs5 := hg5.size
          have HO5 := Lib.hid (own_gr (HO.out) hg5 hrb)
          have HG5 := Lib.hid (HG.out.trans (hg5) hso)
          have HR5 := Lib.hid hR5
          have HI5 : Hid (EndsT r2 ∧ ShortT r2) := Lib.hid ⟨hT.2.1 HI.out.1, hT.2.2 HI.out.2.1⟩
          have hT1 := hT.1
          rw [List.length_cons] at hT1
          have hB5 : w.heap.size ≤ w5.heap.size := by omega
          have MY5 := Lib.hid (fun W R' => MY.out r2 HI5.out.1.ne W R')
          cases hm : mayF [44] r2 with
          | none =>
            have HE : Hid (X = .ok (out ++ [a]) r2) := Lib.hid (by rw [← HM.out, many_step hst, hp]; simp [PR.bind, hm])
            rw [(may_no hm).1, (may_no hm).2] at MY5
            clear hp hm hT
            go_wp2_with (first | (at_builtin; refine wpList_append_lies _ rfl _ _ _ rfl (w.heap.size) 68 i _ 2 24 Tryz.underlying29 hi iz0 iz1 iz2 rfl (by decide) (.slice A out.length cA) (out.length) _ rfl (HO5.out.alloc _) ⟨w5.heap.size, 0, none⟩ 1 1 [.string ⟨a.col.toArray⟩, .bool a.desc] rfl rfl (World.news_of_block (cs := #[.string ⟨a.col.toArray⟩, .bool a.desc]) (t := 68) (fr := (0, 0)) (heap_alloc_new w5 _)) (by simp [Value.oneCell']) (by omega) (by unfold maxLen; omega) (by omega) (by simp; omega) (w5.heap.size + 1) (by simp) ?_; intro gg cap w1' hown1 hgrow hat hlt') | (go_at_call 62; (with_reducible refine (MY5.out _ (rd_push HR5.out hgrow (fun b hb => (HO5.out.lt b hb).1) hrb hgt)).mono ?_); rintro e w6 ⟨rfl, hR6, hg6⟩; have hs6 := hg6.size; have hsg := hgrow.size; (try simp at hsg)))
            refine HQQ.out _ _ ?_
            rw [HE.out]
            exact ⟨⟨_, rfl, (show World.ownsRow w6 w.heap.size 68 2 (.slice (some ⟨gg, 0, none⟩) (out.length + 1) cap) (out ++ [a]).length (cellsO (out ++ [a])) from by rw [cellsO_app, List.length_append]; exact own_gr hown1 hg6 hrb)⟩, hR6, (gr_push HG5.out hB5 hgrow fun b hb => (HO5.out.lt b hb).1).trans hg6 (by omega)⟩
          | some r3 =>
            have hml := may_len hm
            obtain ⟨n', rfl⟩ : ∃ n', n = n' + 1 := ⟨n - 1, by rw [List.length_cons] at hrn; omega⟩
            have HM2 : Hid (manyF orderF isNm n' (out ++ [a]) r3 = X) := Lib.hid (by rw [← HM.out, many_step hst, hp]; simp [PR.bind, hm])
            have HI6 : Hid (EndsT r3 ∧ ShortT r3) := Lib.hid ⟨may_ends hm HI5.out.1, hml.2 HI5.out.2⟩
            rw [(may_yes hm).1, (may_yes hm).2] at MY5
            have hml1 := hml.1
            rw [List.length_cons] at hrn
            clear hp hm hT hml
            go_wp2_with (first | (at_builtin; refine wpList_append_lies _ rfl _ _ _ rfl (w.heap.size) 68 i _ 2 24 Tryz.underlying29 hi iz0 iz1 iz2 rfl (by decide) (.slice A out.length cA) (out.length) _ rfl (HO5.out.alloc _) ⟨w5.heap.size, 0, none⟩ 1 1 [.string ⟨a.col.toArray⟩, .bool a.desc] rfl rfl (World.news_of_block (cs := #[.string ⟨a.col.toArray⟩, .bool a.desc]) (t := 68) (fr := (0, 0)) (heap_alloc_new w5 _)) (by simp [Value.oneCell']) (by omega) (by unfold maxLen; omega) (by omega) (by simp; omega) (w5.heap.size + 1) (by simp) ?_; intro gg cap w1' hown1 hgrow hat hlt') | (go_at_call 62; (with_reducible refine (MY5.out _ (rd_push HR5.out hgrow (fun b hb => (HO5.out.lt b hb).1) hrb hgt)).mono ?_); rintro e w6 ⟨rfl, hR6, hg6⟩; have hs6 := hg6.size; have hsg := hgrow.size; (try simp at hsg)))
            go_roundw
            case rel => exact ⟨_, out ++ [a], r3, n', rfl, by simp [lenV], by simp; omega, by omega, HM2, Lib.hid ⟨HI6.out.1, HI6.out.2, hR6⟩, Lib.hid (by rw [cellsO_app, List.length_append]; exact own_gr hown1 hg6 hrb), Lib.hid ((gr_push HG5.out hB5 hgrow fun b hb => (HO5.out.lt b hb).1).trans hg6 (by omega))⟩
            case measure => first | (simp [lenV]; done) | (simp [lenV]; omega)
end Go.Proofs.YtijlifdbjhieaaaGreatDoor
