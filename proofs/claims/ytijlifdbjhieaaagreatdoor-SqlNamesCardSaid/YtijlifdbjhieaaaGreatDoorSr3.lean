/-
  Contracts of the reader's lists: many at names.
-/
import Derived.Test.YtijlifdbjhieaaaGreatDoorSr2
namespace Go.Proofs.YtijlifdbjhieaaaGreatDoor
set_option linter.all false
open Go.RowKit Go.Shelf
attribute [local go_sem] cell_set_self lt_1 lt_2 lt_3 lt_4 lt_5 lt_6 fld_k fld_s fld_n fld_p

/-- How a reading ends: what was read, the reader behind it; or given up. -/
def POut {α : Type} (rb gt : Nat) (w : World) (enc : α → World → Value → Prop) (x : PR α) (e : Ending) (w' : World) : Prop := match x with
  | .ok a r => (∃ V, e = .returned V ∧ enc a w' V) ∧ RdR w' rb gt r ∧ Gr w.heap.size rb w w'
  | .no p er => e = .panicked (fltP p er) ∧ Gr w.heap.size rb w w'
def lenV : Value → Nat
  | .slice _ n _ => n
  | _ => 0
/-- Readings that take tokens from the front. -/
def Takes {α : Type} (f : List Tok → PR α) : Prop := ∀ ts a r, f ts = .ok a r → r.length ≤ ts.length ∧ (EndsT ts → EndsT r) ∧ (ShortT ts → ShortT r)
theorem may_len {s : List UInt8} {r r' : List Tok} (h : mayF s r = some r') : r'.length + 1 = r.length ∧ (ShortT r → ShortT r') := by
  cases r with
  | nil => cases h
  | cons t l =>
    unfold mayF at h
    simp only at h
    split at h
    · injection h with h; subst h; exact ⟨rfl, fun h => h.tail⟩
    · cases h
theorem nm_takes : Takes nmF := fun ts a r h => by
  cases ts with
  | nil => cases h
  | cons t l =>
    unfold nmF at h
    simp only at h
    split at h
    · rename_i h2
      injection h with h1 h3
      subst h3
      exact ⟨by simp, fun hE => ends_step h2 hE, fun h => h.tail⟩
    · cases h
theorem name_any (rb gt : Nat) (t : Tok) (r : List Tok) (hl : t.s.length ≤ 1000000000) (w : World) (R : RdR w rb gt (t :: r)) :
    Calls Tryz.prog 61 #[.pointer (some ⟨rb, 0, none⟩)] w (POut rb gt w (fun (s : List UInt8) _ V => V = .string ⟨s.toArray⟩) (nmF (t :: r))) := by
  cases h : isNm t with
  | true =>
    rw [show nmF (t :: r) = .ok t.s r by unfold nmF; simp [h]]
    exact (nm_yes rb gt t r hl h w R).mono fun e w' ⟨h1, h2, h3⟩ => ⟨⟨_, h1, rfl⟩, h2, h3⟩
  | false =>
    rw [show nmF (t :: r) = .no t.p 11 by unfold nmF; simp [h]]
    exact nm_no rb gt t r hl h w R
theorem many_step {α : Type} {part : List Tok → PR α} {beg : Tok → Bool} {n : Nat} {out : List α} {t : Tok} {r : List Tok} (h : ¬ (out.length = 20 ∧ beg t = true)) :
    manyF part beg n out (t :: r) = (part (t :: r)).bind fun a r => match mayF [44] r with
      | none => .ok (out ++ [a]) r
      | some r' => match n with
        | 0 => .no 0 0
        | n + 1 => manyF part beg n (out ++ [a]) r' := by
  rw [manyF.eq_def]; simp only; rw [if_neg h]; rfl
theorem many_stop {α : Type} {part : List Tok → PR α} {beg : Tok → Bool} {n : Nat} {out : List α} {t : Tok} {r : List Tok} (h : out.length = 20 ∧ beg t = true) : manyF part beg n out (t :: r) = .no t.p 9 := by
  rw [manyF.eq_def]; simp only; rw [if_pos h]
def cellsN (l : List (List UInt8)) : List Value := l.map fun s => .string ⟨s.toArray⟩
theorem info_str : (Tryz.prog.info? 9).map (fun i => (i.zero, i.size, i.bytes)) = some (some (.string ⟨#[]⟩), 1, 16) := by kernel_rfl
theorem cellsN_app (l : List (List UInt8)) (s : List UInt8) : cellsN (l ++ [s]) = cellsN l ++ [.string ⟨s.toArray⟩] := by simp [cellsN]
theorem gr_push {rb : Nat} {a wr w1 : World} {B : Nat} {o : Obj} {row : Option Nat} (h : Gr B rb a wr) (hB : B ≤ wr.heap.size) (hg : (wr.alloc o).grownBy w1 row) (hr : ∀ k, row = some k → B ≤ k) : Gr B rb a w1 :=
  h.below (below_push (Below.refl B wr) hB hg hr) (Nat.le_refl _)
theorem rd_push {rb gt : Nat} {wr w1 : World} {r : List Tok} {B : Nat} {o : Obj} {row : Option Nat} (h : RdR wr rb gt r) (hg : (wr.alloc o).grownBy w1 row) (hr : ∀ k, row = some k → B ≤ k) (h1 : rb < B) (h2 : gt < B) : RdR w1 rb gt r := by
  obtain ⟨l1, l2, l3⟩ := h.lens
  have hs := hg.size
  simp at hs
  have e := (Below.refl wr.heap.size wr).alloc (Nat.le_refl _) o
  refine h.block ?_ ?_ (by omega)
  · rw [hg.block _ (by simp; omega) (fun e => by have := hr _ e.symm; omega)]; exact e.block _ l1
  · rw [hg.block _ (by simp; omega) (fun e => by have := hr _ e.symm; omega)]; exact e.block _ l2
theorem own_gr {W W' : World} {rb base size n : Nat} {e : TypeId} {v : Value} {xs : List Value} (h : W.ownsRow base e size v n xs) (hg : Gr W.heap.size rb W W') (hb : rb < base) : W'.ownsRow base e size v n xs := by
  rcases h.2 with h2 | ⟨g, cap, cur, hv, h3, hh, hr⟩
  · exact ⟨h.1, .inl h2⟩
  · exact ⟨h.1, .inr ⟨g, cap, cur, hv, h3, by rw [hg.block g (Array.getElem?_eq_some_iff.1 hh).1 (by omega)]; exact hh, hr⟩⟩
theorem own_form {w : World} {base size n : Nat} {e : TypeId} {v : Value} {xs : List Value} (h : w.ownsRow base e size v n xs) : ∃ A c, v = .slice A n c := by
  rcases h.2 with ⟨rfl, rfl⟩ | ⟨g, cap, cur, rfl, -⟩
  · exact ⟨_, _, rfl⟩
  · exact ⟨_, _, rfl⟩
set_option maxHeartbeats 8000000 in
set_option maxRecDepth 100000 in
theorem manyN_any (rb gt : Nat) (r0 : List Tok) (w : World) (R0 : RdR w rb gt r0) (hE : EndsT r0) (hS : ShortT r0) (hN : r0.length ≤ 1000000) :
    Calls Tryz.prog 65 #[.pointer (some ⟨rb, 0, none⟩), .func (.func 66) #[.pointer (some ⟨rb, 0, none⟩)] #[], .func (.func 61) #[.pointer (some ⟨rb, 0, none⟩)] #[]] w
      (POut rb gt w (fun (l : List (List UInt8)) W V => W.ownsRow w.heap.size 9 1 V l.length (cellsN l)) (manyF nmF isNm r0.length [] r0)) := by
  suffices key : ∀ Q : Ending → World → Prop, Hid (∀ e w', POut rb gt w (fun (l : List (List UInt8)) W V => W.ownsRow w.heap.size 9 1 V l.length (cellsN l)) (manyF nmF isNm r0.length [] r0) e w' → Q e w') → Calls Tryz.prog 65 #[.pointer (some ⟨rb, 0, none⟩), .func (.func 66) #[.pointer (some ⟨rb, 0, none⟩)] #[], .func (.func 61) #[.pointer (some ⟨rb, 0, none⟩)] #[]] w Q from key _ (Lib.hid fun _ _ h => h)
  intro Q HQQ
  obtain ⟨X, hX⟩ : ∃ X, manyF nmF isNm r0.length [] r0 = X := ⟨_, rfl⟩
  rw [hX] at HQQ
  obtain ⟨i, hi, iz0, iz1, iz2⟩ := info_parts info_str
  have NA := Lib.hid (fun t r hl W R' => name_any rb gt t r hl W R')
  have NB := Lib.hid (fun t r hl W R' => isNm_any rb gt t r hl W R')
  have FL := Lib.hid (fun t r W R' => fail_any rb gt t r 9 W R')
  have MY := Lib.hid (fun r hr W R' => may_any rb gt [44] r hr W R')
  obtain ⟨hrb, hgt, hne⟩ := R0.lens
  have HX := Lib.hid hX
  have HI0 : Hid (EndsT r0 ∧ ShortT r0 ∧ RdR w rb gt r0) := Lib.hid ⟨hE, hS, R0⟩
  clear hX hE hS R0
  go_enter Tryz.func65, Tryz.ntmps65
  go_wp2
  go_loopw [7] (fun v wr => ∃ (V : Value) (out : List (List UInt8)) (r : List Tok) (n : Nat), V = v ∧ lenV V = out.length ∧ out.length + r.length ≤ r0.length ∧ r.length ≤ n ∧ Hid (manyF nmF isNm n out r = X) ∧ Hid (EndsT r ∧ ShortT r ∧ RdR wr rb gt r) ∧ Hid (wr.ownsRow w.heap.size 9 1 V out.length (cellsN out)) ∧ Hid (Gr w.heap.size rb w wr)) (fun v _ => r0.length - lenV v)
  case atStart => exact ⟨_, [], r0, r0.length, rfl, rfl, by simp, Nat.le_refl _, HX, HI0, Lib.hid (World.ownsRow_nil _ _ _ _), Lib.hid (Gr.refl _ _ _)⟩
  case round =>
    obtain ⟨V, out, r, n, hV, hln, hor, hrn, HM, HI, HO, HG⟩ := hrel
    subst hV
    obtain ⟨wo, rfl⟩ : ∃ wo : World, wo = wr := ⟨_, rfl⟩
    have hso := HG.out.size
    obtain ⟨A, cA, hVA⟩ := own_form HO.out
    subst hVA
    have hne := HI.out.1.ne
    cases r with
    | nil => exact absurd rfl hne
    | cons t r1 =>
    clear hne
    have hts := HI.out.2.1 t (by simp)
    rw [List.length_cons] at hor
    have NB' := Lib.hid (fun W R' => NB.out t r1 hts W R')
    by_cases hst : out.length = 20 ∧ isNm t = true
    · have e20 : ((out.length : Int) == 20) = true := by rw [hst.1]; rfl
      have HE : Hid (X = .no t.p 9) := Lib.hid (by rw [← HM.out, many_stop hst])
      rw [hst.2] at NB'
      clear hst
      go_wp2_with (first | (go_at_call 66; (with_reducible refine (NB'.out _ HI.out.2.2).mono ?_); rintro e w3 ⟨rfl, hb3⟩; have hs3 := hb3.size) | (go_at_call 64; (with_reducible refine (FL.out t r1 _ (HI.out.2.2.below hb3)).mono ?_); rintro e w4 ⟨rfl, hb4⟩))
      exact ⟨rfl, HQQ.out _ _ (by rw [HE.out]; exact ⟨rfl, (by repeat (first | (with_reducible exact Gr.refl _ _ _) | (with_reducible assumption) | ((with_reducible refine Gr.setCell ?_ ?hq1 _); (case hq1 => (first | (right; rfl) | (left; (first | (simp; done) | (simp; omega) | omega))))) | ((with_reducible refine Gr.alloc ?_ ?hq1 _); (case hq1 => (first | (simp; done) | (simp; omega) | omega))) | (with_reducible refine Gr.drew ?_) | exact Gr.of_below (by assumption) | refine Gr.trans ?_ (by assumption) (by first | (simp; done) | (simp; omega) | omega) | refine Gr.below ?_ (by assumption) (by first | (simp; done) | (simp; omega) | omega)))⟩)⟩
    · by_cases h20 : out.length = 20
      · have e20 : ((out.length : Int) == 20) = true := by rw [h20]; rfl
        have hnb : isNm t = false := by
          cases h : isNm t with
          | false => rfl
          | true => exact absurd ⟨h20, h⟩ hst
        rw [hnb] at NB'
        clear hnb h20
        go_wp2_with (first | (go_at_call 66; (with_reducible refine (NB'.out _ HI.out.2.2).mono ?_); rintro e w3 ⟨rfl, hb3⟩; have hs3 := hb3.size))
        go_at_call 61
        refine (NA.out t r1 hts _ (HI.out.2.2.below hb3)).mono ?_
        rintro e w5 hP
        cases hp : nmF (t :: r1) with
        | no p er =>
          rw [hp] at hP
          obtain ⟨rfl, hg5⟩ := hP
          have HE : Hid (X = .no p er) := Lib.hid (by rw [← HM.out, many_step hst, hp]; rfl)
          clear hp
          go_wp2
          exact ⟨rfl, HQQ.out _ _ (by rw [HE.out]; exact ⟨rfl, (by repeat (first | (with_reducible exact Gr.refl _ _ _) | (with_reducible assumption) | ((with_reducible refine Gr.setCell ?_ ?hq1 _); (case hq1 => (first | (right; rfl) | (left; (first | (simp; done) | (simp; omega) | omega))))) | ((with_reducible refine Gr.alloc ?_ ?hq1 _); (case hq1 => (first | (simp; done) | (simp; omega) | omega))) | (with_reducible refine Gr.drew ?_) | exact Gr.of_below (by assumption) | refine Gr.trans ?_ (by assumption) (by first | (simp; done) | (simp; omega) | omega) | refine Gr.below ?_ (by assumption) (by first | (simp; done) | (simp; omega) | omega)))⟩)⟩
        | ok a r2 =>
          rw [hp] at hP
          obtain ⟨⟨V5, rfl, rfl⟩, hR5, hg5⟩ := hP
          have hT := nm_takes _ _ _ hp
          have hs5 := hg5.size
          have HO5 := Lib.hid (own_gr (own_below HO.out hb3) hg5 hrb)
          have HG5 := Lib.hid (HG.out.trans (Gr.trans (B := wo.heap.size) (Gr.of_below hb3) hg5 (by omega)) hso)
          have HR5 := Lib.hid hR5
          have HI5 : Hid (EndsT r2 ∧ ShortT r2) := Lib.hid ⟨hT.2.1 HI.out.1, hT.2.2 HI.out.2.1⟩
          have hT1 := hT.1
          rw [List.length_cons] at hT1
          have hB5 : w.heap.size ≤ w5.heap.size := by omega
          have MY5 := Lib.hid (fun W R' => MY.out r2 HI5.out.1.ne W R')
          cases hm : mayF [44] r2 with
          | none =>
            have HE : Hid (X = .ok (out ++ [a]) r2) := Lib.hid (by rw [← HM.out, many_step hst, hp]; simp [PR.bind, hm])
            rw [(may_no hm).1, (may_no hm).2] at MY5
            clear hp hm hT
            go_wp2_with (first | (at_builtin; refine wpList_append_lies _ rfl _ _ _ rfl (w.heap.size) 9 i _ 1 16 Tryz.underlying28 hi iz0 iz1 iz2 rfl (by decide) (.slice A out.length cA) (out.length) _ rfl (HO5.out.alloc _) ⟨w5.heap.size, 0, none⟩ 1 1 [.string ⟨a.toArray⟩] rfl rfl (World.news_of_block (cs := #[.string ⟨a.toArray⟩]) (t := 9) (fr := (0, 0)) (heap_alloc_new w5 _)) (by simp [Value.oneCell']) (by omega) (by unfold maxLen; omega) (by omega) (by simp; omega) (w5.heap.size + 1) (by simp) ?_; intro gg cap w1' hown1 hgrow hat hlt') | (go_at_call 62; (with_reducible refine (MY5.out _ (rd_push HR5.out hgrow (fun b hb => (HO5.out.lt b hb).1) hrb hgt)).mono ?_); rintro e w6 ⟨rfl, hR6, hg6⟩; have hs6 := hg6.size; have hsg := hgrow.size; (try simp at hsg)))
            refine HQQ.out _ _ ?_
            rw [HE.out]
            exact ⟨⟨_, rfl, (show World.ownsRow w6 w.heap.size 9 1 (.slice (some ⟨gg, 0, none⟩) (out.length + 1) cap) (out ++ [a]).length (cellsN (out ++ [a])) from by rw [cellsN_app, List.length_append]; exact own_gr hown1 hg6 hrb)⟩, hR6, (gr_push HG5.out hB5 hgrow fun b hb => (HO5.out.lt b hb).1).trans hg6 (by omega)⟩
          | some r3 =>
            have hml := may_len hm
            obtain ⟨n', rfl⟩ : ∃ n', n = n' + 1 := ⟨n - 1, by rw [List.length_cons] at hrn; omega⟩
            have HM2 : Hid (manyF nmF isNm n' (out ++ [a]) r3 = X) := Lib.hid (by rw [← HM.out, many_step hst, hp]; simp [PR.bind, hm])
            have HI6 : Hid (EndsT r3 ∧ ShortT r3) := Lib.hid ⟨may_ends hm HI5.out.1, hml.2 HI5.out.2⟩
            rw [(may_yes hm).1, (may_yes hm).2] at MY5
            have hml1 := hml.1
            rw [List.length_cons] at hrn
            clear hp hm hT hml
            go_wp2_with (first | (at_builtin; refine wpList_append_lies _ rfl _ _ _ rfl (w.heap.size) 9 i _ 1 16 Tryz.underlying28 hi iz0 iz1 iz2 rfl (by decide) (.slice A out.length cA) (out.length) _ rfl (HO5.out.alloc _) ⟨w5.heap.size, 0, none⟩ 1 1 [.string ⟨a.toArray⟩] rfl rfl (World.news_of_block (cs := #[.string ⟨a.toArray⟩]) (t := 9) (fr := (0, 0)) (heap_alloc_new w5 _)) (by simp [Value.oneCell']) (by omega) (by unfold maxLen; omega) (by omega) (by simp; omega) (w5.heap.size + 1) (by simp) ?_; intro gg cap w1' hown1 hgrow hat hlt') | (go_at_call 62; (with_reducible refine (MY5.out _ (rd_push HR5.out hgrow (fun b hb => (HO5.out.lt b hb).1) hrb hgt)).mono ?_); rintro e w6 ⟨rfl, hR6, hg6⟩; have hs6 := hg6.size; have hsg := hgrow.size; (try simp at hsg)))
            go_roundw
            case rel => exact ⟨_, out ++ [a], r3, n', rfl, by simp [lenV], by simp; omega, by omega, HM2, Lib.hid ⟨HI6.out.1, HI6.out.2, hR6⟩, Lib.hid (by rw [cellsN_app, List.length_append]; exact own_gr hown1 hg6 hrb), Lib.hid ((gr_push HG5.out hB5 hgrow fun b hb => (HO5.out.lt b hb).1).trans hg6 (by omega))⟩
            case measure => first | (simp [lenV]; done) | (simp [lenV]; omega)
      · have e20 : ((out.length : Int) == 20) = false := by rw [beq_eq_false_iff_ne]; omega
        clear h20
        go_wp2_with (fail)
        go_at_call 61
        refine (NA.out t r1 hts _ HI.out.2.2).mono ?_
        rintro e w5 hP
        cases hp : nmF (t :: r1) with
        | no p er =>
          rw [hp] at hP
          obtain ⟨rfl, hg5⟩ := hP
          have HE : Hid (X = .no p er) := Lib.hid (by rw [← HM.out, many_step hst, hp]; rfl)
          clear hp
          go_wp2
          exact ⟨rfl, HQQ.out _ _ (by rw [HE.out]; exact ⟨rfl, (by repeat (first | (with_reducible exact Gr.refl _ _ _) | (with_reducible assumption) | ((with_reducible refine Gr.setCell ?_ ?hq1 _); (case hq1 => (first | (right; rfl) | (left; (first | (simp; done) | (simp; omega) | omega))))) | ((with_reducible refine Gr.alloc ?_ ?hq1 _); (case hq1 => (first | (simp; done) | (simp; omega) | omega))) | (with_reducible refine Gr.drew ?_) | exact Gr.of_below (by assumption) | refine Gr.trans ?_ (by assumption) (by first | (simp; done) | (simp; omega) | omega) | refine Gr.below ?_ (by assumption) (by first | (simp; done) | (simp; omega) | omega)))⟩)⟩
        | ok a r2 =>
          rw [hp] at hP
          obtain ⟨⟨V5, rfl, rfl⟩, hR5, hg5⟩ := hP
          have hT := nm_takes _ _ _ hp
          have hs5 := hg5.size
          have HO5 := Lib.hid (own_gr (HO.out) hg5 hrb)
          have HG5 := Lib.hid (HG.out.trans (hg5) hso)
          have HR5 := Lib.hid hR5
          have HI5 : Hid (EndsT r2 ∧ ShortT r2) := Lib.hid ⟨hT.2.1 HI.out.1, hT.2.2 HI.out.2.1⟩
          have hT1 := hT.1
          rw [List.length_cons] at hT1
          have hB5 : w.heap.size ≤ w5.heap.size := by omega
          have MY5 := Lib.hid (fun W R' => MY.out r2 HI5.out.1.ne W R')
          cases hm : mayF [44] r2 with
          | none =>
            have HE : Hid (X = .ok (out ++ [a]) r2) := Lib.hid (by rw [← HM.out, many_step hst, hp]; simp [PR.bind, hm])
            rw [(may_no hm).1, (may_no hm).2] at MY5
            clear hp hm hT
            go_wp2_with (first | (at_builtin; refine wpList_append_lies _ rfl _ _ _ rfl (w.heap.size) 9 i _ 1 16 Tryz.underlying28 hi iz0 iz1 iz2 rfl (by decide) (.slice A out.length cA) (out.length) _ rfl (HO5.out.alloc _) ⟨w5.heap.size, 0, none⟩ 1 1 [.string ⟨a.toArray⟩] rfl rfl (World.news_of_block (cs := #[.string ⟨a.toArray⟩]) (t := 9) (fr := (0, 0)) (heap_alloc_new w5 _)) (by simp [Value.oneCell']) (by omega) (by unfold maxLen; omega) (by omega) (by simp; omega) (w5.heap.size + 1) (by simp) ?_; intro gg cap w1' hown1 hgrow hat hlt') | (go_at_call 62; (with_reducible refine (MY5.out _ (rd_push HR5.out hgrow (fun b hb => (HO5.out.lt b hb).1) hrb hgt)).mono ?_); rintro e w6 ⟨rfl, hR6, hg6⟩; have hs6 := hg6.size; have hsg := hgrow.size; (try simp at hsg)))
            refine HQQ.out _ _ ?_
            rw [HE.out]
            exact ⟨⟨_, rfl, (show World.ownsRow w6 w.heap.size 9 1 (.slice (some ⟨gg, 0, none⟩) (out.length + 1) cap) (out ++ [a]).length (cellsN (out ++ [a])) from by rw [cellsN_app, List.length_append]; exact own_gr hown1 hg6 hrb)⟩, hR6, (gr_push HG5.out hB5 hgrow fun b hb => (HO5.out.lt b hb).1).trans hg6 (by omega)⟩
          | some r3 =>
            have hml := may_len hm
            obtain ⟨n', rfl⟩ : ∃ n', n = n' + 1 := ⟨n - 1, by rw [List.length_cons] at hrn; omega⟩
            have HM2 : Hid (manyF nmF isNm n' (out ++ [a]) r3 = X) := Lib.hid (by rw [← HM.out, many_step hst, hp]; simp [PR.bind, hm])
            have HI6 : Hid (EndsT r3 ∧ ShortT r3) := Lib.hid ⟨may_ends hm HI5.out.1, hml.2 HI5.out.2⟩
            rw [(may_yes hm).1, (may_yes hm).2] at MY5
            have hml1 := hml.1
            rw [List.length_cons] at hrn
            clear hp hm hT hml
            go_wp2_with (first | (at_builtin; refine wpList_append_lies _ rfl _ _ _ rfl (w.heap.size) 9 i _ 1 16 Tryz.underlying28 hi iz0 iz1 iz2 rfl (by decide) (.slice A out.length cA) (out.length) _ rfl (HO5.out.alloc _) ⟨w5.heap.size, 0, none⟩ 1 1 [.string ⟨a.toArray⟩] rfl rfl (World.news_of_block (cs := #[.string ⟨a.toArray⟩]) (t := 9) (fr := (0, 0)) (heap_alloc_new w5 _)) (by simp [Value.oneCell']) (by omega) (by unfold maxLen; omega) (by omega) (by simp; omega) (w5.heap.size + 1) (by simp) ?_; intro gg cap w1' hown1 hgrow hat hlt') | (go_at_call 62; (with_reducible refine (MY5.out _ (rd_push HR5.out hgrow (fun b hb => (HO5.out.lt b hb).1) hrb hgt)).mono ?_); rintro e w6 ⟨rfl, hR6, hg6⟩; have hs6 := hg6.size; have hsg := hgrow.size; (try simp at hsg)))
            go_roundw
            case rel => exact ⟨_, out ++ [a], r3, n', rfl, by simp [lenV], by simp; omega, by omega, HM2, Lib.hid ⟨HI6.out.1, HI6.out.2, hR6⟩, Lib.hid (by rw [cellsN_app, List.length_append]; exact own_gr hown1 hg6 hrb), Lib.hid ((gr_push HG5.out hB5 hgrow fun b hb => (HO5.out.lt b hb).1).trans hg6 (by omega))⟩
            case measure => first | (simp [lenV]; done) | (simp [lenV]; omega)
end Go.Proofs.YtijlifdbjhieaaaGreatDoor
