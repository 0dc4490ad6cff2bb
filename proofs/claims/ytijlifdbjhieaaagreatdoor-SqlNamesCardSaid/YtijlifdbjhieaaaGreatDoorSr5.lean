/-
  Contract of the reader's item. (Printed by tools/mksr5.py.)
-/
import Derived.Test.YtijlifdbjhieaaaGreatDoorSr3
/-
  Contracts of the reader's must, name, term, order, isItem at any tokens.
-/
namespace Go.Proofs.YtijlifdbjhieaaaGreatDoor
set_option linter.all false
open Go.RowKit Go.Shelf
attribute [local go_sem] cell_set_self lt_1 lt_2 lt_3 lt_4 lt_5 lt_6 fld_k fld_s fld_n fld_p

def encU : Unit → World → Value → Prop := fun _ _ V => V = .tuple #[]
def encS : List UInt8 → World → Value → Prop := fun s _ V => V = .string ⟨s.toArray⟩
theorem must_takes (s : List UInt8) : Takes (mustF s) := fun ts a r h => by
  unfold mustF at h
  cases hm : mayF s ts with
  | none => rw [hm] at h; cases h
  | some r' =>
    rw [hm] at h
    injection h with h1 h2
    subst h2
    have := may_len hm
    exact ⟨by omega, may_ends hm, this.2⟩
theorem must_any (rb gt : Nat) (s : List UInt8) (r : List Tok) (hr : r ≠ []) (w : World) (R : RdR w rb gt r) :
    Calls Tryz.prog 57 #[.pointer (some ⟨rb, 0, none⟩), .string ⟨s.toArray⟩] w (POut rb gt w encU (mustF s r)) := by
  cases h : mayF s r with
  | none =>
    cases r with
    | nil => exact absurd rfl hr
    | cons t r =>
      rw [show mustF s (t :: r) = .no t.p 11 by unfold mustF; rw [h]; rfl]
      exact must_no rb gt s t r h w R
  | some r' =>
    rw [show mustF s r = .ok () r' by unfold mustF; rw [h]]
    exact (must_yes rb gt s r r' hr h w R).mono fun e w' ⟨h1, h2, h3⟩ => ⟨⟨_, h1, rfl⟩, h2, h3⟩
theorem nameR_any (rb gt : Nat) (r : List Tok) (hr : r ≠ []) (hS : ShortT r) (w : World) (R : RdR w rb gt r) :
    Calls Tryz.prog 61 #[.pointer (some ⟨rb, 0, none⟩)] w (POut rb gt w encS (nmF r)) := by
  cases r with
  | nil => exact absurd rfl hr
  | cons t r => exact name_any rb gt t r (hS t (by simp)) w R
theorem bind_takes {α β : Type} {f : List Tok → PR α} {g : α → List Tok → PR β} (hf : Takes f) (hg : ∀ a, Takes (g a)) : Takes (fun ts => (f ts).bind g) := fun ts b r h => by
  cases h1 : f ts with
  | no p e => simp only [h1, PR.bind] at h; cases h
  | ok a r1 =>
    simp only [h1, PR.bind] at h
    have t1 := hf _ _ _ h1
    have t2 := hg a _ _ _ h
    exact ⟨by omega, fun k => t2.2.1 (t1.2.1 k), fun k => t2.2.2 (t1.2.2 k)⟩
theorem order_takes : Takes orderF := bind_takes nm_takes fun c ts o r h => by
  cases hm : mayF wDesc ts with
  | none =>
    simp only [hm] at h
    injection h with h1 h2; subst h2
    exact ⟨Nat.le_refl _, id, id⟩
  | some r' =>
    simp only [hm] at h
    injection h with h1 h2; subst h2
    have := may_len hm
    exact ⟨by omega, may_ends hm, this.2⟩
theorem term_takes : Takes termF := fun ts a r h => by
  cases ts with
  | nil => cases h
  | cons t l =>
    unfold termF at h
    simp only at h
    split at h
    · injection h with h1 h2; subst h2
      exact ⟨by simp, fun k => k.tail (by omega), fun k => k.tail⟩
    · split at h
      · injection h with h1 h2; subst h2
        exact ⟨by simp, fun k => k.tail (by omega), fun k => k.tail⟩
      · split at h
        · rename_i h3
          injection h with h1 h2; subst h2
          exact ⟨by simp, fun k => ends_step h3 k, fun k => k.tail⟩
        · cases h
def encO : OrderT → World → Value → Prop := fun o _ V => V = .agg #[.string ⟨o.col.toArray⟩, .bool o.desc]
set_option maxHeartbeats 4000000 in
set_option maxRecDepth 100000 in
theorem order_any (rb gt : Nat) (r : List Tok) (hr : r ≠ []) (hE : EndsT r) (hS : ShortT r) (w : World) (R : RdR w rb gt r) :
    Calls Tryz.prog 68 #[.pointer (some ⟨rb, 0, none⟩)] w (POut rb gt w encO (orderF r)) := by
  suffices key : ∀ Q : Ending → World → Prop, Hid (∀ e w', POut rb gt w encO (orderF r) e w' → Q e w') → Calls Tryz.prog 68 #[.pointer (some ⟨rb, 0, none⟩)] w Q from key _ (Lib.hid fun _ _ h => h)
  intro Q HQQ
  have NA := Lib.hid (fun W R' => nameR_any rb gt r hr hS W R')
  have OF : orderF r = (nmF r).bind fun c r => match mayF wDesc r with
    | some r' => .ok ⟨c, true⟩ r'
    | none => .ok ⟨c, false⟩ r := rfl
  obtain ⟨X, hX⟩ : ∃ X, orderF r = X := ⟨_, rfl⟩
  rw [hX] at HQQ OF
  have MY := Lib.hid (fun r hr W R' => may_any rb gt wDesc r hr W R')
  have HR := Lib.hid R
  have HE := Lib.hid hE
  obtain ⟨hrb, hgt, hne⟩ := R.lens
  have hn0 : ¬ w.heap.size = rb ∧ ¬ rb = w.heap.size ∧ ¬ w.heap.size = gt := by omega
  clear R hX
  have HOF := Lib.hid OF
  clear OF hr hE hS
  go_enter Tryz.func68, Tryz.ntmps68
  go_wp2_with (fail)
  go_at_call 61
  refine (NA.out _ (HR.out.alloc _)).mono ?_
  rintro e w5 hP
  cases hp : nmF r with
  | no p er =>
    rw [hp] at hP
    obtain ⟨rfl, hg5⟩ := hP
    have HN : Hid (X = .no p er) := Lib.hid (by rw [HOF.out, hp]; rfl)
    clear hp
    go_wp2
    exact ⟨rfl, HQQ.out _ _ (by rw [HN.out]; exact ⟨rfl, ((Gr.refl _ _ _).alloc (Nat.le_refl _) _).trans hg5 (by simp)⟩)⟩
  | ok a r1 =>
    rw [hp] at hP
    obtain ⟨⟨V5, rfl, rfl⟩, hR5, hg5⟩ := hP
    have hT := nm_takes _ _ _ hp
    have hs5 := hg5.size
    simp at hs5
    obtain ⟨hc5, hf5⟩ := gcell hg5
    simp only [World.size_alloc] at hc5 hf5
    have HR5 := Lib.hid hR5
    have HG5 : Hid (Gr w.heap.size rb w w5) := Lib.hid (((Gr.refl _ _ _).alloc (Nat.le_refl _) _).trans hg5 (by simp))
    have MY5 := Lib.hid (fun W R' => MY.out r1 (hT.2.1 HE.out).ne W R')
    have hz5 : ¬ w5.heap.size = rb ∧ ¬ rb = w5.heap.size ∧ ¬ w5.heap.size = gt ∧ ¬ w5.heap.size = w.heap.size ∧ ¬ w.heap.size = w5.heap.size ∧ w.heap.size < w5.heap.size := by omega
    cases hm : mayF wDesc r1 with
    | none =>
      have HN : Hid (X = .ok ⟨a, false⟩ r1) := Lib.hid (by rw [HOF.out, hp]; simp [PR.bind, hm])
      rw [(may_no hm).1, (may_no hm).2] at MY5
      clear hp hm hT
      go_wp2_with (first | (go_at_call 62; (with_reducible refine (MY5.out _ (HR5.out.alloc _)).mono ?_); rintro e w6 ⟨rfl, hR6, hg6⟩; have hs6 := hg6.size; (try simp at hs6); obtain ⟨hc6, hf6⟩ := gcell hg6; simp only [World.size_alloc] at hc6 hf6; have hz6 : w.heap.size < w6.heap.size ∧ w5.heap.size < w6.heap.size ∧ w.heap.size < w5.heap.size + 1 := (by omega)))
      have hg5' := HG5.out
      have hR6' := hR6
      exact bodyPost_ret (v := .agg #[.string ⟨a.toArray⟩, .bool false]) (by simp [results, Tryz.results68, go_sem, *]) rfl (HQQ.out _ _ (by rw [HN.out]; exact ⟨⟨_, rfl, rfl⟩, (by repeat (first | (with_reducible exact hR6') | ((with_reducible refine RdR.setCell ?_ ?hq1 ?hq2 _); (case hq1 => (first | (simp; done) | (simp; omega) | omega)); (case hq2 => (first | (simp; done) | (simp; omega) | omega))) | (with_reducible refine RdR.alloc ?_ _) | (with_reducible refine RdR.drew ?_) | refine RdR.below ?_ (by assumption))), (by repeat (first | (with_reducible exact Gr.refl _ _ _) | (with_reducible assumption) | ((with_reducible refine Gr.setCell ?_ ?hq1 _); (case hq1 => (first | (right; rfl) | (left; (first | (simp; done) | (simp; omega) | omega))))) | ((with_reducible refine Gr.alloc ?_ ?hq1 _); (case hq1 => (first | (simp; done) | (simp; omega) | omega))) | (with_reducible refine Gr.drew ?_) | exact Gr.of_below (by assumption) | refine Gr.trans ?_ (by assumption) (by first | (simp; done) | (simp; omega) | omega) | refine Gr.below ?_ (by assumption) (by first | (simp; done) | (simp; omega) | omega)))⟩))
    | some r2 =>
      have HN : Hid (X = .ok ⟨a, true⟩ r2) := Lib.hid (by rw [HOF.out, hp]; simp [PR.bind, hm])
      rw [(may_yes hm).1, (may_yes hm).2] at MY5
      clear hp hm hT
      go_wp2_with (first | (go_at_call 62; (with_reducible refine (MY5.out _ (HR5.out.alloc _)).mono ?_); rintro e w6 ⟨rfl, hR6, hg6⟩; have hs6 := hg6.size; (try simp at hs6); obtain ⟨hc6, hf6⟩ := gcell hg6; simp only [World.size_alloc] at hc6 hf6; have hz6 : w.heap.size < w6.heap.size ∧ w5.heap.size < w6.heap.size ∧ w.heap.size < w5.heap.size + 1 := (by omega)))
      have hg5' := HG5.out
      have hR6' := hR6
      exact bodyPost_ret (v := .agg #[.string ⟨a.toArray⟩, .bool true]) (by simp [results, Tryz.results68, go_sem, *]) rfl (HQQ.out _ _ (by rw [HN.out]; exact ⟨⟨_, rfl, rfl⟩, (by repeat (first | (with_reducible exact hR6') | ((with_reducible refine RdR.setCell ?_ ?hq1 ?hq2 _); (case hq1 => (first | (simp; done) | (simp; omega) | omega)); (case hq2 => (first | (simp; done) | (simp; omega) | omega))) | (with_reducible refine RdR.alloc ?_ _) | (with_reducible refine RdR.drew ?_) | refine RdR.below ?_ (by assumption))), (by repeat (first | (with_reducible exact Gr.refl _ _ _) | (with_reducible assumption) | ((with_reducible refine Gr.setCell ?_ ?hq1 _); (case hq1 => (first | (right; rfl) | (left; (first | (simp; done) | (simp; omega) | omega))))) | ((with_reducible refine Gr.alloc ?_ ?hq1 _); (case hq1 => (first | (simp; done) | (simp; omega) | omega))) | (with_reducible refine Gr.drew ?_) | exact Gr.of_below (by assumption) | refine Gr.trans ?_ (by assumption) (by first | (simp; done) | (simp; omega) | omega) | refine Gr.below ?_ (by assumption) (by first | (simp; done) | (simp; omega) | omega)))⟩))
set_option maxHeartbeats 4000000 in
set_option maxRecDepth 100000 in
theorem isItem_any (rb gt : Nat) (t : Tok) (r : List Tok) (hl : t.s.length ≤ 1000000000) (w : World) (R : RdR w rb gt (t :: r)) :
    Calls Tryz.prog 59 #[.pointer (some ⟨rb, 0, none⟩)] w fun e w' => e = .returned (.bool (isItem t)) ∧ Below w.heap.size w w' := by
  have HH := Lib.hid (fun W R' => here_any rb gt t r W R')
  have NB := Lib.hid (fun W R' => isNm_any rb gt t r hl W R')
  have AG := Lib.hid (fun W => aggs_any W)
  have CN := Lib.hid (fun A W (T : Strs W A aggsL) => contains_any A 4 aggsL 4 rfl (by omega) t.s W T)
  have HR := Lib.hid R
  have IT : isItem t = (isNm t || (decide (t.k = 119) && aggsL.contains t.s)) := rfl
  rw [IT]
  clear R IT hl
  dsimp only [tokV] at HH
  obtain ⟨tk, tS, tn, tp⟩ := t
  dsimp only at HH CN
  generalize isNm ⟨tk, tS, tn, tp⟩ = nb at *
  cases nb with
  | true =>
    rw [Bool.true_or]
    go_enter Tryz.func59, Tryz.ntmps59
    go_wp2_with (first | (go_at_call 66; (with_reducible refine (NB.out _ HR.out).mono ?_); rintro e w3 ⟨rfl, hb3⟩; have hs3 := hb3.size))
    go_ret
    exact ⟨rfl, (by repeat (first | exact Below.refl _ _ | refine Below.setCell ?_ (by first | (simp; done) | (simp; omega) | omega) _ | refine Below.alloc ?_ (by first | (simp; done) | (simp; omega) | omega) _ | refine Below.drew ?_ | assumption | refine Below.trans ?_ (Below.mono (by assumption) (by first | (simp; done) | (simp; omega) | omega))))⟩
  | false =>
    rw [Bool.false_or]
    by_cases hk : tk = 119
    · have e1 : (tk == 119) = true := by simp [hk]
      rw [decide_eq_true hk, Bool.true_and]
      clear hk
      generalize aggsL.contains tS = cb at *
      generalize (⟨tS.toArray⟩ : ByteArray) = U at *
      go_enter Tryz.func59, Tryz.ntmps59
      go_wp2_with (first | (go_at_call 66; (with_reducible refine (NB.out _ HR.out).mono ?_); rintro e w3 ⟨rfl, hb3⟩; have hs3 := hb3.size) | (go_at_call 100; (with_reducible refine (AG.out _).mono ?_); rintro e w5 ⟨rfl, hS5, hb5⟩; have HS5 := Lib.hid hS5; clear hS5; have hs5 := hb5.size) | (go_at_call 69; (with_reducible refine (HH.out _ (by first | exact ((HR.out.below hb3).below hb4).below hb5 | exact HR.out.below hb3)).mono ?_); rintro e w4 ⟨rfl, hb4⟩; have hs4 := hb4.size) | (go_at_call 78; (with_reducible refine (CN.out _ _ (HS5.out.below (by assumption))).mono ?_); rintro e w7 ⟨rfl, rfl⟩))
      go_ret
      exact ⟨rfl, (by repeat (first | exact Below.refl _ _ | refine Below.setCell ?_ (by first | (simp; done) | (simp; omega) | omega) _ | refine Below.alloc ?_ (by first | (simp; done) | (simp; omega) | omega) _ | refine Below.drew ?_ | assumption | refine Below.trans ?_ (Below.mono (by assumption) (by first | (simp; done) | (simp; omega) | omega))))⟩
    · have e1 : (tk == 119) = false := by simp [hk]
      rw [decide_eq_false hk, Bool.false_and]
      clear hk CN
      generalize (⟨tS.toArray⟩ : ByteArray) = U at *
      go_enter Tryz.func59, Tryz.ntmps59
      go_wp2_with (first | (go_at_call 66; (with_reducible refine (NB.out _ HR.out).mono ?_); rintro e w3 ⟨rfl, hb3⟩; have hs3 := hb3.size) | (go_at_call 69; (with_reducible refine (HH.out _ (HR.out.below hb3)).mono ?_); rintro e w4 ⟨rfl, hb4⟩; have hs4 := hb4.size))
      go_ret
      exact ⟨rfl, (by repeat (first | exact Below.refl _ _ | refine Below.setCell ?_ (by first | (simp; done) | (simp; omega) | omega) _ | refine Below.alloc ?_ (by first | (simp; done) | (simp; omega) | omega) _ | refine Below.drew ?_ | assumption | refine Below.trans ?_ (Below.mono (by assumption) (by first | (simp; done) | (simp; omega) | omega))))⟩
end Go.Proofs.YtijlifdbjhieaaaGreatDoor

/-
  Contract of the reader's item. (Printed by tools/mksr5.py.)
-/
namespace Go.Proofs.YtijlifdbjhieaaaGreatDoor
set_option linter.all false
open Go.RowKit Go.Shelf
attribute [local go_sem] cell_set_self lt_1 lt_2 lt_3 lt_4 lt_5 lt_6 fld_k fld_s fld_n fld_p

def encI : ItemT → World → Value → Prop := fun x _ V => V = .agg #[.string ⟨x.agg.toArray⟩, .string ⟨x.col.toArray⟩]
theorem strs_gr {w W : World} {A : Option Addr} {xs : List (List UInt8)} {rb : Nat} (h : Strs w A xs) (hg : Gr w.heap.size rb w W) (hA : ∀ a, A = some a → ¬ a.block = rb) : Strs W A xs := fun i p hi => by
  obtain ⟨b, off, h1, h2, h3⟩ := h i p hi
  obtain ⟨hc, _⟩ := gcell hg
  exact ⟨b, off, h1, Nat.lt_of_lt_of_le h2 hg.size, by rw [hc _ _ h2 (hA _ h1), h3]⟩
theorem agg_takes (g : List UInt8) : Takes (aggF g) := bind_takes (must_takes _) fun _ => bind_takes (fun ts a r h => by
  by_cases hg : g = wCount
  · rw [if_pos hg] at h
    exact (bind_takes (f := mustF [42]) (g := fun _ r' => .ok [42] r') (must_takes _) (fun _ ts a r h => by injection h with h1 h2; subst h2; exact ⟨Nat.le_refl _, id, id⟩)) ts a r h
  · rw [if_neg hg] at h
    exact nm_takes ts a r h) fun c => bind_takes (must_takes _) fun _ ts a r h => by injection h with h1 h2; subst h2; exact ⟨Nat.le_refl _, id, id⟩
theorem itemG_takes : ∀ l, Takes (itemG l)
  | [] => bind_takes nm_takes fun c ts a r h => by injection h with h1 h2; subst h2; exact ⟨Nat.le_refl _, id, id⟩
  | g :: l => fun ts a r h => by
    unfold itemG at h
    cases hm : mayF g ts with
    | none => rw [hm] at h; exact itemG_takes l ts a r h
    | some r1 =>
      rw [hm] at h
      have t1 := may_len hm
      have t2 := agg_takes g _ _ _ h
      exact ⟨by omega, fun k => t2.2.1 (may_ends hm k), fun k => t2.2.2 (t1.2 k)⟩
theorem item_takes : Takes itemF := itemG_takes _
theorem itemG_no {g : List UInt8} {l : List (List UInt8)} {r : List Tok} (h : mayF g r = none) : itemG (g :: l) r = itemG l r := by rw [itemG, h]
theorem itemG_yes {g : List UInt8} {l : List (List UInt8)} {r r' : List Tok} (h : mayF g r = some r') : itemG (g :: l) r = aggF g r' := by rw [itemG, h]
set_option maxHeartbeats 16000000 in
set_option maxRecDepth 100000 in
theorem item_any (rb gt : Nat) (r : List Tok) (hr : r ≠ []) (hE : EndsT r) (hS : ShortT r) (w : World) (R : RdR w rb gt r) :
    Calls Tryz.prog 60 #[.pointer (some ⟨rb, 0, none⟩)] w (POut rb gt w encI (itemF r)) := by
  suffices key : ∀ Q : Ending → World → Prop, Hid (∀ e w', POut rb gt w encI (itemF r) e w' → Q e w') → Calls Tryz.prog 60 #[.pointer (some ⟨rb, 0, none⟩)] w Q from key _ (Lib.hid fun _ _ h => h)
  intro Q HQQ
  obtain ⟨X, hX⟩ : ∃ X, itemF r = X := ⟨_, rfl⟩
  rw [hX] at HQQ
  have NA := Lib.hid (fun r hr hS W R' => nameR_any rb gt r hr hS W R')
  have MU := Lib.hid (fun s r hr W R' => must_any rb gt s r hr W R')
  have MY := Lib.hid (fun s r hr W R' => may_any rb gt s r hr W R')
  have AG := Lib.hid (fun W => aggs_any W)
  have HR := Lib.hid R
  obtain ⟨hrb, hgt, hne⟩ := R.lens
  have HES : Hid (r ≠ [] ∧ EndsT r ∧ ShortT r) := Lib.hid ⟨hr, hE, hS⟩
  have HX0 : Hid (itemG (aggsL.drop 0) r = X) := Lib.hid hX
  have GRW : Hid (∀ W, Gr (w.heap.size + 1) rb (w.alloc (.cells #[.string ⟨#[]⟩, .string ⟨#[]⟩] 54)) W → Gr w.heap.size rb w W) := Lib.hid fun W h => ((Gr.refl _ _ _).alloc (Nat.le_refl _) _).trans h (Nat.le_succ _)
  have hn0 : ¬ w.heap.size = rb ∧ ¬ rb = w.heap.size ∧ ¬ w.heap.size = gt ∧ ¬ w.heap.size + 1 = rb ∧ ¬ w.heap.size + 1 = gt ∧ ¬ rb = w.heap.size + 1 := by omega
  clear R hX hr hE hS
  go_enter Tryz.func60, Tryz.ntmps60
  go_wp2_with (first | (go_at_call 100; (with_reducible refine (AG.out _).mono ?_); rintro e w1 ⟨rfl, hS1, hb1⟩; have hs1 := hb1.size; simp at hs1; simp only [World.size_alloc] at hS1; have HS1 := Lib.hid hS1; clear hS1))
  go_loopw [8] (fun j wr => ∃ k : Nat, k ≤ 4 ∧ j = .int .i64 k ∧ Hid (itemG (aggsL.drop k) r = X) ∧ Hid (RdR wr rb gt r) ∧ Hid (Strs wr (some ⟨w.heap.size + 1, 0, none⟩) aggsL) ∧ Hid (Gr (w.heap.size + 1) rb (w.alloc (.cells #[.string ⟨#[]⟩, .string ⟨#[]⟩] 54)) wr)) (fun j _ => 4 - (intOf j).toNat)
  case atStart => exact ⟨0, by omega, rfl, HX0, Lib.hid ((HR.out.alloc _).below hb1), HS1, Lib.hid (Gr.of_below (by simpa using hb1))⟩
  case round =>
    obtain ⟨k, hk, rfl, HX, HRk, HSk, GIk⟩ := hrel
    obtain ⟨wo, rfl⟩ : ∃ wo : World, wo = wr := ⟨_, rfl⟩
    have hso := GIk.out.size
    simp at hso
    clear hb1 hs1
    by_cases hk4 : k < 4
    · have hk4' : (k : Int) < 4 := by omega
      obtain ⟨g, hg⟩ : ∃ g, aggsL[k]? = some g := ⟨_, List.getElem?_eq_getElem (by simpa [aggsL] using hk4)⟩
      obtain ⟨b, off, e, hb, cg⟩ := HSk.out k g hg
      injection e with e; injection e with e1 e2; subst e1 e2
      rw [Nat.zero_add] at cg
      have hd : aggsL.drop k = g :: aggsL.drop (k + 1) := by
        obtain ⟨h1, h2⟩ := List.getElem?_eq_some_iff.1 hg
        rw [List.drop_eq_getElem_cons h1, h2]
      rw [hd] at HX
      have MYk := Lib.hid (fun W R' => MY.out g r HES.out.1 W R')
      have SB := str_beq2 g wCount
      clear hg hd
      cases hm : mayF g r with
      | none =>
        have HX2 : Hid (itemG (aggsL.drop (k + 1)) r = X) := Lib.hid (by rw [← itemG_no hm]; exact HX.out)
        rw [(may_no hm).1, (may_no hm).2] at MYk
        clear hm SB
        generalize (⟨g.toArray⟩ : ByteArray) = G at *
        go_wp2_with (first | (go_at_call 62; (with_reducible refine (MYk.out _ HRk.out).mono ?_); rintro e w6 ⟨rfl, hR6, hg6⟩; have hs6 := hg6.size))
        go_roundw
        case rel => exact ⟨k + 1, by omega, by go_num, HX2, Lib.hid hR6, Lib.hid (strs_gr HSk.out hg6 (fun a e => by cases e; exact hn0.2.2.2.1)), Lib.hid (GIk.out.trans hg6 (by omega))⟩
        case measure => first | (simp [intOf]; done) | (simp [intOf]; omega)
      | some r1 =>
        have HX1 : Hid (aggF g r1 = X) := Lib.hid (by rw [← itemG_yes (l := aggsL.drop (k + 1)) hm]; exact HX.out)
        have HE1 : Hid (EndsT r1 ∧ ShortT r1) := Lib.hid ⟨may_ends hm HES.out.2.1, (may_len hm).2 HES.out.2.2⟩
        rw [(may_yes hm).1, (may_yes hm).2] at MYk
        clear hm
        obtain ⟨G, hG⟩ : ∃ G : ByteArray, (⟨g.toArray⟩ : ByteArray) = G := ⟨_, rfl⟩
        have HG := Lib.hid hG
        rw [hG] at MYk SB cg
        clear hG
        unfold aggF at HX1
        go_wp2_with (first | (go_at_call 62; (with_reducible refine (MYk.out _ HRk.out).mono ?_); rintro e w6 ⟨rfl, hR6, hg6⟩; have hs6 := hg6.size; have HR6 := Lib.hid hR6; have GI6 := Lib.hid (GIk.out.trans hg6 (by omega))))
        obtain ⟨⟨ci0, ci1⟩, fi0, fi1⟩ : (w6.cell? ⟨w.heap.size, 0, none⟩ = some (.string ⟨#[]⟩) ∧ w6.cell? ⟨w.heap.size, 1, none⟩ = some (.string ⟨#[]⟩)) ∧ (w6.frozen? ⟨w.heap.size, 0, none⟩ = false ∧ w6.frozen? ⟨w.heap.size, 1, none⟩ = false) := by
          have hI := (GI6.out.block w.heap.size (Nat.lt_succ_self _) hn0.1).trans (heap_alloc_new w _)
          simp [World.cell?, World.frozen?, hI]
        have hw0 : w.heap.size < w6.heap.size := by omega
        go_at_call 57
        refine (MU.out _ r1 HE1.out.1.ne _ HR6.out).mono ?_
        rintro e w7 hP
        cases hp : mustF [40] r1 with
        | no p er =>
          rw [hp] at hP
          obtain ⟨rfl, hg7⟩ := hP
          have hgp := GI6.out
          have HN : Hid (PR.no p er = X) := Lib.hid (by have h := HX1.out; rw [hp] at h; exact h)
          clear hp
          go_wp2
          exact ⟨rfl, HQQ.out _ _ (by rw [← HN.out]; exact ⟨rfl, GRW.out _ (by repeat (first | (with_reducible exact Gr.refl _ _ _) | (with_reducible assumption) | ((with_reducible refine Gr.setCell ?_ ?hq1 _); (case hq1 => (first | (right; rfl) | (left; (first | (simp; done) | (simp; omega) | omega))))) | ((with_reducible refine Gr.alloc ?_ ?hq1 _); (case hq1 => (first | (simp; done) | (simp; omega) | omega))) | (with_reducible refine Gr.drew ?_) | exact Gr.of_below (by assumption) | refine Gr.trans ?_ (by assumption) (by first | (simp; done) | (simp; omega) | omega) | refine Gr.below ?_ (by assumption) (by first | (simp; done) | (simp; omega) | omega)))⟩)⟩
        | ok a7 r7 =>
          rw [hp] at hP
          obtain ⟨⟨V7, rfl, hV7⟩, hR7, hg7⟩ := hP
          obtain rfl := hV7
          have hT7 := must_takes _ _ _ _ hp
          have hx7 := HX1.out
          rw [hp] at hx7
          dsimp only [PR.bind] at hx7
          have HX7 := Lib.hid hx7
          clear hx7 hp
          have hs7 := hg7.size
          (try simp at hs7)
          obtain ⟨hc7, hf7⟩ := gcell hg7
          (try simp only [World.size_alloc, World.size_setCell] at hc7 hf7)
          have hgp := GI6.out
          have GI7 : Hid (Gr (w.heap.size + 1) rb (w.alloc (.cells #[.string ⟨#[]⟩, .string ⟨#[]⟩] 54)) w7) := Lib.hid (by repeat (first | (with_reducible exact Gr.refl _ _ _) | (with_reducible assumption) | ((with_reducible refine Gr.setCell ?_ ?hq1 _); (case hq1 => (first | (right; rfl) | (left; (first | (simp; done) | (simp; omega) | omega))))) | ((with_reducible refine Gr.alloc ?_ ?hq1 _); (case hq1 => (first | (simp; done) | (simp; omega) | omega))) | (with_reducible refine Gr.drew ?_) | exact Gr.of_below (by assumption) | refine Gr.trans ?_ (by assumption) (by first | (simp; done) | (simp; omega) | omega) | refine Gr.below ?_ (by assumption) (by first | (simp; done) | (simp; omega) | omega)))
          clear hgp
          have HR7 := Lib.hid hR7
          have hE7 : Hid (EndsT r7 ∧ ShortT r7) := Lib.hid ⟨hT7.2.1 HE1.out.1, hT7.2.2 HE1.out.2⟩
          have hz7 : ¬ w7.heap.size = rb ∧ ¬ rb = w7.heap.size ∧ ¬ w7.heap.size = gt ∧ ¬ w7.heap.size = w.heap.size ∧ ¬ w.heap.size = w7.heap.size ∧ w.heap.size < w7.heap.size := by omega
          by_cases hgc : g = wCount
          · rw [decide_eq_true hgc] at SB
            rw [if_pos hgc] at HX7
            clear hT7
            go_wp2_with (fail)
            go_at_call 57
            refine (MU.out _ r7 hE7.out.1.ne _ (HR7.out.alloc _)).mono ?_
            rintro e w8 hP
            cases hp : mustF [42] r7 with
            | no p er =>
              rw [hp] at hP
              obtain ⟨rfl, hg8⟩ := hP
              have hgp := GI7.out
              have HN : Hid (PR.no p er = X) := Lib.hid (by have h := HX7.out; rw [hp] at h; exact h)
              clear hp
              go_wp2
              exact ⟨rfl, HQQ.out _ _ (by rw [← HN.out]; exact ⟨rfl, GRW.out _ (by repeat (first | (with_reducible exact Gr.refl _ _ _) | (with_reducible assumption) | ((with_reducible refine Gr.setCell ?_ ?hq1 _); (case hq1 => (first | (right; rfl) | (left; (first | (simp; done) | (simp; omega) | omega))))) | ((with_reducible refine Gr.alloc ?_ ?hq1 _); (case hq1 => (first | (simp; done) | (simp; omega) | omega))) | (with_reducible refine Gr.drew ?_) | exact Gr.of_below (by assumption) | refine Gr.trans ?_ (by assumption) (by first | (simp; done) | (simp; omega) | omega) | refine Gr.below ?_ (by assumption) (by first | (simp; done) | (simp; omega) | omega)))⟩)⟩
            | ok a8 r8 =>
              rw [hp] at hP
              obtain ⟨⟨V8, rfl, hV8⟩, hR8, hg8⟩ := hP
              obtain rfl := hV8
              have hT8 := must_takes _ _ _ _ hp
              have hx8 := HX7.out
              rw [hp] at hx8
              dsimp only [PR.bind] at hx8
              have HX8 := Lib.hid hx8
              clear hx8 hp
              have hs8 := hg8.size
              (try simp at hs8)
              obtain ⟨hc8, hf8⟩ := gcell hg8
              (try simp only [World.size_alloc, World.size_setCell] at hc8 hf8)
              have hgp := GI7.out
              have GI8 : Hid (Gr (w.heap.size + 1) rb (w.alloc (.cells #[.string ⟨#[]⟩, .string ⟨#[]⟩] 54)) w8) := Lib.hid (by repeat (first | (with_reducible exact Gr.refl _ _ _) | (with_reducible assumption) | ((with_reducible refine Gr.setCell ?_ ?hq1 _); (case hq1 => (first | (right; rfl) | (left; (first | (simp; done) | (simp; omega) | omega))))) | ((with_reducible refine Gr.alloc ?_ ?hq1 _); (case hq1 => (first | (simp; done) | (simp; omega) | omega))) | (with_reducible refine Gr.drew ?_) | exact Gr.of_below (by assumption) | refine Gr.trans ?_ (by assumption) (by first | (simp; done) | (simp; omega) | omega) | refine Gr.below ?_ (by assumption) (by first | (simp; done) | (simp; omega) | omega)))
              clear hgp
              have HR8 := Lib.hid hR8
              have hE8 : Hid (EndsT r8 ∧ ShortT r8) := Lib.hid ⟨hT8.2.1 hE7.out.1, hT8.2.2 hE7.out.2⟩
              go_wp2_with (fail)
              go_at_call 57
              refine (MU.out _ r8 hE8.out.1.ne _ (HR8.out)).mono ?_
              rintro e w9 hP
              cases hp : mustF [41] r8 with
              | no p er =>
                rw [hp] at hP
                obtain ⟨rfl, hg9⟩ := hP
                have hgp := GI8.out
                have HN : Hid (PR.no p er = X) := Lib.hid (by have h := HX8.out; rw [hp] at h; exact h)
                clear hp
                go_wp2
                exact ⟨rfl, HQQ.out _ _ (by rw [← HN.out]; exact ⟨rfl, GRW.out _ (by repeat (first | (with_reducible exact Gr.refl _ _ _) | (with_reducible assumption) | ((with_reducible refine Gr.setCell ?_ ?hq1 _); (case hq1 => (first | (right; rfl) | (left; (first | (simp; done) | (simp; omega) | omega))))) | ((with_reducible refine Gr.alloc ?_ ?hq1 _); (case hq1 => (first | (simp; done) | (simp; omega) | omega))) | (with_reducible refine Gr.drew ?_) | exact Gr.of_below (by assumption) | refine Gr.trans ?_ (by assumption) (by first | (simp; done) | (simp; omega) | omega) | refine Gr.below ?_ (by assumption) (by first | (simp; done) | (simp; omega) | omega)))⟩)⟩
              | ok a9 r9 =>
                rw [hp] at hP
                obtain ⟨⟨V9, rfl, hV9⟩, hR9, hg9⟩ := hP
                obtain rfl := hV9
                have hT9 := must_takes _ _ _ _ hp
                have hx9 := HX8.out
                rw [hp] at hx9
                dsimp only [PR.bind] at hx9
                have HX9 := Lib.hid hx9
                clear hx9 hp
                have hs9 := hg9.size
                (try simp at hs9)
                obtain ⟨hc9, hf9⟩ := gcell hg9
                (try simp only [World.size_alloc, World.size_setCell] at hc9 hf9)
                have hgp := GI8.out
                have GI9 : Hid (Gr (w.heap.size + 1) rb (w.alloc (.cells #[.string ⟨#[]⟩, .string ⟨#[]⟩] 54)) w9) := Lib.hid (by repeat (first | (with_reducible exact Gr.refl _ _ _) | (with_reducible assumption) | ((with_reducible refine Gr.setCell ?_ ?hq1 _); (case hq1 => (first | (right; rfl) | (left; (first | (simp; done) | (simp; omega) | omega))))) | ((with_reducible refine Gr.alloc ?_ ?hq1 _); (case hq1 => (first | (simp; done) | (simp; omega) | omega))) | (with_reducible refine Gr.drew ?_) | exact Gr.of_below (by assumption) | refine Gr.trans ?_ (by assumption) (by first | (simp; done) | (simp; omega) | omega) | refine Gr.below ?_ (by assumption) (by first | (simp; done) | (simp; omega) | omega)))
                clear hgp
                have HR9 := Lib.hid hR9
                have hz9 : w.heap.size < w9.heap.size ∧ w7.heap.size < w9.heap.size ∧ w.heap.size < w7.heap.size + 1 ∧ w.heap.size < w8.heap.size ∧ w7.heap.size < w8.heap.size := by omega
                have hN := HX9
                go_wp2
                have hgp := GI9.out
                have hR9' := HR9.out
                exact bodyPost_ret (v := .agg #[.string G, .string ⟨#[42]⟩]) (by simp [results, Tryz.results60, go_sem, *]) rfl (HQQ.out _ _ (by rw [← HX9.out]; exact ⟨⟨_, rfl, by rw [← HG.out]; rfl⟩, (by repeat (first | (with_reducible exact hR9') | ((with_reducible refine RdR.setCell ?_ ?hq1 ?hq2 _); (case hq1 => (first | (simp; done) | (simp; omega) | omega)); (case hq2 => (first | (simp; done) | (simp; omega) | omega))) | (with_reducible refine RdR.alloc ?_ _) | (with_reducible refine RdR.drew ?_) | refine RdR.below ?_ (by assumption))), by have hgq := GRW.out _ hgp; clear hgp; exact (by repeat (first | (with_reducible exact Gr.refl _ _ _) | (with_reducible assumption) | ((with_reducible refine Gr.setCell ?_ ?hq1 _); (case hq1 => (first | (right; rfl) | (left; (first | (simp; done) | (simp; omega) | omega))))) | ((with_reducible refine Gr.alloc ?_ ?hq1 _); (case hq1 => (first | (simp; done) | (simp; omega) | omega))) | (with_reducible refine Gr.drew ?_) | exact Gr.of_below (by assumption) | refine Gr.trans ?_ (by assumption) (by first | (simp; done) | (simp; omega) | omega) | refine Gr.below ?_ (by assumption) (by first | (simp; done) | (simp; omega) | omega)))⟩))
          · rw [decide_eq_false hgc] at SB
            rw [if_neg hgc] at HX7
            clear hT7
            go_wp2_with (fail)
            go_at_call 61
            refine (NA.out r7 hE7.out.1.ne hE7.out.2 _ (HR7.out.alloc _)).mono ?_
            rintro e w8 hP
            cases hp : nmF r7 with
            | no p er =>
              rw [hp] at hP
              obtain ⟨rfl, hg8⟩ := hP
              have hgp := GI7.out
              have HN : Hid (PR.no p er = X) := Lib.hid (by have h := HX7.out; rw [hp] at h; exact h)
              clear hp
              go_wp2
              exact ⟨rfl, HQQ.out _ _ (by rw [← HN.out]; exact ⟨rfl, GRW.out _ (by repeat (first | (with_reducible exact Gr.refl _ _ _) | (with_reducible assumption) | ((with_reducible refine Gr.setCell ?_ ?hq1 _); (case hq1 => (first | (right; rfl) | (left; (first | (simp; done) | (simp; omega) | omega))))) | ((with_reducible refine Gr.alloc ?_ ?hq1 _); (case hq1 => (first | (simp; done) | (simp; omega) | omega))) | (with_reducible refine Gr.drew ?_) | exact Gr.of_below (by assumption) | refine Gr.trans ?_ (by assumption) (by first | (simp; done) | (simp; omega) | omega) | refine Gr.below ?_ (by assumption) (by first | (simp; done) | (simp; omega) | omega)))⟩)⟩
            | ok a8 r8 =>
              rw [hp] at hP
              obtain ⟨⟨V8, rfl, hV8⟩, hR8, hg8⟩ := hP
              obtain rfl := hV8
              have hT8 := nm_takes _ _ _ hp
              have hx8 := HX7.out
              rw [hp] at hx8
              dsimp only [PR.bind] at hx8
              have HX8 := Lib.hid hx8
              clear hx8 hp
              have hs8 := hg8.size
              (try simp at hs8)
              obtain ⟨hc8, hf8⟩ := gcell hg8
              (try simp only [World.size_alloc, World.size_setCell] at hc8 hf8)
              have hgp := GI7.out
              have GI8 : Hid (Gr (w.heap.size + 1) rb (w.alloc (.cells #[.string ⟨#[]⟩, .string ⟨#[]⟩] 54)) w8) := Lib.hid (by repeat (first | (with_reducible exact Gr.refl _ _ _) | (with_reducible assumption) | ((with_reducible refine Gr.setCell ?_ ?hq1 _); (case hq1 => (first | (right; rfl) | (left; (first | (simp; done) | (simp; omega) | omega))))) | ((with_reducible refine Gr.alloc ?_ ?hq1 _); (case hq1 => (first | (simp; done) | (simp; omega) | omega))) | (with_reducible refine Gr.drew ?_) | exact Gr.of_below (by assumption) | refine Gr.trans ?_ (by assumption) (by first | (simp; done) | (simp; omega) | omega) | refine Gr.below ?_ (by assumption) (by first | (simp; done) | (simp; omega) | omega)))
              clear hgp
              have HR8 := Lib.hid hR8
              have hE8 : Hid (EndsT r8 ∧ ShortT r8) := Lib.hid ⟨hT8.2.1 hE7.out.1, hT8.2.2 hE7.out.2⟩
              have hz8 : w.heap.size < w8.heap.size ∧ w7.heap.size < w8.heap.size := by omega
              go_wp2_with (fail)
              go_at_call 57
              refine (MU.out _ r8 hE8.out.1.ne _ (HR8.out.setCell (by dsimp only; omega) (by dsimp only; omega) _)).mono ?_
              rintro e w9 hP
              cases hp : mustF [41] r8 with
              | no p er =>
                rw [hp] at hP
                obtain ⟨rfl, hg9⟩ := hP
                have hgp := GI8.out
                have HN : Hid (PR.no p er = X) := Lib.hid (by have h := HX8.out; rw [hp] at h; exact h)
                clear hp
                go_wp2
                exact ⟨rfl, HQQ.out _ _ (by rw [← HN.out]; exact ⟨rfl, GRW.out _ (by repeat (first | (with_reducible exact Gr.refl _ _ _) | (with_reducible assumption) | ((with_reducible refine Gr.setCell ?_ ?hq1 _); (case hq1 => (first | (right; rfl) | (left; (first | (simp; done) | (simp; omega) | omega))))) | ((with_reducible refine Gr.alloc ?_ ?hq1 _); (case hq1 => (first | (simp; done) | (simp; omega) | omega))) | (with_reducible refine Gr.drew ?_) | exact Gr.of_below (by assumption) | refine Gr.trans ?_ (by assumption) (by first | (simp; done) | (simp; omega) | omega) | refine Gr.below ?_ (by assumption) (by first | (simp; done) | (simp; omega) | omega)))⟩)⟩
              | ok a9 r9 =>
                rw [hp] at hP
                obtain ⟨⟨V9, rfl, hV9⟩, hR9, hg9⟩ := hP
                obtain rfl := hV9
                have hT9 := must_takes _ _ _ _ hp
                have hx9 := HX8.out
                rw [hp] at hx9
                dsimp only [PR.bind] at hx9
                have HX9 := Lib.hid hx9
                clear hx9 hp
                have hs9 := hg9.size
                (try simp at hs9)
                obtain ⟨hc9, hf9⟩ := gcell hg9
                (try simp only [World.size_alloc, World.size_setCell] at hc9 hf9)
                have hgp := GI8.out
                have GI9 : Hid (Gr (w.heap.size + 1) rb (w.alloc (.cells #[.string ⟨#[]⟩, .string ⟨#[]⟩] 54)) w9) := Lib.hid (by repeat (first | (with_reducible exact Gr.refl _ _ _) | (with_reducible assumption) | ((with_reducible refine Gr.setCell ?_ ?hq1 _); (case hq1 => (first | (right; rfl) | (left; (first | (simp; done) | (simp; omega) | omega))))) | ((with_reducible refine Gr.alloc ?_ ?hq1 _); (case hq1 => (first | (simp; done) | (simp; omega) | omega))) | (with_reducible refine Gr.drew ?_) | exact Gr.of_below (by assumption) | refine Gr.trans ?_ (by assumption) (by first | (simp; done) | (simp; omega) | omega) | refine Gr.below ?_ (by assumption) (by first | (simp; done) | (simp; omega) | omega)))
                clear hgp
                have HR9 := Lib.hid hR9
                have hz9 : w.heap.size < w9.heap.size ∧ w7.heap.size < w9.heap.size ∧ w.heap.size < w7.heap.size + 1 ∧ w.heap.size < w8.heap.size ∧ w7.heap.size < w8.heap.size := by omega
                have hN := HX9
                go_wp2
                have hgp := GI9.out
                have hR9' := HR9.out
                exact bodyPost_ret (v := .agg #[.string G, .string ⟨a8.toArray⟩]) (by simp [results, Tryz.results60, go_sem, *]) rfl (HQQ.out _ _ (by rw [← HX9.out]; exact ⟨⟨_, rfl, by rw [← HG.out]; rfl⟩, (by repeat (first | (with_reducible exact hR9') | ((with_reducible refine RdR.setCell ?_ ?hq1 ?hq2 _); (case hq1 => (first | (simp; done) | (simp; omega) | omega)); (case hq2 => (first | (simp; done) | (simp; omega) | omega))) | (with_reducible refine RdR.alloc ?_ _) | (with_reducible refine RdR.drew ?_) | refine RdR.below ?_ (by assumption))), by have hgq := GRW.out _ hgp; clear hgp; exact (by repeat (first | (with_reducible exact Gr.refl _ _ _) | (with_reducible assumption) | ((with_reducible refine Gr.setCell ?_ ?hq1 _); (case hq1 => (first | (right; rfl) | (left; (first | (simp; done) | (simp; omega) | omega))))) | ((with_reducible refine Gr.alloc ?_ ?hq1 _); (case hq1 => (first | (simp; done) | (simp; omega) | omega))) | (with_reducible refine Gr.drew ?_) | exact Gr.of_below (by assumption) | refine Gr.trans ?_ (by assumption) (by first | (simp; done) | (simp; omega) | omega) | refine Gr.below ?_ (by assumption) (by first | (simp; done) | (simp; omega) | omega)))⟩))
    · obtain rfl : k = 4 := by omega
      have HX1 : Hid ((nmF r).bind (fun c r => PR.ok (⟨[], c⟩ : ItemT) r) = X) := Lib.hid HX.out
      go_wp2_with (fail)
      obtain ⟨⟨ci0, ci1⟩, fi0, fi1⟩ : (wo.cell? ⟨w.heap.size, 0, none⟩ = some (.string ⟨#[]⟩) ∧ wo.cell? ⟨w.heap.size, 1, none⟩ = some (.string ⟨#[]⟩)) ∧ (wo.frozen? ⟨w.heap.size, 0, none⟩ = false ∧ wo.frozen? ⟨w.heap.size, 1, none⟩ = false) := by
        have hI := (GIk.out.block w.heap.size (Nat.lt_succ_self _) hn0.1).trans (heap_alloc_new w _)
        simp [World.cell?, World.frozen?, hI]
      have hw0 : w.heap.size < wo.heap.size := by omega
      go_at_call 61
      refine (NA.out r HES.out.1 HES.out.2.2 _ HRk.out).mono ?_
      rintro e w9 hP
      cases hp : nmF r with
      | no p er =>
        rw [hp] at hP
        obtain ⟨rfl, hg9⟩ := hP
        have hgp := GIk.out
        have HN : Hid (PR.no p er = X) := Lib.hid (by have h := HX1.out; rw [hp] at h; exact h)
        clear hp
        go_wp2
        exact ⟨rfl, HQQ.out _ _ (by rw [← HN.out]; exact ⟨rfl, GRW.out _ (by repeat (first | (with_reducible exact Gr.refl _ _ _) | (with_reducible assumption) | ((with_reducible refine Gr.setCell ?_ ?hq1 _); (case hq1 => (first | (right; rfl) | (left; (first | (simp; done) | (simp; omega) | omega))))) | ((with_reducible refine Gr.alloc ?_ ?hq1 _); (case hq1 => (first | (simp; done) | (simp; omega) | omega))) | (with_reducible refine Gr.drew ?_) | exact Gr.of_below (by assumption) | refine Gr.trans ?_ (by assumption) (by first | (simp; done) | (simp; omega) | omega) | refine Gr.below ?_ (by assumption) (by first | (simp; done) | (simp; omega) | omega)))⟩)⟩
      | ok a9 r9 =>
        rw [hp] at hP
        obtain ⟨⟨V9, rfl, hV9⟩, hR9, hg9⟩ := hP
        obtain rfl := hV9
        have hT9 := nm_takes _ _ _ hp
        have hx9 := HX1.out
        rw [hp] at hx9
        dsimp only [PR.bind] at hx9
        have HX9 := Lib.hid hx9
        clear hx9 hp
        have hs9 := hg9.size
        (try simp at hs9)
        obtain ⟨hc9, hf9⟩ := gcell hg9
        (try simp only [World.size_alloc, World.size_setCell] at hc9 hf9)
        have hgp := GIk.out
        have GI9 : Hid (Gr (w.heap.size + 1) rb (w.alloc (.cells #[.string ⟨#[]⟩, .string ⟨#[]⟩] 54)) w9) := Lib.hid (by repeat (first | (with_reducible exact Gr.refl _ _ _) | (with_reducible assumption) | ((with_reducible refine Gr.setCell ?_ ?hq1 _); (case hq1 => (first | (right; rfl) | (left; (first | (simp; done) | (simp; omega) | omega))))) | ((with_reducible refine Gr.alloc ?_ ?hq1 _); (case hq1 => (first | (simp; done) | (simp; omega) | omega))) | (with_reducible refine Gr.drew ?_) | exact Gr.of_below (by assumption) | refine Gr.trans ?_ (by assumption) (by first | (simp; done) | (simp; omega) | omega) | refine Gr.below ?_ (by assumption) (by first | (simp; done) | (simp; omega) | omega)))
        clear hgp
        have HR9 := Lib.hid hR9
        have hz9 : w.heap.size < w9.heap.size := by omega
        have hN := HX9
        go_wp2
        have hgp := GI9.out
        have hR9' := HR9.out
        exact bodyPost_ret (v := .agg #[.string ⟨#[]⟩, .string ⟨a9.toArray⟩]) (by simp [results, Tryz.results60, go_sem, *]) rfl (HQQ.out _ _ (by rw [← HX9.out]; exact ⟨⟨_, rfl, rfl⟩, (by repeat (first | (with_reducible exact hR9') | ((with_reducible refine RdR.setCell ?_ ?hq1 ?hq2 _); (case hq1 => (first | (simp; done) | (simp; omega) | omega)); (case hq2 => (first | (simp; done) | (simp; omega) | omega))) | (with_reducible refine RdR.alloc ?_ _) | (with_reducible refine RdR.drew ?_) | refine RdR.below ?_ (by assumption))), by have hgq := GRW.out _ hgp; clear hgp; exact (by repeat (first | (with_reducible exact Gr.refl _ _ _) | (with_reducible assumption) | ((with_reducible refine Gr.setCell ?_ ?hq1 _); (case hq1 => (first | (right; rfl) | (left; (first | (simp; done) | (simp; omega) | omega))))) | ((with_reducible refine Gr.alloc ?_ ?hq1 _); (case hq1 => (first | (simp; done) | (simp; omega) | omega))) | (with_reducible refine Gr.drew ?_) | exact Gr.of_below (by assumption) | refine Gr.trans ?_ (by assumption) (by first | (simp; done) | (simp; omega) | omega) | refine Gr.below ?_ (by assumption) (by first | (simp; done) | (simp; omega) | omega)))⟩))
end Go.Proofs.YtijlifdbjhieaaaGreatDoor
