/-
  Contracts of sql.Schema.items and once. (Printed by tools/mksn3.py.)
-/
import Derived.Test.YtijlifdbjhieaaaGreatDoorSn1

/-
  Contracts of sql.Schema.typeOf, items, once.
-/
namespace Go.Proofs.YtijlifdbjhieaaaGreatDoor
set_option linter.all false
open Go.RowKit Go.Shelf
attribute [local go_sem] cell_set_self lt_1 lt_2 lt_3 lt_4 lt_5 lt_6

/-- A column's type. -/
def typF (s : SchT) (n : List UInt8) : Option Int := (s.cols.find? (isCol n)).map ColT.ty
def typT (s : SchT) (n : List UInt8) : Int := match typF s n with | some t => t | none => 0
def typI (s : SchT) (n : List UInt8) : Bool := match typF s n with | some _ => true | none => false
theorem find_idx {α : Type} {p : α → Bool} {l : List α} {k : Nat} {x : α} (hx : l[k]? = some x) (hp : p x = true) (hb : ∀ (j : Nat) (y : α), j < k → l[j]? = some y → p y = false) : l.find? p = some x := by
  induction l generalizing k with
  | nil => simp at hx
  | cons y l ih =>
    cases k with
    | zero => simp at hx; subst hx; rw [List.find?_cons, hp]
    | succ k =>
      rw [List.find?_cons, hb 0 y (by omega) rfl]
      exact ih (by simpa using hx) fun j z hj hz => hb (j + 1) z (by omega) (by simpa using hz)
set_option maxHeartbeats 4000000 in
set_option maxRecDepth 100000 in
theorem typeOf_any (s : SchT) (A1 : Option Addr) (c1 : Nat) (A2 : Option Addr) (c2 : Nat) (n : List UInt8) (w : World) (H : ClL w A1 s.cols) (hn : s.cols.length ≤ 1000000000000000) :
    Calls Tryz.prog 35 #[.agg #[.string ⟨s.table.toArray⟩, .slice A1 s.cols.length c1, .slice A2 s.key.length c2], .string ⟨n.toArray⟩] w fun e w' => e = .returned (.tuple #[.int .i64 (typT s n), .bool (typI s n)]) ∧ Below w.heap.size w w' := by
  suffices key : ∀ Q : Ending → World → Prop, Hid (∀ w', Below w.heap.size w w' → Q (.returned (.tuple #[.int .i64 (typT s n), .bool (typI s n)])) w') → Calls Tryz.prog 35 #[.agg #[.string ⟨s.table.toArray⟩, .slice A1 s.cols.length c1, .slice A2 s.key.length c2], .string ⟨n.toArray⟩] w Q from key _ (Lib.hid fun w' h' => ⟨rfl, h'⟩)
  intro Q HQ
  have HT := Lib.hid H
  have IX := Lib.hid (fun qb W (hb : Below w.heap.size w W) (hqb : qb < W.heap.size) hq => idxC_at A1 c1 s.cols hn n qb W (H.below hb) hqb hq)
  clear H
  obtain ⟨z, hz⟩ : ∃ z, idxF (isCol n) 0 s.cols = z := ⟨_, rfl⟩
  have hneg := Lib.hid (fun (h : z < 0) => idxF_neg (p := isCol n) (l := s.cols) (n := 0) (by rw [hz]; exact h))
  have hpos := Lib.hid (fun (h : 0 ≤ z) => idxF_some (p := isCol n) (l := s.cols) (n := 0) (by rw [hz]; exact h))
  rw [hz] at IX hneg hpos
  clear hz
  obtain ⟨tt, htt⟩ : ∃ x, typT s n = x := ⟨_, rfl⟩
  obtain ⟨ti, hti⟩ : ∃ x, typI s n = x := ⟨_, rfl⟩
  have HTT := Lib.hid htt
  have HTI := Lib.hid hti
  rw [htt, hti] at HQ
  clear htt hti
  obtain ⟨N, hN⟩ : ∃ x : ByteArray, (⟨n.toArray⟩ : ByteArray) = x := ⟨_, rfl⟩
  rw [hN] at IX ⊢
  clear hN
  obtain ⟨T, hT⟩ : ∃ x : ByteArray, (⟨s.table.toArray⟩ : ByteArray) = x := ⟨_, rfl⟩
  rw [hT]
  clear hT
  go_enter Tryz.func35, Tryz.ntmps35
  go_wp2_with (fail)
  go_at_call 81
  refine (IX.out (w.heap.size + 1) _ (by repeat (first | (with_reducible exact Below.refl _ _) | (with_reducible refine Below.alloc ?_ (by first | (simp; done) | (simp; omega)) _))) (by simp) (by simp [go_sem])).mono ?_
  rintro e w4 ⟨rfl, hb4⟩
  have hB4 : Below w.heap.size w w4 := by
    refine Below.trans ?_ (hb4.mono (by simp; omega))
    repeat (first | (with_reducible exact Below.refl _ _) | (with_reducible refine Below.alloc ?_ (by first | (simp; done) | (simp; omega)) _))
  obtain ⟨hc4, hf4⟩ := bcell hb4
  (try simp only [drew_size, drew_cell, drew_frozen, World.size_alloc, World.size_setCell] at hc4 hf4)
  have hz4 : w.heap.size < w4.heap.size := by have := hb4.size; simp at this; omega
  by_cases hlt : z < 0
  · obtain ⟨rfl, hno⟩ := hneg.out hlt
    have hnf : typF s n = none := by unfold typF; rw [List.find?_eq_none.2 (fun x hx => by rw [hno x hx]; decide)]; rfl
    have e1 : (0 : Int) = tt := by rw [← HTT.out]; unfold typT; rw [hnf]
    have e2 : false = ti := by rw [← HTI.out]; unfold typI; rw [hnf]
    subst e1 e2
    clear hno hnf hneg hpos HTT HTI IX
    go_wp2_with (fail)
    exact HQ.out _ hB4
  · obtain ⟨k, x, hk, hx, hp, hbf⟩ := hpos.out (by omega)
    have hkl := (List.getElem?_eq_some_iff.1 hx).1
    have hnf : typF s n = some x.ty := by unfold typF; rw [find_idx hx hp hbf]; rfl
    obtain rfl : z = (k : Int) := by rw [hk]; simp
    have e1 : x.ty = tt := by rw [← HTT.out]; unfold typT; rw [hnf]
    have e2 : true = ti := by rw [← HTI.out]; unfold typI; rw [hnf]
    obtain ⟨b, off, rfl, hb, k0, k1⟩ := HT.out.below hB4 k x hx
    rw [e1] at k1
    subst e2
    have hkl' : (k : Int) < (s.cols.length : Int) := by omega
    have hk0 : ¬ (k : Int) < 0 := by omega
    clear hk hx hp hbf hnf e1 hneg hpos HTT HTI IX hlt k0
    go_wp2_with (fail)
    exact HQ.out _ hB4
/-- The error of items over a schema. -/
def itemsE (s : SchT) : List ItemT → Int
  | [] => 0
  | x :: r => if x.agg = wCount then itemsE s r else if typI s x.col = false then 23 else if x.agg = [115, 117, 109] ∧ typT s x.col ≠ 1 then 13 else itemsE s r
end Go.Proofs.YtijlifdbjhieaaaGreatDoor

/-
  Contracts of sql.Schema.items and once. (Printed by tools/mksn3.py.)
-/
namespace Go.Proofs.YtijlifdbjhieaaaGreatDoor
set_option linter.all false
open Go.RowKit Go.Shelf
attribute [local go_sem] cell_set_self lt_1 lt_2 lt_3 lt_4 lt_5 lt_6

/-- The error of names that must be there, each once. -/
def onceE (s : SchT) (all : List (List UInt8)) : Nat → List (List UInt8) → Int
  | _, [] => 0
  | i, x :: r => if typI s x = false then 23 else if (all.take i).contains x = true then 12 else onceE s all (i + 1) r
set_option maxHeartbeats 8000000 in
set_option maxRecDepth 100000 in
theorem items_any (s : SchT) (A1 : Option Addr) (c1 : Nat) (A2 : Option Addr) (c2 : Nat) (A : Option Addr) (c : Nat) (l : List (ItemT)) (hn : l.length ≤ 1000000) (hcs : s.cols.length ≤ 1000000000000000) (w : World) (H : SchV w s A1 c1 A2 c2) (HL : ItL w A l) :
    Calls Tryz.prog 74 #[.agg #[.string ⟨s.table.toArray⟩, .slice A1 s.cols.length c1, .slice A2 s.key.length c2], .slice A l.length c] w fun e w' => e = .returned (.int .i64 (itemsE s l)) ∧ Below w.heap.size w w' := by
  suffices key : ∀ Q : Ending → World → Prop, Hid (∀ w', Below w.heap.size w w' → Q (.returned (.int .i64 (itemsE s l))) w') → Calls Tryz.prog 74 #[.agg #[.string ⟨s.table.toArray⟩, .slice A1 s.cols.length c1, .slice A2 s.key.length c2], .slice A l.length c] w Q from key _ (Lib.hid fun w' h' => ⟨rfl, h'⟩)
  intro Q HQ
  have HT := Lib.hid HL
  obtain ⟨W1, hW1⟩ : ∃ W1, W1 = w.alloc (.cells #[.string ⟨s.table.toArray⟩, .slice A1 s.cols.length c1, .slice A2 s.key.length c2] 59) := ⟨_, rfl⟩
  have HW1 : Below w.heap.size w W1 := by rw [hW1]; exact (Below.refl _ _).alloc (Nat.le_refl _) _
  have hs1 : W1.heap.size = w.heap.size + 1 := by rw [hW1]; simp
  have TO := Lib.hid (fun n W (hb : Below w.heap.size w W) => typeOf_any s A1 c1 A2 c2 n W (H.cl.below hb) hcs)
  obtain ⟨T, hT⟩ : ∃ x : ByteArray, (⟨s.table.toArray⟩ : ByteArray) = x := ⟨_, rfl⟩
  rw [hT] at TO hW1 ⊢
  clear hT HL H
  go_enter Tryz.func74, Tryz.ntmps74
  go_wp2_with (fail)
  rw [← hW1]
  go_loopw [11] (fun j wr => ∃ k : Nat, k ≤ l.length ∧ j = .int .i64 k ∧ Hid (itemsE s l = itemsE s (l.drop k)) ∧ Hid (Below (w.heap.size + 1) W1 wr)) (fun j _ => l.length - (intOf j).toNat)
  case atStart => exact ⟨0, by omega, rfl, Lib.hid rfl, Lib.hid (Below.refl _ _)⟩
  case round =>
    obtain ⟨k, hk, rfl, HA, HB⟩ := hrel
    obtain ⟨wo, rfl⟩ : ∃ wo : World, wo = wr := ⟨_, rfl⟩
    have HBW : Below w.heap.size w wo := HW1.trans (HB.out.mono (by omega))
    have hso : w.heap.size < wo.heap.size := by have := HB.out.size; omega
    obtain ⟨hcb, hfb⟩ := bcell (W := W1) (w1 := wo) (by rw [hs1]; exact HB.out)
    rw [hs1] at hcb hfb
    have hw0 := hcb w.heap.size 0 (by omega)
    have hw1 := hcb w.heap.size 1 (by omega)
    have hw2 := hcb w.heap.size 2 (by omega)
    rw [hW1] at hw0 hw1 hw2
    simp [go_sem] at hw0 hw1 hw2
    clear hcb hfb
    by_cases hlt : k < l.length
    · have hlt' : (k : Int) < (l.length : Int) := by omega
      obtain ⟨x, hx⟩ : ∃ x, l[k]? = some x := ⟨_, List.getElem?_eq_getElem hlt⟩
      have hdr : l.drop k = x :: l.drop (k + 1) := by
        rw [List.drop_eq_getElem_cons hlt]
        have := List.getElem?_eq_getElem hlt
        rw [hx] at this; injection this with this; rw [this]
      obtain ⟨b, off, rfl, hb, k0, k1⟩ := (HT.out.below HBW) k x hx
      rw [hdr] at HA
      have TO := Lib.hid (fun W hb => TO.out x.col W hb)
      have S1 := str_beq2 x.agg wCount
      have S3 := str_beq2 x.agg [115, 117, 109]
      obtain ⟨xa, xc⟩ := x
      dsimp only at TO S1 S3 k0 k1
      have HA2 := HA.out
      rw [itemsE] at HA2
      dsimp only at HA2
      clear hdr hx HA
      by_cases h1 : xa = wCount
      · rw [decide_eq_true h1] at S1
        rw [if_pos h1] at HA2
        have HA3 := Lib.hid HA2
        clear h1 HA2
        generalize (⟨xa.toArray⟩ : ByteArray) = U at *
        generalize (⟨xc.toArray⟩ : ByteArray) = V at *
        go_wp2_with (fail)
        go_roundw
        case rel => exact ⟨k + 1, by omega, by go_num, HA3, Lib.hid (by repeat (first | (with_reducible exact HB.out) | (with_reducible refine Below.setCell ?_ (by dsimp only; omega) _) | (with_reducible refine Below.alloc ?_ (by omega) _)))⟩
        case measure => first | (simp [intOf]; done) | (simp [intOf]; omega)
      · rw [decide_eq_false h1] at S1
        rw [if_neg h1] at HA2
        clear h1
        cases hi : typI s xc with
        | false =>
          rw [hi] at TO
          rw [if_pos hi] at HA2
          rw [HA2] at HQ
          clear hi HA2
          generalize (⟨xa.toArray⟩ : ByteArray) = U at *
          generalize (⟨xc.toArray⟩ : ByteArray) = V at *
          go_wp2_with (first | (go_at_call 35; (with_reducible refine (TO.out _ (by repeat (first | (with_reducible exact HBW) | (with_reducible refine Below.setCell ?_ (by first | (simp; done) | (simp; omega) | omega) _) | (with_reducible refine Below.alloc ?_ (by first | (simp; done) | (simp; omega) | omega) _)))).mono ?_); rintro e w4 ⟨rfl, hb4⟩; obtain ⟨hc4, hf4⟩ := bcell hb4; (try simp only [drew_size, drew_cell, drew_frozen, World.size_alloc, World.size_setCell] at hc4 hf4); have hz4 : w.heap.size < w4.heap.size ∧ wo.heap.size < w4.heap.size := (by have := hb4.size; (try simp at this); omega); have hB4 : Below w.heap.size w w4 := (by refine Below.trans ?_ (hb4.mono (by first | (simp; done) | (simp; omega) | omega)); repeat (first | (with_reducible exact HBW) | (with_reducible refine Below.setCell ?_ (by first | (simp; done) | (simp; omega) | omega) _) | (with_reducible refine Below.alloc ?_ (by first | (simp; done) | (simp; omega) | omega) _))); have hD4 : Below (w.heap.size + 1) W1 w4 := (by refine Below.trans ?_ (hb4.mono (by first | (simp; done) | (simp; omega) | omega)); repeat (first | (with_reducible exact HB.out) | (with_reducible refine Below.setCell ?_ (by first | (simp; done) | (simp; omega) | omega) _) | (with_reducible refine Below.alloc ?_ (by first | (simp; done) | (simp; omega) | omega) _)))))
          exact HQ.out _ hB4
        | true =>
          rw [hi] at TO
          rw [if_neg (by rw [hi]; decide)] at HA2
          clear hi
          generalize typT s xc = t at *
          by_cases h3 : xa = [115, 117, 109]
          · rw [decide_eq_true h3] at S3
            by_cases ht : t = 1
            · rw [if_neg (by simp [ht])] at HA2
              have HA3 := Lib.hid HA2
              have e1 : (t != 1) = false := by simp [ht]
              clear h3 HA2 ht
              generalize (⟨xa.toArray⟩ : ByteArray) = U at *
              generalize (⟨xc.toArray⟩ : ByteArray) = V at *
              go_wp2_with (first | (go_at_call 35; (with_reducible refine (TO.out _ (by repeat (first | (with_reducible exact HBW) | (with_reducible refine Below.setCell ?_ (by first | (simp; done) | (simp; omega) | omega) _) | (with_reducible refine Below.alloc ?_ (by first | (simp; done) | (simp; omega) | omega) _)))).mono ?_); rintro e w4 ⟨rfl, hb4⟩; obtain ⟨hc4, hf4⟩ := bcell hb4; (try simp only [drew_size, drew_cell, drew_frozen, World.size_alloc, World.size_setCell] at hc4 hf4); have hz4 : w.heap.size < w4.heap.size ∧ wo.heap.size < w4.heap.size := (by have := hb4.size; (try simp at this); omega); have hB4 : Below w.heap.size w w4 := (by refine Below.trans ?_ (hb4.mono (by first | (simp; done) | (simp; omega) | omega)); repeat (first | (with_reducible exact HBW) | (with_reducible refine Below.setCell ?_ (by first | (simp; done) | (simp; omega) | omega) _) | (with_reducible refine Below.alloc ?_ (by first | (simp; done) | (simp; omega) | omega) _))); have hD4 : Below (w.heap.size + 1) W1 w4 := (by refine Below.trans ?_ (hb4.mono (by first | (simp; done) | (simp; omega) | omega)); repeat (first | (with_reducible exact HB.out) | (with_reducible refine Below.setCell ?_ (by first | (simp; done) | (simp; omega) | omega) _) | (with_reducible refine Below.alloc ?_ (by first | (simp; done) | (simp; omega) | omega) _)))))
              go_roundw
              case rel => exact ⟨k + 1, by omega, by go_num, HA3, Lib.hid hD4⟩
              case measure => first | (simp [intOf]; done) | (simp [intOf]; omega)
            · rw [if_pos ⟨h3, ht⟩] at HA2
              rw [HA2] at HQ
              have e1 : (t != 1) = true := by simp [ht]
              clear h3 HA2 ht
              generalize (⟨xa.toArray⟩ : ByteArray) = U at *
              generalize (⟨xc.toArray⟩ : ByteArray) = V at *
              go_wp2_with (first | (go_at_call 35; (with_reducible refine (TO.out _ (by repeat (first | (with_reducible exact HBW) | (with_reducible refine Below.setCell ?_ (by first | (simp; done) | (simp; omega) | omega) _) | (with_reducible refine Below.alloc ?_ (by first | (simp; done) | (simp; omega) | omega) _)))).mono ?_); rintro e w4 ⟨rfl, hb4⟩; obtain ⟨hc4, hf4⟩ := bcell hb4; (try simp only [drew_size, drew_cell, drew_frozen, World.size_alloc, World.size_setCell] at hc4 hf4); have hz4 : w.heap.size < w4.heap.size ∧ wo.heap.size < w4.heap.size := (by have := hb4.size; (try simp at this); omega); have hB4 : Below w.heap.size w w4 := (by refine Below.trans ?_ (hb4.mono (by first | (simp; done) | (simp; omega) | omega)); repeat (first | (with_reducible exact HBW) | (with_reducible refine Below.setCell ?_ (by first | (simp; done) | (simp; omega) | omega) _) | (with_reducible refine Below.alloc ?_ (by first | (simp; done) | (simp; omega) | omega) _))); have hD4 : Below (w.heap.size + 1) W1 w4 := (by refine Below.trans ?_ (hb4.mono (by first | (simp; done) | (simp; omega) | omega)); repeat (first | (with_reducible exact HB.out) | (with_reducible refine Below.setCell ?_ (by first | (simp; done) | (simp; omega) | omega) _) | (with_reducible refine Below.alloc ?_ (by first | (simp; done) | (simp; omega) | omega) _)))))
              exact HQ.out _ hB4
          · rw [decide_eq_false h3] at S3
            rw [if_neg (by simp [h3])] at HA2
            have HA3 := Lib.hid HA2
            clear h3 HA2
            generalize (⟨xa.toArray⟩ : ByteArray) = U at *
            generalize (⟨xc.toArray⟩ : ByteArray) = V at *
            go_wp2_with (first | (go_at_call 35; (with_reducible refine (TO.out _ (by repeat (first | (with_reducible exact HBW) | (with_reducible refine Below.setCell ?_ (by first | (simp; done) | (simp; omega) | omega) _) | (with_reducible refine Below.alloc ?_ (by first | (simp; done) | (simp; omega) | omega) _)))).mono ?_); rintro e w4 ⟨rfl, hb4⟩; obtain ⟨hc4, hf4⟩ := bcell hb4; (try simp only [drew_size, drew_cell, drew_frozen, World.size_alloc, World.size_setCell] at hc4 hf4); have hz4 : w.heap.size < w4.heap.size ∧ wo.heap.size < w4.heap.size := (by have := hb4.size; (try simp at this); omega); have hB4 : Below w.heap.size w w4 := (by refine Below.trans ?_ (hb4.mono (by first | (simp; done) | (simp; omega) | omega)); repeat (first | (with_reducible exact HBW) | (with_reducible refine Below.setCell ?_ (by first | (simp; done) | (simp; omega) | omega) _) | (with_reducible refine Below.alloc ?_ (by first | (simp; done) | (simp; omega) | omega) _))); have hD4 : Below (w.heap.size + 1) W1 w4 := (by refine Below.trans ?_ (hb4.mono (by first | (simp; done) | (simp; omega) | omega)); repeat (first | (with_reducible exact HB.out) | (with_reducible refine Below.setCell ?_ (by first | (simp; done) | (simp; omega) | omega) _) | (with_reducible refine Below.alloc ?_ (by first | (simp; done) | (simp; omega) | omega) _)))))
            go_roundw
            case rel => exact ⟨k + 1, by omega, by go_num, HA3, Lib.hid hD4⟩
            case measure => first | (simp [intOf]; done) | (simp [intOf]; omega)
    · obtain rfl : k = l.length := by omega
      have hkk : ¬ (l.length : Int) < (l.length : Int) := by omega
      have hz := HA.out
      rw [List.drop_length] at hz
      clear HA
      go_wp2
      rw [show itemsE s [] = 0 from rfl] at hz
      rw [hz] at HQ
      exact HQ.out _ HBW
set_option maxHeartbeats 8000000 in
set_option maxRecDepth 100000 in
theorem once_any (s : SchT) (A1 : Option Addr) (c1 : Nat) (A2 : Option Addr) (c2 : Nat) (A : Option Addr) (c : Nat) (l : List (List UInt8)) (hn : l.length ≤ 1000000) (hcs : s.cols.length ≤ 1000000000000000) (w : World) (H : SchV w s A1 c1 A2 c2) (HL : Strs w A l) (hcp : l.length ≤ c) :
    Calls Tryz.prog 76 #[.agg #[.string ⟨s.table.toArray⟩, .slice A1 s.cols.length c1, .slice A2 s.key.length c2], .slice A l.length c] w fun e w' => e = .returned (.int .i64 (onceE s l 0 l)) ∧ Below w.heap.size w w' := by
  suffices key : ∀ Q : Ending → World → Prop, Hid (∀ w', Below w.heap.size w w' → Q (.returned (.int .i64 (onceE s l 0 l))) w') → Calls Tryz.prog 76 #[.agg #[.string ⟨s.table.toArray⟩, .slice A1 s.cols.length c1, .slice A2 s.key.length c2], .slice A l.length c] w Q from key _ (Lib.hid fun w' h' => ⟨rfl, h'⟩)
  intro Q HQ
  have HT := Lib.hid HL
  obtain ⟨W1, hW1⟩ : ∃ W1, W1 = w.alloc (.cells #[.string ⟨s.table.toArray⟩, .slice A1 s.cols.length c1, .slice A2 s.key.length c2] 59) := ⟨_, rfl⟩
  have HW1 : Below w.heap.size w W1 := by rw [hW1]; exact (Below.refl _ _).alloc (Nat.le_refl _) _
  have hs1 : W1.heap.size = w.heap.size + 1 := by rw [hW1]; simp
  have TO := Lib.hid (fun n W (hb : Below w.heap.size w W) => typeOf_any s A1 c1 A2 c2 n W (H.cl.below hb) hcs)
  obtain ⟨T, hT⟩ : ∃ x : ByteArray, (⟨s.table.toArray⟩ : ByteArray) = x := ⟨_, rfl⟩
  rw [hT] at TO hW1 ⊢
  clear hT HL H
  go_enter Tryz.func76, Tryz.ntmps76
  go_wp2_with (fail)
  rw [← hW1]
  go_loopw [11] (fun j wr => ∃ k : Nat, k ≤ l.length ∧ j = .int .i64 k ∧ Hid (onceE s l 0 l = onceE s l k (l.drop k)) ∧ Hid (Below (w.heap.size + 1) W1 wr)) (fun j _ => l.length - (intOf j).toNat)
  case atStart => exact ⟨0, by omega, rfl, Lib.hid rfl, Lib.hid (Below.refl _ _)⟩
  case round =>
    obtain ⟨k, hk, rfl, HA, HB⟩ := hrel
    obtain ⟨wo, rfl⟩ : ∃ wo : World, wo = wr := ⟨_, rfl⟩
    have HBW : Below w.heap.size w wo := HW1.trans (HB.out.mono (by omega))
    have hso : w.heap.size < wo.heap.size := by have := HB.out.size; omega
    obtain ⟨hcb, hfb⟩ := bcell (W := W1) (w1 := wo) (by rw [hs1]; exact HB.out)
    rw [hs1] at hcb hfb
    have hw0 := hcb w.heap.size 0 (by omega)
    have hw1 := hcb w.heap.size 1 (by omega)
    have hw2 := hcb w.heap.size 2 (by omega)
    rw [hW1] at hw0 hw1 hw2
    simp [go_sem] at hw0 hw1 hw2
    clear hcb hfb
    by_cases hlt : k < l.length
    · have hlt' : (k : Int) < (l.length : Int) := by omega
      obtain ⟨x, hx⟩ : ∃ x, l[k]? = some x := ⟨_, List.getElem?_eq_getElem hlt⟩
      have hdr : l.drop k = x :: l.drop (k + 1) := by
        rw [List.drop_eq_getElem_cons hlt]
        have := List.getElem?_eq_getElem hlt
        rw [hx] at this; injection this with this; rw [this]
      obtain ⟨b, off, rfl, hb, k0⟩ := (HT.out.below HBW) k x hx
      rw [hdr] at HA
      have TO := Lib.hid (fun W hb => TO.out x W hb)
      have CT := Lib.hid (fun W (T : Strs W (some ⟨b, off, none⟩) (l.take k)) => contains_any (some ⟨b, off, none⟩) c (l.take k) k (by rw [List.length_take]; omega) (by omega) x W T)
      have HTK := Lib.hid (fun W (hb : Below w.heap.size w W) => show Strs W (some ⟨b, off, none⟩) (l.take k) from fun i y hi => by
        have hik := (List.getElem?_eq_some_iff.1 hi).1
        rw [List.length_take] at hik
        rw [List.getElem?_take_of_lt (by omega)] at hi
        exact (HT.out.below hb) i y hi)
      have HA2 := HA.out
      rw [onceE] at HA2
      clear hdr hx HA
      have hkc : (k : Int) ≤ (c : Int) ∧ k ≤ c := by omega
      cases hi : typI s x with
      | false =>
        rw [hi] at TO
        rw [if_pos hi] at HA2
        rw [HA2] at HQ
        clear hi HA2
        generalize (⟨x.toArray⟩ : ByteArray) = V at *
        go_wp2_with (first | (go_at_call 35; (with_reducible refine (TO.out _ (by repeat (first | (with_reducible exact HBW) | (with_reducible refine Below.setCell ?_ (by first | (simp; done) | (simp; omega) | omega) _) | (with_reducible refine Below.alloc ?_ (by first | (simp; done) | (simp; omega) | omega) _)))).mono ?_); rintro e w4 ⟨rfl, hb4⟩; obtain ⟨hc4, hf4⟩ := bcell hb4; (try simp only [drew_size, drew_cell, drew_frozen, World.size_alloc, World.size_setCell] at hc4 hf4); have hz4 : w.heap.size < w4.heap.size := (by have := hb4.size; (try simp at this); omega); have hB4 : Below w.heap.size w w4 := (by refine Below.trans ?_ (hb4.mono (by first | (simp; done) | (simp; omega) | omega)); repeat (first | (with_reducible exact HBW) | (with_reducible refine Below.setCell ?_ (by first | (simp; done) | (simp; omega) | omega) _) | (with_reducible refine Below.alloc ?_ (by first | (simp; done) | (simp; omega) | omega) _))); have hD4 : Below (w.heap.size + 1) W1 w4 := (by refine Below.trans ?_ (hb4.mono (by first | (simp; done) | (simp; omega) | omega)); repeat (first | (with_reducible exact HB.out) | (with_reducible refine Below.setCell ?_ (by first | (simp; done) | (simp; omega) | omega) _) | (with_reducible refine Below.alloc ?_ (by first | (simp; done) | (simp; omega) | omega) _)))))
        exact HQ.out _ hB4
      | true =>
        rw [hi] at TO
        rw [if_neg (by rw [hi]; decide)] at HA2
        clear hi
        cases hc : (l.take k).contains x with
        | true =>
          rw [hc] at CT
          rw [if_pos hc] at HA2
          rw [HA2] at HQ
          clear hc HA2
          generalize (⟨x.toArray⟩ : ByteArray) = V at *
          go_wp2_with (first | (go_at_call 35; (with_reducible refine (TO.out _ (by repeat (first | (with_reducible exact HBW) | (with_reducible refine Below.setCell ?_ (by first | (simp; done) | (simp; omega) | omega) _) | (with_reducible refine Below.alloc ?_ (by first | (simp; done) | (simp; omega) | omega) _)))).mono ?_); rintro e w4 ⟨rfl, hb4⟩; obtain ⟨hc4, hf4⟩ := bcell hb4; (try simp only [drew_size, drew_cell, drew_frozen, World.size_alloc, World.size_setCell] at hc4 hf4); have hz4 : w.heap.size < w4.heap.size := (by have := hb4.size; (try simp at this); omega); have hB4 : Below w.heap.size w w4 := (by refine Below.trans ?_ (hb4.mono (by first | (simp; done) | (simp; omega) | omega)); repeat (first | (with_reducible exact HBW) | (with_reducible refine Below.setCell ?_ (by first | (simp; done) | (simp; omega) | omega) _) | (with_reducible refine Below.alloc ?_ (by first | (simp; done) | (simp; omega) | omega) _))); have hD4 : Below (w.heap.size + 1) W1 w4 := (by refine Below.trans ?_ (hb4.mono (by first | (simp; done) | (simp; omega) | omega)); repeat (first | (with_reducible exact HB.out) | (with_reducible refine Below.setCell ?_ (by first | (simp; done) | (simp; omega) | omega) _) | (with_reducible refine Below.alloc ?_ (by first | (simp; done) | (simp; omega) | omega) _)))) | (go_at_call 78; (with_reducible refine (CT.out _ (HTK.out _ hB4)).mono ?_); rintro e w5 ⟨rfl, h5⟩; subst h5))
          exact HQ.out _ hB4
        | false =>
          rw [hc] at CT
          rw [if_neg (by rw [hc]; decide)] at HA2
          have HA3 := Lib.hid HA2
          clear hc HA2
          generalize (⟨x.toArray⟩ : ByteArray) = V at *
          go_wp2_with (first | (go_at_call 35; (with_reducible refine (TO.out _ (by repeat (first | (with_reducible exact HBW) | (with_reducible refine Below.setCell ?_ (by first | (simp; done) | (simp; omega) | omega) _) | (with_reducible refine Below.alloc ?_ (by first | (simp; done) | (simp; omega) | omega) _)))).mono ?_); rintro e w4 ⟨rfl, hb4⟩; obtain ⟨hc4, hf4⟩ := bcell hb4; (try simp only [drew_size, drew_cell, drew_frozen, World.size_alloc, World.size_setCell] at hc4 hf4); have hz4 : w.heap.size < w4.heap.size := (by have := hb4.size; (try simp at this); omega); have hB4 : Below w.heap.size w w4 := (by refine Below.trans ?_ (hb4.mono (by first | (simp; done) | (simp; omega) | omega)); repeat (first | (with_reducible exact HBW) | (with_reducible refine Below.setCell ?_ (by first | (simp; done) | (simp; omega) | omega) _) | (with_reducible refine Below.alloc ?_ (by first | (simp; done) | (simp; omega) | omega) _))); have hD4 : Below (w.heap.size + 1) W1 w4 := (by refine Below.trans ?_ (hb4.mono (by first | (simp; done) | (simp; omega) | omega)); repeat (first | (with_reducible exact HB.out) | (with_reducible refine Below.setCell ?_ (by first | (simp; done) | (simp; omega) | omega) _) | (with_reducible refine Below.alloc ?_ (by first | (simp; done) | (simp; omega) | omega) _)))) | (go_at_call 78; (with_reducible refine (CT.out _ (HTK.out _ hB4)).mono ?_); rintro e w5 ⟨rfl, h5⟩; subst h5))
          go_roundw
          case rel => exact ⟨k + 1, by omega, by go_num, HA3, Lib.hid hD4⟩
          case measure => first | (simp [intOf]; done) | (simp [intOf]; omega)
    · obtain rfl : k = l.length := by omega
      have hkk : ¬ (l.length : Int) < (l.length : Int) := by omega
      have hz := HA.out
      rw [List.drop_length] at hz
      clear HA
      go_wp2
      rw [show onceE s l l.length [] = 0 from rfl] at hz
      rw [hz] at HQ
      exact HQ.out _ HBW
end Go.Proofs.YtijlifdbjhieaaaGreatDoor
