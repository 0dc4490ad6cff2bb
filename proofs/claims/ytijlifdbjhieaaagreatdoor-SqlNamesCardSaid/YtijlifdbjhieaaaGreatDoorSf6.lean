/-
  The printer's small parts: terms, items, orders.
-/
import Derived.Test.YtijlifdbjhieaaaGreatDoorSf5
import Derived.Lib.ReplaceLaws
import Derived.Lib.SmallJoins
namespace Go.Proofs.YtijlifdbjhieaaaGreatDoor
set_option linter.all false
open Go.RowKit Go.Shelf
attribute [local go_sem] cell_set_self lt_1 lt_2 lt_3 lt_4 lt_5 lt_6

theorem idx39_hit (r : List UInt8) : Lib.index (39 :: r) [39] = (0 : Nat) := rfl
theorem idx39_skip {c : UInt8} (h : ¬ c = 39) (r : List UInt8) : Lib.index (c :: r) [39] = if Lib.index r [39] == -1 then -1 else Lib.index r [39] + 1 := by
  have : (39 == c) = false := by simp; exact fun e => h e.symm
  rw [Lib.index]
  simp [List.isPrefixOf, this]
theorem count39_skip {c : UInt8} (h : ¬ c = 39) (r : List UInt8) : Lib.count (c :: r) [39] = Lib.count r [39] := by
  have hs := idx39_skip h r
  have hge := Lib.index_ge r [39]
  by_cases hm : Lib.index r [39] = -1
  · rw [hm] at hs
    rw [Lib.count_miss hm, Lib.count_miss (by rw [hs]; rfl)]
  · obtain ⟨i, hi⟩ : ∃ i : Nat, Lib.index r [39] = i := ⟨(Lib.index r [39]).toNat, by omega⟩
    rw [if_neg (by simpa using hm), hi] at hs
    rw [Lib.count_hit (by simp) hi, Lib.count_hit (s := c :: r) (i := i + 1) (by simp) (by rw [hs]; simp)]
    rfl
theorem rep39_skip {c : UInt8} (h : ¬ c = 39) (k : Nat) (r : List UInt8) : Lib.replaceK [39] [39, 39] k (c :: r) = c :: Lib.replaceK [39] [39, 39] k r := by
  have hs := idx39_skip h r
  have hge := Lib.index_ge r [39]
  cases k with
  | zero => rfl
  | succ k =>
    by_cases hm : Lib.index r [39] = -1
    · rw [hm] at hs
      rw [Lib.replaceK, Lib.replaceK, hm, hs]; rfl
    · obtain ⟨i, hi⟩ : ∃ i : Nat, Lib.index r [39] = i := ⟨(Lib.index r [39]).toNat, by omega⟩
      rw [if_neg (by simpa using hm), hi] at hs
      rw [Lib.replaceK_hit _ _ _ _ i hi, Lib.replaceK_hit _ _ _ _ (i + 1) (by rw [hs]; simp)]
      rfl
theorem rep39 : ∀ (l : List UInt8), Lib.replaceK [39] [39, 39] (Lib.count l [39]) l = dblQ l
  | [] => by rw [Lib.count_miss (by rfl)]; rfl
  | c :: r => by
    by_cases h : c = 39
    · subst h
      rw [Lib.count_hit (by simp) (idx39_hit r), Nat.add_comm, Lib.replaceK_hit _ _ _ _ 0 (idx39_hit r)]
      show [39, 39] ++ Lib.replaceK [39] [39, 39] (Lib.count r [39]) r = _
      rw [rep39 r, dblQ, if_pos (by decide)]; rfl
    · rw [count39_skip h, rep39_skip h, rep39 r, dblQ, if_neg (show ¬ c.toNat = 39 from fun e => h (UInt8.toNat_inj.1 e))]
theorem repAll39 (l : List UInt8) : Lib.replaceAll l [39] [39, 39] = dblQ l := by
  unfold Lib.replaceAll Lib.replace Lib.replaceNum
  rw [if_neg (by decide), if_pos (.inl (by decide)), rep39]
theorem dbl_len : ∀ (l : List UInt8), (dblQ l).length ≤ 2 * l.length
  | [] => by simp [dblQ]
  | c :: r => by
    have := dbl_len r
    unfold dblQ
    split <;> (simp; omega)
theorem quotes_any (s : List UInt8) (hs : s.length ≤ 1000000000) (w : World) (E : Env w) :
    Calls Tryz.prog 93 #[.string ⟨s.toArray⟩, .string ⟨#[39]⟩, .string ⟨#[39, 39]⟩] w fun e w' => e = .returned (.string ⟨(dblQ s).toArray⟩) ∧ Below w.heap.size w w' := by
  obtain ⟨-, ⟨m, hm⟩, -⟩ := E
  have hc := Lib.countB_le (⟨#[39]⟩ : ByteArray) (by decide) s.length ⟨s.toArray⟩ (by simp [ByteArray.size])
  have hz : (⟨s.toArray⟩ : ByteArray).size = s.length := by simp [ByteArray.size]
  have h2 : (⟨#[39, 39]⟩ : ByteArray).size = 2 := rfl
  refine (Tryz.strings_ReplaceAll ⟨s.toArray⟩ ⟨#[39]⟩ ⟨#[39, 39]⟩ m w (by omega) hm (by decide) (by rw [h2]; omega)).mono ?_
  rintro e w' ⟨rfl, hb⟩
  refine ⟨?_, hb⟩
  show Ending.returned (.string ⟨(Lib.replaceAll s [39] [39, 39]).toArray⟩) = _
  rw [repAll39]
theorem cat (a b : List UInt8) : (⟨a.toArray⟩ : ByteArray) ++ ⟨b.toArray⟩ = ⟨(a ++ b).toArray⟩ := by
  apply ByteArray.ext; simp
theorem cat_l (a : ByteArray) (l b : List UInt8) (h : a = ⟨l.toArray⟩) : a ++ ⟨b.toArray⟩ = ⟨(l ++ b).toArray⟩ := by rw [h, cat]
set_option maxHeartbeats 4000000 in
theorem itemX_any (g c : List UInt8) (hg : g.length ≤ 1000000000) (hc : c.length ≤ 1000000000) (w : World) : Calls Tryz.prog 20 #[.agg #[.string ⟨g.toArray⟩, .string ⟨c.toArray⟩]] w fun e w' => e = .returned (.string ⟨(itemX ⟨g, c⟩).toArray⟩) ∧ Below w.heap.size w w' := by
  have S2 := str_beq2 g []
  unfold itemX
  by_cases h : g = []
  · rw [decide_eq_true h] at S2
    rw [if_pos h]
    clear h
    generalize (⟨g.toArray⟩ : ByteArray) = U at *
    go_enter Tryz.func20, Tryz.ntmps20
    go_wp2_with (fail)
    go_ret
    exact ⟨rfl, (by repeat (first | exact Below.refl _ _ | refine Below.setCell ?_ (by first | (simp; done) | (simp; omega) | omega) _ | refine Below.alloc ?_ (by first | (simp; done) | (simp; omega) | omega) _ | refine Below.drew ?_ | assumption | refine Below.trans ?_ (Below.mono (by assumption) (by first | (simp; done) | (simp; omega) | omega))))⟩
  · rw [decide_eq_false h] at S2
    rw [if_neg h]
    clear h
    obtain ⟨U, hU⟩ : ∃ U : ByteArray, (⟨g.toArray⟩ : ByteArray) = U := ⟨_, rfl⟩
    have HU := Lib.hid hU
    have hz : U.size = g.length := by rw [← hU]; simp [ByteArray.size]
    have z1 : ¬ 9223372036854775807 < g.length + 1 := by omega
    have z2 : ¬ 9223372036854775807 < g.length + 1 + c.length := by omega
    have z3 : ¬ 9223372036854775807 < g.length + 1 + c.length + 1 := by omega
    rw [hU] at S2 ⊢
    clear hU hg hc
    go_enter Tryz.func20, Tryz.ntmps20
    go_wp2_with (fail)
    go_ret
    exact ⟨congrArg (fun s => Ending.returned (.string s)) (cat_l _ _ [41] (cat_l _ _ c (cat_l U g [40] HU.out.symm))), (by repeat (first | exact Below.refl _ _ | refine Below.setCell ?_ (by first | (simp; done) | (simp; omega) | omega) _ | refine Below.alloc ?_ (by first | (simp; done) | (simp; omega) | omega) _ | refine Below.drew ?_ | assumption | refine Below.trans ?_ (Below.mono (by assumption) (by first | (simp; done) | (simp; omega) | omega))))⟩
set_option maxHeartbeats 4000000 in
theorem orderX_any (c : List UInt8) (d : Bool) (hc : c.length ≤ 1000000000) (w : World) : Calls Tryz.prog 24 #[.agg #[.string ⟨c.toArray⟩, .bool d]] w fun e w' => e = .returned (.string ⟨(orderX ⟨c, d⟩).toArray⟩) ∧ Below w.heap.size w w' := by
  unfold orderX
  have z1 : ¬ 9223372036854775807 < c.length + 5 := by omega
  clear hc
  cases d with
  | true =>
    go_enter Tryz.func24, Tryz.ntmps24
    go_wp2_with (fail)
    go_ret
    exact ⟨congrArg (fun s => Ending.returned (.string s)) (cat c [32, 100, 101, 115, 99]), (by repeat (first | exact Below.refl _ _ | refine Below.setCell ?_ (by first | (simp; done) | (simp; omega) | omega) _ | refine Below.alloc ?_ (by first | (simp; done) | (simp; omega) | omega) _ | refine Below.drew ?_ | assumption | refine Below.trans ?_ (Below.mono (by assumption) (by first | (simp; done) | (simp; omega) | omega))))⟩
  | false =>
    rw [if_neg (by simp)]
    dsimp only
    generalize (⟨c.toArray⟩ : ByteArray) = U at *
    go_enter Tryz.func24, Tryz.ntmps24
    go_wp2_with (fail)
    go_ret
    exact ⟨rfl, (by repeat (first | exact Below.refl _ _ | refine Below.setCell ?_ (by first | (simp; done) | (simp; omega) | omega) _ | refine Below.alloc ?_ (by first | (simp; done) | (simp; omega) | omega) _ | refine Below.drew ?_ | assumption | refine Below.trans ?_ (Below.mono (by assumption) (by first | (simp; done) | (simp; omega) | omega))))⟩
set_option maxHeartbeats 4000000 in
set_option maxRecDepth 100000 in
theorem termX_any (c : List UInt8) (ty n : Int) (s : List UInt8) (hb : termB ⟨c, ty, n, s⟩ = true) (w : World) (E : Env w) :
    Calls Tryz.prog 47 #[.agg #[.string ⟨c.toArray⟩, .int .i64 ty, .int .i64 n, .string ⟨s.toArray⟩]] w fun e w' => e = .returned (.string ⟨(termX ⟨c, ty, n, s⟩).toArray⟩) ∧ Below w.heap.size w w' := by
  unfold termX
  unfold termB at hb
  dsimp only at hb ⊢
  have HE := Lib.hid E
  clear E
  by_cases h0 : ty = 0
  · have e0 : (ty == 0) = true := by simp [h0]
    rw [if_pos h0]
    clear h0 hb
    generalize (⟨c.toArray⟩ : ByteArray) = U at *
    generalize (⟨s.toArray⟩ : ByteArray) = V at *
    go_enter Tryz.func47, Tryz.ntmps47
    go_wp2_with (fail)
    go_ret
    exact ⟨rfl, (by repeat (first | exact Below.refl _ _ | refine Below.setCell ?_ (by first | (simp; done) | (simp; omega) | omega) _ | refine Below.alloc ?_ (by first | (simp; done) | (simp; omega) | omega) _ | refine Below.drew ?_ | assumption | refine Below.trans ?_ (Below.mono (by assumption) (by first | (simp; done) | (simp; omega) | omega))))⟩
  · have e0 : (ty == 0) = false := by simp [h0]
    rw [if_neg h0] at hb ⊢
    by_cases h1 : ty = 1
    · have e1 : (ty == 1) = true := by simp [h1]
      rw [if_pos h1] at hb ⊢
      simp only [Bool.and_eq_true, decide_eq_true_eq] at hb
      have IT := Lib.hid (fun W E' => itoa_any n (by omega) (by omega) W E')
      clear h0 h1 hb
      generalize (⟨c.toArray⟩ : ByteArray) = U at *
      generalize (⟨s.toArray⟩ : ByteArray) = V at *
      generalize Lib.itoa n = In at *
      go_enter Tryz.func47, Tryz.ntmps47
      go_wp2_with (first | (go_at_call 25; (with_reducible refine (IT.out _ (HE.out.below (by repeat (first | exact Below.refl _ _ | refine Below.setCell ?_ (by first | (simp; done) | (simp; omega) | omega) _ | refine Below.alloc ?_ (by first | (simp; done) | (simp; omega) | omega) _ | refine Below.drew ?_ | assumption | refine Below.trans ?_ (Below.mono (by assumption) (by first | (simp; done) | (simp; omega) | omega)))))).mono ?_); rintro e w3 ⟨rfl, hb3⟩))
      go_ret
      exact ⟨rfl, (by repeat (first | exact Below.refl _ _ | refine Below.setCell ?_ (by first | (simp; done) | (simp; omega) | omega) _ | refine Below.alloc ?_ (by first | (simp; done) | (simp; omega) | omega) _ | refine Below.drew ?_ | assumption | refine Below.trans ?_ (Below.mono (by assumption) (by first | (simp; done) | (simp; omega) | omega))))⟩
    · have e1 : (ty == 1) = false := by simp [h1]
      rw [if_neg h1] at hb ⊢
      simp only [Bool.and_eq_true, decide_eq_true_eq] at hb
      have hs : s.length ≤ 1000000000 := by
        have := hb.2
        unfold textB at this
        simp only [Bool.and_eq_true, decide_eq_true_eq] at this
        omega
      have QU := Lib.hid (fun W E' => quotes_any s hs W E')
      have hdl := dbl_len s
      have z1 : ¬ 9223372036854775807 < 1 + (dblQ s).length := by omega
      have z2 : ¬ 9223372036854775807 < 1 + (dblQ s).length + 1 := by omega
      clear hdl
      clear h0 h1 hb hs
      generalize dblQ s = D at *
      generalize (⟨c.toArray⟩ : ByteArray) = U at *
      generalize (⟨s.toArray⟩ : ByteArray) = V at *
      go_enter Tryz.func47, Tryz.ntmps47
      go_wp2_with (first | (go_at_call 93; (with_reducible refine (QU.out _ (HE.out.below (by repeat (first | exact Below.refl _ _ | refine Below.setCell ?_ (by first | (simp; done) | (simp; omega) | omega) _ | refine Below.alloc ?_ (by first | (simp; done) | (simp; omega) | omega) _ | refine Below.drew ?_ | assumption | refine Below.trans ?_ (Below.mono (by assumption) (by first | (simp; done) | (simp; omega) | omega)))))).mono ?_); rintro e w3 ⟨rfl, hb3⟩))
      go_ret
      exact ⟨congrArg (fun s => Ending.returned (.string s)) (cat_l _ _ [39] (cat [39] D)), (by repeat (first | exact Below.refl _ _ | refine Below.setCell ?_ (by first | (simp; done) | (simp; omega) | omega) _ | refine Below.alloc ?_ (by first | (simp; done) | (simp; omega) | omega) _ | refine Below.drew ?_ | assumption | refine Below.trans ?_ (Below.mono (by assumption) (by first | (simp; done) | (simp; omega) | omega))))⟩
end Go.Proofs.YtijlifdbjhieaaaGreatDoor
