/-
  What http's reader calls in the library; contracts of http.length and http.header.
-/
import Derived.Test.YtkaimfeiahogaaaGreatDoorHk1
import Derived.WalkSmall
import Derived.Lib.AppendIntMem
namespace Go.Proofs.YtkaimfeiahogaaaGreatDoor
set_option linter.all false
open Go.RowKit Go.Shelf
attribute [local go_sem] cell_set_self lt_1 lt_2 lt_3 lt_4 lt_5 lt_6

theorem gPow : Tryz.prog.globalNamed "internal/strconv.uint64pow10" = some 1 := by kernel_rfl
theorem gErr : Tryz.prog.globalNamed "strconv.ErrRange" = some 3 := by kernel_rfl
/-- What the library's calls read. -/
def Env (w : World) : Prop := 9 ≤ w.heap.size ∧ (∃ m, w.cell? ⟨4, 0, none⟩ = some (.int .i64 m)) ∧ Lib.TabIs Tryz.prog w "internal/strconv.uint64pow10" .u64 Lib.pow10Tab ∧ (∃ tp p, w.var? Tryz.prog "strconv.ErrRange" = some #[.iface tp p]) ∧ Lib.CaseVar 0 Lib.caseA w ∧ Lib.Utf8Tabs 5 6 w
theorem Env.below {w w' : World} (h : Env w) (hb : Below w.heap.size w w') : Env w' := by
  obtain ⟨h0, ⟨m, hm⟩, ht, ⟨tp, p, hv⟩, hc, hu⟩ := h
  refine ⟨Nat.le_trans h0 hb.size, ⟨m, by rw [hb.cell (p := ⟨_, 0, none⟩) (Nat.lt_of_lt_of_le (by decide) h0), hm]⟩, ?_, ⟨tp, p, ?_⟩, Lib.CaseVar_below hc hb, Utf8Tabs_below hu hb⟩
  · exact var?_below hb gPow (Nat.lt_of_lt_of_le (by decide) h0) ht
  · exact var?_below hb gErr (Nat.lt_of_lt_of_le (by decide) h0) hv
/-- A slice of strings that lies in memory. -/
def Strs (w : World) (A : Option Addr) (xs : List (List UInt8)) : Prop := ∀ (i : Nat) (x : List UInt8), xs[i]? = some x → ∃ b off, A = some ⟨b, off, none⟩ ∧ b < w.heap.size ∧ w.cell? ⟨b, off + i, none⟩ = some (.string ⟨x.toArray⟩)
theorem Strs.below {w w' : World} {A : Option Addr} {l : List (List UInt8)} (h : Strs w A l) (hb : Below w.heap.size w w') : Strs w' A l := fun i p hi => by
  obtain ⟨b, off, h1, h2, h3⟩ := h i p hi
  obtain ⟨hc, _⟩ := bcell hb
  exact ⟨b, off, h1, Nat.lt_of_lt_of_le h2 hb.size, by rw [hc _ _ h2, h3]⟩
def cutW (c : UInt8) (l : List UInt8) : List UInt8 × List UInt8 × Bool := match cutAt c l with
  | none => (l, [], false)
  | some (a, b) => (a, b, true)
theorem cutW_eq (c : UInt8) (l : List UInt8) : Lib.cut l [c] = cutW c l := by
  unfold Lib.cut cutW
  rcases first_byte c l with ⟨h1, h2⟩ | ⟨z, r, h1, h2, h3⟩
  · rw [h1, cutAt_free h2, if_neg (by decide)]
  · rw [h3, if_pos (by omega)]
    subst h1
    rw [cutAt_hit r h2]
    simp
theorem cutW_cases (c : UInt8) (l : List UInt8) : (cutW c l = (l, [], false) ∧ cutAt c l = none ∧ ∀ b ∈ l, b ≠ c) ∨ ∃ z r, l = z ++ c :: r ∧ (∀ b ∈ z, b ≠ c) ∧ cutAt c l = some (z, r) ∧ cutW c l = (z, r, true) := by
  unfold cutW
  rcases first_byte c l with ⟨_, h2⟩ | ⟨z, r, h1, h2, _⟩
  · exact .inl ⟨by rw [cutAt_free h2], cutAt_free h2, h2⟩
  · exact .inr ⟨z, r, h1, h2, by rw [h1, cutAt_hit r h2], by rw [h1, cutAt_hit r h2]⟩
theorem cutc_any (c : UInt8) (l : List UInt8) (hl : l.length ≤ 1000000000) (w : World) (E : Env w) :
    Calls Tryz.prog 68 #[.string ⟨l.toArray⟩, .string ⟨#[c]⟩] w fun e w' => e = .returned (.tuple #[.string ⟨(cutW c l).1.toArray⟩, .string ⟨(cutW c l).2.1.toArray⟩, .bool (cutW c l).2.2]) ∧ Below w.heap.size w w' := by
  obtain ⟨_, ⟨m, hm⟩, _⟩ := E
  refine (Tryz.strings_Cut ⟨l.toArray⟩ ⟨#[c]⟩ m w (by rw [ba_sz]; omega) hm).mono ?_
  rintro e w' ⟨rfl, n, rfl⟩
  refine ⟨?_, below_drewN (Below.refl _ _) _⟩
  have h := cutW_eq c l
  simp only [h]
theorem split32_any (l : List UInt8) (hl : l.length ≤ 1000000) (w : World) (E : Env w) :
    Calls Tryz.prog 66 #[.string ⟨l.toArray⟩, .string ⟨#[32]⟩] w fun e w' => (e = .returned (.slice (some ⟨w.heap.size, 0, none⟩) (pieces 32 l).length (pieces 32 l).length) ∧ Strs w' (some ⟨w.heap.size, 0, none⟩) (pieces 32 l)) ∧ Below w.heap.size w w' := by
  obtain ⟨_, ⟨m, hm⟩, _⟩ := E
  refine (Tryz.strings_Split ⟨l.toArray⟩ ⟨#[32]⟩ m w (by rw [ba_sz]; omega) hm (by decide)).mono ?_
  rintro e w' ⟨rfl, rfl⟩
  have hd := Lib.splitB_data ⟨#[32]⟩ 0 (Lib.countB ⟨l.toArray⟩ ⟨#[32]⟩) ⟨l.toArray⟩
  have hp : Lib.splitK [32] 0 (Lib.count l [32]) l = pieces 32 l := split_pieces 32 _ l (Nat.le_refl _)
  have hd2 : (Lib.splitB ⟨#[32]⟩ 0 (Lib.countB ⟨l.toArray⟩ ⟨#[32]⟩) ⟨l.toArray⟩).map (·.data.toList) = pieces 32 l := hd.trans hp
  have hn := Lib.splitB_all ⟨#[32]⟩ (by decide) 0 (Lib.countB ⟨l.toArray⟩ ⟨#[32]⟩) ⟨l.toArray⟩ rfl
  have hln : (pieces 32 l).length = Lib.countB ⟨l.toArray⟩ ⟨#[32]⟩ + 1 := by rw [← hd2, List.length_map]; exact hn
  refine ⟨⟨by rw [hln], ?_⟩, Below.alloc (Below.refl _ _) (Nat.le_refl _) _⟩
  intro i x hx
  refine ⟨w.heap.size, 0, rfl, by simp, ?_⟩
  rw [← hd2] at hx
  simp only [List.getElem?_map, Option.map_eq_some_iff] at hx
  obtain ⟨y, hy, rfl⟩ := hx
  have hc : ((Lib.splitB ⟨#[32]⟩ 0 (Lib.countB ⟨l.toArray⟩ ⟨#[32]⟩) ⟨l.toArray⟩).map Value.string)[i]? = some (.string y) := by rw [List.getElem?_map, hy]; rfl
  generalize (Lib.splitB ⟨#[32]⟩ 0 (Lib.countB ⟨l.toArray⟩ ⟨#[32]⟩) ⟨l.toArray⟩).map Value.string = cs at hc
  simp [go_sem, hc]
theorem trim_blanks (l : List UInt8) (hl : l.length ≤ 9223372036854775807) (w : World) : Calls Tryz.prog 69 #[.string ⟨l.toArray⟩, .string ⟨#[32, 9]⟩] w fun e w' => e = .returned (.string ⟨(trimH l).toArray⟩) ∧ Below w.heap.size w w' :=
  Tryz.strings_Trim_blanks ⟨l.toArray⟩ w (by rw [ba_sz]; exact hl)
theorem lower_any (l : List UInt8) (hl : l.length ≤ 1000000000) (w : World) (E : Env w) : Calls Tryz.prog 58 #[.string ⟨l.toArray⟩] w fun e w' => e = .returned (.string ⟨(Lib.toLowerD l).toArray⟩) ∧ Below w.heap.size w w' :=
  Tryz.strings_ToLower_any ⟨l.toArray⟩ w (by rw [ba_sz]; omega) E.2.2.2.2.1 E.2.2.2.2.2
/-! ### a value's bytes; digits alone -/
def oddV (r : Nat) : Bool := decide (r ≠ 9) && (decide (r < 32) || decide (126 < r))
def oddP (r : Nat) : Bool := decide (r < 48) || decide (57 < r)
theorem pred_oddV (w : World) : PredAt Tryz.prog 70 #[] encR oddV w := fun W r _ => by
  unfold FnGives
  by_cases h0 : r = 9
  · subst h0
    go_enter Tryz.func70, Tryz.ntmps70
    go_wp2
    go_ret
    exact ⟨rfl, 0, rfl⟩
  · have z0 : ((r : Int) != 9) = true := by simp; omega
    by_cases h1 : r < 32
    · have z1 : (r : Int) < 32 := by omega
      have e : oddV r = true := by unfold oddV; simp [h0, h1]
      rw [e]
      clear h0 h1 e
      go_enter Tryz.func70, Tryz.ntmps70
      go_wp2
      go_ret
      exact ⟨rfl, 0, rfl⟩
    · have z1 : ¬ (r : Int) < 32 := by omega
      by_cases h2 : 126 < r
      · have z2 : (126 : Int) < r := by omega
        have e : oddV r = true := by unfold oddV; simp [h0, h2]
        rw [e]
        clear h0 h1 h2 e
        go_enter Tryz.func70, Tryz.ntmps70
        go_wp2
        go_ret
        exact ⟨rfl, 0, rfl⟩
      · have z2 : ¬ (126 : Int) < r := by omega
        have e : oddV r = false := by unfold oddV; simp [h1, h2]
        rw [e]
        clear h0 h1 h2 e
        go_enter Tryz.func70, Tryz.ntmps70
        go_wp2
        go_ret
        exact ⟨rfl, 0, rfl⟩
theorem pred_oddP (w : World) : PredAt Tryz.prog 73 #[] encR oddP w := fun W r _ => by
  unfold FnGives
  by_cases h1 : r < 48
  · have z1 : (r : Int) < 48 := by omega
    have e : oddP r = true := by unfold oddP; simp [h1]
    rw [e]
    go_enter Tryz.func73, Tryz.ntmps73
    go_wp2
    go_ret
    exact ⟨rfl, 0, rfl⟩
  · have z1 : ¬ (r : Int) < 48 := by omega
    by_cases h2 : 57 < r
    · have z2 : (57 : Int) < r := by omega
      have e : oddP r = true := by unfold oddP; simp [h2]
      rw [e]
      go_enter Tryz.func73, Tryz.ntmps73
      go_wp2
      go_ret
      exact ⟨rfl, 0, rfl⟩
    · have z2 : ¬ (57 : Int) < r := by omega
      have e : oddP r = false := by unfold oddP; simp [h1, h2]
      rw [e]
      go_enter Tryz.func73, Tryz.ntmps73
      go_wp2
      go_ret
      exact ⟨rfl, 0, rfl⟩
theorem contains_odd (l : List UInt8) (w : World) : Calls Tryz.prog 72 #[.string ⟨l.toArray⟩, .func (.func 70) #[] #[]] w fun e w' => e = .returned (.bool (!l.all valB)) ∧ Below w.heap.size w w' := by
  have h := Tryz.strings_ContainsFunc 70 #[] (enters_of Tryz.func70 (by kernel_rfl) rfl) oddV ⟨l.toArray⟩ w (pred_oddV w)
  rw [idx_all oddV valB (fun b hb => by
    unfold oddV valB
    by_cases h9 : b.toNat = 9
    · simp [h9]
    · by_cases h1 : b.toNat < 32
      · have : ¬ 32 ≤ b.toNat := by omega
        simp [h9, h1, this]
      · have h2 : 32 ≤ b.toNat := by omega
        by_cases h3 : b.toNat ≤ 126
        · have : ¬ 126 < b.toNat := by omega
          simp [h9, h1, h2, h3, this]
        · have : 126 < b.toNat := by omega
          simp [h9, h1, h3, this]) (fun r hr => by
    unfold oddV; simp; omega) (fun b hb => by
    unfold valB; simp; omega)] at h
  exact h
theorem contains_dig (l : List UInt8) (w : World) : Calls Tryz.prog 72 #[.string ⟨l.toArray⟩, .func (.func 73) #[] #[]] w fun e w' => e = .returned (.bool (!l.all digB)) ∧ Below w.heap.size w w' := by
  have h := Tryz.strings_ContainsFunc 73 #[] (enters_of Tryz.func73 (by kernel_rfl) rfl) oddP ⟨l.toArray⟩ w (pred_oddP w)
  rw [idx_all oddP digB (fun b hb => by
    unfold oddP digB
    rw [Bool.eq_iff_iff]; (first | (simp; done) | (simp; omega))) (fun r hr => by
    unfold oddP; simp; omega) (fun b hb => by
    unfold digB; simp; omega)] at h
  exact h
/-- strconv.Atoi at digits alone. -/
theorem atoi_fits (l : List UInt8) (h0 : l ≠ []) (hd : DigB l) (hl : l.length ≤ 1000000000) (h : dv l < 9223372036854775808) (w : World) : Calls Tryz.prog 65 #[.string ⟨l.toArray⟩] w fun e w' => e = .returned (.tuple #[.int .i64 (dv l), .nilIface]) ∧ Below w.heap.size w w' := by
  have hA := atoi_num h0 hd
  rw [if_pos h] at hA
  refine (Tryz.strconv_Atoi_ok ⟨l.toArray⟩ (by rw [ba_sz]; omega) (dv l) hA w).mono ?_
  rintro e w' ⟨rfl, hw⟩
  refine ⟨rfl, ?_⟩
  rcases hw with rfl | ⟨t, rfl⟩
  · exact Below.refl _ _
  · exact Lib.bytesWorld_below w _ t
theorem atoi_over (l : List UInt8) (h0 : l ≠ []) (hd : DigB l) (hl : l.length ≤ 1000000000) (h : ¬ dv l < 9223372036854775808) (w : World) (E : Env w) : Calls Tryz.prog 65 #[.string ⟨l.toArray⟩] w fun e w' => (∃ t q, e = .returned (.tuple #[.int .i64 9223372036854775807, .iface t (.pointer (some q))])) ∧ Below w.heap.size w w' := by
  have hA := atoi_num h0 hd
  rw [if_neg h] at hA
  have hs := sat_num h0 hd
  obtain ⟨_, _, _, ⟨tp, p, hv⟩, _⟩ := E
  refine (Tryz.strconv_Atoi_range_var ⟨l.toArray⟩ (by rw [ba_sz]; omega) hA tp p w hv).mono ?_
  rintro e w' ⟨N, rfl, _, _, hb⟩
  have hs2 : Lib.atoiSat (⟨l.toArray⟩ : ByteArray).data.toList = 9223372036854775807 := hs
  rw [hs2]
  exact ⟨⟨_, _, rfl⟩, hb⟩
theorem itoa_any (z : Int) (h0 : -9223372036854775808 ≤ z) (h1 : z ≤ 9223372036854775807) (w : World) (h : Env w) : Calls Tryz.prog 38 #[.int .i64 z] w fun e w' => e = .returned (.string ⟨(txt z).toArray⟩) ∧ Below w.heap.size w w' := by
  refine (Tryz.strconv_Itoa z h0 h1 w h.2.2.1).mono ?_
  rintro e w' ⟨rfl, k, os, rfl⟩
  exact ⟨by rw [itoa_txt], Lib.below_grow _ w (Nat.le_refl _) k os⟩
def lenV (v : List UInt8) : Int := if lenE v = 0 then dv v else 0
set_option maxHeartbeats 4000000 in
set_option maxRecDepth 100000 in
/-- http.length. -/
theorem length_any (v : List UInt8) (hv : v.length ≤ 1000000000) (w : World) (E : Env w) : Calls Tryz.prog 57 #[.string ⟨v.toArray⟩] w fun e w' => e = .returned (.tuple #[.int .i64 (lenV v), .int .i64 (lenE v)]) ∧ Below w.heap.size w w' := by
  have C0 := Lib.hid (fun W => contains_dig v W)
  cases v with
  | nil =>
    clear C0 E
    have e1 : lenV [] = 0 := rfl
    have e2 : lenE [] = 10 := rfl
    rw [e1, e2]
    go_enter Tryz.func57, Tryz.ntmps57
    go_wp2
    go_ret2
    exact ⟨rfl, (by repeat (first | exact Below.refl _ _ | refine Below.setCell ?_ (by first | (simp; done) | (simp; omega) | omega) _ | refine Below.alloc ?_ (by first | (simp; done) | (simp; omega) | omega) _ | refine Below.drew ?_ | assumption | refine Below.trans ?_ (Below.mono (by assumption) (by first | (simp; done) | (simp; omega) | omega))))⟩
  | cons c r =>
    have e0 : ((⟨(c :: r).toArray⟩ : ByteArray).toList == []) = false := by rw [ByteArray.toList_mk]; rfl
    have e0' : (⟨(c :: r).toArray⟩ : ByteArray).toList.isEmpty = false := by rw [ByteArray.toList_mk]; rfl
    have hts : (⟨(c :: r).toArray⟩ : ByteArray).size = r.length + 1 := by rw [ba_sz]; rfl
    cases ha : (c :: r).all digB with
    | false =>
      rw [ha] at C0
      have e2 : lenE (c :: r) = 10 := by
        unfold lenE
        have : numF (c :: r) = false := by
          unfold numF
          have ha2 : ((c :: r).all fun b => decide (48 ≤ b.toNat) && decide (b.toNat ≤ 57)) = false := ha
          rw [ha2]; simp
        rw [this, if_neg (by simp)]
      have e1 : lenV (c :: r) = 0 := by unfold lenV; rw [e2, if_neg (by omega)]
      rw [e1, e2]
      clear ha e1 e2 hts E
      generalize (⟨(c :: r).toArray⟩ : ByteArray) = t at *
      go_enter Tryz.func57, Tryz.ntmps57
      go_wp2_with (first | (go_at_call 72; refine (C0.out _).mono ?_; rintro e w1 ⟨rfl, hb1⟩; obtain ⟨hc1, hf1⟩ := bcell hb1; have hs1 := hb1.size; (try simp at hs1)))
      go_ret2
      exact ⟨rfl, (by repeat (first | exact Below.refl _ _ | refine Below.setCell ?_ (by first | (simp; done) | (simp; omega) | omega) _ | refine Below.alloc ?_ (by first | (simp; done) | (simp; omega) | omega) _ | refine Below.drew ?_ | assumption | refine Below.trans ?_ (Below.mono (by assumption) (by first | (simp; done) | (simp; omega) | omega))))⟩
    | true =>
      rw [ha] at C0
      have hd : DigB (c :: r) := fun b hb => by
        have := List.all_eq_true.1 ha b hb
        unfold digB at this; simpa using this
      have h0 : 0 < (⟨(c :: r).toArray⟩ : ByteArray).size := by omega
      have q1 : (⟨(c :: r).toArray⟩ : ByteArray)[0]'h0 = c := rfl
      obtain ⟨y, hy⟩ : ∃ y : Int, (c.toNat : Int) = y := ⟨_, rfl⟩
      have q2 : (((⟨(c :: r).toArray⟩ : ByteArray)[0]'h0).toNat : Int) = y := by rw [q1]; exact hy
      by_cases hz : c = 48 ∧ r ≠ []
      · obtain ⟨hc, hr⟩ := hz
        have e2 : lenE (c :: r) = 10 := by
          unfold lenE
          have : numF (c :: r) = false := by
            unfold numF; subst hc; cases r with
            | nil => exact absurd rfl hr
            | cons a b => simp
          rw [this, if_neg (by simp)]
        have e1 : lenV (c :: r) = 0 := by unfold lenV; rw [e2, if_neg (by omega)]
        rw [e1, e2]
        have y48 : y = 48 := by rw [← hy, hc]; rfl
        subst y48
        have hlen : (1 : Int) < ((⟨(c :: r).toArray⟩ : ByteArray).size : Int) := by
          rw [hts]; cases r with
          | nil => exact absurd rfl hr
          | cons a b => simp; omega
        clear ha e1 e2 hts hd q1 hy hc hr E
        generalize (⟨(c :: r).toArray⟩ : ByteArray) = t at *
        go_enter Tryz.func57, Tryz.ntmps57
        go_wp2_with (first | (go_at_call 72; refine (C0.out _).mono ?_; rintro e w1 ⟨rfl, hb1⟩; obtain ⟨hc1, hf1⟩ := bcell hb1; have hs1 := hb1.size; (try simp at hs1)))
        go_ret2
        exact ⟨rfl, (by repeat (first | exact Below.refl _ _ | refine Below.setCell ?_ (by first | (simp; done) | (simp; omega) | omega) _ | refine Below.alloc ?_ (by first | (simp; done) | (simp; omega) | omega) _ | refine Below.drew ?_ | assumption | refine Below.trans ?_ (Below.mono (by assumption) (by first | (simp; done) | (simp; omega) | omega))))⟩
      · have hF : numF (c :: r) = true := numF_iff.2 ⟨by simp, hd, by
          by_cases hr : r = []
          · left; rw [hr]; rfl
          · right; intro h; simp at h; exact hz ⟨h, hr⟩⟩
        have eE : lenE (c :: r) = if dv (c :: r) ≤ 32768 then 0 else 8 := by unfold lenE; rw [if_pos hF]
        have key : (∃ z : Int, lenV (c :: r) = z) := ⟨_, rfl⟩
        -- the number, and whether it is one
        have fin : ∀ (y48 : Bool), (y == 48) = y48 → (y48 = true → ¬ (1 : Int) < ((⟨(c :: r).toArray⟩ : ByteArray).size : Int)) → Calls Tryz.prog 57 #[.string ⟨(c :: r).toArray⟩] w fun e w' => e = .returned (.tuple #[.int .i64 (lenV (c :: r)), .int .i64 (lenE (c :: r))]) ∧ Below w.heap.size w w' := fun y48 hy48 hshort => by
          by_cases h63 : dv (c :: r) < 9223372036854775808
          · have AT := Lib.hid (fun W => atoi_fits (c :: r) (by simp) hd hv h63 W)
            by_cases hb : dv (c :: r) ≤ 32768
            · have e1 : lenV (c :: r) = dv (c :: r) := by unfold lenV; rw [eE, if_pos hb, if_pos rfl]
              rw [e1, eE, if_pos hb]
              clear e1 eE hF hd hts q1 ha hz hy key E
              generalize dv (c :: r) = D at *
              have hb1 : ¬ (32768 : Int) < (D : Int) := by omega
              generalize (⟨(c :: r).toArray⟩ : ByteArray) = t at *
              cases y48 with
              | true =>
                have hlen := hshort rfl
                clear hshort
                go_enter Tryz.func57, Tryz.ntmps57
                go_wp2_with (first | (go_at_call 72; refine (C0.out _).mono ?_; rintro e w1 ⟨rfl, hb1⟩; obtain ⟨hc1, hf1⟩ := bcell hb1; have hs1 := hb1.size; (try simp at hs1)) | (go_at_call 65; refine (AT.out _).mono ?_; rintro e w2 ⟨rfl, hb2⟩; obtain ⟨hc2, hf2⟩ := bcell hb2; have hs2 := hb2.size; (try simp at hs2)))
                go_ret2
                exact ⟨rfl, (by repeat (first | exact Below.refl _ _ | refine Below.setCell ?_ (by first | (simp; done) | (simp; omega) | omega) _ | refine Below.alloc ?_ (by first | (simp; done) | (simp; omega) | omega) _ | refine Below.drew ?_ | assumption | refine Below.trans ?_ (Below.mono (by assumption) (by first | (simp; done) | (simp; omega) | omega))))⟩
              | false =>
                clear hshort
                go_enter Tryz.func57, Tryz.ntmps57
                go_wp2_with (first | (go_at_call 72; refine (C0.out _).mono ?_; rintro e w1 ⟨rfl, hb1⟩; obtain ⟨hc1, hf1⟩ := bcell hb1; have hs1 := hb1.size; (try simp at hs1)) | (go_at_call 65; refine (AT.out _).mono ?_; rintro e w2 ⟨rfl, hb2⟩; obtain ⟨hc2, hf2⟩ := bcell hb2; have hs2 := hb2.size; (try simp at hs2)))
                go_ret2
                exact ⟨rfl, (by repeat (first | exact Below.refl _ _ | refine Below.setCell ?_ (by first | (simp; done) | (simp; omega) | omega) _ | refine Below.alloc ?_ (by first | (simp; done) | (simp; omega) | omega) _ | refine Below.drew ?_ | assumption | refine Below.trans ?_ (Below.mono (by assumption) (by first | (simp; done) | (simp; omega) | omega))))⟩
            · have e1 : lenV (c :: r) = 0 := by unfold lenV; rw [eE, if_neg hb, if_neg (by omega)]
              rw [e1, eE, if_neg hb]
              clear e1 eE hF hd hts q1 ha hz hy key E
              generalize dv (c :: r) = D at *
              have hb1 : (32768 : Int) < (D : Int) := by omega
              generalize (⟨(c :: r).toArray⟩ : ByteArray) = t at *
              cases y48 with
              | true =>
                have hlen := hshort rfl
                clear hshort
                go_enter Tryz.func57, Tryz.ntmps57
                go_wp2_with (first | (go_at_call 72; refine (C0.out _).mono ?_; rintro e w1 ⟨rfl, hb1⟩; obtain ⟨hc1, hf1⟩ := bcell hb1; have hs1 := hb1.size; (try simp at hs1)) | (go_at_call 65; refine (AT.out _).mono ?_; rintro e w2 ⟨rfl, hb2⟩; obtain ⟨hc2, hf2⟩ := bcell hb2; have hs2 := hb2.size; (try simp at hs2)))
                go_ret2
                exact ⟨rfl, (by repeat (first | exact Below.refl _ _ | refine Below.setCell ?_ (by first | (simp; done) | (simp; omega) | omega) _ | refine Below.alloc ?_ (by first | (simp; done) | (simp; omega) | omega) _ | refine Below.drew ?_ | assumption | refine Below.trans ?_ (Below.mono (by assumption) (by first | (simp; done) | (simp; omega) | omega))))⟩
              | false =>
                clear hshort
                go_enter Tryz.func57, Tryz.ntmps57
                go_wp2_with (first | (go_at_call 72; refine (C0.out _).mono ?_; rintro e w1 ⟨rfl, hb1⟩; obtain ⟨hc1, hf1⟩ := bcell hb1; have hs1 := hb1.size; (try simp at hs1)) | (go_at_call 65; refine (AT.out _).mono ?_; rintro e w2 ⟨rfl, hb2⟩; obtain ⟨hc2, hf2⟩ := bcell hb2; have hs2 := hb2.size; (try simp at hs2)))
                go_ret2
                exact ⟨rfl, (by repeat (first | exact Below.refl _ _ | refine Below.setCell ?_ (by first | (simp; done) | (simp; omega) | omega) _ | refine Below.alloc ?_ (by first | (simp; done) | (simp; omega) | omega) _ | refine Below.drew ?_ | assumption | refine Below.trans ?_ (Below.mono (by assumption) (by first | (simp; done) | (simp; omega) | omega))))⟩
          · have AT := Lib.hid (fun W (hb : Below w.heap.size w W) => atoi_over (c :: r) (by simp) hd hv h63 W (E.below hb))
            have hb : ¬ dv (c :: r) ≤ 32768 := by omega
            have e1 : lenV (c :: r) = 0 := by unfold lenV; rw [eE, if_neg hb, if_neg (by omega)]
            rw [e1, eE, if_neg hb]
            clear e1 eE hF hd hts q1 ha hz hy key E hb h63
            generalize (⟨(c :: r).toArray⟩ : ByteArray) = t at *
            cases y48 with
            | true =>
              have hlen := hshort rfl
              clear hshort
              go_enter Tryz.func57, Tryz.ntmps57
              go_wp2_with (first | (go_at_call 72; refine (C0.out _).mono ?_; rintro e w1 ⟨rfl, hb1⟩; obtain ⟨hc1, hf1⟩ := bcell hb1; have hs1 := hb1.size; (try simp at hs1)) | (go_at_call 65; refine (AT.out _ (by repeat (first | exact Below.refl _ _ | refine Below.setCell ?_ (by first | (simp; done) | (simp; omega) | omega) _ | refine Below.alloc ?_ (by first | (simp; done) | (simp; omega) | omega) _ | refine Below.drew ?_ | assumption | refine Below.trans ?_ (Below.mono (by assumption) (by first | (simp; done) | (simp; omega) | omega))))).mono ?_; rintro e w2 ⟨⟨tt, qq, rfl⟩, hb2⟩; obtain ⟨hc2, hf2⟩ := bcell hb2; have hs2 := hb2.size; (try simp at hs2)))
              go_ret2
              exact ⟨rfl, (by repeat (first | exact Below.refl _ _ | refine Below.setCell ?_ (by first | (simp; done) | (simp; omega) | omega) _ | refine Below.alloc ?_ (by first | (simp; done) | (simp; omega) | omega) _ | refine Below.drew ?_ | assumption | refine Below.trans ?_ (Below.mono (by assumption) (by first | (simp; done) | (simp; omega) | omega))))⟩
            | false =>
              clear hshort
              go_enter Tryz.func57, Tryz.ntmps57
              go_wp2_with (first | (go_at_call 72; refine (C0.out _).mono ?_; rintro e w1 ⟨rfl, hb1⟩; obtain ⟨hc1, hf1⟩ := bcell hb1; have hs1 := hb1.size; (try simp at hs1)) | (go_at_call 65; refine (AT.out _ (by repeat (first | exact Below.refl _ _ | refine Below.setCell ?_ (by first | (simp; done) | (simp; omega) | omega) _ | refine Below.alloc ?_ (by first | (simp; done) | (simp; omega) | omega) _ | refine Below.drew ?_ | assumption | refine Below.trans ?_ (Below.mono (by assumption) (by first | (simp; done) | (simp; omega) | omega))))).mono ?_; rintro e w2 ⟨⟨tt, qq, rfl⟩, hb2⟩; obtain ⟨hc2, hf2⟩ := bcell hb2; have hs2 := hb2.size; (try simp at hs2)))
              go_ret2
              exact ⟨rfl, (by repeat (first | exact Below.refl _ _ | refine Below.setCell ?_ (by first | (simp; done) | (simp; omega) | omega) _ | refine Below.alloc ?_ (by first | (simp; done) | (simp; omega) | omega) _ | refine Below.drew ?_ | assumption | refine Below.trans ?_ (Below.mono (by assumption) (by first | (simp; done) | (simp; omega) | omega))))⟩
        refine fin _ rfl fun h => ?_
        rw [hts]
        have : c = 48 := UInt8.toNat_inj.1 (by have : y = 48 := by simpa using h
                                               show c.toNat = 48; omega)
        by_cases hr : r = []
        · subst hr; simp
        · exact absurd ⟨this, hr⟩ hz
end Go.Proofs.YtkaimfeiahogaaaGreatDoor
