/-
  Contract of tier.Format.
-/
import Derived.Test.YtdpoahfjiomhbaaGreatDoorShelf2
import Derived.Test.YtdpoahfjiomhbaaGreatDoorPt2
import Derived.Test.YtdpoahfjiomhbaaGreatDoorWk4
import Derived.Test.YtdpoahfjiomhbaaGreatDoorTk7
import Derived.Lib.LaidTab
import Derived.Lib.AppendIntMem
import Derived.Laws.RangeAny
import Derived.Lib.ConvBytes
import Derived.WalkSmall
import Derived.Lib.Hide
import Derived.Lib.AtoiErrMem
import Derived.Deep.QuietTactic
import Derived.BigQuiet
import Derived.Deep.Draws
import Derived.Test.YtdpoahfjiomhbaaGreatDoorTk6
import Derived.Lib.ItoaLen
import Derived.Laws.AppendOwn

/-
  What the world must hold for the library's calls of this seat; contracts of Itoa, number's parts, Cut, Split.
-/
namespace Go.Proofs.YtdpoahfjiomhbaaGreatDoor
set_option linter.all false
open Go.RowKit Go.Sort
attribute [local go_sem] cell_set_self lt_1 lt_2 lt_3 lt_4 lt_5 lt_6

theorem gPow : Tryz.prog.globalNamed "internal/strconv.uint64pow10" = some 5 := by kernel_rfl
theorem gErr : Tryz.prog.globalNamed "strconv.ErrRange" = some 4 := by kernel_rfl
/-- What the library's calls read: MaxLen some int, the powers of ten, ErrRange some error. -/
def Env (w : World) : Prop := 10 ≤ w.heap.size ∧ (∃ m, w.cell? ⟨0, 0, none⟩ = some (.int .i64 m)) ∧ Lib.TabIs Tryz.prog w "internal/strconv.uint64pow10" .u64 Lib.pow10Tab ∧ ∃ tp p, w.var? Tryz.prog "strconv.ErrRange" = some #[.iface tp p]
theorem Env.below {w w' : World} (h : Env w) (hb : Below w.heap.size w w') : Env w' := by
  obtain ⟨h0, ⟨m, hm⟩, ht, tp, p, hv⟩ := h
  refine ⟨Nat.le_trans h0 hb.size, ⟨m, by rw [hb.cell (p := ⟨0, 0, none⟩) (Nat.lt_of_lt_of_le (by decide) h0), hm]⟩, ?_, tp, p, ?_⟩
  · exact var?_below hb gPow (Nat.lt_of_lt_of_le (by decide) h0) ht
  · exact var?_below hb gErr (Nat.lt_of_lt_of_le (by decide) h0) hv
theorem itoa_any (z : Int) (h0 : -9223372036854775808 ≤ z) (h1 : z ≤ 9223372036854775807) (w : World) (h : Env w) : Calls Tryz.prog 56 #[.int .i64 z] w fun e w' => e = .returned (.string ⟨(txt z).toArray⟩) ∧ Below w.heap.size w w' := by
  refine (Tryz.strconv_Itoa z h0 h1 w h.2.2.1).mono ?_
  rintro e w' ⟨rfl, k, os, rfl⟩
  exact ⟨by rw [itoa_txt], Lib.below_grow _ w (Nat.le_refl _) k os⟩

/-! ### digits alone -/
def oddP (r : Nat) : Bool := decide (r < 48) || decide (57 < r)
def digA (l : List UInt8) : Bool := l.all (fun b => decide (48 ≤ b.toNat) && decide (b.toNat ≤ 57))
theorem digA_iff {l : List UInt8} : digA l = true ↔ DigB l := by simp [digA, DigB]
theorem idx_odd (s : ByteArray) : ∀ (f pos : Nat), s.size ≤ pos + f → (0 ≤ Lib.idxFuncFrom oddP true s f pos ↔ ∃ (i : Nat) (h : i < s.size), pos ≤ i ∧ ¬ (48 ≤ (s[i]'h).toNat ∧ (s[i]'h).toNat ≤ 57))
  | 0, pos, h => by
    simp only [Lib.idxFuncFrom]
    constructor
    · intro h; omega
    · rintro ⟨i, hi, hp, _⟩; omega
  | f + 1, pos, h => by
    rw [Lib.idxFuncFrom]
    by_cases hp : pos < s.size
    · rw [if_pos hp]
      by_cases hd : 48 ≤ (s[pos]'hp).toNat ∧ (s[pos]'hp).toNat ≤ 57
      · rw [decode_ascii s pos hp (by omega)]
        have ho : oddP (s[pos]'hp).toNat = false := by unfold oddP; simp; omega
        rw [if_neg (by simp [ho])]
        rw [idx_odd s f (pos + 1) (by omega)]
        constructor
        · rintro ⟨i, hi, h1, h2⟩; exact ⟨i, hi, by omega, h2⟩
        · rintro ⟨i, hi, h1, h2⟩
          refine ⟨i, hi, ?_, h2⟩
          rcases Nat.lt_or_ge pos i with h3 | h3
          · omega
          · have : i = pos := by omega
            subst this
            exact absurd hd h2
      · have ho : oddP (Utf8.decode s pos).1 = true := by
          by_cases ha : (s[pos]'hp).toNat < 128
          · rw [decode_ascii s pos hp ha]; unfold oddP; simp; omega
          · have := (decode_high s pos hp (by omega)).1
            unfold oddP; simp; omega
        rw [if_pos ho]
        exact ⟨fun _ => ⟨pos, hp, Nat.le_refl _, hd⟩, fun _ => by omega⟩
    · rw [if_neg hp]
      constructor
      · intro h; omega
      · rintro ⟨i, hi, h1, _⟩; omega
theorem idx_dig (l : List UInt8) : decide (0 ≤ Lib.idxFunc oddP true ⟨l.toArray⟩) = !digA l := by
  have h := idx_odd ⟨l.toArray⟩ (⟨l.toArray⟩ : ByteArray).size 0 (by omega)
  unfold Lib.idxFunc
  rw [Bool.eq_iff_iff]
  simp only [decide_eq_true_eq, Bool.not_eq_true', Bool.eq_false_iff, ne_eq, digA_iff]
  rw [h]
  constructor
  · rintro ⟨i, hi, _, h2⟩ hd
    exact h2 (hd _ (by
      have : i < l.length := by simpa [ByteArray.size] using hi
      show (l.toArray)[i] ∈ l
      simp))
  · intro hn
    have hn' : ∃ b ∈ l, ¬ (48 ≤ b.toNat ∧ b.toNat ≤ 57) := by
      rcases Classical.em (∃ b ∈ l, ¬ (48 ≤ b.toNat ∧ b.toNat ≤ 57)) with h | h
      · exact h
      · exact absurd (fun b hb => Classical.byContradiction fun hc => h ⟨b, hb, hc⟩) hn
    obtain ⟨b, hb, hnb⟩ := hn'
    obtain ⟨i, hi, rfl⟩ := List.mem_iff_getElem.1 hb
    exact ⟨i, by simpa [ByteArray.size] using hi, Nat.zero_le _, hnb⟩
theorem pred_odd (w : World) : PredAt Tryz.prog 111 #[] encR oddP w := fun W r _ => by
  unfold FnGives
  by_cases h1 : r < 48
  · have z1 : (r : Int) < 48 := by omega
    have e : oddP r = true := by unfold oddP; simp [h1]
    rw [e]
    go_enter Tryz.func111, Tryz.ntmps111
    go_wp2
    go_ret
    exact ⟨rfl, 0, rfl⟩
  · have z1 : ¬ (r : Int) < 48 := by omega
    by_cases h2 : 57 < r
    · have z2 : (57 : Int) < r := by omega
      have e : oddP r = true := by unfold oddP; simp [h2]
      rw [e]
      go_enter Tryz.func111, Tryz.ntmps111
      go_wp2
      go_ret
      exact ⟨rfl, 0, rfl⟩
    · have z2 : ¬ (57 : Int) < r := by omega
      have e : oddP r = false := by unfold oddP; simp [h1, h2]
      rw [e]
      go_enter Tryz.func111, Tryz.ntmps111
      go_wp2
      go_ret
      exact ⟨rfl, 0, rfl⟩
theorem contains_odd (l : List UInt8) (w : World) : Calls Tryz.prog 112 #[.string ⟨l.toArray⟩, .func (.func 111) #[] #[]] w fun e w' => e = .returned (.bool (!digA l)) ∧ Below w.heap.size w w' := by
  have h := Tryz.strings_ContainsFunc 111 #[] (enters_of Tryz.func111 (by kernel_rfl) rfl) oddP ⟨l.toArray⟩ w (pred_odd w)
  rw [idx_dig] at h
  exact h
end Go.Proofs.YtdpoahfjiomhbaaGreatDoor

/-
  Contract of tier.number.
-/
namespace Go.Proofs.YtdpoahfjiomhbaaGreatDoor
set_option linter.all false
open Go.RowKit Go.Sort
theorem alloc_drewN (w : World) (n : Nat) (o : Obj) : (w.drewN n).alloc o = (w.alloc o).drewN n := rfl
attribute [local go_sem] cell_set_self lt_1 lt_2 lt_3 lt_4 lt_5 lt_6

/-- What tier.number answers. -/
def numV (l : List UInt8) : Value := if numF l = true then .tuple #[.int .i64 (valN 9223372036854775807 l), .bool true, .bool (fitsN l)] else .tuple #[.int .i64 0, .bool false, .bool false]
theorem numV_no {l : List UInt8} (h : numF l = false) : numV l = .tuple #[.int .i64 0, .bool false, .bool false] := by unfold numV; rw [h]; rfl
theorem numV_yes {l : List UInt8} (h : numF l = true) : numV l = .tuple #[.int .i64 (valN 9223372036854775807 l), .bool true, .bool (fitsN l)] := by unfold numV; rw [if_pos h]
theorem numF_parts (l : List UInt8) : numF l = (!l.isEmpty && (digA l && (l.length == 1 || l.head? != some 48))) := rfl
set_option maxHeartbeats 1000000 in
theorem number_any (l : List UInt8) (hl : l.length ≤ 1000000) (w : World) (E : Env w) : Calls Tryz.prog 62 #[.string ⟨l.toArray⟩] w fun e w' => e = .returned (numV l) ∧ Below w.heap.size w w' := by
  cases l with
  | nil =>
    rw [numV_no (by decide)]
    go_enter Tryz.func62, Tryz.ntmps62
    go_wp2
    go_ret3
    exact ⟨rfl, (by repeat (first | exact Below.refl _ _ | refine Below.setCell ?_ (by first | (simp; done) | (simp; omega) | omega) _ | refine Below.alloc ?_ (by first | (simp; done) | (simp; omega) | omega) _ | refine Below.drew ?_ | assumption | refine Below.trans ?_ (Below.mono (by assumption) (by first | (simp; done) | (simp; omega) | omega))))⟩
  | cons ch r =>
    have C0 : Hid (∀ W, Calls Tryz.prog 112 #[.string ⟨(ch :: r).toArray⟩, .func (.func 111) #[] #[]] W fun e w' => e = .returned (.bool (!digA (ch :: r))) ∧ Below W.heap.size W w') := Lib.hid fun W => contains_odd (ch :: r) W
    have hEA := Lib.hid (fun W (hb : Below w.heap.size w W) => E.below hb)
    have hts : (⟨(ch :: r).toArray⟩ : ByteArray).size = r.length + 1 := by simp [ByteArray.size]
    have p0 : 0 < (⟨(ch :: r).toArray⟩ : ByteArray).size := by omega
    have p0' : (0 : Int) < (⟨(ch :: r).toArray⟩ : ByteArray).size := by omega
    have f0 : ((⟨(ch :: r).toArray⟩ : ByteArray)[0]'p0).toNat = ch.toNat := rfl
    have ne1 : (⟨(ch :: r).toArray⟩ : ByteArray).toList = ch :: r := ByteArray.toList_mk _
    obtain ⟨y, hy⟩ : ∃ y, ch.toNat = y := ⟨_, rfl⟩
    rw [hy] at f0
    by_cases hd : digA (ch :: r) = true
    · rw [hd] at C0
      by_cases hz : ch = 48 ∧ r ≠ []
      · have hF : numF (ch :: r) = false := by
          rw [numF_parts, hd, hz.1]
          have : r.length ≠ 0 := fun e => hz.2 (List.eq_nil_of_length_eq_zero e)
          simp [this]
        have y48 : y = 48 := by rw [← hy, hz.1]; rfl
        rw [numV_no hF]
        subst y48
        have hlen : (1 : Int) < (⟨(ch :: r).toArray⟩ : ByteArray).size := by
          have : r.length ≠ 0 := fun e => hz.2 (List.eq_nil_of_length_eq_zero e)
          omega
        clear hz hF hd hy hts
        generalize (⟨(ch :: r).toArray⟩ : ByteArray) = sb at *
        go_enter Tryz.func62, Tryz.ntmps62
        go_wp2_with (first | (go_at_call 112; refine (C0.out _).mono ?_; rintro e w1 ⟨rfl, hb1⟩; obtain ⟨hc1, hf1⟩ := bcell hb1; have hs1 := hb1.size; (try simp at hs1)))
        go_ret3
        exact ⟨rfl, (by repeat (first | exact Below.refl _ _ | refine Below.setCell ?_ (by first | (simp; done) | (simp; omega) | omega) _ | refine Below.alloc ?_ (by first | (simp; done) | (simp; omega) | omega) _ | refine Below.drew ?_ | assumption | refine Below.trans ?_ (Below.mono (by assumption) (by first | (simp; done) | (simp; omega) | omega))))⟩
      · have hF : numF (ch :: r) = true := by
          rw [numF_parts, hd]
          by_cases h48 : ch = 48
          · have : r = [] := Classical.byContradiction fun h => hz ⟨h48, h⟩
            subst this; simp
          · simp [h48]
        obtain ⟨q1, q2, _⟩ := numF_iff.1 hF
        rw [numV_yes hF]
        have hA := atoi_num q1 q2
        have hsat := sat_num q1 q2
        have hdl : (⟨(ch :: r).toArray⟩ : ByteArray).data.toList = ch :: r := by simp
        have hsz : (⟨(ch :: r).toArray⟩ : ByteArray).size ≤ 1000000 := by rw [hts]; simpa using hl
        have hshort : ¬ (y = 48 ∧ 1 < (⟨(ch :: r).toArray⟩ : ByteArray).size) := by
          rintro ⟨a, b⟩
          refine hz ⟨UInt8.toNat_inj.1 (by rw [hy, a]; rfl), fun e => ?_⟩
          subst e
          rw [hts] at b; simp at b
        by_cases h63 : dv (ch :: r) < 9223372036854775808
        · rw [if_pos h63] at hA
          have hAt : Hid (∀ W, Calls Tryz.prog 83 #[.string ⟨(ch :: r).toArray⟩] W fun e w' => e = .returned (.tuple #[.int .i64 (dv (ch :: r)), .nilIface]) ∧ Below W.heap.size W w') := Lib.hid fun W => by
            refine (Tryz.strconv_Atoi_ok ⟨(ch :: r).toArray⟩ (by omega) (dv (ch :: r)) (by rw [hdl]; exact hA) W).mono ?_
            rintro e w' ⟨rfl, hw⟩
            refine ⟨rfl, ?_⟩
            rcases hw with rfl | ⟨t, rfl⟩
            · exact Below.refl _ _
            · exact Lib.bytesWorld_below W _ t
          have hfit : fitsN (ch :: r) = true := by simp [fitsN, h63]
          have hval : valN 9223372036854775807 (ch :: r) = dv (ch :: r) := if_pos h63
          rw [hfit, hval]
          generalize dv (ch :: r) = D at *
          clear hA hsat hdl q1 q2 hF hd hfit hval h63 hz hy
          generalize (⟨(ch :: r).toArray⟩ : ByteArray) = sb at *
          by_cases y48 : y = 48
          · subst y48
            have hlen : ¬ (1 : Int) < sb.size := by omega
            clear hts
            go_enter Tryz.func62, Tryz.ntmps62
            go_wp2_with (first | (go_at_call 112; refine (C0.out _).mono ?_; rintro e w1 ⟨rfl, hb1⟩; obtain ⟨hc1, hf1⟩ := bcell hb1; have hs1 := hb1.size; (try simp at hs1)) | (go_at_call 83; refine (hAt.out _).mono ?_; rintro e w2 ⟨rfl, hb2⟩; obtain ⟨hc2, hf2⟩ := bcell hb2; have hs2 := hb2.size; (try simp at hs2)))
            go_quiet (fail)
            go_wp2
            go_ret3
            exact ⟨rfl, (by repeat (first | exact Below.refl _ _ | refine Below.setCell ?_ (by first | (simp; done) | (simp; omega) | omega) _ | refine Below.alloc ?_ (by first | (simp; done) | (simp; omega) | omega) _ | refine below_drewN ?_ _ | refine Below.drew ?_ | assumption | refine Below.trans ?_ (Below.mono (by assumption) (by first | (simp; done) | (simp; omega) | omega))))⟩
          · have yn : ((y : Int) == 48) = false := by rw [beq_eq_false_iff_ne]; omega
            clear hts
            go_enter Tryz.func62, Tryz.ntmps62
            go_wp2_with (first | (go_at_call 112; refine (C0.out _).mono ?_; rintro e w1 ⟨rfl, hb1⟩; obtain ⟨hc1, hf1⟩ := bcell hb1; have hs1 := hb1.size; (try simp at hs1)) | (go_at_call 83; refine (hAt.out _).mono ?_; rintro e w2 ⟨rfl, hb2⟩; obtain ⟨hc2, hf2⟩ := bcell hb2; have hs2 := hb2.size; (try simp at hs2)))
            go_quiet (fail)
            go_wp2
            go_ret3
            exact ⟨rfl, (by repeat (first | exact Below.refl _ _ | refine Below.setCell ?_ (by first | (simp; done) | (simp; omega) | omega) _ | refine Below.alloc ?_ (by first | (simp; done) | (simp; omega) | omega) _ | refine below_drewN ?_ _ | refine Below.drew ?_ | assumption | refine Below.trans ?_ (Below.mono (by assumption) (by first | (simp; done) | (simp; omega) | omega))))⟩
        · rw [if_neg h63] at hA
          have hAt : Hid (∀ W, Env W → Calls Tryz.prog 83 #[.string ⟨(ch :: r).toArray⟩] W fun e w' => (∃ t q, e = .returned (.tuple #[.int .i64 9223372036854775807, .iface t (.pointer (some q))])) ∧ Below W.heap.size W w') := Lib.hid fun W hE => by
            obtain ⟨_, _, _, tp, p, hv⟩ := hE
            refine (Tryz.strconv_Atoi_range_var ⟨(ch :: r).toArray⟩ (by omega) (by rw [hdl]; exact hA) tp p W hv).mono ?_
            rintro e w' ⟨N, rfl, _, _, hb⟩
            rw [hdl, hsat]
            exact ⟨⟨_, _, rfl⟩, hb⟩
          have hfit : fitsN (ch :: r) = false := by simp [fitsN]; omega
          have hval : valN 9223372036854775807 (ch :: r) = 9223372036854775807 := if_neg h63
          rw [hfit, hval]
          clear hA hsat hdl q1 q2 hF hd hfit hval h63 hz hy
          generalize (⟨(ch :: r).toArray⟩ : ByteArray) = sb at *
          by_cases y48 : y = 48
          · subst y48
            have hlen : ¬ (1 : Int) < sb.size := by omega
            clear hts
            go_enter Tryz.func62, Tryz.ntmps62
            go_wp2_with (first | (go_at_call 112; refine (C0.out _).mono ?_; rintro e w1 ⟨rfl, hb1⟩; obtain ⟨hc1, hf1⟩ := bcell hb1; have hs1 := hb1.size; (try simp at hs1)) | (go_at_call 83; refine (hAt.out _ (hEA.out _ (by repeat (first | exact Below.refl _ _ | refine Below.setCell ?_ (by first | (simp; done) | (simp; omega) | omega) _ | refine Below.alloc ?_ (by first | (simp; done) | (simp; omega) | omega) _ | refine Below.drew ?_ | assumption | refine Below.trans ?_ (Below.mono (by assumption) (by first | (simp; done) | (simp; omega) | omega)))))).mono ?_; rintro e w2 ⟨⟨t, q, rfl⟩, hb2⟩; obtain ⟨hc2, hf2⟩ := bcell hb2; have hs2 := hb2.size; (try simp at hs2)))
            go_quiet (fail)
            go_wp2
            go_ret3
            exact ⟨rfl, (by repeat (first | exact Below.refl _ _ | refine Below.setCell ?_ (by first | (simp; done) | (simp; omega) | omega) _ | refine Below.alloc ?_ (by first | (simp; done) | (simp; omega) | omega) _ | refine below_drewN ?_ _ | refine Below.drew ?_ | assumption | refine Below.trans ?_ (Below.mono (by assumption) (by first | (simp; done) | (simp; omega) | omega))))⟩
          · have yn : ((y : Int) == 48) = false := by rw [beq_eq_false_iff_ne]; omega
            clear hts
            go_enter Tryz.func62, Tryz.ntmps62
            go_wp2_with (first | (go_at_call 112; refine (C0.out _).mono ?_; rintro e w1 ⟨rfl, hb1⟩; obtain ⟨hc1, hf1⟩ := bcell hb1; have hs1 := hb1.size; (try simp at hs1)) | (go_at_call 83; refine (hAt.out _ (hEA.out _ (by repeat (first | exact Below.refl _ _ | refine Below.setCell ?_ (by first | (simp; done) | (simp; omega) | omega) _ | refine Below.alloc ?_ (by first | (simp; done) | (simp; omega) | omega) _ | refine Below.drew ?_ | assumption | refine Below.trans ?_ (Below.mono (by assumption) (by first | (simp; done) | (simp; omega) | omega)))))).mono ?_; rintro e w2 ⟨⟨t, q, rfl⟩, hb2⟩; obtain ⟨hc2, hf2⟩ := bcell hb2; have hs2 := hb2.size; (try simp at hs2)))
            go_quiet (fail)
            go_wp2
            go_ret3
            exact ⟨rfl, (by repeat (first | exact Below.refl _ _ | refine Below.setCell ?_ (by first | (simp; done) | (simp; omega) | omega) _ | refine Below.alloc ?_ (by first | (simp; done) | (simp; omega) | omega) _ | refine below_drewN ?_ _ | refine Below.drew ?_ | assumption | refine Below.trans ?_ (Below.mono (by assumption) (by first | (simp; done) | (simp; omega) | omega))))⟩
    · have hd' : digA (ch :: r) = false := by simpa using hd
      rw [hd'] at C0
      have hF : numF (ch :: r) = false := by rw [numF_parts, hd']; simp
      rw [numV_no hF]
      clear hF hd hd' hy hts
      generalize (⟨(ch :: r).toArray⟩ : ByteArray) = sb at *
      go_enter Tryz.func62, Tryz.ntmps62
      go_wp2_with (first | (go_at_call 112; refine (C0.out _).mono ?_; rintro e w1 ⟨rfl, hb1⟩; obtain ⟨hc1, hf1⟩ := bcell hb1; have hs1 := hb1.size; (try simp at hs1)))
      go_ret3
      exact ⟨rfl, (by repeat (first | exact Below.refl _ _ | refine Below.setCell ?_ (by first | (simp; done) | (simp; omega) | omega) _ | refine Below.alloc ?_ (by first | (simp; done) | (simp; omega) | omega) _ | refine Below.drew ?_ | assumption | refine Below.trans ?_ (Below.mono (by assumption) (by first | (simp; done) | (simp; omega) | omega))))⟩
end Go.Proofs.YtdpoahfjiomhbaaGreatDoor

/-
  Contract of tier.Format.
-/
namespace Go.Proofs.YtdpoahfjiomhbaaGreatDoor
set_option linter.all false
open Go.RowKit Go.Sort
attribute [local go_sem] cell_set_self lt_1 lt_2 lt_3 lt_4 lt_5 lt_6

theorem app_str (a b : List UInt8) : (⟨a.toArray⟩ : ByteArray) ++ ⟨b.toArray⟩ = ⟨(a ++ b).toArray⟩ := by
  apply ByteArray.ext
  simp
theorem ba_szP (l : List UInt8) : (⟨l.toArray⟩ : ByteArray).size = l.length := by simp [ByteArray.size]
theorem txt_len {z : Int} (h0 : -9223372036854775808 ≤ z) (h1 : z ≤ 9223372036854775807) : (txt z).length ≤ 21 := by
  rw [← itoa_txt]; exact Lib.itoa_length_le z h0 h1
theorem tierTxt_len {t : Int × Int} (h1 : In64 t.1) (h2 : In64 t.2) : (tierTxt t).length ≤ 43 := by
  have a := txt_len (z := t.1) h1.1 (by have := h1.2; omega)
  have b := txt_len (z := t.2) h2.1 (by have := h2.2; omega)
  unfold tierTxt
  split <;> simp <;> omega
theorem fmtT_len : ∀ {l : List (Int × Int)}, (∀ t ∈ l, In64 t.1 ∧ In64 t.2) → (fmtT l).length ≤ 44 * l.length
  | [], _ => by simp [fmtT, Lib.join, List.intercalate]
  | [t], h => by
    have := tierTxt_len (h t (by simp)).1 (h t (by simp)).2
    unfold fmtT
    rw [List.map_cons, List.map_nil, join_one]
    simp; omega
  | t :: u :: r, h => by
    have a := tierTxt_len (h t (by simp)).1 (h t (by simp)).2
    have ih := fmtT_len (l := u :: r) (fun x hx => h x (List.mem_cons_of_mem _ hx))
    unfold fmtT at ih ⊢
    rw [List.map_cons, List.map_cons, join_more, ← List.map_cons]
    simp only [List.length_append, List.length_cons, List.length_nil] at ih ⊢
    omega
def strsV (l : List (List UInt8)) : List Value := l.map fun s => .string ⟨s.toArray⟩
theorem Tryz.infoStr : (Tryz.prog.info? 9).map (fun i => (i.zero, i.size, i.bytes)) = some (some (.string ⟨#[]⟩), 1, 16) := by kernel_rfl
theorem own_below {w w' : World} {base size n : Nat} {e : TypeId} {v : Value} {xs : List Value} (h : w.ownsRow base e size v n xs) (hb : Below w.heap.size w w') : w'.ownsRow base e size v n xs := by
  refine h.kept (row := none) ⟨hb.os, hb.tape, hb.output, hb.size, fun i hi _ => hb.block i hi⟩ ?_
  cases hv : v.ownBlock with
  | none => exact .inl rfl
  | some x => exact .inr (by simp)
theorem own_form {w : World} {base size n : Nat} {e : TypeId} {v : Value} {xs : List Value} (h : w.ownsRow base e size v n xs) : ∃ A c, v = .slice A n c := by
  rcases h.2 with ⟨h1, h2⟩ | ⟨g, cap, cur, h1, _⟩
  · exact ⟨none, 0, by rw [h1, h2]⟩
  · exact ⟨_, cap, h1⟩
def fmtV (l : List (Int × Int)) : List UInt8 := if checkT l = 0 then fmtT l else []
theorem fmtV_0 {l : List (Int × Int)} (h : checkT l = 0) : fmtV l = fmtT l := if_pos h
theorem fmtV_n {l : List (Int × Int)} (h : checkT l ≠ 0) : fmtV l = [] := if_neg h
theorem ret_si {l m : List UInt8} {x y : Int} (h1 : l = m) (h2 : x = y) : Ending.returned (.tuple #[.string ⟨m.toArray⟩, .int .i64 y]) = .returned (.tuple #[.string ⟨l.toArray⟩, .int .i64 x]) := by rw [h1, h2]

set_option maxHeartbeats 2000000 in
set_option maxRecDepth 100000 in
theorem format_any (A : Option Addr) (n c : Nat) (l : List (Int × Int)) (hl : l.length = n) (hn : n ≤ 1000000) (hin : ∀ t ∈ l, In64 t.1 ∧ In64 t.2) (w : World) (T : Tiers w A l) (E : Env w) :
    Calls Tryz.prog 12 #[.slice A n c] w fun e w' => e = .returned (.tuple #[.string ⟨(fmtV l).toArray⟩, .int .i64 (checkT l)]) ∧ Below w.heap.size w w' := by
  obtain ⟨i0, hi0, hz0, hz1, hz2⟩ := info_parts Tryz.infoStr
  have CK := Lib.hid (check_any A n c l hl hn w T)
  have HL := Lib.hid hl
  have HT := Lib.hid (fun W (hb : Below w.heap.size w W) => T.below hb)
  have hEA := Lib.hid (fun W (hb : Below w.heap.size w W) => E.below hb)
  have HIN := Lib.hid hin
  clear T E hl hin
  by_cases h0 : checkT l = 0
  · have H0 := Lib.hid h0
    have HV := Lib.hid (fmtV_0 h0)
    rw [h0] at CK
    have hn20 : 0 < n ∧ n ≤ 20 := by
      rcases chk_cases l with e | e | ⟨_, e1, e2, _⟩
      · omega
      · omega
      · have := HL.out; omega
    obtain ⟨n1, n20⟩ := hn20
    clear h0
    go_enter Tryz.func12, Tryz.ntmps12
    go_wp2_with (first | (go_at_call 55; refine (CK.out).mono ?_; rintro e w1 ⟨rfl, hb1⟩; obtain ⟨hc1, hf1⟩ := bcell hb1; have hs1 := hb1.size; (try simp at hs1)))
    go_loopw [5, 16] (fun u i wr => ∃ (k : Nat) (v : Value), k ≤ n ∧ i = .int .i64 k ∧ v = u ∧ Hid (wr.ownsRow w.heap.size 9 1 v k (strsV ((l.take k).map tierTxt))) ∧ Below w.heap.size w wr) (fun _ i _ => n - (intOf i).toNat)
    case atStart => exact ⟨0, _, by omega, rfl, rfl, Lib.hid (World.ownsRow_nil _ _ _ _), (by repeat (first | exact Below.refl _ _ | refine Below.setCell ?_ (by first | (simp; done) | (simp; omega) | omega) _ | refine Below.alloc ?_ (by first | (simp; done) | (simp; omega) | omega) _ | refine Below.drew ?_ | assumption | refine Below.trans ?_ (Below.mono (by assumption) (by first | (simp; done) | (simp; omega) | omega))))⟩
    case round =>
      obtain ⟨k, v, hk, rfl, hv, HO, hB⟩ := hrel; subst hv
      obtain ⟨wo, rfl⟩ : ∃ wo : World, wo = wr := ⟨_, rfl⟩
      have hsl := hB.size
      by_cases hlt : k < n
      · have hlt' : (k : Int) < n := by omega
        obtain ⟨⟨u, p⟩, hg⟩ : ∃ t, l[k]? = some t := ⟨_, List.getElem?_eq_getElem (by rw [HL.out]; exact hlt)⟩
        obtain ⟨b, off, rfl, hbs, hc0, hc1⟩ := HT.out wo hB k (u, p) hg
        have hi := HIN.out (u, p) (List.mem_of_getElem? hg)
        have lu := txt_len (z := u) hi.1.1 (by have := hi.1.2; omega)
        have lp := txt_len (z := p) hi.2.1 (by have := hi.2.2; omega)
        have HTK : Hid (strsV ((l.take (k + 1)).map tierTxt) = strsV ((l.take k).map tierTxt) ++ [.string ⟨(tierTxt (u, p)).toArray⟩]) := Lib.hid (by
          rw [List.take_succ, hg, Option.toList_some, List.map_append]; simp [strsV])
        have I1 : Hid (∀ W, Below w.heap.size w W → Calls Tryz.prog 56 #[.int .i64 u] W fun e w' => e = .returned (.string ⟨(txt u).toArray⟩) ∧ Below W.heap.size W w') := Lib.hid fun W hb => itoa_any u hi.1.1 (by have := hi.1.2; omega) W (hEA.out W hb)
        have I2 : Hid (∀ W, Below w.heap.size w W → Calls Tryz.prog 56 #[.int .i64 p] W fun e w' => e = .returned (.string ⟨(txt p).toArray⟩) ∧ Below W.heap.size W w') := Lib.hid fun W hb => itoa_any p hi.2.1 (by have := hi.2.2; omega) W (hEA.out W hb)
        have hs2 : (⟨(txt p).toArray⟩ : ByteArray).size ≤ 21 := by rw [ba_szP]; exact lp
        have HPRE : Hid (∀ X : List UInt8, tierTxt (u, p) = X ++ 58 :: txt p → ((⟨X.toArray⟩ : ByteArray) ++ ⟨#[58]⟩) ++ ⟨(txt p).toArray⟩ = ⟨(tierTxt (u, p)).toArray⟩) := Lib.hid fun X hX => by
          rw [hX, show (⟨#[58]⟩ : ByteArray) = ⟨([58] : List UInt8).toArray⟩ from rfl, app_str, app_str]; simp
        clear hg hi
        generalize hxs : strsV ((l.take k).map tierTxt) = xs at *
        clear hxs
        by_cases hu : 0 < u
        · have e2 := HPRE.out (txt u) (by simp [tierTxt, hu])
          have hs1 : (⟨(txt u).toArray⟩ : ByteArray).size ≤ 21 := by rw [ba_szP]; exact lu
          have hs3 : ((⟨(txt u).toArray⟩ : ByteArray) ++ ⟨#[58]⟩).size ≤ 22 := by
            rw [ByteArray.size_append]; have : (⟨#[58]⟩ : ByteArray).size = 1 := rfl
            omega
          obtain ⟨Y, hY⟩ : ∃ Y, (⟨(txt u).toArray⟩ : ByteArray) ++ ⟨#[58]⟩ = Y := ⟨_, rfl⟩
          rw [hY] at e2 hs3
          clear lu lp HPRE
          generalize (⟨(tierTxt (u, p)).toArray⟩ : ByteArray) = Z at *
          generalize (⟨(txt p).toArray⟩ : ByteArray) = X2 at *
          generalize (⟨(txt u).toArray⟩ : ByteArray) = X1 at *
          go_wp2_with (first
            | (go_at_call 56; (with_reducible refine (I1.out _ (by repeat (first | exact Below.refl _ _ | refine Below.setCell ?_ (by first | (simp; done) | (simp; omega) | omega) _ | refine Below.alloc ?_ (by first | (simp; done) | (simp; omega) | omega) _ | refine Below.drew ?_ | assumption | refine Below.trans ?_ (Below.mono (by assumption) (by first | (simp; done) | (simp; omega) | omega))))).mono ?_); rintro e w3 ⟨rfl, hb3⟩; obtain ⟨hc3, hf3⟩ := bcell hb3; have hs3' := hb3.size; (try simp at hs3'))
            | (go_at_call 56; (with_reducible refine (I2.out _ (by repeat (first | exact Below.refl _ _ | refine Below.setCell ?_ (by first | (simp; done) | (simp; omega) | omega) _ | refine Below.alloc ?_ (by first | (simp; done) | (simp; omega) | omega) _ | refine Below.drew ?_ | assumption | refine Below.trans ?_ (Below.mono (by assumption) (by first | (simp; done) | (simp; omega) | omega))))).mono ?_); rintro e w4 ⟨rfl, hb4⟩; obtain ⟨hc4, hf4⟩ := bcell hb4; have hs4' := hb4.size; (try simp at hs4'))
            | (at_builtin; refine wpList_append_own _ rfl (.tmp 26) (.tmp 33) 56 rfl w.heap.size 9 i0 _ 1 16 Tryz.underlying56 hi0 hz0 hz1 hz2 rfl (by decide) v k xs rfl ((own_below HO.out (by repeat (first | exact Below.refl _ _ | refine Below.setCell ?_ (by first | (simp; done) | (simp; omega) | omega) _ | refine Below.alloc ?_ (by first | (simp; done) | (simp; omega) | omega) _ | refine Below.drew ?_ | assumption | refine Below.trans ?_ (Below.mono (by assumption) (by first | (simp; done) | (simp; omega) | omega))))).alloc _) _ 1 1 [.string Z] rfl rfl (by intro j u' hj; match j, hj with | 0, hj => (simp at hj; subst hj; simp [Addr.add, go_sem])) (by intro u' hu'; simp at hu'; subst hu'; rfl) (by unfold maxLen; omega) (by omega) (by simp; omega) ?_; intro v5 w5 hown5 hgrow5 hiff; clear hiff; have HO5 := Lib.hid hown5; have B5 : Below w.heap.size w w5 := Below.grown (by repeat (first | exact Below.refl _ _ | refine Below.setCell ?_ (by first | (simp; done) | (simp; omega) | omega) _ | refine Below.alloc ?_ (by first | (simp; done) | (simp; omega) | omega) _ | refine Below.drew ?_ | assumption | refine Below.trans ?_ (Below.mono (by assumption) (by first | (simp; done) | (simp; omega) | omega)))) hgrow5 (by simp; omega) (fun g hg => (HO.out.lt g hg).1); clear hown5 hgrow5))
          go_roundw
          case rel => exact ⟨k + 1, _, by omega, by go_num, rfl, Lib.hid (by rw [HTK.out]; exact HO5.out), B5⟩
          case measure => first | (simp [intOf]; done) | (simp [intOf]; omega)
        · have e2 := HPRE.out [42] (by simp [tierTxt, hu])
          have hY : (⟨#[42]⟩ : ByteArray) ++ ⟨#[58]⟩ = ⟨#[42, 58]⟩ := app_str [42] [58]
          rw [show (⟨([42] : List UInt8).toArray⟩ : ByteArray) = ⟨#[42]⟩ from rfl, hY] at e2
          clear lu lp HPRE
          generalize (⟨(tierTxt (u, p)).toArray⟩ : ByteArray) = Z at *
          generalize (⟨(txt p).toArray⟩ : ByteArray) = X2 at *
          go_wp2_with (first
            | (go_at_call 56; (with_reducible refine (I1.out _ (by repeat (first | exact Below.refl _ _ | refine Below.setCell ?_ (by first | (simp; done) | (simp; omega) | omega) _ | refine Below.alloc ?_ (by first | (simp; done) | (simp; omega) | omega) _ | refine Below.drew ?_ | assumption | refine Below.trans ?_ (Below.mono (by assumption) (by first | (simp; done) | (simp; omega) | omega))))).mono ?_); rintro e w3 ⟨rfl, hb3⟩; obtain ⟨hc3, hf3⟩ := bcell hb3; have hs3' := hb3.size; (try simp at hs3'))
            | (go_at_call 56; (with_reducible refine (I2.out _ (by repeat (first | exact Below.refl _ _ | refine Below.setCell ?_ (by first | (simp; done) | (simp; omega) | omega) _ | refine Below.alloc ?_ (by first | (simp; done) | (simp; omega) | omega) _ | refine Below.drew ?_ | assumption | refine Below.trans ?_ (Below.mono (by assumption) (by first | (simp; done) | (simp; omega) | omega))))).mono ?_); rintro e w4 ⟨rfl, hb4⟩; obtain ⟨hc4, hf4⟩ := bcell hb4; have hs4' := hb4.size; (try simp at hs4'))
            | (at_builtin; refine wpList_append_own _ rfl (.tmp 26) (.tmp 33) 56 rfl w.heap.size 9 i0 _ 1 16 Tryz.underlying56 hi0 hz0 hz1 hz2 rfl (by decide) v k xs rfl ((own_below HO.out (by repeat (first | exact Below.refl _ _ | refine Below.setCell ?_ (by first | (simp; done) | (simp; omega) | omega) _ | refine Below.alloc ?_ (by first | (simp; done) | (simp; omega) | omega) _ | refine Below.drew ?_ | assumption | refine Below.trans ?_ (Below.mono (by assumption) (by first | (simp; done) | (simp; omega) | omega))))).alloc _) _ 1 1 [.string Z] rfl rfl (by intro j u' hj; match j, hj with | 0, hj => (simp at hj; subst hj; simp [Addr.add, go_sem])) (by intro u' hu'; simp at hu'; subst hu'; rfl) (by unfold maxLen; omega) (by omega) (by simp; omega) ?_; intro v5 w5 hown5 hgrow5 hiff; clear hiff; have HO5 := Lib.hid hown5; have B5 : Below w.heap.size w w5 := Below.grown (by repeat (first | exact Below.refl _ _ | refine Below.setCell ?_ (by first | (simp; done) | (simp; omega) | omega) _ | refine Below.alloc ?_ (by first | (simp; done) | (simp; omega) | omega) _ | refine Below.drew ?_ | assumption | refine Below.trans ?_ (Below.mono (by assumption) (by first | (simp; done) | (simp; omega) | omega)))) hgrow5 (by simp; omega) (fun g hg => (HO.out.lt g hg).1); clear hown5 hgrow5))
          go_roundw
          case rel => exact ⟨k + 1, _, by omega, by go_num, rfl, Lib.hid (by rw [HTK.out]; exact HO5.out), B5⟩
          case measure => first | (simp [intOf]; done) | (simp [intOf]; omega)
      · obtain rfl : k = n := by omega
        have htk : l.take k = l := List.take_of_length_le (by rw [HL.out]; exact Nat.le_refl _)
        rw [htk] at HO
        obtain ⟨g, cap, rfl, _, hg⟩ := HO.out.form n1
        have hcap : k ≤ cap := by
          rcases HO.out.2 with ⟨h1, h2⟩ | ⟨g', cap', cur, h1, _, _, h4, _⟩
          · omega
          · injection h1 with _ _ h3; omega
        have JO : Hid (Calls Tryz.prog 57 #[.slice (some ⟨g, 0, none⟩) k cap, .string ⟨#[44]⟩] wo fun e w' => e = .returned (.string ⟨(fmtT l).toArray⟩) ∧ Below wo.heap.size wo w') := Lib.hid (by
          have hxl : ((l.map tierTxt).map (fun s => (⟨s.toArray⟩ : ByteArray))).length = k := by simp [HL.out]
          have hmap : ((l.map tierTxt).map (fun s => (⟨s.toArray⟩ : ByteArray))).map (·.data.toList) = l.map tierTxt := by simp [Function.comp_def]
          have h := Tryz.strings_Join g 0 cap ((l.map tierTxt).map (fun s => (⟨s.toArray⟩ : ByteArray))) ⟨#[44]⟩ wo (fun j x hx => by
            have hc := HO.out.cells (g := g) rfl j (.string x) (by
              simp only [strsV, List.getElem?_map, Option.map_eq_some_iff] at hx ⊢
              obtain ⟨a, ha, rfl⟩ := hx
              exact ⟨a, ha, rfl⟩)
            rw [addr0] at hc
            simpa using hc) hg (by rw [hxl]; omega) (by rw [hxl]; exact hcap) (by
              rw [hmap]
              have := fmtT_len HIN.out
              rw [HL.out] at this
              exact Nat.le_trans this (by omega))
          rw [hxl, hmap] at h
          exact h)
        clear htk HO HT HIN
        go_wp2_with (first | (go_at_call 57; refine JO.out.mono ?_; rintro e w6 ⟨rfl, hb6⟩; have hs6 := hb6.size))
        go_ret2
        exact ⟨ret_si HV.out H0.out, (by repeat (first | exact Below.refl _ _ | refine Below.setCell ?_ (by first | (simp; done) | (simp; omega) | omega) _ | refine Below.alloc ?_ (by first | (simp; done) | (simp; omega) | omega) _ | refine Below.drew ?_ | assumption | refine Below.trans ?_ (Below.mono (by assumption) (by first | (simp; done) | (simp; omega) | omega))))⟩
  · have HX := Lib.hid h0
    obtain ⟨x, hx⟩ : ∃ x, checkT l = x := ⟨_, rfl⟩
    have HXX := Lib.hid hx
    rw [hx] at CK h0
    have x0 : (x != 0) = true := by simpa using h0
    clear hx h0
    go_enter Tryz.func12, Tryz.ntmps12
    go_wp2_with (first | (go_at_call 55; refine (CK.out).mono ?_; rintro e w1 ⟨rfl, hb1⟩; obtain ⟨hc1, hf1⟩ := bcell hb1; have hs1 := hb1.size; (try simp at hs1)))
    go_ret2
    exact ⟨ret_si (m := []) (fmtV_n HX.out) HXX.out, (by repeat (first | exact Below.refl _ _ | refine Below.setCell ?_ (by first | (simp; done) | (simp; omega) | omega) _ | refine Below.alloc ?_ (by first | (simp; done) | (simp; omega) | omega) _ | refine Below.drew ?_ | assumption | refine Below.trans ?_ (Below.mono (by assumption) (by first | (simp; done) | (simp; omega) | omega))))⟩
end Go.Proofs.YtdpoahfjiomhbaaGreatDoor
