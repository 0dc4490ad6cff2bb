/-
  Contract of tier.Format.
-/
import Derived.Test.YtakfjdnpfhcgkaaGreatDoorShelf2
import Derived.Test.YtakfjdnpfhcgkaaGreatDoorPt2
import Derived.Test.YtakfjdnpfhcgkaaGreatDoorWk4
import Derived.Test.YtakfjdnpfhcgkaaGreatDoorTk7
import Derived.Lib.LaidTab
import Derived.Lib.AppendIntMem
import Derived.Laws.RangeAny
import Derived.Lib.ConvBytes
import Derived.WalkSmall
import Derived.Lib.Hide
import Derived.Lib.AtoiErrMem
import Derived.Deep.QuietTactic
import Derived.BigQuiet
import Derived.Deep.Draws
import Derived.Test.YtakfjdnpfhcgkaaGreatDoorTk6
import Derived.Lib.ItoaLen
import Derived.Laws.AppendOwn
/-
  What the world must hold for the library's calls of this seat; contracts of Itoa, number's parts, Cut, Split.
-/
namespace Go.Proofs.YtakfjdnpfhcgkaaGreatDoor
set_option linter.all false
open Go.RowKit Go.Sort
attribute [local go_sem] cell_set_self lt_1 lt_2 lt_3 lt_4 lt_5 lt_6

theorem gPow : Tryz.prog.globalNamed "internal/strconv.uint64pow10" = some 5 := by kernel_rfl
theorem gErr : Tryz.prog.globalNamed "strconv.ErrRange" = some 4 := by kernel_rfl
/-- What the library's calls read: MaxLen some int, the powers of ten, ErrRange some error. -/
def Env (w : World) : Prop := 7 + 1 ≤ w.heap.size ∧ (∃ m, w.cell? ⟨2, 0, none⟩ = some (.int .i64 m)) ∧ Lib.TabIs Tryz.prog w "internal/strconv.uint64pow10" .u64 Lib.pow10Tab ∧ ∃ tp p, w.var? Tryz.prog "strconv.ErrRange" = some #[.iface tp p]
theorem Env.below {w w' : World} (h : Env w) (hb : Below w.heap.size w w') : Env w' := by
  obtain ⟨h0, ⟨m, hm⟩, ht, tp, p, hv⟩ := h
  refine ⟨Nat.le_trans h0 hb.size, ⟨m, by rw [hb.cell (p := ⟨2, 0, none⟩) (Nat.lt_of_lt_of_le (by decide) h0), hm]⟩, ?_, tp, p, ?_⟩
  · exact var?_below hb gPow (Nat.lt_of_lt_of_le (by decide) h0) ht
  · exact var?_below hb gErr (Nat.lt_of_lt_of_le (by decide) h0) hv
theorem itoa_any (z : Int) (h0 : -9223372036854775808 ≤ z) (h1 : z ≤ 9223372036854775807) (w : World) (h : Env w) : Calls Tryz.prog 39 #[.int .i64 z] w fun e w' => e = .returned (.string ⟨(txt z).toArray⟩) ∧ Below w.heap.size w w' := by
  refine (Tryz.strconv_Itoa z h0 h1 w h.2.2.1).mono ?_
  rintro e w' ⟨rfl, k, os, rfl⟩
  exact ⟨by rw [itoa_txt], Lib.below_grow _ w (Nat.le_refl _) k os⟩

/-! ### digits alone -/
def oddP (r : Nat) : Bool := decide (r < 48) || decide (57 < r)
def digA (l : List UInt8) : Bool := l.all (fun b => decide (48 ≤ b.toNat) && decide (b.toNat ≤ 57))
theorem digA_iff {l : List UInt8} : digA l = true ↔ DigB l := by simp [digA, DigB]
theorem idx_odd (s : ByteArray) : ∀ (f pos : Nat), s.size ≤ pos + f → (0 ≤ Lib.idxFuncFrom oddP true s f pos ↔ ∃ (i : Nat) (h : i < s.size), pos ≤ i ∧ ¬ (48 ≤ (s[i]'h).toNat ∧ (s[i]'h).toNat ≤ 57))
  | 0, pos, h => by
    simp only [Lib.idxFuncFrom]
    constructor
    · intro h; omega
    · rintro ⟨i, hi, hp, _⟩; omega
  | f + 1, pos, h => by
    rw [Lib.idxFuncFrom]
    by_cases hp : pos < s.size
    · rw [if_pos hp]
      by_cases hd : 48 ≤ (s[pos]'hp).toNat ∧ (s[pos]'hp).toNat ≤ 57
      · rw [decode_ascii s pos hp (by omega)]
        have ho : oddP (s[pos]'hp).toNat = false := by unfold oddP; simp; omega
        rw [if_neg (by simp [ho])]
        rw [idx_odd s f (pos + 1) (by omega)]
        constructor
        · rintro ⟨i, hi, h1, h2⟩; exact ⟨i, hi, by omega, h2⟩
        · rintro ⟨i, hi, h1, h2⟩
          refine ⟨i, hi, ?_, h2⟩
          rcases Nat.lt_or_ge pos i with h3 | h3
          · omega
          · have : i = pos := by omega
            subst this
            exact absurd hd h2
      · have ho : oddP (Utf8.decode s pos).1 = true := by
          by_cases ha : (s[pos]'hp).toNat < 128
          · rw [decode_ascii s pos hp ha]; unfold oddP; simp; omega
          · have := (decode_high s pos hp (by omega)).1
            unfold oddP; simp; omega
        rw [if_pos ho]
        exact ⟨fun _ => ⟨pos, hp, Nat.le_refl _, hd⟩, fun _ => by omega⟩
    · rw [if_neg hp]
      constructor
      · intro h; omega
      · rintro ⟨i, hi, h1, _⟩; omega
theorem idx_dig (l : List UInt8) : decide (0 ≤ Lib.idxFunc oddP true ⟨l.toArray⟩) = !digA l := by
  have h := idx_odd ⟨l.toArray⟩ (⟨l.toArray⟩ : ByteArray).size 0 (by omega)
  unfold Lib.idxFunc
  rw [Bool.eq_iff_iff]
  simp only [decide_eq_true_eq, Bool.not_eq_true', Bool.eq_false_iff, ne_eq, digA_iff]
  rw [h]
  constructor
  · rintro ⟨i, hi, _, h2⟩ hd
    exact h2 (hd _ (by
      have : i < l.length := by simpa [ByteArray.size] using hi
      show (l.toArray)[i] ∈ l
      simp))
  · intro hn
    have hn' : ∃ b ∈ l, ¬ (48 ≤ b.toNat ∧ b.toNat ≤ 57) := by
      rcases Classical.em (∃ b ∈ l, ¬ (48 ≤ b.toNat ∧ b.toNat ≤ 57)) with h | h
      · exact h
      · exact absurd (fun b hb => Classical.byContradiction fun hc => h ⟨b, hb, hc⟩) hn
    obtain ⟨b, hb, hnb⟩ := hn'
    obtain ⟨i, hi, rfl⟩ := List.mem_iff_getElem.1 hb
    exact ⟨i, by simpa [ByteArray.size] using hi, Nat.zero_le _, hnb⟩
end Go.Proofs.YtakfjdnpfhcgkaaGreatDoor

/-
  Contract of tier.number.
-/
namespace Go.Proofs.YtakfjdnpfhcgkaaGreatDoor
set_option linter.all false
open Go.RowKit Go.Sort
attribute [local go_sem] cell_set_self lt_1 lt_2 lt_3 lt_4 lt_5 lt_6

end Go.Proofs.YtakfjdnpfhcgkaaGreatDoor

/-
  Contract of tier.Format.
-/
namespace Go.Proofs.YtakfjdnpfhcgkaaGreatDoor
set_option linter.all false
open Go.RowKit Go.Sort
attribute [local go_sem] cell_set_self lt_1 lt_2 lt_3 lt_4 lt_5 lt_6

theorem app_str (a b : List UInt8) : (⟨a.toArray⟩ : ByteArray) ++ ⟨b.toArray⟩ = ⟨(a ++ b).toArray⟩ := by
  apply ByteArray.ext
  simp
theorem ba_szP (l : List UInt8) : (⟨l.toArray⟩ : ByteArray).size = l.length := by simp [ByteArray.size]
theorem txt_len {z : Int} (h0 : -9223372036854775808 ≤ z) (h1 : z ≤ 9223372036854775807) : (txt z).length ≤ 21 := by
  rw [← itoa_txt]; exact Lib.itoa_length_le z h0 h1
theorem own_below {w w' : World} {base size n : Nat} {e : TypeId} {v : Value} {xs : List Value} (h : w.ownsRow base e size v n xs) (hb : Below w.heap.size w w') : w'.ownsRow base e size v n xs := by
  refine h.kept (row := none) ⟨hb.os, hb.tape, hb.output, hb.size, fun i hi _ => hb.block i hi⟩ ?_
  cases hv : v.ownBlock with
  | none => exact .inl rfl
  | some x => exact .inr (by simp)
end Go.Proofs.YtakfjdnpfhcgkaaGreatDoor
