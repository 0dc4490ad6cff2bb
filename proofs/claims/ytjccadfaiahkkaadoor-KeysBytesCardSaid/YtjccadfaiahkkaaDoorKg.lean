/-
  The text's bytes as the library makes them; contracts of the kinds' closures.
-/
import Derived.Test.YtjccadfaiahkkaaDoorKf
import Derived.Test.YtjccadfaiahkkaaDoorKq
import Derived.Test.YtjccadfaiahkkaaDoorShelf
import Derived.Lib.CountLaws
import Derived.Lib.SplitLaws
namespace Go.Proofs.YtjccadfaiahkkaaDoor
set_option linter.all false
open Go.RowKit
attribute [local go_sem] cell_set_self lt_1 lt_2 lt_3 lt_4 lt_5 lt_6

/-- The first 0 of a text. -/
theorem first_zero : ∀ l : List UInt8, (Lib.indexByte l 0 = -1 ∧ Lib.index l [0] = -1 ∧ ∀ c ∈ l, c ≠ 0) ∨ ∃ z r, l = z ++ 0 :: r ∧ (∀ c ∈ z, c ≠ 0) ∧ Lib.indexByte l 0 = z.length ∧ Lib.index l [0] = z.length
  | [] => .inl ⟨rfl, rfl, by simp⟩
  | b :: l => by
    by_cases hb : b = 0
    · subst hb
      exact .inr ⟨[], l, rfl, by simp, rfl, rfl⟩
    · have e1 : (b == 0) = false := by simpa using hb
      have e2 : ((0 : UInt8) == b) = false := beq_eq_false_iff_ne.2 (fun h => hb h.symm)
      rcases first_zero l with ⟨h1, h2, h3⟩ | ⟨z, r, h1, h2, h3, h4⟩
      · refine .inl ⟨by simp [Lib.indexByte, e1, h1], by simp [Lib.index, List.isPrefixOf, e2, h2], ?_⟩
        intro c hc
        rcases List.mem_cons.1 hc with rfl | hc
        · exact hb
        · exact h3 c hc
      · refine .inr ⟨b :: z, r, by rw [h1]; rfl, ?_, ?_, ?_⟩
        · intro c hc
          rcases List.mem_cons.1 hc with rfl | hc
          · exact hb
          · exact h2 c hc
        · have : ((z.length : Int) == -1) = false := by rw [beq_eq_false_iff_ne]; omega
          simp [Lib.indexByte, e1, h3, this]
        · have : ((z.length : Int) == -1) = false := by rw [beq_eq_false_iff_ne]; omega
          simp [Lib.index, List.isPrefixOf, e2, h4, this]
theorem replaceK_esc : ∀ (n : Nat) (s : List UInt8), s.length ≤ n → Lib.replaceK [0] [0, 255] (Lib.count s [0]) s = esc s := by
  intro n
  induction n with
  | zero =>
    intro s h
    obtain rfl : s = [] := List.eq_nil_of_length_eq_zero (by omega)
    rfl
  | succ n ih =>
    intro s h
    rcases first_zero s with ⟨_, h2, h3⟩ | ⟨z, r, h1, h2, _, h4⟩
    · rw [Lib.count_miss h2, esc_free s h3]; rfl
    · have hc := Lib.count_hit (by simp) h4
      have hd : s.drop (z.length + 1) = r := by rw [h1]; simp
      rw [show ([0] : List UInt8).length = 1 from rfl, hd] at hc
      rw [hc, Nat.add_comm 1, Lib.replaceK_hit _ _ _ _ _ h4, show ([0] : List UInt8).length = 1 from rfl, hd, ih r (by rw [h1] at h; simp at h; omega)]
      rw [h1, esc_append, esc_free z h2]
      simp [esc]
theorem replaceAll_esc (s : List UInt8) : Lib.replaceAll s [0] [0, 255] = esc s := by
  unfold Lib.replaceAll Lib.replace Lib.replaceNum
  rw [if_neg (by decide), if_pos (.inl (by decide))]
  exact replaceK_esc _ s (Nat.le_refl _)
/-- What internal/bytealg.MaxLen's cell holds: some int. -/
def ML (w : World) : Prop := 0 < w.heap.size ∧ ∃ m, w.cell? ⟨0, 0, none⟩ = some (.int .i64 m)
theorem ML.below {w w' : World} (h : ML w) (hb : Below w.heap.size w w') : ML w' := by
  obtain ⟨h0, m, hm⟩ := h
  exact ⟨Nat.lt_of_lt_of_le h0 hb.size, m, by rw [hb.cell (p := ⟨0, 0, none⟩) h0, hm]⟩
theorem count_zero_le (s : List UInt8) : Lib.count s [0] ≤ s.length := by rw [Lib.count_one]; exact List.count_le_length

theorem replaceAll_any (s : List UInt8) (hs : s.length ≤ 1000000) (w : World) (h : ML w) : Calls Tryd.prog 31 #[.string ⟨s.toArray⟩, .string ⟨#[0]⟩, .string ⟨#[0, 255]⟩] w fun e w' => e = .returned (.string ⟨(esc s).toArray⟩) ∧ Below w.heap.size w w' := by
  obtain ⟨h0, m, hm⟩ := h
  have hz : (⟨s.toArray⟩ : ByteArray).size = s.length := by simp [ByteArray.size]
  have hc : Lib.countB ⟨s.toArray⟩ ⟨#[0]⟩ ≤ s.length := by
    have := count_zero_le s
    simpa [Lib.countB] using this
  have h := Tryd.strings_ReplaceAll ⟨s.toArray⟩ ⟨#[0]⟩ ⟨#[0, 255]⟩ m w (by omega) hm (by decide) (by rw [hz]; have : (⟨#[0, 255]⟩ : ByteArray).size = 2 := rfl; rw [this]; omega)
  have e := replaceAll_esc s
  rw [show (⟨s.toArray⟩ : ByteArray).data.toList = s from by simp, show (⟨#[0]⟩ : ByteArray).data.toList = [0] from rfl, show (⟨#[0, 255]⟩ : ByteArray).data.toList = [0, 255] from rfl, e] at h
  exact h
theorem app_str (a b : List UInt8) : (⟨a.toArray⟩ : ByteArray) ++ ⟨b.toArray⟩ = ⟨(a ++ b).toArray⟩ := by
  apply ByteArray.ext
  simp
set_option maxHeartbeats 1000000 in
theorem encodeText_any (k n : Int) (s : List UInt8) (hs : s.length ≤ 1000000) (w : World) (h : ML w) : Calls Tryd.prog 30 #[.agg #[.int .i64 k, .int .i64 n, .string ⟨s.toArray⟩]] w fun e w' => e = .returned (.string ⟨(esc s ++ [0, 1]).toArray⟩) ∧ Below w.heap.size w w' := by
  have R := Lib.hid (fun W (hb : Below w.heap.size w W) => replaceAll_any s hs W (h.below hb))
  have HA := Lib.hid (app_str (esc s) [0, 1])
  have hl : (esc s).length ≤ 2000000 := by have := esc_length s; omega
  clear h
  generalize esc s ++ [0, 1] = t at *
  generalize esc s = u at *
  go_enter Tryd.func30, Tryd.ntmps30
  go_wp2_with (first | (go_at_call 31; refine (R.out _ (by repeat (first | exact Below.refl _ _ | refine Below.setCell ?_ (by first | (simp; done) | (simp; omega) | omega) _ | refine Below.alloc ?_ (by first | (simp; done) | (simp; omega) | omega) _ | refine Below.drew ?_ | assumption | refine Below.trans ?_ (Below.mono (by assumption) (by first | (simp; done) | (simp; omega) | omega))))).mono ?_; rintro e w1 ⟨rfl, hb1⟩; obtain ⟨hc1, hf1⟩ := bcell hb1; have hs1 := hb1.size; (try simp at hs1); have hz1 : w.heap.size < w1.heap.size := by have := hb1.size; (try simp at this); omega))
  go_ret
  exact ⟨by rw [← HA.out]; rfl, (by repeat (first | exact Below.refl _ _ | refine Below.setCell ?_ (by first | (simp; done) | (simp; omega) | omega) _ | refine Below.alloc ?_ (by first | (simp; done) | (simp; omega) | omega) _ | refine Below.drew ?_ | assumption | refine Below.trans ?_ (Below.mono (by assumption) (by first | (simp; done) | (simp; omega) | omega))))⟩
theorem compareInt_any (k n k' n' : Int) (s s' : ByteArray) (w : World) : Calls Tryd.prog 29 #[.agg #[.int .i64 k, .int .i64 n, .string s], .agg #[.int .i64 k', .int .i64 n', .string s']] w fun e w' => e = .returned (.int .i64 (Lib.compareInt n n')) ∧ Below w.heap.size w w' := by
  have C := Lib.hid (fun W => Tryd.cmp_Compare_int n n' W)
  go_enter Tryd.func29, Tryd.ntmps29
  go_wp2_with (go_at_call 26; refine (C.out _).mono ?_; rintro e w' ⟨rfl, rfl⟩)
  go_ret
  exact ⟨rfl, (by repeat (first | exact Below.refl _ _ | refine Below.setCell ?_ (by first | (simp; done) | (simp; omega) | omega) _ | refine Below.alloc ?_ (by first | (simp; done) | (simp; omega) | omega) _ | refine Below.drew ?_ | assumption | refine Below.trans ?_ (Below.mono (by assumption) (by first | (simp; done) | (simp; omega) | omega))))⟩
theorem compareText_any (k n k' n' : Int) (s s' : ByteArray) (w : World) : Calls Tryd.prog 33 #[.agg #[.int .i64 k, .int .i64 n, .string s], .agg #[.int .i64 k', .int .i64 n', .string s']] w fun e w' => e = .returned (.int .i64 (Lib.compareBytes s.data.toList s'.data.toList)) ∧ Below w.heap.size w w' := by
  have C := Lib.hid (fun W => Tryd.strings_Compare s s' W)
  go_enter Tryd.func33, Tryd.ntmps33
  go_wp2_with (go_at_call 34; refine (C.out _).mono ?_; rintro e w' ⟨rfl, rfl⟩)
  go_ret
  exact ⟨rfl, (by repeat (first | exact Below.refl _ _ | refine Below.setCell ?_ (by first | (simp; done) | (simp; omega) | omega) _ | refine Below.alloc ?_ (by first | (simp; done) | (simp; omega) | omega) _ | refine Below.drew ?_ | assumption | refine Below.trans ?_ (Below.mono (by assumption) (by first | (simp; done) | (simp; omega) | omega))))⟩
end Go.Proofs.YtjccadfaiahkkaaDoor
