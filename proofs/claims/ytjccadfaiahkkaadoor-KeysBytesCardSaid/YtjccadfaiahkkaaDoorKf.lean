/-
  Contract of decodeInt.
-/
import Derived.Test.YtjccadfaiahkkaaDoorKe
import Derived.Deep.RegionLaw
namespace Go.Proofs.YtjccadfaiahkkaaDoor
set_option linter.all false
open Go.RowKit
attribute [local go_sem] cell_set_self lt_1 lt_2 lt_3 lt_4 lt_5 lt_6

set_option maxHeartbeats 1000000 in
theorem decodeInt_no (s : ByteArray) (h : s.size < 8) (w : World) : Calls Tryd.prog 28 #[.string s] w fun e w' => e = .returned (.tuple #[.agg #[.int .i64 0, .int .i64 0, .string ⟨#[]⟩], .string ⟨#[]⟩, .bool false]) ∧ Below w.heap.size w w' := by
  go_enter Tryd.func28, Tryd.ntmps28
  go_wp2
  exact bodyPost_ret (v := .tuple #[.agg #[.int .i64 0, .int .i64 0, .string ⟨#[]⟩], .string ⟨#[]⟩, .bool false]) (by simp [results, Tryd.results28, go_sem, *]) rfl ⟨rfl, (by repeat (first | exact Below.refl _ _ | refine Below.setCell ?_ (by first | (simp; done) | (simp; omega) | omega) _ | refine Below.alloc ?_ (by first | (simp; done) | (simp; omega) | omega) _ | refine Below.drew ?_ | assumption | refine Below.trans ?_ (Below.mono (by assumption) (by first | (simp; done) | (simp; omega) | omega))))⟩

theorem or_byte (V b : Nat) (hV : V < 72057594037927936) (hb : b < 256) : bits .or .u64 ((V : Int) * 256) (IntKind.u64.wrap (b : Int)) = ((V * 256 + b : Nat) : Int) := by
  have e : IntKind.u64.wrap (b : Int) = (b : Int) := by rw [IntKind.wrap_u64]; omega
  have h := u64_or_nat (V * 256) b (by omega) (by omega)
  rw [e, show ((V : Int) * 256) = ((V * 256 : Nat) : Int) by omega, h]
  have e2 := Nat.two_pow_add_eq_or_of_lt (i := 8) (show b < 2 ^ 8 by omega) V
  rw [show V * 256 = 2 ^ 8 * V by omega, ← e2]
theorem ev_snoc (b : UInt8) : ∀ (l : List UInt8) (a : Nat), ev a (l ++ [b]) = ev a l * 256 + b.toNat
  | [], a => rfl
  | c :: l, a => by rw [List.cons_append, ev, ev_snoc b l]; rfl
theorem take_snoc (s : ByteArray) (k : Nat) (h : k < s.size) : s.data.toList.take (k + 1) = s.data.toList.take k ++ [s[k]] := by
  rw [List.take_succ_eq_append_getElem (by simpa using h)]; rfl
theorem back_i64 (V : Nat) (hV : V < 18446744073709551616) : IntKind.i64.wrap (bits .xor .u64 (V : Int) 9223372036854775808) = (V : Int) - 9223372036854775808 := by
  have h := u64_xor_nat V 9223372036854775808 hV (by omega)
  rw [show ((9223372036854775808 : Nat) : Int) = 9223372036854775808 from rfl] at h
  rw [h, xor_top V hV, IntKind.wrap_i64]
  omega

set_option maxHeartbeats 1000000 in
theorem decodeInt_yes (s : ByteArray) (h : 8 ≤ s.size) (hm : s.size ≤ 9223372036854775807) (w : World) : Calls Tryd.prog 28 #[.string s] w fun e w' => e = .returned (.tuple #[.agg #[.int .i64 1, .int .i64 (deI (s.data.toList.take 8)), .string ⟨#[]⟩], .string (s.extract 8 s.size), .bool true]) ∧ Below w.heap.size w w' := by
  have h' : ¬ (s.size : Int) < 8 := by omega
  go_enter Tryd.func28, Tryd.ntmps28
  go_wp2
  go_loop [5, 11] (fun a i => ∃ k : Nat, k ≤ 8 ∧ i = .int .i64 k ∧ a = .int .u64 (ev 0 (s.data.toList.take k) : Nat)) (fun _ i => 8 - (intOf i).toNat)
  case atStart => exact ⟨0, Nat.zero_le _, rfl, rfl⟩
  case round =>
    obtain ⟨k, hk, rfl, rfl⟩ := hrel
    have HV : Hid (ev 0 (s.data.toList.take k) < 256 ^ k) := Lib.hid (by
      have := ev_lt (s.data.toList.take k)
      rwa [List.length_take, Nat.min_eq_left (by simp; omega)] at this)
    by_cases hlt : k < 8
    · have hlt' : (k : Int) < 8 := by omega
      have hks : k < s.size := by omega
      have hv : ev 0 (s.data.toList.take k) < 72057594037927936 := Nat.lt_of_lt_of_le HV.out (by have := Nat.pow_le_pow_right (n := 256) (by omega) (show k ≤ 7 by omega); simpa using this)
      have HS : Hid (ev 0 (s.data.toList.take (k + 1)) = ev 0 (s.data.toList.take k) * 256 + (s[k]'hks).toNat) := Lib.hid (by rw [take_snoc s k hks, ev_snoc])
      clear HV
      generalize ev 0 (s.data.toList.take k) = V at *
      go_wp2
      go_round
      case rel => exact ⟨k + 1, by omega, by go_num, by rw [or_byte V _ hv (UInt8.toNat_lt _), HS.out]⟩
      case measure => simp [intOf]; omega
    · obtain rfl : k = 8 := by omega
      have D : Hid (IntKind.i64.wrap (bits .xor .u64 (ev 0 (s.data.toList.take 8) : Nat) 9223372036854775808) = deI (s.data.toList.take 8)) := Lib.hid (back_i64 _ (by have := HV.out; simpa using this))
      clear HV
      generalize ev 0 (s.data.toList.take 8) = V at *
      obtain ⟨d, HD⟩ : ∃ d, Hid (deI (s.data.toList.take 8) = d) := ⟨_, Lib.hid rfl⟩
      rw [HD.out] at D
      go_wp2
      have d' := D.out
      have se : (8 : Int) ≤ s.size := by omega
      go_region_law ((go_simp; go_at_call 19; refine (int_any _ _).mono ?_; rintro e w5 ⟨rfl, hb5⟩; obtain ⟨hc5, hf5⟩ := bcell hb5; (try simp only [drew_size, drew_cell, drew_frozen] at hc5 hf5); have hs5 := hb5.size; (try simp at hs5); have hz5 : w.heap.size < w5.heap.size := by have := hb5.size; (try simp at this); omega))
      all_goals go_wp2
      all_goals exact bodyPost_ret (v := .tuple #[.agg #[.int .i64 1, .int .i64 d, .string ⟨#[]⟩], .string (s.extract 8 s.size), .bool true]) (by simp [results, Tryd.results28, go_sem, *]) rfl ⟨by rw [HD.out], (by repeat (first | exact Below.refl _ _ | refine Below.setCell ?_ (by first | (simp; done) | (simp; omega) | omega) _ | refine Below.alloc ?_ (by first | (simp; done) | (simp; omega) | omega) _ | refine Below.drew ?_ | assumption | refine Below.trans ?_ (Below.mono (by assumption) (by first | (simp; done) | (simp; omega) | omega))))⟩
end Go.Proofs.YtjccadfaiahkkaaDoor
