/-
  Contracts of encodeInt and decodeInt.
-/
import Derived.Test.YtjccadfaiahkkaaDoorKd
import Derived.Test.YtjccadfaiahkkaaDoorKp
import Derived.Outline
import Derived.LoopTactic
import Derived.LoopN
import Derived.Laws.BitsAllLaws
import Derived.Laws.IdiomStrings
import Derived.IntWalk
namespace Go.Proofs.YtjccadfaiahkkaaDoor
set_option linter.all false
open Go.RowKit
attribute [local go_sem] cell_set_self lt_1 lt_2 lt_3 lt_4 lt_5 lt_6

theorem xor_top (X : Nat) (h : X < 18446744073709551616) : X ^^^ 9223372036854775808 = (X + 9223372036854775808) % 18446744073709551616 := by
  have key : ∀ Y : Nat, Y < 9223372036854775808 → Y ^^^ 9223372036854775808 = Y + 9223372036854775808 := fun Y hY => by
    have e1 : (9223372036854775808 : Nat) = 2 ^ 63 := by decide
    rw [e1] at hY ⊢
    have e2 := Nat.two_pow_add_eq_or_of_lt hY 1
    rw [Nat.mul_one] at e2
    rw [Nat.add_comm, e2]
    apply Nat.eq_of_testBit_eq
    intro i
    rw [Nat.testBit_xor, Nat.testBit_or, Nat.testBit_two_pow]
    by_cases hi : 63 = i
    · subst hi
      rw [Nat.testBit_lt_two_pow hY]; simp
    · simp [hi]
  rcases Nat.lt_or_ge X 9223372036854775808 with hX | hX
  · rw [key X hX, Nat.mod_eq_of_lt (by omega)]
  · obtain ⟨Y, rfl⟩ : ∃ Y, X = Y + 9223372036854775808 := ⟨X - 9223372036854775808, by omega⟩
    rw [← key Y (by omega), Nat.xor_assoc, Nat.xor_self, Nat.xor_zero, key Y (by omega)]
    omega
theorem top_of_i64 (n : Int) (hn : In64 n) : bits .xor .u64 (IntKind.u64.wrap n) 9223372036854775808 = (((n + 9223372036854775808).toNat : Nat) : Int) := by
  obtain ⟨h1, h2⟩ := hn
  have e : IntKind.u64.wrap n = (((n % 18446744073709551616).toNat : Nat) : Int) := by
    rw [IntKind.wrap_u64]; omega
  rw [e]
  have := u64_xor_nat (n % 18446744073709551616).toNat 9223372036854775808 (by omega) (by omega)
  rw [show ((9223372036854775808 : Nat) : Int) = 9223372036854775808 from rfl] at this
  rw [this, xor_top _ (by omega)]
  omega

set_option maxHeartbeats 1000000 in
set_option maxRecDepth 100000 in
theorem encodeInt_any (k n : Int) (s : ByteArray) (hn : In64 n) (w : World) : Calls Tryd.prog 27 #[.agg #[.int .i64 k, .int .i64 n, .string s]] w fun e w' => e = .returned (.string ⟨(enI n).toArray⟩) ∧ Below w.heap.size w w' := by
  have ht := top_of_i64 n hn
  have hv : (n + 9223372036854775808).toNat < 18446744073709551616 := by obtain ⟨h1, h2⟩ := hn; omega
  unfold enI
  generalize (n + 9223372036854775808).toNat = v at *
  have hcv : (convert 53 9 (.slice (some ⟨w.heap.size + 1, 0, none⟩) 8 8)).run Tryd.prog ((w.alloc (.cells #[.int .i64 k, .int .i64 n, .string s] 42)).alloc (.cells #[.int .u8 ((v : Int) / 256 / 256 / 256 / 256 / 256 / 256 / 256), .int .u8 ((v : Int) / 256 / 256 / 256 / 256 / 256 / 256 % 256), .int .u8 ((v : Int) / 256 / 256 / 256 / 256 / 256 % 256), .int .u8 ((v : Int) / 256 / 256 / 256 / 256 % 256), .int .u8 ((v : Int) / 256 / 256 / 256 % 256), .int .u8 ((v : Int) / 256 / 256 % 256), .int .u8 ((v : Int) / 256 % 256), .int .u8 ((v : Int) % 256)] 77)) = .ok (.string ⟨(be 8 v).toArray⟩) ((w.alloc (.cells #[.int .i64 k, .int .i64 n, .string s] 42)).alloc (.cells #[.int .u8 ((v : Int) / 256 / 256 / 256 / 256 / 256 / 256 / 256), .int .u8 ((v : Int) / 256 / 256 / 256 / 256 / 256 / 256 % 256), .int .u8 ((v : Int) / 256 / 256 / 256 / 256 / 256 % 256), .int .u8 ((v : Int) / 256 / 256 / 256 / 256 % 256), .int .u8 ((v : Int) / 256 / 256 / 256 % 256), .int .u8 ((v : Int) / 256 / 256 % 256), .int .u8 ((v : Int) / 256 % 256), .int .u8 ((v : Int) % 256)] 77)) := by
    refine run_convert_bytes_back (P := Tryd.prog) _ 53 9 5 ⟨w.heap.size + 1, 0, none⟩ 8 (be 8 v) Tryd.underlying53 Tryd.underlying5 Tryd.underlying9 (fun j hj => ?_)
    have hb : ((w.alloc (.cells #[.int .i64 k, .int .i64 n, .string s] 42)).alloc (.cells #[.int .u8 ((v : Int) / 256 / 256 / 256 / 256 / 256 / 256 / 256), .int .u8 ((v : Int) / 256 / 256 / 256 / 256 / 256 / 256 % 256), .int .u8 ((v : Int) / 256 / 256 / 256 / 256 / 256 % 256), .int .u8 ((v : Int) / 256 / 256 / 256 / 256 % 256), .int .u8 ((v : Int) / 256 / 256 / 256 % 256), .int .u8 ((v : Int) / 256 / 256 % 256), .int .u8 ((v : Int) / 256 % 256), .int .u8 ((v : Int) % 256)] 77)).heap[w.heap.size + 1]? = some (.cells #[.int .u8 ((v : Int) / 256 / 256 / 256 / 256 / 256 / 256 / 256), .int .u8 ((v : Int) / 256 / 256 / 256 / 256 / 256 / 256 % 256), .int .u8 ((v : Int) / 256 / 256 / 256 / 256 / 256 % 256), .int .u8 ((v : Int) / 256 / 256 / 256 / 256 % 256), .int .u8 ((v : Int) / 256 / 256 / 256 % 256), .int .u8 ((v : Int) / 256 / 256 % 256), .int .u8 ((v : Int) / 256 % 256), .int .u8 ((v : Int) % 256)] 77) := by
      have := heap_alloc_new (w.alloc (.cells #[.int .i64 k, .int .i64 n, .string s] 42)) (.cells #[.int .u8 ((v : Int) / 256 / 256 / 256 / 256 / 256 / 256 / 256), .int .u8 ((v : Int) / 256 / 256 / 256 / 256 / 256 / 256 % 256), .int .u8 ((v : Int) / 256 / 256 / 256 / 256 / 256 % 256), .int .u8 ((v : Int) / 256 / 256 / 256 / 256 % 256), .int .u8 ((v : Int) / 256 / 256 / 256 % 256), .int .u8 ((v : Int) / 256 / 256 % 256), .int .u8 ((v : Int) / 256 % 256), .int .u8 ((v : Int) % 256)] 77)
      simpa using this
    rw [show Addr.add ⟨w.heap.size + 1, 0, none⟩ j = ⟨w.heap.size + 1, j, none⟩ from by unfold Addr.add; split <;> simp_all, Lib.cell_of_heap hb]
    rw [be_length] at hj
    match j, hj with
    | 0, _ => first | (simp [be]; done) | (simp [be]; omega)
    | 1, _ => first | (simp [be]; done) | (simp [be]; omega)
    | 2, _ => first | (simp [be]; done) | (simp [be]; omega)
    | 3, _ => first | (simp [be]; done) | (simp [be]; omega)
    | 4, _ => first | (simp [be]; done) | (simp [be]; omega)
    | 5, _ => first | (simp [be]; done) | (simp [be]; omega)
    | 6, _ => first | (simp [be]; done) | (simp [be]; omega)
    | 7, _ => simp [be]
  go_enter Tryd.func27, Tryd.ntmps27
  go_wp2
  refine wp_loop_rounds 9 ?_
  rw [rounds_succ]
  go_wp2
  rw [rounds_succ]
  go_wp2
  rw [rounds_succ]
  go_wp2
  rw [rounds_succ]
  go_wp2
  rw [rounds_succ]
  go_wp2
  rw [rounds_succ]
  go_wp2
  rw [rounds_succ]
  go_wp2
  rw [rounds_succ]
  go_wp2
  rw [rounds_succ]
  go_wp2
  go_ret
  exact ⟨rfl, (by repeat (first | exact Below.refl _ _ | refine Below.setCell ?_ (by first | (simp; done) | (simp; omega) | omega) _ | refine Below.alloc ?_ (by first | (simp; done) | (simp; omega) | omega) _ | refine Below.drew ?_ | assumption | refine Below.trans ?_ (Below.mono (by assumption) (by first | (simp; done) | (simp; omega) | omega))))⟩
end Go.Proofs.YtjccadfaiahkkaaDoor
