/-
  Contracts of keys.Encode (any length) and keys.Prefix.
-/
import Derived.Test.YtjccadfaiahkkaaDoorKi
namespace Go.Proofs.YtjccadfaiahkkaaDoor
set_option linter.all false
open Go.RowKit
attribute [local go_sem] cell_set_self lt_1 lt_2 lt_3 lt_4 lt_5 lt_6

theorem encode_any (A : Option Addr) (n c : Nat) (l : List Part) (hl : l.length = n) (hn : n ≤ 9223372036854775807) (hok : n ≤ 8 → ∀ p ∈ l, p.s.length ≤ 1000 ∧ In64 p.n) (w : World) (T : Parts w A l) (ml : ML w) :
    Calls Tryd.prog 9 #[.slice A n c] w fun e w' => e = .returned (.tuple #[.string ⟨(bytesE l).toArray⟩, .int .i64 (errE l)]) ∧ Below w.heap.size w w' := by
  by_cases h : n ≤ 8
  · exact encode_few A n c l hl h (hok h) w T ml
  · exact encode_many A n c l hl (by omega) hn w
theorem bytesE_le {l : List Part} : (bytesE l).length ≤ 200 := by
  unfold bytesE
  split
  · rename_i h; exact (errE_0 h).2.2
  · simp
def toE (l : List Part) : List UInt8 := if errE l = 0 then bytesE l ++ [255] else []
theorem ret_pre {l : List Part} {m m' : List UInt8} {x : Int} (h1 : bytesE l = m) (h3 : toE l = m') (h2 : errE l = x) : Ending.returned (.tuple #[.string ⟨m.toArray⟩, .string ⟨m'.toArray⟩, .int .i64 x]) = .returned (.tuple #[.string ⟨(bytesE l).toArray⟩, .string ⟨(toE l).toArray⟩, .int .i64 (errE l)]) := by rw [h1, h2, h3]
theorem ret_pre2 {x : List UInt8} {t : ByteArray} {m' : List UInt8} {e y : Int} (h1 : t = ⟨m'.toArray⟩) (h2 : e = y) : Ending.returned (.tuple #[.string ⟨x.toArray⟩, .string t, .int .i64 y]) = .returned (.tuple #[.string ⟨x.toArray⟩, .string ⟨m'.toArray⟩, .int .i64 e]) := by rw [h1, h2]
set_option maxHeartbeats 1000000 in
theorem prefix_any (A : Option Addr) (n c : Nat) (l : List Part) (hl : l.length = n) (hn : n ≤ 9223372036854775807) (hok : n ≤ 8 → ∀ p ∈ l, p.s.length ≤ 1000 ∧ In64 p.n) (w : World) (T : Parts w A l) (ml : ML w) :
    Calls Tryd.prog 17 #[.slice A n c] w fun e w' => e = .returned (.tuple #[.string ⟨(bytesE l).toArray⟩, .string ⟨(toE l).toArray⟩, .int .i64 (errE l)]) ∧ Below w.heap.size w w' := by
  have C := Lib.hid (encode_any A n c l hl hn hok w T ml)
  clear hl T ml hok
  have hb : (bytesE l).length ≤ 200 := bytesE_le
  have Z : Hid (errE l ≠ 0 → bytesE l = [] ∧ toE l = []) := Lib.hid fun h => ⟨bytesE_n h, if_neg h⟩
  have Y : Hid (errE l = 0 → toE l = bytesE l ++ [255]) := Lib.hid fun h => if_pos h
  by_cases h0 : errE l = 0
  · have YY := Lib.hid (Y.out h0)
    have HA := Lib.hid (app_str (bytesE l) [255])
    have E0 := Lib.hid h0
    rw [h0] at C
    generalize hx : bytesE l = x at *
    have HX := Lib.hid hx
    clear h0 hx Z Y
    go_enter Tryd.func17, Tryd.ntmps17
    go_wp2_with (first | (go_at_call 9; refine C.out.mono ?_; rintro e w5 ⟨rfl, hb5⟩))
    go_ret3
    exact ⟨ret_pre2 (HA.out.trans (by rw [YY.out])) E0.out, hb5⟩
  · obtain ⟨z1, z2⟩ := Z.out h0
    rw [z1] at C
    have Z1 := Lib.hid z1; have Z2 := Lib.hid z2
    obtain ⟨x, hx⟩ : ∃ x, errE l = x := ⟨_, rfl⟩
    rw [hx] at C h0
    have HX := Lib.hid hx
    clear z1 z2 hx Z Y
    go_enter Tryd.func17, Tryd.ntmps17
    go_wp2_with (first | (go_at_call 9; refine C.out.mono ?_; rintro e w5 ⟨rfl, hb5⟩))
    go_ret3
    exact ⟨ret_pre (m := []) (m' := []) Z1.out Z2.out HX.out, hb5⟩
end Go.Proofs.YtjccadfaiahkkaaDoor
