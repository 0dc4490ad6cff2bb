/-
  Contracts of exref.BigInt, Units, exref14.times, round.
-/
import Derived.Test.YtakfjdnpfhcgkaaGreatDoorBw7
import Derived.Test.YtakfjdnpfhcgkaaGreatDoorBw13
namespace Go.Proofs.YtakfjdnpfhcgkaaGreatDoor
set_option linter.all false
open Go.RowKit Go.Sort
attribute [local go_sem] cell_set_self lt_1 lt_2 lt_3 lt_4 lt_5 lt_6

theorem len48b {n : Nat} (h : n < 1000000000000000000000000000000000000000000000000) : (dgs n).length ≤ 12 := dgs_len (k := 12) (by
  rw [show (10000 : Nat) ^ 12 = 1000000000000000000000000000000000000000000000000 by decide]; exact h)

theorem atoi_txt (z : Int) (hz : z.natAbs < 1000000000000000000000000000000000000000000000000) (w : World) :
    Calls Tryz.prog 53 #[.string ⟨(txt z).toArray⟩] w fun e w' => e = .returned (.tuple #[.int .i64 (intN z), .bool (intB z)]) ∧ Below w.heap.size w w' := by
  have dl : (dec z.natAbs).length ≤ 60 := by
    have := dec_len_le 48 z.natAbs (by rw [show (10 : Nat) ^ 48 = 1000000000000000000000000000000000000000000000000 by decide]; exact hz)
    omega
  have big : 19 < (dec z.natAbs).length → 10000000000000000000 ≤ z.natAbs := fun h => by
    refine Nat.le_of_not_lt fun k => ?_
    have := dec_len_le 19 z.natAbs (by rw [show (10 : Nat) ^ 19 = 10000000000000000000 by decide]; exact k)
    omega
  have head : ∀ b, (dec z.natAbs)[0]? = some b → b.toNat ≠ 48 := fun b h => by
    cases e : dec z.natAbs with
    | nil => rw [e] at h; simp at h
    | cons x r => rw [e] at h; simp at h; subst h; exact dec_head e
  have pos : z ≠ 0 → 0 < (dec z.natAbs).length := fun h => List.length_pos_iff.2 (dec_ne (by omega))
  by_cases h0 : z = 0
  · subst h0
    exact atoi_pos ⟨[48].toArray⟩ [48] 1 0 rfl rfl (by omega) (by omega) (fun b hb => by simp at hb; subst hb; decide) (.inl rfl) (by decide) (fun h => by omega) w
  · by_cases hn : z < 0
    · have e : txt z = 45 :: dec z.natAbs := by unfold txt; rw [if_neg h0, if_pos hn]
      have := atoi_neg ⟨(45 :: dec z.natAbs).toArray⟩ ⟨(dec z.natAbs).toArray⟩ (dec z.natAbs) _ z.natAbs rfl rfl rfl dl (pos h0) (dec_dig _) head (dv_dec _) big w
      rw [show -((z.natAbs : Nat) : Int) = z by omega] at this
      rw [e]; exact this
    · have e : txt z = dec z.natAbs := by unfold txt; rw [if_neg h0, if_neg hn]
      have := atoi_pos ⟨(dec z.natAbs).toArray⟩ (dec z.natAbs) _ z.natAbs rfl rfl dl (pos h0) (dec_dig _) (.inr head) (dv_dec _) big w
      rw [show ((z.natAbs : Nat) : Int) = z by omega] at this
      rw [e]; exact this

set_option maxHeartbeats 4000000 in
set_option maxRecDepth 100000 in
theorem bigInt_any (s : Bool) (A : Option Addr) (n c : Nat) (z : Int) (hz : z.natAbs < 1000000000000000000000000000000000000000000000000) (w : World) (P : Pt 0 w s A n c z) :
    Calls Tryz.prog 26 #[.agg #[.bool s, .slice A n c]] w fun e w' => e = .returned (.tuple #[.int .i64 (intN z), .bool (intB z)]) ∧ Below w.heap.size w w' := by
  have TX := Lib.hid (fun W (hb : Below w.heap.size w W) => bigText_any s A n c z (by rw [P.2.1]; exact len48b hz) W (P.below hb))
  have AT := Lib.hid (fun W => atoi_txt z hz W)
  obtain ⟨t, ht⟩ : ∃ t : ByteArray, t = ⟨(txt z).toArray⟩ := ⟨_, rfl⟩
  rw [← ht] at TX AT
  clear P hz ht
  generalize intN z = iz at *
  generalize intB z = bz at *
  go_enter Tryz.func26, Tryz.ntmps26
  go_wp2_with (first | (go_at_call 54; refine (TX.out _ (by repeat (first | exact Below.refl _ _ | refine Below.setCell ?_ (by first | (simp; done) | (simp; omega) | omega) _ | refine Below.alloc ?_ (by first | (simp; done) | (simp; omega) | omega) _ | refine Below.drew ?_ | assumption | refine Below.trans ?_ (Below.mono (by assumption) (by first | (simp; done) | (simp; omega) | omega))))).mono ?_; rintro e w1 ⟨rfl, hb1⟩; obtain ⟨hc1, hf1⟩ := bcell hb1; have hs1 := hb1.size; (try simp at hs1); have hz1 : w.heap.size < w1.heap.size := by have := hb1.size; (try simp at this); omega) | (go_at_call 53; refine (AT.out _).mono ?_; rintro e w2 ⟨rfl, hb2⟩; obtain ⟨hc2, hf2⟩ := bcell hb2; have hs2 := hb2.size; (try simp at hs2); have hz2 : w.heap.size < w2.heap.size := by have := hb2.size; (try simp at this); omega))
  go_ret2
  exact ⟨rfl, (by repeat (first | exact Below.refl _ _ | refine Below.setCell ?_ (by first | (simp; done) | (simp; omega) | omega) _ | refine Below.alloc ?_ (by first | (simp; done) | (simp; omega) | omega) _ | refine Below.drew ?_ | assumption | refine Below.trans ?_ (Below.mono (by assumption) (by first | (simp; done) | (simp; omega) | omega))))⟩

end Go.Proofs.YtakfjdnpfhcgkaaGreatDoor
