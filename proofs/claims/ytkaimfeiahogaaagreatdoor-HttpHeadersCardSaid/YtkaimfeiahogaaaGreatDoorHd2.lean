/-
  HttpHeaders holds: the walk of the law where the request is printed. (Printed by tools/mkhd2.py.)
-/
import Derived.Test.YtkaimfeiahogaaaGreatDoorHd1
namespace Go.Proofs.YtkaimfeiahogaaaGreatDoor
set_option linter.all false
open Go.RowKit Go.Shelf
attribute [local go_sem] cell_set_self lt_1 lt_2 lt_3 lt_4 lt_5 lt_6 drew_cell drew_frozen drew_size

theorem lns_len (m p : List UInt8) (n : Nat) (cl : Bool) : 2 ≤ (lns m p n cl).length ∧ (lns m p n cl).length ≤ 4 := by
  unfold lns; split <;> split <;> simp
theorem lns_line {m p : List UInt8} {n : Nat} {cl : Bool} (h : fmtE m p n = 0) : ∀ x ∈ (lns m p n cl).map (· ++ [13]), x.length ≤ 1001 := by
  obtain ⟨hm, hp, hn⟩ := fmtE_zero h
  have a := (headLine_bytes hm hp).2
  have b := (lenLine_bytes n hn).2.1
  have c : closeLine.length = 17 := rfl
  intro x hx
  obtain ⟨y, hy, rfl⟩ := List.mem_map.1 hx
  have : y.length ≤ 1000 := by
    unfold lns at hy
    simp only [List.mem_cons, List.mem_append] at hy
    rcases hy with rfl | hy | hy | hy
    · exact a
    · split at hy <;> simp at hy; rw [hy]; exact b
    · split at hy <;> simp at hy; rw [hy]; omega
    · rcases hy with rfl | hy
      · simp
      · simp at hy
  simp; omega
/-- The place of the header, in its limits. -/
theorem rem_fit (z : Int) (d : Nat) (hd : 1 ≤ d) (hd2 : d ≤ 3) : ∃ r q : Int, z.tmod (d : Int) = r ∧ -(d : Int) < r ∧ r < d ∧ (r + d).tmod (d : Int) = q ∧ 0 ≤ q ∧ q < d := by
  have h1 : (z.tmod (d : Int)).natAbs < d := by
    rw [Int.natAbs_tmod]; exact Nat.mod_lt _ (by simp; omega)
  have h2 : 0 ≤ z.tmod (d : Int) + d := by omega
  refine ⟨_, _, rfl, by omega, by omega, rfl, Int.tmod_nonneg _ h2, ?_⟩
  exact Int.tmod_lt_of_pos _ (by omega)
theorem outF_take {at' : Nat} {X x : List UInt8} {L : List (List UInt8)} {k : Nat} (h : L[k]? = some x) : outF at' X 0 (L.take (k + 1)) = outF at' X 0 (L.take k) ++ (if k = at' then X ++ [13, 10] else []) ++ (repF k x ++ [10]) := by
  have hk := (List.getElem?_eq_some_iff.1 h).1
  have hl : (L.take k).length = k := by rw [List.length_take]; omega
  rw [List.take_succ, h, Option.toList_some, outF_app, Nat.zero_add, hl]
theorem lowN_cases (x : UInt8) : (lowN x = true ∧ (x.toNat = 45 ∨ (48 ≤ x.toNat ∧ x.toNat ≤ 57) ∨ (97 ≤ x.toNat ∧ x.toNat ≤ 122))) ∨ (x.toNat ≤ 44 ∨ (46 ≤ x.toNat ∧ x.toNat ≤ 47) ∨ (58 ≤ x.toNat ∧ x.toNat ≤ 96) ∨ 123 ≤ x.toNat) := by
  by_cases h : x.toNat = 45 ∨ (48 ≤ x.toNat ∧ x.toNat ≤ 57) ∨ (97 ≤ x.toNat ∧ x.toNat ≤ 122)
  · refine .inl ⟨?_, h⟩
    unfold lowN
    simp only [Bool.or_eq_true, Bool.and_eq_true, decide_eq_true_eq]
    rcases h with h | h | h
    · exact .inr h
    · exact .inl (.inr h)
    · exact .inl (.inl h)
  · right; omega
set_option maxHeartbeats 16000000 in
set_option maxRecDepth 100000 in
theorem headers_near (m p : List UInt8) (A : Option Addr) (n c : Nat) (l : List UInt8) (hl : l.length = n) (cl : Bool) (name value : List UInt8) (z : Int) (h0 : fmtE m p n = 0) (hf1 : 1 ≤ name.length) (hf2 : name.length ≤ 40) (hf3 : value.length ≤ 900) (w : World) (E : Env w) (T : Bs w A c l) :
    Calls Tryz.prog 5 #[rqB m p A n c cl, .string ⟨name.toArray⟩, .string ⟨value.toArray⟩, .int .i64 z] w fun e w' => e = .returned (.bool true) ∧ Below w.heap.size w w' := by
  have hn8 : n ≤ 32768 := (fmtE_zero h0).2.2
  have FO := Lib.hid (fun W (hb : Below w.heap.size w W) => first_ok W (E.below hb))
  have FM := Lib.hid (fun W (hb : Below w.heap.size w W) => format_ok m p cl A n c l hl h0 W (E.below hb) (T.below hb))
  have TU := Lib.hid (fun W => turned_any name (by omega) W)
  have hHl := fmtH_len cl h0
  have CU : Hid (∀ W, Calls Tryz.prog 19 #[.string ⟨(fmtH m p n cl).toArray⟩, .int .u8 10] W fun e w' => (∃ A d, e = .returned (.slice A (lcut m p n cl).length d) ∧ Strs w' A (lcut m p n cl)) ∧ Below W.heap.size W w') := Lib.hid fun W => by
    have := cut_any 10 (fmtH m p n cl) (by omega) W
    rw [pieces_fmt cl h0] at this
    exact this
  obtain ⟨D, hD⟩ : ∃ D, (lns m p n cl).length = D + 1 := ⟨(lns m p n cl).length - 1, by have := lns_len m p n cl; omega⟩
  have hD1 : 1 ≤ D := by have := lns_len m p n cl; omega
  have hD3 : D ≤ 3 := by have := lns_len m p n cl; omega
  have hK : (lcut m p n cl).length = D + 2 := by unfold lcut; simp [hD]
  obtain ⟨LL, hLL⟩ : ∃ LL, (lns m p n cl).map (· ++ [13]) = LL := ⟨_, rfl⟩
  have HLine : Hid (∀ x ∈ LL, x.length ≤ 1001) := Lib.hid (by rw [← hLL]; exact lns_line h0)
  have hLLn : LL.length = D + 1 := by rw [← hLL]; simp [hD]
  have hcut : lcut m p n cl = LL ++ [[]] := by unfold lcut; rw [hLL]
  have ANEW := Lib.hid (fun (a1 : name.all lowN = true) (a2 : value.all visB = true) (a3 : name ≠ tLen) (a4 : name ≠ tConn) (at' : Nat) (b1 : 1 ≤ at') (b2 : at' < D + 1) => head_anew cl h0 (by intro e; rw [e] at hf1; simp at hf1) hf2 hf3 a1 a2 a3 a4 at' b1 (by rw [hD]; exact b2))
  rw [hLL] at ANEW
  rw [hK, hcut] at CU
  have HLL := Lib.hid hLLn
  obtain ⟨F0, hF0⟩ : ∃ F0, fmtH m p n cl = F0 := ⟨_, rfl⟩
  obtain ⟨H, hH⟩ : ∃ H, F0.length = H := ⟨_, rfl⟩
  rw [hF0] at FM CU hHl
  rw [hH] at FM hHl
  have HH := Lib.hid hH
  have HTE := Lib.hid (show Env w ∧ Bs w A c l from ⟨E, T⟩)
  have HL := Lib.hid hl
  have AT1 : Hid (∀ i (h : i < (⟨name.toArray⟩ : ByteArray).size) (c : UInt8), name[i]? = some c → ((⟨name.toArray⟩ : ByteArray)[i]'h).toNat = c.toNat) := Lib.hid fun i h c hc => by
    obtain ⟨h1, h2⟩ := List.getElem?_eq_some_iff.1 hc
    rw [← h2]; rfl
  have AT2 : Hid (∀ i (h : i < (⟨value.toArray⟩ : ByteArray).size) (c : UInt8), value[i]? = some c → ((⟨value.toArray⟩ : ByteArray)[i]'h).toNat = c.toNat) := Lib.hid fun i h c hc => by
    obtain ⟨h1, h2⟩ := List.getElem?_eq_some_iff.1 hc
    rw [← h2]; rfl
  have q1 := str_beq2 name [99, 111, 110, 116, 101, 110, 116, 45, 108, 101, 110, 103, 116, 104]
  have q2 := str_beq2 name [99, 111, 110, 110, 101, 99, 116, 105, 111, 110]
  have hsS : (⟨name.toArray⟩ : ByteArray).size = name.length := ba_sz name
  have hsV : (⟨value.toArray⟩ : ByteArray).size = value.length := ba_sz value
  have HS := Lib.hid hsS
  have HV := Lib.hid hsV
  have hF2 := Lib.hid (show 1 ≤ name.length ∧ name.length ≤ 40 ∧ value.length ≤ 900 from ⟨hf1, hf2, hf3⟩)
  have h1' : ¬ ((⟨name.toArray⟩ : ByteArray).size : Int) < 1 := by rw [hsS]; omega
  have h2' : ¬ (40 : Int) < ((⟨name.toArray⟩ : ByteArray).size : Int) := by rw [hsS]; omega
  have h3' : ¬ (900 : Int) < ((⟨value.toArray⟩ : ByteArray).size : Int) := by rw [hsV]; omega
  have h4' : ¬ (40000 : Int) < (n : Int) := by omega
  obtain ⟨SN, hSN⟩ : ∃ SN : ByteArray, (⟨name.toArray⟩ : ByteArray) = SN := ⟨_, rfl⟩
  obtain ⟨SV, hSV⟩ : ∃ SV : ByteArray, (⟨value.toArray⟩ : ByteArray) = SV := ⟨_, rfl⟩
  rw [hSN] at AT1 q1 HS h1' h2' TU ⊢
  rw [hSV] at AT2 HV h3' ⊢
  have HSV := Lib.hid hSV
  obtain ⟨ST, hST⟩ : ∃ ST : ByteArray, (⟨(name.map tcB).toArray⟩ : ByteArray) = ST := ⟨_, rfl⟩
  rw [hST] at TU
  have HST := Lib.hid hST
  rw [hSN] at q2
  unfold rqB at FM ⊢
  obtain ⟨M, hM⟩ : ∃ M : ByteArray, (⟨m.toArray⟩ : ByteArray) = M := ⟨_, rfl⟩
  obtain ⟨P, hP⟩ : ∃ P : ByteArray, (⟨p.toArray⟩ : ByteArray) = P := ⟨_, rfl⟩
  rw [hM, hP] at FM ⊢
  have HM := Lib.hid hM
  have HP := Lib.hid hP
  clear hM hP hST hSN hSV hsS hsV hf1 hf2 hf3 hH hF0 hLLn hcut hLL hK hD E T hl h0
  go_enter Tryz.func5, Tryz.ntmps5
  go_wp2_with (first | (go_at_call 10; refine (FO.out _ (by repeat (first | exact Below.refl _ _ | refine Below.setCell ?_ (by first | (simp; done) | (simp; omega) | omega) _ | refine Below.alloc ?_ (by first | (simp; done) | (simp; omega) | omega) _ | refine Below.drew ?_ | assumption | refine Below.trans ?_ (Below.mono (by assumption) (by first | (simp; done) | (simp; omega) | omega))))).mono ?_; rintro e w4 ⟨rfl, hb4⟩; obtain ⟨hc4, hf4⟩ := bcell hb4; have hs4 := hb4.size; (try simp at hs4); have hz4 : w.heap.size < w4.heap.size := by have := hb4.size; (try simp at this); omega) | (go_at_call 17; refine (FM.out _ (by repeat (first | exact Below.refl _ _ | refine Below.setCell ?_ (by first | (simp; done) | (simp; omega) | omega) _ | refine Below.alloc ?_ (by first | (simp; done) | (simp; omega) | omega) _ | refine Below.drew ?_ | assumption | refine Below.trans ?_ (Below.mono (by assumption) (by first | (simp; done) | (simp; omega) | omega))))).mono ?_; rintro e w5 ⟨⟨g5, c5, rfl, hB5, hg5⟩, hb5⟩; obtain ⟨hc5, hf5⟩ := bcell hb5; have hs5 := hb5.size; (try simp at hs5); have hz5 : w.heap.size < w5.heap.size := (by have := hb5.size; (try simp at this); omega); have HB5 := Lib.hid hB5; clear hB5) | (go_at_call 12; (with_reducible refine (num_same _ _).mono ?_); rintro e w9 ⟨rfl, rfl⟩) | (go_at_call 18; refine (TU.out _).mono ?_; rintro e w6 ⟨rfl, hb6⟩; obtain ⟨hc6, hf6⟩ := bcell hb6; have hs6 := hb6.size; (try simp at hs6); have hz6 : w.heap.size < w6.heap.size := by have := hb6.size; (try simp at this); omega))
  go_loop [13] (fun i => ∃ k : Nat, k ≤ SN.size ∧ i = .int .i64 k ∧ Hid ((name.take k).all lowN = true)) (fun i => SN.size - (intOf i).toNat)
  case atStart => exact ⟨0, by omega, rfl, Lib.hid rfl⟩
  case round =>
    obtain ⟨k, hk, rfl, HA⟩ := hrel
    by_cases hlt : k < SN.size
    · have hlt' : (k : Int) < (SN.size : Int) := by omega
      obtain ⟨x, hx⟩ : ∃ x, name[k]? = some x := ⟨_, List.getElem?_eq_getElem (by have := HS.out; omega)⟩
      have at1 := AT1.out k hlt x hx
      have HX := Lib.hid hx
      clear hx
      have hxx := UInt8.toNat_lt x
      rcases lowN_cases x with ⟨hlow, hc⟩ | hc
      · have HLow := Lib.hid hlow
        clear hlow
        generalize x.toNat = xx at *
        rcases hc with hc | ⟨hc, hd⟩ | ⟨hc, hd⟩
        · subst hc
          go_wp2
          go_roundw
          case rel => exact ⟨k + 1, by omega, by go_num, Lib.hid ((all_take HX.out HA.out).trans HLow.out)⟩
          case measure => first | (simp [intOf]; done) | (simp [intOf]; omega)
        · have a1 : (xx : Int) < 97 := by omega
          have a2 : ¬ (xx : Int) < 48 := by omega
          have a3 : ¬ (57 : Int) < (xx : Int) := by omega
          go_wp2
          go_roundw
          case rel => exact ⟨k + 1, by omega, by go_num, Lib.hid ((all_take HX.out HA.out).trans HLow.out)⟩
          case measure => first | (simp [intOf]; done) | (simp [intOf]; omega)
        · have a1 : ¬ (xx : Int) < 97 := by omega
          have a2 : ¬ (122 : Int) < (xx : Int) := by omega
          go_wp2
          go_roundw
          case rel => exact ⟨k + 1, by omega, by go_num, Lib.hid ((all_take HX.out HA.out).trans HLow.out)⟩
          case measure => first | (simp [intOf]; done) | (simp [intOf]; omega)
      · generalize x.toNat = xx at *
        have a5 : ((xx : Int) == 45) = false := by rw [beq_eq_false_iff_ne]; omega
        have a6 : ((xx : Int) != 45) = true := by rw [bne, a5]; rfl
        rcases hc with hc | ⟨hc, hd⟩ | ⟨hc, hd⟩ | hc
        · have a1 : (xx : Int) < 97 := by omega
          have a2 : (xx : Int) < 48 := by omega
          go_wp2
          go_ret
          exact ⟨rfl, (by repeat (first | exact Below.refl _ _ | refine Below.setCell ?_ (by first | (simp; done) | (simp; omega) | omega) _ | refine Below.alloc ?_ (by first | (simp; done) | (simp; omega) | omega) _ | refine Below.drew ?_ | assumption | refine Below.trans ?_ (Below.mono (by assumption) (by first | (simp; done) | (simp; omega) | omega))))⟩
        · have a1 : (xx : Int) < 97 := by omega
          have a2 : (xx : Int) < 48 := by omega
          go_wp2
          go_ret
          exact ⟨rfl, (by repeat (first | exact Below.refl _ _ | refine Below.setCell ?_ (by first | (simp; done) | (simp; omega) | omega) _ | refine Below.alloc ?_ (by first | (simp; done) | (simp; omega) | omega) _ | refine Below.drew ?_ | assumption | refine Below.trans ?_ (Below.mono (by assumption) (by first | (simp; done) | (simp; omega) | omega))))⟩
        · have a1 : (xx : Int) < 97 := by omega
          have a2 : ¬ (xx : Int) < 48 := by omega
          have a3 : (57 : Int) < (xx : Int) := by omega
          go_wp2
          go_ret
          exact ⟨rfl, (by repeat (first | exact Below.refl _ _ | refine Below.setCell ?_ (by first | (simp; done) | (simp; omega) | omega) _ | refine Below.alloc ?_ (by first | (simp; done) | (simp; omega) | omega) _ | refine Below.drew ?_ | assumption | refine Below.trans ?_ (Below.mono (by assumption) (by first | (simp; done) | (simp; omega) | omega))))⟩
        · have a1 : ¬ (xx : Int) < 97 := by omega
          have a2 : (122 : Int) < (xx : Int) := by omega
          have a3 : ¬ (xx : Int) < 48 := by omega
          have a4 : (57 : Int) < (xx : Int) := by omega
          go_wp2
          go_ret
          exact ⟨rfl, (by repeat (first | exact Below.refl _ _ | refine Below.setCell ?_ (by first | (simp; done) | (simp; omega) | omega) _ | refine Below.alloc ?_ (by first | (simp; done) | (simp; omega) | omega) _ | refine Below.drew ?_ | assumption | refine Below.trans ?_ (Below.mono (by assumption) (by first | (simp; done) | (simp; omega) | omega))))⟩
    · obtain rfl : k = SN.size := by omega
      have hlt' : ¬ (SN.size : Int) < (SN.size : Int) := by omega
      have HLOW : Hid (name.all lowN = true) := Lib.hid (by have := HA.out; rwa [List.take_of_length_le (by have := HS.out; omega)] at this)
      clear HA hk AT1
      go_wp2
      go_loop [15] (fun i => ∃ k : Nat, k ≤ SV.size ∧ i = .int .i64 k ∧ Hid ((value.take k).all visB = true)) (fun i => SV.size - (intOf i).toNat)
      case atStart => exact ⟨0, by omega, rfl, Lib.hid rfl⟩
      case round =>
        obtain ⟨k, hk, rfl, HA⟩ := hrel
        by_cases hlt : k < SV.size
        · have hlt' : (k : Int) < (SV.size : Int) := by omega
          obtain ⟨x, hx⟩ : ∃ x, value[k]? = some x := ⟨_, List.getElem?_eq_getElem (by have := HV.out; omega)⟩
          have at1 := AT2.out k hlt x hx
          have HX := Lib.hid hx
          clear hx
          by_cases hv : 32 ≤ x.toNat ∧ x.toNat ≤ 126
          · have HVis : Hid (visB x = true) := Lib.hid (by unfold visB; simp [hv.1, hv.2])
            generalize x.toNat = xx at *
            have a1 : ¬ (xx : Int) < 32 := by omega
            have a2 : ¬ (126 : Int) < (xx : Int) := by omega
            clear hv
            go_wp2
            go_roundw
            case rel => exact ⟨k + 1, by omega, by go_num, Lib.hid ((all_take HX.out HA.out).trans HVis.out)⟩
            case measure => first | (simp [intOf]; done) | (simp [intOf]; omega)
          · generalize x.toNat = xx at *
            by_cases a0 : xx < 32
            · have a1 : (xx : Int) < 32 := by omega
              clear hv a0
              go_wp2
              go_ret
              exact ⟨rfl, (by repeat (first | exact Below.refl _ _ | refine Below.setCell ?_ (by first | (simp; done) | (simp; omega) | omega) _ | refine Below.alloc ?_ (by first | (simp; done) | (simp; omega) | omega) _ | refine Below.drew ?_ | assumption | refine Below.trans ?_ (Below.mono (by assumption) (by first | (simp; done) | (simp; omega) | omega))))⟩
            · have a1 : ¬ (xx : Int) < 32 := by omega
              have a2 : (126 : Int) < (xx : Int) := by omega
              clear hv a0
              go_wp2
              go_ret
              exact ⟨rfl, (by repeat (first | exact Below.refl _ _ | refine Below.setCell ?_ (by first | (simp; done) | (simp; omega) | omega) _ | refine Below.alloc ?_ (by first | (simp; done) | (simp; omega) | omega) _ | refine Below.drew ?_ | assumption | refine Below.trans ?_ (Below.mono (by assumption) (by first | (simp; done) | (simp; omega) | omega))))⟩
        · obtain rfl : k = SV.size := by omega
          have hlt' : ¬ (SV.size : Int) < (SV.size : Int) := by omega
          have HVIS : Hid (value.all visB = true) := Lib.hid (by have := HA.out; rwa [List.take_of_length_le (by have := HV.out; omega)] at this)
          clear HA hk AT2
          by_cases g1 : name = tLen
          · have g1' : decide (name = [99, 111, 110, 116, 101, 110, 116, 45, 108, 101, 110, 103, 116, 104]) = true := decide_eq_true g1
            rw [g1'] at q1
            clear g1 g1' q2
            go_wp2
            go_ret
            exact ⟨rfl, (by repeat (first | exact Below.refl _ _ | refine Below.setCell ?_ (by first | (simp; done) | (simp; omega) | omega) _ | refine Below.alloc ?_ (by first | (simp; done) | (simp; omega) | omega) _ | refine Below.drew ?_ | assumption | refine Below.trans ?_ (Below.mono (by assumption) (by first | (simp; done) | (simp; omega) | omega))))⟩
          · have g1' : decide (name = [99, 111, 110, 116, 101, 110, 116, 45, 108, 101, 110, 103, 116, 104]) = false := decide_eq_false g1
            rw [g1'] at q1
            by_cases g2 : name = tConn
            · have g2' : decide (name = [99, 111, 110, 110, 101, 99, 116, 105, 111, 110]) = true := decide_eq_true g2
              rw [g2'] at q2
              clear g1 g1' g2 g2'
              go_wp2
              go_ret
              exact ⟨rfl, (by repeat (first | exact Below.refl _ _ | refine Below.setCell ?_ (by first | (simp; done) | (simp; omega) | omega) _ | refine Below.alloc ?_ (by first | (simp; done) | (simp; omega) | omega) _ | refine Below.drew ?_ | assumption | refine Below.trans ?_ (Below.mono (by assumption) (by first | (simp; done) | (simp; omega) | omega))))⟩
            · have g2' : decide (name = [99, 111, 110, 110, 101, 99, 116, 105, 111, 110]) = false := decide_eq_false g2
              rw [g2'] at q2
              have G12 := Lib.hid (And.intro g1 g2)
              clear g1 g1' g2 g2'
              obtain ⟨SH, hSH⟩ : ∃ SH : ByteArray, (⟨F0.toArray⟩ : ByteArray) = SH := ⟨_, rfl⟩
              have hcv : (convert 22 9 (.slice (some ⟨g5, 0, none⟩) H c5)).run Tryz.prog w6 = .ok (.string SH) w6 := by
                have hT : Bs w5 (some ⟨g5, 0, none⟩) c5 F0 := by
                  have := HB5.out.take F0.length
                  rwa [List.take_left] at this
                have := conv_bs (W := w6) (hT.below (by repeat (first | exact Below.refl _ _ | refine Below.setCell ?_ (by first | (simp; done) | (simp; omega) | omega) _ | refine Below.alloc ?_ (by first | (simp; done) | (simp; omega) | omega) _ | refine Below.drew ?_ | assumption | refine Below.trans ?_ (Below.mono (by assumption) (by first | (simp; done) | (simp; omega) | omega)))))
                rw [HH.out] at this
                rw [← hSH]
                exact this
              have hHc : (H : Int) ≤ (c5 : Int) := by have h := HB5.out.1; rw [List.length_append, HH.out] at h; omega
              rw [hSH] at CU
              clear hSH
              obtain ⟨r1, r2, hr1, hr2, hr3, hr4, hr5, hr6⟩ := rem_fit z D hD1 hD3
              have hw1 : ¬ ((D : Int) = 0) := by omega
              obtain ⟨a, hra⟩ : ∃ a : Nat, r2 + 1 = (a : Int) := ⟨(r2 + 1).toNat, by omega⟩
              go_upto_region 22 with (first | (go_at_call 19; refine (CU.out _).mono ?_; rintro e w8 ⟨⟨A8, d8, rfl, hS8⟩, hb8⟩; obtain ⟨hc8, hf8⟩ := bcell hb8; have hs8 := hb8.size; (try simp at hs8); have hz8 : w.heap.size < w8.heap.size := (by have := hb8.size; (try simp at this); omega); have HS8 := Lib.hid hS8; clear hS8))
              have ha1 : 1 ≤ a := by omega
              have haD : a < D + 1 := by omega
              clear hr1 hr2 hr3 hr4 hr5 hr6 hw1 hra
              obtain ⟨g8, o8, rfl, hg8⟩ : ∃ g o, A8 = some ⟨g, o, none⟩ ∧ g < w8.heap.size := by
                obtain ⟨g, o, e, h, _⟩ := HS8.out 0 (LL[0]'(by rw [HLL.out]; omega)) (by rw [List.getElem?_append_left (by rw [HLL.out]; omega)]; exact List.getElem?_eq_getElem _)
                exact ⟨g, o, e, h⟩
              have hX : hdr name value = name.map tcB ++ [58, 32] ++ value := rfl
              obtain ⟨X, hX2⟩ : ∃ X, hdr name value = X := ⟨_, rfl⟩
              have HXE : Hid (X = name.map tcB ++ [58, 32] ++ value) := Lib.hid (by rw [← hX2]; exact hX)
              have AN := Lib.hid (ANEW.out HLOW.out HVIS.out G12.out.1 G12.out.2 a ha1 haD)
              rw [hX2] at AN
              have HSZ : Hid (∀ k, (outF a X 0 (LL.take k)).length ≤ 8000) := Lib.hid (fun k => by
                have h1 := outF_len a X 1001 (LL.take k) 0 (fun x hx => HLine.out x (List.mem_of_mem_take hx))
                have h2 : (LL.take k).length ≤ 4 := by rw [List.length_take, HLL.out]; omega
                have h3 : X.length ≤ 942 := by rw [HXE.out]; have := hF2.out; simp; omega
                refine Nat.le_trans h1 (Nat.le_trans (Nat.mul_le_mul h2 (show X.length + 1001 + 3 ≤ 2000 by omega)) (by decide))
              )
              have HNT : Hid ((name.map tcB).length ≤ 40 ∧ value.length ≤ 900) := Lib.hid (by have := hF2.out; simp; omega)
              clear hX hX2 ANEW q1 q2 hcv hHc
              go_wp2
              go_loop [17, 18] (fun s i => ∃ (k : Nat) (SB : ByteArray), k ≤ D + 1 ∧ s = .string SB ∧ i = .int .i64 k ∧ Hid (SB = ⟨(outF a X 0 (LL.take k)).toArray⟩)) (fun _ i => D + 2 - (intOf i).toNat)
              case atStart => exact ⟨0, _, by omega, rfl, rfl, Lib.hid rfl⟩
              case round =>
                obtain ⟨k, SB, hk, rfl, rfl, HSB⟩ := hrel
                by_cases hlt : k < D + 1
                · obtain ⟨x, hx⟩ : ∃ x, LL[k]? = some x := ⟨_, List.getElem?_eq_getElem (by rw [HLL.out]; exact hlt)⟩
                  have hxl := HLine.out x (List.mem_of_getElem? hx)
                  have e0 : w8.cell? ⟨g8, o8 + k, none⟩ = some (.string ⟨x.toArray⟩) := by
                    obtain ⟨g, o, e, _, h⟩ := HS8.out k x (by rw [List.getElem?_append_left (by rw [HLL.out]; exact hlt)]; exact hx)
                    obtain ⟨rfl, rfl⟩ : g8 = g ∧ o8 = o := by simpa using e
                    exact h
                  have hlt1 : (k : Int) < (D : Int) + 2 - 1 := by omega
                  have hlt2 : (k : Int) < (D : Int) + 1 := by omega
                  have hlt3 : (k : Int) < (D : Int) + 2 := by omega
                  have hOT := outF_take (at' := a) (X := X) hx
                  have hB0 := HSZ.out k
                  obtain ⟨B0, hB0e⟩ : ∃ B0, outF a X 0 (LL.take k) = B0 := ⟨_, rfl⟩
                  rw [hB0e] at hOT hB0
                  have hSB := HSB.out
                  rw [hB0e] at hSB
                  have BG : Hid (∀ W, Calls Tryz.prog 20 #[.string ⟨x.toArray⟩, .string ⟨#[99, 111, 110, 116, 101, 110, 116, 45, 108, 101, 110, 103, 116, 104, 58, 32]⟩] W fun e w' => e = .returned (.bool (decide (x.take tLenB.length = tLenB))) ∧ W = w') := Lib.hid (fun W => begins_any x tLenB W)
                  have hNT := HNT.out
                  have hT16 : tLenB.length = 16 := rfl
                  have hLX : (⟨x.toArray⟩ : ByteArray).size = x.length := ba_sz x
                  clear hx hB0e
                  by_cases h0 : k = 0
                  · subst h0
                    have hne : ¬ ((0 : Int) = (a : Int)) := by omega
                    rw [Nat.add_zero] at e0
                    have hne2 : ((0 : Int) == (a : Int)) = false := by rw [beq_eq_false_iff_ne]; omega
                    have hR : repF 0 x = x := rep_zero x
                    rw [if_neg (by omega), List.append_nil] at hOT
                    have s6 := sadd B0 x (B0 ++ x) rfl (by omega) (by omega)
                    have s7 := sadd (B0 ++ x) [10] (outF a X 0 (LL.take (0 + 1))) (by rw [hOT, hR]; simp only [List.append_assoc]) (by rw [List.length_append]; omega) (by decide)
                    have HF : Hid (∀ SZ : ByteArray, SZ = ⟨(outF a X 0 (LL.take (0 + 1))).toArray⟩ → SZ = ⟨(outF a X 0 (LL.take (0 + 1))).toArray⟩) := Lib.hid (fun _ h => h)
                    obtain ⟨SZ, hSZ⟩ : ∃ SZ : ByteArray, (⟨(outF a X 0 (LL.take (0 + 1))).toArray⟩ : ByteArray) = SZ := ⟨_, rfl⟩
                    rw [hSZ] at s7
                    have HSZZ := Lib.hid hSZ.symm
                    clear hSZ HF
                    generalize (⟨(B0 ++ x).toArray⟩ : ByteArray) = Y0 at *
                    rw [← hSB] at s6
                    generalize (⟨x.toArray⟩ : ByteArray) = LX at *
                    clear hOT hB0 hSB hxl hR hNT hT16 hLX
                    go_wp2_with (first | (go_at_call 20; (with_reducible refine (BG.out _).mono ?_); rintro e w9 ⟨rfl, rfl⟩))
                    go_roundw
                    case rel => exact ⟨0 + 1, _, by omega, rfl, by go_num, HSZZ⟩
                    case measure => first | (simp [intOf]; done) | (simp [intOf]; omega)
                  · have hk0 : (0 : Int) < (k : Int) := by omega
                    by_cases heq : k = a
                    · subst heq
                      by_cases hrep : x.take tLenB.length = tLenB
                      · skip
                        rw [decide_eq_true hrep] at BG
                        have hex : (⟨x.toArray⟩ : ByteArray).extract 16 (⟨x.toArray⟩ : ByteArray).size = ⟨(x.drop 16).toArray⟩ := by rw [hLX, ext_mid]; rw [List.take_of_length_le (by rw [List.length_drop]; omega)]
                        have h16 : (16 : Int) ≤ ((⟨x.toArray⟩ : ByteArray).size : Int) := by have := congrArg List.length hrep; rw [List.length_take, hT16] at this; rw [hLX]; omega
                        have hR : repF k x = tLEN ++ x.drop 16 := by unfold repF; rw [if_pos ⟨by omega, by rw [hT16] at hrep; exact hrep⟩]
                        have s5 := sadd [67, 111, 110, 116, 101, 110, 116, 45, 76, 69, 78, 71, 84, 72, 58] (x.drop 16) (tLEN ++ x.drop 16) rfl (by decide) (by rw [List.length_drop]; omega)
                        obtain ⟨R, hRe⟩ : ∃ R, tLEN ++ x.drop 16 = R := ⟨_, rfl⟩
                        have hRl : R.length ≤ 2000 := by rw [← hRe]; simp [tLEN]; omega
                        rw [hRe] at s5 hR
                        obtain ⟨DX, hDX⟩ : ∃ DX : ByteArray, (⟨(x.drop 16).toArray⟩ : ByteArray) = DX := ⟨_, rfl⟩
                        rw [hDX] at s5 hex
                        clear hDX hRe
                        rw [if_pos rfl] at hOT
                        have s1 := sadd B0 (name.map tcB) (B0 ++ name.map tcB) rfl (by omega) (by omega)
                        have s2 := sadd (B0 ++ name.map tcB) [58, 32] (B0 ++ name.map tcB ++ [58, 32]) rfl (by rw [List.length_append]; omega) (by decide)
                        have s3 := sadd (B0 ++ name.map tcB ++ [58, 32]) value (B0 ++ name.map tcB ++ [58, 32] ++ value) rfl (by simp only [List.length_append, List.length_cons, List.length_nil]; omega) (by omega)
                        have s4 := sadd (B0 ++ name.map tcB ++ [58, 32] ++ value) [13, 10] (B0 ++ name.map tcB ++ [58, 32] ++ value ++ [13, 10]) rfl (by simp only [List.length_append, List.length_cons, List.length_nil]; omega) (by decide)
                        have s6 := sadd (B0 ++ name.map tcB ++ [58, 32] ++ value ++ [13, 10]) R (B0 ++ name.map tcB ++ [58, 32] ++ value ++ [13, 10] ++ R) rfl (by simp only [List.length_append, List.length_cons, List.length_nil]; omega) (by omega)
                        have s7 := sadd (B0 ++ name.map tcB ++ [58, 32] ++ value ++ [13, 10] ++ R) [10] (outF k X 0 (LL.take (k + 1))) (by rw [hOT, hR, HXE.out]; simp only [List.append_assoc]) (by simp only [List.length_append, List.length_cons, List.length_nil]; omega) (by decide)
                        have HF : Hid (∀ SZ : ByteArray, SZ = ⟨(outF k X 0 (LL.take (k + 1))).toArray⟩ → SZ = ⟨(outF k X 0 (LL.take (k + 1))).toArray⟩) := Lib.hid (fun _ h => h)
                        obtain ⟨SZ, hSZ⟩ : ∃ SZ : ByteArray, (⟨(outF k X 0 (LL.take (k + 1))).toArray⟩ : ByteArray) = SZ := ⟨_, rfl⟩
                        rw [hSZ] at s7
                        have HSZZ := Lib.hid hSZ.symm
                        clear hSZ HF
                        generalize (⟨(B0 ++ name.map tcB).toArray⟩ : ByteArray) = Y0 at *
                        generalize (⟨(B0 ++ name.map tcB ++ [58, 32]).toArray⟩ : ByteArray) = Y1 at *
                        generalize (⟨(B0 ++ name.map tcB ++ [58, 32] ++ value).toArray⟩ : ByteArray) = Y2 at *
                        generalize (⟨(B0 ++ name.map tcB ++ [58, 32] ++ value ++ [13, 10]).toArray⟩ : ByteArray) = Y3 at *
                        generalize (⟨(B0 ++ name.map tcB ++ [58, 32] ++ value ++ [13, 10] ++ R).toArray⟩ : ByteArray) = Y4 at *
                        generalize (⟨R.toArray⟩ : ByteArray) = RB at *
                        rw [← hSB] at s1
                        rw [HST.out] at s1
                        rw [HSV.out] at s3
                        generalize (⟨x.toArray⟩ : ByteArray) = LX at *
                        clear hOT hB0 hSB hxl hR hNT hT16 hLX hrep hRl
                        go_wp2_with (first | (go_at_call 20; (with_reducible refine (BG.out _).mono ?_); rintro e w9 ⟨rfl, rfl⟩))
                        go_roundw
                        case rel => exact ⟨k + 1, _, by omega, rfl, by go_num, HSZZ⟩
                        case measure => first | (simp [intOf]; done) | (simp [intOf]; omega)
                      · skip
                        rw [decide_eq_false hrep] at BG
                        have hR : repF k x = x := by unfold repF; rw [if_neg (fun h => hrep (by rw [hT16]; exact h.2))]
                        rw [if_pos rfl] at hOT
                        have s1 := sadd B0 (name.map tcB) (B0 ++ name.map tcB) rfl (by omega) (by omega)
                        have s2 := sadd (B0 ++ name.map tcB) [58, 32] (B0 ++ name.map tcB ++ [58, 32]) rfl (by rw [List.length_append]; omega) (by decide)
                        have s3 := sadd (B0 ++ name.map tcB ++ [58, 32]) value (B0 ++ name.map tcB ++ [58, 32] ++ value) rfl (by simp only [List.length_append, List.length_cons, List.length_nil]; omega) (by omega)
                        have s4 := sadd (B0 ++ name.map tcB ++ [58, 32] ++ value) [13, 10] (B0 ++ name.map tcB ++ [58, 32] ++ value ++ [13, 10]) rfl (by simp only [List.length_append, List.length_cons, List.length_nil]; omega) (by decide)
                        have s6 := sadd (B0 ++ name.map tcB ++ [58, 32] ++ value ++ [13, 10]) x (B0 ++ name.map tcB ++ [58, 32] ++ value ++ [13, 10] ++ x) rfl (by simp only [List.length_append, List.length_cons, List.length_nil]; omega) (by omega)
                        have s7 := sadd (B0 ++ name.map tcB ++ [58, 32] ++ value ++ [13, 10] ++ x) [10] (outF k X 0 (LL.take (k + 1))) (by rw [hOT, hR, HXE.out]; simp only [List.append_assoc]) (by simp only [List.length_append, List.length_cons, List.length_nil]; omega) (by decide)
                        have HF : Hid (∀ SZ : ByteArray, SZ = ⟨(outF k X 0 (LL.take (k + 1))).toArray⟩ → SZ = ⟨(outF k X 0 (LL.take (k + 1))).toArray⟩) := Lib.hid (fun _ h => h)
                        obtain ⟨SZ, hSZ⟩ : ∃ SZ : ByteArray, (⟨(outF k X 0 (LL.take (k + 1))).toArray⟩ : ByteArray) = SZ := ⟨_, rfl⟩
                        rw [hSZ] at s7
                        have HSZZ := Lib.hid hSZ.symm
                        clear hSZ HF
                        generalize (⟨(B0 ++ name.map tcB).toArray⟩ : ByteArray) = Y0 at *
                        generalize (⟨(B0 ++ name.map tcB ++ [58, 32]).toArray⟩ : ByteArray) = Y1 at *
                        generalize (⟨(B0 ++ name.map tcB ++ [58, 32] ++ value).toArray⟩ : ByteArray) = Y2 at *
                        generalize (⟨(B0 ++ name.map tcB ++ [58, 32] ++ value ++ [13, 10]).toArray⟩ : ByteArray) = Y3 at *
                        generalize (⟨(B0 ++ name.map tcB ++ [58, 32] ++ value ++ [13, 10] ++ x).toArray⟩ : ByteArray) = Y4 at *
                        rw [← hSB] at s1
                        rw [HST.out] at s1
                        rw [HSV.out] at s3
                        generalize (⟨x.toArray⟩ : ByteArray) = LX at *
                        clear hOT hB0 hSB hxl hR hNT hT16 hLX hrep
                        go_wp2_with (first | (go_at_call 20; (with_reducible refine (BG.out _).mono ?_); rintro e w9 ⟨rfl, rfl⟩))
                        go_roundw
                        case rel => exact ⟨k + 1, _, by omega, rfl, by go_num, HSZZ⟩
                        case measure => first | (simp [intOf]; done) | (simp [intOf]; omega)
                    · have hne2 : ((k : Int) == (a : Int)) = false := by rw [beq_eq_false_iff_ne]; omega
                      by_cases hrep : x.take tLenB.length = tLenB
                      · skip
                        rw [decide_eq_true hrep] at BG
                        have hex : (⟨x.toArray⟩ : ByteArray).extract 16 (⟨x.toArray⟩ : ByteArray).size = ⟨(x.drop 16).toArray⟩ := by rw [hLX, ext_mid]; rw [List.take_of_length_le (by rw [List.length_drop]; omega)]
                        have h16 : (16 : Int) ≤ ((⟨x.toArray⟩ : ByteArray).size : Int) := by have := congrArg List.length hrep; rw [List.length_take, hT16] at this; rw [hLX]; omega
                        have hR : repF k x = tLEN ++ x.drop 16 := by unfold repF; rw [if_pos ⟨by omega, by rw [hT16] at hrep; exact hrep⟩]
                        have s5 := sadd [67, 111, 110, 116, 101, 110, 116, 45, 76, 69, 78, 71, 84, 72, 58] (x.drop 16) (tLEN ++ x.drop 16) rfl (by decide) (by rw [List.length_drop]; omega)
                        obtain ⟨R, hRe⟩ : ∃ R, tLEN ++ x.drop 16 = R := ⟨_, rfl⟩
                        have hRl : R.length ≤ 2000 := by rw [← hRe]; simp [tLEN]; omega
                        rw [hRe] at s5 hR
                        obtain ⟨DX, hDX⟩ : ∃ DX : ByteArray, (⟨(x.drop 16).toArray⟩ : ByteArray) = DX := ⟨_, rfl⟩
                        rw [hDX] at s5 hex
                        clear hDX hRe
                        rw [if_neg heq, List.append_nil] at hOT
                        have s6 := sadd B0 R (B0 ++ R) rfl (by omega) (by omega)
                        have s7 := sadd (B0 ++ R) [10] (outF a X 0 (LL.take (k + 1))) (by rw [hOT, hR]; simp only [List.append_assoc]) (by rw [List.length_append]; omega) (by decide)
                        have HF : Hid (∀ SZ : ByteArray, SZ = ⟨(outF a X 0 (LL.take (k + 1))).toArray⟩ → SZ = ⟨(outF a X 0 (LL.take (k + 1))).toArray⟩) := Lib.hid (fun _ h => h)
                        obtain ⟨SZ, hSZ⟩ : ∃ SZ : ByteArray, (⟨(outF a X 0 (LL.take (k + 1))).toArray⟩ : ByteArray) = SZ := ⟨_, rfl⟩
                        rw [hSZ] at s7
                        have HSZZ := Lib.hid hSZ.symm
                        clear hSZ HF
                        generalize (⟨(B0 ++ R).toArray⟩ : ByteArray) = Y0 at *
                        generalize (⟨R.toArray⟩ : ByteArray) = RB at *
                        rw [← hSB] at s6
                        generalize (⟨x.toArray⟩ : ByteArray) = LX at *
                        clear hOT hB0 hSB hxl hR hNT hT16 hLX hrep hRl
                        go_wp2_with (first | (go_at_call 20; (with_reducible refine (BG.out _).mono ?_); rintro e w9 ⟨rfl, rfl⟩))
                        go_roundw
                        case rel => exact ⟨k + 1, _, by omega, rfl, by go_num, HSZZ⟩
                        case measure => first | (simp [intOf]; done) | (simp [intOf]; omega)
                      · skip
                        rw [decide_eq_false hrep] at BG
                        have hR : repF k x = x := by unfold repF; rw [if_neg (fun h => hrep (by rw [hT16]; exact h.2))]
                        rw [if_neg heq, List.append_nil] at hOT
                        have s6 := sadd B0 x (B0 ++ x) rfl (by omega) (by omega)
                        have s7 := sadd (B0 ++ x) [10] (outF a X 0 (LL.take (k + 1))) (by rw [hOT, hR]; simp only [List.append_assoc]) (by rw [List.length_append]; omega) (by decide)
                        have HF : Hid (∀ SZ : ByteArray, SZ = ⟨(outF a X 0 (LL.take (k + 1))).toArray⟩ → SZ = ⟨(outF a X 0 (LL.take (k + 1))).toArray⟩) := Lib.hid (fun _ h => h)
                        obtain ⟨SZ, hSZ⟩ : ∃ SZ : ByteArray, (⟨(outF a X 0 (LL.take (k + 1))).toArray⟩ : ByteArray) = SZ := ⟨_, rfl⟩
                        rw [hSZ] at s7
                        have HSZZ := Lib.hid hSZ.symm
                        clear hSZ HF
                        generalize (⟨(B0 ++ x).toArray⟩ : ByteArray) = Y0 at *
                        rw [← hSB] at s6
                        generalize (⟨x.toArray⟩ : ByteArray) = LX at *
                        clear hOT hB0 hSB hxl hR hNT hT16 hLX hrep
                        go_wp2_with (first | (go_at_call 20; (with_reducible refine (BG.out _).mono ?_); rintro e w9 ⟨rfl, rfl⟩))
                        go_roundw
                        case rel => exact ⟨k + 1, _, by omega, rfl, by go_num, HSZZ⟩
                        case measure => first | (simp [intOf]; done) | (simp [intOf]; omega)
                · obtain rfl : k = D + 1 := by omega
                  have hlt1 : ¬ (((D + 1 : Nat) : Int) < (D : Int) + 2 - 1) := by omega
                  have hlt2 : ¬ (((D + 1 : Nat) : Int) < (D : Int) + 1) := by omega
                  have hSB := HSB.out
                  rw [List.take_of_length_le (by rw [HLL.out]; exact Nat.le_refl _)] at hSB
                  obtain ⟨st, hst, em, ep, ec, el⟩ := AN.out
                  have hFl := HSZ.out (D + 1)
                  rw [List.take_of_length_le (by rw [HLL.out]; exact Nat.le_refl _)] at hFl
                  obtain ⟨F, hFe⟩ : ∃ F, outF a X 0 LL = F := ⟨_, rfl⟩
                  rw [hFe] at hSB hst hFl
                  have hT : Bs w A c l := HTE.out.2
                  have hp0 : parseF (F ++ l) = .done st l := by
                    have := parse_head (t := l) hst (by rw [el, List.nil_append, HL.out]; exact Nat.le_refl _)
                    rwa [List.nil_append] at this
                  obtain ⟨NF, hNF⟩ : ∃ NF, F.length = NF := ⟨_, rfl⟩
                  have h3 := run_conv F
                  have HVF := Lib.hid (fun (W : World) (g : Nat) (hg : W.heap.size = g) => cv_new F (by omega) W g hg _ rfl)
                  rw [hNF] at h3 HVF hFl
                  rw [← hSB] at h3 HVF
                  have hSz : SB.size = NF := by rw [hSB, ba_sz]; exact hNF
                  have HNF := Lib.hid hNF
                  have hTn : l.take n = l := List.take_of_length_le (by rw [HL.out]; exact Nat.le_refl _)
                  have PK := Lib.hid (fun W A' c' (hb : Below w.heap.size w W) (T' : Bs W A' c' (F ++ l)) => pcall_done A' (NF + n) c' (F ++ l) (by rw [List.length_append, HNF.out, HL.out]) (by omega) W (HTE.out.1.below hb) T' hp0 (NF + n) (by rw [HL.out, el]; omega))
                  rw [em, ep, ec, el, hTn, HM.out, HP.out] at PK
                  have RQ := Lib.hid (fun W (hb : Below w.heap.size w W) => request_any m p cl A n c l HL.out (by omega) W (HTE.out.2.below hb))
                  have SQ := Lib.hid (fun W A' c' B' d' (T1 : Bs W A' c' l) (T2 : Bs W B' d' l) => same_eq m p cl A' B' n c' d' l HL.out (by omega) W T1 T2)
                  unfold rqB at RQ SQ
                  rw [HM.out, HP.out] at RQ SQ
                  have hNn : NF + n ≤ 1000000 := by omega
                  have u0 : w8.cell? ⟨w.heap.size, 0, none⟩ = some (.string M) := by rw [hc8 _ _ (by omega), hc6 _ _ (by omega), hc5 _ _ (by omega), hc4 _ _ (by simp)]; simp [go_sem]
                  have u1 : w8.cell? ⟨w.heap.size, 1, none⟩ = some (.string P) := by rw [hc8 _ _ (by omega), hc6 _ _ (by omega), hc5 _ _ (by omega), hc4 _ _ (by simp)]; simp [go_sem]
                  have u2 : w8.cell? ⟨w.heap.size, 2, none⟩ = some (.slice A n c) := by rw [hc8 _ _ (by omega), hc6 _ _ (by omega), hc5 _ _ (by omega), hc4 _ _ (by simp)]; simp [go_sem]
                  have u3 : w8.cell? ⟨w.heap.size, 3, none⟩ = some (.bool cl) := by rw [hc8 _ _ (by omega), hc6 _ _ (by omega), hc5 _ _ (by omega), hc4 _ _ (by simp)]; simp [go_sem]
                  have hBw8 : Below w.heap.size w w8 := (by repeat (first | exact Below.refl _ _ | refine Below.setCell ?_ (by first | (simp; done) | (simp; omega) | omega) _ | refine Below.alloc ?_ (by first | (simp; done) | (simp; omega) | omega) _ | refine Below.drew ?_ | assumption | refine Below.trans ?_ (Below.mono (by assumption) (by first | (simp; done) | (simp; omega) | omega))))
                  clear hb4 hb5 hb6 hb8 hc4 hc5 hc6 hc8 hf4 hf5 hf6 hf8 hs4 hs5 hs6 hs8 hz4 hz5 hz6
                  clear hSB hst em ep ec el hFe hT hp0 hTn AN HSZ HLine HS8 CU FM FO TU HB5 HH HXE HNT HLOW HVIS G12 HSV HST HS HV hF2 hNF hFl
                  subst hSz
                  have hwr : IntKind.i64.wrap ((SB.size : Int) + (n : Int)) = (SB.size : Int) + (n : Int) := by rw [IntKind.wrap_i64]; omega
                  go_upto_region 32 with (first | (at_builtin; refine wpList_append_cv _ rfl (.tmp 170) (.tmp 172) rfl _ _ SB.size F HNF.out rfl (HVF.out _ _ (by simp)) A n c l rfl HL.out hNn (HTE.out.2.below (by repeat (first | exact Below.refl _ _ | refine Below.setCell ?_ (by first | (simp; done) | (simp; omega) | omega) _ | refine Below.alloc ?_ (by first | (simp; done) | (simp; omega) | omega) _ | refine Below.drew ?_ | assumption | refine Below.trans ?_ (Below.mono (by assumption) (by first | (simp; done) | (simp; omega) | omega))))) ?_; intro g9 c9 w9 hB9 hg9 hor9; have HB9 := Lib.hid hB9; clear hB9; have hb9 : Below w8.heap.size w8 w9 := (Below.grown (show Below w8.heap.size w8 _ from (by repeat (first | exact Below.refl _ _ | refine Below.setCell ?_ (by first | (simp; done) | (simp; omega) | omega) _ | refine Below.alloc ?_ (by first | (simp; done) | (simp; omega) | omega) _ | refine Below.drew ?_ | assumption | refine Below.trans ?_ (Below.mono (by assumption) (by first | (simp; done) | (simp; omega) | omega))))) hg9 (by first | (simp; done) | (simp; omega) | omega) (fun k e => by cases e; first | (simp; done) | (simp; omega) | omega)); clear hg9 hor9; have hs9 := hb9.size; have hBw9 : Below w.heap.size w w9 := hBw8.trans (hb9.mono hBw8.size)) | (go_at_call 11; (with_reducible refine (PK.out _ _ _ hBw9 HB9.out).mono ?_); rintro e w10 ⟨⟨A10, c10, rfl, hT10⟩, hb10⟩; have hs10 := hb10.size; have HT10 := Lib.hid hT10.1; clear hT10))
                  refine name_world ?_
                  intro Wa hWa
                  have zq : w10.heap.size < Wa.heap.size := by rw [hWa]; simp
                  have b10a : Below w10.heap.size w10 Wa := by rw [hWa]; exact (Below.refl _ _).alloc (Nat.le_refl _) _
                  have bWa8 : Below w8.heap.size w8 Wa := (hb9.trans (hb10.mono hs9)).trans (b10a.mono (Nat.le_trans hs9 hs10))
                  have bWa : Below w.heap.size w Wa := hBw8.trans (bWa8.mono hBw8.size)
                  have y0 : Wa.cell? ⟨w10.heap.size, 0, none⟩ = some (.string M) := by rw [hWa]; simp [go_sem]
                  have y1 : Wa.cell? ⟨w10.heap.size, 1, none⟩ = some (.string P) := by rw [hWa]; simp [go_sem]
                  have y2 : Wa.cell? ⟨w10.heap.size, 2, none⟩ = some (.slice A10 n c10) := by rw [hWa]; simp [go_sem]
                  have y3 : Wa.cell? ⟨w10.heap.size, 3, none⟩ = some (.bool cl) := by rw [hWa]; simp [go_sem]
                  have k0 := (bWa8.cell (p := ⟨w.heap.size, 0, none⟩) hz8).trans u0
                  have k1 := (bWa8.cell (p := ⟨w.heap.size, 1, none⟩) hz8).trans u1
                  have k2 := (bWa8.cell (p := ⟨w.heap.size, 2, none⟩) hz8).trans u2
                  have k3 := (bWa8.cell (p := ⟨w.heap.size, 3, none⟩) hz8).trans u3
                  have zb : w.heap.size < Wa.heap.size := Nat.lt_of_lt_of_le hz8 bWa8.size
                  have HTa : Hid (Bs Wa A10 c10 l) := Lib.hid (HT10.out.below b10a)
                  have hbs := bWa.size
                  have RQa := Lib.hid (fun W (hb : Below Wa.heap.size Wa W) => RQ.out W (bWa.trans (hb.mono bWa.size)))
                  clear RQ
                  clear hWa b10a hb9 hb10 hs9 hs10 u0 u1 u2 u3 h3 HVF PK HB9 hBw9 hBw8 bWa8 HT10
                  generalize w10.heap.size = qb at *
                  generalize hwb : w.heap.size = wb at *
                  go_region_held3 (fun w' => w'.cell? ⟨qb, 0, none⟩ = some (.string M) ∧ w'.cell? ⟨qb, 1, none⟩ = some (.string P) ∧ w'.cell? ⟨qb, 2, none⟩ = some (.slice A10 n c10) ∧ w'.cell? ⟨qb, 3, none⟩ = some (.bool cl) ∧ w'.cell? ⟨wb, 0, none⟩ = some (.string M) ∧ w'.cell? ⟨wb, 1, none⟩ = some (.string P) ∧ w'.cell? ⟨wb, 2, none⟩ = some (.slice A n c) ∧ w'.cell? ⟨wb, 3, none⟩ = some (.bool cl) ∧ qb < w'.heap.size ∧ wb < w'.heap.size ∧ Below Wa.heap.size Wa w')
      (first | (refine ⟨?_, ?_, ?_, ?_, ?_, ?_, ?_, ?_, ?_, ?_, ?_⟩ <;> first | (simp [go_sem, *]; done) | omega | (simp; omega) | exact (by repeat (first | exact Below.refl _ _ | refine Below.setCell ?_ (by first | (simp; done) | (simp; omega) | omega) _ | refine Below.alloc ?_ (by first | (simp; done) | (simp; omega) | omega) _ | refine Below.drew ?_ | assumption | refine Below.trans ?_ (Below.mono (by assumption) (by first | (simp; done) | (simp; omega) | omega))))))
      (first | (first | (go_at_call 14; refine (RQa.out _ (by repeat (first | exact Below.refl _ _ | refine Below.setCell ?_ (by first | (simp; done) | (simp; omega) | omega) _ | refine Below.alloc ?_ (by first | (simp; done) | (simp; omega) | omega) _ | refine Below.drew ?_ | assumption | refine Below.trans ?_ (Below.mono (by assumption) (by first | (simp; done) | (simp; omega) | omega))))).mono ?_; rintro e w11 ⟨⟨A11, c11, rfl, hT11⟩, hb11⟩; obtain ⟨hc11, hf11⟩ := bcell hb11; (try simp only [drew_size, drew_cell, drew_frozen] at hc11 hf11); have hs11 := hb11.size; (try simp at hs11); have hz11 : qb < w11.heap.size ∧ wb < w11.heap.size := (by have := hb11.size; (try simp at this); omega); have HT11 := Lib.hid hT11; clear hT11) | (go_at_call 13; refine (SQ.out _ _ _ _ _ (HTa.out.below (by repeat (first | exact Below.refl _ _ | refine Below.setCell ?_ (by first | (simp; done) | (simp; omega) | omega) _ | refine Below.alloc ?_ (by first | (simp; done) | (simp; omega) | omega) _ | refine Below.drew ?_ | assumption | refine Below.trans ?_ (Below.mono (by assumption) (by first | (simp; done) | (simp; omega) | omega))))) (HT11.out.1.below (by repeat (first | exact Below.refl _ _ | refine Below.setCell ?_ (by first | (simp; done) | (simp; omega) | omega) _ | refine Below.alloc ?_ (by first | (simp; done) | (simp; omega) | omega) _ | refine Below.drew ?_ | assumption | refine Below.trans ?_ (Below.mono (by assumption) (by first | (simp; done) | (simp; omega) | omega)))))).mono ?_; rintro e w12 ⟨rfl, hb12⟩; obtain ⟨hc12, hf12⟩ := bcell hb12; (try simp only [drew_size, drew_cell, drew_frozen] at hc12 hf12); have hs12 := hb12.size; (try simp at hs12); have hz12 : qb < w12.heap.size ∧ wb < w12.heap.size := by have := hb12.size; (try simp at this); omega) | (go_at_call 12; (with_reducible refine (num_same _ _).mono ?_); rintro e w13 ⟨rfl, rfl⟩)))
                  all_goals
                    go_wp2
                    go_ret
                    refine ⟨rfl, ?_⟩
                    rw [hwb]
                    exact bWa.trans (Below.mono (show Below Wa.heap.size Wa _ from (by repeat (first | exact Below.refl _ _ | refine Below.setCell ?_ (by first | (simp; done) | (simp; omega) | omega) _ | refine Below.alloc ?_ (by first | (simp; done) | (simp; omega) | omega) _ | refine Below.drew ?_ | assumption | refine Below.trans ?_ (Below.mono (by assumption) (by first | (simp; done) | (simp; omega) | omega))))) hbs)
theorem headers_walk (m p : List UInt8) (A : Option Addr) (n c : Nat) (l : List UInt8) (hl : l.length = n) (cl : Bool) (name value : List UInt8) (z : Int) (w : World) (E : Env w) (T : Bs w A c l) (hn : n ≤ 9223372036854775807) :
    Calls Tryz.prog 5 #[rqB m p A n c cl, .string ⟨name.toArray⟩, .string ⟨value.toArray⟩, .int .i64 z] w fun e w' => e = .returned (.bool true) ∧ Below w.heap.size w w' := by
  by_cases h0 : fmtE m p n = 0
  · have h1 : (⟨name.toArray⟩ : ByteArray).size = name.length := ba_sz name
    have h2 : (⟨value.toArray⟩ : ByteArray).size = value.length := ba_sz value
    by_cases hf : name.length < 1 ∨ 40 < name.length ∨ 900 < value.length
    · exact headers_far m p A n c l hl cl _ _ z h0 (by rw [h1, h2]; exact hf) w E T
    · exact headers_near m p A n c l hl cl name value z h0 (by omega) (by omega) (by omega) w E T
  · exact headers_bad m p A n c cl _ _ z hn h0 w E
end Go.Proofs.YtkaimfeiahogaaaGreatDoor
