/-
  Contract of exref8.Encode.
-/
import Derived.Test.YtjccadfaiahkkaaDoorKv
import Derived.IntWalk
namespace Go.Proofs.YtjccadfaiahkkaaDoor
set_option linter.all false
open Go.RowKit
attribute [local go_sem] cell_set_self lt_1 lt_2 lt_3 lt_4 lt_5 lt_6

def E8Rel (w wr : World) (l : List Part) (k : Nat) (v : Value) : Prop :=
  k ≤ l.length ∧ (∀ p ∈ l.take k, p.k = 1 ∨ p.k = 2) ∧ wr.ownsRow w.heap.size 5 1 v (en (l.take k)).length (Lib.byteCells (en (l.take k))) ∧ Below w.heap.size w wr
theorem e8_many (A : Option Addr) (n c : Nat) (l : List Part) (hl : l.length = n) (h8 : 8 < n) (hn : n ≤ 9223372036854775807) (w : World) : Calls Tryd.prog 14 #[.slice A n c] w fun e w' => e = .returned (.tuple #[.string ⟨(bytesE l).toArray⟩, .int .i64 (errE l)]) ∧ Below w.heap.size w w' := by
  have e : errE l = 9 := errE_many (by omega)
  have e2 : bytesE l = [] := bytesE_n (by rw [e]; decide)
  rw [e, e2]
  clear e e2 hl
  have h' : (8 : Int) < n := by omega
  go_enter Tryd.func14, Tryd.ntmps14
  go_wp2
  go_ret2
  exact ⟨rfl, (by repeat (first | exact Below.refl _ _ | refine Below.setCell ?_ (by first | (simp; done) | (simp; omega) | omega) _ | refine Below.alloc ?_ (by first | (simp; done) | (simp; omega) | omega) _ | refine Below.drew ?_ | assumption | refine Below.trans ?_ (Below.mono (by assumption) (by first | (simp; done) | (simp; omega) | omega))))⟩
theorem enP_le2 {p : Part} (h : p.s.length ≤ 2000) : (enP p).length ≤ 5000 := by
  unfold enP
  split
  · simp [enI_length]
  · have := esc_length p.s
    simp; omega
theorem en_le2 {l : List Part} (h : ∀ p ∈ l, p.s.length ≤ 2000) : (en l).length ≤ 5000 * l.length := by
  induction l with
  | nil => simp [en_nil]
  | cons p l ih =>
    have h1 := enP_le2 (h p (List.mem_cons_self ..))
    have h2 := ih (fun x hx => h x (List.mem_cons_of_mem _ hx))
    rw [en_cons, List.length_append, List.length_cons]; omega
theorem en_take_le2 {l : List Part} (h : ∀ p ∈ l, p.s.length ≤ 2000 ∧ In64 p.n) (hl : l.length ≤ 8) (k : Nat) : (en (l.take k)).length ≤ 40000 := by
  have h1 := en_le2 (l := l.take k) (fun p hp => (h p (List.mem_of_mem_take hp)).1)
  have : (l.take k).length ≤ 8 := by rw [List.length_take]; omega
  omega
theorem kinds_snoc {l : List Part} {k : Nat} {p : Part} (h : ∀ q ∈ l.take k, q.k = 1 ∨ q.k = 2) (hp : l[k]? = some p) (hk : p.k = 1 ∨ p.k = 2) : ∀ q ∈ l.take (k + 1), q.k = 1 ∨ q.k = 2 := fun q hq => by
  obtain ⟨hk', he⟩ := List.getElem?_eq_some_iff.1 hp
  rw [List.take_succ_eq_append_getElem hk', he] at hq
  rcases List.mem_append.1 hq with hq | hq
  · exact h q hq
  · simp at hq; subst hq; exact hk
theorem bc_snoc (l : List UInt8) {a : Nat} (h : a < 256) : Lib.byteCells (l ++ [a.toUInt8]) = Lib.byteCells l ++ [.int .u8 (a : Int)] := by
  simp [Lib.byteCells, Nat.mod_eq_of_lt h]
  try omega
theorem be_take (j v : Nat) (h : j < 8) : (be 8 v).take (j + 1) = (be 8 v).take j ++ [(v / 256 ^ (7 - j)).toUInt8] := by
  match j, h with
  | 0, _ => rfl
  | 1, _ => rfl
  | 2, _ => rfl
  | 3, _ => rfl
  | 4, _ => rfl
  | 5, _ => rfl
  | 6, _ => rfl
  | 7, _ => rfl
theorem esc_take {s : List UInt8} {i : Nat} {ch : UInt8} (h : s[i]? = some ch) : esc (s.take (i + 1)) = esc (s.take i) ++ (if ch = 0 then [0, 255] else [ch]) := by
  obtain ⟨hk, he⟩ := List.getElem?_eq_some_iff.1 h
  rw [List.take_succ_eq_append_getElem hk, he, esc_append]
  by_cases h0 : ch = 0 <;> simp [esc, h0]


set_option maxHeartbeats 2000000 in
set_option maxRecDepth 100000 in
theorem e8_few (A : Option Addr) (n c : Nat) (l : List Part) (hl : l.length = n) (h8 : n ≤ 8) (hok : ∀ p ∈ l, p.s.length ≤ 2000 ∧ In64 p.n) (w : World) (T : Parts w A l) :
    Calls Tryd.prog 14 #[.slice A n c] w fun e w' => e = .returned (.tuple #[.string ⟨(bytesE l).toArray⟩, .int .i64 (errE l)]) ∧ Below w.heap.size w w' := by
  obtain ⟨i0, hi0, hz0, hz1, hz2⟩ := info_parts Tryd.infoByte
  have HL := Lib.hid hl
  clear hl
  have h' : ¬ (8 : Int) < n := by omega
  have TT := Lib.hid T
  clear T
  go_enter Tryd.func14, Tryd.ntmps14
  go_wp2
  go_loopw [4, 5] (fun u i wr => ∃ (k : Nat) (v : Value), i = .int .i64 k ∧ v = u ∧ E8Rel w wr l k v) (fun _ i _ => n - (intOf i).toNat)
  case atStart => exact ⟨0, _, rfl, rfl, Nat.zero_le _, by simp, World.ownsRow_nil _ _ _ _, (by repeat (first | exact Below.refl _ _ | refine Below.setCell ?_ (by first | (simp; done) | (simp; omega) | omega) _ | refine Below.alloc ?_ (by first | (simp; done) | (simp; omega) | omega) _ | refine Below.drew ?_ | assumption | refine Below.trans ?_ (Below.mono (by assumption) (by first | (simp; done) | (simp; omega) | omega))))⟩
  case round =>
    obtain ⟨k, v, rfl, hv, hk, hks, hown, hbl⟩ := hrel; subst hv
    obtain ⟨wo, rfl⟩ : ∃ wo : World, wo = wr := ⟨_, rfl⟩
    have HK := Lib.hid hks
    have HO := Lib.hid hown
    clear hks hown
    have hel := Lib.hid (en_take_le2 hok (by have := HL.out; omega) k)
    by_cases hlt : k < n
    · have hlt' : (k : Int) < n := by omega
      obtain ⟨p, hp⟩ : ∃ p, l[k]? = some p := ⟨l[k]'(by rw [HL.out]; exact hlt), by simp⟩
      have HP := Lib.hid hp
      have hmem : p ∈ l := List.mem_of_getElem? hp
      obtain ⟨hps, hpn⟩ := hok p hmem
      obtain ⟨b, off, hA, hbw, c0, c1, c2⟩ := TT.out k p hp
      subst hA
      have QM : Hid (∀ W, Below w.heap.size w W → W.cell? ⟨b, off + k * 3, none⟩ = some (.int .i64 p.k) ∧ W.cell? ⟨b, off + k * 3 + 1, none⟩ = some (.int .i64 p.n) ∧ W.cell? ⟨b, off + k * 3 + 2, none⟩ = some (.string ⟨p.s.toArray⟩)) := Lib.hid fun W hB => ⟨(hB.cell (p := ⟨b, _, none⟩) hbw).trans c0, (hB.cell (p := ⟨b, _, none⟩) hbw).trans c1, (hB.cell (p := ⟨b, _, none⟩) hbw).trans c2⟩
      clear hp c0 c1 c2 TT
      obtain ⟨d0, d1, d2⟩ := QM.out _ hbl
      have h3 : p.k = 1 ∨ p.k = 2 ∨ (p.k ≠ 1 ∧ p.k ≠ 2) := by omega
      rcases h3 with k1 | k1 | ⟨k1, k2⟩
      · have HN1 : Hid ((en (l.take k)).length ≤ 50000) := Lib.hid (by have := hel.out; omega)
        have BW1 := hbl
        rw [k1] at QM d0
        have hv : (p.n + 9223372036854775808).toNat < 18446744073709551616 := by obtain ⟨h1, h2⟩ := hpn; omega
        have HW : IntKind.u64.wrap (IntKind.u64.wrap p.n + 9223372036854775808) = ((p.n + 9223372036854775808).toNat : Int) := by
          obtain ⟨h1, h2⟩ := hpn
          rw [IntKind.wrap_u64, IntKind.wrap_u64]; omega
        have HE : Hid (enP p = 1 :: be 8 (p.n + 9223372036854775808).toNat) := Lib.hid (by unfold enP enI; simp [k1])
        generalize (p.n + 9223372036854775808).toNat = V at *
        generalize hxs : en (l.take k) = xs at *
        have HX := Lib.hid hxs
        clear hxs hel
        go_wp2_with (at_builtin; refine wpList_append_own _ rfl (.tmp 32) (.tmp 39) 53 rfl w.heap.size 5 i0 (.int .u8 0) 1 1 Tryd.underlying53 hi0 hz0 hz1 hz2 rfl (by decide) _ (xs).length (Lib.byteCells (xs)) rfl (HO.out.alloc _) ⟨wo.heap.size, 0, none⟩ 1 1 [.int .u8 (1)] rfl rfl (by intro j u hj; match j, hj with | 0, hj => (simp at hj; subst hj; simp [Addr.add, go_sem])) (by intro u hu; simp at hu; subst hu; rfl) (by have := HN1.out; unfold maxLen; omega) (by have := HN1.out; omega) (by have := BW1.size; simp; omega) ?_; intro v1 w1 hown1 hgrow1 hiff; clear hiff;  have HO1 : Hid (w1.ownsRow w.heap.size 5 1 v1 (xs ++ [1]).length (Lib.byteCells (xs ++ [1]))) := Lib.hid (by rw [Lib.byteCells_append, List.length_append]; exact hown1);  have B1 : Below w.heap.size w w1 := Below.grown (BW1.alloc BW1.size _) hgrow1 (by have := BW1.size; simp; omega) (fun g hg => (HO.out.lt g hg).1);  have q1 := QM.out _ B1;  obtain ⟨c0_1, c1_1, c2_1⟩ := q1;  clear hown1 hgrow1)
        have KB := Lib.hid B1
        have HO1' := Lib.hid HO1.out
        go_loopw [4, 7] (fun u i wr => ∃ (j : Nat) (z : Int) (v : Value), j ≤ 8 ∧ z = 7 - (j : Int) ∧ i = .int .i64 z ∧ v = u ∧ Hid (wr.ownsRow w.heap.size 5 1 v (xs ++ [1] ++ (be 8 V).take j).length (Lib.byteCells (xs ++ [1] ++ (be 8 V).take j))) ∧ Below w.heap.size w wr) (fun _ i _ => (intOf i + 1).toNat)
        case atStart => exact ⟨0, 7, _, by omega, rfl, rfl, rfl, Lib.hid (by simpa using HO1'.out), KB.out⟩
        case round =>
          obtain ⟨j, z, v2, hj, hz, rfl, hv2, HO2, BW2⟩ := hrel
          subst hv2
          obtain ⟨w2, rfl⟩ : ∃ w2 : World, w2 = wr := ⟨_, rfl⟩
          obtain ⟨e0, e1, e2⟩ := QM.out _ BW2
          have HN2 : Hid (∀ j, (xs ++ [1] ++ (be 8 V).take j).length ≤ 50010) := Lib.hid fun j => by
            have := HN1.out
            have h8 : ((be 8 V).take j).length ≤ 8 := by rw [List.length_take, be_length]; omega
            simp only [List.length_append, List.length_cons, List.length_nil]; omega
          have h9 : j = 0 ∨ j = 1 ∨ j = 2 ∨ j = 3 ∨ j = 4 ∨ j = 5 ∨ j = 6 ∨ j = 7 ∨ j = 8 := by omega
          rcases h9 with rfl | rfl | rfl | rfl | rfl | rfl | rfl | rfl | rfl
          · obtain rfl : z = 7 := by omega
            clear hz hj
            obtain ⟨y, hy⟩ : ∃ y : Nat, V / 256 ^ (7 - 0) % 256 = y := ⟨_, rfl⟩
            have HY : Hid (y < 256) := Lib.hid (by rw [← hy]; exact Nat.mod_lt _ (by omega))
            have hq : (V : Int) / 72057594037927936 = (y : Int) := by rw [← hy]; first | (simp; done) | (simp; omega)
            have HB : Hid ((V / 256 ^ (7 - 0)).toUInt8 = y.toUInt8) := Lib.hid (by apply UInt8.toNat_inj.1; rw [u8_toNat, u8_toNat, hy, Nat.mod_eq_of_lt HY.out])
            clear hy
            go_wp2_with (at_builtin; refine wpList_append_own _ rfl (.tmp 58) (.tmp 64) 53 rfl w.heap.size 5 i0 (.int .u8 0) 1 1 Tryd.underlying53 hi0 hz0 hz1 hz2 rfl (by decide) _ (xs ++ [1] ++ (be 8 V).take 0).length (Lib.byteCells (xs ++ [1] ++ (be 8 V).take 0)) rfl (HO2.out.alloc _) ⟨w2.heap.size, 0, none⟩ 1 1 [.int .u8 ((y : Int))] rfl rfl (by intro j u hj; match j, hj with | 0, hj => (simp at hj; subst hj; simp [Addr.add, go_sem])) (by intro u hu; simp at hu; subst hu; rfl) (by have := HN2.out 0; unfold maxLen; omega) (by have := HN2.out 0; omega) (by have := BW2.size; simp; omega) ?_; intro v3 w3 hown3 hgrow3 hiff; clear hiff;  have HO3 : Hid (w3.ownsRow w.heap.size 5 1 v3 (xs ++ [1] ++ (be 8 V).take 0 ++ [y.toUInt8]).length (Lib.byteCells (xs ++ [1] ++ (be 8 V).take 0 ++ [y.toUInt8]))) := Lib.hid (by rw [bc_snoc _ HY.out, List.length_append]; exact hown3);  have B3 : Below w.heap.size w w3 := Below.grown (BW2.alloc BW2.size _) hgrow3 (by have := BW2.size; simp; omega) (fun g hg => (HO2.out.lt g hg).1);  have q3 := QM.out _ B3;  obtain ⟨c0_3, c1_3, c2_3⟩ := q3;  clear hown3 hgrow3)
            go_roundw
            case rel => exact ⟨1, 6, _, by omega, by omega, rfl, rfl, Lib.hid (by have h := HO3.out; rw [List.append_assoc (xs ++ [1]), ← HB.out, ← be_take 0 V (by omega)] at h; exact h), B3⟩
            case measure => simp [intOf]
          · obtain rfl : z = 6 := by omega
            clear hz hj
            obtain ⟨y, hy⟩ : ∃ y : Nat, V / 256 ^ (7 - 1) % 256 = y := ⟨_, rfl⟩
            have HY : Hid (y < 256) := Lib.hid (by rw [← hy]; exact Nat.mod_lt _ (by omega))
            have hq : (V : Int) / 281474976710656 % 256 = (y : Int) := by rw [← hy]; first | (simp; done) | (simp; omega)
            have HB : Hid ((V / 256 ^ (7 - 1)).toUInt8 = y.toUInt8) := Lib.hid (by apply UInt8.toNat_inj.1; rw [u8_toNat, u8_toNat, hy, Nat.mod_eq_of_lt HY.out])
            clear hy
            go_wp2_with (at_builtin; refine wpList_append_own _ rfl (.tmp 58) (.tmp 64) 53 rfl w.heap.size 5 i0 (.int .u8 0) 1 1 Tryd.underlying53 hi0 hz0 hz1 hz2 rfl (by decide) _ (xs ++ [1] ++ (be 8 V).take 1).length (Lib.byteCells (xs ++ [1] ++ (be 8 V).take 1)) rfl (HO2.out.alloc _) ⟨w2.heap.size, 0, none⟩ 1 1 [.int .u8 ((y : Int))] rfl rfl (by intro j u hj; match j, hj with | 0, hj => (simp at hj; subst hj; simp [Addr.add, go_sem])) (by intro u hu; simp at hu; subst hu; rfl) (by have := HN2.out 1; unfold maxLen; omega) (by have := HN2.out 1; omega) (by have := BW2.size; simp; omega) ?_; intro v3 w3 hown3 hgrow3 hiff; clear hiff;  have HO3 : Hid (w3.ownsRow w.heap.size 5 1 v3 (xs ++ [1] ++ (be 8 V).take 1 ++ [y.toUInt8]).length (Lib.byteCells (xs ++ [1] ++ (be 8 V).take 1 ++ [y.toUInt8]))) := Lib.hid (by rw [bc_snoc _ HY.out, List.length_append]; exact hown3);  have B3 : Below w.heap.size w w3 := Below.grown (BW2.alloc BW2.size _) hgrow3 (by have := BW2.size; simp; omega) (fun g hg => (HO2.out.lt g hg).1);  have q3 := QM.out _ B3;  obtain ⟨c0_3, c1_3, c2_3⟩ := q3;  clear hown3 hgrow3)
            go_roundw
            case rel => exact ⟨2, 5, _, by omega, by omega, rfl, rfl, Lib.hid (by have h := HO3.out; rw [List.append_assoc (xs ++ [1]), ← HB.out, ← be_take 1 V (by omega)] at h; exact h), B3⟩
            case measure => simp [intOf]
          · obtain rfl : z = 5 := by omega
            clear hz hj
            obtain ⟨y, hy⟩ : ∃ y : Nat, V / 256 ^ (7 - 2) % 256 = y := ⟨_, rfl⟩
            have HY : Hid (y < 256) := Lib.hid (by rw [← hy]; exact Nat.mod_lt _ (by omega))
            have hq : (V : Int) / 1099511627776 % 256 = (y : Int) := by rw [← hy]; first | (simp; done) | (simp; omega)
            have HB : Hid ((V / 256 ^ (7 - 2)).toUInt8 = y.toUInt8) := Lib.hid (by apply UInt8.toNat_inj.1; rw [u8_toNat, u8_toNat, hy, Nat.mod_eq_of_lt HY.out])
            clear hy
            go_wp2_with (at_builtin; refine wpList_append_own _ rfl (.tmp 58) (.tmp 64) 53 rfl w.heap.size 5 i0 (.int .u8 0) 1 1 Tryd.underlying53 hi0 hz0 hz1 hz2 rfl (by decide) _ (xs ++ [1] ++ (be 8 V).take 2).length (Lib.byteCells (xs ++ [1] ++ (be 8 V).take 2)) rfl (HO2.out.alloc _) ⟨w2.heap.size, 0, none⟩ 1 1 [.int .u8 ((y : Int))] rfl rfl (by intro j u hj; match j, hj with | 0, hj => (simp at hj; subst hj; simp [Addr.add, go_sem])) (by intro u hu; simp at hu; subst hu; rfl) (by have := HN2.out 2; unfold maxLen; omega) (by have := HN2.out 2; omega) (by have := BW2.size; simp; omega) ?_; intro v3 w3 hown3 hgrow3 hiff; clear hiff;  have HO3 : Hid (w3.ownsRow w.heap.size 5 1 v3 (xs ++ [1] ++ (be 8 V).take 2 ++ [y.toUInt8]).length (Lib.byteCells (xs ++ [1] ++ (be 8 V).take 2 ++ [y.toUInt8]))) := Lib.hid (by rw [bc_snoc _ HY.out, List.length_append]; exact hown3);  have B3 : Below w.heap.size w w3 := Below.grown (BW2.alloc BW2.size _) hgrow3 (by have := BW2.size; simp; omega) (fun g hg => (HO2.out.lt g hg).1);  have q3 := QM.out _ B3;  obtain ⟨c0_3, c1_3, c2_3⟩ := q3;  clear hown3 hgrow3)
            go_roundw
            case rel => exact ⟨3, 4, _, by omega, by omega, rfl, rfl, Lib.hid (by have h := HO3.out; rw [List.append_assoc (xs ++ [1]), ← HB.out, ← be_take 2 V (by omega)] at h; exact h), B3⟩
            case measure => simp [intOf]
          · obtain rfl : z = 4 := by omega
            clear hz hj
            obtain ⟨y, hy⟩ : ∃ y : Nat, V / 256 ^ (7 - 3) % 256 = y := ⟨_, rfl⟩
            have HY : Hid (y < 256) := Lib.hid (by rw [← hy]; exact Nat.mod_lt _ (by omega))
            have hq : (V : Int) / 4294967296 % 256 = (y : Int) := by rw [← hy]; first | (simp; done) | (simp; omega)
            have HB : Hid ((V / 256 ^ (7 - 3)).toUInt8 = y.toUInt8) := Lib.hid (by apply UInt8.toNat_inj.1; rw [u8_toNat, u8_toNat, hy, Nat.mod_eq_of_lt HY.out])
            clear hy
            go_wp2_with (at_builtin; refine wpList_append_own _ rfl (.tmp 58) (.tmp 64) 53 rfl w.heap.size 5 i0 (.int .u8 0) 1 1 Tryd.underlying53 hi0 hz0 hz1 hz2 rfl (by decide) _ (xs ++ [1] ++ (be 8 V).take 3).length (Lib.byteCells (xs ++ [1] ++ (be 8 V).take 3)) rfl (HO2.out.alloc _) ⟨w2.heap.size, 0, none⟩ 1 1 [.int .u8 ((y : Int))] rfl rfl (by intro j u hj; match j, hj with | 0, hj => (simp at hj; subst hj; simp [Addr.add, go_sem])) (by intro u hu; simp at hu; subst hu; rfl) (by have := HN2.out 3; unfold maxLen; omega) (by have := HN2.out 3; omega) (by have := BW2.size; simp; omega) ?_; intro v3 w3 hown3 hgrow3 hiff; clear hiff;  have HO3 : Hid (w3.ownsRow w.heap.size 5 1 v3 (xs ++ [1] ++ (be 8 V).take 3 ++ [y.toUInt8]).length (Lib.byteCells (xs ++ [1] ++ (be 8 V).take 3 ++ [y.toUInt8]))) := Lib.hid (by rw [bc_snoc _ HY.out, List.length_append]; exact hown3);  have B3 : Below w.heap.size w w3 := Below.grown (BW2.alloc BW2.size _) hgrow3 (by have := BW2.size; simp; omega) (fun g hg => (HO2.out.lt g hg).1);  have q3 := QM.out _ B3;  obtain ⟨c0_3, c1_3, c2_3⟩ := q3;  clear hown3 hgrow3)
            go_roundw
            case rel => exact ⟨4, 3, _, by omega, by omega, rfl, rfl, Lib.hid (by have h := HO3.out; rw [List.append_assoc (xs ++ [1]), ← HB.out, ← be_take 3 V (by omega)] at h; exact h), B3⟩
            case measure => simp [intOf]
          · obtain rfl : z = 3 := by omega
            clear hz hj
            obtain ⟨y, hy⟩ : ∃ y : Nat, V / 256 ^ (7 - 4) % 256 = y := ⟨_, rfl⟩
            have HY : Hid (y < 256) := Lib.hid (by rw [← hy]; exact Nat.mod_lt _ (by omega))
            have hq : (V : Int) / 16777216 % 256 = (y : Int) := by rw [← hy]; first | (simp; done) | (simp; omega)
            have HB : Hid ((V / 256 ^ (7 - 4)).toUInt8 = y.toUInt8) := Lib.hid (by apply UInt8.toNat_inj.1; rw [u8_toNat, u8_toNat, hy, Nat.mod_eq_of_lt HY.out])
            clear hy
            go_wp2_with (at_builtin; refine wpList_append_own _ rfl (.tmp 58) (.tmp 64) 53 rfl w.heap.size 5 i0 (.int .u8 0) 1 1 Tryd.underlying53 hi0 hz0 hz1 hz2 rfl (by decide) _ (xs ++ [1] ++ (be 8 V).take 4).length (Lib.byteCells (xs ++ [1] ++ (be 8 V).take 4)) rfl (HO2.out.alloc _) ⟨w2.heap.size, 0, none⟩ 1 1 [.int .u8 ((y : Int))] rfl rfl (by intro j u hj; match j, hj with | 0, hj => (simp at hj; subst hj; simp [Addr.add, go_sem])) (by intro u hu; simp at hu; subst hu; rfl) (by have := HN2.out 4; unfold maxLen; omega) (by have := HN2.out 4; omega) (by have := BW2.size; simp; omega) ?_; intro v3 w3 hown3 hgrow3 hiff; clear hiff;  have HO3 : Hid (w3.ownsRow w.heap.size 5 1 v3 (xs ++ [1] ++ (be 8 V).take 4 ++ [y.toUInt8]).length (Lib.byteCells (xs ++ [1] ++ (be 8 V).take 4 ++ [y.toUInt8]))) := Lib.hid (by rw [bc_snoc _ HY.out, List.length_append]; exact hown3);  have B3 : Below w.heap.size w w3 := Below.grown (BW2.alloc BW2.size _) hgrow3 (by have := BW2.size; simp; omega) (fun g hg => (HO2.out.lt g hg).1);  have q3 := QM.out _ B3;  obtain ⟨c0_3, c1_3, c2_3⟩ := q3;  clear hown3 hgrow3)
            go_roundw
            case rel => exact ⟨5, 2, _, by omega, by omega, rfl, rfl, Lib.hid (by have h := HO3.out; rw [List.append_assoc (xs ++ [1]), ← HB.out, ← be_take 4 V (by omega)] at h; exact h), B3⟩
            case measure => simp [intOf]
          · obtain rfl : z = 2 := by omega
            clear hz hj
            obtain ⟨y, hy⟩ : ∃ y : Nat, V / 256 ^ (7 - 5) % 256 = y := ⟨_, rfl⟩
            have HY : Hid (y < 256) := Lib.hid (by rw [← hy]; exact Nat.mod_lt _ (by omega))
            have hq : (V : Int) / 65536 % 256 = (y : Int) := by rw [← hy]; first | (simp; done) | (simp; omega)
            have HB : Hid ((V / 256 ^ (7 - 5)).toUInt8 = y.toUInt8) := Lib.hid (by apply UInt8.toNat_inj.1; rw [u8_toNat, u8_toNat, hy, Nat.mod_eq_of_lt HY.out])
            clear hy
            go_wp2_with (at_builtin; refine wpList_append_own _ rfl (.tmp 58) (.tmp 64) 53 rfl w.heap.size 5 i0 (.int .u8 0) 1 1 Tryd.underlying53 hi0 hz0 hz1 hz2 rfl (by decide) _ (xs ++ [1] ++ (be 8 V).take 5).length (Lib.byteCells (xs ++ [1] ++ (be 8 V).take 5)) rfl (HO2.out.alloc _) ⟨w2.heap.size, 0, none⟩ 1 1 [.int .u8 ((y : Int))] rfl rfl (by intro j u hj; match j, hj with | 0, hj => (simp at hj; subst hj; simp [Addr.add, go_sem])) (by intro u hu; simp at hu; subst hu; rfl) (by have := HN2.out 5; unfold maxLen; omega) (by have := HN2.out 5; omega) (by have := BW2.size; simp; omega) ?_; intro v3 w3 hown3 hgrow3 hiff; clear hiff;  have HO3 : Hid (w3.ownsRow w.heap.size 5 1 v3 (xs ++ [1] ++ (be 8 V).take 5 ++ [y.toUInt8]).length (Lib.byteCells (xs ++ [1] ++ (be 8 V).take 5 ++ [y.toUInt8]))) := Lib.hid (by rw [bc_snoc _ HY.out, List.length_append]; exact hown3);  have B3 : Below w.heap.size w w3 := Below.grown (BW2.alloc BW2.size _) hgrow3 (by have := BW2.size; simp; omega) (fun g hg => (HO2.out.lt g hg).1);  have q3 := QM.out _ B3;  obtain ⟨c0_3, c1_3, c2_3⟩ := q3;  clear hown3 hgrow3)
            go_roundw
            case rel => exact ⟨6, 1, _, by omega, by omega, rfl, rfl, Lib.hid (by have h := HO3.out; rw [List.append_assoc (xs ++ [1]), ← HB.out, ← be_take 5 V (by omega)] at h; exact h), B3⟩
            case measure => simp [intOf]
          · obtain rfl : z = 1 := by omega
            clear hz hj
            obtain ⟨y, hy⟩ : ∃ y : Nat, V / 256 ^ (7 - 6) % 256 = y := ⟨_, rfl⟩
            have HY : Hid (y < 256) := Lib.hid (by rw [← hy]; exact Nat.mod_lt _ (by omega))
            have hq : (V : Int) / 256 % 256 = (y : Int) := by rw [← hy]; first | (simp; done) | (simp; omega)
            have HB : Hid ((V / 256 ^ (7 - 6)).toUInt8 = y.toUInt8) := Lib.hid (by apply UInt8.toNat_inj.1; rw [u8_toNat, u8_toNat, hy, Nat.mod_eq_of_lt HY.out])
            clear hy
            go_wp2_with (at_builtin; refine wpList_append_own _ rfl (.tmp 58) (.tmp 64) 53 rfl w.heap.size 5 i0 (.int .u8 0) 1 1 Tryd.underlying53 hi0 hz0 hz1 hz2 rfl (by decide) _ (xs ++ [1] ++ (be 8 V).take 6).length (Lib.byteCells (xs ++ [1] ++ (be 8 V).take 6)) rfl (HO2.out.alloc _) ⟨w2.heap.size, 0, none⟩ 1 1 [.int .u8 ((y : Int))] rfl rfl (by intro j u hj; match j, hj with | 0, hj => (simp at hj; subst hj; simp [Addr.add, go_sem])) (by intro u hu; simp at hu; subst hu; rfl) (by have := HN2.out 6; unfold maxLen; omega) (by have := HN2.out 6; omega) (by have := BW2.size; simp; omega) ?_; intro v3 w3 hown3 hgrow3 hiff; clear hiff;  have HO3 : Hid (w3.ownsRow w.heap.size 5 1 v3 (xs ++ [1] ++ (be 8 V).take 6 ++ [y.toUInt8]).length (Lib.byteCells (xs ++ [1] ++ (be 8 V).take 6 ++ [y.toUInt8]))) := Lib.hid (by rw [bc_snoc _ HY.out, List.length_append]; exact hown3);  have B3 : Below w.heap.size w w3 := Below.grown (BW2.alloc BW2.size _) hgrow3 (by have := BW2.size; simp; omega) (fun g hg => (HO2.out.lt g hg).1);  have q3 := QM.out _ B3;  obtain ⟨c0_3, c1_3, c2_3⟩ := q3;  clear hown3 hgrow3)
            go_roundw
            case rel => exact ⟨7, 0, _, by omega, by omega, rfl, rfl, Lib.hid (by have h := HO3.out; rw [List.append_assoc (xs ++ [1]), ← HB.out, ← be_take 6 V (by omega)] at h; exact h), B3⟩
            case measure => simp [intOf]
          · obtain rfl : z = 0 := by omega
            clear hz hj
            obtain ⟨y, hy⟩ : ∃ y : Nat, V / 256 ^ (7 - 7) % 256 = y := ⟨_, rfl⟩
            have HY : Hid (y < 256) := Lib.hid (by rw [← hy]; exact Nat.mod_lt _ (by omega))
            have hq : (V : Int) % 256 = (y : Int) := by rw [← hy]; first | (simp; done) | (simp; omega)
            have HB : Hid ((V / 256 ^ (7 - 7)).toUInt8 = y.toUInt8) := Lib.hid (by apply UInt8.toNat_inj.1; rw [u8_toNat, u8_toNat, hy, Nat.mod_eq_of_lt HY.out])
            clear hy
            go_wp2_with (at_builtin; refine wpList_append_own _ rfl (.tmp 58) (.tmp 64) 53 rfl w.heap.size 5 i0 (.int .u8 0) 1 1 Tryd.underlying53 hi0 hz0 hz1 hz2 rfl (by decide) _ (xs ++ [1] ++ (be 8 V).take 7).length (Lib.byteCells (xs ++ [1] ++ (be 8 V).take 7)) rfl (HO2.out.alloc _) ⟨w2.heap.size, 0, none⟩ 1 1 [.int .u8 ((y : Int))] rfl rfl (by intro j u hj; match j, hj with | 0, hj => (simp at hj; subst hj; simp [Addr.add, go_sem])) (by intro u hu; simp at hu; subst hu; rfl) (by have := HN2.out 7; unfold maxLen; omega) (by have := HN2.out 7; omega) (by have := BW2.size; simp; omega) ?_; intro v3 w3 hown3 hgrow3 hiff; clear hiff;  have HO3 : Hid (w3.ownsRow w.heap.size 5 1 v3 (xs ++ [1] ++ (be 8 V).take 7 ++ [y.toUInt8]).length (Lib.byteCells (xs ++ [1] ++ (be 8 V).take 7 ++ [y.toUInt8]))) := Lib.hid (by rw [bc_snoc _ HY.out, List.length_append]; exact hown3);  have B3 : Below w.heap.size w w3 := Below.grown (BW2.alloc BW2.size _) hgrow3 (by have := BW2.size; simp; omega) (fun g hg => (HO2.out.lt g hg).1);  have q3 := QM.out _ B3;  obtain ⟨c0_3, c1_3, c2_3⟩ := q3;  clear hown3 hgrow3)
            go_roundw
            case rel => exact ⟨8, -1, _, by omega, by omega, rfl, rfl, Lib.hid (by have h := HO3.out; rw [List.append_assoc (xs ++ [1]), ← HB.out, ← be_take 7 V (by omega)] at h; exact h), B3⟩
            case measure => simp [intOf]
          · obtain rfl : z = -1 := by omega
            clear hz hj
            have HO8 : Hid (w2.ownsRow w.heap.size 5 1 v2 (xs ++ enP p).length (Lib.byteCells (xs ++ enP p))) := Lib.hid (by
              have h := HO2.out
              rw [List.take_of_length_le (by rw [be_length]; exact Nat.le_refl _), List.append_assoc] at h
              rw [HE.out]
              exact h)
            clear HO2 HN2
            go_wp2
            go_roundw
            case rel => exact ⟨k + 1, _, by go_num, rfl, by have := HL.out; omega, kinds_snoc HK.out HP.out (.inl k1), by rw [en_snoc HP.out, HX.out]; exact HO8.out, BW2⟩
            case measure => first | (simp [intOf]; done) | (simp [intOf]; omega)
      · have HN1 : Hid ((en (l.take k)).length ≤ 50000) := Lib.hid (by have := hel.out; omega)
        have BW1 := hbl
        rw [k1] at QM d0
        have HE : Hid (enP p = 2 :: (esc p.s ++ [0, 1])) := Lib.hid (by unfold enP; simp [k1])
        have hts : (⟨p.s.toArray⟩ : ByteArray).size = p.s.length := by simp [ByteArray.size]
        have hat : Hid (∀ i (h : i < (⟨p.s.toArray⟩ : ByteArray).size) (c : UInt8), p.s[i]? = some c → ((⟨p.s.toArray⟩ : ByteArray)[i]'h).toNat = c.toNat) := Lib.hid fun i h c hc => by
          obtain ⟨h1, h2⟩ := List.getElem?_eq_some_iff.1 hc
          rw [← h2]; rfl
        have HS := Lib.hid hts
        have hsz : (⟨p.s.toArray⟩ : ByteArray).size ≤ 2000 := by omega
        clear hts
        generalize (⟨p.s.toArray⟩ : ByteArray) = sb at *
        generalize hxs : en (l.take k) = xs at *
        have HX := Lib.hid hxs
        clear hxs hel
        go_wp2_with (at_builtin; refine wpList_append_own _ rfl (.tmp 32) (.tmp 39) 53 rfl w.heap.size 5 i0 (.int .u8 0) 1 1 Tryd.underlying53 hi0 hz0 hz1 hz2 rfl (by decide) _ (xs).length (Lib.byteCells (xs)) rfl (HO.out.alloc _) ⟨wo.heap.size, 0, none⟩ 1 1 [.int .u8 (2)] rfl rfl (by intro j u hj; match j, hj with | 0, hj => (simp at hj; subst hj; simp [Addr.add, go_sem])) (by intro u hu; simp at hu; subst hu; rfl) (by have := HN1.out; unfold maxLen; omega) (by have := HN1.out; omega) (by have := BW1.size; simp; omega) ?_; intro v1 w1 hown1 hgrow1 hiff; clear hiff;  have HO1 : Hid (w1.ownsRow w.heap.size 5 1 v1 (xs ++ [2]).length (Lib.byteCells (xs ++ [2]))) := Lib.hid (by rw [Lib.byteCells_append, List.length_append]; exact hown1);  have B1 : Below w.heap.size w w1 := Below.grown (BW1.alloc BW1.size _) hgrow1 (by have := BW1.size; simp; omega) (fun g hg => (HO.out.lt g hg).1);  have q1 := QM.out _ B1;  obtain ⟨c0_1, c1_1, c2_1⟩ := q1;  clear hown1 hgrow1)
        have KB := Lib.hid B1
        have HO1' := Lib.hid HO1.out
        go_loopw [4, 8] (fun u i wr => ∃ (j : Nat) (v : Value), j ≤ sb.size ∧ i = .int .i64 j ∧ v = u ∧ Hid (wr.ownsRow w.heap.size 5 1 v (xs ++ [2] ++ esc (p.s.take j)).length (Lib.byteCells (xs ++ [2] ++ esc (p.s.take j)))) ∧ Below w.heap.size w wr) (fun _ i _ => sb.size - (intOf i).toNat)
        case atStart => exact ⟨0, _, by omega, rfl, rfl, Lib.hid (by simpa [esc] using HO1'.out), KB.out⟩
        case round =>
          obtain ⟨i, v2, hi, rfl, hv2, HO2, BW2⟩ := hrel
          subst hv2
          obtain ⟨w2, rfl⟩ : ∃ w2 : World, w2 = wr := ⟨_, rfl⟩
          obtain ⟨e0, e1, e2⟩ := QM.out _ BW2
          have HN2 : Hid (∀ j, (xs ++ [2] ++ esc (p.s.take j)).length ≤ 55000) := Lib.hid fun j => by
            have := HN1.out
            have h8 := esc_length (p.s.take j)
            have h9 : (p.s.take j).length ≤ p.s.length := by rw [List.length_take]; omega
            simp only [List.length_append, List.length_cons, List.length_nil]; omega
          have HN4 : Hid (∀ j, (xs ++ [2] ++ esc (p.s.take j) ++ [0]).length ≤ 55001) := Lib.hid fun j => by
            have := HN2.out j
            rw [List.length_append]; simp only [List.length_cons, List.length_nil]; omega
          by_cases hlt2 : i < sb.size
          · have hlt2' : (i : Int) < sb.size := by omega
            obtain ⟨ch, hch⟩ : ∃ ch, p.s[i]? = some ch := ⟨_, List.getElem?_eq_getElem (by rw [← HS.out]; exact hlt2)⟩
            have hy := hat.out i hlt2 ch hch
            have HT := Lib.hid (esc_take hch)
            by_cases z0 : ch = 0
            · subst z0
              rw [show (0 : UInt8).toNat = 0 from rfl] at hy
              clear hch
              go_wp2_with (first
                | (at_builtin; refine wpList_append_own _ rfl (.tmp 76) (.tmp 84) 53 rfl w.heap.size 5 i0 (.int .u8 0) 1 1 Tryd.underlying53 hi0 hz0 hz1 hz2 rfl (by decide) _ (xs ++ [2] ++ esc (p.s.take i)).length (Lib.byteCells (xs ++ [2] ++ esc (p.s.take i))) rfl (HO2.out.alloc _) ⟨w2.heap.size, 0, none⟩ 1 1 [.int .u8 (0)] rfl rfl (by intro j u hj; match j, hj with | 0, hj => (simp at hj; subst hj; simp [Addr.add, go_sem])) (by intro u hu; simp at hu; subst hu; rfl) (by have := HN2.out i; unfold maxLen; omega) (by have := HN2.out i; omega) (by have := BW2.size; simp; omega) ?_; intro v3 w3 hown3 hgrow3 hiff; clear hiff;  have HO3 : Hid (w3.ownsRow w.heap.size 5 1 v3 (xs ++ [2] ++ esc (p.s.take i) ++ [0]).length (Lib.byteCells (xs ++ [2] ++ esc (p.s.take i) ++ [0]))) := Lib.hid (by rw [Lib.byteCells_append, List.length_append]; exact hown3);  have B3 : Below w.heap.size w w3 := Below.grown (BW2.alloc BW2.size _) hgrow3 (by have := BW2.size; simp; omega) (fun g hg => (HO2.out.lt g hg).1);  have q3 := QM.out _ B3;  obtain ⟨c0_3, c1_3, c2_3⟩ := q3;  clear hown3 hgrow3)
                | (at_builtin; refine wpList_append_own _ rfl (.tmp 94) (.tmp 95) 53 rfl w.heap.size 5 i0 (.int .u8 0) 1 1 Tryd.underlying53 hi0 hz0 hz1 hz2 rfl (by decide) _ (xs ++ [2] ++ esc (p.s.take i) ++ [0]).length (Lib.byteCells (xs ++ [2] ++ esc (p.s.take i) ++ [0])) rfl (HO3.out.alloc _) ⟨w3.heap.size, 0, none⟩ 1 1 [.int .u8 (255)] rfl rfl (by intro j u hj; match j, hj with | 0, hj => (simp at hj; subst hj; simp [Addr.add, go_sem])) (by intro u hu; simp at hu; subst hu; rfl) (by have := HN4.out i; unfold maxLen; omega) (by have := HN4.out i; omega) (by have := B3.size; simp; omega) ?_; intro v4 w4 hown4 hgrow4 hiff; clear hiff;  have HO4 : Hid (w4.ownsRow w.heap.size 5 1 v4 (xs ++ [2] ++ esc (p.s.take i) ++ [0] ++ [255]).length (Lib.byteCells (xs ++ [2] ++ esc (p.s.take i) ++ [0] ++ [255]))) := Lib.hid (by rw [Lib.byteCells_append, List.length_append]; exact hown4);  have B4 : Below w.heap.size w w4 := Below.grown (B3.alloc B3.size _) hgrow4 (by have := B3.size; simp; omega) (fun g hg => (HO3.out.lt g hg).1);  have q4 := QM.out _ B4;  obtain ⟨c0_4, c1_4, c2_4⟩ := q4;  clear hown4 hgrow4))
              go_roundw
              case rel => exact ⟨i + 1, _, by omega, by go_num, rfl, Lib.hid (by have h := HO4.out; rw [HT.out, if_pos rfl, ← List.append_assoc]; simpa using h), B4⟩
              case measure => first | (simp [intOf]; done) | (simp [intOf]; omega)
            · obtain ⟨y, hyy⟩ : ∃ y, ch.toNat = y := ⟨_, rfl⟩
              rw [hyy] at hy
              have HY : Hid (y < 256) := Lib.hid (by rw [← hyy]; exact ch.toNat_lt)
              have HC : Hid (y.toUInt8 = ch) := Lib.hid (by apply UInt8.toNat_inj.1; rw [u8_toNat, Nat.mod_eq_of_lt HY.out, hyy])
              have y0 : ((y : Int) == 0) = false := by rw [beq_eq_false_iff_ne]; intro e; apply z0; apply UInt8.toNat_inj.1; rw [hyy]; show y = 0; omega
              have HZ := Lib.hid z0
              clear hch hyy z0
              go_wp2_with (at_builtin; refine wpList_append_own _ rfl (.tmp 76) (.tmp 84) 53 rfl w.heap.size 5 i0 (.int .u8 0) 1 1 Tryd.underlying53 hi0 hz0 hz1 hz2 rfl (by decide) _ (xs ++ [2] ++ esc (p.s.take i)).length (Lib.byteCells (xs ++ [2] ++ esc (p.s.take i))) rfl (HO2.out.alloc _) ⟨w2.heap.size, 0, none⟩ 1 1 [.int .u8 ((y : Int))] rfl rfl (by intro j u hj; match j, hj with | 0, hj => (simp at hj; subst hj; simp [Addr.add, go_sem])) (by intro u hu; simp at hu; subst hu; rfl) (by have := HN2.out i; unfold maxLen; omega) (by have := HN2.out i; omega) (by have := BW2.size; simp; omega) ?_; intro v3 w3 hown3 hgrow3 hiff; clear hiff;  have HO3 : Hid (w3.ownsRow w.heap.size 5 1 v3 (xs ++ [2] ++ esc (p.s.take i) ++ [y.toUInt8]).length (Lib.byteCells (xs ++ [2] ++ esc (p.s.take i) ++ [y.toUInt8]))) := Lib.hid (by rw [bc_snoc _ HY.out, List.length_append]; exact hown3);  have B3 : Below w.heap.size w w3 := Below.grown (BW2.alloc BW2.size _) hgrow3 (by have := BW2.size; simp; omega) (fun g hg => (HO2.out.lt g hg).1);  have q3 := QM.out _ B3;  obtain ⟨c0_3, c1_3, c2_3⟩ := q3;  clear hown3 hgrow3)
              go_roundw
              case rel => exact ⟨i + 1, _, by omega, by go_num, rfl, Lib.hid (by have h := HO3.out; rw [HT.out, if_neg HZ.out, ← List.append_assoc, ← HC.out]; exact h), B3⟩
              case measure => first | (simp [intOf]; done) | (simp [intOf]; omega)
          · obtain rfl : i = sb.size := by omega
            have HN5 : Hid ((xs ++ [2] ++ esc p.s).length ≤ 55000) := Lib.hid (by have := HN2.out p.s.length; rwa [List.take_of_length_le (Nat.le_refl _)] at this)
            have HO2' : Hid (w2.ownsRow w.heap.size 5 1 v2 (xs ++ [2] ++ esc p.s).length (Lib.byteCells (xs ++ [2] ++ esc p.s))) := Lib.hid (by have h := HO2.out; rwa [List.take_of_length_le (by rw [HS.out]; exact Nat.le_refl _)] at h)
            clear HO2 HN2 HN4
            go_wp2_with (at_builtin; refine wpList_append_own _ rfl (.tmp 97) (.tmp 98) 53 rfl w.heap.size 5 i0 (.int .u8 0) 1 1 Tryd.underlying53 hi0 hz0 hz1 hz2 rfl (by decide) _ (xs ++ [2] ++ esc p.s).length (Lib.byteCells (xs ++ [2] ++ esc p.s)) rfl (HO2'.out.alloc _) ⟨w2.heap.size, 0, none⟩ 2 2 [.int .u8 0, .int .u8 1] rfl rfl (by intro j u hj; match j, hj with | 0, hj => (simp at hj; subst hj; simp [Addr.add, go_sem]) | 1, hj => (simp at hj; subst hj; simp [Addr.add, go_sem])) (by intro u hu; simp at hu; rcases hu with rfl | rfl <;> rfl) (by have := HN5.out; unfold maxLen; omega) (by have := HN5.out; omega) (by have := BW2.size; simp; omega) ?_; intro v5 w5 hown5 hgrow5 hiff; clear hiff;  have HO5 : Hid (w5.ownsRow w.heap.size 5 1 v5 (xs ++ [2] ++ esc p.s ++ [0, 1]).length (Lib.byteCells (xs ++ [2] ++ esc p.s ++ [0, 1]))) := Lib.hid (by rw [Lib.byteCells_append, List.length_append]; exact hown5);  have B5 : Below w.heap.size w w5 := Below.grown (BW2.alloc BW2.size _) hgrow5 (by have := BW2.size; simp; omega) (fun g hg => (HO2'.out.lt g hg).1);  clear hown5 hgrow5)
            go_roundw
            case rel => exact ⟨k + 1, _, by go_num, rfl, by have := HL.out; omega, kinds_snoc HK.out HP.out (.inr k1), by rw [en_snoc HP.out, HX.out, HE.out]; have h := HO5.out; simpa using h, B5⟩
            case measure => first | (simp [intOf]; done) | (simp [intOf]; omega)
      · have E := Lib.hid (errE_kind (by have := HL.out; omega) hmem k1 k2)
        have n1 : (p.k != 1) = true := by simpa using k1
        have n2 : (p.k != 2) = true := by simpa using k2
        go_wp2
        go_ret2
        exact ⟨ret_enc (m := []) (bytesE_n (by rw [E.out]; decide)) E.out, hbl⟩
    · obtain rfl : k = n := by have := HL.out; omega
      have htk : l.take k = l := List.take_of_length_le (by have := HL.out; omega)
      rw [htk] at HO HK hel
      have HL8 := Lib.hid (show l.length ≤ 8 by have := HL.out; omega)
      clear htk HL
      obtain ⟨G, cap, rfl⟩ := own_form HO.out
      have hcv := conv_own HO.out
      by_cases h2 : 200 < (en l).length
      · have E := Lib.hid (errE_long HL8.out HK.out h2)
        have h2' : (200 : Int) < (en l).length := by omega
        go_wp2
        go_ret2
        exact ⟨ret_enc (m := []) (bytesE_n (by rw [E.out]; decide)) E.out, hbl⟩
      · have E := Lib.hid (errE_fine HL8.out HK.out (by omega))
        have h2' : ¬ (200 : Int) < (en l).length := by omega
        go_wp2
        go_ret2
        exact ⟨ret_enc (bytesE_0 E.out) E.out, hbl⟩
end Go.Proofs.YtjccadfaiahkkaaDoor
