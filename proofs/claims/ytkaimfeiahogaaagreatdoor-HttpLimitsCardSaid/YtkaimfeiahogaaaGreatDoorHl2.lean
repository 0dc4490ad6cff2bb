/-
  HttpLimits holds: the walk of the law. (Printed by tools/mkhl2.py.)
-/
import Derived.Test.YtkaimfeiahogaaaGreatDoorHt1
import Derived.Test.YtkaimfeiahogaaaGreatDoorHp4
import Derived.Test.YtkaimfeiahogaaaGreatDoorBw5
import Derived.Test.YtkaimfeiahogaaaGreatDoorBw11
namespace Go.Proofs.YtkaimfeiahogaaaGreatDoor
set_option linter.all false
open Go.RowKit Go.Shelf
attribute [local go_sem] cell_set_self lt_1 lt_2 lt_3 lt_4 lt_5 lt_6

def litG : List UInt8 := [71,69,84,32,47,32,72,84,84,80,47,49,46,49,13,10]
def tXx : List UInt8 := [120,58,32]
def inA (k : Nat) : List UInt8 := litG ++ (tXx ++ List.replicate k 118) ++ [13,10,13,10]
def tXy : List UInt8 := [120,58,32,121,13,10]
def manyB (k : Nat) : List UInt8 := litG ++ (List.replicate k tXy).flatten
def inB (k : Nat) : List UInt8 := manyB k ++ [13,10]
def litP : List UInt8 := [80, 79, 83, 84, 32, 47, 32, 72, 84, 84, 80, 47, 49, 46, 49, 13, 10, 99, 111, 110, 116, 101, 110, 116, 45, 108, 101, 110, 103, 116, 104, 58, 32]
def hdC (t : List UInt8) : List UInt8 := litP ++ t ++ [13,10,13,10]
set_option maxRecDepth 100000
theorem limA_1 : isDone (parseF (inA 996)) = true := by kernel_rfl
theorem limA_2 : isDone (parseF (inA 997)) = true := by kernel_rfl
theorem limA_3 : isBad 8 (parseF (inA 998)) = true := by kernel_rfl
theorem limB_1 : isDone (parseF (inB 19)) = true := by kernel_rfl
theorem limB_2 : isDone (parseF (inB 20)) = true := by kernel_rfl
theorem limB_3 : isBad 9 (parseF (inB 21)) = true := by kernel_rfl
theorem limC_1 : headF 23 st0 (hdC [51,50,55,54,55]) = some (⟨2, tPost, [47], false, 32767, true, false⟩, []) := by kernel_rfl
theorem limC_2 : headF 23 st0 (hdC [51,50,55,54,56]) = some (⟨2, tPost, [47], false, 32768, true, false⟩, []) := by kernel_rfl
theorem limC_3 : isBad 8 (parseF (hdC [51,50,55,54,57])) = true := by kernel_rfl
theorem txt_1 : txt 32767 = [51,50,55,54,55] := by kernel_rfl
theorem txt_2 : txt 32768 = [51,50,55,54,56] := by kernel_rfl
theorem txt_3 : txt 32769 = [51,50,55,54,57] := by kernel_rfl
/-- What Parse answers, as far as it is asked: told or not; the error. -/
def PT (b : Bool) (e : Int) (x : Ending) : Prop := ∃ m p A n c cl N, x = .returned (.tuple #[.agg #[.string m, .string p, .slice A n c, .bool cl], .int .i64 N, .bool b, .int .i64 e])
section
variable (A : Option Addr) (n c : Nat) (l : List UInt8) (hl : l.length = n) (hn : n ≤ 1000000000) (w : World) (E : Env w) (T : Bs w A c l)
include hl hn E T
theorem pt_done {s : St} {r : List UInt8} (hp : parseF l = .done s r) : Calls Tryz.prog 11 #[.slice A n c] w fun e w' => PT true 0 e ∧ Below w.heap.size w w' := by
  refine (pcall_done A n c l hl hn w E T hp _ rfl).mono ?_
  rintro e w' ⟨⟨A', c', rfl, _⟩, hB⟩
  exact ⟨⟨_, _, _, _, _, _, _, rfl⟩, hB⟩
theorem pt_bad {x : Int} (hp : parseF l = .bad x) : Calls Tryz.prog 11 #[.slice A n c] w fun e w' => PT false x e ∧ Below w.heap.size w w' := by
  refine (pcall_bad A n c l hl hn w E T hp).mono ?_
  rintro e w' ⟨rfl, hB⟩
  exact ⟨⟨_, _, _, _, _, _, _, rfl⟩, hB⟩
end
theorem more_bad {l t : List UInt8} {e : Int} (h : parseF l = .bad e) : parseF (l ++ t) = .bad e := (scan_more t 23 st0 l).1 e h
theorem flat_succ (k : Nat) : manyB k ++ tXy = manyB (k + 1) := by
  unfold manyB
  rw [List.replicate_succ', List.flatten_append, List.append_assoc]
  simp
theorem rep_succ (k : Nat) : (tXx ++ List.replicate k (118 : UInt8)) ++ [118] = tXx ++ List.replicate (k + 1) 118 := by
  rw [List.replicate_succ', List.append_assoc]
theorem parse_zeros {h : List UInt8} {s : St} (K : Nat) (hh : headF 23 st0 h = some (s, [])) (hs : s.len ≤ K) : parseF (h ++ List.replicate K 0) = .done s (List.replicate K 0) := by
  have h1 := parse_head (t := List.replicate K 0) hh (by rw [List.nil_append, List.length_replicate]; exact hs)
  rwa [List.nil_append] at h1
theorem hdC_len (t : List UInt8) : (hdC t).length = 37 + t.length := by
  unfold hdC
  rw [List.length_append, List.length_append]
  simp [litP]
  omega
theorem inA_len (k : Nat) : (inA k).length = 23 + k := by
  unfold inA
  simp [litG, tXx]
  omega
theorem many_len (k : Nat) : (manyB k).length = 16 + 6 * k := by
  unfold manyB
  rw [List.length_append, List.length_flatten, List.map_replicate]
  simp [litG, tXy]
  omega
theorem inB_len (k : Nat) : (inB k).length = 18 + 6 * k := by
  unfold inB
  rw [List.length_append, many_len]
  simp
  omega
theorem pa_1 (g c n : Nat) (W : World) (E : Env W) (T : Bs W (some ⟨g, 0, none⟩) c (inA 996)) (hn : n = 1019) : Calls Tryz.prog 11 #[.slice (some ⟨g, 0, none⟩) n c] W fun e w' => PT true 0 e ∧ Below W.heap.size W w' := by
  have hl : (inA 996).length = n := by rw [hn, inA_len]
  obtain ⟨s, r, h⟩ := isDone_ex limA_1
  exact pt_done _ n c _ hl (by omega) W E T h
theorem pb_1 (g c n : Nat) (W : World) (E : Env W) (T : Bs W (some ⟨g, 0, none⟩) c (inB 19)) (hn : n = 132) : Calls Tryz.prog 11 #[.slice (some ⟨g, 0, none⟩) n c] W fun e w' => PT true 0 e ∧ Below W.heap.size W w' := by
  have hl : (inB 19).length = n := by rw [hn, inB_len]
  obtain ⟨s, r, h⟩ := isDone_ex limB_1
  exact pt_done _ n c _ hl (by omega) W E T h
theorem pc_1 (g c n : Nat) (W : World) (E : Env W) (T : Bs W (some ⟨g, 0, none⟩) c (hdC [51,50,55,54,55] ++ List.replicate 32767 0)) (hn : n = 32809) : Calls Tryz.prog 11 #[.slice (some ⟨g, 0, none⟩) n c] W fun e w' => PT true 0 e ∧ Below W.heap.size W w' := by
  have hl : (hdC [51,50,55,54,55] ++ List.replicate 32767 0).length = n := by rw [hn, List.length_append, List.length_replicate, hdC_len]; rfl
  exact pt_done _ n c _ hl (by omega) W E T (parse_zeros 32767 limC_1 (Nat.le_refl _))
theorem pa_2 (g c n : Nat) (W : World) (E : Env W) (T : Bs W (some ⟨g, 0, none⟩) c (inA 997)) (hn : n = 1020) : Calls Tryz.prog 11 #[.slice (some ⟨g, 0, none⟩) n c] W fun e w' => PT true 0 e ∧ Below W.heap.size W w' := by
  have hl : (inA 997).length = n := by rw [hn, inA_len]
  obtain ⟨s, r, h⟩ := isDone_ex limA_2
  exact pt_done _ n c _ hl (by omega) W E T h
theorem pb_2 (g c n : Nat) (W : World) (E : Env W) (T : Bs W (some ⟨g, 0, none⟩) c (inB 20)) (hn : n = 138) : Calls Tryz.prog 11 #[.slice (some ⟨g, 0, none⟩) n c] W fun e w' => PT true 0 e ∧ Below W.heap.size W w' := by
  have hl : (inB 20).length = n := by rw [hn, inB_len]
  obtain ⟨s, r, h⟩ := isDone_ex limB_2
  exact pt_done _ n c _ hl (by omega) W E T h
theorem pc_2 (g c n : Nat) (W : World) (E : Env W) (T : Bs W (some ⟨g, 0, none⟩) c (hdC [51,50,55,54,56] ++ List.replicate 32768 0)) (hn : n = 32810) : Calls Tryz.prog 11 #[.slice (some ⟨g, 0, none⟩) n c] W fun e w' => PT true 0 e ∧ Below W.heap.size W w' := by
  have hl : (hdC [51,50,55,54,56] ++ List.replicate 32768 0).length = n := by rw [hn, List.length_append, List.length_replicate, hdC_len]; rfl
  exact pt_done _ n c _ hl (by omega) W E T (parse_zeros 32768 limC_2 (Nat.le_refl _))
theorem pa_3 (g c n : Nat) (W : World) (E : Env W) (T : Bs W (some ⟨g, 0, none⟩) c (inA 998)) (hn : n = 1021) : Calls Tryz.prog 11 #[.slice (some ⟨g, 0, none⟩) n c] W fun e w' => PT false 8 e ∧ Below W.heap.size W w' := by
  have hl : (inA 998).length = n := by rw [hn, inA_len]
  exact pt_bad _ n c _ hl (by omega) W E T (isBad_eq limA_3)
theorem pb_3 (g c n : Nat) (W : World) (E : Env W) (T : Bs W (some ⟨g, 0, none⟩) c (inB 21)) (hn : n = 144) : Calls Tryz.prog 11 #[.slice (some ⟨g, 0, none⟩) n c] W fun e w' => PT false 9 e ∧ Below W.heap.size W w' := by
  have hl : (inB 21).length = n := by rw [hn, inB_len]
  exact pt_bad _ n c _ hl (by omega) W E T (isBad_eq limB_3)
theorem pc_3 (g c n : Nat) (W : World) (E : Env W) (T : Bs W (some ⟨g, 0, none⟩) c (hdC [51,50,55,54,57] ++ List.replicate 32769 0)) (hn : n = 32811) : Calls Tryz.prog 11 #[.slice (some ⟨g, 0, none⟩) n c] W fun e w' => PT false 8 e ∧ Below W.heap.size W w' := by
  have hl : (hdC [51,50,55,54,57] ++ List.replicate 32769 0).length = n := by rw [hn, List.length_append, List.length_replicate, hdC_len]; rfl
  exact pt_bad _ n c _ hl (by omega) W E T (more_bad (isBad_eq limC_3))
set_option maxHeartbeats 16000000 in
theorem limits_1 (n : Int) (hd : wrap64 ((wrap64 (n.tmod 3 + 3)).tmod 3 - 1) = -1) (w : World) (E : Env w) :
    Calls Tryz.prog 4 #[.int .i64 n] w fun e w' => e = .returned (.bool true) ∧ Below w.heap.size w w' := by
  have FO := Lib.hid (fun W (hb : Below w.heap.size w W) => first_ok W (E.below hb))
  have PA := Lib.hid (fun W (hb : Below w.heap.size w W) (g c n : Nat) (T : Bs W (some ⟨g, 0, none⟩) c (inA 996)) (hn : n = 1019) => pa_1 g c n W (E.below hb) T hn)
  have PB := Lib.hid (fun W (hb : Below w.heap.size w W) (g c n : Nat) (T : Bs W (some ⟨g, 0, none⟩) c (inB 19)) (hn : n = 132) => pb_1 g c n W (E.below hb) T hn)
  have PC := Lib.hid (fun W (hb : Below w.heap.size w W) (g c n : Nat) (T : Bs W (some ⟨g, 0, none⟩) c (hdC [51,50,55,54,55] ++ List.replicate 32767 0)) (hn : n = 32809) => pc_1 g c n W (E.below hb) T hn)
  clear E
  go_enter Tryz.func4, Tryz.ntmps4
  go_upto_region 3 with (first | (go_at_call 10; refine (FO.out _ (by repeat (first | exact Below.refl _ _ | refine Below.setCell ?_ (by first | (simp; done) | (simp; omega) | omega) _ | refine Below.alloc ?_ (by first | (simp; done) | (simp; omega) | omega) _ | refine Below.drew ?_ | assumption | refine Below.trans ?_ (Below.mono (by assumption) (by first | (simp; done) | (simp; omega) | omega))))).mono ?_; rintro e w4 ⟨rfl, hb4⟩; obtain ⟨hc4, hf4⟩ := bcell hb4; have hs4 := hb4.size; (try simp at hs4)))
  rw [hd]
  clear hd
  have hsz : ∀ (l : List UInt8), (⟨l.toArray⟩ : ByteArray).size = l.length := ba_sz
  refine name_world ?_
  intro W0 hW0
  have b0 : Below w.heap.size w W0 := by rw [hW0]; exact (by repeat (first | exact Below.refl _ _ | refine Below.setCell ?_ (by first | (simp; done) | (simp; omega) | omega) _ | refine Below.alloc ?_ (by first | (simp; done) | (simp; omega) | omega) _ | refine Below.drew ?_ | assumption | refine Below.trans ?_ (Below.mono (by assumption) (by first | (simp; done) | (simp; omega) | omega))))
  have z0 := b0.size
  clear hW0 hb4 hc4 hf4 hs4
  go_wp2
  go_loop [4, 5] (fun s i => ∃ (k : Nat) (S : ByteArray), k ≤ 996 ∧ i = .int .i64 k ∧ s = .string S ∧ Hid (S = ⟨(tXx ++ List.replicate k 118).toArray⟩)) (fun _ i => 996 - (intOf i).toNat)
  case atStart => exact ⟨0, _, by omega, rfl, rfl, Lib.hid rfl⟩
  case round =>
    obtain ⟨k, S, hk, rfl, rfl, HS⟩ := hrel
    by_cases hlt : k < 996
    · have hlt' : (k : Int) < 996 := by omega
      have hadd : ∀ W : World, (Op.stringOp .add S ⟨#[118]⟩).run Tryz.prog W = .ok (.string ⟨(tXx ++ List.replicate (k + 1) 118).toArray⟩) W := fun W => by
        rw [HS.out, run_string_add_sum W _ _ (by simp only [hsz, List.length_append, List.length_replicate, List.length_cons, List.length_nil, many_len, tXx, litG, litP]; omega), show (⟨#[118]⟩ : ByteArray) = ⟨([118] : List UInt8).toArray⟩ from rfl, app_str, rep_succ]
      obtain ⟨S2, hS2⟩ : ∃ S2 : ByteArray, (⟨(tXx ++ List.replicate (k + 1) 118).toArray⟩ : ByteArray) = S2 := ⟨_, rfl⟩
      rw [hS2] at hadd
      have HS2 := Lib.hid hS2.symm
      clear hS2
      go_wp2
      go_round
      case rel => exact ⟨k + 1, _, by omega, by go_num, rfl, HS2⟩
      case measure => first | (simp [intOf]; done) | (simp [intOf]; omega)
    · obtain rfl : k = 996 := by omega
      clear hlt hk
      have h1 : ∀ W : World, (Op.stringOp .add ⟨#[71,69,84,32,47,32,72,84,84,80,47,49,46,49,13,10]⟩ S).run Tryz.prog W = .ok (.string ⟨(litG ++ (tXx ++ List.replicate 996 118)).toArray⟩) W := fun W => by
        rw [HS.out, run_string_add_sum W _ _ (by simp only [hsz, List.length_append, List.length_replicate, List.length_cons, List.length_nil, many_len, tXx, litG, litP]; omega), show (⟨#[71,69,84,32,47,32,72,84,84,80,47,49,46,49,13,10]⟩ : ByteArray) = ⟨litG.toArray⟩ from rfl, app_str]
      have h2 : ∀ W : World, (Op.stringOp .add ⟨(litG ++ (tXx ++ List.replicate 996 118)).toArray⟩ ⟨#[13,10,13,10]⟩).run Tryz.prog W = .ok (.string ⟨(inA 996).toArray⟩) W := fun W => by
        rw [run_string_add_sum W _ _ (by simp only [hsz, List.length_append, List.length_replicate, List.length_cons, List.length_nil, many_len, tXx, litG, litP]; omega), show (⟨#[13,10,13,10]⟩ : ByteArray) = ⟨([13,10,13,10] : List UInt8).toArray⟩ from rfl, app_str]
        rfl
      have h3 := run_conv (inA 996)
      simp only [inA_len, Nat.reduceAdd] at h3
      generalize (⟨(litG ++ (tXx ++ List.replicate 996 118)).toArray⟩ : ByteArray) = S2 at *
      obtain ⟨S3, hS3⟩ : ∃ S3 : ByteArray, (⟨(inA 996).toArray⟩ : ByteArray) = S3 := ⟨_, rfl⟩
      have HV3 := Lib.hid (fun (W : World) (g : Nat) (hg : W.heap.size = g) => cv_new (inA 996) (by rw [inA_len]; omega) W g hg _ rfl)
      simp only [inA_len, Nat.reduceAdd] at HV3
      rw [hS3] at h2 h3 HV3
      clear hS3 HS
      go_upto_region 9 with (first | (go_at_call 11; refine (PA.out _ (by repeat (first | exact Below.refl _ _ | refine Below.setCell ?_ (by first | (simp; done) | (simp; omega) | omega) _ | refine Below.alloc ?_ (by first | (simp; done) | (simp; omega) | omega) _ | refine Below.drew ?_ | assumption | refine Below.trans ?_ (Below.mono (by assumption) (by first | (simp; done) | (simp; omega) | omega)))) _ _ _ ((HV3.out _ _ (by simp)).bs) rfl).mono ?_; rintro e w5 ⟨⟨M5, P5, A5, n5, c5, l5, N5, rfl⟩, hb5⟩; obtain ⟨hc5, hf5⟩ := bcell hb5; have hs5 := hb5.size; (try simp at hs5)))
      refine name_world ?_
      intro Wa hWa
      have ba : Below w.heap.size w Wa := by rw [hWa]; exact (by repeat (first | exact Below.refl _ _ | refine Below.setCell ?_ (by first | (simp; done) | (simp; omega) | omega) _ | refine Below.alloc ?_ (by first | (simp; done) | (simp; omega) | omega) _ | refine Below.drew ?_ | assumption | refine Below.trans ?_ (Below.mono (by assumption) (by first | (simp; done) | (simp; omega) | omega))))
      have za := ba.size
      clear hWa h1 h2 h3 HV3 hb5 hc5 hf5 hs5 b0
      go_wp2
      go_loop [10, 11] (fun s i => ∃ (k : Nat) (S : ByteArray), k ≤ 19 ∧ i = .int .i64 k ∧ s = .string S ∧ Hid (S = ⟨(manyB k).toArray⟩)) (fun _ i => 19 - (intOf i).toNat)
      case atStart => exact ⟨0, _, by omega, rfl, rfl, Lib.hid rfl⟩
      case round =>
        obtain ⟨k, S, hk, rfl, rfl, HS⟩ := hrel
        by_cases hlt : k < 19
        · have hlt' : (k : Int) < 19 := by omega
          have hadd : ∀ W : World, (Op.stringOp .add S ⟨#[120,58,32,121,13,10]⟩).run Tryz.prog W = .ok (.string ⟨(manyB (k + 1)).toArray⟩) W := fun W => by
            rw [HS.out, run_string_add_sum W _ _ (by simp only [hsz, List.length_append, List.length_replicate, List.length_cons, List.length_nil, many_len, tXx, litG, litP]; omega), show (⟨#[120,58,32,121,13,10]⟩ : ByteArray) = ⟨tXy.toArray⟩ from rfl, app_str, flat_succ]
          obtain ⟨S2, hS2⟩ : ∃ S2 : ByteArray, (⟨(manyB (k + 1)).toArray⟩ : ByteArray) = S2 := ⟨_, rfl⟩
          rw [hS2] at hadd
          have HS2 := Lib.hid hS2.symm
          clear hS2
          go_wp2
          go_round
          case rel => exact ⟨k + 1, _, by omega, by go_num, rfl, HS2⟩
          case measure => first | (simp [intOf]; done) | (simp [intOf]; omega)
        · obtain rfl : k = 19 := by omega
          clear hlt hk
          have h2 : ∀ W : World, (Op.stringOp .add S ⟨#[13,10]⟩).run Tryz.prog W = .ok (.string ⟨(inB 19).toArray⟩) W := fun W => by
            rw [HS.out, run_string_add_sum W _ _ (by simp only [hsz, List.length_append, List.length_replicate, List.length_cons, List.length_nil, many_len, tXx, litG, litP]; omega), show (⟨#[13,10]⟩ : ByteArray) = ⟨([13,10] : List UInt8).toArray⟩ from rfl, app_str]
            rfl
          have h3 := run_conv (inB 19)
          simp only [inB_len, Nat.reduceAdd, Nat.reduceMul] at h3
          obtain ⟨S3, hS3⟩ : ∃ S3 : ByteArray, (⟨(inB 19).toArray⟩ : ByteArray) = S3 := ⟨_, rfl⟩
          have HV3 := Lib.hid (fun (W : World) (g : Nat) (hg : W.heap.size = g) => cv_new (inB 19) (by rw [inB_len]; omega) W g hg _ rfl)
          simp only [inB_len, Nat.reduceAdd, Nat.reduceMul] at HV3
          rw [hS3] at h2 h3 HV3
          clear hS3 HS
          go_upto_region 15 with (first | (go_at_call 11; refine (PB.out _ (by repeat (first | exact Below.refl _ _ | refine Below.setCell ?_ (by first | (simp; done) | (simp; omega) | omega) _ | refine Below.alloc ?_ (by first | (simp; done) | (simp; omega) | omega) _ | refine Below.drew ?_ | assumption | refine Below.trans ?_ (Below.mono (by assumption) (by first | (simp; done) | (simp; omega) | omega)))) _ _ _ ((HV3.out _ _ (by simp)).bs) rfl).mono ?_; rintro e w6 ⟨⟨M6, P6, A6, n6, c6, l6, N6, rfl⟩, hb6⟩; obtain ⟨hc6, hf6⟩ := bcell hb6; have hs6 := hb6.size; (try simp at hs6)))
          refine name_world ?_
          intro Wb hWb
          have bb : Below w.heap.size w Wb := by rw [hWb]; exact (by repeat (first | exact Below.refl _ _ | refine Below.setCell ?_ (by first | (simp; done) | (simp; omega) | omega) _ | refine Below.alloc ?_ (by first | (simp; done) | (simp; omega) | omega) _ | refine Below.drew ?_ | assumption | refine Below.trans ?_ (Below.mono (by assumption) (by first | (simp; done) | (simp; omega) | omega))))
          have zb := bb.size
          clear hWb h2 h3 HV3 hb6 hc6 hf6 hs6 ba
          have h1 : ∀ W : World, (Op.stringOp .add ⟨#[80, 79, 83, 84, 32, 47, 32, 72, 84, 84, 80, 47, 49, 46, 49, 13, 10, 99, 111, 110, 116, 101, 110, 116, 45, 108, 101, 110, 103, 116, 104, 58, 32]⟩ ⟨(txt 32767).toArray⟩).run Tryz.prog W = .ok (.string ⟨(litP ++ [51,50,55,54,55]).toArray⟩) W := fun W => by
            rw [txt_1, run_string_add_sum W _ _ (by simp only [hsz, List.length_append, List.length_replicate, List.length_cons, List.length_nil, many_len, tXx, litG, litP]; omega), show (⟨#[80, 79, 83, 84, 32, 47, 32, 72, 84, 84, 80, 47, 49, 46, 49, 13, 10, 99, 111, 110, 116, 101, 110, 116, 45, 108, 101, 110, 103, 116, 104, 58, 32]⟩ : ByteArray) = ⟨litP.toArray⟩ from rfl, app_str]
          have h2 : ∀ W : World, (Op.stringOp .add ⟨(litP ++ [51,50,55,54,55]).toArray⟩ ⟨#[13,10,13,10]⟩).run Tryz.prog W = .ok (.string ⟨(hdC [51,50,55,54,55]).toArray⟩) W := fun W => by
            rw [run_string_add_sum W _ _ (by simp only [hsz, List.length_append, List.length_replicate, List.length_cons, List.length_nil, many_len, tXx, litG, litP]; omega), show (⟨#[13,10,13,10]⟩ : ByteArray) = ⟨([13,10,13,10] : List UInt8).toArray⟩ from rfl, app_str]
            rfl
          have h3 := run_conv (hdC [51,50,55,54,55])
          have hl42 : (hdC [51,50,55,54,55]).length = 42 := by rw [hdC_len]; rfl
          simp only [hl42] at h3
          obtain ⟨S1, hS1⟩ : ∃ S1 : ByteArray, (⟨(txt 32767).toArray⟩ : ByteArray) = S1 := ⟨_, rfl⟩
          obtain ⟨S2, hS2⟩ : ∃ S2 : ByteArray, (⟨(litP ++ [51,50,55,54,55]).toArray⟩ : ByteArray) = S2 := ⟨_, rfl⟩
          obtain ⟨S3, hS3⟩ : ∃ S3 : ByteArray, (⟨(hdC [51,50,55,54,55]).toArray⟩ : ByteArray) = S3 := ⟨_, rfl⟩
          have HV3 := Lib.hid (fun (W : World) (g : Nat) (hg : W.heap.size = g) => cv_new (hdC [51,50,55,54,55]) (by rw [hl42]; omega) W g hg _ rfl)
          simp only [hl42] at HV3
          rw [hS1] at h1
          rw [hS2] at h1 h2
          rw [hS3] at h2 h3 HV3
          have HL42 := Lib.hid hl42
          have HBO := Lib.hid (fun W => bigOf_any 32767 (by unfold In64; omega) W)
          have HBT := Lib.hid (fun W s A n c (P : Pt 0 W s A n c 32767) => bigText_any s A n c 32767 (by rw [P.2.1]; exact of_decide_eq_true (by kernel_rfl)) W P)
          rw [hS1] at HBT
          clear hS1 hS2 hS3 hl42
          go_wp2_with (first | (go_at_call 16; (with_reducible refine (HBO.out _).mono ?_); rintro e w7 ⟨⟨s7, A7, n7, c7, rfl, hP7⟩, hb7⟩; obtain ⟨hc7, hf7⟩ := bcell hb7; have hs7 := hb7.size; (try simp at hs7); have HP7 := Lib.hid hP7; clear hP7) | (go_at_call 15; (with_reducible refine (HBT.out _ _ _ _ _ ((HP7.out.mono (Nat.zero_le _)).below (by repeat (first | exact Below.refl _ _ | refine Below.setCell ?_ (by first | (simp; done) | (simp; omega) | omega) _ | refine Below.alloc ?_ (by first | (simp; done) | (simp; omega) | omega) _ | refine Below.drew ?_ | assumption | refine Below.trans ?_ (Below.mono (by assumption) (by first | (simp; done) | (simp; omega) | omega)))))).mono ?_); rintro e w8 ⟨rfl, hb8⟩; obtain ⟨hc8, hf8⟩ := bcell hb8; have hs8 := hb8.size; (try simp at hs8)) | (at_builtin; refine wpList_append_z _ rfl (.tmp 70) (.tmp 72) rfl _ _ 32767 42 (hdC [51,50,55,54,55]) HL42.out rfl rfl (HV3.out _ _ (by simp)) (by omega) (by omega) ?_; intro g9 c9 w10 hBZ hg9; have HBZ := Lib.hid hBZ; clear hBZ; have hbz : Below w.heap.size w w10 := (Below.grown (show Below w.heap.size w _ from (by repeat (first | exact Below.refl _ _ | refine Below.setCell ?_ (by first | (simp; done) | (simp; omega) | omega) _ | refine Below.alloc ?_ (by first | (simp; done) | (simp; omega) | omega) _ | refine Below.drew ?_ | assumption | refine Below.trans ?_ (Below.mono (by assumption) (by first | (simp; done) | (simp; omega) | omega))))) hg9 (by first | (simp; done) | (simp; omega) | omega) (fun k e => by cases e; first | (simp; done) | (simp; omega) | omega)); have hsz10 := hbz.size; clear hg9) | (go_at_call 11; refine (PC.out _ (by repeat (first | exact Below.refl _ _ | refine Below.setCell ?_ (by first | (simp; done) | (simp; omega) | omega) _ | refine Below.alloc ?_ (by first | (simp; done) | (simp; omega) | omega) _ | refine Below.drew ?_ | assumption | refine Below.trans ?_ (Below.mono (by assumption) (by first | (simp; done) | (simp; omega) | omega)))) _ _ _ (HBZ.out) rfl).mono ?_; rintro e w9 ⟨⟨M9, P9, A9, n9, c9, l9, N9, rfl⟩, hb9⟩; obtain ⟨hc9, hf9⟩ := bcell hb9; have hs9 := hb9.size; (try simp at hs9)) | (go_at_call 12; (with_reducible refine (num_same _ _).mono ?_); rintro e w11 ⟨rfl, rfl⟩))
          go_ret
          exact ⟨rfl, (by repeat (first | exact Below.refl _ _ | refine Below.setCell ?_ (by first | (simp; done) | (simp; omega) | omega) _ | refine Below.alloc ?_ (by first | (simp; done) | (simp; omega) | omega) _ | refine Below.drew ?_ | assumption | refine Below.trans ?_ (Below.mono (by assumption) (by first | (simp; done) | (simp; omega) | omega))))⟩


set_option maxHeartbeats 16000000 in
theorem limits_2 (n : Int) (hd : wrap64 ((wrap64 (n.tmod 3 + 3)).tmod 3 - 1) = 0) (w : World) (E : Env w) :
    Calls Tryz.prog 4 #[.int .i64 n] w fun e w' => e = .returned (.bool true) ∧ Below w.heap.size w w' := by
  have FO := Lib.hid (fun W (hb : Below w.heap.size w W) => first_ok W (E.below hb))
  have PA := Lib.hid (fun W (hb : Below w.heap.size w W) (g c n : Nat) (T : Bs W (some ⟨g, 0, none⟩) c (inA 997)) (hn : n = 1020) => pa_2 g c n W (E.below hb) T hn)
  have PB := Lib.hid (fun W (hb : Below w.heap.size w W) (g c n : Nat) (T : Bs W (some ⟨g, 0, none⟩) c (inB 20)) (hn : n = 138) => pb_2 g c n W (E.below hb) T hn)
  have PC := Lib.hid (fun W (hb : Below w.heap.size w W) (g c n : Nat) (T : Bs W (some ⟨g, 0, none⟩) c (hdC [51,50,55,54,56] ++ List.replicate 32768 0)) (hn : n = 32810) => pc_2 g c n W (E.below hb) T hn)
  clear E
  go_enter Tryz.func4, Tryz.ntmps4
  go_upto_region 3 with (first | (go_at_call 10; refine (FO.out _ (by repeat (first | exact Below.refl _ _ | refine Below.setCell ?_ (by first | (simp; done) | (simp; omega) | omega) _ | refine Below.alloc ?_ (by first | (simp; done) | (simp; omega) | omega) _ | refine Below.drew ?_ | assumption | refine Below.trans ?_ (Below.mono (by assumption) (by first | (simp; done) | (simp; omega) | omega))))).mono ?_; rintro e w4 ⟨rfl, hb4⟩; obtain ⟨hc4, hf4⟩ := bcell hb4; have hs4 := hb4.size; (try simp at hs4)))
  rw [hd]
  clear hd
  have hsz : ∀ (l : List UInt8), (⟨l.toArray⟩ : ByteArray).size = l.length := ba_sz
  refine name_world ?_
  intro W0 hW0
  have b0 : Below w.heap.size w W0 := by rw [hW0]; exact (by repeat (first | exact Below.refl _ _ | refine Below.setCell ?_ (by first | (simp; done) | (simp; omega) | omega) _ | refine Below.alloc ?_ (by first | (simp; done) | (simp; omega) | omega) _ | refine Below.drew ?_ | assumption | refine Below.trans ?_ (Below.mono (by assumption) (by first | (simp; done) | (simp; omega) | omega))))
  have z0 := b0.size
  clear hW0 hb4 hc4 hf4 hs4
  go_wp2
  go_loop [4, 5] (fun s i => ∃ (k : Nat) (S : ByteArray), k ≤ 997 ∧ i = .int .i64 k ∧ s = .string S ∧ Hid (S = ⟨(tXx ++ List.replicate k 118).toArray⟩)) (fun _ i => 997 - (intOf i).toNat)
  case atStart => exact ⟨0, _, by omega, rfl, rfl, Lib.hid rfl⟩
  case round =>
    obtain ⟨k, S, hk, rfl, rfl, HS⟩ := hrel
    by_cases hlt : k < 997
    · have hlt' : (k : Int) < 997 := by omega
      have hadd : ∀ W : World, (Op.stringOp .add S ⟨#[118]⟩).run Tryz.prog W = .ok (.string ⟨(tXx ++ List.replicate (k + 1) 118).toArray⟩) W := fun W => by
        rw [HS.out, run_string_add_sum W _ _ (by simp only [hsz, List.length_append, List.length_replicate, List.length_cons, List.length_nil, many_len, tXx, litG, litP]; omega), show (⟨#[118]⟩ : ByteArray) = ⟨([118] : List UInt8).toArray⟩ from rfl, app_str, rep_succ]
      obtain ⟨S2, hS2⟩ : ∃ S2 : ByteArray, (⟨(tXx ++ List.replicate (k + 1) 118).toArray⟩ : ByteArray) = S2 := ⟨_, rfl⟩
      rw [hS2] at hadd
      have HS2 := Lib.hid hS2.symm
      clear hS2
      go_wp2
      go_round
      case rel => exact ⟨k + 1, _, by omega, by go_num, rfl, HS2⟩
      case measure => first | (simp [intOf]; done) | (simp [intOf]; omega)
    · obtain rfl : k = 997 := by omega
      clear hlt hk
      have h1 : ∀ W : World, (Op.stringOp .add ⟨#[71,69,84,32,47,32,72,84,84,80,47,49,46,49,13,10]⟩ S).run Tryz.prog W = .ok (.string ⟨(litG ++ (tXx ++ List.replicate 997 118)).toArray⟩) W := fun W => by
        rw [HS.out, run_string_add_sum W _ _ (by simp only [hsz, List.length_append, List.length_replicate, List.length_cons, List.length_nil, many_len, tXx, litG, litP]; omega), show (⟨#[71,69,84,32,47,32,72,84,84,80,47,49,46,49,13,10]⟩ : ByteArray) = ⟨litG.toArray⟩ from rfl, app_str]
      have h2 : ∀ W : World, (Op.stringOp .add ⟨(litG ++ (tXx ++ List.replicate 997 118)).toArray⟩ ⟨#[13,10,13,10]⟩).run Tryz.prog W = .ok (.string ⟨(inA 997).toArray⟩) W := fun W => by
        rw [run_string_add_sum W _ _ (by simp only [hsz, List.length_append, List.length_replicate, List.length_cons, List.length_nil, many_len, tXx, litG, litP]; omega), show (⟨#[13,10,13,10]⟩ : ByteArray) = ⟨([13,10,13,10] : List UInt8).toArray⟩ from rfl, app_str]
        rfl
      have h3 := run_conv (inA 997)
      simp only [inA_len, Nat.reduceAdd] at h3
      generalize (⟨(litG ++ (tXx ++ List.replicate 997 118)).toArray⟩ : ByteArray) = S2 at *
      obtain ⟨S3, hS3⟩ : ∃ S3 : ByteArray, (⟨(inA 997).toArray⟩ : ByteArray) = S3 := ⟨_, rfl⟩
      have HV3 := Lib.hid (fun (W : World) (g : Nat) (hg : W.heap.size = g) => cv_new (inA 997) (by rw [inA_len]; omega) W g hg _ rfl)
      simp only [inA_len, Nat.reduceAdd] at HV3
      rw [hS3] at h2 h3 HV3
      clear hS3 HS
      go_upto_region 9 with (first | (go_at_call 11; refine (PA.out _ (by repeat (first | exact Below.refl _ _ | refine Below.setCell ?_ (by first | (simp; done) | (simp; omega) | omega) _ | refine Below.alloc ?_ (by first | (simp; done) | (simp; omega) | omega) _ | refine Below.drew ?_ | assumption | refine Below.trans ?_ (Below.mono (by assumption) (by first | (simp; done) | (simp; omega) | omega)))) _ _ _ ((HV3.out _ _ (by simp)).bs) rfl).mono ?_; rintro e w5 ⟨⟨M5, P5, A5, n5, c5, l5, N5, rfl⟩, hb5⟩; obtain ⟨hc5, hf5⟩ := bcell hb5; have hs5 := hb5.size; (try simp at hs5)))
      refine name_world ?_
      intro Wa hWa
      have ba : Below w.heap.size w Wa := by rw [hWa]; exact (by repeat (first | exact Below.refl _ _ | refine Below.setCell ?_ (by first | (simp; done) | (simp; omega) | omega) _ | refine Below.alloc ?_ (by first | (simp; done) | (simp; omega) | omega) _ | refine Below.drew ?_ | assumption | refine Below.trans ?_ (Below.mono (by assumption) (by first | (simp; done) | (simp; omega) | omega))))
      have za := ba.size
      clear hWa h1 h2 h3 HV3 hb5 hc5 hf5 hs5 b0
      go_wp2
      go_loop [10, 11] (fun s i => ∃ (k : Nat) (S : ByteArray), k ≤ 20 ∧ i = .int .i64 k ∧ s = .string S ∧ Hid (S = ⟨(manyB k).toArray⟩)) (fun _ i => 20 - (intOf i).toNat)
      case atStart => exact ⟨0, _, by omega, rfl, rfl, Lib.hid rfl⟩
      case round =>
        obtain ⟨k, S, hk, rfl, rfl, HS⟩ := hrel
        by_cases hlt : k < 20
        · have hlt' : (k : Int) < 20 := by omega
          have hadd : ∀ W : World, (Op.stringOp .add S ⟨#[120,58,32,121,13,10]⟩).run Tryz.prog W = .ok (.string ⟨(manyB (k + 1)).toArray⟩) W := fun W => by
            rw [HS.out, run_string_add_sum W _ _ (by simp only [hsz, List.length_append, List.length_replicate, List.length_cons, List.length_nil, many_len, tXx, litG, litP]; omega), show (⟨#[120,58,32,121,13,10]⟩ : ByteArray) = ⟨tXy.toArray⟩ from rfl, app_str, flat_succ]
          obtain ⟨S2, hS2⟩ : ∃ S2 : ByteArray, (⟨(manyB (k + 1)).toArray⟩ : ByteArray) = S2 := ⟨_, rfl⟩
          rw [hS2] at hadd
          have HS2 := Lib.hid hS2.symm
          clear hS2
          go_wp2
          go_round
          case rel => exact ⟨k + 1, _, by omega, by go_num, rfl, HS2⟩
          case measure => first | (simp [intOf]; done) | (simp [intOf]; omega)
        · obtain rfl : k = 20 := by omega
          clear hlt hk
          have h2 : ∀ W : World, (Op.stringOp .add S ⟨#[13,10]⟩).run Tryz.prog W = .ok (.string ⟨(inB 20).toArray⟩) W := fun W => by
            rw [HS.out, run_string_add_sum W _ _ (by simp only [hsz, List.length_append, List.length_replicate, List.length_cons, List.length_nil, many_len, tXx, litG, litP]; omega), show (⟨#[13,10]⟩ : ByteArray) = ⟨([13,10] : List UInt8).toArray⟩ from rfl, app_str]
            rfl
          have h3 := run_conv (inB 20)
          simp only [inB_len, Nat.reduceAdd, Nat.reduceMul] at h3
          obtain ⟨S3, hS3⟩ : ∃ S3 : ByteArray, (⟨(inB 20).toArray⟩ : ByteArray) = S3 := ⟨_, rfl⟩
          have HV3 := Lib.hid (fun (W : World) (g : Nat) (hg : W.heap.size = g) => cv_new (inB 20) (by rw [inB_len]; omega) W g hg _ rfl)
          simp only [inB_len, Nat.reduceAdd, Nat.reduceMul] at HV3
          rw [hS3] at h2 h3 HV3
          clear hS3 HS
          go_upto_region 15 with (first | (go_at_call 11; refine (PB.out _ (by repeat (first | exact Below.refl _ _ | refine Below.setCell ?_ (by first | (simp; done) | (simp; omega) | omega) _ | refine Below.alloc ?_ (by first | (simp; done) | (simp; omega) | omega) _ | refine Below.drew ?_ | assumption | refine Below.trans ?_ (Below.mono (by assumption) (by first | (simp; done) | (simp; omega) | omega)))) _ _ _ ((HV3.out _ _ (by simp)).bs) rfl).mono ?_; rintro e w6 ⟨⟨M6, P6, A6, n6, c6, l6, N6, rfl⟩, hb6⟩; obtain ⟨hc6, hf6⟩ := bcell hb6; have hs6 := hb6.size; (try simp at hs6)))
          refine name_world ?_
          intro Wb hWb
          have bb : Below w.heap.size w Wb := by rw [hWb]; exact (by repeat (first | exact Below.refl _ _ | refine Below.setCell ?_ (by first | (simp; done) | (simp; omega) | omega) _ | refine Below.alloc ?_ (by first | (simp; done) | (simp; omega) | omega) _ | refine Below.drew ?_ | assumption | refine Below.trans ?_ (Below.mono (by assumption) (by first | (simp; done) | (simp; omega) | omega))))
          have zb := bb.size
          clear hWb h2 h3 HV3 hb6 hc6 hf6 hs6 ba
          have h1 : ∀ W : World, (Op.stringOp .add ⟨#[80, 79, 83, 84, 32, 47, 32, 72, 84, 84, 80, 47, 49, 46, 49, 13, 10, 99, 111, 110, 116, 101, 110, 116, 45, 108, 101, 110, 103, 116, 104, 58, 32]⟩ ⟨(txt 32768).toArray⟩).run Tryz.prog W = .ok (.string ⟨(litP ++ [51,50,55,54,56]).toArray⟩) W := fun W => by
            rw [txt_2, run_string_add_sum W _ _ (by simp only [hsz, List.length_append, List.length_replicate, List.length_cons, List.length_nil, many_len, tXx, litG, litP]; omega), show (⟨#[80, 79, 83, 84, 32, 47, 32, 72, 84, 84, 80, 47, 49, 46, 49, 13, 10, 99, 111, 110, 116, 101, 110, 116, 45, 108, 101, 110, 103, 116, 104, 58, 32]⟩ : ByteArray) = ⟨litP.toArray⟩ from rfl, app_str]
          have h2 : ∀ W : World, (Op.stringOp .add ⟨(litP ++ [51,50,55,54,56]).toArray⟩ ⟨#[13,10,13,10]⟩).run Tryz.prog W = .ok (.string ⟨(hdC [51,50,55,54,56]).toArray⟩) W := fun W => by
            rw [run_string_add_sum W _ _ (by simp only [hsz, List.length_append, List.length_replicate, List.length_cons, List.length_nil, many_len, tXx, litG, litP]; omega), show (⟨#[13,10,13,10]⟩ : ByteArray) = ⟨([13,10,13,10] : List UInt8).toArray⟩ from rfl, app_str]
            rfl
          have h3 := run_conv (hdC [51,50,55,54,56])
          have hl42 : (hdC [51,50,55,54,56]).length = 42 := by rw [hdC_len]; rfl
          simp only [hl42] at h3
          obtain ⟨S1, hS1⟩ : ∃ S1 : ByteArray, (⟨(txt 32768).toArray⟩ : ByteArray) = S1 := ⟨_, rfl⟩
          obtain ⟨S2, hS2⟩ : ∃ S2 : ByteArray, (⟨(litP ++ [51,50,55,54,56]).toArray⟩ : ByteArray) = S2 := ⟨_, rfl⟩
          obtain ⟨S3, hS3⟩ : ∃ S3 : ByteArray, (⟨(hdC [51,50,55,54,56]).toArray⟩ : ByteArray) = S3 := ⟨_, rfl⟩
          have HV3 := Lib.hid (fun (W : World) (g : Nat) (hg : W.heap.size = g) => cv_new (hdC [51,50,55,54,56]) (by rw [hl42]; omega) W g hg _ rfl)
          simp only [hl42] at HV3
          rw [hS1] at h1
          rw [hS2] at h1 h2
          rw [hS3] at h2 h3 HV3
          have HL42 := Lib.hid hl42
          have HBO := Lib.hid (fun W => bigOf_any 32768 (by unfold In64; omega) W)
          have HBT := Lib.hid (fun W s A n c (P : Pt 0 W s A n c 32768) => bigText_any s A n c 32768 (by rw [P.2.1]; exact of_decide_eq_true (by kernel_rfl)) W P)
          rw [hS1] at HBT
          clear hS1 hS2 hS3 hl42
          go_wp2_with (first | (go_at_call 16; (with_reducible refine (HBO.out _).mono ?_); rintro e w7 ⟨⟨s7, A7, n7, c7, rfl, hP7⟩, hb7⟩; obtain ⟨hc7, hf7⟩ := bcell hb7; have hs7 := hb7.size; (try simp at hs7); have HP7 := Lib.hid hP7; clear hP7) | (go_at_call 15; (with_reducible refine (HBT.out _ _ _ _ _ ((HP7.out.mono (Nat.zero_le _)).below (by repeat (first | exact Below.refl _ _ | refine Below.setCell ?_ (by first | (simp; done) | (simp; omega) | omega) _ | refine Below.alloc ?_ (by first | (simp; done) | (simp; omega) | omega) _ | refine Below.drew ?_ | assumption | refine Below.trans ?_ (Below.mono (by assumption) (by first | (simp; done) | (simp; omega) | omega)))))).mono ?_); rintro e w8 ⟨rfl, hb8⟩; obtain ⟨hc8, hf8⟩ := bcell hb8; have hs8 := hb8.size; (try simp at hs8)) | (at_builtin; refine wpList_append_z _ rfl (.tmp 70) (.tmp 72) rfl _ _ 32768 42 (hdC [51,50,55,54,56]) HL42.out rfl rfl (HV3.out _ _ (by simp)) (by omega) (by omega) ?_; intro g9 c9 w10 hBZ hg9; have HBZ := Lib.hid hBZ; clear hBZ; have hbz : Below w.heap.size w w10 := (Below.grown (show Below w.heap.size w _ from (by repeat (first | exact Below.refl _ _ | refine Below.setCell ?_ (by first | (simp; done) | (simp; omega) | omega) _ | refine Below.alloc ?_ (by first | (simp; done) | (simp; omega) | omega) _ | refine Below.drew ?_ | assumption | refine Below.trans ?_ (Below.mono (by assumption) (by first | (simp; done) | (simp; omega) | omega))))) hg9 (by first | (simp; done) | (simp; omega) | omega) (fun k e => by cases e; first | (simp; done) | (simp; omega) | omega)); have hsz10 := hbz.size; clear hg9) | (go_at_call 11; refine (PC.out _ (by repeat (first | exact Below.refl _ _ | refine Below.setCell ?_ (by first | (simp; done) | (simp; omega) | omega) _ | refine Below.alloc ?_ (by first | (simp; done) | (simp; omega) | omega) _ | refine Below.drew ?_ | assumption | refine Below.trans ?_ (Below.mono (by assumption) (by first | (simp; done) | (simp; omega) | omega)))) _ _ _ (HBZ.out) rfl).mono ?_; rintro e w9 ⟨⟨M9, P9, A9, n9, c9, l9, N9, rfl⟩, hb9⟩; obtain ⟨hc9, hf9⟩ := bcell hb9; have hs9 := hb9.size; (try simp at hs9)) | (go_at_call 12; (with_reducible refine (num_same _ _).mono ?_); rintro e w11 ⟨rfl, rfl⟩))
          go_ret
          exact ⟨rfl, (by repeat (first | exact Below.refl _ _ | refine Below.setCell ?_ (by first | (simp; done) | (simp; omega) | omega) _ | refine Below.alloc ?_ (by first | (simp; done) | (simp; omega) | omega) _ | refine Below.drew ?_ | assumption | refine Below.trans ?_ (Below.mono (by assumption) (by first | (simp; done) | (simp; omega) | omega))))⟩


set_option maxHeartbeats 16000000 in
theorem limits_3 (n : Int) (hd : wrap64 ((wrap64 (n.tmod 3 + 3)).tmod 3 - 1) = 1) (w : World) (E : Env w) :
    Calls Tryz.prog 4 #[.int .i64 n] w fun e w' => e = .returned (.bool true) ∧ Below w.heap.size w w' := by
  have FO := Lib.hid (fun W (hb : Below w.heap.size w W) => first_ok W (E.below hb))
  have PA := Lib.hid (fun W (hb : Below w.heap.size w W) (g c n : Nat) (T : Bs W (some ⟨g, 0, none⟩) c (inA 998)) (hn : n = 1021) => pa_3 g c n W (E.below hb) T hn)
  have PB := Lib.hid (fun W (hb : Below w.heap.size w W) (g c n : Nat) (T : Bs W (some ⟨g, 0, none⟩) c (inB 21)) (hn : n = 144) => pb_3 g c n W (E.below hb) T hn)
  have PC := Lib.hid (fun W (hb : Below w.heap.size w W) (g c n : Nat) (T : Bs W (some ⟨g, 0, none⟩) c (hdC [51,50,55,54,57] ++ List.replicate 32769 0)) (hn : n = 32811) => pc_3 g c n W (E.below hb) T hn)
  clear E
  go_enter Tryz.func4, Tryz.ntmps4
  go_upto_region 3 with (first | (go_at_call 10; refine (FO.out _ (by repeat (first | exact Below.refl _ _ | refine Below.setCell ?_ (by first | (simp; done) | (simp; omega) | omega) _ | refine Below.alloc ?_ (by first | (simp; done) | (simp; omega) | omega) _ | refine Below.drew ?_ | assumption | refine Below.trans ?_ (Below.mono (by assumption) (by first | (simp; done) | (simp; omega) | omega))))).mono ?_; rintro e w4 ⟨rfl, hb4⟩; obtain ⟨hc4, hf4⟩ := bcell hb4; have hs4 := hb4.size; (try simp at hs4)))
  rw [hd]
  clear hd
  have hsz : ∀ (l : List UInt8), (⟨l.toArray⟩ : ByteArray).size = l.length := ba_sz
  refine name_world ?_
  intro W0 hW0
  have b0 : Below w.heap.size w W0 := by rw [hW0]; exact (by repeat (first | exact Below.refl _ _ | refine Below.setCell ?_ (by first | (simp; done) | (simp; omega) | omega) _ | refine Below.alloc ?_ (by first | (simp; done) | (simp; omega) | omega) _ | refine Below.drew ?_ | assumption | refine Below.trans ?_ (Below.mono (by assumption) (by first | (simp; done) | (simp; omega) | omega))))
  have z0 := b0.size
  clear hW0 hb4 hc4 hf4 hs4
  go_wp2
  go_loop [4, 5] (fun s i => ∃ (k : Nat) (S : ByteArray), k ≤ 998 ∧ i = .int .i64 k ∧ s = .string S ∧ Hid (S = ⟨(tXx ++ List.replicate k 118).toArray⟩)) (fun _ i => 998 - (intOf i).toNat)
  case atStart => exact ⟨0, _, by omega, rfl, rfl, Lib.hid rfl⟩
  case round =>
    obtain ⟨k, S, hk, rfl, rfl, HS⟩ := hrel
    by_cases hlt : k < 998
    · have hlt' : (k : Int) < 998 := by omega
      have hadd : ∀ W : World, (Op.stringOp .add S ⟨#[118]⟩).run Tryz.prog W = .ok (.string ⟨(tXx ++ List.replicate (k + 1) 118).toArray⟩) W := fun W => by
        rw [HS.out, run_string_add_sum W _ _ (by simp only [hsz, List.length_append, List.length_replicate, List.length_cons, List.length_nil, many_len, tXx, litG, litP]; omega), show (⟨#[118]⟩ : ByteArray) = ⟨([118] : List UInt8).toArray⟩ from rfl, app_str, rep_succ]
      obtain ⟨S2, hS2⟩ : ∃ S2 : ByteArray, (⟨(tXx ++ List.replicate (k + 1) 118).toArray⟩ : ByteArray) = S2 := ⟨_, rfl⟩
      rw [hS2] at hadd
      have HS2 := Lib.hid hS2.symm
      clear hS2
      go_wp2
      go_round
      case rel => exact ⟨k + 1, _, by omega, by go_num, rfl, HS2⟩
      case measure => first | (simp [intOf]; done) | (simp [intOf]; omega)
    · obtain rfl : k = 998 := by omega
      clear hlt hk
      have h1 : ∀ W : World, (Op.stringOp .add ⟨#[71,69,84,32,47,32,72,84,84,80,47,49,46,49,13,10]⟩ S).run Tryz.prog W = .ok (.string ⟨(litG ++ (tXx ++ List.replicate 998 118)).toArray⟩) W := fun W => by
        rw [HS.out, run_string_add_sum W _ _ (by simp only [hsz, List.length_append, List.length_replicate, List.length_cons, List.length_nil, many_len, tXx, litG, litP]; omega), show (⟨#[71,69,84,32,47,32,72,84,84,80,47,49,46,49,13,10]⟩ : ByteArray) = ⟨litG.toArray⟩ from rfl, app_str]
      have h2 : ∀ W : World, (Op.stringOp .add ⟨(litG ++ (tXx ++ List.replicate 998 118)).toArray⟩ ⟨#[13,10,13,10]⟩).run Tryz.prog W = .ok (.string ⟨(inA 998).toArray⟩) W := fun W => by
        rw [run_string_add_sum W _ _ (by simp only [hsz, List.length_append, List.length_replicate, List.length_cons, List.length_nil, many_len, tXx, litG, litP]; omega), show (⟨#[13,10,13,10]⟩ : ByteArray) = ⟨([13,10,13,10] : List UInt8).toArray⟩ from rfl, app_str]
        rfl
      have h3 := run_conv (inA 998)
      simp only [inA_len, Nat.reduceAdd] at h3
      generalize (⟨(litG ++ (tXx ++ List.replicate 998 118)).toArray⟩ : ByteArray) = S2 at *
      obtain ⟨S3, hS3⟩ : ∃ S3 : ByteArray, (⟨(inA 998).toArray⟩ : ByteArray) = S3 := ⟨_, rfl⟩
      have HV3 := Lib.hid (fun (W : World) (g : Nat) (hg : W.heap.size = g) => cv_new (inA 998) (by rw [inA_len]; omega) W g hg _ rfl)
      simp only [inA_len, Nat.reduceAdd] at HV3
      rw [hS3] at h2 h3 HV3
      clear hS3 HS
      go_upto_region 9 with (first | (go_at_call 11; refine (PA.out _ (by repeat (first | exact Below.refl _ _ | refine Below.setCell ?_ (by first | (simp; done) | (simp; omega) | omega) _ | refine Below.alloc ?_ (by first | (simp; done) | (simp; omega) | omega) _ | refine Below.drew ?_ | assumption | refine Below.trans ?_ (Below.mono (by assumption) (by first | (simp; done) | (simp; omega) | omega)))) _ _ _ ((HV3.out _ _ (by simp)).bs) rfl).mono ?_; rintro e w5 ⟨⟨M5, P5, A5, n5, c5, l5, N5, rfl⟩, hb5⟩; obtain ⟨hc5, hf5⟩ := bcell hb5; have hs5 := hb5.size; (try simp at hs5)))
      refine name_world ?_
      intro Wa hWa
      have ba : Below w.heap.size w Wa := by rw [hWa]; exact (by repeat (first | exact Below.refl _ _ | refine Below.setCell ?_ (by first | (simp; done) | (simp; omega) | omega) _ | refine Below.alloc ?_ (by first | (simp; done) | (simp; omega) | omega) _ | refine Below.drew ?_ | assumption | refine Below.trans ?_ (Below.mono (by assumption) (by first | (simp; done) | (simp; omega) | omega))))
      have za := ba.size
      clear hWa h1 h2 h3 HV3 hb5 hc5 hf5 hs5 b0
      go_wp2
      go_loop [10, 11] (fun s i => ∃ (k : Nat) (S : ByteArray), k ≤ 21 ∧ i = .int .i64 k ∧ s = .string S ∧ Hid (S = ⟨(manyB k).toArray⟩)) (fun _ i => 21 - (intOf i).toNat)
      case atStart => exact ⟨0, _, by omega, rfl, rfl, Lib.hid rfl⟩
      case round =>
        obtain ⟨k, S, hk, rfl, rfl, HS⟩ := hrel
        by_cases hlt : k < 21
        · have hlt' : (k : Int) < 21 := by omega
          have hadd : ∀ W : World, (Op.stringOp .add S ⟨#[120,58,32,121,13,10]⟩).run Tryz.prog W = .ok (.string ⟨(manyB (k + 1)).toArray⟩) W := fun W => by
            rw [HS.out, run_string_add_sum W _ _ (by simp only [hsz, List.length_append, List.length_replicate, List.length_cons, List.length_nil, many_len, tXx, litG, litP]; omega), show (⟨#[120,58,32,121,13,10]⟩ : ByteArray) = ⟨tXy.toArray⟩ from rfl, app_str, flat_succ]
          obtain ⟨S2, hS2⟩ : ∃ S2 : ByteArray, (⟨(manyB (k + 1)).toArray⟩ : ByteArray) = S2 := ⟨_, rfl⟩
          rw [hS2] at hadd
          have HS2 := Lib.hid hS2.symm
          clear hS2
          go_wp2
          go_round
          case rel => exact ⟨k + 1, _, by omega, by go_num, rfl, HS2⟩
          case measure => first | (simp [intOf]; done) | (simp [intOf]; omega)
        · obtain rfl : k = 21 := by omega
          clear hlt hk
          have h2 : ∀ W : World, (Op.stringOp .add S ⟨#[13,10]⟩).run Tryz.prog W = .ok (.string ⟨(inB 21).toArray⟩) W := fun W => by
            rw [HS.out, run_string_add_sum W _ _ (by simp only [hsz, List.length_append, List.length_replicate, List.length_cons, List.length_nil, many_len, tXx, litG, litP]; omega), show (⟨#[13,10]⟩ : ByteArray) = ⟨([13,10] : List UInt8).toArray⟩ from rfl, app_str]
            rfl
          have h3 := run_conv (inB 21)
          simp only [inB_len, Nat.reduceAdd, Nat.reduceMul] at h3
          obtain ⟨S3, hS3⟩ : ∃ S3 : ByteArray, (⟨(inB 21).toArray⟩ : ByteArray) = S3 := ⟨_, rfl⟩
          have HV3 := Lib.hid (fun (W : World) (g : Nat) (hg : W.heap.size = g) => cv_new (inB 21) (by rw [inB_len]; omega) W g hg _ rfl)
          simp only [inB_len, Nat.reduceAdd, Nat.reduceMul] at HV3
          rw [hS3] at h2 h3 HV3
          clear hS3 HS
          go_upto_region 15 with (first | (go_at_call 11; refine (PB.out _ (by repeat (first | exact Below.refl _ _ | refine Below.setCell ?_ (by first | (simp; done) | (simp; omega) | omega) _ | refine Below.alloc ?_ (by first | (simp; done) | (simp; omega) | omega) _ | refine Below.drew ?_ | assumption | refine Below.trans ?_ (Below.mono (by assumption) (by first | (simp; done) | (simp; omega) | omega)))) _ _ _ ((HV3.out _ _ (by simp)).bs) rfl).mono ?_; rintro e w6 ⟨⟨M6, P6, A6, n6, c6, l6, N6, rfl⟩, hb6⟩; obtain ⟨hc6, hf6⟩ := bcell hb6; have hs6 := hb6.size; (try simp at hs6)))
          refine name_world ?_
          intro Wb hWb
          have bb : Below w.heap.size w Wb := by rw [hWb]; exact (by repeat (first | exact Below.refl _ _ | refine Below.setCell ?_ (by first | (simp; done) | (simp; omega) | omega) _ | refine Below.alloc ?_ (by first | (simp; done) | (simp; omega) | omega) _ | refine Below.drew ?_ | assumption | refine Below.trans ?_ (Below.mono (by assumption) (by first | (simp; done) | (simp; omega) | omega))))
          have zb := bb.size
          clear hWb h2 h3 HV3 hb6 hc6 hf6 hs6 ba
          have h1 : ∀ W : World, (Op.stringOp .add ⟨#[80, 79, 83, 84, 32, 47, 32, 72, 84, 84, 80, 47, 49, 46, 49, 13, 10, 99, 111, 110, 116, 101, 110, 116, 45, 108, 101, 110, 103, 116, 104, 58, 32]⟩ ⟨(txt 32769).toArray⟩).run Tryz.prog W = .ok (.string ⟨(litP ++ [51,50,55,54,57]).toArray⟩) W := fun W => by
            rw [txt_3, run_string_add_sum W _ _ (by simp only [hsz, List.length_append, List.length_replicate, List.length_cons, List.length_nil, many_len, tXx, litG, litP]; omega), show (⟨#[80, 79, 83, 84, 32, 47, 32, 72, 84, 84, 80, 47, 49, 46, 49, 13, 10, 99, 111, 110, 116, 101, 110, 116, 45, 108, 101, 110, 103, 116, 104, 58, 32]⟩ : ByteArray) = ⟨litP.toArray⟩ from rfl, app_str]
          have h2 : ∀ W : World, (Op.stringOp .add ⟨(litP ++ [51,50,55,54,57]).toArray⟩ ⟨#[13,10,13,10]⟩).run Tryz.prog W = .ok (.string ⟨(hdC [51,50,55,54,57]).toArray⟩) W := fun W => by
            rw [run_string_add_sum W _ _ (by simp only [hsz, List.length_append, List.length_replicate, List.length_cons, List.length_nil, many_len, tXx, litG, litP]; omega), show (⟨#[13,10,13,10]⟩ : ByteArray) = ⟨([13,10,13,10] : List UInt8).toArray⟩ from rfl, app_str]
            rfl
          have h3 := run_conv (hdC [51,50,55,54,57])
          have hl42 : (hdC [51,50,55,54,57]).length = 42 := by rw [hdC_len]; rfl
          simp only [hl42] at h3
          obtain ⟨S1, hS1⟩ : ∃ S1 : ByteArray, (⟨(txt 32769).toArray⟩ : ByteArray) = S1 := ⟨_, rfl⟩
          obtain ⟨S2, hS2⟩ : ∃ S2 : ByteArray, (⟨(litP ++ [51,50,55,54,57]).toArray⟩ : ByteArray) = S2 := ⟨_, rfl⟩
          obtain ⟨S3, hS3⟩ : ∃ S3 : ByteArray, (⟨(hdC [51,50,55,54,57]).toArray⟩ : ByteArray) = S3 := ⟨_, rfl⟩
          have HV3 := Lib.hid (fun (W : World) (g : Nat) (hg : W.heap.size = g) => cv_new (hdC [51,50,55,54,57]) (by rw [hl42]; omega) W g hg _ rfl)
          simp only [hl42] at HV3
          rw [hS1] at h1
          rw [hS2] at h1 h2
          rw [hS3] at h2 h3 HV3
          have HL42 := Lib.hid hl42
          have HBO := Lib.hid (fun W => bigOf_any 32769 (by unfold In64; omega) W)
          have HBT := Lib.hid (fun W s A n c (P : Pt 0 W s A n c 32769) => bigText_any s A n c 32769 (by rw [P.2.1]; exact of_decide_eq_true (by kernel_rfl)) W P)
          rw [hS1] at HBT
          clear hS1 hS2 hS3 hl42
          go_wp2_with (first | (go_at_call 16; (with_reducible refine (HBO.out _).mono ?_); rintro e w7 ⟨⟨s7, A7, n7, c7, rfl, hP7⟩, hb7⟩; obtain ⟨hc7, hf7⟩ := bcell hb7; have hs7 := hb7.size; (try simp at hs7); have HP7 := Lib.hid hP7; clear hP7) | (go_at_call 15; (with_reducible refine (HBT.out _ _ _ _ _ ((HP7.out.mono (Nat.zero_le _)).below (by repeat (first | exact Below.refl _ _ | refine Below.setCell ?_ (by first | (simp; done) | (simp; omega) | omega) _ | refine Below.alloc ?_ (by first | (simp; done) | (simp; omega) | omega) _ | refine Below.drew ?_ | assumption | refine Below.trans ?_ (Below.mono (by assumption) (by first | (simp; done) | (simp; omega) | omega)))))).mono ?_); rintro e w8 ⟨rfl, hb8⟩; obtain ⟨hc8, hf8⟩ := bcell hb8; have hs8 := hb8.size; (try simp at hs8)) | (at_builtin; refine wpList_append_z _ rfl (.tmp 70) (.tmp 72) rfl _ _ 32769 42 (hdC [51,50,55,54,57]) HL42.out rfl rfl (HV3.out _ _ (by simp)) (by omega) (by omega) ?_; intro g9 c9 w10 hBZ hg9; have HBZ := Lib.hid hBZ; clear hBZ; have hbz : Below w.heap.size w w10 := (Below.grown (show Below w.heap.size w _ from (by repeat (first | exact Below.refl _ _ | refine Below.setCell ?_ (by first | (simp; done) | (simp; omega) | omega) _ | refine Below.alloc ?_ (by first | (simp; done) | (simp; omega) | omega) _ | refine Below.drew ?_ | assumption | refine Below.trans ?_ (Below.mono (by assumption) (by first | (simp; done) | (simp; omega) | omega))))) hg9 (by first | (simp; done) | (simp; omega) | omega) (fun k e => by cases e; first | (simp; done) | (simp; omega) | omega)); have hsz10 := hbz.size; clear hg9) | (go_at_call 11; refine (PC.out _ (by repeat (first | exact Below.refl _ _ | refine Below.setCell ?_ (by first | (simp; done) | (simp; omega) | omega) _ | refine Below.alloc ?_ (by first | (simp; done) | (simp; omega) | omega) _ | refine Below.drew ?_ | assumption | refine Below.trans ?_ (Below.mono (by assumption) (by first | (simp; done) | (simp; omega) | omega)))) _ _ _ (HBZ.out) rfl).mono ?_; rintro e w9 ⟨⟨M9, P9, A9, n9, c9, l9, N9, rfl⟩, hb9⟩; obtain ⟨hc9, hf9⟩ := bcell hb9; have hs9 := hb9.size; (try simp at hs9)) | (go_at_call 12; (with_reducible refine (num_same _ _).mono ?_); rintro e w11 ⟨rfl, rfl⟩))
          go_ret
          exact ⟨rfl, (by repeat (first | exact Below.refl _ _ | refine Below.setCell ?_ (by first | (simp; done) | (simp; omega) | omega) _ | refine Below.alloc ?_ (by first | (simp; done) | (simp; omega) | omega) _ | refine Below.drew ?_ | assumption | refine Below.trans ?_ (Below.mono (by assumption) (by first | (simp; done) | (simp; omega) | omega))))⟩


theorem limits_walk (n : Int) (w : World) (E : Env w) : Calls Tryz.prog 4 #[.int .i64 n] w fun e w' => e = .returned (.bool true) ∧ Below w.heap.size w w' := by
  have h1 := Int.lt_tmod_of_pos n (show (0 : Int) < 3 by decide)
  have h2 := Int.tmod_lt_of_pos n (show (0 : Int) < 3 by decide)
  have h : n.tmod 3 = -2 ∨ n.tmod 3 = -1 ∨ n.tmod 3 = 0 ∨ n.tmod 3 = 1 ∨ n.tmod 3 = 2 := by omega
  rcases h with h | h | h | h | h
  · exact limits_2 n (by rw [h]; first | rfl | (simp [wrap64]; done) | kernel_rfl) w E
  · exact limits_3 n (by rw [h]; first | rfl | (simp [wrap64]; done) | kernel_rfl) w E
  · exact limits_1 n (by rw [h]; first | rfl | (simp [wrap64]; done) | kernel_rfl) w E
  · exact limits_2 n (by rw [h]; first | rfl | (simp [wrap64]; done) | kernel_rfl) w E
  · exact limits_3 n (by rw [h]; first | rfl | (simp [wrap64]; done) | kernel_rfl) w E
end Go.Proofs.YtkaimfeiahogaaaGreatDoor
