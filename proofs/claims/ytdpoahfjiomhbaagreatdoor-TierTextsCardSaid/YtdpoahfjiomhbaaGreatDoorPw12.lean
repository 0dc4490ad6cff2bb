/-
  Contract of exref14.Parse. (Draft: the rounds and the end are open.)
-/
import Derived.Test.YtdpoahfjiomhbaaGreatDoorPw7
import Derived.Test.YtdpoahfjiomhbaaGreatDoorPw11
import Derived.Test.YtdpoahfjiomhbaaGreatDoorBw16
namespace Go.Proofs.YtdpoahfjiomhbaaGreatDoor
set_option linter.all false
open Go.RowKit Go.Sort
attribute [local go_sem] cell_set_self lt_1 lt_2 lt_3 lt_4 lt_5 lt_6

theorem len_two {α : Type} {l : List α} (h : l.length = 2) : ∃ a b, l = [a, b] := by
  match l, h with
  | [a, b], _ => exact ⟨a, b, rfl⟩
theorem strs_two {w : World} {A : Option Addr} {a b : List UInt8} (h : Strs w A [a, b]) : ∃ qb qo, A = some ⟨qb, qo, none⟩ ∧ qb < w.heap.size ∧ w.cell? ⟨qb, qo, none⟩ = some (.string ⟨a.toArray⟩) ∧ w.cell? ⟨qb, qo + 1, none⟩ = some (.string ⟨b.toArray⟩) := by
  obtain ⟨qb, qo, h1, h2, h3⟩ := h 0 a rfl
  obtain ⟨qb', qo', h4, h5, h6⟩ := h 1 b rfl
  rw [h1] at h4
  simp only [Option.some.injEq, Addr.mk.injEq] at h4
  obtain ⟨rfl, rfl, _⟩ := h4
  exact ⟨qb, qo, h1, h2, h3, h6⟩
set_option maxHeartbeats 4000000 in
set_option maxRecDepth 100000 in
theorem rparse_any (s : List UInt8) (hs : s.length ≤ 100000) (w : World) :
    Calls Tryz.prog 16 #[.string ⟨s.toArray⟩] w fun e w' => ParseRes s e w' ∧ Below w.heap.size w w' := by
  obtain ⟨i0, hi0, hz0, hz1, hz2⟩ := info_parts Tryz.infoTier14
  have hsz := ba_szP s
  by_cases hlong : 1000 < s.length
  · have hl' : (1000 : Int) < (⟨s.toArray⟩ : ByteArray).size := by omega
    have hR : Hid (parseL s = [] ∧ parseE s = 8) := Lib.hid (by
      have e : parseE s = 8 := by unfold parseE; rw [if_pos hlong]
      refine ⟨?_, e⟩
      unfold parseL; rw [e]
      cases goT 0 (pieces 44 s) with
      | none => rfl
      | some x => rfl)
    go_enter Tryz.func16, Tryz.ntmps16
    go_wp2
    go_ret2
    exact ⟨pres_nil hR.out, (by repeat (first | exact Below.refl _ _ | refine Below.setCell ?_ (by first | (simp; done) | (simp; omega) | omega) _ | refine Below.alloc ?_ (by first | (simp; done) | (simp; omega) | omega) _ | refine Below.drew ?_ | assumption | refine Below.trans ?_ (Below.mono (by assumption) (by first | (simp; done) | (simp; omega) | omega))))⟩
  · have hl' : ¬ (1000 : Int) < (⟨s.toArray⟩ : ByteArray).size := by omega
    have hs1 : s.length ≤ 1000 := by omega
    have SP := Lib.hid (cut_any 44 s hs w)
    obtain ⟨hn1, hn2⟩ := pieces_len (c := 44) s
    have hne := pieces_ne 44 s
    obtain ⟨ps, hps⟩ : ∃ ps, pieces 44 s = ps := ⟨_, rfl⟩
    have HPS := Lib.hid hps
    rw [hps] at hn1 hn2 hne SP
    obtain ⟨m, hm⟩ : ∃ m, ps.length = m + 1 := ⟨ps.length - 1, by have : ps.length ≠ 0 := fun e => hne (List.eq_nil_of_length_eq_zero e); omega⟩
    have HM := Lib.hid hm
    rw [hm] at SP
    have hm1 : m ≤ 1000 := by omega
    have HN2 := Lib.hid hn2
    have HS1 := Lib.hid hs1
    have hsm : (⟨s.toArray⟩ : ByteArray).size ≤ 1000 := by omega
    clear hn1 hn2 hne hps hm hs hs1 hlong hsz
    generalize (⟨s.toArray⟩ : ByteArray) = sb at *
    go_enter Tryz.func16, Tryz.ntmps16
    go_wp2_with (first | (go_at_call 64; refine (SP.out).mono ?_; rintro e w1 ⟨⟨PA, pd, rfl, hst⟩, hb1⟩; obtain ⟨hc1, hf1⟩ := bcell hb1; have hs1 := hb1.size; (try simp at hs1)))
    obtain ⟨pb, poff, hPA, hpb⟩ : ∃ pb poff, PA = some ⟨pb, poff, none⟩ ∧ pb < w1.heap.size := by
      obtain ⟨q, hq⟩ : ∃ q, ps[0]? = some q := ⟨_, List.getElem?_eq_getElem (by rw [HM.out]; omega)⟩
      obtain ⟨b, off, h1, h2, _⟩ := hst 0 q hq
      exact ⟨b, off, h1, h2⟩
    subst hPA
    have HST := Lib.hid (fun W (hb : Below w1.heap.size w1 W) => hst.below hb)
    have FIN := Lib.hid (fun W (hb : Below w1.heap.size w1 W) => (hb1.trans (hb.mono hb1.size)))
    clear hst
    go_loopw [5, 6, 7, 8] (fun a g ns i wr => ∃ (k : Nat) (v : Value) (gg nn : Bool) (acc : List (Int × Int)), k ≤ m + 1 ∧ i = .int .i64 k ∧ g = .bool (!gg) ∧ ns = .bool nn ∧ v = a ∧ acc.length = k ∧ Hid (RRel ps k acc gg) ∧ Hid ((k ≤ m → nn = false) ∧ (k = m + 1 → nn = !(starL ps))) ∧ Hid (wr.ownsRow w1.heap.size 38 2 v acc.length (cellsT acc)) ∧ Below w1.heap.size w1 wr) (fun _ _ _ i _ => m + 1 - (intOf i).toNat)
    case atStart => exact ⟨0, _, true, false, [], by omega, rfl, rfl, rfl, rfl, rfl, Lib.hid (rrel_0 ps), Lib.hid ⟨fun _ => rfl, fun h => by omega⟩, Lib.hid (World.ownsRow_nil _ _ _ _), Below.refl _ _⟩
    case round =>
      obtain ⟨k, v, gg, nn, acc, hk, rfl, rfl, rfl, hv, hak, HP, HNN, HO, hB⟩ := hrel; subst hv
      obtain ⟨wo, rfl⟩ : ∃ wo : World, wo = wr := ⟨_, rfl⟩
      have hsl := hB.size
      by_cases hlt : k < m + 1
      · have hlt' : (k : Int) < (m : Int) + 1 := by omega
        obtain ⟨p, hp⟩ : ∃ p, ps[k]? = some p := ⟨_, List.getElem?_eq_getElem (by rw [HM.out]; exact hlt)⟩
        obtain ⟨b', off', hA', hgl, hcell⟩ := HST.out wo hB k p hp
        simp only [Option.some.injEq, Addr.mk.injEq] at hA'
        obtain ⟨rfl, rfl, _⟩ := hA'
        obtain ⟨NO, YES⟩ := rrel_piece HP.out hp
        have hpl := HN2.out p (List.mem_of_getElem? hp)
        have hp6 := HS1.out
        have CU := Lib.hid (fun W => cut_any 58 p (by omega) W)
        have HPM : Hid (ps[k]? = some p) := Lib.hid hp
        clear hp
        by_cases hodd : (pieces 58 p).length ≠ 2
        · have NN := Lib.hid (NO (piece_odd _ hodd))
          obtain ⟨L, hL⟩ : ∃ L, (pieces 58 p).length = L := ⟨_, rfl⟩
          have hL1 := (pieces_len (c := 58) p).1
          rw [hL] at hodd hL1 CU
          have oddb : ((L : Int) != 2) = true := by simp; omega
          clear NO YES hL
          generalize (⟨p.toArray⟩ : ByteArray) = SPP at *
          go_wp2_with (first | (go_at_call 64; refine (CU.out _).mono ?_; rintro e w3 ⟨⟨QA, qd, rfl, hst3⟩, hb3⟩; obtain ⟨hc3, hf3⟩ := bcell hb3; have hs3 := hb3.size; (try simp at hs3)))
          go_ret2
          exact ⟨pres_nil (rparse_none HS1.out (by rw [HPS.out]; exact NN.out)), (by repeat (first | exact Below.refl _ _ | refine Below.setCell ?_ (by first | (simp; done) | (simp; omega) | omega) _ | refine Below.alloc ?_ (by first | (simp; done) | (simp; omega) | omega) _ | refine Below.drew ?_ | assumption | refine Below.trans ?_ (Below.mono (by assumption) (by first | (simp; done) | (simp; omega) | omega))))⟩
        · obtain ⟨a, b, hab⟩ := len_two (show (pieces 58 p).length = 2 by omega)
          have hla := (pieces_len (c := 58) p).2 a (by rw [hab]; simp)
          have hlb := (pieces_len (c := 58) p).2 b (by rw [hab]; simp)
          have CU2 : Hid (∀ W, Calls Tryz.prog 64 #[.string ⟨p.toArray⟩, .int .u8 58] W fun e w' => (∃ qb qo qd, e = .returned (.slice (some ⟨qb, qo, none⟩) 2 qd) ∧ qb < w'.heap.size ∧ w'.cell? ⟨qb, qo, none⟩ = some (.string ⟨a.toArray⟩) ∧ w'.cell? ⟨qb, qo + 1, none⟩ = some (.string ⟨b.toArray⟩)) ∧ Below W.heap.size W w') := Lib.hid fun W => (CU.out W).mono (by
            rintro e w' ⟨⟨A, d, rfl, hS⟩, hbb⟩
            rw [hab] at hS ⊢
            obtain ⟨qb, qo, rfl, h1, h2, h3⟩ := strs_two hS
            exact ⟨⟨qb, qo, d, rfl, h1, h2, h3⟩, hbb⟩)
          have PB := Lib.hid (fun W => plain_any b (by omega) W)
          have PT := piece_two (decide (k + 1 = ps.length)) hab
          have HLA : Hid (a.length ≤ 1000000) := Lib.hid (by omega)
          have HLB : Hid (b.length ≤ 1000000) := Lib.hid (by omega)
          clear CU hodd hpl hla hlb
          by_cases hb : numF b = true
          · rw [hb] at PB
            have PA := Lib.hid (fun W => plain_any a (by have := HLA.out; omega) W)
            have e42 : ((⟨a.toArray⟩ : ByteArray).toList == [42]) = decide (a = [42]) := by rw [ByteArray.toList_mk]; exact Bool.beq_eq_decide_eq a [42]
            have e48 : ((⟨a.toArray⟩ : ByteArray).toList == [48]) = decide (a = [48]) := by rw [ByteArray.toList_mk]; exact Bool.beq_eq_decide_eq a [48]
            rw [HM.out] at PT NO YES
            by_cases hok : okR (decide (k + 1 = m + 1)) a = true
            · have YY := Lib.hid (YES (tR a b) (fR a b) (by rw [PT, hb, hok]; rfl))
              have AB := Lib.hid (fun W => atoi_plain b hb HLB.out W)
              have nnF : nn = false := HNN.out.1 (by omega)
              subst nnF
              by_cases ha : a = [42]
              · have hkm : k = m := by
                  unfold okR at hok; rw [if_pos ha] at hok; simp at hok; exact hok
                subst hkm
                have NNN : Hid ((k + 1 ≤ k → false = false) ∧ (k + 1 = k + 1 → false = !(starL ps))) := Lib.hid ⟨fun _ => rfl, fun _ => by rw [star_last HM.out HPM.out hab (by simpa using hok), decide_eq_true ha]; rfl⟩
                rw [decide_eq_true ha] at e42
                have eT : tR a b = (0, valN 0 b) := by unfold tR; rw [if_pos ha]
                have eF : fR a b = fitsN b := by unfold fR; rw [decide_eq_true ha]; simp
                rw [eT, eF] at YY
                clear eT eF ha e48 hab
                clear NO YES PT hb hok
                generalize (⟨p.toArray⟩ : ByteArray) = SPP at *
                generalize (⟨a.toArray⟩ : ByteArray) = SA at *
                generalize (⟨b.toArray⟩ : ByteArray) = SB at *
                generalize valN 0 b = nb at *
                generalize fitsN b = fb at *
                cases gg <;> cases fb
                all_goals (
                  go_wp2_with (first | (go_at_call 64; refine (CU2.out _).mono ?_; rintro e w3 ⟨⟨qb, qo, qd, rfl, q1, q2, q3⟩, hb3⟩; obtain ⟨hc3, hf3⟩ := bcell hb3; have hs3 := hb3.size; (try simp at hs3)) | (go_at_call 65; (with_reducible refine (PB.out _).mono ?_); rintro e w4 ⟨rfl, hb4⟩; obtain ⟨hc4, hf4⟩ := bcell hb4; have hs4 := hb4.size; have hz4 : qb < w4.heap.size := Nat.lt_of_lt_of_le q1 hs4) | (go_at_call 66; (with_reducible refine (AB.out _).mono ?_); rintro e w6 ⟨rfl, hb6⟩; obtain ⟨hc6, hf6⟩ := bcell hb6; have hs6 := hb6.size; (try simp at hs6); have hz6 : qb < w6.heap.size ∧ w4.heap.size < w6.heap.size := by omega) | (at_builtin; refine wpList_append_own _ rfl (.tmp 111) (.tmp 113) 29 rfl w1.heap.size 38 i0 _ 2 16 Tryz.underlying29 hi0 hz0 hz1 hz2 rfl (by decide) v acc.length (cellsT acc) rfl ((own_below HO.out (by repeat (first | exact Below.refl _ _ | refine Below.setCell ?_ (by first | (simp; done) | (simp; omega) | omega) _ | refine Below.alloc ?_ (by first | (simp; done) | (simp; omega) | omega) _ | refine Below.drew ?_ | assumption | refine Below.trans ?_ (Below.mono (by assumption) (by first | (simp; done) | (simp; omega) | omega))))).alloc _) _ 1 1 [.int .i64 0, .int .i64 nb] rfl rfl (by intro j u' hj; match j, hj with | 0, hj => (simp at hj; subst hj; simp [Addr.add, go_sem, *]) | 1, hj => (simp at hj; subst hj; simp [Addr.add, go_sem, *])) (by intro u' hu'; simp at hu'; rcases hu' with rfl | rfl <;> rfl) (by unfold maxLen; omega) (by omega) (by simp; omega) ?_; intro v6 w9 hown6 hgrow6 hiff; clear hiff; have HO6 := Lib.hid hown6; have B6 : Below w1.heap.size w1 w9 := Below.grown (by repeat (first | exact Below.refl _ _ | refine Below.setCell ?_ (by first | (simp; done) | (simp; omega) | omega) _ | refine Below.alloc ?_ (by first | (simp; done) | (simp; omega) | omega) _ | refine Below.drew ?_ | assumption | refine Below.trans ?_ (Below.mono (by assumption) (by first | (simp; done) | (simp; omega) | omega)))) hgrow6 (by simp; omega) (fun g hg => (HO.out.lt g hg).1); clear hown6 hgrow6))
                  go_roundw
                  case rel => first
                    | exact ⟨k + 1, _, true, _, acc ++ [(0, nb)], by omega, by go_num, rfl, rfl, rfl, by rw [List.length_append, List.length_singleton]; omega, YY, Lib.hid (by first | exact NNN.out | simpa using NNN.out), Lib.hid (by rw [cellsT_append, List.length_append]; exact HO6.out), B6⟩
                    | exact ⟨k + 1, _, false, _, acc ++ [(0, nb)], by omega, by go_num, rfl, rfl, rfl, by rw [List.length_append, List.length_singleton]; omega, YY, Lib.hid (by first | exact NNN.out | simpa using NNN.out), Lib.hid (by rw [cellsT_append, List.length_append]; exact HO6.out), B6⟩
                  case measure => first | (simp [intOf]; done) | (simp [intOf]; omega))
              · have hnA : numF a = true ∧ decide (a = [48]) = false := by
                  unfold okR at hok; rw [if_neg ha] at hok; simp at hok; simpa using hok
                have AA := Lib.hid (fun W => atoi_plain a hnA.1 HLA.out W)
                rw [hnA.1] at PA
                rw [hnA.2] at e48
                rw [decide_eq_false ha] at e42
                have eT : tR a b = (valN 0 a, valN 0 b) := by unfold tR; rw [if_neg ha]
                have eF : fR a b = (fitsN b && fitsN a) := by unfold fR; rw [decide_eq_false ha]; simp
                rw [eT, eF] at YY
                by_cases hkm : k = m
                · subst hkm
                  have NNN : Hid ((k + 1 ≤ k → true = false) ∧ (k + 1 = k + 1 → true = !(starL ps))) := Lib.hid ⟨fun h => by omega, fun _ => by rw [star_last HM.out HPM.out hab (by simpa using hok), decide_eq_false ha]; rfl⟩
                  clear eT eF ha hab hnA
                  clear NO YES PT hb hok
                  generalize (⟨p.toArray⟩ : ByteArray) = SPP at *
                  generalize (⟨a.toArray⟩ : ByteArray) = SA at *
                  generalize (⟨b.toArray⟩ : ByteArray) = SB at *
                  generalize valN 0 b = nb at *
                  generalize fitsN b = fb at *
                  generalize valN 0 a = na at *
                  generalize fitsN a = fa at *
                  cases gg <;> cases fb <;> cases fa
                  all_goals (
                    go_wp2_with (first | (go_at_call 64; refine (CU2.out _).mono ?_; rintro e w3 ⟨⟨qb, qo, qd, rfl, q1, q2, q3⟩, hb3⟩; obtain ⟨hc3, hf3⟩ := bcell hb3; have hs3 := hb3.size; (try simp at hs3)) | (go_at_call 65; (with_reducible refine (PB.out _).mono ?_); rintro e w4 ⟨rfl, hb4⟩; obtain ⟨hc4, hf4⟩ := bcell hb4; have hs4 := hb4.size; have hz4 : qb < w4.heap.size := Nat.lt_of_lt_of_le q1 hs4) | (go_at_call 65; (with_reducible refine (PA.out _).mono ?_); rintro e w5 ⟨rfl, hb5⟩; obtain ⟨hc5, hf5⟩ := bcell hb5; have hs5 := hb5.size; have hz5 : qb < w5.heap.size := Nat.lt_of_lt_of_le hz4 hs5) | (go_at_call 66; (with_reducible refine (AB.out _).mono ?_); rintro e w6 ⟨rfl, hb6⟩; obtain ⟨hc6, hf6⟩ := bcell hb6; have hs6 := hb6.size; (try simp at hs6); have hz6 : qb < w6.heap.size ∧ w5.heap.size < w6.heap.size := by omega) | (go_at_call 66; (with_reducible refine (AA.out _).mono ?_); rintro e w7 ⟨rfl, hb7⟩; obtain ⟨hc7, hf7⟩ := bcell hb7; have hs7 := hb7.size; (try simp at hs7); have hz7 : qb < w7.heap.size ∧ w5.heap.size < w7.heap.size := by omega) | (at_builtin; refine wpList_append_own _ rfl (.tmp 111) (.tmp 113) 29 rfl w1.heap.size 38 i0 _ 2 16 Tryz.underlying29 hi0 hz0 hz1 hz2 rfl (by decide) v acc.length (cellsT acc) rfl ((own_below HO.out (by repeat (first | exact Below.refl _ _ | refine Below.setCell ?_ (by first | (simp; done) | (simp; omega) | omega) _ | refine Below.alloc ?_ (by first | (simp; done) | (simp; omega) | omega) _ | refine Below.drew ?_ | assumption | refine Below.trans ?_ (Below.mono (by assumption) (by first | (simp; done) | (simp; omega) | omega))))).alloc _) _ 1 1 [.int .i64 na, .int .i64 nb] rfl rfl (by intro j u' hj; match j, hj with | 0, hj => (simp at hj; subst hj; simp [Addr.add, go_sem, *]) | 1, hj => (simp at hj; subst hj; simp [Addr.add, go_sem, *])) (by intro u' hu'; simp at hu'; rcases hu' with rfl | rfl <;> rfl) (by unfold maxLen; omega) (by omega) (by simp; omega) ?_; intro v6 w9 hown6 hgrow6 hiff; clear hiff; have HO6 := Lib.hid hown6; have B6 : Below w1.heap.size w1 w9 := Below.grown (by repeat (first | exact Below.refl _ _ | refine Below.setCell ?_ (by first | (simp; done) | (simp; omega) | omega) _ | refine Below.alloc ?_ (by first | (simp; done) | (simp; omega) | omega) _ | refine Below.drew ?_ | assumption | refine Below.trans ?_ (Below.mono (by assumption) (by first | (simp; done) | (simp; omega) | omega)))) hgrow6 (by simp; omega) (fun g hg => (HO.out.lt g hg).1); clear hown6 hgrow6))
                    go_roundw
                    case rel => first
                      | exact ⟨k + 1, _, true, _, acc ++ [(na, nb)], by omega, by go_num, rfl, rfl, rfl, by rw [List.length_append, List.length_singleton]; omega, YY, Lib.hid (by first | exact NNN.out | simpa using NNN.out), Lib.hid (by rw [cellsT_append, List.length_append]; exact HO6.out), B6⟩
                      | exact ⟨k + 1, _, false, _, acc ++ [(na, nb)], by omega, by go_num, rfl, rfl, rfl, by rw [List.length_append, List.length_singleton]; omega, YY, Lib.hid (by first | exact NNN.out | simpa using NNN.out), Lib.hid (by rw [cellsT_append, List.length_append]; exact HO6.out), B6⟩
                    case measure => first | (simp [intOf]; done) | (simp [intOf]; omega))
                · have hkm1 : ¬ ((k : Int) = (m : Int)) := by omega
                  have hkm2 : ((k : Int) == (m : Int)) = false := by simpa using hkm1
                  have hkm3 : k < m := by omega
                  have NNN : Hid ((k + 1 ≤ m → false = false) ∧ (k + 1 = m + 1 → false = !(starL ps))) := Lib.hid ⟨fun _ => rfl, fun h => by omega⟩
                  clear eT eF ha hab hnA hkm
                  clear NO YES PT hb hok
                  generalize (⟨p.toArray⟩ : ByteArray) = SPP at *
                  generalize (⟨a.toArray⟩ : ByteArray) = SA at *
                  generalize (⟨b.toArray⟩ : ByteArray) = SB at *
                  generalize valN 0 b = nb at *
                  generalize fitsN b = fb at *
                  generalize valN 0 a = na at *
                  generalize fitsN a = fa at *
                  cases gg <;> cases fb <;> cases fa
                  all_goals (
                    go_wp2_with (first | (go_at_call 64; refine (CU2.out _).mono ?_; rintro e w3 ⟨⟨qb, qo, qd, rfl, q1, q2, q3⟩, hb3⟩; obtain ⟨hc3, hf3⟩ := bcell hb3; have hs3 := hb3.size; (try simp at hs3)) | (go_at_call 65; (with_reducible refine (PB.out _).mono ?_); rintro e w4 ⟨rfl, hb4⟩; obtain ⟨hc4, hf4⟩ := bcell hb4; have hs4 := hb4.size; have hz4 : qb < w4.heap.size := Nat.lt_of_lt_of_le q1 hs4) | (go_at_call 65; (with_reducible refine (PA.out _).mono ?_); rintro e w5 ⟨rfl, hb5⟩; obtain ⟨hc5, hf5⟩ := bcell hb5; have hs5 := hb5.size; have hz5 : qb < w5.heap.size := Nat.lt_of_lt_of_le hz4 hs5) | (go_at_call 66; (with_reducible refine (AB.out _).mono ?_); rintro e w6 ⟨rfl, hb6⟩; obtain ⟨hc6, hf6⟩ := bcell hb6; have hs6 := hb6.size; (try simp at hs6); have hz6 : qb < w6.heap.size ∧ w5.heap.size < w6.heap.size := by omega) | (go_at_call 66; (with_reducible refine (AA.out _).mono ?_); rintro e w7 ⟨rfl, hb7⟩; obtain ⟨hc7, hf7⟩ := bcell hb7; have hs7 := hb7.size; (try simp at hs7); have hz7 : qb < w7.heap.size ∧ w5.heap.size < w7.heap.size := by omega) | (at_builtin; refine wpList_append_own _ rfl (.tmp 111) (.tmp 113) 29 rfl w1.heap.size 38 i0 _ 2 16 Tryz.underlying29 hi0 hz0 hz1 hz2 rfl (by decide) v acc.length (cellsT acc) rfl ((own_below HO.out (by repeat (first | exact Below.refl _ _ | refine Below.setCell ?_ (by first | (simp; done) | (simp; omega) | omega) _ | refine Below.alloc ?_ (by first | (simp; done) | (simp; omega) | omega) _ | refine Below.drew ?_ | assumption | refine Below.trans ?_ (Below.mono (by assumption) (by first | (simp; done) | (simp; omega) | omega))))).alloc _) _ 1 1 [.int .i64 na, .int .i64 nb] rfl rfl (by intro j u' hj; match j, hj with | 0, hj => (simp at hj; subst hj; simp [Addr.add, go_sem, *]) | 1, hj => (simp at hj; subst hj; simp [Addr.add, go_sem, *])) (by intro u' hu'; simp at hu'; rcases hu' with rfl | rfl <;> rfl) (by unfold maxLen; omega) (by omega) (by simp; omega) ?_; intro v6 w9 hown6 hgrow6 hiff; clear hiff; have HO6 := Lib.hid hown6; have B6 : Below w1.heap.size w1 w9 := Below.grown (by repeat (first | exact Below.refl _ _ | refine Below.setCell ?_ (by first | (simp; done) | (simp; omega) | omega) _ | refine Below.alloc ?_ (by first | (simp; done) | (simp; omega) | omega) _ | refine Below.drew ?_ | assumption | refine Below.trans ?_ (Below.mono (by assumption) (by first | (simp; done) | (simp; omega) | omega)))) hgrow6 (by simp; omega) (fun g hg => (HO.out.lt g hg).1); clear hown6 hgrow6))
                    go_roundw
                    case rel => first
                      | exact ⟨k + 1, _, true, _, acc ++ [(na, nb)], by omega, by go_num, rfl, rfl, rfl, by rw [List.length_append, List.length_singleton]; omega, YY, Lib.hid (by first | exact NNN.out | simpa using NNN.out), Lib.hid (by rw [cellsT_append, List.length_append]; exact HO6.out), B6⟩
                      | exact ⟨k + 1, _, false, _, acc ++ [(na, nb)], by omega, by go_num, rfl, rfl, rfl, by rw [List.length_append, List.length_singleton]; omega, YY, Lib.hid (by first | exact NNN.out | simpa using NNN.out), Lib.hid (by rw [cellsT_append, List.length_append]; exact HO6.out), B6⟩
                    case measure => first | (simp [intOf]; done) | (simp [intOf]; omega))
            · have NN := Lib.hid (NO (by rw [PT, hb, show okR (decide (k + 1 = m + 1)) a = false by simpa using hok]; rfl))
              have hcs : (decide (a = [42]) = true ∧ k < m) ∨ (decide (a = [42]) = false ∧ numF a = false) ∨ (decide (a = [42]) = false ∧ numF a = true ∧ decide (a = [48]) = true) := by
                unfold okR at hok
                by_cases h1 : a = [42]
                · rw [if_pos h1] at hok
                  left; simp at hok; exact ⟨decide_eq_true h1, by omega⟩
                · rw [if_neg h1] at hok
                  right
                  cases hn : numF a with
                  | false => left; simp [h1]
                  | true => right; rw [hn] at hok; simp at hok; simp [h1, hok]
              clear NO YES PT hb hok
              generalize decide (a = [42]) = sa at *
              generalize decide (a = [48]) = sz at *
              generalize numF a = oa at *
              generalize (⟨p.toArray⟩ : ByteArray) = SPP at *
              generalize (⟨a.toArray⟩ : ByteArray) = SA at *
              generalize (⟨b.toArray⟩ : ByteArray) = SB at *
              rcases hcs with ⟨rfl, hkm⟩ | ⟨rfl, rfl⟩ | ⟨rfl, rfl, rfl⟩
              · have hkm' : (k : Int) < (m : Int) := by omega
                go_wp2_with (first | (go_at_call 64; refine (CU2.out _).mono ?_; rintro e w3 ⟨⟨qb, qo, qd, rfl, q1, q2, q3⟩, hb3⟩; obtain ⟨hc3, hf3⟩ := bcell hb3; have hs3 := hb3.size; (try simp at hs3)) | (go_at_call 65; (with_reducible refine (PB.out _).mono ?_); rintro e w4 ⟨rfl, hb4⟩; obtain ⟨hc4, hf4⟩ := bcell hb4; have hs4 := hb4.size; have hz4 : qb < w4.heap.size := Nat.lt_of_lt_of_le q1 hs4))
                go_ret2
                exact ⟨pres_nil (rparse_none HS1.out (by rw [HPS.out]; exact NN.out)), (by repeat (first | exact Below.refl _ _ | refine Below.setCell ?_ (by first | (simp; done) | (simp; omega) | omega) _ | refine Below.alloc ?_ (by first | (simp; done) | (simp; omega) | omega) _ | refine Below.drew ?_ | assumption | refine Below.trans ?_ (Below.mono (by assumption) (by first | (simp; done) | (simp; omega) | omega))))⟩
              all_goals (
                go_wp2_with (first | (go_at_call 64; refine (CU2.out _).mono ?_; rintro e w3 ⟨⟨qb, qo, qd, rfl, q1, q2, q3⟩, hb3⟩; obtain ⟨hc3, hf3⟩ := bcell hb3; have hs3 := hb3.size; (try simp at hs3)) | (go_at_call 65; (with_reducible refine (PB.out _).mono ?_); rintro e w4 ⟨rfl, hb4⟩; obtain ⟨hc4, hf4⟩ := bcell hb4; have hs4 := hb4.size; have hz4 : qb < w4.heap.size := Nat.lt_of_lt_of_le q1 hs4) | (go_at_call 65; (with_reducible refine (PA.out _).mono ?_); rintro e w5 ⟨rfl, hb5⟩; obtain ⟨hc5, hf5⟩ := bcell hb5; have hs5 := hb5.size))
                go_ret2
                exact ⟨pres_nil (rparse_none HS1.out (by rw [HPS.out]; exact NN.out)), (by repeat (first | exact Below.refl _ _ | refine Below.setCell ?_ (by first | (simp; done) | (simp; omega) | omega) _ | refine Below.alloc ?_ (by first | (simp; done) | (simp; omega) | omega) _ | refine Below.drew ?_ | assumption | refine Below.trans ?_ (Below.mono (by assumption) (by first | (simp; done) | (simp; omega) | omega))))⟩)
          · have hb' : numF b = false := by simpa using hb
            have NN := Lib.hid (NO (by rw [PT, hb']; rfl))
            rw [hb'] at PB
            clear NO YES PT hb hb'
            generalize (⟨p.toArray⟩ : ByteArray) = SPP at *
            generalize (⟨a.toArray⟩ : ByteArray) = SA at *
            generalize (⟨b.toArray⟩ : ByteArray) = SB at *
            go_wp2_with (first | (go_at_call 64; refine (CU2.out _).mono ?_; rintro e w3 ⟨⟨qb, qo, qd, rfl, q1, q2, q3⟩, hb3⟩; obtain ⟨hc3, hf3⟩ := bcell hb3; have hs3 := hb3.size; (try simp at hs3)) | (go_at_call 65; refine (PB.out _).mono ?_; rintro e w4 ⟨rfl, hb4⟩; obtain ⟨hc4, hf4⟩ := bcell hb4; have hs4 := hb4.size; (try simp at hs4)))
            go_ret2
            exact ⟨pres_nil (rparse_none HS1.out (by rw [HPS.out]; exact NN.out)), (by repeat (first | exact Below.refl _ _ | refine Below.setCell ?_ (by first | (simp; done) | (simp; omega) | omega) _ | refine Below.alloc ?_ (by first | (simp; done) | (simp; omega) | omega) _ | refine Below.drew ?_ | assumption | refine Below.trans ?_ (Below.mono (by assumption) (by first | (simp; done) | (simp; omega) | omega))))⟩
      · obtain rfl : k = m + 1 := by omega
        have hP := rparse_some (s := s) (acc := acc) (g := gg) HS1.out (by rw [HPS.out, HM.out]; exact HP.out)
        rw [HPS.out] at hP
        have hnn := HNN.out.2 rfl
        rw [hak] at HO hP
        obtain ⟨A, c, hA⟩ := own_form HO.out
        subst hA
        have HT := Lib.hid (tiers_own' hak HO.out)
        have CK := Lib.hid (check14_any A (m + 1) c acc hak (by omega) wo HT.out)
        have hgt : ¬ ((m : Int) + 1 < (m : Int) + 1) := by omega
        obtain ⟨P1, P2, P3, P4, P5⟩ := hP
        have P1 := Lib.hid P1; have P2 := Lib.hid P2; have P3 := Lib.hid P3; have P4 := Lib.hid P4; have P5 := Lib.hid P5
        have HAK := Lib.hid hak
        clear hak HP HO HNN
        subst hnn
        generalize starL ps = sl at *
        generalize checkT acc = x at *
        cases sl
        · go_wp2
          go_ret2
          exact ⟨pres_nil (P1.out (by simp)), (by repeat (first | exact Below.refl _ _ | refine Below.setCell ?_ (by first | (simp; done) | (simp; omega) | omega) _ | refine Below.alloc ?_ (by first | (simp; done) | (simp; omega) | omega) _ | refine Below.drew ?_ | assumption | refine Below.trans ?_ (Below.mono (by assumption) (by first | (simp; done) | (simp; omega) | omega))))⟩
        · by_cases h20 : 20 < m + 1
          · have h20' : (20 : Int) < (m : Int) + 1 := by omega
            have H20 := Lib.hid h20
            clear h20
            go_wp2
            go_ret2
            exact ⟨pres_nil (P2.out (by simp) H20.out), (by repeat (first | exact Below.refl _ _ | refine Below.setCell ?_ (by first | (simp; done) | (simp; omega) | omega) _ | refine Below.alloc ?_ (by first | (simp; done) | (simp; omega) | omega) _ | refine Below.drew ?_ | assumption | refine Below.trans ?_ (Below.mono (by assumption) (by first | (simp; done) | (simp; omega) | omega))))⟩
          · have h20' : ¬ (20 : Int) < (m : Int) + 1 := by omega
            have H20 : Hid (m + 1 ≤ 20) := Lib.hid (by omega)
            clear h20
            cases gg
            · go_wp2
              go_ret2
              exact ⟨pres_nil (P3.out (by simp) H20.out (by simp)), (by repeat (first | exact Below.refl _ _ | refine Below.setCell ?_ (by first | (simp; done) | (simp; omega) | omega) _ | refine Below.alloc ?_ (by first | (simp; done) | (simp; omega) | omega) _ | refine Below.drew ?_ | assumption | refine Below.trans ?_ (Below.mono (by assumption) (by first | (simp; done) | (simp; omega) | omega))))⟩
            · by_cases h0 : x = 0
              · subst h0
                go_wp2_with (first | (go_at_call 58; refine (CK.out).mono ?_; rintro e w2 ⟨rfl, hb2⟩; obtain ⟨hc2, hf2⟩ := bcell hb2; have hs2 := hb2.size; (try simp at hs2)))
                go_ret2
                exact ⟨pres_some (P5.out (by simp) H20.out (by simp) (by simp)) HAK.out (HT.out.below (by repeat (first | exact Below.refl _ _ | refine Below.setCell ?_ (by first | (simp; done) | (simp; omega) | omega) _ | refine Below.alloc ?_ (by first | (simp; done) | (simp; omega) | omega) _ | refine Below.drew ?_ | assumption | refine Below.trans ?_ (Below.mono (by assumption) (by first | (simp; done) | (simp; omega) | omega))))), (by repeat (first | exact Below.refl _ _ | refine Below.setCell ?_ (by first | (simp; done) | (simp; omega) | omega) _ | refine Below.alloc ?_ (by first | (simp; done) | (simp; omega) | omega) _ | refine Below.drew ?_ | assumption | refine Below.trans ?_ (Below.mono (by assumption) (by first | (simp; done) | (simp; omega) | omega))))⟩
              · have H0 := Lib.hid h0
                have x0 : (x != 0) = true := by simpa using h0
                go_wp2_with (first | (go_at_call 58; refine (CK.out).mono ?_; rintro e w2 ⟨rfl, hb2⟩; obtain ⟨hc2, hf2⟩ := bcell hb2; have hs2 := hb2.size; (try simp at hs2)))
                go_ret2
                exact ⟨pres_nil (P4.out (by simp) H20.out (by simp) H0.out), (by repeat (first | exact Below.refl _ _ | refine Below.setCell ?_ (by first | (simp; done) | (simp; omega) | omega) _ | refine Below.alloc ?_ (by first | (simp; done) | (simp; omega) | omega) _ | refine Below.drew ?_ | assumption | refine Below.trans ?_ (Below.mono (by assumption) (by first | (simp; done) | (simp; omega) | omega))))⟩
end Go.Proofs.YtdpoahfjiomhbaaGreatDoor
