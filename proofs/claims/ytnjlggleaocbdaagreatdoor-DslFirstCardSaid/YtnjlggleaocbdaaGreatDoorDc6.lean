/-
  Contract of the lexer's text. (Printed by tools/mkdc6.py.)
-/
import Derived.Test.YtnjlggleaocbdaaGreatDoorDc5
import Derived.StillTailTactics
namespace Go.Proofs.YtnjlggleaocbdaaGreatDoor
set_option linter.all false
open Go.RowKit Go.Shelf
attribute [local go_sem] cell_set_self lt_1 lt_2 lt_3 lt_4 lt_5 lt_6

/-- A token's value. -/
def tkV (t : Tk0) (p : Nat) : Value := .agg #[.int .u8 t.k, .string ⟨t.s.toArray⟩, .int .i64 t.n, .int .i64 (p : Int)]
theorem LxS.gr {w W : World} {lb B : Nat} {l : List UInt8} {p : Nat} (h : LxS W lb l p) (h2 : W = w) : LxS w lb l p := h2 ▸ h
theorem Bs.gr {w W : World} {lb c : Nat} {A : Option Addr} {l : List UInt8} (T : Bs w A c l) (h : Gr w.heap.size lb w W) (hA : ∀ a, A = some a → ¬ a.block = lb) : Bs W A c l := ⟨T.1, T.2.1, fun i v hi => by
  obtain ⟨b, off, h1, h2, h3⟩ := T.2.2 i v hi
  exact ⟨b, off, h1, Nat.lt_of_lt_of_le h2 h.size, by rw [(gcell h).1 b _ h2 (hA _ h1)]; exact h3⟩⟩
theorem quo_end {x : UInt8} (h : x.toNat = 34) (r : List UInt8) (i : Nat) (acc : List UInt8) : quoF (x :: r) i acc = some (acc, i + 1) := by
  rw [quoF.eq_def]; simp only; rw [if_pos h]
theorem quo_odd {x : UInt8} (h : ¬ x.toNat = 34) (hs : seeB x = false) (r : List UInt8) (i : Nat) (acc : List UInt8) : quoF (x :: r) i acc = none := by
  rw [quoF.eq_def]; simp only; rw [if_neg h, if_pos hs]
theorem quo_other {x : UInt8} (h : ¬ x.toNat = 34) (hs : seeB x = true) (h2 : ¬ x.toNat = 92) (r : List UInt8) (i : Nat) (acc : List UInt8) : quoF (x :: r) i acc = quoF r (i + 1) (acc ++ [x]) := by
  rw [quoF.eq_def]; simp only; rw [if_neg h, if_neg (by simp [hs]), if_neg h2]
theorem quo_esc0 {x : UInt8} (h2 : x.toNat = 92) (i : Nat) (acc : List UInt8) : quoF [x] i acc = none := by
  rw [quoF.eq_def]; simp only; rw [if_neg (by omega), if_neg (by simp [seeB, h2]), if_pos h2]
theorem quo_esc {x y : UInt8} (h2 : x.toNat = 92) (hy : y.toNat = 34 ∨ y.toNat = 92) (r : List UInt8) (i : Nat) (acc : List UInt8) : quoF (x :: y :: r) i acc = quoF r (i + 2) (acc ++ [y]) := by
  rw [quoF.eq_def]; simp only; rw [if_neg (by omega), if_neg (by simp [seeB, h2]), if_pos h2, if_pos hy]
theorem quo_escN {x y : UInt8} (h2 : x.toNat = 92) (hy : ¬ (y.toNat = 34 ∨ y.toNat = 92)) (r : List UInt8) (i : Nat) (acc : List UInt8) : quoF (x :: y :: r) i acc = none := by
  rw [quoF.eq_def]; simp only; rw [if_neg (by omega), if_neg (by simp [seeB, h2]), if_pos h2, if_neg hy]
def quoR (q : UInt8) (R : Option (List UInt8 × Nat)) : Tk0 × Nat := match R with
  | some (a, n) => (⟨if textB a = true then 116 else 33, a, 0⟩, n)
  | none => (⟨33, [q], 0⟩, 1)
set_option maxHeartbeats 16000000 in
set_option maxRecDepth 100000 in
theorem text_any (lb : Nat) (q : UInt8) (r : List UInt8) (p : Nat) (hs : (q :: r).length ≤ 1000000000) (w : World) (H : LxS w lb (q :: r) p) :
    Calls Tryz.prog 83 #[.pointer (some ⟨lb, 0, none⟩)] w fun e w' => e = .returned (tkV (quotedF q r).1 p) ∧ LxS w' lb ((q :: r).drop (quotedF q r).2) p ∧ Gr w.heap.size lb w w' := by
  suffices key : ∀ Q : Ending → World → Prop, Hid (∀ t n w', quotedF q r = (t, n) → LxS w' lb ((q :: r).drop n) p → Gr w.heap.size lb w w' → Q (.returned (tkV t p)) w') → Calls Tryz.prog 83 #[.pointer (some ⟨lb, 0, none⟩)] w Q from key _ (Lib.hid fun t n w' h1 h2 h3 => by rw [h1]; exact ⟨rfl, h2, h3⟩)
  intro Q HQ
  obtain ⟨i, hi, iz0, iz1, iz2⟩ := info_parts info_u8h
  obtain ⟨R, hR⟩ : ∃ R, quoF r 1 [] = R := ⟨_, rfl⟩
  have HF : Hid (∀ t n w', quoR q R = (t, n) → LxS w' lb ((q :: r).drop n) p → Gr w.heap.size lb w w' → Q (.returned (tkV t p)) w') := Lib.hid fun t n w' h h2 h3 => by
    have : quotedF q r = (t, n) := by unfold quotedF; rw [hR]; exact h
    exact HQ.out t n w' this h2 h3
  have hq1 : (q :: r).take 1 = [q] := rfl
  obtain ⟨L, hL⟩ : ∃ L, q :: r = L := ⟨_, rfl⟩
  have hR1 : Hid (quoF (L.drop 1) 1 [] = R) := Lib.hid (by rw [← hL]; exact hR)
  have h0 : 0 < L.length := by rw [← hL]; simp
  rw [hL] at hs H HF hq1
  have HH := Lib.hid H
  have hlb := H.lt
  have TK := Lib.hid (fun (k n : Nat) (z : Int) (hz : z = (n : Int)) (hn : n ≤ L.length) W (h : LxS W lb L p) => (by subst hz; exact take_any lb L p k n hn hs W h : Calls Tryz.prog 81 #[.pointer (some ⟨lb, 0, none⟩), .int .u8 (k : Int), .int .i64 z] W fun e w' => e = .returned (.agg #[.int .u8 (k : Int), .string ⟨(L.take n).toArray⟩, .int .i64 0, .int .i64 (p : Int)]) ∧ LxS w' lb (L.drop n) p ∧ Gr W.heap.size lb W w'))
  have TKB : Hid (∀ W, LxS W lb L p → Calls Tryz.prog 81 #[.pointer (some ⟨lb, 0, none⟩), .int .u8 33, .int .i64 1] W fun e w' => e = .returned (.agg #[.int .u8 33, .string ⟨#[q]⟩, .int .i64 0, .int .i64 (p : Int)]) ∧ LxS w' lb (L.drop 1) p ∧ Gr W.heap.size lb W w') := Lib.hid fun W h => by
    have := TK.out 33 1 1 rfl (by omega) W h
    rw [hq1] at this; exact this
  have TKT : Hid (∀ (k : Nat), k + 1 ≤ L.length → ∀ W, LxS W lb L p → Calls Tryz.prog 81 #[.pointer (some ⟨lb, 0, none⟩), .int .u8 116, .int .i64 ((k : Int) + 1)] W fun e w' => e = .returned (.agg #[.int .u8 116, .string ⟨(L.take (k + 1)).toArray⟩, .int .i64 0, .int .i64 (p : Int)]) ∧ LxS w' lb (L.drop (k + 1)) p ∧ Gr W.heap.size lb W w') := Lib.hid fun k hk W h => TK.out 116 (k + 1) ((k : Int) + 1) (by omega) hk W h
  obtain ⟨c0, c1, f0, f1⟩ := H
  clear hL HQ hR hq1 TK
  obtain ⟨t, ht⟩ : ∃ t : ByteArray, (⟨L.toArray⟩ : ByteArray) = t := ⟨_, rfl⟩
  have hsz : L.length = t.size := by rw [← ht, ba_sz]
  have AT : Hid (∀ (i : Nat) (h : i < t.size), L.drop i = (t[i]'h) :: L.drop (i + 1)) := Lib.hid fun i h => by
    subst ht
    rw [List.drop_eq_getElem_cons (by rw [hsz]; exact h)]; rfl
  have HSZ := Lib.hid hsz
  rw [hsz] at hs h0
  rw [ht] at c0
  clear ht hsz
  have TX := Lib.hid (fun (a : List UInt8) (ha : a.length ≤ 1000000000) W => isText_any a (by omega) W)
  have hnl : ¬ w.heap.size = lb ∧ ¬ lb = w.heap.size := by omega
  go_enter Tryz.func83, Tryz.ntmps83
  go_wp2_with (fail)
  go_loopw [3, 4] (fun b j wr => ∃ (k : Nat) (acc : List UInt8) (V : Value), 1 ≤ k ∧ k ≤ t.size ∧ acc.length < k ∧ j = .int .i64 k ∧ V = b ∧ Hid (quoF (L.drop k) k acc = R) ∧ Hid (wr.ownsRow (w.heap.size + 1) 5 1 V acc.length (Lib.byteCells acc)) ∧ Hid (Below (w.heap.size + 1) (w.alloc (.cells #[.int .u8 0, .string ⟨#[]⟩, .int .i64 0, .int .i64 0] 83)) wr)) (fun _ j _ => t.size - (intOf j).toNat)
  case atStart => exact ⟨1, [], _, by omega, by omega, by simp, rfl, rfl, hR1, Lib.hid (World.ownsRow_nil _ _ _ _), Lib.hid (Below.refl _ _)⟩
  case round =>
    obtain ⟨k, acc, V, hk1, hk, hak, rfl, hV, HQ, HO, HB⟩ := hrel
    subst hV
    obtain ⟨wo, rfl⟩ : ∃ wo : World, wo = wr := ⟨_, rfl⟩
    obtain ⟨hcb, hfb⟩ := bcell (W := w.alloc (.cells #[.int .u8 0, .string ⟨#[]⟩, .int .i64 0, .int .i64 0] 83)) (w1 := wo) (by simpa using HB.out)
    simp only [World.size_alloc] at hcb hfb
    have hsb : w.heap.size + 1 ≤ wo.heap.size := by have := HB.out.size; simpa using this
    have hlw : Below w.heap.size w wo := ((Below.refl w.heap.size w).alloc (Nat.le_refl _) _).trans (HB.out.mono (Nat.le_succ _))
    have HLX := Lib.hid (HH.out.below hlw)
    have hlo : lb < wo.heap.size := by omega
    have hz5 : w.heap.size < wo.heap.size := by omega
    by_cases hkt : k < t.size
    · have hkt' : (k : Int) < (t.size : Int) := by omega
      have hx := AT.out k hkt
      by_cases h34 : (t[k]'hkt).toNat = 34
      · have e34 : (((t[k]'hkt).toNat : Int) == 34) = true := by rw [h34]; rfl
        have HR : Hid (R = some (acc, k + 1)) := Lib.hid (by rw [← HQ.out, hx, quo_end h34])
        obtain ⟨A, c, hVs, TB, hAb⟩ := own_bs HO.out
        subst hVs
        have TX' := Lib.hid (fun W => TX.out acc (by omega) W)
        have TK2 := Lib.hid (fun W h => TKT.out k (by have := HSZ.out; omega) W h)
        have HTB := Lib.hid TB
        have HAB := Lib.hid (fun (a : Addr) (e : A = some a) => (by have := hAb a e; omega : ¬ a.block = lb))
        clear TX hx HQ HO TB hAb TKT TKB h34
        obtain ⟨X1, hX1⟩ : ∃ u : ByteArray, (⟨(L.take (k + 1)).toArray⟩ : ByteArray) = u := ⟨_, rfl⟩
        rw [hX1] at TK2
        clear hX1
        obtain ⟨u, hu⟩ : ∃ u : ByteArray, (⟨acc.toArray⟩ : ByteArray) = u := ⟨_, rfl⟩
        have HU := Lib.hid hu
        rw [hu] at TX'
        clear hu
        go_wp2_with (fail)
        go_at_call 81
        refine (TK2.out _ HLX.out).mono ?_
        rintro e w5 ⟨rfl, hL5, hg5⟩
        have HL5 := Lib.hid hL5
        have HG5 : Hid (Gr w.heap.size lb w w5) := Lib.hid (Gr.trans (Gr.of_below hlw) hg5 (by omega))
        obtain ⟨hc5, hf5⟩ := gcell hg5
        have hs5 := hg5.size
        have hz6 : w.heap.size < w5.heap.size ∧ ¬ w5.heap.size = lb ∧ ¬ lb = w5.heap.size := by omega
        have CV5 := fun o => conv_bs (((HTB.out.gr hg5 HAB.out).below ((Below.refl _ w5).alloc (Nat.le_refl _) o)))
        rw [HU.out] at CV5
        clear hL5
        cases htx : textB acc with
        | true =>
          rw [htx] at TX'
          have FN : Hid (quoR q R = (⟨116, acc, 0⟩, k + 1)) := Lib.hid (by rw [HR.out]; simp [quoR, htx])
          clear htx
          go_wp2_with (first | (go_at_call 61; (with_reducible refine (TX'.out _).mono ?_); rintro e w6 ⟨rfl, hb6⟩; obtain ⟨hc6, hf6⟩ := bcell hb6; (try simp only [World.size_alloc, World.size_setCell] at hc6 hf6); have hs6 := hb6.size; (try simp at hs6); have hz7 : w.heap.size < w6.heap.size ∧ w5.heap.size < w6.heap.size := (by omega)))
          exact bodyPost_ret (v := .agg #[.int .u8 116, .string u, .int .i64 0, .int .i64 (p : Int)]) (by simp [results, Tryz.results83, go_sem, *]) rfl (by rw [← HU.out]; exact HF.out _ _ _ FN.out (by repeat (first | (with_reducible exact HL5.out) | (with_reducible refine LxS.below ?_ (by assumption)) | (with_reducible refine LxS.alloc ?_ _) | (with_reducible refine LxS.far ?_ (by dsimp only; omega) _))) (by repeat (first | (with_reducible exact HG5.out) | ((with_reducible refine Gr.setCell ?_ ?hq1 _); (case hq1 => (left; (first | (simp; done) | (simp; omega) | omega)))) | ((with_reducible refine Gr.alloc ?_ ?hq1 _); (case hq1 => (first | (simp; done) | (simp; omega) | omega))) | refine Gr.below ?_ (by assumption) (by (first | (simp; done) | (simp; omega) | omega)))))
        | false =>
          rw [htx] at TX'
          have FN : Hid (quoR q R = (⟨33, acc, 0⟩, k + 1)) := Lib.hid (by rw [HR.out]; simp [quoR, htx])
          clear htx
          go_wp2_with (first | (go_at_call 61; (with_reducible refine (TX'.out _).mono ?_); rintro e w6 ⟨rfl, hb6⟩; obtain ⟨hc6, hf6⟩ := bcell hb6; (try simp only [World.size_alloc, World.size_setCell] at hc6 hf6); have hs6 := hb6.size; (try simp at hs6); have hz7 : w.heap.size < w6.heap.size ∧ w5.heap.size < w6.heap.size := (by omega)))
          exact bodyPost_ret (v := .agg #[.int .u8 33, .string u, .int .i64 0, .int .i64 (p : Int)]) (by simp [results, Tryz.results83, go_sem, *]) rfl (by rw [← HU.out]; exact HF.out _ _ _ FN.out (by repeat (first | (with_reducible exact HL5.out) | (with_reducible refine LxS.below ?_ (by assumption)) | (with_reducible refine LxS.alloc ?_ _) | (with_reducible refine LxS.far ?_ (by dsimp only; omega) _))) (by repeat (first | (with_reducible exact HG5.out) | ((with_reducible refine Gr.setCell ?_ ?hq1 _); (case hq1 => (left; (first | (simp; done) | (simp; omega) | omega)))) | ((with_reducible refine Gr.alloc ?_ ?hq1 _); (case hq1 => (first | (simp; done) | (simp; omega) | omega))) | refine Gr.below ?_ (by assumption) (by (first | (simp; done) | (simp; omega) | omega)))))
      · have e34 : (((t[k]'hkt).toNat : Int) == 34) = false := by rw [beq_eq_false_iff_ne]; omega
        by_cases hsee : seeB (t[k]'hkt) = true
        · have hsee' := hsee
          simp only [seeB, Bool.and_eq_true, decide_eq_true_eq] at hsee'
          have s1 : ¬ ((t[k]'hkt).toNat : Int) < 32 := by omega
          have s2 : ¬ 126 < ((t[k]'hkt).toNat : Int) := by omega
          by_cases h92 : (t[k]'hkt).toNat = 92
          · have e92 : (((t[k]'hkt).toNat : Int) == 92) = true := by rw [h92]; rfl
            by_cases hk2 : k + 1 < t.size
            · have hk2' : (k : Int) + 1 < (t.size : Int) := by omega
              have ek : (((k : Int) + 1) == (t.size : Int)) = false := by rw [beq_eq_false_iff_ne]; omega
              have hx2 := AT.out (k + 1) hk2
              by_cases hy : (t[k+1]'hk2).toNat = 34 ∨ (t[k+1]'hk2).toNat = 92
              · have HQ2 : Hid (quoF (L.drop (k + 1 + 1)) (k + 1 + 1) (acc ++ [t[k+1]'hk2]) = R) := Lib.hid (by rw [← HQ.out, hx, hx2, quo_esc h92 hy])
                by_cases hy1 : (t[k+1]'hk2).toNat = 34
                · have y1 : (((t[k+1]'hk2).toNat : Int) != 34) = false := by rw [hy1]; rfl
                  clear hx hx2 HQ hy hy1 h92 h34 hsee hsee' TKT TKB
                  go_wp2_with (first | (at_builtin; refine wpList_append_lies _ rfl _ _ _ rfl (w.heap.size + 1) 5 i _ 1 1 Tryz.underlying69 hi iz0 iz1 iz2 rfl (by decide) V (acc.length) _ rfl (HO.out.alloc _) ⟨wo.heap.size, 0, none⟩ 1 1 [.int .u8 ((t[k+1]'hk2).toNat : Int)] rfl rfl (World.news_of_block (cs := #[.int .u8 ((t[k+1]'hk2).toNat : Int)]) (t := 5) (fr := (0, 0)) (heap_alloc_new wo _)) (by simp [Value.oneCell']) (by omega) (by unfold maxLen; omega) (by omega) (by simp; omega) (wo.heap.size + 1) (by simp) ?_; intro gg cap w1' hown1 hgrow hat hlt'))
                  go_roundw
                  case rel => exact ⟨k + 1 + 1, acc ++ [t[k+1]'hk2], _, by omega, by omega, by simp; omega, by go_num, rfl, HQ2, Lib.hid (by rw [byteCells_snoc, List.length_append]; exact hown1), Lib.hid (below_push HB.out hsb hgrow fun b hb => (HO.out.lt b hb).1)⟩
                  case measure => first | (simp [intOf]; done) | (simp [intOf]; omega)
                · have y1 : (((t[k+1]'hk2).toNat : Int) != 34) = true := by rw [bne_iff_ne]; omega
                  have y2 : (((t[k+1]'hk2).toNat : Int) != 92) = false := by rw [hy.resolve_left hy1]; rfl
                  clear hx hx2 HQ hy hy1 h92 h34 hsee hsee' TKT TKB
                  go_wp2_with (first | (at_builtin; refine wpList_append_lies _ rfl _ _ _ rfl (w.heap.size + 1) 5 i _ 1 1 Tryz.underlying69 hi iz0 iz1 iz2 rfl (by decide) V (acc.length) _ rfl (HO.out.alloc _) ⟨wo.heap.size, 0, none⟩ 1 1 [.int .u8 ((t[k+1]'hk2).toNat : Int)] rfl rfl (World.news_of_block (cs := #[.int .u8 ((t[k+1]'hk2).toNat : Int)]) (t := 5) (fr := (0, 0)) (heap_alloc_new wo _)) (by simp [Value.oneCell']) (by omega) (by unfold maxLen; omega) (by omega) (by simp; omega) (wo.heap.size + 1) (by simp) ?_; intro gg cap w1' hown1 hgrow hat hlt'))
                  go_roundw
                  case rel => exact ⟨k + 1 + 1, acc ++ [t[k+1]'hk2], _, by omega, by omega, by simp; omega, by go_num, rfl, HQ2, Lib.hid (by rw [byteCells_snoc, List.length_append]; exact hown1), Lib.hid (below_push HB.out hsb hgrow fun b hb => (HO.out.lt b hb).1)⟩
                  case measure => first | (simp [intOf]; done) | (simp [intOf]; omega)
              · have y1 : (((t[k+1]'hk2).toNat : Int) != 34) = true := by rw [bne_iff_ne]; omega
                have y2 : (((t[k+1]'hk2).toNat : Int) != 92) = true := by rw [bne_iff_ne]; omega
                have FN : Hid (quoR q R = (⟨33, [q], 0⟩, 1)) := Lib.hid (by rw [← HQ.out, hx, hx2, quo_escN h92 hy]; rfl)
                clear hx hx2 HQ hy h92 h34 hsee hsee' TKT HO
                go_wp2_with (fail)
                go_at_call 81
                refine (TKB.out _ HLX.out).mono ?_
                rintro e w5 ⟨rfl, hL5, hg5⟩
                have HL5 := Lib.hid hL5
                have HG5 : Hid (Gr w.heap.size lb w w5) := Lib.hid (Gr.trans (Gr.of_below hlw) hg5 (by omega))
                obtain ⟨hc5, hf5⟩ := gcell hg5
                have hs5 := hg5.size
                have hz6 : w.heap.size < w5.heap.size ∧ ¬ w5.heap.size = lb ∧ ¬ lb = w5.heap.size := by omega
                clear hL5
                go_wp2_with (fail)
                exact bodyPost_ret (v := .agg #[.int .u8 33, .string ⟨#[q]⟩, .int .i64 0, .int .i64 (p : Int)]) (by simp [results, Tryz.results83, go_sem, *]) rfl (HF.out _ _ _ FN.out (by repeat (first | (with_reducible exact HL5.out) | (with_reducible refine LxS.below ?_ (by assumption)) | (with_reducible refine LxS.alloc ?_ _) | (with_reducible refine LxS.far ?_ (by dsimp only; omega) _))) (by repeat (first | (with_reducible exact HG5.out) | ((with_reducible refine Gr.setCell ?_ ?hq1 _); (case hq1 => (left; (first | (simp; done) | (simp; omega) | omega)))) | ((with_reducible refine Gr.alloc ?_ ?hq1 _); (case hq1 => (first | (simp; done) | (simp; omega) | omega))) | refine Gr.below ?_ (by assumption) (by (first | (simp; done) | (simp; omega) | omega)))))
            · have ek : (((k : Int) + 1) == (t.size : Int)) = true := by rw [beq_iff_eq]; omega
              have FN : Hid (quoR q R = (⟨33, [q], 0⟩, 1)) := Lib.hid (by
                have hn : L.drop (k + 1) = [] := List.drop_eq_nil_of_le (by rw [HSZ.out]; omega)
                rw [← HQ.out, hx, hn, quo_esc0 h92]; rfl)
              clear hx HQ h92 h34 hsee hsee' TKT HO hk2
              go_wp2_with (fail)
              go_at_call 81
              refine (TKB.out _ HLX.out).mono ?_
              rintro e w5 ⟨rfl, hL5, hg5⟩
              have HL5 := Lib.hid hL5
              have HG5 : Hid (Gr w.heap.size lb w w5) := Lib.hid (Gr.trans (Gr.of_below hlw) hg5 (by omega))
              obtain ⟨hc5, hf5⟩ := gcell hg5
              have hs5 := hg5.size
              have hz6 : w.heap.size < w5.heap.size ∧ ¬ w5.heap.size = lb ∧ ¬ lb = w5.heap.size := by omega
              clear hL5
              go_wp2_with (fail)
              exact bodyPost_ret (v := .agg #[.int .u8 33, .string ⟨#[q]⟩, .int .i64 0, .int .i64 (p : Int)]) (by simp [results, Tryz.results83, go_sem, *]) rfl (HF.out _ _ _ FN.out (by repeat (first | (with_reducible exact HL5.out) | (with_reducible refine LxS.below ?_ (by assumption)) | (with_reducible refine LxS.alloc ?_ _) | (with_reducible refine LxS.far ?_ (by dsimp only; omega) _))) (by repeat (first | (with_reducible exact HG5.out) | ((with_reducible refine Gr.setCell ?_ ?hq1 _); (case hq1 => (left; (first | (simp; done) | (simp; omega) | omega)))) | ((with_reducible refine Gr.alloc ?_ ?hq1 _); (case hq1 => (first | (simp; done) | (simp; omega) | omega))) | refine Gr.below ?_ (by assumption) (by (first | (simp; done) | (simp; omega) | omega)))))
          · have e92 : (((t[k]'hkt).toNat : Int) == 92) = false := by rw [beq_eq_false_iff_ne]; omega
            have HQ2 : Hid (quoF (L.drop (k + 1)) (k + 1) (acc ++ [t[k]'hkt]) = R) := Lib.hid (by rw [← HQ.out, hx, quo_other h34 hsee h92])
            clear hx HQ h92 h34 hsee hsee' TKT TKB
            go_wp2_with (first | (at_builtin; refine wpList_append_lies _ rfl _ _ _ rfl (w.heap.size + 1) 5 i _ 1 1 Tryz.underlying69 hi iz0 iz1 iz2 rfl (by decide) V (acc.length) _ rfl (HO.out.alloc _) ⟨wo.heap.size, 0, none⟩ 1 1 [.int .u8 ((t[k]'hkt).toNat : Int)] rfl rfl (World.news_of_block (cs := #[.int .u8 ((t[k]'hkt).toNat : Int)]) (t := 5) (fr := (0, 0)) (heap_alloc_new wo _)) (by simp [Value.oneCell']) (by omega) (by unfold maxLen; omega) (by omega) (by simp; omega) (wo.heap.size + 1) (by simp) ?_; intro gg cap w1' hown1 hgrow hat hlt'))
            go_roundw
            case rel => exact ⟨k + 1, acc ++ [t[k]'hkt], _, by omega, by omega, by simp; omega, by go_num, rfl, HQ2, Lib.hid (by rw [byteCells_snoc, List.length_append]; exact hown1), Lib.hid (below_push HB.out hsb hgrow fun b hb => (HO.out.lt b hb).1)⟩
            case measure => first | (simp [intOf]; done) | (simp [intOf]; omega)
        · have FN : Hid (quoR q R = (⟨33, [q], 0⟩, 1)) := Lib.hid (by rw [← HQ.out, hx, quo_odd h34 (by simpa using hsee)]; rfl)
          by_cases s1 : ((t[k]'hkt).toNat : Int) < 32
          · clear hx HQ h34 hsee TKT HO
            go_wp2_with (fail)
            go_at_call 81
            refine (TKB.out _ HLX.out).mono ?_
            rintro e w5 ⟨rfl, hL5, hg5⟩
            have HL5 := Lib.hid hL5
            have HG5 : Hid (Gr w.heap.size lb w w5) := Lib.hid (Gr.trans (Gr.of_below hlw) hg5 (by omega))
            obtain ⟨hc5, hf5⟩ := gcell hg5
            have hs5 := hg5.size
            have hz6 : w.heap.size < w5.heap.size ∧ ¬ w5.heap.size = lb ∧ ¬ lb = w5.heap.size := by omega
            clear hL5
            go_wp2_with (fail)
            exact bodyPost_ret (v := .agg #[.int .u8 33, .string ⟨#[q]⟩, .int .i64 0, .int .i64 (p : Int)]) (by simp [results, Tryz.results83, go_sem, *]) rfl (HF.out _ _ _ FN.out (by repeat (first | (with_reducible exact HL5.out) | (with_reducible refine LxS.below ?_ (by assumption)) | (with_reducible refine LxS.alloc ?_ _) | (with_reducible refine LxS.far ?_ (by dsimp only; omega) _))) (by repeat (first | (with_reducible exact HG5.out) | ((with_reducible refine Gr.setCell ?_ ?hq1 _); (case hq1 => (left; (first | (simp; done) | (simp; omega) | omega)))) | ((with_reducible refine Gr.alloc ?_ ?hq1 _); (case hq1 => (first | (simp; done) | (simp; omega) | omega))) | refine Gr.below ?_ (by assumption) (by (first | (simp; done) | (simp; omega) | omega)))))
          · have s2 : 126 < ((t[k]'hkt).toNat : Int) := by
              simp only [seeB, Bool.and_eq_true, decide_eq_true_eq] at hsee
              omega
            clear hx HQ h34 hsee TKT HO
            go_wp2_with (fail)
            go_at_call 81
            refine (TKB.out _ HLX.out).mono ?_
            rintro e w5 ⟨rfl, hL5, hg5⟩
            have HL5 := Lib.hid hL5
            have HG5 : Hid (Gr w.heap.size lb w w5) := Lib.hid (Gr.trans (Gr.of_below hlw) hg5 (by omega))
            obtain ⟨hc5, hf5⟩ := gcell hg5
            have hs5 := hg5.size
            have hz6 : w.heap.size < w5.heap.size ∧ ¬ w5.heap.size = lb ∧ ¬ lb = w5.heap.size := by omega
            clear hL5
            go_wp2_with (fail)
            exact bodyPost_ret (v := .agg #[.int .u8 33, .string ⟨#[q]⟩, .int .i64 0, .int .i64 (p : Int)]) (by simp [results, Tryz.results83, go_sem, *]) rfl (HF.out _ _ _ FN.out (by repeat (first | (with_reducible exact HL5.out) | (with_reducible refine LxS.below ?_ (by assumption)) | (with_reducible refine LxS.alloc ?_ _) | (with_reducible refine LxS.far ?_ (by dsimp only; omega) _))) (by repeat (first | (with_reducible exact HG5.out) | ((with_reducible refine Gr.setCell ?_ ?hq1 _); (case hq1 => (left; (first | (simp; done) | (simp; omega) | omega)))) | ((with_reducible refine Gr.alloc ?_ ?hq1 _); (case hq1 => (first | (simp; done) | (simp; omega) | omega))) | refine Gr.below ?_ (by assumption) (by (first | (simp; done) | (simp; omega) | omega)))))
    · obtain rfl : k = t.size := by omega
      have hkk : ¬ (t.size : Int) < (t.size : Int) := by omega
      have hn : L.drop t.size = [] := List.drop_eq_nil_of_le (by rw [HSZ.out]; omega)
      have FN : Hid (quoR q R = (⟨33, [q], 0⟩, 1)) := Lib.hid (by rw [← HQ.out, hn]; rfl)
      clear hn HO HQ TKT
      go_wp2_with (fail)
      go_at_call 81
      refine (TKB.out _ HLX.out).mono ?_
      rintro e w5 ⟨rfl, hL5, hg5⟩
      have HL5 := Lib.hid hL5
      have HG5 : Hid (Gr w.heap.size lb w w5) := Lib.hid (Gr.trans (Gr.of_below hlw) hg5 (by omega))
      obtain ⟨hc5, hf5⟩ := gcell hg5
      have hs5 := hg5.size
      have hz6 : w.heap.size < w5.heap.size ∧ ¬ w5.heap.size = lb ∧ ¬ lb = w5.heap.size := by omega
      clear hL5
      go_wp2_with (fail)
      exact bodyPost_ret (v := .agg #[.int .u8 33, .string ⟨#[q]⟩, .int .i64 0, .int .i64 (p : Int)]) (by simp [results, Tryz.results83, go_sem, *]) rfl (HF.out _ _ _ FN.out (by repeat (first | (with_reducible exact HL5.out) | (with_reducible refine LxS.below ?_ (by assumption)) | (with_reducible refine LxS.alloc ?_ _) | (with_reducible refine LxS.far ?_ (by dsimp only; omega) _))) (by repeat (first | (with_reducible exact HG5.out) | ((with_reducible refine Gr.setCell ?_ ?hq1 _); (case hq1 => (left; (first | (simp; done) | (simp; omega) | omega)))) | ((with_reducible refine Gr.alloc ?_ ?hq1 _); (case hq1 => (first | (simp; done) | (simp; omega) | omega))) | refine Gr.below ?_ (by assumption) (by (first | (simp; done) | (simp; omega) | omega)))))
end Go.Proofs.YtnjlggleaocbdaaGreatDoor
