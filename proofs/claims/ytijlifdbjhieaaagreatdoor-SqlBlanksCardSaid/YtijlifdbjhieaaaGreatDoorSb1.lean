/-
  The walk of SqlBlanks. (Printed by tools/mksb1.py.)
-/
import Derived.Test.YtijlifdbjhieaaaGreatDoorSw1
import Derived.Lib.AppendStr
namespace Go.Proofs.YtijlifdbjhieaaaGreatDoor
set_option linter.all false
open Go.RowKit Go.Shelf Go.Sort
attribute [local go_sem] cell_set_self lt_1 lt_2 lt_3 lt_4 lt_5 lt_6

theorem sz4 : (⟨#[32, 9, 10, 13]⟩ : ByteArray).size = 4 := rfl
theorem byteCells_app (l m : List UInt8) : Lib.byteCells (l ++ m) = Lib.byteCells l ++ Lib.byteCells m := by simp [Lib.byteCells]
set_option maxHeartbeats 16000000 in
set_option maxRecDepth 100000 in
theorem blanks_walk (q : QueryT) (AI AG AO : Option Addr) (cI cG cO : Nat) (cs : List Value) (w : World) (H : QV w q AI AG AO cs) (B : QBig q) (hcG : q.group.length ≤ cG ∧ (AG = none → cG = 0)) (E : Env w) :
    Calls Tryz.prog 4 #[.agg (qCells AI q.items.length cI q.table cs AG q.group.length cG AO q.order.length cO q.limit).toArray] w fun e w' => e = .returned (.bool true) ∧ Below w.heap.size w w' := by
  suffices key : ∀ Q : Ending → World → Prop, Hid (∀ w', Below w.heap.size w w' → Q (.returned (.bool true)) w') → Calls Tryz.prog 4 #[.agg (qCells AI q.items.length cI q.table cs AG q.group.length cG AO q.order.length cO q.limit).toArray] w Q from key _ (Lib.hid fun _ h => ⟨rfl, h⟩)
  intro Q HQ
  have HE := Lib.hid E
  have FI := Lib.hid (fun W (hb : Below w.heap.size w W) => first_any W (E.below hb))
  have FW := Lib.hid (fun W (hb : Below w.heap.size w W) => few_any q AI AG AO cI cG cO cs W (H.below hb) B)
  have NU := Lib.hid (fun e W => num_any e W)
  have FM := Lib.hid (fun (SS : QSm q) W (hb : Below w.heap.size w W) => format_any q AI AG AO cI cG cO cs W (H.below hb) (short_sm SS) (E.below hb) hcG.1 (fun h => query_len SS (Pl.form_ok h)))
  have LQ := Lib.hid (fun (SS : QSm q) W (hb : Below w.heap.size w W) => lquery_any q AI AG AO cI cG cO cs W (H.below hb) (by have := SS.ni; omega) (by have := SS.ng; omega) (by have := SS.no; omega) (lt_sz _ SS.wh) hcG)
  have LB := Lib.hid (fun (SS : QSm q) (AI' AG' AO' : Option Addr) (cI' cG' cO' : Nat) (cs' : List Value) W (hq : QV W q AI' AG' AO' cs') => lbare_any q AI' AG' AO' cI' cG' cO' cs' W hq (lt_sz _ SS.wh))
  have SM := Lib.hid (fun (SS : QSm q) (AI' AG' AO' AI3 AG3 AO3 : Option Addr) (cI' cG' cO' cI3 cG3 cO3 : Nat) (cs' cs3 : List Value) W (hq : QV W (bareQ q) AI' AG' AO' cs') (hq3 : QV W (bareQ q) AI3 AG3 AO3 cs3) => same_any (bareQ q) AI' AG' AO' AI3 AG3 AO3 cI' cG' cO' cI3 cG3 cO3 cs' cs3 W hq hq3 (by have := SS.ni; show q.items.length ≤ _; omega) (by have := SS.ng; show q.group.length ≤ _; omega) (by have := SS.no; show q.order.length ≤ _; omega))
  have BK := Lib.hid (fun (h : formatE q = 0) (hx : (formatX q).length ≤ 10000) => (by rw [(Pl.format_inv h).2.2] at hx ⊢; exact Pl.widen_parse (Pl.format_inv h).1 hx : ∃ r, parseF (Pl.widenF false (formatX q)) = .ok (bareQ q) r))
  obtain ⟨fe, hfe⟩ : ∃ x, formatE q = x := ⟨_, rfl⟩
  obtain ⟨fx, hfx⟩ : ∃ x, formatX q = x := ⟨_, rfl⟩
  rw [hfe, hfx] at FM BK
  have hcv := H.cv
  obtain ⟨I, T, C, G, O, lim⟩ := q
  obtain ⟨y, hy⟩ : ∃ y, bareC C = y := ⟨_, rfl⟩
  have hbq : bareQ ⟨I, T, C, G, O, lim⟩ = ⟨I, T, y, G, O, lim⟩ := by unfold bareQ; rw [hy]
  rw [hbq] at BK SM LB
  obtain ⟨op, args, ⟨lc, lt, ln, ls⟩, ⟨rc, rt, rn, rs⟩⟩ := C
  obtain ⟨AC, cC, rfl, -⟩ := hcv.open
  obtain ⟨op8, args8, ⟨lc8, lt8, ln8, ls8⟩, ⟨rc8, rt8, rn8, rs8⟩⟩ := y
  clear hfe hfx hcv H B hcG E hy hbq
  dsimp only at LB SM
  have eqQ : qCells AI I.length cI T (condC op AC args.length cC ⟨lc, lt, ln, ls⟩ ⟨rc, rt, rn, rs⟩) AG G.length cG AO O.length cO lim = [.slice AI I.length cI, .string ⟨T.toArray⟩, .int .i64 op, .slice AC args.length cC, .string ⟨lc.toArray⟩, .int .i64 lt, .int .i64 ln, .string ⟨ls.toArray⟩, .string ⟨rc.toArray⟩, .int .i64 rt, .int .i64 rn, .string ⟨rs.toArray⟩, .slice AG G.length cG, .slice AO O.length cO, .int .i64 lim] := rfl
  dsimp only at FW FM LQ ⊢
  rw [eqQ] at FW FM LQ ⊢
  clear eqQ
  have z0 : w.heap.size < w.heap.size + 1 := by omega
  obtain ⟨TB, hTB⟩ : ∃ t : ByteArray, (⟨T.toArray⟩ : ByteArray) = t := ⟨_, rfl⟩
  obtain ⟨U1, hU1⟩ : ∃ t : ByteArray, (⟨lc.toArray⟩ : ByteArray) = t := ⟨_, rfl⟩
  obtain ⟨U2, hU2⟩ : ∃ t : ByteArray, (⟨ls.toArray⟩ : ByteArray) = t := ⟨_, rfl⟩
  obtain ⟨U3, hU3⟩ : ∃ t : ByteArray, (⟨rc.toArray⟩ : ByteArray) = t := ⟨_, rfl⟩
  obtain ⟨U4, hU4⟩ : ∃ t : ByteArray, (⟨rs.toArray⟩ : ByteArray) = t := ⟨_, rfl⟩
  rw [hTB, hU1, hU2, hU3, hU4] at FW FM LQ
  rw [hTB, hU1, hU2, hU3, hU4]
  have HTB := Lib.hid hTB
  clear hTB hU1 hU2 hU3 hU4
  go_enter Tryz.func4, Tryz.ntmps4
  go_wp2_with (go_at_call 7; (with_reducible refine (FI.out _ (by repeat (first | (with_reducible assumption) | (with_reducible exact Below.refl _ _) | (with_reducible refine Below.setCell ?_ (by first | (simp; done) | (simp; omega) | omega) _) | (with_reducible refine Below.alloc ?_ (by first | (simp; done) | (simp; omega) | omega) _) | (with_reducible refine Below.drew ?_)))).mono ?_); rintro e w1 ⟨rfl, hb1⟩; obtain ⟨hc1, hf1⟩ := bcell hb1; (try simp only [drew_size, drew_cell, drew_frozen, World.size_alloc, World.size_setCell] at hc1 hf1); have hz1 : w.heap.size < w1.heap.size := (by have := hb1.size; (try simp at this); omega); have hB1 : Below w.heap.size w w1 := (by refine Below.trans ?_ (hb1.mono (by first | (simp; done) | (simp; omega) | omega)); repeat (first | (with_reducible assumption) | (with_reducible exact Below.refl _ _) | (with_reducible refine Below.setCell ?_ (by first | (simp; done) | (simp; omega) | omega) _) | (with_reducible refine Below.alloc ?_ (by first | (simp; done) | (simp; omega) | omega) _) | (with_reducible refine Below.drew ?_))); have hs1 := hB1.size)
  go_at_call 8
  refine (FW.out _ hB1).mono ?_
  rintro e w2 ⟨⟨b, rfl, hQS⟩, hb2⟩
  obtain ⟨hc2, hf2⟩ := bcell hb2; (try simp only [drew_size, drew_cell, drew_frozen, World.size_alloc, World.size_setCell] at hc2 hf2); have hz2 : w.heap.size < w2.heap.size := (by have := hb2.size; (try simp at this); omega)
  have hB2 : Below w.heap.size w w2 := (by refine Below.trans ?_ (hb2.mono (by first | (simp; done) | (simp; omega) | omega)); repeat (first | (with_reducible assumption) | (with_reducible exact Below.refl _ _) | (with_reducible refine Below.setCell ?_ (by first | (simp; done) | (simp; omega) | omega) _) | (with_reducible refine Below.alloc ?_ (by first | (simp; done) | (simp; omega) | omega) _) | (with_reducible refine Below.drew ?_))); have hs2 := hB2.size
  cases b with
  | false =>
    clear hQS
    go_wp2_with (fail)
    exact HQ.out _ hB2
  | true =>
    have SS := hQS rfl
    clear hQS
    have FM := Lib.hid (FM.out SS)
    have LQ := Lib.hid (LQ.out SS)
    have LB := Lib.hid (LB.out SS)
    have SM := Lib.hid (SM.out SS)
    clear SS
    obtain ⟨t, ht⟩ : ∃ t : ByteArray, (⟨fx.toArray⟩ : ByteArray) = t := ⟨_, rfl⟩
    have hsz : fx.length = t.size := by rw [← ht, ba_sz]
    have AT : Hid (∀ (i : Nat) (h : i < t.size), fx.drop i = (t[i]'h) :: fx.drop (i + 1)) := Lib.hid fun i h => by
      subst ht
      rw [List.drop_eq_getElem_cons (by rw [hsz]; exact h)]; rfl
    have HSZ := Lib.hid hsz
    rw [ht] at FM
    clear ht hsz
    go_upto_region 5 with (first | (go_at_call 9; (with_reducible refine (FM.out _ hB2).mono ?_); rintro e w3 ⟨rfl, hb3⟩; obtain ⟨hc3, hf3⟩ := bcell hb3; (try simp only [drew_size, drew_cell, drew_frozen, World.size_alloc, World.size_setCell] at hc3 hf3); have hz3 : w.heap.size < w3.heap.size := (by have := hb3.size; (try simp at this); omega); have hB3 : Below w.heap.size w w3 := (by refine Below.trans ?_ (hb3.mono (by first | (simp; done) | (simp; omega) | omega)); repeat (first | (with_reducible assumption) | (with_reducible exact Below.refl _ _) | (with_reducible refine Below.setCell ?_ (by first | (simp; done) | (simp; omega) | omega) _) | (with_reducible refine Below.alloc ?_ (by first | (simp; done) | (simp; omega) | omega) _) | (with_reducible refine Below.drew ?_))); have hs3 := hB3.size))
    by_cases hE : fe = 0
    · subst hE
      by_cases hl : 10000 < t.size
      · have hl' : 10000 < (t.size : Int) := by omega
        clear hl
        go_wp2_with (first | (go_at_call 10; (with_reducible refine (NU.out _ _).mono ?_); rintro e w4 ⟨rfl, hb4⟩; obtain ⟨hc4, hf4⟩ := bcell hb4; (try simp only [drew_size, drew_cell, drew_frozen, World.size_alloc, World.size_setCell] at hc4 hf4); have hz4 : w.heap.size < w4.heap.size := (by have := hb4.size; (try simp at this); omega); have hB4 : Below w.heap.size w w4 := (by refine Below.trans ?_ (hb4.mono (by first | (simp; done) | (simp; omega) | omega)); repeat (first | (with_reducible assumption) | (with_reducible exact Below.refl _ _) | (with_reducible refine Below.setCell ?_ (by first | (simp; done) | (simp; omega) | omega) _) | (with_reducible refine Below.alloc ?_ (by first | (simp; done) | (simp; omega) | omega) _) | (with_reducible refine Below.drew ?_))); have hs4 := hB4.size))
        exact HQ.out _ hB4
      · have hl' : ¬ 10000 < (t.size : Int) := by omega
        have PG := Lib.hid (fun W (hb : Below w.heap.size w W) => by
          obtain ⟨r, hr⟩ := BK.out rfl (by rw [HSZ.out]; omega)
          exact parse_got (Pl.widenF false fx) (by have := Pl.widen_len fx false; have := HSZ.out; omega) hr W (HE.out.below hb))
        have hlt : t.size ≤ 10000 := by omega
        clear BK FM hl
        go_upto_region 7 with (first | (go_at_call 10; (with_reducible refine (NU.out _ _).mono ?_); rintro e w4 ⟨rfl, hb4⟩; obtain ⟨hc4, hf4⟩ := bcell hb4; (try simp only [drew_size, drew_cell, drew_frozen, World.size_alloc, World.size_setCell] at hc4 hf4); have hz4 : w.heap.size < w4.heap.size := (by have := hb4.size; (try simp at this); omega); have hB4 : Below w.heap.size w w4 := (by refine Below.trans ?_ (hb4.mono (by first | (simp; done) | (simp; omega) | omega)); repeat (first | (with_reducible assumption) | (with_reducible exact Below.refl _ _) | (with_reducible refine Below.setCell ?_ (by first | (simp; done) | (simp; omega) | omega) _) | (with_reducible refine Below.alloc ?_ (by first | (simp; done) | (simp; omega) | omega) _) | (with_reducible refine Below.drew ?_))); have hs4 := hB4.size))
        obtain ⟨i, hi, iz0, iz1, iz2⟩ := info_parts info_u8h
        obtain ⟨n0, hn0⟩ : ∃ n, w4.heap.size = n := ⟨_, rfl⟩
        have hn0w : w.heap.size < n0 := by omega
        have HN0 := Lib.hid hn0
        clear hn0
        go_wp2_with (fail)
        go_loopw [6, 7, 8] (fun b qv j wr => ∃ (k : Nat) (qb : Bool) (acc : List UInt8) (V : Value), k ≤ t.size ∧ acc.length ≤ 4 * k ∧ j = .int .i64 k ∧ qv = .bool qb ∧ V = b ∧ Hid (Pl.widenF false fx = acc ++ Pl.widenF qb (fx.drop k)) ∧ Hid (wr.ownsRow n0 5 1 V acc.length (Lib.byteCells acc)) ∧ Hid (Below n0 w4 wr)) (fun _ _ j _ => t.size - (intOf j).toNat)
        case atStart => exact ⟨0, false, [], _, by omega, by simp, rfl, rfl, rfl, Lib.hid rfl, Lib.hid (World.ownsRow_nil _ _ _ _), Lib.hid (Below.refl _ _)⟩
        case round =>
          obtain ⟨k, qb, acc, V, hk, hak, rfl, rfl, hV, HW, HO, HB⟩ := hrel
          subst hV
          obtain ⟨wo, rfl⟩ : ∃ wo : World, wo = wr := ⟨_, rfl⟩
          have hsb : n0 ≤ wo.heap.size := by have := HB.out.size; rw [HN0.out] at this; exact this
          by_cases hkt : k < t.size
          · have hkt' : (k : Int) < (t.size : Int) := by omega
            have hx := AT.out k hkt
            cases qb with
            | true =>
              by_cases h39 : (t[k]'hkt).toNat = 39
              · have hc := h39; clear h39 
                have e39 : (((t[k]'hkt).toNat : Int) == 39) = true := by rw [hc]; rfl
                have e32 : (((t[k]'hkt).toNat : Int) == 32) = false := by rw [hc]; rfl
                have e44 : (((t[k]'hkt).toNat : Int) == 44) = false := by rw [hc]; rfl
                have e41 : (((t[k]'hkt).toNat : Int) == 41) = false := by rw [hc]; rfl
                have e40 : (((t[k]'hkt).toNat : Int) == 40) = false := by rw [hc]; rfl
                have HW2 : Hid (Pl.widenF false fx = (acc ++ [t[k]'hkt]) ++ Pl.widenF false (fx.drop (k + 1))) := Lib.hid (by rw [HW.out, hx, Pl.widenF, if_pos hc, List.append_assoc]; first | done | rfl)
                clear hx HW hc
                go_wp2_with (first | (at_builtin; refine wpList_append_lies _ rfl _ _ _ rfl (n0) 5 i _ 1 1 Tryz.underlying52 hi iz0 iz1 iz2 rfl (by decide) V (acc.length) _ rfl (HO.out.alloc _) ⟨wo.heap.size, 0, none⟩ 1 1 [.int .u8 ((t[k]'hkt).toNat : Int)] rfl rfl (World.news_of_block (cs := #[.int .u8 ((t[k]'hkt).toNat : Int)]) (t := 5) (fr := (0, 0)) (heap_alloc_new wo _)) (by simp [Value.oneCell']) (by omega) (by unfold maxLen; omega) (by omega) (by simp; omega) (wo.heap.size + 1) (by simp) ?_; intro gg cap w1' hown1 hgrow hat hlt'))
                go_roundw
                case rel => exact ⟨k + 1, false, acc ++ [t[k]'hkt], _, by omega, by simp; omega, by go_num, rfl, rfl, HW2, Lib.hid (by rw [byteCells_snoc, List.length_append]; exact hown1), Lib.hid (below_push HB.out hsb hgrow fun b hb => (HO.out.lt b hb).1)⟩
                case measure => first | (simp [intOf]; done) | (simp [intOf]; omega)
              · skip
                by_cases h32 : (t[k]'hkt).toNat = 32
                · have hc := h32; clear h32 h39
                  have e39 : (((t[k]'hkt).toNat : Int) == 39) = false := by rw [hc]; rfl
                  have e32 : (((t[k]'hkt).toNat : Int) == 32) = true := by rw [hc]; rfl
                  have e44 : (((t[k]'hkt).toNat : Int) == 44) = false := by rw [hc]; rfl
                  have e41 : (((t[k]'hkt).toNat : Int) == 41) = false := by rw [hc]; rfl
                  have e40 : (((t[k]'hkt).toNat : Int) == 40) = false := by rw [hc]; rfl
                  have HW2 : Hid (Pl.widenF false fx = (acc ++ [t[k]'hkt]) ++ Pl.widenF true (fx.drop (k + 1))) := Lib.hid (by rw [HW.out, hx, Pl.widenF, if_neg (by omega), if_neg (by simp), if_neg (by simp), List.append_assoc]; first | done | rfl)
                  clear hx HW hc
                  go_wp2_with (first | (at_builtin; refine wpList_append_lies _ rfl _ _ _ rfl (n0) 5 i _ 1 1 Tryz.underlying52 hi iz0 iz1 iz2 rfl (by decide) V (acc.length) _ rfl (HO.out.alloc _) ⟨wo.heap.size, 0, none⟩ 1 1 [.int .u8 ((t[k]'hkt).toNat : Int)] rfl rfl (World.news_of_block (cs := #[.int .u8 ((t[k]'hkt).toNat : Int)]) (t := 5) (fr := (0, 0)) (heap_alloc_new wo _)) (by simp [Value.oneCell']) (by omega) (by unfold maxLen; omega) (by omega) (by simp; omega) (wo.heap.size + 1) (by simp) ?_; intro gg cap w1' hown1 hgrow hat hlt'))
                  go_roundw
                  case rel => exact ⟨k + 1, true, acc ++ [t[k]'hkt], _, by omega, by simp; omega, by go_num, rfl, rfl, HW2, Lib.hid (by rw [byteCells_snoc, List.length_append]; exact hown1), Lib.hid (below_push HB.out hsb hgrow fun b hb => (HO.out.lt b hb).1)⟩
                  case measure => first | (simp [intOf]; done) | (simp [intOf]; omega)
                · skip
                  have e39 : (((t[k]'hkt).toNat : Int) == 39) = false := by rw [beq_eq_false_iff_ne]; omega
                  have e32 : (((t[k]'hkt).toNat : Int) == 32) = false := by rw [beq_eq_false_iff_ne]; omega
                  have HW2 : Hid (Pl.widenF false fx = (acc ++ [t[k]'hkt]) ++ Pl.widenF true (fx.drop (k + 1))) := Lib.hid (by rw [HW.out, hx, Pl.widenF, if_neg (by omega), if_neg (by simp), if_neg (by simp), List.append_assoc]; first | done | rfl)
                  clear hx HW h39 h32
                  go_wp2_with (first | (at_builtin; refine wpList_append_lies _ rfl _ _ _ rfl (n0) 5 i _ 1 1 Tryz.underlying52 hi iz0 iz1 iz2 rfl (by decide) V (acc.length) _ rfl (HO.out.alloc _) ⟨wo.heap.size, 0, none⟩ 1 1 [.int .u8 ((t[k]'hkt).toNat : Int)] rfl rfl (World.news_of_block (cs := #[.int .u8 ((t[k]'hkt).toNat : Int)]) (t := 5) (fr := (0, 0)) (heap_alloc_new wo _)) (by simp [Value.oneCell']) (by omega) (by unfold maxLen; omega) (by omega) (by simp; omega) (wo.heap.size + 1) (by simp) ?_; intro gg cap w1' hown1 hgrow hat hlt'))
                  go_roundw
                  case rel => exact ⟨k + 1, true, acc ++ [t[k]'hkt], _, by omega, by simp; omega, by go_num, rfl, rfl, HW2, Lib.hid (by rw [byteCells_snoc, List.length_append]; exact hown1), Lib.hid (below_push HB.out hsb hgrow fun b hb => (HO.out.lt b hb).1)⟩
                  case measure => first | (simp [intOf]; done) | (simp [intOf]; omega)
            | false =>
              by_cases h39 : (t[k]'hkt).toNat = 39
              · have hc := h39; clear h39 
                have e39 : (((t[k]'hkt).toNat : Int) == 39) = true := by rw [hc]; rfl
                have e32 : (((t[k]'hkt).toNat : Int) == 32) = false := by rw [hc]; rfl
                have e44 : (((t[k]'hkt).toNat : Int) == 44) = false := by rw [hc]; rfl
                have e41 : (((t[k]'hkt).toNat : Int) == 41) = false := by rw [hc]; rfl
                have e40 : (((t[k]'hkt).toNat : Int) == 40) = false := by rw [hc]; rfl
                have HW2 : Hid (Pl.widenF false fx = (acc ++ [t[k]'hkt]) ++ Pl.widenF true (fx.drop (k + 1))) := Lib.hid (by rw [HW.out, hx, Pl.widenF, if_pos hc, List.append_assoc]; first | done | rfl)
                clear hx HW hc
                go_wp2_with (first | (at_builtin; refine wpList_append_lies _ rfl _ _ _ rfl (n0) 5 i _ 1 1 Tryz.underlying52 hi iz0 iz1 iz2 rfl (by decide) V (acc.length) _ rfl (HO.out.alloc _) ⟨wo.heap.size, 0, none⟩ 1 1 [.int .u8 ((t[k]'hkt).toNat : Int)] rfl rfl (World.news_of_block (cs := #[.int .u8 ((t[k]'hkt).toNat : Int)]) (t := 5) (fr := (0, 0)) (heap_alloc_new wo _)) (by simp [Value.oneCell']) (by omega) (by unfold maxLen; omega) (by omega) (by simp; omega) (wo.heap.size + 1) (by simp) ?_; intro gg cap w1' hown1 hgrow hat hlt'))
                go_roundw
                case rel => exact ⟨k + 1, true, acc ++ [t[k]'hkt], _, by omega, by simp; omega, by go_num, rfl, rfl, HW2, Lib.hid (by rw [byteCells_snoc, List.length_append]; exact hown1), Lib.hid (below_push HB.out hsb hgrow fun b hb => (HO.out.lt b hb).1)⟩
                case measure => first | (simp [intOf]; done) | (simp [intOf]; omega)
              · skip
                by_cases h32 : (t[k]'hkt).toNat = 32
                · have hc := h32; clear h32 h39
                  have e39 : (((t[k]'hkt).toNat : Int) == 39) = false := by rw [hc]; rfl
                  have e32 : (((t[k]'hkt).toNat : Int) == 32) = true := by rw [hc]; rfl
                  have e44 : (((t[k]'hkt).toNat : Int) == 44) = false := by rw [hc]; rfl
                  have e41 : (((t[k]'hkt).toNat : Int) == 41) = false := by rw [hc]; rfl
                  have e40 : (((t[k]'hkt).toNat : Int) == 40) = false := by rw [hc]; rfl
                  have HW2 : Hid (Pl.widenF false fx = (acc ++ [32, 9, 10, 13]) ++ Pl.widenF false (fx.drop (k + 1))) := Lib.hid (by rw [HW.out, hx, Pl.widenF, if_neg (by omega), if_pos ⟨hc, rfl⟩, List.append_assoc]; first | done | rfl)
                  clear hx HW hc
                  go_wp2_with (first | (at_builtin; refine Lib.wpList_append_own_string wo rfl _ _ _ _ rfl n0 5 i Tryz.underlying52 Tryz.underlying9 hi iz0 iz1 iz2 V acc.length _ rfl HO.out ⟨#[32, 9, 10, 13]⟩ rfl (by rw [sz4]; unfold maxLen; omega) (by rw [sz4]; omega) (by omega) ?_; intro v9 w1' hown1 hgrow hnil))
                  go_roundw
                  case rel => exact ⟨k + 1, false, acc ++ [32, 9, 10, 13], _, by omega, by simp; omega, by go_num, rfl, rfl, HW2, Lib.hid (by rw [byteCells_app, List.length_append]; exact hown1), Lib.hid (HB.out.grown hgrow hsb fun b hb => (HO.out.lt b hb).1)⟩
                  case measure => first | (simp [intOf]; done) | (simp [intOf]; omega)
                · skip
                  by_cases h44 : (t[k]'hkt).toNat = 44
                  · have hc := h44; clear h44 h39 h32
                    have e39 : (((t[k]'hkt).toNat : Int) == 39) = false := by rw [hc]; rfl
                    have e32 : (((t[k]'hkt).toNat : Int) == 32) = false := by rw [hc]; rfl
                    have e44 : (((t[k]'hkt).toNat : Int) == 44) = true := by rw [hc]; rfl
                    have e41 : (((t[k]'hkt).toNat : Int) == 41) = false := by rw [hc]; rfl
                    have e40 : (((t[k]'hkt).toNat : Int) == 40) = false := by rw [hc]; rfl
                    have HW2 : Hid (Pl.widenF false fx = (acc ++ [10] ++ [t[k]'hkt]) ++ Pl.widenF false (fx.drop (k + 1))) := Lib.hid (by rw [HW.out, hx, Pl.widenF, if_neg (by omega), if_neg (by omega), if_pos ⟨rfl, by omega⟩, List.append_assoc, List.append_assoc]; first | done | rfl)
                    clear hx HW hc
                    go_wp2_with (first | (at_builtin; refine wpList_append_lies _ rfl _ _ _ rfl (n0) 5 i _ 1 1 Tryz.underlying52 hi iz0 iz1 iz2 rfl (by decide) (.slice (some ⟨gg, 0, none⟩) (acc.length + 1) cap) ((acc.length + 1)) _ rfl ((Lib.hid hown1).out.alloc _) ⟨w1'.heap.size, 0, none⟩ 1 1 [.int .u8 ((t[k]'hkt).toNat : Int)] rfl rfl (World.news_of_block (cs := #[.int .u8 ((t[k]'hkt).toNat : Int)]) (t := 5) (fr := (0, 0)) (heap_alloc_new w1' _)) (by simp [Value.oneCell']) (by omega) (by unfold maxLen; omega) (by omega) (by have := hgrow.size; simp at this ⊢; omega) (w1'.heap.size + 1) (by simp) ?_; intro gg2 cap2 w2' hown2 hgrow2 hat2 hlt2) | (at_builtin; refine wpList_append_lies _ rfl _ _ _ rfl (n0) 5 i _ 1 1 Tryz.underlying52 hi iz0 iz1 iz2 rfl (by decide) V (acc.length) _ rfl (HO.out.alloc _) ⟨wo.heap.size, 0, none⟩ 1 1 [.int .u8 10] rfl rfl (World.news_of_block (cs := #[.int .u8 10]) (t := 5) (fr := (0, 0)) (heap_alloc_new wo _)) (by simp [Value.oneCell']) (by omega) (by unfold maxLen; omega) (by omega) (by simp; omega) (wo.heap.size + 1) (by simp) ?_; intro gg cap w1' hown1 hgrow hat hlt'))
                    go_roundw
                    case rel => exact ⟨k + 1, false, acc ++ [10] ++ [t[k]'hkt], _, by omega, by simp; omega, by go_num, rfl, rfl, HW2, Lib.hid (by rw [byteCells_snoc, byteCells_snoc, List.length_append, List.length_append]; exact hown2), Lib.hid (below_push (below_push HB.out hsb hgrow fun b hb => (HO.out.lt b hb).1) (by have := hgrow.size; simp at this; omega) hgrow2 fun b hb => (hown1.lt b hb).1)⟩
                    case measure => first | (simp [intOf]; done) | (simp [intOf]; omega)
                  · skip
                    by_cases h41 : (t[k]'hkt).toNat = 41
                    · have hc := h41; clear h41 h39 h32 h44
                      have e39 : (((t[k]'hkt).toNat : Int) == 39) = false := by rw [hc]; rfl
                      have e32 : (((t[k]'hkt).toNat : Int) == 32) = false := by rw [hc]; rfl
                      have e44 : (((t[k]'hkt).toNat : Int) == 44) = false := by rw [hc]; rfl
                      have e41 : (((t[k]'hkt).toNat : Int) == 41) = true := by rw [hc]; rfl
                      have e40 : (((t[k]'hkt).toNat : Int) == 40) = false := by rw [hc]; rfl
                      have HW2 : Hid (Pl.widenF false fx = (acc ++ [10] ++ [t[k]'hkt]) ++ Pl.widenF false (fx.drop (k + 1))) := Lib.hid (by rw [HW.out, hx, Pl.widenF, if_neg (by omega), if_neg (by omega), if_pos ⟨rfl, by omega⟩, List.append_assoc, List.append_assoc]; first | done | rfl)
                      clear hx HW hc
                      go_wp2_with (first | (at_builtin; refine wpList_append_lies _ rfl _ _ _ rfl (n0) 5 i _ 1 1 Tryz.underlying52 hi iz0 iz1 iz2 rfl (by decide) (.slice (some ⟨gg, 0, none⟩) (acc.length + 1) cap) ((acc.length + 1)) _ rfl ((Lib.hid hown1).out.alloc _) ⟨w1'.heap.size, 0, none⟩ 1 1 [.int .u8 ((t[k]'hkt).toNat : Int)] rfl rfl (World.news_of_block (cs := #[.int .u8 ((t[k]'hkt).toNat : Int)]) (t := 5) (fr := (0, 0)) (heap_alloc_new w1' _)) (by simp [Value.oneCell']) (by omega) (by unfold maxLen; omega) (by omega) (by have := hgrow.size; simp at this ⊢; omega) (w1'.heap.size + 1) (by simp) ?_; intro gg2 cap2 w2' hown2 hgrow2 hat2 hlt2) | (at_builtin; refine wpList_append_lies _ rfl _ _ _ rfl (n0) 5 i _ 1 1 Tryz.underlying52 hi iz0 iz1 iz2 rfl (by decide) V (acc.length) _ rfl (HO.out.alloc _) ⟨wo.heap.size, 0, none⟩ 1 1 [.int .u8 10] rfl rfl (World.news_of_block (cs := #[.int .u8 10]) (t := 5) (fr := (0, 0)) (heap_alloc_new wo _)) (by simp [Value.oneCell']) (by omega) (by unfold maxLen; omega) (by omega) (by simp; omega) (wo.heap.size + 1) (by simp) ?_; intro gg cap w1' hown1 hgrow hat hlt'))
                      go_roundw
                      case rel => exact ⟨k + 1, false, acc ++ [10] ++ [t[k]'hkt], _, by omega, by simp; omega, by go_num, rfl, rfl, HW2, Lib.hid (by rw [byteCells_snoc, byteCells_snoc, List.length_append, List.length_append]; exact hown2), Lib.hid (below_push (below_push HB.out hsb hgrow fun b hb => (HO.out.lt b hb).1) (by have := hgrow.size; simp at this; omega) hgrow2 fun b hb => (hown1.lt b hb).1)⟩
                      case measure => first | (simp [intOf]; done) | (simp [intOf]; omega)
                    · skip
                      by_cases h40 : (t[k]'hkt).toNat = 40
                      · have hc := h40; clear h40 h39 h32 h44 h41
                        have e39 : (((t[k]'hkt).toNat : Int) == 39) = false := by rw [hc]; rfl
                        have e32 : (((t[k]'hkt).toNat : Int) == 32) = false := by rw [hc]; rfl
                        have e44 : (((t[k]'hkt).toNat : Int) == 44) = false := by rw [hc]; rfl
                        have e41 : (((t[k]'hkt).toNat : Int) == 41) = false := by rw [hc]; rfl
                        have e40 : (((t[k]'hkt).toNat : Int) == 40) = true := by rw [hc]; rfl
                        have HW2 : Hid (Pl.widenF false fx = (acc ++ [10] ++ [t[k]'hkt]) ++ Pl.widenF false (fx.drop (k + 1))) := Lib.hid (by rw [HW.out, hx, Pl.widenF, if_neg (by omega), if_neg (by omega), if_pos ⟨rfl, by omega⟩, List.append_assoc, List.append_assoc]; first | done | rfl)
                        clear hx HW hc
                        go_wp2_with (first | (at_builtin; refine wpList_append_lies _ rfl _ _ _ rfl (n0) 5 i _ 1 1 Tryz.underlying52 hi iz0 iz1 iz2 rfl (by decide) (.slice (some ⟨gg, 0, none⟩) (acc.length + 1) cap) ((acc.length + 1)) _ rfl ((Lib.hid hown1).out.alloc _) ⟨w1'.heap.size, 0, none⟩ 1 1 [.int .u8 ((t[k]'hkt).toNat : Int)] rfl rfl (World.news_of_block (cs := #[.int .u8 ((t[k]'hkt).toNat : Int)]) (t := 5) (fr := (0, 0)) (heap_alloc_new w1' _)) (by simp [Value.oneCell']) (by omega) (by unfold maxLen; omega) (by omega) (by have := hgrow.size; simp at this ⊢; omega) (w1'.heap.size + 1) (by simp) ?_; intro gg2 cap2 w2' hown2 hgrow2 hat2 hlt2) | (at_builtin; refine wpList_append_lies _ rfl _ _ _ rfl (n0) 5 i _ 1 1 Tryz.underlying52 hi iz0 iz1 iz2 rfl (by decide) V (acc.length) _ rfl (HO.out.alloc _) ⟨wo.heap.size, 0, none⟩ 1 1 [.int .u8 10] rfl rfl (World.news_of_block (cs := #[.int .u8 10]) (t := 5) (fr := (0, 0)) (heap_alloc_new wo _)) (by simp [Value.oneCell']) (by omega) (by unfold maxLen; omega) (by omega) (by simp; omega) (wo.heap.size + 1) (by simp) ?_; intro gg cap w1' hown1 hgrow hat hlt'))
                        go_roundw
                        case rel => exact ⟨k + 1, false, acc ++ [10] ++ [t[k]'hkt], _, by omega, by simp; omega, by go_num, rfl, rfl, HW2, Lib.hid (by rw [byteCells_snoc, byteCells_snoc, List.length_append, List.length_append]; exact hown2), Lib.hid (below_push (below_push HB.out hsb hgrow fun b hb => (HO.out.lt b hb).1) (by have := hgrow.size; simp at this; omega) hgrow2 fun b hb => (hown1.lt b hb).1)⟩
                        case measure => first | (simp [intOf]; done) | (simp [intOf]; omega)
                      · skip
                        have e39 : (((t[k]'hkt).toNat : Int) == 39) = false := by rw [beq_eq_false_iff_ne]; omega
                        have e32 : (((t[k]'hkt).toNat : Int) == 32) = false := by rw [beq_eq_false_iff_ne]; omega
                        have e44 : (((t[k]'hkt).toNat : Int) == 44) = false := by rw [beq_eq_false_iff_ne]; omega
                        have e41 : (((t[k]'hkt).toNat : Int) == 41) = false := by rw [beq_eq_false_iff_ne]; omega
                        have e40 : (((t[k]'hkt).toNat : Int) == 40) = false := by rw [beq_eq_false_iff_ne]; omega
                        have HW2 : Hid (Pl.widenF false fx = (acc ++ [t[k]'hkt]) ++ Pl.widenF false (fx.drop (k + 1))) := Lib.hid (by rw [HW.out, hx, Pl.widenF, if_neg (by omega), if_neg (by omega), if_neg (by omega), List.append_assoc]; first | done | rfl)
                        clear hx HW h39 h32 h44 h41 h40
                        go_wp2_with (first | (at_builtin; refine wpList_append_lies _ rfl _ _ _ rfl (n0) 5 i _ 1 1 Tryz.underlying52 hi iz0 iz1 iz2 rfl (by decide) V (acc.length) _ rfl (HO.out.alloc _) ⟨wo.heap.size, 0, none⟩ 1 1 [.int .u8 ((t[k]'hkt).toNat : Int)] rfl rfl (World.news_of_block (cs := #[.int .u8 ((t[k]'hkt).toNat : Int)]) (t := 5) (fr := (0, 0)) (heap_alloc_new wo _)) (by simp [Value.oneCell']) (by omega) (by unfold maxLen; omega) (by omega) (by simp; omega) (wo.heap.size + 1) (by simp) ?_; intro gg cap w1' hown1 hgrow hat hlt'))
                        go_roundw
                        case rel => exact ⟨k + 1, false, acc ++ [t[k]'hkt], _, by omega, by simp; omega, by go_num, rfl, rfl, HW2, Lib.hid (by rw [byteCells_snoc, List.length_append]; exact hown1), Lib.hid (below_push HB.out hsb hgrow fun b hb => (HO.out.lt b hb).1)⟩
                        case measure => first | (simp [intOf]; done) | (simp [intOf]; omega)
          · obtain rfl : t.size = k := by omega
            have hkk : ¬ (t.size : Int) < (t.size : Int) := by omega
            have hnil : fx.drop t.size = [] := List.drop_eq_nil_of_le (by rw [HSZ.out]; exact Nat.le_refl _)
            have hacc : Pl.widenF false fx = acc := by rw [HW.out, hnil]; cases qb <;> simp [Pl.widenF]
            rw [hacc] at PG
            clear hnil hacc HW AT
            obtain ⟨A, c, hVs, TB, -⟩ := own_bs HO.out
            subst hVs
            have CV := conv_bs TB
            obtain ⟨hc7, hf7⟩ := bcell (W := w4) (w1 := wo) (by rw [HN0.out]; exact HB.out)
            have hBo : Below w.heap.size w wo := hB4.trans (HB.out.mono (by omega))
            have hso := hBo.size
            have hz7 : w.heap.size < wo.heap.size := by omega
            obtain ⟨u, hu⟩ : ∃ u : ByteArray, (⟨acc.toArray⟩ : ByteArray) = u := ⟨_, rfl⟩
            rw [hu] at CV PG
            clear hu TB HO HSZ
            go_wp2_with (fail)
            go_at_call 11
            refine (PG.out _ hBo).mono ?_
            rintro e w5 ⟨⟨AI5, cI5, AG5, cG5, AO5, cO5, cs5, rfl, hq5, -, -⟩, hb5⟩
            obtain ⟨hc5, hf5⟩ := bcell hb5; (try simp only [drew_size, drew_cell, drew_frozen, World.size_alloc, World.size_setCell] at hc5 hf5); have hz5 : w.heap.size < w5.heap.size := (by have := hb5.size; (try simp at this); omega)
            have hB5 : Below w.heap.size w w5 := hBo.trans (hb5.mono (by omega))
            have hs5 := hB5.size
            have hcv5 := hq5.cv
            obtain ⟨A5, c5, rfl, -⟩ := hcv5.open
            have HQ5 := Lib.hid hq5
            have SM5 : Hid (∀ (AI3 AG3 AO3 : Option Addr) (cI3 cG3 cO3 : Nat) (cs3 : List Value) W, QV W ⟨I, T, .mk op8 args8 ⟨lc8, lt8, ln8, ls8⟩ ⟨rc8, rt8, rn8, rs8⟩, G, O, lim⟩ AI5 AG5 AO5 (condC op8 A5 args8.length c5 ⟨lc8, lt8, ln8, ls8⟩ ⟨rc8, rt8, rn8, rs8⟩) → QV W ⟨I, T, .mk op8 args8 ⟨lc8, lt8, ln8, ls8⟩ ⟨rc8, rt8, rn8, rs8⟩, G, O, lim⟩ AI3 AG3 AO3 cs3 → Calls Tryz.prog 12 #[.agg #[.slice AI5 I.length cI5, .string ⟨T.toArray⟩, .int .i64 op8, .slice A5 args8.length c5, .string ⟨lc8.toArray⟩, .int .i64 lt8, .int .i64 ln8, .string ⟨ls8.toArray⟩, .string ⟨rc8.toArray⟩, .int .i64 rt8, .int .i64 rn8, .string ⟨rs8.toArray⟩, .slice AG5 G.length cG5, .slice AO5 O.length cO5, .int .i64 lim], .agg (qCells AI3 I.length cI3 T cs3 AG3 G.length cG3 AO3 O.length cO3 lim).toArray] W fun e w' => e = .returned (.bool true) ∧ Below W.heap.size W w') := Lib.hid (by
              intro AI3 AG3 AO3 cI3 cG3 cO3 cs3 W h1 h2
              have h := SM.out AI5 AG5 AO5 AI3 AG3 AO3 cI5 cG5 cO5 cI3 cG3 cO3 _ cs3 W h1 h2
              have eq5 : qCells AI5 I.length cI5 T (condC op8 A5 args8.length c5 ⟨lc8, lt8, ln8, ls8⟩ ⟨rc8, rt8, rn8, rs8⟩) AG5 G.length cG5 AO5 O.length cO5 lim = [.slice AI5 I.length cI5, .string ⟨T.toArray⟩, .int .i64 op8, .slice A5 args8.length c5, .string ⟨lc8.toArray⟩, .int .i64 lt8, .int .i64 ln8, .string ⟨ls8.toArray⟩, .string ⟨rc8.toArray⟩, .int .i64 rt8, .int .i64 rn8, .string ⟨rs8.toArray⟩, .slice AG5 G.length cG5, .slice AO5 O.length cO5, .int .i64 lim] := rfl
              rw [eq5] at h
              exact h)
            dsimp only [qCells, condC, termC, List.cons_append, List.nil_append]
            clear hq5 hcv5 PG SM
            have HQ5W0 : Hid (∀ W, Below w5.heap.size w5 W → QV W ⟨I, T, .mk op8 args8 ⟨lc8, lt8, ln8, ls8⟩ ⟨rc8, rt8, rn8, rs8⟩, G, O, lim⟩ AI5 AG5 AO5 (condC op8 A5 args8.length c5 ⟨lc8, lt8, ln8, ls8⟩ ⟨rc8, rt8, rn8, rs8⟩)) := Lib.hid fun W hb => HQ5.out.below hb
            go_upto_region 20 with (fail)
            refine name_world ?_; intro W00 hW00
            have HQ5W1 : Hid (QV W00 ⟨I, T, .mk op8 args8 ⟨lc8, lt8, ln8, ls8⟩ ⟨rc8, rt8, rn8, rs8⟩, G, O, lim⟩ AI5 AG5 AO5 (condC op8 A5 args8.length c5 ⟨lc8, lt8, ln8, ls8⟩ ⟨rc8, rt8, rn8, rs8⟩)) := Lib.hid (by rw [hW00]; exact HQ5W0.out _ (by repeat (first | (with_reducible exact Below.refl _ _) | (with_reducible refine Below.setCell ?_ (by first | (simp; done) | (simp; omega)) _) | (with_reducible refine Below.alloc ?_ (by first | (simp; done) | (simp; omega)) _))))
            have kW0 : W00.cell? ⟨w.heap.size, 0, none⟩ = some (.slice AI I.length cI) ∧ W00.cell? ⟨w.heap.size, 1, none⟩ = some (.string TB) ∧ W00.cell? ⟨w.heap.size, 2, none⟩ = some (.int .i64 op) ∧ W00.cell? ⟨w.heap.size, 3, none⟩ = some (.slice AC args.length cC) ∧ W00.cell? ⟨w.heap.size, 4, none⟩ = some (.string U1) ∧ W00.cell? ⟨w.heap.size, 5, none⟩ = some (.int .i64 lt) ∧ W00.cell? ⟨w.heap.size, 6, none⟩ = some (.int .i64 ln) ∧ W00.cell? ⟨w.heap.size, 7, none⟩ = some (.string U2) ∧ W00.cell? ⟨w.heap.size, 8, none⟩ = some (.string U3) ∧ W00.cell? ⟨w.heap.size, 9, none⟩ = some (.int .i64 rt) ∧ W00.cell? ⟨w.heap.size, 10, none⟩ = some (.int .i64 rn) ∧ W00.cell? ⟨w.heap.size, 11, none⟩ = some (.string U4) ∧ W00.cell? ⟨w.heap.size, 12, none⟩ = some (.slice AG G.length cG) ∧ W00.cell? ⟨w.heap.size, 13, none⟩ = some (.slice AO O.length cO) ∧ W00.cell? ⟨w.heap.size, 14, none⟩ = some (.int .i64 lim) ∧ W00.cell? ⟨w5.heap.size, 0, none⟩ = some (.slice AI5 I.length cI5) ∧ W00.cell? ⟨w5.heap.size, 1, none⟩ = some (.string ⟨T.toArray⟩) ∧ W00.cell? ⟨w5.heap.size, 2, none⟩ = some (.int .i64 op8) ∧ W00.cell? ⟨w5.heap.size, 3, none⟩ = some (.slice A5 args8.length c5) ∧ W00.cell? ⟨w5.heap.size, 4, none⟩ = some (.string ⟨lc8.toArray⟩) ∧ W00.cell? ⟨w5.heap.size, 5, none⟩ = some (.int .i64 lt8) ∧ W00.cell? ⟨w5.heap.size, 6, none⟩ = some (.int .i64 ln8) ∧ W00.cell? ⟨w5.heap.size, 7, none⟩ = some (.string ⟨ls8.toArray⟩) ∧ W00.cell? ⟨w5.heap.size, 8, none⟩ = some (.string ⟨rc8.toArray⟩) ∧ W00.cell? ⟨w5.heap.size, 9, none⟩ = some (.int .i64 rt8) ∧ W00.cell? ⟨w5.heap.size, 10, none⟩ = some (.int .i64 rn8) ∧ W00.cell? ⟨w5.heap.size, 11, none⟩ = some (.string ⟨rs8.toArray⟩) ∧ W00.cell? ⟨w5.heap.size, 12, none⟩ = some (.slice AG5 G.length cG5) ∧ W00.cell? ⟨w5.heap.size, 13, none⟩ = some (.slice AO5 O.length cO5) ∧ W00.cell? ⟨w5.heap.size, 14, none⟩ = some (.int .i64 lim) ∧ w.heap.size < W00.heap.size ∧ w5.heap.size < W00.heap.size ∧ Below w.heap.size w W00 := by { rw [hW00]; exact (by (refine ⟨?_, ?_, ?_, ?_, ?_, ?_, ?_, ?_, ?_, ?_, ?_, ?_, ?_, ?_, ?_, ?_, ?_, ?_, ?_, ?_, ?_, ?_, ?_, ?_, ?_, ?_, ?_, ?_, ?_, ?_, ?_, ?_, ?_⟩ <;> first | (simp [go_sem, *]; done) | omega | (simp; omega) | exact (by repeat (first | (with_reducible exact Below.refl _ _) | (with_reducible assumption) | (with_reducible refine Below.setCell ?_ (by first | (simp; done) | (simp; omega) | omega) _) | (with_reducible refine Below.alloc ?_ (by first | (simp; done) | (simp; omega) | omega) _) | (with_reducible refine Below.drew ?_) | (with_reducible refine Below.trans ?_ (Below.mono (by assumption) (by first | (simp; done) | (simp; omega) | omega))))))) }
            clear hW00
            obtain ⟨W0, rfl⟩ : ∃ W, W = W00 := ⟨_, rfl⟩
            obtain ⟨cW0_0, cW0_1, cW0_2, cW0_3, cW0_4, cW0_5, cW0_6, cW0_7, cW0_8, cW0_9, cW0_10, cW0_11, cW0_12, cW0_13, cW0_14, cW0_15, cW0_16, cW0_17, cW0_18, cW0_19, cW0_20, cW0_21, cW0_22, cW0_23, cW0_24, cW0_25, cW0_26, cW0_27, cW0_28, cW0_29, zW0_0, zW0_1, bW0⟩ := kW0
            have HQ5W : Hid (∀ W, Below W0.heap.size W0 W → QV W ⟨I, T, .mk op8 args8 ⟨lc8, lt8, ln8, ls8⟩ ⟨rc8, rt8, rn8, rs8⟩, G, O, lim⟩ AI5 AG5 AO5 (condC op8 A5 args8.length c5 ⟨lc8, lt8, ln8, ls8⟩ ⟨rc8, rt8, rn8, rs8⟩)) := Lib.hid fun W hb => HQ5W1.out.below hb
            clear HQ5W0 HQ5W1 HQ5
            go_region_held3 (fun w' => (∀ b o, b < W0.heap.size → w'.cell? ⟨b, o, none⟩ = W0.cell? ⟨b, o, none⟩) ∧ Below W0.heap.size W0 w') (exact keepW (by repeat (first | (with_reducible exact Below.refl _ _) | (with_reducible assumption) | (with_reducible refine Below.setCell ?_ (by first | (simp; done) | (simp; omega) | omega) _) | (with_reducible refine Below.alloc ?_ (by first | (simp; done) | (simp; omega) | omega) _) | (with_reducible refine Below.drew ?_) | (with_reducible refine Below.trans ?_ (Below.mono (by assumption) (by first | (simp; done) | (simp; omega) | omega)))))) ((first | (go_at_call 10; (with_reducible refine (NU.out _ _).mono ?_); rintro e w6 ⟨rfl, hb6⟩; have hB6 : Below W0.heap.size W0 w6 := (Below.trans (by repeat (first | (with_reducible exact Below.refl _ _) | (with_reducible assumption) | (with_reducible refine Below.setCell ?_ (by first | (simp; done) | (simp; omega) | omega) _) | (with_reducible refine Below.alloc ?_ (by first | (simp; done) | (simp; omega) | omega) _) | (with_reducible refine Below.drew ?_))) (hb6.mono (by first | (simp; done) | (simp; omega) | omega))); have hs6 := hB6.size) | (go_at_call 14; (with_reducible refine (LQ.out _ (bW0.trans (Below.mono (by repeat (first | (with_reducible exact Below.refl _ _) | (with_reducible assumption) | (with_reducible refine Below.setCell ?_ (by first | (simp; done) | (simp; omega) | omega) _) | (with_reducible refine Below.alloc ?_ (by first | (simp; done) | (simp; omega) | omega) _) | (with_reducible refine Below.drew ?_))) bW0.size))).mono ?_); rintro e w7 ⟨⟨AI7, cI7, AG7, cG7, AO7, cO7, cs7, rfl, hq7⟩, hb7⟩; have HQ7 := Lib.hid hq7; clear hq7; have hB7 : Below W0.heap.size W0 w7 := (Below.trans (by repeat (first | (with_reducible exact Below.refl _ _) | (with_reducible assumption) | (with_reducible refine Below.setCell ?_ (by first | (simp; done) | (simp; omega) | omega) _) | (with_reducible refine Below.alloc ?_ (by first | (simp; done) | (simp; omega) | omega) _) | (with_reducible refine Below.drew ?_))) (hb7.mono (by first | (simp; done) | (simp; omega) | omega))); have hs7 := hB7.size) | (go_at_call 13; (with_reducible refine (LB.out _ _ _ _ _ _ _ _ HQ7.out).mono ?_); rintro e w8 ⟨⟨cs8, rfl, hq8⟩, hb8⟩; have HQ8 := Lib.hid hq8; clear hq8; have hB8 : Below W0.heap.size W0 w8 := (Below.trans (by repeat (first | (with_reducible exact Below.refl _ _) | (with_reducible assumption) | (with_reducible refine Below.setCell ?_ (by first | (simp; done) | (simp; omega) | omega) _) | (with_reducible refine Below.alloc ?_ (by first | (simp; done) | (simp; omega) | omega) _) | (with_reducible refine Below.drew ?_))) (hb8.mono (by first | (simp; done) | (simp; omega) | omega))); have hs8 := hB8.size) | (go_at_call 12; (with_reducible refine (SM5.out _ _ _ _ _ _ _ _ (HQ5W.out _ (by repeat (first | (with_reducible exact Below.refl _ _) | (with_reducible assumption) | (with_reducible refine Below.setCell ?_ (by first | (simp; done) | (simp; omega) | omega) _) | (with_reducible refine Below.alloc ?_ (by first | (simp; done) | (simp; omega) | omega) _) | (with_reducible refine Below.drew ?_)))) HQ8.out).mono ?_); rintro e w9 ⟨rfl, hb9⟩; have hB9 : Below W0.heap.size W0 w9 := (Below.trans (by repeat (first | (with_reducible exact Below.refl _ _) | (with_reducible assumption) | (with_reducible refine Below.setCell ?_ (by first | (simp; done) | (simp; omega) | omega) _) | (with_reducible refine Below.alloc ?_ (by first | (simp; done) | (simp; omega) | omega) _) | (with_reducible refine Below.drew ?_))) (hb9.mono (by first | (simp; done) | (simp; omega) | omega))); have hs9 := hB9.size)))
            all_goals (
              go_wp2_with (fail)
              exact HQ.out _ (bW0.trans (Below.mono hB9 bW0.size)))
    · have e1 : (fe != 0) = true := by simp [hE]
      clear hE BK FM
      go_wp2_with (first | (go_at_call 10; (with_reducible refine (NU.out _ _).mono ?_); rintro e w4 ⟨rfl, hb4⟩; obtain ⟨hc4, hf4⟩ := bcell hb4; (try simp only [drew_size, drew_cell, drew_frozen, World.size_alloc, World.size_setCell] at hc4 hf4); have hz4 : w.heap.size < w4.heap.size := (by have := hb4.size; (try simp at this); omega); have hB4 : Below w.heap.size w w4 := (by refine Below.trans ?_ (hb4.mono (by first | (simp; done) | (simp; omega) | omega)); repeat (first | (with_reducible assumption) | (with_reducible exact Below.refl _ _) | (with_reducible refine Below.setCell ?_ (by first | (simp; done) | (simp; omega) | omega) _) | (with_reducible refine Below.alloc ?_ (by first | (simp; done) | (simp; omega) | omega) _) | (with_reducible refine Below.drew ?_))); have hs4 := hB4.size))
      exact HQ.out _ hB4
end Go.Proofs.YtijlifdbjhieaaaGreatDoor
