/-
  Contract of sql.tokens: a range over its function gives a text's tokens one by one.
-/
import Derived.Test.YtijlifdbjhieaaaGreatDoorSc5
import Derived.RangeFuncNested
import Derived.RangeFuncBound
import Derived.RangeFuncCalls
import Derived.RangeFuncLeaves
import Derived.Shelf.Abstract
import Derived.Shelf.RegionOpen
import Derived.OwnWalkIn
import Derived.TacticsInMore
import Derived.LoopNIn
import Derived.LoopIn
namespace Go.Proofs.YtijlifdbjhieaaaGreatDoor
set_option linter.all false
open Go.RowKit Go.Shelf
attribute [local go_sem] cell_set_self lt_1 lt_2 lt_3 lt_4 lt_5 lt_6 Oper.semAt_some

def tokV (t : Tok) : Value := .agg #[.int .u8 t.k, .string ⟨t.s.toArray⟩, .int .i64 t.n, .int .i64 (t.p : Int)]
theorem tokens_any (s : ByteArray) (w : World) : Calls Tryz.prog 28 #[.string s] w fun e w' => e = .returned (.func (.func 54) #[] #[.pointer (some ⟨w.heap.size, 0, none⟩)]) ∧ w' = w.alloc (.cells #[.string s] 9) := by
  go_enter Tryz.func28, Tryz.ntmps28
  go_wp2
  go_ret
  exact ⟨rfl, rfl⟩
theorem quo_len : ∀ (n : Nat) (r : List UInt8) (i : Nat) (acc : List UInt8) (a : List UInt8) (m : Nat), r.length ≤ n → quoF r i acc = some (a, m) → i + 1 ≤ m ∧ m ≤ i + r.length
  | 0, r, i, acc, a, m, hn, h => by
    obtain rfl : r = [] := List.eq_nil_of_length_eq_zero (by omega)
    simp [quoF] at h
  | n + 1, [], i, acc, a, m, hn, h => by simp [quoF] at h
  | n + 1, c :: r, i, acc, a, m, hn, h => by
    by_cases h39 : c.toNat = 39
    · cases r with
      | nil =>
        rw [quo_end h39] at h
        injection h with h; injection h with h1 h2
        simp; omega
      | cons d r' =>
        by_cases hd : d.toNat = 39
        · rw [quo_two h39 hd] at h
          have := quo_len n r' (i + 2) _ a m (by simp at hn; omega) h
          simp; omega
        · rw [quo_stop h39 hd] at h
          injection h with h; injection h with h1 h2
          simp; omega
    · rw [quo_other h39] at h
      have := quo_len n r (i + 1) _ a m (by simp at hn; omega) h
      simp; omega
theorem next_len (c : UInt8) (r : List UInt8) : 1 ≤ (nextF c r).2 ∧ (nextF c r).2 ≤ r.length + 1 := by
  unfold nextF
  split
  · have := span_le r; simp; omega
  · split
    · unfold quotedF
      cases h : quoF r 1 [] with
      | none => simp
      | some x =>
        obtain ⟨a, n⟩ := x
        have := quo_len r.length r 1 [] a n (Nat.le_refl _) h
        simp only
        split
        · simp; omega
        · simp
    · split
      · rename_i h
        have : r ≠ [] := by intro e; subst e; simp [isEq, headB] at h
        have := List.length_pos_iff.2 this
        simp; omega
      · split <;> simp
theorem lex_over (f p : Nat) : lexF (f + 1) p [] = [⟨101, [], 0, p⟩] := rfl
theorem lex_blank {f p : Nat} {c : UInt8} {r : List UInt8} (h : blankB c = true) : lexF (f + 1) p (c :: r) = lexF f (p + 1) r := by
  rw [lexF, if_pos h]
theorem lex_bad {f p : Nat} {c : UInt8} {r : List UInt8} (h : blankB c = false) (h2 : (nextF c r).1.k = 33) : lexF (f + 1) p (c :: r) = [(nextF c r).1.at p] := by
  rw [lexF, if_neg (by simp [h]), if_pos h2]
theorem lex_tok {f p : Nat} {c : UInt8} {r : List UInt8} (h : blankB c = false) (h2 : (nextF c r).1.k ≠ 33) : lexF (f + 1) p (c :: r) = (nextF c r).1.at p :: lexF f (p + (nextF c r).2) ((c :: r).drop (nextF c r).2) := by
  rw [lexF, if_neg (by simp [h]), if_neg h2]
theorem ext_back (L : List UInt8) (k : Nat) : (⟨L.toArray⟩ : ByteArray).extract k (⟨L.toArray⟩ : ByteArray).size = ⟨(L.drop k).toArray⟩ := by
  apply ByteArray.ext
  simp only [ByteArray.data_extract, ByteArray.size, List.size_toArray, List.extract_toArray, List.extract_eq_drop_take]
  rw [List.take_of_length_le (by simp)]
theorem abides_below {β : Type} {B : Nat} {J : β → World → Prop} (hJ : AbidesFrom B J) {s : β} {W W' : World} (h : J s W) (hb : Below W.heap.size W W') : J s W' :=
  hJ s W W' none h ⟨hb.os, hb.tape, hb.output, hb.size, fun i hi _ => hb.block i hi⟩ (fun r e => by cases e)
/-- The row that a slice in the box b names. -/
def Rw (b : Nat) (W : World) (k : Nat) : Prop := ∃ n cap, W.cell? ⟨b, 0, none⟩ = some (.slice (some ⟨k, 0, none⟩) n cap)
/-- What a round of Collect's loop keeps: what lay below n0, and every box but b and the row that it names. -/
def KpT (n0 b : Nat) (W W' : World) : Prop :=
  Below n0 W W' ∧ (∀ k o, W.heap[k]? = some o → o.isCells = true → k ≠ b → ¬ Rw b W k → W'.heap[k]? = some o) ∧ ∀ k, Rw b W' k → Rw b W k ∨ (W.heap.size ≤ k ∧ k < W'.heap.size)
theorem KpT.trans {n0 b : Nat} {A B C : World} (h : KpT n0 b A B) (k : KpT n0 b B C) : KpT n0 b A C := by
  refine ⟨h.1.trans k.1, fun i o hi ho hb hr => ?_, fun i hi => ?_⟩
  · refine k.2.1 i o (h.2.1 i o hi ho hb hr) ho hb fun hr2 => ?_
    rcases h.2.2 i hr2 with h1 | h1
    · exact hr h1
    · have := (Array.getElem?_eq_some_iff.1 hi).1; omega
  · rcases k.2.2 i hi with h1 | h1
    · rcases h.2.2 i h1 with h2 | h2
      · exact .inl h2
      · exact .inr ⟨h2.1, Nat.lt_of_lt_of_le h2.2 k.1.size⟩
    · exact .inr ⟨Nat.le_trans h.1.size h1.1, h1.2⟩
theorem rw_same {b : Nat} {W W' : World} (h : W'.cell? ⟨b, 0, none⟩ = W.cell? ⟨b, 0, none⟩) (k : Nat) : Rw b W' k ↔ Rw b W k := by unfold Rw; rw [h]
theorem KpT.putObj {n0 b B : Nat} (hn : n0 ≤ B) (hb : b < B) (W : World) (l : Nat) (o o' : Obj) (hl : B ≤ l) (ho : W.heap[l]? = some o) (hc : o.isCells = false) : KpT n0 b W (W.putObj l o') := by
  refine ⟨(Below.refl _ W).grown (grownBy_putObj' W l o') (by have := (Array.getElem?_eq_some_iff.1 ho).1; omega) (fun k e => by cases e; omega), fun k x hk hx _ _ => ?_, fun k hk => .inl ?_⟩
  · rw [World.putObj_heap_other (by rintro rfl; rw [hk] at ho; injection ho with e; subst e; rw [hx] at hc; cases hc)]; exact hk
  · exact (rw_same (World.cell?_of_block (World.putObj_heap_other (by dsimp only; omega))) k).1 hk
theorem KpT.below {n0 b : Nat} {W W' : World} (h : Below W.heap.size W W') (hn : n0 ≤ W.heap.size) (hb : b < W.heap.size) : KpT n0 b W W' :=
  ⟨h.mono hn, fun k o hk _ _ _ => (h.block k (Array.getElem?_eq_some_iff.1 hk).1).trans hk, fun k hk => .inl ((rw_same (h.cell (p := ⟨b, 0, none⟩) hb) k).1 hk)⟩
set_option maxHeartbeats 8000000 in
set_option maxRecDepth 100000 in
theorem tokens1_in (m : Nat) (l0 Bb b2 : Nat) (w0 : World) (L : List UInt8) (n : Nat) (hl : L.length = n) (hn : n ≤ 1000000000) (E0 : Env w0) (hBb : Bb < w0.heap.size) (hBs : w0.cell? ⟨Bb, 0, none⟩ = some (.string ⟨L.toArray⟩)) (J Jx : List Tok → World → Prop) (BJ : Nat) (hJ : AbidesFrom BJ J) (hJx : AbidesFrom BJ Jx)
    (hY : ∀ pre x W, J pre W → pre.length < (lexL L).length → YieldAt Fence.wide (m - 1) Tryz.prog l0 #[tokV x] W fun e W' =>
      (e = .returned (.bool true) ∧ J (pre ++ [x]) W' ∧ KpT w0.heap.size b2 W W') ∨ (e = .returned (.bool false) ∧ Jx (pre ++ [x]) W'))
    (W : World) (hW : Below w0.heap.size w0 W) (hb2 : b2 < W.heap.size) (hR0 : ∀ k, Rw b2 W k → k < W.heap.size) (h0 : J [] W) :
    CallsIn Fence.wide m Tryz.prog 54 #[.func (.yield l0) #[] #[], .pointer (some ⟨Bb, 0, none⟩)] W fun e W' => (∃ v, e = .returned v) ∧
      ((∃ ys, ys = lexL L ∧ J ys W') ∨ (∃ pre, True ∧ Jx pre W')) := by
  refine callsIn_of_wp Tryz.func54 rfl trivial ?_ rfl
  simp only [Tryz.ntmps54, List.size_toArray, List.length_cons, List.length_nil, Nat.reduceAdd, Nat.reduceSub, Array.replicate_succ, Array.replicate_zero, List.push_toArray, List.append_toArray, List.nil_append, List.cons_append]
  have HL := Lib.hid hl
  have HY := Lib.hid hY
  have HE := Lib.hid E0
  have HJA := Lib.hid hJ
  obtain ⟨t, ht⟩ : ∃ t : ByteArray, (⟨L.toArray⟩ : ByteArray) = t := ⟨_, rfl⟩
  have hsz : n = t.size := by rw [← ht, ba_sz, hl]
  have HT := Lib.hid ht
  have AT : Hid (∀ (i : Nat) (h : i < t.size), L.drop i = (t[i]'h) :: L.drop (i + 1)) := Lib.hid fun i h => by
    subst ht
    rw [List.drop_eq_getElem_cons (by omega)]; rfl
  have HX : Hid (∀ i, t.extract i t.size = ⟨(L.drop i).toArray⟩) := Lib.hid fun i => by rw [← ht]; exact ext_back L i
  rw [ht] at hBs
  have HBS : Hid (∀ W, Below w0.heap.size w0 W → W.cell? ⟨Bb, 0, none⟩ = some (.string t)) := Lib.hid fun W h => (h.cell (p := ⟨Bb, 0, none⟩) hBb).trans hBs
  subst hsz
  clear hl hY hJ hJx E0 ht hBs
  gi_wp2
  gi_loopw [3] (fun p wr => ∃ (pre : List Tok) (q g : Nat), q ≤ t.size ∧ t.size < q + g + 1 ∧ p = .int .i64 q ∧ Hid (lexL L = pre ++ lexF (g + 1) q (L.drop q)) ∧ Hid (J pre wr) ∧ Hid (Below w0.heap.size w0 wr ∧ b2 < wr.heap.size ∧ ∀ k, Rw b2 wr k → k < wr.heap.size)) (fun p _ => t.size - (intOf p).toNat)
  case atStart => exact ⟨[], 0, t.size, by omega, by omega, rfl, Lib.hid (by unfold lexL; rw [HL.out]; rfl), Lib.hid h0, Lib.hid ⟨hW, hb2, hR0⟩⟩
  case round =>
    obtain ⟨pre, q, g, hq, hg, rfl, IT, HJ, HB3⟩ := hrel
    have HB := Lib.hid HB3.out.1
    have hB := HBS.out wr HB.out
    clear h0 hW hR0 hb2
    have hs0 := HB.out.size
    by_cases hqn : q < t.size
    · have hqn' : (q : Int) < (t.size : Int) := by omega
      have hx := AT.out q hqn
      have IB := Lib.hid (fun W => ib_any [32, 9, 13, 10] (t[q]'hqn) W)
      have IBy := fun h => ib_yes (s := [32, 9, 13, 10]) (c := t[q]'hqn) ((mem_blank _).2 h)
      have IBn := fun (h : ¬ blankB (t[q]'hqn) = true) => ib_no (s := [32, 9, 13, 10]) (c := t[q]'hqn) (fun hm => h ((mem_blank _).1 hm))
      generalize Lib.indexByte [32, 9, 13, 10] (t[q]'hqn) = ib at *
      cases hbl : blankB (t[q]'hqn) with
      | true =>
        have hib := IBy hbl
        obtain ⟨g', rfl⟩ : ∃ g', g = g' + 1 := ⟨g - 1, by omega⟩
        have IT2 : Hid (lexL L = pre ++ lexF (g' + 1) (q + 1) (L.drop (q + 1))) := Lib.hid (by rw [IT.out, hx, lex_blank hbl])
        clear hx IBy IBn hbl IT
        gi_wp2_with (first | (refine ⟨trivial, (fun h => by cases h), ?_⟩; gi_at_call 55; refine (callsIn_wide.2 (IB.out _)).mono ?_; rintro e w2 ⟨rfl, rfl⟩))
        go_roundw
        case rel => exact ⟨pre, q + 1, g', by omega, by omega, by go_num, IT2, HJ, HB3⟩
        case measure => first | (simp [intOf]; done) | (simp [intOf]; omega)
      | false =>
        have hib := IBn (by simp [hbl])
        have hib' : ¬ 0 ≤ ib := by omega
        have hX := HX.out q
        have hlen : (t[q]'hqn :: L.drop (q + 1)).length = t.size - q := by rw [← hx, List.length_drop, HL.out]
        have NX0 := fun W E' => next_any (t[q]'hqn) (L.drop (q + 1)) (by rw [hlen]; omega) W E'
        have LB := fun f p h2 => lex_bad (f := f) (p := p) (r := L.drop (q + 1)) hbl h2
        have LT := fun f p h2 => lex_tok (f := f) (p := p) (r := L.drop (q + 1)) hbl h2
        have LN := next_len (t[q]'hqn) (L.drop (q + 1))
        rw [List.length_cons] at hlen
        rw [← hx] at NX0 LB LT
        obtain ⟨u, hu⟩ : ∃ u : ByteArray, (⟨(L.drop q).toArray⟩ : ByteArray) = u := ⟨_, rfl⟩
        rw [hu] at hX NX0
        generalize nextF (t[q]'hqn) (L.drop (q + 1)) = T at *
        obtain ⟨⟨tk, tS, tn⟩, tm⟩ := T
        dsimp only [tkR, tkV, Tk0.at] at NX0 LB LT LN
        have NX := Lib.hid NX0
        have HLB := Lib.hid LB
        have HLT := Lib.hid LT
        clear hx IBy IBn hbl NX0 LB LT hu
        obtain ⟨N, hN⟩ : ∃ N, (lexL L).length = N := ⟨_, rfl⟩
        have HLN : Hid (pre.length < (lexL L).length) := Lib.hid (by
          rw [IT.out]
          by_cases h : tk = 33
          · rw [HLB.out _ _ h]; simp
          · rw [HLT.out _ _ h]; simp)
        have JN : Hid (∀ w2, Below wr.heap.size wr w2 → J pre (w2.alloc (.cells #[.int .u8 tk, .string ⟨tS.toArray⟩, .int .i64 tn, .int .i64 (q : Int)] 83))) := Lib.hid fun w2 hb => abides_below HJA.out HJ.out (hb.alloc hb.size _)
        have KN : Hid (∀ w2, Below wr.heap.size wr w2 → ∀ W3, KpT w0.heap.size b2 (w2.alloc (.cells #[.int .u8 tk, .string ⟨tS.toArray⟩, .int .i64 tn, .int .i64 (q : Int)] 83)) W3 → (W3.heap[w2.heap.size]? = some (.cells #[.int .u8 tk, .string ⟨tS.toArray⟩, .int .i64 tn, .int .i64 (q : Int)] 83 (0, 0))) ∧ Below w0.heap.size w0 W3 ∧ b2 < W3.heap.size ∧ ∀ k, Rw b2 W3 k → k < W3.heap.size) := Lib.hid fun w2 hb W3 hk => by
          obtain ⟨hB0, hB2, hR0⟩ := HB3.out
          have h4 : Below wr.heap.size wr (w2.alloc (.cells #[.int .u8 tk, .string ⟨tS.toArray⟩, .int .i64 tn, .int .i64 (q : Int)] 83)) := hb.alloc hb.size _
          have hrw : ∀ k, Rw b2 (w2.alloc (.cells #[.int .u8 tk, .string ⟨tS.toArray⟩, .int .i64 tn, .int .i64 (q : Int)] 83)) k → k < wr.heap.size := fun k hk => hR0 k ((rw_same (h4.cell (p := ⟨b2, 0, none⟩) hB2) k).1 hk)
          have h5 := hb.size
          have h6 := hk.1.size
          refine ⟨hk.2.1 _ _ (heap_alloc_new w2 _) rfl (by omega) (fun h => by have := hrw _ h; omega), (hB0.trans (h4.mono hB0.size)).trans hk.1, by simp at h6; omega, fun k hr => ?_⟩
          rcases hk.2.2 k hr with h7 | h7
          · have := hrw k h7; simp at h6; omega
          · exact h7.2
        clear hN N
        by_cases hk : tk = 33
        · have ek : (tk == 33) = true := by simp [hk]
          have IB2 : Hid (lexL L = pre ++ [⟨tk, tS, tn, q⟩]) := Lib.hid (by rw [IT.out, HLB.out _ _ hk])
          clear hk
          gi_wp2_with (first | (refine ⟨trivial, (fun h => by cases h), ?_⟩; gi_at_call 55; refine (callsIn_wide.2 (IB.out _)).mono ?_; rintro e w2 ⟨rfl, rfl⟩) | (refine ⟨trivial, (fun h => by cases h), ?_⟩; gi_at_call 56; refine (callsIn_wide.2 (NX.out _ (HE.out.below HB.out))).mono ?_; rintro e w2 ⟨rfl, hb2⟩; have hJ2 := JN.out w2 hb2; obtain ⟨fn, tmps, assign, body, hy, hR⟩ := HY.out pre ⟨tk, tS, tn, q⟩ (w2.alloc (.cells #[.int .u8 tk, .string ⟨tS.toArray⟩, .int .i64 tn, .int .i64 (q : Int)] 83)) hJ2 HLN.out; dsimp only [tokV] at hy; obtain ⟨hc2, hf2⟩ := bcell hb2; have hs2 := hb2.size; have HR := Lib.hid hR; clear hR))
          refine ⟨(fun h => by cases h), HR.out.mono ?_⟩
          rintro e W3 (⟨rfl, hJ3, hk3⟩ | ⟨rfl, hJx3⟩)
          · obtain ⟨hcell, -, -, -⟩ := KN.out w2 hb2 W3 hk3
            have c0 : W3.cell? ⟨w2.heap.size, 0, none⟩ = some (.int .u8 tk) := by simp [World.cell?, hcell]
            have HJ3 := Lib.hid hJ3
            clear hcell hk3 hJ3
            gi_wp2
            refine bodyPost_ret (results_none rfl _ _ _) rfl ?_
            exact ⟨⟨_, rfl⟩, .inl ⟨_, IB2.out.symm, HJ3.out⟩⟩
          · have HJ3 := Lib.hid hJx3
            clear hJx3
            gi_wp2
            refine bodyPost_ret (results_none rfl _ _ _) rfl ?_
            exact ⟨⟨_, rfl⟩, .inr ⟨_, trivial, HJ3.out⟩⟩
        · have ek : (tk == 33) = false := by simp [hk]
          obtain ⟨g', rfl⟩ : ∃ g', g = g' + 1 := ⟨g - 1, by omega⟩
          have IT2 : Hid (lexL L = (pre ++ [⟨tk, tS, tn, q⟩]) ++ lexF (g' + 1) (q + tm) (L.drop (q + tm))) := Lib.hid (by rw [IT.out, HLT.out _ _ hk, List.drop_drop, List.append_assoc]; rfl)
          clear hk
          gi_wp2_with (first | (refine ⟨trivial, (fun h => by cases h), ?_⟩; gi_at_call 55; refine (callsIn_wide.2 (IB.out _)).mono ?_; rintro e w2 ⟨rfl, rfl⟩) | (refine ⟨trivial, (fun h => by cases h), ?_⟩; gi_at_call 56; refine (callsIn_wide.2 (NX.out _ (HE.out.below HB.out))).mono ?_; rintro e w2 ⟨rfl, hb2⟩; have hJ2 := JN.out w2 hb2; obtain ⟨fn, tmps, assign, body, hy, hR⟩ := HY.out pre ⟨tk, tS, tn, q⟩ (w2.alloc (.cells #[.int .u8 tk, .string ⟨tS.toArray⟩, .int .i64 tn, .int .i64 (q : Int)] 83)) hJ2 HLN.out; dsimp only [tokV] at hy; obtain ⟨hc2, hf2⟩ := bcell hb2; have hs2 := hb2.size; have HR := Lib.hid hR; clear hR))
          refine ⟨(fun h => by cases h), HR.out.mono ?_⟩
          rintro e W3 (⟨rfl, hJ3, hk3⟩ | ⟨rfl, hJx3⟩)
          · obtain ⟨hcell, hB3, hb3, hr3⟩ := KN.out w2 hb2 W3 hk3
            have c0 : W3.cell? ⟨w2.heap.size, 0, none⟩ = some (.int .u8 tk) := by simp [World.cell?, hcell]
            have HJ3 := Lib.hid hJ3
            have HB4 := Lib.hid (And.intro hB3 (And.intro hb3 hr3))
            clear hcell hk3 hJ3 hB3 hr3
            gi_wp2
            go_roundw
            case rel => exact ⟨_, q + tm, g', by omega, by omega, by go_num, IT2, HJ3, HB4⟩
            case measure => first | (simp [intOf]; done) | (simp [intOf]; omega)
          · have HJ3 := Lib.hid hJx3
            clear hJx3
            gi_wp2
            refine bodyPost_ret (results_none rfl _ _ _) rfl ?_
            exact ⟨⟨_, rfl⟩, .inr ⟨_, trivial, HJ3.out⟩⟩
    · obtain rfl : q = t.size := by omega
      have hqq : ¬ (t.size : Int) < (t.size : Int) := by omega
      have IB2 : Hid (lexL L = pre ++ [⟨101, [], 0, t.size⟩]) := Lib.hid (by rw [IT.out, List.drop_eq_nil_of_le (by rw [HL.out]; exact Nat.le_refl _)]; rfl)
      obtain ⟨fn, tmps, assign, body, hy, hR⟩ := HY.out pre ⟨101, [], 0, t.size⟩ wr HJ.out (by rw [IB2.out]; simp)
      dsimp only [tokV] at hy
      have HR := Lib.hid hR
      clear hR
      gi_wp2
      refine ⟨(fun h => by cases h), HR.out.mono ?_⟩
      rintro e W3 (⟨rfl, hJ3, hk3⟩ | ⟨rfl, hJx3⟩)
      · have HJ3 := Lib.hid hJ3
        clear hk3 hJ3
        gi_wp2
        refine bodyPost_end (results_none rfl _ _ _) rfl ?_
        exact ⟨⟨_, rfl⟩, .inl ⟨_, IB2.out.symm, HJ3.out⟩⟩
      · have HJ3 := Lib.hid hJx3
        clear hJx3
        gi_wp2
        refine bodyPost_end (results_none rfl _ _ _) rfl ?_
        exact ⟨⟨_, rfl⟩, .inr ⟨_, trivial, HJ3.out⟩⟩
theorem tokens_stops (m : Nat) (Bb b2 : Nat) (w0 : World) (L : List UInt8) (hl : L.length ≤ 1000000000) (E0 : Env w0) (hBb : Bb < w0.heap.size) (hBs : w0.cell? ⟨Bb, 0, none⟩ = some (.string ⟨L.toArray⟩)) (w : World) (hw : Below w0.heap.size w0 w) (hb2 : b2 < w.heap.size) (hR0 : ∀ k, Rw b2 w k → k < w.heap.size) :
    SeqStopsK Fence.wide m Tryz.prog 54 #[.pointer (some ⟨Bb, 0, none⟩)] (fun x : Tok => #[tokV x]) (KpT w0.heap.size b2) (fun ys => ys = lexL L) (fun _ => True) (lexL L).length w := fun l0 J Jx W hW hJ hJx hY h0 =>
  tokens1_in m l0 Bb b2 w0 L L.length rfl hl E0 hBb hBs J Jx W.heap.size hJ hJx hY W (hw.trans (hW.mono hw.size)) (Nat.lt_of_lt_of_le hb2 hW.size) (fun k hk => Nat.lt_of_lt_of_le (hR0 k ((rw_same (hW.cell (p := ⟨b2, 0, none⟩) hb2) k).1 hk)) hW.size) h0
end Go.Proofs.YtijlifdbjhieaaaGreatDoor
