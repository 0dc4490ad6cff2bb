/-
  Contract of http.pieces.number. (Printed by tools/mkhv3.py.)
-/
import Derived.Test.YtkaimfeiahogaaaGreatDoorHv2
namespace Go.Proofs.YtkaimfeiahogaaaGreatDoor
set_option linter.all false
open Go.RowKit Go.Shelf
attribute [local go_sem] cell_set_self lt_1 lt_2 lt_3 lt_4 lt_5 lt_6 drew_cell drew_frozen drew_size

/-- A reader that still reads: what is left of the bytes. -/
def On (W : World) (pb : Nat) (l : List UInt8) : Prop := ∃ A c, Pc W pb A l.length c false false ∧ Bs W A c l ∧ ∀ a, A = some a → a.block ≠ pb
/-- A reader that has ended. -/
def Off (W : World) (pb : Nat) (e x : Bool) : Prop := ∃ A n c, Pc W pb A n c e x
/-- A reader's state. -/
def StO {α : Type} (W : World) (pb : Nat) : Tk α → Prop
  | .wait => Off W pb true false
  | .bad => Off W pb false true
  | .got _ l => On W pb l
theorem Pc.below {W W' : World} {pb : Nat} {A : Option Addr} {n c : Nat} {e x : Bool} (K : Pc W pb A n c e x) (hb : Below W.heap.size W W') : Pc W' pb A n c e x :=
  ⟨(hb.cell (p := ⟨pb, _, none⟩) K.lt).trans K.c0, (hb.cell (p := ⟨pb, _, none⟩) K.lt).trans K.c1, (hb.cell (p := ⟨pb, _, none⟩) K.lt).trans K.c2, (hb.frozen (p := ⟨pb, _, none⟩) K.lt).trans K.f0, (hb.frozen (p := ⟨pb, _, none⟩) K.lt).trans K.f1, (hb.frozen (p := ⟨pb, _, none⟩) K.lt).trans K.f2, Nat.lt_of_lt_of_le K.lt hb.size⟩
theorem grown_size {W W' : World} {h : Option Nat} (g : W.grownBy W' h) : W.heap.size ≤ W'.heap.size := by
  obtain ⟨_, _, _, h, _⟩ := g; exact h
theorem Bs.grown {W W' : World} {A : Option Addr} {c : Nat} {l : List UInt8} {pb : Nat} (T : Bs W A c l) (h : W.grownBy W' (some pb)) (hne : ∀ a, A = some a → a.block ≠ pb) : Bs W' A c l :=
  ⟨T.1, T.2.1, fun i v hi => by
    obtain ⟨b, off, e, h1, h2⟩ := T.2.2 i v hi
    exact ⟨b, off, e, Nat.lt_of_lt_of_le h1 (grown_size h), h.cell h2 (fun q => hne _ e (by injection q))⟩⟩
theorem advA_ne {A : Option Addr} {c k pb : Nat} (h : ∀ a, A = some a → a.block ≠ pb) : ∀ a, advA A c k = some a → a.block ≠ pb := fun a ha => by
  obtain ⟨b, hb, e⟩ := advA_block ha
  rw [e]; exact h b hb
theorem Bs.adv' {w : World} {b off c : Nat} {l : List UInt8} (T : Bs w (some ⟨b, off, none⟩) c l) (k : Nat) (hk : k ≤ l.length) (h : advA (some ⟨b, off, none⟩) c k = some ⟨b, off + k, none⟩) : Bs w (some ⟨b, off + k, none⟩) (c - k) (l.drop k) := h ▸ T.adv k hk
/-- What take leaves, as a state. -/
theorem takeO_st {α : Type} {W W' : World} {pb : Nat} {A : Option Addr} {n c : Nat} {s l : List UInt8} (hl : l.length = n) (h : TakeO W' pb A n c s l) (T : Bs W A c l) (hg : W.grownBy W' (some pb)) (hne : ∀ a, A = some a → a.block ≠ pb) (z : α) : StO W' pb ((takeT s l).bind fun _ r => Tk.got z r) := by
  subst hl
  unfold TakeO at h
  unfold takeT at h ⊢
  by_cases h1 : l.length < s.length
  · rw [if_pos h1] at h ⊢
    by_cases h2 : s.take l.length = l
    · rw [if_pos h2] at h ⊢; exact ⟨_, _, _, h⟩
    · rw [if_neg h2] at h ⊢; exact ⟨_, _, _, h⟩
  · rw [if_neg h1] at h ⊢
    by_cases h2 : l.take s.length = s
    · rw [if_pos h2] at h ⊢
      refine ⟨advA A c s.length, c - s.length, ?_, (T.grown hg hne).adv s.length (by omega), advA_ne hne⟩
      rw [List.length_drop]; exact h
    · rw [if_neg h2] at h ⊢; exact ⟨_, _, _, h⟩
theorem take_st {α : Type} (o : Tk α) (s : List UInt8) (pb : Nat) (W : World) (S : StO W pb o) :
    Calls Tryz.prog 47 #[.pointer (some ⟨pb, 0, none⟩), .string ⟨s.toArray⟩] W fun ex W' => ex = .returned (.tuple #[]) ∧ StO W' pb (o.bind fun z l => (takeT s l).bind fun _ r => Tk.got z r) ∧ W.grownBy W' (some pb) := by
  cases o with
  | wait =>
    obtain ⟨A, n, c, K⟩ := S
    refine (take_off _ pb A n c true false rfl W K).mono ?_
    rintro ex W' ⟨rfl, rfl⟩
    exact ⟨rfl, ⟨A, n, c, K⟩, ⟨rfl, rfl, rfl, Nat.le_refl _, fun _ _ _ => rfl⟩⟩
  | bad =>
    obtain ⟨A, n, c, K⟩ := S
    refine (take_off _ pb A n c false true rfl W K).mono ?_
    rintro ex W' ⟨rfl, rfl⟩
    exact ⟨rfl, ⟨A, n, c, K⟩, ⟨rfl, rfl, rfl, Nat.le_refl _, fun _ _ _ => rfl⟩⟩
  | got z l =>
    obtain ⟨A, c, K, T, hne⟩ := S
    refine (take_on s l pb A l.length c rfl W K T).mono ?_
    rintro ex W' ⟨rfl, h, hg⟩
    exact ⟨rfl, takeO_st rfl h T hg hne z, hg⟩
theorem grown_of_belowS {w w' : World} {h : Option Nat} (hb : Below w.heap.size w w') : w.grownBy w' h := ⟨hb.os, hb.tape, hb.output, hb.size, fun i hi _ => hb.block i hi⟩
/-- A number, so many digits at most, and a text behind it. -/
def numN (most : Nat) (ahead l : List UInt8) : Tk Nat := if (okN (spanT l) && decide ((spanT l).length ≤ most)) = true then (if spanD l = [] then .wait else (takeT ahead (spanD l)).bind fun _ r => .got (dv (spanT l)) r) else if l = [] then .wait else .bad
theorem numN_bad {most : Nat} {ahead l : List UInt8} (h : okN (spanT l) = false ∨ most < (spanT l).length) (h0 : l ≠ []) : numN most ahead l = .bad := by
  unfold numN
  rw [if_neg, if_neg h0]
  simp only [Bool.and_eq_true, decide_eq_true_eq, not_and]
  rcases h with h | h
  · intro e; rw [h] at e; cases e
  · intro _; omega
theorem numN_wait {most : Nat} {ahead l : List UInt8} (h : okN (spanT l) = true) (hk : (spanT l).length ≤ most) (h0 : spanD l = []) : numN most ahead l = .wait := by
  unfold numN
  rw [h, decide_eq_true hk, Bool.and_self, if_pos rfl, if_pos h0]
theorem numN_nil (most : Nat) (ahead : List UInt8) : numN most ahead [] = .wait := by
  unfold numN; rw [show spanT [] = [] from rfl, show okN [] = false by decide, Bool.false_and, if_neg (by decide), if_pos rfl]
theorem numN_ok {most : Nat} {ahead l : List UInt8} (h : okN (spanT l) = true) (hk : (spanT l).length ≤ most) (h0 : spanD l ≠ []) : numN most ahead l = (takeT ahead (spanD l)).bind fun _ r => .got (dv (spanT l)) r := by
  unfold numN
  rw [h, decide_eq_true hk, Bool.and_self, if_pos rfl, if_neg h0]
theorem okN_lz {d : List UInt8} (h : d.head? = some 48) (hk : 1 < d.length) : okN d = false := by
  cases q : numF d with
  | false => unfold okN; rw [q]; rfl
  | true =>
    rcases (numF_iff.1 q).2.2 with e | e
    · omega
    · exact absurd h e
theorem okN_over {d : List UInt8} (h : ¬ dv d < 9223372036854775808) : okN d = false := by
  unfold okN; rw [decide_eq_false (by omega), Bool.and_false]
theorem okN_fits {d : List UInt8} (h0 : d ≠ []) (hd : DigB d) (h : dv d < 9223372036854775808) (h1 : d.head? ≠ some 48 ∨ d.length = 1) : okN d = true := by
  have q : numF d = true := numF_iff.2 ⟨h0, hd, h1.symm⟩
  unfold okN; rw [q, decide_eq_true (by omega)]; rfl
theorem okN_nil : okN [] = false := by decide
theorem span_take (l : List UInt8) : l.take (spanT l).length = spanT l ∧ l.drop (spanT l).length = spanD l := by
  have h1 : (spanT l ++ spanD l).take (spanT l).length = spanT l := List.take_left
  have h2 : (spanT l ++ spanD l).drop (spanT l).length = spanD l := List.drop_left
  rw [span_app] at h1 h2
  exact ⟨h1, h2⟩
theorem span_stop : ∀ {l : List UInt8} {x : UInt8}, l[(spanT l).length]? = some x → digB x = false
  | [], x, h => by simp at h
  | b :: l, x, h => by
    unfold spanT at h
    rw [List.takeWhile_cons] at h
    by_cases g : dgB b = true
    · rw [if_pos g, List.length_cons, List.getElem?_cons_succ] at h
      exact span_stop h
    · rw [if_neg g] at h
      simp at h
      rw [← h]
      exact Bool.not_eq_true _ |>.mp g
theorem span_in {l : List UInt8} {k : Nat} {x : UInt8} (hk : k < (spanT l).length) (h : l[k]? = some x) : digB x = true := by
  have h1 : (spanT l)[k]? = some x := by rw [← (span_take l).1, List.getElem?_take_of_lt hk]; exact h
  exact dgB_iff.2 (spanT_dig l x (List.mem_of_getElem? h1))
set_option maxHeartbeats 32000000 in
set_option maxRecDepth 100000 in
theorem number_on (l : List UInt8) (most : Nat) (ahead : List UInt8) (pb : Nat) (A : Option Addr) (n c : Nat) (hl : l.length = n) (hn : n ≤ 1000000000) (W : World) (E : EnvS W) (K : Pc W pb A n c false false) (T : Bs W A c l) (hne : ∀ a, A = some a → a.block ≠ pb) :
    Calls Tryz.prog 49 #[.pointer (some ⟨pb, 0, none⟩), .int .i64 (most : Int), .string ⟨ahead.toArray⟩] W fun ex W' => ∃ v : Int, ex = .returned (.int .i64 v) ∧ StO W' pb (numN most ahead l) ∧ (∀ v' r', numN most ahead l = .got v' r' → v = (v' : Int)) ∧ W.grownBy W' (some pb) := by
  have HK := Lib.hid K
  obtain ⟨c0, c1, c2, f0, f1, f2, lt⟩ := K
  have hnc : n ≤ c := by have := T.1; omega
  have hnc' : (n : Int) ≤ (c : Int) := by omega
  have hA : A = none → c = 0 := T.2.1
  obtain ⟨st1, st2⟩ := span_take l
  obtain ⟨d, hd⟩ : ∃ d, spanT l = d := ⟨_, rfl⟩
  have hdd : DigB d := by rw [← hd]; exact spanT_dig l
  obtain ⟨k, hk⟩ : ∃ k, d.length = k := ⟨_, rfl⟩
  rw [hd] at st1 st2
  rw [hk] at st1 st2
  have hkn : k ≤ n := by rw [← hl, ← hk, ← st1, List.length_take]; omega
  have HL := Lib.hid hl
  have HT := Lib.hid T
  have HD := Lib.hid hd
  have HDK := Lib.hid hk
  have HDD := Lib.hid hdd
  have HNE := Lib.hid hne
  have HST := Lib.hid (And.intro st1 st2)
  have HE := Lib.hid E
  have hcv : (convert 22 9 (.slice A k c)).run Tryz.prog W = .ok (.string ⟨d.toArray⟩) W := by
    have := conv_bs (T.take k)
    rw [st1, hk] at this
    exact this
  have DG := Lib.hid (fun x W => digit_any x W)
  have hkc : (k : Int) ≤ (c : Int) := by omega
  have hkn' : (k : Int) ≤ (n : Int) := by omega
  obtain ⟨AH, hAH⟩ : ∃ AH : ByteArray, (⟨ahead.toArray⟩ : ByteArray) = AH := ⟨_, rfl⟩
  have HAH := Lib.hid hAH
  rw [hAH]
  clear hl T hd hk hdd hne st1 st2 hAH E
  go_enter Tryz.func49, Tryz.ntmps49
  go_wp2
  go_loop [7] (fun i => ∃ j : Nat, j ≤ k ∧ i = .int .i64 j) (fun i => k - (intOf i).toNat)
  case atStart => exact ⟨0, by omega, rfl⟩
  case round =>
    obtain ⟨j, hj, rfl⟩ := hrel
    by_cases hlt : j < k
    · have hlt' : (j : Int) < (n : Int) := by omega
      obtain ⟨x, hx⟩ : ∃ x, l[j]? = some x := ⟨_, List.getElem?_eq_getElem (by rw [HL.out]; omega)⟩
      have hxd : digB x = true := span_in (by rw [HD.out, HDK.out]; exact hlt) hx
      obtain ⟨b, off, rfl, hbl, e0⟩ := HT.out.2.2 j x hx
      have D1 := Lib.hid (fun W => DG.out x W)
      rw [hxd] at D1
      generalize x.toNat = xx at *
      clear hx hxd
      go_wp2_with (first | (go_at_call 64; (with_reducible refine (D1.out _).mono ?_); rintro e w3 ⟨rfl, rfl⟩))
      go_roundw
      case rel => exact ⟨j + 1, by omega, by go_num⟩
      case measure => first | (simp [intOf]; done) | (simp [intOf]; omega)
    · obtain rfl : j = k := by omega
      clear hlt hj
      by_cases hend : j = n
      · subst hend
        have hend' : ¬ (j : Int) < (j : Int) := by omega
        have hD0 : spanD l = [] := by rw [← HST.out.2]; exact List.drop_of_length_le (by rw [HL.out]; exact Nat.le_refl _)
        have HD0 := Lib.hid hD0
        clear hD0
        by_cases hz : j = 0
        · subst hz
          have hl0 : l = [] := List.eq_nil_of_length_eq_zero HL.out
          have HN : Hid (numN most ahead l = .wait) := Lib.hid (by rw [hl0]; exact numN_nil _ _)
          have hdn : d = [] := List.eq_nil_of_length_eq_zero HDK.out
          have AT := Lib.hid (atoi_empty W HE.out)
          rw [hdn] at hcv
          clear hl0 hdn
          cases A with
          | none =>
            obtain rfl : c = 0 := hA rfl
            go_wp2_with (first | (go_at_call 64; (with_reducible refine (D1.out _).mono ?_); rintro e w3 ⟨rfl, rfl⟩) | (go_at_call 65; (with_reducible refine (AT.out).mono ?_); rintro e w5 ⟨⟨t5, q5, rfl⟩, hb5⟩; have HK5 := Lib.hid (HK.out.below hb5); have HT5 := Lib.hid (HT.out.below hb5); have HB5 := Lib.hid hb5; obtain ⟨x0, x1, x2, g0, g1, g2, lt5⟩ := HK.out.below hb5) | (go_at_call 47; (with_reducible refine (take_off AH pb _ _ _ true false rfl _ (((HK5.out.set1 true).set0 _ _ _))).mono ?_); rintro e w6 ⟨rfl, rfl⟩))
            go_ret
            refine ⟨_, rfl, ?_, ?_, ((grown_of_belowS HB5.out).trans (grown_set1 _ _ _ _)).trans (grown_set1 _ _ _ _)⟩
            · rw [HN.out]; exact ⟨_, _, _, ((HK5.out.set1 true).set0 _ _ _)⟩
            · intro v' r' e; rw [HN.out] at e; cases e
          | some ad =>
            clear hA
            by_cases hc0 : c = 0
            · subst hc0
              go_wp2_with (first | (go_at_call 64; (with_reducible refine (D1.out _).mono ?_); rintro e w3 ⟨rfl, rfl⟩) | (go_at_call 65; (with_reducible refine (AT.out).mono ?_); rintro e w5 ⟨⟨t5, q5, rfl⟩, hb5⟩; have HK5 := Lib.hid (HK.out.below hb5); have HT5 := Lib.hid (HT.out.below hb5); have HB5 := Lib.hid hb5; obtain ⟨x0, x1, x2, g0, g1, g2, lt5⟩ := HK.out.below hb5) | (go_at_call 47; (with_reducible refine (take_off AH pb _ _ _ true false rfl _ (((HK5.out.set1 true).set0 _ _ _))).mono ?_); rintro e w6 ⟨rfl, rfl⟩))
              go_ret
              refine ⟨_, rfl, ?_, ?_, ((grown_of_belowS HB5.out).trans (grown_set1 _ _ _ _)).trans (grown_set1 _ _ _ _)⟩
              · rw [HN.out]; exact ⟨_, _, _, ((HK5.out.set1 true).set0 _ _ _)⟩
              · intro v' r' e; rw [HN.out] at e; cases e
            · have hc1 : ¬ (c : Int) = 0 := by omega
              have hc2 : ¬ (c : Int) - 0 = 0 := by omega
              go_wp2_with (first | (go_at_call 64; (with_reducible refine (D1.out _).mono ?_); rintro e w3 ⟨rfl, rfl⟩) | (go_at_call 65; (with_reducible refine (AT.out).mono ?_); rintro e w5 ⟨⟨t5, q5, rfl⟩, hb5⟩; have HK5 := Lib.hid (HK.out.below hb5); have HT5 := Lib.hid (HT.out.below hb5); have HB5 := Lib.hid hb5; obtain ⟨x0, x1, x2, g0, g1, g2, lt5⟩ := HK.out.below hb5) | (go_at_call 47; (with_reducible refine (take_off AH pb _ _ _ true false rfl _ (((HK5.out.set1 true).set0 _ _ _))).mono ?_); rintro e w6 ⟨rfl, rfl⟩))
              go_ret
              refine ⟨_, rfl, ?_, ?_, ((grown_of_belowS HB5.out).trans (grown_set1 _ _ _ _)).trans (grown_set1 _ _ _ _)⟩
              · rw [HN.out]; exact ⟨_, _, _, ((HK5.out.set1 true).set0 _ _ _)⟩
              · intro v' r' e; rw [HN.out] at e; cases e
        · have hz1 : ((j : Int) == 0) = false := by rw [beq_eq_false_iff_ne]; omega
          have hz2 : ¬ (j : Int) = 0 := by omega
          have hdn : d ≠ [] := fun e => hz (by rw [← HDK.out, e]; rfl)
          have HL0 : Hid (l ≠ []) := Lib.hid (by intro e; have := HL.out; rw [e] at this; simp at this; omega)
          obtain ⟨b, off, rfl⟩ : ∃ b off, A = some ⟨b, off, none⟩ := by
            obtain ⟨b, off, h, _⟩ := HT.out.2.2 0 (l[0]'(by rw [HL.out]; omega)) (List.getElem?_eq_getElem _)
            exact ⟨b, off, h⟩
          obtain ⟨y, q, hyq⟩ : ∃ y q, d = y :: q := by cases d with | nil => exact absurd rfl hdn | cons y q => exact ⟨y, q, rfl⟩
          have hS1 : 0 < (⟨d.toArray⟩ : ByteArray).size := by rw [ba_sz, HDK.out]; omega
          have hS2 : ((⟨d.toArray⟩ : ByteArray)[0]'hS1).toNat = y.toNat := by subst hyq; rfl
          have hS3 : (0 : Int) < ((⟨d.toArray⟩ : ByteArray).size : Int) := by omega
          have hhd : d.head? = some y := by rw [hyq]; rfl
          have HHD := Lib.hid hhd
          have HDN := Lib.hid hdn
          clear hyq hhd hdn
          by_cases hov : dv d < 9223372036854775808
          · have AT := Lib.hid (atoi_fits d HDN.out HDD.out (by rw [HDK.out]; omega) hov W)
            have HOV := Lib.hid hov
            clear hov
            by_cases hm : j ≤ most
            · have hm1 : (j : Int) ≤ (most : Int) := by omega
              have hm2 : ¬ (most : Int) < (j : Int) := by omega
              by_cases hlz : y = 48 ∧ 1 < j
              · have HN : Hid (numN most ahead l = .bad) := Lib.hid (numN_bad (.inl (by rw [HD.out]; exact okN_lz (by rw [HHD.out, hlz.1]) (by rw [HDK.out]; exact hlz.2))) HL0.out)
                have hy : y.toNat = 48 := by rw [hlz.1]; rfl
                have hj1 : ((j : Int) == 1) = false := by rw [beq_eq_false_iff_ne]; omega
                have hj2 : (1 : Int) < (j : Int) := by omega
                have hj3 : ¬ (j : Int) = 1 := by omega
                rw [hy] at hS2
                clear hlz hy
                generalize (⟨d.toArray⟩ : ByteArray) = SD at *
                by_cases hcj : (c : Int) = (j : Int)
                · have hcj0 : (c : Int) - (j : Int) = 0 := by omega
                  go_wp2_with (first | (go_at_call 64; (with_reducible refine (D1.out _).mono ?_); rintro e w3 ⟨rfl, rfl⟩) | (go_at_call 65; (with_reducible refine (AT.out).mono ?_); rintro e w5 ⟨rfl, hb5⟩; have HK5 := Lib.hid (HK.out.below hb5); have HT5 := Lib.hid (HT.out.below hb5); have HB5 := Lib.hid hb5; obtain ⟨x0, x1, x2, g0, g1, g2, lt5⟩ := HK.out.below hb5) | (go_at_call 47; (with_reducible refine (take_off AH pb _ _ _ false true rfl _ (((HK5.out.set2 true).set0 _ _ _))).mono ?_); rintro e w6 ⟨rfl, rfl⟩))
                  go_ret
                  refine ⟨_, rfl, ?_, ?_, ((grown_of_belowS HB5.out).trans (grown_set1 _ _ _ _)).trans (grown_set1 _ _ _ _)⟩
                  · rw [HN.out]; exact ⟨_, _, _, ((HK5.out.set2 true).set0 _ _ _)⟩
                  · intro v' r' e; rw [HN.out] at e; cases e
                · have hcj0 : ¬ (c : Int) - (j : Int) = 0 := by omega
                  go_wp2_with (first | (go_at_call 64; (with_reducible refine (D1.out _).mono ?_); rintro e w3 ⟨rfl, rfl⟩) | (go_at_call 65; (with_reducible refine (AT.out).mono ?_); rintro e w5 ⟨rfl, hb5⟩; have HK5 := Lib.hid (HK.out.below hb5); have HT5 := Lib.hid (HT.out.below hb5); have HB5 := Lib.hid hb5; obtain ⟨x0, x1, x2, g0, g1, g2, lt5⟩ := HK.out.below hb5) | (go_at_call 47; (with_reducible refine (take_off AH pb _ _ _ false true rfl _ (((HK5.out.set2 true).set0 _ _ _))).mono ?_); rintro e w6 ⟨rfl, rfl⟩))
                  go_ret
                  refine ⟨_, rfl, ?_, ?_, ((grown_of_belowS HB5.out).trans (grown_set1 _ _ _ _)).trans (grown_set1 _ _ _ _)⟩
                  · rw [HN.out]; exact ⟨_, _, _, ((HK5.out.set2 true).set0 _ _ _)⟩
                  · intro v' r' e; rw [HN.out] at e; cases e
              · have hfit : okN (spanT l) = true := by
                  rw [HD.out]
                  refine okN_fits HDN.out HDD.out HOV.out ?_
                  by_cases h1 : y = 48
                  · right; rw [HDK.out]; have : ¬ 1 < j := fun h => hlz ⟨h1, h⟩; omega
                  · left; rw [HHD.out]; intro e; injection e with e; exact h1 e
                have HN : Hid (numN most ahead l = .wait) := Lib.hid (numN_wait hfit (by rw [HD.out, HDK.out]; exact hm) HD0.out)
                clear hfit
                by_cases h48 : y.toNat = 48
                · have hy : y = 48 := UInt8.toNat_inj.1 h48
                  have hj0 : ¬ 1 < j := fun h => hlz ⟨hy, h⟩
                  obtain rfl : j = 1 := by omega
                  rw [h48] at hS2
                  clear hlz hy hj0 h48
                  generalize (⟨d.toArray⟩ : ByteArray) = SD at *
                  by_cases hcj : (c : Int) = 1
                  · have hcj0 : (c : Int) - 1 = 0 := by omega
                    go_wp2_with (first | (go_at_call 64; (with_reducible refine (D1.out _).mono ?_); rintro e w3 ⟨rfl, rfl⟩) | (go_at_call 65; (with_reducible refine (AT.out).mono ?_); rintro e w5 ⟨rfl, hb5⟩; have HK5 := Lib.hid (HK.out.below hb5); have HT5 := Lib.hid (HT.out.below hb5); have HB5 := Lib.hid hb5; obtain ⟨x0, x1, x2, g0, g1, g2, lt5⟩ := HK.out.below hb5) | (go_at_call 47; (with_reducible refine (take_off AH pb _ _ _ true false rfl _ (((HK5.out.set1 true).set0 _ _ _))).mono ?_); rintro e w6 ⟨rfl, rfl⟩))
                    go_ret
                    refine ⟨_, rfl, ?_, ?_, ((grown_of_belowS HB5.out).trans (grown_set1 _ _ _ _)).trans (grown_set1 _ _ _ _)⟩
                    · rw [HN.out]; exact ⟨_, _, _, ((HK5.out.set1 true).set0 _ _ _)⟩
                    · intro v' r' e; rw [HN.out] at e; cases e
                  · have hcj0 : ¬ (c : Int) - 1 = 0 := by omega
                    go_wp2_with (first | (go_at_call 64; (with_reducible refine (D1.out _).mono ?_); rintro e w3 ⟨rfl, rfl⟩) | (go_at_call 65; (with_reducible refine (AT.out).mono ?_); rintro e w5 ⟨rfl, hb5⟩; have HK5 := Lib.hid (HK.out.below hb5); have HT5 := Lib.hid (HT.out.below hb5); have HB5 := Lib.hid hb5; obtain ⟨x0, x1, x2, g0, g1, g2, lt5⟩ := HK.out.below hb5) | (go_at_call 47; (with_reducible refine (take_off AH pb _ _ _ true false rfl _ (((HK5.out.set1 true).set0 _ _ _))).mono ?_); rintro e w6 ⟨rfl, rfl⟩))
                    go_ret
                    refine ⟨_, rfl, ?_, ?_, ((grown_of_belowS HB5.out).trans (grown_set1 _ _ _ _)).trans (grown_set1 _ _ _ _)⟩
                    · rw [HN.out]; exact ⟨_, _, _, ((HK5.out.set1 true).set0 _ _ _)⟩
                    · intro v' r' e; rw [HN.out] at e; cases e
                · have hy0 : ((y.toNat : Int) == 48) = false := by rw [beq_eq_false_iff_ne]; omega
                  have hy1 : ¬ (y.toNat : Int) = 48 := by omega
                  have hy2 : ((y.toNat : Int) != 48) = true := by rw [bne, hy0]; rfl
                  generalize y.toNat = yy at *
                  clear hlz h48
                  generalize (⟨d.toArray⟩ : ByteArray) = SD at *
                  by_cases hcj : (c : Int) = (j : Int)
                  · have hcj0 : (c : Int) - (j : Int) = 0 := by omega
                    go_wp2_with (first | (go_at_call 64; (with_reducible refine (D1.out _).mono ?_); rintro e w3 ⟨rfl, rfl⟩) | (go_at_call 65; (with_reducible refine (AT.out).mono ?_); rintro e w5 ⟨rfl, hb5⟩; have HK5 := Lib.hid (HK.out.below hb5); have HT5 := Lib.hid (HT.out.below hb5); have HB5 := Lib.hid hb5; obtain ⟨x0, x1, x2, g0, g1, g2, lt5⟩ := HK.out.below hb5) | (go_at_call 47; (with_reducible refine (take_off AH pb _ _ _ true false rfl _ (((HK5.out.set1 true).set0 _ _ _))).mono ?_); rintro e w6 ⟨rfl, rfl⟩))
                    go_ret
                    refine ⟨_, rfl, ?_, ?_, ((grown_of_belowS HB5.out).trans (grown_set1 _ _ _ _)).trans (grown_set1 _ _ _ _)⟩
                    · rw [HN.out]; exact ⟨_, _, _, ((HK5.out.set1 true).set0 _ _ _)⟩
                    · intro v' r' e; rw [HN.out] at e; cases e
                  · have hcj0 : ¬ (c : Int) - (j : Int) = 0 := by omega
                    go_wp2_with (first | (go_at_call 64; (with_reducible refine (D1.out _).mono ?_); rintro e w3 ⟨rfl, rfl⟩) | (go_at_call 65; (with_reducible refine (AT.out).mono ?_); rintro e w5 ⟨rfl, hb5⟩; have HK5 := Lib.hid (HK.out.below hb5); have HT5 := Lib.hid (HT.out.below hb5); have HB5 := Lib.hid hb5; obtain ⟨x0, x1, x2, g0, g1, g2, lt5⟩ := HK.out.below hb5) | (go_at_call 47; (with_reducible refine (take_off AH pb _ _ _ true false rfl _ (((HK5.out.set1 true).set0 _ _ _))).mono ?_); rintro e w6 ⟨rfl, rfl⟩))
                    go_ret
                    refine ⟨_, rfl, ?_, ?_, ((grown_of_belowS HB5.out).trans (grown_set1 _ _ _ _)).trans (grown_set1 _ _ _ _)⟩
                    · rw [HN.out]; exact ⟨_, _, _, ((HK5.out.set1 true).set0 _ _ _)⟩
                    · intro v' r' e; rw [HN.out] at e; cases e
            · have hm1 : ¬ (j : Int) ≤ (most : Int) := by omega
              have hm2 : (most : Int) < (j : Int) := by omega
              have HN : Hid (numN most ahead l = .bad) := Lib.hid (numN_bad (.inr (by rw [HD.out, HDK.out]; omega)) HL0.out)
              generalize (⟨d.toArray⟩ : ByteArray) = SD at *
              clear hm
              by_cases hcj : (c : Int) = (j : Int)
              · have hcj0 : (c : Int) - (j : Int) = 0 := by omega
                go_wp2_with (first | (go_at_call 64; (with_reducible refine (D1.out _).mono ?_); rintro e w3 ⟨rfl, rfl⟩) | (go_at_call 65; (with_reducible refine (AT.out).mono ?_); rintro e w5 ⟨rfl, hb5⟩; have HK5 := Lib.hid (HK.out.below hb5); have HT5 := Lib.hid (HT.out.below hb5); have HB5 := Lib.hid hb5; obtain ⟨x0, x1, x2, g0, g1, g2, lt5⟩ := HK.out.below hb5) | (go_at_call 47; (with_reducible refine (take_off AH pb _ _ _ false true rfl _ (((HK5.out.set2 true).set0 _ _ _))).mono ?_); rintro e w6 ⟨rfl, rfl⟩))
                go_ret
                refine ⟨_, rfl, ?_, ?_, ((grown_of_belowS HB5.out).trans (grown_set1 _ _ _ _)).trans (grown_set1 _ _ _ _)⟩
                · rw [HN.out]; exact ⟨_, _, _, ((HK5.out.set2 true).set0 _ _ _)⟩
                · intro v' r' e; rw [HN.out] at e; cases e
              · have hcj0 : ¬ (c : Int) - (j : Int) = 0 := by omega
                go_wp2_with (first | (go_at_call 64; (with_reducible refine (D1.out _).mono ?_); rintro e w3 ⟨rfl, rfl⟩) | (go_at_call 65; (with_reducible refine (AT.out).mono ?_); rintro e w5 ⟨rfl, hb5⟩; have HK5 := Lib.hid (HK.out.below hb5); have HT5 := Lib.hid (HT.out.below hb5); have HB5 := Lib.hid hb5; obtain ⟨x0, x1, x2, g0, g1, g2, lt5⟩ := HK.out.below hb5) | (go_at_call 47; (with_reducible refine (take_off AH pb _ _ _ false true rfl _ (((HK5.out.set2 true).set0 _ _ _))).mono ?_); rintro e w6 ⟨rfl, rfl⟩))
                go_ret
                refine ⟨_, rfl, ?_, ?_, ((grown_of_belowS HB5.out).trans (grown_set1 _ _ _ _)).trans (grown_set1 _ _ _ _)⟩
                · rw [HN.out]; exact ⟨_, _, _, ((HK5.out.set2 true).set0 _ _ _)⟩
                · intro v' r' e; rw [HN.out] at e; cases e
          · have AT := Lib.hid (atoi_over d HDN.out HDD.out (by rw [HDK.out]; omega) hov W HE.out.1)
            have HN : Hid (numN most ahead l = .bad) := Lib.hid (numN_bad (.inl (by rw [HD.out]; exact okN_over hov)) HL0.out)
            clear hov
            generalize (⟨d.toArray⟩ : ByteArray) = SD at *
            by_cases hcj : (c : Int) = (j : Int)
            · have hcj0 : (c : Int) - (j : Int) = 0 := by omega
              go_wp2_with (first | (go_at_call 64; (with_reducible refine (D1.out _).mono ?_); rintro e w3 ⟨rfl, rfl⟩) | (go_at_call 65; (with_reducible refine (AT.out).mono ?_); rintro e w5 ⟨⟨t5, q5, rfl⟩, hb5⟩; have HK5 := Lib.hid (HK.out.below hb5); have HT5 := Lib.hid (HT.out.below hb5); have HB5 := Lib.hid hb5; obtain ⟨x0, x1, x2, g0, g1, g2, lt5⟩ := HK.out.below hb5) | (go_at_call 47; (with_reducible refine (take_off AH pb _ _ _ false true rfl _ (((HK5.out.set2 true).set0 _ _ _))).mono ?_); rintro e w6 ⟨rfl, rfl⟩))
              go_ret
              refine ⟨_, rfl, ?_, ?_, ((grown_of_belowS HB5.out).trans (grown_set1 _ _ _ _)).trans (grown_set1 _ _ _ _)⟩
              · rw [HN.out]; exact ⟨_, _, _, ((HK5.out.set2 true).set0 _ _ _)⟩
              · intro v' r' e; rw [HN.out] at e; cases e
            · have hcj0 : ¬ (c : Int) - (j : Int) = 0 := by omega
              go_wp2_with (first | (go_at_call 64; (with_reducible refine (D1.out _).mono ?_); rintro e w3 ⟨rfl, rfl⟩) | (go_at_call 65; (with_reducible refine (AT.out).mono ?_); rintro e w5 ⟨⟨t5, q5, rfl⟩, hb5⟩; have HK5 := Lib.hid (HK.out.below hb5); have HT5 := Lib.hid (HT.out.below hb5); have HB5 := Lib.hid hb5; obtain ⟨x0, x1, x2, g0, g1, g2, lt5⟩ := HK.out.below hb5) | (go_at_call 47; (with_reducible refine (take_off AH pb _ _ _ false true rfl _ (((HK5.out.set2 true).set0 _ _ _))).mono ?_); rintro e w6 ⟨rfl, rfl⟩))
              go_ret
              refine ⟨_, rfl, ?_, ?_, ((grown_of_belowS HB5.out).trans (grown_set1 _ _ _ _)).trans (grown_set1 _ _ _ _)⟩
              · rw [HN.out]; exact ⟨_, _, _, ((HK5.out.set2 true).set0 _ _ _)⟩
              · intro v' r' e; rw [HN.out] at e; cases e
      · have hlt' : (j : Int) < (n : Int) := by omega
        have hne' : ¬ (j : Int) = (n : Int) := by omega
        have hne2 : ((j : Int) == (n : Int)) = false := by rw [beq_eq_false_iff_ne]; omega
        obtain ⟨x, hx⟩ : ∃ x, l[j]? = some x := ⟨_, List.getElem?_eq_getElem (by rw [HL.out]; omega)⟩
        have hxd : digB x = false := by
          apply span_stop (l := l)
          rw [HD.out, HDK.out]; exact hx
        have HD0 : Hid (spanD l ≠ []) := Lib.hid (by
          rw [← HST.out.2]; intro e
          have := congrArg List.length e
          rw [List.length_drop, HL.out] at this; simp at this; omega)
        have HL0 : Hid (l ≠ []) := Lib.hid (by intro e; have := HL.out; rw [e] at this; simp at this; omega)
        obtain ⟨b, off, rfl, hbl, e0⟩ := HT.out.2.2 j x hx
        have D1 := Lib.hid (fun W => DG.out x W)
        rw [hxd] at D1
        generalize x.toNat = xx at *
        have hcj : ¬ (c : Int) - (j : Int) = 0 := by omega
        have HAV : Hid (advA (some ⟨b, off, none⟩) c j = some (Addr.add ⟨b, off, none⟩ j)) := Lib.hid (by unfold advA; simp; intro e; omega)
        rw [addr_off] at HAV
        clear hx hxd
        by_cases hz : j = 0
        · subst hz
          have HN : Hid (numN most ahead l = .bad) := Lib.hid (numN_bad (.inl (by rw [HD.out, List.eq_nil_of_length_eq_zero HDK.out]; exact okN_nil)) HL0.out)
          have hdn : d = [] := List.eq_nil_of_length_eq_zero HDK.out
          have AT := Lib.hid (atoi_empty W HE.out)
          rw [hdn] at hcv
          rw [Nat.add_zero] at e0
          have q1 : (0 : Int) < (n : Int) := by omega
          have q2 : ¬ (n : Int) = 0 := by omega
          have q3 : ¬ (c : Int) = 0 := by omega
          have q4 : ((0 : Int) == (n : Int)) = false := by rw [beq_eq_false_iff_ne]; omega
          have q5 : ¬ (0 : Int) = (n : Int) := by omega
          clear hdn
          go_wp2_with (first | (go_at_call 64; (with_reducible refine (D1.out _).mono ?_); rintro e w3 ⟨rfl, rfl⟩) | (go_at_call 65; (with_reducible refine (AT.out).mono ?_); rintro e w5 ⟨⟨t5, q5, rfl⟩, hb5⟩; have HK5 := Lib.hid (HK.out.below hb5); have HT5 := Lib.hid (HT.out.below hb5); have HB5 := Lib.hid hb5; obtain ⟨x0, x1, x2, g0, g1, g2, lt5⟩ := HK.out.below hb5) | (go_at_call 47; (with_reducible refine (take_off AH pb _ _ _ false true rfl _ (((HK5.out.set2 true).set0 _ _ _))).mono ?_); rintro e w6 ⟨rfl, rfl⟩))
          go_ret
          refine ⟨_, rfl, ?_, ?_, ((grown_of_belowS HB5.out).trans (grown_set1 _ _ _ _)).trans (grown_set1 _ _ _ _)⟩
          · rw [HN.out]; exact ⟨_, _, _, ((HK5.out.set2 true).set0 _ _ _)⟩
          · intro v' r' e; rw [HN.out] at e; cases e
        · have hz1 : ((j : Int) == 0) = false := by rw [beq_eq_false_iff_ne]; omega
          have hz2 : ¬ (j : Int) = 0 := by omega
          have hdn : d ≠ [] := fun e => hz (by rw [← HDK.out, e]; rfl)
          obtain ⟨y, q, hyq⟩ : ∃ y q, d = y :: q := by cases d with | nil => exact absurd rfl hdn | cons y q => exact ⟨y, q, rfl⟩
          have hS1 : 0 < (⟨d.toArray⟩ : ByteArray).size := by rw [ba_sz, HDK.out]; omega
          have hS2 : ((⟨d.toArray⟩ : ByteArray)[0]'hS1).toNat = y.toNat := by subst hyq; rfl
          have hS3 : (0 : Int) < ((⟨d.toArray⟩ : ByteArray).size : Int) := by omega
          have hhd : d.head? = some y := by rw [hyq]; rfl
          have HHD := Lib.hid hhd
          have HDN := Lib.hid hdn
          clear hyq hhd hdn
          by_cases hov : dv d < 9223372036854775808
          · have AT := Lib.hid (atoi_fits d HDN.out HDD.out (by rw [HDK.out]; omega) hov W)
            have HOV := Lib.hid hov
            clear hov
            by_cases hm : j ≤ most
            · have hm1 : (j : Int) ≤ (most : Int) := by omega
              have hm2 : ¬ (most : Int) < (j : Int) := by omega
              by_cases hlz : y = 48 ∧ 1 < j
              · have HN : Hid (numN most ahead l = .bad) := Lib.hid (numN_bad (.inl (by rw [HD.out]; exact okN_lz (by rw [HHD.out, hlz.1]) (by rw [HDK.out]; exact hlz.2))) HL0.out)
                have hy : y.toNat = 48 := by rw [hlz.1]; rfl
                have hj1 : ((j : Int) == 1) = false := by rw [beq_eq_false_iff_ne]; omega
                have hj2 : (1 : Int) < (j : Int) := by omega
                have hj3 : ¬ (j : Int) = 1 := by omega
                rw [hy] at hS2
                clear hlz hy
                generalize (⟨d.toArray⟩ : ByteArray) = SD at *
                go_wp2_with (first | (go_at_call 64; (with_reducible refine (D1.out _).mono ?_); rintro e w3 ⟨rfl, rfl⟩) | (go_at_call 65; (with_reducible refine (AT.out).mono ?_); rintro e w5 ⟨rfl, hb5⟩; have HK5 := Lib.hid (HK.out.below hb5); have HT5 := Lib.hid (HT.out.below hb5); have HB5 := Lib.hid hb5; obtain ⟨x0, x1, x2, g0, g1, g2, lt5⟩ := HK.out.below hb5) | (go_at_call 47; (with_reducible refine (take_off AH pb _ _ _ false true rfl _ (((HK5.out.set2 true).set0 _ _ _))).mono ?_); rintro e w6 ⟨rfl, rfl⟩))
                go_ret
                refine ⟨_, rfl, ?_, ?_, ((grown_of_belowS HB5.out).trans (grown_set1 _ _ _ _)).trans (grown_set1 _ _ _ _)⟩
                · rw [HN.out]; exact ⟨_, _, _, ((HK5.out.set2 true).set0 _ _ _)⟩
                · intro v' r' e; rw [HN.out] at e; cases e
              · have hfit : okN (spanT l) = true := by
                  rw [HD.out]
                  refine okN_fits HDN.out HDD.out HOV.out ?_
                  by_cases h1 : y = 48
                  · right; rw [HDK.out]; have : ¬ 1 < j := fun h => hlz ⟨h1, h⟩; omega
                  · left; rw [HHD.out]; intro e; injection e with e; exact h1 e
                have HN := Lib.hid (numN_ok (ahead := ahead) hfit (by rw [HD.out, HDK.out]; exact hm) HD0.out)
                clear hfit
                by_cases h48 : y.toNat = 48
                · have hy : y = 48 := UInt8.toNat_inj.1 h48
                  have hj0 : ¬ 1 < j := fun h => hlz ⟨hy, h⟩
                  obtain rfl : j = 1 := by omega
                  rw [h48] at hS2
                  clear hlz hy hj0 h48
                  generalize (⟨d.toArray⟩ : ByteArray) = SD at *
                  go_wp2_with (first | (go_at_call 64; (with_reducible refine (D1.out _).mono ?_); rintro e w3 ⟨rfl, rfl⟩) | (go_at_call 65; (with_reducible refine (AT.out).mono ?_); rintro e w5 ⟨rfl, hb5⟩; have HK5 := Lib.hid (HK.out.below hb5); have HT5 := Lib.hid (HT.out.below hb5); have HB5 := Lib.hid hb5; obtain ⟨x0, x1, x2, g0, g1, g2, lt5⟩ := HK.out.below hb5) | (go_at_call 47; rw [← HAH.out]; (with_reducible refine (take_on ahead (l.drop 1) pb (some ⟨b, off + 1, none⟩) (n - 1) (c - 1) (by rw [List.length_drop, HL.out]) _ (HK5.out.set0 _ _ _) ((Bs.adv' HT5.out 1 (by rw [HL.out]; exact hkn) HAV.out).setFar _ _ (fun a e => by cases e; exact (HNE.out ⟨b, off, none⟩ rfl).symm))).mono ?_); rintro e w6 ⟨rfl, htk, hgr⟩))
                  go_ret
                  have hB6 := (Bs.adv' HT5.out 1 (by rw [HL.out]; exact hkn) HAV.out).setFar ⟨pb, 0, none⟩ (.slice (some ⟨b, off + 1, none⟩) (n - 1) (c - 1)) (fun a e => by cases e; exact (HNE.out ⟨b, off, none⟩ rfl).symm)
                  refine ⟨_, rfl, ?_, ?_, ((grown_of_belowS HB5.out).trans (grown_set1 _ _ _ _)).trans hgr⟩
                  · rw [HN.out, ← HST.out.2]; exact takeO_st (by rw [List.length_drop, HL.out]) htk hB6 hgr (fun a e => by cases e; exact HNE.out ⟨b, off, none⟩ rfl) _
                  · intro v' r' e
                    rw [HN.out, HD.out] at e
                    obtain ⟨_, _, _, e⟩ := bind_got e
                    injection e with e _
                    rw [e]
                · have hy0 : ((y.toNat : Int) == 48) = false := by rw [beq_eq_false_iff_ne]; omega
                  have hy1 : ¬ (y.toNat : Int) = 48 := by omega
                  have hy2 : ((y.toNat : Int) != 48) = true := by rw [bne, hy0]; rfl
                  generalize y.toNat = yy at *
                  clear hlz h48
                  generalize (⟨d.toArray⟩ : ByteArray) = SD at *
                  go_wp2_with (first | (go_at_call 64; (with_reducible refine (D1.out _).mono ?_); rintro e w3 ⟨rfl, rfl⟩) | (go_at_call 65; (with_reducible refine (AT.out).mono ?_); rintro e w5 ⟨rfl, hb5⟩; have HK5 := Lib.hid (HK.out.below hb5); have HT5 := Lib.hid (HT.out.below hb5); have HB5 := Lib.hid hb5; obtain ⟨x0, x1, x2, g0, g1, g2, lt5⟩ := HK.out.below hb5) | (go_at_call 47; rw [← HAH.out]; (with_reducible refine (take_on ahead (l.drop j) pb (some ⟨b, off + j, none⟩) (n - j) (c - j) (by rw [List.length_drop, HL.out]) _ (HK5.out.set0 _ _ _) ((Bs.adv' HT5.out j (by rw [HL.out]; exact hkn) HAV.out).setFar _ _ (fun a e => by cases e; exact (HNE.out ⟨b, off, none⟩ rfl).symm))).mono ?_); rintro e w6 ⟨rfl, htk, hgr⟩))
                  go_ret
                  have hB6 := (Bs.adv' HT5.out j (by rw [HL.out]; exact hkn) HAV.out).setFar ⟨pb, 0, none⟩ (.slice (some ⟨b, off + j, none⟩) (n - j) (c - j)) (fun a e => by cases e; exact (HNE.out ⟨b, off, none⟩ rfl).symm)
                  refine ⟨_, rfl, ?_, ?_, ((grown_of_belowS HB5.out).trans (grown_set1 _ _ _ _)).trans hgr⟩
                  · rw [HN.out, ← HST.out.2]; exact takeO_st (by rw [List.length_drop, HL.out]) htk hB6 hgr (fun a e => by cases e; exact HNE.out ⟨b, off, none⟩ rfl) _
                  · intro v' r' e
                    rw [HN.out, HD.out] at e
                    obtain ⟨_, _, _, e⟩ := bind_got e
                    injection e with e _
                    rw [e]
            · have hm1 : ¬ (j : Int) ≤ (most : Int) := by omega
              have hm2 : (most : Int) < (j : Int) := by omega
              have HN : Hid (numN most ahead l = .bad) := Lib.hid (numN_bad (.inr (by rw [HD.out, HDK.out]; omega)) HL0.out)
              generalize (⟨d.toArray⟩ : ByteArray) = SD at *
              clear hm
              go_wp2_with (first | (go_at_call 64; (with_reducible refine (D1.out _).mono ?_); rintro e w3 ⟨rfl, rfl⟩) | (go_at_call 65; (with_reducible refine (AT.out).mono ?_); rintro e w5 ⟨rfl, hb5⟩; have HK5 := Lib.hid (HK.out.below hb5); have HT5 := Lib.hid (HT.out.below hb5); have HB5 := Lib.hid hb5; obtain ⟨x0, x1, x2, g0, g1, g2, lt5⟩ := HK.out.below hb5) | (go_at_call 47; (with_reducible refine (take_off AH pb _ _ _ false true rfl _ (((HK5.out.set2 true).set0 _ _ _))).mono ?_); rintro e w6 ⟨rfl, rfl⟩))
              go_ret
              refine ⟨_, rfl, ?_, ?_, ((grown_of_belowS HB5.out).trans (grown_set1 _ _ _ _)).trans (grown_set1 _ _ _ _)⟩
              · rw [HN.out]; exact ⟨_, _, _, ((HK5.out.set2 true).set0 _ _ _)⟩
              · intro v' r' e; rw [HN.out] at e; cases e
          · have AT := Lib.hid (atoi_over d HDN.out HDD.out (by rw [HDK.out]; omega) hov W HE.out.1)
            have HN : Hid (numN most ahead l = .bad) := Lib.hid (numN_bad (.inl (by rw [HD.out]; exact okN_over hov)) HL0.out)
            clear hov
            generalize (⟨d.toArray⟩ : ByteArray) = SD at *
            go_wp2_with (first | (go_at_call 64; (with_reducible refine (D1.out _).mono ?_); rintro e w3 ⟨rfl, rfl⟩) | (go_at_call 65; (with_reducible refine (AT.out).mono ?_); rintro e w5 ⟨⟨t5, q5, rfl⟩, hb5⟩; have HK5 := Lib.hid (HK.out.below hb5); have HT5 := Lib.hid (HT.out.below hb5); have HB5 := Lib.hid hb5; obtain ⟨x0, x1, x2, g0, g1, g2, lt5⟩ := HK.out.below hb5) | (go_at_call 47; (with_reducible refine (take_off AH pb _ _ _ false true rfl _ (((HK5.out.set2 true).set0 _ _ _))).mono ?_); rintro e w6 ⟨rfl, rfl⟩))
            go_ret
            refine ⟨_, rfl, ?_, ?_, ((grown_of_belowS HB5.out).trans (grown_set1 _ _ _ _)).trans (grown_set1 _ _ _ _)⟩
            · rw [HN.out]; exact ⟨_, _, _, ((HK5.out.set2 true).set0 _ _ _)⟩
            · intro v' r' e; rw [HN.out] at e; cases e
end Go.Proofs.YtkaimfeiahogaaaGreatDoor
