/-
  Contract of sql.quoted.
-/
import Derived.Test.YtijlifdbjhieaaaGreatDoorSc3
namespace Go.Proofs.YtijlifdbjhieaaaGreatDoor
set_option linter.all false
open Go.RowKit Go.Shelf
attribute [local go_sem] cell_set_self lt_1 lt_2 lt_3 lt_4 lt_5 lt_6

/-- Bytes that lie in memory. -/
def Bs (w : World) (A : Option Addr) (c : Nat) (l : List UInt8) : Prop :=
  l.length ≤ c ∧ (A = none → c = 0) ∧ ∀ (i : Nat) (x : UInt8), l[i]? = some x → ∃ b off, A = some ⟨b, off, none⟩ ∧ b < w.heap.size ∧ w.cell? ⟨b, off + i, none⟩ = some (.int .u8 (x.toNat : Int))
theorem Bs.below {w W : World} {A : Option Addr} {c : Nat} {l : List UInt8} (T : Bs w A c l) (h : Below w.heap.size w W) : Bs W A c l := ⟨T.1, T.2.1, fun i v hi => by
  obtain ⟨b, off, hA, hb, hc⟩ := T.2.2 i v hi
  exact ⟨b, off, hA, Nat.lt_of_lt_of_le hb h.size, (h.cell (p := ⟨b, off + i, none⟩) hb).trans hc⟩⟩
theorem addr_off (b off n : Nat) : ({ block := b, off := off } : Addr).add n = ⟨b, off + n, none⟩ := by unfold Addr.add; split <;> simp_all
theorem conv_bs {W : World} {A : Option Addr} {c : Nat} {l : List UInt8} (T : Bs W A c l) : (convert 52 9 (.slice A l.length c)).run Tryz.prog W = .ok (.string ⟨l.toArray⟩) W := by
  cases A with
  | none =>
    obtain rfl : c = 0 := T.2.1 rfl
    have h0 := T.1
    obtain rfl : l = [] := List.eq_nil_of_length_eq_zero (by omega)
    exact (run_convert_bytes_nil W 52 5 Tryz.underlying52 Tryz.underlying5 0 0 9 Tryz.underlying9).trans rfl
  | some a =>
    refine run_convert_bytes_back (P := Tryz.prog) _ 52 9 5 a c l Tryz.underlying52 Tryz.underlying5 Tryz.underlying9 (fun j hj => ?_)
    obtain ⟨b, off, e, _, hc⟩ := T.2.2 j l[j] (List.getElem?_eq_getElem hj)
    injection e with e
    rw [e, addr_off]; exact hc
theorem info_u8h : (Tryz.prog.info? 5).map (fun i => (i.zero, i.size, i.bytes)) = some (some (.int .u8 0), 1, 1) := by kernel_rfl
theorem own_bs {w : World} {base n : Nat} {v : Value} {l : List UInt8} (h : w.ownsRow base 5 1 v n (Lib.byteCells l)) : ∃ A c, v = .slice A n c ∧ Bs w A c l ∧ ∀ a, A = some a → base ≤ a.block := by
  have hl : l.length = n := by have := h.1; simpa [Lib.byteCells] using this
  rcases h.2 with ⟨rfl, h0⟩ | ⟨g, cap, cur, rfl, hg, hh, hnc, _⟩
  · obtain rfl : l = [] := List.eq_nil_of_length_eq_zero (by omega)
    subst h0
    exact ⟨none, 0, rfl, ⟨by simp, fun _ => rfl, fun i v hi => by simp at hi⟩, fun a ha => by cases ha⟩
  · refine ⟨_, _, rfl, ⟨by omega, fun hx => (by cases hx), fun i v hi => ?_⟩, fun a ha => by cases ha; exact hg⟩
    have hj := (List.getElem?_eq_some_iff.1 hi).1
    have := h.cells (g := g) rfl i (.int .u8 (v.toNat : Int)) (by simp [Lib.byteCells, hi])
    have t2 := (congrArg w.cell? (addr_off g 0 i)).symm.trans this
    exact ⟨g, 0, rfl, World.block_lt_of_cell? w ⟨g, 0 + i, none⟩ t2, t2⟩
theorem below_push {B : Nat} {a wr w1 : World} {o : Obj} {row : Option Nat} (h : Below B a wr) (hB : B ≤ wr.heap.size) (hg : (wr.alloc o).grownBy w1 row) (hr : ∀ k, row = some k → B ≤ k) : Below B a w1 :=
  (h.alloc hB o).grown hg (by simp; omega) hr
theorem byteCells_snoc (l : List UInt8) (x : UInt8) : Lib.byteCells (l ++ [x]) = Lib.byteCells l ++ [.int .u8 (x.toNat : Int)] := by simp [Lib.byteCells]
theorem quo_other {x : UInt8} (h : x.toNat ≠ 39) (r : List UInt8) (i : Nat) (acc : List UInt8) : quoF (x :: r) i acc = quoF r (i + 1) (acc ++ [x]) := by
  cases r <;> simp [quoF, h]
theorem quo_end {x : UInt8} (h : x.toNat = 39) (i : Nat) (acc : List UInt8) : quoF [x] i acc = some (acc, i + 1) := by
  simp [quoF, h]
theorem quo_stop {x y : UInt8} (h : x.toNat = 39) (hy : y.toNat ≠ 39) (r : List UInt8) (i : Nat) (acc : List UInt8) : quoF (x :: y :: r) i acc = some (acc, i + 1) := by
  simp [quoF, h, hy]
theorem quo_two {x y : UInt8} (h : x.toNat = 39) (hy : y.toNat = 39) (r : List UInt8) (i : Nat) (acc : List UInt8) : quoF (x :: y :: r) i acc = quoF r (i + 2) (acc ++ [39]) := by
  simp [quoF, h, hy]
def quoR (R : Option (List UInt8 × Nat)) : Tk0 × Nat := match R with
  | some (a, n) => if textB a = true then (⟨116, a, 0⟩, n) else (bad0, 1)
  | none => (bad0, 1)
set_option maxHeartbeats 16000000 in
set_option maxRecDepth 100000 in
theorem quoted_any (q : UInt8) (r : List UInt8) (hs : (q :: r).length ≤ 1000000000) (w : World) :
    Calls Tryz.prog 99 #[.string ⟨(q :: r).toArray⟩] w fun e w' => e = .returned (.tuple #[tkV (quotedF r).1 0, .int .i64 ((quotedF r).2 : Int)]) ∧ Below w.heap.size w w' := by
  suffices key : ∀ Q : Ending → World → Prop, Hid (∀ e w', (e = .returned (.tuple #[tkV (quotedF r).1 0, .int .i64 ((quotedF r).2 : Int)]) ∧ Below w.heap.size w w') → Q e w') → Calls Tryz.prog 99 #[.string ⟨(q :: r).toArray⟩] w Q from key _ (Lib.hid fun _ _ h => h)
  intro Q HQQ
  obtain ⟨i, hi, iz0, iz1, iz2⟩ := info_parts info_u8h
  obtain ⟨R, hR⟩ : ∃ R, quoF r 1 [] = R := ⟨_, rfl⟩
  have HF : Hid (∀ t n, quoR R = (t, n) → ∀ e w', (e = .returned (.tuple #[tkV t 0, .int .i64 (n : Int)]) ∧ Below w.heap.size w w') → Q e w') := Lib.hid fun t n h e w' => by
    have : quotedF r = (t, n) := by unfold quotedF; rw [hR]; exact h
    rw [this] at HQQ
    exact HQQ.out e w'
  obtain ⟨L, hL⟩ : ∃ L, q :: r = L := ⟨_, rfl⟩
  have hR1 : Hid (quoF (L.drop 1) 1 [] = R) := Lib.hid (by rw [← hL]; exact hR)
  have h0 : 0 < L.length := by rw [← hL]; simp
  rw [hL] at hs ⊢
  clear hL HQQ hR
  obtain ⟨t, ht⟩ : ∃ t : ByteArray, (⟨L.toArray⟩ : ByteArray) = t := ⟨_, rfl⟩
  have hsz : L.length = t.size := by rw [← ht, ba_sz]
  have AT : Hid (∀ (i : Nat) (h : i < t.size), L.drop i = (t[i]'h) :: L.drop (i + 1)) := Lib.hid fun i h => by
    subst ht
    rw [List.drop_eq_getElem_cons (by rw [hsz]; exact h)]; rfl
  have HSZ := Lib.hid hsz
  rw [hsz] at hs h0
  rw [ht]
  clear ht hsz
  have TX := Lib.hid (fun (a : List UInt8) (ha : a.length ≤ 1000000000) W => isText_any a (by omega) W)
  go_enter Tryz.func99, Tryz.ntmps99
  go_wp2
  go_loopw [4, 5] (fun b j wr => ∃ (k : Nat) (acc : List UInt8) (V : Value), 1 ≤ k ∧ k ≤ t.size ∧ acc.length < k ∧ j = .int .i64 k ∧ V = b ∧ Hid (quoF (L.drop k) k acc = R) ∧ Hid (wr.ownsRow (w.heap.size + 1) 5 1 V acc.length (Lib.byteCells acc)) ∧ Hid (Below (w.heap.size + 1) (w.alloc (.cells #[.int .u8 0, .string ⟨#[]⟩, .int .i64 0, .int .i64 0] 83)) wr)) (fun _ j _ => t.size - (intOf j).toNat)
  case atStart => exact ⟨1, [], _, by omega, by omega, by simp, rfl, rfl, hR1, Lib.hid (World.ownsRow_nil _ _ _ _), Lib.hid (Below.refl _ _)⟩
  case round =>
    obtain ⟨k, acc, V, hk1, hk, hak, rfl, hV, HQ, HO, HB⟩ := hrel
    subst hV
    obtain ⟨wo, rfl⟩ : ∃ wo : World, wo = wr := ⟨_, rfl⟩
    obtain ⟨hcb, hfb⟩ := bcell (W := w.alloc (.cells #[.int .u8 0, .string ⟨#[]⟩, .int .i64 0, .int .i64 0] 83)) (w1 := wo) (by simpa using HB.out)
    simp only [World.size_alloc] at hcb hfb
    have hsb : w.heap.size + 1 ≤ wo.heap.size := by have := HB.out.size; simpa using this
    by_cases hkt : k < t.size
    · have hkt' : (k : Int) < (t.size : Int) := by omega
      have hx := AT.out k hkt
      by_cases h39 : (t[k]'hkt).toNat = 39
      · have e39 : (((t[k]'hkt).toNat : Int) == 39) = true := by rw [h39]; rfl
        by_cases hend : R = some (acc, k + 1) ∧ (k + 1 = t.size ∨ ∃ h : k + 1 < t.size, (t[k+1]'h).toNat ≠ 39)
        · obtain ⟨hR, hcase⟩ := hend
          obtain ⟨A, c, hVs, TB, -⟩ := own_bs HO.out
          subst hVs
          have CV := conv_bs TB
          have TX' := Lib.hid (fun W => TX.out acc (by omega) W)
          have HR := Lib.hid hR
          have HTB := Lib.hid TB
          clear TX hx HQ HO hR TB
          obtain ⟨u, hu⟩ : ∃ u : ByteArray, (⟨acc.toArray⟩ : ByteArray) = u := ⟨_, rfl⟩
          have HU := Lib.hid hu
          rw [hu] at CV TX'
          clear hu h39
          have hlw : Below w.heap.size w wo := ((Below.refl w.heap.size w).alloc (Nat.le_refl _) _).trans (HB.out.mono (Nat.le_succ _))
          cases htx : textB acc with
          | true =>
            rw [htx] at TX'
            have FN : Hid (quoR R = (⟨116, acc, 0⟩, k + 1)) := Lib.hid (by rw [HR.out]; simp [quoR, htx])
            clear htx
            rcases hcase with hcase | ⟨hk2, hy⟩
            · have ek : (((k : Int) + 1) == (t.size : Int)) = true := by rw [beq_iff_eq]; omega
              clear hcase
              go_wp2_with (first | (go_at_call 106; (with_reducible refine (TX'.out _).mono ?_); rintro e w5 ⟨rfl, hb5⟩; obtain ⟨hc5, hf5⟩ := bcell hb5; have hs5 := hb5.size; have hz5 : w.heap.size < w5.heap.size ∧ w.heap.size < wo.heap.size := ⟨by omega, by omega⟩; have CV5 := conv_bs (HTB.out.below hb5); rw [HU.out] at CV5))
              exact bodyPost_ret (v := .tuple #[.agg #[.int .u8 116, .string u, .int .i64 0, .int .i64 0], .int .i64 ((k : Int) + 1)]) (by simp [results, Tryz.results99, go_sem, *]) rfl (HF.out _ _ FN.out _ _ ⟨by rw [← HU.out]; rfl, (by repeat (first | exact Below.refl _ _ | refine Below.setCell ?_ (by first | (simp; done) | (simp; omega) | omega) _ | refine Below.alloc ?_ (by first | (simp; done) | (simp; omega) | omega) _ | refine Below.drew ?_ | assumption | refine Below.trans ?_ (Below.mono (by assumption) (by first | (simp; done) | (simp; omega) | omega))))⟩)
            · have ek : (((k : Int) + 1) == (t.size : Int)) = false := by rw [beq_eq_false_iff_ne]; omega
              have ey : (((t[k+1]'hk2).toNat : Int) != 39) = true := by rw [bne_iff_ne]; omega
              have hk2' : (k : Int) + 1 < (t.size : Int) := by omega
              clear hy
              go_wp2_with (first | (go_at_call 106; (with_reducible refine (TX'.out _).mono ?_); rintro e w5 ⟨rfl, hb5⟩; obtain ⟨hc5, hf5⟩ := bcell hb5; have hs5 := hb5.size; have hz5 : w.heap.size < w5.heap.size ∧ w.heap.size < wo.heap.size := ⟨by omega, by omega⟩; have CV5 := conv_bs (HTB.out.below hb5); rw [HU.out] at CV5))
              exact bodyPost_ret (v := .tuple #[.agg #[.int .u8 116, .string u, .int .i64 0, .int .i64 0], .int .i64 ((k : Int) + 1)]) (by simp [results, Tryz.results99, go_sem, *]) rfl (HF.out _ _ FN.out _ _ ⟨by rw [← HU.out]; rfl, (by repeat (first | exact Below.refl _ _ | refine Below.setCell ?_ (by first | (simp; done) | (simp; omega) | omega) _ | refine Below.alloc ?_ (by first | (simp; done) | (simp; omega) | omega) _ | refine Below.drew ?_ | assumption | refine Below.trans ?_ (Below.mono (by assumption) (by first | (simp; done) | (simp; omega) | omega))))⟩)
          | false =>
            rw [htx] at TX'
            have FN : Hid (quoR R = (bad0, 1)) := Lib.hid (by rw [HR.out]; simp [quoR, htx])
            clear htx
            rcases hcase with hcase | ⟨hk2, hy⟩
            · have ek : (((k : Int) + 1) == (t.size : Int)) = true := by rw [beq_iff_eq]; omega
              clear hcase
              go_wp2_with (first | (go_at_call 106; (with_reducible refine (TX'.out _).mono ?_); rintro e w5 ⟨rfl, hb5⟩; obtain ⟨hc5, hf5⟩ := bcell hb5; have hs5 := hb5.size; have hz5 : w.heap.size < w5.heap.size ∧ w.heap.size < wo.heap.size := ⟨by omega, by omega⟩; have CV5 := conv_bs (HTB.out.below hb5); rw [HU.out] at CV5))
              exact bodyPost_ret (v := .tuple #[.agg #[.int .u8 33, .string ⟨#[]⟩, .int .i64 0, .int .i64 0], .int .i64 1]) (by simp [results, Tryz.results99, go_sem, *]) rfl (HF.out _ _ FN.out _ _ ⟨rfl, (by repeat (first | exact Below.refl _ _ | refine Below.setCell ?_ (by first | (simp; done) | (simp; omega) | omega) _ | refine Below.alloc ?_ (by first | (simp; done) | (simp; omega) | omega) _ | refine Below.drew ?_ | assumption | refine Below.trans ?_ (Below.mono (by assumption) (by first | (simp; done) | (simp; omega) | omega))))⟩)
            · have ek : (((k : Int) + 1) == (t.size : Int)) = false := by rw [beq_eq_false_iff_ne]; omega
              have ey : (((t[k+1]'hk2).toNat : Int) != 39) = true := by rw [bne_iff_ne]; omega
              have hk2' : (k : Int) + 1 < (t.size : Int) := by omega
              clear hy
              go_wp2_with (first | (go_at_call 106; (with_reducible refine (TX'.out _).mono ?_); rintro e w5 ⟨rfl, hb5⟩; obtain ⟨hc5, hf5⟩ := bcell hb5; have hs5 := hb5.size; have hz5 : w.heap.size < w5.heap.size ∧ w.heap.size < wo.heap.size := ⟨by omega, by omega⟩; have CV5 := conv_bs (HTB.out.below hb5); rw [HU.out] at CV5))
              exact bodyPost_ret (v := .tuple #[.agg #[.int .u8 33, .string ⟨#[]⟩, .int .i64 0, .int .i64 0], .int .i64 1]) (by simp [results, Tryz.results99, go_sem, *]) rfl (HF.out _ _ FN.out _ _ ⟨rfl, (by repeat (first | exact Below.refl _ _ | refine Below.setCell ?_ (by first | (simp; done) | (simp; omega) | omega) _ | refine Below.alloc ?_ (by first | (simp; done) | (simp; omega) | omega) _ | refine Below.drew ?_ | assumption | refine Below.trans ?_ (Below.mono (by assumption) (by first | (simp; done) | (simp; omega) | omega))))⟩)
        · have hk2 : k + 1 < t.size := by
            rcases Nat.lt_or_ge (k + 1) t.size with h | h
            · exact h
            · exfalso
              refine hend ⟨?_, .inl (by omega)⟩
              have hn : L.drop (k + 1) = [] := List.drop_eq_nil_of_le (by rw [HSZ.out]; omega)
              rw [hx, hn] at HQ
              rw [← HQ.out, quo_end h39]
          have hx2 := AT.out (k + 1) hk2
          have hy : (t[k+1]'hk2).toNat = 39 := by
            apply Classical.byContradiction
            intro hy
            refine hend ⟨?_, .inr ⟨hk2, hy⟩⟩
            rw [hx, hx2] at HQ
            rw [← HQ.out, quo_stop h39 hy]
          have y39 : t[k+1]'hk2 = 39 := UInt8.toNat_inj.1 hy
          rw [hx, hx2] at HQ
          have HQ2 : Hid (quoF (L.drop (k + 1 + 1)) (k + 1 + 1) (acc ++ [39]) = R) := Lib.hid (by rw [← HQ.out, quo_two h39 hy])
          have ek : (((k : Int) + 1) == (t.size : Int)) = false := by rw [beq_eq_false_iff_ne]; omega
          have ey : (((t[k+1]'hk2).toNat : Int) != 39) = false := by rw [hy]; rfl
          have hk2' : (k : Int) + 1 < (t.size : Int) := by omega
          have YN : Hid (((t[k+1]'hk2).toNat : Int) = 39) := Lib.hid (by rw [hy]; rfl)
          clear hend hx hx2 HQ h39 hy y39
          go_wp2_with (first | (at_builtin; refine wpList_append_lies _ rfl _ _ _ rfl (w.heap.size + 1) 5 i _ 1 1 Tryz.underlying52 hi iz0 iz1 iz2 rfl (by decide) V (acc.length) _ rfl (HO.out.alloc _) ⟨wo.heap.size, 0, none⟩ 1 1 [.int .u8 ((t[k+1]'hk2).toNat : Int)] rfl rfl (World.news_of_block (cs := #[.int .u8 ((t[k+1]'hk2).toNat : Int)]) (t := 5) (fr := (0, 0)) (heap_alloc_new wo _)) (by simp [Value.oneCell']) (by omega) (by unfold maxLen; omega) (by omega) (by simp; omega) (wo.heap.size + 1) (by simp) ?_; intro gg cap w1' hown1 hgrow hat hlt'))
          go_roundw
          case rel => exact ⟨k + 1 + 1, acc ++ [39], _, by omega, by omega, by simp; omega, by go_num, rfl, HQ2, Lib.hid (by rw [byteCells_snoc, List.length_append]; rw [YN.out] at hown1; exact hown1), Lib.hid (below_push HB.out hsb hgrow fun b hb => (HO.out.lt b hb).1)⟩
          case measure => first | (simp [intOf]; done) | (simp [intOf]; omega)
      · have e39 : (((t[k]'hkt).toNat : Int) == 39) = false := by rw [beq_eq_false_iff_ne]; omega
        rw [hx] at HQ
        have HQ2 : Hid (quoF (L.drop (k + 1)) (k + 1) (acc ++ [t[k]'hkt]) = R) := Lib.hid (by rw [← HQ.out, quo_other h39])
        clear hx h39 HQ
        go_wp2_with (first | (at_builtin; refine wpList_append_lies _ rfl _ _ _ rfl (w.heap.size + 1) 5 i _ 1 1 Tryz.underlying52 hi iz0 iz1 iz2 rfl (by decide) V (acc.length) _ rfl (HO.out.alloc _) ⟨wo.heap.size, 0, none⟩ 1 1 [.int .u8 ((t[k]'hkt).toNat : Int)] rfl rfl (World.news_of_block (cs := #[.int .u8 ((t[k]'hkt).toNat : Int)]) (t := 5) (fr := (0, 0)) (heap_alloc_new wo _)) (by simp [Value.oneCell']) (by omega) (by unfold maxLen; omega) (by omega) (by simp; omega) (wo.heap.size + 1) (by simp) ?_; intro gg cap w1' hown1 hgrow hat hlt'))
        go_roundw
        case rel => exact ⟨k + 1, acc ++ [t[k]'hkt], _, by omega, by omega, by simp; omega, by go_num, rfl, HQ2, Lib.hid (by rw [byteCells_snoc, List.length_append]; exact hown1), Lib.hid (below_push HB.out hsb hgrow fun b hb => (HO.out.lt b hb).1)⟩
        case measure => first | (simp [intOf]; done) | (simp [intOf]; omega)
    · obtain rfl : k = t.size := by omega
      have hn : L.drop t.size = [] := List.drop_eq_nil_of_le (by rw [HSZ.out]; omega)
      have FN : Hid (quoR R = (bad0, 1)) := Lib.hid (by rw [← HQ.out, hn]; rfl)
      have hlw : Below w.heap.size w wo := ((Below.refl w.heap.size w).alloc (Nat.le_refl _) _).trans (HB.out.mono (Nat.le_succ _))
      have hz5 : w.heap.size < wo.heap.size := by omega
      clear hn HO HQ
      go_wp2
      exact bodyPost_ret (v := .tuple #[.agg #[.int .u8 33, .string ⟨#[]⟩, .int .i64 0, .int .i64 0], .int .i64 1]) (by simp [results, Tryz.results99, go_sem, *]) rfl (HF.out _ _ FN.out _ _ ⟨rfl, (by repeat (first | exact Below.refl _ _ | refine Below.setCell ?_ (by first | (simp; done) | (simp; omega) | omega) _ | refine Below.alloc ?_ (by first | (simp; done) | (simp; omega) | omega) _ | refine Below.drew ?_ | assumption | refine Below.trans ?_ (Below.mono (by assumption) (by first | (simp; done) | (simp; omega) | omega))))⟩)
end Go.Proofs.YtijlifdbjhieaaaGreatDoor
