/-
  Contract of money.Amount.Allocate, of any units and weights. (Printed by tools/mkms5.py.)
-/
import Derived.Test.YtakfjdnpfhcgkaaGreatDoorMs4
import Derived.Test.YtakfjdnpfhcgkaaGreatDoorMq6
namespace Go.Proofs.YtakfjdnpfhcgkaaGreatDoor
set_option linter.all false
open Go.RowKit Go.Sort
attribute [local go_sem] cell_set_self lt_1 lt_2 lt_3 lt_4 lt_5 lt_6

/-- One more (s) at the first e indices of the order f. -/
def upd (s : Int) (f : Nat → Nat) (l : List Int) : Nat → List Int
  | 0 => l
  | e + 1 => (upd s f l e).set (f e) ((upd s f l e).getD (f e) 0 + s)
theorem upd_len (s : Int) (f : Nat → Nat) (l : List Int) : ∀ e, (upd s f l e).length = l.length
  | 0 => rfl
  | e + 1 => by unfold upd; rw [List.length_set]; exact upd_len s f l e
theorem upd_fresh {s : Int} {f : Nat → Nat} {l : List Int} {i : Nat} : ∀ {e : Nat}, (∀ x, x < e → f x ≠ i) → (upd s f l e)[i]? = l[i]?
  | 0, _ => rfl
  | e + 1, h => by
    unfold upd
    rw [List.getElem?_set_ne (h e (by omega))]
    exact upd_fresh fun x hx => h x (by omega)
theorem srt_inj {key : Nat → Int} {f : Nat → Nat} {n i j : Nat} (h : Srt key f 0 n) (hi : i < n) (hj : j < n) (e : f i = f j) : i = j := by
  rcases Nat.lt_trichotomy i j with k | k | k
  · have := h i j (by omega) k hj; rw [e] at this; exact this.irrefl.elim
  · exact k
  · have := h j i (by omega) k hi; rw [e] at this; exact this.irrefl.elim
def absU (u : Int) : Int := if u < 0 then -u else u
def sgnU (u : Int) : Int := if u < 0 then -1 else 1
def keyL (a : Int) (ws : List Int) (i : Nat) : Int := (rsL a (sumI ws) ws).getD i 0
/-- The parts ahead of the rests. -/
def psL (u : Int) (ws : List Int) : List Int := (nsL (absU u) (sumI ws) ws).map (fun q => sgnU u * q)
def lfU (u : Int) (ws : List Int) : Nat := (absU u - sumI (nsL (absU u) (sumI ws) ws)).toNat
def AlOK (w : World) (g n : Nat) (CL : ByteArray) (u : Int) (ws : List Int) : Prop := ∃ f, Good (keyL (absU u) ws) f 0 n ∧ Amts w g CL (upd (sgnU u) f (psL u ws) (lfU u ws))
def alE (u : Int) (c : List UInt8) (ws : List Int) : Int := if amE u c = 0 then sumE ws else amE u c
theorem compare_neg (x y : Int) : Lib.compareInt x y < 0 ↔ x < y := by
  unfold Lib.compareInt
  split
  · simp; assumption
  · split <;> simp <;> omega
set_option maxHeartbeats 4000000 in
set_option maxRecDepth 100000 in
theorem alloc_bad (u : Int) (c : List UInt8) (A : Option Addr) (n cp : Nat) (ws : List Int) (hl : ws.length = n) (hn : n ≤ 9223372036854775807) (hE : alE u c ws ≠ 0) (w : World) (T : Sl w A cp ws) :
    Calls Tryz.prog 5 #[.agg #[.int .i64 u, .string ⟨c.toArray⟩], .slice A n cp] w fun e w' => e = .returned (.tuple #[.slice none 0 0, .int .i64 (alE u c ws)]) ∧ Below w.heap.size w w' := by
  have CK := Lib.hid (fun W => mcheck_any u c W)
  by_cases h : amE u c = 0
  · have e : alE u c ws = sumE ws := by unfold alE; rw [if_pos h]
    rw [e] at hE ⊢
    have SU : Hid (∀ W, Below w.heap.size w W → Calls Tryz.prog 15 #[.slice A n cp] W fun e w' => e = .returned (.tuple #[.int .i64 0, .int .i64 (sumE ws)]) ∧ Below W.heap.size W w') := Lib.hid fun W hb => by
      have := sumOf_any A n cp ws hl (by omega) W (T.below hb)
      rwa [sumV_n rfl hE] at this
    rw [h] at CK
    generalize sumE ws = x at *
    have x0 : (x != 0) = true := bne_iff_ne.2 hE
    clear hE h e T
    generalize (⟨c.toArray⟩ : ByteArray) = CL at *
    go_enter Tryz.func5, Tryz.ntmps5
    go_wp2_with (first | (go_at_call 14; refine (CK.out _).mono ?_; rintro e w1 ⟨rfl, hb1⟩; obtain ⟨hc1, hf1⟩ := bcell hb1; have hs1 := hb1.size; (try simp at hs1); have hz1 : w.heap.size < w1.heap.size := by have := hb1.size; (try simp at this); omega) | (go_at_call 15; refine (SU.out _ (by repeat (first | exact Below.refl _ _ | refine Below.setCell ?_ (by first | (simp; done) | (simp; omega) | omega) _ | refine Below.alloc ?_ (by first | (simp; done) | (simp; omega) | omega) _ | refine Below.drew ?_ | assumption | refine Below.trans ?_ (Below.mono (by assumption) (by first | (simp; done) | (simp; omega) | omega))))).mono ?_; rintro e w2 ⟨rfl, hb2⟩; obtain ⟨hc2, hf2⟩ := bcell hb2; have hs2 := hb2.size; (try simp at hs2); have hz2 : w.heap.size < w2.heap.size := by have := hb2.size; (try simp at this); omega))
    go_ret2
    exact ⟨rfl, (by repeat (first | exact Below.refl _ _ | refine Below.setCell ?_ (by first | (simp; done) | (simp; omega) | omega) _ | refine Below.alloc ?_ (by first | (simp; done) | (simp; omega) | omega) _ | refine Below.drew ?_ | assumption | refine Below.trans ?_ (Below.mono (by assumption) (by first | (simp; done) | (simp; omega) | omega))))⟩
  · have e : alE u c ws = amE u c := by unfold alE; rw [if_neg h]
    rw [e] at hE ⊢
    generalize amE u c = x at *
    have x0 : (x != 0) = true := bne_iff_ne.2 hE
    clear hE h e T
    generalize (⟨c.toArray⟩ : ByteArray) = CL at *
    go_enter Tryz.func5, Tryz.ntmps5
    go_wp2_with (first | (go_at_call 14; refine (CK.out _).mono ?_; rintro e w1 ⟨rfl, hb1⟩; obtain ⟨hc1, hf1⟩ := bcell hb1; have hs1 := hb1.size; (try simp at hs1); have hz1 : w.heap.size < w1.heap.size := by have := hb1.size; (try simp at this); omega))
    go_ret2
    exact ⟨rfl, (by repeat (first | exact Below.refl _ _ | refine Below.setCell ?_ (by first | (simp; done) | (simp; omega) | omega) _ | refine Below.alloc ?_ (by first | (simp; done) | (simp; omega) | omega) _ | refine Below.drew ?_ | assumption | refine Below.trans ?_ (Below.mono (by assumption) (by first | (simp; done) | (simp; omega) | omega))))⟩
set_option maxHeartbeats 16000000 in
set_option maxRecDepth 100000 in
theorem alloc_ok (u : Int) (c : List UInt8) (A : Option Addr) (n cp : Nat) (ws : List Int) (hl : ws.length = n) (hE : amE u c = 0) (hS : sumE ws = 0) (w : World) (T : Sl w A cp ws) :
    Calls Tryz.prog 5 #[.agg #[.int .i64 u, .string ⟨c.toArray⟩], .slice A n cp] w fun e w' => (∃ g cap, e = .returned (.tuple #[.slice (some ⟨g, 0, none⟩) n cap, .int .i64 0]) ∧ AlOK w' g n ⟨c.toArray⟩ u ws) ∧ Below w.heap.size w w' := by
  obtain ⟨i0, hi0, iz0, iz1, iz2⟩ := info_parts Tryz.infoInt
  obtain ⟨i1, hi1, hy0, hy1, hy2⟩ := info_parts Tryz.infoAmt
  have CK := Lib.hid (fun W => mcheck_any u c W)
  rw [hE] at CK
  have SU : Hid (∀ W, Below w.heap.size w W → Calls Tryz.prog 15 #[.slice A n cp] W fun e w' => e = .returned (.tuple #[.int .i64 (sumI ws), .int .i64 0]) ∧ Below W.heap.size W w') := Lib.hid fun W hb => by
    have := sumOf_any A n cp ws hl (by have := (sumE_0 hS).1; omega) W (T.below hb)
    rwa [sumV_0 hS] at this
  obtain ⟨hn, n0, hw, hD⟩ := sumE_0 hS
  have TT := Lib.hid (fun W (hb : Below w.heap.size w W) => (T.below hb).2.2)
  have hub := inU_iff.1 (amE_in hE)
  have hab : 0 ≤ absU u ∧ absU u ≤ 4611686018427387904 := by unfold absU; split <;> omega
  have hs : sgnU u = 1 ∨ sgnU u = -1 := by unfold sgnU; split <;> simp
  have hAB : Hid ((u < 0 ∧ absU u = -u ∧ sgnU u = -1) ∨ (¬ u < 0 ∧ absU u = u ∧ sgnU u = 1)) := Lib.hid (by
    unfold absU sgnU
    by_cases h : u < 0
    · left; rw [if_pos h, if_pos h]; exact ⟨h, rfl, rfl⟩
    · right; rw [if_neg h, if_neg h]; exact ⟨h, rfl, rfl⟩)
  obtain ⟨a, ha⟩ : ∃ a, absU u = a := ⟨_, rfl⟩
  obtain ⟨s, hsg⟩ : ∃ s, sgnU u = s := ⟨_, rfl⟩
  have FI : Hid (∀ W g f, Good (keyL (absU u) ws) f 0 n → Amts W g ⟨c.toArray⟩ (upd (sgnU u) f (psL u ws) (lfU u ws)) → AlOK W g n ⟨c.toArray⟩ u ws) := Lib.hid fun W g f h1 h2 => ⟨f, h1, h2⟩
  generalize hQ : AlOK = Q at FI ⊢
  clear hQ
  unfold lfU psL keyL at FI
  rw [ha] at hab hAB FI
  rw [hsg] at hs hAB FI
  obtain ⟨ha0, ha1⟩ := hab
  have LB := Lib.hid (left_bd (u := a) ha0 hw hD)
  have LL := Lib.hid (left_lt (u := a) hD)
  have HNN := Lib.hid (ns_nonneg (u := a) ha0 hD hw)
  have hDs := (sumI_bd hw).2
  have HW := Lib.hid (wOK_iff.1 hw)
  have hD64 : sumI ws ≤ 2147483648 * 100 := by omega
  obtain ⟨D, hDD⟩ : ∃ D, sumI ws = D := ⟨_, rfl⟩
  rw [hDD] at SU LB LL HNN hD hD64 FI
  have HL := Lib.hid hl
  obtain ⟨ns, hns⟩ : ∃ ns, nsL a D ws = ns := ⟨_, rfl⟩
  obtain ⟨rs, hrs⟩ : ∃ rs, rsL a D ws = rs := ⟨_, rfl⟩
  have NAT : Hid (∀ (k : Nat) (x : Int), ws[k]? = some x → ns[k]? = some (a * x / D) ∧ rs[k]? = some (a * x % D)) := Lib.hid fun k x hx => by
    rw [← hns, ← hrs]; unfold nsL rsL; rw [List.getElem?_map, List.getElem?_map, hx]; exact ⟨rfl, rfl⟩
  have NLEN : Hid (ns.length = n ∧ rs.length = n) := Lib.hid (by rw [← hns, ← hrs]; unfold nsL rsL; simp [hl])
  rw [hns] at LB LL HNN FI
  rw [hrs] at FI
  obtain ⟨ps, hps⟩ : ∃ ps, ns.map (fun q => s * q) = ps := ⟨_, rfl⟩
  have PAT : Hid (∀ (k : Nat) (x : Int), ns[k]? = some x → ps[k]? = some (s * x)) := Lib.hid fun k x hx => by rw [← hps, List.getElem?_map, hx]; rfl
  have PLEN : Hid (ps.length = n) := Lib.hid (by rw [← hps, List.length_map]; exact NLEN.out.1)
  rw [hps] at FI
  rw [hl] at n0 hn
  clear hl hE hS T hw hDs hns hrs hDD hps
  obtain ⟨CL, hCL⟩ : ∃ CL : ByteArray, (⟨c.toArray⟩ : ByteArray) = CL := ⟨_, rfl⟩
  rw [hCL] at CK FI ⊢
  clear hCL ha hsg
  obtain ⟨B, hB⟩ : ∃ B, decide (u < 0) = B := ⟨_, rfl⟩
  go_enter Tryz.func5, Tryz.ntmps5
  go_upto_if 40 with (first | (go_at_call 14; refine (CK.out _).mono ?_; rintro e w1 ⟨rfl, hb1⟩; obtain ⟨hc1, hf1⟩ := bcell hb1; have hs1 := hb1.size; (try simp at hs1); have hz1 : w.heap.size < w1.heap.size := by have := hb1.size; (try simp at this); omega) | (go_at_call 15; refine (SU.out _ (by repeat (first | exact Below.refl _ _ | refine Below.setCell ?_ (by first | (simp; done) | (simp; omega) | omega) _ | refine Below.alloc ?_ (by first | (simp; done) | (simp; omega) | omega) _ | refine Below.drew ?_ | assumption | refine Below.trans ?_ (Below.mono (by assumption) (by first | (simp; done) | (simp; omega) | omega))))).mono ?_; rintro e w2 ⟨rfl, hb2⟩; obtain ⟨hc2, hf2⟩ := bcell hb2; have hs2 := hb2.size; (try simp at hs2); have hz2 : w.heap.size < w2.heap.size := by have := hb2.size; (try simp at this); omega))
  have hB2 : Below w.heap.size w w2 := (by repeat (first | exact Below.refl _ _ | refine Below.setCell ?_ (by first | (simp; done) | (simp; omega) | omega) _ | refine Below.alloc ?_ (by first | (simp; done) | (simp; omega) | omega) _ | refine Below.drew ?_ | assumption | refine Below.trans ?_ (Below.mono (by assumption) (by first | (simp; done) | (simp; omega) | omega))))
  have HB2 := Lib.hid hB2
  have hs12 := hB2.size
  have cb : w2.cell? ⟨w.heap.size, 1, none⟩ = some (.string CL) := by simp [go_sem, *]
  have hb0 : w.heap.size < w2.heap.size := by omega
  go_cut [9, 10] from 41 to 42 (fun p q wx => p = .int .i64 a ∧ q = .int .i64 s ∧ w2 = wx)
  case first =>
    rcases hAB.out with ⟨h1, h2, h3⟩ | ⟨h1, h2, h3⟩
    · rw [decide_eq_true h1] at hB
      subst hB
      subst h3
      subst h2
      have hw' : IntKind.i64.wrap (-u) = -u := by rw [IntKind.wrap_i64]; omega
      go_wp2_with (fail)
      go_meet
      exact ⟨rfl, rfl, rfl⟩
    · rw [decide_eq_false (by omega)] at hB
      subst hB
      subst h3
      subst h2
      go_wp2_with (fail)
      go_meet
      exact ⟨rfl, rfl, rfl⟩
  case rest =>
  obtain ⟨rfl, rfl, rfl⟩ := hcut
  clear hB hAB CK SU hub
  go_wp2
  go_loopw [11, 12, 14, 46] (fun o r lf i wr => ∃ (k : Nat) (vO vR vL : Value) (z : Int), k ≤ n ∧ i = .int .i64 k ∧ vO = o ∧ vR = r ∧ lf = .int .i64 z ∧ Hid (z = a - sumI (ns.take k)) ∧ (0 ≤ z ∧ z ≤ a) ∧ Hid (ASt w2 wr w2.heap.size vO vR vL vL k k k (cellsM CL (ps.take k)) (ords k) ((rs.take k).map (Value.int .i64)))) (fun _ _ _ i _ => n - (intOf i).toNat)
  case atStart => exact ⟨0, _, _, .slice none 0 0, a, by omega, rfl, rfl, rfl, rfl, Lib.hid (by simp [sumI]), by omega, Lib.hid ⟨⟨Below.alloc (Below.refl _ _) (Nat.le_refl _) _, by simp⟩, World.ownsRow_nil _ _ _ _, World.ownsRow_nil _ _ _ _, World.ownsRow_nil _ _ _ _, (fun a h => by simp [Value.ownBlock] at h), by simp [go_sem], by simp [go_sem]⟩⟩
  case round =>
    obtain ⟨k, vO, vR, vL, z, hk, rfl, hvO, hvR, rfl, HZ, ⟨z0, z1⟩, ST⟩ := hrel
    subst hvO hvR
    obtain ⟨wo, rfl⟩ : ∃ wo : World, wo = wr := ⟨_, rfl⟩
    have hsl := ST.out.lt
    have hBo : Below w.heap.size w wo := HB2.out.trans (ST.out.bel.mono hs12)
    have hso := hBo.size
    have hbo : w.heap.size < wo.heap.size ∧ w2.heap.size < wo.heap.size := by omega
    have cbo : wo.cell? ⟨w.heap.size, 1, none⟩ = some (.string CL) := (ST.out.bel.cell (p := ⟨w.heap.size, 1, none⟩) hb0).trans cb
    by_cases hlt : k < n
    · have hlt' : (k : Int) < (n : Int) := by omega
      obtain ⟨x, hx⟩ : ∃ x, ws[k]? = some x := ⟨_, List.getElem?_eq_getElem (by rw [HL.out]; exact hlt)⟩
      obtain ⟨b, off, rfl, hbw, hc⟩ := TT.out wo hBo k x hx
      obtain ⟨x0, x1⟩ := HW.out x (List.mem_of_getElem? hx)
      obtain ⟨nk, rk⟩ := NAT.out k x hx
      have p0 : 0 ≤ a * x := Int.mul_nonneg ha0 x0
      have p1 : a * x ≤ 4611686018427387904 * 2147483648 := Int.mul_le_mul ha1 x1 x0 (by decide)
      have MU := Lib.hid (fun W => mul_any a x (by unfold In64; omega) (by unfold In64; omega) W)
      have QR := Lib.hid (fun W => quoRem_any (a * x) D p0 (by omega) (by unfold In64; omega) hD W)
      have q0 := Int.ediv_nonneg p0 (show 0 ≤ D by omega)
      have r0 := Int.emod_nonneg (a * x) (show D ≠ 0 by omega)
      have r1 := Int.emod_lt_of_pos (a * x) hD
      have lb := LB.out (k + 1)
      have hz' : a - sumI (ns.take (k + 1)) = z - a * x / D := by rw [sumI_take nk, HZ.out]; omega
      rw [hz'] at lb
      have HZ' := Lib.hid hz'
      obtain ⟨lb0, lb1⟩ := lb
      have IN := Lib.hid (fun W => int_fits (a * x / D) (by unfold In64; omega) W)
      have TO : Hid (cellsM CL (ps.take (k + 1)) = cellsM CL (ps.take k) ++ [.int .i64 (s * (a * x / D)), .string CL]) := Lib.hid (by rw [List.take_succ, PAT.out k _ nk, Option.toList_some, cellsM_app])
      have TR : Hid ((rs.take (k + 1)).map (Value.int .i64) = (rs.take k).map (Value.int .i64) ++ [.int .i64 (a * x % D)]) := Lib.hid (by rw [List.take_succ, rk, Option.toList_some, List.map_append]; rfl)
      clear hx nk rk hz' p0 p1 x0 x1
      generalize hiOf (a * x / D) = hq at *
      generalize loOf (a * x / D) = lq at *
      generalize a * x / D = q at *
      have qb : q ≤ a := by omega
      obtain ⟨v, hv⟩ : ∃ v, s * q = v := ⟨_, rfl⟩
      have hvw : IntKind.i64.wrap v = v := by rw [IntKind.wrap_i64]; rcases hs with rfl | rfl <;> omega
      rw [hv] at TO
      generalize a * x % D = r at *
      generalize hiOf (a * x) = hm at *
      generalize loOf (a * x) = lm at *
      generalize cellsM CL (ps.take k) = xO at *
      generalize (rs.take k).map (Value.int .i64) = xL at *
      go_wp2_with (first | (go_at_call 16; refine (MU.out _).mono ?_; rintro e w3 ⟨rfl, hb3⟩; obtain ⟨hc3, hf3⟩ := bcell hb3; have hs3 := hb3.size; (try simp at hs3); have hz3 : w.heap.size < w3.heap.size ∧ w2.heap.size < w3.heap.size := by have := hb3.size; (try simp at this); omega) | (go_at_call 17; refine (QR.out _).mono ?_; rintro e w4 ⟨rfl, hb4⟩; obtain ⟨hc4, hf4⟩ := bcell hb4; have hs4 := hb4.size; (try simp at hs4); have hz4 : w.heap.size < w4.heap.size ∧ w2.heap.size < w4.heap.size := (by have := hb4.size; (try simp at this); omega); have hy4 : w.heap.size < w4.heap.size + 1 ∧ w2.heap.size < w4.heap.size + 1 := (by omega)) | (go_at_call 18; refine (IN.out _).mono ?_; rintro e w5 ⟨rfl, hb5⟩; obtain ⟨hc5, hf5⟩ := bcell hb5; have hs5 := hb5.size; (try simp at hs5); have hz5 : w.heap.size < w5.heap.size ∧ w2.heap.size < w5.heap.size := by have := hb5.size; (try simp at this); omega) | (at_builtin; refine wpList_append_own _ rfl (.tmp 68) (.tmp 75) 26 rfl (w2.heap.size + 1) 23 i1 _ 2 24 Tryz.underlying26 hi1 hy0 hy1 hy2 rfl (by decide) vO k xO rfl (ST.out.below (by repeat (first | exact Below.refl _ _ | refine Below.setCell ?_ (by first | (simp; done) | (simp; omega) | omega) _ | refine Below.alloc ?_ (by first | (simp; done) | (simp; omega) | omega) _ | refine Below.drew ?_ | assumption | refine Below.trans ?_ (Below.mono (by assumption) (by first | (simp; done) | (simp; omega) | omega))))).2.1 _ 1 1 [.int .i64 v, .string CL] rfl rfl (by intro j u' hj; match j, hj with | 0, hj => (simp at hj; subst hj; simp [Addr.add, go_sem]) | 1, hj => (simp at hj; subst hj; simp [Addr.add, go_sem])) (by intro u' hu'; simp at hu'; rcases hu' with rfl | rfl <;> rfl) (by unfold maxLen; omega) (by omega) (by simp; omega) ?_; intro v6 w6 hown6 hgrow6 hiff; clear hiff; have S6 := Lib.hid ((ST.out.below (by repeat (first | exact Below.refl _ _ | refine Below.setCell ?_ (by first | (simp; done) | (simp; omega) | omega) _ | refine Below.alloc ?_ (by first | (simp; done) | (simp; omega) | omega) _ | refine Below.drew ?_ | assumption | refine Below.trans ?_ (Below.mono (by assumption) (by first | (simp; done) | (simp; omega) | omega))))).appO hown6 hgrow6); have c13 := S6.out.cell; have f13 := S6.out.froz; have l13 := S6.out.lt; clear hown6 hgrow6))
      go_region_law (first | (refine step_append_lies _ rfl (.tmp 77) (.tmp 79) 24 rfl (w2.heap.size + 1) 3 i0 _ 1 8 Tryz.underlying24 hi0 iz0 iz1 iz2 rfl (by decide) vR k (ords k) rfl (S6.out.below (by repeat (first | exact Below.refl _ _ | refine Below.setCell ?_ (by first | (simp; done) | (simp; omega) | omega) _ | refine Below.alloc ?_ (by first | (simp; done) | (simp; omega) | omega) _ | refine Below.drew ?_ | assumption | refine Below.trans ?_ (Below.mono (by assumption) (by first | (simp; done) | (simp; omega) | omega))))).2.2.1 _ 1 1 [.int .i64 (k : Int)] rfl rfl (by intro j u' hj; match j, hj with | 0, hj => (simp at hj; subst hj; simp [Addr.add, go_sem])) (by intro u' hu'; simp at hu'; subst hu'; rfl) (by omega) (by unfold maxLen; omega) (by omega) (by simp; omega) _ rfl ?_; intro g7 cap7 w7 hown7 hgrow7 hat7 hlt7; have S7 := Lib.hid ((S6.out.below (by repeat (first | exact Below.refl _ _ | refine Below.setCell ?_ (by first | (simp; done) | (simp; omega) | omega) _ | refine Below.alloc ?_ (by first | (simp; done) | (simp; omega) | omega) _ | refine Below.drew ?_ | assumption | refine Below.trans ?_ (Below.mono (by assumption) (by first | (simp; done) | (simp; omega) | omega))))).appR hown7 hgrow7 rfl hat7); have c137 := S7.out.cell; have f137 := S7.out.froz; have l137 := S7.out.lt; have m0 := fun hh => hgrow7.cell_far ⟨w6.heap.size, 0, none⟩ hh (fun e => by have h := S6.out.2.2.1.lt _ e.symm; dsimp only at h; omega); have m1 := fun hh => hgrow7.cell_far ⟨w6.heap.size + 1, 0, none⟩ hh (fun e => by have h := S6.out.2.2.1.lt _ e.symm; dsimp only at h; omega); clear hown7 hgrow7 hat7) | (refine step_append_lies _ rfl (.tmp 81) (.tmp 83) 24 rfl (w2.heap.size + 1) 3 i0 _ 1 8 Tryz.underlying24 hi0 iz0 iz1 iz2 rfl (by decide) vL k xL rfl (S7.out.below (by repeat (first | exact Below.refl _ _ | refine Below.setCell ?_ (by first | (simp; done) | (simp; omega) | omega) _ | refine Below.alloc ?_ (by first | (simp; done) | (simp; omega) | omega) _ | refine Below.drew ?_ | assumption | refine Below.trans ?_ (Below.mono (by assumption) (by first | (simp; done) | (simp; omega) | omega))))).2.2.2.1 _ 1 1 [.int .i64 r] rfl rfl (by intro j u' hj; match j, hj with | 0, hj => (simp at hj; subst hj; simp [Addr.add, go_sem, *])) (by intro u' hu'; simp at hu'; subst hu'; rfl) (by omega) (by unfold maxLen; omega) (by omega) (by have := S7.out.lt; simp; omega) _ rfl ?_; intro g8 cap8 w8 hown8 hgrow8 hat8 hlt8; have S8 := Lib.hid ((S7.out.below (by repeat (first | exact Below.refl _ _ | refine Below.setCell ?_ (by first | (simp; done) | (simp; omega) | omega) _ | refine Below.alloc ?_ (by first | (simp; done) | (simp; omega) | omega) _ | refine Below.drew ?_ | assumption | refine Below.trans ?_ (Below.mono (by assumption) (by first | (simp; done) | (simp; omega) | omega))))).appL hown8 hgrow8 rfl hat8); have c138 := S8.out.cell; have f138 := S8.out.froz; have l138 := S8.out.lt; clear hown8 hgrow8 hat8))
      all_goals (
        go_wp2
        go_roundw
        case rel => exact ⟨k + 1, _, _, _, z - q, by omega, by go_num, rfl, rfl, rfl, HZ'.out ▸ Lib.hid rfl, ⟨lb0, lb1⟩, by rw [TO.out, TR.out, ords_succ]; exact Lib.hid (S8.out.store _)⟩
        case measure => first | (simp [intOf]; done) | (simp [intOf]; omega))
    · obtain rfl : k = n := by omega
      have hkk : ¬ (k : Int) < (k : Int) := by omega
      obtain ⟨nl, rl⟩ := NLEN.out
      have hll := LL.out
      have hwl := HL.out
      have pl := PLEN.out
      rw [List.take_of_length_le (l := ps) (by omega)] at ST
      rw [List.take_of_length_le (l := rs) (by omega)] at ST
      have hz := HZ.out
      rw [List.take_of_length_le (l := ns) (by omega)] at hz
      obtain ⟨gO, cO, hvO, hgO, hgO'⟩ := ST.out.2.1.form n0
      obtain ⟨gR, cR, hvR, _, hgR'⟩ := ST.out.2.2.1.form n0
      obtain ⟨gL, cL, hvL, _, hgL'⟩ := ST.out.2.2.2.1.form n0
      subst hvO hvR hvL
      have hcR : k ≤ cR := by
        rcases ST.out.2.2.1.2 with ⟨h1, _⟩ | ⟨_, _, _, h1, _, _, h4, _⟩
        · simp at h1
        · injection h1 with _ _ h3; omega
      have hne : ¬ gR = gO := by
        rcases own_types ST.out.2.2.1 ST.out.2.1 (by decide) with h | h
        · simp [Value.ownBlock] at h
        · simpa [Value.ownBlock] using h
      obtain ⟨AM, FZ, _⟩ := amts_own ST.out.2.1
      have OC : ∀ j, j < k → wo.cell? ⟨gR, j, none⟩ = some (.int .i64 (j : Int)) := fun j hj => by
        have := ST.out.2.2.1.cells (g := gR) rfl j _ (ords_at hj)
        rw [addr0] at this; simpa using this
      have LC : ∀ j, j < k → wo.cell? ⟨gL, j, none⟩ = some (.int .i64 (rs.getD j 0)) := fun j hj => by
        have := ST.out.2.2.2.1.cells (g := gL) rfl j (.int .i64 (rs.getD j 0)) (by simp [List.getD, show j < rs.length by omega])
        rw [addr0] at this; simpa using this
      have c13 := ST.out.cell
      have RO : Hid (∀ W, Below wo.heap.size wo W → RowI W gR (fun j => j) k) := Lib.hid fun W hb =>
        ⟨Nat.lt_of_lt_of_le hgR' hb.size, fun j hj => ⟨(hb.cell (p := ⟨gR, j, none⟩) hgR').trans (OC j hj), (World.frozen?_of_block (hb.block gR hgR')).trans (ST.out.2.2.1.frozenAt (g := gR) j), hj⟩⟩
      have hneL : ¬ gR = gL := fun e => ST.out.2.2.2.2.1 gR rfl (by rw [e]; rfl)
      have hneB : ¬ gR = w2.heap.size := by have := ST.out.2.2.1.lt gR rfl; omega
      have FITS : Fits (fun i => rs.getD i 0) (fun x y => Lib.compareInt (rs.getD y 0) (rs.getD x 0)) := fun x y => compare_neg _ _
      have SO : Hid (∀ W, Below wo.heap.size wo W → Calls Tryz.prog 19 #[.slice (some ⟨gR, 0, none⟩) k cR, .func (.func 20) #[] #[.pointer (some ⟨w2.heap.size, 0, none⟩)]] W fun e w' => e = .returned (.tuple #[]) ∧ W.grownBy w' (some gR) ∧ ∃ g, RowI w' gR g k ∧ Good (fun i => rs.getD i 0) g 0 k) := Lib.hid fun W hb =>
        sort_any (fun i => rs.getD i 0) (fun x y => Lib.compareInt (rs.getD y 0) (rs.getD x 0)) FITS gR k cR w2.heap.size n0 (by omega) (fun j => j) (fun _ _ => rfl) W (fun W' hg x y hx hy => by
          have e1 : W'.cell? ⟨w2.heap.size, 0, none⟩ = some (.slice (some ⟨gL, 0, none⟩) k cL) := by
            rw [hg.cell_far ⟨w2.heap.size, 0, none⟩ (Nat.lt_of_lt_of_le hsl hb.size) (fun e => hneB (by injection e with e; exact e.symm))]
            exact (hb.cell (p := ⟨w2.heap.size, 0, none⟩) hsl).trans c13
          have e2 : ∀ j, j < k → W'.cell? ⟨gL, j, none⟩ = some (.int .i64 (rs.getD j 0)) := fun j hj => by
            rw [hg.cell_far ⟨gL, j, none⟩ (Nat.lt_of_lt_of_le hgL' hb.size) (fun e => hneL (by injection e with e; exact e.symm))]
            exact (hb.cell (p := ⟨gL, j, none⟩) hgL').trans (LC _ hj)
          exact clo_any x y k cL w2.heap.size gL (rs.getD x 0) (rs.getD y 0) hx hy W' (Nat.lt_of_lt_of_le hsl (Nat.le_trans hb.size hg.size)) (Nat.lt_of_lt_of_le hgL' (Nat.le_trans hb.size hg.size)) e1 (e2 x hx) (e2 y hy)) (RO.out W hb)
      obtain ⟨lf, rfl⟩ := Int.eq_ofNat_of_zero_le z0
      have hlf : lf < k := by omega
      have hlc : (lf : Int) ≤ (cR : Int) := by omega
      have NB : Hid (∀ e x, ns[e]? = some x → 0 ≤ x ∧ x ≤ a) := Lib.hid fun e x hx => by
        have h1 := LB.out e
        have h2 := LB.out (e + 1)
        rw [sumI_take hx] at h2
        have h3 := HNN.out x (List.mem_of_getElem? hx)
        omega
      have FIN : Hid ((a - sumI ns).toNat = lf) := Lib.hid (by omega)
      have HA := Lib.hid (fun W (hb : Below wo.heap.size wo W) => AM.below hb)
      have HF := Lib.hid (fun W (hb : Below wo.heap.size wo W) j => (World.frozen?_of_block (hb.block gO hgO')).trans (FZ j))
      clear hz hll HZ rl hwl AM FZ OC LC c13 z1 RO FITS nl
      go_wp2_with (first | (go_at_call 19; (with_reducible refine (SO.out _ (by repeat (first | exact Below.refl _ _ | refine Below.setCell ?_ (by first | (simp; done) | (simp; omega) | omega) _ | refine Below.alloc ?_ (by first | (simp; done) | (simp; omega) | omega) _ | refine Below.drew ?_ | assumption | refine Below.trans ?_ (Below.mono (by assumption) (by first | (simp; done) | (simp; omega) | omega))))).mono ?_); rintro e w3 ⟨rfl, hg3, g, hr3, hgd⟩))
      have hgw3 : wo.heap.size ≤ w3.heap.size := Nat.le_trans (by simp) hg3.size
      have HG := Lib.hid hgd
      have HO3 : Hid (Amts w3 gO CL ps ∧ (∀ j, w3.frozen? ⟨gO, j, none⟩ = false)) := Lib.hid (by
        have hb4 := Below.alloc (Below.refl wo.heap.size wo) (Nat.le_refl _)
        have A4 := HA.out _ (Below.refl _ _)
        refine ⟨⟨Nat.lt_of_lt_of_le hgO' hgw3, fun i x hi => ?_⟩, fun j => ?_⟩
        · obtain ⟨h1, h2⟩ := A4.2 i x hi
          exact ⟨by rw [hg3.cell_far ⟨gO, i * 2, none⟩ (by first | exact hgO' | (simp; omega)) (fun e => hne (by injection e with e; exact e.symm))]; simpa [go_sem] using h1, by rw [hg3.cell_far ⟨gO, i * 2 + 1, none⟩ (by first | exact hgO' | (simp; omega)) (fun e => hne (by injection e with e; exact e.symm))]; simpa [go_sem] using h2⟩
        · rw [hg3.frozen_far ⟨gO, j, none⟩ (by first | exact hgO' | (simp; omega)) (fun e => hne (by injection e with e; exact e.symm))]
          simpa [go_sem] using HF.out _ (Below.refl _ _) j)
      have hgR2 : w.heap.size ≤ gR := by omega
      have hB3 : Below w.heap.size w w3 := Below.grown ((by repeat (first | exact Below.refl _ _ | refine Below.setCell ?_ (by first | (simp; done) | (simp; omega) | omega) _ | refine Below.alloc ?_ (by first | (simp; done) | (simp; omega) | omega) _ | refine Below.drew ?_ | assumption | refine Below.trans ?_ (Below.mono (by assumption) (by first | (simp; done) | (simp; omega) | omega))))) hg3 (by first | (simp; done) | (simp; omega) | omega) (fun j hj => by injection hj with hj; omega)
      have HR3 := Lib.hid hr3
      clear hr3 hgd hg3 SO HA HF LB LL HNN HL HW NAT TT HB2 hBo ST
      go_loopw [93] (fun i wr => ∃ e : Nat, e ≤ lf ∧ i = .int .i64 e ∧ Hid (Amts wr gO CL (upd s g ps e) ∧ (∀ j, wr.frozen? ⟨gO, j, none⟩ = false)) ∧ Hid (RowI wr gR g k) ∧ Below w.heap.size w wr) (fun i _ => lf - (intOf i).toNat)
      case atStart => exact ⟨0, by omega, rfl, HO3, HR3, hB3⟩
      case round =>
        obtain ⟨e, he, rfl, HE, HRr, hBe⟩ := hrel
        obtain ⟨we, rfl⟩ : ∃ we : World, we = wr := ⟨_, rfl⟩
        have hse := hBe.size
        have hgw := HRr.out.1
        by_cases hel : e < lf
        · have hel' : (e : Int) < (lf : Int) := by omega
          have hek : (e : Int) < (k : Int) := by omega
          obtain ⟨i, hi⟩ : ∃ i, g e = i := ⟨_, rfl⟩
          have hik := (HRr.out.2 e (by omega)).2.2
          have r0 := HRr.out.at (j := e) (by omega) hi
          rw [hi] at hik
          have hik' : (i : Int) < (k : Int) := by omega
          obtain ⟨x, hx⟩ : ∃ x, ns[i]? = some x := ⟨_, List.getElem?_eq_getElem (by have := NLEN.out.1; omega)⟩
          obtain ⟨x0, x1⟩ := NB.out i x hx
          obtain ⟨v, hv⟩ : ∃ v, s * x = v := ⟨_, rfl⟩
          have vb : -4611686018427387904 ≤ v ∧ v ≤ 4611686018427387904 := by rcases hs with rfl | rfl <;> omega
          have hpx := PAT.out i x hx
          rw [hv] at hpx
          have hbx : (upd s g ps e)[i]? = some v := by
            rw [upd_fresh (fun y hy h => by
              have := srt_inj HG.out.1 (i := y) (j := e) (by omega) (by omega) (by rw [h, hi])
              omega)]
            exact hpx
          have q0 := (HE.out.1.2 i v hbx).1
          have f0 := HE.out.2 (i * 2)
          have hgw2 := HE.out.1.1
          have hvs : IntKind.i64.wrap (v + s) = v + s := by rw [IntKind.wrap_i64]; rcases hs with rfl | rfl <;> omega
          have NX : Hid (Amts (we.setCell ⟨gO, i * 2, none⟩ (.int .i64 (v + s))) gO CL (upd s g ps (e + 1)) ∧ (∀ j, (we.setCell ⟨gO, i * 2, none⟩ (.int .i64 (v + s))).frozen? ⟨gO, j, none⟩ = false)) := Lib.hid ⟨by
            have := HE.out.1.set (v + s) hbx
            unfold upd
            rw [hi, show (upd s g ps e).getD i 0 = v by simp [List.getD, hbx]]
            exact this, fun j => by simpa [go_sem] using HE.out.2 j⟩
          have NR : Hid (RowI (we.setCell ⟨gO, i * 2, none⟩ (.int .i64 (v + s))) gR g k) := Lib.hid ⟨by simpa using hgw, fun j hj => by
            obtain ⟨h1, h2, h3⟩ := HRr.out.2 j hj
            exact ⟨by rw [World.cell?_setCell_far we _ _ _ (fun e => hne (by first | exact e | exact e.symm))]; exact h1, by simpa [go_sem] using h2, h3⟩⟩
          clear hx hbx HE hpx hv hi x0 x1
          go_wp2
          go_roundw
          case rel => exact ⟨e + 1, by omega, by go_num, NX, NR, Below.setCell hBe (by show w.heap.size ≤ gO; omega) _⟩
          case measure => first | (simp [intOf]; done) | (simp [intOf]; omega)
        · obtain rfl : e = lf := by omega
          have hee : ¬ (e : Int) < (e : Int) := by omega
          go_wp2
          go_ret2
          exact ⟨⟨gO, ⟨cO, rfl⟩, FI.out we gO g HG.out (by rw [FIN.out]; exact HE.out.1)⟩, hBe⟩
end Go.Proofs.YtakfjdnpfhcgkaaGreatDoor
