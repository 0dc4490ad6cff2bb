/-
  Contract of exref6.Allocate, where it answers: in an order f of the falling rests. (Printed by tools/mkxa4.py.)
-/
import Derived.Test.YtakfjdnpfhcgkaaGreatDoorXa3
import Derived.Test.YtakfjdnpfhcgkaaGreatDoorXb
import Derived.Test.YtakfjdnpfhcgkaaGreatDoorBw8
import Derived.Test.YtakfjdnpfhcgkaaGreatDoorBw14
import Derived.Deep.CutBlock
import Derived.BigRegion
namespace Go.Proofs.YtakfjdnpfhcgkaaGreatDoor
set_option linter.all false
open Go.RowKit Go.Sort
attribute [local go_sem] cell_set_self lt_1 lt_2 lt_3 lt_4 lt_5 lt_6

theorem Tryz.infoBoolR : (Tryz.prog.info? 4).map (fun i => (i.zero, i.size, i.bytes)) = some (some (.bool false), 1, 1) := by kernel_rfl
theorem Tryz.infoAmtR : (Tryz.prog.info? 33).map (fun i => (i.zero, i.size, i.bytes)) = some (some (.agg #[.int .i64 0, .string ⟨#[]⟩]), 2, 24) := by kernel_rfl
theorem amts_ownR {w : World} {base g cap n : Nat} {cl : ByteArray} {l : List Int} (h : w.ownsRow base 33 2 (.slice (some ⟨g, 0, none⟩) n cap) n (cellsM cl l)) : Amts w g cl l := by
  have hl := h.lt g rfl
  refine ⟨hl.2, fun i x hi => ?_⟩
  obtain ⟨h1, h2⟩ := cellsM_at (cl := cl) hi
  have hc := h.cells (g := g) rfl
  exact ⟨by have := hc _ _ h1; rw [addr0] at this; simpa using this, by have := hc _ _ h2; rw [addr0] at this; simpa using this⟩
theorem psL_at {u : Int} {ws : List Int} {k : Nat} {x : Int} (h : ws[k]? = some x) : (psL u ws)[k]? = some (sgnU u * (absU u * x / sumI ws)) := by
  unfold psL nsL; rw [List.getElem?_map, List.getElem?_map, h]; rfl
theorem pt_negR {base : Nat} {w : World} {s : Bool} {A : Option Addr} {n c : Nat} {z : Int} (P : Pt base w s A n c z) : (s = true ∧ z < 0) ∨ (s = false ∧ ¬ z < 0) := by
  have := P.1
  by_cases h : z < 0
  · left; rw [decide_eq_true h] at this; exact ⟨this, h⟩
  · right; rw [decide_eq_false h] at this; exact ⟨this, h⟩
theorem cmpI_gt {a b : Int} : (cmpI a b = 1 ∧ b < a) ∨ (cmpI a b = 0 ∧ ¬ b < a) ∨ (cmpI a b = -1 ∧ ¬ b < a) := by
  unfold cmpI
  by_cases h : a < b
  · rw [if_pos h]; right; right; exact ⟨rfl, by omega⟩
  · rw [if_neg h]
    by_cases h2 : b < a
    · rw [if_pos h2]; left; exact ⟨rfl, h2⟩
    · rw [if_neg h2]; right; left; exact ⟨rfl, h2⟩
theorem drew_heap (w : World) (k : Nat) : w.drew.heap[k]? = w.heap[k]? := rfl
theorem heap_alloc_at {W : World} {o : Obj} {k : Nat} (h : W.heap.size = k) : (W.alloc o).heap[k]? = some o := by subst h; exact heap_alloc_new W o
theorem set_block {w : World} {b o : Nat} {v : Value} {k : Nat} (h : k ≠ b) : (w.setCell ⟨b, o, none⟩ v).heap[k]? = w.heap[k]? := by
  simp only [World.setCell, Array.getElem?_modify]
  rw [if_neg (fun e => h e.symm)]
theorem set2 {w : World} {b : Nat} {v0 v1 : Value} {t : TypeId} (h : w.heap[b]? = some (.cells #[.bool false, .slice none 0 0] t (0, 0))) : ((w.setCell ⟨b, 0, none⟩ v0).setCell ⟨b, 1, none⟩ v1).heap[b]? = some (.cells #[v0, v1] t (0, 0)) := by
  simp [World.setCell, Array.getElem?_modify, h]
/-- What lies from B on stays. -/
def KB (B : Nat) (w W : World) : Prop := w.heap.size ≤ W.heap.size ∧ ∀ i, B ≤ i → i < w.heap.size → W.heap[i]? = w.heap[i]?
theorem KB.refl (B : Nat) (w : World) : KB B w w := ⟨Nat.le_refl _, fun _ _ _ => rfl⟩
theorem KB.set {B : Nat} {w W : World} (h : KB B w W) {p : Addr} (hp : p.block < B) (v : Value) : KB B w (W.setCell p v) := by
  refine ⟨by simpa using h.1, fun i h1 h2 => ?_⟩
  rw [← h.2 i h1 h2]
  simp only [World.setCell, Array.getElem?_modify]
  rw [if_neg (by omega)]
theorem KB.alloc {B : Nat} {w W : World} (h : KB B w W) (o : Obj) : KB B w (W.alloc o) := by
  have e := (Below.refl W.heap.size W).alloc (Nat.le_refl _) o
  exact ⟨Nat.le_trans h.1 e.size, fun i h1 h2 => (e.block i (Nat.lt_of_lt_of_le h2 h.1)).trans (h.2 i h1 h2)⟩
theorem Pt.kb {B : Nat} {w W : World} {s : Bool} {A : Option Addr} {n c : Nat} {z : Int} (P : Pt B w s A n c z) (k : KB B w W) : Pt B W s A n c z := by
  refine ⟨P.1, P.2.1, ⟨P.2.2.1.1, P.2.2.1.2.1, fun i v hi => ?_⟩, P.2.2.2⟩
  obtain ⟨b, off, hA, hb, hc⟩ := P.2.2.1.2.2 i v hi
  have hB := P.2.2.2 _ hA
  exact ⟨b, off, hA, Nat.lt_of_lt_of_le hb k.1, by rw [← hc]; simp only [World.cell?, k.2 b hB hb]⟩
theorem bg_mk {base B b : Nat} {W w : World} {s : Bool} {A : Option Addr} {n c : Nat} {t : TypeId} {z : Int} (h : W.heap[b]? = some (.cells #[.bool s, .slice A n c] t (0, 0))) (P : Pt B w s A n c z) (k : KB B w W) (hB : base ≤ B) (h0 : 0 < B) : BgP base 0 W b z :=
  ⟨s, A, n, c, (Array.getElem?_eq_some_iff.1 h).1, by simp [World.cell?, h], by simp [World.cell?, h], by simp [World.frozen?, h], by simp [World.frozen?, h], (P.kb k).mono hB, fun a ha _ => by have := P.2.2.2 a ha; omega⟩
set_option maxHeartbeats 64000000 in
set_option maxRecDepth 100000 in
theorem rallocate_ok (u : Int) (c : List UInt8) (A : Option Addr) (n cp : Nat) (ws : List Int) (hl : ws.length = n) (hE : amE u c = 0) (hS : sumE ws = 0) (f : Nat → Nat) (gd : Good (keyL (absU u) ws) f 0 n) (w : World) (T : Sl w A cp ws) :
    Calls Tryz.prog 6 #[.agg #[.int .i64 u, .string ⟨c.toArray⟩], .slice A n cp] w fun e w' => (∃ g cap, e = .returned (.tuple #[.slice (some ⟨g, 0, none⟩) n cap, .int .i64 0]) ∧ Amts w' g ⟨c.toArray⟩ (upd (sgnU u) f (psL u ws) (lfU u ws))) ∧ Below w.heap.size w w' := by
  obtain ⟨i0, hi0, hz0, hz1, hz2⟩ := info_parts Tryz.infoInt
  obtain ⟨i1, hi1, iy0, iy1, iy2⟩ := info_parts Tryz.infoAmtR
  obtain ⟨i2, hi2, ib0, ib1, ib2⟩ := info_parts Tryz.infoBigR
  have HZ1 := Lib.hid hz1
  clear hz1
  have CK := Lib.hid (fun W => rcheck_any u c W)
  rw [hE] at CK
  obtain ⟨hn, n0, hw, hD⟩ := sumE_0 hS
  rw [hl] at hn n0
  have hmk := run_make_row' (P := Tryz.prog) 66 4 (.bool false) 1 Tryz.underlying66 Tryz.infoBoolR rfl .i64 .i64 n (by omega) (by omega)
  obtain ⟨gw, ow, hA, hgw, -⟩ := T.2.2 0 _ (List.getElem?_eq_getElem (by omega))
  subst hA
  have WS : Hid (∀ W, Below w.heap.size w W → ∀ k x, ws[k]? = some x → W.cell? ⟨gw, ow + k, none⟩ = some (.int .i64 x)) := Lib.hid fun W hb k x hx => by
    obtain ⟨b, off, e, _, hc⟩ := (T.below hb).2.2 k x hx
    injection e with e; injection e with e1 e2; subst e1 e2
    exact hc
  have HL := Lib.hid hl
  have HW := Lib.hid (wOK_iff.1 hw)
  have hDs := (sumI_bd hw).2
  have hD64 : sumI ws ≤ 2147483648 * 100 := by omega
  have hub := inU_iff.1 (amE_in hE)
  have hab : 0 ≤ absU u ∧ absU u ≤ 4611686018427387904 := by unfold absU; split <;> omega
  have hs : sgnU u = 1 ∨ sgnU u = -1 := by unfold sgnU; split <;> simp
  have hus : sgnU u * absU u = u := by unfold sgnU absU; split <;> omega
  have LB := left_bd (u := absU u) hab.1 hw hD
  have LL := left_lt (u := absU u) hD
  have PP := fun e (he : e < lfU u ws) => pick_pos (a := absU u) hl hD gd (lf := lfU u ws) (by have := LB ws.length; rw [List.take_of_length_le (by rw [nsL_len]; exact Nat.le_refl _)] at this; unfold lfU; omega) (by have := LB ws.length; rw [List.take_of_length_le (by rw [nsL_len]; exact Nat.le_refl _)] at this; unfold lfU; omega) he
  have QS := fun x (hx : 0 ≤ x) => quo_sgn u x (sumI ws) hx hD
  have PAT := fun k x => psL_at (u := u) (ws := ws) (k := k) (x := x)
  have NAT := fun k x (h : ws[k]? = some x) => show (nsL (absU u) (sumI ws) ws)[k]? = some (absU u * x / sumI ws) by unfold nsL; rw [List.getElem?_map, h]; rfl
  have RAT := fun k x (h : ws[k]? = some x) => rsL_getD (a := absU u) (D := sumI ws) h
  have KE : ∀ j, keyL (absU u) ws j = (rsL (absU u) (sumI ws) ws).getD j 0 := fun j => rfl
  have RB := fun j => rsL_bd (a := absU u) hD ws j
  have PL : (psL u ws).length = n := by unfold psL; rw [List.length_map, nsL_len, hl]
  have NL : (nsL (absU u) (sumI ws) ws).length = n := by rw [nsL_len, hl]
  have lfe : (lfU u ws : Int) = absU u - sumI (nsL (absU u) (sumI ws) ws) := by have := LB ws.length; rw [List.take_of_length_le (by rw [nsL_len]; exact Nat.le_refl _)] at this; unfold lfU; omega
  -- names
  obtain ⟨a, ha⟩ : ∃ a, absU u = a := ⟨_, rfl⟩
  obtain ⟨s, hsg⟩ : ∃ s, sgnU u = s := ⟨_, rfl⟩
  obtain ⟨D, hDD⟩ : ∃ D, sumI ws = D := ⟨_, rfl⟩
  obtain ⟨lf, hlf⟩ : ∃ lf, lfU u ws = lf := ⟨_, rfl⟩
  rw [ha] at hab hus LB LL QS PAT NAT RAT KE RB NL lfe PP gd
  rw [hsg] at hs hus QS PAT ⊢
  rw [hDD] at hD hD64 LB LL QS PAT NAT RAT KE RB NL lfe
  rw [hlf] at lfe PP ⊢
  obtain ⟨key, hkey⟩ : ∃ key, keyL a ws = key := ⟨_, rfl⟩
  rw [hkey] at KE PP gd
  obtain ⟨ns, hns⟩ : ∃ ns, nsL a D ws = ns := ⟨_, rfl⟩
  obtain ⟨rs, hrs⟩ : ∃ rs, rsL a D ws = rs := ⟨_, rfl⟩
  obtain ⟨ps, hps⟩ : ∃ ps, psL u ws = ps := ⟨_, rfl⟩
  rw [hns] at LB LL NAT NL lfe
  rw [hrs] at RAT KE RB
  rw [hps] at PAT PL ⊢
  obtain ⟨CL, hCL⟩ : ∃ CL : ByteArray, (⟨c.toArray⟩ : ByteArray) = CL := ⟨_, rfl⟩
  rw [hCL] at CK ⊢
  rw [hl] at LL hDs
  have HDl : Hid (sumI ws = D) := Lib.hid hDD
  have HSUM : Hid (∀ k, 0 ≤ sumI (ws.take k) ∧ sumI (ws.take k) ≤ 2147483648 * 100) := Lib.hid fun k => by
    have := sumI_bd (wOK_take hw k)
    have h2 : (ws.take k).length ≤ 100 := by simp; omega
    omega
  have hlfn : lf < n := by
    rcases LL with h | h <;> omega
  have HLB := Lib.hid LB; have HPP := Lib.hid PP; have HQS := Lib.hid QS; have HPA := Lib.hid PAT; have HNA := Lib.hid NAT; have HRA := Lib.hid RAT; have HKE := Lib.hid KE; have HRB := Lib.hid RB; have HPL := Lib.hid PL; have HNL := Lib.hid NL; have HLF := Lib.hid lfe; have HGD := Lib.hid gd; have HUS := Lib.hid hus
  clear LB PP QS PAT NAT RAT KE RB PL NL lfe gd hus LL hl hE hS hw hDs hDD ha hsg hlf hkey hns hrs hps hCL T
  obtain ⟨ha0, ha1⟩ := hab
  -- loop 1: the sum
  suffices qkey : ∀ Q : Ending → World → Prop, Hid (∀ e w', ((∃ g cap, e = .returned (.tuple #[.slice (some ⟨g, 0, none⟩) n cap, .int .i64 0]) ∧ Amts w' g CL (upd s f ps lf)) ∧ Below w.heap.size w w') → Q e w') → Calls Tryz.prog 6 #[.agg #[.int .i64 u, .string CL], .slice (some ⟨gw, ow, none⟩) n cp] w Q from qkey _ (Lib.hid fun _ _ h => h)
  intro Q HQQ
  go_enter Tryz.func6, Tryz.ntmps6
  go_wp2_with (first | (go_at_call 22; refine (CK.out _).mono ?_; rintro e w1 ⟨rfl, hb1⟩; obtain ⟨hc1, hf1⟩ := bcell hb1; have hs1 := hb1.size; (try simp at hs1); have hz1 : w.heap.size < w1.heap.size := by have := hb1.size; (try simp at this); omega))
  have BW : Below w.heap.size w w1 := (by repeat (first | exact Below.refl _ _ | refine Below.setCell ?_ (by first | (simp; done) | (simp; omega) | omega) _ | refine Below.alloc ?_ (by first | (simp; done) | (simp; omega) | omega) _ | refine Below.drew ?_ | assumption | refine Below.trans ?_ (Below.mono (by assumption) (by first | (simp; done) | (simp; omega) | omega))))
  have hsk := BW.size
  have BA1 : Hid (Bx w1 (w.heap.size) u CL) := Lib.hid ⟨by omega, by simp [go_sem, *], by simp [go_sem, *]⟩
  clear hc1 hf1
  go_loopw [7, 8] (fun sm i wr => ∃ (k : Nat) (z : Int), k ≤ n ∧ i = .int .i64 k ∧ sm = .int .i64 z ∧ (0 ≤ z ∧ z ≤ 2147483648 * 100) ∧ Hid (z = sumI (ws.take k)) ∧ w1 = wr) (fun _ i _ => n - (intOf i).toNat)
  case atStart => exact ⟨0, 0, by omega, rfl, rfl, by omega, Lib.hid rfl, rfl⟩
  case round => as_aux_lemma =>
    obtain ⟨k, z, hk, rfl, rfl, ⟨z0, z1⟩, HZ, hw⟩ := hrel; subst hw
    by_cases hlt : k < n
    · have hlt' : (k : Int) < (n : Int) := by omega
      obtain ⟨x, hx⟩ : ∃ x, ws[k]? = some x := ⟨_, List.getElem?_eq_getElem (by rw [HL.out]; exact hlt)⟩
      have cx := WS.out w1 BW k x hx
      have hgo : gw < w1.heap.size := by omega
      obtain ⟨x0, x1⟩ := HW.out x (List.mem_of_getElem? hx)
      have NZ : Hid (z + x = sumI (ws.take (k + 1))) := Lib.hid (by rw [sumI_take hx, HZ.out])
      have zb : 0 ≤ z + x ∧ z + x ≤ 2147483648 * 100 := by rw [NZ.out]; exact HSUM.out (k + 1)
      have e1 : ¬ x < 0 := by omega
      have e2 : ¬ 2147483648 < x := by omega
      have hzw : IntKind.i64.wrap (z + x) = z + x := by rw [IntKind.wrap_i64]; omega
      clear hx
      go_wp2
      go_roundw
      case rel => exact ⟨k + 1, z + x, by omega, by go_num, by go_num, zb, NZ, by first | rfl | trivial⟩
      case measure => first | (simp [intOf]; done) | (simp [intOf]; omega)
    · obtain rfl : k = n := by omega
      have hk' : ¬ (k : Int) < (k : Int) := by omega
      obtain rfl : z = D := by rw [HZ.out, List.take_of_length_le (by rw [HL.out]; exact Nat.le_refl _), HDl.out]
      have hD0 : (z == 0) = false := by simp; omega
      have BU := Lib.hid (fun W => bigOf_any u ⟨by omega, by omega⟩ W)
      have BD := Lib.hid (fun W => bigOf_any z ⟨by omega, by omega⟩ W)
      obtain ⟨qz0, qz1, qz2⟩ := BA1.out
      have z00 : Hid (u = s * (a - sumI (ns.take 0))) := Lib.hid (by rw [← HUS.out]; simp [sumI])
      have uab : -a ≤ u ∧ u ≤ a := by have := HUS.out; rcases hs with rfl | rfl <;> omega
      clear HSUM HDl HZ z0 z1 hk
      -- loop 2: the parts and the rests
      go_wp2
      clear qz0 qz1 qz2
      go_loopw [9, 10, 11, 12] (fun p l q i wr => ∃ (j : Nat) (vP vL : Value) (L : List (Option Addr × Nat × Nat)) (y : Int), j ≤ k ∧ i = .int .i64 j ∧ vP = p ∧ vL = l ∧ q = .int .i64 y ∧ Hid (y = s * (a - sumI (ns.take j))) ∧ (-a ≤ y ∧ y ≤ a) ∧ Hid (RSt w1 wr vP vL j j ((ps.take j).map (Value.int .i64)) L rs)) (fun _ _ _ i _ => k - (intOf i).toNat)
      case atStart => exact ⟨0, _, _, [], u, by omega, rfl, rfl, rfl, rfl, z00, uab, Lib.hid ⟨Below.refl _ _, World.ownsRow_nil _ _ _ _, World.ownsRow_nil _ _ _ _, rfl, fun j t h => by simp at h⟩⟩
      case round => as_aux_lemma =>
        obtain ⟨j, vP, vL, L, y, hj, rfl, hvP, hvL, rfl, HY, ⟨y0, y1⟩, ST⟩ := hrel
        subst hvP hvL
        obtain ⟨wo, rfl⟩ : ∃ wo : World, wo = wr := ⟨_, rfl⟩
        have hBo1 := ST.out.bel
        have hso1 := hBo1.size
        have hBo : Below w.heap.size w wo := BW.trans (hBo1.mono hsk)
        have hso := hBo.size
        obtain ⟨qa0, qa1, qa2⟩ := BA1.out.below hBo1
        by_cases hlt : j < k
        · have hlt' : (j : Int) < (k : Int) := by omega
          obtain ⟨x, hx⟩ : ∃ x, ws[j]? = some x := ⟨_, List.getElem?_eq_getElem (by rw [HL.out]; exact hlt)⟩
          have cx := WS.out wo hBo j x hx
          have hgo : gw < wo.heap.size := by omega
          obtain ⟨x0, x1⟩ := HW.out x (List.mem_of_getElem? hx)
          have BX := Lib.hid (fun W => bigOf_any x ⟨by omega, by omega⟩ W)
          have pb2 := prod_bd hub.1 hub.2 (n := x) ⟨by omega, by omega⟩
          have pk := HPA.out j x hx
          have nk := HNA.out j x hx
          have rk := HRA.out j x hx
          have lb := HLB.out (j + 1)
          have lb' := HLB.out j
          rw [sumI_take nk] at lb
          obtain ⟨qs1, qs2, qs3, qs4⟩ := HQS.out x x0
          have XP : Hid ((ps.take (j + 1)).map (Value.int .i64) = (ps.take j).map (Value.int .i64) ++ [.int .i64 (s * (a * x / z))]) := Lib.hid (by rw [List.take_succ, pk, Option.toList_some, List.map_append]; rfl)
          have YN : Hid (y - s * (a * x / z) = s * (a - sumI (ns.take (j + 1)))) := Lib.hid (by rw [sumI_take nk, HY.out]; rcases hs with rfl | rfl <;> omega)
          have q0 : 0 ≤ a * x / z := Int.ediv_nonneg (Int.mul_nonneg ha0 x0) (by omega)
          have RK := Lib.hid rk
          generalize a * x / z = q at *
          generalize a * x % z = r at *
          obtain ⟨v, hv⟩ : ∃ v, s * q = v := ⟨_, rfl⟩
          rw [hv] at XP YN qs1
          have yb : -a ≤ y - v ∧ y - v ≤ a ∧ -a ≤ v ∧ v ≤ a := by
            rw [YN.out, sumI_take nk, ← hv]; rcases hs with rfl | rfl <;> omega
          obtain ⟨yb0, yb1, vb0, vb1⟩ := yb
          have yw : IntKind.i64.wrap (y - v) = y - v := by rw [IntKind.wrap_i64]; omega
          have vin : intN v = v := by unfold intN; rw [if_pos (by omega)]
          have M1 : Hid (∀ s3 A3 n3 c3 s4 A4 n4 c4 b3 b4 W, Pt b3 W s3 A3 n3 c3 (u) → Pt b4 W s4 A4 n4 c4 (x) → Calls Tryz.prog 24 #[.agg #[.bool s3, .slice A3 n3 c3], .agg #[.bool s4, .slice A4 n4 c4]] W fun e w' => Res W.heap.size w' e (u * x) ∧ Below W.heap.size W w') := Lib.hid fun s3 A3 n3 c3 s4 A4 n4 c4 b3 b4 W X Y =>
            bigMul_any s3 s4 A3 A4 n3 n4 c3 c4 (u) (x) (by have := pt_n X (by omega); omega) (by have := pt_n Y (by omega); omega) W (X.mono (Nat.zero_le _)) (Y.mono (Nat.zero_le _))
          have Q1 : Hid (∀ s3 A3 n3 c3 s4 A4 n4 c4 b3 b4 W, Pt b3 W s3 A3 n3 c3 (u * x) → Pt b4 W s4 A4 n4 c4 z → Calls Tryz.prog 23 #[.agg #[.bool s3, .slice A3 n3 c3], .agg #[.bool s4, .slice A4 n4 c4]] W fun e w' => Res2 W.heap.size w' e (quoV (u * x) z) (remV (u * x) z) ∧ Below W.heap.size W w') := Lib.hid fun s3 A3 n3 c3 s4 A4 n4 c4 b3 b4 W X Y =>
            bigQuo_any s3 s4 A3 A4 n3 n4 c3 c4 (u * x) z (by omega) (by omega) (by omega) W (X.mono (Nat.zero_le _)) (Y.mono (Nat.zero_le _))
          rw [qs1] at Q1
          have BI : Hid (∀ s3 A3 n3 c3 b3 W, Pt b3 W s3 A3 n3 c3 v → Calls Tryz.prog 26 #[.agg #[.bool s3, .slice A3 n3 c3]] W fun e w' => e = .returned (.tuple #[.int .i64 v, .bool (intB v)]) ∧ Below W.heap.size W w') := Lib.hid fun s3 A3 n3 c3 b3 W X => by
            have := bigInt_any s3 A3 n3 c3 v (by omega) W (X.mono (Nat.zero_le _))
            rwa [vin] at this
          obtain ⟨r1, hr1⟩ : ∃ r1, remV (u * x) z = r1 := ⟨_, rfl⟩
          rw [hr1] at Q1 qs2 qs3 qs4
          have NG : Hid (∀ s A n c b W, Pt b W s A n c r1 → Calls Tryz.prog 27 #[.agg #[.bool s, .slice A n c]] W fun e w' => Res W.heap.size w' e (-r1) ∧ Below W.heap.size W w') := Lib.hid fun s A n c b W X => bigNeg_any s A n c r1 (by have := pt_n X (by have := HRB.out j; rw [RK.out] at this; omega); omega) W (X.mono (Nat.zero_le _))
          have RS := Lib.hid (And.intro qs3 qs4)
          have SP := ST.out.2.1.lt
          have SL := ST.out.2.2.1.lt
          have DLT : Hid (∀ (j : Nat) (t : Option Addr × Nat × Nat), L[j]? = some t → ∀ a : Addr, t.1 = some a → 0 < t.2.1 → a.block < wo.heap.size) := Lib.hid fun j t ht a ha hn => (ST.out.2.2.2.2 j t ht).1.lt ha hn
          have HSP := Lib.hid SP; have HSL := Lib.hid SL
          clear SP SL hx pk nk rk lb lb' qs1 qs2 qs3 qs4 hr1 hv q0 vin pb2
          generalize u * x = ux at *
          generalize (ps.take j).map (Value.int .i64) = xP at *
          obtain ⟨ib, hib⟩ : ∃ ib, intB v = ib := ⟨_, rfl⟩
          rw [hib] at BI
          clear hib
          go_upto_region 23 with (fail)
          obtain ⟨RL, HRL⟩ : ∃ RL : Value → Value → World → Prop, Hid (∀ pq p wx, RL pq p wx ↔ (∃ bq b : Nat, pq = .pointer (some ⟨bq, 0, none⟩) ∧ p = .pointer (some ⟨b, 0, none⟩) ∧ Hid (BgP wo.heap.size 0 wx bq v) ∧ Hid (BgP wo.heap.size 0 wx b r1) ∧ wo.heap.size ≤ b ∧ Below wo.heap.size wo wx)) := ⟨fun pq p wx => ∃ bq b : Nat, pq = .pointer (some ⟨bq, 0, none⟩) ∧ p = .pointer (some ⟨b, 0, none⟩) ∧ Hid (BgP wo.heap.size 0 wx bq v) ∧ Hid (BgP wo.heap.size 0 wx b r1) ∧ wo.heap.size ≤ b ∧ Below wo.heap.size wo wx, Lib.hid fun _ _ _ => Iff.rfl⟩
          go_cut [13, 14] from 68 to 82 (fun pq p wx => RL pq p wx)
          case first => as_aux_lemma =>
            clear NG WS HW HLB HPP HKE HLF HUS HPL HNL HGD HPA HNA HRA HRB HQS HL hmk CK BA1 ST HY XP YN RK RS DLT HSP HSL BW hi0 hz0 hz2 hi1 iy0 iy1 iy2 hi2 ib0 ib1 ib2 HZ1 hub hs uab z00 hD64 hn hlfn ha0 ha1 x0 x1
            have hzo : w.heap.size < wo.heap.size + 1 ∧ gw < wo.heap.size + 1 := (by omega)
            go_region_held3 (fun w' => w'.cell? ⟨w.heap.size, 0, none⟩ = some (.int .i64 u) ∧ w'.cell? ⟨gw, ow + j, none⟩ = some (.int .i64 x) ∧ w.heap.size < w'.heap.size ∧ gw < w'.heap.size ∧ Below wo.heap.size wo w')
      (first | (refine ⟨?_, ?_, ?_, ?_, ?_⟩ <;> first | (simp [go_sem, *]; done) | omega | (simp; omega) | exact (by repeat (first | exact Below.refl _ _ | refine Below.setCell ?_ (by first | (simp; done) | (simp; omega) | omega) _ | refine Below.alloc ?_ (by first | (simp; done) | (simp; omega) | omega) _ | refine Below.drew ?_ | assumption | refine Below.trans ?_ (Below.mono (by assumption) (by first | (simp; done) | (simp; omega) | omega))))))
      (first | (first | (go_at_call 25; (with_reducible refine (BU.out _).mono ?_); rintro e w10 ⟨⟨s10, A10, n10, c10, rfl, hP10⟩, hb10⟩; obtain ⟨hc10, hf10⟩ := bcell hb10; (try simp only [drew_size, drew_cell, drew_frozen] at hc10 hf10); have hs10 := hb10.size; (try simp at hs10); have hz10 : w.heap.size < w10.heap.size ∧ gw < w10.heap.size ∧ w.heap.size < w10.heap.size + 1 ∧ gw < w10.heap.size + 1 := (by omega); have HP10 := Lib.hid hP10; clear hP10; (try have hyo_10 : wo.heap.size < w10.heap.size := by omega); (try have hxo_10 : wo.heap.size + 1 < w10.heap.size := by omega)) | (go_at_call 25; (with_reducible refine (BX.out _).mono ?_); rintro e w11 ⟨⟨s11, A11, n11, c11, rfl, hP11⟩, hb11⟩; obtain ⟨hc11, hf11⟩ := bcell hb11; (try simp only [drew_size, drew_cell, drew_frozen] at hc11 hf11); have hs11 := hb11.size; (try simp at hs11); have hz11 : w.heap.size < w11.heap.size ∧ gw < w11.heap.size ∧ w.heap.size < w11.heap.size + 1 ∧ gw < w11.heap.size + 1 := (by omega); have HP11 := Lib.hid hP11; clear hP11; (try have hyo_11 : wo.heap.size < w11.heap.size := by omega); (try have hxo_11 : wo.heap.size + 1 < w11.heap.size := by omega); (try have hy10_11 : w10.heap.size < w11.heap.size := by omega); (try have hx10_11 : w10.heap.size + 1 < w11.heap.size := by omega)) | (go_at_call 24; (with_reducible refine (M1.out _ _ _ _ _ _ _ _ _ _ _ (HP10.out.below (by repeat (first | exact Below.refl _ _ | refine Below.setCell ?_ (by first | (simp; done) | (simp; omega) | omega) _ | refine Below.alloc ?_ (by first | (simp; done) | (simp; omega) | omega) _ | refine Below.drew ?_ | assumption | refine Below.trans ?_ (Below.mono (by assumption) (by first | (simp; done) | (simp; omega) | omega))))) (HP11.out.below (by repeat (first | exact Below.refl _ _ | refine Below.setCell ?_ (by first | (simp; done) | (simp; omega) | omega) _ | refine Below.alloc ?_ (by first | (simp; done) | (simp; omega) | omega) _ | refine Below.drew ?_ | assumption | refine Below.trans ?_ (Below.mono (by assumption) (by first | (simp; done) | (simp; omega) | omega)))))).mono ?_); rintro e w12 ⟨⟨s12, A12, n12, c12, rfl, hP12⟩, hb12⟩; obtain ⟨hc12, hf12⟩ := bcell hb12; (try simp only [drew_size, drew_cell, drew_frozen] at hc12 hf12); have hs12 := hb12.size; (try simp at hs12); have hz12 : w.heap.size < w12.heap.size ∧ gw < w12.heap.size ∧ w.heap.size < w12.heap.size + 1 ∧ gw < w12.heap.size + 1 := (by omega); have HP12 := Lib.hid hP12; clear hP12; (try have hyo_12 : wo.heap.size < w12.heap.size := by omega); (try have hxo_12 : wo.heap.size + 1 < w12.heap.size := by omega); (try have hy10_12 : w10.heap.size < w12.heap.size := by omega); (try have hx10_12 : w10.heap.size + 1 < w12.heap.size := by omega); (try have hy11_12 : w11.heap.size < w12.heap.size := by omega); (try have hx11_12 : w11.heap.size + 1 < w12.heap.size := by omega)) | (go_at_call 25; (with_reducible refine (BD.out _).mono ?_); rintro e w13 ⟨⟨s13, A13, n13, c13, rfl, hP13⟩, hb13⟩; obtain ⟨hc13, hf13⟩ := bcell hb13; (try simp only [drew_size, drew_cell, drew_frozen] at hc13 hf13); have hs13 := hb13.size; (try simp at hs13); have hz13 : w.heap.size < w13.heap.size ∧ gw < w13.heap.size ∧ w.heap.size < w13.heap.size + 1 ∧ gw < w13.heap.size + 1 := (by omega); have HP13 := Lib.hid hP13; clear hP13; (try have hyo_13 : wo.heap.size < w13.heap.size := by omega); (try have hxo_13 : wo.heap.size + 1 < w13.heap.size := by omega); (try have hy10_13 : w10.heap.size < w13.heap.size := by omega); (try have hx10_13 : w10.heap.size + 1 < w13.heap.size := by omega); (try have hy11_13 : w11.heap.size < w13.heap.size := by omega); (try have hx11_13 : w11.heap.size + 1 < w13.heap.size := by omega); (try have hy12_13 : w12.heap.size < w13.heap.size := by omega); (try have hx12_13 : w12.heap.size + 1 < w13.heap.size := by omega)) | (go_at_call 23; (with_reducible refine (Q1.out _ _ _ _ _ _ _ _ _ _ _ (HP12.out.below (by repeat (first | exact Below.refl _ _ | refine Below.setCell ?_ (by first | (simp; done) | (simp; omega) | omega) _ | refine Below.alloc ?_ (by first | (simp; done) | (simp; omega) | omega) _ | refine Below.drew ?_ | assumption | refine Below.trans ?_ (Below.mono (by assumption) (by first | (simp; done) | (simp; omega) | omega))))) (HP13.out.below (by repeat (first | exact Below.refl _ _ | refine Below.setCell ?_ (by first | (simp; done) | (simp; omega) | omega) _ | refine Below.alloc ?_ (by first | (simp; done) | (simp; omega) | omega) _ | refine Below.drew ?_ | assumption | refine Below.trans ?_ (Below.mono (by assumption) (by first | (simp; done) | (simp; omega) | omega)))))).mono ?_); rintro e w14 ⟨⟨s14, A14, n14, c14, s17, A17, n17, c17, rfl, hP14, hP17⟩, hb14⟩; obtain ⟨hc14, hf14⟩ := bcell hb14; (try simp only [drew_size, drew_cell, drew_frozen] at hc14 hf14); have hs14 := hb14.size; (try simp at hs14); have hz14 : w.heap.size < w14.heap.size ∧ gw < w14.heap.size ∧ w.heap.size < w14.heap.size + 1 ∧ gw < w14.heap.size + 1 := (by omega); have HP14 := Lib.hid hP14; clear hP14; have HP17 := Lib.hid hP17; clear hP17; (try have hyo_14 : wo.heap.size < w14.heap.size := by omega); (try have hxo_14 : wo.heap.size + 1 < w14.heap.size := by omega); (try have hy10_14 : w10.heap.size < w14.heap.size := by omega); (try have hx10_14 : w10.heap.size + 1 < w14.heap.size := by omega); (try have hy11_14 : w11.heap.size < w14.heap.size := by omega); (try have hx11_14 : w11.heap.size + 1 < w14.heap.size := by omega); (try have hy12_14 : w12.heap.size < w14.heap.size := by omega); (try have hx12_14 : w12.heap.size + 1 < w14.heap.size := by omega); (try have hy13_14 : w13.heap.size < w14.heap.size := by omega); (try have hx13_14 : w13.heap.size + 1 < w14.heap.size := by omega))))
            all_goals as_aux_lemma => (
              go_wp2_with (fail)
              go_meet
              have hw0 : 0 < wo.heap.size := by omega
              have HB14 : Below wo.heap.size wo w14 := (by repeat (first | (with_reducible exact Below.refl _ _) | ((with_reducible refine Below.trans ?_ (Below.mono (by assumption) ?hz)); (case hz => (first | omega | (simp; done) | (simp; omega)))) | ((with_reducible refine Below.alloc ?_ ?hz _); (case hz => (first | omega | (simp; done) | (simp; omega)))) | (with_reducible refine Below.drew ?_)))
              clear hc10 hc11 hc12 hc13 hc14 hf10 hf11 hf12 hf13 hf14 HP10 HP11 HP12 HP13
              refine (HRL.out _ _ _).2 ⟨_, _, rfl, rfl, Lib.hid (bg_mk (t := 58) (w := w14) ?e1 HP14.out ?e2 ?e3 ?e4), Lib.hid (bg_mk (t := 58) (w := w14) ?e5 HP17.out ?e6 ?e7 ?e8), ?e9, ?e10⟩
              case e1 => (repeat (first | (with_reducible exact heap_alloc_at rfl) | (with_reducible refine set2 ?_) | ((with_reducible refine heap_alloc_at ?hz); (case hz => (simp; done))) | ((with_reducible refine Eq.trans (set_block ?hz) ?_); (case hz => omega)) | ((with_reducible refine Eq.trans (hb14.block _ ?hz) ?_); (case hz => (first | omega | (simp; done) | (simp; omega)))) | ((with_reducible refine Eq.trans (hb13.block _ ?hz) ?_); (case hz => (first | omega | (simp; done) | (simp; omega)))) | ((with_reducible refine Eq.trans (hb12.block _ ?hz) ?_); (case hz => (first | omega | (simp; done) | (simp; omega)))) | ((with_reducible refine Eq.trans (hb11.block _ ?hz) ?_); (case hz => (first | omega | (simp; done) | (simp; omega)))) | ((with_reducible refine Eq.trans (hb10.block _ ?hz) ?_); (case hz => (first | omega | (simp; done) | (simp; omega)))) | ((with_reducible refine Eq.trans (((Below.refl _ _).alloc (Nat.le_refl _) _).block _ ?hz) ?_); (case hz => (first | omega | (simp; done) | (simp; omega)))) | (refine Eq.trans (drew_heap _ _) ?_)))
              case e2 => (repeat (first | (with_reducible exact KB.refl _ _) | ((with_reducible refine KB.set ?_ ?hz _); (case hz => (dsimp only; (first | omega | (simp; done) | (simp; omega))))) | (with_reducible refine KB.alloc ?_ _)))
              case e3 => (first | omega | (simp; done) | (simp; omega))
              case e4 => (first | omega | (simp; done) | (simp; omega))
              case e5 => (repeat (first | (with_reducible exact heap_alloc_at rfl) | (with_reducible refine set2 ?_) | ((with_reducible refine heap_alloc_at ?hz); (case hz => (simp; done))) | ((with_reducible refine Eq.trans (set_block ?hz) ?_); (case hz => omega)) | ((with_reducible refine Eq.trans (hb14.block _ ?hz) ?_); (case hz => (first | omega | (simp; done) | (simp; omega)))) | ((with_reducible refine Eq.trans (hb13.block _ ?hz) ?_); (case hz => (first | omega | (simp; done) | (simp; omega)))) | ((with_reducible refine Eq.trans (hb12.block _ ?hz) ?_); (case hz => (first | omega | (simp; done) | (simp; omega)))) | ((with_reducible refine Eq.trans (hb11.block _ ?hz) ?_); (case hz => (first | omega | (simp; done) | (simp; omega)))) | ((with_reducible refine Eq.trans (hb10.block _ ?hz) ?_); (case hz => (first | omega | (simp; done) | (simp; omega)))) | ((with_reducible refine Eq.trans (((Below.refl _ _).alloc (Nat.le_refl _) _).block _ ?hz) ?_); (case hz => (first | omega | (simp; done) | (simp; omega)))) | (refine Eq.trans (drew_heap _ _) ?_)))
              case e6 => (repeat (first | (with_reducible exact KB.refl _ _) | ((with_reducible refine KB.set ?_ ?hz _); (case hz => (dsimp only; (first | omega | (simp; done) | (simp; omega))))) | (with_reducible refine KB.alloc ?_ _)))
              case e7 => (first | omega | (simp; done) | (simp; omega))
              case e8 => (first | omega | (simp; done) | (simp; omega))
              case e9 => (first | omega | (simp; done) | (simp; omega))
              case e10 => (repeat (first | (with_reducible exact HB14) | ((with_reducible refine Below.setCell ?_ ?hz _); (case hz => (dsimp only; omega))) | ((with_reducible refine Below.alloc ?_ ?hz _); (case hz => (first | omega | (simp; done) | (simp; omega)))))))

          case rest => as_aux_lemma =>
          obtain ⟨bq, b, rfl, rfl, QQ, QB, hbo, hC0⟩ := (HRL.out _ _ _).1 hcut
          clear hcut HRL
          obtain ⟨wn0, rfl⟩ : ∃ wn0 : World, wn0 = wc := ⟨_, rfl⟩
          clear BX M1 Q1 cx qa1 qa2
          have hS0 := hC0.size
          obtain ⟨s13, A13, n13, c13, hbq, q0a, q0b, -, -, PQ, -⟩ := QQ.out
          have HPQ := Lib.hid PQ
          clear PQ QQ
          go_upto_region 25 with (go_at_call 26; (with_reducible refine (BI.out _ _ _ _ _ _ HPQ.out).mono ?_); rintro e wn1 ⟨rfl, hb15⟩)
          clear q0a q0b BI
          have hs15 := hb15.size
          have hC1 : Below wo.heap.size wo wn1 := hC0.trans (hb15.mono hS0)
          replace QB := Lib.hid (QB.out.below hb15)
          have hS1 := hC1.size
          have ST1 := Lib.hid (ST.out.below hC1)
          have hb1w : w1.heap.size ≤ wn1.heap.size := by omega
          have hz1 := HZ1.out
          have HO1 : Hid (wn1.ownsRow w1.heap.size 3 1 vP j xP) := Lib.hid ST1.out.2.1
          have hbn : b < wn1.heap.size := by obtain ⟨_, _, _, _, h, _⟩ := QB.out; exact h
          go_upto_if 93 with (first | ((at_builtin; refine wpList_append_lies _ rfl _ _ _ rfl (w1.heap.size) 3 i0 _ 1 8 Tryz.underlying24 hi0 hz0 hz1 hz2 rfl (by decide) vP (j) _ rfl (HO1.out.alloc _) ⟨wn1.heap.size, 0, none⟩ 1 1 [.int .i64 v] rfl rfl (World.news_of_block (cs := #[.int .i64 v]) (t := 3) (fr := (0, 0)) (heap_alloc_new wn1 _)) (by simp [Value.oneCell']) (by omega) (by unfold maxLen; omega) (by omega) (by simp; omega) (wn1.heap.size + 1) (by simp) ?_; intro gg cap w1' hown1 hgrow hat hlt'); have hgb : ¬ gg = b := (by rcases hat with h | h; (have := (HSP.out _ h).2; omega); omega); have SX := Lib.hid (((ST1.out.below (Below.alloc (Below.refl _ _) (Nat.le_refl _) _)).appP hown1 hgrow rfl (by simpa using hat))); have QX := Lib.hid ((QB.out.below (Below.alloc (Below.refl _ _) (Nat.le_refl _) _)).grown hgrow hbo (fun e he => (HSP.out e he).2) gg (by rcases hat with h | h; exact .inl (HSP.out _ h).2; right; simp; omega)); have hs1' := hgrow.size; (try simp at hs1'); clear hown1 hgrow hat; obtain ⟨s9, A9, n9, c9, b9, cc0, cc1, ff0, ff1, PT9, NE9⟩ := QX.out; have HPT9 := Lib.hid PT9; clear PT9 NE9))
          have KS : Hid (∀ W, RSt w1 W (.slice (some ⟨gg, 0, none⟩) (j + 1) cap) vL (j + 1) j (xP ++ [.int .i64 v]) L rs → ∀ o u, RSt w1 (W.setCell ⟨b, o, none⟩ u) (.slice (some ⟨gg, 0, none⟩) (j + 1) cap) vL (j + 1) j (xP ++ [.int .i64 v]) L rs) := Lib.hid fun W h o u => h.setCell u (by dsimp only; omega) (fun e => hgb (by injection e)) (fun e => by have := (HSL.out _ e).2; dsimp only at this; omega) (fun i t ht a ha hn => by have := DLT.out i t ht a ha hn; dsimp only; omega)
          go_cut [] from 94 to 95 (fun wx => Hid (RSt w1 wx (.slice (some ⟨gg, 0, none⟩) (j + 1) cap) vL (j + 1) j (xP ++ [.int .i64 v]) L rs) ∧ Hid (BgP wo.heap.size gg wx b r))
          case first =>
            clear HO1 ST1 QB ST
            rcases pt_negR HPT9.out with ⟨rfl, hn⟩ | ⟨rfl, hn⟩
            · have e1 : -r1 = r := RS.out.2 hn
              have HE1 := Lib.hid e1
              clear e1
              go_wp2_with (first | (go_at_call 27; (with_reducible refine (NG.out _ _ _ _ _ _ HPT9.out).mono ?_); rintro e w11 ⟨⟨s11, A11, n11, c11, rfl, hP11⟩, hb11⟩; obtain ⟨hc11, hf11⟩ := bcell hb11; have hs11 := hb11.size; (try simp at hs11); have hz11 : b < w11.heap.size := (by omega); have HP11 := Lib.hid hP11; clear hP11))
              go_meet
              refine ⟨Lib.hid (KS.out _ (KS.out _ (SX.out.below hb11) _ _) _ _), Lib.hid ⟨s11, A11, n11, c11, by first | (simp; done) | (simp; omega) | omega, by simp [go_sem, *], by simp [go_sem, *], by simp [go_sem, *], by simp [go_sem, *], ?_, fun a ha hn => ?_⟩⟩
              · rw [← HE1.out]; exact ((HP11.out.setCell _ (by first | (simp; done) | (simp; omega) | omega)).setCell _ (by first | (simp; done) | (simp; omega) | omega)).mono (by omega)
              · have := HP11.out.2.2.2 a ha; omega
            · have e1 : r1 = r := RS.out.1 (by omega)
              go_wp2_with (fail)
              go_meet
              exact ⟨SX, by rw [← e1]; exact QX⟩
          case rest =>
          obtain ⟨SX2, QX2⟩ := hcut
          obtain ⟨wn2, rfl⟩ : ∃ wn2 : World, wn2 = wc := ⟨_, rfl⟩
          clear SX QX HPT9 cc0 cc1 ff0 ff1 NG KS HO1 QB
          obtain ⟨s8, A8, n8, c8, b8, dd0, dd1, -, -, PT8, NE8⟩ := QX2.out
          have HPT8 := Lib.hid PT8
          have HNE8 := Lib.hid NE8
          clear PT8 NE8 QX2
          have hr0 : ¬ r < 0 := by have := HRB.out j; rw [RK.out] at this; omega
          obtain rfl : s8 = false := by
            rcases pt_negR HPT8.out with ⟨_, h⟩ | ⟨h, _⟩
            · exact absurd h hr0
            · exact h
          have hS2 := SX2.out.bel.size
          go_wp2_with (first | (at_builtin; refine wpList_append_lies _ rfl (.tmp 96) (.tmp 98) 56 rfl (w1.heap.size) 58 i2 _ 2 32 Tryz.underlying56 hi2 ib0 ib1 ib2 rfl (by decide) vL j (cellsB L) rfl (SX2.out.2.2.1.alloc _) ⟨wn2.heap.size, 0, none⟩ 1 1 [.bool false, .slice A8 n8 c8] rfl rfl (by intro i' u' hi'; match i', hi' with | 0, hi' => (simp at hi'; subst hi'; simp [Addr.add, go_sem]) | 1, hi' => (simp at hi'; subst hi'; simp [Addr.add, go_sem])) (by intro u' hu'; simp at hu'; rcases hu' with rfl | rfl <;> rfl) (by omega) (by unfold maxLen; omega) (by omega) (by simp; omega) (wn2.heap.size + 1) (by simp) ?_; intro g8 cap8 w8 hown8 hgrow8 hat8 hlt8; have S8 := Lib.hid ((SX2.out.below (Below.alloc (Below.refl _ _) (Nat.le_refl _) _)).appL (t' := (A8, n8, c8)) (by rw [cellsB_app]; exact hown8) rfl hgrow8 rfl (by simpa using hat8) (by rw [RK.out]; exact (HPT8.out.below (Below.alloc (Below.refl _ _) (Nat.le_refl _) _)).mono (Nat.zero_le _)) (fun a ha hn e => HNE8.out a ha hn (by injection e with e; exact e.symm)) (fun a ha hn e => by have h1 := (HSL.out _ e).2; have h2 := HPT8.out.2.2.2 a ha; omega)); clear hown8 hgrow8 hat8))
          go_roundw
          case rel => exact ⟨j + 1, _, _, L ++ [(A8, n8, c8)], y - v, by omega, by go_num, rfl, rfl, rfl, YN, ⟨yb0, yb1⟩, by rw [XP.out]; exact S8⟩
          case measure => first | (simp [intOf]; done) | (simp [intOf]; omega)
        · obtain rfl : j = k := by omega
          have hjj : ¬ (j : Int) < (j : Int) := by omega
          have hPL := HPL.out
          have hNL := HNL.out
          rw [List.take_of_length_le (l := ps) (by omega)] at ST
          have hy : y = s * lf := by rw [HY.out, List.take_of_length_le (l := ns) (by omega), HLF.out]
          obtain ⟨gP, cP, hvP, hgP, hgP'⟩ := ST.out.2.1.form n0
          obtain ⟨gL, cL, hvL, hgL, hgL'⟩ := ST.out.2.2.1.form n0
          subst hvP hvL
          have hne1 : gP ≠ gL := by
            rcases own_types ST.out.2.1 ST.out.2.2.1 (by decide) with h | h
            · simp [Value.ownBlock] at h
            · simpa [Value.ownBlock] using h
          have hne2 : gP ≠ wo.heap.size := by omega
          have hne3 : gL ≠ wo.heap.size := by omega
          have LLN := Lib.hid ST.out.2.2.2.1
          have al := Below.alloc (Below.refl wo.heap.size wo) (Nat.le_refl _) (.cells (madeCells #[.bool false] j) 4)
          have G0 : Hid (GSt w1 (wo.alloc (.cells (madeCells #[.bool false] j) 4)) gP gL wo.heap.size j (upd s f ps 0) (goneB f 0) L rs) := Lib.hid ⟨hBo1.trans (al.mono hso1), by simp; omega, fun i x hi => ⟨(al.cell (p := ⟨gP, i, none⟩) hgP').trans (by
              have := ST.out.2.1.cells (g := gP) rfl i (.int .i64 x) (by rw [List.getElem?_map, show ps[i]? = some x from hi]; rfl)
              rw [addr0] at this; simpa using this), (World.frozen?_of_block (al.block gP hgP')).trans (ST.out.2.1.frozenAt (g := gP) i)⟩, (World.rowIs_made wo (.bool false) j 4).congr (fun i _ => by rw [goneB_zero]), by simp; omega, fun i t ht => by
              obtain ⟨p1, p2, p3⟩ := ST.out.2.2.2.2 i t ht
              obtain ⟨h1, h2⟩ := cellsB_at ht
              have hc := ST.out.2.2.1.cells (g := gL) rfl
              refine ⟨(al.cell (p := ⟨gL, i * 2, none⟩) hgL').trans (by have := hc _ _ h1; rw [addr0] at this; simpa using this), (al.cell (p := ⟨gL, i * 2 + 1, none⟩) hgL').trans (by have := hc _ _ h2; rw [addr0] at this; simpa using this), p1.below al, fun x hx hn => ⟨fun e => p2 x hx hn (by rw [← e]; rfl), ?_⟩⟩
              have := p1.lt hx hn; omega⟩
          obtain ⟨B, hB⟩ : ∃ B, decide (y < 0) = B := ⟨_, rfl⟩
          have HY1 := Lib.hid hy
          clear ST HY y0 y1 BU BD al hy
          go_upto_if 104 with (fail)
          go_cut [17] from 103 to 104 (fun q wx => ∃ o : Int, q = .int .i64 o ∧ (0 < lf → o = s) ∧ (o = 1 ∨ o = -1) ∧ wo = wx)
          case first =>
            clear G0 hmk
            by_cases h : y < 0
            · rw [decide_eq_true h] at hB
              subst hB
              go_wp2_with (fail)
              go_meet
              exact ⟨-1, rfl, fun _ => by have := HY1.out; rcases hs with rfl | rfl <;> omega, .inr rfl, rfl⟩
            · rw [decide_eq_false h] at hB
              subst hB
              go_wp2_with (fail)
              go_meet
              exact ⟨1, rfl, fun _ => by have := HY1.out; rcases hs with rfl | rfl <;> omega, .inl rfl, rfl⟩
          case rest =>
          obtain ⟨o, rfl, ho1, ho2, rfl⟩ := hcut
          have HYY0 : Hid (y = s * ((lf : Int) - (0 : Nat))) := Lib.hid (by rw [HY1.out]; simp)
          have HO1 := Lib.hid ho1
          clear hB ho1
          go_wp2
          go_loopw [11] (fun q wr => ∃ (e : Nat) (yy : Int), e ≤ lf ∧ q = .int .i64 yy ∧ Hid (yy = s * ((lf : Int) - e)) ∧ Hid (GSt w1 wr gP gL wo.heap.size j (upd s f ps e) (goneB f e) L rs)) (fun q _ => (intOf q).natAbs)
          case atStart => exact ⟨0, y, by omega, rfl, HYY0, G0⟩
          case round =>
            obtain ⟨e, yy, he, rfl, HYY, HG⟩ := hrel
            obtain ⟨wq, rfl⟩ : ∃ wq : World, wq = wr := ⟨_, rfl⟩
            have hBq := HG.out.bel
            have hsq := hBq.size
            have UL : Hid ((upd s f ps e).length = j) := Lib.hid (by rw [upd_len, HPL.out])
            by_cases hel : e < lf
            · have yya : yy.natAbs = lf - e := by rw [HYY.out]; rcases hs with rfl | rfl <;> omega
              have yy0 : (yy != 0) = true := by rw [bne_iff_ne]; omega
              obtain ⟨i, hi⟩ : ∃ i, f e = i := ⟨_, rfl⟩
              have hij : i < j := by have := (HGD.out.2.1 e (by omega) (by omega)).2; omega
              obtain ⟨xw, hxw⟩ : ∃ xw, ws[i]? = some xw := ⟨_, List.getElem?_eq_getElem (by rw [HL.out]; exact hij)⟩
              have xw0 : 0 < xw := by
                have h1 := HPP.out e hel
                have h2 := (HW.out xw (List.mem_of_getElem? hxw)).1
                rw [hi, HKE.out, HRA.out i xw hxw] at h1
                rcases Int.lt_or_eq_of_le h2 with h | h
                · exact h
                · rw [← h] at h1; simp at h1
              have HWI : Hid (0 < ws.getD (f e) 0) := Lib.hid (by rw [hi]; simp only [List.getD, hxw, Option.getD_some]; exact xw0)
              have HXW := Lib.hid hxw
              have HI := Lib.hid hi
              have YA := Lib.hid yya
              clear hxw xw0 hi yya
              go_wp2
              go_loopw [19, 20] (fun bq iq wr => ∃ (i2 : Nat) (bv : Int), i2 ≤ j ∧ iq = .int .i64 i2 ∧ bq = .int .i64 bv ∧ (-1 ≤ bv ∧ bv < j) ∧ Hid (BestR key ws f e i2 bv) ∧ Hid (GSt w1 wr gP gL wo.heap.size j (upd s f ps e) (goneB f e) L rs)) (fun _ iq _ => j - (intOf iq).toNat)
              case atStart => exact ⟨0, -1, by omega, rfl, rfl, by omega, Lib.hid .start, HG⟩
              case round =>
                obtain ⟨i2, bv, hi2, rfl, rfl, ⟨bv0, bv1⟩, HB, HG2⟩ := hrel
                obtain ⟨wx2, rfl⟩ : ∃ wx2 : World, wx2 = wr := ⟨_, rfl⟩
                have hBx := HG2.out.bel
                have hsx := hBx.size
                have hBw : Below w.heap.size w wx2 := BW.trans (hBx.mono hsk)
                have hzx : gw < wx2.heap.size ∧ gL < wx2.heap.size ∧ wo.heap.size < wx2.heap.size ∧ gP < wx2.heap.size := ⟨by omega, HG2.out.2.2.2.2.1, HG2.out.2.2.2.1.lt, HG2.out.2.1⟩
                by_cases hlt2 : i2 < j
                · have hlti : (i2 : Int) < (j : Int) := by omega
                  obtain ⟨x, hx⟩ : ∃ x, ws[i2]? = some x := ⟨_, List.getElem?_eq_getElem (by rw [HL.out]; exact hlt2)⟩
                  have cx := WS.out wx2 hBw i2 x hx
                  have gc := HG2.out.2.2.2.1.cell (i := i2) hlt2
                  have hxd : ws.getD i2 0 = x := by simp only [List.getD, hx, Option.getD_some]
                  have HXD := Lib.hid hxd
                  clear hx hxd
                  by_cases hx0 : 0 < x
                  · have d1 : decide (0 < x) = true := decide_eq_true hx0
                    cases hgn : goneB f e i2 with
                    | true =>
                      rw [hgn] at gc
                      have NE : Hid (¬ Elig ws f e i2) := Lib.hid fun h => by rw [h.2] at hgn; cases hgn
                      clear hgn
                      go_upto_region 39 with (fail)
                      go_big_region
                      all_goals (
                      go_wp2
                      go_roundw
                      case rel => exact ⟨i2 + 1, bv, by omega, by go_num, rfl, ⟨bv0, bv1⟩, Lib.hid (HB.out.skip NE.out), Lib.hid (HG2.out.below (show Below wx2.heap.size wx2 _ from (by repeat (first | exact Below.refl _ _ | refine Below.setCell ?_ (by first | (simp; done) | (simp; omega) | omega) _ | refine Below.alloc ?_ (by first | (simp; done) | (simp; omega) | omega) _ | refine below_drewN ?_ _ | refine Below.drew ?_ | assumption | refine Below.trans ?_ (Below.mono (by assumption) (by first | (simp; done) | (simp; omega) | omega))))))⟩
                      case measure => first | (simp [intOf]; done) | (simp [intOf]; omega))
                    | false =>
                      rw [hgn] at gc
                      have EL : Hid (Elig ws f e i2) := Lib.hid ⟨by rw [HXD.out]; exact hx0, hgn⟩
                      clear hgn
                      rcases Int.lt_or_le bv 0 with hbv | hbv
                      · obtain rfl : bv = -1 := by omega
                        go_upto_region 39 with (fail)
                        go_big_region
                        all_goals (
                          go_wp2
                          go_roundw
                          case rel => exact ⟨i2 + 1, i2, by omega, by go_num, rfl, by omega, Lib.hid (HB.out.first EL.out), Lib.hid (HG2.out.below (show Below wx2.heap.size wx2 _ from (by repeat (first | exact Below.refl _ _ | refine Below.setCell ?_ (by first | (simp; done) | (simp; omega) | omega) _ | refine Below.alloc ?_ (by first | (simp; done) | (simp; omega) | omega) _ | refine below_drewN ?_ _ | refine Below.drew ?_ | assumption | refine Below.trans ?_ (Below.mono (by assumption) (by first | (simp; done) | (simp; omega) | omega))))))⟩
                          case measure => first | (simp [intOf]; done) | (simp [intOf]; omega))
                      · obtain ⟨m, rfl⟩ := Int.eq_ofNat_of_zero_le hbv
                        have hmi := HB.out.at_m
                        have hmj : (m : Int) < (j : Int) := by omega
                        have d2 : decide ((m : Int) < 0) = false := decide_eq_false (by omega)
                        obtain ⟨t1, ht1⟩ : ∃ t1, L[i2]? = some t1 := ⟨_, List.getElem?_eq_getElem (by rw [LLN.out]; exact hlt2)⟩
                        obtain ⟨t2, ht2⟩ : ∃ t2, L[m]? = some t2 := ⟨_, List.getElem?_eq_getElem (by rw [LLN.out]; omega)⟩
                        obtain ⟨A1, n1, c1⟩ := t1
                        obtain ⟨A2, n2, c2⟩ := t2
                        obtain ⟨l1a, l1b, P1, -⟩ := HG2.out.2.2.2.2.2 i2 _ ht1
                        obtain ⟨l2a, l2b, P2, -⟩ := HG2.out.2.2.2.2.2 m _ ht2
                        dsimp only at l1b P1 l2b P2
                        rw [← HKE.out] at P1 P2
                        have HP1 := Lib.hid P1
                        have HP2 := Lib.hid P2
                        have k1 : 0 ≤ key i2 ∧ key i2 ≤ z - 1 := by rw [HKE.out]; exact HRB.out i2
                        have k2 : 0 ≤ key m ∧ key m ≤ z - 1 := by rw [HKE.out]; exact HRB.out m
                        have CM0 : Hid (∀ A3 n3 c3 A4 n4 c4 b3 b4 W, Pt b3 W false A3 n3 c3 (key i2) → Pt b4 W false A4 n4 c4 (key m) → Calls Tryz.prog 28 #[.agg #[.bool false, .slice A3 n3 c3], .agg #[.bool false, .slice A4 n4 c4]] W fun e w' => e = .returned (.int .i64 (cmpI (key i2) (key m))) ∧ Below W.heap.size W w') := Lib.hid fun A3 n3 c3 A4 n4 c4 b3 b4 W X Y =>
                          bigCmp_any false false A3 A4 n3 n4 c3 c4 _ _ (by have := pt_n X (by omega); omega) (by have := pt_n Y (by omega); omega) W (X.mono (Nat.zero_le _)) (Y.mono (Nat.zero_le _))
                        clear ht1 ht2 P1 P2
                        rcases cmpI_gt (a := key i2) (b := key m) with ⟨hc, hk⟩ | ⟨hc, hk⟩ | ⟨hc, hk⟩
                        all_goals
                          rw [hc] at CM0
                          have CM := CM0
                          have HK := Lib.hid hk
                          clear CM0 hc hk k1 k2
                          go_upto_region 39 with (fail)
                          go_region_held3 (fun w' => w'.cell? ⟨gw, ow + i2, none⟩ = some (.int .i64 x) ∧ w'.cell? ⟨wo.heap.size, i2, none⟩ = some (.bool false) ∧ w'.cell? ⟨gL, i2 * 2, none⟩ = some (.bool false) ∧ w'.cell? ⟨gL, i2 * 2 + 1, none⟩ = some (.slice A1 n1 c1) ∧ w'.cell? ⟨gL, m * 2, none⟩ = some (.bool false) ∧ w'.cell? ⟨gL, m * 2 + 1, none⟩ = some (.slice A2 n2 c2) ∧ gw < w'.heap.size ∧ gL < w'.heap.size ∧ Below wx2.heap.size wx2 w')
      (first | (refine ⟨?_, ?_, ?_, ?_, ?_, ?_, ?_, ?_, ?_⟩ <;> first | (simp [go_sem, *]; done) | omega | (simp; omega) | exact (by repeat (first | exact Below.refl _ _ | refine Below.setCell ?_ (by first | (simp; done) | (simp; omega) | omega) _ | refine Below.alloc ?_ (by first | (simp; done) | (simp; omega) | omega) _ | refine Below.drew ?_ | assumption | refine Below.trans ?_ (Below.mono (by assumption) (by first | (simp; done) | (simp; omega) | omega))))))
      (first | (first | (go_at_call 28; (with_reducible refine (CM.out _ _ _ _ _ _ _ _ _ (HP1.out.below (by repeat (first | exact Below.refl _ _ | refine Below.setCell ?_ (by first | (simp; done) | (simp; omega) | omega) _ | refine Below.alloc ?_ (by first | (simp; done) | (simp; omega) | omega) _ | refine Below.drew ?_ | assumption | refine Below.trans ?_ (Below.mono (by assumption) (by first | (simp; done) | (simp; omega) | omega))))) (HP2.out.below (by repeat (first | exact Below.refl _ _ | refine Below.setCell ?_ (by first | (simp; done) | (simp; omega) | omega) _ | refine Below.alloc ?_ (by first | (simp; done) | (simp; omega) | omega) _ | refine Below.drew ?_ | assumption | refine Below.trans ?_ (Below.mono (by assumption) (by first | (simp; done) | (simp; omega) | omega)))))).mono ?_); rintro e w21 ⟨rfl, hb21⟩; obtain ⟨hc21, hf21⟩ := bcell hb21; (try simp only [drew_size, drew_cell, drew_frozen] at hc21 hf21); have hs21 := hb21.size; (try simp at hs21))))
                        · all_goals (
                            go_wp2
                            go_roundw
                            case rel => exact ⟨i2 + 1, i2, by omega, by go_num, rfl, by omega, Lib.hid (HB.out.new EL.out HK.out), Lib.hid (HG2.out.below (show Below wx2.heap.size wx2 _ from (by repeat (first | exact Below.refl _ _ | refine Below.setCell ?_ (by first | (simp; done) | (simp; omega) | omega) _ | refine Below.alloc ?_ (by first | (simp; done) | (simp; omega) | omega) _ | refine below_drewN ?_ _ | refine Below.drew ?_ | assumption | refine Below.trans ?_ (Below.mono (by assumption) (by first | (simp; done) | (simp; omega) | omega))))))⟩
                            case measure => first | (simp [intOf]; done) | (simp [intOf]; omega))
                        all_goals (
                          go_wp2
                          go_roundw
                          case rel => exact ⟨i2 + 1, m, by omega, by go_num, rfl, by omega, Lib.hid (HB.out.old (by have := HK.out; omega)), Lib.hid (HG2.out.below (show Below wx2.heap.size wx2 _ from (by repeat (first | exact Below.refl _ _ | refine Below.setCell ?_ (by first | (simp; done) | (simp; omega) | omega) _ | refine Below.alloc ?_ (by first | (simp; done) | (simp; omega) | omega) _ | refine below_drewN ?_ _ | refine Below.drew ?_ | assumption | refine Below.trans ?_ (Below.mono (by assumption) (by first | (simp; done) | (simp; omega) | omega))))))⟩
                          case measure => first | (simp [intOf]; done) | (simp [intOf]; omega))
                  · have d1 : decide (0 < x) = false := decide_eq_false hx0
                    have NE : Hid (¬ Elig ws f e i2) := Lib.hid fun h => by have := h.1; rw [HXD.out] at this; exact hx0 this
                    go_upto_region 39 with (fail)
                    go_big_region
                    all_goals (
                    go_wp2
                    go_roundw
                    case rel => exact ⟨i2 + 1, bv, by omega, by go_num, rfl, ⟨bv0, bv1⟩, Lib.hid (HB.out.skip NE.out), Lib.hid (HG2.out.below (show Below wx2.heap.size wx2 _ from (by repeat (first | exact Below.refl _ _ | refine Below.setCell ?_ (by first | (simp; done) | (simp; omega) | omega) _ | refine Below.alloc ?_ (by first | (simp; done) | (simp; omega) | omega) _ | refine below_drewN ?_ _ | refine Below.drew ?_ | assumption | refine Below.trans ?_ (Below.mono (by assumption) (by first | (simp; done) | (simp; omega) | omega))))))⟩
                    case measure => first | (simp [intOf]; done) | (simp [intOf]; omega))
                · obtain rfl : i2 = j := by omega
                  have hjj2 : ¬ (i2 : Int) < (i2 : Int) := by omega
                  have hbv : bv = (i : Int) := by rw [← HI.out]; exact HB.out.done HGD.out (by omega) HWI.out
                  subst hbv
                  have hos : o = s := HO1.out (by omega)
                  subst hos
                  have hii : (i : Int) < (i2 : Int) := by omega
                  obtain ⟨v, hv⟩ : ∃ v, (upd o f ps e)[i]? = some v := ⟨_, List.getElem?_eq_getElem (by rw [UL.out]; exact hij)⟩
                  have vb : -a ≤ v ∧ v ≤ a := by
                    have h1 := HPA.out i xw HXW.out
                    rw [upd_fresh (fun y hy h => by
                      have := srt_inj HGD.out.1 (i := y) (j := e) (by omega) (by omega) (by rw [h, HI.out])
                      omega), h1] at hv
                    injection hv with hv
                    have h2 := HLB.out i
                    have h3 := HLB.out (i + 1)
                    rw [sumI_take (HNA.out i xw HXW.out)] at h3
                    have h4 : 0 ≤ a * xw / z := Int.ediv_nonneg (Int.mul_nonneg ha0 (HW.out xw (List.mem_of_getElem? HXW.out)).1) (by omega)
                    rw [← hv]
                    generalize a * xw / z = q at *
                    rcases hs with rfl | rfl <;> omega
                  obtain ⟨pc, pf⟩ := HG2.out.2.2.1 i v hv
                  have gc := HG2.out.2.2.2.1.cell (i := i) hij
                  have gf := HG2.out.2.2.2.1.frozen i
                  have vw : IntKind.i64.wrap (v + o) = v + o := by rw [IntKind.wrap_i64]; rcases hs with rfl | rfl <;> omega
                  have yw : IntKind.i64.wrap (yy - o) = yy - o := by have := YA.out; rw [IntKind.wrap_i64]; rcases hs with rfl | rfl <;> omega
                  have YN : Hid (yy - o = o * ((lf : Int) - ((e + 1 : Nat) : Int))) := Lib.hid (by rw [HYY.out]; rcases hs with rfl | rfl <;> omega)
                  have YM : Hid ((yy - o).natAbs < yy.natAbs) := Lib.hid (by have := YA.out; have h := HYY.out; rcases hs with rfl | rfl <;> omega)
                  have NX : Hid (GSt w1 ((wx2.setCell ⟨gP, i, none⟩ (.int .i64 (v + o))).setCell ⟨wo.heap.size, i, none⟩ (.bool true)) gP gL wo.heap.size i2 (upd o f ps (e + 1)) (goneB f (e + 1)) L rs) := Lib.hid (by
                    have h1 := HG2.out.part hne1 hne2 hgP (v + o) hv
                    have h2 := h1.gone hne3 hne2 hso1 i (gn' := goneB f (e + 1)) (fun x => by rw [← HI.out]; exact goneB_succ f e x)
                    unfold upd
                    rw [HI.out, show (upd o f ps e).getD i 0 = v by simp [List.getD, hv]]
                    exact h2)
                  have hne4 : ¬ wo.heap.size = gP := fun e => hne2 e.symm
                  clear hv HB HG2 HG HYY vb YA
                  go_wp2
                  go_roundw
                  case rel => exact ⟨e + 1, yy - o, by omega, rfl, YN, NX⟩
                  case measure => simp only [intOf]; exact YM.out
            · obtain rfl : e = lf := by omega
              obtain rfl : yy = 0 := by rw [HYY.out]; simp
              obtain ⟨qb0, qb1, qb2⟩ := BA1.out.below hBq
              have PC := Lib.hid HG.out.2.2.1
              have hgq := HG.out.2.1
              have hBqw : Below w.heap.size w wq := BW.trans (hBq.mono hsk)
              obtain ⟨P, hP⟩ : ∃ P, upd s f ps e = P := ⟨_, rfl⟩
              rw [hP] at PC UL
              have HPU := Lib.hid hP
              clear hP
              clear HG HYY G0 HO1
              go_wp2
              go_loopw [21, 22] (fun p i wr => ∃ (i4 : Nat) (vO : Value), i4 ≤ j ∧ i = .int .i64 i4 ∧ vO = p ∧ Hid (wr.ownsRow wq.heap.size 33 2 vO i4 (cellsM CL (P.take i4))) ∧ Below wq.heap.size wq wr) (fun _ i _ => j - (intOf i).toNat)
              case atStart => exact ⟨0, _, by omega, rfl, rfl, Lib.hid (World.ownsRow_nil _ _ _ _), Below.refl _ _⟩
              case round =>
                obtain ⟨i4, vO, hi4, rfl, hvO, OW, hB4⟩ := hrel
                subst hvO
                obtain ⟨w4, rfl⟩ : ∃ w4 : World, w4 = wr := ⟨_, rfl⟩
                have hs4 := hB4.size
                by_cases hlt4 : i4 < j
                · have hlti4 : (i4 : Int) < (j : Int) := by omega
                  obtain ⟨x, hx⟩ : ∃ x, P[i4]? = some x := ⟨_, List.getElem?_eq_getElem (by rw [UL.out]; exact hlt4)⟩
                  have cx := (hB4.cell (p := ⟨gP, i4, none⟩) hgq).trans (PC.out i4 x hx).1
                  have cb := (hB4.cell (p := ⟨w.heap.size, 1, none⟩) qb0).trans qb2
                  have hz4 : gP < w4.heap.size ∧ w.heap.size < w4.heap.size := by omega
                  have XO : Hid (cellsM CL (P.take (i4 + 1)) = cellsM CL (P.take i4) ++ [.int .i64 x, .string CL]) := Lib.hid (by rw [List.take_succ, hx, Option.toList_some, cellsM_app])
                  clear hx
                  generalize cellsM CL (P.take i4) = xO at *
                  go_upto_region 48 with (fail)
                  go_region_law (first | (refine step_append_lies _ rfl (.tmp 166) (.tmp 174) 30 rfl (wq.heap.size) 33 i1 _ 2 24 Tryz.underlying30 hi1 iy0 iy1 iy2 rfl (by decide) vO i4 xO rfl (own_below OW.out (by repeat (first | exact Below.refl _ _ | refine Below.setCell ?_ (by first | (simp; done) | (simp; omega) | omega) _ | refine Below.alloc ?_ (by first | (simp; done) | (simp; omega) | omega) _ | refine Below.drew ?_ | assumption | refine Below.trans ?_ (Below.mono (by assumption) (by first | (simp; done) | (simp; omega) | omega))))) _ 1 1 [.int .i64 x, .string CL] rfl rfl (by intro j' u' hj'; match j', hj' with | 0, hj' => (simp at hj'; subst hj'; simp [Addr.add, go_sem]) | 1, hj' => (simp at hj'; subst hj'; simp [Addr.add, go_sem])) (by intro u' hu'; simp at hu'; rcases hu' with rfl | rfl <;> rfl) (by omega) (by unfold maxLen; omega) (by omega) (by simp; omega) _ rfl ?_; intro g7 cap7 w7 hown7 hgrow7 hat7 hlt7; have B7 := Lib.hid (Below.grown (show Below wq.heap.size wq _ from (hB4.trans (Below.mono (show Below w4.heap.size w4 _ from (by repeat (first | exact Below.refl _ _ | refine Below.setCell ?_ (by first | (simp; done) | (simp; omega) | omega) _ | refine Below.alloc ?_ (by first | (simp; done) | (simp; omega) | omega) _ | refine below_drewN ?_ _ | refine Below.drew ?_ | assumption | refine Below.trans ?_ (Below.mono (by assumption) (by first | (simp; done) | (simp; omega) | omega))))) hs4))) hgrow7 (by first | (simp; done) | (simp; omega) | omega) (fun k' hk' => (OW.out.lt k' hk').1)); have O7 := Lib.hid hown7; have hs7 := B7.out.size; clear hown7 hgrow7 hat7))
                  all_goals (
                    go_wp2
                    go_roundw
                    case rel => exact ⟨i4 + 1, _, by omega, by go_num, rfl, by rw [XO.out]; exact O7, B7.out⟩
                    case measure => first | (simp [intOf]; done) | (simp [intOf]; omega))
                · obtain rfl : i4 = j := by omega
                  have hlti4 : ¬ (i4 : Int) < (i4 : Int) := by omega
                  obtain ⟨gO, cO, hvO, hgO, hgO'⟩ := OW.out.form n0
                  subst hvO
                  have AM := Lib.hid (amts_ownR OW.out)
                  have hu := UL.out
                  rw [List.take_of_length_le (l := P) (by omega)] at AM
                  clear hu OW
                  go_wp2
                  exact HQQ.out _ _ ⟨⟨gO, cO, rfl, by rw [HPU.out]; exact AM.out⟩, hBqw.trans (hB4.mono hBqw.size)⟩
end Go.Proofs.YtakfjdnpfhcgkaaGreatDoor
