/-
  Contract of money.Amount.Allocate, of units not below 0, where the rests stand in falling order.
-/
import Derived.Test.YtakfjdnpfhcgkaaGreatDoorMq5
import Derived.Test.YtakfjdnpfhcgkaaGreatDoorMc6
namespace Go.Proofs.YtakfjdnpfhcgkaaGreatDoor
set_option linter.all false
open Go.RowKit Go.Sort
attribute [local go_sem] cell_set_self lt_1 lt_2 lt_3 lt_4 lt_5 lt_6

def nsL (u D : Int) (ws : List Int) : List Int := ws.map fun x => u * x / D
def rsL (u D : Int) (ws : List Int) : List Int := ws.map fun x => u * x % D
def ords (k : Nat) : List Value := (List.range k).map fun (i : Nat) => Value.int .i64 (i : Int)
theorem ords_succ (k : Nat) : ords (k + 1) = ords k ++ [.int .i64 (k : Int)] := by simp [ords, List.range_succ]
theorem ords_at {k j : Nat} (h : j < k) : (ords k)[j]? = some (.int .i64 (j : Int)) := by simp [ords, h]
def bumpL (d : Int) (e : Nat) (l : List Int) : List Int := (l.take e).map (· + d) ++ l.drop e
theorem bumpL_0 (d : Int) (l : List Int) : bumpL d 0 l = l := by simp [bumpL]
theorem bumpL_at {d : Int} {e : Nat} {l : List Int} {x : Int} (h : l[e]? = some x) : (bumpL d e l)[e]? = some x := by
  have hlt := (List.getElem?_eq_some_iff.1 h).1
  unfold bumpL
  rw [List.getElem?_append_right (by simp; omega)]
  simp only [List.length_map, List.length_take, List.getElem?_drop]
  rw [Nat.min_eq_left (by omega), Nat.sub_self, Nat.add_zero]; exact h
theorem bumpL_succ {d : Int} {e : Nat} {l : List Int} {x : Int} (h : l[e]? = some x) : bumpL d (e + 1) l = (bumpL d e l).set e (x + d) := by
  have hlt := (List.getElem?_eq_some_iff.1 h).1
  have hx := (List.getElem?_eq_some_iff.1 h).2
  unfold bumpL
  rw [List.set_append_right _ _ (by simp; omega), List.take_succ, h]
  simp only [Option.toList_some, List.map_append, List.map_cons, List.map_nil, List.length_map, List.length_take, List.append_assoc, List.singleton_append]
  rw [Nat.min_eq_left (by omega), Nat.sub_self, List.drop_eq_getElem_cons hlt, List.set_cons_zero]
theorem parts_sum (u D : Int) : ∀ ws : List Int, u * sumI ws = D * sumI (nsL u D ws) + sumI (rsL u D ws)
  | [] => by simp [sumI, nsL, rsL]
  | x :: r => by
    have ih := parts_sum u D r
    have h := Int.mul_ediv_add_emod (u * x) D
    simp only [nsL, rsL, List.map_cons, sumI] at ih ⊢
    rw [Int.mul_add, Int.mul_add]
    omega
theorem rs_bd {u D : Int} (hD : 0 < D) : ∀ ws : List Int, 0 ≤ sumI (rsL u D ws) ∧ sumI (rsL u D ws) ≤ (D - 1) * ws.length
  | [] => by simp [sumI, rsL]
  | x :: r => by
    have ih := rs_bd (u := u) hD r
    have h0 := Int.emod_nonneg (u * x) (show D ≠ 0 by omega)
    have h1 := Int.emod_lt_of_pos (u * x) hD
    simp only [rsL, List.map_cons, sumI, List.length_cons] at ih ⊢
    have e : (D - 1) * ((r.length + 1 : Nat) : Int) = (D - 1) * r.length + (D - 1) := by
      rw [Int.natCast_add, Int.mul_add]; simp
    rw [e]; omega
theorem ns_nonneg {u D : Int} (hu : 0 ≤ u) (hD : 0 < D) {ws : List Int} (hw : wOK ws = true) : ∀ x ∈ nsL u D ws, 0 ≤ x := fun x hx => by
  obtain ⟨y, hy, rfl⟩ := List.mem_map.1 hx
  exact Int.ediv_nonneg (Int.mul_nonneg hu (wOK_iff.1 hw y hy).1) (by omega)
theorem sumI_nonneg : ∀ {l : List Int}, (∀ x ∈ l, 0 ≤ x) → 0 ≤ sumI l
  | [], _ => by simp [sumI]
  | x :: r, h => by
    have := sumI_nonneg (l := r) (fun y hy => h y (List.mem_cons_of_mem _ hy))
    have := h x (List.mem_cons_self ..)
    simp only [sumI]; omega
/-- What is left: between 0 and the units, at every step; at the end less than there are weights. -/
theorem left_bd {u : Int} {ws : List Int} (hu : 0 ≤ u) (hw : wOK ws = true) (hD : 0 < sumI ws) (k : Nat) : 0 ≤ u - sumI ((nsL u (sumI ws) ws).take k) ∧ u - sumI ((nsL u (sumI ws) ws).take k) ≤ u := by
  have hp : 0 ≤ sumI ((nsL u (sumI ws) ws).take k) := sumI_nonneg fun x hx => ns_nonneg hu hD hw x (List.mem_of_mem_take hx)
  have hd : 0 ≤ sumI ((nsL u (sumI ws) ws).drop k) := sumI_nonneg fun x hx => ns_nonneg hu hD hw x (List.mem_of_mem_drop hx)
  have hall : sumI (nsL u (sumI ws) ws) = sumI ((nsL u (sumI ws) ws).take k) + sumI ((nsL u (sumI ws) ws).drop k) := by
    rw [← sumI_app, List.take_append_drop]
  have h1 := parts_sum u (sumI ws) ws
  have h2 := (rs_bd (u := u) hD ws).1
  have h3 : sumI ws * sumI (nsL u (sumI ws) ws) ≤ sumI ws * u := by rw [Int.mul_comm (sumI ws) u]; omega
  have h4 := Int.le_of_mul_le_mul_left h3 hD
  omega
theorem left_lt {u : Int} {ws : List Int} (hD : 0 < sumI ws) : u - sumI (nsL u (sumI ws) ws) < ws.length ∨ ws.length = 0 := by
  rcases Nat.eq_zero_or_pos ws.length with h | h
  · exact .inr h
  · left
    have h1 := parts_sum u (sumI ws) ws
    have h2 := (rs_bd (u := u) hD ws).2
    have h3 : sumI ws * (u - sumI (nsL u (sumI ws) ws)) < sumI ws * ws.length := by
      rw [Int.mul_sub, Int.mul_comm (sumI ws) u]
      have : (sumI ws - 1) * (ws.length : Int) = sumI ws * ws.length - ws.length := by rw [Int.sub_mul]; simp
      omega
    exact Int.lt_of_mul_lt_mul_left h3 (by omega)
theorem amE_in {u : Int} {c : List UInt8} (h : amE u c = 0) : inU u = true := by
  unfold amE at h
  cases hu : inU u with
  | true => rfl
  | false =>
    rw [hu] at h
    rcases scE_cases c with k | k
    · rw [if_pos k] at h; simp at h
    · rw [k] at h; simp at h
theorem sumE_0 {ws : List Int} (h : sumE ws = 0) : ws.length ≤ 100 ∧ 0 < ws.length ∧ wOK ws = true ∧ 0 < sumI ws := by
  unfold sumE at h
  split at h
  · simp at h
  · split at h
    · simp at h
    · split at h
      · rename_i h1 h2 h3
        split at h
        · simp at h
        · rename_i h4
          have := (sumI_bd h3).1
          exact ⟨by omega, by omega, h3, by omega⟩
      · simp at h

set_option maxHeartbeats 8000000 in
set_option maxRecDepth 100000 in
theorem alloc_sorted (u : Int) (c : List UInt8) (A : Option Addr) (n cp : Nat) (ws : List Int) (hl : ws.length = n) (hu : 0 ≤ u) (hn : n ≤ 19) (hE : amE u c = 0) (hS : sumE ws = 0)
    (hord : ∀ j a b, (rsL u (sumI ws) ws)[j]? = some a → (rsL u (sumI ws) ws)[j + 1]? = some b → b ≤ a) (w : World) (T : Sl w A cp ws) :
    Calls Tryz.prog 5 #[.agg #[.int .i64 u, .string ⟨c.toArray⟩], .slice A n cp] w fun e w' => (∃ g cap, e = .returned (.tuple #[.slice (some ⟨g, 0, none⟩) n cap, .int .i64 0]) ∧ Amts w' g ⟨c.toArray⟩ (bumpL 1 (u - sumI (nsL u (sumI ws) ws)).toNat (nsL u (sumI ws) ws))) ∧ Below w.heap.size w w' := by
  obtain ⟨i0, hi0, iz0, iz1, iz2⟩ := info_parts Tryz.infoInt
  obtain ⟨i1, hi1, hy0, hy1, hy2⟩ := info_parts Tryz.infoAmt
  have CK := Lib.hid (fun W => mcheck_any u c W)
  rw [hE] at CK
  have SU : Hid (∀ W, Below w.heap.size w W → Calls Tryz.prog 15 #[.slice A n cp] W fun e w' => e = .returned (.tuple #[.int .i64 (sumI ws), .int .i64 0]) ∧ Below W.heap.size W w') := Lib.hid fun W hb => by
    have := sumOf_any A n cp ws hl (by omega) W (T.below hb)
    rwa [sumV_0 hS] at this
  obtain ⟨_, n0, hw, hD⟩ := sumE_0 hS
  have TT := Lib.hid (fun W (hb : Below w.heap.size w W) => (T.below hb).2.2)
  have hu1 := (inU_iff.1 (amE_in hE)).2
  have LB := Lib.hid (left_bd (u := u) hu hw hD)
  have LL := Lib.hid (left_lt (u := u) hD)
  have HNN := Lib.hid (ns_nonneg (u := u) hu hD hw)
  have hDs := (sumI_bd hw).2
  have HW := Lib.hid (wOK_iff.1 hw)
  have hD64 : sumI ws ≤ 2147483648 * 19 := by omega
  obtain ⟨D, hDD⟩ : ∃ D, sumI ws = D := ⟨_, rfl⟩
  rw [hDD] at SU LB LL HNN hord hD hD64 ⊢
  have HL := Lib.hid hl
  have HORD := Lib.hid hord
  obtain ⟨ns, hns⟩ : ∃ ns, nsL u D ws = ns := ⟨_, rfl⟩
  obtain ⟨rs, hrs⟩ : ∃ rs, rsL u D ws = rs := ⟨_, rfl⟩
  have NAT : Hid (∀ (k : Nat) (x : Int), ws[k]? = some x → ns[k]? = some (u * x / D) ∧ rs[k]? = some (u * x % D)) := Lib.hid fun k x hx => by
    rw [← hns, ← hrs]; unfold nsL rsL; rw [List.getElem?_map, List.getElem?_map, hx]; exact ⟨rfl, rfl⟩
  have NLEN : Hid (ns.length = n ∧ rs.length = n) := Lib.hid (by rw [← hns, ← hrs]; unfold nsL rsL; simp [hl])
  rw [hns] at LB LL HNN ⊢
  rw [hrs] at HORD
  rw [hl] at n0
  clear hl hE hS hord T hw hDs hns hrs hDD
  obtain ⟨CL, hCL⟩ : ∃ CL : ByteArray, (⟨c.toArray⟩ : ByteArray) = CL := ⟨_, rfl⟩
  rw [hCL] at CK ⊢
  clear hCL
  have du : ¬ u < 0 := by omega
  go_enter Tryz.func5, Tryz.ntmps5
  go_wp2_with (first | (go_at_call 14; refine (CK.out _).mono ?_; rintro e w1 ⟨rfl, hb1⟩; obtain ⟨hc1, hf1⟩ := bcell hb1; have hs1 := hb1.size; (try simp at hs1); have hz1 : w.heap.size < w1.heap.size := by have := hb1.size; (try simp at this); omega) | (go_at_call 15; refine (SU.out _ (by repeat (first | exact Below.refl _ _ | refine Below.setCell ?_ (by first | (simp; done) | (simp; omega) | omega) _ | refine Below.alloc ?_ (by first | (simp; done) | (simp; omega) | omega) _ | refine Below.drew ?_ | assumption | refine Below.trans ?_ (Below.mono (by assumption) (by first | (simp; done) | (simp; omega) | omega))))).mono ?_; rintro e w2 ⟨rfl, hb2⟩; obtain ⟨hc2, hf2⟩ := bcell hb2; have hs2 := hb2.size; (try simp at hs2); have hz2 : w.heap.size < w2.heap.size := by have := hb2.size; (try simp at this); omega))
  have hB2 : Below w.heap.size w w2 := (by repeat (first | exact Below.refl _ _ | refine Below.setCell ?_ (by first | (simp; done) | (simp; omega) | omega) _ | refine Below.alloc ?_ (by first | (simp; done) | (simp; omega) | omega) _ | refine Below.drew ?_ | assumption | refine Below.trans ?_ (Below.mono (by assumption) (by first | (simp; done) | (simp; omega) | omega))))
  have HB2 := Lib.hid hB2
  have hs12 := hB2.size
  have cb : w2.cell? ⟨w.heap.size, 1, none⟩ = some (.string CL) := by simp [go_sem, *]
  have hb0 : w.heap.size < w2.heap.size := by omega
  go_loopw [11, 12, 14, 46] (fun o r lf i wr => ∃ (k : Nat) (vO vR vL : Value) (z : Int), k ≤ n ∧ i = .int .i64 k ∧ vO = o ∧ vR = r ∧ lf = .int .i64 z ∧ Hid (z = u - sumI (ns.take k)) ∧ (0 ≤ z ∧ z ≤ u) ∧ Hid (ASt w2 wr w2.heap.size vO vR vL vL k k k (cellsM CL (ns.take k)) (ords k) ((rs.take k).map (Value.int .i64)))) (fun _ _ _ i _ => n - (intOf i).toNat)
  case atStart => exact ⟨0, _, _, .slice none 0 0, u, by omega, rfl, rfl, rfl, rfl, Lib.hid (by simp [sumI]), by omega, Lib.hid ⟨⟨Below.alloc (Below.refl _ _) (Nat.le_refl _) _, by simp⟩, World.ownsRow_nil _ _ _ _, World.ownsRow_nil _ _ _ _, World.ownsRow_nil _ _ _ _, (fun a h => by simp [Value.ownBlock] at h), by simp [go_sem], by simp [go_sem]⟩⟩
  case round =>
    obtain ⟨k, vO, vR, vL, z, hk, rfl, hvO, hvR, rfl, HZ, ⟨z0, z1⟩, ST⟩ := hrel
    subst hvO hvR
    obtain ⟨wo, rfl⟩ : ∃ wo : World, wo = wr := ⟨_, rfl⟩
    have hsl := ST.out.lt
    have hBo : Below w.heap.size w wo := HB2.out.trans (ST.out.bel.mono hs12)
    have hso := hBo.size
    have hbo : w.heap.size < wo.heap.size ∧ w2.heap.size < wo.heap.size := by omega
    have cbo : wo.cell? ⟨w.heap.size, 1, none⟩ = some (.string CL) := (ST.out.bel.cell (p := ⟨w.heap.size, 1, none⟩) hb0).trans cb
    by_cases hlt : k < n
    · have hlt' : (k : Int) < (n : Int) := by omega
      obtain ⟨x, hx⟩ : ∃ x, ws[k]? = some x := ⟨_, List.getElem?_eq_getElem (by rw [HL.out]; exact hlt)⟩
      obtain ⟨b, off, rfl, hbw, hc⟩ := TT.out wo hBo k x hx
      obtain ⟨x0, x1⟩ := HW.out x (List.mem_of_getElem? hx)
      obtain ⟨nk, rk⟩ := NAT.out k x hx
      have p0 : 0 ≤ u * x := Int.mul_nonneg hu x0
      have p1 : u * x ≤ 4611686018427387904 * 2147483648 := Int.mul_le_mul hu1 x1 x0 (by decide)
      have MU := Lib.hid (fun W => mul_any u x (by unfold In64; omega) (by unfold In64; omega) W)
      have QR := Lib.hid (fun W => quoRem_any (u * x) D p0 (by omega) (by unfold In64; omega) hD W)
      have q0 := Int.ediv_nonneg p0 (show 0 ≤ D by omega)
      have r0 := Int.emod_nonneg (u * x) (show D ≠ 0 by omega)
      have r1 := Int.emod_lt_of_pos (u * x) hD
      have lb := LB.out (k + 1)
      have hz' : u - sumI (ns.take (k + 1)) = z - u * x / D := by rw [sumI_take nk, HZ.out]; omega
      rw [hz'] at lb
      have HZ' := Lib.hid hz'
      obtain ⟨lb0, lb1⟩ := lb
      have IN := Lib.hid (fun W => int_fits (u * x / D) (by unfold In64; omega) W)
      have TO : Hid (cellsM CL (ns.take (k + 1)) = cellsM CL (ns.take k) ++ [.int .i64 (u * x / D), .string CL]) := Lib.hid (by rw [List.take_succ, nk, Option.toList_some, cellsM_app])
      have TR : Hid ((rs.take (k + 1)).map (Value.int .i64) = (rs.take k).map (Value.int .i64) ++ [.int .i64 (u * x % D)]) := Lib.hid (by rw [List.take_succ, rk, Option.toList_some, List.map_append]; rfl)
      clear hx nk rk hz' p0 p1 x0 x1
      generalize hiOf (u * x / D) = hq at *
      generalize loOf (u * x / D) = lq at *
      generalize u * x / D = q at *
      generalize u * x % D = r at *
      generalize hiOf (u * x) = hm at *
      generalize loOf (u * x) = lm at *
      generalize cellsM CL (ns.take k) = xO at *
      generalize (rs.take k).map (Value.int .i64) = xL at *
      go_wp2_with (first | (go_at_call 16; refine (MU.out _).mono ?_; rintro e w3 ⟨rfl, hb3⟩; obtain ⟨hc3, hf3⟩ := bcell hb3; have hs3 := hb3.size; (try simp at hs3); have hz3 : w.heap.size < w3.heap.size ∧ w2.heap.size < w3.heap.size := by have := hb3.size; (try simp at this); omega) | (go_at_call 17; refine (QR.out _).mono ?_; rintro e w4 ⟨rfl, hb4⟩; obtain ⟨hc4, hf4⟩ := bcell hb4; have hs4 := hb4.size; (try simp at hs4); have hz4 : w.heap.size < w4.heap.size ∧ w2.heap.size < w4.heap.size := (by have := hb4.size; (try simp at this); omega); have hy4 : w.heap.size < w4.heap.size + 1 ∧ w2.heap.size < w4.heap.size + 1 := (by omega)) | (go_at_call 18; refine (IN.out _).mono ?_; rintro e w5 ⟨rfl, hb5⟩; obtain ⟨hc5, hf5⟩ := bcell hb5; have hs5 := hb5.size; (try simp at hs5); have hz5 : w.heap.size < w5.heap.size ∧ w2.heap.size < w5.heap.size := by have := hb5.size; (try simp at this); omega) | (at_builtin; refine wpList_append_own _ rfl (.tmp 68) (.tmp 75) 26 rfl (w2.heap.size + 1) 23 i1 _ 2 24 Tryz.underlying26 hi1 hy0 hy1 hy2 rfl (by decide) vO k xO rfl (ST.out.below (by repeat (first | exact Below.refl _ _ | refine Below.setCell ?_ (by first | (simp; done) | (simp; omega) | omega) _ | refine Below.alloc ?_ (by first | (simp; done) | (simp; omega) | omega) _ | refine Below.drew ?_ | assumption | refine Below.trans ?_ (Below.mono (by assumption) (by first | (simp; done) | (simp; omega) | omega))))).2.1 _ 1 1 [.int .i64 q, .string CL] rfl rfl (by intro j u' hj; match j, hj with | 0, hj => (simp at hj; subst hj; simp [Addr.add, go_sem]) | 1, hj => (simp at hj; subst hj; simp [Addr.add, go_sem])) (by intro u' hu'; simp at hu'; rcases hu' with rfl | rfl <;> rfl) (by unfold maxLen; omega) (by omega) (by simp; omega) ?_; intro v6 w6 hown6 hgrow6 hiff; clear hiff; have S6 := Lib.hid ((ST.out.below (by repeat (first | exact Below.refl _ _ | refine Below.setCell ?_ (by first | (simp; done) | (simp; omega) | omega) _ | refine Below.alloc ?_ (by first | (simp; done) | (simp; omega) | omega) _ | refine Below.drew ?_ | assumption | refine Below.trans ?_ (Below.mono (by assumption) (by first | (simp; done) | (simp; omega) | omega))))).appO hown6 hgrow6); have c13 := S6.out.cell; have f13 := S6.out.froz; have l13 := S6.out.lt; clear hown6 hgrow6))
      go_region_law (first | (refine step_append_lies _ rfl (.tmp 77) (.tmp 79) 24 rfl (w2.heap.size + 1) 3 i0 _ 1 8 Tryz.underlying24 hi0 iz0 iz1 iz2 rfl (by decide) vR k (ords k) rfl (S6.out.below (by repeat (first | exact Below.refl _ _ | refine Below.setCell ?_ (by first | (simp; done) | (simp; omega) | omega) _ | refine Below.alloc ?_ (by first | (simp; done) | (simp; omega) | omega) _ | refine Below.drew ?_ | assumption | refine Below.trans ?_ (Below.mono (by assumption) (by first | (simp; done) | (simp; omega) | omega))))).2.2.1 _ 1 1 [.int .i64 (k : Int)] rfl rfl (by intro j u' hj; match j, hj with | 0, hj => (simp at hj; subst hj; simp [Addr.add, go_sem])) (by intro u' hu'; simp at hu'; subst hu'; rfl) (by omega) (by unfold maxLen; omega) (by omega) (by simp; omega) _ rfl ?_; intro g7 cap7 w7 hown7 hgrow7 hat7 hlt7; have S7 := Lib.hid ((S6.out.below (by repeat (first | exact Below.refl _ _ | refine Below.setCell ?_ (by first | (simp; done) | (simp; omega) | omega) _ | refine Below.alloc ?_ (by first | (simp; done) | (simp; omega) | omega) _ | refine Below.drew ?_ | assumption | refine Below.trans ?_ (Below.mono (by assumption) (by first | (simp; done) | (simp; omega) | omega))))).appR hown7 hgrow7 rfl hat7); have c137 := S7.out.cell; have f137 := S7.out.froz; have l137 := S7.out.lt; have m0 := fun hh => hgrow7.cell_far ⟨w6.heap.size, 0, none⟩ hh (fun e => by have h := S6.out.2.2.1.lt _ e.symm; dsimp only at h; omega); have m1 := fun hh => hgrow7.cell_far ⟨w6.heap.size + 1, 0, none⟩ hh (fun e => by have h := S6.out.2.2.1.lt _ e.symm; dsimp only at h; omega); clear hown7 hgrow7 hat7) | (refine step_append_lies _ rfl (.tmp 81) (.tmp 83) 24 rfl (w2.heap.size + 1) 3 i0 _ 1 8 Tryz.underlying24 hi0 iz0 iz1 iz2 rfl (by decide) vL k xL rfl (S7.out.below (by repeat (first | exact Below.refl _ _ | refine Below.setCell ?_ (by first | (simp; done) | (simp; omega) | omega) _ | refine Below.alloc ?_ (by first | (simp; done) | (simp; omega) | omega) _ | refine Below.drew ?_ | assumption | refine Below.trans ?_ (Below.mono (by assumption) (by first | (simp; done) | (simp; omega) | omega))))).2.2.2.1 _ 1 1 [.int .i64 r] rfl rfl (by intro j u' hj; match j, hj with | 0, hj => (simp at hj; subst hj; simp [Addr.add, go_sem, *])) (by intro u' hu'; simp at hu'; subst hu'; rfl) (by omega) (by unfold maxLen; omega) (by omega) (by have := S7.out.lt; simp; omega) _ rfl ?_; intro g8 cap8 w8 hown8 hgrow8 hat8 hlt8; have S8 := Lib.hid ((S7.out.below (by repeat (first | exact Below.refl _ _ | refine Below.setCell ?_ (by first | (simp; done) | (simp; omega) | omega) _ | refine Below.alloc ?_ (by first | (simp; done) | (simp; omega) | omega) _ | refine Below.drew ?_ | assumption | refine Below.trans ?_ (Below.mono (by assumption) (by first | (simp; done) | (simp; omega) | omega))))).appL hown8 hgrow8 rfl hat8); have c138 := S8.out.cell; have f138 := S8.out.froz; have l138 := S8.out.lt; clear hown8 hgrow8 hat8))
      all_goals (
        go_wp2
        go_roundw
        case rel => exact ⟨k + 1, _, _, _, z - q, by omega, by go_num, rfl, rfl, rfl, HZ'.out ▸ Lib.hid rfl, ⟨lb0, lb1⟩, by rw [TO.out, TR.out, ords_succ]; exact Lib.hid (S8.out.store _)⟩
        case measure => first | (simp [intOf]; done) | (simp [intOf]; omega))
    · obtain rfl : k = n := by omega
      have hkk : ¬ (k : Int) < (k : Int) := by omega
      obtain ⟨nl, rl⟩ := NLEN.out
      have hll := LL.out
      have hwl := HL.out
      rw [List.take_of_length_le (by omega)] at ST
      rw [List.take_of_length_le (l := rs) (by omega)] at ST
      have hz := HZ.out
      rw [List.take_of_length_le (by omega)] at hz
      obtain ⟨gO, cO, hvO, hgO, hgO'⟩ := ST.out.2.1.form n0
      obtain ⟨gR, cR, hvR, _, hgR'⟩ := ST.out.2.2.1.form n0
      obtain ⟨gL, cL, hvL, _, hgL'⟩ := ST.out.2.2.2.1.form n0
      subst hvO hvR hvL
      have hcR : k ≤ cR := by
        rcases ST.out.2.2.1.2 with ⟨h1, _⟩ | ⟨_, _, _, h1, _, _, h4, _⟩
        · simp at h1
        · injection h1 with _ _ h3; omega
      have hne : ¬ gR = gO := by
        rcases own_types ST.out.2.2.1 ST.out.2.1 (by decide) with h | h
        · simp [Value.ownBlock] at h
        · simpa [Value.ownBlock] using h
      obtain ⟨AM, FZ, _⟩ := amts_own ST.out.2.1
      have OC : ∀ j, j < k → wo.cell? ⟨gR, j, none⟩ = some (.int .i64 (j : Int)) := fun j hj => by
        have := ST.out.2.2.1.cells (g := gR) rfl j _ (ords_at hj)
        rw [addr0] at this; simpa using this
      have LC : ∀ j, j < k → wo.cell? ⟨gL, j, none⟩ = some (.int .i64 (rs.getD j 0)) := fun j hj => by
        have := ST.out.2.2.2.1.cells (g := gL) rfl j (.int .i64 (rs.getD j 0)) (by simp [List.getD, show j < rs.length by omega])
        rw [addr0] at this; simpa using this
      have OD : ∀ j, j + 1 < k → 0 ≤ Lib.compareInt (rs.getD j 0) (rs.getD (j + 1) 0) := fun j hj => by
        have := HORD.out j (rs.getD j 0) (rs.getD (j + 1) 0) (by simp [List.getD, show j < rs.length by omega]) (by simp [List.getD, show j + 1 < rs.length by omega])
        unfold Lib.compareInt
        rw [if_neg (by omega)]
        split <;> decide
      have c13 := ST.out.cell
      have SO : Hid (∀ W, Below wo.heap.size wo W → Calls Tryz.prog 19 #[.slice (some ⟨gR, 0, none⟩) k cR, .func (.func 20) #[] #[.pointer (some ⟨w2.heap.size, 0, none⟩)]] W fun e w' => e = .returned (.tuple #[]) ∧ Below W.heap.size W w') := Lib.hid fun W hb =>
        sort_sorted gR k cR w2.heap.size (fun j => (j : Int)) (fun j => Lib.compareInt (rs.getD j 0) (rs.getD (j + 1) 0)) hn W (Nat.lt_of_lt_of_le hgR' hb.size) (fun j hj => (hb.cell (p := ⟨gR, j, none⟩) hgR').trans (OC j hj)) (fun j hj W' hb' => by
          have hb2 : Below wo.heap.size wo W' := hb.trans (hb'.mono hb.size)
          exact clo_any (j + 1) j k cL w2.heap.size gL (rs.getD (j + 1) 0) (rs.getD j 0) hj (by omega) W' (Nat.lt_of_lt_of_le hsl hb2.size) (Nat.lt_of_lt_of_le hgL' hb2.size) ((hb2.cell (p := ⟨w2.heap.size, 0, none⟩) hsl).trans c13) ((hb2.cell (p := ⟨gL, j + 1, none⟩) hgL').trans (LC _ hj)) ((hb2.cell (p := ⟨gL, j, none⟩) hgL').trans (LC _ (by omega)))) OD
      obtain ⟨lf, rfl⟩ := Int.eq_ofNat_of_zero_le z0
      have hlf : lf < k := by omega
      have hlc : (lf : Int) ≤ (cR : Int) := by omega
      have NB : Hid (∀ e x, ns[e]? = some x → 0 ≤ x ∧ x ≤ u) := Lib.hid fun e x hx => by
        have h1 := LB.out e
        have h2 := LB.out (e + 1)
        rw [sumI_take hx] at h2
        have h3 := HNN.out x (List.mem_of_getElem? hx)
        omega
      have FIN : Hid ((u - sumI ns).toNat = lf) := Lib.hid (by omega)
      have HA := Lib.hid (fun W (hb : Below wo.heap.size wo W) => AM.below hb)
      have HF := Lib.hid (fun W (hb : Below wo.heap.size wo W) j => (World.frozen?_of_block (hb.block gO hgO')).trans (FZ j))
      have HO := Lib.hid (fun W (hb : Below wo.heap.size wo W) j (hj : j < k) => (hb.cell (p := ⟨gR, j, none⟩) hgR').trans (OC j hj))
      clear hz hll HZ nl rl hwl AM FZ OC LC OD c13 z1
      go_wp2_with (first | (go_at_call 19; refine (SO.out _ (by repeat (first | exact Below.refl _ _ | refine Below.setCell ?_ (by first | (simp; done) | (simp; omega) | omega) _ | refine Below.alloc ?_ (by first | (simp; done) | (simp; omega) | omega) _ | refine Below.drew ?_ | assumption | refine Below.trans ?_ (Below.mono (by assumption) (by first | (simp; done) | (simp; omega) | omega))))).mono ?_; rintro e w3 ⟨rfl, hb3⟩; obtain ⟨hc3, hf3⟩ := bcell hb3; have hs3 := hb3.size; (try simp at hs3)))
      go_loopw [93] (fun i wr => ∃ e : Nat, e ≤ lf ∧ i = .int .i64 e ∧ Hid (Amts wr gO CL (bumpL 1 e ns) ∧ (∀ j, wr.frozen? ⟨gO, j, none⟩ = false) ∧ (∀ j, j < k → wr.cell? ⟨gR, j, none⟩ = some (.int .i64 (j : Int)))) ∧ gR < wr.heap.size ∧ Below w.heap.size w wr) (fun i _ => lf - (intOf i).toNat)
      case atStart => exact ⟨0, by omega, rfl, Lib.hid ⟨by rw [bumpL_0]; exact HA.out _ hb3, HF.out _ hb3, HO.out _ hb3⟩, by omega, (by repeat (first | exact Below.refl _ _ | refine Below.setCell ?_ (by first | (simp; done) | (simp; omega) | omega) _ | refine Below.alloc ?_ (by first | (simp; done) | (simp; omega) | omega) _ | refine Below.drew ?_ | assumption | refine Below.trans ?_ (Below.mono (by assumption) (by first | (simp; done) | (simp; omega) | omega))))⟩
      case round =>
        obtain ⟨e, he, rfl, HE, hgw, hBe⟩ := hrel
        obtain ⟨we, rfl⟩ : ∃ we : World, we = wr := ⟨_, rfl⟩
        have hse := hBe.size
        by_cases hel : e < lf
        · have hel' : (e : Int) < (lf : Int) := by omega
          have hek : (e : Int) < (k : Int) := by omega
          obtain ⟨x, hx⟩ : ∃ x, ns[e]? = some x := ⟨_, List.getElem?_eq_getElem (by have := NLEN.out.1; omega)⟩
          obtain ⟨x0, x1⟩ := NB.out e x hx
          have hbx := bumpL_at (d := 1) hx
          have q0 := (HE.out.1.2 e x hbx).1
          have f0 := HE.out.2.1 (e * 2)
          have r0 := HE.out.2.2 e (by omega)
          have hgw2 := HE.out.1.1
          have NX : Hid (Amts (we.setCell ⟨gO, e * 2, none⟩ (.int .i64 (x + 1))) gO CL (bumpL 1 (e + 1) ns) ∧ (∀ j, (we.setCell ⟨gO, e * 2, none⟩ (.int .i64 (x + 1))).frozen? ⟨gO, j, none⟩ = false) ∧ (∀ j, j < k → (we.setCell ⟨gO, e * 2, none⟩ (.int .i64 (x + 1))).cell? ⟨gR, j, none⟩ = some (.int .i64 (j : Int)))) := Lib.hid ⟨by rw [bumpL_succ hx]; exact HE.out.1.set (x + 1) hbx, fun j => by simpa [go_sem] using HE.out.2.1 j, fun j hj => by rw [World.cell?_setCell_far we _ _ _ (fun e => hne e.symm)]; exact HE.out.2.2 j hj⟩
          clear hx hbx HE
          go_wp2
          go_roundw
          case rel => exact ⟨e + 1, by omega, by go_num, NX, by simpa using hgw, Below.setCell hBe (by show w.heap.size ≤ gO; omega) _⟩
          case measure => first | (simp [intOf]; done) | (simp [intOf]; omega)
        · obtain rfl : e = lf := by omega
          have hee : ¬ (e : Int) < (e : Int) := by omega
          go_wp2
          go_ret2
          exact ⟨⟨gO, ⟨cO, rfl⟩, by rw [FIN.out]; exact HE.out.1⟩, hBe⟩
end Go.Proofs.YtakfjdnpfhcgkaaGreatDoor
