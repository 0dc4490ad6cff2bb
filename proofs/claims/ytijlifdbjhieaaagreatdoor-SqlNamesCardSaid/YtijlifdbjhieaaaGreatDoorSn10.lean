/-
  Rows of schemas: appended and read; more tables change nothing, plainly.
-/
import Derived.Test.YtijlifdbjhieaaaGreatDoorSn8
import Derived.Laws.MakeOwn

/-
  exlaw19.FewSchemas: what is few is small.
-/
namespace Go.Proofs.YtijlifdbjhieaaaGreatDoor
set_option linter.all false
open Go.RowKit Go.Shelf
attribute [local go_sem] cell_set_self lt_1 lt_2 lt_3 lt_4 lt_5 lt_6

set_option maxHeartbeats 8000000 in
set_option maxRecDepth 100000 in
theorem fews_any (A : Option Addr) (c : Nat) (l : List SchT) (hn : l.length ≤ 1000000000000000) (w : World) (HL : ScL w A l) :
    Calls Tryz.prog 15 #[.slice A l.length c] w fun e w' => ∃ b, e = .returned (.bool b) ∧ w = w' ∧ (b = true → l.length ≤ 25 ∧ ∀ s ∈ l, s.cols.length ≤ 30 ∧ s.key.length ≤ 30) := by
  suffices key : ∀ Q : Ending → World → Prop, Hid (∀ b, (b = true → l.length ≤ 25 ∧ ∀ s ∈ l, s.cols.length ≤ 30 ∧ s.key.length ≤ 30) → Q (.returned (.bool b)) w) → Calls Tryz.prog 15 #[.slice A l.length c] w Q from key _ (Lib.hid fun b h => ⟨b, rfl, rfl, h⟩)
  intro Q HQ
  have HT := Lib.hid HL
  have HNO := Lib.hid (HQ.out false (fun h => by cases h))
  clear HL
  go_enter Tryz.func15, Tryz.ntmps15
  go_wp2_with (fail)
  go_loopw [3] (fun j wr => ∃ k : Nat, k ≤ l.length ∧ k ≤ 26 ∧ j = .int .i64 k ∧ w = wr ∧ Hid (∀ (i : Nat) (s : SchT), i < k → l[i]? = some s → s.cols.length ≤ 30 ∧ s.key.length ≤ 30)) (fun j _ => l.length - (intOf j).toNat)
  case atStart => exact ⟨0, by omega, by omega, rfl, rfl, Lib.hid (fun i x hi => by omega)⟩
  case round =>
    obtain ⟨k, hk, hk26, rfl, hwr, HA⟩ := hrel
    subst hwr
    by_cases hlt : k < l.length
    · have hlt' : (k : Int) < (l.length : Int) := by omega
      by_cases h25 : k ≤ 25
      · have h25' : (k : Int) ≤ 25 := by omega
        obtain ⟨s, hx⟩ : ∃ s, l[k]? = some s := ⟨_, List.getElem?_eq_getElem hlt⟩
        obtain ⟨b, off, A1, c1, A2, c2, rfl, hb, k0, k1, k2, hsv⟩ := HT.out k s hx
        have HSV := Lib.hid hsv
        have HA2 := Lib.hid (fun (h1 : s.cols.length ≤ 30) (h2 : s.key.length ≤ 30) (i : Nat) (x : SchT) (hi : i < k + 1) (hx2 : l[i]? = some x) => (by
          rcases Nat.lt_or_ge i k with h | h
          · exact HA.out i x h hx2
          · obtain rfl : i = k := by omega
            rw [hx] at hx2; injection hx2 with hx2; subst hx2; exact ⟨h1, h2⟩ : x.cols.length ≤ 30 ∧ x.key.length ≤ 30))
        obtain ⟨tb, htb⟩ : ∃ t : ByteArray, (⟨s.table.toArray⟩ : ByteArray) = t := ⟨_, rfl⟩
        rw [htb] at k0
        obtain ⟨tn, htn⟩ : ∃ n, tb.size = n := ⟨_, rfl⟩
        have HTN := Lib.hid htn
        clear hsv hx htb
        by_cases g1 : 300 < tn
        · have g1' : (300 : Int) < (tn : Int) := by omega
          clear HA2
          go_wp2_with (fail)
          exact HNO.out
        have g1' : ¬ (300 : Int) < (tn : Int) := by omega
        by_cases g2 : 30 < s.cols.length
        · have g2' : (30 : Int) < (s.cols.length : Int) := by omega
          clear HA2
          go_wp2_with (fail)
          exact HNO.out
        have g2' : ¬ (30 : Int) < (s.cols.length : Int) := by omega
        by_cases g3 : 30 < s.key.length
        · have g3' : (30 : Int) < (s.key.length : Int) := by omega
          clear HA2
          go_wp2_with (fail)
          exact HNO.out
        have g3' : ¬ (30 : Int) < (s.key.length : Int) := by omega
        have HA3 := Lib.hid (HA2.out (by omega) (by omega))
        have n1 : s.cols.length ≤ 30 := by omega
        have n2 : s.key.length ≤ 30 := by omega
        clear HA2 HA
        go_wp2_with (fail)
        go_loopw [4] (fun j wr => ∃ m : Nat, m ≤ s.cols.length ∧ j = .int .i64 m ∧ w = wr) (fun j _ => s.cols.length - (intOf j).toNat)
        case atStart => exact ⟨0, by omega, rfl, rfl⟩
        case round =>
          obtain ⟨m, hm, rfl, hwr⟩ := hrel
          subst hwr
          by_cases hmt : m < s.cols.length
          · have hmt' : (m : Int) < (s.cols.length : Int) := by omega
            obtain ⟨y, hy⟩ : ∃ y, s.cols[m]? = some y := ⟨_, List.getElem?_eq_getElem hmt⟩
            obtain ⟨b1, off1, rfl, hb1, q0, -⟩ := HSV.out.cl m y hy
            obtain ⟨yb, hyb⟩ : ∃ t : ByteArray, (⟨y.name.toArray⟩ : ByteArray) = t := ⟨_, rfl⟩
            rw [hyb] at q0
            obtain ⟨yn, hyn⟩ : ∃ n, yb.size = n := ⟨_, rfl⟩
            clear hy hyb HA3
            by_cases g4 : 300 < yn
            · have g4' : (300 : Int) < (yn : Int) := by omega
              go_wp2_with (fail)
              exact HNO.out
            · have g4' : ¬ (300 : Int) < (yn : Int) := by omega
              go_wp2_with (fail)
              go_roundw
              case rel => exact ⟨m + 1, by omega, by go_num, (by first | rfl | trivial)⟩
              case measure => first | (simp [intOf]; done) | (simp [intOf]; omega)
          · obtain rfl : m = s.cols.length := by omega
            have hmm : ¬ (s.cols.length : Int) < (s.cols.length : Int) := by omega
            go_wp2_with (fail)
            go_loopw [5] (fun j wr => ∃ m : Nat, m ≤ s.key.length ∧ j = .int .i64 m ∧ w = wr) (fun j _ => s.key.length - (intOf j).toNat)
            case atStart => exact ⟨0, by omega, rfl, rfl⟩
            case round =>
              obtain ⟨m, hm2, rfl, hwr⟩ := hrel
              subst hwr
              by_cases hmt2 : m < s.key.length
              · have hmt' : (m : Int) < (s.key.length : Int) := by omega
                obtain ⟨y, hy⟩ : ∃ y, s.key[m]? = some y := ⟨_, List.getElem?_eq_getElem hmt2⟩
                obtain ⟨b1, off1, rfl, hb1, q0⟩ := HSV.out.ky m y hy
                obtain ⟨yb, hyb⟩ : ∃ t : ByteArray, (⟨y.toArray⟩ : ByteArray) = t := ⟨_, rfl⟩
                rw [hyb] at q0
                obtain ⟨yn, hyn⟩ : ∃ n, yb.size = n := ⟨_, rfl⟩
                clear hy hyb HA3
                by_cases g4 : 300 < yn
                · have g4' : (300 : Int) < (yn : Int) := by omega
                  go_wp2_with (fail)
                  exact HNO.out
                · have g4' : ¬ (300 : Int) < (yn : Int) := by omega
                  go_wp2_with (fail)
                  go_roundw
                  case rel => exact ⟨m + 1, by omega, by go_num, (by first | rfl | trivial)⟩
                  case measure => first | (simp [intOf]; done) | (simp [intOf]; omega)
              · obtain rfl : m = s.key.length := by omega
                have hmm : ¬ (s.key.length : Int) < (s.key.length : Int) := by omega
                go_wp2_with (fail)
                go_roundw
                case rel => exact ⟨k + 1, by omega, by omega, by go_num, (by first | rfl | trivial), HA3⟩
                case measure => first | (simp [intOf]; done) | (simp [intOf]; omega)
      · have h25' : ¬ (k : Int) ≤ 25 := by omega
        have h26 : ¬ (l.length : Int) ≤ 25 := by omega
        clear HA
        go_wp2_with (fail)
        exact HNO.out
    · obtain rfl : k = l.length := by omega
      have hkk : ¬ (l.length : Int) < (l.length : Int) := by omega
      have HF := Lib.hid (HQ.out (decide ((l.length : Int) ≤ 25)) (fun h => ⟨by have := of_decide_eq_true h; omega, fun s hs => by
        obtain ⟨i, hi, rfl⟩ := List.mem_iff_getElem.1 hs
        exact HA.out i _ hi (List.getElem?_eq_getElem hi)⟩))
      clear HA hlt
      go_wp2_with (fail)
      exact HF.out
end Go.Proofs.YtijlifdbjhieaaaGreatDoor

/-
  Rows of schemas: appended and read; more tables change nothing, plainly.
-/
namespace Go.Proofs.YtijlifdbjhieaaaGreatDoor
set_option linter.all false
open Go.RowKit Go.Shelf Go.Sort

theorem check_more {q : QueryT} {L : List SchT} {s : SchT} (m : SchT) (h : checkE q L = 0) (hs : L.find? (isTab q.table) = some s) : checkE q (L ++ [m]) = 0 ∧ (L ++ [m]).find? (isTab q.table) = some s := by
  have hf : (L ++ [m]).find? (isTab q.table) = some s := by rw [List.find?_append, hs]; rfl
  refine ⟨?_, hf⟩
  unfold checkE at h ⊢
  rw [hf]; rw [hs] at h; exact h
/-- A schema's three cells. -/
def SchR (W : World) (s : SchT) (u0 u1 u2 : Value) : Prop := u0 = .string ⟨s.table.toArray⟩ ∧ ∃ A1 c1 A2 c2, u1 = .slice A1 s.cols.length c1 ∧ u2 = .slice A2 s.key.length c2 ∧ SchV W s A1 c1 A2 c2
def SchCs (W : World) : List SchT → List Value → Prop
  | [], cs => cs = []
  | s :: l, cs => ∃ u0 u1 u2 r, cs = u0 :: u1 :: u2 :: r ∧ SchR W s u0 u1 u2 ∧ SchCs W l r
theorem SchR.below {W W' : World} {s : SchT} {u0 u1 u2 : Value} (h : SchR W s u0 u1 u2) (hb : Below W.heap.size W W') : SchR W' s u0 u1 u2 := by
  obtain ⟨h1, A1, c1, A2, c2, h2, h3, h4⟩ := h
  exact ⟨h1, A1, c1, A2, c2, h2, h3, h4.below hb⟩
theorem SchCs.below {W W' : World} (hb : Below W.heap.size W W') : ∀ {l : List SchT} {cs : List Value}, SchCs W l cs → SchCs W' l cs
  | [], cs, h => h
  | s :: l, cs, h => by
    obtain ⟨u0, u1, u2, r, h1, h2, h3⟩ := h
    exact ⟨u0, u1, u2, r, h1, h2.below hb, SchCs.below hb h3⟩
theorem SchCs.len {W : World} : ∀ {l : List SchT} {cs : List Value}, SchCs W l cs → cs.length = l.length * 3
  | [], cs, h => by rw [show cs = [] from h]; rfl
  | s :: l, cs, h => by
    obtain ⟨u0, u1, u2, r, h1, h2, h3⟩ := h
    have := SchCs.len h3
    rw [h1]; simp only [List.length_cons]; omega
theorem SchCs.one {W : World} : ∀ {l : List SchT} {cs : List Value}, SchCs W l cs → ∀ u ∈ cs, u.oneCell' = true
  | [], cs, h, u, hu => by rw [show cs = [] from h] at hu; cases hu
  | s :: l, cs, h, u, hu => by
    obtain ⟨u0, u1, u2, r, h1, ⟨e0, A1, c1, A2, c2, e1, e2, -⟩, h3⟩ := h
    subst h1 e0 e1 e2
    simp only [List.mem_cons] at hu
    rcases hu with rfl | rfl | rfl | hu
    · rfl
    · rfl
    · rfl
    · exact SchCs.one h3 u hu
theorem SchCs.app {W : World} : ∀ {l m : List SchT} {cs ds : List Value}, SchCs W l cs → SchCs W m ds → SchCs W (l ++ m) (cs ++ ds)
  | [], m, cs, ds, h, hm => by rw [show cs = [] from h]; exact hm
  | s :: l, m, cs, ds, h, hm => by
    obtain ⟨u0, u1, u2, r, h1, h2, h3⟩ := h
    exact ⟨u0, u1, u2, r ++ ds, by rw [h1]; rfl, h2, SchCs.app h3 hm⟩
theorem SchCs.at {W : World} : ∀ {l : List SchT} {cs : List Value} {i : Nat} {s : SchT}, SchCs W l cs → l[i]? = some s → ∃ u0 u1 u2, cs[i * 3]? = some u0 ∧ cs[i * 3 + 1]? = some u1 ∧ cs[i * 3 + 2]? = some u2 ∧ SchR W s u0 u1 u2
  | s :: l, cs, 0, x, h, hi => by
    obtain ⟨u0, u1, u2, r, h1, h2, h3⟩ := h
    simp at hi; subst hi
    rw [h1]; exact ⟨u0, u1, u2, rfl, rfl, rfl, h2⟩
  | s :: l, cs, i + 1, x, h, hi => by
    obtain ⟨u0, u1, u2, r, h1, h2, h3⟩ := h
    obtain ⟨v0, v1, v2, k0, k1, k2, k3⟩ := SchCs.at (i := i) h3 (by simpa using hi)
    rw [h1, show (i + 1) * 3 = i * 3 + 1 + 1 + 1 by omega]
    exact ⟨v0, v1, v2, by simpa using k0, by simpa using k1, by simpa using k2, k3⟩
theorem SchCs.of {W : World} {b : Nat} : ∀ (l : List SchT) (off : Nat), (∀ (i : Nat) (s : SchT), l[i]? = some s → ∃ u0 u1 u2, W.cell? ⟨b, off + i * 3, none⟩ = some u0 ∧ W.cell? ⟨b, off + i * 3 + 1, none⟩ = some u1 ∧ W.cell? ⟨b, off + i * 3 + 2, none⟩ = some u2 ∧ SchR W s u0 u1 u2) → ∃ cs, SchCs W l cs ∧ ∀ j u, cs[j]? = some u → W.cell? ⟨b, off + j, none⟩ = some u
  | [], off, _ => ⟨[], rfl, fun j u h => by simp at h⟩
  | s :: l, off, h => by
    obtain ⟨u0, u1, u2, k0, k1, k2, k3⟩ := h 0 s rfl
    obtain ⟨r, r1, r2⟩ := SchCs.of l (off + 3) (fun i x hi => by
      have := h (i + 1) x (by simpa using hi)
      rw [show off + (i + 1) * 3 = off + 3 + i * 3 by omega] at this
      exact this)
    refine ⟨u0 :: u1 :: u2 :: r, ⟨u0, u1, u2, r, rfl, k3, r1⟩, fun j u hj => ?_⟩
    match j, hj with
    | 0, hj => simp at hj; subst hj; simpa using k0
    | 1, hj => simp at hj; subst hj; simpa using k1
    | 2, hj => simp at hj; subst hj; simpa using k2
    | j + 3, hj =>
      have := r2 j u (by simpa using hj)
      rw [show off + (j + 3) = off + 3 + j by omega]; exact this
/-- The cells of schemas that stand in memory. -/
theorem ScL.cells {W : World} {A : Option Addr} {l : List SchT} (h : ScL W A l) : ∃ cs, SchCs W l cs ∧ (A = none → l = []) ∧ ∀ ad, A = some ad → ∀ j u, cs[j]? = some u → W.cell? (ad.add j) = some u := by
  cases l with
  | nil => exact ⟨[], rfl, fun _ => rfl, fun ad _ j u hj => by simp at hj⟩
  | cons s l =>
    obtain ⟨b, off, A1, c1, A2, c2, e, -⟩ := h 0 s rfl
    subst e
    obtain ⟨cs, h1, h2⟩ := SchCs.of (W := W) (b := b) (s :: l) off (fun i x hi => by
      obtain ⟨b', off', A1, c1, A2, c2, e, -, k0, k1, k2, k3⟩ := h i x hi
      injection e with e; injection e with e1 e2; subst e1 e2
      exact ⟨_, _, _, k0, k1, k2, rfl, A1, c1, A2, c2, rfl, rfl, k3⟩)
    refine ⟨cs, h1, (fun e => by cases e), fun ad e j u hj => ?_⟩
    injection e with e; subst e
    have ea : (⟨b, off, none⟩ : Addr).add j = ⟨b, off + j, none⟩ := by unfold Addr.add; split <;> simp_all
    rw [ea]; exact h2 j u hj
theorem own_schs {W : World} {base n c : Nat} {T : TypeId} {A : Option Addr} {l : List SchT} {cs : List Value} (h : W.ownsRow base T 3 (.slice A n c) l.length cs) (hs : SchCs W l cs) : ScL W A l ∧ n = l.length := by
  rcases h.2 with ⟨e, h0⟩ | ⟨g, cap, cur, e, hg, hh, h3, -, -, ht⟩
  · injection e with e1 e2 e3; subst e1 e2 e3
    refine ⟨fun i x hi => ?_, h0.symm⟩
    have hil := (List.getElem?_eq_some_iff.1 hi).1
    omega
  · injection e with e1 e2 e3; subst e1 e2 e3
    refine ⟨fun i x hi => ?_, rfl⟩
    have hil := (List.getElem?_eq_some_iff.1 hi).1
    obtain ⟨u0, u1, u2, k0, k1, k2, q0, A1, c1, A2, c2, q1, q2, q3⟩ := hs.at hi
    subst q0 q1 q2
    rw [← ht, List.getElem?_take, if_pos (by omega)] at k0 k1 k2
    exact ⟨g, 0, A1, c1, A2, c2, rfl, (Array.getElem?_eq_some_iff.1 hh).1, by simp only [World.cell?, hh, Nat.zero_add]; simpa using k0, by simp only [World.cell?, hh, Nat.zero_add]; simpa using k1, by simp only [World.cell?, hh, Nat.zero_add]; simpa using k2, q3⟩
section
variable {P : Program}
theorem step_append_schs {ops : Array Oper} {o : Oper} {a : Act} {K : Act → World → Prop} {Q : Exit → Act → World → Prop} {E : Prop} (w : World) (hgd : o.guard = none) (s x : Operand) (t : TypeId)
    (ho : o.op = .call { callee := .builtin .append, args := #[s, x], argTypes := #[t, t] })
    (base : Nat) (i : TypeInfo) (ht : P.underlying t = some (.slice 59)) (hi : P.info? 59 = some i) (hz : i.zero = some (.agg #[.string ⟨#[]⟩, .slice none 0 0, .slice none 0 0])) (hsize : i.size = 3) (hby : i.bytes = 64)
    (v : Value) (n : Nat) (xs : List Value) (hs : a.eval s = v) (hown : w.ownsRow base 59 3 v n xs)
    (A : Option Addr) (m c : Nat) (cs : List Value) (hx : a.eval x = .slice A m c) (hl : cs.length = m * 3) (hA : A = none → c = 0 ∧ m = 0) (nw : ∀ ad, A = some ad → ∀ j u, cs[j]? = some u → w.cell? (ad.add j) = some u) (hone : ∀ u ∈ cs, u.oneCell' = true)
    (h63 : n + m ≤ maxLen) (hbytes : (n + m) * 64 ≤ 140737488355328) (hbase : base ≤ w.heap.size)
    (h : ∀ v' w', w'.ownsRow base 59 3 v' (n + m) (xs ++ cs) → w.grownBy w' v.ownBlock → K (a.put o.dst v') w') :
    if Region.wanted o (yielded ops a.tmps) = true then Oper.wp P o a w K Q else E := by
  have hw : Region.wanted o (yielded ops a.tmps) = true := by simp [Region.wanted, hgd]
  rw [if_pos hw]
  rcases A with _ | ad
  · obtain ⟨rfl, rfl⟩ := hA rfl
    have hl0 : cs = [] := List.length_eq_zero_iff.1 (by omega)
    subst hl0
    have hrun := run_append_owned_none (P := P) (w := w) base t o.type 59 i 3 ht hi v n xs hown
    have g := h v w (by simpa using hown) ⟨rfl, rfl, rfl, Nat.le_refl _, fun _ _ _ => rfl⟩
    unfold Oper.wp
    simp [execOp, ho, resolve, invoke, builtin, hs, hx, hrun, Result.andThen]
    exact g
  · exact wp_append_own w s x t ho base _ i _ 3 64 ht hi hz hsize hby rfl (by decide) v n xs hs hown ad m c cs hx hl (nw ad rfl) hone h63 hbytes hbase fun v' w' h1 h2 _ => h v' w' h1 h2
end
theorem info_sch : (Tryz.prog.info? 59).map (fun i => (i.zero, i.size, i.bytes)) = some (some (.agg #[.string ⟨#[]⟩, .slice none 0 0, .slice none 0 0]), 3, 64) := by kernel_rfl
theorem own_empty_sch {w : World} {base g : Nat} (hh : w.heap[g]? = some (.cells #[] 59 (0, 0))) (hb : base ≤ g) : w.ownsRow base 59 3 (.slice (some ⟨g, 0, none⟩) 0 0) 0 [] :=
  ⟨rfl, .inr ⟨g, 0, #[], rfl, hb, hh, by simp, by simp, by simp, by simp⟩⟩
theorem grown_blk {W W' : World} {r : Option Nat} {k : Nat} {o : Obj} (hg : W.grownBy W' r) (hh : W.heap[k]? = some o) (hr : some k ≠ r) : W'.heap[k]? = some o := by
  rw [hg.block k (Array.getElem?_eq_some_iff.1 hh).1 hr]; exact hh
end Go.Proofs.YtijlifdbjhieaaaGreatDoor
