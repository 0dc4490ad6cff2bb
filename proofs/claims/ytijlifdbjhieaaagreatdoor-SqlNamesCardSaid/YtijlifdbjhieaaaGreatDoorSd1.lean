/-
  Contracts of sql.compares, sql.depth.
-/
import Derived.Test.YtijlifdbjhieaaaGreatDoorSk1
namespace Go.Proofs.YtijlifdbjhieaaaGreatDoor
set_option linter.all false
open Go.RowKit Go.Shelf
attribute [local go_sem] cell_set_self lt_1 lt_2 lt_3 lt_4 lt_5 lt_6 fld_k fld_s fld_n fld_p

set_option maxHeartbeats 1000000 in
theorem compares_any (op : Int) (w : World) : Calls Tryz.prog 89 #[.int .i64 op] w fun e w' => e = .returned (.bool (cmpB op)) ∧ w = w' := by
  unfold cmpB
  by_cases h1 : 4 ≤ op
  · by_cases h2 : op ≤ 9
    · rw [decide_eq_true h1, decide_eq_true h2]
      go_enter Tryz.func89, Tryz.ntmps89
      go_wp2
      go_ret
      exact ⟨rfl, rfl⟩
    · rw [decide_eq_true h1, decide_eq_false h2]
      go_enter Tryz.func89, Tryz.ntmps89
      go_wp2
      go_ret
      exact ⟨rfl, rfl⟩
  · rw [decide_eq_false h1]
    go_enter Tryz.func89, Tryz.ntmps89
    go_wp2
    go_ret
    exact ⟨rfl, rfl⟩
theorem CondT.size_arg {op : Int} {args : List CondT} {l r : TermT} {k : Nat} {x : CondT} (h : args[k]? = some x) : SizeOf.sizeOf x < SizeOf.sizeOf (CondT.mk op args l r) := by
  have := List.sizeOf_lt_of_mem (List.mem_of_getElem? h)
  simp only [CondT.mk.sizeOf_spec]
  omega
/-- An argument, taken apart. -/
theorem CVL.elem {P : Nat → Prop} {w : World} {A : Option Addr} {l : List CondT} (h : CVL P w A 0 l) {k : Nat} {op : Int} {args : List CondT} {lc ls rc rs : List UInt8} {lt ln rt rn : Int} (hk : l[k]? = some (.mk op args ⟨lc, lt, ln, ls⟩ ⟨rc, rt, rn, rs⟩)) :
    ∃ b off A' c', A = some ⟨b, off, none⟩ ∧ P b ∧ b < w.heap.size ∧ (w.cell? ⟨b, off + k * 10, none⟩ = some (.int .i64 op) ∧ w.cell? ⟨b, off + k * 10 + 1, none⟩ = some (.slice A' args.length c') ∧ w.cell? ⟨b, off + k * 10 + 2, none⟩ = some (.string ⟨lc.toArray⟩) ∧ w.cell? ⟨b, off + k * 10 + 3, none⟩ = some (.int .i64 lt) ∧ w.cell? ⟨b, off + k * 10 + 4, none⟩ = some (.int .i64 ln) ∧ w.cell? ⟨b, off + k * 10 + 5, none⟩ = some (.string ⟨ls.toArray⟩) ∧ w.cell? ⟨b, off + k * 10 + 6, none⟩ = some (.string ⟨rc.toArray⟩) ∧ w.cell? ⟨b, off + k * 10 + 7, none⟩ = some (.int .i64 rt) ∧ w.cell? ⟨b, off + k * 10 + 8, none⟩ = some (.int .i64 rn) ∧ w.cell? ⟨b, off + k * 10 + 9, none⟩ = some (.string ⟨rs.toArray⟩)) ∧
      CV P w (.mk op args ⟨lc, lt, ln, ls⟩ ⟨rc, rt, rn, rs⟩) (condC op A' args.length c' ⟨lc, lt, ln, ls⟩ ⟨rc, rt, rn, rs⟩) := by
  obtain ⟨b, off, cs, hA, hP, hb, hc, hv⟩ := h.at hk
  have hv2 := hv
  unfold CV at hv2
  obtain ⟨A', c', rfl, -⟩ := hv2
  rw [Nat.zero_add] at hc
  exact ⟨b, off, A', c', hA, hP, hb, ⟨hc 0 _ rfl, hc 1 _ rfl, hc 2 _ rfl, hc 3 _ rfl, hc 4 _ rfl, hc 5 _ rfl, hc 6 _ rfl, hc 7 _ rfl, hc 8 _ rfl, hc 9 _ rfl⟩, hv⟩
theorem CV.open {P : Nat → Prop} {w : World} {op : Int} {args : List CondT} {l r : TermT} {cs : List Value} (h : CV P w (.mk op args l r) cs) : ∃ A c, cs = condC op A args.length c l r ∧ (args.length ≤ c ∧ args.length ≤ 1000000000000000) ∧ (A = none → c = 0) ∧ CVL P w A 0 args := by
  unfold CV at h
  exact h
theorem depthL_take {l : List CondT} {k : Nat} {x : CondT} (h : l[k]? = some x) : depthL (l.take (k + 1)) = max (depthL (l.take k)) (depthC x) := by
  have app : ∀ l : List CondT, depthL (l ++ [x]) = max (depthL l) (depthC x) := fun l => by
    induction l with
    | nil => simp [depthL]
    | cons y l ih => rw [List.cons_append, depthL, ih, depthL, Nat.max_assoc]
  rw [List.take_succ, h, Option.toList_some, app]
theorem depthL_le {l : List CondT} {k : Nat} {x : CondT} (h : l[k]? = some x) : depthC x ≤ depthL l := by
  have := depthL_take h
  have mono : ∀ (l : List CondT) (n : Nat), depthL (l.take n) ≤ depthL l := fun l => by
    induction l with
    | nil => intro n; simp [depthL]
    | cons y l ih =>
      intro n
      cases n with
      | zero => simp [depthL]
      | succ n => rw [List.take_succ_cons, depthL, depthL]; have := ih n; omega
  have := mono l (k + 1)
  omega
theorem depthL_mono (l : List CondT) : ∀ n : Nat, depthL (l.take n) ≤ depthL l := by
  induction l with
  | nil => intro n; simp [depthL]
  | cons y l ih =>
    intro n
    cases n with
    | zero => simp [depthL]
    | succ n => rw [List.take_succ_cons, depthL, depthL]; have := ih n; omega
set_option maxHeartbeats 8000000 in
set_option maxRecDepth 100000 in
theorem depth_any (P : Nat → Prop) : ∀ (n : Nat) (t : CondT) (cs : List Value) (w : World), SizeOf.sizeOf t ≤ n → CV P w t cs → depthC t ≤ 1000000000 → Calls Tryz.prog 44 #[.agg cs.toArray] w fun e w' => e = .returned (.int .i64 (depthC t : Int)) ∧ Below w.heap.size w w' := by
  intro n
  induction n with
  | zero => intro t cs w hn; cases t; simp at hn
  | succ n ih =>
    intro t cs w hn hv hd
    obtain ⟨op, args, ⟨lc, lt, ln, ls⟩, ⟨rc, rt, rn, rs⟩⟩ := t
    obtain ⟨A, c, rfl, hac, hA, hL⟩ := hv.open
    have CM := Lib.hid (fun W => compares_any op W)
    have hde : depthC (.mk op args ⟨lc, lt, ln, ls⟩ ⟨rc, rt, rn, rs⟩) = if cmpB op = true then 1 else 1 + depthL args := by rw [depthC]
    suffices key : ∀ Q : Ending → World → Prop, Hid (∀ e w', (e = .returned (.int .i64 (depthC (.mk op args ⟨lc, lt, ln, ls⟩ ⟨rc, rt, rn, rs⟩) : Int)) ∧ Below w.heap.size w w') → Q e w') → Calls Tryz.prog 44 #[.agg (condC op A args.length c ⟨lc, lt, ln, ls⟩ ⟨rc, rt, rn, rs⟩).toArray] w Q from key _ (Lib.hid fun _ _ h => h)
    intro Q HQQ
    rw [hde] at HQQ hd
    have hal := hac.2
    dsimp only [condC, termC, List.cons_append, List.nil_append]
    cases hc : cmpB op with
    | true =>
      rw [hc] at CM HQQ
      rw [if_pos rfl] at HQQ
      clear hde hc hn hv hd hL ih
      go_enter Tryz.func44, Tryz.ntmps44
      go_wp2_with (first | (go_at_call 89; (with_reducible refine (CM.out _).mono ?_); rintro e w3 ⟨rfl, rfl⟩))
      exact HQQ.out _ _ ⟨rfl, (by repeat (first | exact Below.refl _ _ | refine Below.setCell ?_ (by first | (simp; done) | (simp; omega) | omega) _ | refine Below.alloc ?_ (by first | (simp; done) | (simp; omega) | omega) _ | refine Below.drew ?_ | assumption | refine Below.trans ?_ (Below.mono (by assumption) (by first | (simp; done) | (simp; omega) | omega))))⟩
    | false =>
      rw [hc] at CM HQQ hd
      rw [if_neg (by simp)] at HQQ hd
      have IH := Lib.hid (fun (k : Nat) (x : CondT) (hx : args[k]? = some x) (cs : List Value) (W : World) (hv : CV P W x cs) => ih x cs W (by have := CondT.size_arg (op := op) (l := ⟨lc, lt, ln, ls⟩) (r := ⟨rc, rt, rn, rs⟩) hx; omega) hv (by have := depthL_le hx; omega))
      have HL := Lib.hid hL
      clear hde hc hn hv hL ih
      go_enter Tryz.func44, Tryz.ntmps44
      go_wp2_with (first | (go_at_call 89; (with_reducible refine (CM.out _).mono ?_); rintro e w3 ⟨rfl, rfl⟩))
      go_loopw [3, 13] (fun m j wr => ∃ k : Nat, k ≤ args.length ∧ j = .int .i64 k ∧ m = .int .i64 (depthL (args.take k) : Int) ∧ Hid (Below w.heap.size w wr)) (fun _ j _ => args.length - (intOf j).toNat)
      case atStart => exact ⟨0, by omega, rfl, by simp [depthL], Lib.hid (by repeat (first | exact Below.refl _ _ | refine Below.setCell ?_ (by first | (simp; done) | (simp; omega) | omega) _ | refine Below.alloc ?_ (by first | (simp; done) | (simp; omega) | omega) _ | refine Below.drew ?_ | assumption | refine Below.trans ?_ (Below.mono (by assumption) (by first | (simp; done) | (simp; omega) | omega))))⟩
      case round =>
        obtain ⟨k, hk, rfl, rfl, HB⟩ := hrel
        obtain ⟨wo, rfl⟩ : ∃ wo : World, wo = wr := ⟨_, rfl⟩
        by_cases hlt : k < args.length
        · have hlt' : (k : Int) < (args.length : Int) := by omega
          obtain ⟨x, hx⟩ : ∃ x, args[k]? = some x := ⟨_, List.getElem?_eq_getElem hlt⟩
          obtain ⟨op', args', ⟨lc', lt', ln', ls'⟩, ⟨rc', rt', rn', rs'⟩⟩ := x
          obtain ⟨b, off, A', c', rfl, hPb, hb, ⟨k0, k1, k2, k3, k4, k5, k6, k7, k8, k9⟩, hvx⟩ := (CVL.keep (Kp.below HB.out) HL.out).elem hx
          have IHx := Lib.hid (IH.out k _ hx)
          have hdk := depthL_take hx
          have hdl := depthL_le hx
          have hdm := depthL_mono args k
          have HDK := Lib.hid hdk
          have HVX := Lib.hid hvx
          dsimp only [condC, termC, List.cons_append, List.nil_append] at HVX
          have hso := HB.out.size
          generalize depthC (.mk op' args' ⟨lc', lt', ln', ls'⟩ ⟨rc', rt', rn', rs'⟩) = dx at *
          obtain ⟨dk, hdk0⟩ : ∃ dk, depthL (args.take k) = dk := ⟨_, rfl⟩
          rw [hdk0] at HDK hdm ⊢
          clear hx hvx hdk hdk0
          go_wp2_with (first | (go_at_call 44; (with_reducible refine (IHx.out _ _ (HVX.out.keep ((Kp.refl _ _).alloc _))).mono ?_); rintro e w3 ⟨rfl, hb3⟩; have hs3 := hb3.size))
          go_roundw
          case rel => exact ⟨k + 1, by omega, by go_num, by rw [HDK.out]; first | (go_num; done) | (simp; omega), Lib.hid (HB.out.trans ((((Below.refl _ _).alloc (Nat.le_refl _) _).trans (hb3.mono (by simp))).mono hso))⟩
          case measure => first | (simp [intOf]; done) | (simp [intOf]; omega)
        · obtain rfl : k = args.length := by omega
          have hkk : ¬ (args.length : Int) < (args.length : Int) := by omega
          have hdt : depthL (args.take args.length) = depthL args := by rw [List.take_of_length_le (Nat.le_refl _)]
          rw [hdt]
          have hdl : depthL args ≤ 1000000000 := by omega
          clear hdt
          generalize depthL args = D at *
          go_wp2
          exact HQQ.out _ _ ⟨by first | rfl | (simp; done), HB.out⟩
end Go.Proofs.YtijlifdbjhieaaaGreatDoor
