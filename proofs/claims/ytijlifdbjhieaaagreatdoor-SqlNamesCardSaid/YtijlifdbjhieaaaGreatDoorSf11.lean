/-
  Contract of sql.condText, whole.
-/
import Derived.Test.YtijlifdbjhieaaaGreatDoorSf10
namespace Go.Proofs.YtijlifdbjhieaaaGreatDoor
set_option linter.all false
open Go.RowKit Go.Shelf Go.Sort

theorem two_elem {w : World} {A : Option Addr} {x y : CondT} (h : CVL (fun _ => True) w A 0 [x, y]) : ∃ b off, A = some ⟨b, off, none⟩ ∧ b < w.heap.size := by
  obtain ⟨b, off, cs, hA, -, hb, -⟩ := h.at (k := 0) rfl
  exact ⟨b, off, hA, hb⟩
theorem elem0 {w : World} {b off : Nat} {l : List CondT} {op : Int} {args : List CondT} {lc ls rc rs : List UInt8} {lt ln rt rn : Int} (h : CVL (fun _ => True) w (some ⟨b, off, none⟩) 0 (.mk op args ⟨lc, lt, ln, ls⟩ ⟨rc, rt, rn, rs⟩ :: l)) :
    ∃ A' c', At10 w b off op (.slice A' args.length c') (.string ⟨lc.toArray⟩) (.int .i64 lt) (.int .i64 ln) (.string ⟨ls.toArray⟩) (.string ⟨rc.toArray⟩) (.int .i64 rt) (.int .i64 rn) (.string ⟨rs.toArray⟩) ∧ b < w.heap.size ∧ CV (fun _ => True) w (.mk op args ⟨lc, lt, ln, ls⟩ ⟨rc, rt, rn, rs⟩) (condC op A' args.length c' ⟨lc, lt, ln, ls⟩ ⟨rc, rt, rn, rs⟩) := by
  obtain ⟨b', off', A', c', hA, -, hb, hk, hv⟩ := h.elem (k := 0) rfl
  injection hA with hA; injection hA with h1 h2
  subst h1 h2
  exact ⟨A', c', by simpa [At10] using hk, hb, hv⟩
theorem elem1 {w : World} {b off : Nat} {x : CondT} {op : Int} {args : List CondT} {lc ls rc rs : List UInt8} {lt ln rt rn : Int} (h : CVL (fun _ => True) w (some ⟨b, off, none⟩) 0 [x, .mk op args ⟨lc, lt, ln, ls⟩ ⟨rc, rt, rn, rs⟩]) :
    ∃ A' c', At10 w b (off + 10) op (.slice A' args.length c') (.string ⟨lc.toArray⟩) (.int .i64 lt) (.int .i64 ln) (.string ⟨ls.toArray⟩) (.string ⟨rc.toArray⟩) (.int .i64 rt) (.int .i64 rn) (.string ⟨rs.toArray⟩) ∧ b < w.heap.size ∧ CV (fun _ => True) w (.mk op args ⟨lc, lt, ln, ls⟩ ⟨rc, rt, rn, rs⟩) (condC op A' args.length c' ⟨lc, lt, ln, ls⟩ ⟨rc, rt, rn, rs⟩) := by
  obtain ⟨b', off', A', c', hA, -, hb, hk, hv⟩ := h.elem (k := 1) rfl
  injection hA with hA; injection hA with h1 h2
  subst h1 h2
  rw [Nat.one_mul] at hk
  exact ⟨A', c', hk, hb, hv⟩
/-- What sql.condText answers at a condition. -/
def TextOk (t : CondT) : Prop := ∀ (cs : List Value) (w : World), CV (fun _ => True) w t cs → Env w → (condX t).length ≤ 1000000000 → Calls Tryz.prog 21 #[.agg cs.toArray] w fun e w' => e = .returned (.string ⟨(condX t).toArray⟩) ∧ Below w.heap.size w w'
theorem TextOk.par {t : CondT} (h : TextOk t) (q : Bool) {op : Int} {args : List CondT} {lc ls rc rs : List UInt8} {lt ln rt rn : Int} (ht : t = .mk op args ⟨lc, lt, ln, ls⟩ ⟨rc, rt, rn, rs⟩) {A : Option Addr} {c : Nat} {w : World} (hv : CV (fun _ => True) w t (condC op A args.length c ⟨lc, lt, ln, ls⟩ ⟨rc, rt, rn, rs⟩)) (E : Env w) (hX : (condX t).length ≤ 1000000000) (W : World) (hb : Below w.heap.size w W) :
    Calls Tryz.prog 46 #[.agg #[.int .i64 op, .slice A args.length c, .string ⟨lc.toArray⟩, .int .i64 lt, .int .i64 ln, .string ⟨ls.toArray⟩, .string ⟨rc.toArray⟩, .int .i64 rt, .int .i64 rn, .string ⟨rs.toArray⟩], .bool q] W fun e w' => e = .returned (.string ⟨(parX q (condX t)).toArray⟩) ∧ Below W.heap.size W w' :=
  par_any op A args.length c lc lt ln ls rc rt rn rs q (condX t) hX W (fun W' hb' => h _ W' ((hv.keep (Kp.below hb)).keep (Kp.below hb')) ((E.below hb).below hb') hX)
set_option maxHeartbeats 1000000 in
theorem text_all : ∀ t, fineC t = true → TextOk t := by
  refine Pl.fine_ind ?_ ?_ ?_ ?_
  · intro a b l r _ _ ha hb cs w hv E hX
    obtain ⟨A, c, rfl, -, -, hL⟩ := hv.open
    obtain ⟨bk, off, rfl, hbk⟩ := two_elem hL
    obtain ⟨oa, aa, ⟨alc, alt, aln, als⟩, ⟨arc, art, arn, ars⟩⟩ := a
    obtain ⟨ob, ba, ⟨blc, blt, bln, bls⟩, ⟨brc, brt, brn, brs⟩⟩ := b
    obtain ⟨A1, c1, K1, -, v1⟩ := elem0 hL
    obtain ⟨A2, c2, K2, -, v2⟩ := elem1 hL
    rw [Pl.condX_or] at hX ⊢
    simp only [List.length_append, List.length_cons, List.length_nil] at hX
    have h1 := (Pl.par_le (Pl.orP (.mk ob ba ⟨blc, blt, bln, bls⟩ ⟨brc, brt, brn, brs⟩)) (condX (.mk ob ba ⟨blc, blt, bln, bls⟩ ⟨brc, brt, brn, brs⟩))).1
    exact or_any oa ob _ _ _ _ _ _ _ _ _ _ _ _ _ _ _ _ _ _ _ _ _ _ _ _ _ _ bk off c _ _ (Pl.orP (.mk ob ba ⟨blc, blt, bln, bls⟩ ⟨brc, brt, brn, brs⟩)) rfl (by omega) w hbk K1 K2
      (fun W hb' => ha _ W (v1.keep (Kp.below hb')) (E.below hb') (by omega)) (fun W hb' => hb.par _ rfl v2 E (by omega) W hb')
  · intro a b l r _ _ ha hb cs w hv E hX
    obtain ⟨A, c, rfl, -, -, hL⟩ := hv.open
    obtain ⟨bk, off, rfl, hbk⟩ := two_elem hL
    obtain ⟨oa, aa, ⟨alc, alt, aln, als⟩, ⟨arc, art, arn, ars⟩⟩ := a
    obtain ⟨ob, ba, ⟨blc, blt, bln, bls⟩, ⟨brc, brt, brn, brs⟩⟩ := b
    obtain ⟨A1, c1, K1, -, v1⟩ := elem0 hL
    obtain ⟨A2, c2, K2, -, v2⟩ := elem1 hL
    rw [Pl.condX_and] at hX ⊢
    simp only [List.length_append, List.length_cons, List.length_nil] at hX
    have h1 := (Pl.par_le (Pl.orP (.mk oa aa ⟨alc, alt, aln, als⟩ ⟨arc, art, arn, ars⟩)) (condX (.mk oa aa ⟨alc, alt, aln, als⟩ ⟨arc, art, arn, ars⟩))).1
    have h2 := (Pl.par_le (Pl.andP (.mk ob ba ⟨blc, blt, bln, bls⟩ ⟨brc, brt, brn, brs⟩)) (condX (.mk ob ba ⟨blc, blt, bln, bls⟩ ⟨brc, brt, brn, brs⟩))).1
    exact and_any oa ob _ _ _ _ _ _ _ _ _ _ _ _ _ _ _ _ _ _ _ _ _ _ _ _ _ _ _ _ _ _ bk off c _ _ (Pl.orP (.mk oa aa ⟨alc, alt, aln, als⟩ ⟨arc, art, arn, ars⟩)) (Pl.andP (.mk ob ba ⟨blc, blt, bln, bls⟩ ⟨brc, brt, brn, brs⟩)) rfl _ rfl _ rfl rfl (by omega) w hbk K1 K2
      (fun W hb' => ha.par _ rfl v1 E (by omega) W hb') (fun W hb' => hb.par _ rfl v2 E (by omega) W hb')
  · intro a l r _ ha cs w hv E hX
    obtain ⟨A, c, rfl, -, -, hL⟩ := hv.open
    obtain ⟨bk, off, cs0, rfl, -, hbk, -⟩ := hL.at (k := 0) rfl
    obtain ⟨oa, aa, ⟨alc, alt, aln, als⟩, ⟨arc, art, arn, ars⟩⟩ := a
    obtain ⟨A1, c1, K1, -, v1⟩ := elem0 hL
    rw [Pl.condX_not] at hX ⊢
    simp only [List.length_append, List.length_cons, List.length_nil] at hX
    have h1 := (Pl.par_le (Pl.andP (.mk oa aa ⟨alc, alt, aln, als⟩ ⟨arc, art, arn, ars⟩)) (condX (.mk oa aa ⟨alc, alt, aln, als⟩ ⟨arc, art, arn, ars⟩))).1
    exact not_any oa _ _ _ _ _ _ _ _ _ _ _ _ _ _ _ _ _ _ _ bk off c _ (Pl.andP (.mk oa aa ⟨alc, alt, aln, als⟩ ⟨arc, art, arn, ars⟩)) _ _ rfl rfl rfl (by omega) w hbk K1
      (fun W hb' => ha.par _ rfl v1 E (by omega) W hb')
  · intro op ⟨lc, lt, ln, ls⟩ ⟨rc, rt, rn, rs⟩ h4 h9 hl hr cs w hv E hX
    obtain ⟨A, c, rfl, -, -, -⟩ := hv.open
    rw [Pl.condX_cmp h4] at hX ⊢
    simp only [List.length_append, List.length_cons, List.length_nil] at hX
    exact comp_any op A 0 c lc lt ln ls rc rt rn rs h4 h9 hl hr (by omega) w E
end Go.Proofs.YtijlifdbjhieaaaGreatDoor
