/-
  Contract of dsl.ParseExpr.
-/
import Derived.Test.YtnjlggleaocbdaaGreatDoorDe8
namespace Go.Proofs.YtnjlggleaocbdaaGreatDoor
set_option linter.all false
open Go.RowKit Go.Shelf
attribute [local go_sem] cell_set_self lt_1 lt_2 lt_3 lt_4 lt_5 lt_6 fld_k fld_s fld_n fld_p

/-- An expression and then the end. -/
def wholeE (f : Nat) (ts : List Tok) : PR ExprT := (exprD f ts).bind fun e r => (overF r).bind fun _ r => .ok e r
def KE (w tb : Nat) (x : PR ExprT) (W : World) : Prop := match x with
  | .no _ _ => True
  | .ok T _ => ∃ A c, W.heap[tb]? = some (.cells (exprC T.op T.n T.s A T.args.length c).toArray 24 (0, 0)) ∧ EV (fun b => w < b) W T (exprC T.op T.n T.s A T.args.length c)
set_option maxHeartbeats 8000000 in
set_option maxRecDepth 100000 in
theorem parseE1_any (rb gt tb n f : Nat) (ts : List Tok) (W : World) (hn : n ≤ W.heap.size) (htb : tb < n) (hrn : n < rb) (hgn : n < gt) (hz : W.heap[tb]? = some (.cells #[.int .i64 0, .int .i64 0, .string ⟨#[]⟩, .slice none 0 0] 24)) (hf : 6 * ts.length + 6 ≤ f) (hd : f ≤ 1000000000) (R : RdR W rb gt ts) (hE : EndsT ts) (hS : ShortT ts) :
    Calls Tryz.prog 29 #[.pointer (some ⟨rb, 0, none⟩), .pointer (some ⟨tb, 0, none⟩)] W (DoOut rb tb W (faultX (wholeE f ts)) (KE n tb (wholeE f ts))) := by
  suffices key : ∀ Q : Ending → World → Prop, Hid (∀ e w', DoOut rb tb W (faultX (wholeE f ts)) (KE n tb (wholeE f ts)) e w' → Q e w') → Calls Tryz.prog 29 #[.pointer (some ⟨rb, 0, none⟩), .pointer (some ⟨tb, 0, none⟩)] W Q from key _ (Lib.hid fun _ _ h => h)
  intro Q HQQ
  have TH := Lib.hid (expr_any rb gt f ts W hf hd R hE hS (fun c r' h' => by have := expr_dep f 0 _ _ _ h'; omega))
  obtain ⟨hrb, hgt, hgr⟩ := R.lens
  have FA := Lib.hid (fun t r W R' => fail_any rb gt t r 11 W R')
  have HH := Lib.hid (fun t r W R' => here_any rb gt t r W R')
  dsimp only [tokV] at HH
  obtain ⟨X, hX⟩ : ∃ X, wholeE f ts = X := ⟨_, rfl⟩
  rw [hX] at HQQ
  unfold wholeE at hX
  have hTk := exprD_takes f ts
  cases hp : exprD f ts with
  | no p er =>
    rw [hp] at TH hX
    have HN : Hid (X = PR.no p er) := Lib.hid hX.symm
    clear hX hp hTk R hE hS hf
    go_enter Tryz.func29, Tryz.ntmps29
    go_wp2_with (fail)
    go_at_call 30
    refine TH.out.mono ?_
    rintro e w5 ⟨rfl, hg5⟩
    go_wp2
    exact ⟨rfl, HQQ.out _ _ (by rw [HN.out]; exact ⟨Gt.of_gr tb hg5, rfl⟩)⟩
  | ok T r =>
    have hE5 := (hTk _ _ hp).2.1 hE
    obtain ⟨t, r2, rfl⟩ := head_cons hE5.ne
    have HHt := Lib.hid (fun W R' => HH.out t r2 W R')
    have FAt := Lib.hid (fun W R' => FA.out t r2 W R')
    rw [hp] at TH hX
    dsimp only [PR.bind, overF] at hX
    clear hp hTk R hE hS hf hE5
    go_enter Tryz.func29, Tryz.ntmps29
    go_wp2_with (fail)
    go_at_call 30
    refine TH.out.mono ?_
    rintro e w5 hP
    obtain ⟨A4, cc, rfl, hv5, hR5, hg5⟩ := pout_ok hP
    have hz5 := (hg5.block tb (by omega) (by omega)).trans hz
    obtain ⟨op, nn, ss, args⟩ := T
    dsimp only [exprC, ExprT.op, ExprT.n, ExprT.s, ExprT.args, List.cons_append, List.nil_append] at hv5 ⊢
    obtain ⟨⟨k0, k1, k2, k3⟩, kf⟩ := four_cells hz5
    have HS5 := Lib.hid (four_set hz5 (.int .i64 op) (.int .i64 nn) (.string ⟨ss.toArray⟩) (.slice A4 args.length cc))
    have HV5 := Lib.hid (hv5.out.mono (P' := fun b => n < b) (fun b h1 h2 => by omega))
    have hs5 := hg5.size
    have HR5 : Hid (RdR ((((w5.setCell ⟨tb, 0, none⟩ (.int .i64 op)).setCell ⟨tb, 1, none⟩ (.int .i64 nn)).setCell ⟨tb, 2, none⟩ (.string ⟨ss.toArray⟩)).setCell ⟨tb, 3, none⟩ (.slice A4 args.length cc)) rb gt (t :: r2)) := Lib.hid (by have hr := hR5.out; exact (by repeat (first | (with_reducible exact hr) | ((with_reducible refine RdR.setCell ?_ ?hq1 ?hq2 _); (case hq1 => (first | (simp; done) | (simp; omega) | omega)); (case hq2 => (first | (simp; done) | (simp; omega) | omega))) | (with_reducible refine RdR.alloc ?_ _) | (with_reducible refine RdR.drew ?_) | refine RdR.below ?_ (by assumption))))
    have HG5 : Hid (Gt W.heap.size rb tb W ((((w5.setCell ⟨tb, 0, none⟩ (.int .i64 op)).setCell ⟨tb, 1, none⟩ (.int .i64 nn)).setCell ⟨tb, 2, none⟩ (.string ⟨ss.toArray⟩)).setCell ⟨tb, 3, none⟩ (.slice A4 args.length cc))) := Lib.hid (((((Gt.of_gr tb hg5).set _ _).set _ _).set _ _).set _ _)
    have HVS : Hid (EV (fun b => n < b) ((((w5.setCell ⟨tb, 0, none⟩ (.int .i64 op)).setCell ⟨tb, 1, none⟩ (.int .i64 nn)).setCell ⟨tb, 2, none⟩ (.string ⟨ss.toArray⟩)).setCell ⟨tb, 3, none⟩ (.slice A4 args.length cc)) (.mk op nn ss args) [.int .i64 op, .int .i64 nn, .string ⟨ss.toArray⟩, .slice A4 args.length cc]) := Lib.hid (HV5.out.keep (by repeat (first | (with_reducible exact Kp.refl _ _) | (with_reducible assumption) | ((with_reducible refine Kp.set ?_ ?hq1 _); (case hq1 => (first | (simp; done) | (simp; omega) | (dsimp only; omega)))) | (with_reducible refine Kp.alloc ?_ _) | (with_reducible refine Kp.drew ?_) | refine Kp.trans ?_ (Kp.gr (by assumption) (by first | (simp; done) | (simp; omega) | (dsimp only; omega))))))
    have hsS : ((((w5.setCell ⟨tb, 0, none⟩ (.int .i64 op)).setCell ⟨tb, 1, none⟩ (.int .i64 nn)).setCell ⟨tb, 2, none⟩ (.string ⟨ss.toArray⟩)).setCell ⟨tb, 3, none⟩ (.slice A4 args.length cc)).heap.size = w5.heap.size := by simp
    have htb5 : tb < w5.heap.size := by omega
    clear hz5 hg5 hv5 hP TH HV5
    by_cases h101 : t.k = 101
    · rw [if_pos h101] at hX
      have HN := Lib.hid hX
      have ek : (t.k == 101) = true := by simp [h101]
      have ek2 : (t.k != 101) = false := by simp [h101]
      clear hX h101
      go_wp2_with (fail)
      go_at_call 31
      refine (HHt.out _ HR5.out).mono ?_
      rintro e w6 ⟨rfl, hb6⟩
      generalize ((((w5.setCell ⟨tb, 0, none⟩ (.int .i64 op)).setCell ⟨tb, 1, none⟩ (.int .i64 nn)).setCell ⟨tb, 2, none⟩ (.string ⟨ss.toArray⟩)).setCell ⟨tb, 3, none⟩ (.slice A4 args.length cc)) = V5 at *
      go_wp2_with (fail)
      refine bodyPost_end (results_none rfl _ _ _) rfl ?_
      refine HQQ.out _ _ (by rw [← HN.out]; exact ⟨⟨hb6.os.trans HG5.out.os, hb6.tape.trans HG5.out.tape, hb6.output.trans HG5.out.output, Nat.le_trans HG5.out.size hb6.size, fun k hk h1 h2 => (hb6.block k (by omega)).trans (HG5.out.block k hk h1 h2)⟩, ⟨_, rfl⟩, A4, cc, (hb6.block tb (by omega)).trans HS5.out, HVS.out.keep (Kp.below hb6)⟩)
    · rw [if_neg h101] at hX
      have HN := Lib.hid hX
      have ek : (t.k == 101) = false := by simp [h101]
      have ek2 : (t.k != 101) = true := by simp [h101]
      clear hX h101
      go_wp2_with (fail)
      go_at_call 31
      refine (HHt.out _ HR5.out).mono ?_
      rintro e w6 ⟨rfl, hb6⟩
      generalize ((((w5.setCell ⟨tb, 0, none⟩ (.int .i64 op)).setCell ⟨tb, 1, none⟩ (.int .i64 nn)).setCell ⟨tb, 2, none⟩ (.string ⟨ss.toArray⟩)).setCell ⟨tb, 3, none⟩ (.slice A4 args.length cc)) = V5 at *
      go_wp2_with (fail)
      go_at_call 32
      refine (FAt.out _ (HR5.out.below hb6)).mono ?_
      rintro e w7 ⟨rfl, hb7⟩
      go_wp2
      refine ⟨rfl, HQQ.out _ _ (by rw [← HN.out]; exact ⟨⟨hb7.os.trans (hb6.os.trans HG5.out.os), hb7.tape.trans (hb6.tape.trans HG5.out.tape), hb7.output.trans (hb6.output.trans HG5.out.output), Nat.le_trans HG5.out.size (Nat.le_trans hb6.size hb7.size), fun k hk h1 h2 => (hb7.block k (by have := hb6.size; omega)).trans ((hb6.block k (by omega)).trans (HG5.out.block k hk h1 h2))⟩, rfl⟩)⟩
/-- What ParseExpr hands back. -/
def ParseEP (w : World) : PR ExprT → Ending → World → Prop
  | .no _ er, e, _ => e = .returned (.tuple #[.agg zeroE, .int .i64 er])
  | .ok T _, e, w' => ∃ A c, e = .returned (.tuple #[.agg (exprC T.op T.n T.s A T.args.length c).toArray, .int .i64 0]) ∧ EV (fun b => w.heap.size ≤ b) w' T (exprC T.op T.n T.s A T.args.length c)
theorem parseE_res {W : World} {b2 : Nat} {v0 v1 v2 v3 : Value} {y : Int} {tmps : Array Value} (h2 : W.heap[b2]? = some (.cells #[v0, v1, v2, v3] 24 (0, 0))) (t2 : tmps[2]? = some (.pointer (some ⟨b2, 0, none⟩))) (t3 : tmps[3]? = some (.int .i64 y)) :
    (results Tryz.f11 tmps).run Tryz.prog W = .ok (.tuple #[.agg #[v0, v1, v2, v3], .int .i64 y]) W := by
  obtain ⟨⟨c0, c1, c2, c3⟩, -⟩ := four_cells h2
  clear h2
  simp [results, Tryz.f11, go_sem, t2, t3, *]
set_option maxHeartbeats 8000000 in
set_option maxRecDepth 100000 in
theorem parseE_any (L : List UInt8) (hL : L.length ≤ 1000000000) (w : World) (E : Env w) :
    Calls Tryz.prog 11 #[.string ⟨L.toArray⟩] w fun e w' => ParseEP w (parseE L) e w' ∧ Below w.heap.size w w' := by
  suffices key : ∀ Q : Ending → World → Prop, Hid (∀ e w', (ParseEP w (parseE L) e w' ∧ Below w.heap.size w w') → Q e w') → Calls Tryz.prog 11 #[.string ⟨L.toArray⟩] w Q from key _ (Lib.hid fun _ _ h => h)
  intro Q HQQ
  have hmf : ∀ (fn : Fn) (first cap : Array Value) (w : World), (Instr.makeFunc fn first cap).run Tryz.prog w = .ok (.func fn first cap) w := fun _ _ _ _ => rfl
  have HZ : Hid (((w.alloc (.cells #[.int .i64 0, .int .i64 0, .string ⟨#[]⟩, .slice none 0 0] 24)).alloc (.cells #[.int .i64 0, .int .i64 0, .string ⟨#[]⟩, .slice none 0 0] 24)).heap[w.heap.size]? = some (.cells #[.int .i64 0, .int .i64 0, .string ⟨#[]⟩, .slice none 0 0] 24)) := Lib.hid ((((Below.refl _ _).alloc (Nat.le_refl _) _).block _ (by simp)).trans (heap_alloc_new w _))
  have HTB : Hid (((w.alloc (.cells #[.int .i64 0, .int .i64 0, .string ⟨#[]⟩, .slice none 0 0] 24)).alloc (.cells #[.int .i64 0, .int .i64 0, .string ⟨#[]⟩, .slice none 0 0] 24)).heap[w.heap.size + 1]? = some (.cells #[.int .i64 0, .int .i64 0, .string ⟨#[]⟩, .slice none 0 0] 24)) := Lib.hid (heap_alloc_at (by simp))
  have hs2 : ((w.alloc (.cells #[.int .i64 0, .int .i64 0, .string ⟨#[]⟩, .slice none 0 0] 24)).alloc (.cells #[.int .i64 0, .int .i64 0, .string ⟨#[]⟩, .slice none 0 0] 24)).heap.size = w.heap.size + 1 + 1 := by simp
  have HB2 : Hid (Below w.heap.size w ((w.alloc (.cells #[.int .i64 0, .int .i64 0, .string ⟨#[]⟩, .slice none 0 0] 24)).alloc (.cells #[.int .i64 0, .int .i64 0, .string ⟨#[]⟩, .slice none 0 0] 24))) := Lib.hid (((Below.refl _ _).alloc (Nat.le_refl _) _).alloc (by simp) _)
  have HE2 := Lib.hid (E.below HB2.out)
  have al := fun (X : World) (o : Obj) (k : Nat) (h : k < X.heap.size) => show (X.alloc o).drew.heap[k]? = X.heap[k]? from ((Below.refl _ X).alloc (Nat.le_refl _) o).block k h
  clear E
  by_cases hb : 65536 < L.length
  · have HX : Hid (parseE L = .no 0 8) := Lib.hid (by unfold parseE; rw [if_pos hb])
    have RL := Lib.hid (fun W => reads_long 29 (w.heap.size + 1) L hb hL W)
    clear hb
    go_enter Tryz.func11, Tryz.ntmps11
    go_wp2_with (fail)
    go_at_call 28
    refine (RL.out _).mono ?_
    rintro e w5 ⟨rfl, hb5⟩
    have hs5 := hb5.size
    generalize (w.alloc (.cells #[.int .i64 0, .int .i64 0, .string ⟨#[]⟩, .slice none 0 0] 24)).alloc (.cells #[.int .i64 0, .int .i64 0, .string ⟨#[]⟩, .slice none 0 0] 24) = V2 at *
    have hz5 := (hb5.block _ (by omega)).trans HZ.out
    obtain ⟨⟨z0, z1, z2, z3⟩, zf⟩ := four_cells hz5
    have HS := Lib.hid (four_set hz5 (.int .i64 0) (.int .i64 0) (.string ⟨#[]⟩) (.slice none 0 0))
    have HB5 := Lib.hid (HB2.out.trans (hb5.mono (by omega)))
    have hlt : w.heap.size < w5.heap.size := by omega
    clear hz5 hb5
    go_wp2
    go_big_region
    go_wp2
    refine bodyPost_ret (parseE_res (b2 := w.heap.size) (v0 := .int .i64 0) (v1 := .int .i64 0) (v2 := .string ⟨#[]⟩) (v3 := .slice none 0 0) (y := 8) ?_ rfl rfl) rfl (HQQ.out _ _ ⟨by rw [HX.out]; exact rfl, ?_⟩)
    · exact (al _ _ _ (by simp; omega)).trans HS.out
    · have hb5 := HB5.out
      exact (by repeat (first | (with_reducible exact Below.refl _ _) | (with_reducible assumption) | (with_reducible refine Below.setCell ?_ (by first | (simp; done) | (simp; omega) | omega) _) | (with_reducible refine Below.alloc ?_ (by first | (simp; done) | (simp; omega) | omega) _) | (with_reducible refine Below.drew ?_) | (with_reducible refine Below.trans ?_ (Below.mono (by assumption) (by first | (simp; done) | (simp; omega) | omega)))))
  · have HX : Hid (parseE L = wholeE (fuelL L) (lexL L)) := Lib.hid (by unfold parseE wholeE; rw [if_neg hb])
    have HER := Lib.hid (fun p er (h : parseE L = .no p er) => Pl.parseE_err h)
    obtain ⟨hf, hd⟩ := fuel_len hb
    have RA := Lib.hid (reads_any 29 (w.heap.size + 1) (enters_of Tryz.func29 (by kernel_rfl) rfl) L hb ((w.alloc (.cells #[.int .i64 0, .int .i64 0, .string ⟨#[]⟩, .slice none 0 0] 24)).alloc (.cells #[.int .i64 0, .int .i64 0, .string ⟨#[]⟩, .slice none 0 0] 24)) HE2.out (by omega) (faultX (wholeE (fuelL L) (lexL L))) (KE ((w.alloc (.cells #[.int .i64 0, .int .i64 0, .string ⟨#[]⟩, .slice none 0 0] 24)).alloc (.cells #[.int .i64 0, .int .i64 0, .string ⟨#[]⟩, .slice none 0 0] 24)).heap.size (w.heap.size + 1) (wholeE (fuelL L) (lexL L)))
      (fun W W' hk kp => by
        cases hx : wholeE (fuelL L) (lexL L) with
        | no p er => trivial
        | ok T r =>
          rw [hx] at hk
          obtain ⟨A, c, h1, h2⟩ := hk
          exact ⟨A, c, (kp.block _ (by omega) (Array.getElem?_eq_some_iff.1 h1).1).trans h1, h2.keep ⟨kp.size, fun k hp hlt => kp.block k (by omega) hlt⟩⟩)
      (fun rb gt W h1 h2 h3 R hE hS => parseE1_any rb gt (w.heap.size + 1) _ (fuelL L) (lexL L) W (by have := R.lens; omega) (by omega) h1 h2 (h3.trans HTB.out) hf hd R hE hS))
    rw [HX.out] at HQQ HER
    clear hb hf hd HX
    generalize wholeE (fuelL L) (lexL L) = X at *
    go_enter Tryz.func11, Tryz.ntmps11
    go_wp2_with (fail)
    go_at_call 28
    refine RA.out.mono ?_
    clear RA
    rintro e w5 ⟨rfl, hk5, hg5⟩
    have hs5 := hg5.size
    generalize (w.alloc (.cells #[.int .i64 0, .int .i64 0, .string ⟨#[]⟩, .slice none 0 0] 24)).alloc (.cells #[.int .i64 0, .int .i64 0, .string ⟨#[]⟩, .slice none 0 0] 24) = V2 at *
    have hz5 := (hg5.block w.heap.size (by omega) (by omega)).trans HZ.out
    have HG5 : Hid (Below w.heap.size w w5) := Lib.hid (HB2.out.trans ⟨hg5.os, hg5.tape, hg5.output, hg5.size, fun k hk => hg5.block k (by omega) (by omega)⟩)
    obtain ⟨⟨z0, z1, z2, z3⟩, zf⟩ := four_cells hz5
    have hlt : w.heap.size < w5.heap.size ∧ w.heap.size + 1 < w5.heap.size := by omega
    cases X with
    | no p er =>
      have her : ¬ er = 0 := HER.out p er rfl
      have her2 : (er == 0) = false := by simp [her]
      have HS := Lib.hid (four_set hz5 (.int .i64 0) (.int .i64 0) (.string ⟨#[]⟩) (.slice none 0 0))
      dsimp only [faultX, faultV]
      clear hz5 hk5 hg5
      go_wp2
      go_big_region
      go_wp2
      refine bodyPost_ret (parseE_res (b2 := w.heap.size) (v0 := .int .i64 0) (v1 := .int .i64 0) (v2 := .string ⟨#[]⟩) (v3 := .slice none 0 0) (y := er) ?_ rfl rfl) rfl (HQQ.out _ _ ⟨rfl, ?_⟩)
      · exact (al _ _ _ (by simp; omega)).trans HS.out
      · have hb5 := HG5.out
        exact (by repeat (first | (with_reducible exact Below.refl _ _) | (with_reducible assumption) | (with_reducible refine Below.setCell ?_ (by first | (simp; done) | (simp; omega) | omega) _) | (with_reducible refine Below.alloc ?_ (by first | (simp; done) | (simp; omega) | omega) _) | (with_reducible refine Below.drew ?_) | (with_reducible refine Below.trans ?_ (Below.mono (by assumption) (by first | (simp; done) | (simp; omega) | omega)))))
    | ok T r =>
      obtain ⟨A, c, h1, h2⟩ := hk5 rfl
      obtain ⟨op, nn, ss, args⟩ := T
      dsimp only [exprC, ExprT.op, ExprT.n, ExprT.s, ExprT.args] at h1 h2
      have HS := Lib.hid (four_set hz5 (.int .i64 op) (.int .i64 nn) (.string ⟨ss.toArray⟩) (.slice A args.length c))
      have HT := Lib.hid (h2.mono (P' := fun b => w.heap.size < b) (fun b _ h => by omega))
      obtain ⟨⟨k0, k1, k2, k3⟩, kf⟩ := four_cells h1
      dsimp only [faultX, faultV]
      clear hz5 hk5 hg5 h1 h2
      go_wp2
      refine bodyPost_end (parseE_res (b2 := w.heap.size) (v0 := .int .i64 op) (v1 := .int .i64 nn) (v2 := .string ⟨ss.toArray⟩) (v3 := .slice A args.length c) (y := 0) ?_ rfl rfl) rfl (HQQ.out _ _ ⟨⟨A, c, rfl, ?_⟩, ?_⟩)
      · exact (((Below.refl _ _).alloc (Nat.le_refl _) _).block _ (by simp; omega)).trans HS.out
      · have ht := HT.out
        exact (ht.keep (by repeat (first | (with_reducible exact Kp.refl _ _) | (with_reducible assumption) | ((with_reducible refine Kp.set ?_ ?hq1 _); (case hq1 => (first | (simp; done) | (simp; omega) | (dsimp only; omega)))) | (with_reducible refine Kp.alloc ?_ _) | (with_reducible refine Kp.drew ?_) | refine Kp.trans ?_ (Kp.gr (by assumption) (by first | (simp; done) | (simp; omega) | (dsimp only; omega)))))).mono (fun b _ h => by (try dsimp only at h ⊢); omega)
      · have hb5 := HG5.out
        exact (by repeat (first | (with_reducible exact Below.refl _ _) | (with_reducible assumption) | (with_reducible refine Below.setCell ?_ (by first | (simp; done) | (simp; omega) | omega) _) | (with_reducible refine Below.alloc ?_ (by first | (simp; done) | (simp; omega) | omega) _) | (with_reducible refine Below.drew ?_) | (with_reducible refine Below.trans ?_ (Below.mono (by assumption) (by first | (simp; done) | (simp; omega) | omega)))))
end Go.Proofs.YtnjlggleaocbdaaGreatDoor
