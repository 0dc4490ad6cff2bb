/-
  Contracts of dsl.Parse and dsl.ParseExpr.
-/
import Derived.Test.YtnjlggleaocbdaaGreatDoorDe7
import Derived.Test.YtnjlggleaocbdaaGreatDoorDp6
namespace Go.Proofs.YtnjlggleaocbdaaGreatDoor
set_option linter.all false
open Go.RowKit Go.Shelf
attribute [local go_sem] cell_set_self lt_1 lt_2 lt_3 lt_4 lt_5 lt_6 fld_k fld_s fld_n fld_p

theorem own_base {W : World} {bs bs' size n : Nat} {e : TypeId} {V : Value} {xs : List Value} (h : W.ownsRow bs e size V n xs) (hb : bs' ≤ bs) : W.ownsRow bs' e size V n xs := by
  rcases h.2 with h2 | ⟨g, cap, cur, hv, h3, hh, hr⟩
  · exact ⟨h.1, .inl h2⟩
  · exact ⟨h.1, .inr ⟨g, cap, cur, hv, Nat.le_trans hb h3, hh, hr⟩⟩
theorem ThR.base {bs bs' : Nat} {W : World} {T : TheoryT} {VD VR : Value} (h : ThR bs W T VD VR) (hb : bs' ≤ bs) : ThR bs' W T VD VR := by
  obtain ⟨hd, ⟨css, h1, h2, h3⟩, hn⟩ := h
  exact ⟨own_base hd hb, ⟨css, h1, own_base h2 hb, fun i x cs hi hj => (h3 i x cs hi hj).mono fun b _ hp => ⟨Nat.le_trans hb hp.1, hp.2⟩⟩, hn⟩
theorem Gt.of_gr {B rb : Nat} (tb : Nat) {a w : World} (h : Gr B rb a w) : Gt B rb tb a w := ⟨h.os, h.tape, h.output, h.size, fun k hk h1 _ => h.block k hk h1⟩
theorem Gt.set {B rb tb : Nat} {a w : World} (h : Gt B rb tb a w) (o : Nat) (v : Value) : Gt B rb tb a (w.setCell ⟨tb, o, none⟩ v) :=
  ⟨h.os, h.tape, h.output, by simpa using h.size, fun k hk h1 h2 => (setCell_block _ _ _ _ h2).trans (h.block k hk h1 h2)⟩
def faultX {α : Type} : PR α → Option (Nat × Int)
  | .no p e => some (p, e)
  | .ok _ _ => none
def KT (w tb : Nat) (x : PR TheoryT) (W : World) : Prop := match x with
  | .no _ _ => True
  | .ok T _ => ∃ AD cD AR cR, W.heap[tb]? = some (.cells #[.slice AD T.decls.length cD, .slice AR T.rules.length cR] 43 (0, 0)) ∧ ThR (w + 1) W T (.slice AD T.decls.length cD) (.slice AR T.rules.length cR)
set_option maxHeartbeats 8000000 in
set_option maxRecDepth 100000 in
theorem parse1_any (rb gt tb n f : Nat) (ts : List Tok) (W : World) (hn : n ≤ W.heap.size) (htb : tb < n) (hrn : n < rb) (hgn : n < gt) (hz : W.heap[tb]? = some (.cells #[.slice none 0 0, .slice none 0 0] 43)) (hf : 6 * ts.length + 6 ≤ f) (hd : f ≤ 1000000000) (R : RdR W rb gt ts) (hE : EndsT ts) (hS : ShortT ts) :
    Calls Tryz.prog 33 #[.pointer (some ⟨rb, 0, none⟩), .pointer (some ⟨tb, 0, none⟩)] W (DoOut rb tb W (faultX (itemsF f 101 0 theory0 ts)) (KT n tb (itemsF f 101 0 theory0 ts))) := by
  suffices key : ∀ Q : Ending → World → Prop, Hid (∀ e w', DoOut rb tb W (faultX (itemsF f 101 0 theory0 ts)) (KT n tb (itemsF f 101 0 theory0 ts)) e w' → Q e w') → Calls Tryz.prog 33 #[.pointer (some ⟨rb, 0, none⟩), .pointer (some ⟨tb, 0, none⟩)] W Q from key _ (Lib.hid fun _ _ h => h)
  intro Q HQQ
  have TH := Lib.hid (theory_any rb gt f ts W hf hd R hE hS)
  obtain ⟨hrb, hgt, hgr⟩ := R.lens
  clear R hE hS hf
  generalize itemsF f 101 0 theory0 ts = X at *
  go_enter Tryz.func33, Tryz.ntmps33
  go_wp2_with (fail)
  go_at_call 34
  refine TH.out.mono ?_
  rintro e w5 hP
  cases X with
  | no p er =>
    obtain ⟨rfl, hg5⟩ := hP
    go_wp2
    exact ⟨rfl, HQQ.out _ _ ⟨Gt.of_gr tb hg5, rfl⟩⟩
  | ok T r =>
    obtain ⟨⟨V, rfl, VD, VR, rfl, hT⟩, -, hg5⟩ := hP
    obtain ⟨AD, cD, AR, cR, rfl, rfl⟩ := hT.forms
    have hz5 := (hg5.block tb (by omega) (by omega)).trans hz
    obtain ⟨⟨k0, k1⟩, kf⟩ := two_cells hz5
    have HS5 := Lib.hid (two_set hz5 (.slice AD T.decls.length cD) (.slice AR T.rules.length cR))
    have HT5 := Lib.hid (hT.base (bs' := n + 1) (by omega))
    have HG5 := Lib.hid hg5
    clear hT hz5 hg5 TH
    go_wp2
    refine bodyPost_end (results_none rfl _ _ _) rfl ?_
    exact HQQ.out _ _ ⟨((Gt.of_gr tb HG5.out).set _ _).set _ _, ⟨_, rfl⟩, AD, cD, AR, cR, HS5.out, HT5.out.keep (Kp.set (Kp.set (Kp.refl _ _) (by dsimp only; omega) _) (by dsimp only; omega) _)⟩
/-- What Parse hands back. -/
def ParseP (w : World) : PR TheoryT → Ending → World → Prop
  | .no p er, e, _ => e = .returned (.tuple #[.agg #[.slice none 0 0, .slice none 0 0], .int .i64 (p : Int), .int .i64 er])
  | .ok T _, e, w' => ∃ AD cD AR cR, e = .returned (.tuple #[.agg #[.slice AD T.decls.length cD, .slice AR T.rules.length cR], .int .i64 0, .int .i64 0]) ∧ ThR w.heap.size w' T (.slice AD T.decls.length cD) (.slice AR T.rules.length cR)
theorem parse_res {W : World} {b2 : Nat} {v0 v1 : Value} {x y : Int} {tmps : Array Value} (h2 : W.heap[b2]? = some (.cells #[v0, v1] 43 (0, 0))) (t2 : tmps[2]? = some (.pointer (some ⟨b2, 0, none⟩))) (t3 : tmps[3]? = some (.int .i64 x)) (t4 : tmps[4]? = some (.int .i64 y)) :
    (results Tryz.f15 tmps).run Tryz.prog W = .ok (.tuple #[.agg #[v0, v1], .int .i64 x, .int .i64 y]) W := by
  obtain ⟨⟨c0, c1⟩, -⟩ := two_cells h2
  clear h2
  simp [results, Tryz.f15, go_sem, t2, t3, t4, *]
theorem fuel_len {L : List UInt8} (h : ¬ 65536 < L.length) : 6 * (lexL L).length + 6 ≤ fuelL L ∧ fuelL L ≤ 1000000000 := by
  have := (lexL_facts (L := L) (by omega)).2.2
  unfold fuelL; omega
set_option maxHeartbeats 8000000 in
set_option maxRecDepth 100000 in
theorem parse_any (L : List UInt8) (hL : L.length ≤ 1000000000) (w : World) (E : Env w) :
    Calls Tryz.prog 15 #[.string ⟨L.toArray⟩] w fun e w' => ParseP w (parseF L) e w' ∧ Below w.heap.size w w' := by
  suffices key : ∀ Q : Ending → World → Prop, Hid (∀ e w', (ParseP w (parseF L) e w' ∧ Below w.heap.size w w') → Q e w') → Calls Tryz.prog 15 #[.string ⟨L.toArray⟩] w Q from key _ (Lib.hid fun _ _ h => h)
  intro Q HQQ
  have hmf : ∀ (fn : Fn) (first cap : Array Value) (w : World), (Instr.makeFunc fn first cap).run Tryz.prog w = .ok (.func fn first cap) w := fun _ _ _ _ => rfl
  have HZ : Hid (((w.alloc (.cells #[.slice none 0 0, .slice none 0 0] 43)).alloc (.cells #[.slice none 0 0, .slice none 0 0] 43)).heap[w.heap.size]? = some (.cells #[.slice none 0 0, .slice none 0 0] 43)) := Lib.hid ((((Below.refl _ _).alloc (Nat.le_refl _) _).block _ (by simp)).trans (heap_alloc_new w _))
  have HTB : Hid (((w.alloc (.cells #[.slice none 0 0, .slice none 0 0] 43)).alloc (.cells #[.slice none 0 0, .slice none 0 0] 43)).heap[w.heap.size + 1]? = some (.cells #[.slice none 0 0, .slice none 0 0] 43)) := Lib.hid (heap_alloc_at (by simp))
  have hs2 : ((w.alloc (.cells #[.slice none 0 0, .slice none 0 0] 43)).alloc (.cells #[.slice none 0 0, .slice none 0 0] 43)).heap.size = w.heap.size + 1 + 1 := by simp
  have HB2 : Hid (Below w.heap.size w ((w.alloc (.cells #[.slice none 0 0, .slice none 0 0] 43)).alloc (.cells #[.slice none 0 0, .slice none 0 0] 43))) := Lib.hid (((Below.refl _ _).alloc (Nat.le_refl _) _).alloc (by simp) _)
  have HE2 := Lib.hid (E.below HB2.out)
  have al := fun (X : World) (o : Obj) (k : Nat) (h : k < X.heap.size) => show (X.alloc o).drew.heap[k]? = X.heap[k]? from ((Below.refl _ X).alloc (Nat.le_refl _) o).block k h
  clear E
  by_cases hb : 65536 < L.length
  · have HX : Hid (parseF L = .no 0 8) := Lib.hid (by unfold parseF; rw [if_pos hb])
    have RL := Lib.hid (fun W => reads_long 33 (w.heap.size + 1) L hb hL W)
    clear hb
    go_enter Tryz.func15, Tryz.ntmps15
    go_wp2_with (fail)
    go_at_call 28
    refine (RL.out _).mono ?_
    rintro e w5 ⟨rfl, hb5⟩
    have hs5 := hb5.size
    generalize (w.alloc (.cells #[.slice none 0 0, .slice none 0 0] 43)).alloc (.cells #[.slice none 0 0, .slice none 0 0] 43) = V2 at *
    have hz5 := (hb5.block _ (by omega)).trans HZ.out
    obtain ⟨⟨z0, z1⟩, zf⟩ := two_cells hz5
    have HS := Lib.hid (two_set hz5 (.slice none 0 0) (.slice none 0 0))
    have HB5 := Lib.hid (HB2.out.trans (hb5.mono (by omega)))
    have hlt : w.heap.size < w5.heap.size := by omega
    clear hz5 hb5
    go_wp2
    go_big_region
    go_wp2
    refine bodyPost_ret (parse_res (b2 := w.heap.size) (v0 := .slice none 0 0) (v1 := .slice none 0 0) (x := 0) (y := 8) ?_ rfl rfl rfl) rfl (HQQ.out _ _ ⟨by rw [HX.out]; exact rfl, ?_⟩)
    · exact (al _ _ _ (by simp; omega)).trans HS.out
    · have hb5 := HB5.out
      exact (by repeat (first | (with_reducible exact Below.refl _ _) | (with_reducible assumption) | (with_reducible refine Below.setCell ?_ (by first | (simp; done) | (simp; omega) | omega) _) | (with_reducible refine Below.alloc ?_ (by first | (simp; done) | (simp; omega) | omega) _) | (with_reducible refine Below.drew ?_) | (with_reducible refine Below.trans ?_ (Below.mono (by assumption) (by first | (simp; done) | (simp; omega) | omega)))))
  · have HX : Hid (parseF L = itemsF (fuelL L) 101 0 theory0 (lexL L)) := Lib.hid (by unfold parseF; rw [if_neg hb])
    have HER := Lib.hid (fun p er (h : parseF L = .no p er) => Pl.parse_err h)
    obtain ⟨hf, hd⟩ := fuel_len hb
    have RA := Lib.hid (reads_any 33 (w.heap.size + 1) (enters_of Tryz.func33 (by kernel_rfl) rfl) L hb ((w.alloc (.cells #[.slice none 0 0, .slice none 0 0] 43)).alloc (.cells #[.slice none 0 0, .slice none 0 0] 43)) HE2.out (by omega) (faultX (itemsF (fuelL L) 101 0 theory0 (lexL L))) (KT ((w.alloc (.cells #[.slice none 0 0, .slice none 0 0] 43)).alloc (.cells #[.slice none 0 0, .slice none 0 0] 43)).heap.size (w.heap.size + 1) (itemsF (fuelL L) 101 0 theory0 (lexL L)))
      (fun W W' hk kp => by
        cases hx : itemsF (fuelL L) 101 0 theory0 (lexL L) with
        | no p er => trivial
        | ok T r =>
          rw [hx] at hk
          obtain ⟨AD, cD, AR, cR, h1, h2⟩ := hk
          exact ⟨AD, cD, AR, cR, (kp.block _ (by omega) (Array.getElem?_eq_some_iff.1 h1).1).trans h1, h2.keep ⟨kp.size, fun k hp hlt => kp.block k (by omega) hlt⟩⟩)
      (fun rb gt W h1 h2 h3 R hE hS => parse1_any rb gt (w.heap.size + 1) _ (fuelL L) (lexL L) W (by have := R.lens; omega) (by omega) h1 h2 (h3.trans HTB.out) hf hd R hE hS))
    rw [HX.out] at HQQ HER
    clear hb hf hd HX
    generalize itemsF (fuelL L) 101 0 theory0 (lexL L) = X at *
    go_enter Tryz.func15, Tryz.ntmps15
    go_wp2_with (fail)
    go_at_call 28
    refine RA.out.mono ?_
    clear RA
    rintro e w5 ⟨rfl, hk5, hg5⟩
    have hs5 := hg5.size
    generalize (w.alloc (.cells #[.slice none 0 0, .slice none 0 0] 43)).alloc (.cells #[.slice none 0 0, .slice none 0 0] 43) = V2 at *
    have hz5 := (hg5.block w.heap.size (by omega) (by omega)).trans HZ.out
    have HG5 : Hid (Below w.heap.size w w5) := Lib.hid (HB2.out.trans ⟨hg5.os, hg5.tape, hg5.output, hg5.size, fun k hk => hg5.block k (by omega) (by omega)⟩)
    obtain ⟨⟨z0, z1⟩, zf⟩ := two_cells hz5
    have hlt : w.heap.size < w5.heap.size ∧ w.heap.size + 1 < w5.heap.size := by omega
    cases X with
    | no p er =>
      have her : ¬ er = 0 := HER.out p er rfl
      have her2 : (er == 0) = false := by simp [her]
      have HS := Lib.hid (two_set hz5 (.slice none 0 0) (.slice none 0 0))
      dsimp only [faultX, faultV]
      clear hz5 hk5 hg5
      go_wp2
      go_big_region
      go_wp2
      refine bodyPost_ret (parse_res (b2 := w.heap.size) (v0 := .slice none 0 0) (v1 := .slice none 0 0) (x := (p : Int)) (y := er) ?_ rfl rfl rfl) rfl (HQQ.out _ _ ⟨rfl, ?_⟩)
      · exact (al _ _ _ (by simp; omega)).trans HS.out
      · have hb5 := HG5.out
        exact (by repeat (first | (with_reducible exact Below.refl _ _) | (with_reducible assumption) | (with_reducible refine Below.setCell ?_ (by first | (simp; done) | (simp; omega) | omega) _) | (with_reducible refine Below.alloc ?_ (by first | (simp; done) | (simp; omega) | omega) _) | (with_reducible refine Below.drew ?_) | (with_reducible refine Below.trans ?_ (Below.mono (by assumption) (by first | (simp; done) | (simp; omega) | omega)))))
    | ok T r =>
      obtain ⟨AD, cD, AR, cR, h1, h2⟩ := hk5 rfl
      have HS := Lib.hid (two_set hz5 (.slice AD T.decls.length cD) (.slice AR T.rules.length cR))
      have HT := Lib.hid (h2.base (bs' := w.heap.size + 1) (by omega))
      obtain ⟨⟨k0, k1⟩, kf⟩ := two_cells h1
      dsimp only [faultX, faultV]
      clear hz5 hk5 hg5 h1 h2
      go_wp2
      refine bodyPost_end (parse_res (b2 := w.heap.size) (v0 := .slice AD T.decls.length cD) (v1 := .slice AR T.rules.length cR) (x := 0) (y := 0) ?_ rfl rfl rfl) rfl (HQQ.out _ _ ⟨⟨AD, cD, AR, cR, rfl, ?_⟩, ?_⟩)
      · exact (((Below.refl _ _).alloc (Nat.le_refl _) _).block _ (by simp; omega)).trans HS.out
      · have ht := HT.out
        exact (ht.keep (by repeat (first | (with_reducible exact Kp.refl _ _) | (with_reducible assumption) | ((with_reducible refine Kp.set ?_ ?hq1 _); (case hq1 => (first | (simp; done) | (simp; omega) | (dsimp only; omega)))) | (with_reducible refine Kp.alloc ?_ _) | (with_reducible refine Kp.drew ?_) | refine Kp.trans ?_ (Kp.gr (by assumption) (by first | (simp; done) | (simp; omega) | (dsimp only; omega)))))).base (by omega)
      · have hb5 := HG5.out
        exact (by repeat (first | (with_reducible exact Below.refl _ _) | (with_reducible assumption) | (with_reducible refine Below.setCell ?_ (by first | (simp; done) | (simp; omega) | omega) _) | (with_reducible refine Below.alloc ?_ (by first | (simp; done) | (simp; omega) | omega) _) | (with_reducible refine Below.drew ?_) | (with_reducible refine Below.trans ?_ (Below.mono (by assumption) (by first | (simp; done) | (simp; omega) | omega)))))
end Go.Proofs.YtnjlggleaocbdaaGreatDoor
