/-
  Contract of dsl.reads: a text read by a function, the reader's fault caught.
-/
import Derived.Test.YtnjlggleaocbdaaGreatDoorDe6
import Derived.Defers
import Derived.Recover
namespace Go.Proofs.YtnjlggleaocbdaaGreatDoor
set_option linter.all false
open Go.RowKit Go.Shelf
attribute [local go_sem] cell_set_self lt_1 lt_2 lt_3 lt_4 lt_5 lt_6 fld_k fld_s fld_n fld_p

theorem two_set {w : World} {b : Nat} {u0 u1 : Value} {t : TypeId} (h : w.heap[b]? = some (.cells #[u0, u1] t (0, 0))) (v0 v1 : Value) :
    ((w.setCell ⟨b, 0, none⟩ v0).setCell ⟨b, 1, none⟩ v1).heap[b]? = some (.cells #[v0, v1] t (0, 0)) := by
  have h9 := set_at (set_at h 0 v0) 1 v1
  simpa using h9
set_option maxHeartbeats 4000000 in
set_option maxRecDepth 100000 in
theorem catch_fault (b4 p : Nat) (er : Int) (w : World) (h4 : w.heap[b4]? = some (.cells #[.int .i64 0, .int .i64 0] 78 (0, 0))) :
    CallsD Tryz.prog 47 #[.pointer (some ⟨b4, 0, none⟩)] (.panicking (fltP p er)) w fun e u' w' => e = .returned (.tuple #[]) ∧ u' = .panicking [{ v := .iface 78 (.agg #[.int .i64 (p : Int), .int .i64 er]), recovered := true }] ∧ w'.heap[b4]? = some (.cells #[.int .i64 (p : Int), .int .i64 er] 78 (0, 0)) ∧ Below b4 w w' := by
  refine callsD_of_wpS Tryz.func47 rfl fun c₀ cs hu => ?_
  have hz2 : w.heap.size ≠ b4 ∧ b4 < w.heap.size := by
    have e4 := (Array.getElem?_eq_some_iff.1 h4).1
    omega
  obtain ⟨⟨c0, c1⟩, cf⟩ := two_cells h4
  have H4 := Lib.hid h4
  clear h4
  unfold fltP at hu
  apply wpS_seq
  apply wpS_region
  simp [wpOpsS, go_sem, recoverD, hu, Tryz.ntmps47, Exit.thenS]
  refine wpS_of_wp ?_
  have TA : ∀ (v : Value) (x : TypeId) (W : World), (Instr.typeAssert (.iface 78 v) x 78 true).run Tryz.prog W = .ok (.tuple #[v, .bool true]) W := fun v x W => by simp [Instr.typeAssert, run_underlying Tryz.underlying78, go_sem, Result.andThen]
  generalize hT : (#[Value.pointer (some ⟨b4, 0, none⟩)] ++ _ : Array Value) = T
  obtain rfl : T = #[.pointer (some ⟨b4, 0, none⟩), undef, undef, undef, .iface 78 (.agg #[.int .i64 (p : Int), .int .i64 er]), undef, undef, undef, undef, undef, undef] := by rw [← hT]; rfl
  clear hT
  go_wp2
  have al := fun (X : World) (o : Obj) (k : Nat) (h : k < X.heap.size) => ((Below.refl _ X).alloc (Nat.le_refl _) o).block k h
  refine ⟨rfl, _, rfl, .tuple #[], by simp [results, Tryz.f47, go_sem], rfl, rfl, ?_, ?_⟩
  · exact (al _ _ _ (by simp; omega)).trans (two_set H4.out _ _)
  · repeat (first | (with_reducible exact Below.refl _ _) | (with_reducible refine Below.drew ?_) | (with_reducible refine Below.alloc ?_ (by simp; omega) _) | (with_reducible refine Below.setCell ?_ (by dsimp only; omega) _))
set_option maxHeartbeats 1000000 in
set_option maxRecDepth 100000 in
theorem catch_idle (b4 : Nat) (w : World) :
    CallsD Tryz.prog 47 #[.pointer (some ⟨b4, 0, none⟩)] .returning w fun e u' w' => e = .returned (.tuple #[]) ∧ u' = .returning ∧ w' = w := by
  refine callsD_of_wpS Tryz.func47 rfl fun c₀ cs hu => ?_
  apply wpS_seq
  apply wpS_region
  simp [wpOpsS, go_sem, recoverD, hu, Tryz.ntmps47, Exit.thenS]
  refine wpS_of_wp ?_
  generalize hT : (#[Value.pointer (some ⟨b4, 0, none⟩)] ++ _ : Array Value) = T
  obtain rfl : T = #[.pointer (some ⟨b4, 0, none⟩), undef, undef, undef, .nilIface, undef, undef, undef, undef, undef, undef] := by rw [← hT]; rfl
  clear hT
  go_wp2
  exact ⟨rfl, .returning, by rw [← hu], .tuple #[], by simp [results, Tryz.f47, go_sem], rfl, rfl, rfl⟩
theorem cellsT_at : ∀ {l : List Tok} {i : Nat} {t : Tok}, l[i]? = some t → (cellsT l)[i * 4]? = some (.int .u8 t.k) ∧ (cellsT l)[i * 4 + 1]? = some (.string ⟨t.s.toArray⟩) ∧ (cellsT l)[i * 4 + 2]? = some (.int .i64 t.n) ∧ (cellsT l)[i * 4 + 3]? = some (.int .i64 (t.p : Int))
  | a :: l, 0, t, h => by
    simp at h; subst h
    exact ⟨rfl, rfl, rfl, rfl⟩
  | a :: l, i + 1, t, h => by
    have := cellsT_at (l := l) (i := i) (t := t) (by simpa using h)
    rw [show (i + 1) * 4 = i * 4 + 4 by omega]
    exact this
theorem rdR_mk {W : World} {base : Nat} {ts : List Tok} {V : Value} (ho : W.ownsRow base 83 4 V ts.length (cellsT ts)) (hne : ts ≠ []) (hl : ts.length ≤ 1000000) :
    ∃ g cap, V = .slice (some ⟨g, 0, none⟩) ts.length cap ∧ g < W.heap.size ∧ RdR (W.alloc (.cells #[.slice (some ⟨g, 0, none⟩) ts.length cap, .int .i64 0] 114)) W.heap.size g ts := by
  have hp : 0 < ts.length := List.length_pos_iff.2 hne
  rcases ho.2 with ⟨-, h0⟩ | ⟨g, cap, cur, rfl, hg, hh, hc, hm, hz, ht⟩
  · omega
  · have hlt := (Array.getElem?_eq_some_iff.1 hh).1
    refine ⟨g, cap, rfl, hlt, ts.length, cap, ts, 0, ⟨?_, ?_, ?_, rfl, Nat.zero_le _, hc, by omega, by omega, fun i t hi => ?_⟩, rfl, by simp; omega, by simp, by omega⟩
    · simp [go_sem]
    · simp [go_sem]
    · simp [go_sem]
    · have hb : (W.alloc (.cells #[.slice (some ⟨g, 0, none⟩) ts.length cap, .int .i64 0] 114)).heap[g]? = some (.cells cur 83 (0, 0)) := (((Below.refl _ _).alloc (Nat.le_refl _) _).block _ hlt).trans hh
      have hi' := (List.getElem?_eq_some_iff.1 hi).1
      have hcell : ∀ o v, o < ts.length * 4 → (cellsT ts)[o]? = some v → (W.alloc (.cells #[.slice (some ⟨g, 0, none⟩) ts.length cap, .int .i64 0] 114)).cell? ⟨g, o, none⟩ = some v := fun o v ho' hv => by
        rw [← ht, List.getElem?_take, if_pos ho'] at hv
        simp only [World.cell?, hb]
        simpa using hv
      obtain ⟨k1, k2, k3, k4⟩ := cellsT_at hi
      exact ⟨hcell _ _ (by omega) k1, hcell _ _ (by omega) k2, hcell _ _ (by omega) k3, hcell _ _ (by omega) k4⟩
theorem reads_res {W : World} {b4 : Nat} {x y : Int} {tmps : Array Value} (h4 : W.heap[b4]? = some (.cells #[.int .i64 x, .int .i64 y] 78 (0, 0))) (t4 : tmps[4]? = some (.pointer (some ⟨b4, 0, none⟩))) :
    (results Tryz.f28 tmps).run Tryz.prog W = .ok (.agg #[.int .i64 x, .int .i64 y]) W := by
  obtain ⟨⟨c0, c1⟩, -⟩ := two_cells h4
  clear h4
  simp [results, Tryz.f28, go_sem, t4, *]
/-- What stays, but for two boxes. -/
structure Gt (B rb tb : Nat) (a w : World) : Prop where
  os : w.os = a.os
  tape : w.tape = a.tape
  output : w.output = a.output
  size : a.heap.size ≤ w.heap.size
  block : ∀ k, k < B → k ≠ rb → k ≠ tb → w.heap[k]? = a.heap[k]?
/-- How the function ends that reads: given up, or with K. -/
def DoOut (rb tb : Nat) (W : World) (X : Option (Nat × Int)) (K : World → Prop) (e : Ending) (w' : World) : Prop := Gt W.heap.size rb tb W w' ∧ match X with
  | some (p, er) => e = .panicked (fltP p er)
  | none => (∃ v, e = .returned v) ∧ K w'
def faultV (X : Option (Nat × Int)) : Value := match X with
  | some (p, er) => .agg #[.int .i64 (p : Int), .int .i64 er]
  | none => .agg #[.int .i64 0, .int .i64 0]
set_option maxHeartbeats 8000000 in
set_option maxRecDepth 100000 in
theorem reads_long (pf tb : Nat) (L : List UInt8) (hL : 65536 < L.length) (hL2 : L.length ≤ 1000000000) (w : World) :
    Calls Tryz.prog 28 #[.string ⟨L.toArray⟩, .func (.func pf) #[] #[.pointer (some ⟨tb, 0, none⟩)]] w fun e w' => e = .returned (.agg #[.int .i64 0, .int .i64 8]) ∧ Below w.heap.size w w' := by
  suffices key : ∀ Q : Ending → World → Prop, Hid (∀ e w', (e = .returned (.agg #[.int .i64 0, .int .i64 8]) ∧ Below w.heap.size w w') → Q e w') → Calls Tryz.prog 28 #[.string ⟨L.toArray⟩, .func (.func pf) #[] #[.pointer (some ⟨tb, 0, none⟩)]] w Q from key _ (Lib.hid fun _ _ h => h)
  intro Q HQQ
  have hb' : 65536 < (L.length : Int) := by omega
  have HLl : (L.toArray.size : Int) = (L.length : Int) := by simp
  go_enter_defers Tryz.func28, Tryz.ntmps28
  go_wp2
  refine ⟨_, reads_res (b4 := w.heap.size) (x := 0) (y := 8) ?_ rfl, HQQ.out _ _ ⟨rfl, ?_⟩⟩
  · exact heap_alloc_at rfl
  · repeat (first | (with_reducible exact Below.refl _ _) | (with_reducible refine Below.alloc ?_ (by first | (simp; done) | (simp; omega)) _) | (with_reducible refine Below.setCell ?_ (by first | (dsimp only; omega) | (simp; done)) _))
set_option maxHeartbeats 8000000 in
set_option maxRecDepth 100000 in
theorem reads_any (pf tb : Nat) (eg : ∀ args W, (callFunc pf args).run Tryz.prog W = .ok (.enter pf args) W) (L : List UInt8) (hL : ¬ 65536 < L.length) (w : World) (E : Env w) (htb : tb < w.heap.size) (X : Option (Nat × Int)) (K : World → Prop) (hK : ∀ W W', K W → Kp (fun b => ¬ b = w.heap.size) W W' → K W')
    (hDo : ∀ rb gt W, w.heap.size < rb → w.heap.size < gt → W.heap[tb]? = w.heap[tb]? → RdR W rb gt (lexL L) → EndsT (lexL L) → ShortT (lexL L) → Calls Tryz.prog pf #[.pointer (some ⟨rb, 0, none⟩), .pointer (some ⟨tb, 0, none⟩)] W (DoOut rb tb W X K)) :
    Calls Tryz.prog 28 #[.string ⟨L.toArray⟩, .func (.func pf) #[] #[.pointer (some ⟨tb, 0, none⟩)]] w fun e w' => e = .returned (faultV X) ∧ (X = none → K w') ∧ Gr w.heap.size tb w w' := by
  suffices key : ∀ Q : Ending → World → Prop, Hid (∀ e w', (e = .returned (faultV X) ∧ (X = none → K w') ∧ Gr w.heap.size tb w w') → Q e w') → Calls Tryz.prog 28 #[.string ⟨L.toArray⟩, .func (.func pf) #[] #[.pointer (some ⟨tb, 0, none⟩)]] w Q from key _ (Lib.hid fun _ _ h => h)
  intro Q HQQ
  have hmf : ∀ (fn : Fn) (first cap : Array Value) (w : World), (Instr.makeFunc fn first cap).run Tryz.prog w = .ok (.func fn first cap) w := fun _ _ _ _ => rfl
  have HLl : (L.toArray.size : Int) = (L.length : Int) := by simp
  have hb' : ¬ 65536 < (L.length : Int) := by omega
  obtain ⟨hE, hS, hN⟩ := lexL_facts (L := L) (by omega)
  have HE := Lib.hid E
  have TK := Lib.hid (fun W => tokens_any ⟨L.toArray⟩ W)
  have CL := Lib.hid (fun Bb W E' h1 h2 => collect_any Bb L (by omega) W E' h1 h2)
  have HNE := Lib.hid hE.ne
  have HDO := Lib.hid (fun rb gt W h1 h2 h3 R => hDo rb gt W h1 h2 h3 R hE hS)
  have HKK := Lib.hid hK
  clear E hE hS hDo hK
  go_enter_defers Tryz.func28, Tryz.ntmps28
  go_wp2_with (first | (go_at_call 49; (with_reducible refine (TK.out _).mono ?_); rintro e w1 ⟨rfl, rfl⟩))
  go_at_call 48
  refine (CL.out _ _ (HE.out.below (by repeat (first | exact Below.refl _ _ | refine Below.setCell ?_ (by first | (simp; done) | (simp; omega) | omega) _ | refine Below.alloc ?_ (by first | (simp; done) | (simp; omega) | omega) _ | refine Below.drew ?_ | assumption | refine Below.trans ?_ (Below.mono (by assumption) (by first | (simp; done) | (simp; omega) | omega))))) (by simp) (by simp [go_sem])).mono ?_
  rintro e w5 ⟨⟨V, rfl, hO⟩, hb5⟩
  obtain ⟨g, cap, rfl, hgl, R⟩ := rdR_mk hO HNE.out (by omega)
  have hgb := (hO.lt g rfl).1
  simp only [World.size_alloc] at hgb
  have al := fun (X : World) (o : Obj) (k : Nat) (h : k < X.heap.size) => (((Below.refl _ X).alloc (Nat.le_refl _) o).block k h)
  have hs5 := hb5.size
  simp only [World.size_alloc] at hs5
  have k4 : w5.heap[w.heap.size]? = some (.cells #[.int .i64 0, .int .i64 0] 78 (0, 0)) := (hb5.block _ (by first | (simp; done) | (simp; omega))).trans ((al _ _ _ (by simp)).trans (heap_alloc_at rfl))
  have ktb : w5.heap[tb]? = w.heap[tb]? := (hb5.block _ (by simp; omega)).trans ((al _ _ _ (by simp; omega)).trans (al _ _ _ htb))
  have HB5 : Hid (Below w.heap.size w w5) := Lib.hid (Below.trans (by repeat (first | (with_reducible exact Below.refl _ _) | (with_reducible refine Below.alloc ?_ (by first | (simp; done) | (simp; omega)) _))) (hb5.mono (by first | (simp; done) | (simp; omega))))
  have HR := Lib.hid R
  have HK4 := Lib.hid k4
  have HTB := Lib.hid ktb
  clear R k4 ktb hO hb5 TK CL HE
  go_wp2_with (fail)
  refine (HDO.out _ g _ (by omega) (by omega) ((al _ _ _ (by omega)).trans HTB.out) HR.out).mono ?_
  rintro e w6 ⟨hg6, hP⟩
  have h4 := (hg6.block w.heap.size (by simp; omega) (by omega) (by omega)).trans ((al _ _ _ (by omega)).trans HK4.out)
  have hs6 := hg6.size
  simp only [World.size_alloc] at hs6
  have HG6 : Hid (Gr w.heap.size tb w w6) := Lib.hid ⟨hg6.os.trans HB5.out.os, hg6.tape.trans HB5.out.tape, hg6.output.trans HB5.out.output, by omega, fun k hk hne => (hg6.block k (by simp; omega) (by omega) hne).trans ((al _ _ _ (by omega)).trans (HB5.out.block k hk))⟩
  have hlt6 : w.heap.size < w6.heap.size := by omega
  cases X with
  | some x =>
    obtain ⟨p, er⟩ := x
    obtain rfl := hP
    clear hg6
    go_wp2
    refine leaves_cons (f := 47) (args := #[.pointer (some ⟨w.heap.size, 0, none⟩)]) (by simp) (by simp [go_sem]) ?_
    refine (catch_fault w.heap.size p er _ h4).mono ?_
    rintro e u' w7 ⟨rfl, rfl, j4, jb⟩
    refine ⟨_, reads_res j4 rfl, HQQ.out _ _ ⟨rfl, (fun h => (by cases h)), HG6.out.trans (Gr.of_below (jb.mono (Nat.le_refl _))) (Nat.le_refl _)⟩⟩
  | none =>
    obtain ⟨⟨v, rfl⟩, hk⟩ := hP
    have HKW := Lib.hid hk
    have H4 := Lib.hid h4
    obtain ⟨⟨c0, c1⟩, cf⟩ := two_cells h4
    clear hg6 hk h4
    go_wp2
    refine leaves_cons (f := 47) (args := #[.pointer (some ⟨w.heap.size, 0, none⟩)]) (by simp) (by simp [go_sem]) ?_
    refine (catch_idle w.heap.size _).mono ?_
    rintro e u' w7 ⟨rfl, rfl, rfl⟩
    have hset := two_set H4.out (.int .i64 0) (.int .i64 0)
    refine ⟨_, reads_res hset rfl, HQQ.out _ _ ⟨rfl, fun _ => HKK.out _ _ HKW.out (by repeat (first | (with_reducible exact Kp.refl _ _) | (with_reducible assumption) | ((with_reducible refine Kp.set ?_ ?hq1 _); (case hq1 => (first | (simp; done) | (simp; omega) | (dsimp only; omega)))) | (with_reducible refine Kp.alloc ?_ _) | (with_reducible refine Kp.drew ?_) | refine Kp.trans ?_ (Kp.gr (by assumption) (by first | (simp; done) | (simp; omega) | (dsimp only; omega))))), ?_⟩⟩
    have hg := HG6.out
    exact (by repeat (first | (with_reducible exact Gr.refl _ _ _) | (with_reducible assumption) | ((with_reducible refine Gr.setCell ?_ ?hq1 _); (case hq1 => (first | (right; rfl) | (left; (first | (simp; done) | (simp; omega) | omega))))) | ((with_reducible refine Gr.alloc ?_ ?hq1 _); (case hq1 => (first | (simp; done) | (simp; omega) | omega))) | (with_reducible refine Gr.drew ?_) | exact Gr.of_below (by assumption) | refine Gr.trans ?_ (by assumption) (by first | (simp; done) | (simp; omega) | omega) | refine Gr.below ?_ (by assumption) (by first | (simp; done) | (simp; omega) | omega)))
end Go.Proofs.YtnjlggleaocbdaaGreatDoor
