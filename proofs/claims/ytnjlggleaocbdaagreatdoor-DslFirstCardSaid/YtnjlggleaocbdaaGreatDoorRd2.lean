/-
  The statement DslFirst is proved, as its tied card: for every input the law returns true, and its arguments read as before. Listed variables (tables of the library, two errors of strconv) read as the program's text lays them; the card ties them.
-/
import Derived.Test.YtnjlggleaocbdaaGreatDoorRows
import Derived.Test.YtnjlggleaocbdaaGreatDoorDh3
import Derived.ChangeSlices
import Derived.PinnedBridge
import Derived.WalkKit
import Derived.ProofKit
import Derived.OpenShut
import Derived.ShutString
import Derived.ChangeOld
import Derived.ChangeSame
import Derived.Below
import Derived.Deep.Slices
import Derived.Deep.Fields
import Derived.LaidMore
import Derived.Lay
import Derived.Stop.Joined
import Derived.Stop.LaidErr
import Derived.Shelf.Vars
import Derived.Lib.SmallJoins
import Derived.ChangeMaps5
import Derived.Test.YtnjlggleaocbdaaGreatDoorTie
import Derived.Test.YtnjlggleaocbdaaGreatDoorCards
import Derived.SevenTiedAt

/-
  What the rows of this seat share: what the listed variables give ('Env'), texts as arguments, the wrap that hands on the world's shape and what is laid.
-/
namespace Go.Proofs.YtnjlggleaocbdaaGreatDoor
set_option linter.all false
open Go.ChangeShapes Go.WideShapes Go.ChangeAt Go.ChangeMaps Go.RowKit Go.Deep Go.Lib Go.Shelf

theorem own : ownKnob Tryz.prog.godebug = none := by kernel_rfl
theorem laidOut : laidOutB Tryz.prog = true := by kernel_rfl
theorem ml_cell {W : World} (h : W.ShapedOpen Tryz.prog) : ∃ m, W.cell? ⟨1, 0, none⟩ = some (.int .i64 m) := by
  exact cell_of_shapedOpen_int (P := Tryz.prog) (w := W) (g := 1) (t := 3) (zero := #[.int .i64 0]) (k := .i64) h (of_decide_eq_true (by kernel_rfl)) (by kernel_rfl) rfl (by kernel_rfl) (by kernel_rfl) Tryz.underlying3
theorem rowErr (u : TypeId) (h : Tryz.prog.typeName? 3 u = some "*errors.errorString") : u = 179 :=
  typeName_ptr_named (nm := "errors.errorString") (by rw [show "*" ++ "errors.errorString" = "*errors.errorString" by decide]; kernel_rfl) (by kernel_rfl) (by decide) u (by rw [show "*" ++ "errors.errorString" = "*errors.errorString" by decide]; exact h)
theorem var_lt {P : Program} {W : World} {n : String} {cs : Array Value} {g : Nat} (hg : P.globalNamed n = some g) (h : W.var? P n = some cs) : g < W.heap.size := by
  unfold World.var? at h
  simp only [hg, Option.bind_some] at h
  rcases Nat.lt_or_ge g W.heap.size with h' | h'
  · exact h'
  · simp [Array.getElem?_eq_none h'] at h
/-- What a walk reads of the listed variables. -/
theorem env_laidH {W : World} (hsh : W.ShapedOpen Tryz.prog) (h : laidMetH Tryz.prog Rows.dslFirstRow.laid W) : Env W := by
  rw [MakeChecks.laidMetH_plain _ _ _ (by kernel_rfl)] at h
  have h3 := h.tail.tail
  have T : Lib.TabIs Tryz.prog W "internal/strconv.uint64pow10" .u64 Lib.pow10Tab := Lib.tabIs_of_head gPow (by kernel_rfl) Tryz.underlying151 Tryz.underlying139 (by kernel_rfl) (by kernel_rfl) h3
  obtain ⟨a, s, hv, _⟩ := laid_sentinel h3.tail.tail gErr (by kernel_rfl) Tryz.underlying91 rowErr Tryz.underlying179 Tryz.underlying181 rfl rfl Tryz.underlying9 (by kernel_rfl) (by kernel_rfl)
  obtain ⟨a2, s2, hv2, _⟩ := laid_sentinel h3.tail.tail.tail gSyn (by kernel_rfl) Tryz.underlying91 rowErr Tryz.underlying179 Tryz.underlying181 rfl rfl Tryz.underlying9 (by kernel_rfl) (by kernel_rfl)
  obtain ⟨_, ⟨g, _, _, _, _, _, hg, _, hv9, _⟩, _⟩ := h.tail
  obtain rfl := Option.some.inj ((show Tryz.prog.globalNamed "math/bits.deBruijn64tab" = some 7 by kernel_rfl).symm.trans hg)
  exact ⟨var_lt hg hv9, ml_cell hsh, T, ⟨_, _, hv⟩, ⟨_, _, hv2⟩⟩
/-- The wrap of a law's row that lists what variables hold, the world's shape and what is laid handed on. -/
theorem handed {H : Type} {enc : TypeId × Value → H} {C : Checked} {os : Os} {f : FuncId} {fn : Func} {s : ChangeSpec} {conds : List PathCond} {fresh : Bool} {laid : List (String × DataW Unit)}
    (ow : ownKnob C.prog.godebug = none) (started : os.Started) (noInit : C.prog.inits.idxOf? f = none) (hfn : C.prog.funcs[f]? = some fn)
    (witness : ∃ (w : World) (tape : Tape) (i : Input), w.os = os ∧ (w.forCall tape i).Shaped C.prog ∧ i.vars = [] ∧ Input.okWide C.prog (w.forCall tape i) .any w.heap.size f i ∧
      ((s.pre enc C.prog fn conds false (w.forCall tape i).memory i.args ∧ laidMetH C.prog laid (w.forCall tape i).memory) ∧ sizedMet enc C.prog fn (OpenSpec.ofChange s) false (w.forCall tape i).memory i.args) ∧ ({} : Assume).holds C.prog (lone (Frame.enter C.prog f i.args .normal) [] (w.forCall tape i)))
    (contract : ∀ (W : World) (base : Nat) (args : Array Value) (ds gs : List (DataW H)) (before : List MemPlace),
      (∀ (j : Nat) t v, fn.params[j]? = some t → args[j]? = some v → Value.okWide C.prog W .any base t v) →
      DataW.Whole enc C.prog fn.params.toList s.vars false W args.toList ds gs before → W.ShapedOpen C.prog → laidMetH C.prog laid W →
      Calls C.prog f args W fun e W' => ∃ v, e = .returned v ∧ s.post enc C.prog fn false fresh false false W args v W') :
    ReturnsInHanded {} C os f .any (fun w args => (s.pre enc C.prog fn conds false w args ∧ laidMetH C.prog laid w) ∧ sizedMet enc C.prog fn (OpenSpec.ofChange s) false w args) (s.post enc C.prog fn false fresh false false) := by
  refine returnsInHanded_of_calls ow started noInit witness ?_
  intro w tape i _ hsh _ hok hpre _
  obtain ⟨_, _, _, fn', hfn', _, _, _, _, hval⟩ := hok
  obtain rfl : fn' = fn := Option.some.inj (hfn'.symm.trans hfn)
  obtain ⟨⟨⟨ds, gs, before, hw, _⟩, hlaid⟩, _⟩ := hpre
  refine (contract (w.forCall tape i) w.heap.size i.args ds gs before hval (DataW.Whole.of_heap (w' := w.forCall tape i) (by rfl) hw) hsh (hlaid.of_heap (by rfl))).mono fun e W' ⟨v, he, hp⟩ => ?_
  subst he
  exact ChangeSpec.post_blind hp
section
variable {H : Type} {enc : TypeId × Value → H} {W : World} {base : Nat} {spare : Nat → Bool} {held : Bool} {r : Reach} {b0 : Nat} {v : Value} {d : DataW H} {p : List MemPlace}
theorem ba_back (s : ByteArray) : Value.string s = .string ⟨s.data.toList.toArray⟩ := by cases s; simp
set_option maxRecDepth 100000 in
theorem str_arg (hval : Value.okWide Tryz.prog W r b0 9 v) (h : DataW.Trod enc Tryz.prog W base spare held 9 v d p) : ∃ l : List UInt8, v = .string ⟨l.toArray⟩ ∧ True := by
  obtain ⟨s, rfl, _⟩ := open_string Tryz.underlying9 hval h
  exact ⟨s.data.toList, ba_back s, trivial⟩
end
end Go.Proofs.YtnjlggleaocbdaaGreatDoor

/-
  The statement DslFirst is proved, as its tied card: for every input the law returns true, and its arguments read as before. Listed variables (tables of the library, two errors of strconv) read as the program's text lays them; the card ties them.
-/
namespace Go.Proofs.YtnjlggleaocbdaaGreatDoor.dslFirst
set_option linter.all false
open Go.ChangeShapes Go.WideShapes Go.ChangeAt Go.ChangeMaps Go.RowKit Go.Deep

set_option maxRecDepth 100000 in
theorem lifted (os : Os) (started : os.Started) (H : Type) (enc : TypeId × Value → H) :
    ReturnsInHanded {} Tryz.checked os 4 .any (fun w args => (Rows.dslFirstSpec.pre enc Tryz.prog Tryz.f4 Rows.dslFirstRow.domain false w args ∧ laidMetH Tryz.prog Rows.dslFirstRow.laid w) ∧ sizedMet enc Tryz.prog Tryz.f4 (OpenSpec.ofChange Rows.dslFirstSpec) false w args) (Rows.dslFirstSpec.post enc Tryz.prog Tryz.f4 false true false false) := by
  refine handed (C := Tryz.checked) own started (by kernel_rfl) Tryz.func4
    (ChangeSpec.witness_shaped (enc := enc) (C := Tryz.checked) (os := os) (X := fun w _ => laidMetH Tryz.prog Rows.dslFirstRow.laid w) false (World.laidAll Tryz.prog os Rows.dslFirstRow.laid) #[.string ⟨#[]⟩] 8 (World.laidAll_os _ _ _)
      (World.shaped_of_ZipB (by kernel_rfl) (by kernel_rfl)) (by kernel_rfl) (by kernel_rfl) (by kernel_rfl)
      (by rw [MakeChecks.laidMetH_plain _ _ _ (by kernel_rfl)]; exact laidMet_laidAll _ (by kernel_rfl) (by kernel_rfl))) ?_
  intro W base args ds gs before hval0 hW hsh hlaid
  have hval : ∀ (j : Nat) t v, Tryz.f4.params[j]? = some t → args[j]? = some v → Value.okWide Tryz.prog W .any base t v := hval0
  have hW' := hW
  obtain ⟨p, q, hA0, hV, rfl, hfz, hnd⟩ := hW
  have hA : DataW.TrodAll enc Tryz.prog W 0 (fun _ => true) true Tryz.f4.params.toList args.toList ds p := hA0
  rw [Tryz.params4] at hA hval
  obtain ⟨v0, vs0, d0, ds0, p0, q0, hargs, rfl, rfl, h0, r0⟩ := trodAll_cons hA
  obtain ⟨rfl, rfl, rfl⟩ := trodAll_nil r0
  obtain rfl : args = #[v0] := by cases args; simp_all
  obtain ⟨rfl, rfl⟩ := trodVars_none hV
  have k0 := h0
  have lt0 : ∀ x ∈ p0, x.block < W.heap.size := by obtain ⟨m, hm⟩ := k0; exact DataW.trod_lt m _ _ _ hm
  obtain ⟨a0, hv0, _⟩ := str_arg (hval 0 9 v0 rfl rfl) h0
  have WK := first_walk a0  W (env_laidH hsh hlaid) 
  clear hA0 hval0
  simp only [List.append_nil] at hW'
  subst hv0
  refine WK.mono fun e W' ⟨he, bel⟩ => ?_
  subst he
  exact ⟨_, rfl, _, _, _, [], _, [], hW', trodAll_mk1 (shut_bool Tryz.underlying4 _), (trodAll_cons_mk (Below.trod laidOut (by kernel_rfl) (of_decide_eq_true (by kernel_rfl)) k0 bel lt0) trodAll_mk0), rfl, bel.frame _, fun h => by cases h⟩

theorem over : Rows.DslFirstSaid :=
  OpenClaim.holds_of_wide 4 Tryz.f4 rfl rfl rfl rfl rfl rfl rfl ⟨rfl, rfl, rfl, rfl, rfl⟩ rfl rfl rfl rfl rfl (by kernel_rfl) Tryz.func4 (by kernel_rfl)
    (of_decide_eq_true (by kernel_rfl)) (by unfold Func.isWrapper; first | (rw [if_pos (by decide +kernel)]; kernel_rfl) | (rw [if_neg (by decide +kernel)]; exact ⟨rfl, rfl⟩))
    (fun os started H enc _ => lifted os started H enc)

theorem proved : Rows.DslFirstCardSaid :=
  Claim7.holds_tied_plain_at .later [] [.data, .data, .data, .data, .sentinel, .sentinel, .pinned] true (true, "4736db48f8bf67104b81eb6cf0e6330c31a445ff1634e074c63b09c8c2eba7d9") true
    over (fun _ h => by cases h) (by kernel_rfl) (fun _ h => by cases h) dslFirst_row_tie rfl ⟨rfl, rfl⟩ (by kernel_rfl) rfl
    (fun f fn hf hfn => by
      obtain rfl : f = 4 := Option.some.inj ((show Tryz.prog.funcNamed "exchequer/exlaw9.DslFirst" = some 4 by kernel_rfl).symm.trans hf) |>.symm
      obtain rfl : fn = Tryz.f4 := (Option.some.inj (Tryz.func4.symm.trans hfn)).symm
      exact ⟨by kernel_rfl, fun j t ht => by
        rw [Tryz.params4] at ht
        have hm : t ∈ [9] := by simpa using Array.mem_of_getElem? ht
        have hall : ([9].all fun u => !Tryz.prog.wantsStandIn u) = true := by kernel_rfl
        exact (show Tryz.prog.wantsStandIn t = false by simpa using List.all_eq_true.1 hall t hm)⟩)
    (by kernel_rfl)
#print axioms proved
end Go.Proofs.YtnjlggleaocbdaaGreatDoor.dslFirst
