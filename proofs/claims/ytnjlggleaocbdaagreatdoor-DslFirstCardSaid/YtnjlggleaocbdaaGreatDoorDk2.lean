/-
  Contract of the reader's two: operands with signs between. (Printed by tools/mkdk2.py.)
-/
import Derived.Test.YtnjlggleaocbdaaGreatDoorDr4
import Derived.Test.YtnjlggleaocbdaaGreatDoorQh
import Derived.Test.YtnjlggleaocbdaaGreatDoorQz
namespace Go.Proofs.YtnjlggleaocbdaaGreatDoor
set_option linter.all false
open Go.RowKit Go.Shelf
attribute [local go_sem] cell_set_self lt_1 lt_2 lt_3 lt_4 lt_5 lt_6 fld_k fld_s fld_n fld_p

def encE (w : World) : ExprT → World → Value → Prop := fun t W V => ∃ cs, V = .agg cs.toArray ∧ EV (fun b => w.heap.size ≤ b) W t cs
def zeroE : Array Value := #[.int .i64 0, .int .i64 0, .string ⟨#[]⟩, .slice none 0 0]
theorem loop_no {part : List Tok → PR ExprT} {ops : List Int} {n : Nat} {c : ExprT} {ts : List Tok} (h : oneF (ops.map signX) 0 ts = none) : loopF part ops n c ts = .ok c ts := by
  conv => lhs; rw [loopF.eq_def]
  simp only [h]
theorem loop_yes {part : List Tok → PR ExprT} {ops : List Int} {n i : Nat} {c : ExprT} {ts r : List Tok} (h : oneF (ops.map signX) 0 ts = some (i, r)) : loopF part ops (n + 1) c ts = (part r).bind fun d r' => loopF part ops n (.mk (ops.getD i 0) 0 [] [c, d]) r' := by
  conv => lhs; rw [loopF.eq_def]
  simp only [h]
theorem one_take : ∀ (xs : List (List UInt8)) (i : Nat) (ts : List Tok) (j : Nat) (r : List Tok), oneF xs i ts = some (j, r) → (i ≤ j ∧ j < i + xs.length) ∧ r.length + 1 = ts.length ∧ (EndsT ts → EndsT r) ∧ (ShortT ts → ShortT r)
  | [], i, ts, j, r, h => by cases h
  | s :: l, i, ts, j, r, h => by
    by_cases hs : s = []
    · rw [one_skip hs] at h
      have := one_take l _ ts j r h
      exact ⟨by simp; omega, this.2⟩
    · cases hm : mayF s ts with
      | none =>
        rw [one_no hs hm] at h
        have := one_take l _ ts j r h
        exact ⟨by simp; omega, this.2⟩
      | some r' =>
        rw [one_yes hs hm] at h
        injection h with h; injection h with h1 h2; subst h1 h2
        exact ⟨by simp, (may_len hm).1, may_ends hm, (may_len hm).2⟩
theorem four_cells {w : World} {b : Nat} {v0 v1 v2 v3 : Value} {t : TypeId} (h : w.heap[b]? = some (.cells #[v0, v1, v2, v3] t (0, 0))) :
    (w.cell? ⟨b, 0, none⟩ = some v0 ∧ w.cell? ⟨b, 1, none⟩ = some v1 ∧ w.cell? ⟨b, 2, none⟩ = some v2 ∧ w.cell? ⟨b, 3, none⟩ = some v3) ∧ ∀ o, w.frozen? ⟨b, o, none⟩ = false := by
  refine ⟨by simp [World.cell?, h], fun o => by simp [World.frozen?, h]⟩
theorem set_at {w : World} {b : Nat} {cs : Array Value} {t : TypeId} {fz : Nat × Nat} (h : w.heap[b]? = some (.cells cs t fz)) (o : Nat) (v : Value) : (w.setCell ⟨b, o, none⟩ v).heap[b]? = some (.cells (cs.setIfInBounds o v) t fz) := by
  simp [World.setCell, Array.getElem?_modify, h]
theorem four_set {w : World} {b : Nat} {u0 u1 u2 u3 : Value} {t : TypeId} (h : w.heap[b]? = some (.cells #[u0, u1, u2, u3] t (0, 0))) (v0 v1 v2 v3 : Value) :
    ((((w.setCell ⟨b, 0, none⟩ v0).setCell ⟨b, 1, none⟩ v1).setCell ⟨b, 2, none⟩ v2).setCell ⟨b, 3, none⟩ v3).heap[b]? = some (.cells #[v0, v1, v2, v3] t (0, 0)) := by
  have h9 := set_at (set_at (set_at (set_at h 0 v0) 1 v1) 2 v2) 3 v3
  simpa using h9
theorem own_strsL {w : World} {base n c : Nat} {A : Option Addr} {xs : List (List UInt8)} (h : w.ownsRow base 9 1 (.slice A n c) n (cellsN xs)) : Strs w A xs := fun i x hi => by
  rcases h.2 with ⟨h1, h2⟩ | ⟨g, cap, cur, hv, hg, hh, hnc⟩
  · have h3 := h.1
    have h4 := (List.getElem?_eq_some_iff.1 hi).1
    simp [cellsN] at h3
    omega
  · injection hv with h1 h2 h3
    subst h1
    have h5 := h.cells (g := g) rfl i (.string ⟨x.toArray⟩) (by simp [cellsN, hi])
    have t2 := (congrArg w.cell? (addr_off g 0 i)).symm.trans h5
    exact ⟨g, 0, rfl, World.block_lt_of_cell? w ⟨g, 0 + i, none⟩ t2, t2⟩
/-- What signs() makes beside a row under way. -/
theorem signs_row (x : Int) (hx : Pl.binB x = true) (w1 : World) (V : Value) (k : Nat) (xs : List Value) (wo : World) (hB : Below w1.heap.size w1 wo) (hO : wo.ownsRow w1.heap.size 9 1 V k xs) :
    Calls Tryz.prog 46 #[] wo fun e w3 => e = .returned (.map (some wo.heap.size)) ∧ (Instr.lookup 105 (.map (some wo.heap.size)) (.int .i64 x) false).run Tryz.prog w3 = .ok (.string ⟨(signX x).toArray⟩) w3 ∧ w1.heap.size ≤ w3.heap.size ∧ Hid (Below w1.heap.size w1 w3) ∧ Hid (w3.ownsRow w1.heap.size 9 1 V k xs) :=
  (signs_any wo).mono fun e w3 ⟨h1, h2⟩ => ⟨h1, by subst h2; exact look_sign x hx _ _ (heap_alloc_new wo _), by subst h2; have := hB.size; simp; omega, Lib.hid (by subst h2; exact hB.alloc hB.size _), Lib.hid (by subst h2; exact hO.alloc _)⟩
theorem Strs.kp {P : Nat → Prop} {w W : World} {A : Option Addr} {xs : List (List UInt8)} (h : Strs w A xs) (hk : Kp P w W) (hA : ∀ a, A = some a → P a.block) : Strs W A xs := fun i x hi => by
  obtain ⟨b, off, h1, h2, h3⟩ := h i x hi
  exact ⟨b, off, h1, Nat.lt_of_lt_of_le h2 hk.size, hk.cell (hA _ h1) h2 h3⟩
/-- The operators' row and their signs' row. -/
def OpsAt (wx : World) (ob : Nat) (ops : List Int) (A : Option Addr) : Prop := Strs wx A (ops.map signX) ∧ ob < wx.heap.size ∧ ∀ (k : Nat) (x : Int), ops[k]? = some x → wx.cell? ⟨ob, k, none⟩ = some (.int .i64 x)
theorem OpsAt.kp {P : Nat → Prop} {w W : World} {ob : Nat} {ops : List Int} {A : Option Addr} (h : OpsAt w ob ops A) (hk : Kp P w W) (hA : ∀ a, A = some a → P a.block) (ho : P ob) : OpsAt W ob ops A :=
  ⟨h.1.kp hk hA, Nat.lt_of_lt_of_le h.2.1 hk.size, fun k x hx => hk.cell ho h.2.1 (h.2.2 k x hx)⟩
/-- What a reading of an expression answers, taken apart. -/
theorem pout_ok {rb gt : Nat} {W w' : World} {e : Ending} {d : ExprT} {r : List Tok} (h : POut rb gt W (encE W) (.ok d r) e w') : ∃ A cc, e = .returned (.agg (exprC d.op d.n d.s A d.args.length cc).toArray) ∧ Hid (EV (fun b => W.heap.size ≤ b) w' d (exprC d.op d.n d.s A d.args.length cc)) ∧ Hid (RdR w' rb gt r) ∧ Gr W.heap.size rb W w' := by
  obtain ⟨⟨V, h1, cs, h2, h3⟩, h4, h5⟩ := h
  have h6 := h3
  obtain ⟨op, n, s, args⟩ := d
  unfold EV at h6
  obtain ⟨A, cc, h7, -⟩ := h6
  subst h7
  exact ⟨A, cc, by rw [h1, h2]; rfl, Lib.hid h3, Lib.hid h4, h5⟩
set_option maxHeartbeats 16000000 in
set_option maxRecDepth 100000 in
theorem two_any (pf rb gt : Nat) (ops : List Int) (n ob : Nat) (hno : ops.length = n) (hn9 : n ≤ 100) (hbn : ∀ (k : Nat) (x : Int), ops[k]? = some x → Pl.binB x = true) (eg : ∀ args W, (callFunc pf args).run Tryz.prog W = .ok (.enter pf args) W) (part : List Tok → PR ExprT) (tk : Takes part) (r0 : List Tok) (w : World) (R0 : RdR w rb gt r0) (hE : EndsT r0) (hS : ShortT r0)
    (hob : ob < w.heap.size ∧ ¬ ob = rb) (hoc : ∀ (k : Nat) (x : Int), ops[k]? = some x → w.cell? ⟨ob, k, none⟩ = some (.int .i64 x))
    (hp : ∀ r W, EndsT r → ShortT r → r.length ≤ r0.length → RdR W rb gt r → Calls Tryz.prog pf #[.pointer (some ⟨rb, 0, none⟩)] W (POut rb gt W (encE W) (part r))) :
    Calls Tryz.prog 68 #[.pointer (some ⟨rb, 0, none⟩), .slice (some ⟨ob, 0, none⟩) n n, .func (.func pf) #[.pointer (some ⟨rb, 0, none⟩)] #[]] w (POut rb gt w (encE w) ((part r0).bind fun c r => loopF part ops r.length c r)) := by
  suffices key : ∀ Q : Ending → World → Prop, Hid (∀ e w', POut rb gt w (encE w) ((part r0).bind fun c r => loopF part ops r.length c r) e w' → Q e w') → Calls Tryz.prog 68 #[.pointer (some ⟨rb, 0, none⟩), .slice (some ⟨ob, 0, none⟩) n n, .func (.func pf) #[.pointer (some ⟨rb, 0, none⟩)] #[]] w Q from key _ (Lib.hid fun _ _ h => h)
  intro Q HQQ
  obtain ⟨X, hX⟩ : ∃ X, ((part r0).bind fun c r => loopF part ops r.length c r) = X := ⟨_, rfl⟩
  rw [hX] at HQQ
  have HP := Lib.hid hp
  have HX := Lib.hid hX
  have HNO := Lib.hid hno
  have HBN := Lib.hid hbn
  have HES := Lib.hid (And.intro hE hS)
  obtain ⟨hrb, hgt, hgr⟩ := R0.lens
  have TK := Lib.hid tk
  have hn0 : ¬ w.heap.size = rb ∧ ¬ rb = w.heap.size ∧ ¬ w.heap.size = gt := by omega
  have HR := Lib.hid (R0.alloc (.cells zeroE 24))
  have HOB := Lib.hid (fun (k : Nat) (x : Int) (h : ops[k]? = some x) => (((Below.refl w.heap.size w).alloc (Nat.le_refl _) (.cells zeroE 24)).cell (p := ⟨ob, k, none⟩) hob.1).trans (hoc k x h))
  have HZ1 := Lib.hid (heap_alloc_new w (.cells zeroE 24))
  have HG1 : Hid (Gr w.heap.size rb w (w.alloc (.cells zeroE 24))) := Lib.hid ((Gr.refl _ _ _).alloc (Nat.le_refl _) _)
  have hs1 : (w.alloc (.cells zeroE 24)).heap.size = w.heap.size + 1 := by simp
  clear hX hp R0 hE hS tk hno hbn hoc
  go_enter Tryz.func68, Tryz.ntmps68
  go_wp2_with (fail)
  refine name_world ?_
  intro w1 hw1
  change w1 = w.alloc (.cells zeroE 24) at hw1
  rw [← hw1] at HR HOB HZ1 HG1 hs1
  clear hw1
  have OC : Hid (∀ W, Below w1.heap.size w1 W → ∀ (k : Nat) (x : Int), ops[k]? = some x → W.cell? ⟨ob, k, none⟩ = some (.int .i64 x)) := Lib.hid fun W h k x hx => (h.cell (p := ⟨ob, k, none⟩) (by dsimp only; omega)).trans (HOB.out k x hx)
  go_loopw [7, 14] (fun U j wr => ∃ (V : Value) (k : Nat), V = U ∧ k ≤ n ∧ j = .int .i64 (k : Int) ∧ Hid (wr.ownsRow w1.heap.size 9 1 V k (cellsN ((ops.take k).map signX))) ∧ Hid (Below w1.heap.size w1 wr)) (fun _ j _ => n - (intOf j).toNat)
  case atStart => exact ⟨_, 0, rfl, by omega, rfl, Lib.hid (World.ownsRow_nil _ _ _ _), Lib.hid (Below.refl _ _)⟩
  case round =>
    obtain ⟨V, k, rfl, hk, rfl, HO, HB⟩ := hrel
    obtain ⟨wo, rfl⟩ : ∃ wo : World, wo = wr := ⟨_, rfl⟩
    by_cases hkn : k < n
    · have hkn' : (k : Int) < (n : Int) := by omega
      obtain ⟨x, hx⟩ : ∃ x, ops[k]? = some x := ⟨_, List.getElem?_eq_getElem (by rw [HNO.out]; exact hkn)⟩
      have hc := OC.out wo HB.out k x hx
      have hbin := HBN.out k x hx
      have SG := Lib.hid (signs_row x hbin w1 V k (cellsN ((ops.take k).map signX)))
      have HTK : Hid (cellsN ((ops.take k).map signX) ++ [.string ⟨(signX x).toArray⟩] = cellsN ((ops.take (k + 1)).map signX)) := Lib.hid (by
        rw [List.take_add_one, hx]; simp [cellsN])
      clear hx hbin
      obtain ⟨i, hi, iz0, iz1, iz2⟩ := info_parts info_str
      have hsB := HB.out.size
      go_wp2_with (first | (go_at_call 46; (with_reducible refine (SG.out _ HB.out HO.out).mono ?_); rintro e w3 ⟨rfl, hlk, hs3, HB3, HO3⟩) | ((at_builtin; refine wpList_append_lies _ rfl _ _ _ rfl (w1.heap.size) 9 i _ 1 16 Tryz.underlying46 hi iz0 iz1 iz2 rfl (by decide) V (k) _ rfl (HO3.out.alloc _) ⟨w3.heap.size, 0, none⟩ 1 1 [.string ⟨(signX x).toArray⟩] rfl rfl (World.news_of_block (cs := #[.string ⟨(signX x).toArray⟩]) (t := 9) (fr := (0, 0)) (heap_alloc_new w3 _)) (by simp [Value.oneCell']) (by omega) (by unfold maxLen; omega) (by omega) (by simp; omega) (w3.heap.size + 1) (by simp) ?_; intro gg cap w1' hown1 hgrow hat hlt')))
      have hrow := fun b e => (HO3.out.lt b e).1
      have HB4 : Hid (Below w1.heap.size w1 w1') := Lib.hid (below_push HB3.out (by omega) hgrow hrow)
      rw [HTK.out] at hown1
      have HO4 := Lib.hid hown1
      clear hown1 hgrow hlk HTK hrow
      go_round
      case rel => exact ⟨_, k + 1, rfl, by omega, by go_num, HO4, HB4⟩
      case measure => first | (simp [intOf]; done) | (simp [intOf]; omega)
    · have hkn' : ¬ (k : Int) < (n : Int) := by omega
      obtain rfl : k = n := by omega
      have HTA : Hid (wo.ownsRow w1.heap.size 9 1 V k (cellsN (ops.map signX))) := Lib.hid (by have h := HO.out; rwa [List.take_of_length_le (by rw [HNO.out]; exact Nat.le_refl _)] at h)
      clear HO hkn
      obtain ⟨A, c, rfl⟩ := own_form HTA.out
      have hA := fun a (e : A = some a) => (HTA.out.lt a.block (by rw [e]; rfl))
      have HSTR := Lib.hid (own_strsL HTA.out)
      have hbo := HB.out.size
      have HOP : Hid (OpsAt wo ob ops A) := Lib.hid ⟨HSTR.out, by omega, OC.out wo HB.out⟩
      have HGO : Hid (Gr w.heap.size rb w wo) := Lib.hid (HG1.out.below HB.out (by omega))
      have HZO : Hid (wo.heap[w.heap.size]? = some (.cells zeroE 24)) := Lib.hid ((HB.out.block _ (by omega)).trans HZ1.out)
      have HRO := Lib.hid (HR.out.below HB.out)
      clear HTA HSTR
      go_wp2_with (fail)
      refine (HP.out r0 _ HES.out.1 HES.out.2 (Nat.le_refl _) HRO.out).mono ?_
      rintro e w5 hP
      cases hp : part r0 with
      | no p er =>
        rw [hp] at hP
        obtain ⟨rfl, hg5⟩ := hP
        have HN : Hid (PR.no p er = X) := Lib.hid (by have h := HX.out; rw [hp] at h; exact h)
        have HGF := Lib.hid (HGO.out.trans hg5 HGO.out.size)
        clear hp hg5
        go_wp2
        exact ⟨rfl, HQQ.out _ _ (by rw [← HN.out]; exact ⟨rfl, HGF.out⟩)⟩
      | ok c5 r5 =>
        rw [hp] at hP
        have hx5 := HX.out
        rw [hp] at hx5
        dsimp only [PR.bind] at hx5
        have HX5 := Lib.hid hx5
        have hT := TK.out _ _ _ hp
        obtain ⟨A5, cc5, rfl, HC5, HR5, hg5⟩ := pout_ok hP
        have hs5 := hg5.size
        have hz8 : w5.heap[w.heap.size]? = some (.cells zeroE 24) := (hg5.block _ (by omega) hn0.1).trans HZO.out
        have HZ := Lib.hid hz8
        have hE5 : Hid (EndsT r5 ∧ ShortT r5) := Lib.hid ⟨hT.2.1 HES.out.1, hT.2.2 HES.out.2⟩
        have hl5 := hT.1
        have HG5 : Hid (Gr w.heap.size rb w w5) := Lib.hid (HGO.out.trans hg5 HGO.out.size)
        have HOP5 : Hid (OpsAt w5 ob ops A) := Lib.hid (HOP.out.kp (P := fun b => ¬ b = rb) (Kp.gr hg5 (by omega)) (fun a e => by have := hA a e; omega) hob.2)
        have hAlt : ∀ a, A = some a → w1.heap.size ≤ a.block ∧ a.block < w5.heap.size := fun a e => by have := hA a e; omega
        clear hx5 hT hz8 hg5 hp hP
        obtain ⟨op5, nn5, ss5, args5⟩ := c5
        dsimp only [exprC, ExprT.op, ExprT.n, ExprT.s, ExprT.args, List.cons_append, List.nil_append] at HC5 ⊢
        go_wp2_with (fail)
        generalize hb9 : w5.heap.size = b9 at *
        have HI0 : Hid ((w5.alloc (.cells #[.int .i64 op5, .int .i64 nn5, .string ⟨ss5.toArray⟩, .slice A5 args5.length cc5] 24)).heap[b9]? = some (.cells [.int .i64 op5, .int .i64 nn5, .string ⟨ss5.toArray⟩, .slice A5 args5.length cc5].toArray 24 (0, 0)) ∧ EV (fun b => w.heap.size < b ∧ ¬ b = b9) (w5.alloc (.cells #[.int .i64 op5, .int .i64 nn5, .string ⟨ss5.toArray⟩, .slice A5 args5.length cc5] 24)) (.mk op5 nn5 ss5 args5) [.int .i64 op5, .int .i64 nn5, .string ⟨ss5.toArray⟩, .slice A5 args5.length cc5]) := Lib.hid ⟨by subst hb9; exact heap_alloc_new w5 _, (HC5.out.mono (P' := (fun b => w.heap.size < b ∧ ¬ b = b9)) (fun b h1 h2 => by omega)).keep (Kp.alloc (Kp.refl _ _) _)⟩
        have HG0 : Hid (Gr w.heap.size rb w (w5.alloc (.cells #[.int .i64 op5, .int .i64 nn5, .string ⟨ss5.toArray⟩, .slice A5 args5.length cc5] 24)) ∧ (w5.alloc (.cells #[.int .i64 op5, .int .i64 nn5, .string ⟨ss5.toArray⟩, .slice A5 args5.length cc5] 24)).heap[w.heap.size]? = some (.cells zeroE 24) ∧ b9 < (w5.alloc (.cells #[.int .i64 op5, .int .i64 nn5, .string ⟨ss5.toArray⟩, .slice A5 args5.length cc5] 24)).heap.size) := Lib.hid ⟨HG5.out.alloc (by omega) _, (((Below.refl w5.heap.size w5).alloc (Nat.le_refl _) _).block _ (by omega)).trans HZ.out, by simp; omega⟩
        have HOP0 : Hid (OpsAt (w5.alloc (.cells #[.int .i64 op5, .int .i64 nn5, .string ⟨ss5.toArray⟩, .slice A5 args5.length cc5] 24)) ob ops A) := Lib.hid (HOP5.out.kp (P := fun _ => True) (Kp.alloc (Kp.refl _ _) _) (fun _ _ => trivial) trivial)
        have HS0 := Lib.hid hb9
        have HA9 := Lib.hid hAlt
        clear hb9 hA hAlt
        have hb9' : ¬ b9 = rb ∧ ¬ rb = b9 ∧ ¬ b9 = gt ∧ ¬ b9 = w.heap.size ∧ ¬ w.heap.size = b9 ∧ w.heap.size < b9 := by omega
        go_loopg [] r5.length (fun g wx => ∃ (t : ExprT) (cs : List Value) (r : List Tok) (m : Nat), g = r.length ∧ r.length ≤ m ∧ r.length ≤ r0.length ∧ Hid (loopF part ops m t r = X) ∧ Hid (EndsT r ∧ ShortT r ∧ RdR wx rb gt r) ∧ Hid (wx.heap[b9]? = some (.cells cs.toArray 24 (0, 0)) ∧ EV (fun b => w.heap.size < b ∧ ¬ b = b9) wx t cs) ∧ Hid (Gr w.heap.size rb w wx ∧ wx.heap[w.heap.size]? = some (.cells zeroE 24) ∧ b9 < wx.heap.size) ∧ Hid (OpsAt wx ob ops A))
        case atStart => exact ⟨_, _, r5, r5.length, rfl, Nat.le_refl _, hl5, HX5, Lib.hid ⟨hE5.out.1, hE5.out.2, HR5.out.alloc _⟩, HI0, HG0, HOP0⟩
        case round =>
          obtain ⟨t, cs, r, m, hgl, hrm, hrl, HM, HI, HC, HG, HOW⟩ := hrel
          obtain ⟨wo, rfl⟩ : ∃ wo : World, wo = wr := ⟨_, rfl⟩
          subst hgl
          have hne := HI.out.1.ne
          have ON0 := fun W (ST : Strs W A (ops.map signX)) R' => one_any rb gt A k c (ops.map signX) (by rw [List.length_map]; exact HNO.out) (by omega) (fun a e => by have := HA9.out a e; omega) r hne W ST R'
          obtain ⟨op, nn, ss, args⟩ := t
          have hcv := HC.out.2
          unfold EV at hcv
          obtain ⟨A4, cc, rfl, -⟩ := hcv
          have hk := HC.out.1
          dsimp only [exprC, List.cons_append, List.nil_append] at hk
          obtain ⟨⟨k0, k1, k2, k3⟩, kf⟩ := four_cells hk
          obtain ⟨⟨z0, z1, z2, z3⟩, zf⟩ := four_cells HG.out.2.1
          have hlt9 := HG.out.2.2
          have hso := HG.out.1.size
          have HST := Lib.hid HOW.out.1
          clear hk hne
          cases hm : oneF (ops.map signX) 0 r with
          | none =>
            have HN : Hid (PR.ok (.mk op nn ss args) r = X) := Lib.hid (by rw [← HM.out, loop_no hm])
            rw [hm] at ON0
            dsimp only [oneI, oneL] at ON0
            have ON := Lib.hid ON0
            clear hm ON0
            go_wp2_with (first | (go_at_call 73; (with_reducible refine (ON.out _ HST.out HI.out.2.2).mono ?_); rintro e w6 ⟨rfl, hR6, hg6⟩; have hs6 := hg6.size; obtain ⟨hc6, hf6⟩ := gcell hg6; have hz6 : w.heap.size < wo.heap.size ∧ w.heap.size < w6.heap.size ∧ b9 < w6.heap.size := (by omega)))
            have hgo := HG.out.1
            have hR6' := hR6
            have hcv := HC.out.2
            exact bodyPost_ret (v := .agg #[.int .i64 op, .int .i64 nn, .string ⟨ss.toArray⟩, .slice A4 args.length cc]) (by simp [results, Tryz.results68, go_sem, *]) rfl (HQQ.out _ _ (by rw [← HN.out]; exact ⟨⟨_, rfl, _, rfl, (hcv.keep (by repeat (first | (with_reducible exact Kp.refl _ _) | (with_reducible assumption) | ((with_reducible refine Kp.set ?_ ?hq1 _); (case hq1 => (first | (simp; done) | (simp; omega) | (dsimp only; omega)))) | (with_reducible refine Kp.alloc ?_ _) | (with_reducible refine Kp.drew ?_) | refine Kp.trans ?_ (Kp.gr (by assumption) (by first | (simp; done) | (simp; omega) | (dsimp only; omega)))))).mono (fun b h1 h2 => by (try dsimp only at h2 ⊢); omega)⟩, (by repeat (first | (with_reducible exact hR6') | ((with_reducible refine RdR.setCell ?_ ?hq1 ?hq2 _); (case hq1 => (first | (simp; done) | (simp; omega) | omega)); (case hq2 => (first | (simp; done) | (simp; omega) | omega))) | (with_reducible refine RdR.alloc ?_ _) | (with_reducible refine RdR.drew ?_) | refine RdR.below ?_ (by assumption))), (by repeat (first | (with_reducible exact Gr.refl _ _ _) | (with_reducible assumption) | ((with_reducible refine Gr.setCell ?_ ?hq1 _); (case hq1 => (first | (right; rfl) | (left; (first | (simp; done) | (simp; omega) | omega))))) | ((with_reducible refine Gr.alloc ?_ ?hq1 _); (case hq1 => (first | (simp; done) | (simp; omega) | omega))) | (with_reducible refine Gr.drew ?_) | exact Gr.of_below (by assumption) | refine Gr.trans ?_ (by assumption) (by first | (simp; done) | (simp; omega) | omega) | refine Gr.below ?_ (by assumption) (by first | (simp; done) | (simp; omega) | omega)))⟩))
          | some y =>
            obtain ⟨j, r2⟩ := y
            have hot := one_take _ _ _ _ _ hm
            rw [List.length_map, HNO.out, Nat.zero_add] at hot
            obtain ⟨⟨-, hjk⟩, hr2, hme, hms⟩ := hot
            obtain ⟨oi, hoi⟩ : ∃ oi, ops[j]? = some oi := ⟨_, List.getElem?_eq_getElem (by rw [HNO.out]; exact hjk)⟩
            obtain ⟨m', rfl⟩ : ∃ m', m = m' + 1 := ⟨m - 1, by omega⟩
            have hgd : ops.getD j 0 = oi := by rw [List.getD_eq_getElem?_getD, hoi]; rfl
            have HX2 : Hid ((part r2).bind (fun d r' => loopF part ops m' (.mk oi 0 [] [(.mk op nn ss args), d]) r') = X) := Lib.hid (by rw [← HM.out, loop_yes hm, hgd])
            rw [hm] at ON0
            dsimp only [oneI, oneL] at ON0
            have ON := Lib.hid ON0
            have HE2 : Hid (EndsT r2 ∧ ShortT r2) := Lib.hid ⟨hme HI.out.1, hms HI.out.2.1⟩
            have hjk' : (j : Int) < (k : Int) := by omega
            have hjn : ¬ (j : Int) < 0 := by omega
            have ho0 := HOW.out.2.2 j oi hoi
            have hob2 := HOW.out.2.1
            clear hm ON0 hgd hoi hme hms
            go_wp2_with (first | (go_at_call 73; (with_reducible refine (ON.out _ HST.out HI.out.2.2).mono ?_); rintro e w6 ⟨rfl, hR6, hg6⟩; have hs6 := hg6.size; obtain ⟨hc6, hf6⟩ := gcell hg6; have hz6 : w.heap.size < wo.heap.size ∧ w.heap.size < w6.heap.size ∧ b9 < w6.heap.size := (by omega)))
            have hR6' := hR6
            have hz7o : ob < w6.heap.size := by omega
            have ho6 : w6.cell? ⟨ob, j, none⟩ = some (.int .i64 oi) := (hc6 ob j hob2 hob.2).trans ho0
            have HOW6 : Hid (OpsAt w6 ob ops A) := Lib.hid (HOW.out.kp (P := fun b => ¬ b = rb) (Kp.gr hg6 (by omega)) (fun a e => by have := HA9.out a e; omega) hob.2)
            have PT0 := fun W R' => HP.out r2 W HE2.out.1 HE2.out.2 (by omega) R'
            cases hp : part r2 with
            | no p er =>
              rw [hp] at PT0
              have PT := Lib.hid (fun W R' => (show Calls Tryz.prog pf #[.pointer (some ⟨rb, 0, none⟩)] W (fun e w' => e = .panicked (fltP p er) ∧ Gr W.heap.size rb W w') from PT0 W R'))
              have HN : Hid (PR.no p er = X) := Lib.hid (by have h := HX2.out; rw [hp] at h; exact h)
              clear PT0 hp
              have hgo := HG.out.1
              have HGO6 : Hid (Gr w.heap.size rb w w6) := Lib.hid (by repeat (first | (with_reducible exact Gr.refl _ _ _) | (with_reducible assumption) | ((with_reducible refine Gr.setCell ?_ ?hq1 _); (case hq1 => (first | (right; rfl) | (left; (first | (simp; done) | (simp; omega) | omega))))) | ((with_reducible refine Gr.alloc ?_ ?hq1 _); (case hq1 => (first | (simp; done) | (simp; omega) | omega))) | (with_reducible refine Gr.drew ?_) | exact Gr.of_below (by assumption) | refine Gr.trans ?_ (by assumption) (by first | (simp; done) | (simp; omega) | omega) | refine Gr.below ?_ (by assumption) (by first | (simp; done) | (simp; omega) | omega)))
              have HR6 := Lib.hid hR6
              have HS6 := Lib.hid (And.intro HR6.out HGO6.out)
              (refine wp_region_last_held ((fun W' => W'.cell? ⟨b9, 0, none⟩ = some (.int .i64 op) ∧ W'.cell? ⟨b9, 1, none⟩ = some (.int .i64 nn) ∧ W'.cell? ⟨b9, 2, none⟩ = some (.string ⟨ss.toArray⟩) ∧ W'.cell? ⟨b9, 3, none⟩ = some (.slice A4 args.length cc) ∧ W'.cell? ⟨ob, j, none⟩ = some (.int .i64 oi) ∧ Hid (RdR W' rb gt r2 ∧ Gr w.heap.size rb w W'))) rfl (by kernel_rfl) (by kernel_rfl) ?hS0 (fun hHeld => ?_); (case hS0 => ((try dsimp only); (refine ⟨?_, ?_, ?_, ?_, ?_, Lib.hid ⟨HS6.out.1.drew, HS6.out.2.drew⟩⟩ <;> simp [go_sem, *]))); simp only [List.dropLast_cons_cons, List.dropLast_singleton, List.length_cons, List.length_nil, Nat.zero_add, Nat.reduceAdd])
              (refine take2 0 (some 33) (.slice (some ⟨ob, 0, none⟩) k k) rfl (by kernel_rfl) (by kernel_rfl) (by kernel_rfl) rfl (fun _ _ _ h => h) (Or.inl ⟨by rfl, fun W' hSw => (by (try dsimp only at hSw); go_simp)⟩) (by assumption) ?_; (try simp only [Act.put, List.setIfInBounds_toArray, List.set_cons_zero, List.set_cons_succ]))
              (refine take2 1 (some 34) (.int .i64 (j : Int)) rfl (by kernel_rfl) (by kernel_rfl) (by kernel_rfl) rfl (fun _ _ _ h => h) (Or.inl ⟨by rfl, fun W' hSw => (by (try dsimp only at hSw); go_simp)⟩) (by assumption) ?_; (try simp only [Act.put, List.setIfInBounds_toArray, List.set_cons_zero, List.set_cons_succ]))
              (refine take2 2 (some 35) (.pointer (some ⟨ob, j, none⟩)) rfl (by kernel_rfl) (by kernel_rfl) (by kernel_rfl) rfl (fun _ _ _ h => h) (Or.inl ⟨by rfl, fun W' hSw => (by (try dsimp only at hSw); go_simp)⟩) (by assumption) ?_; (try simp only [Act.put, List.setIfInBounds_toArray, List.set_cons_zero, List.set_cons_succ]))
              (refine take2 3 (some 36) (.int .i64 oi) rfl (by kernel_rfl) (by kernel_rfl) (by kernel_rfl) rfl (fun _ _ _ h => h) (Or.inl ⟨by rfl, fun W' hSw => (by (try dsimp only at hSw); go_simp)⟩) (by assumption) ?_; (try simp only [Act.put, List.setIfInBounds_toArray, List.set_cons_zero, List.set_cons_succ]))
              (refine take2 4 (some 37) (.agg #[.int .i64 op, .int .i64 nn, .string ⟨ss.toArray⟩, .slice A4 args.length cc]) rfl (by kernel_rfl) (by kernel_rfl) (by kernel_rfl) rfl (fun _ _ _ h => h) (Or.inl ⟨by rfl, fun W' hSw => (by (try dsimp only at hSw); go_simp)⟩) (by assumption) ?_; (try simp only [Act.put, List.setIfInBounds_toArray, List.set_cons_zero, List.set_cons_succ]))
              (refine take2 5 (some 38) (.func (.func pf) #[.pointer (some ⟨rb, 0, none⟩)] #[]) rfl (by kernel_rfl) (by kernel_rfl) (by kernel_rfl) rfl (fun _ _ _ h => h) (Or.inl ⟨by rfl, fun W' hSw => (by (try dsimp only at hSw); go_simp)⟩) (by assumption) ?_; (try simp only [Act.put, List.setIfInBounds_toArray, List.set_cons_zero, List.set_cons_succ]))
              refine wpAnyH_ready (rs := [6]) (by kernel_rfl) (by simp) ?_
              refine AllReadyH.cons rfl (fun K hK => ?_) AllReadyH.nil
              clear hK
              obtain ⟨-, -, -, -, -, HRD⟩ := hHeld
              go_simp
              refine (PT.out _ HRD.out.1).mono ?_
              rintro e w7 ⟨rfl, hg7⟩
              exact ⟨rfl, HQQ.out _ _ (by rw [← HN.out]; exact ⟨rfl, HRD.out.2.trans hg7 HRD.out.2.size⟩)⟩
            | ok d r3 =>
              rw [hp] at PT0
              have hx3 := HX2.out
              rw [hp] at hx3
              dsimp only [PR.bind] at hx3
              have HX3 := Lib.hid hx3
              have hT := TK.out _ _ _ hp
              have PT1 := fun W R' => (PT0 W R').mono (fun e w' h => pout_ok h)
              obtain ⟨op6, nn6, ss6, args6⟩ := d
              dsimp only [exprC, ExprT.op, ExprT.n, ExprT.s, ExprT.args] at PT1
              have PT := Lib.hid PT1
              clear PT0 PT1 hp hx3
              have hgo := HG.out.1
              have HGO6 : Hid (Gr w.heap.size rb w w6) := Lib.hid (by repeat (first | (with_reducible exact Gr.refl _ _ _) | (with_reducible assumption) | ((with_reducible refine Gr.setCell ?_ ?hq1 _); (case hq1 => (first | (right; rfl) | (left; (first | (simp; done) | (simp; omega) | omega))))) | ((with_reducible refine Gr.alloc ?_ ?hq1 _); (case hq1 => (first | (simp; done) | (simp; omega) | omega))) | (with_reducible refine Gr.drew ?_) | exact Gr.of_below (by assumption) | refine Gr.trans ?_ (by assumption) (by first | (simp; done) | (simp; omega) | omega) | refine Gr.below ?_ (by assumption) (by first | (simp; done) | (simp; omega) | omega)))
              have HK6 : Hid (w6.heap[b9]? = wo.heap[b9]? ∧ w6.heap[w.heap.size]? = wo.heap[w.heap.size]?) := Lib.hid ⟨hg6.block _ (by omega) hb9'.1, hg6.block _ (by omega) hn0.1⟩
              have HV6 : Hid (EV (fun b => w.heap.size < b ∧ ¬ b = b9) w6 (.mk op nn ss args) [.int .i64 op, .int .i64 nn, .string ⟨ss.toArray⟩, .slice A4 args.length cc]) := Lib.hid (HC.out.2.keep (Kp.gr hg6 (by omega)))
              clear hgo
              go_region_law (first | (go_simp; (with_reducible refine (PT.out _ (by repeat (first | (with_reducible exact hR6') | ((with_reducible refine RdR.setCell ?_ ?hq1 ?hq2 _); (case hq1 => (first | (simp; done) | (simp; omega) | omega)); (case hq2 => (first | (simp; done) | (simp; omega) | omega))) | (with_reducible refine RdR.alloc ?_ _) | (with_reducible refine RdR.drew ?_) | refine RdR.below ?_ (by assumption)))).mono ?_); rintro e w7 ⟨A6, cc6, rfl, hv7, hR7, hg7⟩; have hs7 := hg7.size; (try simp only [drew_size] at hs7); obtain ⟨hc7, hf7⟩ := gcell hg7; (try simp only [drew_size, drew_cell, drew_frozen] at hc7 hf7); have hz7 : w.heap.size < w7.heap.size ∧ b9 < w7.heap.size ∧ ob < w7.heap.size := (by omega); have ho7 : w7.cell? ⟨ob, j, none⟩ = some (.int .i64 oi) := (hc7 ob j (by omega) hob.2).trans ho6))
              all_goals (
                go_wp2
                have HG7 : Hid (Gr w.heap.size rb w w7) := Lib.hid (Gr.trans (B := w.heap.size) (Gr.drew HGO6.out) hg7 (by simp only [drew_size]; omega))
                have hk7 : w7.heap[b9]? = some (.cells #[.int .i64 op, .int .i64 nn, .string ⟨ss.toArray⟩, .slice A4 args.length cc] 24 (0, 0)) := by
                  rw [hg7.block b9 (by simp only [drew_size]; omega) hb9'.1]
                  exact HK6.out.1.trans HC.out.1
                have hk8 : w7.heap[w.heap.size]? = some (.cells zeroE 24) := by
                  rw [hg7.block w.heap.size (by simp only [drew_size]; omega) hn0.1]
                  exact HK6.out.2.trans HG.out.2.1
                have hcx : EV (fun b => w.heap.size < b ∧ ¬ b = b9) w7 (.mk op nn ss args) [.int .i64 op, .int .i64 nn, .string ⟨ss.toArray⟩, .slice A4 args.length cc] := (HV6.out.keep (Kp.drew (Kp.refl _ _))).keep (Kp.gr hg7 (by omega))
                have hcy : EV (fun b => w.heap.size < b ∧ ¬ b = b9) w7 (.mk op6 nn6 ss6 args6) [.int .i64 op6, .int .i64 nn6, .string ⟨ss6.toArray⟩, .slice A6 args6.length cc6] := hv7.out.mono (fun b h1 h2 => by simp only [drew_size] at h2; omega)
                have how : OpsAt w7 ob ops A := (HOW6.out.kp (P := fun b => ¬ b = rb) (Kp.drew (Kp.refl _ _)) (fun a e => by have := HA9.out a e; omega) hob.2).kp (P := fun b => ¬ b = rb) (Kp.gr hg7 (by omega)) (fun a e => by have := HA9.out a e; omega) hob.2
                have HH := Lib.hid (And.intro hk7 (And.intro hk8 (And.intro hcx (And.intro hcy how))))
                clear hk7 hk8 hcx hcy how
                go_roundg r3.length
                case measure => have := hT.1; omega
                case rel =>
                  obtain ⟨hk7, hk8, hcx, hcy, how⟩ := HH.out
                  have hgg := HG7.out
                  have hrr := hR7.out
                  have hn := four_set hk7 (.int .i64 oi) (.int .i64 0) (.string ⟨#[]⟩) (.slice (some ⟨w7.heap.size, 0, none⟩) 2 2)
                  have kk : Kp (fun b => w.heap.size < b ∧ ¬ b = b9) w7 (((((w7.setCell ⟨b9, 0, none⟩ (.int .i64 oi)).setCell ⟨b9, 1, none⟩ (.int .i64 0)).setCell ⟨b9, 2, none⟩ (.string ⟨#[]⟩)).setCell ⟨b9, 3, none⟩ (.slice (some ⟨w7.heap.size, 0, none⟩) 2 2)).alloc (.cells #[.int .i64 op, .int .i64 nn, .string ⟨ss.toArray⟩, .slice A4 args.length cc, .int .i64 op6, .int .i64 nn6, .string ⟨ss6.toArray⟩, .slice A6 args6.length cc6] 24)) := (by repeat (first | (with_reducible exact Kp.refl _ _) | (with_reducible assumption) | ((with_reducible refine Kp.set ?_ ?hq1 _); (case hq1 => (first | (simp; done) | (simp; omega) | (dsimp only; omega)))) | (with_reducible refine Kp.alloc ?_ _) | (with_reducible refine Kp.drew ?_) | refine Kp.trans ?_ (Kp.gr (by assumption) (by first | (simp; done) | (simp; omega) | (dsimp only; omega)))))
                  have ko : Kp (fun b => ¬ b = rb ∧ ¬ b = b9) w7 (((((w7.setCell ⟨b9, 0, none⟩ (.int .i64 oi)).setCell ⟨b9, 1, none⟩ (.int .i64 0)).setCell ⟨b9, 2, none⟩ (.string ⟨#[]⟩)).setCell ⟨b9, 3, none⟩ (.slice (some ⟨w7.heap.size, 0, none⟩) 2 2)).alloc (.cells #[.int .i64 op, .int .i64 nn, .string ⟨ss.toArray⟩, .slice A4 args.length cc, .int .i64 op6, .int .i64 nn6, .string ⟨ss6.toArray⟩, .slice A6 args6.length cc6] 24)) := (by repeat (first | (with_reducible exact Kp.refl _ _) | (with_reducible assumption) | ((with_reducible refine Kp.set ?_ ?hq1 _); (case hq1 => (first | (simp; done) | (simp; omega) | (dsimp only; omega)))) | (with_reducible refine Kp.alloc ?_ _) | (with_reducible refine Kp.drew ?_) | refine Kp.trans ?_ (Kp.gr (by assumption) (by first | (simp; done) | (simp; omega) | (dsimp only; omega)))))
                  refine ⟨.mk oi 0 [] [(.mk op nn ss args), (.mk op6 nn6 ss6 args6)], [.int .i64 oi, .int .i64 0, .string ⟨#[]⟩, .slice (some ⟨w7.heap.size, 0, none⟩) 2 2], r3, m', rfl, by have := hT.1; omega, by have := hT.1; omega, HX3, Lib.hid ⟨hT.2.1 HE2.out.1, hT.2.2 HE2.out.2, (by repeat (first | (with_reducible exact hrr) | ((with_reducible refine RdR.setCell ?_ ?hq1 ?hq2 _); (case hq1 => (first | (simp; done) | (simp; omega) | omega)); (case hq2 => (first | (simp; done) | (simp; omega) | omega))) | (with_reducible refine RdR.alloc ?_ _) | (with_reducible refine RdR.drew ?_) | refine RdR.below ?_ (by assumption)))⟩, Lib.hid ⟨?_, ?_⟩, Lib.hid ⟨(by repeat (first | (with_reducible exact Gr.refl _ _ _) | (with_reducible assumption) | ((with_reducible refine Gr.setCell ?_ ?hq1 _); (case hq1 => (first | (right; rfl) | (left; (first | (simp; done) | (simp; omega) | omega))))) | ((with_reducible refine Gr.alloc ?_ ?hq1 _); (case hq1 => (first | (simp; done) | (simp; omega) | omega))) | (with_reducible refine Gr.drew ?_) | exact Gr.of_below (by assumption) | refine Gr.trans ?_ (by assumption) (by first | (simp; done) | (simp; omega) | omega) | refine Gr.below ?_ (by assumption) (by first | (simp; done) | (simp; omega) | omega))), ?_, by simp; omega⟩, Lib.hid (how.kp ko (fun a e => by have := HA9.out a e; (try dsimp only); omega) (by (try dsimp only); omega))⟩
                  · exact (((Below.refl _ _).alloc (Nat.le_refl _) _).block _ (by simp; omega)).trans hn
                  · unfold EV
                    refine ⟨_, _, rfl, ⟨Nat.le_refl _, by simp⟩, (fun h => by cases h), EVL.two ⟨by omega, by omega⟩ ?_ (hcx.keep kk) (hcy.keep kk)⟩
                    have := heap_alloc_new ((((w7.setCell ⟨b9, 0, none⟩ (.int .i64 oi)).setCell ⟨b9, 1, none⟩ (.int .i64 0)).setCell ⟨b9, 2, none⟩ (.string ⟨#[]⟩)).setCell ⟨b9, 3, none⟩ (.slice (some ⟨w7.heap.size, 0, none⟩) 2 2)) (.cells #[.int .i64 op, .int .i64 nn, .string ⟨ss.toArray⟩, .slice A4 args.length cc, .int .i64 op6, .int .i64 nn6, .string ⟨ss6.toArray⟩, .slice A6 args6.length cc6] 24)
                    simpa using this
                  · rw [((Below.refl _ _).alloc (Nat.le_refl _) _).block _ (by simp; omega)]
                    repeat rw [setCell_block _ _ _ _ hb9'.2.2.2.2.1]
                    exact hk8)
end Go.Proofs.YtnjlggleaocbdaaGreatDoor
