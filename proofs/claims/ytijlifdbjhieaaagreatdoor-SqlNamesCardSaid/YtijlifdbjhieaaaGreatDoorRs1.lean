/-
  A query that an argument reads as, whole; its texts and rows are no larger than memory reaches.
-/
import Derived.Test.YtijlifdbjhieaaaGreatDoorSm2
import Derived.ChangeSlices
import Derived.ChangeOld
import Derived.ChangeMaps5
import Derived.Lib.SmallJoins
import Derived.DataReads
namespace Go.Proofs.YtijlifdbjhieaaaGreatDoor
set_option linter.all false
open Go.ChangeShapes Go.WideShapes Go.ChangeAt Go.ChangeMaps Go.RowKit Go.Deep Go.Lib Go.Shelf

abbrev Wts (l : List Nat) : Prop := ∀ x ∈ l, x ≤ 1000000000000000
theorem pick_list {α : Type} {R : Nat → α → Prop} : ∀ (n : Nat), (∀ i, i < n → ∃ a, R i a) → ∃ l : List α, l.length = n ∧ ∀ i a, l[i]? = some a → R i a
  | 0, _ => ⟨[], rfl, fun i a h => by simp at h⟩
  | n + 1, h => by
    obtain ⟨l, hl, hr⟩ := pick_list n (fun i hi => h i (by omega))
    obtain ⟨a, ha⟩ := h n (by omega)
    refine ⟨l ++ [a], by simp [hl], fun i b hb => ?_⟩
    rcases Nat.lt_or_ge i n with k | k
    · rw [List.getElem?_append_left (by omega)] at hb
      exact hr i b hb
    · have hi := (List.getElem?_eq_some_iff.1 hb).1
      simp only [List.length_append, List.length_cons, List.length_nil] at hi
      obtain rfl : i = n := by omega
      rw [List.getElem?_append_right (by omega), hl, Nat.sub_self] at hb
      simp at hb; subst hb; exact ha
section
variable {H : Type} {enc : TypeId × Value → H} {W : World} {base : Nat} {spare : Nat → Bool} {held : Bool} {r : Reach} {b0 : Nat} {v : Value} {d : DataW H} {p : List MemPlace}
theorem weightsAll_mem {e : TypeId} : ∀ {l : List (DataW H)} {d : DataW H}, d ∈ l → ∀ {y : Nat}, y ∈ d.weights Tryz.prog e → y ∈ DataW.weightsAll Tryz.prog e l
  | x :: l, d, h, y, hy => by
    simp only [DataW.weightsAll, List.mem_append]
    rcases List.mem_cons.1 h with rfl | h
    · exact .inl hy
    · exact .inr (weightsAll_mem h hy)
/-- A slice that an argument reads as, each element by its own law. -/
theorem slice_open {α : Type} {t e : TypeId} {sz : Nat} {R : List Value → α → Prop} (ht : Tryz.prog.underlying t = some (.slice e)) (hce : Tryz.prog.cellsOf e = sz) (hsz : 1 ≤ sz) (hby : 1 ≤ Tryz.prog.bytesOf e) {fuel : Nat}
    (he : ∀ n, n < fuel → ∀ cs x, DataW.trod enc Tryz.prog W base spare held n e cs = some x → Wts (x.1.weights Tryz.prog e) → ∃ a, R cs a)
    {cs : List Value} {x : DataW H × List MemPlace} (h : DataW.trod enc Tryz.prog W base spare held fuel t cs = some x) (hw : Wts (x.1.weights Tryz.prog t)) :
    ∃ (A : Option Addr) (cap : Nat) (l : List α), cs = [.slice A l.length cap] ∧ l.length ≤ 1000000000000000 ∧ l.length ≤ cap ∧ (A = none → cap = 0) ∧
      ∀ i a, l[i]? = some a → ∃ b off cs', A = some ⟨b, off, none⟩ ∧ b < W.heap.size ∧ (∀ j v, cs'[j]? = some v → W.cell? ⟨b, off + i * sz + j, none⟩ = some v) ∧ R cs' a := by
  rcases DataW.trod_slice ht h with ⟨rfl, rfl⟩ | ⟨a, len, cap, elems, rest, n, rfl, rfl, rfl, hb, hl, hm, hlen, hel, -, -⟩
  · exact ⟨none, 0, [], rfl, by simp, by simp, fun _ => rfl, fun i a h => by simp at h⟩
  · simp only [DataW.weights, ht, List.length_map] at hw
    have hw0 := hw _ (List.mem_cons_self ..)
    have hlen1 : len ≤ 1000000000000000 := by
      have : elems.length ≤ (elems.length + rest.length) * Tryz.prog.bytesOf e := Nat.le_trans (by omega) (Nat.le_mul_of_pos_right _ hby)
      omega
    have hall : ∀ i, i < len → ∃ y : α, ∃ b off cs', (some a : Option Addr) = some ⟨b, off, none⟩ ∧ b < W.heap.size ∧ (∀ j v, cs'[j]? = some v → W.cell? ⟨b, off + i * sz + j, none⟩ = some v) ∧ R cs' y := by
      intro i hi
      have he1 := hel i hi
      obtain ⟨ex, hex⟩ : ∃ ex, elems[i]? = some ex := ⟨_, List.getElem?_eq_getElem (by omega)⟩
      rw [hex, Option.bind_eq_some_iff] at he1
      obtain ⟨cs', hc1, hc2⟩ := he1
      rw [hce] at hc1
      obtain ⟨-, hlen', hcell⟩ := World.cells?_some hc1
      obtain ⟨y, hy⟩ := he n (by omega) cs' ex hc2 (fun z hz => hw z (by
        refine List.mem_cons_of_mem _ (List.mem_append_left _ (weightsAll_mem (d := ex.1) ?_ hz))
        exact List.mem_map.2 ⟨ex, List.mem_of_getElem? hex, rfl⟩))
      have h0 := hcell 0 (by omega)
      have h00 : cs'[0]? = some (cs'[0]'(by omega)) := List.getElem?_eq_getElem (by omega)
      rw [h00] at h0
      have hsp : a.spot = none := by
        have he0 := hel 0 (by omega)
        obtain ⟨ex0, hex0⟩ : ∃ ex, elems[0]? = some ex := ⟨_, List.getElem?_eq_getElem (by omega)⟩
        rw [hex0, Option.bind_eq_some_iff] at he0
        obtain ⟨cs0, hc0, -⟩ := he0
        rw [hce] at hc0
        obtain ⟨-, hl0, hcell0⟩ := World.cells?_some hc0
        have g0 := hcell0 0 (by omega)
        have g00 : cs0[0]? = some (cs0[0]'(by omega)) := List.getElem?_eq_getElem (by omega)
        rw [g00, Nat.zero_mul] at g0
        exact World.cell?_spot g0
      obtain ⟨b, off, spot⟩ := a
      obtain rfl : spot = none := hsp
      have ea : ∀ o j, (Addr.add ⟨b, o, none⟩ j) = ⟨b, o + j, none⟩ := fun o j => by unfold Addr.add; split <;> simp_all
      simp only [ea] at hcell h0
      refine ⟨y, b, off, cs', rfl, World.block_lt_of_cell? W _ h0, fun j v hj => ?_, hy⟩
      have hcj := hcell j (by have := (List.getElem?_eq_some_iff.1 hj).1; omega)
      rw [hj] at hcj
      exact hcj
    obtain ⟨l, hll, hr⟩ := pick_list len hall
    subst hll
    exact ⟨some a, cap, l, rfl, hlen1, hl, (fun h => (by cases h)), hr⟩
theorem w_str {s : ByteArray} {t : TypeId} (h : Wts ((DataW.lit (.string s.data.toList) : DataW H).weights Tryz.prog t)) : s.data.toList.length ≤ 1000000000000000 := h _ (by simp [DataW.weights])
theorem ba_back' (s : ByteArray) : Value.string s = .string ⟨s.data.toList.toArray⟩ := by cases s; simp
set_option maxRecDepth 100000 in
theorem str_open {fuel : Nat} {cs : List Value} {x : DataW H × List MemPlace} (h : DataW.trod enc Tryz.prog W base spare held fuel 9 cs = some x) (hw : Wts (x.1.weights Tryz.prog 9)) : ∃ l : List UInt8, cs = [.string ⟨l.toArray⟩] ∧ l.length ≤ 1000000000000000 := by
  obtain ⟨s, rfl, rfl, -⟩ := DataW.trod_string Tryz.underlying9 h
  exact ⟨s.data.toList, by rw [ba_back' s], w_str hw⟩
theorem int_open {fuel : Nat} {cs : List Value} {x : DataW H × List MemPlace} (h : DataW.trod enc Tryz.prog W base spare held fuel 3 cs = some x) : ∃ n : Int, cs = [.int .i64 n] ∧ -9223372036854775808 ≤ n ∧ n ≤ 9223372036854775807 := by
  obtain ⟨n, rfl, -, hwf⟩ := DataW.trod_int Tryz.underlying3 h
  have : -9223372036854775808 ≤ n ∧ n ≤ 9223372036854775807 := by
    simp [Lit.wf, IntKind.min, IntKind.max, IntKind.signed, IntKind.bits] at hwf; omega
  exact ⟨n, rfl, this⟩
set_option maxRecDepth 100000 in
theorem term_open {fuel : Nat} {cs : List Value} {x : DataW H × List MemPlace} (h : DataW.trod enc Tryz.prog W base spare held fuel 25 cs = some x) (hw : Wts (x.1.weights Tryz.prog 25)) :
    ∃ t : TermT, cs = termC t ∧ t.col.length ≤ 1000000000000000 ∧ t.s.length ≤ 1000000000000000 := by
  obtain ⟨xs, n, rfl, rfl, hl, hxl, hf⟩ := DataW.trod_struct Tryz.underlying25 h
  have hc4 : Tryz.prog.cellsOf 25 = 4 := by kernel_rfl
  rw [hc4] at hl
  match cs, hl with
  | [c0, c1, c2, c3], _ =>
    match xs, hxl with
    | [y0, y1, y2, y3], _ =>
      have k0 := hf 0 _ rfl
      have k1 := hf 1 _ rfl
      have k2 := hf 2 _ rfl
      have k3 := hf 3 _ rfl
      have s1 : Tryz.prog.cellsOf 9 = 1 := by kernel_rfl
      have s2 : Tryz.prog.cellsOf 3 = 1 := by kernel_rfl
      simp only [s1, s2, List.drop_zero, List.drop_succ_cons, List.take_succ_cons, List.take_zero, List.getElem?_cons_zero, List.getElem?_cons_succ] at k0 k1 k2 k3
      have e : ∀ z, z ∈ DataW.weightsEach Tryz.prog [9, 3, 3, 9] [y0.1, y1.1, y2.1, y3.1] → z ≤ 1000000000000000 := fun z hz => hw z (by simp only [DataW.weights, Tryz.underlying25]; exact hz)
      simp only [DataW.weightsEach, List.mem_append, List.not_mem_nil, or_false] at e
      obtain ⟨a0, h0, w0⟩ := str_open k0 (fun z hz => e z (.inl hz))
      obtain ⟨a1, h1, -⟩ := int_open k1
      obtain ⟨a2, h2, -⟩ := int_open k2
      obtain ⟨a3, h3, w3⟩ := str_open k3 (fun z hz => e z (.inr (.inr (.inr hz))))
      replace h0 : [c0] = _ := h0
      replace h1 : [c1] = _ := h1
      replace h2 : [c2] = _ := h2
      replace h3 : [c3] = _ := h3
      simp only [List.cons.injEq, and_true] at h0 h1 h2 h3
      subst h0 h1 h2 h3
      exact ⟨⟨a0, a1, a2, a3⟩, rfl, w0, w3⟩
set_option maxRecDepth 100000 in
theorem cond_open : ∀ (fuel : Nat) (cs : List Value) (x : DataW H × List MemPlace), DataW.trod enc Tryz.prog W base spare held fuel 27 cs = some x → Wts (x.1.weights Tryz.prog 27) → ∃ t, CV (fun _ => True) W t cs ∧ LtC 1000000000000000 t := by
  intro fuel
  induction fuel using Nat.strongRecOn with
  | _ fuel ih =>
    intro cs x h hw
    obtain ⟨xs, n, rfl, rfl, hl, hxl, hf⟩ := DataW.trod_struct Tryz.underlying27 h
    have hc10 : Tryz.prog.cellsOf 27 = 10 := by kernel_rfl
    rw [hc10] at hl
    match cs, hl with
    | [c0, c1, c2, c3, c4, c5, c6, c7, c8, c9], _ =>
      match xs, hxl with
      | [y0, y1, y2, y3], _ =>
        have k0 := hf 0 _ rfl
        have k1 := hf 1 _ rfl
        have k2 := hf 2 _ rfl
        have k3 := hf 3 _ rfl
        have s1 : Tryz.prog.cellsOf 23 = 1 := by kernel_rfl
        have s2 : Tryz.prog.cellsOf 3 = 1 := by kernel_rfl
        have s3 : Tryz.prog.cellsOf 25 = 4 := by kernel_rfl
        simp only [s1, s2, s3, List.drop_zero, List.drop_succ_cons, List.take_succ_cons, List.take_zero, List.getElem?_cons_zero, List.getElem?_cons_succ] at k0 k1 k2 k3
        have e : ∀ z, z ∈ DataW.weightsEach Tryz.prog [3, 23, 25, 25] [y0.1, y1.1, y2.1, y3.1] → z ≤ 1000000000000000 := fun z hz => hw z (by simp only [DataW.weights, Tryz.underlying27]; exact hz)
        simp only [DataW.weightsEach, List.mem_append, List.not_mem_nil, or_false] at e
        obtain ⟨a0, h0, -⟩ := int_open k0
        obtain ⟨A, cap, l, h1, l1, l2, l3, l4⟩ := slice_open (α := CondT) (sz := 10) (R := fun cs t => CV (fun _ => True) W t cs ∧ LtC 1000000000000000 t) Tryz.underlying23 hc10 (by decide) (of_decide_eq_true (by kernel_rfl)) (fun m hm cs x hx hwx => ih m (by omega) cs x hx hwx) k1 (fun z hz => e z (.inr (.inl hz)))
        obtain ⟨a2, h2, w21, w22⟩ := term_open k2 (fun z hz => e z (.inr (.inr (.inl hz))))
        obtain ⟨a3, h3, w31, w32⟩ := term_open k3 (fun z hz => e z (.inr (.inr (.inr hz))))
        refine ⟨.mk a0 l a2 a3, ?_, ?_⟩
        · unfold CV
          refine ⟨A, cap, ?_, ⟨l2, l1⟩, l3, CVL.mk fun k x hk => ?_⟩
          · have e1 : [c0, c1, c2, c3, c4, c5, c6, c7, c8, c9] = [c0] ++ [c1] ++ [c2, c3, c4, c5] ++ [c6, c7, c8, c9] := rfl
            rw [e1, show [c0] = _ from h0, show [c1] = _ from h1, show [c2, c3, c4, c5] = _ from h2, show [c6, c7, c8, c9] = _ from h3]; rfl
          · obtain ⟨b, off, cs', q1, q2, q3, q4, -⟩ := l4 k x hk
            exact ⟨b, off, cs', q1, trivial, q2, fun j v hj => by rw [Nat.zero_add]; exact q3 j v hj, q4⟩
        · unfold LtC
          refine ⟨⟨w21, w22, w31, w32, l1⟩, ?_⟩
          have : ∀ (l : List CondT), (∀ i x, l[i]? = some x → LtC 1000000000000000 x) → LtL 1000000000000000 l := fun l => by
            induction l with
            | nil => intro _; unfold LtL; trivial
            | cons y l ih => intro h; unfold LtL; exact ⟨h 0 y rfl, ih fun i x hi => h (i + 1) x (by simpa using hi)⟩
          exact this l fun i x hi => by obtain ⟨_, _, _, _, _, _, _, q⟩ := l4 i x hi; exact q
set_option maxRecDepth 100000 in
theorem item_open {fuel : Nat} {cs : List Value} {x : DataW H × List MemPlace} (h : DataW.trod enc Tryz.prog W base spare held fuel 54 cs = some x) (hw : Wts (x.1.weights Tryz.prog 54)) :
    ∃ t : ItemT, cs = [.string ⟨t.agg.toArray⟩, .string ⟨t.col.toArray⟩] ∧ t.agg.length ≤ 1000000000000000 ∧ t.col.length ≤ 1000000000000000 := by
  obtain ⟨xs, n, rfl, rfl, hl, hxl, hf⟩ := DataW.trod_struct Tryz.underlying54 h
  have hc4 : Tryz.prog.cellsOf 54 = 2 := by kernel_rfl
  rw [hc4] at hl
  match cs, hl with
  | [c0, c1], _ =>
    match xs, hxl with
    | [y0, y1], _ =>
      have k0 := hf 0 _ rfl
      have k1 := hf 1 _ rfl
      have s1 : Tryz.prog.cellsOf 9 = 1 := by kernel_rfl
      simp only [s1, List.drop_zero, List.drop_succ_cons, List.take_succ_cons, List.take_zero, List.getElem?_cons_zero, List.getElem?_cons_succ] at k0 k1
      have e : ∀ z, z ∈ DataW.weightsEach Tryz.prog [9, 9] [y0.1, y1.1] → z ≤ 1000000000000000 := fun z hz => hw z (by simp only [DataW.weights, Tryz.underlying54]; exact hz)
      simp only [DataW.weightsEach, List.mem_append, List.not_mem_nil, or_false] at e
      obtain ⟨a0, h0, w0⟩ := str_open k0 (fun z hz => e z (.inl hz))
      obtain ⟨a1, h1, w1⟩ := str_open k1 (fun z hz => e z (.inr hz))
      replace h0 : [c0] = _ := h0
      replace h1 : [c1] = _ := h1
      simp only [List.cons.injEq, and_true] at h0 h1
      subst h0 h1
      exact ⟨⟨a0, a1⟩, rfl, w0, w1⟩
set_option maxRecDepth 100000 in
theorem order_open {fuel : Nat} {cs : List Value} {x : DataW H × List MemPlace} (h : DataW.trod enc Tryz.prog W base spare held fuel 68 cs = some x) (hw : Wts (x.1.weights Tryz.prog 68)) :
    ∃ t : OrderT, cs = [.string ⟨t.col.toArray⟩, .bool t.desc] ∧ t.col.length ≤ 1000000000000000 := by
  obtain ⟨xs, n, rfl, rfl, hl, hxl, hf⟩ := DataW.trod_struct Tryz.underlying68 h
  have hc4 : Tryz.prog.cellsOf 68 = 2 := by kernel_rfl
  rw [hc4] at hl
  match cs, hl with
  | [c0, c1], _ =>
    match xs, hxl with
    | [y0, y1], _ =>
      have k0 := hf 0 _ rfl
      have k1 := hf 1 _ rfl
      have s1 : Tryz.prog.cellsOf 9 = 1 := by kernel_rfl
      have s2 : Tryz.prog.cellsOf 4 = 1 := by kernel_rfl
      simp only [s1, s2, List.drop_zero, List.drop_succ_cons, List.take_succ_cons, List.take_zero, List.getElem?_cons_zero, List.getElem?_cons_succ] at k0 k1
      have e : ∀ z, z ∈ DataW.weightsEach Tryz.prog [9, 4] [y0.1, y1.1] → z ≤ 1000000000000000 := fun z hz => hw z (by simp only [DataW.weights, Tryz.underlying68]; exact hz)
      simp only [DataW.weightsEach, List.mem_append, List.not_mem_nil, or_false] at e
      obtain ⟨a0, h0, w0⟩ := str_open k0 (fun z hz => e z (.inl hz))
      obtain ⟨a1, h1, -⟩ := DataW.trod_bool Tryz.underlying4 k1
      replace h0 : [c0] = _ := h0
      replace h1 : [c1] = _ := h1
      simp only [List.cons.injEq, and_true] at h0 h1
      subst h0 h1
      exact ⟨⟨a0, a1⟩, rfl, w0⟩
set_option maxRecDepth 100000 in
set_option maxHeartbeats 4000000 in
/-- A query that an argument reads as. -/
theorem query_arg (hval : Value.okWide Tryz.prog W r b0 31 v) (h : DataW.Trod enc Tryz.prog W base spare held 31 v d p) (hw : Wts (d.weights Tryz.prog 31)) :
    ∃ (q : QueryT) (AI AG AO : Option Addr) (cI cG cO : Nat) (cs : List Value), v = .agg (qCells AI q.items.length cI q.table cs AG q.group.length cG AO q.order.length cO q.limit).toArray ∧ QV W q AI AG AO cs ∧ QBig q ∧
      (q.group.length ≤ cG ∧ (AG = none → cG = 0)) ∧ -9223372036854775808 ≤ q.limit ∧ q.limit ≤ 9223372036854775807 := by
  obtain ⟨csa, rfl, hsz⟩ := okWide_struct Tryz.underlying31 hval
  obtain ⟨fuel, hf0⟩ := h
  have hcs : (Value.agg csa).cells.toList = csa.toList := rfl
  rw [hcs] at hf0
  obtain ⟨csl⟩ := csa
  dsimp only at hf0
  obtain ⟨xs, n, rfl, hxe, hl, hxl, hf⟩ := DataW.trod_struct Tryz.underlying31 hf0
  have hc15 : Tryz.prog.cellsOf 31 = 15 := by kernel_rfl
  rw [hc15] at hl
  obtain ⟨rfl, -⟩ := Prod.mk.inj hxe
  match csl, hl with
  | [c0, c1, c2, c3, c4, c5, c6, c7, c8, c9, c10, c11, c12, c13, c14], _ =>
    match xs, hxl with
    | [y0, y1, y2, y3, y4, y5], _ =>
      have k0 := hf 0 _ rfl
      have k1 := hf 1 _ rfl
      have k2 := hf 2 _ rfl
      have k3 := hf 3 _ rfl
      have k4 := hf 4 _ rfl
      have k5 := hf 5 _ rfl
      have s0 : Tryz.prog.cellsOf 22 = 1 := by kernel_rfl
      have s1 : Tryz.prog.cellsOf 9 = 1 := by kernel_rfl
      have s2 : Tryz.prog.cellsOf 27 = 10 := by kernel_rfl
      have s3 : Tryz.prog.cellsOf 28 = 1 := by kernel_rfl
      have s4 : Tryz.prog.cellsOf 29 = 1 := by kernel_rfl
      have s5 : Tryz.prog.cellsOf 3 = 1 := by kernel_rfl
      have s6 : Tryz.prog.cellsOf 54 = 2 := by kernel_rfl
      have s7 : Tryz.prog.cellsOf 68 = 2 := by kernel_rfl
      simp only [s0, s1, s2, s3, s4, s5, List.drop_zero, List.drop_succ_cons, List.take_succ_cons, List.take_zero, List.getElem?_cons_zero, List.getElem?_cons_succ] at k0 k1 k2 k3 k4 k5
      have e : ∀ z, z ∈ DataW.weightsEach Tryz.prog [22, 9, 27, 28, 29, 3] [y0.1, y1.1, y2.1, y3.1, y4.1, y5.1] → z ≤ 1000000000000000 := fun z hz => hw z (by simp only [DataW.weights, Tryz.underlying31]; exact hz)
      simp only [DataW.weightsEach, List.mem_append, List.not_mem_nil, or_false] at e
      obtain ⟨AI, cI, I, h0, i1, i2, i3, i4⟩ := slice_open (α := ItemT) (sz := 2) (R := fun cs t => cs = [.string ⟨t.agg.toArray⟩, .string ⟨t.col.toArray⟩] ∧ t.agg.length ≤ 1000000000000000 ∧ t.col.length ≤ 1000000000000000) Tryz.underlying22 s6 (by decide) (of_decide_eq_true (by kernel_rfl)) (fun m hm cs x hx hwx => item_open hx hwx) k0 (fun z hz => e z (.inl hz))
      obtain ⟨T, h1, t1⟩ := str_open k1 (fun z hz => e z (.inr (.inl hz)))
      obtain ⟨C, hC, hCL⟩ := cond_open _ _ _ k2 (fun z hz => e z (.inr (.inr (.inl hz))))
      obtain ⟨AG, cG, G, h3, g1, g2, g3, g4⟩ := slice_open (α := List UInt8) (sz := 1) (R := fun cs t => cs = [.string ⟨t.toArray⟩] ∧ t.length ≤ 1000000000000000) Tryz.underlying28 s1 (by decide) (of_decide_eq_true (by kernel_rfl)) (fun m hm cs x hx hwx => str_open hx hwx) k3 (fun z hz => e z (.inr (.inr (.inr (.inl hz)))))
      obtain ⟨AO, cO, O, h4, o1, o2, o3, o4⟩ := slice_open (α := OrderT) (sz := 2) (R := fun cs t => cs = [.string ⟨t.col.toArray⟩, .bool t.desc] ∧ t.col.length ≤ 1000000000000000) Tryz.underlying29 s7 (by decide) (of_decide_eq_true (by kernel_rfl)) (fun m hm cs x hx hwx => order_open hx hwx) k4 (fun z hz => e z (.inr (.inr (.inr (.inr (.inl hz))))))
      obtain ⟨lim, h5, l1, l2⟩ := int_open k5
      replace h0 : [c0] = _ := h0
      replace h1 : [c1] = _ := h1
      replace h3 : [c12] = _ := h3
      replace h4 : [c13] = _ := h4
      replace h5 : [c14] = _ := h5
      replace hC : CV (fun _ => True) W C [c2, c3, c4, c5, c6, c7, c8, c9, c10, c11] := hC
      simp only [List.cons.injEq, and_true] at h0 h1 h3 h4 h5
      subst h0 h1 h3 h4 h5
      refine ⟨⟨I, T, C, G, O, lim⟩, AI, AG, AO, cI, cG, cO, [c2, c3, c4, c5, c6, c7, c8, c9, c10, c11], rfl, ⟨fun i x hi => ?_, fun i x hi => ?_, fun i x hi => ?_, hC⟩, ⟨fun x hx => ?_, t1, fun x hx => ?_, fun x hx => ?_, hCL, i1, g1, o1⟩, ⟨g2, g3⟩, l1, l2⟩
      · obtain ⟨b, off, cs', q1, q2, q3, rfl, -⟩ := i4 i x hi
        exact ⟨b, off, q1, q2, q3 0 _ rfl, q3 1 _ rfl⟩
      · obtain ⟨b, off, cs', q1, q2, q3, rfl, -⟩ := g4 i x hi
        exact ⟨b, off, q1, q2, by have := q3 0 _ rfl; rwa [Nat.mul_one] at this⟩
      · obtain ⟨b, off, cs', q1, q2, q3, rfl, -⟩ := o4 i x hi
        exact ⟨b, off, q1, q2, q3 0 _ rfl, q3 1 _ rfl⟩
      · obtain ⟨i, hi⟩ := List.getElem?_of_mem hx
        obtain ⟨_, _, _, _, _, _, _, q⟩ := i4 i x hi; exact q
      · obtain ⟨i, hi⟩ := List.getElem?_of_mem hx
        obtain ⟨_, _, _, _, _, _, _, q⟩ := g4 i x hi; exact q
      · obtain ⟨i, hi⟩ := List.getElem?_of_mem hx
        obtain ⟨_, _, _, _, _, _, _, q⟩ := o4 i x hi; exact q
end
end Go.Proofs.YtijlifdbjhieaaaGreatDoor
