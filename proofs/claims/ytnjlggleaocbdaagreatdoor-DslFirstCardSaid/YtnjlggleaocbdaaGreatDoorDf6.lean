/-
  The printer in memory; contract of its operand, given lay's.
-/
import Derived.Test.YtnjlggleaocbdaaGreatDoorDf4
import Derived.Lib.Builder
import Derived.Lib.AppendStr
import Derived.Laws.AppendOwn
import Derived.Lib.OthersKept
import Derived.Lib.OwnKind
import Derived.Test.YtnjlggleaocbdaaGreatDoorQz

/-
  Contracts of strings.Builder's writing methods, the builder a variable or the first field of one.
-/
namespace Go.Proofs.YtnjlggleaocbdaaGreatDoor
set_option linter.all false
open Go.RowKit
attribute [local go_sem] cell_set_self lt_1 lt_2 lt_3 lt_4 lt_5 lt_6

theorem Tryz.sizeBuilder : (Tryz.prog.info? 71).map (·.size) = some 2 := by kernel_rfl
theorem lies_builder : liesAt Tryz.prog Tryz.prog.depth 71 (2 / Tryz.prog.cellsOf 71) 0 71 1 = true := by kernel_rfl
theorem lies_printer : liesAt Tryz.prog Tryz.prog.depth 73 (2 / Tryz.prog.cellsOf 73) 0 71 1 = true := by kernel_rfl
theorem Tryz.infoByte : (Tryz.prog.info? 5).map (fun i => (i.zero, i.size, i.bytes)) = some (some (.int .u8 0), 1, 1) := by kernel_rfl

set_option maxHeartbeats 2000000 in
set_option maxRecDepth 100000 in
theorem copyCheck_used (b : Nat) (w : World) (h0 : w.cell? ⟨b, 0, none⟩ = some (.pointer (some ⟨b, 0, none⟩))) :
    Calls Tryz.prog 58 #[.pointer (some ⟨b, 0, none⟩)] w fun e w' => e = .returned (.tuple #[]) ∧ w' = w := by
  obtain ⟨j, hj, _⟩ := Option.map_eq_some_iff.1 Tryz.sizeBuilder
  go_enter Tryz.func58, Tryz.ntmps58
  go_wp2
  rw [Lib.run_neq_ptr_same w _ Tryz.underlying68 hj]
  go_wp2
  go_end0
  exact ⟨rfl, rfl⟩
set_option maxHeartbeats 2000000 in
set_option maxRecDepth 100000 in
theorem copyCheck_fresh (T : TypeId) (hl : liesAt Tryz.prog Tryz.prog.depth T (2 / Tryz.prog.cellsOf T) 0 71 1 = true) (b : Nat) (w : World) (h0 : w.cell? ⟨b, 0, none⟩ = some (.pointer none)) (hsh : w.shape? b = some (T, 2)) (hfz : w.frozen? ⟨b, 0, none⟩ = false) :
    Calls Tryz.prog 58 #[.pointer (some ⟨b, 0, none⟩)] w fun e w' => e = .returned (.tuple #[]) ∧ w' = w.setCell ⟨b, 0, none⟩ (.pointer (some ⟨b, 0, none⟩)) := by
  obtain ⟨j, hj, hjs⟩ := Option.map_eq_some_iff.1 Tryz.sizeBuilder
  go_enter Tryz.func58, Tryz.ntmps58
  go_wp2
  rw [Lib.run_to_unsafe w ⟨b, 0, none⟩ Tryz.underlying68 Tryz.underlying129 hj (by rw [hjs]; decide) hsh (Nat.zero_lt_succ 1)]
  simp only [Result.andThen]
  rw [Oper.upon_value]
  go_wp2
  rw [run_callFunc_extern Tryz.func75 (by kernel_rfl) (by kernel_rfl) (by kernel_rfl) (e := Extern.AbiNoEscape.same) (by kernel_rfl)]
  rw [Lib.run_noEscape]
  simp only [Result.andThen]
  rw [Oper.upon_value]
  go_wp2
  rw [Lib.run_from_unsafe w ⟨b, 0, none⟩ Tryz.underlying129 Tryz.underlying68 hj hsh hl]
  simp only [Result.andThen]
  rw [Oper.upon_value]
  go_wp2
  go_end0
  exact ⟨rfl, rfl⟩
theorem copyCheck_any (T : TypeId) (hl : liesAt Tryz.prog Tryz.prog.depth T (2 / Tryz.prog.cellsOf T) 0 71 1 = true) (B b : Nat) (bs : List Value) (w : World) (h : Lib.IsBuilder T 5 B b bs w) :
    Calls Tryz.prog 58 #[.pointer (some ⟨b, 0, none⟩)] w fun e w' => e = .returned (.tuple #[]) ∧ (Lib.BuilderAt T 5 B b (.pointer (some ⟨b, 0, none⟩)) bs w' ∧ Below B w w' ∧ Lib.OthersKept 5 (some b) w w') := by
  rcases h with h | h
  · refine (copyCheck_fresh T hl b w h.cell0 h.shape h.frozen0).mono ?_
    rintro e w' ⟨rfl, rfl⟩
    exact ⟨rfl, h.used _, (Below.refl B w).setCell (p := ⟨b, 0, none⟩) h.1 _, (Lib.OthersKept.refl _ _ w).setCell ⟨b, 0, none⟩ rfl _⟩
  · refine (copyCheck_used b w h.cell0).mono ?_
    rintro e w' ⟨rfl, rfl⟩
    exact ⟨rfl, h, Below.refl B _, Lib.OthersKept.refl _ _ _⟩

set_option maxHeartbeats 4000000 in
set_option maxRecDepth 100000 in
theorem writeByte_any (T : TypeId) (hT : T ≠ 5) (hl : liesAt Tryz.prog Tryz.prog.depth T (2 / Tryz.prog.cellsOf T) 0 71 1 = true) (B b : Nat) (bs : List Value) (c : Int) (w : World) (h : Lib.IsBuilder T 5 B b bs w) (hlen : bs.length + 1 ≤ 140737488355328) (hBw : B ≤ w.heap.size) :
    Calls Tryz.prog 44 #[.pointer (some ⟨b, 0, none⟩), .int .u8 c] w fun e w' => e = .returned .nilIface ∧ (Lib.BuilderAt T 5 B b (.pointer (some ⟨b, 0, none⟩)) (bs ++ [.int .u8 c]) w' ∧ Below B w w' ∧ Lib.OthersKept 5 (some b) w w') := by
  obtain ⟨i0, hi, hz0, hz1, hz2⟩ := info_parts Tryz.infoByte
  go_enter Tryz.func44, Tryz.ntmps44
  go_wp2_with (go_at_call 58; refine (copyCheck_any T hl B b bs _ h).mono ?_)
  rintro e w1 ⟨rfl, h1, hb1, hk1⟩
  have HK := Lib.hid hk1
  clear hk1
  obtain ⟨hB, v, hbk, hown, hne⟩ := h1
  have c0 : w1.cell? ⟨b, 0, none⟩ = some (.pointer (some ⟨b, 0, none⟩)) := by rw [Lib.cell_of_heap hbk]; rfl
  have c1 : w1.cell? ⟨b, 1, none⟩ = some v := by rw [Lib.cell_of_heap hbk]; rfl
  go_wp2_with (at_builtin; refine wpList_append_own _ rfl _ _ 69 rfl B 5 i0 (.int .u8 0) 1 1 Tryz.underlying69 hi hz0 hz1 hz2 rfl (by decide) _ _ _ rfl (hown.alloc _) ⟨w1.heap.size, 0, none⟩ 1 1 [.int .u8 c] rfl rfl ?c1 ?c2 ?c3 ?c4 ?c5 ?_)
  case c1 =>
    intro j u hj
    match j, hj with
    | 0, hj => simp at hj; subst hj; simp [Addr.add]
  case c2 => intro u hu; simp at hu; subst hu; rfl
  case c3 => unfold maxLen; omega
  case c4 => omega
  case c5 => have := hb1.size; simp; omega
  intro v' w2 hown' hgrow _
  have hlt : b < w1.heap.size := by
    rcases Nat.lt_or_ge b w1.heap.size with h' | h'
    · exact h'
    · simp [Array.getElem?_eq_none h'] at hbk
  have hb2 : w2.heap[b]? = some (.cells #[.pointer (some ⟨b, 0, none⟩), v] T (0, 0)) := by
    rw [hgrow.block b (by simp; omega) (fun e => hne e.symm), Lib.alloc_old w1 _ b hlt]
    exact hbk
  have d0 : w2.cell? ⟨b, 0, none⟩ = some (.pointer (some ⟨b, 0, none⟩)) := by rw [Lib.cell_of_heap hb2]; rfl
  have d1 : w2.cell? ⟨b, 1, none⟩ = some v := by rw [Lib.cell_of_heap hb2]; rfl
  have f1 : w2.frozen? ⟨b, 1, none⟩ = false := Lib.frozen_of_heap hb2 1
  obtain ⟨g, cap, rfl⟩ : ∃ g cap, v' = .slice (some ⟨g, 0, none⟩) (bs.length + 1) cap := by
    rcases hown'.2 with ⟨_, h0⟩ | ⟨g, cap, cur, hv, _⟩
    · omega
    · exact ⟨g, cap, hv⟩
  go_wp2
  go_ret
  refine ⟨rfl, ?_, ?_, ?_⟩
  · exact Lib.BuilderAt.put (T := T) (e := 5) hB hb2 (bs' := bs ++ [.int .u8 c]) (by simpa using hown') hT
  · exact ((hb1.alloc (by have := hb1.size; omega) _).grown hgrow (by have := hb1.size; simp; omega) (fun k hk => (hown.lt k hk).1)).setCell (p := ⟨b, 1, none⟩) hB _
  · exact ((HK.out.alloc _).grown hgrow (Lib.ownsRow_kind (hown.alloc _))).setCell ⟨b, 1, none⟩ rfl _

set_option maxHeartbeats 4000000 in
set_option maxRecDepth 100000 in
theorem writeString_any (T : TypeId) (hT : T ≠ 5) (hl : liesAt Tryz.prog Tryz.prog.depth T (2 / Tryz.prog.cellsOf T) 0 71 1 = true) (B b : Nat) (bs : List Value) (s : ByteArray) (w : World) (h : Lib.IsBuilder T 5 B b bs w) (hlen : bs.length + s.size ≤ 140737488355328) (hBw : B ≤ w.heap.size) :
    Calls Tryz.prog 36 #[.pointer (some ⟨b, 0, none⟩), .string s] w fun e w' => e = .returned (.tuple #[.int .i64 s.size, .nilIface]) ∧ (Lib.BuilderAt T 5 B b (.pointer (some ⟨b, 0, none⟩)) (bs ++ Lib.strCells s) w' ∧ Below B w w' ∧ Lib.OthersKept 5 (some b) w w') := by
  obtain ⟨i0, hi, hz0, hz1, hz2⟩ := info_parts Tryz.infoByte
  go_enter Tryz.func36, Tryz.ntmps36
  go_wp2_with (go_at_call 58; refine (copyCheck_any T hl B b bs _ h).mono ?_)
  rintro e w1 ⟨rfl, h1, hb1, hk1⟩
  have HK := Lib.hid hk1
  clear hk1
  obtain ⟨hB, v, hbk, hown, hne⟩ := h1
  have c0 : w1.cell? ⟨b, 0, none⟩ = some (.pointer (some ⟨b, 0, none⟩)) := by rw [Lib.cell_of_heap hbk]; rfl
  have c1 : w1.cell? ⟨b, 1, none⟩ = some v := by rw [Lib.cell_of_heap hbk]; rfl
  go_wp2_with (at_builtin; refine Lib.wpList_append_own_string _ rfl _ _ 69 9 rfl B 5 i0 Tryz.underlying69 Tryz.underlying9 hi hz0 hz1 hz2 _ _ _ rfl hown s rfl ?c3 ?c4 ?c5 ?_)
  case c3 => unfold maxLen; omega
  case c4 => omega
  case c5 => have := hb1.size; omega
  intro v' w2 hown' hgrow _
  have hlt : b < w1.heap.size := by
    rcases Nat.lt_or_ge b w1.heap.size with h' | h'
    · exact h'
    · simp [Array.getElem?_eq_none h'] at hbk
  have hb2 : w2.heap[b]? = some (.cells #[.pointer (some ⟨b, 0, none⟩), v] T (0, 0)) := by
    rw [hgrow.block b hlt (fun e => hne e.symm)]
    exact hbk
  have d0 : w2.cell? ⟨b, 0, none⟩ = some (.pointer (some ⟨b, 0, none⟩)) := by rw [Lib.cell_of_heap hb2]; rfl
  have d1 : w2.cell? ⟨b, 1, none⟩ = some v := by rw [Lib.cell_of_heap hb2]; rfl
  have f1 : w2.frozen? ⟨b, 1, none⟩ = false := Lib.frozen_of_heap hb2 1
  obtain ⟨ao, n', cap, rfl⟩ : ∃ ao n' cap, v' = .slice ao n' cap := by
    rcases hown'.2 with ⟨hv, _⟩ | ⟨g, cap, cur, hv, _⟩
    · exact ⟨_, _, _, hv⟩
    · exact ⟨_, _, _, hv⟩
  go_wp2
  go_ret2
  refine ⟨rfl, ?_, ?_, ?_⟩
  · exact Lib.BuilderAt.put (T := T) (e := 5) hB hb2 (bs' := bs ++ Lib.strCells s) (by simpa [Lib.strCells_length] using hown') hT
  · exact (hb1.grown hgrow (by have := hb1.size; omega) (fun k hk => (hown.lt k hk).1)).setCell (p := ⟨b, 1, none⟩) hB _
  · exact (HK.out.grown hgrow (Lib.ownsRow_kind hown)).setCell ⟨b, 1, none⟩ rfl _
end Go.Proofs.YtnjlggleaocbdaaGreatDoor

/-
  The printer in memory; contract of its operand, given lay's.
-/
namespace Go.Proofs.YtnjlggleaocbdaaGreatDoor
set_option linter.all false
open Go.RowKit Go.Shelf
attribute [local go_sem] cell_set_self lt_1 lt_2 lt_3 lt_4 lt_5 lt_6

/-- The printer at b holds the bytes l; its memory from B on. -/
def PrS (B b : Nat) (l : List UInt8) (w : World) : Prop := Lib.IsBuilder 73 5 B b (Lib.byteCells l) w ∧ B ≤ w.heap.size ∧ b < w.heap.size
/-- What writing leaves alone. -/
def Grew (B b : Nat) (w w' : World) : Prop := Below B w w' ∧ Lib.OthersKept 5 (some b) w w'
theorem Grew.refl (B b : Nat) (w : World) : Grew B b w w := ⟨Below.refl _ _, Lib.OthersKept.refl _ _ _⟩
theorem Grew.trans {B b : Nat} {a c d : World} (h : Grew B b a c) (k : Grew B b c d) : Grew B b a d := ⟨h.1.trans k.1, h.2.trans k.2⟩
theorem Grew.full {B b : Nat} {w w' : World} (h : Below w.heap.size w w') (hB : B ≤ w.heap.size) : Grew B b w w' :=
  ⟨h.mono hB, fun k o hk _ _ => (h.block k (Array.getElem?_eq_some_iff.1 hk).1).trans hk⟩
theorem Grew.cells {B b k : Nat} {w w' : World} {c : Array Value} {t : TypeId} {fz : Nat × Nat} (h : Grew B b w w') (hk : w.heap[k]? = some (.cells c t fz)) (hne : k ≠ b) (ht : t ≠ 5) : w'.heap[k]? = some (.cells c t fz) :=
  h.2 k _ hk (fun e => hne (by injection e)) (fun c' fz' e => ht (by injection e))
theorem PrS.full {B b : Nat} {l : List UInt8} {w w' : World} (h : PrS B b l w) (hb : Below w.heap.size w w') : PrS B b l w' := by
  obtain ⟨h1, h2, h3⟩ := h
  refine ⟨?_, Nat.le_trans h2 hb.size, Nat.lt_of_lt_of_le h3 hb.size⟩
  have kp : ∀ p, Lib.BuilderAt 73 5 B b p (Lib.byteCells l) w → Lib.BuilderAt 73 5 B b p (Lib.byteCells l) w' := fun p hp => by
    obtain ⟨hB, v, hbk, hown, hne⟩ := hp
    exact ⟨hB, v, (hb.block b h3).trans hbk, own_kp hown ⟨hb.size, fun k _ h => hb.block k h⟩, hne⟩
  exact h1.elim (fun x => .inl (kp _ x)) (fun x => .inr (kp _ x))
theorem PrS.write {B b : Nat} {l : List UInt8} {w : World} (h : PrS B b l w) (s : List UInt8) (hl : l.length + s.length ≤ 100000000000000) :
    Calls Tryz.prog 36 #[.pointer (some ⟨b, 0, none⟩), .string ⟨s.toArray⟩] w fun e w' => (∃ v, e = .returned v) ∧ PrS B b (l ++ s) w' ∧ Grew B b w w' := by
  have hz : (⟨s.toArray⟩ : ByteArray).size = s.length := by simp [ByteArray.size]
  refine (writeString_any 73 (by decide) lies_printer B b (Lib.byteCells l) ⟨s.toArray⟩ w h.1 (by rw [Lib.byteCells_length, hz]; omega) h.2.1).mono ?_
  rintro e w' ⟨rfl, h1, h2, h3⟩
  refine ⟨⟨_, rfl⟩, ⟨.inr ?_, Nat.le_trans h.2.1 h2.size, Nat.lt_of_lt_of_le h.2.2 h2.size⟩, h2, h3⟩
  have : Lib.byteCells l ++ Lib.strCells ⟨s.toArray⟩ = Lib.byteCells (l ++ s) := by simp [Lib.byteCells, Lib.strCells]
  rw [← this]; exact h1
theorem PrS.byte {B b : Nat} {l : List UInt8} {w : World} (h : PrS B b l w) (c : UInt8) (hl : l.length + 1 ≤ 100000000000000) :
    Calls Tryz.prog 44 #[.pointer (some ⟨b, 0, none⟩), .int .u8 (c.toNat : Int)] w fun e w' => (∃ v, e = .returned v) ∧ PrS B b (l ++ [c]) w' ∧ Grew B b w w' := by
  refine (writeByte_any 73 (by decide) lies_printer B b (Lib.byteCells l) (c.toNat : Int) w h.1 (by rw [Lib.byteCells_length]; omega) h.2.1).mono ?_
  rintro e w' ⟨rfl, h1, h2, h3⟩
  refine ⟨⟨_, rfl⟩, ⟨.inr ?_, Nat.le_trans h.2.1 h2.size, Nat.lt_of_lt_of_le h.2.2 h2.size⟩, h2, h3⟩
  have : Lib.byteCells l ++ [.int .u8 (c.toNat : Int)] = Lib.byteCells (l ++ [c]) := by simp [Lib.byteCells]
  rw [← this]; exact h1
/-- What is asked of lay at an expression. -/
def LayOk (t : ExprT) : Prop := ∀ (B b : Nat) (l : List UInt8) (cs : List Value) (w : World), PrS B b l w → Env w → 8 ≤ B → EV (fun k => k < B) w t cs → l.length + (layX t).length ≤ 100000000000000 →
  Calls Tryz.prog 25 #[.pointer (some ⟨b, 0, none⟩), .agg cs.toArray] w fun e w' => (∃ v, e = .returned v) ∧ PrS B b (l ++ layX t) w' ∧ Grew B b w w'
theorem EV.grew {B b : Nat} {t : ExprT} {cs : List Value} {w w' : World} (h : EV (fun k => k < B) w t cs) (g : Grew B b w w') : EV (fun k => k < B) w' t cs := h.keep ⟨g.1.size, fun k hk _ => g.1.block k hk⟩
theorem Env.grew {B b : Nat} {w w' : World} (h : Env w) (g : Grew B b w w') (h8 : 8 ≤ B) : Env w' := h.below8 (g.1.mono h8)
set_option maxHeartbeats 8000000 in
set_option maxRecDepth 100000 in
theorem operand_any (t : ExprT) (ht : LayOk t) (need : Nat) (hn : need ≤ 10) (B b : Nat) (l : List UInt8) (cs : List Value) (w : World) (H : PrS B b l w) (E : Env w) (h8 : 8 ≤ B) (hv : EV (fun k => k < B) w t cs) (hl : l.length + (parX (decide (need ≤ bindN t.op)) (layX t)).length ≤ 100000000000000) :
    Calls Tryz.prog 43 #[.pointer (some ⟨b, 0, none⟩), .agg cs.toArray, .int .i64 (need : Int)] w fun e w' => (∃ v, e = .returned v) ∧ PrS B b (l ++ parX (decide (need ≤ bindN t.op)) (layX t)) w' ∧ Grew B b w w' := by
  suffices key : ∀ Q : Ending → World → Prop, Hid (∀ e w', ((∃ v, e = .returned v) ∧ PrS B b (l ++ parX (decide (need ≤ bindN t.op)) (layX t)) w' ∧ Grew B b w w') → Q e w') → Calls Tryz.prog 43 #[.pointer (some ⟨b, 0, none⟩), .agg cs.toArray, .int .i64 (need : Int)] w Q from key _ (Lib.hid fun _ _ h => h)
  intro Q HQQ
  have LK := Lib.hid ht
  have hbd := binds_any t.op
  obtain ⟨D, hD⟩ : ∃ D, decide (need ≤ bindN t.op) = D := ⟨_, rfl⟩
  rw [hD] at HQQ hl
  obtain ⟨bn, hbn⟩ : ∃ bn, bindN t.op = bn := ⟨_, rfl⟩
  rw [hbn] at hbd hD
  clear hbn
  obtain ⟨op, n, s, args⟩ := t
  obtain ⟨A, c, rfl, hac, hA, hL⟩ := hv.open
  dsimp only [exprC, ExprT.op] at *
  have BD := Lib.hid hbd
  have hlt := H.2.2
  have hBw := H.2.1
  have HP1 : Hid (PrS B b l (w.alloc (.cells #[.int .i64 op, .int .i64 n, .string ⟨s.toArray⟩, .slice A args.length c] 24))) := Lib.hid (H.full ((Below.refl _ _).alloc (Nat.le_refl _) _))
  have HG1 : Hid (Grew B b w (w.alloc (.cells #[.int .i64 op, .int .i64 n, .string ⟨s.toArray⟩, .slice A args.length c] 24))) := Lib.hid (Grew.full ((Below.refl _ _).alloc (Nat.le_refl _) _) hBw)
  have HE := Lib.hid E
  have HV := Lib.hid hv
  have hz1 := heap_alloc_new w (.cells #[.int .i64 op, .int .i64 n, .string ⟨s.toArray⟩, .slice A args.length c] 24)
  have HZ1 := Lib.hid hz1
  have hwb : w.heap.size ≠ b := by omega
  clear hbd ht hv E H hL hz1
  cases D with
  | true =>
    have hnb' : (need : Int) ≤ (bn : Int) := by have := of_decide_eq_true hD; omega
    clear hD
    simp only [parX, if_true] at HQQ hl
    go_enter Tryz.func43, Tryz.ntmps43
    go_wp2_with (first | (go_at_call 45; (with_reducible refine (BD.out _).mono ?_); rintro e w3 ⟨rfl, rfl⟩))
    go_at_call 25
    refine (LK.out B b l _ _ HP1.out (HE.out.grew HG1.out h8) h8 (HV.out.grew HG1.out) hl).mono ?_
    rintro e w5 ⟨⟨v, rfl⟩, hp5, hg5⟩
    have HF := Lib.hid (HQQ.out (.returned (.tuple #[])) w5 ⟨⟨_, rfl⟩, hp5, HG1.out.trans hg5⟩)
    go_wp2
    refine bodyPost_ret (results_none rfl _ _ _) rfl ?_
    exact HF.out
  | false =>
    have hnb' : ¬ (need : Int) ≤ (bn : Int) := by have := of_decide_eq_false hD; omega
    clear hD
    simp only [parX] at HQQ hl
    rw [if_neg (by simp)] at HQQ hl
    simp only [List.length_append, List.length_cons, List.length_nil] at hl
    have PB := Lib.hid (fun W (h : PrS B b l W) => h.byte 40 (by omega))
    go_enter Tryz.func43, Tryz.ntmps43
    go_wp2_with (first | (go_at_call 45; (with_reducible refine (BD.out _).mono ?_); rintro e w3 ⟨rfl, rfl⟩))
    go_at_call 44
    refine (PB.out _ HP1.out).mono ?_
    rintro e w4 ⟨⟨v, rfl⟩, hp4, hg4⟩
    have hz4 := hg4.cells HZ1.out hwb (by decide)
    obtain ⟨⟨z0, z1, z2, z3⟩, zf⟩ := four_cells hz4
    have HG4 := Lib.hid (HG1.out.trans hg4)
    have HP4 := Lib.hid hp4
    clear hz4 hp4 hg4
    go_wp2_with (fail)
    go_at_call 25
    refine (LK.out B b _ _ _ HP4.out (HE.out.grew HG4.out h8) h8 (HV.out.grew HG4.out) (by simp; omega)).mono ?_
    rintro e w5 ⟨⟨v, rfl⟩, hp5, hg5⟩
    have HP5 := Lib.hid hp5
    have HG5 := Lib.hid (HG4.out.trans hg5)
    clear hp5 hg5
    go_wp2_with (fail)
    go_at_call 44
    refine (HP5.out.byte 41 (by simp; omega)).mono ?_
    rintro e w6 ⟨⟨v, rfl⟩, hp6, hg6⟩
    have HF := Lib.hid (HQQ.out (.returned (.tuple #[])) w6 ⟨⟨_, rfl⟩, by simpa using hp6, HG5.out.trans hg6⟩)
    go_wp2
    refine bodyPost_end (results_none rfl _ _ _) rfl ?_
    exact HF.out
end Go.Proofs.YtnjlggleaocbdaaGreatDoor
