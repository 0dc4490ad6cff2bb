/-
  Contracts of exref.Bytes, exref.SameBytes, exlaw22.Request, exlaw22.Same (of what is equal).
-/
import Derived.Test.YtkaimfeiahogaaaGreatDoorHk6
namespace Go.Proofs.YtkaimfeiahogaaaGreatDoor
set_option linter.all false
open Go.RowKit Go.Shelf
attribute [local go_sem] cell_set_self lt_1 lt_2 lt_3 lt_4 lt_5 lt_6

theorem name_world {P : Program} {c : Code} {Q : Exit → Act → World → Prop} {a : Act} {w : World} (h : ∀ W, W = w → Code.wp P c Q a W) : Code.wp P c Q a w := h w rfl
/-- A slice of bytes whose memory lies behind base. -/
def BsN (base : Nat) (w : World) (A : Option Addr) (c : Nat) (l : List UInt8) : Prop := Bs w A c l ∧ ∀ a, A = some a → base ≤ a.block
section
theorem wp_append_bs {o : Oper} {a : Act} {K : Act → World → Prop} {Q : Exit → Act → World → Prop} (w : World) (s x : Operand) (t : TypeId)
    (ho : o.op = .call { callee := .builtin .append, args := #[s, x], argTypes := #[t, t] })
    (base : Nat) (i : TypeInfo) (ht : Tryz.prog.underlying t = some (.slice 5)) (hi : Tryz.prog.info? 5 = some i) (hz : i.zero = some (.int .u8 0)) (hsize : i.size = 1) (hby : i.bytes = 1)
    (v : Value) (n : Nat) (xs : List Value) (hs : a.eval s = v) (hown : w.ownsRow base 5 1 v n xs)
    (A : Option Addr) (m c : Nat) (l : List UInt8) (hx : a.eval x = .slice A m c) (hl : l.length = m) (S : Bs w A c l)
    (h63 : n + m ≤ maxLen) (hbytes : (n + m) * 1 ≤ 140737488355328) (hbase : base ≤ w.heap.size)
    (h : ∀ v' w', w'.ownsRow base 5 1 v' (n + m) (xs ++ Lib.byteCells l) → w.grownBy w' v.ownBlock → K (a.put o.dst v') w') : o.wp Tryz.prog a w K Q := by
  rcases A with _ | ad
  · obtain rfl : c = 0 := S.2.1 rfl
    have h0 := S.1
    obtain rfl : l = [] := List.eq_nil_of_length_eq_zero (by omega)
    simp at hl; subst hl
    have hrun := run_append_owned_none (P := Tryz.prog) (w := w) base t o.type 5 i 1 ht hi v n xs hown
    have g := h v w (by simpa [Lib.byteCells] using hown) ⟨rfl, rfl, rfl, Nat.le_refl _, fun _ _ _ => rfl⟩
    unfold Oper.wp
    simp [execOp, ho, resolve, invoke, builtin, hs, hx, hrun, Result.andThen]
    exact g
  · refine wp_append_own w s x t ho base _ i _ 1 1 ht hi hz hsize hby rfl (by decide) v n xs hs hown ad m c (Lib.byteCells l) hx (by simp [Lib.byteCells, hl]) (fun j u hu => ?_) (fun u hu => ?_) h63 hbytes hbase fun v' w' h1 h2 _ => h v' w' h1 h2
    · simp only [Lib.byteCells, List.getElem?_map, Option.map_eq_some_iff] at hu
      obtain ⟨y, hy, rfl⟩ := hu
      obtain ⟨b, off, e, _, hc⟩ := S.2.2 j y hy
      obtain rfl := Option.some.inj e
      exact (congrArg w.cell? (addr_off b off j)).trans hc
    · simp only [Lib.byteCells, List.mem_map] at hu
      obtain ⟨y, _, rfl⟩ := hu
      simp [Value.oneCell']
theorem wpList_append_bs {ops : Array Oper} {rest : List Oper} {o : Oper} {a : Act} {Q : Exit → Act → World → Prop} (w : World) (hgd : o.guard = none) (s x : Operand) (t : TypeId)
    (ho : o.op = .call { callee := .builtin .append, args := #[s, x], argTypes := #[t, t] })
    (base : Nat) (i : TypeInfo) (ht : Tryz.prog.underlying t = some (.slice 5)) (hi : Tryz.prog.info? 5 = some i) (hz : i.zero = some (.int .u8 0)) (hsize : i.size = 1) (hby : i.bytes = 1)
    (v : Value) (n : Nat) (xs : List Value) (hs : a.eval s = v) (hown : w.ownsRow base 5 1 v n xs)
    (A : Option Addr) (m c : Nat) (l : List UInt8) (hx : a.eval x = .slice A m c) (hl : l.length = m) (S : Bs w A c l)
    (h63 : n + m ≤ maxLen) (hbytes : (n + m) * 1 ≤ 140737488355328) (hbase : base ≤ w.heap.size)
    (h : ∀ v' w', w'.ownsRow base 5 1 v' (n + m) (xs ++ Lib.byteCells l) → w.grownBy w' v.ownBlock → wpList Tryz.prog ops Q rest (a.put o.dst v') w') : wpList Tryz.prog ops Q (o :: rest) a w :=
  wpList_plain hgd fun _ hK => wp_append_bs w s x t ho base i ht hi hz hsize hby v n xs hs hown A m c l hx hl S h63 hbytes hbase fun v' w' h1 h2 => hK _ _ (h v' w' h1 h2)
end
theorem bs_new (w : World) (l : List UInt8) (cs : Array Value) (t : TypeId) (h : cs = (Lib.byteCells l).toArray) (fr : Nat × Nat := (0, 0)) : Bs (w.alloc (.cells cs t fr)) (some ⟨w.heap.size, 0, none⟩) l.length l :=
  ⟨Nat.le_refl _, fun h => (by cases h), fun i v hi => ⟨w.heap.size, 0, rfl, by simp, by
    have := World.news_of_block (cs := cs) (t := t) (fr := fr) (heap_alloc_new w (.cells cs t fr)) i (.int .u8 (v.toNat : Int)) (by rw [h]; simp [Lib.byteCells, hi])
    rw [addr_off] at this
    exact this⟩⟩
theorem bytes_any (A : Option Addr) (n c : Nat) (l : List UInt8) (hl : l.length = n) (hn : n ≤ 1000000000) (w : World) (T : Bs w A c l) :
    Calls Tryz.prog 33 #[.slice A n c] w fun e w' => (∃ A' c', e = .returned (.slice A' n c') ∧ BsN w.heap.size w' A' c' l) ∧ Below w.heap.size w w' := by
  obtain ⟨i0, hi0, hz0, hz1, hz2⟩ := info_parts info_u8h
  have HL := Lib.hid hl
  have HT := Lib.hid T
  clear hl T
  go_enter Tryz.func33, Tryz.ntmps33
  go_wp2_with (first | (at_builtin; refine wpList_append_bs _ rfl (.tmp 3) (.tmp 4) 22 rfl w.heap.size i0 Tryz.underlying22 hi0 hz0 hz1 hz2 (.slice (some ⟨w.heap.size, 0, none⟩) 0 0) 0 [] rfl ⟨rfl, .inr ⟨w.heap.size, 0, #[], rfl, Nat.le_refl _, heap_alloc_new w _, Nat.le_refl _, Nat.zero_le _, rfl, rfl⟩⟩ A n c l rfl HL.out (HT.out.below (by repeat (first | exact Below.refl _ _ | refine Below.setCell ?_ (by first | (simp; done) | (simp; omega) | omega) _ | refine Below.alloc ?_ (by first | (simp; done) | (simp; omega) | omega) _ | refine Below.drew ?_ | assumption | refine Below.trans ?_ (Below.mono (by assumption) (by first | (simp; done) | (simp; omega) | omega))))) (by unfold maxLen; omega) (by omega) (by simp) ?_; intro v' w6 hown6 hgrow6; have B6 : Below w.heap.size w w6 := (Below.grown (Below.alloc (Below.refl _ _) (Nat.le_refl _) _) hgrow6 (by simp) (fun k e => by simp [Value.ownBlock] at e; omega)); have hown6' : w6.ownsRow w.heap.size 5 1 v' n (Lib.byteCells l) := by simpa using hown6))
  obtain ⟨A', c', rfl, hBs', hge⟩ := own_bs hown6'
  go_ret
  exact ⟨⟨A', c', rfl, hBs', hge⟩, B6⟩
set_option maxHeartbeats 4000000 in
set_option maxRecDepth 100000 in
theorem sb_eq (A B : Option Addr) (n c d : Nat) (l : List UInt8) (hl : l.length = n) (hn : n ≤ 1000000000) (w : World) (T : Bs w A c l) (U : Bs w B d l) :
    Calls Tryz.prog 22 #[.slice A n c, .slice B n d] w fun e w' => e = .returned (.bool true) ∧ Below w.heap.size w w' := by
  have HL := Lib.hid hl
  have HT := Lib.hid T
  have HU := Lib.hid U
  clear hl T U
  go_enter Tryz.func22, Tryz.ntmps22
  go_wp2
  go_loopw [5] (fun i wr => ∃ k : Nat, k ≤ n ∧ i = .int .i64 k ∧ Below w.heap.size w wr) (fun i _ => n - (intOf i).toNat)
  case atStart => exact ⟨0, by omega, rfl, Below.refl _ _⟩
  case round =>
    obtain ⟨k, hk, rfl, hB⟩ := hrel
    by_cases hlt : k < n
    · have hlt' : (k : Int) < (n : Int) := by omega
      obtain ⟨x, hx⟩ : ∃ x, l[k]? = some x := ⟨_, List.getElem?_eq_getElem (by rw [HL.out]; exact hlt)⟩
      obtain ⟨b1, o1, rfl, hb1, h1⟩ := (HT.out.below hB).2.2 k x hx
      obtain ⟨b2, o2, rfl, hb2, h2⟩ := (HU.out.below hB).2.2 k x hx
      clear hx
      generalize (x.toNat : Int) = z at *
      go_upto_region 6 with (fail)
      go_big_region
      all_goals
        go_wp2
        go_roundw
        case rel => exact ⟨k + 1, by omega, by go_num, hB.drew⟩
        case measure => first | (simp [intOf]; done) | (simp [intOf]; omega)
    · obtain rfl : k = n := by omega
      have hlt' : ¬ (k : Int) < (k : Int) := by omega
      go_wp2
      go_ret
      exact ⟨rfl, hB⟩
/-- What exlaw22.Request answers. -/
theorem request_any (m p : List UInt8) (cl : Bool) (A : Option Addr) (n c : Nat) (l : List UInt8) (hl : l.length = n) (hn : n ≤ 1000000000) (w : World) (T : Bs w A c l) :
    Calls Tryz.prog 14 #[rqB m p A n c cl] w fun e w' => (∃ A' c', e = .returned (rqB m p A' n c' cl) ∧ BsN w.heap.size w' A' c' l) ∧ Below w.heap.size w w' := by
  have HL := Lib.hid hl
  have HT := Lib.hid T
  unfold rqB
  generalize (⟨m.toArray⟩ : ByteArray) = M at *
  generalize (⟨p.toArray⟩ : ByteArray) = P at *
  have BY := Lib.hid (fun W (hb : Below w.heap.size w W) => bytes_any A n c l hl hn W (T.below hb))
  clear hl T
  go_enter Tryz.func14, Tryz.ntmps14
  go_wp2_with (fail)
  go_region_held3 (fun w' => w'.cell? ⟨w.heap.size, 0, none⟩ = some (.string M) ∧ w'.cell? ⟨w.heap.size, 1, none⟩ = some (.string P) ∧ w'.cell? ⟨w.heap.size, 2, none⟩ = some (.slice A n c) ∧ w'.cell? ⟨w.heap.size, 3, none⟩ = some (.bool cl) ∧ w'.frozen? ⟨w.heap.size + 1, 0, none⟩ = false ∧ w'.frozen? ⟨w.heap.size + 1, 1, none⟩ = false ∧ w'.frozen? ⟨w.heap.size + 1, 2, none⟩ = false ∧ w'.frozen? ⟨w.heap.size + 1, 3, none⟩ = false ∧ w.heap.size < w'.heap.size ∧ w.heap.size + 1 < w'.heap.size ∧ Below w.heap.size w w')
      (first | (refine ⟨?_, ?_, ?_, ?_, ?_, ?_, ?_, ?_, ?_, ?_, ?_⟩ <;> first | (simp [go_sem, *]; done) | omega | (simp; omega) | exact (by repeat (first | exact Below.refl _ _ | refine Below.setCell ?_ (by first | (simp; done) | (simp; omega) | omega) _ | refine Below.alloc ?_ (by first | (simp; done) | (simp; omega) | omega) _ | refine Below.drew ?_ | assumption | refine Below.trans ?_ (Below.mono (by assumption) (by first | (simp; done) | (simp; omega) | omega))))))
      (first | (go_at_call 33; refine (BY.out _ (by repeat (first | exact Below.refl _ _ | refine Below.setCell ?_ (by first | (simp; done) | (simp; omega) | omega) _ | refine Below.alloc ?_ (by first | (simp; done) | (simp; omega) | omega) _ | refine Below.drew ?_ | assumption | refine Below.trans ?_ (Below.mono (by assumption) (by first | (simp; done) | (simp; omega) | omega))))).mono ?_; rintro e w7 ⟨⟨A7, c7, rfl, hN7⟩, hb7⟩; obtain ⟨hc7, hf7⟩ := bcell hb7; (try simp only [drew_size, drew_cell, drew_frozen] at hc7 hf7); have hs7 := hb7.size; (try simp at hs7); have hz7 : w.heap.size < w7.heap.size ∧ w.heap.size + 1 < w7.heap.size := (by have := hb7.size; (try simp at this); omega); have HN7 := Lib.hid hN7; clear hN7))
  all_goals
    go_wp2
    have hge : ∀ a, A7 = some a → w.heap.size + 1 < a.block := fun a ha => by have := HN7.out.2 a ha; simp at this; omega
    have hne : ∀ a, A7 = some a → w.heap.size + 1 ≠ a.block := fun a ha => by have := hge a ha; omega
    exact bodyPost_ret (v := .agg #[.string M, .string P, .slice A7 n c7, .bool cl]) (by simp [results, Tryz.results14, go_sem, *]) rfl ⟨⟨A7, c7, rfl, Bs.setFar (Bs.setFar (Bs.setFar (Bs.setFar HN7.out.1 _ _ hne) _ _ hne) _ _ hne) _ _ hne, fun a ha => by have := hge a ha; omega⟩, (by repeat (first | exact Below.refl _ _ | refine Below.setCell ?_ (by first | (simp; done) | (simp; omega) | omega) _ | refine Below.alloc ?_ (by first | (simp; done) | (simp; omega) | omega) _ | refine Below.drew ?_ | assumption | refine Below.trans ?_ (Below.mono (by assumption) (by first | (simp; done) | (simp; omega) | omega))))⟩
set_option maxHeartbeats 2000000 in
theorem same_eq (m p : List UInt8) (cl : Bool) (A B : Option Addr) (n c d : Nat) (l : List UInt8) (hl : l.length = n) (hn : n ≤ 1000000000) (w : World) (T : Bs w A c l) (U : Bs w B d l) :
    Calls Tryz.prog 13 #[rqB m p A n c cl, rqB m p B n d cl] w fun e w' => e = .returned (.bool true) ∧ Below w.heap.size w w' := by
  unfold rqB
  generalize (⟨m.toArray⟩ : ByteArray) = M at *
  generalize (⟨p.toArray⟩ : ByteArray) = P at *
  have SB := Lib.hid (fun W (hb : Below w.heap.size w W) => sb_eq A B n c d l hl hn W (T.below hb) (U.below hb))
  clear hl T U
  go_enter Tryz.func13, Tryz.ntmps13
  go_wp2_with (first | (go_at_call 22; refine (SB.out _ (by repeat (first | exact Below.refl _ _ | refine Below.setCell ?_ (by first | (simp; done) | (simp; omega) | omega) _ | refine Below.alloc ?_ (by first | (simp; done) | (simp; omega) | omega) _ | refine Below.drew ?_ | assumption | refine Below.trans ?_ (Below.mono (by assumption) (by first | (simp; done) | (simp; omega) | omega))))).mono ?_; rintro e w7 ⟨rfl, hb7⟩; obtain ⟨hc7, hf7⟩ := bcell hb7; have hs7 := hb7.size; (try simp at hs7); have hz7 : w.heap.size < w7.heap.size ∧ w.heap.size + 1 < w7.heap.size := by have := hb7.size; (try simp at this); omega))
  all_goals
    go_ret
    exact ⟨rfl, (by repeat (first | exact Below.refl _ _ | refine Below.setCell ?_ (by first | (simp; done) | (simp; omega) | omega) _ | refine Below.alloc ?_ (by first | (simp; done) | (simp; omega) | omega) _ | refine Below.drew ?_ | assumption | refine Below.trans ?_ (Below.mono (by assumption) (by first | (simp; done) | (simp; omega) | omega))))⟩
end Go.Proofs.YtkaimfeiahogaaaGreatDoor
