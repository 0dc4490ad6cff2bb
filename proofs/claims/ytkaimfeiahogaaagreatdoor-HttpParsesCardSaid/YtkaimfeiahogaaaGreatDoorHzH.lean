/-
  HttpParses holds: the walk of the law.
-/
import Derived.Test.YtkaimfeiahogaaaGreatDoorHzD
import Derived.Test.YtkaimfeiahogaaaGreatDoorHzF
import Derived.Test.YtkaimfeiahogaaaGreatDoorHz8
import Derived.Laws.OwnMore

/-
  What HttpParses' walk needs: the values that both parsers answer, field by field; exlaw22.response at what is equal; structs in blocks of their own; bytes that are written over.
-/
namespace Go.Proofs.YtkaimfeiahogaaaGreatDoor
set_option linter.all false
open Go.RowKit Go.Shelf
attribute [local go_sem] cell_set_self lt_1 lt_2 lt_3 lt_4 lt_5 lt_6 drew_cell drew_frozen drew_size

/-- A request as told: its fields, its body, the number of its bytes, whether it is told, the error. -/
structure Told where
  m : List UInt8
  p : List UInt8
  cl : Bool
  body : List UInt8
  n : Int
  is : Bool
  e : Int
def told (l : List UInt8) : POut → Told
  | .wait => ⟨[], [], false, [], 0, false, 0⟩
  | .bad e => ⟨[], [], false, [], 0, false, e⟩
  | .done st r => ⟨st.m, st.p, st.close, r.take st.len, ((l.length - r.length + st.len : Nat) : Int), true, 0⟩
theorem bs_nil2 (w : World) : Bs w none 0 [] := ⟨by simp, fun _ => rfl, fun i v h => by simp at h⟩
theorem PV.form {base : Nat} {W : World} {l : List UInt8} {V : Value} (h : PV base W l (parseF l) V) : ∃ A c, V = .tuple #[rqB (told l (parseF l)).m (told l (parseF l)).p A (told l (parseF l)).body.length c (told l (parseF l)).cl, .int .i64 (told l (parseF l)).n, .bool (told l (parseF l)).is, .int .i64 (told l (parseF l)).e] ∧ BsN base W A c (told l (parseF l)).body := by
  cases hp : parseF l with
  | wait => rw [hp] at h; exact ⟨none, 0, h, bs_nil2 W, fun a e => by cases e⟩
  | bad e => rw [hp] at h; exact ⟨none, 0, h, bs_nil2 W, fun a e => by cases e⟩
  | done st r =>
    rw [hp] at h
    obtain ⟨A, c, h1, h2, h3⟩ := h
    have hl : (r.take st.len).length = st.len := by
      have := (scan_len 23 st0 l st r hp).1
      rw [List.length_take]; omega
    refine ⟨A, c, ?_, h2, h3⟩
    rw [h1]
    show _ = Value.tuple #[rqB st.m st.p A (r.take st.len).length c st.close, _, _, _]
    rw [hl]
    rfl
/-- A response as told. -/
structure ToldR where
  z : Int
  cl : Bool
  body : List UInt8
  n : Int
  is : Bool
  e : Int
def toldR (l : List UInt8) : Tk (Nat × Bool × Nat) → ToldR
  | .wait => ⟨0, false, [], 0, false, 0⟩
  | .bad => ⟨0, false, [], 0, false, 10⟩
  | .got v r => ⟨(v.1 : Int), v.2.1, r.take v.2.2, ((l.length - r.length + v.2.2 : Nat) : Int), true, 0⟩
theorem RespO.form {base : Nat} {W : World} {l : List UInt8} {e : Ending} (h : RespO base W l e) : ∃ A c, e = .returned (.tuple #[rpB (toldR l (respF l)).z A (toldR l (respF l)).body.length c (toldR l (respF l)).cl, .int .i64 (toldR l (respF l)).n, .bool (toldR l (respF l)).is, .int .i64 (toldR l (respF l)).e]) ∧ BsN base W A c (toldR l (respF l)).body := by
  unfold RespO at h
  cases hp : respF l with
  | wait => rw [hp] at h; exact ⟨none, 0, h, bs_nil2 W, fun a e => by cases e⟩
  | bad => rw [hp] at h; exact ⟨none, 0, h, bs_nil2 W, fun a e => by cases e⟩
  | got v r =>
    rw [hp] at h
    obtain ⟨A, c, h1, h2⟩ := h
    obtain ⟨z, cl, n⟩ := v
    have hl : (r.take n).length = n := by
      have := respF_len hp
      rw [List.length_take]; omega
    refine ⟨A, c, ?_, h2⟩
    rw [h1]
    show _ = Ending.returned (Value.tuple #[rpB (z : Int) A (r.take n).length c cl, _, _, _])
    rw [hl]
    rfl
theorem takeT_rest {s l r : List UInt8} {u : Unit} (h : takeT s l = .got u r) : r.length ≤ l.length := by
  unfold takeT at h
  split at h
  · split at h <;> cases h
  · split at h
    · injection h with _ h; rw [← h, List.length_drop]; omega
    · cases h
theorem numT_rest {a b : List UInt8 → Bool} {l r : List UInt8} {n : Nat} (h : numT a b l = .got n r) : r.length ≤ l.length := by
  unfold numT at h
  split at h
  · split at h <;> cases h
  · split at h
    · injection h with _ h
      have := congrArg List.length (span_app l)
      rw [List.length_append] at this
      rw [← h]; omega
    · cases h
theorem closeT_rest {l r : List UInt8} {c : Bool} (h : closeT l = .got c r) : r.length ≤ l.length := by
  unfold closeT at h
  obtain ⟨_, q, h1, h⟩ := bind_got h
  have k1 := takeT_rest h1
  try dsimp only at h
  split at h
  · obtain ⟨_, q2, h2, h⟩ := bind_got h
    have k2 := takeT_rest h2
    obtain ⟨_, q3, h3, h⟩ := bind_got h
    have k3 := takeT_rest h3
    injection h with _ h; rw [← h]; omega
  · obtain ⟨_, q2, h2, h⟩ := bind_got h
    have k2 := takeT_rest h2
    injection h with _ h; rw [← h]; omega
theorem respF_rest {l r : List UInt8} {v : Nat × Bool × Nat} (h : respF l = .got v r) : r.length ≤ l.length := by
  unfold respF at h
  obtain ⟨_, _, h1, h⟩ := bind_got h
  have k1 := takeT_rest h1
  obtain ⟨_, _, h2, h⟩ := bind_got h
  have k2 := numT_rest h2
  obtain ⟨_, _, h3, h⟩ := bind_got h
  have k3 := takeT_rest h3
  obtain ⟨_, _, h4, h⟩ := bind_got h
  have k4 := numT_rest h4
  obtain ⟨_, q5, h5, h⟩ := bind_got h
  have k5 := closeT_rest h5
  obtain ⟨_, q, h6, h⟩ := bind_got h
  have k6 : q.length ≤ q5.length := by
    unfold bodyT at h6
    split at h6
    · cases h6
    · injection h6 with _ h6; rw [← h6]; exact Nat.le_refl _
  injection h with _ h
  rw [← h]; omega
set_option maxHeartbeats 4000000 in
set_option maxRecDepth 100000 in
theorem response_eq (z : Int) (cl : Bool) (A B : Option Addr) (n c d : Nat) (l : List UInt8) (hl : l.length = n) (hn : n ≤ 1000000000) (w : World) (T : Bs w A c l) (U : Bs w B d l) :
    Calls Tryz.prog 32 #[rpB z A n c cl, rpB z B n d cl] w fun e w' => e = .returned (.bool true) ∧ Below w.heap.size w w' := by
  unfold rpB
  have SB := Lib.hid (fun W (hb : Below w.heap.size w W) => sb_eq A B n c d l hl hn W (T.below hb) (U.below hb))
  clear hl T U
  go_enter Tryz.func32, Tryz.ntmps32
  go_wp2_with (first | (go_at_call 22; refine (SB.out _ (by repeat (first | exact Below.refl _ _ | refine Below.setCell ?_ (by first | (simp; done) | (simp; omega) | omega) _ | refine Below.alloc ?_ (by first | (simp; done) | (simp; omega) | omega) _ | refine Below.drew ?_ | assumption | refine Below.trans ?_ (Below.mono (by assumption) (by first | (simp; done) | (simp; omega) | omega))))).mono ?_; rintro e w3 ⟨rfl, hb3⟩))
  go_ret
  exact ⟨rfl, (by repeat (first | exact Below.refl _ _ | refine Below.setCell ?_ (by first | (simp; done) | (simp; omega) | omega) _ | refine Below.alloc ?_ (by first | (simp; done) | (simp; omega) | omega) _ | refine Below.drew ?_ | assumption | refine Below.trans ?_ (Below.mono (by assumption) (by first | (simp; done) | (simp; omega) | omega))))⟩
/-- A struct of four cells, or of three, in a block. -/
structure Bx4 (b : Nat) (W : World) (v0 v1 v2 v3 : Value) : Prop where
  c0 : W.cell? ⟨b, 0, none⟩ = some v0
  c1 : W.cell? ⟨b, 1, none⟩ = some v1
  c2 : W.cell? ⟨b, 2, none⟩ = some v2
  c3 : W.cell? ⟨b, 3, none⟩ = some v3
structure Bx3 (b : Nat) (W : World) (v0 v1 v2 : Value) : Prop where
  c0 : W.cell? ⟨b, 0, none⟩ = some v0
  c1 : W.cell? ⟨b, 1, none⟩ = some v1
  c2 : W.cell? ⟨b, 2, none⟩ = some v2
theorem Bx4.call {b : Nat} {W W' : World} {v0 v1 v2 v3 : Value} (h : Bx4 b W v0 v1 v2 v3) (hb : Below W.heap.size W W') : Bx4 b W' v0 v1 v2 v3 := ⟨cellB hb h.c0, cellB hb h.c1, cellB hb h.c2, cellB hb h.c3⟩
theorem Bx3.call {b : Nat} {W W' : World} {v0 v1 v2 : Value} (h : Bx3 b W v0 v1 v2) (hb : Below W.heap.size W W') : Bx3 b W' v0 v1 v2 := ⟨cellB hb h.c0, cellB hb h.c1, cellB hb h.c2⟩
/-- Only block g may have turned. -/
structure FarK (g : Nat) (X W : World) : Prop where
  far : ∀ p : Addr, p.block ≠ g → W.cell? p = X.cell? p
  size : X.heap.size ≤ W.heap.size
theorem FarK.refl (g : Nat) (X : World) : FarK g X X := ⟨fun _ _ => rfl, Nat.le_refl _⟩
theorem FarK.set {g : Nat} {X W : World} (h : FarK g X W) (k : Nat) (v : Value) : FarK g X (W.setCell ⟨g, k, none⟩ v) :=
  ⟨fun p hp => by rw [World.cell?_setCell_far _ _ p _ (fun e => hp e.symm)]; exact h.far p hp, by simpa using h.size⟩
theorem Bx4.far {b g : Nat} {X W : World} {v0 v1 v2 v3 : Value} (h : Bx4 b X v0 v1 v2 v3) (hf : FarK g X W) (hg : b ≠ g) : Bx4 b W v0 v1 v2 v3 :=
  ⟨(hf.far _ hg).trans h.c0, (hf.far _ hg).trans h.c1, (hf.far _ hg).trans h.c2, (hf.far _ hg).trans h.c3⟩
theorem Bx3.far {b g : Nat} {X W : World} {v0 v1 v2 : Value} (h : Bx3 b X v0 v1 v2) (hf : FarK g X W) (hg : b ≠ g) : Bx3 b W v0 v1 v2 :=
  ⟨(hf.far _ hg).trans h.c0, (hf.far _ hg).trans h.c1, (hf.far _ hg).trans h.c2⟩
theorem BsN.far {B g c : Nat} {X W : World} {A : Option Addr} {l : List UInt8} (h : BsN B X A c l) (hf : FarK g X W) (hg : g < B) : Bs W A c l :=
  ⟨h.1.1, h.1.2.1, fun i v hi => by
    obtain ⟨b, off, e, h1, h2⟩ := h.1.2.2 i v hi
    have hb : b ≠ g := by have := h.2 _ e; dsimp only at this; omega
    exact ⟨b, off, e, Nat.lt_of_lt_of_le h1 hf.size, (hf.far _ hb).trans h2⟩⟩
theorem BsN.call {B c : Nat} {W W' : World} {A : Option Addr} {l : List UInt8} (h : BsN B W A c l) (hb : Below W.heap.size W W') : BsN B W' A c l := ⟨h.1.below hb, h.2⟩
/-- An own row of bytes as bytes that may be written over. -/
theorem edit_own {w W : World} {g c m : Nat} {l : List UInt8} (h : W.ownsRow w.heap.size 5 1 (.slice (some ⟨g, 0, none⟩) m c) m (Lib.byteCells l)) (hm : 0 < m) (hb : Below w.heap.size w W) : Edit w g l W := by
  obtain ⟨g', cap, hv, hge, hlt⟩ := h.form hm
  obtain ⟨rfl, rfl⟩ : g = g' ∧ c = cap := by simpa using hv
  refine ⟨fun j b hj => ?_, fun j hj => ?_, hlt, hge, hb⟩
  · have hc := h.cells (g := g) rfl j (.int .u8 (b.toNat : Int)) (by simp [Lib.byteCells, hj])
    rw [addr_off] at hc
    simpa using hc
  · exact h.frozenAt j
theorem own_cap {W : World} {base g c m sz : Nat} {t : TypeId} {xs : List Value} (h : W.ownsRow base t sz (.slice (some ⟨g, 0, none⟩) m c) m xs) : m ≤ c := by
  rcases h.2 with ⟨h1, _⟩ | ⟨g', cap, cur, h1, _, _, h2, _⟩
  · cases h1
  · injection h1 with _ _ h3; rw [h3]; exact h2
theorem Edit.call {w W W' : World} {g : Nat} {L : List UInt8} (h : Edit w g L W) (hb : Below W.heap.size W W') : Edit w g L W' :=
  ⟨fun j b hj => (hb.cell (p := ⟨g, j, none⟩) h.lt).trans (h.at' j b hj), fun j hj => (hb.frozen (p := ⟨g, j, none⟩) h.lt).trans (h.unf j hj), Nat.lt_of_lt_of_le h.lt hb.size, h.ge, h.below.trans (hb.mono h.below.size)⟩
theorem Edit.front {w W : World} {g c : Nat} {l : List UInt8} {b : UInt8} (h : Edit w g (l ++ [b]) W) (hc : l.length + 1 ≤ c) : Bs W (some ⟨g, 0, none⟩) c l := by
  have := (h.bs (c := c) (by simpa using hc)).take l.length
  rwa [List.take_left] at this
end Go.Proofs.YtkaimfeiahogaaaGreatDoor

/-
  HttpParses holds: the walk of the law.
-/
namespace Go.Proofs.YtkaimfeiahogaaaGreatDoor
set_option linter.all false
open Go.RowKit Go.Shelf
attribute [local go_sem] cell_set_self lt_1 lt_2 lt_3 lt_4 lt_5 lt_6 drew_cell drew_frozen drew_size

theorem below_2 {X Y Z : World} (h : Below X.heap.size X Y) (h2 : Below Y.heap.size Y Z) : Below X.heap.size X Z := h.trans (h2.mono h.size)
set_option maxHeartbeats 2000000 in
theorem parses_far (A : Option Addr) (n c : Nat) (h : 4000 < n) (w : World) (E : Env w) :
    Calls Tryz.prog 8 #[.slice A n c] w fun e w' => e = .returned (.bool true) ∧ Below w.heap.size w w' := by
  have FO := Lib.hid (fun W (hb : Below w.heap.size w W) => first_ok W (E.below hb))
  have h' : (4000 : Int) < (n : Int) := by omega
  clear h E
  go_enter Tryz.func8, Tryz.ntmps8
  go_wp2_with (first | (go_at_call 10; (with_reducible refine (FO.out _ (by repeat (first | exact Below.refl _ _ | refine Below.setCell ?_ (by first | (simp; done) | (simp; omega) | omega) _ | refine Below.alloc ?_ (by first | (simp; done) | (simp; omega) | omega) _ | refine Below.drew ?_ | assumption | refine Below.trans ?_ (Below.mono (by assumption) (by first | (simp; done) | (simp; omega) | omega))))).mono ?_); rintro e w1 ⟨rfl, hb1⟩))
  go_ret
  exact ⟨rfl, hb1⟩
set_option maxHeartbeats 16000000 in
set_option maxRecDepth 100000 in
theorem parses_near (A : Option Addr) (n c : Nat) (l : List UInt8) (hl : l.length = n) (hn : n ≤ 4000) (w : World) (ES : EnvS w) (T : Bs w A c l) :
    Calls Tryz.prog 8 #[.slice A n c] w fun e w' => e = .returned (.bool true) ∧ Below w.heap.size w w' := by
  have FO := Lib.hid (fun W (hb : Below w.heap.size w W) => first_ok W (ES.1.below hb))
  have LE := Lib.hid (fun W (hb : Below w.heap.size w W) => lent_any A n c l hl (by omega) W (T.below hb))
  obtain ⟨P0, hP0⟩ : ∃ P0, told l (parseF l) = P0 := ⟨_, rfl⟩
  obtain ⟨R0, hR0⟩ : ∃ R0, toldR l (respF l) = R0 := ⟨_, rfl⟩
  have PA : ∀ W, Below w.heap.size w W → ∀ (g d : Nat), Bs W (some ⟨g, 0, none⟩) d l → Calls Tryz.prog 11 #[.slice (some ⟨g, 0, none⟩) n d] W fun e w' => (∃ A' c', e = .returned (.tuple #[rqB P0.m P0.p A' P0.body.length c' P0.cl, .int .i64 P0.n, .bool P0.is, .int .i64 P0.e]) ∧ BsN W.heap.size w' A' c' P0.body) ∧ Below W.heap.size W w' := fun W hb g d U => by
    refine (parse_any _ n d l hl (by omega) W (ES.1.below hb) U).mono ?_
    rintro e w' ⟨V, rfl, hV, hB⟩
    obtain ⟨A', c', h1, h2⟩ := hV.form
    rw [hP0] at h1 h2
    exact ⟨⟨A', c', by rw [h1], h2⟩, hB⟩
  have PB : ∀ W, Below w.heap.size w W → Calls Tryz.prog 28 #[.slice A n c] W fun e w' => (∃ A' c', e = .returned (.tuple #[rqB P0.m P0.p A' P0.body.length c' P0.cl, .int .i64 P0.n, .bool P0.is, .int .i64 P0.e]) ∧ BsN W.heap.size w' A' c' P0.body) ∧ Below W.heap.size W w' := fun W hb => by
    refine (rparse_any A n c l hl (by omega) W (T.below hb)).mono ?_
    rintro e w' ⟨⟨V, rfl, hV⟩, hB⟩
    obtain ⟨A', c', h1, h2⟩ := hV.form
    rw [hP0] at h1 h2
    exact ⟨⟨A', c', by rw [h1], h2⟩, hB⟩
  have RA : ∀ W, Below w.heap.size w W → ∀ (g d : Nat), Bs W (some ⟨g, 0, none⟩) d l → Calls Tryz.prog 29 #[.slice (some ⟨g, 0, none⟩) n d] W fun e w' => (∃ A' c', e = .returned (.tuple #[rpB R0.z A' R0.body.length c' R0.cl, .int .i64 R0.n, .bool R0.is, .int .i64 R0.e]) ∧ BsN W.heap.size w' A' c' R0.body) ∧ Below W.heap.size W w' := fun W hb g d U => by
    refine (presp_any _ n d l hl (by omega) W (ES.below hb) U).mono ?_
    rintro e w' ⟨hV, hB⟩
    obtain ⟨A', c', h1, h2⟩ := hV.form
    rw [hR0] at h1 h2
    exact ⟨⟨A', c', h1, h2⟩, hB⟩
  have RB : ∀ W, Below w.heap.size w W → Calls Tryz.prog 30 #[.slice A n c] W fun e w' => (∃ A' c', e = .returned (.tuple #[rpB R0.z A' R0.body.length c' R0.cl, .int .i64 R0.n, .bool R0.is, .int .i64 R0.e]) ∧ BsN W.heap.size w' A' c' R0.body) ∧ Below W.heap.size W w' := fun W hb => by
    refine (rpresp_any A n c l hl (by omega) W (T.below hb)).mono ?_
    rintro e w' ⟨hV, hB⟩
    obtain ⟨A', c', h1, h2⟩ := hV.form
    rw [hR0] at h1 h2
    exact ⟨⟨A', c', h1, h2⟩, hB⟩
  have hPb : P0.body.length ≤ 1000000000 := by
    rw [← hP0]
    cases hp : parseF l with
    | wait => simp [told]
    | bad e => simp [told]
    | done st r =>
      have := (scan_len 23 st0 l st r hp).2.1
      simp only [told, List.length_take]; omega
  have hRb : R0.body.length ≤ 1000000000 := by
    rw [← hR0]
    cases hp : respF l with
    | wait => simp [toldR]
    | bad => simp [toldR]
    | got v r =>
      have := respF_rest hp
      simp only [toldR, List.length_take]; omega
  clear hP0 hR0
  obtain ⟨pm, pp, pcl, pb, pn, pis, pe⟩ := P0
  obtain ⟨rz, rcl, rbd, rn, ris, re⟩ := R0
  dsimp only at PA PB RA RB hPb hRb
  have SAM := Lib.hid (fun (A B : Option Addr) (c d : Nat) (W : World) (T : Bs W A c pb) (U : Bs W B d pb) => same_eq pm pp pcl A B pb.length c d pb rfl hPb W T U)
  have RES := Lib.hid (fun (A B : Option Addr) (c d : Nat) (W : World) (T : Bs W A c rbd) (U : Bs W B d rbd) => response_eq rz rcl A B rbd.length c d rbd rfl hRb W T U)
  have KE := Lib.hid (fun W (hb : Below w.heap.size w W) g d (U : Bs W (some ⟨g, 0, none⟩) d (l ++ [201])) => kept_any A n c l hl (by omega) g d W (T.below hb) U)
  have NUM := Lib.hid (fun e W => num_any e W)
  unfold rqB at PA PB SAM
  unfold rpB at RA RB RES
  have PA := Lib.hid PA
  have PB := Lib.hid PB
  have RA := Lib.hid RA
  have RB := Lib.hid RB
  have HL := Lib.hid hl
  obtain ⟨kb, hkb⟩ : ∃ kb, pb.length = kb := ⟨_, rfl⟩
  obtain ⟨kr, hkr⟩ : ∃ kr, rbd.length = kr := ⟨_, rfl⟩
  rw [hkb] at PA PB SAM
  rw [hkr] at RA RB RES
  generalize (⟨pm.toArray⟩ : ByteArray) = PM at *
  generalize (⟨pp.toArray⟩ : ByteArray) = PP at *
  have hn' : ¬ (4000 : Int) < (n : Int) := by omega
  clear hl T ES hPb hRb hkb hkr
  suffices key : ∀ Q : Ending → World → Prop, Hid (∀ e w', e = .returned (.bool true) ∧ Below w.heap.size w w' → Q e w') → Calls Tryz.prog 8 #[.slice A n c] w Q from key _ (Lib.hid fun _ _ h => h)
  intro Q HQQ
  go_enter Tryz.func8, Tryz.ntmps8
  go_upto_region 6 with (first | (go_at_call 10; (with_reducible refine (FO.out _ (Below.refl _ _)).mono ?_); rintro e w1 ⟨rfl, hb1⟩) | (go_at_call 27; (with_reducible refine (LE.out _ hb1).mono ?_); rintro e w2 ⟨⟨g, c2, rfl, O2⟩, hb2⟩; have bw2 := hb1.trans (hb2.mono hb1.size); have hc2 := own_cap O2; have HE2 := Lib.hid (edit_own O2 (by omega) hb2); clear O2) | (go_at_call 11; (with_reducible refine (PA.out _ bw2 _ _ (HE2.out.front (by rw [HL.out]; exact hc2))).mono ?_); rintro e w3 ⟨⟨A3, c3, rfl, B3⟩, hb3⟩; have HB3 := Lib.hid B3; have HE3 := Lib.hid (HE2.out.call hb3); have bw3 := bw2.trans (hb3.mono bw2.size); clear B3))
  refine name_world ?_
  intro W6 hW6
  have al6 : Below w3.heap.size w3 W6 := by rw [hW6]; exact (by repeat (first | exact Below.refl _ _ | refine Below.setCell ?_ (by first | (simp; done) | (simp; omega) | omega) _ | refine Below.alloc ?_ (by first | (simp; done) | (simp; omega) | omega) _ | refine Below.drew ?_ | assumption | refine Below.trans ?_ (Below.mono (by assumption) (by first | (simp; done) | (simp; omega) | omega))))
  obtain ⟨b5, hb5⟩ : ∃ b5, w3.heap.size = b5 := ⟨_, rfl⟩
  have X5 : Hid (Bx4 b5 W6 (.string PM) (.string PP) (.slice A3 kb c3) (.bool pcl)) := Lib.hid (by rw [hW6, ← hb5]; exact ⟨by simp [go_sem], by simp [go_sem], by simp [go_sem], by simp [go_sem]⟩)
  have bw6 := bw3.trans (al6.mono bw3.size)
  have HE6 := Lib.hid (HE3.out.call al6)
  have HB36 := Lib.hid (HB3.out.call al6)
  have G5 : Hid (g < b5) := Lib.hid (by rw [← hb5]; exact HE3.out.lt)
  have G3 : Hid (g < w2.heap.size) := Lib.hid HE2.out.lt
  rw [hb5]
  clear hW6 hb5 al6
  go_upto_region 7 with (first | (go_at_call 28; (with_reducible refine (PB.out _ bw6).mono ?_); rintro e w4 ⟨⟨A4, c4, rfl, B4⟩, hb4⟩; have HB4 := Lib.hid B4; have HE4 := Lib.hid (HE6.out.call hb4); have X54 := Lib.hid (X5.out.call hb4); have HB34 := Lib.hid (HB36.out.call hb4); have bw4 := bw6.trans (hb4.mono bw6.size); clear B4))
  refine name_world ?_
  intro W7 hW7
  have al7 : Below w4.heap.size w4 W7 := by rw [hW7]; exact (by repeat (first | exact Below.refl _ _ | refine Below.setCell ?_ (by first | (simp; done) | (simp; omega) | omega) _ | refine Below.alloc ?_ (by first | (simp; done) | (simp; omega) | omega) _ | refine Below.drew ?_ | assumption | refine Below.trans ?_ (Below.mono (by assumption) (by first | (simp; done) | (simp; omega) | omega))))
  obtain ⟨b9, hb9⟩ : ∃ b9, w4.heap.size = b9 := ⟨_, rfl⟩
  have X9 : Hid (Bx4 b9 W7 (.string PM) (.string PP) (.slice A4 kb c4) (.bool pcl)) := Lib.hid (by rw [hW7, ← hb9]; exact ⟨by simp [go_sem], by simp [go_sem], by simp [go_sem], by simp [go_sem]⟩)
  have bw7 := bw4.trans (al7.mono bw4.size)
  have HE7 := Lib.hid (HE4.out.call al7)
  have HB37 := Lib.hid (HB34.out.call al7)
  have HB47 := Lib.hid (HB4.out.call al7)
  have X57 := Lib.hid (X54.out.call al7)
  have G4 : Hid (g < W6.heap.size) := Lib.hid HE6.out.lt
  have G9 : Hid (g < b9) := Lib.hid (by rw [← hb9]; exact HE4.out.lt)
  rw [hb9]
  clear hW7 hb9 al7
  go_upto_region 8 with (first | (go_at_call 29; (with_reducible refine (RA.out _ bw7 _ _ (HE7.out.front (by rw [HL.out]; exact hc2))).mono ?_); rintro e w5 ⟨⟨A5, c5, rfl, B5⟩, hb5⟩; have HB5 := Lib.hid B5; have HE5 := Lib.hid (HE7.out.call hb5); have X55 := Lib.hid (X57.out.call hb5); have X95 := Lib.hid (X9.out.call hb5); have HB35 := Lib.hid (HB37.out.call hb5); have HB45 := Lib.hid (HB47.out.call hb5); have bw5 := bw7.trans (hb5.mono bw7.size); clear B5))
  refine name_world ?_
  intro W8 hW8
  have al8 : Below w5.heap.size w5 W8 := by rw [hW8]; exact (by repeat (first | exact Below.refl _ _ | refine Below.setCell ?_ (by first | (simp; done) | (simp; omega) | omega) _ | refine Below.alloc ?_ (by first | (simp; done) | (simp; omega) | omega) _ | refine Below.drew ?_ | assumption | refine Below.trans ?_ (Below.mono (by assumption) (by first | (simp; done) | (simp; omega) | omega))))
  obtain ⟨b13, hb13⟩ : ∃ b13, w5.heap.size = b13 := ⟨_, rfl⟩
  have X13 : Hid (Bx3 b13 W8 (.int .i64 rz) (.slice A5 kr c5) (.bool rcl)) := Lib.hid (by rw [hW8, ← hb13]; exact ⟨by simp [go_sem], by simp [go_sem], by simp [go_sem]⟩)
  have bw8 := bw5.trans (al8.mono bw5.size)
  have HE8 := Lib.hid (HE5.out.call al8)
  have HB38 := Lib.hid (HB35.out.call al8)
  have HB48 := Lib.hid (HB45.out.call al8)
  have HB58 := Lib.hid (HB5.out.call al8)
  have X58 := Lib.hid (X55.out.call al8)
  have X98 := Lib.hid (X95.out.call al8)
  have G7 : Hid (g < W7.heap.size) := Lib.hid HE7.out.lt
  have G13 : Hid (g < b13) := Lib.hid (by rw [← hb13]; exact HE5.out.lt)
  rw [hb13]
  clear hW8 hb13 al8
  go_upto_region 9 with (first | (go_at_call 30; (with_reducible refine (RB.out _ bw8).mono ?_); rintro e w6 ⟨⟨A6, c6, rfl, B6⟩, hb6⟩; have HB6 := Lib.hid B6; have HE66 := Lib.hid (HE8.out.call hb6); have X56 := Lib.hid (X58.out.call hb6); have X96 := Lib.hid (X98.out.call hb6); have X136 := Lib.hid (X13.out.call hb6); have HB366 := Lib.hid (HB38.out.call hb6); have HB46 := Lib.hid (HB48.out.call hb6); have HB56 := Lib.hid (HB58.out.call hb6); have bw66 := bw8.trans (hb6.mono bw8.size); clear B6))
  refine name_world ?_
  intro W9 hW9
  have al9 : Below w6.heap.size w6 W9 := by rw [hW9]; exact (by repeat (first | exact Below.refl _ _ | refine Below.setCell ?_ (by first | (simp; done) | (simp; omega) | omega) _ | refine Below.alloc ?_ (by first | (simp; done) | (simp; omega) | omega) _ | refine Below.drew ?_ | assumption | refine Below.trans ?_ (Below.mono (by assumption) (by first | (simp; done) | (simp; omega) | omega))))
  obtain ⟨b17, hb17⟩ : ∃ b17, w6.heap.size = b17 := ⟨_, rfl⟩
  have X17 : Hid (Bx3 b17 W9 (.int .i64 rz) (.slice A6 kr c6) (.bool rcl)) := Lib.hid (by rw [hW9, ← hb17]; exact ⟨by simp [go_sem], by simp [go_sem], by simp [go_sem]⟩)
  have bw9 := bw66.trans (al9.mono bw66.size)
  have HE9 := Lib.hid (HE66.out.call al9)
  have HB39 := Lib.hid (HB366.out.call al9)
  have HB49 := Lib.hid (HB46.out.call al9)
  have HB59 := Lib.hid (HB56.out.call al9)
  have HB69 := Lib.hid (HB6.out.call al9)
  have X59 := Lib.hid (X56.out.call al9)
  have X99 := Lib.hid (X96.out.call al9)
  have X139 := Lib.hid (X136.out.call al9)
  have G8 : Hid (g < W8.heap.size) := Lib.hid HE8.out.lt
  have G17 : Hid (g < b17) := Lib.hid (by rw [← hb17]; exact HE66.out.lt)
  rw [hb17]
  clear hW9 hb17 al9
  go_wp2_with (first | (go_at_call 31; (with_reducible refine (KE.out _ bw9 _ _ (HE9.out.bs (by simp [HL.out]; exact hc2))).mono ?_); rintro e w7 ⟨rfl, hb7⟩; have bw77 := bw9.trans (hb7.mono bw9.size)))
  go_loopw [22] (fun i wr => ∃ k : Nat, k ≤ n ∧ i = .int .i64 k ∧ Hid (∃ L : List UInt8, L.length = n + 1 ∧ Edit w g L wr) ∧ Hid (FarK g w7 wr)) (fun i _ => n - (intOf i).toNat)
  case atStart => exact ⟨0, by omega, rfl, Lib.hid ⟨l ++ [201], by simp [HL.out], by have := HE9.out.call hb7; exact ⟨this.at', this.unf, this.lt, Nat.le_trans hb1.size this.ge, bw77⟩⟩, Lib.hid (FarK.refl _ _)⟩
  case round =>
    obtain ⟨k, hk, rfl, HLD, HF⟩ := hrel
    by_cases hlt : k < n
    · have hlt' : (k : Int) < (n : Int) := by omega
      obtain ⟨L, hL1, hL2⟩ := HLD.out
      obtain ⟨x, hx⟩ : ∃ x, L[k]? = some x := ⟨_, List.getElem?_eq_getElem (by rw [hL1]; omega)⟩
      have e0 := hL2.at' k x hx
      have u0 := hL2.unf k (by rw [hL1]; omega)
      have HL2 := Lib.hid hL2
      have HL1 := Lib.hid hL1
      clear hx hL1 hL2
      generalize x.toNat = xx at *
      go_wp2
      go_roundw
      case rel => exact ⟨k + 1, by omega, by go_num, Lib.hid ⟨L.set k 122, by rw [List.length_set]; exact HL1.out, HL2.out.set (by rw [HL1.out]; omega) 122⟩, Lib.hid (HF.out.set k _)⟩
      case measure => first | (simp [intOf]; done) | (simp [intOf]; omega)
    · obtain rfl : k = n := by omega
      have hlt' : ¬ (k : Int) < (k : Int) := by omega
      have Y5 := (X59.out.call hb7).far HF.out (by have := G5.out; omega)
      have Y9 := (X99.out.call hb7).far HF.out (by have := G9.out; omega)
      have Y13 := (X139.out.call hb7).far HF.out (by have := G13.out; omega)
      have Y17 := (X17.out.call hb7).far HF.out (by have := G17.out; omega)
      have Z3 := Lib.hid ((HB39.out.call hb7).far HF.out G3.out)
      have Z4 := Lib.hid ((HB49.out.call hb7).far HF.out G4.out)
      have Z5 := Lib.hid ((HB59.out.call hb7).far HF.out G7.out)
      have Z6 := Lib.hid ((HB69.out.call hb7).far HF.out G8.out)
      obtain ⟨y50, y51, y52, y53⟩ := Y5
      obtain ⟨y90, y91, y92, y93⟩ := Y9
      obtain ⟨z0, z1, z2⟩ := Y13
      obtain ⟨v0, v1, v2⟩ := Y17
      have bwr : Below w.heap.size w wr := by obtain ⟨L, _, hL2⟩ := HLD.out; exact hL2.below
      have q50 := World.block_lt_of_cell? wr ⟨b13, 0, none⟩ z0
      have q51 := World.block_lt_of_cell? wr ⟨b17, 0, none⟩ v0
      dsimp only at q50 q51
      go_wp2_with (first | (go_at_call 13; (with_reducible refine (SAM.out _ _ _ _ _ Z3.out Z4.out).mono ?_); rintro e w8 ⟨rfl, hb8⟩; have k0 := cellB hb8 z0; have k1 := cellB hb8 z1; have k2 := cellB hb8 z2; have l0 := cellB hb8 v0; have l1 := cellB hb8 v1; have l2 := cellB hb8 v2; have bx8 := bwr.trans (hb8.mono bwr.size)) | (go_at_call 32; (with_reducible refine (RES.out _ _ _ _ _ (Z5.out.below (below_2 hb8 hb9)) (Z6.out.below (below_2 hb8 hb9))).mono ?_); rintro e wa ⟨rfl, hba⟩; have bxa := bx9.trans (hba.mono bx9.size)) | (go_at_call 12; (with_reducible refine (NUM.out pe _).mono ?_); rintro e w9 ⟨rfl, hb9⟩; have k0 := cellB hb9 k0; have k1 := cellB hb9 k1; have k2 := cellB hb9 k2; have l0 := cellB hb9 l0; have l1 := cellB hb9 l1; have l2 := cellB hb9 l2; have bx9 := bx8.trans (hb9.mono bx8.size)) | (go_at_call 12; (with_reducible refine (NUM.out re _).mono ?_); rintro e wb ⟨rfl, hbb⟩; have bxb := bxa.trans (hbb.mono bxa.size)))
      exact HQQ.out _ _ ⟨rfl, bxb⟩
theorem parses_walk (A : Option Addr) (n c : Nat) (l : List UInt8) (hl : l.length = n) (w : World) (ES : EnvS w) (T : Bs w A c l) :
    Calls Tryz.prog 8 #[.slice A n c] w fun e w' => e = .returned (.bool true) ∧ Below w.heap.size w w' := by
  by_cases h : n ≤ 4000
  · exact parses_near A n c l hl h w ES T
  · exact parses_far A n c (by omega) w ES.1
end Go.Proofs.YtkaimfeiahogaaaGreatDoor
