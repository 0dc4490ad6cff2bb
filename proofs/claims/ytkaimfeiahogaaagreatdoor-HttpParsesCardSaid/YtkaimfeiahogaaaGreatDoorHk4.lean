/-
  Contract of http's reader.line: a line is read into the reader, or refused. (Printed by tools/mkhk4.py.)
-/
import Derived.Test.YtkaimfeiahogaaaGreatDoorHk3
import Derived.Maps.OwnOps
import Derived.Maps.Own
import Derived.Maps.Views
namespace Go.Proofs.YtkaimfeiahogaaaGreatDoor
set_option linter.all false
open Go.RowKit Go.Shelf Go.Maps
attribute [local go_sem] cell_set_self lt_1 lt_2 lt_3 lt_4 lt_5 lt_6

theorem lawS : Keyed Tryz.prog 9 := string_keyed Tryz.underlying9
theorem zeroI (w : World) : (zeroValue 3).run Tryz.prog w = .ok (.int .i64 0) w := by kernel_rfl
/-- Nothing but blocks b and B, and new ones, has turned. -/
structure Only2 (b B : Nat) (w w' : World) : Prop where
  os : w'.os = w.os
  tape : w'.tape = w.tape
  output : w'.output = w.output
  size : w.heap.size ≤ w'.heap.size
  block : ∀ k, k < w.heap.size → k ≠ b → k ≠ B → w'.heap[k]? = w.heap[k]?
theorem Only2.refl (b B : Nat) (w : World) : Only2 b B w w := ⟨rfl, rfl, rfl, Nat.le_refl _, fun _ _ _ _ => rfl⟩
theorem Only2.trans {b B : Nat} {x y z : World} (h : Only2 b B x y) (k : Only2 b B y z) : Only2 b B x z :=
  ⟨k.os.trans h.os, k.tape.trans h.tape, k.output.trans h.output, Nat.le_trans h.size k.size, fun j hj h1 h2 => (k.block j (Nat.lt_of_lt_of_le hj h.size) h1 h2).trans (h.block j hj h1 h2)⟩
theorem Only2.below {b B : Nat} {x y z : World} (h : Only2 b B x y) (k : Below y.heap.size y z) : Only2 b B x z :=
  h.trans ⟨k.os, k.tape, k.output, k.size, fun j hj _ _ => k.block j hj⟩
theorem Only2.setCell {b B : Nat} {x y : World} (h : Only2 b B x y) (o : Nat) (v : Value) : Only2 b B x (y.setCell ⟨b, o, none⟩ v) :=
  h.trans ⟨rfl, rfl, rfl, by simp, fun j _ h1 _ => Below.heap_setCell _ _ _ j (fun e => h1 e)⟩
theorem Only2.alloc {b B : Nat} {x y : World} (h : Only2 b B x y) (o : Obj) : Only2 b B x (y.alloc o) := h.below (Below.alloc (Below.refl _ _) (Nat.le_refl _) _)
theorem Only2.setNew {b B : Nat} {x y : World} (h : Only2 b B x y) {p : Addr} (hp : x.heap.size ≤ p.block) (v : Value) : Only2 b B x (y.setCell p v) :=
  ⟨h.os, h.tape, h.output, by simpa using h.size, fun j hj h1 h2 => (Below.heap_setCell _ _ _ j (fun e => by rw [e] at hj; omega)).trans (h.block j hj h1 h2)⟩
theorem Only2.grown {b B : Nat} {x y z : World} (h : Only2 b B x y) (k : y.grownBy z (some B)) : Only2 b B x z :=
  h.trans ⟨k.os, k.tape, k.output, k.size, fun j hj _ h2 => k.block j hj (fun e => h2 (by injection e))⟩
/-- The reader (block b), its count of headers in the map B. -/
def Rd (w : World) (b : Nat) (m p : List UInt8) (cl : Bool) (n body : Int) (B : Nat) (ov : Bool) : Prop :=
  b < w.heap.size ∧ w.cell? ⟨b, 0, none⟩ = some (.string ⟨m.toArray⟩) ∧ w.cell? ⟨b, 1, none⟩ = some (.string ⟨p.toArray⟩) ∧ w.cell? ⟨b, 2, none⟩ = some (.slice none 0 0) ∧ w.cell? ⟨b, 3, none⟩ = some (.bool cl) ∧ w.cell? ⟨b, 4, none⟩ = some (.int .i64 n) ∧ w.cell? ⟨b, 5, none⟩ = some (.int .i64 body) ∧ w.cell? ⟨b, 6, none⟩ = some (.map (some B)) ∧ w.cell? ⟨b, 7, none⟩ = some (.bool ov) ∧ ∀ j, w.frozen? ⟨b, j, none⟩ = false
/-- How often the two names have been there. -/
def Hd (D : DataW Unit) (sl sc : Bool) : Prop := IsMap D ∧ D.atKey (.string tLen) (.lit (.int .i64 0)) = .lit (.int .i64 (if sl = true then 1 else 0)) ∧ D.atKey (.string tConn) (.lit (.int .i64 0)) = .lit (.int .i64 (if sc = true then 1 else 0))
def Mp (w : World) (B : Nat) (n : Nat) (sl sc : Bool) : Prop := ∃ D, w.ownsMap Tryz.prog 9 (plainElem (H := Unit) Tryz.prog 3) B n D ∧ Hd D sl sc
def RdSt (w : World) (b B : Nat) (st : St) (ov : Bool) : Prop := b ≠ B ∧ Rd w b st.m st.p st.close st.n st.len B ov ∧ Mp w B st.n st.sl st.sc
theorem Hd.put {D : DataW Unit} {sl sc : Bool} (h : Hd D sl sc) (k : List UInt8) (c : Int) (h1 : k = tLen → sl = false ∧ c = 1) (h2 : k = tConn → sc = false ∧ c = 1) : Hd (D.put (.string k) (.lit (.int .i64 c))) (sl || decide (k = tLen)) (sc || decide (k = tConn)) := by
  obtain ⟨a, b, d⟩ := h
  refine ⟨a.put _ _, ?_, ?_⟩
  · by_cases e : k = tLen
    · obtain ⟨e1, e2⟩ := h1 e
      rw [e, atKey_put_same a (show WideAt.IsKeyLit (.string tLen) from trivial), e1, e2]; simp
    · rw [atKey_put_other (fun h => e (by injection h with h; exact h.symm)), b, decide_eq_false e]; simp
  · by_cases e : k = tConn
    · obtain ⟨e1, e2⟩ := h2 e
      rw [e, atKey_put_same a (show WideAt.IsKeyLit (.string tConn) from trivial), e1, e2]; simp
    · rw [atKey_put_other (fun h => e (by injection h with h; exact h.symm)), d, decide_eq_false e]; simp
theorem owns_below {w w' : World} {B n : Nat} {D : DataW Unit} (h : w.ownsMap Tryz.prog 9 (plainElem (H := Unit) Tryz.prog 3) B n D) (hb : Below w.heap.size w w') : w'.ownsMap Tryz.prog 9 (plainElem (H := Unit) Tryz.prog 3) B n D :=
  h.kept (row := none) ⟨hb.os, hb.tape, hb.output, hb.size, fun i hi _ => hb.block i hi⟩ (by simp)
theorem owns_set {w : World} {B n b : Nat} {D : DataW Unit} (h : w.ownsMap Tryz.prog 9 (plainElem (H := Unit) Tryz.prog 3) B n D) (hne : b ≠ B) (o : Nat) (v : Value) : (w.setCell ⟨b, o, none⟩ v).ownsMap Tryz.prog 9 (plainElem (H := Unit) Tryz.prog 3) B n D :=
  h.kept (row := some b) ⟨rfl, rfl, rfl, by simp, fun k _ hk => Below.heap_setCell _ _ _ k (fun e => hk (by rw [e]))⟩ (fun e => hne (by injection e with e; exact e.symm))
theorem str_nil (s : List UInt8) : ((⟨s.toArray⟩ : ByteArray).toList == []) = decide (s = []) := str_beq2 s []
theorem str_nil' (s : List UInt8) : (⟨s.toArray⟩ : ByteArray).toList.isEmpty = decide (s = []) := by
  rw [ByteArray.toList_mk]; cases s <;> rfl
set_option maxHeartbeats 8000000 in
set_option maxRecDepth 100000 in
/-- The first line. -/
theorem rline_first (b B : Nat) (st : St) (hn : st.n = 0) (s : List UInt8) (hs : s.length ≤ 1000000) (w0 w : World) (E : Env w0) (hw : Below w0.heap.size w0 w) (hb0 : w0.heap.size ≤ b) (hB0 : w0.heap.size ≤ B) (R : RdSt w b B st false) :
    Calls Tryz.prog 35 #[.pointer (some ⟨b, 0, none⟩), .string ⟨s.toArray⟩] w fun e w' => e = .returned (.int .i64 (headE s)) ∧ Only2 b B w w' ∧ (headE s = 0 → RdSt w' b B ⟨1, headM s, headP s, false, st.len, st.sl, st.sc⟩ false) := by
  obtain ⟨hbB, ⟨r0, c0, c1, c2, c3, c4, c5, c6, c7, fz⟩, D, hD, hd⟩ := R
  have FI := Lib.hid (fun W (hb : Below w0.heap.size w0 W) => first_any s hs W (E.below hb))
  rw [hn] at c4
  have HN := Lib.hid hn
  have HD := Lib.hid hD; have HH := Lib.hid hd
  have f4 := fz 4; have f0 := fz 0; have f1 := fz 1; have f2 := fz 2; have f3 := fz 3
  have FZ := Lib.hid fz
  have hB := hD.lt
  unfold frV rqV at FI
  clear hn hD hd fz E
  generalize headE s = hE at *
  generalize headM s = M at *
  generalize headP s = P at *
  generalize (⟨s.toArray⟩ : ByteArray) = S at *
  obtain ⟨MB, hMB⟩ : ∃ MB : ByteArray, (⟨M.toArray⟩ : ByteArray) = MB := ⟨_, rfl⟩
  obtain ⟨PB, hPB⟩ : ∃ PB : ByteArray, (⟨P.toArray⟩ : ByteArray) = PB := ⟨_, rfl⟩
  rw [hMB, hPB] at FI
  have HMB := Lib.hid hMB; have HPB := Lib.hid hPB
  clear hMB hPB
  go_enter Tryz.func35, Tryz.ntmps35
  go_wp2_with (first | (go_at_call 55; (with_reducible refine (FI.out _ (by repeat (first | exact Below.refl _ _ | refine Below.setCell ?_ (by first | (simp; done) | (simp; omega) | omega) _ | refine Below.alloc ?_ (by first | (simp; done) | (simp; omega) | omega) _ | refine Below.drew ?_ | assumption | refine Below.trans ?_ (Below.mono (by assumption) (by first | (simp; done) | (simp; omega) | omega))))).mono ?_); rintro e w1 ⟨rfl, hb1⟩; obtain ⟨hc1, hf1⟩ := bcell hb1; have hs1 := hb1.size; (try simp at hs1); have hz1 : b < w1.heap.size ∧ B < w1.heap.size := (by omega)))
  go_ret
  refine ⟨rfl, (by repeat (first | exact Only2.refl _ _ _ | refine Only2.alloc ?_ _ | refine Only2.setCell ?_ _ _ | refine Only2.grown ?_ (by assumption) | refine Only2.below ?_ (by assumption))), fun _ => ⟨hbB, ⟨by simp; omega, by rw [← HMB.out]; simp [go_sem, *], by rw [← HPB.out]; simp [go_sem, *], (by simp [go_sem, *]), (by simp [go_sem, *]), (by simp [go_sem, *]), (by simp [go_sem, *]), (by simp [go_sem, *]), (by simp [go_sem, *]), fun j => (by have := FZ.out j; simp [go_sem, *])⟩, D, ?_, HH.out⟩⟩
  have h0 := HD.out
  rw [HN.out] at h0
  exact ((owns_set (owns_set (owns_set (owns_set (owns_below (owns_set h0 hbB _ _) hb1) hbB _ _) hbB _ _) hbB _ _) hbB _ _).alloc _).mono (by simp)
set_option maxHeartbeats 4000000 in
set_option maxRecDepth 100000 in
/-- The empty line. -/
theorem rline_end (b B : Nat) (st : St) (hn : 1 ≤ st.n) (hn2 : st.n ≤ 100) (w0 w : World) (hw : Below w0.heap.size w0 w) (hb0 : w0.heap.size ≤ b) (R : RdSt w b B st false) :
    Calls Tryz.prog 35 #[.pointer (some ⟨b, 0, none⟩), .string ⟨#[]⟩] w fun e w' => e = .returned (.int .i64 0) ∧ Only2 b B w w' ∧ Rd w' b st.m st.p st.close ((st.n + 1 : Nat) : Int) st.len B true := by
  obtain ⟨hbB, ⟨r0, c0, c1, c2, c3, c4, c5, c6, c7, fz⟩, D, hD, hd⟩ := R
  have f4 := fz 4; have f7 := fz 7
  have FZ := Lib.hid fz
  obtain ⟨n, hN⟩ : ∃ n, st.n = n := ⟨_, rfl⟩
  rw [hN] at c4 hn hn2 ⊢
  have g1 : ((n : Int) + 1 == 1) = false := by simp; omega
  clear hN hD hd fz
  generalize st.m = M at *
  generalize st.p = P at *
  go_enter Tryz.func35, Tryz.ntmps35
  go_wp2
  go_ret
  exact ⟨rfl, (by repeat (first | exact Only2.refl _ _ _ | refine Only2.alloc ?_ _ | refine Only2.setCell ?_ _ _ | refine Only2.grown ?_ (by assumption) | refine Only2.below ?_ (by assumption))), ⟨by simp; omega, (by simp [go_sem, *]), (by simp [go_sem, *]), (by simp [go_sem, *]), (by simp [go_sem, *]), (by simp [go_sem, *]), (by simp [go_sem, *]), (by simp [go_sem, *]), (by simp [go_sem, *]), fun j => (by have := FZ.out j; simp [go_sem, *])⟩⟩
set_option maxHeartbeats 16000000 in
set_option maxRecDepth 100000 in
/-- A header line. -/
theorem rline_rest (b B : Nat) (st : St) (hn : 1 ≤ st.n) (hn2 : st.n ≤ 100) (s : List UInt8) (hs0 : s ≠ []) (hs : s.length ≤ 1000000) (w0 w : World) (E : Env w0) (hw : Below w0.heap.size w0 w) (hb0 : w0.heap.size ≤ b) (hB0 : w0.heap.size ≤ B) (R : RdSt w b B st false) :
    Calls Tryz.prog 35 #[.pointer (some ⟨b, 0, none⟩), .string ⟨s.toArray⟩] w fun e w' => e = .returned (.int .i64 (stepE st s)) ∧ Only2 b B w w' ∧ (stepE st s = 0 → RdSt w' b B (stepS st s) false) := by
  obtain ⟨hbB, ⟨r0, c0, c1, c2, c3, c4, c5, c6, c7, fz⟩, D, hD, hd⟩ := R
  have HE := fun W (hb : Below w0.heap.size w0 W) => header_any s hs W (E.below hb)
  have f3 := fz 3; have f4 := fz 4; have f5 := fz 5
  have FZ := Lib.hid fz
  have hB := hD.lt
  have HD := Lib.hid hD
  have e0 := str_nil s
  have e0' := str_nil' s
  rw [decide_eq_false hs0] at e0 e0'
  obtain ⟨n, hN⟩ : ∃ n, st.n = n := ⟨_, rfl⟩
  have g1 : ((n : Int) + 1 == 1) = false := by simp; omega
  have HSN := Lib.hid hN
  rw [hN] at c4 hn hn2
  rw [hN] at HD
  clear fz hs0 hD hN
  cases hf : fieldF s with
  | none =>
    have eE : stepE st s = 10 := by unfold stepE; rw [hf]
    rw [eE]
    have HH : Hid (∀ W, Below w0.heap.size w0 W → Calls Tryz.prog 56 #[.string ⟨s.toArray⟩] W fun e w' => e = .returned (.tuple #[.string ⟨(hdN s).toArray⟩, .string ⟨(hdV s).toArray⟩, .bool false]) ∧ Below W.heap.size W w') := Lib.hid fun W hb => by have := HE W hb; rwa [field_none hf] at this
    clear HE eE hf hd E
    generalize (⟨(hdN s).toArray⟩ : ByteArray) = N at *
    generalize (⟨(hdV s).toArray⟩ : ByteArray) = V at *
    generalize (⟨s.toArray⟩ : ByteArray) = S at *
    go_enter Tryz.func35, Tryz.ntmps35
    go_wp2_with (first | (go_at_call 56; (with_reducible refine (HH.out _ (by repeat (first | exact Below.refl _ _ | refine Below.setCell ?_ (by first | (simp; done) | (simp; omega) | omega) _ | refine Below.alloc ?_ (by first | (simp; done) | (simp; omega) | omega) _ | refine Below.drew ?_ | assumption | refine Below.trans ?_ (Below.mono (by assumption) (by first | (simp; done) | (simp; omega) | omega))))).mono ?_); rintro e w2 ⟨rfl, hb2⟩; obtain ⟨hc2, hf2⟩ := bcell hb2; have hs2 := hb2.size; (try simp at hs2); have hz2 : b < w2.heap.size ∧ B < w2.heap.size := (by omega)))
    go_ret
    exact ⟨rfl, (by repeat (first | exact Only2.refl _ _ _ | refine Only2.alloc ?_ _ | refine Only2.setCell ?_ _ _ | refine Only2.grown ?_ (by assumption) | refine Only2.below ?_ (by assumption))), fun h => by cases h⟩
  | some x =>
    obtain ⟨nm, v⟩ := x
    obtain ⟨k1, k2, k3, k4, k5, k6⟩ := field_some hf
    have HH : Hid (∀ W, Below w0.heap.size w0 W → Calls Tryz.prog 56 #[.string ⟨s.toArray⟩] W fun e w' => e = .returned (.tuple #[.string ⟨nm.toArray⟩, .string ⟨v.toArray⟩, .bool true]) ∧ Below W.heap.size W w') := Lib.hid fun W hb => by
      have := HE W hb
      rwa [k1, k2, decide_eq_true k3, k4, k5, k6] at this
    have hv7 := field_all hf
    have lnm : nm.length ≤ 4000000 := by
      rw [← k5]; unfold hdN
      have h1 := lower_len _ (cutW 58 s).1 (Nat.le_refl _)
      have h2 : (cutW 58 s).1.length ≤ s.length := by
        rcases cutW_cases 58 s with ⟨h, _⟩ | ⟨z, r, h1, _, _, h⟩
        · rw [h]; simp
        · rw [h, h1]; simp
      omega
    have lv : v.length ≤ 1000000 := by
      rw [← k6]; unfold hdV
      have h1 := trimH_len (cutW 58 s).2.1
      have h2 : (cutW 58 s).2.1.length ≤ s.length := by
        rcases cutW_cases 58 s with ⟨h, _⟩ | ⟨z, r, h1, _, _, h⟩
        · rw [h]; simp
        · rw [h, h1]; simp; omega
      omega
    have hkey : keyOf Tryz.prog 9 (.string ⟨nm.toArray⟩) = some (.string nm) := Go.WideMaps.keyOf_string_mk Tryz.underlying9 (by rw [ba_sz]; unfold maxLen; omega)
    clear HE k1 k2 k3 k4 k5 k6
    by_cases h20 : 20 < n
    · have eE : stepE st s = 9 := by unfold stepE; rw [hf]; simp only; rw [if_pos (by rw [HSN.out]; exact h20)]
      rw [eE]
      have z20 : (20 : Int) < (n : Int) := by omega
      clear eE hf hd E hkey
      generalize (⟨nm.toArray⟩ : ByteArray) = N at *
      generalize (⟨v.toArray⟩ : ByteArray) = V at *
      generalize (⟨s.toArray⟩ : ByteArray) = S at *
      go_enter Tryz.func35, Tryz.ntmps35
      go_wp2_with (first | (go_at_call 56; (with_reducible refine (HH.out _ (by repeat (first | exact Below.refl _ _ | refine Below.setCell ?_ (by first | (simp; done) | (simp; omega) | omega) _ | refine Below.alloc ?_ (by first | (simp; done) | (simp; omega) | omega) _ | refine Below.drew ?_ | assumption | refine Below.trans ?_ (Below.mono (by assumption) (by first | (simp; done) | (simp; omega) | omega))))).mono ?_); rintro e w2 ⟨rfl, hb2⟩; obtain ⟨hc2, hf2⟩ := bcell hb2; have hs2 := hb2.size; (try simp at hs2); have hz2 : b < w2.heap.size ∧ B < w2.heap.size := (by omega)))
      go_ret
      exact ⟨rfl, (by repeat (first | exact Only2.refl _ _ _ | refine Only2.alloc ?_ _ | refine Only2.setCell ?_ _ _ | refine Only2.grown ?_ (by assumption) | refine Only2.below ?_ (by assumption))), fun h => by cases h⟩
    · have z20 : ¬ (20 : Int) < (n : Int) := by omega
      have e20 : ¬ 20 < st.n := by rw [HSN.out]; exact h20
      have L1 : ((⟨nm.toArray⟩ : ByteArray).toList == [99, 111, 110, 116, 101, 110, 116, 45, 108, 101, 110, 103, 116, 104]) = decide (nm = tLen) := str_beq2 nm tLen
      have L2 : ((⟨nm.toArray⟩ : ByteArray).toList == [99, 111, 110, 110, 101, 99, 116, 105, 111, 110]) = decide (nm = tConn) := str_beq2 nm tConn
      have HHD := Lib.hid hd
      by_cases hL : nm = tLen
      · have hC : ¬ nm = tConn := by rw [hL]; decide
        rw [decide_eq_true hL] at L1
        rw [decide_eq_false hC] at L2
        cases hsl : st.sl with
        | true =>
          have eE : stepE st s = 12 := by unfold stepE; rw [hf]; simp only; rw [if_neg e20, if_pos hL, if_pos hsl]
          rw [eE]
          rw [hsl] at HHD
          subst hL
          clear eE hf hd E hC e20 h20
          generalize hTL : (⟨tLen.toArray⟩ : ByteArray) = N at *
          clear hTL
          generalize (⟨v.toArray⟩ : ByteArray) = V at *
          generalize (⟨s.toArray⟩ : ByteArray) = S at *
          go_enter Tryz.func35, Tryz.ntmps35
          go_upto_region 15 with (first | (go_at_call 56; (with_reducible refine (HH.out _ (by repeat (first | exact Below.refl _ _ | refine Below.setCell ?_ (by first | (simp; done) | (simp; omega) | omega) _ | refine Below.alloc ?_ (by first | (simp; done) | (simp; omega) | omega) _ | refine Below.drew ?_ | assumption | refine Below.trans ?_ (Below.mono (by assumption) (by first | (simp; done) | (simp; omega) | omega))))).mono ?_); rintro e w2 ⟨rfl, hb2⟩; obtain ⟨hc2, hf2⟩ := bcell hb2; have hs2 := hb2.size; (try simp at hs2); have hz2 : b < w2.heap.size ∧ B < w2.heap.size := (by omega); have HO := Lib.hid (owns_below (owns_set HD.out hbB 4 _) hb2)) | (at_lookup; refine wpList_lookup_own_int _ rfl _ _ 69 rfl 9 3 .i64 lawS Tryz.underlying69 Tryz.underlying3 (zeroI _) B n D rfl HO.out _ _ rfl hkey ?_; intro c hat hwc; obtain rfl : c = 1 := by have h9 := HHD.out.2.1; rw [hat] at h9; simp at h9; exact h9) | (at_mapUpdate; refine wpList_mapUpdate_own _ rfl _ _ _ 69 rfl 9 3 lawS Tryz.underlying69 _ B n D rfl HO.out (by unfold maxLen; omega) _ _ _ rfl rfl hkey _ [] (plainElem_int Tryz.underlying3 (show (Lit.int .i64 2).wf = true by decide)) ?_; intro w3 hown3 hgrow3; have hc3 : ∀ o, w3.cell? ⟨b, o, none⟩ = w2.cell? ⟨b, o, none⟩ := fun o => hgrow3.cell_far ⟨b, o, none⟩ hz2.1 (fun e => hbB (by injection e)); have hf3 : ∀ o, w3.frozen? ⟨b, o, none⟩ = w2.frozen? ⟨b, o, none⟩ := fun o => hgrow3.frozen_far ⟨b, o, none⟩ hz2.1 (fun e => hbB (by injection e)); have hB3 : Below w0.heap.size w0 w3 := Below.grown (show Below w0.heap.size w0 w2 from (by repeat (first | exact Below.refl _ _ | refine Below.setCell ?_ (by first | (simp; done) | (simp; omega) | omega) _ | refine Below.alloc ?_ (by first | (simp; done) | (simp; omega) | omega) _ | refine Below.drew ?_ | assumption | refine Below.trans ?_ (Below.mono (by assumption) (by first | (simp; done) | (simp; omega) | omega))))) hgrow3 (by have := hw.size; omega) (fun k hk => by injection hk with hk; omega); have hs3 := hgrow3.size; have hz3 : b < w3.heap.size := (by omega); have HO3 := Lib.hid hown3; clear hown3))
          go_wp2_with (first | (at_lookup; refine wpList_lookup_own_int _ rfl _ _ 69 rfl 9 3 .i64 lawS Tryz.underlying69 Tryz.underlying3 (zeroI _) B (n + 1) _ rfl HO3.out _ _ rfl hkey ?_; intro c2 hat2 hwc2; obtain rfl : c2 = 2 := by rw [atKey_put_same HHD.out.1 (show WideAt.IsKeyLit (.string tLen) from trivial)] at hat2; injection hat2 with h9; injection h9 with _ h9; exact h9.symm))
          go_ret
          exact ⟨rfl, (by repeat (first | exact Only2.refl _ _ _ | refine Only2.alloc ?_ _ | refine Only2.setCell ?_ _ _ | refine Only2.grown ?_ (by assumption) | refine Only2.below ?_ (by assumption))), fun h => by cases h⟩
        | false =>
          have eE : stepE st s = lenE v := by unfold stepE; rw [hf]; simp only; rw [if_neg e20, if_pos hL, if_neg (by rw [hsl]; simp)]
          have eS : stepS st s = ⟨n + 1, st.m, st.p, st.close, dv v, true, st.sc⟩ := by unfold stepS; rw [hf]; simp only; rw [if_pos hL, HSN.out]
          rw [eE, eS]
          rw [hsl] at HHD
          have LG := Lib.hid (fun W (hb : Below w0.heap.size w0 W) => length_any v (by omega) W (E.below hb))
          have LV : Hid (lenE v = 0 → lenV v = dv v) := Lib.hid fun h => by unfold lenV; rw [if_pos h]
          have HP : Hid (Hd (D.put (.string tLen) (.lit (.int .i64 1))) true st.sc) := Lib.hid (by
            have hp := HHD.out.put tLen 1 (fun _ => ⟨rfl, rfl⟩) (fun h => absurd h (by decide))
            rwa [show (false || decide (tLen = tLen)) = true by simp, show decide (tLen = tConn) = false by decide, Bool.or_false] at hp)
          subst hL
          clear eE eS hf hd E hC e20 h20
          generalize lenE v = le at *
          generalize lenV v = lv' at *
          generalize hTL : (⟨tLen.toArray⟩ : ByteArray) = N at *
          clear hTL
          generalize (⟨v.toArray⟩ : ByteArray) = V at *
          generalize (⟨s.toArray⟩ : ByteArray) = S at *
          go_enter Tryz.func35, Tryz.ntmps35
          go_upto_region 15 with (first | (go_at_call 56; (with_reducible refine (HH.out _ (by repeat (first | exact Below.refl _ _ | refine Below.setCell ?_ (by first | (simp; done) | (simp; omega) | omega) _ | refine Below.alloc ?_ (by first | (simp; done) | (simp; omega) | omega) _ | refine Below.drew ?_ | assumption | refine Below.trans ?_ (Below.mono (by assumption) (by first | (simp; done) | (simp; omega) | omega))))).mono ?_); rintro e w2 ⟨rfl, hb2⟩; obtain ⟨hc2, hf2⟩ := bcell hb2; have hs2 := hb2.size; (try simp at hs2); have hz2 : b < w2.heap.size ∧ B < w2.heap.size := (by omega); have HO := Lib.hid (owns_below (owns_set HD.out hbB 4 _) hb2)) | (at_lookup; refine wpList_lookup_own_int _ rfl _ _ 69 rfl 9 3 .i64 lawS Tryz.underlying69 Tryz.underlying3 (zeroI _) B n D rfl HO.out _ _ rfl hkey ?_; intro c hat hwc; obtain rfl : c = 0 := by have h9 := HHD.out.2.1; rw [hat] at h9; simp at h9; exact h9) | (at_mapUpdate; refine wpList_mapUpdate_own _ rfl _ _ _ 69 rfl 9 3 lawS Tryz.underlying69 _ B n D rfl HO.out (by unfold maxLen; omega) _ _ _ rfl rfl hkey _ [] (plainElem_int Tryz.underlying3 (show (Lit.int .i64 1).wf = true by decide)) ?_; intro w3 hown3 hgrow3; have hc3 : ∀ o, w3.cell? ⟨b, o, none⟩ = w2.cell? ⟨b, o, none⟩ := fun o => hgrow3.cell_far ⟨b, o, none⟩ hz2.1 (fun e => hbB (by injection e)); have hf3 : ∀ o, w3.frozen? ⟨b, o, none⟩ = w2.frozen? ⟨b, o, none⟩ := fun o => hgrow3.frozen_far ⟨b, o, none⟩ hz2.1 (fun e => hbB (by injection e)); have hB3 : Below w0.heap.size w0 w3 := Below.grown (show Below w0.heap.size w0 w2 from (by repeat (first | exact Below.refl _ _ | refine Below.setCell ?_ (by first | (simp; done) | (simp; omega) | omega) _ | refine Below.alloc ?_ (by first | (simp; done) | (simp; omega) | omega) _ | refine Below.drew ?_ | assumption | refine Below.trans ?_ (Below.mono (by assumption) (by first | (simp; done) | (simp; omega) | omega))))) hgrow3 (by have := hw.size; omega) (fun k hk => by injection hk with hk; omega); have hs3 := hgrow3.size; have hz3 : b < w3.heap.size := (by omega); have HO3 := Lib.hid hown3; clear hown3))
          go_wp2_with (first | (at_lookup; refine wpList_lookup_own_int _ rfl _ _ 69 rfl 9 3 .i64 lawS Tryz.underlying69 Tryz.underlying3 (zeroI _) B (n + 1) _ rfl HO3.out _ _ rfl hkey ?_; intro c2 hat2 hwc2; obtain rfl : c2 = 1 := by rw [atKey_put_same HHD.out.1 (show WideAt.IsKeyLit (.string tLen) from trivial)] at hat2; injection hat2 with h9; injection h9 with _ h9; exact h9.symm) | (go_at_call 57; (with_reducible refine (LG.out _ (by repeat (first | exact Below.refl _ _ | refine Below.setCell ?_ (by first | (simp; done) | (simp; omega) | omega) _ | refine Below.alloc ?_ (by first | (simp; done) | (simp; omega) | omega) _ | refine Below.drew ?_ | assumption | refine Below.trans ?_ (Below.mono (by assumption) (by first | (simp; done) | (simp; omega) | omega))))).mono ?_); rintro e w4 ⟨rfl, hb4⟩; obtain ⟨hc4, hf4⟩ := bcell hb4; have hs4 := hb4.size; (try simp at hs4); have hz4 : b < w4.heap.size := (by omega)))
          go_ret
          refine ⟨rfl, (by repeat (first | exact Only2.refl _ _ _ | refine Only2.alloc ?_ _ | refine Only2.setCell ?_ _ _ | refine Only2.grown ?_ (by assumption) | refine Only2.below ?_ (by assumption))), fun h0 => ⟨hbB, ⟨by simp; omega, (by simp [go_sem, *]), (by simp [go_sem, *]), (by simp [go_sem, *]), (by simp [go_sem, *]), (by simp [go_sem, *]), by rw [← LV.out h0]; simp [go_sem, *], (by simp [go_sem, *]), (by simp [go_sem, *]), fun j => (by have := FZ.out j; simp [go_sem, *])⟩, _, owns_set (owns_below HO3.out hb4) hbB _ _, HP.out⟩⟩
      · rw [decide_eq_false hL] at L1
        by_cases hC : nm = tConn
        · rw [decide_eq_true hC] at L2
          cases hsc : st.sc with
          | true =>
            have eE : stepE st s = 12 := by unfold stepE; rw [hf]; simp only; rw [if_neg e20, if_neg hL, if_pos hC, if_pos hsc]
            rw [eE]
            rw [hsc] at HHD
            subst hC
            clear eE hf hd E hL e20 h20
            generalize hTL : (⟨tConn.toArray⟩ : ByteArray) = N at *
            clear hTL
            generalize (⟨v.toArray⟩ : ByteArray) = V at *
            generalize (⟨s.toArray⟩ : ByteArray) = S at *
            go_enter Tryz.func35, Tryz.ntmps35
            go_upto_region 15 with (first | (go_at_call 56; (with_reducible refine (HH.out _ (by repeat (first | exact Below.refl _ _ | refine Below.setCell ?_ (by first | (simp; done) | (simp; omega) | omega) _ | refine Below.alloc ?_ (by first | (simp; done) | (simp; omega) | omega) _ | refine Below.drew ?_ | assumption | refine Below.trans ?_ (Below.mono (by assumption) (by first | (simp; done) | (simp; omega) | omega))))).mono ?_); rintro e w2 ⟨rfl, hb2⟩; obtain ⟨hc2, hf2⟩ := bcell hb2; have hs2 := hb2.size; (try simp at hs2); have hz2 : b < w2.heap.size ∧ B < w2.heap.size := (by omega); have HO := Lib.hid (owns_below (owns_set HD.out hbB 4 _) hb2)) | (at_lookup; refine wpList_lookup_own_int _ rfl _ _ 69 rfl 9 3 .i64 lawS Tryz.underlying69 Tryz.underlying3 (zeroI _) B n D rfl HO.out _ _ rfl hkey ?_; intro c hat hwc; obtain rfl : c = 1 := by have h9 := HHD.out.2.2; rw [hat] at h9; simp at h9; exact h9) | (at_mapUpdate; refine wpList_mapUpdate_own _ rfl _ _ _ 69 rfl 9 3 lawS Tryz.underlying69 _ B n D rfl HO.out (by unfold maxLen; omega) _ _ _ rfl rfl hkey _ [] (plainElem_int Tryz.underlying3 (show (Lit.int .i64 2).wf = true by decide)) ?_; intro w3 hown3 hgrow3; have hc3 : ∀ o, w3.cell? ⟨b, o, none⟩ = w2.cell? ⟨b, o, none⟩ := fun o => hgrow3.cell_far ⟨b, o, none⟩ hz2.1 (fun e => hbB (by injection e)); have hf3 : ∀ o, w3.frozen? ⟨b, o, none⟩ = w2.frozen? ⟨b, o, none⟩ := fun o => hgrow3.frozen_far ⟨b, o, none⟩ hz2.1 (fun e => hbB (by injection e)); have hB3 : Below w0.heap.size w0 w3 := Below.grown (show Below w0.heap.size w0 w2 from (by repeat (first | exact Below.refl _ _ | refine Below.setCell ?_ (by first | (simp; done) | (simp; omega) | omega) _ | refine Below.alloc ?_ (by first | (simp; done) | (simp; omega) | omega) _ | refine Below.drew ?_ | assumption | refine Below.trans ?_ (Below.mono (by assumption) (by first | (simp; done) | (simp; omega) | omega))))) hgrow3 (by have := hw.size; omega) (fun k hk => by injection hk with hk; omega); have hs3 := hgrow3.size; have hz3 : b < w3.heap.size := (by omega); have HO3 := Lib.hid hown3; clear hown3))
            go_wp2_with (first | (at_lookup; refine wpList_lookup_own_int _ rfl _ _ 69 rfl 9 3 .i64 lawS Tryz.underlying69 Tryz.underlying3 (zeroI _) B (n + 1) _ rfl HO3.out _ _ rfl hkey ?_; intro c2 hat2 hwc2; obtain rfl : c2 = 2 := by rw [atKey_put_same HHD.out.1 (show WideAt.IsKeyLit (.string tConn) from trivial)] at hat2; injection hat2 with h9; injection h9 with _ h9; exact h9.symm))
            go_ret
            exact ⟨rfl, (by repeat (first | exact Only2.refl _ _ _ | refine Only2.alloc ?_ _ | refine Only2.setCell ?_ _ _ | refine Only2.grown ?_ (by assumption) | refine Only2.below ?_ (by assumption))), fun h => by cases h⟩
          | false =>
            have eE : stepE st s = if small v = tClose ∨ small v = tKeep then 0 else 10 := by unfold stepE; rw [hf]; simp only; rw [if_neg e20, if_neg hL, if_pos hC, if_neg (by rw [hsc]; simp)]
            have eS : stepS st s = ⟨n + 1, st.m, st.p, decide (small v = tClose), st.len, st.sl, true⟩ := by unfold stepS; rw [hf]; simp only; rw [if_neg hL, if_pos hC, HSN.out]
            rw [eE, eS]
            rw [hsc] at HHD
            have TL : Hid (∀ W, Below w0.heap.size w0 W → Calls Tryz.prog 58 #[.string ⟨v.toArray⟩] W fun e w' => e = .returned (.string ⟨(small v).toArray⟩) ∧ Below W.heap.size W w') := Lib.hid (fun W hb => by
              have := lower_any v (by omega) W (E.below hb)
              rwa [show Lib.toLowerD v = small v from Lib.toLowerD_ascii v hv7] at this)
            have HP : Hid (Hd (D.put (.string tConn) (.lit (.int .i64 1))) st.sl true) := Lib.hid (by
              have hp := HHD.out.put tConn 1 (fun h => absurd h (by decide)) (fun _ => ⟨rfl, rfl⟩)
              rwa [show decide (tConn = tLen) = false by decide, show (false || decide (tConn = tConn)) = true by simp, Bool.or_false] at hp)
            have S1 : ((⟨(small v).toArray⟩ : ByteArray).toList == [99, 108, 111, 115, 101]) = decide (small v = tClose) := str_beq2 (small v) tClose
            have S2 : ((⟨(small v).toArray⟩ : ByteArray).toList == [107, 101, 101, 112, 45, 97, 108, 105, 118, 101]) = decide (small v = tKeep) := str_beq2 (small v) tKeep
            have SZ0 : (((⟨(small v).toArray⟩ : ByteArray).size : Int) != ((⟨v.toArray⟩ : ByteArray).size : Int)) = false := by
              have h1 : (⟨(small v).toArray⟩ : ByteArray).size = (⟨v.toArray⟩ : ByteArray).size := by rw [ba_sz, ba_sz]; simp [small]
              rw [h1]; simp
            subst hC
            clear eE eS hf hd E hL e20 h20 hv7
            generalize hTL : (⟨tConn.toArray⟩ : ByteArray) = N at *
            clear hTL
            by_cases hcl : small v = tClose
            · rw [if_pos (.inl hcl), decide_eq_true hcl]
              rw [decide_eq_true hcl] at S1
              clear hcl S2
              generalize (⟨(small v).toArray⟩ : ByteArray) = VS at *
              generalize (⟨v.toArray⟩ : ByteArray) = V at *
              generalize (⟨s.toArray⟩ : ByteArray) = S at *
              go_enter Tryz.func35, Tryz.ntmps35
              go_upto_region 15 with (first | (go_at_call 56; (with_reducible refine (HH.out _ (by repeat (first | exact Below.refl _ _ | refine Below.setCell ?_ (by first | (simp; done) | (simp; omega) | omega) _ | refine Below.alloc ?_ (by first | (simp; done) | (simp; omega) | omega) _ | refine Below.drew ?_ | assumption | refine Below.trans ?_ (Below.mono (by assumption) (by first | (simp; done) | (simp; omega) | omega))))).mono ?_); rintro e w2 ⟨rfl, hb2⟩; obtain ⟨hc2, hf2⟩ := bcell hb2; have hs2 := hb2.size; (try simp at hs2); have hz2 : b < w2.heap.size ∧ B < w2.heap.size := (by omega); have HO := Lib.hid (owns_below (owns_set HD.out hbB 4 _) hb2)) | (at_lookup; refine wpList_lookup_own_int _ rfl _ _ 69 rfl 9 3 .i64 lawS Tryz.underlying69 Tryz.underlying3 (zeroI _) B n D rfl HO.out _ _ rfl hkey ?_; intro c hat hwc; obtain rfl : c = 0 := by have h9 := HHD.out.2.2; rw [hat] at h9; simp at h9; exact h9) | (at_mapUpdate; refine wpList_mapUpdate_own _ rfl _ _ _ 69 rfl 9 3 lawS Tryz.underlying69 _ B n D rfl HO.out (by unfold maxLen; omega) _ _ _ rfl rfl hkey _ [] (plainElem_int Tryz.underlying3 (show (Lit.int .i64 1).wf = true by decide)) ?_; intro w3 hown3 hgrow3; have hc3 : ∀ o, w3.cell? ⟨b, o, none⟩ = w2.cell? ⟨b, o, none⟩ := fun o => hgrow3.cell_far ⟨b, o, none⟩ hz2.1 (fun e => hbB (by injection e)); have hf3 : ∀ o, w3.frozen? ⟨b, o, none⟩ = w2.frozen? ⟨b, o, none⟩ := fun o => hgrow3.frozen_far ⟨b, o, none⟩ hz2.1 (fun e => hbB (by injection e)); have hB3 : Below w0.heap.size w0 w3 := Below.grown (show Below w0.heap.size w0 w2 from (by repeat (first | exact Below.refl _ _ | refine Below.setCell ?_ (by first | (simp; done) | (simp; omega) | omega) _ | refine Below.alloc ?_ (by first | (simp; done) | (simp; omega) | omega) _ | refine Below.drew ?_ | assumption | refine Below.trans ?_ (Below.mono (by assumption) (by first | (simp; done) | (simp; omega) | omega))))) hgrow3 (by have := hw.size; omega) (fun k hk => by injection hk with hk; omega); have hs3 := hgrow3.size; have hz3 : b < w3.heap.size := (by omega); have HO3 := Lib.hid hown3; clear hown3))
              go_wp2_with (first | (at_lookup; refine wpList_lookup_own_int _ rfl _ _ 69 rfl 9 3 .i64 lawS Tryz.underlying69 Tryz.underlying3 (zeroI _) B (n + 1) _ rfl HO3.out _ _ rfl hkey ?_; intro c2 hat2 hwc2; obtain rfl : c2 = 1 := by rw [atKey_put_same HHD.out.1 (show WideAt.IsKeyLit (.string tConn) from trivial)] at hat2; injection hat2 with h9; injection h9 with _ h9; exact h9.symm) | (go_at_call 58; (with_reducible refine (TL.out _ (by repeat (first | exact Below.refl _ _ | refine Below.setCell ?_ (by first | (simp; done) | (simp; omega) | omega) _ | refine Below.alloc ?_ (by first | (simp; done) | (simp; omega) | omega) _ | refine Below.drew ?_ | assumption | refine Below.trans ?_ (Below.mono (by assumption) (by first | (simp; done) | (simp; omega) | omega))))).mono ?_); rintro e w4 ⟨rfl, hb4⟩; obtain ⟨hc4, hf4⟩ := bcell hb4; have hs4 := hb4.size; (try simp at hs4); have hz4 : b < w4.heap.size := (by omega)))
              go_ret
              refine ⟨rfl, (by repeat (first | exact Only2.refl _ _ _ | refine Only2.alloc ?_ _ | refine Only2.setCell ?_ _ _ | refine Only2.grown ?_ (by assumption) | refine Only2.below ?_ (by assumption))), fun _ => ⟨hbB, ⟨by simp; omega, (by simp [go_sem, *]), (by simp [go_sem, *]), (by simp [go_sem, *]), (by simp [go_sem, *]), (by simp [go_sem, *]), (by simp [go_sem, *]), (by simp [go_sem, *]), (by simp [go_sem, *]), fun j => (by have := FZ.out j; simp [go_sem, *])⟩, _, owns_set (owns_below HO3.out hb4) hbB _ _, HP.out⟩⟩
            · rw [decide_eq_false hcl]
              rw [decide_eq_false hcl] at S1
              by_cases hkp : small v = tKeep
              · rw [if_pos (.inr hkp)]
                rw [decide_eq_true hkp] at S2
                clear hcl hkp
                generalize (⟨(small v).toArray⟩ : ByteArray) = VS at *
                generalize (⟨v.toArray⟩ : ByteArray) = V at *
                generalize (⟨s.toArray⟩ : ByteArray) = S at *
                go_enter Tryz.func35, Tryz.ntmps35
                go_upto_region 15 with (first | (go_at_call 56; (with_reducible refine (HH.out _ (by repeat (first | exact Below.refl _ _ | refine Below.setCell ?_ (by first | (simp; done) | (simp; omega) | omega) _ | refine Below.alloc ?_ (by first | (simp; done) | (simp; omega) | omega) _ | refine Below.drew ?_ | assumption | refine Below.trans ?_ (Below.mono (by assumption) (by first | (simp; done) | (simp; omega) | omega))))).mono ?_); rintro e w2 ⟨rfl, hb2⟩; obtain ⟨hc2, hf2⟩ := bcell hb2; have hs2 := hb2.size; (try simp at hs2); have hz2 : b < w2.heap.size ∧ B < w2.heap.size := (by omega); have HO := Lib.hid (owns_below (owns_set HD.out hbB 4 _) hb2)) | (at_lookup; refine wpList_lookup_own_int _ rfl _ _ 69 rfl 9 3 .i64 lawS Tryz.underlying69 Tryz.underlying3 (zeroI _) B n D rfl HO.out _ _ rfl hkey ?_; intro c hat hwc; obtain rfl : c = 0 := by have h9 := HHD.out.2.2; rw [hat] at h9; simp at h9; exact h9) | (at_mapUpdate; refine wpList_mapUpdate_own _ rfl _ _ _ 69 rfl 9 3 lawS Tryz.underlying69 _ B n D rfl HO.out (by unfold maxLen; omega) _ _ _ rfl rfl hkey _ [] (plainElem_int Tryz.underlying3 (show (Lit.int .i64 1).wf = true by decide)) ?_; intro w3 hown3 hgrow3; have hc3 : ∀ o, w3.cell? ⟨b, o, none⟩ = w2.cell? ⟨b, o, none⟩ := fun o => hgrow3.cell_far ⟨b, o, none⟩ hz2.1 (fun e => hbB (by injection e)); have hf3 : ∀ o, w3.frozen? ⟨b, o, none⟩ = w2.frozen? ⟨b, o, none⟩ := fun o => hgrow3.frozen_far ⟨b, o, none⟩ hz2.1 (fun e => hbB (by injection e)); have hB3 : Below w0.heap.size w0 w3 := Below.grown (show Below w0.heap.size w0 w2 from (by repeat (first | exact Below.refl _ _ | refine Below.setCell ?_ (by first | (simp; done) | (simp; omega) | omega) _ | refine Below.alloc ?_ (by first | (simp; done) | (simp; omega) | omega) _ | refine Below.drew ?_ | assumption | refine Below.trans ?_ (Below.mono (by assumption) (by first | (simp; done) | (simp; omega) | omega))))) hgrow3 (by have := hw.size; omega) (fun k hk => by injection hk with hk; omega); have hs3 := hgrow3.size; have hz3 : b < w3.heap.size := (by omega); have HO3 := Lib.hid hown3; clear hown3))
                go_wp2_with (first | (at_lookup; refine wpList_lookup_own_int _ rfl _ _ 69 rfl 9 3 .i64 lawS Tryz.underlying69 Tryz.underlying3 (zeroI _) B (n + 1) _ rfl HO3.out _ _ rfl hkey ?_; intro c2 hat2 hwc2; obtain rfl : c2 = 1 := by rw [atKey_put_same HHD.out.1 (show WideAt.IsKeyLit (.string tConn) from trivial)] at hat2; injection hat2 with h9; injection h9 with _ h9; exact h9.symm) | (go_at_call 58; (with_reducible refine (TL.out _ (by repeat (first | exact Below.refl _ _ | refine Below.setCell ?_ (by first | (simp; done) | (simp; omega) | omega) _ | refine Below.alloc ?_ (by first | (simp; done) | (simp; omega) | omega) _ | refine Below.drew ?_ | assumption | refine Below.trans ?_ (Below.mono (by assumption) (by first | (simp; done) | (simp; omega) | omega))))).mono ?_); rintro e w4 ⟨rfl, hb4⟩; obtain ⟨hc4, hf4⟩ := bcell hb4; have hs4 := hb4.size; (try simp at hs4); have hz4 : b < w4.heap.size := (by omega)))
                go_ret
                refine ⟨rfl, (by repeat (first | exact Only2.refl _ _ _ | refine Only2.alloc ?_ _ | refine Only2.setCell ?_ _ _ | refine Only2.grown ?_ (by assumption) | refine Only2.below ?_ (by assumption))), fun _ => ⟨hbB, ⟨by simp; omega, (by simp [go_sem, *]), (by simp [go_sem, *]), (by simp [go_sem, *]), (by simp [go_sem, *]), (by simp [go_sem, *]), (by simp [go_sem, *]), (by simp [go_sem, *]), (by simp [go_sem, *]), fun j => (by have := FZ.out j; simp [go_sem, *])⟩, _, owns_set (owns_below HO3.out hb4) hbB _ _, HP.out⟩⟩
              · rw [if_neg (fun h => h.elim hcl hkp)]
                rw [decide_eq_false hkp] at S2
                clear hcl hkp
                generalize (⟨(small v).toArray⟩ : ByteArray) = VS at *
                generalize (⟨v.toArray⟩ : ByteArray) = V at *
                generalize (⟨s.toArray⟩ : ByteArray) = S at *
                go_enter Tryz.func35, Tryz.ntmps35
                go_upto_region 15 with (first | (go_at_call 56; (with_reducible refine (HH.out _ (by repeat (first | exact Below.refl _ _ | refine Below.setCell ?_ (by first | (simp; done) | (simp; omega) | omega) _ | refine Below.alloc ?_ (by first | (simp; done) | (simp; omega) | omega) _ | refine Below.drew ?_ | assumption | refine Below.trans ?_ (Below.mono (by assumption) (by first | (simp; done) | (simp; omega) | omega))))).mono ?_); rintro e w2 ⟨rfl, hb2⟩; obtain ⟨hc2, hf2⟩ := bcell hb2; have hs2 := hb2.size; (try simp at hs2); have hz2 : b < w2.heap.size ∧ B < w2.heap.size := (by omega); have HO := Lib.hid (owns_below (owns_set HD.out hbB 4 _) hb2)) | (at_lookup; refine wpList_lookup_own_int _ rfl _ _ 69 rfl 9 3 .i64 lawS Tryz.underlying69 Tryz.underlying3 (zeroI _) B n D rfl HO.out _ _ rfl hkey ?_; intro c hat hwc; obtain rfl : c = 0 := by have h9 := HHD.out.2.2; rw [hat] at h9; simp at h9; exact h9) | (at_mapUpdate; refine wpList_mapUpdate_own _ rfl _ _ _ 69 rfl 9 3 lawS Tryz.underlying69 _ B n D rfl HO.out (by unfold maxLen; omega) _ _ _ rfl rfl hkey _ [] (plainElem_int Tryz.underlying3 (show (Lit.int .i64 1).wf = true by decide)) ?_; intro w3 hown3 hgrow3; have hc3 : ∀ o, w3.cell? ⟨b, o, none⟩ = w2.cell? ⟨b, o, none⟩ := fun o => hgrow3.cell_far ⟨b, o, none⟩ hz2.1 (fun e => hbB (by injection e)); have hf3 : ∀ o, w3.frozen? ⟨b, o, none⟩ = w2.frozen? ⟨b, o, none⟩ := fun o => hgrow3.frozen_far ⟨b, o, none⟩ hz2.1 (fun e => hbB (by injection e)); have hB3 : Below w0.heap.size w0 w3 := Below.grown (show Below w0.heap.size w0 w2 from (by repeat (first | exact Below.refl _ _ | refine Below.setCell ?_ (by first | (simp; done) | (simp; omega) | omega) _ | refine Below.alloc ?_ (by first | (simp; done) | (simp; omega) | omega) _ | refine Below.drew ?_ | assumption | refine Below.trans ?_ (Below.mono (by assumption) (by first | (simp; done) | (simp; omega) | omega))))) hgrow3 (by have := hw.size; omega) (fun k hk => by injection hk with hk; omega); have hs3 := hgrow3.size; have hz3 : b < w3.heap.size := (by omega); have HO3 := Lib.hid hown3; clear hown3))
                go_wp2_with (first | (at_lookup; refine wpList_lookup_own_int _ rfl _ _ 69 rfl 9 3 .i64 lawS Tryz.underlying69 Tryz.underlying3 (zeroI _) B (n + 1) _ rfl HO3.out _ _ rfl hkey ?_; intro c2 hat2 hwc2; obtain rfl : c2 = 1 := by rw [atKey_put_same HHD.out.1 (show WideAt.IsKeyLit (.string tConn) from trivial)] at hat2; injection hat2 with h9; injection h9 with _ h9; exact h9.symm) | (go_at_call 58; (with_reducible refine (TL.out _ (by repeat (first | exact Below.refl _ _ | refine Below.setCell ?_ (by first | (simp; done) | (simp; omega) | omega) _ | refine Below.alloc ?_ (by first | (simp; done) | (simp; omega) | omega) _ | refine Below.drew ?_ | assumption | refine Below.trans ?_ (Below.mono (by assumption) (by first | (simp; done) | (simp; omega) | omega))))).mono ?_); rintro e w4 ⟨rfl, hb4⟩; obtain ⟨hc4, hf4⟩ := bcell hb4; have hs4 := hb4.size; (try simp at hs4); have hz4 : b < w4.heap.size := (by omega)))
                go_ret
                exact ⟨rfl, (by repeat (first | exact Only2.refl _ _ _ | refine Only2.alloc ?_ _ | refine Only2.setCell ?_ _ _ | refine Only2.grown ?_ (by assumption) | refine Only2.below ?_ (by assumption))), fun h => by cases h⟩
        · rw [decide_eq_false hC] at L2
          have eE : stepE st s = 0 := by unfold stepE; rw [hf]; simp only; rw [if_neg e20, if_neg hL, if_neg hC]
          have eS : stepS st s = ⟨n + 1, st.m, st.p, st.close, st.len, st.sl, st.sc⟩ := by unfold stepS; rw [hf]; simp only; rw [if_neg hL, if_neg hC, HSN.out]
          rw [eE, eS]
          have HLC := Lib.hid (And.intro hL hC)
          clear eE eS hf hd E hL hC e20 h20
          generalize (⟨nm.toArray⟩ : ByteArray) = N at *
          generalize (⟨v.toArray⟩ : ByteArray) = V at *
          generalize (⟨s.toArray⟩ : ByteArray) = S at *
          go_enter Tryz.func35, Tryz.ntmps35
          go_wp2_with (first | (go_at_call 56; (with_reducible refine (HH.out _ (by repeat (first | exact Below.refl _ _ | refine Below.setCell ?_ (by first | (simp; done) | (simp; omega) | omega) _ | refine Below.alloc ?_ (by first | (simp; done) | (simp; omega) | omega) _ | refine Below.drew ?_ | assumption | refine Below.trans ?_ (Below.mono (by assumption) (by first | (simp; done) | (simp; omega) | omega))))).mono ?_); rintro e w2 ⟨rfl, hb2⟩; obtain ⟨hc2, hf2⟩ := bcell hb2; have hs2 := hb2.size; (try simp at hs2); have hz2 : b < w2.heap.size ∧ B < w2.heap.size := (by omega); have HO := Lib.hid (owns_below (owns_set HD.out hbB 4 _) hb2)) | (at_lookup; refine wpList_lookup_own_int _ rfl _ _ 69 rfl 9 3 .i64 lawS Tryz.underlying69 Tryz.underlying3 (zeroI _) B n D rfl HO.out _ _ rfl hkey ?_; intro c hat hwc) | (at_mapUpdate; refine wpList_mapUpdate_own _ rfl _ _ _ 69 rfl 9 3 lawS Tryz.underlying69 _ B n D rfl HO.out (by unfold maxLen; omega) _ _ _ rfl rfl hkey _ [] (plainElem_int Tryz.underlying3 (wrap64_wf _)) ?_; intro w3 hown3 hgrow3; have hc3 : ∀ o, w3.cell? ⟨b, o, none⟩ = w2.cell? ⟨b, o, none⟩ := fun o => hgrow3.cell_far ⟨b, o, none⟩ hz2.1 (fun e => hbB (by injection e)); have hf3 : ∀ o, w3.frozen? ⟨b, o, none⟩ = w2.frozen? ⟨b, o, none⟩ := fun o => hgrow3.frozen_far ⟨b, o, none⟩ hz2.1 (fun e => hbB (by injection e)); have hB3 : Below w0.heap.size w0 w3 := Below.grown (show Below w0.heap.size w0 w2 from (by repeat (first | exact Below.refl _ _ | refine Below.setCell ?_ (by first | (simp; done) | (simp; omega) | omega) _ | refine Below.alloc ?_ (by first | (simp; done) | (simp; omega) | omega) _ | refine Below.drew ?_ | assumption | refine Below.trans ?_ (Below.mono (by assumption) (by first | (simp; done) | (simp; omega) | omega))))) hgrow3 (by have := hw.size; omega) (fun k hk => by injection hk with hk; omega); have hs3 := hgrow3.size; have hz3 : b < w3.heap.size := (by omega); have HO3 := Lib.hid hown3; clear hown3))
          go_ret
          have hgs := hgrow3.size
          refine ⟨rfl, (by repeat (first | exact Only2.refl _ _ _ | refine Only2.alloc ?_ _ | refine Only2.setCell ?_ _ _ | refine Only2.grown ?_ (by assumption) | refine Only2.below ?_ (by assumption))), fun _ => ⟨hbB, ⟨by omega, (by simp [go_sem, *]), (by simp [go_sem, *]), (by simp [go_sem, *]), (by simp [go_sem, *]), (by simp [go_sem, *]), (by simp [go_sem, *]), (by simp [go_sem, *]), (by simp [go_sem, *]), fun j => (by have := FZ.out j; simp [go_sem, *])⟩, _, HO3.out, ?_⟩⟩
          have hp := HHD.out.put nm (wrap64 (c + 1)) (fun h => absurd h HLC.out.1) (fun h => absurd h HLC.out.2)
          rwa [decide_eq_false HLC.out.1, decide_eq_false HLC.out.2, Bool.or_false, Bool.or_false] at hp
end Go.Proofs.YtkaimfeiahogaaaGreatDoor
