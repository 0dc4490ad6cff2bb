/-
  Contract of exlaw22.turnedCase; bytes that are edited where they lie.
-/
import Derived.Test.YtkaimfeiahogaaaGreatDoorHp6
import Derived.Test.YtkaimfeiahogaaaGreatDoorHt1
namespace Go.Proofs.YtkaimfeiahogaaaGreatDoor
set_option linter.all false
open Go.RowKit Go.Shelf
attribute [local go_sem] cell_set_self lt_1 lt_2 lt_3 lt_4 lt_5 lt_6 drew_cell drew_frozen drew_size

/-- A row of bytes that was made behind w: its cells say L, and may be written. -/
structure Edit (w : World) (g : Nat) (L : List UInt8) (W : World) : Prop where
  at' : ∀ (j : Nat) (b : UInt8), L[j]? = some b → W.cell? ⟨g, j, none⟩ = some (.int .u8 (b.toNat : Int))
  unf : ∀ j, j < L.length → W.frozen? ⟨g, j, none⟩ = false
  lt : g < W.heap.size
  ge : w.heap.size ≤ g
  below : Below w.heap.size w W
theorem Edit.set {w W : World} {g k : Nat} {L : List UInt8} (h : Edit w g L W) (hk : k < L.length) (b : UInt8) : Edit w g (L.set k b) (W.setCell ⟨g, k, none⟩ (.int .u8 (b.toNat : Int))) := by
  refine ⟨fun j x hx => ?_, fun j hj => ?_, by simpa using h.lt, h.ge, Below.setCell h.below h.ge _⟩
  · rw [List.getElem?_set] at hx
    by_cases e : k = j
    · subst e
      rw [if_pos rfl, if_pos hk] at hx
      obtain rfl : b = x := by simpa using hx
      exact World.cell?_setCell_same' _ _ _ (by rw [h.at' k _ (List.getElem?_eq_getElem hk)]; rfl)
    · rw [if_neg e] at hx
      rw [World.cell?_setCell_other (h := by intro q; injection q with q1 q2; exact e q2)]
      exact h.at' j x hx
  · rw [World.frozen?_setCell]; exact h.unf j (by simpa using hj)
theorem Edit.bs {w W : World} {g c : Nat} {L : List UInt8} (h : Edit w g L W) (hc : L.length ≤ c) : Bs W (some ⟨g, 0, none⟩) c L :=
  ⟨hc, fun h => (by cases h), fun i v hi => ⟨g, 0, rfl, h.lt, by rw [Nat.zero_add]; exact h.at' i v hi⟩⟩
theorem edit_new (w : World) (l : List UInt8) (hl : l.length ≤ 1000000) (W : World) (hb : Below w.heap.size w W) : Edit w W.heap.size l (W.drew.alloc (.cells (bytesRow ⟨l.toArray⟩ (grownCap W l.length 0 5)) 5 ((bytesRow ⟨l.toArray⟩ (grownCap W l.length 0 5)).size, (bytesRow ⟨l.toArray⟩ (grownCap W l.length 0 5)).size + 1))) := by
  have C := cv_new l hl W _ rfl _ rfl
  have hs := hb.size
  have hg := grownCap_ge W l.length 0 5
  refine ⟨fun j b hj => ?_, fun j hj => ?_, by simp, hs, (by repeat (first | exact Below.refl _ _ | refine Below.setCell ?_ (by first | (simp; done) | (simp; omega) | omega) _ | refine Below.alloc ?_ (by first | (simp; done) | (simp; omega) | omega) _ | refine Below.drew ?_ | assumption | refine Below.trans ?_ (Below.mono (by assumption) (by first | (simp; done) | (simp; omega) | omega))))⟩
  · obtain ⟨b', off, e, _, hc⟩ := C.bs.2.2 j b hj
    obtain ⟨rfl, rfl⟩ : W.heap.size = b' ∧ 0 = off := by simpa using e
    rw [Nat.zero_add] at hc
    exact hc
  · have hh := heap_alloc_new W.drew (.cells (bytesRow ⟨l.toArray⟩ (grownCap W l.length 0 5)) 5 ((bytesRow ⟨l.toArray⟩ (grownCap W l.length 0 5)).size, (bytesRow ⟨l.toArray⟩ (grownCap W l.length 0 5)).size + 1))
    have h2 := bytesRow_size l _ hg
    simp only [World.frozen?, drew_size] at hh ⊢
    rw [hh]
    simp only [Bool.and_eq_false_iff, decide_eq_false_iff_not]
    left
    omega
theorem map_front (f : UInt8 → UInt8) {l : List UInt8} {k : Nat} {x : UInt8} (h : l[k]? = some x) : ((l.take k).map f ++ l.drop k).set k (f x) = (l.take (k + 1)).map f ++ l.drop (k + 1) ∧ ((l.take k).map f ++ l.drop k)[k]? = some x ∧ ((l.take k).map f ++ l.drop k).length = l.length := by
  obtain ⟨hk, hx⟩ := List.getElem?_eq_some_iff.1 h
  have hl : ((l.take k).map f).length = k := by simp; omega
  have hd : l.drop k = x :: l.drop (k + 1) := by rw [List.drop_eq_getElem_cons hk, hx]
  refine ⟨?_, ?_, by simp; omega⟩
  · rw [List.set_append_right _ _ (by omega), hl, Nat.sub_self, hd, List.set_cons_zero, List.take_succ, h, Option.toList_some, List.map_append, List.append_assoc]
    rfl
  · rw [List.getElem?_append_right (by omega), hl, Nat.sub_self, hd]; rfl
theorem tcB_cases (x : UInt8) : (x.toNat < 65 ∧ tcB x = x) ∨ (65 ≤ x.toNat ∧ x.toNat ≤ 90 ∧ (tcB x).toNat = x.toNat + 32) ∨ (91 ≤ x.toNat ∧ x.toNat ≤ 96 ∧ tcB x = x) ∨ (97 ≤ x.toNat ∧ x.toNat ≤ 122 ∧ (tcB x).toNat + 32 = x.toNat) ∨ (123 ≤ x.toNat ∧ tcB x = x) := by
  have := UInt8.toNat_lt x
  unfold tcB
  by_cases h1 : 97 ≤ x.toNat ∧ x.toNat ≤ 122
  · rw [if_pos h1]
    refine .inr (.inr (.inr (.inl ⟨h1.1, h1.2, ?_⟩)))
    rw [UInt8.toNat_sub_of_le _ _ (by rw [UInt8.le_iff_toNat_le]; exact Nat.le_trans (by decide) h1.1)]
    have : (32 : UInt8).toNat = 32 := rfl
    omega
  · rw [if_neg h1]
    by_cases h2 : 65 ≤ x.toNat ∧ x.toNat ≤ 90
    · rw [if_pos h2]
      refine .inr (.inl ⟨h2.1, h2.2, ?_⟩)
      rw [UInt8.toNat_add]
      have : (32 : UInt8).toNat = 32 := rfl
      omega
    · rw [if_neg h2]
      have : x.toNat < 65 ∨ (91 ≤ x.toNat ∧ x.toNat ≤ 96) ∨ 123 ≤ x.toNat := by omega
      rcases this with h | h | h
      · exact .inl ⟨h, rfl⟩
      · exact .inr (.inr (.inl ⟨h.1, h.2, rfl⟩))
      · exact .inr (.inr (.inr (.inr ⟨h, rfl⟩)))
theorem Edit.same {w W : World} {g k : Nat} {l : List UInt8} {f : UInt8 → UInt8} {x : UInt8} (h : Edit w g ((l.take k).map f ++ l.drop k) W) (hx : l[k]? = some x) (hf : f x = x) : Edit w g ((l.take (k + 1)).map f ++ l.drop (k + 1)) W := by
  obtain ⟨h1, h2, h3⟩ := map_front f hx
  rw [← h1, hf]
  have : ((l.take k).map f ++ l.drop k).set k x = (l.take k).map f ++ l.drop k := by
    apply List.ext_getElem?
    intro j
    rw [List.getElem?_set]
    split
    · rename_i e; subst e
      rw [if_pos (List.getElem?_eq_some_iff.1 h2).1, h2]
    · rfl
  rw [this]; exact h
theorem Edit.step {w W : World} {g k : Nat} {l : List UInt8} {f : UInt8 → UInt8} {x : UInt8} (h : Edit w g ((l.take k).map f ++ l.drop k) W) (hx : l[k]? = some x) {z : Int} (hz : ((f x).toNat : Int) = z) : Edit w g ((l.take (k + 1)).map f ++ l.drop (k + 1)) (W.setCell ⟨g, k, none⟩ (.int .u8 z)) := by
  obtain ⟨h1, h2, h3⟩ := map_front f hx
  rw [← h1, ← hz]
  exact h.set (List.getElem?_eq_some_iff.1 h2).1 _
set_option maxHeartbeats 4000000 in
set_option maxRecDepth 100000 in
theorem turned_any (l : List UInt8) (hl : l.length ≤ 100000) (w : World) : Calls Tryz.prog 18 #[.string ⟨l.toArray⟩] w fun e w' => e = .returned (.string ⟨(l.map tcB).toArray⟩) ∧ Below w.heap.size w w' := by
  have hc := run_conv l w
  have HN := Lib.hid (edit_new w l (by omega) w (by repeat (first | exact Below.refl _ _ | refine Below.setCell ?_ (by first | (simp; done) | (simp; omega) | omega) _ | refine Below.alloc ?_ (by first | (simp; done) | (simp; omega) | omega) _ | refine Below.drew ?_ | assumption | refine Below.trans ?_ (Below.mono (by assumption) (by first | (simp; done) | (simp; omega) | omega)))))
  have hge := grownCap_ge w l.length 0 5
  obtain ⟨n, hn⟩ : ∃ n, l.length = n := ⟨_, rfl⟩
  have HLN := Lib.hid hn
  rw [hn] at hc HN hge hl
  generalize grownCap w n 0 5 = c at *
  generalize w.drew.alloc (.cells (bytesRow ⟨l.toArray⟩ c) 5 ((bytesRow ⟨l.toArray⟩ c).size, (bytesRow ⟨l.toArray⟩ c).size + 1)) = W1 at *
  generalize hg : w.heap.size = g at *
  have HG := Lib.hid hg
  clear hg hn
  generalize (⟨l.toArray⟩ : ByteArray) = sl at *
  go_enter Tryz.func18, Tryz.ntmps18
  go_wp2
  go_loopw [4] (fun i wr => ∃ k : Nat, k ≤ n ∧ i = .int .i64 k ∧ Edit w g ((l.take k).map tcB ++ l.drop k) wr) (fun i _ => n - (intOf i).toNat)
  case atStart => exact ⟨0, by omega, rfl, HN.out⟩
  case round =>
    obtain ⟨k, hk, rfl, hE⟩ := hrel
    have HE := Lib.hid hE
    clear hE
    by_cases hlt : k < n
    · have hlt' : (k : Int) < (n : Int) := by omega
      obtain ⟨x, hx⟩ : ∃ x, l[k]? = some x := ⟨_, List.getElem?_eq_getElem (by rw [HLN.out]; exact hlt)⟩
      obtain ⟨-, m2, m3⟩ := map_front tcB hx
      have e0 := HE.out.at' k x m2
      have u0 := HE.out.unf k (List.getElem?_eq_some_iff.1 m2).1
      have HX := Lib.hid hx
      have hxx := UInt8.toNat_lt x
      clear hx m2 m3
      rcases tcB_cases x with ⟨q1, q2⟩ | ⟨q1, q2, q3⟩ | ⟨q1, q2, q3⟩ | ⟨q1, q2, q3⟩ | ⟨q1, q2⟩
      · have HQ := Lib.hid q2
        generalize x.toNat = xx at *
        have a1 : ¬ (97 : Int) ≤ (xx : Int) := by omega
        have a2 : ¬ (65 : Int) ≤ (xx : Int) := by omega
        clear q2
        go_wp2
        go_roundw
        case rel => exact ⟨k + 1, by omega, by go_num, HE.out.same HX.out HQ.out⟩
        case measure => first | (simp [intOf]; done) | (simp [intOf]; omega)
      · have HQ := Lib.hid q3
        generalize x.toNat = xx at *
        have a1 : ¬ (97 : Int) ≤ (xx : Int) := by omega
        have a2 : (65 : Int) ≤ (xx : Int) := by omega
        have a3 : (xx : Int) ≤ 90 := by omega
        have hw : IntKind.u8.wrap ((xx : Int) + 32) = (xx : Int) + 32 := by rw [IntKind.wrap_u8]; omega
        clear q3
        go_wp2
        go_roundw
        case rel => exact ⟨k + 1, by omega, by go_num, HE.out.step HX.out (by have := HQ.out; omega)⟩
        case measure => first | (simp [intOf]; done) | (simp [intOf]; omega)
      · have HQ := Lib.hid q3
        generalize x.toNat = xx at *
        have a1 : ¬ (97 : Int) ≤ (xx : Int) := by omega
        have a2 : (65 : Int) ≤ (xx : Int) := by omega
        have a3 : ¬ (xx : Int) ≤ 90 := by omega
        clear q3
        go_wp2
        go_roundw
        case rel => exact ⟨k + 1, by omega, by go_num, HE.out.same HX.out HQ.out⟩
        case measure => first | (simp [intOf]; done) | (simp [intOf]; omega)
      · have HQ := Lib.hid q3
        generalize x.toNat = xx at *
        have a1 : (97 : Int) ≤ (xx : Int) := by omega
        have a2 : (xx : Int) ≤ 122 := by omega
        have hw : IntKind.u8.wrap ((xx : Int) - 32) = (xx : Int) - 32 := by rw [IntKind.wrap_u8]; omega
        clear q3
        go_wp2
        go_roundw
        case rel => exact ⟨k + 1, by omega, by go_num, HE.out.step HX.out (by have := HQ.out; omega)⟩
        case measure => first | (simp [intOf]; done) | (simp [intOf]; omega)
      · have HQ := Lib.hid q2
        generalize x.toNat = xx at *
        have a1 : (97 : Int) ≤ (xx : Int) := by omega
        have a2 : ¬ (xx : Int) ≤ 122 := by omega
        have a3 : (65 : Int) ≤ (xx : Int) := by omega
        have a4 : ¬ (xx : Int) ≤ 90 := by omega
        clear q2
        go_wp2
        go_roundw
        case rel => exact ⟨k + 1, by omega, by go_num, HE.out.same HX.out HQ.out⟩
        case measure => first | (simp [intOf]; done) | (simp [intOf]; omega)
    · obtain rfl : k = n := by omega
      have hlt' : ¬ (k : Int) < (k : Int) := by omega
      have hfin : (l.take k).map tcB ++ l.drop k = l.map tcB := by rw [← HLN.out]; simp
      have hB : Bs wr (some ⟨g, 0, none⟩) c (l.map tcB) := by
        have := HE.out.bs (c := c) (by simp; have := HLN.out; omega)
        rw [hfin] at this; exact this
      have hc2 := conv_bs hB
      rw [List.length_map, HLN.out] at hc2
      clear hc
      have hbel := HE.out.below
      clear hB hfin
      go_wp2
      go_ret
      exact ⟨rfl, HG.out ▸ hbel⟩
end Go.Proofs.YtkaimfeiahogaaaGreatDoor
