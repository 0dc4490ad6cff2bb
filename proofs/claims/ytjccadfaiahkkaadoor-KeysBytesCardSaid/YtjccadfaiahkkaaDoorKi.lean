/-
  Contract of keys.Encode: at most eight parts.
-/
import Derived.Test.YtjccadfaiahkkaaDoorKh
import Derived.Laws.EntriesVeiled
namespace Go.Proofs.YtjccadfaiahkkaaDoor
set_option linter.all false
open Go.RowKit
attribute [local go_sem] cell_set_self lt_1 lt_2 lt_3 lt_4 lt_5 lt_6

def EncRel (w wr : World) (l : List Part) (k : Nat) : Prop :=
  k ≤ l.length ∧ (∀ p ∈ l.take k, p.k = 1 ∨ p.k = 2) ∧ Bld wr (w.heap.size + 1) (w.heap.size + 1) (en (l.take k)) ∧ wr.heap[w.heap.size]? = some (.map kindsE 2) ∧ Below w.heap.size w wr ∧ w.heap.size + 1 < wr.heap.size

theorem ret_enc {l : List Part} {m : List UInt8} {x : Int} (h1 : bytesE l = m) (h2 : errE l = x) : Ending.returned (.tuple #[.string ⟨m.toArray⟩, .int .i64 x]) = .returned (.tuple #[.string ⟨(bytesE l).toArray⟩, .int .i64 (errE l)]) := by rw [h1, h2]
theorem kept_block {w w' : World} {e t : TypeId} {b g : Nat} {cs : Array Value} {fr : Nat × Nat} (h : Lib.OthersKept e (some b) w w') (hg : w.heap[g]? = some (.cells cs t fr)) (hne : g ≠ b) (ht : t ≠ e) : w'.heap[g]? = some (.cells cs t fr) :=
  h g _ hg (by simpa using hne) (fun c fz he => by injection he with _ h2; exact ht h2)
theorem en_snoc {l : List Part} {k : Nat} {p : Part} (hp : l[k]? = some p) : en (l.take (k + 1)) = en (l.take k) ++ enP p := by
  obtain ⟨hk, he⟩ := List.getElem?_eq_some_iff.1 hp
  rw [List.take_succ_eq_append_getElem hk, he, en_append]; simp [en]
theorem enP_le {p : Part} (h : p.s.length ≤ 1000) : (enP p).length ≤ 3000 := by
  unfold enP
  split
  · simp [enI_length]
  · have := esc_length p.s
    simp; omega
theorem en_le {l : List Part} (h : ∀ p ∈ l, p.s.length ≤ 1000) : (en l).length ≤ 3000 * l.length := by
  induction l with
  | nil => simp [en_nil]
  | cons p l ih =>
    have h1 := enP_le (h p (List.mem_cons_self ..))
    have h2 := ih (fun x hx => h x (List.mem_cons_of_mem _ hx))
    rw [en_cons, List.length_append, List.length_cons]; omega
theorem en_take_le {l : List Part} (h : ∀ p ∈ l, p.s.length ≤ 1000 ∧ In64 p.n) (hl : l.length ≤ 8) (k : Nat) : (en (l.take k)).length ≤ 24000 := by
  have h1 := en_le (l := l.take k) (fun p hp => (h p (List.mem_of_mem_take hp)).1)
  have := List.length_take_le k l
  have : (l.take k).length ≤ 8 := by rw [List.length_take]; omega
  omega

set_option maxHeartbeats 1000000 in
set_option maxRecDepth 100000 in
theorem encode_few (A : Option Addr) (n c : Nat) (l : List Part) (hl : l.length = n) (h8 : n ≤ 8) (hok : ∀ p ∈ l, p.s.length ≤ 1000 ∧ In64 p.n) (w : World) (T : Parts w A l) (ml : ML w) :
    Calls Tryd.prog 9 #[.slice A n c] w fun e w' => e = .returned (.tuple #[.string ⟨(bytesE l).toArray⟩, .int .i64 (errE l)]) ∧ Below w.heap.size w w' := by
  have HL := Lib.hid hl
  have KI := Lib.hid (fun W => kinds_any W)
  clear hl
  have h' : ¬ (8 : Int) < n := by omega
  have HT := Lib.hid (fun W (hb : Below w.heap.size w W) => T.below hb)
  have HM := Lib.hid (fun W (hb : Below w.heap.size w W) => ml.below hb)
  clear T ml
  go_enter Tryd.func9, Tryd.ntmps9
  go_wp2_with (first | (go_at_call 21; refine (KI.out _).mono ?_; rintro e w' ⟨rfl, rfl⟩))
  go_loopw [16] (fun i wr => ∃ k : Nat, i = .int .i64 k ∧ EncRel w wr l k) (fun i _ => n - (intOf i).toNat)
  case atStart =>
    refine ⟨0, rfl, Nat.zero_le _, by simp, ?_, ?_, ?_, ?_⟩
    · have h := Lib.fresh_isBuilder 55 5 (w.alloc (.map kindsE 2))
      simpa [Bld, en_nil, Lib.byteCells] using h
    · rw [Below.heap_alloc _ _ _ (by simp)]; exact heap_alloc_new _ _
    · exact (by repeat (first | exact Below.refl _ _ | refine Below.setCell ?_ (by first | (simp; done) | (simp; omega) | omega) _ | refine Below.alloc ?_ (by first | (simp; done) | (simp; omega) | omega) _ | refine Below.drew ?_ | assumption | refine Below.trans ?_ (Below.mono (by assumption) (by first | (simp; done) | (simp; omega) | omega))))
    · simp
  case round =>
    obtain ⟨k, rfl, hk, hks, hB, hmap, hbl, hz⟩ := hrel
    have HB := Lib.hid hB
    have HK := Lib.hid hks
    clear hB hks
    obtain ⟨wo, rfl⟩ : ∃ wo : World, wo = wr := ⟨_, rfl⟩
    have hln := HL.out
    by_cases hlt : k < n
    · have hlt' : (k : Int) < n := by omega
      obtain ⟨p, hp⟩ : ∃ p, l[k]? = some p := ⟨l[k]'(by omega), by simp⟩
      have HP := Lib.hid hp
      have hmem : p ∈ l := List.mem_of_getElem? hp
      obtain ⟨hps, hpn⟩ := hok p hmem
      obtain ⟨b, off, rfl, hbw, c0, c1, c2⟩ := HT.out wo hbl k p hp
      clear hp hln
      have h3 : p.k = 1 ∨ p.k = 2 ∨ (p.k ≠ 1 ∧ p.k ≠ 2) := by omega
      rcases h3 with k1 | k1 | ⟨k1, k2⟩
      · rw [k1] at c0
        have lk := look_1 (wo.alloc (.cells #[.int .i64 1, .int .i64 p.n, .string ⟨p.s.toArray⟩] 42)) w.heap.size (by rw [Below.heap_alloc _ _ _ (by omega), hmap])
        unfold kindI at lk
        have hel := Lib.hid (en_take_le hok (by have := HL.out; omega) k)
        have HE := Lib.hid (show enP p = 1 :: (enI p.n) from by unfold enP; simp [k1])
        go_wp2_with (first
          | (go_at_call 22; refine (bld_byte (w.heap.size + 1) (w.heap.size + 1) (en (l.take k)) 1 _ rfl _ (HB.out.below (by repeat (first | exact Below.refl _ _ | refine Below.setCell ?_ (by first | (simp; done) | (simp; omega) | omega) _ | refine Below.alloc ?_ (by first | (simp; done) | (simp; omega) | omega) _ | refine Below.drew ?_ | assumption | refine Below.trans ?_ (Below.mono (by assumption) (by first | (simp; done) | (simp; omega) | omega))))) (by have := hel.out; omega) (by simp; omega)).mono ?_; rintro e w5 ⟨rfl, hB5, hb5, hk5⟩; have HB5 := Lib.hid hB5; clear hB5
             have s5 := hb5.size; simp at s5
             have g7 := kept_block (g := wo.heap.size) hk5 (cs := #[.int .i64 1, .int .i64 p.n, .string ⟨p.s.toArray⟩]) (t := 42) (fr := (0, 0)) (by rw [Below.heap_alloc _ _ _ (by simp)]; exact heap_alloc_new _ _) (by omega) (by decide)
             have g8 := kept_block (g := wo.heap.size + 1) hk5 (cs := #[.func (.func 27) #[] #[], .func (.func 28) #[] #[], .func (.func 29) #[] #[]]) (t := 60) (fr := (0, 0)) (by have := heap_alloc_new (wo.alloc (.cells #[.int .i64 1, .int .i64 p.n, .string ⟨p.s.toArray⟩] 42)) (.cells #[.func (.func 27) #[] #[], .func (.func 28) #[] #[], .func (.func 29) #[] #[]] 60); simpa using this) (by omega) (by decide)
             have d0 : w5.cell? ⟨wo.heap.size, 0, none⟩ = some (.int .i64 1) := by rw [Lib.cell_of_heap g7]; rfl
             have d1 : w5.cell? ⟨wo.heap.size, 1, none⟩ = some (.int .i64 p.n) := by rw [Lib.cell_of_heap g7]; rfl
             have d2 : w5.cell? ⟨wo.heap.size, 2, none⟩ = some (.string ⟨p.s.toArray⟩) := by rw [Lib.cell_of_heap g7]; rfl
             have d3 : w5.cell? ⟨wo.heap.size + 1, 0, none⟩ = some (.func (.func 27) #[] #[]) := by rw [Lib.cell_of_heap g8]; rfl
             have m5 := hb5.block w.heap.size (by omega)
             rw [Below.heap_alloc _ _ _ (by simp; omega), Below.heap_alloc _ _ _ (by omega), hmap] at m5
             have hbw5 : Below w.heap.size w w5 := Below.trans (b := (wo.alloc (.cells #[.int .i64 1, .int .i64 p.n, .string ⟨p.s.toArray⟩] 42)).alloc (.cells #[.func (.func 27) #[] #[], .func (.func 28) #[] #[], .func (.func 29) #[] #[]] 60)) ((hbl.alloc hbl.size _).alloc (by have := hbl.size; simp; omega) _) (hb5.mono (by omega))
             clear g7 g8 hk5 hb5)
          | (go_at_call 27; refine (encodeInt_any _ _ _ hpn _).mono ?_; rintro e w6 ⟨rfl, hb6⟩; have s6 := hb6.size; have m6 := hb6.block w.heap.size (by omega); rw [m5] at m6; have hbw6 : Below w.heap.size w w6 := hbw5.trans (hb6.mono (by omega)); have HB6 := Lib.hid (HB5.out.below hb6); clear hb6)
          | (go_at_call 23; refine (bld_str (w.heap.size + 1) (w.heap.size + 1) _ (enI p.n) _ HB6.out (by have := hel.out; simp; omega) (by simp [enI_length]) (by omega)).mono ?_; rintro e w7 ⟨⟨n7, rfl⟩, hB7, hb7, _⟩; have HB7 := Lib.hid hB7; clear hB7
             have s7 := hb7.size
             have m7 := hb7.block w.heap.size (by omega)
             rw [m6] at m7
             have hbw7 : Below w.heap.size w w7 := hbw6.trans (hb7.mono (by omega))
             clear hb7))
        clear m5 m6 lk
        go_roundw
        case rel =>
          refine ⟨k + 1, by go_num, by have := HL.out; omega, ?_, ?_, m7, hbw7, by omega⟩
          · intro q hq
            rw [List.take_succ_eq_append_getElem (by have := HL.out; omega)] at hq
            rcases List.mem_append.1 hq with hq | hq
            · exact HK.out q hq
            · have e := (List.getElem?_eq_some_iff.1 HP.out).2
              simp at hq
              subst hq
              rw [e, k1]
              simp
          · have := HB7.out
            rw [en_snoc HP.out, HE.out]
            simpa using this
        case measure => simp [intOf]; omega
      · rw [k1] at c0
        have lk := look_2 (wo.alloc (.cells #[.int .i64 2, .int .i64 p.n, .string ⟨p.s.toArray⟩] 42)) w.heap.size (by rw [Below.heap_alloc _ _ _ (by omega), hmap])
        unfold kindT at lk
        have hel := Lib.hid (en_take_le hok (by have := HL.out; omega) k)
        have HE := Lib.hid (show enP p = 2 :: (esc p.s ++ [0, 1]) from by unfold enP; simp [k1])
        go_wp2_with (first
          | (go_at_call 22; refine (bld_byte (w.heap.size + 1) (w.heap.size + 1) (en (l.take k)) 2 _ rfl _ (HB.out.below (by repeat (first | exact Below.refl _ _ | refine Below.setCell ?_ (by first | (simp; done) | (simp; omega) | omega) _ | refine Below.alloc ?_ (by first | (simp; done) | (simp; omega) | omega) _ | refine Below.drew ?_ | assumption | refine Below.trans ?_ (Below.mono (by assumption) (by first | (simp; done) | (simp; omega) | omega))))) (by have := hel.out; omega) (by simp; omega)).mono ?_; rintro e w5 ⟨rfl, hB5, hb5, hk5⟩; have HB5 := Lib.hid hB5; clear hB5
             have s5 := hb5.size; simp at s5
             have g7 := kept_block (g := wo.heap.size) hk5 (cs := #[.int .i64 2, .int .i64 p.n, .string ⟨p.s.toArray⟩]) (t := 42) (fr := (0, 0)) (by rw [Below.heap_alloc _ _ _ (by simp)]; exact heap_alloc_new _ _) (by omega) (by decide)
             have g8 := kept_block (g := wo.heap.size + 1) hk5 (cs := #[.func (.func 30) #[] #[], .func (.func 32) #[] #[], .func (.func 33) #[] #[]]) (t := 60) (fr := (0, 0)) (by have := heap_alloc_new (wo.alloc (.cells #[.int .i64 2, .int .i64 p.n, .string ⟨p.s.toArray⟩] 42)) (.cells #[.func (.func 30) #[] #[], .func (.func 32) #[] #[], .func (.func 33) #[] #[]] 60); simpa using this) (by omega) (by decide)
             have d0 : w5.cell? ⟨wo.heap.size, 0, none⟩ = some (.int .i64 2) := by rw [Lib.cell_of_heap g7]; rfl
             have d1 : w5.cell? ⟨wo.heap.size, 1, none⟩ = some (.int .i64 p.n) := by rw [Lib.cell_of_heap g7]; rfl
             have d2 : w5.cell? ⟨wo.heap.size, 2, none⟩ = some (.string ⟨p.s.toArray⟩) := by rw [Lib.cell_of_heap g7]; rfl
             have d3 : w5.cell? ⟨wo.heap.size + 1, 0, none⟩ = some (.func (.func 30) #[] #[]) := by rw [Lib.cell_of_heap g8]; rfl
             have m5 := hb5.block w.heap.size (by omega)
             rw [Below.heap_alloc _ _ _ (by simp; omega), Below.heap_alloc _ _ _ (by omega), hmap] at m5
             have hbw5 : Below w.heap.size w w5 := Below.trans (b := (wo.alloc (.cells #[.int .i64 2, .int .i64 p.n, .string ⟨p.s.toArray⟩] 42)).alloc (.cells #[.func (.func 30) #[] #[], .func (.func 32) #[] #[], .func (.func 33) #[] #[]] 60)) ((hbl.alloc hbl.size _).alloc (by have := hbl.size; simp; omega) _) (hb5.mono (by omega))
             clear g7 g8 hk5 hb5)
          | (go_at_call 30; refine (encodeText_any _ _ _ (by omega) _ (HM.out _ hbw5)).mono ?_; rintro e w6 ⟨rfl, hb6⟩; have s6 := hb6.size; have m6 := hb6.block w.heap.size (by omega); rw [m5] at m6; have hbw6 : Below w.heap.size w w6 := hbw5.trans (hb6.mono (by omega)); have HB6 := Lib.hid (HB5.out.below hb6); clear hb6)
          | (go_at_call 23; refine (bld_str (w.heap.size + 1) (w.heap.size + 1) _ (esc p.s ++ [0, 1]) _ HB6.out (by have := hel.out; simp; omega) (by have := esc_length p.s; simp; omega) (by omega)).mono ?_; rintro e w7 ⟨⟨n7, rfl⟩, hB7, hb7, _⟩; have HB7 := Lib.hid hB7; clear hB7
             have s7 := hb7.size
             have m7 := hb7.block w.heap.size (by omega)
             rw [m6] at m7
             have hbw7 : Below w.heap.size w w7 := hbw6.trans (hb7.mono (by omega))
             clear hb7))
        clear m5 m6 lk
        go_roundw
        case rel =>
          refine ⟨k + 1, by go_num, by have := HL.out; omega, ?_, ?_, m7, hbw7, by omega⟩
          · intro q hq
            rw [List.take_succ_eq_append_getElem (by have := HL.out; omega)] at hq
            rcases List.mem_append.1 hq with hq | hq
            · exact HK.out q hq
            · have e := (List.getElem?_eq_some_iff.1 HP.out).2
              simp at hq
              subst hq
              rw [e, k1]
              simp
          · have := HB7.out
            rw [en_snoc HP.out, HE.out]
            simpa using this
        case measure => simp [intOf]; omega
      · have lk := look_none (wo.alloc (.cells #[.int .i64 p.k, .int .i64 p.n, .string ⟨p.s.toArray⟩] 42)) w.heap.size p.k k1 k2 (by rw [Below.heap_alloc _ _ _ (by omega), hmap])
        have E := Lib.hid (errE_kind (by have := HL.out; omega) hmem k1 k2)
        go_wp2
        go_ret2
        exact ⟨ret_enc (m := []) (bytesE_n (by rw [E.out]; decide)) E.out, (by repeat (first | exact Below.refl _ _ | refine Below.setCell ?_ (by first | (simp; done) | (simp; omega) | omega) _ | refine Below.alloc ?_ (by first | (simp; done) | (simp; omega) | omega) _ | refine Below.drew ?_ | assumption | refine Below.trans ?_ (Below.mono (by assumption) (by first | (simp; done) | (simp; omega) | omega))))⟩
    · obtain rfl : k = n := by have := HL.out; omega
      have htk : l.take k = l := List.take_of_length_le (by have := HL.out; omega)
      rw [htk] at HB HK
      have hle : (en l).length ≤ 24000 := by have := en_take_le hok (by have := HL.out; omega) k; rwa [htk] at this
      have HL8 := Lib.hid (show l.length ≤ 8 by have := HL.out; omega)
      clear htk hln HL
      by_cases h2 : 200 < (en l).length
      · have E := Lib.hid (errE_long HL8.out HK.out h2)
        have h2' : (200 : Int) < (en l).length := by omega
        go_wp2_with (first
          | (go_at_call 24; refine (bld_len (w.heap.size + 1) (w.heap.size + 1) (en l) _ HB.out).mono ?_; rintro e w7 ⟨rfl, rfl⟩))
        go_ret2
        exact ⟨ret_enc (m := []) (bytesE_n (by rw [E.out]; decide)) E.out, hbl⟩
      · have E := Lib.hid (errE_fine HL8.out HK.out (by omega))
        have h2' : ¬ (200 : Int) < (en l).length := by omega
        go_wp2_with (first
          | (go_at_call 24; refine (bld_len (w.heap.size + 1) (w.heap.size + 1) (en l) _ HB.out).mono ?_; rintro e w7 ⟨rfl, rfl⟩)
          | (go_at_call 25; refine (bld_string (w.heap.size + 1) (w.heap.size + 1) (en l) _ HB.out (by omega)).mono ?_; rintro e w8 ⟨rfl, hb8⟩))
        go_ret2
        exact ⟨ret_enc (bytesE_0 E.out) E.out, hbl.trans (hb8.mono (by omega))⟩
end Go.Proofs.YtjccadfaiahkkaaDoor
