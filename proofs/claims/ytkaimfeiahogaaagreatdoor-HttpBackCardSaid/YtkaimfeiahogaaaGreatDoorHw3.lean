/-
  HttpPrints holds: the walk of the law.
-/
import Derived.Test.YtkaimfeiahogaaaGreatDoorHw2
import Derived.Test.YtkaimfeiahogaaaGreatDoorHs2
namespace Go.Proofs.YtkaimfeiahogaaaGreatDoor
set_option linter.all false
open Go.RowKit Go.Shelf
attribute [local go_sem] cell_set_self lt_1 lt_2 lt_3 lt_4 lt_5 lt_6 drew_cell drew_frozen drew_size

/-- What both print of a request: its bytes, or none. -/
def fmtO (m p : List UInt8) (n : Nat) (cl : Bool) (l : List UInt8) : List UInt8 := if fmtE m p n = 0 then fmtH m p n cl ++ l else []
theorem bs_nil (w : World) : Bs w none 0 [] := ⟨by simp, fun _ => rfl, fun i v h => by simp at h⟩
theorem format_any (m p : List UInt8) (cl : Bool) (A : Option Addr) (n c : Nat) (l : List UInt8) (hl : l.length = n) (hp : p.length ≤ 1000000) (hn : n ≤ 9223372036854775807) (k : Nat) (hk : (fmtO m p n cl l).length = k) (w : World) (E : Env w) (T : Bs w A c l) :
    Calls Tryz.prog 17 #[rqB m p A n c cl] w fun e w' => (∃ A' c', e = .returned (.tuple #[.slice A' k c', .int .i64 (fmtE m p n)]) ∧ BsN w.heap.size w' A' c' (fmtO m p n cl l)) ∧ Below w.heap.size w w' := by
  subst hk
  unfold fmtO
  by_cases h : fmtE m p n = 0
  · rw [if_pos h]
    refine (format_ok m p cl A n c l hl h w E T).mono ?_
    rintro e w' ⟨⟨g, c', rfl, hB, hg⟩, hb⟩
    refine ⟨⟨_, _, ?_, hB, fun a ha => by cases ha; exact hg⟩, hb⟩
    rw [h, List.length_append, hl]
  · rw [if_neg h]
    refine (format_bad m p cl A n c hp hn h w).mono ?_
    rintro e w' ⟨rfl, hb⟩
    exact ⟨⟨none, 0, rfl, bs_nil _, fun a ha => by cases ha⟩, hb⟩
theorem rformat_any (m p : List UInt8) (cl : Bool) (A : Option Addr) (n c : Nat) (l : List UInt8) (hl : l.length = n) (hp : p.length ≤ 1000000) (hn : n ≤ 9223372036854775807) (k : Nat) (hk : (fmtO m p n cl l).length = k) (w : World) (E : Env w) (T : Bs w A c l) :
    Calls Tryz.prog 21 #[rqB m p A n c cl] w fun e w' => (∃ A' c', e = .returned (.tuple #[.slice A' k c', .int .i64 (fmtE m p n)]) ∧ BsN w.heap.size w' A' c' (fmtO m p n cl l)) ∧ Below w.heap.size w w' := by
  subst hk
  unfold fmtO
  by_cases h : fmtE m p n = 0
  · rw [if_pos h]
    refine (rformat_ok m p cl A n c l hl h w E T).mono ?_
    rintro e w' ⟨⟨g, c', rfl, hB, hg⟩, hb⟩
    refine ⟨⟨_, _, ?_, hB, fun a ha => by cases ha; exact hg⟩, hb⟩
    rw [h, List.length_append, hl]
  · rw [if_neg h]
    refine (rformat_bad m p cl A n c hp hn h w).mono ?_
    rintro e w' ⟨rfl, hb⟩
    exact ⟨⟨none, 0, rfl, bs_nil _, fun a ha => by cases ha⟩, hb⟩
theorem fmtO_len (m p : List UInt8) (n : Nat) (cl : Bool) (l : List UInt8) (hl : l.length = n) (hn : n ≤ 40000) : (fmtO m p n cl l).length ≤ 100000 := by
  unfold fmtO
  split
  · rename_i h
    have := fmtH_len cl h
    rw [List.length_append]; omega
  · simp
theorem respH_len (z : Int) (hz : In64 z) (n : Nat) (cl : Bool) (hn : n ≤ 100000) : (respH z n cl).length ≤ 1000 := by
  have h1 := reason_len z
  have h2 := txt_len z hz
  have h3 := txt_len (n : Int) (by unfold In64; omega)
  have hv : tVers.length = 8 := rfl
  have ht : tLen.length = 14 := rfl
  have hc : tCtype.length = 30 := rfl
  have hcl : closeLine.length = 17 := rfl
  have hll : (lenLine n).length = 16 + (txt (n : Int)).length := by unfold lenLine; simp [ht]; omega
  have hra : (respA z).length = 44 + (txt z).length + (reasonF z).length := by unfold respA; simp [hv, hc]; omega
  unfold respH; cases cl <;> simp [hcl] <;> omega
/-- Too much is handed in: nothing is looked at. -/
theorem prints_far (m p : List UInt8) (A : Option Addr) (n c : Nat) (cl : Bool) (z : Int) (B : Option Addr) (k d : Nat) (cl2 : Bool) (w : World) (E : Env w) (h : 4000 < m.length ∨ 4000 < p.length ∨ 40000 < n ∨ 40000 < k) :
    Calls Tryz.prog 7 #[rqB m p A n c cl, .int .i64 z, .slice B k d, .bool cl2] w fun e w' => e = .returned (.bool true) ∧ Below w.heap.size w w' := by
  have FO := Lib.hid (fun W (hb : Below w.heap.size w W) => first_ok W (E.below hb))
  unfold rqB
  have hM : (⟨m.toArray⟩ : ByteArray).size = m.length := ba_sz m
  have hP : (⟨p.toArray⟩ : ByteArray).size = p.length := ba_sz p
  generalize (⟨m.toArray⟩ : ByteArray) = M at *
  generalize (⟨p.toArray⟩ : ByteArray) = P at *
  rw [← hM, ← hP] at h
  clear hM hP E
  have fin : ∀ {w'}, Below w.heap.size w w' → (Ending.returned (.bool true) = .returned (.bool true) ∧ Below w.heap.size w w') := fun h => ⟨rfl, h⟩
  by_cases h1 : 4000 < M.size
  · have h1' : (4000 : Int) < (M.size : Int) := by omega
    clear h
    go_enter Tryz.func7, Tryz.ntmps7
    go_wp2_with (first | (go_at_call 10; refine (FO.out _ (by repeat (first | exact Below.refl _ _ | refine Below.setCell ?_ (by first | (simp; done) | (simp; omega) | omega) _ | refine Below.alloc ?_ (by first | (simp; done) | (simp; omega) | omega) _ | refine Below.drew ?_ | assumption | refine Below.trans ?_ (Below.mono (by assumption) (by first | (simp; done) | (simp; omega) | omega))))).mono ?_; rintro e w4 ⟨rfl, hb4⟩; obtain ⟨hc4, hf4⟩ := bcell hb4; have hs4 := hb4.size; (try simp at hs4); have hz4 : w.heap.size < w4.heap.size := by have := hb4.size; (try simp at this); omega))
    go_ret
    exact ⟨rfl, (by repeat (first | exact Below.refl _ _ | refine Below.setCell ?_ (by first | (simp; done) | (simp; omega) | omega) _ | refine Below.alloc ?_ (by first | (simp; done) | (simp; omega) | omega) _ | refine Below.drew ?_ | assumption | refine Below.trans ?_ (Below.mono (by assumption) (by first | (simp; done) | (simp; omega) | omega))))⟩
  · have h1' : ¬ (4000 : Int) < (M.size : Int) := by omega
    by_cases h2 : 4000 < P.size
    · have h2' : (4000 : Int) < (P.size : Int) := by omega
      clear h
      go_enter Tryz.func7, Tryz.ntmps7
      go_wp2_with (first | (go_at_call 10; refine (FO.out _ (by repeat (first | exact Below.refl _ _ | refine Below.setCell ?_ (by first | (simp; done) | (simp; omega) | omega) _ | refine Below.alloc ?_ (by first | (simp; done) | (simp; omega) | omega) _ | refine Below.drew ?_ | assumption | refine Below.trans ?_ (Below.mono (by assumption) (by first | (simp; done) | (simp; omega) | omega))))).mono ?_; rintro e w4 ⟨rfl, hb4⟩; obtain ⟨hc4, hf4⟩ := bcell hb4; have hs4 := hb4.size; (try simp at hs4); have hz4 : w.heap.size < w4.heap.size := by have := hb4.size; (try simp at this); omega))
      go_ret
      exact ⟨rfl, (by repeat (first | exact Below.refl _ _ | refine Below.setCell ?_ (by first | (simp; done) | (simp; omega) | omega) _ | refine Below.alloc ?_ (by first | (simp; done) | (simp; omega) | omega) _ | refine Below.drew ?_ | assumption | refine Below.trans ?_ (Below.mono (by assumption) (by first | (simp; done) | (simp; omega) | omega))))⟩
    · have h2' : ¬ (4000 : Int) < (P.size : Int) := by omega
      by_cases h3 : 40000 < n
      · have h3' : (40000 : Int) < (n : Int) := by omega
        clear h
        go_enter Tryz.func7, Tryz.ntmps7
        go_wp2_with (first | (go_at_call 10; refine (FO.out _ (by repeat (first | exact Below.refl _ _ | refine Below.setCell ?_ (by first | (simp; done) | (simp; omega) | omega) _ | refine Below.alloc ?_ (by first | (simp; done) | (simp; omega) | omega) _ | refine Below.drew ?_ | assumption | refine Below.trans ?_ (Below.mono (by assumption) (by first | (simp; done) | (simp; omega) | omega))))).mono ?_; rintro e w4 ⟨rfl, hb4⟩; obtain ⟨hc4, hf4⟩ := bcell hb4; have hs4 := hb4.size; (try simp at hs4); have hz4 : w.heap.size < w4.heap.size := by have := hb4.size; (try simp at this); omega))
        go_ret
        exact ⟨rfl, (by repeat (first | exact Below.refl _ _ | refine Below.setCell ?_ (by first | (simp; done) | (simp; omega) | omega) _ | refine Below.alloc ?_ (by first | (simp; done) | (simp; omega) | omega) _ | refine Below.drew ?_ | assumption | refine Below.trans ?_ (Below.mono (by assumption) (by first | (simp; done) | (simp; omega) | omega))))⟩
      · have h3' : ¬ (40000 : Int) < (n : Int) := by omega
        have h4' : (40000 : Int) < (k : Int) := by omega
        clear h
        go_enter Tryz.func7, Tryz.ntmps7
        go_wp2_with (first | (go_at_call 10; refine (FO.out _ (by repeat (first | exact Below.refl _ _ | refine Below.setCell ?_ (by first | (simp; done) | (simp; omega) | omega) _ | refine Below.alloc ?_ (by first | (simp; done) | (simp; omega) | omega) _ | refine Below.drew ?_ | assumption | refine Below.trans ?_ (Below.mono (by assumption) (by first | (simp; done) | (simp; omega) | omega))))).mono ?_; rintro e w4 ⟨rfl, hb4⟩; obtain ⟨hc4, hf4⟩ := bcell hb4; have hs4 := hb4.size; (try simp at hs4); have hz4 : w.heap.size < w4.heap.size := by have := hb4.size; (try simp at this); omega))
        go_ret
        exact ⟨rfl, (by repeat (first | exact Below.refl _ _ | refine Below.setCell ?_ (by first | (simp; done) | (simp; omega) | omega) _ | refine Below.alloc ?_ (by first | (simp; done) | (simp; omega) | omega) _ | refine Below.drew ?_ | assumption | refine Below.trans ?_ (Below.mono (by assumption) (by first | (simp; done) | (simp; omega) | omega))))⟩
set_option maxHeartbeats 16000000 in
set_option maxRecDepth 100000 in
theorem prints_near (m p : List UInt8) (A : Option Addr) (n c : Nat) (l : List UInt8) (hl : l.length = n) (cl : Bool) (z : Int) (hz : In64 z) (B : Option Addr) (k d : Nat) (q : List UInt8) (hq : q.length = k) (cl2 : Bool) (w : World) (E : Env w) (T : Bs w A c l) (U : Bs w B d q)
    (hm4 : m.length ≤ 4000) (hp4 : p.length ≤ 4000) (hn4 : n ≤ 40000) (hk4 : k ≤ 40000) :
    Calls Tryz.prog 7 #[rqB m p A n c cl, .int .i64 z, .slice B k d, .bool cl2] w fun e w' => e = .returned (.bool true) ∧ Below w.heap.size w w' := by
  have FO := Lib.hid (fun W (hb : Below w.heap.size w W) => first_ok W (E.below hb))
  have hM : (⟨m.toArray⟩ : ByteArray).size = m.length := ba_sz m
  have hP : (⟨p.toArray⟩ : ByteArray).size = p.length := ba_sz p
  obtain ⟨a, ha⟩ : ∃ a, (fmtO m p n cl l).length = a := ⟨_, rfl⟩
  have ha1 := fmtO_len m p n cl l hl hn4
  have FM := Lib.hid (fun W (hb : Below w.heap.size w W) => format_any m p cl A n c l hl (by omega) (by omega) a ha W (E.below hb) (T.below hb))
  have RQ := Lib.hid (fun W (hb : Below w.heap.size w W) => request_any m p cl A n c l hl (by omega) W (T.below hb))
  have RF := Lib.hid (fun W A' c' (hb : Below w.heap.size w W) (T' : Bs W A' c' l) => rformat_any m p cl A' n c' l hl (by omega) (by omega) a ha W (E.below hb) T')
  have BY := Lib.hid (fun W (hb : Below w.heap.size w W) => bytesR_any z hz cl2 B k d q hq (by omega) W (E.below hb) (U.below hb))
  have PY := Lib.hid (fun W (hb : Below w.heap.size w W) => print_any z hz cl2 B k d q hq (by omega) W (E.below hb) (U.below hb))
  have R1 := Lib.hid (fun W => reason_any z W)
  have R2 := Lib.hid (fun W => rreason_any z W)
  rw [ha] at ha1
  generalize fmtO m p n cl l = O at *
  have hr := respH_len z hz k cl2 (by omega)
  have hrl : (respH z k cl2 ++ q).length = (respH z k cl2).length + k := by rw [List.length_append, hq]
  obtain ⟨V, hV⟩ : ∃ V, respH z k cl2 ++ q = V := ⟨_, rfl⟩
  obtain ⟨b, hb⟩ : ∃ b, (respH z k cl2).length + k = b := ⟨_, rfl⟩
  rw [hV, hb] at hrl
  have hb1 : b ≤ 50000 := by omega
  rw [hV, hb] at BY PY
  have SA := Lib.hid (fun W A1 A2 c1 c2 (T1 : Bs W A1 c1 O) (T2 : Bs W A2 c2 O) => sb_eq A1 A2 a c1 c2 O ha (by omega) W T1 T2)
  have SB := Lib.hid (fun W A1 A2 c1 c2 (T1 : Bs W A1 c1 V) (T2 : Bs W A2 c2 V) => sb_eq A1 A2 b c1 c2 V hrl (by omega) W T1 T2)
  clear hr hV hb ha
  unfold rpB at BY PY
  unfold rqB at FM RQ RF ⊢
  generalize (⟨(reasonF z).toArray⟩ : ByteArray) = RZ at *
  generalize (⟨m.toArray⟩ : ByteArray) = M at *
  generalize (⟨p.toArray⟩ : ByteArray) = P at *
  generalize fmtE m p n = e0 at *
  rw [← hM] at hm4
  rw [← hP] at hp4
  have h1' : ¬ (4000 : Int) < (M.size : Int) := by omega
  have h2' : ¬ (4000 : Int) < (P.size : Int) := by omega
  have h3' : ¬ (40000 : Int) < (n : Int) := by omega
  have h4' : ¬ (40000 : Int) < (k : Int) := by omega
  clear hM hP hm4 hp4 hn4 hk4 E T U hl hq ha1 hrl hz hb1
  go_enter Tryz.func7, Tryz.ntmps7
  go_upto_region 8 with (first | (go_at_call 10; refine (FO.out _ (by repeat (first | exact Below.refl _ _ | refine Below.setCell ?_ (by first | (simp; done) | (simp; omega) | omega) _ | refine Below.alloc ?_ (by first | (simp; done) | (simp; omega) | omega) _ | refine Below.drew ?_ | assumption | refine Below.trans ?_ (Below.mono (by assumption) (by first | (simp; done) | (simp; omega) | omega))))).mono ?_; rintro e w4 ⟨rfl, hb4⟩; obtain ⟨hc4, hf4⟩ := bcell hb4; have hs4 := hb4.size; (try simp at hs4); have hz4 : w.heap.size < w4.heap.size := by have := hb4.size; (try simp at this); omega) | (go_at_call 17; refine (FM.out _ (by repeat (first | exact Below.refl _ _ | refine Below.setCell ?_ (by first | (simp; done) | (simp; omega) | omega) _ | refine Below.alloc ?_ (by first | (simp; done) | (simp; omega) | omega) _ | refine Below.drew ?_ | assumption | refine Below.trans ?_ (Below.mono (by assumption) (by first | (simp; done) | (simp; omega) | omega))))).mono ?_; rintro e w5 ⟨⟨A5, c5, rfl, hN5⟩, hb5⟩; obtain ⟨hc5, hf5⟩ := bcell hb5; have hs5 := hb5.size; (try simp at hs5); have hz5 : w.heap.size < w5.heap.size := (by have := hb5.size; (try simp at this); omega); have HN5 := Lib.hid hN5; clear hN5) | (go_at_call 14; refine (RQ.out _ (by repeat (first | exact Below.refl _ _ | refine Below.setCell ?_ (by first | (simp; done) | (simp; omega) | omega) _ | refine Below.alloc ?_ (by first | (simp; done) | (simp; omega) | omega) _ | refine Below.drew ?_ | assumption | refine Below.trans ?_ (Below.mono (by assumption) (by first | (simp; done) | (simp; omega) | omega))))).mono ?_; rintro e w6 ⟨⟨A6, c6, rfl, hN6⟩, hb6⟩; obtain ⟨hc6, hf6⟩ := bcell hb6; have hs6 := hb6.size; (try simp at hs6); have hz6 : w.heap.size < w6.heap.size := (by have := hb6.size; (try simp at this); omega); have HN6 := Lib.hid hN6; clear hN6) | (go_at_call 21; refine (RF.out _ _ _ (by repeat (first | exact Below.refl _ _ | refine Below.setCell ?_ (by first | (simp; done) | (simp; omega) | omega) _ | refine Below.alloc ?_ (by first | (simp; done) | (simp; omega) | omega) _ | refine Below.drew ?_ | assumption | refine Below.trans ?_ (Below.mono (by assumption) (by first | (simp; done) | (simp; omega) | omega)))) (HN6.out.1.below (by repeat (first | exact Below.refl _ _ | refine Below.setCell ?_ (by first | (simp; done) | (simp; omega) | omega) _ | refine Below.alloc ?_ (by first | (simp; done) | (simp; omega) | omega) _ | refine Below.drew ?_ | assumption | refine Below.trans ?_ (Below.mono (by assumption) (by first | (simp; done) | (simp; omega) | omega)))))).mono ?_; rintro e w7 ⟨⟨A7, c7, rfl, hN7⟩, hb7⟩; obtain ⟨hc7, hf7⟩ := bcell hb7; have hs7 := hb7.size; (try simp at hs7); have hz7 : w.heap.size < w7.heap.size := (by have := hb7.size; (try simp at this); omega); have HN7 := Lib.hid hN7; clear hN7))
  -- REGION
  refine name_world ?_
  intro Wa hWa
  have zWa : w7.heap.size + 1 < Wa.heap.size := by rw [hWa]; simp
  have zWb : w7.heap.size < Wa.heap.size := by rw [hWa]; simp; omega
  have bW7 : Below w7.heap.size w7 Wa := by rw [hWa]; exact (((Below.refl _ _).alloc (Nat.le_refl _) _).alloc (by simp) _)
  have bWa : Below w.heap.size w Wa := by rw [hWa]; exact (by repeat (first | exact Below.refl _ _ | refine Below.setCell ?_ (by first | (simp; done) | (simp; omega) | omega) _ | refine Below.alloc ?_ (by first | (simp; done) | (simp; omega) | omega) _ | refine Below.drew ?_ | assumption | refine Below.trans ?_ (Below.mono (by assumption) (by first | (simp; done) | (simp; omega) | omega))))
  have hA := Lib.hid (HN5.out.1.below ((hb6.trans (hb7.mono hs6)).trans (bW7.mono (Nat.le_trans hs6 hs7))))
  have hB := Lib.hid (HN7.out.1.below bW7)
  have k0 : Wa.cell? ⟨w7.heap.size, 0, none⟩ = some (.int .i64 z) := by rw [hWa]; simp [go_sem]
  have k1 : Wa.cell? ⟨w7.heap.size, 1, none⟩ = some (.slice B k d) := by rw [hWa]; simp [go_sem]
  have k2 : Wa.cell? ⟨w7.heap.size, 2, none⟩ = some (.bool cl2) := by rw [hWa]; simp [go_sem]
  have k3 : Wa.cell? ⟨w7.heap.size + 1, 0, none⟩ = some (.int .i64 z) := by rw [hWa]; simp [go_sem]
  have k4 : Wa.cell? ⟨w7.heap.size + 1, 1, none⟩ = some (.slice B k d) := by rw [hWa]; simp [go_sem]
  have k5 : Wa.cell? ⟨w7.heap.size + 1, 2, none⟩ = some (.bool cl2) := by rw [hWa]; simp [go_sem]
  clear HN5 HN6 HN7 FM RQ RF FO
  have hzW : w.heap.size < w7.heap.size := hz7
  clear hWa bW7 hb4 hb5 hb6 hb7 hc4 hc5 hc6 hc7 hf4 hf5 hf6 hf7 hs4 hs5 hs6 hs7 hz4 hz5 hz6 hz7
  generalize w7.heap.size = rb at *
  go_region_held3 (fun w' => w'.cell? ⟨rb, 0, none⟩ = some (.int .i64 z) ∧ w'.cell? ⟨rb, 1, none⟩ = some (.slice B k d) ∧ w'.cell? ⟨rb, 2, none⟩ = some (.bool cl2) ∧ w'.cell? ⟨rb + 1, 0, none⟩ = some (.int .i64 z) ∧ w'.cell? ⟨rb + 1, 1, none⟩ = some (.slice B k d) ∧ w'.cell? ⟨rb + 1, 2, none⟩ = some (.bool cl2) ∧ rb < w'.heap.size ∧ rb + 1 < w'.heap.size ∧ Below Wa.heap.size Wa w')
      (first | (refine ⟨?_, ?_, ?_, ?_, ?_, ?_, ?_, ?_, ?_⟩ <;> first | (simp [go_sem, *]; done) | omega | (simp; omega) | exact (by repeat (first | exact Below.refl _ _ | refine Below.setCell ?_ (by first | (simp; done) | (simp; omega) | omega) _ | refine Below.alloc ?_ (by first | (simp; done) | (simp; omega) | omega) _ | refine Below.drew ?_ | assumption | refine Below.trans ?_ (Below.mono (by assumption) (by first | (simp; done) | (simp; omega) | omega))))))
      (first | (first | (go_at_call 22; (with_reducible refine (SA.out _ _ _ _ _ (hA.out.below (by repeat (first | exact Below.refl _ _ | refine Below.setCell ?_ (by first | (simp; done) | (simp; omega) | omega) _ | refine Below.alloc ?_ (by first | (simp; done) | (simp; omega) | omega) _ | refine Below.drew ?_ | assumption | refine Below.trans ?_ (Below.mono (by assumption) (by first | (simp; done) | (simp; omega) | omega))))) (hB.out.below (by repeat (first | exact Below.refl _ _ | refine Below.setCell ?_ (by first | (simp; done) | (simp; omega) | omega) _ | refine Below.alloc ?_ (by first | (simp; done) | (simp; omega) | omega) _ | refine Below.drew ?_ | assumption | refine Below.trans ?_ (Below.mono (by assumption) (by first | (simp; done) | (simp; omega) | omega)))))).mono ?_); rintro e w8 ⟨rfl, hb8⟩; obtain ⟨hc8, hf8⟩ := bcell hb8; (try simp only [drew_size, drew_cell, drew_frozen] at hc8 hf8); have hs8 := hb8.size; (try simp at hs8); have hz8 : rb < w8.heap.size ∧ rb + 1 < w8.heap.size := (by have := hb8.size; (try simp at this); omega)) | (go_at_call 12; (with_reducible refine (num_same _ _).mono ?_); rintro e w9 ⟨rfl, rfl⟩) | (go_at_call 23; (with_reducible refine (BY.out _ (by repeat (first | exact Below.refl _ _ | refine Below.setCell ?_ (by first | (simp; done) | (simp; omega) | omega) _ | refine Below.alloc ?_ (by first | (simp; done) | (simp; omega) | omega) _ | refine Below.drew ?_ | assumption | refine Below.trans ?_ (Below.mono (by assumption) (by first | (simp; done) | (simp; omega) | omega))))).mono ?_); rintro e w10 ⟨⟨g10, c10, rfl, hT10, hg10⟩, hb10⟩; obtain ⟨hc10, hf10⟩ := bcell hb10; (try simp only [drew_size, drew_cell, drew_frozen] at hc10 hf10); have hs10 := hb10.size; (try simp at hs10); have hz10 : rb < w10.heap.size ∧ rb + 1 < w10.heap.size := (by have := hb10.size; (try simp at this); omega); have HT10 := Lib.hid hT10; clear hT10 hg10) | (go_at_call 24; (with_reducible refine (PY.out _ (by repeat (first | exact Below.refl _ _ | refine Below.setCell ?_ (by first | (simp; done) | (simp; omega) | omega) _ | refine Below.alloc ?_ (by first | (simp; done) | (simp; omega) | omega) _ | refine Below.drew ?_ | assumption | refine Below.trans ?_ (Below.mono (by assumption) (by first | (simp; done) | (simp; omega) | omega))))).mono ?_); rintro e w11 ⟨⟨g11, c11, rfl, hT11, hg11⟩, hb11⟩; obtain ⟨hc11, hf11⟩ := bcell hb11; (try simp only [drew_size, drew_cell, drew_frozen] at hc11 hf11); have hs11 := hb11.size; (try simp at hs11); have hz11 : rb < w11.heap.size ∧ rb + 1 < w11.heap.size := (by have := hb11.size; (try simp at this); omega); have HT11 := Lib.hid hT11; clear hT11 hg11) | (go_at_call 22; (with_reducible refine (SB.out _ _ _ _ _ (HT10.out.below (by repeat (first | exact Below.refl _ _ | refine Below.setCell ?_ (by first | (simp; done) | (simp; omega) | omega) _ | refine Below.alloc ?_ (by first | (simp; done) | (simp; omega) | omega) _ | refine Below.drew ?_ | assumption | refine Below.trans ?_ (Below.mono (by assumption) (by first | (simp; done) | (simp; omega) | omega))))) (HT11.out.below (by repeat (first | exact Below.refl _ _ | refine Below.setCell ?_ (by first | (simp; done) | (simp; omega) | omega) _ | refine Below.alloc ?_ (by first | (simp; done) | (simp; omega) | omega) _ | refine Below.drew ?_ | assumption | refine Below.trans ?_ (Below.mono (by assumption) (by first | (simp; done) | (simp; omega) | omega)))))).mono ?_); rintro e w12 ⟨rfl, hb12⟩; obtain ⟨hc12, hf12⟩ := bcell hb12; (try simp only [drew_size, drew_cell, drew_frozen] at hc12 hf12); have hs12 := hb12.size; (try simp at hs12); have hz12 : rb < w12.heap.size ∧ rb + 1 < w12.heap.size := (by have := hb12.size; (try simp at this); omega)) | (go_at_call 25; (with_reducible refine (R1.out _).mono ?_); rintro e w13 ⟨rfl, hb13⟩; obtain ⟨hc13, hf13⟩ := bcell hb13; (try simp only [drew_size, drew_cell, drew_frozen] at hc13 hf13); have hs13 := hb13.size; (try simp at hs13); have hz13 : rb < w13.heap.size ∧ rb + 1 < w13.heap.size := (by have := hb13.size; (try simp at this); omega)) | (go_at_call 26; (with_reducible refine (R2.out _).mono ?_); rintro e w14 ⟨rfl, hb14⟩; obtain ⟨hc14, hf14⟩ := bcell hb14; (try simp only [drew_size, drew_cell, drew_frozen] at hc14 hf14); have hs14 := hb14.size; (try simp at hs14); have hz14 : rb < w14.heap.size ∧ rb + 1 < w14.heap.size := (by have := hb14.size; (try simp at this); omega))))
  all_goals
    go_wp2
    go_ret
    exact ⟨rfl, (by repeat (first | exact Below.refl _ _ | refine Below.setCell ?_ (by first | (simp; done) | (simp; omega) | omega) _ | refine Below.alloc ?_ (by first | (simp; done) | (simp; omega) | omega) _ | refine Below.drew ?_ | assumption | refine Below.trans ?_ (Below.mono (by assumption) (by first | (simp; done) | (simp; omega) | omega))))⟩
theorem prints_walk (m p : List UInt8) (A : Option Addr) (n c : Nat) (l : List UInt8) (hl : l.length = n) (cl : Bool) (z : Int) (B : Option Addr) (k d : Nat) (q : List UInt8) (hq : q.length = k) (cl2 : Bool) (hz : In64 z) (w : World) (E : Env w) (T : Bs w A c l) (U : Bs w B d q) :
    Calls Tryz.prog 7 #[rqB m p A n c cl, .int .i64 z, .slice B k d, .bool cl2] w fun e w' => e = .returned (.bool true) ∧ Below w.heap.size w w' := by
  by_cases h : 4000 < m.length ∨ 4000 < p.length ∨ 40000 < n ∨ 40000 < k
  · exact prints_far m p A n c cl z B k d cl2 w E h
  · exact prints_near m p A n c l hl cl z hz B k d q hq cl2 w E T U (by omega) (by omega) (by omega) (by omega)
end Go.Proofs.YtkaimfeiahogaaaGreatDoor
