/-
  Contract of the reader's one.
-/
import Derived.Test.YtnjlggleaocbdaaGreatDoorDk1
import Derived.Test.YtnjlggleaocbdaaGreatDoorDq1
import Derived.Deep.LoopGhost
namespace Go.Proofs.YtnjlggleaocbdaaGreatDoor
set_option linter.all false
open Go.RowKit Go.Shelf
attribute [local go_sem] cell_set_self lt_1 lt_2 lt_3 lt_4 lt_5 lt_6 fld_k fld_s fld_n fld_p

def oneI : Option (Nat × List Tok) → Int
  | some (i, _) => i
  | none => -1
def oneL (r : List Tok) : Option (Nat × List Tok) → List Tok
  | some (_, r') => r'
  | none => r
theorem one_skip {s : List UInt8} {l : List (List UInt8)} {i : Nat} {r : List Tok} (h : s = []) : oneF (s :: l) i r = oneF l (i + 1) r := by
  rw [oneF, if_pos h]
theorem one_yes {s : List UInt8} {l : List (List UInt8)} {i : Nat} {r r' : List Tok} (h : s ≠ []) (hm : mayF s r = some r') : oneF (s :: l) i r = some (i, r') := by
  rw [oneF, if_neg h, hm]
theorem one_no {s : List UInt8} {l : List (List UInt8)} {i : Nat} {r : List Tok} (h : s ≠ []) (hm : mayF s r = none) : oneF (s :: l) i r = oneF l (i + 1) r := by
  rw [oneF, if_neg h, hm]
set_option maxHeartbeats 4000000 in
set_option maxRecDepth 100000 in
theorem one_any (rb gt : Nat) (A : Option Addr) (n c : Nat) (xs : List (List UInt8)) (hn : xs.length = n) (hm : n ≤ 1000000000) (hA : ∀ a, A = some a → ¬ a.block = rb) (r : List Tok) (hr : r ≠ []) (w : World) (T : Strs w A xs) (R : RdR w rb gt r) :
    Calls Tryz.prog 73 #[.pointer (some ⟨rb, 0, none⟩), .slice A n c] w fun e w' => e = .returned (.int .i64 (oneI (oneF xs 0 r))) ∧ RdR w' rb gt (oneL r (oneF xs 0 r)) ∧ Gr w.heap.size rb w w' := by
  suffices key : ∀ Q : Ending → World → Prop, Hid (∀ x w', oneF xs 0 r = x → RdR w' rb gt (oneL r x) → Gr w.heap.size rb w w' → Q (.returned (.int .i64 (oneI x))) w') → Calls Tryz.prog 73 #[.pointer (some ⟨rb, 0, none⟩), .slice A n c] w Q from key _ (Lib.hid fun x w' h1 h2 h3 => by rw [h1]; exact ⟨rfl, h2, h3⟩)
  intro Q HQ
  have HT := Lib.hid T
  have HR := Lib.hid R
  have HA := Lib.hid hA
  have HN := Lib.hid hn
  have MY := Lib.hid (fun s W R' => may_any rb gt s r hr W R')
  clear T R hA hn hr
  go_enter Tryz.func73, Tryz.ntmps73
  go_wp2_with (fail)
  go_loopw [9] (fun j wr => ∃ k : Nat, k ≤ n ∧ j = .int .i64 (k : Int) ∧ Hid (oneF xs 0 r = oneF (xs.drop k) k r) ∧ Hid (RdR wr rb gt r) ∧ Hid (Gr w.heap.size rb w wr)) (fun j _ => n - (intOf j).toNat)
  case atStart => exact ⟨0, by omega, rfl, Lib.hid rfl, HR, Lib.hid (Gr.refl _ _ _)⟩
  case round =>
    obtain ⟨k, hk, rfl, HO, HX, HG⟩ := hrel
    obtain ⟨wo, rfl⟩ : ∃ wo : World, wo = wr := ⟨_, rfl⟩
    by_cases hkn : k < n
    · have hkn' : (k : Int) < (n : Int) := by omega
      obtain ⟨x, hx⟩ : ∃ x, xs[k]? = some x := ⟨_, List.getElem?_eq_getElem (by rw [HN.out]; exact hkn)⟩
      obtain ⟨b, off, rfl, hlt, hc⟩ := strs_gr HT.out HG.out HA.out k x hx
      have hd : xs.drop k = x :: xs.drop (k + 1) := by
        obtain ⟨h1, h2⟩ := List.getElem?_eq_some_iff.1 hx
        rw [List.drop_eq_getElem_cons h1, h2]
      have MX := fun W R' => MY.out x W R'
      have hb : ((⟨x.toArray⟩ : ByteArray) == ⟨#[]⟩) = x.isEmpty := by cases x <;> rfl
      cases hm1 : mayF x r with
      | none =>
        rw [(may_no hm1).1, (may_no hm1).2] at MX
        have HMX := Lib.hid MX
        have HO2 : Hid (oneF xs 0 r = oneF (xs.drop (k + 1)) (k + 1) r) := Lib.hid (by
          rw [HO.out, hd]
          by_cases h : x = []
          · exact one_skip h
          · exact one_no h hm1)
        clear MX hx hd hm1
        cases x with
        | nil =>
          go_wp2_with (fail)
          go_round
          case rel => exact ⟨k + 1, by omega, by go_num, HO2, HX, HG⟩
          case measure => first | (simp [intOf]; done) | (simp [intOf]; omega)
        | cons x0 x1 =>
          go_wp2_with (first | (go_at_call 72; (with_reducible refine (HMX.out _ HX.out).mono ?_); rintro e w3 ⟨rfl, hR3, hg3⟩; have HR3 := Lib.hid hR3; have HG3 := Lib.hid (HG.out.trans hg3 HG.out.size); clear hR3 hg3))
          go_round
          case rel => exact ⟨k + 1, by omega, by go_num, HO2, HR3, HG3⟩
          case measure => first | (simp [intOf]; done) | (simp [intOf]; omega)
      | some r1 =>
        rw [(may_yes hm1).1, (may_yes hm1).2] at MX
        have HMX := Lib.hid MX
        cases x with
        | nil =>
          have HO2 : Hid (oneF xs 0 r = oneF (xs.drop (k + 1)) (k + 1) r) := Lib.hid (by rw [HO.out, hd]; exact one_skip rfl)
          clear MX hx hd hm1
          go_wp2_with (fail)
          go_round
          case rel => exact ⟨k + 1, by omega, by go_num, HO2, HX, HG⟩
          case measure => first | (simp [intOf]; done) | (simp [intOf]; omega)
        | cons x0 x1 =>
          have HO2 : Hid (oneF xs 0 r = some (k, r1)) := Lib.hid (by rw [HO.out, hd]; exact one_yes (by simp) hm1)
          clear MX hx hd hm1
          go_wp2_with (first | (go_at_call 72; (with_reducible refine (HMX.out _ HX.out).mono ?_); rintro e w3 ⟨rfl, hR3, hg3⟩; have HR3 := Lib.hid hR3; have HG3 := Lib.hid (HG.out.trans hg3 HG.out.size); clear hR3 hg3))
          exact HQ.out _ _ HO2.out HR3.out HG3.out
    · have hkn' : ¬ (k : Int) < (n : Int) := by omega
      have HO2 : Hid (oneF xs 0 r = none) := Lib.hid (by rw [HO.out, List.drop_eq_nil_of_le (by rw [HN.out]; omega)]; rfl)
      clear HO
      go_wp2_with (fail)
      exact HQ.out _ _ HO2.out HX.out HG.out
end Go.Proofs.YtnjlggleaocbdaaGreatDoor
