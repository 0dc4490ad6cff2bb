/-
  Atoi at any text, with the number that it answers beside its error; a word's span.
-/
import Derived.Test.YtnjlggleaocbdaaGreatDoorDc6
namespace Go.Proofs.YtnjlggleaocbdaaGreatDoor
set_option linter.all false
open Go.RowKit Go.Shelf
attribute [local go_sem] cell_set_self lt_1 lt_2 lt_3 lt_4 lt_5 lt_6

theorem atoi_num (l : List UInt8) (hl : l.length ≤ 1000000000) (h : ∀ v, Lib.atoiAll l ≠ .ok v) (w : World) (E : Env w) : Calls Tryz.prog 82 #[.string ⟨l.toArray⟩] w fun e w' => (∃ t q, e = .returned (.tuple #[.int .i64 (numV l), .iface t (.pointer (some q))])) ∧ Below w.heap.size w w' := by
  obtain ⟨_, _, _, ⟨tp, p, hv⟩, ⟨tp2, p2, hv2⟩⟩ := E
  cases hh : Lib.atoiAll l with
  | ok v => exact absurd hh (h v)
  | range =>
    have hn : numV l = Lib.atoiSat l := by unfold numV; rw [hh]
    rw [hn]
    refine (Tryz.strconv_Atoi_range_var ⟨l.toArray⟩ (by rw [ba_sz]; omega) hh tp p w hv).mono ?_
    rintro e w' ⟨N, rfl, _, _, hb⟩
    exact ⟨⟨_, _, rfl⟩, hb⟩
  | _ =>
    have hn : numV l = 0 := by unfold numV; rw [hh]
    rw [hn]
    refine (Any.strconv_Atoi_syntax_var Tryz.laysC172 ⟨l.toArray⟩ (by rw [ba_sz]; omega) hh tp2 p2 w hv2).mono ?_
    rintro e w' ⟨N, rfl, _, _, hb⟩
    exact ⟨⟨_, _, rfl⟩, hb⟩
/-- Atoi at any text: the number, and whether it is one. -/
theorem atoi_any (l : List UInt8) (hl : l.length ≤ 1000000000) (w : World) (E : Env w) : Calls Tryz.prog 82 #[.string ⟨l.toArray⟩] w fun e w' => (∃ v, e = .returned (.tuple #[.int .i64 (numV l), v]) ∧ (((∃ n, Lib.atoiAll l = .ok n) ∧ v = .nilIface) ∨ ((∀ n, Lib.atoiAll l ≠ .ok n) ∧ ∃ t q, v = .iface t (.pointer (some q))))) ∧ Below w.heap.size w w' := by
  by_cases h : ∃ n, Lib.atoiAll l = .ok n
  · obtain ⟨n, hn⟩ := h
    have hv : numV l = n := by unfold numV; rw [hn]
    refine (atoi_fits l hl n hn w).mono ?_
    rintro e w' ⟨rfl, hb⟩
    exact ⟨⟨_, by rw [hv], Or.inl ⟨⟨n, hn⟩, rfl⟩⟩, hb⟩
  · have h2 : ∀ v, Lib.atoiAll l ≠ .ok v := fun v hv => h ⟨v, hv⟩
    refine (atoi_num l hl h2 w E).mono ?_
    rintro e w' ⟨⟨t, q, rfl⟩, hb⟩
    exact ⟨⟨_, rfl, Or.inr ⟨h2, t, q, rfl⟩⟩, hb⟩
theorem spanW_le : ∀ l : List UInt8, spanW l ≤ l.length
  | [] => Nat.le_refl _
  | c :: r => by
    have := spanW_le r
    unfold spanW
    split <;> simp <;> omega
/-- The first k bytes are of a word, the next is not. -/
theorem spanW_at : ∀ (l : List UInt8) (k : Nat), (∀ (i : Nat) (h : i < l.length), i < k → withB (l[i]'h) = true) → k ≤ l.length → (∀ h : k < l.length, withB (l[k]'h) = false) → spanW l = k
  | [], k, _, hk, _ => by simp at hk; simp [spanW, hk]
  | c :: r, k, h1, hk, h2 => by
    unfold spanW
    cases k with
    | zero =>
      have := h2 (by simp)
      simp only [List.getElem_cons_zero] at this
      rw [if_neg (by simp [this])]
    | succ k =>
      have h0 := h1 0 (by simp) (by omega)
      simp only [List.getElem_cons_zero] at h0
      rw [if_pos h0, spanW_at r k (fun i h hi => by
        have := h1 (i + 1) (by simpa using h) (by omega)
        rw [List.getElem_cons_succ] at this; exact this) (by simpa using hk) (fun h => by
        have := h2 (by simpa using h)
        rw [List.getElem_cons_succ] at this; exact this)]
theorem relB_mark {c : UInt8} (h : relB c = false) (h2 : c.toNat = 33 ∨ c.toNat = 60 ∨ c.toNat = 62) : False := by
  simp [relB] at h; omega
theorem Env.below8 {w w' : World} (h : Env w) (hb : Below 8 w w') : Env w' := by
  obtain ⟨h0, ⟨m, hm⟩, ht, ⟨tp, p, hv⟩, ⟨tp2, p2, hv2⟩⟩ := h
  refine ⟨Nat.le_trans h0 hb.size, ⟨m, by rw [hb.cell (p := ⟨_, 0, none⟩) (by decide), hm]⟩, ?_, ⟨tp, p, ?_⟩, ⟨tp2, p2, ?_⟩⟩
  · exact var?_below hb gPow (by decide) ht
  · exact var?_below hb gErr (by decide) hv
  · exact var?_below hb gSyn (by decide) hv2
theorem Env.gr {w w' : World} {lb : Nat} (h : Env w) (hb : Gr w.heap.size lb w w') (hlb : 8 ≤ lb) : Env w' :=
  h.below8 ⟨hb.os, hb.tape, hb.output, hb.size, fun k hk => hb.block k (Nat.lt_of_lt_of_le hk h.1) (by omega)⟩
end Go.Proofs.YtnjlggleaocbdaaGreatDoor
