/-
  What a reading answers in memory. (Printed by tools/mkdr.py.)
-/
import Derived.Test.YtnjlggleaocbdaaGreatDoorDr2
namespace Go.Proofs.YtnjlggleaocbdaaGreatDoor
set_option linter.all false
open Go.RowKit Go.Shelf
attribute [local go_sem] cell_set_self lt_1 lt_2 lt_3 lt_4 lt_5 lt_6 fld_k fld_s fld_n fld_p

/-- How a reading ends: what was read, the reader behind it; or given up. -/
def POut {α : Type} (rb gt : Nat) (w : World) (enc : α → World → Value → Prop) (x : PR α) (e : Ending) (w' : World) : Prop := match x with
  | .ok a r => (∃ V, e = .returned V ∧ enc a w' V) ∧ RdR w' rb gt r ∧ Gr w.heap.size rb w w'
  | .no p er => e = .panicked (fltP p er) ∧ Gr w.heap.size rb w w'
def lenV : Value → Nat
  | .slice _ n _ => n
  | _ => 0
/-- Readings that take tokens from the front. -/
def Takes {α : Type} (f : List Tok → PR α) : Prop := ∀ ts a r, f ts = .ok a r → r.length ≤ ts.length ∧ (EndsT ts → EndsT r) ∧ (ShortT ts → ShortT r)
theorem may_len {s : List UInt8} {r r' : List Tok} (h : mayF s r = some r') : r'.length + 1 = r.length ∧ (ShortT r → ShortT r') := by
  cases r with
  | nil => cases h
  | cons t l =>
    unfold mayF at h
    simp only at h
    split at h
    · injection h with h; subst h; exact ⟨rfl, fun h => h.tail⟩
    · cases h
theorem nm_takes : Takes nmF := fun ts a r h => by
  cases ts with
  | nil => cases h
  | cons t l =>
    unfold nmF at h
    simp only at h
    split at h
    · rename_i h2
      injection h with h1 h3
      subst h3
      exact ⟨by simp, fun hE => ends_step h2 hE, fun h => h.tail⟩
    · cases h
theorem name_any (rb gt : Nat) (t : Tok) (r : List Tok) (hl : t.s.length ≤ 1000000000) (w : World) (R : RdR w rb gt (t :: r)) :
    Calls Tryz.prog 70 #[.pointer (some ⟨rb, 0, none⟩)] w (POut rb gt w (fun (s : List UInt8) _ V => V = .string ⟨s.toArray⟩) (nmF (t :: r))) := by
  cases h : isNm t with
  | true =>
    rw [show nmF (t :: r) = .ok t.s r by unfold nmF; simp [h]]
    exact (nm_yes rb gt t r hl h w R).mono fun e w' ⟨h1, h2, h3⟩ => ⟨⟨_, h1, rfl⟩, h2, h3⟩
  | false =>
    rw [show nmF (t :: r) = .no t.p 11 by unfold nmF; simp [h]]
    exact nm_no rb gt t r hl h w R
def cellsN (l : List (List UInt8)) : List Value := l.map fun s => .string ⟨s.toArray⟩
theorem info_str : (Tryz.prog.info? 9).map (fun i => (i.zero, i.size, i.bytes)) = some (some (.string ⟨#[]⟩), 1, 16) := by kernel_rfl
theorem cellsN_app (l : List (List UInt8)) (s : List UInt8) : cellsN (l ++ [s]) = cellsN l ++ [.string ⟨s.toArray⟩] := by simp [cellsN]
theorem gr_push {rb : Nat} {a wr w1 : World} {B : Nat} {o : Obj} {row : Option Nat} (h : Gr B rb a wr) (hB : B ≤ wr.heap.size) (hg : (wr.alloc o).grownBy w1 row) (hr : ∀ k, row = some k → B ≤ k) : Gr B rb a w1 :=
  h.below (below_push (Below.refl B wr) hB hg hr) (Nat.le_refl _)
theorem rd_push {rb gt : Nat} {wr w1 : World} {r : List Tok} {B : Nat} {o : Obj} {row : Option Nat} (h : RdR wr rb gt r) (hg : (wr.alloc o).grownBy w1 row) (hr : ∀ k, row = some k → B ≤ k) (h1 : rb < B) (h2 : gt < B) : RdR w1 rb gt r := by
  obtain ⟨l1, l2, l3⟩ := h.lens
  have hs := hg.size
  simp at hs
  have e := (Below.refl wr.heap.size wr).alloc (Nat.le_refl _) o
  refine h.block ?_ ?_ (by omega)
  · rw [hg.block _ (by simp; omega) (fun e => by have := hr _ e.symm; omega)]; exact e.block _ l1
  · rw [hg.block _ (by simp; omega) (fun e => by have := hr _ e.symm; omega)]; exact e.block _ l2
theorem own_gr {W W' : World} {rb base size n : Nat} {e : TypeId} {v : Value} {xs : List Value} (h : W.ownsRow base e size v n xs) (hg : Gr W.heap.size rb W W') (hb : rb < base) : W'.ownsRow base e size v n xs := by
  rcases h.2 with h2 | ⟨g, cap, cur, hv, h3, hh, hr⟩
  · exact ⟨h.1, .inl h2⟩
  · exact ⟨h.1, .inr ⟨g, cap, cur, hv, h3, by rw [hg.block g (Array.getElem?_eq_some_iff.1 hh).1 (by omega)]; exact hh, hr⟩⟩
theorem own_form {w : World} {base size n : Nat} {e : TypeId} {v : Value} {xs : List Value} (h : w.ownsRow base e size v n xs) : ∃ A c, v = .slice A n c := by
  rcases h.2 with ⟨rfl, rfl⟩ | ⟨g, cap, cur, rfl, -⟩
  · exact ⟨_, _, rfl⟩
  · exact ⟨_, _, rfl⟩
def encU : Unit → World → Value → Prop := fun _ _ V => V = .tuple #[]
def encS : List UInt8 → World → Value → Prop := fun s _ V => V = .string ⟨s.toArray⟩
theorem must_takes (s : List UInt8) : Takes (mustF s) := fun ts a r h => by
  unfold mustF at h
  cases hm : mayF s ts with
  | none => rw [hm] at h; cases h
  | some r' =>
    rw [hm] at h
    injection h with h1 h2
    subst h2
    have := may_len hm
    exact ⟨by omega, may_ends hm, this.2⟩
theorem must_any (rb gt : Nat) (s : List UInt8) (r : List Tok) (hr : r ≠ []) (w : World) (R : RdR w rb gt r) :
    Calls Tryz.prog 71 #[.pointer (some ⟨rb, 0, none⟩), .string ⟨s.toArray⟩] w (POut rb gt w encU (mustF s r)) := by
  cases h : mayF s r with
  | none =>
    cases r with
    | nil => exact absurd rfl hr
    | cons t r =>
      rw [show mustF s (t :: r) = .no t.p 11 by unfold mustF; rw [h]; rfl]
      exact must_no rb gt s t r h w R
  | some r' =>
    rw [show mustF s r = .ok () r' by unfold mustF; rw [h]]
    exact (must_yes rb gt s r r' hr h w R).mono fun e w' ⟨h1, h2, h3⟩ => ⟨⟨_, h1, rfl⟩, h2, h3⟩
theorem nameR_any (rb gt : Nat) (r : List Tok) (hr : r ≠ []) (hS : ShortT r) (w : World) (R : RdR w rb gt r) :
    Calls Tryz.prog 70 #[.pointer (some ⟨rb, 0, none⟩)] w (POut rb gt w encS (nmF r)) := by
  cases r with
  | nil => exact absurd rfl hr
  | cons t r => exact name_any rb gt t r (hS t (by simp)) w R
theorem bind_takes {α β : Type} {f : List Tok → PR α} {g : α → List Tok → PR β} (hf : Takes f) (hg : ∀ a, Takes (g a)) : Takes (fun ts => (f ts).bind g) := fun ts b r h => by
  cases h1 : f ts with
  | no p e => simp only [h1, PR.bind] at h; cases h
  | ok a r1 =>
    simp only [h1, PR.bind] at h
    have t1 := hf _ _ _ h1
    have t2 := hg a _ _ _ h
    exact ⟨by omega, fun k => t2.2.1 (t1.2.1 k), fun k => t2.2.2 (t1.2.2 k)⟩
theorem strs_gr {w W : World} {A : Option Addr} {xs : List (List UInt8)} {rb : Nat} (h : Strs w A xs) (hg : Gr w.heap.size rb w W) (hA : ∀ a, A = some a → ¬ a.block = rb) : Strs W A xs := fun i p hi => by
  obtain ⟨b, off, h1, h2, h3⟩ := h i p hi
  obtain ⟨hc, _⟩ := gcell hg
  exact ⟨b, off, h1, Nat.lt_of_lt_of_le h2 hg.size, by rw [hc _ _ h2 (hA _ h1), h3]⟩
end Go.Proofs.YtnjlggleaocbdaaGreatDoor
