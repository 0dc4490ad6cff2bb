/-
  A theory under construction in memory.
-/
import Derived.Test.YtnjlggleaocbdaaGreatDoorDe4
namespace Go.Proofs.YtnjlggleaocbdaaGreatDoor
set_option linter.all false
open Go.RowKit Go.Shelf
attribute [local go_sem] cell_set_self lt_1 lt_2 lt_3 lt_4 lt_5 lt_6 fld_k fld_s fld_n fld_p

def cellsD (l : List DeclT) : List Value := (l.map declC).flatten
theorem cellsD_app (l : List DeclT) (d : DeclT) : cellsD (l ++ [d]) = cellsD l ++ declC d := by simp [cellsD]
def RlV (P : Nat → Prop) (W : World) (x : RuleT) (cs : List Value) : Prop := ∃ c1 c2, cs = ruleC x c1 c2 ∧ EV P W x.cond c1 ∧ EV P W x.thn c2
theorem RlV.keep {P : Nat → Prop} {w W : World} {x : RuleT} {cs : List Value} (h : RlV P w x cs) (hk : Kp P w W) : RlV P W x cs := by
  obtain ⟨c1, c2, h1, h2, h3⟩ := h
  exact ⟨c1, c2, h1, h2.keep hk, h3.keep hk⟩
theorem RlV.mono {P P' : Nat → Prop} {w : World} {x : RuleT} {cs : List Value} (h : RlV P w x cs) (hP : ∀ b, b < w.heap.size → P b → P' b) : RlV P' w x cs := by
  obtain ⟨c1, c2, h1, h2, h3⟩ := h
  exact ⟨c1, c2, h1, h2.mono hP, h3.mono hP⟩
/-- A theory that is being read: its two rows, and what its rules hold, in blocks from bs on. -/
structure ThR (bs : Nat) (W : World) (T : TheoryT) (VD VR : Value) : Prop where
  d : W.ownsRow bs 64 3 VD T.decls.length (cellsD T.decls)
  r : ∃ css : List (List Value), css.length = T.rules.length ∧ W.ownsRow bs 89 11 VR T.rules.length css.flatten ∧ ∀ (i : Nat) (x : RuleT) (cs : List Value), T.rules[i]? = some x → css[i]? = some cs → RlV (fun b => bs ≤ b ∧ VR.ownBlock ≠ some b ∧ VD.ownBlock ≠ some b) W x cs
  ne : ∀ k, VD.ownBlock = some k → VR.ownBlock ≠ some k
theorem own_kp {W W' : World} {bs size n : Nat} {e : TypeId} {V : Value} {xs : List Value} (h : W.ownsRow bs e size V n xs) (hk : Kp (fun b => bs ≤ b) W W') : W'.ownsRow bs e size V n xs := by
  rcases h.2 with h2 | ⟨g, cap, cur, hv, h3, hh, hr⟩
  · exact ⟨h.1, .inl h2⟩
  · exact ⟨h.1, .inr ⟨g, cap, cur, hv, h3, (hk.block g h3 (Array.getElem?_eq_some_iff.1 hh).1).trans hh, hr⟩⟩
theorem ThR.nil (bs : Nat) (W : World) : ThR bs W theory0 (.slice none 0 0) (.slice none 0 0) :=
  ⟨World.ownsRow_nil _ _ _ _, ⟨[], rfl, World.ownsRow_nil _ _ _ _, fun i x cs h => by simp [theory0] at h⟩, fun k h => by cases h⟩
theorem ThR.keep {bs : Nat} {W W' : World} {T : TheoryT} {VD VR : Value} (h : ThR bs W T VD VR) (hk : Kp (fun b => bs ≤ b) W W') : ThR bs W' T VD VR := by
  obtain ⟨hd, ⟨css, h1, h2, h3⟩, hn⟩ := h
  exact ⟨own_kp hd hk, ⟨css, h1, own_kp h2 hk, fun i x cs hi hj => (h3 i x cs hi hj).keep ⟨hk.size, fun k hp hlt => hk.block k hp.1 hlt⟩⟩, hn⟩
theorem ThR.forms {bs : Nat} {W : World} {T : TheoryT} {VD VR : Value} (h : ThR bs W T VD VR) : ∃ AD cD AR cR, VD = .slice AD T.decls.length cD ∧ VR = .slice AR T.rules.length cR := by
  obtain ⟨hd, ⟨css, h1, h2, h3⟩, hn⟩ := h
  obtain ⟨A, c, e⟩ := own_form hd
  obtain ⟨A', c', e'⟩ := own_form h2
  exact ⟨A, c, A', c', e, e'⟩
theorem kp_grown {W W' : World} {row : Option Nat} (hg : W.grownBy W' row) : Kp (fun b => row ≠ some b) W W' := ⟨hg.size, fun k hk hlt => hg.block k hlt (fun e => hk e.symm)⟩
theorem own_other {W W' : World} {bs size n : Nat} {e : TypeId} {V : Value} {xs : List Value} {row : Option Nat} (h : W.ownsRow bs e size V n xs) (hg : W.grownBy W' row) (hne : ∀ k, row = some k → V.ownBlock ≠ some k) : W'.ownsRow bs e size V n xs := by
  refine h.kept hg ?_
  cases hv : V.ownBlock with
  | none => exact .inl rfl
  | some k => exact .inr fun e => hne k e.symm hv
/-- One declaration more. -/
theorem ThR.pushD {bs : Nat} {W W' : World} {T : TheoryT} {VD VR : Value} {d : DeclT} {g cap : Nat} (h : ThR bs W T VD VR) (hown : W'.ownsRow bs 64 3 (.slice (some ⟨g, 0, none⟩) (T.decls.length + 1) cap) (T.decls.length + 1) (cellsD T.decls ++ declC d))
    (hg : W.grownBy W' VD.ownBlock) (hat : VD.ownBlock = some g ∨ W.heap.size ≤ g) : ThR bs W' ⟨T.decls ++ [d], T.rules⟩ (.slice (some ⟨g, 0, none⟩) (T.decls.length + 1) cap) VR := by
  obtain ⟨hd, ⟨css, h1, h2, h3⟩, hn⟩ := h
  refine ⟨by rw [cellsD_app, List.length_append]; exact hown, ⟨css, h1, own_other h2 hg (fun k e => hn k e), fun i x cs hi hj => ?_⟩, fun k e hk => ?_⟩
  · have h4 := h3 i x cs hi hj
    have h5 : RlV (fun b => (bs ≤ b ∧ VR.ownBlock ≠ some b ∧ b ≠ g) ∧ VD.ownBlock ≠ some b) W x cs := h4.mono fun b hb hp => ⟨⟨hp.1, hp.2.1, by
      rintro rfl
      rcases hat with e | e
      · exact hp.2.2 e
      · omega⟩, hp.2.2⟩
    have h6 := h5.keep (W := W') ⟨hg.size, fun k hk hlt => hg.block k hlt (fun e => hk.2 e.symm)⟩
    exact h6.mono fun b _ hp => ⟨hp.1.1, hp.1.2.1, fun e => hp.1.2.2 (by injection e with e; exact e.symm)⟩
  · injection e with e; subst e
    rcases hat with e | e
    · exact hn _ e hk
    · have := (h2.lt g hk).2; omega
/-- One rule more. -/
theorem ThR.pushR {bs : Nat} {W W' : World} {T : TheoryT} {VD VR : Value} {x : RuleT} {cx : List Value} {g cap : Nat} (h : ThR bs W T VD VR) (hx : RlV (fun b => bs ≤ b ∧ VR.ownBlock ≠ some b ∧ VD.ownBlock ≠ some b) W x cx) {xs : List Value} (hxs : W.ownsRow bs 89 11 VR T.rules.length xs)
    (hown : W'.ownsRow bs 89 11 (.slice (some ⟨g, 0, none⟩) (T.rules.length + 1) cap) (T.rules.length + 1) (xs ++ cx))
    (hg : W.grownBy W' VR.ownBlock) (hat : VR.ownBlock = some g ∨ W.heap.size ≤ g) : ThR bs W' ⟨T.decls, T.rules ++ [x]⟩ VD (.slice (some ⟨g, 0, none⟩) (T.rules.length + 1) cap) := by
  obtain ⟨hd, ⟨css, h1, h2, h3⟩, hn⟩ := h
  have tr : ∀ {y : RuleT} {cs : List Value}, RlV (fun b => bs ≤ b ∧ VR.ownBlock ≠ some b ∧ VD.ownBlock ≠ some b) W y cs → RlV (fun b => bs ≤ b ∧ (Value.slice (some ⟨g, 0, none⟩) (T.rules.length + 1) cap).ownBlock ≠ some b ∧ VD.ownBlock ≠ some b) W' y cs := fun {y cs} h4 => by
    have h5 : RlV (fun b => (bs ≤ b ∧ VD.ownBlock ≠ some b ∧ b ≠ g) ∧ VR.ownBlock ≠ some b) W y cs := h4.mono fun b hb hp => ⟨⟨hp.1, hp.2.2, by
      rintro rfl
      rcases hat with e | e
      · exact hp.2.1 e
      · omega⟩, hp.2.1⟩
    have h6 := h5.keep (W := W') ⟨hg.size, fun k hk hlt => hg.block k hlt (fun e => hk.2 e.symm)⟩
    exact h6.mono fun b _ hp => ⟨hp.1.1, fun e => hp.1.2.2 (by injection e with e; exact e.symm), hp.1.2.1⟩
  have hxe : xs = css.flatten := by
    rcases h2.2 with ⟨rfl, h0⟩ | ⟨g, cap, cur, rfl, -, hh, -, -, -, ht⟩
    · have e1 := h2.1; have e2 := hxs.1
      rw [h0, Nat.zero_mul] at e1 e2
      rw [List.eq_nil_of_length_eq_zero e1, List.eq_nil_of_length_eq_zero e2]
    · rcases hxs.2 with ⟨e', -⟩ | ⟨g', cap', cur', e', -, hh', -, -, -, ht'⟩
      · cases e'
      · injection e' with e1 e2 e3; injection e1 with e1; injection e1 with e1
        subst e1
        rw [hh] at hh'; injection hh' with hh'; injection hh' with hh'; subst hh'
        rw [← ht, ← ht']
  refine ⟨own_other hd hg (fun k e => fun e2 => hn k e2 e), ⟨css ++ [cx], by simp [h1], ?_, fun i y cs hi hj => ?_⟩, fun k e hk => ?_⟩
  · rw [List.flatten_append, ← hxe, List.length_append]
    simpa using hown
  · rcases Nat.lt_or_ge i T.rules.length with k | k
    · rw [List.getElem?_append_left k] at hi
      rw [List.getElem?_append_left (by omega)] at hj
      exact tr (h3 i y cs hi hj)
    · have hlt := (List.getElem?_eq_some_iff.1 hi).1
      simp only [List.length_append, List.length_cons, List.length_nil] at hlt
      obtain rfl : i = T.rules.length := by omega
      rw [List.getElem?_append_right (by omega), Nat.sub_self] at hi
      rw [List.getElem?_append_right (by omega), h1, Nat.sub_self] at hj
      simp at hi hj
      subst hi hj
      exact tr hx
  · injection hk with hk; subst hk
    rcases hat with e2 | e2
    · exact hn _ e e2
    · have := (hd.lt g e).2; omega
def wordI (s : List UInt8) : Int := if s = wInput then 0 else if s = wOutput then 1 else if s = wRule then 2 else -1
theorem index_any (b : Nat) (s : List UInt8) (w : World) (T : Strs w (some ⟨b, 0, none⟩) [wInput, wOutput, wRule]) :
    Calls Tryz.prog 51 #[.slice (some ⟨b, 0, none⟩) 3 3, .string ⟨s.toArray⟩] w fun e w' => e = .returned (.int .i64 (wordI s)) ∧ w = w' := by
  refine (Tryz.slices_Index_string b 0 3 3 ([wInput, wOutput, wRule].map fun y => (⟨y.toArray⟩ : ByteArray)) ⟨s.toArray⟩ w (by simp) (by omega) (fun j hj => ?_)).mono ?_
  · have : j = 0 ∨ j = 1 ∨ j = 2 := by simp at hj; omega
    rcases this with rfl | rfl | rfl
    · obtain ⟨b', off', e, -, hc⟩ := T 0 wInput rfl
      injection e with e; injection e with e1 e2; subst e1 e2
      exact hc
    · obtain ⟨b', off', e, -, hc⟩ := T 1 wOutput rfl
      injection e with e; injection e with e1 e2; subst e1 e2
      exact hc
    · obtain ⟨b', off', e, -, hc⟩ := T 2 wRule rfl
      injection e with e; injection e with e1 e2; subst e1 e2
      exact hc
  · rintro e w' ⟨rfl, rfl⟩
    refine ⟨?_, rfl⟩
    have hb : ∀ a : List UInt8, ((⟨a.toArray⟩ : ByteArray) = ⟨s.toArray⟩) ↔ s = a := fun a => by
      constructor
      · intro h
        have := congrArg (fun b : ByteArray => b.data.toList) h
        simpa using this.symm
      · rintro rfl; rfl
    have hi : Lib.idxOfS (([wInput, wOutput, wRule].map fun y => (⟨y.toArray⟩ : ByteArray)).take 3) ⟨s.toArray⟩ = wordI s := by
      simp only [List.map_cons, List.map_nil, List.take_succ_cons, List.take_zero, Lib.idxOfS, Lib.idxFromS, hb]
      rfl
    rw [hi]
theorem decl_takes (o : Bool) : Takes (declF o) := bind_takes nm_takes fun n => bind_takes (must_takes [58]) fun _ ts a r h => by
  cases ho : oneF typesL 0 ts with
  | none => simp only [ho] at h; cases h
  | some y =>
    obtain ⟨i, r1⟩ := y
    simp only [ho] at h
    have t1 := (one_take _ _ _ _ _ ho).2
    have t2 := bind_takes (must_takes [59]) (fun _ => ok_takes (DeclT.mk n (i : Int) o)) r1 a r h
    exact ⟨by omega, fun k => t2.2.1 (t1.2.1 k), fun k => t2.2.2 (t1.2.2 k)⟩
theorem if_takes (f : Nat) : Takes (ifF f) := fun ts a r h => by
  cases hm : mayF wIf ts with
  | none => rw [if_no hm] at h; exact ok_takes expr0 ts a r h
  | some r1 => rw [if_yes hm] at h; exact may_takes (exprD_takes f) hm h
theorem rule_takes (f : Nat) : Takes (ruleF f) := bind_takes nm_takes fun n ts a r h => by
  cases ts with
  | nil => cases h
  | cons t r1 =>
    simp only at h
    split at h
    · rename_i hk
      have t2 := bind_takes (must_takes [58]) (fun _ => bind_takes (if_takes f) (fun c => bind_takes (must_takes wThen) (fun _ => bind_takes nm_takes (fun g => bind_takes (must_takes [61]) (fun _ => bind_takes (exprD_takes f) (fun e => bind_takes (must_takes [59]) (fun _ => ok_takes (RuleT.mk n t.n c g e)))))))) r1 a r h
      exact ⟨by simp; omega, fun hE => t2.2.1 (hE.tail (by omega)), fun hS => t2.2.2 hS.tail⟩
    · cases h
theorem info_dcl : (Tryz.prog.info? 64).map (fun i => (i.zero, i.size, i.bytes)) = some (some (.agg #[.string ⟨#[]⟩, .int .i64 0, .bool false]), 3, 32) := by kernel_rfl
theorem info_rul : (Tryz.prog.info? 89).map (fun i => (i.zero, i.size, i.bytes)) = some (some (.agg #[.string ⟨#[]⟩, .int .i64 0, .int .i64 0, .int .i64 0, .string ⟨#[]⟩, .slice none 0 0, .string ⟨#[]⟩, .int .i64 0, .int .i64 0, .string ⟨#[]⟩, .slice none 0 0]), 11, 152) := by kernel_rfl
end Go.Proofs.YtnjlggleaocbdaaGreatDoor
