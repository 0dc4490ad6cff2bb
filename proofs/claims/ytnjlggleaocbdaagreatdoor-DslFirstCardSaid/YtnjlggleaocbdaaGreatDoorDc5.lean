/-
  Contract of the lexer's skip. (Printed by tools/mkdc5.py.)
-/
import Derived.Test.YtnjlggleaocbdaaGreatDoorDc4
import Derived.Lib.IndexLaws
namespace Go.Proofs.YtnjlggleaocbdaaGreatDoor
set_option linter.all false
open Go.RowKit Go.Shelf
attribute [local go_sem] cell_set_self lt_1 lt_2 lt_3 lt_4 lt_5 lt_6

theorem ib_any (s : List UInt8) (c : UInt8) (w : World) : Calls Tryz.prog 80 #[.string ⟨s.toArray⟩, .int .u8 (c.toNat : Int)] w fun e w' => e = .returned (.int .i64 (Lib.indexByte s c)) ∧ w = w' := by
  refine (Tryz.strings_IndexByte ⟨s.toArray⟩ (c.toNat : Int) w).mono ?_
  rintro e w' ⟨rfl, rfl⟩
  refine ⟨?_, rfl⟩
  have : ((c.toNat : Int).toNat.toUInt8) = c := by simp
  rw [this]
theorem skip_cmt : ∀ (l : List UInt8) (p : Nat), ∃ n : Nat, n ≤ l.length ∧ (Lib.indexByte l 10 = (n : Int) ∨ Lib.indexByte l 10 = -1 ∧ n = l.length) ∧ skipF true p l = skipF false p (l.drop n)
  | [], p => ⟨0, Nat.le_refl _, .inr ⟨rfl, rfl⟩, rfl⟩
  | c :: r, p => by
    by_cases hc : c = 10
    · subst hc
      exact ⟨0, by omega, .inl rfl, rfl⟩
    · have hc' : ¬ c.toNat = 10 := fun h => hc (UInt8.toNat_inj.1 h)
      have hb : (c == 10) = false := by simp [hc]
      obtain ⟨n, h1, h2, h3⟩ := skip_cmt r p
      refine ⟨n + 1, by simp; omega, ?_, ?_⟩
      · simp only [Lib.indexByte, hb, Bool.false_eq_true, if_false]
        rcases h2 with h2 | ⟨h2, h4⟩
        · left
          rw [if_neg (by rw [h2, beq_iff_eq]; omega), h2]; omega
        · right
          rw [if_pos (by rw [h2]; rfl)]
          exact ⟨rfl, by simp; omega⟩
      · simp only [skipF, List.drop_succ_cons]
        rw [if_neg hc', h3]
def lexN (lb : Nat) (w : World) : Nat := match w.cell? ⟨lb, 0, none⟩ with
  | some (.string s) => s.size
  | _ => 0
theorem LxS.lexN {w : World} {lb : Nat} {l : List UInt8} {p : Nat} (h : LxS w lb l p) : lexN lb w = l.length := by
  unfold Go.Proofs.YtnjlggleaocbdaaGreatDoor.lexN; rw [h.c0]; simp [ByteArray.size]
theorem LxS.set1e {w : World} {lb : Nat} {l : List UInt8} {p p' : Nat} {z : Int} (h : LxS w lb l p) (e : z = (p' : Int)) : LxS (w.setCell ⟨lb, 1, none⟩ (.int .i64 z)) lb l p' := by subst e; exact h.set1 p'
/-- Is anything left? -/
def restB (x : Nat × List UInt8) : Bool := match x.2 with
  | [] => false
  | _ :: _ => true
set_option maxHeartbeats 8000000 in
set_option maxRecDepth 100000 in
theorem skip_any (lb : Nat) (l : List UInt8) (p : Nat) (hl : l.length ≤ 1000000000) (hp : p + l.length ≤ 2000000000) (w : World) (H : LxS w lb l p) :
    Calls Tryz.prog 66 #[.pointer (some ⟨lb, 0, none⟩)] w fun e w' => e = .returned (.bool (restB (skipF false p l))) ∧ LxS w' lb (skipF false p l).2 (skipF false p l).1 ∧ Gr w.heap.size lb w w' := by
  suffices key : ∀ Q : Ending → World → Prop, Hid (∀ w' b q r, skipF false p l = (q, r) → restB (q, r) = b → LxS w' lb r q → Gr w.heap.size lb w w' → Q (.returned (.bool b)) w') → Calls Tryz.prog 66 #[.pointer (some ⟨lb, 0, none⟩)] w Q from key _ (Lib.hid fun w' b q r h1 h2 h3 h4 => by rw [h1]; exact ⟨by rw [h2], h3, h4⟩)
  intro Q HQ
  have HH := Lib.hid H
  have hlb := H.lt
  clear H
  go_enter Tryz.func66, Tryz.ntmps66
  go_wp2_with (fail)
  go_loopw [] (fun wr => ∃ (l1 : List UInt8) (p1 : Nat), l1.length ≤ 1000000000 ∧ p1 + l1.length ≤ 2000000000 ∧ Hid (skipF false p l = skipF false p1 l1) ∧ Hid (LxS wr lb l1 p1) ∧ Hid (Gr w.heap.size lb w wr)) (fun wr => lexN lb wr)
  case atStart => exact ⟨l, p, hl, hp, Lib.hid rfl, HH, Lib.hid (Gr.refl _ _ _)⟩
  case round =>
    obtain ⟨l1, p1, hl1, hp1, HS, HL, HG⟩ := hrel
    obtain ⟨wo, rfl⟩ : ∃ wo : World, wo = wr := ⟨_, rfl⟩
    have hlbo := HL.out.lt
    obtain ⟨c0, c1, f0, f1⟩ := HL.out
    cases l1 with
    | nil =>
      have HF := Lib.hid (HQ.out wo false p1 [] HS.out rfl HL.out HG.out)
      clear hl hp HS HL HG HH
      go_wp2
      exact HF.out
    | cons c r =>
      have hN := HL.out.lexN
      have e1 := ext_back (c :: r) 1
      obtain ⟨t, ht⟩ : ∃ t : ByteArray, (⟨(c :: r).toArray⟩ : ByteArray) = t := ⟨_, rfl⟩
      have hsz : t.size = r.length + 1 := by rw [← ht]; simp [ByteArray.size]
      have tp : 0 < t.size := by omega
      have q2 : (((t[0]'tp).toNat : Int)) = (c.toNat : Int) := by subst ht; rfl
      have e0 : (t.toList == []) = false := by rw [← ht, ByteArray.toList_mk]; rfl
      have e0' : t.toList.isEmpty = false := by rw [← ht, ByteArray.toList_mk]; rfl
      obtain ⟨Y, hY⟩ : ∃ Y : ByteArray, (⟨((c :: r).drop 1).toArray⟩ : ByteArray) = Y := ⟨_, rfl⟩
      rw [ht] at c0 e1
      rw [hY, hsz] at e1
      have HY : Hid (Y = ⟨r.toArray⟩) := Lib.hid hY.symm
      have HT := Lib.hid ht
      have ts1 : (1 : Int) ≤ (t.size : Int) := by omega
      simp only [List.length_cons] at hl1 hp1 hN
      have HN := Lib.hid hN
      clear ht hY hN
      by_cases h10 : c.toNat = 10
      · have z1 : ((c.toNat : Int) == 10) = true := by simp [h10]
        have HS2 : Hid (skipF false p l = skipF false (p1 + 1) r) := Lib.hid (by rw [HS.out]; simp only [skipF]; rw [if_pos h10])
        clear h10 hl hp HS
        generalize (c.toNat : Int) = z at *
        go_wp2_with (fail)
        go_roundw
        case rel => exact ⟨r, p1 + 1, by omega, by omega, HS2, Lib.hid (by repeat (first | (with_reducible exact HL.out) | (with_reducible refine LxS.set0e (l := c :: r) ?_ HY.out) | (with_reducible refine LxS.set1e (p := p1) ?_ (by omega)))), Lib.hid (by repeat (first | (with_reducible exact HG.out) | ((with_reducible refine Gr.setCell ?_ ?hq1 _); (case hq1 => (right; rfl)))))⟩
        case measure => (rw [HN.out, LxS.lexN (l := r) (p := p1 + 1) (by repeat (first | (with_reducible exact HL.out) | (with_reducible refine LxS.set0e (l := c :: r) ?_ HY.out) | (with_reducible refine LxS.set1e (p := p1) ?_ (by omega))))]; omega)
      · have z1 : ((c.toNat : Int) == 10) = false := by rw [beq_eq_false_iff_ne]; omega
        by_cases hb : blankB c = true
        · have HS2 : Hid (skipF false p l = skipF false p1 r) := Lib.hid (by rw [HS.out]; simp only [skipF]; rw [if_neg h10, if_pos hb])
          by_cases h32 : c.toNat = 32
          · have z2 : ((c.toNat : Int) == 32) = true := by simp [h32]
            clear h10 hl hp HS hb h32
            generalize (c.toNat : Int) = z at *
            go_wp2_with (fail)
            go_roundw
            case rel => exact ⟨r, p1, by omega, by omega, HS2, Lib.hid (by repeat (first | (with_reducible exact HL.out) | (with_reducible refine LxS.set0e (l := c :: r) ?_ HY.out))), Lib.hid (by repeat (first | (with_reducible exact HG.out) | ((with_reducible refine Gr.setCell ?_ ?hq1 _); (case hq1 => (right; rfl)))))⟩
            case measure => (rw [HN.out, LxS.lexN (l := r) (p := p1) (by repeat (first | (with_reducible exact HL.out) | (with_reducible refine LxS.set0e (l := c :: r) ?_ HY.out)))]; omega)
          · have z2 : ((c.toNat : Int) == 32) = false := by rw [beq_eq_false_iff_ne]; omega
            by_cases h9 : c.toNat = 9
            · have z3 : ((c.toNat : Int) == 9) = true := by simp [h9]
              clear h10 hl hp HS hb h32 h9
              generalize (c.toNat : Int) = z at *
              go_wp2_with (fail)
              go_roundw
              case rel => exact ⟨r, p1, by omega, by omega, HS2, Lib.hid (by repeat (first | (with_reducible exact HL.out) | (with_reducible refine LxS.set0e (l := c :: r) ?_ HY.out))), Lib.hid (by repeat (first | (with_reducible exact HG.out) | ((with_reducible refine Gr.setCell ?_ ?hq1 _); (case hq1 => (right; rfl)))))⟩
              case measure => (rw [HN.out, LxS.lexN (l := r) (p := p1) (by repeat (first | (with_reducible exact HL.out) | (with_reducible refine LxS.set0e (l := c :: r) ?_ HY.out)))]; omega)
            · have z3 : ((c.toNat : Int) == 9) = false := by rw [beq_eq_false_iff_ne]; omega
              have z4 : ((c.toNat : Int) == 13) = true := by
                simp only [blankB, Bool.or_eq_true, decide_eq_true_eq] at hb
                have : c.toNat = 13 := by omega
                simp [this]
              clear h10 hl hp HS hb h32 h9
              generalize (c.toNat : Int) = z at *
              go_wp2_with (fail)
              go_roundw
              case rel => exact ⟨r, p1, by omega, by omega, HS2, Lib.hid (by repeat (first | (with_reducible exact HL.out) | (with_reducible refine LxS.set0e (l := c :: r) ?_ HY.out))), Lib.hid (by repeat (first | (with_reducible exact HG.out) | ((with_reducible refine Gr.setCell ?_ ?hq1 _); (case hq1 => (right; rfl)))))⟩
              case measure => (rw [HN.out, LxS.lexN (l := r) (p := p1) (by repeat (first | (with_reducible exact HL.out) | (with_reducible refine LxS.set0e (l := c :: r) ?_ HY.out)))]; omega)
        · have hb' := hb
          simp only [blankB, Bool.or_eq_true, decide_eq_true_eq] at hb'
          have z2 : ((c.toNat : Int) == 32) = false := by rw [beq_eq_false_iff_ne]; omega
          have z3 : ((c.toNat : Int) == 9) = false := by rw [beq_eq_false_iff_ne]; omega
          have z4 : ((c.toNat : Int) == 13) = false := by rw [beq_eq_false_iff_ne]; omega
          by_cases h35 : c.toNat = 35
          · have z5 : ((c.toNat : Int) == 35) = true := by simp [h35]
            obtain ⟨n, n1, n2, n3⟩ := skip_cmt (c :: r) p1
            have HS2 : Hid (skipF false p l = skipF false p1 ((c :: r).drop n)) := Lib.hid (by
              rw [HS.out, ← n3]; simp only [skipF]; rw [if_neg h10, if_neg hb, if_pos h35, if_neg h10])
            have IB : Hid (∀ W, Calls Tryz.prog 80 #[.string t, .int .u8 10] W fun e w' => e = .returned (.int .i64 (Lib.indexByte (c :: r) 10)) ∧ W = w') := Lib.hid fun W => by
              have := ib_any (c :: r) 10 W
              rw [HT.out] at this; exact this
            have hd : ((c :: r).drop n).length + n = r.length + 1 := by rw [List.length_drop, List.length_cons]; simp at n1; omega
            have hn0 : 1 ≤ n := by
              rcases Nat.eq_zero_or_pos n with h | h
              · subst h
                rcases n2 with n2 | ⟨-, n2⟩
                · have := (Lib.indexByte_some (o := 0) n2).1
                  simp at this; subst this; exact absurd rfl h10
                · simp at n2
              · exact h
            have e2 := ext_back (c :: r) n
            rw [HT.out] at e2
            obtain ⟨Y2, hY2⟩ : ∃ Y : ByteArray, (⟨((c :: r).drop n).toArray⟩ : ByteArray) = Y := ⟨_, rfl⟩
            rw [hY2, hsz] at e2
            have HY2 := Lib.hid hY2.symm
            have nt : (n : Int) ≤ (t.size : Int) := by simp at n1; omega
            have nt0 : (0 : Int) ≤ (n : Int) := by omega
            obtain ⟨ld, hld⟩ : ∃ x, (c :: r).drop n = x := ⟨_, rfl⟩
            rw [hld] at HS2 hd HY2
            have HLD := Lib.hid hld
            rcases n2 with n2 | ⟨n2, n4⟩
            · rw [n2] at IB
              have nn : ¬ (n : Int) < 0 := by omega
              clear h10 hl hp HS hb hb' h35 n1 n2 n3 hY2 hld
              generalize (c.toNat : Int) = z at *
              go_wp2_with (first | (go_at_call 80; (with_reducible refine (IB.out _).mono ?_); rintro e w5 ⟨rfl, rfl⟩))
              go_roundw
              case rel => exact ⟨ld, p1, by omega, by omega, HS2, Lib.hid (by repeat (first | (with_reducible exact HL.out) | (with_reducible refine LxS.set0e (l := c :: r) ?_ HY2.out))), Lib.hid (by repeat (first | (with_reducible exact HG.out) | ((with_reducible refine Gr.setCell ?_ ?hq1 _); (case hq1 => (right; rfl)))))⟩
              case measure => (rw [HN.out, LxS.lexN (l := ld) (p := p1) (by repeat (first | (with_reducible exact HL.out) | (with_reducible refine LxS.set0e (l := c :: r) ?_ HY2.out)))]; omega)
            · rw [n2] at IB
              have nn : t.size = n := by simp at n4; omega
              have HE : Hid (ByteArray.empty = ⟨ld.toArray⟩) := Lib.hid (by rw [← hld, List.drop_of_length_le (by simp at n4 ⊢; omega)]; rfl)
              clear h10 hl hp HS hb hb' h35 n1 n2 n3 n4 hY2 hld
              generalize (c.toNat : Int) = z at *
              go_wp2_with (first | (go_at_call 80; (with_reducible refine (IB.out _).mono ?_); rintro e w5 ⟨rfl, rfl⟩))
              go_roundw
              case rel => exact ⟨ld, p1, by omega, by omega, HS2, Lib.hid (by repeat (first | (with_reducible exact HL.out) | (with_reducible refine LxS.set0e (l := c :: r) ?_ HE.out))), Lib.hid (by repeat (first | (with_reducible exact HG.out) | ((with_reducible refine Gr.setCell ?_ ?hq1 _); (case hq1 => (right; rfl)))))⟩
              case measure => (rw [HN.out, LxS.lexN (l := ld) (p := p1) (by repeat (first | (with_reducible exact HL.out) | (with_reducible refine LxS.set0e (l := c :: r) ?_ HE.out)))]; omega)
          · have z5 : ((c.toNat : Int) == 35) = false := by rw [beq_eq_false_iff_ne]; omega
            have HF := Lib.hid (HQ.out wo true p1 (c :: r) (by rw [HS.out]; simp only [skipF]; rw [if_neg h10, if_neg hb, if_neg h35]) rfl HL.out HG.out)
            clear h10 hl hp HS hb hb' h35
            generalize (c.toNat : Int) = z at *
            go_wp2
            exact HF.out
end Go.Proofs.YtnjlggleaocbdaaGreatDoor
