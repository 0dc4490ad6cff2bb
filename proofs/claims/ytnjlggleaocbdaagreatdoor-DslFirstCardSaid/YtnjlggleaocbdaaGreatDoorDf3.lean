/-
  Contract of dsl.fine. (Printed by tools/mkdf3.py.)
-/
import Derived.Test.YtnjlggleaocbdaaGreatDoorDe9
import Derived.Lib.ReplaceLaws
import Derived.Lib.SmallJoins
import Derived.Test.YtnjlggleaocbdaaGreatDoorQh

/-
  Contracts of dsl.binds, dsl.args.
-/
namespace Go.Proofs.YtnjlggleaocbdaaGreatDoor
set_option linter.all false
open Go.RowKit Go.Shelf
attribute [local go_sem] cell_set_self lt_1 lt_2 lt_3 lt_4 lt_5 lt_6

set_option maxRecDepth 100000 in
theorem binds_any (op : Int) (w : World) : Calls Tryz.prog 45 #[.int .i64 op] w fun e w' => e = .returned (.int .i64 (bindN op : Int)) ∧ w = w' := by
  suffices key : ∀ Q : Ending → World → Prop, Hid (∀ e w', (e = .returned (.int .i64 (bindN op : Int)) ∧ w = w') → Q e w') → Calls Tryz.prog 45 #[.int .i64 op] w Q from key _ (Lib.hid fun _ _ h => h)
  intro Q HQQ
  by_cases hr : 6 ≤ op ∧ op ≤ 19
  · have : op = 6 ∨ op = 7 ∨ op = 8 ∨ op = 9 ∨ op = 10 ∨ op = 11 ∨ op = 12 ∨ op = 13 ∨ op = 14 ∨ op = 15 ∨ op = 16 ∨ op = 17 ∨ op = 18 ∨ op = 19 := by omega
    clear hr
    rcases this with rfl | rfl | rfl | rfl | rfl | rfl | rfl | rfl | rfl | rfl | rfl | rfl | rfl | rfl <;> (go_enter Tryz.func45, Tryz.ntmps45; go_wp2; exact HQQ.out _ _ ⟨rfl, rfl⟩)
  · have hb : bindN op = 7 := by
      unfold bindN
      rw [if_neg (by omega), if_neg (by omega), if_neg (by omega), if_neg (by omega), if_neg (by omega), if_neg (by omega)]
    rw [hb] at HQQ
    have e1 : (op == 6) = false ∧ (op == 7) = false ∧ (op == 8) = false ∧ (op == 15) = false ∧ (op == 16) = false := by simp; omega
    by_cases h9 : 9 ≤ op
    · have h14 : ¬ op ≤ 14 ∧ 17 ≤ op ∧ ¬ op ≤ 19 := by omega
      clear hr hb
      go_enter Tryz.func45, Tryz.ntmps45
      go_wp2
      exact HQQ.out _ _ ⟨rfl, rfl⟩
    · have h17 : ¬ 17 ≤ op := by omega
      clear hr hb
      go_enter Tryz.func45, Tryz.ntmps45
      go_wp2
      exact HQQ.out _ _ ⟨rfl, rfl⟩
set_option maxRecDepth 100000 in
theorem args_any (op : Int) (w : World) : Calls Tryz.prog 60 #[.int .i64 op] w fun e w' => e = .returned (.int .i64 (argsN op)) ∧ w = w' := by
  suffices key : ∀ Q : Ending → World → Prop, Hid (∀ e w', (e = .returned (.int .i64 (argsN op)) ∧ w = w') → Q e w') → Calls Tryz.prog 60 #[.int .i64 op] w Q from key _ (Lib.hid fun _ _ h => h)
  intro Q HQQ
  by_cases h1 : op < 1
  · have hb : argsN op = -1 := by unfold argsN; rw [if_pos (by omega)]
    rw [hb] at HQQ
    clear hb
    go_enter Tryz.func60, Tryz.ntmps60
    go_wp2
    exact HQQ.out _ _ ⟨rfl, rfl⟩
  · by_cases h2 : 20 < op
    · have hb : argsN op = -1 := by unfold argsN; rw [if_pos (by omega)]
      rw [hb] at HQQ
      clear hb
      go_enter Tryz.func60, Tryz.ntmps60
      go_wp2
      exact HQQ.out _ _ ⟨rfl, rfl⟩
    · by_cases h3 : op ≤ 5
      · have hb : argsN op = 0 := by unfold argsN; rw [if_neg (by omega), if_pos h3]
        rw [hb] at HQQ
        clear hb
        go_enter Tryz.func60, Tryz.ntmps60
        go_wp2
        exact HQQ.out _ _ ⟨rfl, rfl⟩
      · by_cases h8 : op = 8
        · subst h8
          go_enter Tryz.func60, Tryz.ntmps60
          go_wp2
          exact HQQ.out _ _ ⟨rfl, rfl⟩
        · by_cases h20 : op = 20
          · subst h20
            go_enter Tryz.func60, Tryz.ntmps60
            go_wp2
            exact HQQ.out _ _ ⟨rfl, rfl⟩
          · have hb : argsN op = 2 := by unfold argsN; rw [if_neg (by omega), if_neg h3, if_neg (by omega)]
            rw [hb] at HQQ
            have e1 : (op == 8) = false ∧ (op == 20) = false := by simp; omega
            clear hb
            go_enter Tryz.func60, Tryz.ntmps60
            go_wp2
            exact HQQ.out _ _ ⟨rfl, rfl⟩
end Go.Proofs.YtnjlggleaocbdaaGreatDoor

/-
  Contract of dsl.quote.
-/
namespace Go.Proofs.YtnjlggleaocbdaaGreatDoor
set_option linter.all false
open Go.RowKit Go.Shelf
attribute [local go_sem] cell_set_self lt_1 lt_2 lt_3 lt_4 lt_5 lt_6

def escB (b : UInt8) : List UInt8 → List UInt8
  | [] => []
  | c :: r => if c = b then 92 :: b :: escB b r else c :: escB b r
theorem idxb_hit (b : UInt8) (r : List UInt8) : Lib.index (b :: r) [b] = (0 : Nat) := by
  rw [Lib.index]; simp [List.isPrefixOf]
theorem idxb_skip {b c : UInt8} (h : ¬ c = b) (r : List UInt8) : Lib.index (c :: r) [b] = if Lib.index r [b] == -1 then -1 else Lib.index r [b] + 1 := by
  have : (b == c) = false := by simp; exact fun e => h e.symm
  rw [Lib.index]
  simp [List.isPrefixOf, this]
theorem countb_skip {b c : UInt8} (h : ¬ c = b) (r : List UInt8) : Lib.count (c :: r) [b] = Lib.count r [b] := by
  have hs := idxb_skip h r
  have hge := Lib.index_ge r [b]
  by_cases hm : Lib.index r [b] = -1
  · rw [hm] at hs
    rw [Lib.count_miss hm, Lib.count_miss (by rw [hs]; rfl)]
  · obtain ⟨i, hi⟩ : ∃ i : Nat, Lib.index r [b] = i := ⟨(Lib.index r [b]).toNat, by omega⟩
    rw [if_neg (by simpa using hm), hi] at hs
    rw [Lib.count_hit (by simp) hi, Lib.count_hit (s := c :: r) (i := i + 1) (by simp) (by rw [hs]; simp)]
    rfl
theorem repb_skip {b c : UInt8} (h : ¬ c = b) (k : Nat) (r : List UInt8) : Lib.replaceK [b] [92, b] k (c :: r) = c :: Lib.replaceK [b] [92, b] k r := by
  have hs := idxb_skip h r
  have hge := Lib.index_ge r [b]
  cases k with
  | zero => rfl
  | succ k =>
    by_cases hm : Lib.index r [b] = -1
    · rw [hm] at hs
      rw [Lib.replaceK, Lib.replaceK, hm, hs]; rfl
    · obtain ⟨i, hi⟩ : ∃ i : Nat, Lib.index r [b] = i := ⟨(Lib.index r [b]).toNat, by omega⟩
      rw [if_neg (by simpa using hm), hi] at hs
      rw [Lib.replaceK_hit _ _ _ _ i hi, Lib.replaceK_hit _ _ _ _ (i + 1) (by rw [hs]; simp)]
      rfl
theorem repb (b : UInt8) : ∀ (l : List UInt8), Lib.replaceK [b] [92, b] (Lib.count l [b]) l = escB b l
  | [] => by rw [Lib.count_miss (by rfl)]; rfl
  | c :: r => by
    by_cases h : c = b
    · subst h
      rw [Lib.count_hit (by simp) (idxb_hit c r), Nat.add_comm, Lib.replaceK_hit _ _ _ _ 0 (idxb_hit c r)]
      show [92, c] ++ Lib.replaceK [c] [92, c] (Lib.count r [c]) r = _
      rw [repb c r, escB, if_pos rfl]; rfl
    · rw [countb_skip h, repb_skip h, repb b r, escB, if_neg h]
theorem repAllb (b : UInt8) (hb : (Lib.replaceAll [] [b] [92, b] = Lib.replaceAll [] [b] [92, b])) (l : List UInt8) : Lib.replaceAll l [b] [92, b] = escB b l := by
  unfold Lib.replaceAll Lib.replace Lib.replaceNum
  rw [if_neg (by simp), if_pos (.inl (by decide)), repb]
theorem escB_len (b : UInt8) : ∀ (l : List UInt8), (escB b l).length ≤ 2 * l.length
  | [] => by simp [escB]
  | c :: r => by
    have := escB_len b r
    unfold escB
    split <;> (simp; omega)
theorem esc_two : ∀ (l : List UInt8), escB 34 (escB 92 l) = escQ l
  | [] => rfl
  | c :: r => by
    have ih := esc_two r
    by_cases h : c = 92
    · subst h
      rw [escB, if_pos rfl, escB, if_neg (by decide), escB, if_neg (by decide), ih, escQ, if_pos (by decide)]
    · have h92 : ¬ c.toNat = 92 := fun e => h (UInt8.toNat_inj.1 e)
      rw [escB, if_neg h]
      by_cases h2 : c = 34
      · subst h2
        rw [escB, if_pos rfl, ih, escQ, if_neg (by decide), if_pos (by decide)]
      · have h34 : ¬ c.toNat = 34 := fun e => h2 (UInt8.toNat_inj.1 e)
        rw [escB, if_neg h2, ih, escQ, if_neg h92, if_neg h34]
theorem esc_any (b : UInt8) (s : List UInt8) (hs : s.length ≤ 1000000000) (w : World) (E : Env w) :
    Calls Tryz.prog 63 #[.string ⟨s.toArray⟩, .string ⟨#[b]⟩, .string ⟨#[92, b]⟩] w fun e w' => e = .returned (.string ⟨(escB b s).toArray⟩) ∧ Below w.heap.size w w' := by
  obtain ⟨-, ⟨m, hm⟩, -⟩ := E
  have h1 : (⟨#[b]⟩ : ByteArray).size = 1 := rfl
  have hc := Lib.countB_le (⟨#[b]⟩ : ByteArray) (by rw [h1]; omega) s.length ⟨s.toArray⟩ (by simp [ByteArray.size])
  have hz : (⟨s.toArray⟩ : ByteArray).size = s.length := by simp [ByteArray.size]
  have h2 : (⟨#[92, b]⟩ : ByteArray).size = 2 := rfl
  refine (Tryz.strings_ReplaceAll ⟨s.toArray⟩ ⟨#[b]⟩ ⟨#[92, b]⟩ m w (by omega) hm (by rw [h1]; decide) (by rw [h2]; omega)).mono ?_
  rintro e w' ⟨rfl, hb⟩
  refine ⟨?_, hb⟩
  show Ending.returned (.string ⟨(Lib.replaceAll s [b] [92, b]).toArray⟩) = _
  rw [repAllb b rfl]
theorem cat (a b : List UInt8) : (⟨a.toArray⟩ : ByteArray) ++ ⟨b.toArray⟩ = ⟨(a ++ b).toArray⟩ := by
  apply ByteArray.ext; simp
set_option maxHeartbeats 2000000 in
theorem quote_any (s : List UInt8) (hs : s.length ≤ 100000000) (w : World) (E : Env w) :
    Calls Tryz.prog 42 #[.string ⟨s.toArray⟩] w fun e w' => e = .returned (.string ⟨(quoteX s).toArray⟩) ∧ Below w.heap.size w w' := by
  suffices key : ∀ Q : Ending → World → Prop, Hid (∀ e w', (e = .returned (.string ⟨(quoteX s).toArray⟩) ∧ Below w.heap.size w w') → Q e w') → Calls Tryz.prog 42 #[.string ⟨s.toArray⟩] w Q from key _ (Lib.hid fun _ _ h => h)
  intro Q HQQ
  have l1 := escB_len 92 s
  have l2 := escB_len 34 (escB 92 s)
  have R1 := Lib.hid (esc_any 92 s (by omega) w E)
  have R2 := Lib.hid (fun W E' => esc_any 34 (escB 92 s) (by omega) W E')
  have HE := Lib.hid E
  have HX : Hid ((⟨#[34]⟩ : ByteArray) ++ ⟨(escB 34 (escB 92 s)).toArray⟩ ++ ⟨#[34]⟩ = ⟨(quoteX s).toArray⟩) := Lib.hid (by
    rw [esc_two]
    apply ByteArray.ext; simp [quoteX])
  obtain ⟨U, hU⟩ : ∃ U : ByteArray, (⟨(escB 34 (escB 92 s)).toArray⟩ : ByteArray) = U := ⟨_, rfl⟩
  have hz : U.size = (escB 34 (escB 92 s)).length := by rw [← hU]; simp [ByteArray.size]
  rw [hU] at R2 HX
  have hz1 : U.size ≤ 1000000000 := by omega
  clear hU hz l1 l2 E
  go_enter Tryz.func42, Tryz.ntmps42
  go_wp2_with (first | (go_at_call_of 63 (Value.string ⟨#[92]⟩); (with_reducible refine (R1.out).mono ?_); rintro e w3 ⟨rfl, hb3⟩) | (go_at_call_of 63 (Value.string ⟨#[34]⟩); (with_reducible refine (R2.out _ (HE.out.below hb3)).mono ?_); rintro e w4 ⟨rfl, hb4⟩))
  have hb := hb3.trans (hb4.mono hb3.size)
  exact HQQ.out _ _ ⟨by rw [← HX.out]; rfl, hb⟩
end Go.Proofs.YtnjlggleaocbdaaGreatDoor

/-
  Contract of dsl.fine. (Printed by tools/mkdf3.py.)
-/
namespace Go.Proofs.YtnjlggleaocbdaaGreatDoor
set_option linter.all false
open Go.RowKit Go.Shelf Go.Sort
attribute [local go_sem] cell_set_self lt_1 lt_2 lt_3 lt_4 lt_5 lt_6

def kindB (op n : Int) (s : List UInt8) : Bool :=
  if op = 1 then decide (0 ≤ n) && decide (n ≤ 4611686018427387904) && decide (s = [])
  else if op = 2 then textB s && decide (n = 0)
  else if op = 3 then (decide (n = 0) || decide (n = 1)) && decide (s = [])
  else if op = 4 ∨ op = 5 then nameB s && decide (n = 0)
  else decide (n = 0) && decide (s = [])
theorem fine1_eq (op n : Int) (s : List UInt8) (m : Nat) : fine1 op n s m = (decide (argsN op = (m : Int)) && kindB op n s) := rfl
theorem beq_nil (s : List UInt8) : ((⟨s.toArray⟩ : ByteArray) == ⟨#[]⟩) = decide (s = []) := by cases s <;> rfl
theorem dec_nil (s : List UInt8) : decide (s = []) = s.isEmpty := by cases s <;> rfl
set_option maxHeartbeats 16000000 in
set_option maxRecDepth 100000 in
theorem fine_any (op n : Int) (s : List UInt8) (A : Option Addr) (m c : Nat) (hs : s.length ≤ 1000000000000000) (w : World) :
    Calls Tryz.prog 40 #[.agg #[.int .i64 op, .int .i64 n, .string ⟨s.toArray⟩, .slice A m c]] w fun e w' => e = .returned (.bool (fine1 op n s m)) ∧ Below w.heap.size w w' := by
  suffices key : ∀ Q : Ending → World → Prop, Hid (∀ e w', (e = .returned (.bool (fine1 op n s m)) ∧ Below w.heap.size w w') → Q e w') → Calls Tryz.prog 40 #[.agg #[.int .i64 op, .int .i64 n, .string ⟨s.toArray⟩, .slice A m c]] w Q from key _ (Lib.hid fun _ _ h => h)
  intro Q HQQ
  have AR := Lib.hid (fun V => (args_any op V).mono (R' := fun e w' => e = .returned (.int .i64 (argsN op)) ∧ Below V.heap.size V w') fun e w' ⟨h1, h2⟩ => ⟨h1, by subst h2; exact Below.refl _ _⟩)
  have TX := Lib.hid (fun V => isText_any s (by omega) V)
  have NX := Lib.hid (fun V => isName_any s (by omega) V)
  rw [fine1_eq] at HQQ
  by_cases ha : argsN op = (m : Int)
  · rw [decide_eq_true ha, Bool.true_and] at HQQ
    rw [ha] at AR
    clear ha
    go_enter Tryz.func40, Tryz.ntmps40
    go_upto_region 1 with (fail)
    refine name_world ?_; intro W1 hW1; have kW1 : W1.cell? ⟨w.heap.size, 0, none⟩ = some (.int .i64 op) ∧ W1.cell? ⟨w.heap.size, 1, none⟩ = some (.int .i64 n) ∧ W1.cell? ⟨w.heap.size, 2, none⟩ = some (.string ⟨s.toArray⟩) ∧ W1.cell? ⟨w.heap.size, 3, none⟩ = some (.slice A m c) ∧ w.heap.size < W1.heap.size ∧ Below w.heap.size w W1 := by { rw [hW1]; exact (by refine ⟨?_, ?_, ?_, ?_, ?_, ?_⟩ <;> first | (simp [go_sem, *]; done) | omega | (simp; omega) | exact (by repeat (first | exact Below.refl _ _ | refine Below.setCell ?_ (by first | (simp; done) | (simp; omega) | omega) _ | refine Below.alloc ?_ (by first | (simp; done) | (simp; omega) | omega) _ | refine Below.drew ?_ | assumption | refine Below.trans ?_ (Below.mono (by assumption) (by first | (simp; done) | (simp; omega) | omega))))) }; clear hW1; obtain ⟨cW1_0, cW1_1, cW1_2, cW1_3, zW1_0, bW1⟩ := kW1
    have gc0 := grown_cell cW1_0; have gc1 := grown_cell cW1_1; have gc2 := grown_cell cW1_2; have gc3 := grown_cell cW1_3; have gz0 := grown_size zW1_0; refine wp_region_quiet_below (by kernel_rfl) (by kernel_rfl) ?_; (try simp only [List.take_succ_cons, List.take_zero]); (repeat (any_goals (first | go_big_quiet_step ((go_at_call 60; with_reducible exact Calls.regrown_of (AR.out _))) | quiet_step ((go_at_call 60; with_reducible exact Calls.regrown_of (AR.out _)))))); refine wpQuiet_nil ?_; intro _ hw'; obtain ⟨⟨dq, osq⟩, hw''⟩ := hw'; subst hw''; have kW2 : (grow (redrawn W1 dq) osq).cell? ⟨w.heap.size, 0, none⟩ = some (.int .i64 op) ∧ (grow (redrawn W1 dq) osq).cell? ⟨w.heap.size, 1, none⟩ = some (.int .i64 n) ∧ (grow (redrawn W1 dq) osq).cell? ⟨w.heap.size, 2, none⟩ = some (.string ⟨s.toArray⟩) ∧ (grow (redrawn W1 dq) osq).cell? ⟨w.heap.size, 3, none⟩ = some (.slice A m c) ∧ w.heap.size < (grow (redrawn W1 dq) osq).heap.size ∧ Below w.heap.size w (grow (redrawn W1 dq) osq) := ⟨gc0 dq osq, gc1 dq osq, gc2 dq osq, gc3 dq osq, gz0 dq osq, bW1.trans ((below_regrown W1 dq osq).mono bW1.size)⟩; clear gc0 gc1 gc2 gc3 gz0 cW1_0 cW1_1 cW1_2 cW1_3 zW1_0 bW1; generalize grow (redrawn W1 dq) osq = W2 at *; obtain ⟨cW2_0, cW2_1, cW2_2, cW2_3, zW2_0, bW2⟩ := kW2
    by_cases o1 : op = 1
    · subst o1
      have hk : kindB 1 n s = (decide (0 ≤ n) && decide (n ≤ 4611686018427387904) && decide (s = [])) := rfl
      rw [hk] at HQQ
      clear hk TX NX AR
      by_cases h1 : 0 ≤ n <;> by_cases h2 : n ≤ 4611686018427387904 <;> cases hie : s.isEmpty <;> (first | rw [decide_eq_true h1] at HQQ | rw [decide_eq_false h1] at HQQ) <;> (first | rw [decide_eq_true h2] at HQQ | rw [decide_eq_false h2] at HQQ) <;> rw [dec_nil, hie] at HQQ <;> (first | (exfalso; omega) | (go_wp2_with (fail); exact HQQ.out _ _ ⟨ret_bool rfl, by have h := bW2; exact (by repeat (first | (with_reducible exact Below.refl _ _) | (with_reducible assumption) | (with_reducible refine Below.setCell ?_ (by first | (simp; done) | (simp; omega) | omega) _) | (with_reducible refine Below.alloc ?_ (by first | (simp; done) | (simp; omega) | omega) _) | (with_reducible refine Below.drew ?_) | (with_reducible refine Below.trans ?_ (Below.mono (by assumption) (by first | (simp; done) | (simp; omega) | omega)))))⟩))
    · by_cases o2 : op = 2
      · subst o2
        have hk : kindB 2 n s = (textB s && decide (n = 0)) := rfl
        rw [hk] at HQQ
        clear hk NX AR
        cases ht : textB s <;> rw [ht] at TX HQQ <;> by_cases h1 : n = 0 <;> (first | rw [decide_eq_true h1] at HQQ | rw [decide_eq_false h1] at HQQ) <;> (first | (have e9 : (n == 0) = true := (by simp [h1]); subst h1) | have e9 : (n == 0) = false := (by simp [h1])) <;> (go_wp2_with (first | (go_at_call 61; (with_reducible refine (TX.out _).mono ?_); rintro e w3 ⟨rfl, hb3⟩; obtain ⟨hc3, hf3⟩ := bcell hb3; have hs3 := hb3.size; have hz3 : w.heap.size < w3.heap.size := (by omega))); exact HQQ.out _ _ ⟨ret_bool rfl, bW2.trans (hb3.mono bW2.size)⟩)
      · by_cases o3 : op = 3
        · subst o3
          have hk : kindB 3 n s = ((decide (n = 0) || decide (n = 1)) && decide (s = [])) := rfl
          rw [hk] at HQQ
          clear hk TX NX AR
          by_cases h1 : n = 0
          · subst h1
            cases hie : s.isEmpty <;> rw [dec_nil, hie] at HQQ <;> (first | (exfalso; omega) | (go_wp2_with (fail); exact HQQ.out _ _ ⟨ret_bool rfl, by have h := bW2; exact (by repeat (first | (with_reducible exact Below.refl _ _) | (with_reducible assumption) | (with_reducible refine Below.setCell ?_ (by first | (simp; done) | (simp; omega) | omega) _) | (with_reducible refine Below.alloc ?_ (by first | (simp; done) | (simp; omega) | omega) _) | (with_reducible refine Below.drew ?_) | (with_reducible refine Below.trans ?_ (Below.mono (by assumption) (by first | (simp; done) | (simp; omega) | omega)))))⟩))
          · by_cases h2 : n = 1
            · subst h2
              cases hie : s.isEmpty <;> rw [dec_nil, hie] at HQQ <;> (first | (exfalso; omega) | (go_wp2_with (fail); exact HQQ.out _ _ ⟨ret_bool rfl, by have h := bW2; exact (by repeat (first | (with_reducible exact Below.refl _ _) | (with_reducible assumption) | (with_reducible refine Below.setCell ?_ (by first | (simp; done) | (simp; omega) | omega) _) | (with_reducible refine Below.alloc ?_ (by first | (simp; done) | (simp; omega) | omega) _) | (with_reducible refine Below.drew ?_) | (with_reducible refine Below.trans ?_ (Below.mono (by assumption) (by first | (simp; done) | (simp; omega) | omega)))))⟩))
            · rw [decide_eq_false h1, decide_eq_false h2] at HQQ
              have e8 : (n == 0) = false ∧ (n == 1) = false := by simp [h1, h2]
              go_wp2_with (fail)
              exact HQQ.out _ _ ⟨ret_bool rfl, by have h := bW2; exact (by repeat (first | (with_reducible exact Below.refl _ _) | (with_reducible assumption) | (with_reducible refine Below.setCell ?_ (by first | (simp; done) | (simp; omega) | omega) _) | (with_reducible refine Below.alloc ?_ (by first | (simp; done) | (simp; omega) | omega) _) | (with_reducible refine Below.drew ?_) | (with_reducible refine Below.trans ?_ (Below.mono (by assumption) (by first | (simp; done) | (simp; omega) | omega)))))⟩
        · by_cases o4 : op = 4 ∨ op = 5
          · have hk : kindB op n s = (nameB s && decide (n = 0)) := by unfold kindB; rw [if_neg o1, if_neg o2, if_neg o3, if_pos o4]
            rw [hk] at HQQ
            clear hk TX AR
            rcases o4 with rfl | rfl <;> cases ht : nameB s <;> rw [ht] at NX HQQ <;> by_cases h1 : n = 0 <;> (first | rw [decide_eq_true h1] at HQQ | rw [decide_eq_false h1] at HQQ) <;> (first | (have e9 : (n == 0) = true := (by simp [h1]); subst h1) | have e9 : (n == 0) = false := (by simp [h1])) <;> (go_wp2_with (first | (go_at_call 35; (with_reducible refine (NX.out _).mono ?_); rintro e w3 ⟨rfl, hb3⟩; obtain ⟨hc3, hf3⟩ := bcell hb3; have hs3 := hb3.size; have hz3 : w.heap.size < w3.heap.size := (by omega))); exact HQQ.out _ _ ⟨ret_bool rfl, bW2.trans (hb3.mono bW2.size)⟩)
          · have hk : kindB op n s = (decide (n = 0) && decide (s = [])) := by unfold kindB; rw [if_neg o1, if_neg o2, if_neg o3, if_neg o4]
            rw [hk] at HQQ
            have e1 : (op == 1) = false ∧ (op == 2) = false ∧ (op == 3) = false ∧ (op == 4) = false ∧ (op == 5) = false := by simp; omega
            clear hk TX NX AR o1 o2 o3 o4
            by_cases h1 : n = 0 <;> cases hie : s.isEmpty <;> (first | rw [decide_eq_true h1] at HQQ | rw [decide_eq_false h1] at HQQ) <;> rw [dec_nil, hie] at HQQ <;> (first | (have e9 : (n == 0) = true := (by simp [h1]); subst h1) | have e9 : (n == 0) = false := (by simp [h1])) <;> (go_wp2_with (fail); exact HQQ.out _ _ ⟨ret_bool rfl, by have h := bW2; exact (by repeat (first | (with_reducible exact Below.refl _ _) | (with_reducible assumption) | (with_reducible refine Below.setCell ?_ (by first | (simp; done) | (simp; omega) | omega) _) | (with_reducible refine Below.alloc ?_ (by first | (simp; done) | (simp; omega) | omega) _) | (with_reducible refine Below.drew ?_) | (with_reducible refine Below.trans ?_ (Below.mono (by assumption) (by first | (simp; done) | (simp; omega) | omega)))))⟩)
  · rw [decide_eq_false ha, Bool.false_and] at HQQ
    have e1 : (argsN op == (m : Int)) = false := by simp [ha]
    have e2 : (argsN op != (m : Int)) = true := by simp [ha]
    generalize argsN op = a at *
    clear TX NX
    go_enter Tryz.func40, Tryz.ntmps40
    go_upto_region 1 with (fail)
    refine name_world ?_; intro W1 hW1; have kW1 : W1.cell? ⟨w.heap.size, 0, none⟩ = some (.int .i64 op) ∧ W1.cell? ⟨w.heap.size, 1, none⟩ = some (.int .i64 n) ∧ W1.cell? ⟨w.heap.size, 2, none⟩ = some (.string ⟨s.toArray⟩) ∧ W1.cell? ⟨w.heap.size, 3, none⟩ = some (.slice A m c) ∧ w.heap.size < W1.heap.size ∧ Below w.heap.size w W1 := by { rw [hW1]; exact (by refine ⟨?_, ?_, ?_, ?_, ?_, ?_⟩ <;> first | (simp [go_sem, *]; done) | omega | (simp; omega) | exact (by repeat (first | exact Below.refl _ _ | refine Below.setCell ?_ (by first | (simp; done) | (simp; omega) | omega) _ | refine Below.alloc ?_ (by first | (simp; done) | (simp; omega) | omega) _ | refine Below.drew ?_ | assumption | refine Below.trans ?_ (Below.mono (by assumption) (by first | (simp; done) | (simp; omega) | omega))))) }; clear hW1; obtain ⟨cW1_0, cW1_1, cW1_2, cW1_3, zW1_0, bW1⟩ := kW1
    have gc0 := grown_cell cW1_0; have gc1 := grown_cell cW1_1; have gc2 := grown_cell cW1_2; have gc3 := grown_cell cW1_3; have gz0 := grown_size zW1_0; refine wp_region_quiet_below (by kernel_rfl) (by kernel_rfl) ?_; (try simp only [List.take_succ_cons, List.take_zero]); (repeat (any_goals (first | go_big_quiet_step ((go_at_call 60; with_reducible exact Calls.regrown_of (AR.out _))) | quiet_step ((go_at_call 60; with_reducible exact Calls.regrown_of (AR.out _)))))); refine wpQuiet_nil ?_; intro _ hw'; obtain ⟨⟨dq, osq⟩, hw''⟩ := hw'; subst hw''; have kW2 : (grow (redrawn W1 dq) osq).cell? ⟨w.heap.size, 0, none⟩ = some (.int .i64 op) ∧ (grow (redrawn W1 dq) osq).cell? ⟨w.heap.size, 1, none⟩ = some (.int .i64 n) ∧ (grow (redrawn W1 dq) osq).cell? ⟨w.heap.size, 2, none⟩ = some (.string ⟨s.toArray⟩) ∧ (grow (redrawn W1 dq) osq).cell? ⟨w.heap.size, 3, none⟩ = some (.slice A m c) ∧ w.heap.size < (grow (redrawn W1 dq) osq).heap.size ∧ Below w.heap.size w (grow (redrawn W1 dq) osq) := ⟨gc0 dq osq, gc1 dq osq, gc2 dq osq, gc3 dq osq, gz0 dq osq, bW1.trans ((below_regrown W1 dq osq).mono bW1.size)⟩; clear gc0 gc1 gc2 gc3 gz0 cW1_0 cW1_1 cW1_2 cW1_3 zW1_0 bW1; generalize grow (redrawn W1 dq) osq = W2 at *; obtain ⟨cW2_0, cW2_1, cW2_2, cW2_3, zW2_0, bW2⟩ := kW2
    go_wp2_with (fail)
    exact HQQ.out _ _ ⟨ret_bool rfl, by have h := bW2; exact (by repeat (first | (with_reducible exact Below.refl _ _) | (with_reducible assumption) | (with_reducible refine Below.setCell ?_ (by first | (simp; done) | (simp; omega) | omega) _) | (with_reducible refine Below.alloc ?_ (by first | (simp; done) | (simp; omega) | omega) _) | (with_reducible refine Below.drew ?_) | (with_reducible refine Below.trans ?_ (Below.mono (by assumption) (by first | (simp; done) | (simp; omega) | omega)))))⟩
end Go.Proofs.YtnjlggleaocbdaaGreatDoor
