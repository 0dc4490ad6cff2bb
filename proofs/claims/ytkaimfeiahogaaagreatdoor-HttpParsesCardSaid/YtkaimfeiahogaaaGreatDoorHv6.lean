/-
  Contract of http.ParseResponse: it answers what 'respF' says of the bytes.
-/
import Derived.Test.YtkaimfeiahogaaaGreatDoorHv5
import Derived.Deep.CutRange
import Derived.Test.YtkaimfeiahogaaaGreatDoorHs2
namespace Go.Proofs.YtkaimfeiahogaaaGreatDoor
set_option linter.all false
open Go.RowKit Go.Shelf Go.Joins
attribute [local go_sem] cell_set_self lt_1 lt_2 lt_3 lt_4 lt_5 lt_6 drew_cell drew_frozen drew_size

/-- What http.ParseResponse answers. -/
def RespO (base : Nat) (W' : World) (l : List UInt8) (e : Ending) : Prop := match respF l with
  | .wait => e = .returned (.tuple #[rpB 0 none 0 0 false, .int .i64 0, .bool false, .int .i64 0])
  | .bad => e = .returned (.tuple #[rpB 0 none 0 0 false, .int .i64 0, .bool false, .int .i64 10])
  | .got v r => ∃ A' c', e = .returned (.tuple #[rpB (v.1 : Int) A' v.2.2 c' v.2.1, .int .i64 ((l.length - r.length + v.2.2 : Nat) : Int), .bool true, .int .i64 0]) ∧ BsN base W' A' c' (r.take v.2.2)
theorem stage_alloc {α : Type} {o : Tk α} {b0 pb rb : Nat} {z : Int} {cl : Bool} {w X : World} (S : StO X pb o) (R : RSt b0 rb X z cl) (B : Below b0 w X) (ob : Obj) : StO (X.alloc ob) pb o ∧ RSt b0 rb (X.alloc ob) z cl ∧ Below b0 w (X.alloc ob) := by
  have al : Below X.heap.size X (X.alloc ob) := (Below.refl _ _).alloc (Nat.le_refl _) _
  exact ⟨S.below al, R.below al, B.alloc (Nat.le_of_lt R.l0) _⟩
theorem stage_below {α : Type} {o : Tk α} {b0 pb rb : Nat} {z : Int} {cl : Bool} {w X Y : World} (S : StO X pb o) (R : RSt b0 rb X z cl) (B : Below b0 w X) (al : Below X.heap.size X Y) : StO Y pb o ∧ RSt b0 rb Y z cl ∧ Below b0 w Y :=
  ⟨S.below al, R.below al, B.trans (al.mono (Nat.le_of_lt R.l0))⟩
theorem o8_short {n : Nat} {o6 : Tk Nat} (h : Short n o6) : Short n (o8F (o7F o6)) := by
  have h7 : Short n (o7F o6) := fun a r e => by
    unfold o7F at e
    obtain ⟨m1, q1, h1, h2⟩ := bind_got e
    have h3 := h m1 q1 h1
    split at h2
    · obtain ⟨_, q2, h4, h5⟩ := bind_got h2
      injection h5 with _ h5
      rw [← h5]
      exact Nat.le_trans (takeT_len h4) h3
    · injection h2 with _ h5
      rw [← h5]; exact h3
  exact h7.take [13, 10]
theorem o8_val {o6 : Tk Nat} {m k : Nat} {q r : List UInt8} (h6 : o6 = .got k r) (h : o8F (o7F o6) = .got m q) : m = k := by
  subst h6
  unfold o8F at h
  obtain ⟨m1, q1, h1, h2⟩ := bind_got h
  obtain ⟨_, _, _, h3⟩ := bind_got h2
  injection h3 with h3 _
  unfold o7F at h1
  have h4 : (if r.head? = some 99 then (takeT clo r).bind fun _ q => Tk.got k q else Tk.got k r) = .got m1 q1 := h1
  split at h4
  · obtain ⟨_, _, _, h5⟩ := bind_got h4
    injection h5 with h5 _
    omega
  · injection h4 with h5 _
    omega
theorem head_conn (r : List UInt8) (k : Nat) (hk : min 1 r.length = k) (h : 0 < k) : decide (tConn.take k = r.take k) = decide (r.head? = some 99) := by
  cases r with
  | nil => simp at hk; omega
  | cons b r =>
    obtain rfl : k = 1 := by simp at hk; omega
    simp [tConn]
    rw [eq_comm]
theorem head_take (r : List UInt8) : decide (r.take 1 = [48]) = decide (r.head? = some 48) := by
  cases r with
  | nil => rfl
  | cons b r => simp
theorem takeT_drop {s l r : List UInt8} {u : Unit} (h : takeT s l = .got u r) : s.length ≤ l.length ∧ r = l.drop s.length := by
  unfold takeT at h
  split at h
  · split at h <;> cases h
  · split at h
    · injection h with _ h; exact ⟨by omega, h.symm⟩
    · cases h
theorem Short.two (l : List UInt8) : Short l.length (o2F l) := fun a r e => by
  unfold o2F at e
  obtain ⟨u, q, h1, h2⟩ := bind_got e
  split at h2
  · cases h2
  · injection h2 with _ h2; rw [← h2]; exact takeT_len h1
theorem Short.mono {α : Type} {n m : Nat} {o : Tk α} (h : Short n o) (hm : n ≤ m) : Short m o := fun a r e => Nat.le_trans (h a r e) hm
set_option maxHeartbeats 32000000 in
set_option maxRecDepth 100000 in
theorem presp_any (A : Option Addr) (n c : Nat) (l : List UInt8) (hl : l.length = n) (hn : n ≤ 1000000000) (w : World) (E : EnvS w) (T : Bs w A c l) :
    Calls Tryz.prog 29 #[.slice A n c] w fun e w' => RespO w.heap.size w' l e ∧ Below w.heap.size w w' := by
  have HT := Lib.hid T
  have HE := Lib.hid E
  have HL := Lib.hid hl
  have HAb : Hid (0 < n → ∀ a, A = some a → a.block < w.heap.size) := Lib.hid (fun hp a ha => by
    obtain ⟨b, off, e, hb, _⟩ := T.2.2 0 (l[0]'(by omega)) (List.getElem?_eq_getElem _)
    rw [ha] at e; injection e with e; rw [e]; exact hb)
  clear T E hl
  go_enter Tryz.func29, Tryz.ntmps29
  go_upto_region 3 with (fail)
  refine name_world ?_
  intro Wa hWa
  have KA : Hid (Pc Wa (w.heap.size + 1) A n c false false) := Lib.hid (by
    rw [hWa]
    exact ⟨by simp [go_sem], by simp [go_sem], by simp [go_sem], by simp [go_sem], by simp [go_sem], by simp [go_sem], by simp⟩)
  have RA : Hid (RSt w.heap.size (w.heap.size + 1 + 1) Wa 0 false) := Lib.hid (by
    rw [hWa]
    exact ⟨by simp [go_sem], by simp [go_sem], by simp [go_sem], by simp [go_sem], by simp [go_sem], by simp [go_sem], by simp [go_sem], by simp [go_sem], by simp [go_sem], by simp [go_sem], by simp [go_sem], by simp [go_sem], by simp, by simp; omega⟩)
  have bWa : Below w.heap.size w Wa := by rw [hWa]; exact (by repeat (first | exact Below.refl _ _ | refine Below.setCell ?_ (by first | (simp; done) | (simp; omega) | omega) _ | refine Below.alloc ?_ (by first | (simp; done) | (simp; omega) | omega) _ | refine Below.drew ?_ | assumption | refine Below.trans ?_ (Below.mono (by assumption) (by first | (simp; done) | (simp; omega) | omega))))
  clear hWa
  obtain ⟨b0, hb0⟩ : ∃ b0, w.heap.size = b0 := ⟨_, rfl⟩
  rw [hb0] at KA RA HAb bWa ⊢
  obtain ⟨pb, hpb⟩ : ∃ pb, b0 + 1 = pb := ⟨_, rfl⟩
  rw [hpb] at KA RA ⊢
  obtain ⟨rb, hrb⟩ : ∃ rb, pb + 1 = rb := ⟨_, rfl⟩
  rw [hrb] at RA ⊢
  have N1 : b0 ≠ pb := by omega
  have N2 : rb ≠ pb := by omega
  have N3 : b0 ≠ rb := by omega
  have N4 : b0 ≤ pb := by omega
  have N5 : b0 ≤ rb := by omega
  have HB0 := Lib.hid hb0
  clear hb0 hpb hrb
  have TB : Hid (∀ W, Below b0 w W → Bs W A c l) := Lib.hid (fun W hb => HT.out.below (HB0.out ▸ hb))
  have EB : Hid (∀ W, Below b0 w W → EnvS W) := Lib.hid (fun W hb => HE.out.below (HB0.out ▸ hb))
  have TK1 : Hid (Calls Tryz.prog 47 #[.pointer (some ⟨pb, 0, none⟩), .string ⟨#[72, 84, 84, 80, 47, 49, 46, 49, 32]⟩] Wa fun ex W' => ex = .returned (.tuple #[]) ∧ TakeO W' pb A n c tStart l ∧ Wa.grownBy W' (some pb)) := Lib.hid (take_on tStart l pb A n c HL.out Wa KA.out (TB.out Wa bWa))
  have hcb := fun (W : World) (C : Array Value) (n c g : Nat) (hg : g = W.heap.size) => run_convert_bytes_const_at W 22 5 C n c g hg Tryz.underlying22 Tryz.underlying5
  have sWa : b0 ≤ Wa.heap.size := Nat.le_of_lt RA.out.l0
  go_upto_region 4 with (first | (go_at_call 47; (with_reducible refine (TK1.out).mono ?_); rintro e w3 ⟨rfl, hto, hg3⟩))
  have HTO := Lib.hid hto
  have R3 := Lib.hid (RA.out.grown hg3 N1 N2)
  have bW3 : Below b0 w w3 := Below.grown bWa hg3 sWa (fun k e => by injection e with e; omega)
  have s3 : b0 ≤ w3.heap.size := Nat.le_of_lt R3.out.l0
  have NB : Hid (0 < n → ∀ a, A = some a → a.block ≠ pb) := Lib.hid (fun h a e => by have := HAb.out h a e; omega)
  clear hto hg3 TK1 KA RA sWa HAb bWa
  go_cut [] from 14 to 29 (fun wx => StO wx pb (o2F l) ∧ RSt b0 rb wx 0 false ∧ Below b0 w wx)
  case first =>
    have hto := HTO.out
    unfold TakeO at hto
    cases hc : takeT tStart l with
    | wait =>
      rw [hc] at hto
      have K3 := Lib.hid (show Pc w3 pb A n c true false from hto)
      have HO : Hid (o2F l = .wait) := Lib.hid (by unfold o2F; rw [hc]; rfl)
      have hD : decide (l.take 1 = [48]) = false := decide_eq_false (fun e => by
        unfold takeT at hc
        split at hc
        · split at hc
          · rename_i h2
            rw [← h2, List.take_take] at e
            rcases Nat.eq_zero_or_pos l.length with h0 | h0
            · rw [h0] at e; simp at e
            · rw [Nat.min_eq_left (by omega)] at e
              exact absurd e (by decide)
          · cases hc
        · split at hc <;> cases hc)
      have HP := Lib.hid (fun W B d (U : Below b0 w W ∧ Bs W B d [48]) => hasPrefix_any A B n 1 c d l [48] HL.out rfl W (TB.out W U.1) U.2)
      rw [hD] at HP
      obtain ⟨c0, c1, c2, f0, f1, f2, lt⟩ := K3.out
      clear hto hc hD
      go_wp2_with (first | (go_at_call 48; (with_reducible refine (HP.out _ (some ⟨w3.heap.size, 0, none⟩) 1 ⟨bW3.alloc s3 _, bs_new w3 [48] _ _ rfl _⟩).mono ?_); rintro e w4 ⟨rfl, rfl⟩))
      go_meet
      rw [HO.out]
      exact stage_alloc (show StO _ pb (Tk.wait : Tk Unit) from ⟨_, _, _, K3.out.set2 false⟩) (R3.out.grown (grown_set1 _ _ _ _) N1 N2) (Below.setCell bW3 N4 _) _
    | bad =>
      rw [hc] at hto
      have K3 := Lib.hid (show Pc w3 pb A n c false true from hto)
      have HO : Hid (o2F l = .bad) := Lib.hid (by unfold o2F; rw [hc]; rfl)
      obtain ⟨c0, c1, c2, f0, f1, f2, lt⟩ := K3.out
      clear hto hc
      go_wp2
      go_meet
      rw [HO.out]
      exact ⟨⟨_, _, _, K3.out.set2 true⟩, R3.out.grown (grown_set1 _ _ _ _) N1 N2, Below.setCell bW3 N4 _⟩
    | got u r1 =>
      rw [hc] at hto
      obtain ⟨h9, hr1⟩ := takeT_drop hc
      have h9' : 9 ≤ n := by rw [← HL.out]; exact h9
      have K3 : Pc w3 pb (advA A c 9) (n - 9) (c - 9) false false := hto
      have T3 : Bs w3 (advA A c 9) (c - 9) r1 := by rw [hr1]; exact (TB.out w3 bW3).adv 9 h9
      have hn3 : r1.length = n - 9 := by rw [hr1, List.length_drop, HL.out]; rfl
      have ne3 : Hid (∀ a, advA A c 9 = some a → a.block ≠ pb) := Lib.hid (advA_ne (NB.out (by omega)))
      generalize advA A c 9 = A3 at *
      generalize n - 9 = n3 at *
      generalize c - 9 = c3 at *
      have HK3 := Lib.hid K3
      have HT3 := Lib.hid T3
      have HN3 := Lib.hid hn3
      have HP := Lib.hid (fun W B d (U : Below w3.heap.size w3 W ∧ Bs W B d [48]) => hasPrefix_any A3 B n3 1 c3 d r1 [48] HN3.out rfl W (HT3.out.below U.1) U.2)
      rw [head_take] at HP
      obtain ⟨c0, c1, c2, f0, f1, f2, lt⟩ := K3
      by_cases h48 : r1.head? = some 48
      · have HO : Hid (o2F l = .bad) := Lib.hid (by unfold o2F; rw [hc]; show (if r1.head? = some 48 then _ else _) = _; rw [if_pos h48])
        rw [decide_eq_true h48] at HP
        clear hto hc h9 hr1 h9' T3 hn3 h48
        go_wp2_with (first | (go_at_call 48; (with_reducible refine (HP.out _ (some ⟨w3.heap.size, 0, none⟩) 1 ⟨(Below.refl _ _).alloc (Nat.le_refl _) _, bs_new w3 [48] _ _ rfl _⟩).mono ?_); rintro e w4 ⟨rfl, rfl⟩))
        go_meet
        rw [HO.out]
        exact stage_alloc (show StO _ pb (Tk.bad : Tk Unit) from ⟨_, _, _, HK3.out.set2 true⟩) (R3.out.grown (grown_set1 _ _ _ _) N1 N2) (Below.setCell bW3 N4 _) _
      · have HO : Hid (o2F l = .got () r1) := Lib.hid (by unfold o2F; rw [hc]; show (if r1.head? = some 48 then _ else _) = _; rw [if_neg h48])
        rw [decide_eq_false h48] at HP
        clear hto hc h9 hr1 h9' T3 hn3 h48
        go_wp2_with (first | (go_at_call 48; (with_reducible refine (HP.out _ (some ⟨w3.heap.size, 0, none⟩) 1 ⟨(Below.refl _ _).alloc (Nat.le_refl _) _, bs_new w3 [48] _ _ rfl _⟩).mono ?_); rintro e w4 ⟨rfl, rfl⟩))
        go_meet
        rw [HO.out]
        exact stage_alloc (show StO _ pb (Tk.got () r1) from ⟨A3, c3, by rw [HN3.out]; exact HK3.out.set2 false, HT3.out.setOdd HK3.out.c2 (fun x e => by cases e) _, ne3.out⟩) (R3.out.grown (grown_set1 _ _ _ _) N1 N2) (Below.setCell bW3 N4 _) _
  case rest =>
    obtain ⟨S2, R2, B2⟩ := hcut
    have NU1 : Hid (Calls Tryz.prog 49 #[.pointer (some ⟨pb, 0, none⟩), .int .i64 3, .string ⟨#[]⟩] wc fun ex W' => (∃ v : Int, ex = .returned (.int .i64 v) ∧ ∀ v' r', o3F l = .got v' r' → v = (v' : Int)) ∧ StO W' pb (o3F l) ∧ wc.grownBy W' (some pb)) := Lib.hid (number_st (o2F l) 3 [] pb ((Short.two l).mono (by rw [HL.out]; exact hn)) wc (EB.out wc B2) S2)
    have HR2 := Lib.hid R2
    have s2 : b0 ≤ wc.heap.size := Nat.le_of_lt R2.l0
    clear HTO R3 bW3 s3 NB
    obtain ⟨r0, r1, r2, q0, q1, q2, f0, f1, f2, g0, g1, g2, lr, l0⟩ := R2
    go_upto_region 6 with (first | (go_at_call 49; (with_reducible refine (NU1.out).mono ?_); rintro e w5 ⟨⟨v, rfl, hv⟩, hS5, hg5⟩; have HV := Lib.hid hv; have HS5 := Lib.hid hS5; have B5 : Below b0 w w5 := (Below.grown B2 hg5 s2 (fun k e => by injection e with e; omega)); have HR5 := Lib.hid (HR2.out.grown hg5 N1 N2); obtain ⟨r0, r1, r2, q0, q1, q2, f0, f1, f2, g0, g1, g2, lr, l0⟩ := HR5.out; clear hv hS5 hg5))
    refine name_world ?_
    intro Wb hWb
    have HRb : Hid (RSt b0 rb Wb v false) := Lib.hid (by rw [hWb]; exact HR5.out.status N3 v)
    have HSb : Hid (StO Wb pb (o3F l)) := Lib.hid (by rw [hWb]; exact HS5.out.far N2 HR5.out.r0 (fun x e => by cases e) _)
    have Bb : Below b0 w Wb := by rw [hWb]; exact Below.setCell B5 N5 _
    clear hWb B5 HR5 HS5 NU1 HR2 S2 B2 s2 r0 r1 r2 q0 q1 q2 f0 f1 f2 g0 g1 g2 lr l0
    go_cut [42] from 33 to 41 (fun s42 wx => ∃ b : Bool, s42 = .bool b ∧ wx = Wb ∧ (b = true → (o3F l = .bad ∨ ∃ z q, o3F l = .got z q) ∧ v < 100) ∧ (b = false → o3F l ≠ .wait → ¬ v < 100))
    case first =>
      have S := HSb.out
      have r0 := HRb.out.r0
      cases ho : o3F l with
      | wait =>
        rw [ho] at S
        have HO := Lib.hid ho
        obtain ⟨A', n', c', K⟩ := S
        obtain ⟨c0, c1, c2, f0, f1, f2, lt⟩ := K
        clear ho
        go_wp2
        go_meet
        exact ⟨false, rfl, rfl, (fun e => by cases e), fun _ e => absurd HO.out e⟩
      | bad =>
        rw [ho] at S
        have HO := Lib.hid ho
        obtain ⟨A', n', c', K⟩ := S
        obtain ⟨c0, c1, c2, f0, f1, f2, lt⟩ := K
        clear ho
        go_wp2
        go_meet
        exact ⟨decide (v < 100), rfl, rfl, fun e => ⟨.inl HO.out, of_decide_eq_true e⟩, fun e _ => by have := of_decide_eq_false e; omega⟩
      | got z q =>
        rw [ho] at S
        obtain ⟨A', c', K, T', ne'⟩ := S
        have HO := Lib.hid ho
        obtain ⟨n', hn'⟩ : ∃ n', q.length = n' := ⟨_, rfl⟩
        rw [hn'] at K
        obtain ⟨c0, c1, c2, f0, f1, f2, lt⟩ := K
        clear ho hn' T' ne'
        go_wp2
        go_meet
        exact ⟨decide (v < 100), rfl, rfl, fun e => ⟨.inr ⟨z, q, HO.out⟩, of_decide_eq_true e⟩, fun e _ => by have := of_decide_eq_false e; omega⟩
    obtain ⟨b, rfl, rfl, hb1, hb2⟩ := hcut
    have HB1 := Lib.hid hb1
    have HB2 := Lib.hid hb2
    clear hb1 hb2
    go_upto_if 42 with (fail)
    go_cut [] from 43 to 45 (fun wx => StO wx pb (o4F l) ∧ RSt b0 rb wx v false ∧ Below b0 w wx)
    case first =>
      have S := HSb.out
      have hv := HV.out
      cases b with
      | true =>
        obtain ⟨ho, h1⟩ := HB1.out rfl
        have HO : Hid (o4F l = .bad) := Lib.hid (by
          unfold o4F
          rcases ho with ho | ⟨z, q, ho⟩
          · rw [ho]; rfl
          · rw [ho]; show (if z < 100 then _ else _) = _; rw [if_pos (by have := hv z q ho; omega)])
        have HK : Hid (∃ A' n' c' x, Pc wc pb A' n' c' false x) := Lib.hid (by
          rcases ho with ho | ⟨z, q, ho⟩
          · rw [ho] at S; obtain ⟨A', n', c', K⟩ := S; exact ⟨_, _, _, _, K⟩
          · rw [ho] at S; obtain ⟨A', c', K, _⟩ := S; exact ⟨_, _, _, _, K⟩)
        obtain ⟨A', n', c', x, K⟩ := HK.out
        have HK2 := Lib.hid K
        obtain ⟨c0, c1, c2, f0, f1, f2, lt⟩ := K
        clear ho hv h1
        go_wp2
        go_meet
        rw [HO.out]
        exact ⟨⟨_, _, _, HK2.out.set2 true⟩, HRb.out.grown (grown_set1 _ _ _ _) N1 N2, Below.setCell Bb N4 _⟩
      | false =>
        have HO : Hid (o4F l = o3F l) := Lib.hid (by
          unfold o4F
          cases ho : o3F l with
          | wait => rfl
          | bad => rfl
          | got z q => show (if z < 100 then _ else _) = _; rw [if_neg (by have := hv z q ho; have := HB2.out rfl (by rw [ho]; intro e; cases e); omega)])
        clear hv
        go_wp2
        go_meet
        rw [HO.out]
        exact ⟨HSb.out, HRb.out, Bb⟩
    case rest =>
      obtain ⟨S4, R4, B4⟩ := hcut
      have HV4 : Hid (∀ z r, o4F l = .got z r → v = (z : Int)) := Lib.hid (fun z r e => by
        unfold o4F at e
        obtain ⟨z', q, h1, h2⟩ := bind_got e
        split at h2
        · cases h2
        · injection h2 with h2 _; rw [← h2]; exact HV.out z' q h1)
      have hrl := reason_len v
      have a1 := sadd [32] (reasonF v) ([32] ++ reasonF v) rfl (by decide) (by omega)
      have a2 := sadd ([32] ++ reasonF v) [13, 10] ([32] ++ reasonF v ++ [13, 10]) rfl (by rw [List.length_append]; simp; omega) (by decide)
      have a3 := sadd ([32] ++ reasonF v ++ [13, 10]) [99, 111, 110, 116, 101, 110, 116, 45, 116, 121, 112, 101, 58, 32, 97, 112, 112, 108, 105, 99, 97, 116, 105, 111, 110, 47, 106, 115, 111, 110] ([32] ++ reasonF v ++ [13, 10] ++ tCtype) rfl (by simp; omega) (by decide)
      have a4 := sadd ([32] ++ reasonF v ++ [13, 10] ++ tCtype) [13, 10] ([32] ++ reasonF v ++ [13, 10] ++ tCtype ++ [13, 10]) rfl (by simp [tCtype]; omega) (by decide)
      have a5 := sadd ([32] ++ reasonF v ++ [13, 10] ++ tCtype ++ [13, 10]) [99, 111, 110, 116, 101, 110, 116, 45, 108, 101, 110, 103, 116, 104] ([32] ++ reasonF v ++ [13, 10] ++ tCtype ++ [13, 10] ++ tLen) rfl (by simp [tCtype]; omega) (by decide)
      have a6 := sadd ([32] ++ reasonF v ++ [13, 10] ++ tCtype ++ [13, 10] ++ tLen) [58, 32] (tMidI v) rfl (by simp [tCtype, tLen]; omega) (by decide)
      have RS := Lib.hid (fun W => reason_any v W)
      have HS4 := Lib.hid S4
      have HR4 := Lib.hid R4
      have TK2 := Lib.hid (fun W (hb : Below wc.heap.size wc W) => take_st (o4F l) (tMidI v) pb W (HS4.out.below hb))
      generalize (⟨(reasonF v).toArray⟩ : ByteArray) = X0 at *
      generalize (⟨([32] ++ reasonF v).toArray⟩ : ByteArray) = X1 at *
      generalize (⟨([32] ++ reasonF v ++ [13, 10]).toArray⟩ : ByteArray) = X2 at *
      generalize (⟨([32] ++ reasonF v ++ [13, 10] ++ tCtype).toArray⟩ : ByteArray) = X3 at *
      generalize (⟨([32] ++ reasonF v ++ [13, 10] ++ tCtype ++ [13, 10]).toArray⟩ : ByteArray) = X4 at *
      generalize (⟨([32] ++ reasonF v ++ [13, 10] ++ tCtype ++ [13, 10] ++ tLen).toArray⟩ : ByteArray) = X5 at *
      generalize (⟨(tMidI v).toArray⟩ : ByteArray) = X6 at *
      have hS4 : Short n (o5F v (o4F l)) := by
        have h3 : Short n (o3F l) := ((Short.two l).num 3 []).mono (by rw [HL.out]; exact Nat.le_refl _)
        have h4 : Short n (o4F l) := fun a r e => by
          unfold o4F at e
          obtain ⟨z, q, h1, h2⟩ := bind_got e
          split at h2
          · cases h2
          · injection h2 with _ h2; rw [← h2]; exact h3 z q h1
        exact h4.take (tMidI v)
      have HSH := Lib.hid hS4
      have NU2 : Hid (∀ W, Below b0 w W → StO W pb (o5F v (o4F l)) → Calls Tryz.prog 49 #[.pointer (some ⟨pb, 0, none⟩), .int .i64 (n : Int), .string ⟨#[13, 10]⟩] W fun ex W' => (∃ v2 : Int, ex = .returned (.int .i64 v2) ∧ ∀ v' r', o6F n (o5F v (o4F l)) = .got v' r' → v2 = (v' : Int)) ∧ StO W' pb (o6F n (o5F v (o4F l))) ∧ W.grownBy W' (some pb)) := Lib.hid (fun W B S => number_st (o5F v (o4F l)) n [13, 10] pb (HSH.out.mono hn) W (EB.out W B) S)
      have s4 : b0 ≤ wc.heap.size := Nat.le_of_lt R4.l0
      obtain ⟨r0, r1, r2, q0, q1, q2, f0, f1, f2, g0, g1, g2, lr, l0⟩ := R4
      clear hrl hS4 S4 r1 r2 q0 q1 q2 f0 f1 f2 g0 g1 g2 lr l0
      go_upto_region 10 with (first | (go_at_call 25; (with_reducible refine (RS.out _).mono ?_); rintro e w6 ⟨rfl, hb6⟩; have s6 := hb6.size; have B6 : Below b0 w w6 := B4.trans (hb6.mono s4); have HR6 := Lib.hid (HR4.out.below hb6)) | (go_at_call 47; (with_reducible refine (TK2.out _ hb6).mono ?_); rintro e w7 ⟨rfl, hS7, hg7⟩; have HS7 := Lib.hid (show StO w7 pb (o5F v (o4F l)) from hS7); have HR7 := Lib.hid (HR6.out.grown hg7 N1 N2); have B7 : Below b0 w w7 := (Below.grown B6 hg7 (Nat.le_trans s4 s6) (fun k e => by injection e with e; omega)); have s7 : b0 ≤ w7.heap.size := Nat.le_of_lt HR7.out.l0; clear hS7 hg7) | (go_at_call 49; (with_reducible refine (NU2.out _ B7 HS7.out).mono ?_); rintro e w8 ⟨⟨mv, rfl, hm8⟩, hS8, hg8⟩; have HM8 := Lib.hid hm8; have HS8 := Lib.hid hS8; have HR8 := Lib.hid (HR7.out.grown hg8 N1 N2); have B8 : Below b0 w w8 := (Below.grown B7 hg8 s7 (fun k e => by injection e with e; omega)); have s8 : b0 ≤ w8.heap.size := Nat.le_of_lt HR8.out.l0; clear hm8 hS8 hg8))
      clear a1 a2 a3 a4 a5 a6 RS TK2 NU2 HR4 HS4 B4 r0 s4 hb6 s6 B6 HR6 HR7 HS7 B7 s7
      obtain ⟨o6, ho6⟩ : ∃ o6, o6F n (o5F v (o4F l)) = o6 := ⟨_, rfl⟩
      rw [ho6] at HM8 HS8
      have HO6 := Lib.hid ho6
      clear ho6
      go_cut [96] from 61 to 95 (fun s96 wx => ∃ b : Bool, s96 = .bool b ∧ (StO wx pb o6 ∧ RSt b0 rb wx v false ∧ Below b0 w wx) ∧ (b = true → ∃ m r, o6 = .got m r ∧ r.head? = some 99) ∧ (b = false → ∀ m r, o6 = .got m r → r.head? ≠ some 99))
      case first =>
        have S := HS8.out
        cases o6 with
        | wait =>
          obtain ⟨A', n', c', K⟩ := S
          have HK := Lib.hid K
          obtain ⟨c0, c1, c2, f0, f1, f2, lt⟩ := K
          go_wp2_with (fail)
          go_big_region
          all_goals (go_wp2_with (fail))
          go_meet
          exact ⟨false, rfl, stage_below HS8.out HR8.out B8 (Below.drew (Below.refl _ _)), (fun e => by cases e), fun _ m r e => by cases e⟩
        | bad =>
          obtain ⟨A', n', c', K⟩ := S
          have HK := Lib.hid K
          obtain ⟨c0, c1, c2, f0, f1, f2, lt⟩ := K
          go_wp2_with (fail)
          go_big_region
          all_goals (go_wp2_with (fail))
          go_meet
          exact ⟨false, rfl, stage_below HS8.out HR8.out B8 (Below.drew (Below.refl _ _)), (fun e => by cases e), fun _ m r e => by cases e⟩
        | got m r =>
          obtain ⟨A', c', K, T', ne'⟩ := S
          obtain ⟨n', hn'⟩ : ∃ n', r.length = n' := ⟨_, rfl⟩
          rw [hn'] at K
          obtain ⟨c0, c1, c2, f0, f1, f2, lt⟩ := K
          obtain ⟨k, hk⟩ : ∃ k, min 1 r.length = k := ⟨_, rfl⟩
          have hm : min (1 : Int) (n' : Int) = (k : Int) := by rw [← hk, hn']; omega
          have hm2 : min (n' : Int) (1 : Int) = (k : Int) := by rw [← hk, hn']; omega
          have hkc : (k : Int) ≤ (c' : Int) := by have := T'.1; rw [← hk]; omega
          have hkn : (k : Int) ≤ (n' : Int) := by rw [← hk, hn']; omega
          have hA' : A' = none → c' = 0 := T'.2.1
          have HT' := Lib.hid T'
          have HP := Lib.hid (fun W B (U : Below w8.heap.size w8 W ∧ Bs W B 10 tConn) => hasPrefix_any B A' 10 k 10 c' tConn (r.take k) rfl (by rw [List.length_take]; omega) W U.2 ((HT'.out.below U.1).take k))
          have HKK := Lib.hid (And.intro hk hn')
          clear T' ne' hn' hk
          go_wp2_with (fail)
          have hcb2 : ∀ (W : World) (C : Array Value) (n c g : Nat), g = W.heap.size → (convert 22 22 (.slice (some ⟨g, 0, none⟩) n c)).run Tryz.prog (W.alloc (.cells C 5)).drew = .ok (.slice (some ⟨g, 0, none⟩) n c) (W.alloc (.cells C 5 (C.size, C.size + 1))).drew := fun W C n c g hg => run_convert_bytes_const_at W.drew 22 5 C n c g hg Tryz.underlying22 Tryz.underlying5
          by_cases hk0 : k = 0
          · subst hk0
            have hn0 : ¬ (0 : Int) < (n' : Int) := by have := HKK.out.1; rw [HKK.out.2] at this; omega
            have hn0N : ¬ 0 < n' := by omega
            have HR0 : Hid (r = []) := Lib.hid (List.eq_nil_of_length_eq_zero (by have := HKK.out.1; omega))
            rw [decide_eq_true (show tConn.take 0 = r.take 0 by simp)] at HP
            -- R10
            refine wp_region_held_drew (S := fun w' => w'.cell? ⟨pb, 0, none⟩ = some (.slice A' n' c') ∧ w'.cell? ⟨pb, 1, none⟩ = some (.bool false) ∧ w'.cell? ⟨pb, 2, none⟩ = some (.bool false) ∧ Below w8.heap.size w8 w') (by kernel_rfl) ⟨c0, c1, c2, Below.drew (Below.refl _ _)⟩ (fun hS0 => ?_)
            refine take2 0 (some 61) (.pointer (some ⟨pb, 0, none⟩)) rfl (by kernel_rfl) (by kernel_rfl) (by kernel_rfl) rfl (fun _ _ _ h => h) (Or.inl ⟨by rfl, fun W' hW' => (by obtain ⟨s0, s1, s2, s3⟩ := hW'; simp [go_sem, s0, s1, s2, hm, hm2, hkc, hkn, hn0, hn0N])⟩) (by assumption) ?_
            simp only [Act.put, List.setIfInBounds_toArray, List.set_cons_zero, List.set_cons_succ]
            refine take2 1 (some 62) (.pointer (some ⟨pb, 0, none⟩)) rfl (by kernel_rfl) (by kernel_rfl) (by kernel_rfl) rfl (fun _ _ _ h => h) (Or.inl ⟨by rfl, fun W' hW' => (by obtain ⟨s0, s1, s2, s3⟩ := hW'; simp [go_sem, s0, s1, s2, hm, hm2, hkc, hkn, hn0, hn0N])⟩) (by assumption) ?_
            simp only [Act.put, List.setIfInBounds_toArray, List.set_cons_zero, List.set_cons_succ]
            refine take2 2 (some 63) (.pointer (some ⟨pb, 1, none⟩)) rfl (by kernel_rfl) (by kernel_rfl) (by kernel_rfl) rfl (fun _ _ _ h => h) (Or.inl ⟨by rfl, fun W' hW' => (by obtain ⟨s0, s1, s2, s3⟩ := hW'; simp [go_sem, s0, s1, s2, hm, hm2, hkc, hkn, hn0, hn0N])⟩) (by assumption) ?_
            simp only [Act.put, List.setIfInBounds_toArray, List.set_cons_zero, List.set_cons_succ]
            refine take2 3 (some 64) (.bool false) rfl (by kernel_rfl) (by kernel_rfl) (by kernel_rfl) rfl (fun _ _ _ h => h) (Or.inl ⟨by rfl, fun W' hW' => (by obtain ⟨s0, s1, s2, s3⟩ := hW'; simp [go_sem, s0, s1, s2, hm, hm2, hkc, hkn, hn0, hn0N])⟩) (by assumption) ?_
            simp only [Act.put, List.setIfInBounds_toArray, List.set_cons_zero, List.set_cons_succ]
            refine take2 4 (some 65) (.bool true) rfl (by kernel_rfl) (by kernel_rfl) (by kernel_rfl) rfl (fun _ _ _ h => h) (Or.inl ⟨by rfl, fun W' hW' => (by obtain ⟨s0, s1, s2, s3⟩ := hW'; simp [go_sem, s0, s1, s2, hm, hm2, hkc, hkn, hn0, hn0N])⟩) (by assumption) ?_
            simp only [Act.put, List.setIfInBounds_toArray, List.set_cons_zero, List.set_cons_succ]
            refine take2 5 (some 66) (.bool true) rfl (by kernel_rfl) (by kernel_rfl) (by kernel_rfl) rfl (fun _ _ _ h => h) (Or.inl ⟨by rfl, fun W' hW' => (by obtain ⟨s0, s1, s2, s3⟩ := hW'; simp [go_sem, s0, s1, s2, hm, hm2, hkc, hkn, hn0, hn0N])⟩) (by assumption) ?_
            simp only [Act.put, List.setIfInBounds_toArray, List.set_cons_zero, List.set_cons_succ]
            refine take2 6 (some 67) (.pointer (some ⟨pb, 0, none⟩)) rfl (by kernel_rfl) (by kernel_rfl) (by kernel_rfl) rfl (fun _ _ _ h => h) (Or.inl ⟨by rfl, fun W' hW' => (by obtain ⟨s0, s1, s2, s3⟩ := hW'; simp [go_sem, s0, s1, s2, hm, hm2, hkc, hkn, hn0, hn0N])⟩) (by assumption) ?_
            simp only [Act.put, List.setIfInBounds_toArray, List.set_cons_zero, List.set_cons_succ]
            refine take2 7 (some 68) (.pointer (some ⟨pb, 0, none⟩)) rfl (by kernel_rfl) (by kernel_rfl) (by kernel_rfl) rfl (fun _ _ _ h => h) (Or.inl ⟨by rfl, fun W' hW' => (by obtain ⟨s0, s1, s2, s3⟩ := hW'; simp [go_sem, s0, s1, s2, hm, hm2, hkc, hkn, hn0, hn0N])⟩) (by assumption) ?_
            simp only [Act.put, List.setIfInBounds_toArray, List.set_cons_zero, List.set_cons_succ]
            refine take2 8 (some 69) (.pointer (some ⟨pb, 2, none⟩)) rfl (by kernel_rfl) (by kernel_rfl) (by kernel_rfl) rfl (fun _ _ _ h => h) (Or.inl ⟨by rfl, fun W' hW' => (by obtain ⟨s0, s1, s2, s3⟩ := hW'; simp [go_sem, s0, s1, s2, hm, hm2, hkc, hkn, hn0, hn0N])⟩) (by assumption) ?_
            simp only [Act.put, List.setIfInBounds_toArray, List.set_cons_zero, List.set_cons_succ]
            refine take2 9 (some 70) (.bool false) rfl (by kernel_rfl) (by kernel_rfl) (by kernel_rfl) rfl (fun _ _ _ h => h) (Or.inl ⟨by rfl, fun W' hW' => (by obtain ⟨s0, s1, s2, s3⟩ := hW'; simp [go_sem, s0, s1, s2, hm, hm2, hkc, hkn, hn0, hn0N])⟩) (by assumption) ?_
            simp only [Act.put, List.setIfInBounds_toArray, List.set_cons_zero, List.set_cons_succ]
            refine take2 10 (some 71) (.bool true) rfl (by kernel_rfl) (by kernel_rfl) (by kernel_rfl) rfl (fun _ _ _ h => h) (Or.inl ⟨by rfl, fun W' hW' => (by obtain ⟨s0, s1, s2, s3⟩ := hW'; simp [go_sem, s0, s1, s2, hm, hm2, hkc, hkn, hn0, hn0N])⟩) (by assumption) ?_
            simp only [Act.put, List.setIfInBounds_toArray, List.set_cons_zero, List.set_cons_succ]
            refine take2 11 (some 72) (.bool true) rfl (by kernel_rfl) (by kernel_rfl) (by kernel_rfl) rfl (fun _ _ _ h => h) (Or.inl ⟨by rfl, fun W' hW' => (by obtain ⟨s0, s1, s2, s3⟩ := hW'; simp [go_sem, s0, s1, s2, hm, hm2, hkc, hkn, hn0, hn0N])⟩) (by assumption) ?_
            simp only [Act.put, List.setIfInBounds_toArray, List.set_cons_zero, List.set_cons_succ]
            refine take2 12 (some 73) (.bool true) rfl (by kernel_rfl) (by kernel_rfl) (by kernel_rfl) rfl (fun _ _ _ h => h) (Or.inl ⟨by rfl, fun W' hW' => (by obtain ⟨s0, s1, s2, s3⟩ := hW'; simp [go_sem, s0, s1, s2, hm, hm2, hkc, hkn, hn0, hn0N])⟩) (by assumption) ?_
            simp only [Act.put, List.setIfInBounds_toArray, List.set_cons_zero, List.set_cons_succ]
            refine take2 15 (some 76) (.pointer (some ⟨pb, 0, none⟩)) rfl (by kernel_rfl) (by kernel_rfl) (by kernel_rfl) rfl (fun _ _ _ h => h) (Or.inl ⟨by rfl, fun W' hW' => (by obtain ⟨s0, s1, s2, s3⟩ := hW'; simp [go_sem, s0, s1, s2, hm, hm2, hkc, hkn, hn0, hn0N])⟩) (by assumption) ?_
            simp only [Act.put, List.setIfInBounds_toArray, List.set_cons_zero, List.set_cons_succ]
            refine take2 16 (some 77) (.pointer (some ⟨pb, 0, none⟩)) rfl (by kernel_rfl) (by kernel_rfl) (by kernel_rfl) rfl (fun _ _ _ h => h) (Or.inl ⟨by rfl, fun W' hW' => (by obtain ⟨s0, s1, s2, s3⟩ := hW'; simp [go_sem, s0, s1, s2, hm, hm2, hkc, hkn, hn0, hn0N])⟩) (by assumption) ?_
            simp only [Act.put, List.setIfInBounds_toArray, List.set_cons_zero, List.set_cons_succ]
            refine take2 17 (some 78) (.pointer (some ⟨pb, 0, none⟩)) rfl (by kernel_rfl) (by kernel_rfl) (by kernel_rfl) rfl (fun _ _ _ h => h) (Or.inl ⟨by rfl, fun W' hW' => (by obtain ⟨s0, s1, s2, s3⟩ := hW'; simp [go_sem, s0, s1, s2, hm, hm2, hkc, hkn, hn0, hn0N])⟩) (by assumption) ?_
            simp only [Act.put, List.setIfInBounds_toArray, List.set_cons_zero, List.set_cons_succ]
            refine take2 18 (some 79) (.slice A' n' c') rfl (by kernel_rfl) (by kernel_rfl) (by kernel_rfl) rfl (fun _ _ _ h => h) (Or.inl ⟨by rfl, fun W' hW' => (by obtain ⟨s0, s1, s2, s3⟩ := hW'; simp [go_sem, s0, s1, s2, hm, hm2, hkc, hkn, hn0, hn0N])⟩) (by assumption) ?_
            simp only [Act.put, List.setIfInBounds_toArray, List.set_cons_zero, List.set_cons_succ]
            refine take2 19 (some 80) (.pointer (some ⟨pb, 0, none⟩)) rfl (by kernel_rfl) (by kernel_rfl) (by kernel_rfl) rfl (fun _ _ _ h => h) (Or.inl ⟨by rfl, fun W' hW' => (by obtain ⟨s0, s1, s2, s3⟩ := hW'; simp [go_sem, s0, s1, s2, hm, hm2, hkc, hkn, hn0, hn0N])⟩) (by assumption) ?_
            simp only [Act.put, List.setIfInBounds_toArray, List.set_cons_zero, List.set_cons_succ]
            refine take2 20 (some 81) (.pointer (some ⟨pb, 0, none⟩)) rfl (by kernel_rfl) (by kernel_rfl) (by kernel_rfl) rfl (fun _ _ _ h => h) (Or.inl ⟨by rfl, fun W' hW' => (by obtain ⟨s0, s1, s2, s3⟩ := hW'; simp [go_sem, s0, s1, s2, hm, hm2, hkc, hkn, hn0, hn0N])⟩) (by assumption) ?_
            simp only [Act.put, List.setIfInBounds_toArray, List.set_cons_zero, List.set_cons_succ]
            refine take2 21 (some 82) (.pointer (some ⟨pb, 0, none⟩)) rfl (by kernel_rfl) (by kernel_rfl) (by kernel_rfl) rfl (fun _ _ _ h => h) (Or.inl ⟨by rfl, fun W' hW' => (by obtain ⟨s0, s1, s2, s3⟩ := hW'; simp [go_sem, s0, s1, s2, hm, hm2, hkc, hkn, hn0, hn0N])⟩) (by assumption) ?_
            simp only [Act.put, List.setIfInBounds_toArray, List.set_cons_zero, List.set_cons_succ]
            refine take2 22 (some 83) (.slice A' n' c') rfl (by kernel_rfl) (by kernel_rfl) (by kernel_rfl) rfl (fun _ _ _ h => h) (Or.inl ⟨by rfl, fun W' hW' => (by obtain ⟨s0, s1, s2, s3⟩ := hW'; simp [go_sem, s0, s1, s2, hm, hm2, hkc, hkn, hn0, hn0N])⟩) (by assumption) ?_
            simp only [Act.put, List.setIfInBounds_toArray, List.set_cons_zero, List.set_cons_succ]
            refine take2 23 (some 84) (.int .i64 (n' : Int)) rfl (by kernel_rfl) (by kernel_rfl) (by kernel_rfl) rfl (fun _ _ _ h => h) (Or.inl ⟨by rfl, fun W' hW' => (by obtain ⟨s0, s1, s2, s3⟩ := hW'; simp [go_sem, s0, s1, s2, hm, hm2, hkc, hkn, hn0, hn0N])⟩) (by assumption) ?_
            simp only [Act.put, List.setIfInBounds_toArray, List.set_cons_zero, List.set_cons_succ]
            refine take2 24 (some 85) (.int .i64 0) rfl (by kernel_rfl) (by kernel_rfl) (by kernel_rfl) rfl (fun _ _ _ h => h) (Or.inl ⟨by rfl, fun W' hW' => (by obtain ⟨s0, s1, s2, s3⟩ := hW'; simp [go_sem, s0, s1, s2, hm, hm2, hkc, hkn, hn0, hn0N])⟩) (by assumption) ?_
            simp only [Act.put, List.setIfInBounds_toArray, List.set_cons_zero, List.set_cons_succ]
            refine take2 25 (some 86) (.slice A' 0 c') rfl (by kernel_rfl) (by kernel_rfl) (by kernel_rfl) rfl (fun _ _ _ h => h) (Or.inl ⟨by rfl, fun W' hW' => (by obtain ⟨s0, s1, s2, s3⟩ := hW'; simp [go_sem, s0, s1, s2, hm, hm2, hkc, hkn, hn0, hn0N])⟩) (by assumption) ?_
            simp only [Act.put, List.setIfInBounds_toArray, List.set_cons_zero, List.set_cons_succ]
            refine wpAnyH_ready (rs := [13]) (by kernel_rfl) (by simp) ?_
            refine AllReadyH.cons rfl (fun K' hK' => ?_) AllReadyH.nil
            go_simp
            refine hK'.out _ _ (by refine ⟨?_, ?_, ?_, ?_⟩ <;> first | (simp [go_sem, c0, c1, c2, lt]; done) | (repeat (first | exact Below.refl _ _ | refine Below.drew ?_ | refine Below.alloc ?_ (by simp) _))) (fun hS1 => ?_)
            clear hK' K'
            try simp only [Act.put, List.setIfInBounds_toArray, List.set_cons_zero, List.set_cons_succ]
            refine wpAnyH_ready (rs := [14]) (by kernel_rfl) (by simp) ?_
            refine AllReadyH.cons rfl (fun K' hK' => ?_) AllReadyH.nil
            go_simp
            refine hK'.out _ _ (by refine ⟨?_, ?_, ?_, ?_⟩ <;> first | (simp [go_sem, c0, c1, c2, lt]; done) | (repeat (first | exact Below.refl _ _ | refine Below.drew ?_ | refine Below.alloc ?_ (by simp) _))) (fun hS2 => ?_)
            clear hK' K'
            try simp only [Act.put, List.setIfInBounds_toArray, List.set_cons_zero, List.set_cons_succ]
            refine wpAnyH_ready (rs := [26]) (by kernel_rfl) (by simp) ?_
            refine AllReadyH.cons rfl (fun K' hK' => ?_) AllReadyH.nil
            go_simp
            (go_at_call 48; (with_reducible refine (HP.out _ _ ⟨(by repeat (first | exact Below.refl _ _ | refine Below.setCell ?_ (by first | (simp; done) | (simp; omega) | omega) _ | refine Below.alloc ?_ (by first | (simp; done) | (simp; omega) | omega) _ | refine Below.drew ?_ | assumption | refine Below.trans ?_ (Below.mono (by assumption) (by first | (simp; done) | (simp; omega) | omega)))), bs_new _ tConn _ _ rfl _⟩).mono ?_); rintro e w9 ⟨rfl, rfl⟩)
            go_wp2_with (fail)
            refine hK'.out _ _ (by refine ⟨?_, ?_, ?_, ?_⟩ <;> first | (simp [go_sem, c0, c1, c2, lt]; done) | (repeat (first | exact Below.refl _ _ | refine Below.drew ?_ | refine Below.alloc ?_ (by simp) _))) (fun hS3 => ?_)
            clear hK' K'
            try simp only [Act.put, List.setIfInBounds_toArray, List.set_cons_zero, List.set_cons_succ]
            refine take2 27 (some 88) (.bool true) rfl (by kernel_rfl) (by kernel_rfl) (by kernel_rfl) rfl (fun _ _ _ h => h) (Or.inl ⟨by rfl, fun W' hW' => (by obtain ⟨s0, s1, s2, s3⟩ := hW'; simp [go_sem, s0, s1, s2, hm, hm2, hkc, hkn, hn0, hn0N])⟩) (by assumption) ?_
            simp only [Act.put, List.setIfInBounds_toArray, List.set_cons_zero, List.set_cons_succ]
            refine take2 28 (some 89) (.bool true) rfl (by kernel_rfl) (by kernel_rfl) (by kernel_rfl) rfl (fun _ _ _ h => h) (Or.inl ⟨by rfl, fun W' hW' => (by obtain ⟨s0, s1, s2, s3⟩ := hW'; simp [go_sem, s0, s1, s2, hm, hm2, hkc, hkn, hn0, hn0N])⟩) (by assumption) ?_
            simp only [Act.put, List.setIfInBounds_toArray, List.set_cons_zero, List.set_cons_succ]
            refine take2 29 (some 90) (.pointer (some ⟨pb, 0, none⟩)) rfl (by kernel_rfl) (by kernel_rfl) (by kernel_rfl) rfl (fun _ _ _ h => h) (Or.inl ⟨by rfl, fun W' hW' => (by obtain ⟨s0, s1, s2, s3⟩ := hW'; simp [go_sem, s0, s1, s2, hm, hm2, hkc, hkn, hn0, hn0N])⟩) (by assumption) ?_
            simp only [Act.put, List.setIfInBounds_toArray, List.set_cons_zero, List.set_cons_succ]
            refine take2 30 (some 91) (.pointer (some ⟨pb, 0, none⟩)) rfl (by kernel_rfl) (by kernel_rfl) (by kernel_rfl) rfl (fun _ _ _ h => h) (Or.inl ⟨by rfl, fun W' hW' => (by obtain ⟨s0, s1, s2, s3⟩ := hW'; simp [go_sem, s0, s1, s2, hm, hm2, hkc, hkn, hn0, hn0N])⟩) (by assumption) ?_
            simp only [Act.put, List.setIfInBounds_toArray, List.set_cons_zero, List.set_cons_succ]
            refine take2 31 (some 92) (.pointer (some ⟨pb, 0, none⟩)) rfl (by kernel_rfl) (by kernel_rfl) (by kernel_rfl) rfl (fun _ _ _ h => h) (Or.inl ⟨by rfl, fun W' hW' => (by obtain ⟨s0, s1, s2, s3⟩ := hW'; simp [go_sem, s0, s1, s2, hm, hm2, hkc, hkn, hn0, hn0N])⟩) (by assumption) ?_
            simp only [Act.put, List.setIfInBounds_toArray, List.set_cons_zero, List.set_cons_succ]
            refine take2 32 (some 93) (.slice A' n' c') rfl (by kernel_rfl) (by kernel_rfl) (by kernel_rfl) rfl (fun _ _ _ h => h) (Or.inl ⟨by rfl, fun W' hW' => (by obtain ⟨s0, s1, s2, s3⟩ := hW'; simp [go_sem, s0, s1, s2, hm, hm2, hkc, hkn, hn0, hn0N])⟩) (by assumption) ?_
            simp only [Act.put, List.setIfInBounds_toArray, List.set_cons_zero, List.set_cons_succ]
            refine take2 33 (some 94) (.int .i64 (n' : Int)) rfl (by kernel_rfl) (by kernel_rfl) (by kernel_rfl) rfl (fun _ _ _ h => h) (Or.inl ⟨by rfl, fun W' hW' => (by obtain ⟨s0, s1, s2, s3⟩ := hW'; simp [go_sem, s0, s1, s2, hm, hm2, hkc, hkn, hn0, hn0N])⟩) (by assumption) ?_
            simp only [Act.put, List.setIfInBounds_toArray, List.set_cons_zero, List.set_cons_succ]
            refine take2 34 (some 95) (.bool false) rfl (by kernel_rfl) (by kernel_rfl) (by kernel_rfl) rfl (fun _ _ _ h => h) (Or.inl ⟨by rfl, fun W' hW' => (by obtain ⟨s0, s1, s2, s3⟩ := hW'; simp [go_sem, s0, s1, s2, hm, hm2, hkc, hkn, hn0, hn0N])⟩) (by assumption) ?_
            simp only [Act.put, List.setIfInBounds_toArray, List.set_cons_zero, List.set_cons_succ]
            refine take2 35 (some 96) (.bool false) rfl (by kernel_rfl) (by kernel_rfl) (by kernel_rfl) rfl (fun _ _ _ h => h) (Or.inl ⟨by rfl, fun W' hW' => (by obtain ⟨s0, s1, s2, s3⟩ := hW'; simp [go_sem, s0, s1, s2, hm, hm2, hkc, hkn, hn0, hn0N])⟩) (by assumption) ?_
            simp only [Act.put, List.setIfInBounds_toArray, List.set_cons_zero, List.set_cons_succ]
            refine wpAnyH_done (by kernel_rfl) ?_ _
            -- END
            all_goals (go_wp2_with (fail); go_meet; exact ⟨false, by simp [hn0N], stage_below HS8.out HR8.out B8 ((by repeat (first | exact Below.refl _ _ | refine Below.setCell ?_ (by first | (simp; done) | (simp; omega) | omega) _ | refine Below.alloc ?_ (by first | (simp; done) | (simp; omega) | omega) _ | refine Below.drew ?_ | assumption | refine Below.trans ?_ (Below.mono (by assumption) (by first | (simp; done) | (simp; omega) | omega))))), (fun e => by cases e), fun _ m' r' e => by injection e with _ e; rw [← e, HR0.out]; simp⟩)
          · have hn0 : (0 : Int) < (n' : Int) := by omega
            have hn0N : 0 < n' := by omega
            have HD : Hid (decide (tConn.take k = r.take k) = decide (r.head? = some 99)) := Lib.hid (head_conn r k HKK.out.1 (by omega))
            rw [HD.out] at HP
            by_cases h99 : r.head? = some 99
            · rw [decide_eq_true h99] at HP
              have H99 := Lib.hid h99
              clear h99
              -- R10
              refine wp_region_held_drew (S := fun w' => w'.cell? ⟨pb, 0, none⟩ = some (.slice A' n' c') ∧ w'.cell? ⟨pb, 1, none⟩ = some (.bool false) ∧ w'.cell? ⟨pb, 2, none⟩ = some (.bool false) ∧ Below w8.heap.size w8 w') (by kernel_rfl) ⟨c0, c1, c2, Below.drew (Below.refl _ _)⟩ (fun hS0 => ?_)
              refine take2 0 (some 61) (.pointer (some ⟨pb, 0, none⟩)) rfl (by kernel_rfl) (by kernel_rfl) (by kernel_rfl) rfl (fun _ _ _ h => h) (Or.inl ⟨by rfl, fun W' hW' => (by obtain ⟨s0, s1, s2, s3⟩ := hW'; simp [go_sem, s0, s1, s2, hm, hm2, hkc, hkn, hn0, hn0N])⟩) (by assumption) ?_
              simp only [Act.put, List.setIfInBounds_toArray, List.set_cons_zero, List.set_cons_succ]
              refine take2 1 (some 62) (.pointer (some ⟨pb, 0, none⟩)) rfl (by kernel_rfl) (by kernel_rfl) (by kernel_rfl) rfl (fun _ _ _ h => h) (Or.inl ⟨by rfl, fun W' hW' => (by obtain ⟨s0, s1, s2, s3⟩ := hW'; simp [go_sem, s0, s1, s2, hm, hm2, hkc, hkn, hn0, hn0N])⟩) (by assumption) ?_
              simp only [Act.put, List.setIfInBounds_toArray, List.set_cons_zero, List.set_cons_succ]
              refine take2 2 (some 63) (.pointer (some ⟨pb, 1, none⟩)) rfl (by kernel_rfl) (by kernel_rfl) (by kernel_rfl) rfl (fun _ _ _ h => h) (Or.inl ⟨by rfl, fun W' hW' => (by obtain ⟨s0, s1, s2, s3⟩ := hW'; simp [go_sem, s0, s1, s2, hm, hm2, hkc, hkn, hn0, hn0N])⟩) (by assumption) ?_
              simp only [Act.put, List.setIfInBounds_toArray, List.set_cons_zero, List.set_cons_succ]
              refine take2 3 (some 64) (.bool false) rfl (by kernel_rfl) (by kernel_rfl) (by kernel_rfl) rfl (fun _ _ _ h => h) (Or.inl ⟨by rfl, fun W' hW' => (by obtain ⟨s0, s1, s2, s3⟩ := hW'; simp [go_sem, s0, s1, s2, hm, hm2, hkc, hkn, hn0, hn0N])⟩) (by assumption) ?_
              simp only [Act.put, List.setIfInBounds_toArray, List.set_cons_zero, List.set_cons_succ]
              refine take2 4 (some 65) (.bool true) rfl (by kernel_rfl) (by kernel_rfl) (by kernel_rfl) rfl (fun _ _ _ h => h) (Or.inl ⟨by rfl, fun W' hW' => (by obtain ⟨s0, s1, s2, s3⟩ := hW'; simp [go_sem, s0, s1, s2, hm, hm2, hkc, hkn, hn0, hn0N])⟩) (by assumption) ?_
              simp only [Act.put, List.setIfInBounds_toArray, List.set_cons_zero, List.set_cons_succ]
              refine take2 5 (some 66) (.bool true) rfl (by kernel_rfl) (by kernel_rfl) (by kernel_rfl) rfl (fun _ _ _ h => h) (Or.inl ⟨by rfl, fun W' hW' => (by obtain ⟨s0, s1, s2, s3⟩ := hW'; simp [go_sem, s0, s1, s2, hm, hm2, hkc, hkn, hn0, hn0N])⟩) (by assumption) ?_
              simp only [Act.put, List.setIfInBounds_toArray, List.set_cons_zero, List.set_cons_succ]
              refine take2 6 (some 67) (.pointer (some ⟨pb, 0, none⟩)) rfl (by kernel_rfl) (by kernel_rfl) (by kernel_rfl) rfl (fun _ _ _ h => h) (Or.inl ⟨by rfl, fun W' hW' => (by obtain ⟨s0, s1, s2, s3⟩ := hW'; simp [go_sem, s0, s1, s2, hm, hm2, hkc, hkn, hn0, hn0N])⟩) (by assumption) ?_
              simp only [Act.put, List.setIfInBounds_toArray, List.set_cons_zero, List.set_cons_succ]
              refine take2 7 (some 68) (.pointer (some ⟨pb, 0, none⟩)) rfl (by kernel_rfl) (by kernel_rfl) (by kernel_rfl) rfl (fun _ _ _ h => h) (Or.inl ⟨by rfl, fun W' hW' => (by obtain ⟨s0, s1, s2, s3⟩ := hW'; simp [go_sem, s0, s1, s2, hm, hm2, hkc, hkn, hn0, hn0N])⟩) (by assumption) ?_
              simp only [Act.put, List.setIfInBounds_toArray, List.set_cons_zero, List.set_cons_succ]
              refine take2 8 (some 69) (.pointer (some ⟨pb, 2, none⟩)) rfl (by kernel_rfl) (by kernel_rfl) (by kernel_rfl) rfl (fun _ _ _ h => h) (Or.inl ⟨by rfl, fun W' hW' => (by obtain ⟨s0, s1, s2, s3⟩ := hW'; simp [go_sem, s0, s1, s2, hm, hm2, hkc, hkn, hn0, hn0N])⟩) (by assumption) ?_
              simp only [Act.put, List.setIfInBounds_toArray, List.set_cons_zero, List.set_cons_succ]
              refine take2 9 (some 70) (.bool false) rfl (by kernel_rfl) (by kernel_rfl) (by kernel_rfl) rfl (fun _ _ _ h => h) (Or.inl ⟨by rfl, fun W' hW' => (by obtain ⟨s0, s1, s2, s3⟩ := hW'; simp [go_sem, s0, s1, s2, hm, hm2, hkc, hkn, hn0, hn0N])⟩) (by assumption) ?_
              simp only [Act.put, List.setIfInBounds_toArray, List.set_cons_zero, List.set_cons_succ]
              refine take2 10 (some 71) (.bool true) rfl (by kernel_rfl) (by kernel_rfl) (by kernel_rfl) rfl (fun _ _ _ h => h) (Or.inl ⟨by rfl, fun W' hW' => (by obtain ⟨s0, s1, s2, s3⟩ := hW'; simp [go_sem, s0, s1, s2, hm, hm2, hkc, hkn, hn0, hn0N])⟩) (by assumption) ?_
              simp only [Act.put, List.setIfInBounds_toArray, List.set_cons_zero, List.set_cons_succ]
              refine take2 11 (some 72) (.bool true) rfl (by kernel_rfl) (by kernel_rfl) (by kernel_rfl) rfl (fun _ _ _ h => h) (Or.inl ⟨by rfl, fun W' hW' => (by obtain ⟨s0, s1, s2, s3⟩ := hW'; simp [go_sem, s0, s1, s2, hm, hm2, hkc, hkn, hn0, hn0N])⟩) (by assumption) ?_
              simp only [Act.put, List.setIfInBounds_toArray, List.set_cons_zero, List.set_cons_succ]
              refine take2 12 (some 73) (.bool true) rfl (by kernel_rfl) (by kernel_rfl) (by kernel_rfl) rfl (fun _ _ _ h => h) (Or.inl ⟨by rfl, fun W' hW' => (by obtain ⟨s0, s1, s2, s3⟩ := hW'; simp [go_sem, s0, s1, s2, hm, hm2, hkc, hkn, hn0, hn0N])⟩) (by assumption) ?_
              simp only [Act.put, List.setIfInBounds_toArray, List.set_cons_zero, List.set_cons_succ]
              refine take2 15 (some 76) (.pointer (some ⟨pb, 0, none⟩)) rfl (by kernel_rfl) (by kernel_rfl) (by kernel_rfl) rfl (fun _ _ _ h => h) (Or.inl ⟨by rfl, fun W' hW' => (by obtain ⟨s0, s1, s2, s3⟩ := hW'; simp [go_sem, s0, s1, s2, hm, hm2, hkc, hkn, hn0, hn0N])⟩) (by assumption) ?_
              simp only [Act.put, List.setIfInBounds_toArray, List.set_cons_zero, List.set_cons_succ]
              refine take2 16 (some 77) (.pointer (some ⟨pb, 0, none⟩)) rfl (by kernel_rfl) (by kernel_rfl) (by kernel_rfl) rfl (fun _ _ _ h => h) (Or.inl ⟨by rfl, fun W' hW' => (by obtain ⟨s0, s1, s2, s3⟩ := hW'; simp [go_sem, s0, s1, s2, hm, hm2, hkc, hkn, hn0, hn0N])⟩) (by assumption) ?_
              simp only [Act.put, List.setIfInBounds_toArray, List.set_cons_zero, List.set_cons_succ]
              refine take2 17 (some 78) (.pointer (some ⟨pb, 0, none⟩)) rfl (by kernel_rfl) (by kernel_rfl) (by kernel_rfl) rfl (fun _ _ _ h => h) (Or.inl ⟨by rfl, fun W' hW' => (by obtain ⟨s0, s1, s2, s3⟩ := hW'; simp [go_sem, s0, s1, s2, hm, hm2, hkc, hkn, hn0, hn0N])⟩) (by assumption) ?_
              simp only [Act.put, List.setIfInBounds_toArray, List.set_cons_zero, List.set_cons_succ]
              refine take2 18 (some 79) (.slice A' n' c') rfl (by kernel_rfl) (by kernel_rfl) (by kernel_rfl) rfl (fun _ _ _ h => h) (Or.inl ⟨by rfl, fun W' hW' => (by obtain ⟨s0, s1, s2, s3⟩ := hW'; simp [go_sem, s0, s1, s2, hm, hm2, hkc, hkn, hn0, hn0N])⟩) (by assumption) ?_
              simp only [Act.put, List.setIfInBounds_toArray, List.set_cons_zero, List.set_cons_succ]
              refine take2 19 (some 80) (.pointer (some ⟨pb, 0, none⟩)) rfl (by kernel_rfl) (by kernel_rfl) (by kernel_rfl) rfl (fun _ _ _ h => h) (Or.inl ⟨by rfl, fun W' hW' => (by obtain ⟨s0, s1, s2, s3⟩ := hW'; simp [go_sem, s0, s1, s2, hm, hm2, hkc, hkn, hn0, hn0N])⟩) (by assumption) ?_
              simp only [Act.put, List.setIfInBounds_toArray, List.set_cons_zero, List.set_cons_succ]
              refine take2 20 (some 81) (.pointer (some ⟨pb, 0, none⟩)) rfl (by kernel_rfl) (by kernel_rfl) (by kernel_rfl) rfl (fun _ _ _ h => h) (Or.inl ⟨by rfl, fun W' hW' => (by obtain ⟨s0, s1, s2, s3⟩ := hW'; simp [go_sem, s0, s1, s2, hm, hm2, hkc, hkn, hn0, hn0N])⟩) (by assumption) ?_
              simp only [Act.put, List.setIfInBounds_toArray, List.set_cons_zero, List.set_cons_succ]
              refine take2 21 (some 82) (.pointer (some ⟨pb, 0, none⟩)) rfl (by kernel_rfl) (by kernel_rfl) (by kernel_rfl) rfl (fun _ _ _ h => h) (Or.inl ⟨by rfl, fun W' hW' => (by obtain ⟨s0, s1, s2, s3⟩ := hW'; simp [go_sem, s0, s1, s2, hm, hm2, hkc, hkn, hn0, hn0N])⟩) (by assumption) ?_
              simp only [Act.put, List.setIfInBounds_toArray, List.set_cons_zero, List.set_cons_succ]
              refine take2 22 (some 83) (.slice A' n' c') rfl (by kernel_rfl) (by kernel_rfl) (by kernel_rfl) rfl (fun _ _ _ h => h) (Or.inl ⟨by rfl, fun W' hW' => (by obtain ⟨s0, s1, s2, s3⟩ := hW'; simp [go_sem, s0, s1, s2, hm, hm2, hkc, hkn, hn0, hn0N])⟩) (by assumption) ?_
              simp only [Act.put, List.setIfInBounds_toArray, List.set_cons_zero, List.set_cons_succ]
              refine take2 23 (some 84) (.int .i64 (n' : Int)) rfl (by kernel_rfl) (by kernel_rfl) (by kernel_rfl) rfl (fun _ _ _ h => h) (Or.inl ⟨by rfl, fun W' hW' => (by obtain ⟨s0, s1, s2, s3⟩ := hW'; simp [go_sem, s0, s1, s2, hm, hm2, hkc, hkn, hn0, hn0N])⟩) (by assumption) ?_
              simp only [Act.put, List.setIfInBounds_toArray, List.set_cons_zero, List.set_cons_succ]
              refine take2 24 (some 85) (.int .i64 (k : Int)) rfl (by kernel_rfl) (by kernel_rfl) (by kernel_rfl) rfl (fun _ _ _ h => h) (Or.inl ⟨by rfl, fun W' hW' => (by obtain ⟨s0, s1, s2, s3⟩ := hW'; simp [go_sem, s0, s1, s2, hm, hm2, hkc, hkn, hn0, hn0N])⟩) (by assumption) ?_
              simp only [Act.put, List.setIfInBounds_toArray, List.set_cons_zero, List.set_cons_succ]
              refine take2 25 (some 86) (.slice A' k c') rfl (by kernel_rfl) (by kernel_rfl) (by kernel_rfl) rfl (fun _ _ _ h => h) (Or.inl ⟨by rfl, fun W' hW' => (by obtain ⟨s0, s1, s2, s3⟩ := hW'; simp [go_sem, s0, s1, s2, hm, hm2, hkc, hkn, hn0, hn0N])⟩) (by assumption) ?_
              simp only [Act.put, List.setIfInBounds_toArray, List.set_cons_zero, List.set_cons_succ]
              refine wpAnyH_ready (rs := [13]) (by kernel_rfl) (by simp) ?_
              refine AllReadyH.cons rfl (fun K' hK' => ?_) AllReadyH.nil
              go_simp
              refine hK'.out _ _ (by refine ⟨?_, ?_, ?_, ?_⟩ <;> first | (simp [go_sem, c0, c1, c2, lt]; done) | (repeat (first | exact Below.refl _ _ | refine Below.drew ?_ | refine Below.alloc ?_ (by simp) _))) (fun hS1 => ?_)
              clear hK' K'
              try simp only [Act.put, List.setIfInBounds_toArray, List.set_cons_zero, List.set_cons_succ]
              refine wpAnyH_ready (rs := [14]) (by kernel_rfl) (by simp) ?_
              refine AllReadyH.cons rfl (fun K' hK' => ?_) AllReadyH.nil
              go_simp
              refine hK'.out _ _ (by refine ⟨?_, ?_, ?_, ?_⟩ <;> first | (simp [go_sem, c0, c1, c2, lt]; done) | (repeat (first | exact Below.refl _ _ | refine Below.drew ?_ | refine Below.alloc ?_ (by simp) _))) (fun hS2 => ?_)
              clear hK' K'
              try simp only [Act.put, List.setIfInBounds_toArray, List.set_cons_zero, List.set_cons_succ]
              refine wpAnyH_ready (rs := [26]) (by kernel_rfl) (by simp) ?_
              refine AllReadyH.cons rfl (fun K' hK' => ?_) AllReadyH.nil
              go_simp
              (go_at_call 48; (with_reducible refine (HP.out _ _ ⟨(by repeat (first | exact Below.refl _ _ | refine Below.setCell ?_ (by first | (simp; done) | (simp; omega) | omega) _ | refine Below.alloc ?_ (by first | (simp; done) | (simp; omega) | omega) _ | refine Below.drew ?_ | assumption | refine Below.trans ?_ (Below.mono (by assumption) (by first | (simp; done) | (simp; omega) | omega)))), bs_new _ tConn _ _ rfl _⟩).mono ?_); rintro e w9 ⟨rfl, rfl⟩)
              go_wp2_with (fail)
              refine hK'.out _ _ (by refine ⟨?_, ?_, ?_, ?_⟩ <;> first | (simp [go_sem, c0, c1, c2, lt]; done) | (repeat (first | exact Below.refl _ _ | refine Below.drew ?_ | refine Below.alloc ?_ (by simp) _))) (fun hS3 => ?_)
              clear hK' K'
              try simp only [Act.put, List.setIfInBounds_toArray, List.set_cons_zero, List.set_cons_succ]
              refine take2 27 (some 88) (.bool true) rfl (by kernel_rfl) (by kernel_rfl) (by kernel_rfl) rfl (fun _ _ _ h => h) (Or.inl ⟨by rfl, fun W' hW' => (by obtain ⟨s0, s1, s2, s3⟩ := hW'; simp [go_sem, s0, s1, s2, hm, hm2, hkc, hkn, hn0, hn0N])⟩) (by assumption) ?_
              simp only [Act.put, List.setIfInBounds_toArray, List.set_cons_zero, List.set_cons_succ]
              refine take2 28 (some 89) (.bool true) rfl (by kernel_rfl) (by kernel_rfl) (by kernel_rfl) rfl (fun _ _ _ h => h) (Or.inl ⟨by rfl, fun W' hW' => (by obtain ⟨s0, s1, s2, s3⟩ := hW'; simp [go_sem, s0, s1, s2, hm, hm2, hkc, hkn, hn0, hn0N])⟩) (by assumption) ?_
              simp only [Act.put, List.setIfInBounds_toArray, List.set_cons_zero, List.set_cons_succ]
              refine take2 29 (some 90) (.pointer (some ⟨pb, 0, none⟩)) rfl (by kernel_rfl) (by kernel_rfl) (by kernel_rfl) rfl (fun _ _ _ h => h) (Or.inl ⟨by rfl, fun W' hW' => (by obtain ⟨s0, s1, s2, s3⟩ := hW'; simp [go_sem, s0, s1, s2, hm, hm2, hkc, hkn, hn0, hn0N])⟩) (by assumption) ?_
              simp only [Act.put, List.setIfInBounds_toArray, List.set_cons_zero, List.set_cons_succ]
              refine take2 30 (some 91) (.pointer (some ⟨pb, 0, none⟩)) rfl (by kernel_rfl) (by kernel_rfl) (by kernel_rfl) rfl (fun _ _ _ h => h) (Or.inl ⟨by rfl, fun W' hW' => (by obtain ⟨s0, s1, s2, s3⟩ := hW'; simp [go_sem, s0, s1, s2, hm, hm2, hkc, hkn, hn0, hn0N])⟩) (by assumption) ?_
              simp only [Act.put, List.setIfInBounds_toArray, List.set_cons_zero, List.set_cons_succ]
              refine take2 31 (some 92) (.pointer (some ⟨pb, 0, none⟩)) rfl (by kernel_rfl) (by kernel_rfl) (by kernel_rfl) rfl (fun _ _ _ h => h) (Or.inl ⟨by rfl, fun W' hW' => (by obtain ⟨s0, s1, s2, s3⟩ := hW'; simp [go_sem, s0, s1, s2, hm, hm2, hkc, hkn, hn0, hn0N])⟩) (by assumption) ?_
              simp only [Act.put, List.setIfInBounds_toArray, List.set_cons_zero, List.set_cons_succ]
              refine take2 32 (some 93) (.slice A' n' c') rfl (by kernel_rfl) (by kernel_rfl) (by kernel_rfl) rfl (fun _ _ _ h => h) (Or.inl ⟨by rfl, fun W' hW' => (by obtain ⟨s0, s1, s2, s3⟩ := hW'; simp [go_sem, s0, s1, s2, hm, hm2, hkc, hkn, hn0, hn0N])⟩) (by assumption) ?_
              simp only [Act.put, List.setIfInBounds_toArray, List.set_cons_zero, List.set_cons_succ]
              refine take2 33 (some 94) (.int .i64 (n' : Int)) rfl (by kernel_rfl) (by kernel_rfl) (by kernel_rfl) rfl (fun _ _ _ h => h) (Or.inl ⟨by rfl, fun W' hW' => (by obtain ⟨s0, s1, s2, s3⟩ := hW'; simp [go_sem, s0, s1, s2, hm, hm2, hkc, hkn, hn0, hn0N])⟩) (by assumption) ?_
              simp only [Act.put, List.setIfInBounds_toArray, List.set_cons_zero, List.set_cons_succ]
              refine take2 34 (some 95) (.bool true) rfl (by kernel_rfl) (by kernel_rfl) (by kernel_rfl) rfl (fun _ _ _ h => h) (Or.inl ⟨by rfl, fun W' hW' => (by obtain ⟨s0, s1, s2, s3⟩ := hW'; simp [go_sem, s0, s1, s2, hm, hm2, hkc, hkn, hn0, hn0N])⟩) (by assumption) ?_
              simp only [Act.put, List.setIfInBounds_toArray, List.set_cons_zero, List.set_cons_succ]
              refine take2 35 (some 96) (.bool true) rfl (by kernel_rfl) (by kernel_rfl) (by kernel_rfl) rfl (fun _ _ _ h => h) (Or.inl ⟨by rfl, fun W' hW' => (by obtain ⟨s0, s1, s2, s3⟩ := hW'; simp [go_sem, s0, s1, s2, hm, hm2, hkc, hkn, hn0, hn0N])⟩) (by assumption) ?_
              simp only [Act.put, List.setIfInBounds_toArray, List.set_cons_zero, List.set_cons_succ]
              refine wpAnyH_done (by kernel_rfl) ?_ _
              -- END
              all_goals (go_wp2_with (fail); go_meet; exact ⟨true, by simp [hn0N], stage_below HS8.out HR8.out B8 ((by repeat (first | exact Below.refl _ _ | refine Below.setCell ?_ (by first | (simp; done) | (simp; omega) | omega) _ | refine Below.alloc ?_ (by first | (simp; done) | (simp; omega) | omega) _ | refine Below.drew ?_ | assumption | refine Below.trans ?_ (Below.mono (by assumption) (by first | (simp; done) | (simp; omega) | omega))))), (fun _ => ⟨m, r, rfl, H99.out⟩), fun e => by cases e⟩)
            · rw [decide_eq_false h99] at HP
              have H99 := Lib.hid h99
              clear h99
              -- R10
              refine wp_region_held_drew (S := fun w' => w'.cell? ⟨pb, 0, none⟩ = some (.slice A' n' c') ∧ w'.cell? ⟨pb, 1, none⟩ = some (.bool false) ∧ w'.cell? ⟨pb, 2, none⟩ = some (.bool false) ∧ Below w8.heap.size w8 w') (by kernel_rfl) ⟨c0, c1, c2, Below.drew (Below.refl _ _)⟩ (fun hS0 => ?_)
              refine take2 0 (some 61) (.pointer (some ⟨pb, 0, none⟩)) rfl (by kernel_rfl) (by kernel_rfl) (by kernel_rfl) rfl (fun _ _ _ h => h) (Or.inl ⟨by rfl, fun W' hW' => (by obtain ⟨s0, s1, s2, s3⟩ := hW'; simp [go_sem, s0, s1, s2, hm, hm2, hkc, hkn, hn0, hn0N])⟩) (by assumption) ?_
              simp only [Act.put, List.setIfInBounds_toArray, List.set_cons_zero, List.set_cons_succ]
              refine take2 1 (some 62) (.pointer (some ⟨pb, 0, none⟩)) rfl (by kernel_rfl) (by kernel_rfl) (by kernel_rfl) rfl (fun _ _ _ h => h) (Or.inl ⟨by rfl, fun W' hW' => (by obtain ⟨s0, s1, s2, s3⟩ := hW'; simp [go_sem, s0, s1, s2, hm, hm2, hkc, hkn, hn0, hn0N])⟩) (by assumption) ?_
              simp only [Act.put, List.setIfInBounds_toArray, List.set_cons_zero, List.set_cons_succ]
              refine take2 2 (some 63) (.pointer (some ⟨pb, 1, none⟩)) rfl (by kernel_rfl) (by kernel_rfl) (by kernel_rfl) rfl (fun _ _ _ h => h) (Or.inl ⟨by rfl, fun W' hW' => (by obtain ⟨s0, s1, s2, s3⟩ := hW'; simp [go_sem, s0, s1, s2, hm, hm2, hkc, hkn, hn0, hn0N])⟩) (by assumption) ?_
              simp only [Act.put, List.setIfInBounds_toArray, List.set_cons_zero, List.set_cons_succ]
              refine take2 3 (some 64) (.bool false) rfl (by kernel_rfl) (by kernel_rfl) (by kernel_rfl) rfl (fun _ _ _ h => h) (Or.inl ⟨by rfl, fun W' hW' => (by obtain ⟨s0, s1, s2, s3⟩ := hW'; simp [go_sem, s0, s1, s2, hm, hm2, hkc, hkn, hn0, hn0N])⟩) (by assumption) ?_
              simp only [Act.put, List.setIfInBounds_toArray, List.set_cons_zero, List.set_cons_succ]
              refine take2 4 (some 65) (.bool true) rfl (by kernel_rfl) (by kernel_rfl) (by kernel_rfl) rfl (fun _ _ _ h => h) (Or.inl ⟨by rfl, fun W' hW' => (by obtain ⟨s0, s1, s2, s3⟩ := hW'; simp [go_sem, s0, s1, s2, hm, hm2, hkc, hkn, hn0, hn0N])⟩) (by assumption) ?_
              simp only [Act.put, List.setIfInBounds_toArray, List.set_cons_zero, List.set_cons_succ]
              refine take2 5 (some 66) (.bool true) rfl (by kernel_rfl) (by kernel_rfl) (by kernel_rfl) rfl (fun _ _ _ h => h) (Or.inl ⟨by rfl, fun W' hW' => (by obtain ⟨s0, s1, s2, s3⟩ := hW'; simp [go_sem, s0, s1, s2, hm, hm2, hkc, hkn, hn0, hn0N])⟩) (by assumption) ?_
              simp only [Act.put, List.setIfInBounds_toArray, List.set_cons_zero, List.set_cons_succ]
              refine take2 6 (some 67) (.pointer (some ⟨pb, 0, none⟩)) rfl (by kernel_rfl) (by kernel_rfl) (by kernel_rfl) rfl (fun _ _ _ h => h) (Or.inl ⟨by rfl, fun W' hW' => (by obtain ⟨s0, s1, s2, s3⟩ := hW'; simp [go_sem, s0, s1, s2, hm, hm2, hkc, hkn, hn0, hn0N])⟩) (by assumption) ?_
              simp only [Act.put, List.setIfInBounds_toArray, List.set_cons_zero, List.set_cons_succ]
              refine take2 7 (some 68) (.pointer (some ⟨pb, 0, none⟩)) rfl (by kernel_rfl) (by kernel_rfl) (by kernel_rfl) rfl (fun _ _ _ h => h) (Or.inl ⟨by rfl, fun W' hW' => (by obtain ⟨s0, s1, s2, s3⟩ := hW'; simp [go_sem, s0, s1, s2, hm, hm2, hkc, hkn, hn0, hn0N])⟩) (by assumption) ?_
              simp only [Act.put, List.setIfInBounds_toArray, List.set_cons_zero, List.set_cons_succ]
              refine take2 8 (some 69) (.pointer (some ⟨pb, 2, none⟩)) rfl (by kernel_rfl) (by kernel_rfl) (by kernel_rfl) rfl (fun _ _ _ h => h) (Or.inl ⟨by rfl, fun W' hW' => (by obtain ⟨s0, s1, s2, s3⟩ := hW'; simp [go_sem, s0, s1, s2, hm, hm2, hkc, hkn, hn0, hn0N])⟩) (by assumption) ?_
              simp only [Act.put, List.setIfInBounds_toArray, List.set_cons_zero, List.set_cons_succ]
              refine take2 9 (some 70) (.bool false) rfl (by kernel_rfl) (by kernel_rfl) (by kernel_rfl) rfl (fun _ _ _ h => h) (Or.inl ⟨by rfl, fun W' hW' => (by obtain ⟨s0, s1, s2, s3⟩ := hW'; simp [go_sem, s0, s1, s2, hm, hm2, hkc, hkn, hn0, hn0N])⟩) (by assumption) ?_
              simp only [Act.put, List.setIfInBounds_toArray, List.set_cons_zero, List.set_cons_succ]
              refine take2 10 (some 71) (.bool true) rfl (by kernel_rfl) (by kernel_rfl) (by kernel_rfl) rfl (fun _ _ _ h => h) (Or.inl ⟨by rfl, fun W' hW' => (by obtain ⟨s0, s1, s2, s3⟩ := hW'; simp [go_sem, s0, s1, s2, hm, hm2, hkc, hkn, hn0, hn0N])⟩) (by assumption) ?_
              simp only [Act.put, List.setIfInBounds_toArray, List.set_cons_zero, List.set_cons_succ]
              refine take2 11 (some 72) (.bool true) rfl (by kernel_rfl) (by kernel_rfl) (by kernel_rfl) rfl (fun _ _ _ h => h) (Or.inl ⟨by rfl, fun W' hW' => (by obtain ⟨s0, s1, s2, s3⟩ := hW'; simp [go_sem, s0, s1, s2, hm, hm2, hkc, hkn, hn0, hn0N])⟩) (by assumption) ?_
              simp only [Act.put, List.setIfInBounds_toArray, List.set_cons_zero, List.set_cons_succ]
              refine take2 12 (some 73) (.bool true) rfl (by kernel_rfl) (by kernel_rfl) (by kernel_rfl) rfl (fun _ _ _ h => h) (Or.inl ⟨by rfl, fun W' hW' => (by obtain ⟨s0, s1, s2, s3⟩ := hW'; simp [go_sem, s0, s1, s2, hm, hm2, hkc, hkn, hn0, hn0N])⟩) (by assumption) ?_
              simp only [Act.put, List.setIfInBounds_toArray, List.set_cons_zero, List.set_cons_succ]
              refine take2 15 (some 76) (.pointer (some ⟨pb, 0, none⟩)) rfl (by kernel_rfl) (by kernel_rfl) (by kernel_rfl) rfl (fun _ _ _ h => h) (Or.inl ⟨by rfl, fun W' hW' => (by obtain ⟨s0, s1, s2, s3⟩ := hW'; simp [go_sem, s0, s1, s2, hm, hm2, hkc, hkn, hn0, hn0N])⟩) (by assumption) ?_
              simp only [Act.put, List.setIfInBounds_toArray, List.set_cons_zero, List.set_cons_succ]
              refine take2 16 (some 77) (.pointer (some ⟨pb, 0, none⟩)) rfl (by kernel_rfl) (by kernel_rfl) (by kernel_rfl) rfl (fun _ _ _ h => h) (Or.inl ⟨by rfl, fun W' hW' => (by obtain ⟨s0, s1, s2, s3⟩ := hW'; simp [go_sem, s0, s1, s2, hm, hm2, hkc, hkn, hn0, hn0N])⟩) (by assumption) ?_
              simp only [Act.put, List.setIfInBounds_toArray, List.set_cons_zero, List.set_cons_succ]
              refine take2 17 (some 78) (.pointer (some ⟨pb, 0, none⟩)) rfl (by kernel_rfl) (by kernel_rfl) (by kernel_rfl) rfl (fun _ _ _ h => h) (Or.inl ⟨by rfl, fun W' hW' => (by obtain ⟨s0, s1, s2, s3⟩ := hW'; simp [go_sem, s0, s1, s2, hm, hm2, hkc, hkn, hn0, hn0N])⟩) (by assumption) ?_
              simp only [Act.put, List.setIfInBounds_toArray, List.set_cons_zero, List.set_cons_succ]
              refine take2 18 (some 79) (.slice A' n' c') rfl (by kernel_rfl) (by kernel_rfl) (by kernel_rfl) rfl (fun _ _ _ h => h) (Or.inl ⟨by rfl, fun W' hW' => (by obtain ⟨s0, s1, s2, s3⟩ := hW'; simp [go_sem, s0, s1, s2, hm, hm2, hkc, hkn, hn0, hn0N])⟩) (by assumption) ?_
              simp only [Act.put, List.setIfInBounds_toArray, List.set_cons_zero, List.set_cons_succ]
              refine take2 19 (some 80) (.pointer (some ⟨pb, 0, none⟩)) rfl (by kernel_rfl) (by kernel_rfl) (by kernel_rfl) rfl (fun _ _ _ h => h) (Or.inl ⟨by rfl, fun W' hW' => (by obtain ⟨s0, s1, s2, s3⟩ := hW'; simp [go_sem, s0, s1, s2, hm, hm2, hkc, hkn, hn0, hn0N])⟩) (by assumption) ?_
              simp only [Act.put, List.setIfInBounds_toArray, List.set_cons_zero, List.set_cons_succ]
              refine take2 20 (some 81) (.pointer (some ⟨pb, 0, none⟩)) rfl (by kernel_rfl) (by kernel_rfl) (by kernel_rfl) rfl (fun _ _ _ h => h) (Or.inl ⟨by rfl, fun W' hW' => (by obtain ⟨s0, s1, s2, s3⟩ := hW'; simp [go_sem, s0, s1, s2, hm, hm2, hkc, hkn, hn0, hn0N])⟩) (by assumption) ?_
              simp only [Act.put, List.setIfInBounds_toArray, List.set_cons_zero, List.set_cons_succ]
              refine take2 21 (some 82) (.pointer (some ⟨pb, 0, none⟩)) rfl (by kernel_rfl) (by kernel_rfl) (by kernel_rfl) rfl (fun _ _ _ h => h) (Or.inl ⟨by rfl, fun W' hW' => (by obtain ⟨s0, s1, s2, s3⟩ := hW'; simp [go_sem, s0, s1, s2, hm, hm2, hkc, hkn, hn0, hn0N])⟩) (by assumption) ?_
              simp only [Act.put, List.setIfInBounds_toArray, List.set_cons_zero, List.set_cons_succ]
              refine take2 22 (some 83) (.slice A' n' c') rfl (by kernel_rfl) (by kernel_rfl) (by kernel_rfl) rfl (fun _ _ _ h => h) (Or.inl ⟨by rfl, fun W' hW' => (by obtain ⟨s0, s1, s2, s3⟩ := hW'; simp [go_sem, s0, s1, s2, hm, hm2, hkc, hkn, hn0, hn0N])⟩) (by assumption) ?_
              simp only [Act.put, List.setIfInBounds_toArray, List.set_cons_zero, List.set_cons_succ]
              refine take2 23 (some 84) (.int .i64 (n' : Int)) rfl (by kernel_rfl) (by kernel_rfl) (by kernel_rfl) rfl (fun _ _ _ h => h) (Or.inl ⟨by rfl, fun W' hW' => (by obtain ⟨s0, s1, s2, s3⟩ := hW'; simp [go_sem, s0, s1, s2, hm, hm2, hkc, hkn, hn0, hn0N])⟩) (by assumption) ?_
              simp only [Act.put, List.setIfInBounds_toArray, List.set_cons_zero, List.set_cons_succ]
              refine take2 24 (some 85) (.int .i64 (k : Int)) rfl (by kernel_rfl) (by kernel_rfl) (by kernel_rfl) rfl (fun _ _ _ h => h) (Or.inl ⟨by rfl, fun W' hW' => (by obtain ⟨s0, s1, s2, s3⟩ := hW'; simp [go_sem, s0, s1, s2, hm, hm2, hkc, hkn, hn0, hn0N])⟩) (by assumption) ?_
              simp only [Act.put, List.setIfInBounds_toArray, List.set_cons_zero, List.set_cons_succ]
              refine take2 25 (some 86) (.slice A' k c') rfl (by kernel_rfl) (by kernel_rfl) (by kernel_rfl) rfl (fun _ _ _ h => h) (Or.inl ⟨by rfl, fun W' hW' => (by obtain ⟨s0, s1, s2, s3⟩ := hW'; simp [go_sem, s0, s1, s2, hm, hm2, hkc, hkn, hn0, hn0N])⟩) (by assumption) ?_
              simp only [Act.put, List.setIfInBounds_toArray, List.set_cons_zero, List.set_cons_succ]
              refine wpAnyH_ready (rs := [13]) (by kernel_rfl) (by simp) ?_
              refine AllReadyH.cons rfl (fun K' hK' => ?_) AllReadyH.nil
              go_simp
              refine hK'.out _ _ (by refine ⟨?_, ?_, ?_, ?_⟩ <;> first | (simp [go_sem, c0, c1, c2, lt]; done) | (repeat (first | exact Below.refl _ _ | refine Below.drew ?_ | refine Below.alloc ?_ (by simp) _))) (fun hS1 => ?_)
              clear hK' K'
              try simp only [Act.put, List.setIfInBounds_toArray, List.set_cons_zero, List.set_cons_succ]
              refine wpAnyH_ready (rs := [14]) (by kernel_rfl) (by simp) ?_
              refine AllReadyH.cons rfl (fun K' hK' => ?_) AllReadyH.nil
              go_simp
              refine hK'.out _ _ (by refine ⟨?_, ?_, ?_, ?_⟩ <;> first | (simp [go_sem, c0, c1, c2, lt]; done) | (repeat (first | exact Below.refl _ _ | refine Below.drew ?_ | refine Below.alloc ?_ (by simp) _))) (fun hS2 => ?_)
              clear hK' K'
              try simp only [Act.put, List.setIfInBounds_toArray, List.set_cons_zero, List.set_cons_succ]
              refine wpAnyH_ready (rs := [26]) (by kernel_rfl) (by simp) ?_
              refine AllReadyH.cons rfl (fun K' hK' => ?_) AllReadyH.nil
              go_simp
              (go_at_call 48; (with_reducible refine (HP.out _ _ ⟨(by repeat (first | exact Below.refl _ _ | refine Below.setCell ?_ (by first | (simp; done) | (simp; omega) | omega) _ | refine Below.alloc ?_ (by first | (simp; done) | (simp; omega) | omega) _ | refine Below.drew ?_ | assumption | refine Below.trans ?_ (Below.mono (by assumption) (by first | (simp; done) | (simp; omega) | omega)))), bs_new _ tConn _ _ rfl _⟩).mono ?_); rintro e w9 ⟨rfl, rfl⟩)
              go_wp2_with (fail)
              refine hK'.out _ _ (by refine ⟨?_, ?_, ?_, ?_⟩ <;> first | (simp [go_sem, c0, c1, c2, lt]; done) | (repeat (first | exact Below.refl _ _ | refine Below.drew ?_ | refine Below.alloc ?_ (by simp) _))) (fun hS3 => ?_)
              clear hK' K'
              try simp only [Act.put, List.setIfInBounds_toArray, List.set_cons_zero, List.set_cons_succ]
              refine take2 27 (some 88) (.bool false) rfl (by kernel_rfl) (by kernel_rfl) (by kernel_rfl) rfl (fun _ _ _ h => h) (Or.inl ⟨by rfl, fun W' hW' => (by obtain ⟨s0, s1, s2, s3⟩ := hW'; simp [go_sem, s0, s1, s2, hm, hm2, hkc, hkn, hn0, hn0N])⟩) (by assumption) ?_
              simp only [Act.put, List.setIfInBounds_toArray, List.set_cons_zero, List.set_cons_succ]
              refine take2 28 (some 89) (.bool false) rfl (by kernel_rfl) (by kernel_rfl) (by kernel_rfl) rfl (fun _ _ _ h => h) (Or.inl ⟨by rfl, fun W' hW' => (by obtain ⟨s0, s1, s2, s3⟩ := hW'; simp [go_sem, s0, s1, s2, hm, hm2, hkc, hkn, hn0, hn0N])⟩) (by assumption) ?_
              simp only [Act.put, List.setIfInBounds_toArray, List.set_cons_zero, List.set_cons_succ]
              refine take2 29 (some 90) (undef) rfl (by kernel_rfl) (by kernel_rfl) (by kernel_rfl) rfl (fun _ _ _ h => h) (Or.inr ⟨by rfl, rfl⟩) (by assumption) ?_
              simp only [Act.put, List.setIfInBounds_toArray, List.set_cons_zero, List.set_cons_succ]
              refine take2 30 (some 91) (undef) rfl (by kernel_rfl) (by kernel_rfl) (by kernel_rfl) rfl (fun _ _ _ h => h) (Or.inr ⟨by rfl, rfl⟩) (by assumption) ?_
              simp only [Act.put, List.setIfInBounds_toArray, List.set_cons_zero, List.set_cons_succ]
              refine take2 31 (some 92) (undef) rfl (by kernel_rfl) (by kernel_rfl) (by kernel_rfl) rfl (fun _ _ _ h => h) (Or.inr ⟨by rfl, rfl⟩) (by assumption) ?_
              simp only [Act.put, List.setIfInBounds_toArray, List.set_cons_zero, List.set_cons_succ]
              refine take2 32 (some 93) (undef) rfl (by kernel_rfl) (by kernel_rfl) (by kernel_rfl) rfl (fun _ _ _ h => h) (Or.inr ⟨by rfl, rfl⟩) (by assumption) ?_
              simp only [Act.put, List.setIfInBounds_toArray, List.set_cons_zero, List.set_cons_succ]
              refine take2 33 (some 94) (undef) rfl (by kernel_rfl) (by kernel_rfl) (by kernel_rfl) rfl (fun _ _ _ h => h) (Or.inr ⟨by rfl, rfl⟩) (by assumption) ?_
              simp only [Act.put, List.setIfInBounds_toArray, List.set_cons_zero, List.set_cons_succ]
              refine take2 34 (some 95) (undef) rfl (by kernel_rfl) (by kernel_rfl) (by kernel_rfl) rfl (fun _ _ _ h => h) (Or.inr ⟨by rfl, rfl⟩) (by assumption) ?_
              simp only [Act.put, List.setIfInBounds_toArray, List.set_cons_zero, List.set_cons_succ]
              refine take2 35 (some 96) (.bool false) rfl (by kernel_rfl) (by kernel_rfl) (by kernel_rfl) rfl (fun _ _ _ h => h) (Or.inl ⟨by rfl, fun W' hW' => (by obtain ⟨s0, s1, s2, s3⟩ := hW'; simp [go_sem, s0, s1, s2, hm, hm2, hkc, hkn, hn0, hn0N])⟩) (by assumption) ?_
              simp only [Act.put, List.setIfInBounds_toArray, List.set_cons_zero, List.set_cons_succ]
              refine wpAnyH_done (by kernel_rfl) ?_ _
              -- END
              all_goals (go_wp2_with (fail); go_meet; exact ⟨false, rfl, stage_below HS8.out HR8.out B8 ((by repeat (first | exact Below.refl _ _ | refine Below.setCell ?_ (by first | (simp; done) | (simp; omega) | omega) _ | refine Below.alloc ?_ (by first | (simp; done) | (simp; omega) | omega) _ | refine Below.drew ?_ | assumption | refine Below.trans ?_ (Below.mono (by assumption) (by first | (simp; done) | (simp; omega) | omega))))), (fun e => by cases e), fun _ m' r' e => by injection e with _ e; rw [← e]; exact H99.out⟩)
      obtain ⟨b, rfl, ⟨S9, R9, B9⟩, hb1, hb2⟩ := hcut
      have HB1 := Lib.hid hb1
      have HB2 := Lib.hid hb2
      have HS9 := Lib.hid S9
      have HR9 := Lib.hid R9
      clear hb1 hb2 S9 R9 HS8 HR8 B8 s8 hcb
      go_upto_if 96 with (fail)
      go_cut [] from 97 to 99 (fun wx => ∃ cl : Bool, StO wx pb (o7F o6) ∧ RSt b0 rb wx v cl ∧ Below b0 w wx ∧ ∀ m r, o6 = .got m r → cl = decide (r.head? = some 99))
      case first =>
        cases b with
        | true =>
          obtain ⟨m, r, ho, h99⟩ := HB1.out rfl
          have HO : Hid (o7F o6 = o6.bind fun z l => (takeT clo l).bind fun _ r => Tk.got z r) := Lib.hid (by rw [ho]; show (if r.head? = some 99 then _ else _) = _; rw [if_pos h99]; rfl)
          have HQ : Hid (∀ m' r', o6 = .got m' r' → true = decide (r'.head? = some 99)) := Lib.hid (fun m' r' e => by rw [ho] at e; injection e with _ e; rw [← e, decide_eq_true h99])
          have TK3 : Hid (Calls Tryz.prog 47 #[.pointer (some ⟨pb, 0, none⟩), .string ⟨#[99, 111, 110, 110, 101, 99, 116, 105, 111, 110, 58, 32, 99, 108, 111, 115, 101, 13, 10]⟩] wc fun ex W' => ex = .returned (.tuple #[]) ∧ StO W' pb (o6.bind fun z l => (takeT clo l).bind fun _ r => Tk.got z r) ∧ wc.grownBy W' (some pb)) := Lib.hid (take_st o6 clo pb wc HS9.out)
          have s9 : b0 ≤ wc.heap.size := Nat.le_of_lt HR9.out.l0
          clear ho h99
          go_wp2_with (first | (go_at_call 47; (with_reducible refine (TK3.out).mono ?_); rintro e w10 ⟨rfl, hS10, hg10⟩; have HS10 := Lib.hid hS10; have HR10 := Lib.hid (HR9.out.grown hg10 N1 N2); have B10 : Below b0 w w10 := (Below.grown B9 hg10 s9 (fun k e => by injection e with e; omega)); obtain ⟨r0, r1, r2, q0, q1, q2, f0, f1, f2, g0, g1, g2, lr, l0⟩ := HR10.out; clear hS10 hg10))
          go_meet
          exact ⟨true, by rw [HO.out]; exact HS10.out.far N2 HR10.out.r2 (fun x e => by cases e) _, HR10.out.close N3 true, Below.setCell B10 N5 _, HQ.out⟩
        | false =>
          have HO : Hid (o7F o6 = o6) := Lib.hid (by
            cases h : o6 with
            | wait => rfl
            | bad => rfl
            | got m r => show (if r.head? = some 99 then _ else _) = _; rw [if_neg (HB2.out rfl m r h)])
          have HQ : Hid (∀ m' r', o6 = .got m' r' → false = decide (r'.head? = some 99)) := Lib.hid (fun m' r' e => by rw [decide_eq_false (HB2.out rfl m' r' e)])
          go_wp2
          go_meet
          exact ⟨false, by rw [HO.out]; exact HS9.out, HR9.out, B9, HQ.out⟩
      obtain ⟨cl, S10, R10, B10, hcl⟩ := hcut
      have HCL := Lib.hid hcl
      have HR10 := Lib.hid R10
      have s10 : b0 ≤ wc.heap.size := Nat.le_of_lt R10.l0
      have TK4 : Hid (Calls Tryz.prog 47 #[.pointer (some ⟨pb, 0, none⟩), .string ⟨#[13, 10]⟩] wc fun ex W' => ex = .returned (.tuple #[]) ∧ StO W' pb (o8F (o7F o6)) ∧ wc.grownBy W' (some pb)) := Lib.hid (take_st (o7F o6) [13, 10] pb wc S10)
      clear hcl S10 R10 HS9 HR9 HB1 HB2
      go_upto_region 14 with (first | (go_at_call 47; (with_reducible refine (TK4.out).mono ?_); rintro e w11 ⟨rfl, hS11, hg11⟩; have HS11 := Lib.hid hS11; have HR11 := Lib.hid (HR10.out.grown hg11 N1 N2); have B11 : Below b0 w w11 := (Below.grown B10 hg11 s10 (fun k e => by injection e with e; omega)); obtain ⟨r0, r1, r2, q0, q1, q2, f0, f1, f2, g0, g1, g2, lr, l0⟩ := HR11.out; clear hS11 hg11))
      have J := Lib.hid (resp_join l n (by rw [HL.out]; exact Nat.le_refl _) v HV4.out HSH.out)
      rw [HO6.out] at J
      have S := HS11.out
      clear TK4 HR10 s10
      cases ho8 : o8F (o7F o6) with
      | wait =>
        rw [ho8] at S
        have HF := Lib.hid (J.out.1 ho8)
        obtain ⟨A', n', c', K⟩ := S
        obtain ⟨c0, c1, c2, _, _, _, lt⟩ := K
        clear ho8
        go_wp2
        exact bodyPost_ret (v := .tuple #[.agg #[.int .i64 0, .slice none 0 0, .bool false], .int .i64 0, .bool false, .int .i64 0]) (by simp [results, Tryz.results29, go_sem, *]) rfl ⟨by unfold RespO; rw [HF.out]; rfl, by rw [HB0.out]; repeat (first | exact B11 | refine Below.setCell ?_ (by dsimp only; exact Nat.le_refl _) _)⟩
      | bad =>
        rw [ho8] at S
        have HF := Lib.hid (J.out.2.1 ho8)
        obtain ⟨A', n', c', K⟩ := S
        obtain ⟨c0, c1, c2, _, _, _, lt⟩ := K
        clear ho8
        go_wp2
        exact bodyPost_ret (v := .tuple #[.agg #[.int .i64 0, .slice none 0 0, .bool false], .int .i64 0, .bool false, .int .i64 10]) (by simp [results, Tryz.results29, go_sem, *]) rfl ⟨by unfold RespO; rw [HF.out]; rfl, by rw [HB0.out]; repeat (first | exact B11 | refine Below.setCell ?_ (by dsimp only; exact Nat.le_refl _) _)⟩
      | got m q =>
        rw [ho8] at S
        obtain ⟨z, k, r, hvz, hk6, hF⟩ := J.out.2.2 m q ho8
        have hmk : m = k := o8_val (hk6) ho8
        have hmv : mv = (m : Int) := by rw [hmk]; exact HM8.out k r hk6
        subst hmv
        subst hvz
        have hclr := HCL.out k r hk6
        rw [← hclr] at hF
        have HF := Lib.hid hF
        have hsq : q.length ≤ n := o8_short (by rw [← HO6.out]; exact HSH.out.num n [13, 10]) m q ho8
        obtain ⟨A', c', K, T', ne'⟩ := S
        obtain ⟨nq, hnq⟩ : ∃ nq, q.length = nq := ⟨_, rfl⟩
        rw [hnq] at K hsq
        have HNL := Lib.hid hsq
        have HKq := Lib.hid K
        obtain ⟨c0, c1, c2, _, _, _, lt⟩ := K
        have HT' := Lib.hid T'
        have HNQ := Lib.hid hnq
        have hnqc : nq ≤ c' := by have := T'.1; omega
        have hA' : A' = none → c' = 0 := T'.2.1
        clear ho8 hF hclr hk6 hmk HCL T' ne' hnq
        by_cases hb : nq < m
        · have hb' : (nq : Int) < (m : Int) := by omega
          have HW : Hid (respF l = .wait) := Lib.hid (by rw [HF.out]; unfold bodyT; rw [if_pos (by rw [HNQ.out]; exact hb)]; rfl)
          go_wp2
          exact bodyPost_ret (v := .tuple #[.agg #[.int .i64 0, .slice none 0 0, .bool false], .int .i64 0, .bool false, .int .i64 0]) (by simp [results, Tryz.results29, go_sem, *]) rfl ⟨by unfold RespO; rw [HW.out]; rfl, by rw [HB0.out]; repeat (first | exact B11 | refine Below.setCell ?_ (by dsimp only; exact Nat.le_refl _) _)⟩
        · have hb' : ¬ (nq : Int) < (m : Int) := by omega
          have hmc : (m : Int) ≤ (c' : Int) := by omega
          have HG : Hid (respF l = .got (z, cl, m) q) := Lib.hid (by rw [HF.out]; unfold bodyT; rw [if_neg (by rw [HNQ.out]; exact hb)]; rfl)
          have hnl : nq ≤ n := HNL.out
          have hcast : ((n - nq + m : Nat) : Int) = (n : Int) - (nq : Int) + (m : Int) := by omega
          have HCS := Lib.hid hcast
          have CL := Lib.hid (clone_any A' m c' (q.take m) (by rw [List.length_take, HNQ.out]; omega) (by omega) w11 (HT'.out.take m))
          have s11 : b0 ≤ w11.heap.size := Nat.le_of_lt l0
          have lr11 : rb < w11.heap.size := lr
          go_upto_region 19 with (first | (go_at_call 50; (with_reducible refine (CL.out).mono ?_); rintro e w12 ⟨⟨A9, c9, rfl, hT9⟩, hb12⟩; have HT9 := Lib.hid hT9; have HR12 := Lib.hid (HR11.out.below hb12); have HK12 := Lib.hid (HKq.out.below hb12); have B12 : Below b0 w w12 := B11.trans (hb12.mono s11); clear hT9; obtain ⟨t0, t1, t2, p0, p1, p2, d0, d1, d2, h0, h1, h2, lr2, l02⟩ := HR12.out))
          refine name_world ?_
          intro Wz hWz
          have R := HR12.out
          have z0 : Wz.cell? ⟨rb, 0, none⟩ = some (.int .i64 (z : Int)) := by rw [hWz]; exact (setCell_ne _ _ _ _ _ (by decide)).trans R.r0
          have z1 : Wz.cell? ⟨rb, 1, none⟩ = some (.slice A9 m c9) := by rw [hWz]; exact setCell_eq _ _ _ _ _ R.r1
          have z2 : Wz.cell? ⟨rb, 2, none⟩ = some (.bool cl) := by rw [hWz]; exact (setCell_ne _ _ _ _ _ (by decide)).trans R.r2
          have zp : Wz.cell? ⟨pb, 0, none⟩ = some (.slice A' nq c') := by rw [hWz]; exact (World.cell?_setCell_far _ _ ⟨pb, 0, none⟩ _ N2).trans HK12.out.c0
          have v0 : Wz.cell? ⟨b0, 0, none⟩ = some (.int .i64 0) := by rw [hWz]; exact (World.cell?_setCell_far _ _ ⟨b0, 0, none⟩ _ N3.symm).trans R.q0
          have v1 : Wz.cell? ⟨b0, 1, none⟩ = some (.slice none 0 0) := by rw [hWz]; exact (World.cell?_setCell_far _ _ ⟨b0, 1, none⟩ _ N3.symm).trans R.q1
          have v2 : Wz.cell? ⟨b0, 2, none⟩ = some (.bool false) := by rw [hWz]; exact (World.cell?_setCell_far _ _ ⟨b0, 2, none⟩ _ N3.symm).trans R.q2
          have y0 : Wz.frozen? ⟨b0, 0, none⟩ = false := by rw [hWz, World.frozen?_setCell]; exact R.g0
          have y1 : Wz.frozen? ⟨b0, 1, none⟩ = false := by rw [hWz, World.frozen?_setCell]; exact R.g1
          have y2 : Wz.frozen? ⟨b0, 2, none⟩ = false := by rw [hWz, World.frozen?_setCell]; exact R.g2
          have lz0 : b0 < Wz.heap.size := by rw [hWz]; simpa using R.l0
          have lzr : rb < Wz.heap.size := by rw [hWz]; simpa using R.lr
          have lzp : pb < Wz.heap.size := by rw [hWz]; simpa using HK12.out.lt
          have BZ : Below b0 w Wz := by rw [hWz]; exact Below.setCell B12 N5 _
          have HTZ : Hid (BsN b0 Wz A9 c9 (q.take m)) := Lib.hid (by
            rw [hWz]
            exact ⟨HT9.out.1.setFar _ _ (fun a e => by have := HT9.out.2 a e; dsimp only; omega), fun a e => by have := HT9.out.2 a e; omega⟩)
          have HNA : Hid (∀ a, A9 = some a → b0 ≠ a.block) := Lib.hid (fun a e => by have := HT9.out.2 a e; have := l0; omega)
          clear hWz R HT9 HR12 HK12 B12 HR11 B11 r0 r1 r2 q0 q1 q2 f0 f1 f2 g0 g1 g2 lr l0 t0 t1 t2 p0 p1 p2 d0 d1 d2 h0 h1 h2 lr2 l02 c0 c1 c2 lt CL hcast
          go_big_region
          all_goals go_wp2
          exact bodyPost_ret (v := .tuple #[.agg #[.int .i64 (z : Int), .slice A9 m c9, .bool cl], .int .i64 ((n : Int) - (nq : Int) + (m : Int)), .bool true, .int .i64 0]) (by simp [results, Tryz.results29, go_sem, *]) rfl ⟨by
            rw [HB0.out]
            unfold RespO
            rw [HG.out]
            refine ⟨A9, c9, ?_, ⟨((HTZ.out.1.setFar ⟨b0, 0, none⟩ _ HNA.out).setFar ⟨b0, 1, none⟩ _ HNA.out).setFar ⟨b0, 2, none⟩ _ HNA.out, HTZ.out.2⟩⟩
            show _ = Ending.returned (.tuple #[.agg #[.int .i64 (z : Int), .slice A9 m c9, .bool cl], .int .i64 ((l.length - q.length + m : Nat) : Int), .bool true, .int .i64 0])
            rw [HL.out, HNQ.out, HCS.out], by
            rw [HB0.out]
            refine Below.drew ?_
            repeat (first | exact BZ | refine Below.setCell ?_ (by dsimp only; exact Nat.le_refl _) _)⟩
end Go.Proofs.YtkaimfeiahogaaaGreatDoor
