/-
  The walk of SqlDepths. (Printed by tools/mksd2.py.)
-/
import Derived.Test.YtijlifdbjhieaaaGreatDoorSw1
import Derived.Test.YtijlifdbjhieaaaGreatDoorSp9
namespace Go.Proofs.YtijlifdbjhieaaaGreatDoor
set_option linter.all false
open Go.RowKit Go.Shelf Go.Sort
attribute [local go_sem] cell_set_self lt_1 lt_2 lt_3 lt_4 lt_5 lt_6

theorem info_sitem : (Tryz.prog.info? 54).map (fun i => (i.zero, i.size, i.bytes)) = some (some (.agg #[.string ⟨#[]⟩, .string ⟨#[]⟩]), 2, 32) := by kernel_rfl
theorem deepX_len : ∀ k, (deepX k).length = 4 * k
  | 0 => rfl
  | k + 1 => by simp only [deepX, List.length_append, deepX_len k]; simp; omega
theorem szc2 : (⟨#[44, 32]⟩ : ByteArray).size = 2 := rfl
theorem szc1 : (⟨#[97]⟩ : ByteArray).size = 1 := rfl
theorem manyX_succ (k : Nat) : manyX (k + 1) = (if 0 < k then manyX k ++ [44, 32] else manyX k) ++ [97] := rfl
theorem manyX_len : ∀ k, (manyX k).length ≤ 7 + 3 * k
  | 0 => by decide
  | k + 1 => by have := manyX_len k; simp only [manyX]; split <;> simp <;> omega
theorem headX_len (k : Nat) : (headX k).length = 27 + 4 * k := by
  unfold headX; rw [List.length_append, List.length_append, deepX_len]
  show 22 + 4 * k + 5 = _; omega
theorem textX_len (k : Nat) : (textX k).length ≤ 14 + 3 * k := by
  have := manyX_len k
  unfold textX; rw [List.length_append]
  show _ + 7 ≤ _; omega
theorem notN_open : ∀ k, ∃ op args l r, notN k = .mk op args l r
  | 0 => ⟨_, _, _, _, rfl⟩
  | _ + 1 => ⟨_, _, _, _, rfl⟩
theorem sh_not : ∀ k, ShC (notN k)
  | 0 => by unfold notN ShC; exact ⟨by decide, by unfold ShL; trivial⟩
  | k + 1 => by unfold notN ShC ShL; exact ⟨by decide, sh_not k, by unfold ShL; trivial⟩
theorem sh_dep (k j : Nat) (hk : k ≤ 32) (hj : j ≤ 21) : QShort (depQ k j) where
  it := fun x hx => by obtain rfl := List.eq_of_mem_replicate hx; exact ⟨by decide, by decide⟩
  tb := by show (1 : Nat) ≤ _; decide
  gr := fun x hx => nomatch hx
  od := fun x hx => nomatch hx
  wh := sh_not _
  dp := by show depthC (notN k) ≤ _; have := dep_not k; omega
  ni := by show (manyI j).length ≤ _; simp only [manyI, List.length_replicate]; omega
  ng := Nat.zero_le _
  no := Nat.zero_le _
/-- Parse, whatever it answers, its query spelled. -/
theorem parse_both (L : List UInt8) (hL : L.length ≤ 1000000000) (p er : Int) (h : okP (parseF L) = true ∧ p = 0 ∧ er = 0 ∨ ∃ n : Nat, parseF L = .no n er ∧ p = n) (w : World) (E : Env w) :
    Calls Tryz.prog 11 #[.string ⟨L.toArray⟩] w fun e w' => (∃ (xI : Option Addr) (xn xm : Nat) (xT : ByteArray) (xo : Int) (xC : Option Addr) (xcn xcc : Nat) (xu1 : ByteArray) (xlt xln : Int) (xu2 xu3 : ByteArray) (xrt xrn : Int) (xu4 : ByteArray) (xG : Option Addr) (xgn xgc : Nat) (xO : Option Addr) (xon xoc : Nat) (xlim : Int), e = .returned (.tuple #[.agg #[.slice xI xn xm, .string xT, .int .i64 xo, .slice xC xcn xcc, .string xu1, .int .i64 xlt, .int .i64 xln, .string xu2, .string xu3, .int .i64 xrt, .int .i64 xrn, .string xu4, .slice xG xgn xgc, .slice xO xon xoc, .int .i64 xlim], .int .i64 p, .int .i64 er])) ∧ Below w.heap.size w w' := by
  rcases h with ⟨h, rfl, rfl⟩ | ⟨n, h, rfl⟩
  · cases hp : parseF L with
    | no p er => rw [hp] at h; cases h
    | ok q r =>
      refine (parse_got L hL hp w E).mono ?_
      rintro e w' ⟨⟨AI, cI, AG, cG, AO, cO, cs, he, hq, -, -⟩, hb⟩
      refine ⟨?_, hb⟩
      have hcv := hq.cv
      obtain ⟨I, T, ⟨op, args, ⟨lc, lt, ln, ls⟩, ⟨rc, rt, rn, rs⟩⟩, G, O, lim⟩ := q
      obtain ⟨A, c, rfl, -⟩ := hcv.open
      exact ⟨_, _, _, _, _, _, _, _, _, _, _, _, _, _, _, _, _, _, _, _, _, _, _, he⟩
  · refine (parse_lost L hL h w E).mono fun e w' ⟨he, hb⟩ => ⟨?_, hb⟩
    exact ⟨_, _, _, _, _, _, _, _, _, _, _, _, _, _, _, _, _, _, _, _, _, _, _, he⟩
set_option maxHeartbeats 16000000 in
set_option maxRecDepth 100000 in
theorem depths_walk (a : Int) (w : World) (h1 : -9223372036854775808 ≤ a) (h2 : a ≤ 9223372036854775807) (E : Env w) :
    Calls Tryz.prog 5 #[.int .i64 a] w fun e w' => e = .returned (.bool true) ∧ Below w.heap.size w w' := by
  suffices key : ∀ Q : Ending → World → Prop, Hid (∀ w', Below w.heap.size w w' → Q (.returned (.bool true)) w') → Calls Tryz.prog 5 #[.int .i64 a] w Q from key _ (Lib.hid fun _ h => ⟨rfl, h⟩)
  intro Q HQ
  have al := fun (X : World) (o : Obj) (k : Nat) (h : k < X.heap.size) => (((Below.refl _ X).alloc (Nat.le_refl _) o).block k h)
  have HE := Lib.hid E
  have FI := Lib.hid (fun W (hb : Below w.heap.size w W) => first_any W (E.below hb))
  have NU := Lib.hid (fun e W => num_any e W)
  clear E
  go_enter Tryz.func5, Tryz.ntmps5
  go_upto_region 2 with (go_at_call 7; (with_reducible refine (FI.out _ (by repeat (first | (with_reducible assumption) | (with_reducible exact Below.refl _ _) | (with_reducible refine Below.setCell ?_ (by first | (simp; done) | (simp; omega) | omega) _) | (with_reducible refine Below.alloc ?_ (by first | (simp; done) | (simp; omega) | omega) _) | (with_reducible refine Below.drew ?_)))).mono ?_); rintro e w1 ⟨rfl, hb1⟩)
  go_cut [0] from 24 to 28 (fun v wx => wx = w1 ∧ ∃ N : Int, v = .int .i64 N ∧ (N = -1 ∨ N = 0 ∨ N = 1))
  case first =>
    have hr : a.tmod 3 = -2 ∨ a.tmod 3 = -1 ∨ a.tmod 3 = 0 ∨ a.tmod 3 = 1 ∨ a.tmod 3 = 2 := by
      have h3 := Int.tmod_lt_of_pos a (b := 3) (by decide)
      have h4 := Int.lt_tmod_of_pos a (b := 3) (by decide)
      omega
    rcases hr with hr | hr | hr | hr | hr
    all_goals (
      go_wp2_with (fail)
      go_meet
      exact ⟨rfl, _, rfl, by decide⟩)
  obtain ⟨hwc, N, rfl, hN⟩ := hcut
  subst hwc
  obtain ⟨w1, rfl⟩ : ∃ wq : World, wq = wc := ⟨_, rfl⟩
  obtain ⟨K, I, hK, hI, hKI⟩ : ∃ K I : Nat, IntKind.i64.wrap (32 + N) = (K : Int) ∧ IntKind.i64.wrap (20 + N) = (I : Int) ∧ (N = 1 ∧ K = 33 ∧ I = 21 ∨ N ≤ 0 ∧ (K = 31 ∧ I = 19 ∨ K = 32 ∧ I = 20)) := by
    rcases hN with rfl | rfl | rfl
    · exact ⟨31, 19, by decide, by decide, .inr ⟨by decide, .inl ⟨rfl, rfl⟩⟩⟩
    · exact ⟨32, 20, by decide, by decide, .inr ⟨by decide, .inr ⟨rfl, rfl⟩⟩⟩
    · exact ⟨33, 21, by decide, by decide, .inl ⟨rfl, rfl, rfl⟩⟩
  have hKb : 31 ≤ K ∧ K ≤ 33 ∧ 19 ≤ I ∧ I ≤ 21 := by omega
  have HKI := Lib.hid hKI
  obtain ⟨B4, hB4⟩ : ∃ b, w1.heap.size = b := ⟨_, rfl⟩
  have hw4 : w.heap.size ≤ B4 := by have := hb1.size; omega
  have HS1 := Lib.hid hB4
  clear hN hKI
  go_wp2_with (fail)
  go_loopw [5, 6] (fun dv iv wr => ∃ (k : Nat) (D : ByteArray) (op : Int) (A : Option Addr) (n c : Nat) (l1 : ByteArray) (l2 l3 : Int) (l4 r1 : ByteArray) (r2 r3 : Int) (r4 : ByteArray), 1 ≤ k ∧ k ≤ K ∧ iv = .int .i64 k ∧ dv = .string D ∧ Hid (D = ⟨(deepX (k - 1)).toArray⟩) ∧ D.size = 4 * (k - 1) ∧ Hid (CV (fun b => B4 < b) wr (notN (k - 1)) [.int .i64 op, .slice A n c, .string l1, .int .i64 l2, .int .i64 l3, .string l4, .string r1, .int .i64 r2, .int .i64 r3, .string r4]) ∧ Hid (wr.heap[B4]? = some (.cells #[.int .i64 op, .slice A n c, .string l1, .int .i64 l2, .int .i64 l3, .string l4, .string r1, .int .i64 r2, .int .i64 r3, .string r4] 27 (0, 0))) ∧ Hid (Below B4 w1 wr) ∧ B4 < wr.heap.size) (fun _ j _ => K - (intOf j).toNat)
  case atStart =>
    refine ⟨1, _, 4, none, 0, 0, ⟨#[97]⟩, 0, 0, ⟨#[]⟩, ⟨#[98]⟩, 0, 0, ⟨#[]⟩, by omega, by omega, rfl, rfl, Lib.hid rfl, rfl, Lib.hid ?_, Lib.hid ?_, Lib.hid ?_, ?_⟩
    · show CV _ _ (notN 0) _
      unfold notN CV
      exact ⟨none, 0, rfl, ⟨by simp, by simp⟩, fun _ => rfl, by unfold CVL; trivial⟩
    · exact heap_alloc_at HS1.out
    · repeat (first | (with_reducible exact Below.refl _ _) | (with_reducible refine Below.setCell ?_ (by dsimp only; omega) _) | (with_reducible refine Below.alloc ?_ (by have := HS1.out; omega) _))
    · have := HS1.out; first | (simp; done) | (simp; omega) | omega
  case round =>
    obtain ⟨k, D, op, A, n, c, l1, l2, l3, l4, r1, r2, r3, r4, hk1, hk, rfl, rfl, HD, hDs, HV, HB, HW, hBw⟩ := hrel
    obtain ⟨wo, rfl⟩ : ∃ wo : World, wo = wr := ⟨_, rfl⟩
    obtain ⟨⟨o0, o1, o2, o3, o4, o5, o6, o7, o8, o9⟩, of⟩ := ten_cells HB.out
    by_cases hlt : k < K
    · have hlt' : (k : Int) < (K : Int) := by omega
      have zD : ¬ 9223372036854775807 < D.size + 4 := by omega
      have hne : B4 ≠ wo.heap.size ∧ wo.heap.size ≠ B4 ∧ B4 ≠ wo.heap.size + 1 ∧ wo.heap.size + 1 ≠ B4 := by omega
      go_wp2_with (fail)
      go_roundw
      case rel =>
        refine ⟨k + 1, _, 3, some ⟨wo.heap.size + 1, 0, none⟩, 1, 1, ⟨#[]⟩, 0, 0, ⟨#[]⟩, ⟨#[]⟩, 0, 0, ⟨#[]⟩, by omega, by omega, by go_num, rfl, Lib.hid ?_, ?_, Lib.hid ?_, Lib.hid ?_, Lib.hid ?_, ?_⟩
        · rw [HD.out]
          obtain ⟨j, rfl⟩ : ∃ j, k = j + 1 := ⟨k - 1, by omega⟩
          exact cat _ _
        · simp only [ByteArray.size_append, hDs]; show _ + 4 = _; omega
        · obtain ⟨j, rfl⟩ : ∃ j, k = j + 1 := ⟨k - 1, by omega⟩
          have kv := (HV.out.mono (P' := fun b => B4 < b ∧ b < wo.heap.size) (fun b h1 h2 => ⟨h2, h1⟩))
          show CV _ _ (notN (j + 1)) _
          unfold notN CV
          refine ⟨_, _, rfl, ⟨Nat.le_refl _, by simp⟩, (fun h => by cases h), CVL.one (cx := [.int .i64 op, .slice A n c, .string l1, .int .i64 l2, .int .i64 l3, .string l4, .string r1, .int .i64 r2, .int .i64 r3, .string r4]) (by omega) ?_ ((kv.keep ?_).mono (fun b h1 h2 => h2.1))⟩
          · exact heap_alloc_at (by simp)
          · repeat (first | (with_reducible exact Kp.refl _ _) | ((with_reducible refine Kp.set ?_ (by dsimp only; omega) _)) | (with_reducible refine Kp.alloc ?_ _))
        · exact (al _ _ _ (by simp; omega)).trans ((al _ _ _ (by simp; omega)).trans (ten_set HB.out _ _ _ _ _ _ _ _ _ _))
        · repeat (first | (with_reducible exact HW.out) | (with_reducible refine Below.setCell ?_ (by dsimp only; omega) _) | (with_reducible refine Below.alloc ?_ (by first | (simp; done) | (simp; omega) | omega) _))
        · simp; omega
      case measure => first | (simp [intOf]; done) | (simp [intOf]; omega)
    · obtain rfl : K = k := by omega
      have hkk : ¬ (K : Int) < (K : Int) := by omega
      obtain ⟨B8, hB8⟩ : ∃ b, wo.heap.size = b := ⟨_, rfl⟩
      have hw8 : B4 < B8 := by omega
      have HS8 := Lib.hid hB8
      obtain ⟨i, hi, iz0, iz1, iz2⟩ := info_parts info_sitem
      obtain ⟨w3, rfl⟩ : ∃ w3 : World, w3 = wo := ⟨_, rfl⟩
      go_wp2_with (fail)
      clear hK
      go_loopw [9, 10] (fun dv iv wr => ∃ (k : Nat) (X : ByteArray) (V : Value), k ≤ I ∧ iv = .int .i64 k ∧ dv = .string X ∧ Hid (X = ⟨(manyX k).toArray⟩) ∧ X.size ≤ 7 + 3 * k ∧ Hid (wr.ownsRow (B8 + 1) 54 2 V k (cellsI (manyI k))) ∧ Hid (wr.heap[B8]? = some (.cells #[V, .string ⟨#[116]⟩, .int .i64 op, .slice A n c, .string l1, .int .i64 l2, .int .i64 l3, .string l4, .string r1, .int .i64 r2, .int .i64 r3, .string r4, .slice none 0 0, .slice none 0 0, .int .i64 (-1)] 31 (0, 0))) ∧ Hid (Below B8 w3 wr) ∧ B8 < wr.heap.size) (fun _ j _ => I - (intOf j).toNat)
      case atStart =>
        refine ⟨0, _, .slice none 0 0, by omega, rfl, rfl, Lib.hid rfl, by decide, Lib.hid (World.ownsRow_nil _ _ _ _), Lib.hid ?_, Lib.hid ?_, ?_⟩
        · exact heap_alloc_at HS8.out
        · repeat (first | (with_reducible exact Below.refl _ _) | (with_reducible refine Below.setCell ?_ (by dsimp only; omega) _) | (with_reducible refine Below.alloc ?_ (by have := HS8.out; omega) _))
        · have := HS8.out; first | (simp; done) | (simp; omega) | omega
      case round =>
        obtain ⟨k, X, V, hk, rfl, rfl, HX, hXs, HR, HB8, HW8, hB8w⟩ := hrel
        obtain ⟨wo, rfl⟩ : ∃ wo : World, wo = wr := ⟨_, rfl⟩
        obtain ⟨A2, c2, rfl⟩ := own_form HR.out
        obtain ⟨p0, f0⟩ := qbox (l := [.slice A2 k c2, .string ⟨#[116]⟩, .int .i64 op, .slice A n c, .string l1, .int .i64 l2, .int .i64 l3, .string l4, .string r1, .int .i64 r2, .int .i64 r3, .string r4, .slice none 0 0, .slice none 0 0, .int .i64 (-1)]) HB8.out 0 _ rfl
        by_cases hlt : k < I
        · have hlt' : (k : Int) < (I : Int) := by omega
          have zX : ¬ 9223372036854775807 < X.size + 2 := by omega
          have zX1 : ¬ 9223372036854775807 < X.size + 1 := by omega
          have zX2 : ¬ 9223372036854775807 < X.size + 2 + 1 := by omega
          have hm1 : Hid (cellsI (manyI (k + 1)) = cellsI (manyI k) ++ [.string ⟨#[]⟩, .string ⟨#[97]⟩]) := Lib.hid (by unfold manyI; rw [List.replicate_succ']; exact cellsI_app _ _)
          obtain ⟨xs, hxs⟩ : ∃ xs, cellsI (manyI k) = xs := ⟨_, rfl⟩
          rw [hxs] at HR hm1
          clear hxs
          by_cases h0 : 0 < k
          · have h0' : 0 < (k : Int) := by omega
            have HX2 : Hid (X ++ (⟨#[44, 32]⟩ : ByteArray) ++ ⟨#[97]⟩ = ⟨(manyX (k + 1)).toArray⟩) := Lib.hid (by rw [HX.out]; rw [manyX_succ, if_pos h0]; exact (congrArg (· ++ _) (cat _ _)).trans (cat _ _))
            clear h0
            go_wp2_with (first | ((at_builtin; refine wpList_append_lies _ rfl _ _ _ rfl (B8 + 1) 54 i _ 2 32 Tryz.underlying22 hi iz0 iz1 iz2 rfl (by decide) (.slice A2 k c2) (k) _ rfl (HR.out.alloc _) ⟨wo.heap.size, 0, none⟩ 1 1 [.string ⟨#[]⟩, .string ⟨#[97]⟩] rfl rfl (World.news_of_block (cs := #[.string ⟨#[]⟩, .string ⟨#[97]⟩]) (t := 54) (fr := (0, 0)) (heap_alloc_new wo _)) (by simp [Value.oneCell']) (by omega) (by unfold maxLen; omega) (by omega) (by simp; omega) (wo.heap.size + 1) (by simp) ?_; intro gg cap w1' hown1 hgrow hat hlt'); have HB9 : w1'.heap[B8]? = _ := (hgrow.block B8 (by simp; omega) (fun e => by have := (HR.out.lt B8 e.symm).1; omega)).trans ((al _ _ _ (by omega)).trans HB8.out); obtain ⟨p9, f9⟩ := qbox (l := [.slice A2 k c2, .string ⟨#[116]⟩, .int .i64 op, .slice A n c, .string l1, .int .i64 l2, .int .i64 l3, .string l4, .string r1, .int .i64 r2, .int .i64 r3, .string r4, .slice none 0 0, .slice none 0 0, .int .i64 (-1)]) HB9 0 _ rfl; have HB9H := Lib.hid HB9; clear HB9))
            go_roundw
            case rel =>
              refine ⟨k + 1, _, _, by omega, by go_num, rfl, HX2, by simp only [ByteArray.size_append, szc2, szc1]; omega, Lib.hid (own_set (by rw [hm1.out]; exact hown1) (by omega) _ _), Lib.hid (set_at HB9H.out 0 _), Lib.hid ?_, by have := hgrow.size; simp at this ⊢; omega⟩
              exact Below.setCell (below_push HW8.out (by omega) hgrow (fun j hj => by have := (HR.out.lt j hj).1; omega)) (by dsimp only; omega) _
            case measure => first | (simp [intOf]; done) | (simp [intOf]; omega)
          · have h0' : ¬ 0 < (k : Int) := by omega
            have HX2 : Hid (X ++ (⟨#[97]⟩ : ByteArray) = ⟨(manyX (k + 1)).toArray⟩) := Lib.hid (by rw [HX.out, manyX_succ, if_neg h0]; exact cat _ _)
            clear h0
            go_wp2_with (first | ((at_builtin; refine wpList_append_lies _ rfl _ _ _ rfl (B8 + 1) 54 i _ 2 32 Tryz.underlying22 hi iz0 iz1 iz2 rfl (by decide) (.slice A2 k c2) (k) _ rfl (HR.out.alloc _) ⟨wo.heap.size, 0, none⟩ 1 1 [.string ⟨#[]⟩, .string ⟨#[97]⟩] rfl rfl (World.news_of_block (cs := #[.string ⟨#[]⟩, .string ⟨#[97]⟩]) (t := 54) (fr := (0, 0)) (heap_alloc_new wo _)) (by simp [Value.oneCell']) (by omega) (by unfold maxLen; omega) (by omega) (by simp; omega) (wo.heap.size + 1) (by simp) ?_; intro gg cap w1' hown1 hgrow hat hlt'); have HB9 : w1'.heap[B8]? = _ := (hgrow.block B8 (by simp; omega) (fun e => by have := (HR.out.lt B8 e.symm).1; omega)).trans ((al _ _ _ (by omega)).trans HB8.out); obtain ⟨p9, f9⟩ := qbox (l := [.slice A2 k c2, .string ⟨#[116]⟩, .int .i64 op, .slice A n c, .string l1, .int .i64 l2, .int .i64 l3, .string l4, .string r1, .int .i64 r2, .int .i64 r3, .string r4, .slice none 0 0, .slice none 0 0, .int .i64 (-1)]) HB9 0 _ rfl; have HB9H := Lib.hid HB9; clear HB9))
            go_roundw
            case rel =>
              refine ⟨k + 1, _, _, by omega, by go_num, rfl, HX2, by simp only [ByteArray.size_append, szc2, szc1]; omega, Lib.hid (own_set (by rw [hm1.out]; exact hown1) (by omega) _ _), Lib.hid (set_at HB9H.out 0 _), Lib.hid ?_, by have := hgrow.size; simp at this ⊢; omega⟩
              exact Below.setCell (below_push HW8.out (by omega) hgrow (fun j hj => by have := (HR.out.lt j hj).1; omega)) (by dsimp only; omega) _
            case measure => first | (simp [intOf]; done) | (simp [intOf]; omega)
        · obtain rfl : I = k := by omega
          have hii : ¬ (I : Int) < (I : Int) := by omega
          obtain ⟨w5, rfl⟩ : ∃ w5 : World, w5 = wo := ⟨_, rfl⟩
          obtain ⟨g, hA2, hcap⟩ : ∃ g, A2 = some ⟨g, 0, none⟩ ∧ I ≤ c2 := by
            rcases HR.out.2 with ⟨e, h0⟩ | ⟨g, cap, cur, e, -, hh, h3, -⟩
            · omega
            · injection e with e1 e2 e3; exact ⟨g, e1, by omega⟩
          subst hA2
          have hBo : Below w.heap.size w w5 := (hb1.trans (HW.out.mono (by omega))).trans (HW8.out.mono (by omega))
          have hso := hBo.size
          have hlen : (manyI I).length = I := by simp [manyI]
          have hIT := own_items (A := some ⟨g, 0, none⟩) (n := I) (c := c2) (l := manyI I) (by rw [hlen]; exact HR.out)
          have hCV5 := HV.out.keep (Kp.below (by rw [HS8.out]; exact HW8.out : Below w3.heap.size w3 w5))
          have hK1 : K - 1 ≤ 32 := by have := hKb.2.1; omega
          have hLH : (headX (K - 1)).length ≤ 1000000000 := by have := headX_len (K - 1); omega
          have hLT : (textX I).length ≤ 1000000000 := by have := textX_len I; omega
          obtain ⟨e1, e2, e3, e4, p3, p4, he1, he2, h3, h4, hl1, hl2, hbad, hgood⟩ := dep_facts N K I HKI.out
          have SHQ : ∀ j : Nat, j ≤ 21 → QShort (depQ (K - 1) j) := fun j hj => sh_dep _ _ hK1 hj
          obtain ⟨op', args', l', r', hop⟩ := notN_open (K - 1)
          have QVW : ∀ j : Nat, j ≤ I → ∀ W, Below w5.heap.size w5 W → QV W (depQ (K - 1) j) (some ⟨g, 0, none⟩) none none [.int .i64 op, .slice A n c, .string l1, .int .i64 l2, .int .i64 l3, .string l4, .string r1, .int .i64 r2, .int .i64 r3, .string r4] := fun j hj W hb => by
            refine ⟨?_, fun i x h => (by cases h), fun i x h => (by cases h), (hCV5.keep (Kp.below hb)).mono fun _ _ _ => trivial⟩
            intro i x hx
            refine (hIT.1.below hb) i x ?_
            have hx' : (manyI j)[i]? = some x := hx
            unfold manyI at hx' ⊢
            rw [List.getElem?_replicate] at hx' ⊢
            split at hx' <;> rename_i hi
            · rw [if_pos (by omega)]; exact hx'
            · cases hx'
          have FM1 : Hid (∀ W, Below w.heap.size w W → Below w5.heap.size w5 W → Calls Tryz.prog 9 #[.agg #[.slice (some ⟨g, 0, none⟩) 1 c2, .string ⟨#[116]⟩, .int .i64 op, .slice A n c, .string l1, .int .i64 l2, .int .i64 l3, .string l4, .string r1, .int .i64 r2, .int .i64 r3, .string r4, .slice none 0 0, .slice none 0 0, .int .i64 (-1)]] W fun e w' => e = .returned (.tuple #[.string ⟨(formatX (depQ (K - 1) 1)).toArray⟩, .int .i64 e1]) ∧ Below W.heap.size W w') := Lib.hid fun W hb hb' => by
            have h := format_any (depQ (K - 1) 1) (some ⟨g, 0, none⟩) none none c2 0 0 [.int .i64 op, .slice A n c, .string l1, .int .i64 l2, .int .i64 l3, .string l4, .string r1, .int .i64 r2, .int .i64 r3, .string r4] W (QVW 1 (by omega) W hb') (SHQ 1 (by omega)) (HE.out.below hb) (Nat.le_refl 0) (fun _ => hl1)
            rw [he1] at h
            exact h
          have FM2 : Hid (∀ W, Below w.heap.size w W → Below w5.heap.size w5 W → Calls Tryz.prog 9 #[.agg #[.slice (some ⟨g, 0, none⟩) I c2, .string ⟨#[116]⟩, .int .i64 op, .slice A n c, .string l1, .int .i64 l2, .int .i64 l3, .string l4, .string r1, .int .i64 r2, .int .i64 r3, .string r4, .slice none 0 0, .slice none 0 0, .int .i64 (-1)]] W fun e w' => e = .returned (.tuple #[.string ⟨(formatX (depQ (K - 1) I)).toArray⟩, .int .i64 e2]) ∧ Below W.heap.size W w') := Lib.hid fun W hb hb' => by
            have h := format_any (depQ (K - 1) I) (some ⟨g, 0, none⟩) none none c2 0 0 [.int .i64 op, .slice A n c, .string l1, .int .i64 l2, .int .i64 l3, .string l4, .string r1, .int .i64 r2, .int .i64 r3, .string r4] W (QVW I (by omega) W hb') (SHQ I (by omega)) (HE.out.below hb) (Nat.le_refl 0) (fun _ => hl2)
            rw [he2] at h
            have e0 : (depQ (K - 1) I).items.length = I := hlen
            rw [e0] at h
            exact h
          obtain ⟨X1, hX1⟩ : ∃ x : ByteArray, (⟨(formatX (depQ (K - 1) 1)).toArray⟩ : ByteArray) = x := ⟨_, rfl⟩
          obtain ⟨X2, hX2⟩ : ∃ x : ByteArray, (⟨(formatX (depQ (K - 1) I)).toArray⟩ : ByteArray) = x := ⟨_, rfl⟩
          rw [hX1] at FM1
          rw [hX2] at FM2
          have hHD : (⟨#[115, 101, 108, 101, 99, 116, 32, 97, 32, 102, 114, 111, 109, 32, 116, 32, 119, 104, 101, 114, 101, 32]⟩ : ByteArray) ++ D ++ ⟨#[97, 32, 61, 32, 98]⟩ = ⟨(headX (K - 1)).toArray⟩ := by rw [HD.out]; exact (congrArg (· ++ _) (cat _ _)).trans (cat _ _)
          have hTX : X ++ (⟨#[32, 102, 114, 111, 109, 32, 116]⟩ : ByteArray) = ⟨(textX I).toArray⟩ := by rw [HX.out]; exact cat _ _
          have PH := Lib.hid (fun W (hb : Below w.heap.size w W) => parse_both (headX (K - 1)) hLH p3 e3 h3 W (HE.out.below hb))
          have PT := Lib.hid (fun W (hb : Below w.heap.size w W) => parse_both (textX I) hLT p4 e4 h4 W (HE.out.below hb))
          rw [← hHD] at PH
          rw [← hTX] at PT
          have HBAD := Lib.hid hbad
          have HGOOD : Hid (¬ 0 < N → e1 = 0 ∧ X1 = (⟨#[115, 101, 108, 101, 99, 116, 32, 97, 32, 102, 114, 111, 109, 32, 116, 32, 119, 104, 101, 114, 101, 32]⟩ : ByteArray) ++ D ++ ⟨#[97, 32, 61, 32, 98]⟩ ∧ e2 = 0 ∧ e3 = 0 ∧ e4 = 0) := Lib.hid fun h => by
            obtain ⟨a1, a2, a3⟩ := hgood h
            exact ⟨a1, by rw [hHD, ← hX1, a2], a3⟩
          have HDS := Lib.hid hDs
          have zD1 : ¬ 9223372036854775807 < 22 + D.size := by omega
          have zD2 : ¬ 9223372036854775807 < 22 + D.size + 5 := by omega
          have zX7 : ¬ 9223372036854775807 < X.size + 7 := by omega
          obtain ⟨q0, qf0⟩ := qbox (l := [.slice (some ⟨g, 0, none⟩) I c2, .string ⟨#[116]⟩, .int .i64 op, .slice A n c, .string l1, .int .i64 l2, .int .i64 l3, .string l4, .string r1, .int .i64 r2, .int .i64 r3, .string r4, .slice none 0 0, .slice none 0 0, .int .i64 (-1)]) HB8.out 0 _ rfl
          obtain ⟨q1, qf1⟩ := qbox (l := [.slice (some ⟨g, 0, none⟩) I c2, .string ⟨#[116]⟩, .int .i64 op, .slice A n c, .string l1, .int .i64 l2, .int .i64 l3, .string l4, .string r1, .int .i64 r2, .int .i64 r3, .string r4, .slice none 0 0, .slice none 0 0, .int .i64 (-1)]) HB8.out 1 _ rfl
          obtain ⟨q2, qf2⟩ := qbox (l := [.slice (some ⟨g, 0, none⟩) I c2, .string ⟨#[116]⟩, .int .i64 op, .slice A n c, .string l1, .int .i64 l2, .int .i64 l3, .string l4, .string r1, .int .i64 r2, .int .i64 r3, .string r4, .slice none 0 0, .slice none 0 0, .int .i64 (-1)]) HB8.out 2 _ rfl
          obtain ⟨q3, qf3⟩ := qbox (l := [.slice (some ⟨g, 0, none⟩) I c2, .string ⟨#[116]⟩, .int .i64 op, .slice A n c, .string l1, .int .i64 l2, .int .i64 l3, .string l4, .string r1, .int .i64 r2, .int .i64 r3, .string r4, .slice none 0 0, .slice none 0 0, .int .i64 (-1)]) HB8.out 3 _ rfl
          obtain ⟨q4, qf4⟩ := qbox (l := [.slice (some ⟨g, 0, none⟩) I c2, .string ⟨#[116]⟩, .int .i64 op, .slice A n c, .string l1, .int .i64 l2, .int .i64 l3, .string l4, .string r1, .int .i64 r2, .int .i64 r3, .string r4, .slice none 0 0, .slice none 0 0, .int .i64 (-1)]) HB8.out 4 _ rfl
          obtain ⟨q5, qf5⟩ := qbox (l := [.slice (some ⟨g, 0, none⟩) I c2, .string ⟨#[116]⟩, .int .i64 op, .slice A n c, .string l1, .int .i64 l2, .int .i64 l3, .string l4, .string r1, .int .i64 r2, .int .i64 r3, .string r4, .slice none 0 0, .slice none 0 0, .int .i64 (-1)]) HB8.out 5 _ rfl
          obtain ⟨q6, qf6⟩ := qbox (l := [.slice (some ⟨g, 0, none⟩) I c2, .string ⟨#[116]⟩, .int .i64 op, .slice A n c, .string l1, .int .i64 l2, .int .i64 l3, .string l4, .string r1, .int .i64 r2, .int .i64 r3, .string r4, .slice none 0 0, .slice none 0 0, .int .i64 (-1)]) HB8.out 6 _ rfl
          obtain ⟨q7, qf7⟩ := qbox (l := [.slice (some ⟨g, 0, none⟩) I c2, .string ⟨#[116]⟩, .int .i64 op, .slice A n c, .string l1, .int .i64 l2, .int .i64 l3, .string l4, .string r1, .int .i64 r2, .int .i64 r3, .string r4, .slice none 0 0, .slice none 0 0, .int .i64 (-1)]) HB8.out 7 _ rfl
          obtain ⟨q8, qf8⟩ := qbox (l := [.slice (some ⟨g, 0, none⟩) I c2, .string ⟨#[116]⟩, .int .i64 op, .slice A n c, .string l1, .int .i64 l2, .int .i64 l3, .string l4, .string r1, .int .i64 r2, .int .i64 r3, .string r4, .slice none 0 0, .slice none 0 0, .int .i64 (-1)]) HB8.out 8 _ rfl
          obtain ⟨q9, qf9⟩ := qbox (l := [.slice (some ⟨g, 0, none⟩) I c2, .string ⟨#[116]⟩, .int .i64 op, .slice A n c, .string l1, .int .i64 l2, .int .i64 l3, .string l4, .string r1, .int .i64 r2, .int .i64 r3, .string r4, .slice none 0 0, .slice none 0 0, .int .i64 (-1)]) HB8.out 9 _ rfl
          obtain ⟨q10, qf10⟩ := qbox (l := [.slice (some ⟨g, 0, none⟩) I c2, .string ⟨#[116]⟩, .int .i64 op, .slice A n c, .string l1, .int .i64 l2, .int .i64 l3, .string l4, .string r1, .int .i64 r2, .int .i64 r3, .string r4, .slice none 0 0, .slice none 0 0, .int .i64 (-1)]) HB8.out 10 _ rfl
          obtain ⟨q11, qf11⟩ := qbox (l := [.slice (some ⟨g, 0, none⟩) I c2, .string ⟨#[116]⟩, .int .i64 op, .slice A n c, .string l1, .int .i64 l2, .int .i64 l3, .string l4, .string r1, .int .i64 r2, .int .i64 r3, .string r4, .slice none 0 0, .slice none 0 0, .int .i64 (-1)]) HB8.out 11 _ rfl
          obtain ⟨q12, qf12⟩ := qbox (l := [.slice (some ⟨g, 0, none⟩) I c2, .string ⟨#[116]⟩, .int .i64 op, .slice A n c, .string l1, .int .i64 l2, .int .i64 l3, .string l4, .string r1, .int .i64 r2, .int .i64 r3, .string r4, .slice none 0 0, .slice none 0 0, .int .i64 (-1)]) HB8.out 12 _ rfl
          obtain ⟨q13, qf13⟩ := qbox (l := [.slice (some ⟨g, 0, none⟩) I c2, .string ⟨#[116]⟩, .int .i64 op, .slice A n c, .string l1, .int .i64 l2, .int .i64 l3, .string l4, .string r1, .int .i64 r2, .int .i64 r3, .string r4, .slice none 0 0, .slice none 0 0, .int .i64 (-1)]) HB8.out 13 _ rfl
          obtain ⟨q14, qf14⟩ := qbox (l := [.slice (some ⟨g, 0, none⟩) I c2, .string ⟨#[116]⟩, .int .i64 op, .slice A n c, .string l1, .int .i64 l2, .int .i64 l3, .string l4, .string r1, .int .i64 r2, .int .i64 r3, .string r4, .slice none 0 0, .slice none 0 0, .int .i64 (-1)]) HB8.out 14 _ rfl
          have hcc : (1 : Int) ≤ (c2 : Int) ∧ 1 ≤ c2 := by omega
          clear hbad hgood he1 he2 h3 h4 hl1 hl2 hLH hLT hK1 SHQ hop hlen hIT hCV5 QVW hX1 hX2 hHD hTX HR HX HD HB8 HV HB HW HW8 HKI hDs hb1 p0 f0
          go_wp2_with (fail)
          go_at_call 9
          refine (FM1.out _ (by repeat (first | (with_reducible assumption) | (with_reducible exact Below.refl _ _) | (with_reducible refine Below.setCell ?_ (by first | (simp; done) | (simp; omega) | omega) _) | (with_reducible refine Below.alloc ?_ (by first | (simp; done) | (simp; omega) | omega) _))) (by repeat (first | (with_reducible assumption) | (with_reducible exact Below.refl _ _) | (with_reducible refine Below.setCell ?_ (by first | (simp; done) | (simp; omega) | omega) _) | (with_reducible refine Below.alloc ?_ (by first | (simp; done) | (simp; omega) | omega) _)))).mono ?_
          rintro e w6 ⟨rfl, hb6⟩
          obtain ⟨hc6, hf6⟩ := bcell hb6; (try simp only [drew_size, drew_cell, drew_frozen, World.size_alloc, World.size_setCell] at hc6 hf6); have hz6 : B8 < w6.heap.size := (by have := hb6.size; (try simp at this); omega)
          have hB6 : Below w.heap.size w w6 := (by refine Below.trans ?_ (hb6.mono (by first | (simp; done) | (simp; omega) | omega)); repeat (first | (with_reducible assumption) | (with_reducible exact Below.refl _ _) | (with_reducible refine Below.setCell ?_ (by first | (simp; done) | (simp; omega) | omega) _) | (with_reducible refine Below.alloc ?_ (by first | (simp; done) | (simp; omega) | omega) _) | (with_reducible refine Below.drew ?_))); have hs6 := hB6.size
          have hC6 : Below w5.heap.size w5 w6 := (by refine Below.trans ?_ (hb6.mono (by first | (simp; done) | (simp; omega) | omega)); repeat (first | (with_reducible assumption) | (with_reducible exact Below.refl _ _) | (with_reducible refine Below.setCell ?_ (by first | (simp; done) | (simp; omega) | omega) _) | (with_reducible refine Below.alloc ?_ (by first | (simp; done) | (simp; omega) | omega) _) | (with_reducible refine Below.drew ?_))); have ht6 := hC6.size
          skip
          go_wp2_with (fail)
          go_at_call 9
          refine (FM2.out _ (by repeat (first | (with_reducible assumption) | (with_reducible exact Below.refl _ _) | (with_reducible refine Below.setCell ?_ (by first | (simp; done) | (simp; omega) | omega) _) | (with_reducible refine Below.alloc ?_ (by first | (simp; done) | (simp; omega) | omega) _))) (by repeat (first | (with_reducible assumption) | (with_reducible exact Below.refl _ _) | (with_reducible refine Below.setCell ?_ (by first | (simp; done) | (simp; omega) | omega) _) | (with_reducible refine Below.alloc ?_ (by first | (simp; done) | (simp; omega) | omega) _)))).mono ?_
          rintro e w7 ⟨rfl, hb7⟩
          obtain ⟨hc7, hf7⟩ := bcell hb7; (try simp only [drew_size, drew_cell, drew_frozen, World.size_alloc, World.size_setCell] at hc7 hf7); have hz7 : B8 < w7.heap.size := (by have := hb7.size; (try simp at this); omega)
          have hB7 : Below w.heap.size w w7 := (by refine Below.trans ?_ (hb7.mono (by first | (simp; done) | (simp; omega) | omega)); repeat (first | (with_reducible assumption) | (with_reducible exact Below.refl _ _) | (with_reducible refine Below.setCell ?_ (by first | (simp; done) | (simp; omega) | omega) _) | (with_reducible refine Below.alloc ?_ (by first | (simp; done) | (simp; omega) | omega) _) | (with_reducible refine Below.drew ?_))); have hs7 := hB7.size
          have hC7 : Below w5.heap.size w5 w7 := (by refine Below.trans ?_ (hb7.mono (by first | (simp; done) | (simp; omega) | omega)); repeat (first | (with_reducible assumption) | (with_reducible exact Below.refl _ _) | (with_reducible refine Below.setCell ?_ (by first | (simp; done) | (simp; omega) | omega) _) | (with_reducible refine Below.alloc ?_ (by first | (simp; done) | (simp; omega) | omega) _) | (with_reducible refine Below.drew ?_))); have ht7 := hC7.size
          clear FM1 FM2
          go_wp2_with (fail)
          go_at_call 11
          refine (PH.out _ (by repeat (first | (with_reducible assumption) | (with_reducible exact Below.refl _ _) | (with_reducible refine Below.setCell ?_ (by first | (simp; done) | (simp; omega) | omega) _) | (with_reducible refine Below.alloc ?_ (by first | (simp; done) | (simp; omega) | omega) _)))).mono ?_
          rintro e w8 ⟨⟨xI8, xn8, xm8, xT8, xo8, xC8, xcn8, xcc8, xu18, xlt8, xln8, xu28, xu38, xrt8, xrn8, xu48, xG8, xgn8, xgc8, xO8, xon8, xoc8, xlim8, rfl⟩, hb8⟩
          obtain ⟨hc8, hf8⟩ := bcell hb8; (try simp only [drew_size, drew_cell, drew_frozen, World.size_alloc, World.size_setCell] at hc8 hf8); have hz8 : B8 < w8.heap.size := (by have := hb8.size; (try simp at this); omega)
          have hB8 : Below w.heap.size w w8 := (by refine Below.trans ?_ (hb8.mono (by first | (simp; done) | (simp; omega) | omega)); repeat (first | (with_reducible assumption) | (with_reducible exact Below.refl _ _) | (with_reducible refine Below.setCell ?_ (by first | (simp; done) | (simp; omega) | omega) _) | (with_reducible refine Below.alloc ?_ (by first | (simp; done) | (simp; omega) | omega) _) | (with_reducible refine Below.drew ?_))); have hs8 := hB8.size
          clear PH
          go_wp2_with (fail)
          go_at_call 11
          refine (PT.out _ (by repeat (first | (with_reducible assumption) | (with_reducible exact Below.refl _ _) | (with_reducible refine Below.setCell ?_ (by first | (simp; done) | (simp; omega) | omega) _) | (with_reducible refine Below.alloc ?_ (by first | (simp; done) | (simp; omega) | omega) _)))).mono ?_
          rintro e w9 ⟨⟨xI9, xn9, xm9, xT9, xo9, xC9, xcn9, xcc9, xu19, xlt9, xln9, xu29, xu39, xrt9, xrn9, xu49, xG9, xgn9, xgc9, xO9, xon9, xoc9, xlim9, rfl⟩, hb9⟩
          obtain ⟨hc9, hf9⟩ := bcell hb9; (try simp only [drew_size, drew_cell, drew_frozen, World.size_alloc, World.size_setCell] at hc9 hf9); have hz9 : B8 < w9.heap.size := (by have := hb9.size; (try simp at this); omega)
          have hB9 : Below w.heap.size w w9 := (by refine Below.trans ?_ (hb9.mono (by first | (simp; done) | (simp; omega) | omega)); repeat (first | (with_reducible assumption) | (with_reducible exact Below.refl _ _) | (with_reducible refine Below.setCell ?_ (by first | (simp; done) | (simp; omega) | omega) _) | (with_reducible refine Below.alloc ?_ (by first | (simp; done) | (simp; omega) | omega) _) | (with_reducible refine Below.drew ?_))); have hs9 := hB9.size
          clear PT
          go_upto_if 96 with (fail)
          by_cases hN : 0 < N
          · obtain ⟨rfl, rfl, rfl, rfl, rfl, rfl, hKK⟩ := HBAD.out hN
            have hDD : D.size = 128 := by rw [HDS.out, hKK]
            clear hKK HBAD HGOOD
            go_wp2_with (first | (go_at_call 10; (with_reducible refine (NU.out _ _).mono ?_); rintro e wa ⟨rfl, hba⟩; have hBa : Below w.heap.size w wa := (by refine Below.trans ?_ (hba.mono (by first | (simp; done) | (simp; omega) | omega)); repeat (first | (with_reducible assumption) | (with_reducible exact Below.refl _ _) | (with_reducible refine Below.setCell ?_ (by first | (simp; done) | (simp; omega) | omega) _) | (with_reducible refine Below.alloc ?_ (by first | (simp; done) | (simp; omega) | omega) _))); have hsa := hBa.size))
            exact HQ.out _ (by assumption)
          · obtain ⟨rfl, rfl, rfl, rfl, rfl⟩ := HGOOD.out (by omega)
            clear HBAD HGOOD
            go_wp2_with (first | (go_at_call 10; (with_reducible refine (NU.out _ _).mono ?_); rintro e wa ⟨rfl, hba⟩; have hBa : Below w.heap.size w wa := (by refine Below.trans ?_ (hba.mono (by first | (simp; done) | (simp; omega) | omega)); repeat (first | (with_reducible assumption) | (with_reducible exact Below.refl _ _) | (with_reducible refine Below.setCell ?_ (by first | (simp; done) | (simp; omega) | omega) _) | (with_reducible refine Below.alloc ?_ (by first | (simp; done) | (simp; omega) | omega) _))); have hsa := hBa.size))
            exact HQ.out _ (by assumption)



end Go.Proofs.YtijlifdbjhieaaaGreatDoor
