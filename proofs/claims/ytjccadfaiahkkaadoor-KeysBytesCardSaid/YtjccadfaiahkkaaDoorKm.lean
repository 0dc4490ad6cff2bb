/-
  Contract of decodeText.
-/
import Derived.Test.YtjccadfaiahkkaaDoorKl
import Derived.Laws.AppendOwn
import Derived.Lib.AppendStr
import Derived.Laws.IdiomStrings
import Derived.Laws.BytesArg
namespace Go.Proofs.YtjccadfaiahkkaaDoor
set_option linter.all false
open Go.RowKit
attribute [local go_sem] cell_set_self lt_1 lt_2 lt_3 lt_4 lt_5 lt_6

theorem conv_own {w : World} {base : Nat} {v : Value} {n : Nat} {l : List UInt8} (h : w.ownsRow base 5 1 v n (Lib.byteCells l)) : (convert 53 9 v).run Tryd.prog w = .ok (.string ⟨l.toArray⟩) w := by
  have hl : l.length = n := by have := h.1; simpa [Lib.byteCells] using this
  rcases h.2 with ⟨rfl, h0⟩ | ⟨g, cap, cur, rfl, _⟩
  · obtain rfl : l = [] := List.eq_nil_of_length_eq_zero (by omega)
    exact (run_convert_bytes_nil w 53 5 Tryd.underlying53 Tryd.underlying5 0 0 9 Tryd.underlying9).trans rfl
  · subst hl
    refine run_convert_bytes_back (P := Tryd.prog) _ 53 9 5 ⟨g, 0, none⟩ cap l Tryd.underlying53 Tryd.underlying5 Tryd.underlying9 (fun j hj => ?_)
    have := h.cells (g := g) rfl j (.int .u8 (l[j].toNat : Int)) (by simp [Lib.byteCells, hj])
    simpa using this

/-- What decodeText answers. -/
def dtV (o : Option (List UInt8 × List UInt8)) : Value := match o with
  | none => .tuple #[.agg #[.int .i64 0, .int .i64 0, .string ⟨#[]⟩], .string ⟨#[]⟩, .bool false]
  | some (x, r) => .tuple #[.agg #[.int .i64 2, .int .i64 0, .string ⟨x.toArray⟩], .string ⟨r.toArray⟩, .bool true]
def DtRel (w wr : World) (s t acc : List UInt8) (bv : Value) : Prop :=
  acc.length + t.length ≤ s.length ∧ wr.ownsRow (w.heap.size + 1) 5 1 bv acc.length (Lib.byteCells acc) ∧ decT s = (decT t).map (fun x => (acc ++ x.1, x.2)) ∧
    wr.heap[w.heap.size]? = some (.cells #[.int .i64 0, .int .i64 0, .string ⟨#[]⟩] 42 (0, 0)) ∧ Below w.heap.size w wr ∧ w.heap.size < wr.heap.size
theorem ext_front (z r : List UInt8) : (⟨(z ++ r).toArray⟩ : ByteArray).extract 0 z.length = ⟨z.toArray⟩ := by
  apply ByteArray.ext
  simp
theorem ext_back (z r : List UInt8) : (⟨(z ++ r).toArray⟩ : ByteArray).extract z.length (z.length + r.length) = ⟨r.toArray⟩ := by
  apply ByteArray.ext
  simp
set_option maxHeartbeats 1000000 in
set_option maxRecDepth 100000 in
theorem decodeText_any (s : List UInt8) (hs : s.length ≤ 1000000) (w : World) : Calls Tryd.prog 32 #[.string ⟨s.toArray⟩] w fun e w' => e = .returned (dtV (decT s)) ∧ Below w.heap.size w w' := by
  obtain ⟨i0, hi0, hz0, hz1, hz2⟩ := info_parts Tryd.infoByte
  have CI := Lib.hid (fun x W => Tryd.strings_IndexByte x 0 W)
  have CC := Lib.hid (fun x y W => Tryd.strings_CutPrefix x y W)
  have CT := Lib.hid (fun x W => text_any x W)
  go_enter Tryd.func32, Tryd.ntmps32
  go_wp2
  go_loopw [0, 5] (fun sv bv wr => ∃ t acc, sv = .string ⟨t.toArray⟩ ∧ DtRel w wr s t acc bv) (fun sv _ _ => match sv with | .string x => x.size | _ => 0)
  case atStart =>
    refine ⟨s, [], rfl, by simp, World.ownsRow_nil _ _ _ _, by cases decT s <;> simp, heap_alloc_new _ _, (by repeat (first | exact Below.refl _ _ | refine Below.setCell ?_ (by first | (simp; done) | (simp; omega) | omega) _ | refine Below.alloc ?_ (by first | (simp; done) | (simp; omega) | omega) _ | refine Below.drew ?_ | assumption | refine Below.trans ?_ (Below.mono (by assumption) (by first | (simp; done) | (simp; omega) | omega)))), by simp⟩
  case round =>
    obtain ⟨t, acc, rfl, hlen, hown, hdec, hbk, hbl, hz⟩ := hrel
    obtain ⟨wo, rfl⟩ : ∃ wo : World, wo = wr := ⟨_, rfl⟩
    have d0 : wo.cell? ⟨w.heap.size, 0, none⟩ = some (.int .i64 0) := by rw [Lib.cell_of_heap hbk]; rfl
    have d1 : wo.cell? ⟨w.heap.size, 1, none⟩ = some (.int .i64 0) := by rw [Lib.cell_of_heap hbk]; rfl
    have d2 : wo.cell? ⟨w.heap.size, 2, none⟩ = some (.string ⟨#[]⟩) := by rw [Lib.cell_of_heap hbk]; rfl
    have f0 : wo.frozen? ⟨w.heap.size, 0, none⟩ = false := Lib.frozen_of_heap hbk 0
    have f1 : wo.frozen? ⟨w.heap.size, 1, none⟩ = false := Lib.frozen_of_heap hbk 1
    have f2 : wo.frozen? ⟨w.heap.size, 2, none⟩ = false := Lib.frozen_of_heap hbk 2
    have HD := Lib.hid hdec
    have HO := Lib.hid hown
    have HB := Lib.hid hbk
    clear hdec hown hbk
    rcases first_zero t with ⟨h1, _, h3⟩ | ⟨z, r, h1, h2, h3, -⟩
    · have hI : Hid (∀ W, Calls Tryd.prog 38 #[.string ⟨t.toArray⟩, .int .u8 0] W fun e w' => e = .returned (.int .i64 (-1)) ∧ w' = W) := Lib.hid fun W => by have := CI.out ⟨t.toArray⟩ W; simpa [h1] using this
      have HN := Lib.hid (decT_none t h3)
      clear h1 h3
      go_wp2_with (first | (go_at_call 38; refine (hI.out _).mono ?_; rintro e w5 ⟨rfl, rfl⟩))
      exact bodyPost_ret (v := .tuple #[.agg #[.int .i64 0, .int .i64 0, .string ⟨#[]⟩], .string ⟨#[]⟩, .bool false]) (by simp [results, Tryd.results32, go_sem, *]) rfl ⟨by rw [HD.out, HN.out]; rfl, (by repeat (first | exact Below.refl _ _ | refine Below.setCell ?_ (by first | (simp; done) | (simp; omega) | omega) _ | refine Below.alloc ?_ (by first | (simp; done) | (simp; omega) | omega) _ | refine Below.drew ?_ | assumption | refine Below.trans ?_ (Below.mono (by assumption) (by first | (simp; done) | (simp; omega) | omega))))⟩
    · obtain ⟨k, hk⟩ : ∃ k, z.length = k := ⟨_, rfl⟩
      have hI : Hid (∀ W, Calls Tryd.prog 38 #[.string ⟨t.toArray⟩, .int .u8 0] W fun e w' => e = .returned (.int .i64 (k : Int)) ∧ W = w') := Lib.hid fun W => by have := (CI.out ⟨t.toArray⟩ W).mono (fun e w' h => And.intro h.1 h.2.symm); simpa [h3, hk] using this
      have e1 : (⟨t.toArray⟩ : ByteArray).extract 0 k = ⟨z.toArray⟩ := by rw [h1, ← hk]; exact ext_front z (0 :: r)
      have e2 : (⟨t.toArray⟩ : ByteArray).extract k (⟨t.toArray⟩ : ByteArray).size = ⟨(0 :: r).toArray⟩ := by
        have hz : (⟨t.toArray⟩ : ByteArray).size = z.length + (0 :: r).length := by simp [ByteArray.size, h1]
        rw [hz, ← hk, h1]; exact ext_back z (0 :: r)
      have hts : (⟨t.toArray⟩ : ByteArray).size = k + (r.length + 1) := by simp [ByteArray.size, h1, hk]
      have htl : t.length = k + (r.length + 1) := by rw [h1, List.length_append, hk]; rfl
      have hkl : acc.length + (k + (r.length + 1)) ≤ s.length := by omega
      clear htl
      have hle : k ≤ (⟨t.toArray⟩ : ByteArray).size := by omega
      have hle' : (k : Int) ≤ (⟨t.toArray⟩ : ByteArray).size := by omega
      have htm : (⟨t.toArray⟩ : ByteArray).size ≤ 1000000 := by omega
      have HT : Hid (decT t = (decT (0 :: r)).map (fun x => (z ++ x.1, x.2))) := Lib.hid (by rw [h1]; exact decT_free z _ h2)
      have hzz : Hid ((⟨z.toArray⟩ : ByteArray).size = k) := Lib.hid (by simp [ByteArray.size, hk])
      have HS := Lib.hid hts
      clear h1 h2 h3 hlen hts
      have HK := Lib.hid hk
      clear hk
      by_cases r1 : ∃ q, r = 1 :: q
      · obtain ⟨q, rfl⟩ := r1
        have C1 : Hid (∀ W, Calls Tryd.prog 39 #[.string ⟨(0 :: 1 :: q).toArray⟩, .string ⟨#[0, 1]⟩] W fun e w' => e = .returned (.tuple #[.string ⟨(q).toArray⟩, .bool true]) ∧ W = w') := Lib.hid fun W => by have := (CC.out ⟨(0 :: 1 :: q).toArray⟩ ⟨#[0, 1]⟩ W).mono (fun e w' h => And.intro h.1 h.2.symm); simpa [Lib.trimPrefix, Lib.hasPrefix, List.isPrefixOf] using this
        have HR : Hid (decT (0 :: 1 :: q) = some ([], q)) := Lib.hid (by simp [decT])
        generalize (⟨t.toArray⟩ : ByteArray) = tb at *
        obtain ⟨u, hu⟩ : ∃ u : ByteArray, ⟨(0 :: 1 :: q).toArray⟩ = u := ⟨_, rfl⟩
        rw [hu] at C1 e2
        clear hu
        go_wp2_with (first
          | (go_at_call 38; refine (hI.out _).mono ?_; rintro e w5 ⟨rfl, rfl⟩)
          | (at_builtin; refine Lib.wpList_append_own_string _ rfl (.tmp 16) (.tmp 19) 53 9 rfl (w.heap.size + 1) 5 i0 Tryd.underlying53 Tryd.underlying9 hi0 hz0 hz1 hz2 _ acc.length (Lib.byteCells acc) rfl HO.out ⟨z.toArray⟩ rfl (by rw [hzz.out]; unfold maxLen; omega) (by rw [hzz.out]; omega) (by omega) ?_; intro v1 w1 hown1 hgrow hiff; clear hiff
             have HO1 : Hid (w1.ownsRow (w.heap.size + 1) 5 1 v1 (acc ++ z).length (Lib.byteCells (acc ++ z))) := Lib.hid (by rw [byteCells_app, List.length_append, HK.out]; rw [hzz.out, strCells_bytes] at hown1; exact hown1)
             have hbk1 : w1.heap[w.heap.size]? = some (.cells #[.int .i64 0, .int .i64 0, .string ⟨#[]⟩] 42 (0, 0)) := (hgrow.block w.heap.size hz (fun e => by have := (HO.out.lt _ e.symm).1; omega)).trans HB.out
             have hbl1 : Below w.heap.size w w1 := hbl.grown hgrow hbl.size (fun g hg => by have := (HO.out.lt g hg).1; omega)
             have hz1' : w.heap.size < w1.heap.size := Nat.lt_of_lt_of_le hz hgrow.size
             have hcv := conv_own HO1.out
             have x0 : w1.cell? ⟨w.heap.size, 0, none⟩ = some (.int .i64 0) := by rw [Lib.cell_of_heap hbk1]; rfl
             have x1 : w1.cell? ⟨w.heap.size, 1, none⟩ = some (.int .i64 0) := by rw [Lib.cell_of_heap hbk1]; rfl
             have x2 : w1.cell? ⟨w.heap.size, 2, none⟩ = some (.string ⟨#[]⟩) := by rw [Lib.cell_of_heap hbk1]; rfl
             have y0 : w1.frozen? ⟨w.heap.size, 0, none⟩ = false := Lib.frozen_of_heap hbk1 0
             have y1 : w1.frozen? ⟨w.heap.size, 1, none⟩ = false := Lib.frozen_of_heap hbk1 1
             have y2 : w1.frozen? ⟨w.heap.size, 2, none⟩ = false := Lib.frozen_of_heap hbk1 2
             have HB1 := Lib.hid hbk1
             clear hown1 hgrow hbk1)
          | (go_at_call 39; (with_reducible refine (C1.out _).mono ?_); rintro e w6 ⟨rfl, rfl⟩)
          | (go_at_call 20; refine (CT.out _ _).mono ?_; rintro e w7 ⟨rfl, hb7⟩; obtain ⟨hc7, hf7⟩ := bcell hb7; have hs7 := hb7.size; (try simp at hs7); have hz7 : w.heap.size < w7.heap.size := by have := hb7.size; (try simp at this); omega))
        exact bodyPost_ret (v := .tuple #[.agg #[.int .i64 2, .int .i64 0, .string ⟨(acc ++ z).toArray⟩], .string ⟨q.toArray⟩, .bool true]) (by simp [results, Tryd.results32, go_sem, *]) rfl ⟨by rw [HD.out, HT.out, HR.out]; simp [dtV], (by repeat (first | exact Below.refl _ _ | refine Below.setCell ?_ (by first | (simp; done) | (simp; omega) | omega) _ | refine Below.alloc ?_ (by first | (simp; done) | (simp; omega) | omega) _ | refine Below.drew ?_ | assumption | refine Below.trans ?_ (Below.mono (by assumption) (by first | (simp; done) | (simp; omega) | omega))))⟩
      · by_cases r2 : ∃ q, r = 255 :: q
        · clear r1
          obtain ⟨q, rfl⟩ := r2
          have C1 : Hid (∀ W, Calls Tryd.prog 39 #[.string ⟨(0 :: 255 :: q).toArray⟩, .string ⟨#[0, 1]⟩] W fun e w' => e = .returned (.tuple #[.string ⟨(0 :: 255 :: q).toArray⟩, .bool false]) ∧ W = w') := Lib.hid fun W => by have := (CC.out ⟨(0 :: 255 :: q).toArray⟩ ⟨#[0, 1]⟩ W).mono (fun e w' h => And.intro h.1 h.2.symm); simpa [Lib.trimPrefix, Lib.hasPrefix, List.isPrefixOf] using this
          have C2 : Hid (∀ W, Calls Tryd.prog 39 #[.string ⟨(0 :: 255 :: q).toArray⟩, .string ⟨#[0, 255]⟩] W fun e w' => e = .returned (.tuple #[.string ⟨(q).toArray⟩, .bool true]) ∧ W = w') := Lib.hid fun W => by have := (CC.out ⟨(0 :: 255 :: q).toArray⟩ ⟨#[0, 255]⟩ W).mono (fun e w' h => And.intro h.1 h.2.symm); simpa [Lib.trimPrefix, Lib.hasPrefix, List.isPrefixOf] using this
          have HR : Hid (decT (0 :: 255 :: q) = (decT q).map (fun x => (0 :: x.1, x.2))) := Lib.hid (by simp [decT])
          generalize (⟨t.toArray⟩ : ByteArray) = tb at *
          obtain ⟨u, hu⟩ : ∃ u : ByteArray, ⟨(0 :: 255 :: q).toArray⟩ = u := ⟨_, rfl⟩
          rw [hu] at C1 C2 e2
          clear hu
          go_wp2_with (first
            | (go_at_call 38; refine (hI.out _).mono ?_; rintro e w5 ⟨rfl, rfl⟩)
            | (at_builtin; refine Lib.wpList_append_own_string _ rfl (.tmp 16) (.tmp 19) 53 9 rfl (w.heap.size + 1) 5 i0 Tryd.underlying53 Tryd.underlying9 hi0 hz0 hz1 hz2 _ acc.length (Lib.byteCells acc) rfl HO.out ⟨z.toArray⟩ rfl (by rw [hzz.out]; unfold maxLen; omega) (by rw [hzz.out]; omega) (by omega) ?_; intro v1 w1 hown1 hgrow hiff; clear hiff
               have HO1 : Hid (w1.ownsRow (w.heap.size + 1) 5 1 v1 (acc ++ z).length (Lib.byteCells (acc ++ z))) := Lib.hid (by rw [byteCells_app, List.length_append, HK.out]; rw [hzz.out, strCells_bytes] at hown1; exact hown1)
               have hbk1 : w1.heap[w.heap.size]? = some (.cells #[.int .i64 0, .int .i64 0, .string ⟨#[]⟩] 42 (0, 0)) := (hgrow.block w.heap.size hz (fun e => by have := (HO.out.lt _ e.symm).1; omega)).trans HB.out
               have hbl1 : Below w.heap.size w w1 := hbl.grown hgrow hbl.size (fun g hg => by have := (HO.out.lt g hg).1; omega)
               have hz1' : w.heap.size < w1.heap.size := Nat.lt_of_lt_of_le hz hgrow.size
               have hcv := conv_own HO1.out
               have x0 : w1.cell? ⟨w.heap.size, 0, none⟩ = some (.int .i64 0) := by rw [Lib.cell_of_heap hbk1]; rfl
               have x1 : w1.cell? ⟨w.heap.size, 1, none⟩ = some (.int .i64 0) := by rw [Lib.cell_of_heap hbk1]; rfl
               have x2 : w1.cell? ⟨w.heap.size, 2, none⟩ = some (.string ⟨#[]⟩) := by rw [Lib.cell_of_heap hbk1]; rfl
               have y0 : w1.frozen? ⟨w.heap.size, 0, none⟩ = false := Lib.frozen_of_heap hbk1 0
               have y1 : w1.frozen? ⟨w.heap.size, 1, none⟩ = false := Lib.frozen_of_heap hbk1 1
               have y2 : w1.frozen? ⟨w.heap.size, 2, none⟩ = false := Lib.frozen_of_heap hbk1 2
               have HB1 := Lib.hid hbk1
               clear hown1 hgrow hbk1)
            | (go_at_call 39; (with_reducible refine (C1.out _).mono ?_); rintro e w6 ⟨rfl, rfl⟩)
            | (go_at_call 39; (with_reducible refine (C2.out _).mono ?_); rintro e w6 ⟨rfl, rfl⟩)
            | (at_builtin; refine wpList_append_own _ rfl (.tmp 42) (.tmp 43) 53 rfl (w.heap.size + 1) 5 i0 (.int .u8 0) 1 1 Tryd.underlying53 hi0 hz0 hz1 hz2 rfl (by decide) _ (acc ++ z).length (Lib.byteCells (acc ++ z)) rfl (HO1.out.alloc _) ⟨w1.heap.size, 0, none⟩ 1 1 [.int .u8 0] rfl rfl ?c1 ?c2 ?c3 ?c4 ?c5 ?_))
          case c1 =>
            intro j u hj
            match j, hj with
            | 0, hj => simp at hj; subst hj; simp [Addr.add]
          case c2 => intro u hu; simp at hu; subst hu; rfl
          case c3 => simp only [List.length_append, HK.out]; unfold maxLen; omega
          case c4 => simp only [List.length_append, HK.out]; omega
          case c5 => simp; omega
          intro v2 w2 hown2 hgrow2 hiff
          clear hiff
          have HO2 : Hid (w2.ownsRow (w.heap.size + 1) 5 1 v2 (acc ++ z ++ [0]).length (Lib.byteCells (acc ++ z ++ [0]))) := Lib.hid (by rw [byteCells_app, List.length_append, List.length_append]; exact hown2)
          have hbk2 : w2.heap[w.heap.size]? = some (.cells #[.int .i64 0, .int .i64 0, .string ⟨#[]⟩] 42 (0, 0)) := (hgrow2.block w.heap.size (by simp; omega) (fun e => by have := (HO1.out.lt _ e.symm).1; omega)).trans ((Below.heap_alloc w1 _ _ hz1').trans HB1.out)
          have HB2 := Lib.hid hbk2
          have hbl2 : Below w.heap.size w w2 := (hbl1.alloc hbl1.size _).grown hgrow2 (by simp; omega) (fun g hg => by have := (HO1.out.lt g hg).1; omega)
          have hz2' : w.heap.size < w2.heap.size := Nat.lt_of_lt_of_le hz1' (Nat.le_trans (by simp) hgrow2.size)
          clear hown2 hgrow2 hbk2
          go_wp2
          go_roundw
          case rel =>
            refine ⟨q, acc ++ z ++ [0], rfl, ?_, HO2.out, ?_, HB2.out, hbl2, hz2'⟩
            · simp only [List.length_append, HK.out, List.length_cons, List.length_nil] at hkl ⊢; omega
            · rw [HD.out, HT.out, HR.out]
              cases decT q <;> simp
          case measure =>
            show q.toArray.size < tb.size
            rw [HS.out]; simp; omega
        · have hn : (match r with | [] => True | d :: _ => d ≠ 1 ∧ d ≠ 255) := by
            cases r with
            | nil => trivial
            | cons d q => exact ⟨fun e => r1 ⟨q, by rw [e]⟩, fun e => r2 ⟨q, by rw [e]⟩⟩
          have p1 : Lib.hasPrefix (0 :: r) [0, 1] = false := by
            cases r with
            | nil => rfl
            | cons d q => simp [Lib.hasPrefix, List.isPrefixOf]; exact fun e => hn.1 e.symm
          have p2 : Lib.hasPrefix (0 :: r) [0, 255] = false := by
            cases r with
            | nil => rfl
            | cons d q => simp [Lib.hasPrefix, List.isPrefixOf]; exact fun e => hn.2 e.symm
          have HR : Hid (decT (0 :: r) = none) := Lib.hid (by
            cases r with
            | nil => rfl
            | cons d q => simp [decT, hn.1, hn.2])
          clear hn r1 r2
          have C1 : Hid (∀ W, Calls Tryd.prog 39 #[.string ⟨(0 :: r).toArray⟩, .string ⟨#[0, 1]⟩] W fun e w' => e = .returned (.tuple #[.string ⟨(0 :: r).toArray⟩, .bool false]) ∧ W = w') := Lib.hid fun W => by have := (CC.out ⟨(0 :: r).toArray⟩ ⟨#[0, 1]⟩ W).mono (fun e w' h => And.intro h.1 h.2.symm); simpa [Lib.trimPrefix, p1] using this
          have C2 : Hid (∀ W, Calls Tryd.prog 39 #[.string ⟨(0 :: r).toArray⟩, .string ⟨#[0, 255]⟩] W fun e w' => e = .returned (.tuple #[.string ⟨(0 :: r).toArray⟩, .bool false]) ∧ W = w') := Lib.hid fun W => by have := (CC.out ⟨(0 :: r).toArray⟩ ⟨#[0, 255]⟩ W).mono (fun e w' h => And.intro h.1 h.2.symm); simpa [Lib.trimPrefix, p2] using this
          clear p1 p2
          generalize (⟨t.toArray⟩ : ByteArray) = tb at *
          obtain ⟨u, hu⟩ : ∃ u : ByteArray, ⟨(0 :: r).toArray⟩ = u := ⟨_, rfl⟩
          rw [hu] at C1 C2 e2
          clear hu
          go_wp2_with (first
            | (go_at_call 38; refine (hI.out _).mono ?_; rintro e w5 ⟨rfl, rfl⟩)
            | (at_builtin; refine Lib.wpList_append_own_string _ rfl (.tmp 16) (.tmp 19) 53 9 rfl (w.heap.size + 1) 5 i0 Tryd.underlying53 Tryd.underlying9 hi0 hz0 hz1 hz2 _ acc.length (Lib.byteCells acc) rfl HO.out ⟨z.toArray⟩ rfl (by rw [hzz.out]; unfold maxLen; omega) (by rw [hzz.out]; omega) (by omega) ?_; intro v1 w1 hown1 hgrow hiff; clear hiff
               have HO1 : Hid (w1.ownsRow (w.heap.size + 1) 5 1 v1 (acc ++ z).length (Lib.byteCells (acc ++ z))) := Lib.hid (by rw [byteCells_app, List.length_append, HK.out]; rw [hzz.out, strCells_bytes] at hown1; exact hown1)
               have hbk1 : w1.heap[w.heap.size]? = some (.cells #[.int .i64 0, .int .i64 0, .string ⟨#[]⟩] 42 (0, 0)) := (hgrow.block w.heap.size hz (fun e => by have := (HO.out.lt _ e.symm).1; omega)).trans HB.out
               have hbl1 : Below w.heap.size w w1 := hbl.grown hgrow hbl.size (fun g hg => by have := (HO.out.lt g hg).1; omega)
               have hz1' : w.heap.size < w1.heap.size := Nat.lt_of_lt_of_le hz hgrow.size
               have hcv := conv_own HO1.out
               have x0 : w1.cell? ⟨w.heap.size, 0, none⟩ = some (.int .i64 0) := by rw [Lib.cell_of_heap hbk1]; rfl
               have x1 : w1.cell? ⟨w.heap.size, 1, none⟩ = some (.int .i64 0) := by rw [Lib.cell_of_heap hbk1]; rfl
               have x2 : w1.cell? ⟨w.heap.size, 2, none⟩ = some (.string ⟨#[]⟩) := by rw [Lib.cell_of_heap hbk1]; rfl
               have y0 : w1.frozen? ⟨w.heap.size, 0, none⟩ = false := Lib.frozen_of_heap hbk1 0
               have y1 : w1.frozen? ⟨w.heap.size, 1, none⟩ = false := Lib.frozen_of_heap hbk1 1
               have y2 : w1.frozen? ⟨w.heap.size, 2, none⟩ = false := Lib.frozen_of_heap hbk1 2
               have HB1 := Lib.hid hbk1
               clear hown1 hgrow hbk1)
            | (go_at_call 39; (with_reducible refine (C1.out _).mono ?_); rintro e w6 ⟨rfl, rfl⟩)
            | (go_at_call 39; (with_reducible refine (C2.out _).mono ?_); rintro e w6 ⟨rfl, rfl⟩))
          exact bodyPost_ret (v := .tuple #[.agg #[.int .i64 0, .int .i64 0, .string ⟨#[]⟩], .string ⟨#[]⟩, .bool false]) (by simp [results, Tryd.results32, go_sem, *]) rfl ⟨by rw [HD.out, HT.out, HR.out]; rfl, (by repeat (first | exact Below.refl _ _ | refine Below.setCell ?_ (by first | (simp; done) | (simp; omega) | omega) _ | refine Below.alloc ?_ (by first | (simp; done) | (simp; omega) | omega) _ | refine Below.drew ?_ | assumption | refine Below.trans ?_ (Below.mono (by assumption) (by first | (simp; done) | (simp; omega) | omega))))⟩
end Go.Proofs.YtjccadfaiahkkaaDoor
