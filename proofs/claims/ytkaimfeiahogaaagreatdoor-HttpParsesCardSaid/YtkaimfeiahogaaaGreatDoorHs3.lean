/-
  http.Parse where bytes wait, are refused, are told; what a front of bytes tells.
-/
import Derived.Test.YtkaimfeiahogaaaGreatDoorHs2
namespace Go.Proofs.YtkaimfeiahogaaaGreatDoor
set_option linter.all false
open Go.RowKit Go.Shelf

section
variable (A : Option Addr) (n c : Nat) (l : List UInt8) (hl : l.length = n) (hn : n ≤ 1000000000) (w : World) (E : Env w) (T : Bs w A c l)
include hl hn E T
theorem pcall_wait (hp : parseF l = .wait) : Calls Tryz.prog 11 #[.slice A n c] w fun e w' => e = .returned (.tuple #[.agg #[.string ⟨#[]⟩, .string ⟨#[]⟩, .slice none 0 0, .bool false], .int .i64 0, .bool false, .int .i64 0]) ∧ Below w.heap.size w w' := by
  refine (parse_any A n c l hl hn w E T).mono ?_
  rintro e w' ⟨V, rfl, hV, hB⟩
  rw [hp] at hV
  exact ⟨hV ▸ rfl, hB⟩
theorem pcall_bad {x : Int} (hp : parseF l = .bad x) : Calls Tryz.prog 11 #[.slice A n c] w fun e w' => e = .returned (.tuple #[.agg #[.string ⟨#[]⟩, .string ⟨#[]⟩, .slice none 0 0, .bool false], .int .i64 0, .bool false, .int .i64 x]) ∧ Below w.heap.size w w' := by
  refine (parse_any A n c l hl hn w E T).mono ?_
  rintro e w' ⟨V, rfl, hV, hB⟩
  rw [hp] at hV
  exact ⟨hV ▸ rfl, hB⟩
theorem pcall_done {st : St} {r : List UInt8} (hp : parseF l = .done st r) (N : Nat) (hN : n - r.length + st.len = N) : Calls Tryz.prog 11 #[.slice A n c] w fun e w' => (∃ A' c', e = .returned (.tuple #[.agg #[.string ⟨st.m.toArray⟩, .string ⟨st.p.toArray⟩, .slice A' st.len c', .bool st.close], .int .i64 (N : Int), .bool true, .int .i64 0]) ∧ BsN w.heap.size w' A' c' (r.take st.len)) ∧ Below w.heap.size w w' := by
  refine (parse_any A n c l hl hn w E T).mono ?_
  rintro e w' ⟨V, rfl, hV, hB⟩
  rw [hp] at hV
  obtain ⟨A', c', rfl, h1, h2⟩ := hV
  refine ⟨⟨A', c', ?_, h1, h2⟩, hB⟩
  rw [← hN, hl]; rfl
end
theorem done_len {l : List UInt8} {st : St} {r : List UInt8} (h : parseF l = .done st r) : st.len ≤ r.length ∧ r.length ≤ l.length ∧ (r.take st.len).length = st.len := by
  obtain ⟨h1, h2, _⟩ := scan_len _ _ _ _ _ h
  exact ⟨h1, by omega, by rw [List.length_take]; omega⟩
/-- What a front tells, the whole tells. -/
theorem front_bad {l : List UInt8} {i : Nat} {e : Int} (h : parseF (l.take i) = .bad e) : parseF l = .bad e := by
  have := (scan_more (l.drop i) 23 st0 (l.take i)).1 e h
  rwa [List.take_append_drop] at this
theorem front_done {l : List UInt8} {i : Nat} {s : St} {r : List UInt8} (h : parseF (l.take i) = .done s r) : parseF l = .done s (r ++ l.drop i) := by
  have := (scan_more (l.drop i) 23 st0 (l.take i)).2 s r h
  rwa [List.take_append_drop] at this
/-- What the whole tells of its first bytes, a front that holds these tells. -/
theorem front_less {l : List UInt8} {i : Nat} {s : St} {r : List UInt8} (h : parseF l = .done s r) (hi : l.length - r.length + s.len ≤ i) : ∃ q, parseF (l.take i) = .done s q := by
  obtain ⟨h1, h2, _⟩ := done_len h
  have h3 : scanF 23 st0 (l.take i ++ l.drop i) = .done s r := by rw [List.take_append_drop]; exact h
  obtain ⟨q, hq, _⟩ := scan_less (l.drop i) 23 st0 (l.take i) s r h3 (by rw [List.length_drop]; omega)
  exact ⟨q, hq⟩
end Go.Proofs.YtkaimfeiahogaaaGreatDoor
