/-
  Plain: the law's first question, answered.
-/
import Derived.Test.YtijlifdbjhieaaaGreatDoorSp6
import Derived.KernelRfl
namespace Go.Proofs.YtijlifdbjhieaaaGreatDoor
set_option linter.all false
open Go.Lib

def firstL : List UInt8 := [115, 101, 108, 101, 99, 116, 32, 97, 44, 115, 117, 109, 40, 98, 41, 32, 102, 114, 111, 109, 32, 116, 32, 119, 104, 101, 114, 101, 32, 110, 111, 116, 40, 97, 61, 39, 120, 39, 32, 111, 114, 32, 98, 60, 45, 51, 41, 103, 114, 111, 117, 112, 32, 98, 121, 32, 97, 32, 111, 114, 100, 101, 114, 32, 98, 121, 32, 97, 32, 100, 101, 115, 99, 32, 108, 105, 109, 105, 116, 32, 53]
def firstX : List UInt8 := [115, 101, 108, 101, 99, 116, 32, 97, 44, 32, 115, 117, 109, 40, 98, 41, 32, 102, 114, 111, 109, 32, 116, 32, 119, 104, 101, 114, 101, 32, 110, 111, 116, 32, 40, 97, 32, 61, 32, 39, 120, 39, 32, 111, 114, 32, 98, 32, 60, 32, 45, 51, 41, 32, 103, 114, 111, 117, 112, 32, 98, 121, 32, 97, 32, 111, 114, 100, 101, 114, 32, 98, 121, 32, 97, 32, 100, 101, 115, 99, 32, 108, 105, 109, 105, 116, 32, 53]
def firstB : List UInt8 := [115, 101, 108, 101, 99, 116, 32, 97, 32, 102, 114, 111, 109, 32, 116, 32, 108, 105, 109, 105, 116, 32, 45, 49]
def firstQ : QueryT := ⟨[⟨[], [97]⟩, ⟨[115, 117, 109], [98]⟩], [116], .mk 3 [.mk 1 [.mk 4 [] ⟨[97], 0, 0, []⟩ ⟨[], 2, 0, [120]⟩, .mk 6 [] ⟨[98], 0, 0, []⟩ ⟨[], 1, -3, []⟩] term0 term0] term0 term0, [[97]], [⟨[97], true⟩], 5⟩
theorem first_parse : parseF firstL = .ok firstQ [⟨101, [], 0, 81⟩] := by kernel_rfl
theorem first_bad : parseF firstB = .no 22 11 := by kernel_rfl
theorem first_text : queryX firstQ = firstX := by kernel_rfl
end Go.Proofs.YtijlifdbjhieaaaGreatDoor
