/-
  The mirror at this seat: tables that the program's variables hold, from the start and for good.
-/
import GoSem.Core.View
import Derived.Test.YtggoaggneapneaaDoorM1
set_option linter.unusedVariables false
namespace Go.Proofs.YtggoaggneapneaaDoorM
open Go
def zs0 : List Int := [1, 10, 100, 1000, 10000, 100000, 1000000, 10000000, 100000000, 1000000000, 10000000000, 100000000000, 1000000000000, 10000000000000, 100000000000000, 1000000000000000, 10000000000000000, 100000000000000000, 1000000000000000000, 10000000000000000000]
def tab0 : List PV := zs0.map (PV.int .u64)
def zs1 : List Int := [0, 1, 28, 2, 29, 14, 24, 3, 30, 22, 20, 15, 25, 17, 4, 8, 31, 27, 13, 23, 21, 19, 16, 7, 26, 12, 18, 6, 11, 5, 10, 9]
def tab1 : List PV := zs1.map (PV.int .u8)
def zs2 : List Int := [0, 1, 56, 2, 57, 49, 28, 3, 61, 58, 42, 50, 38, 29, 17, 4, 62, 47, 59, 36, 45, 43, 51, 22, 53, 39, 33, 30, 24, 18, 12, 5, 63, 55, 48, 27, 60, 41, 37, 16, 46, 35, 44, 21, 52, 32, 23, 11, 54, 26, 40, 15, 34, 20, 31, 10, 25, 14, 19, 9, 13, 8, 7, 6]
def tab2 : List PV := zs2.map (PV.int .u8)
def tabOf : Nat → List PV
  | 0 => tab0
  | 1 => tab1
  | 2 => tab2
  | _ => []
def toVal : PV → Option Value
  | .int k n => some (.int k n)
  | _ => none
def B0 : Nat → Nat → Option Value := fun k o => ((tabOf k)[o]?).bind toVal
end Go.Proofs.YtggoaggneapneaaDoorM
