/-
  The mirror at this seat: copies of functions, part 1.
-/
import Derived.Test.YtggoaggneapneaaDoorM0
import Derived.Test.YtggoaggneapneaaDoorFn0
set_option linter.unusedVariables false
namespace Go.Proofs.YtggoaggneapneaaDoorM
open Go
def lp27x0 : MC :=
 (.seq (.reg [⟨some 9, none, (.bin .lss (.t 8) (.t 7))⟩] [0, 1, 7, 8, 9])
 (.seq (.kp (.cond (.t 9) .skip
 (.exit 0)) [0, 1, 7, 8])
 (.seq (.kp (.block 1 (.seq (.reg [⟨some 10, none, (.mov (.t 8))⟩, ⟨some 5, none, (.asg (.t 10))⟩] [0, 1, 5, 7, 8])
 (.seq (.reg [⟨some 11, none, (.mov (.t 1))⟩, ⟨some 12, none, (.mov (.t 0))⟩, ⟨some 13, none, (.mov (.t 5))⟩, ⟨some 14, none, (.iadr 1 (.t 12) (.t 13))⟩, ⟨some 15, none, (.load false 1 (.t 14))⟩, ⟨some 16, none, (.bin .eql (.t 11) (.t 15))⟩] [0, 1, 5, 7, 8, 16])
 (.kp (.cond (.t 16) (.seq (.reg [⟨some 17, none, (.mov (.t 5))⟩, ⟨some 4, none, (.asg (.t 17))⟩] [4])
 .ret)
 .skip) [0, 1, 7, 8])))) [0, 1, 7, 8])
 (.reg [⟨some 18, none, (.bin .add (.t 8) (.c (.pv (.int .i64 1))))⟩, ⟨some 8, none, (.mov (.t 18))⟩] [0, 1, 7, 8]))))
/-- slices.Index   string,string  -/
def mf27 : MFun := { np := 2, res := [.t 4], clean := true, body :=
 (.seq (.reg [⟨some 4, none, (.asg (.c (.pv (.int .i64 0))))⟩] [0, 1])
 (.seq (.seq (.reg [⟨some 6, none, (.mov (.t 0))⟩, ⟨some 7, none, (.len false (.t 6))⟩, ⟨some 8, none, (.mov (.c (.pv (.int .i64 0))))⟩] [0, 1, 7, 8])
 (.kp (.block 0 (.loop lp27x0)) []))
 (.seq (.reg [⟨some 4, none, (.asg (.c (.pv (.int .i64 (-1)))))⟩] [4])
 .ret))) }
/-- scrim/value.color -/
def mf28 : MFun := { np := 1, res := [.t 2, .t 3], clean := true, body :=
 (.seq (.reg [⟨some 2, none, (.asg (.c (.pv (.int .i64 0))))⟩, ⟨some 3, none, (.asg (.c (.pv (.bool false))))⟩] [0])
 (.seq (.mlit 11 12 4 [([98, 108, 97, 99, 107], 0), ([119, 104, 105, 116, 101], 16777215), ([114, 101, 100], 16711680), ([103, 114, 101, 101, 110], 32768), ([98, 108, 117, 101], 255)] [0, 4])
 (.seq (.seq (.reg [⟨some 14, none, (.mov (.t 4))⟩, ⟨some 15, none, (.mov (.t 0))⟩, ⟨some 16, none, (.lkp (.t 14) (.t 15))⟩, ⟨some 13, none, (.mov (.t 16))⟩, ⟨some 17, none, (.ext 0 (.t 13))⟩, ⟨some 18, none, (.ext 1 (.t 13))⟩, ⟨some 5, none, (.asg (.t 17))⟩, ⟨some 6, none, (.asg (.t 18))⟩] [0, 5, 6])
 (.seq (.reg [⟨some 19, none, (.mov (.t 6))⟩] [0, 5, 19])
 (.kp (.cond (.t 19) (.seq (.reg [⟨some 20, none, (.mov (.t 5))⟩, ⟨some 2, none, (.asg (.t 20))⟩, ⟨some 3, none, (.asg (.c (.pv (.bool true))))⟩] [2, 3])
 .ret)
 .skip) [0])))
 (.seq (.reg [⟨some 22, none, (.mov (.t 0))⟩, ⟨some 23, none, (.call 42 [(.t 22), (.c (.pv (.str [35])))])⟩, ⟨some 21, none, (.mov (.t 23))⟩, ⟨some 24, none, (.ext 0 (.t 21))⟩, ⟨some 25, none, (.ext 1 (.t 21))⟩, ⟨some 7, none, (.asg (.t 24))⟩, ⟨some 8, none, (.asg (.t 25))⟩] [7, 8])
 (.seq (.seq (.reg [⟨some 26, none, (.mov (.t 8))⟩, ⟨some 27, none, (.un .not (.t 26))⟩, ⟨some 28, none, (.mov (.t 27))⟩, ⟨some 29, (some (28, false)), (.mov (.t 7))⟩, ⟨some 30, (some (28, false)), (.len true (.t 29))⟩, ⟨some 31, (some (28, false)), (.bin .neq (.t 30) (.c (.pv (.int .i64 6))))⟩, ⟨some 32, none, (.pick (.t 28) (.c (.pv (.bool true))) (.t 31))⟩, ⟨some 33, none, (.mov (.t 32))⟩, ⟨some 34, (some (33, false)), (.mov (.t 7))⟩, ⟨some 35, (some (33, false)), (.call 30 [(.t 34), (.c (.pv (.str [48, 49, 50, 51, 52, 53, 54, 55, 56, 57, 97, 98, 99, 100, 101, 102])))])⟩, ⟨some 36, (some (33, false)), (.bin .neq (.t 35) (.c (.pv (.str []))))⟩, ⟨some 37, none, (.pick (.t 33) (.c (.pv (.bool true))) (.t 36))⟩] [7, 37])
 (.kp (.cond (.t 37) (.seq (.reg [⟨some 2, none, (.asg (.c (.pv (.int .i64 0))))⟩, ⟨some 3, none, (.asg (.c (.pv (.bool false))))⟩] [2, 3])
 .ret)
 .skip) [7]))
 (.seq (.reg [⟨some 39, none, (.mov (.t 7))⟩, ⟨some 40, none, (.call 43 [(.t 39), (.c (.pv (.int .i64 16))), (.c (.pv (.int .i64 64)))])⟩, ⟨some 38, none, (.mov (.t 40))⟩, ⟨some 41, none, (.ext 0 (.t 38))⟩, ⟨some 42, none, (.ext 1 (.t 38))⟩, ⟨some 9, none, (.asg (.t 41))⟩, ⟨some 10, none, (.asg (.t 42))⟩] [9, 10])
 (.seq (.draw [⟨some 43, none, (.mov (.t 9))⟩, ⟨some 44, none, (.mov (.t 10))⟩, ⟨some 45, none, (.isnil false 0 (.t 44))⟩, ⟨some 2, none, (.mov (.t 43))⟩, ⟨some 3, none, (.mov (.t 45))⟩] [0, 2, 3, 1, 4] [2, 3])
 .ret))))))) }
/-- scrim/value.measure -/
def mf29 : MFun := { np := 3, res := [(.c 6 true 2), .t 7], clean := true, body :=
 (.seq (.reg [⟨some 6, none, (.alloc [(.pv (.int .i64 0)), (.pv (.int .i64 0))])⟩, ⟨some 7, none, (.asg (.c (.pv (.bool false))))⟩] [0, 1, 2, 6])
 (.seq (.reg [⟨some 13, none, (.mov (.t 0))⟩, ⟨some 14, none, (.mov (.t 1))⟩, ⟨some 15, none, (.call 44 [(.t 13), (.t 14)])⟩, ⟨some 12, none, (.mov (.t 15))⟩, ⟨some 16, none, (.ext 0 (.t 12))⟩, ⟨some 17, none, (.ext 1 (.t 12))⟩, ⟨some 8, none, (.asg (.t 16))⟩, ⟨some 9, none, (.asg (.t 17))⟩] [2, 6, 8, 9])
 (.seq (.reg [⟨some 19, none, (.mov (.t 8))⟩, ⟨some 20, none, (.call 31 [(.t 19)])⟩, ⟨some 18, none, (.mov (.t 20))⟩, ⟨some 21, none, (.ext 0 (.t 18))⟩, ⟨some 22, none, (.ext 1 (.t 18))⟩, ⟨some 10, none, (.asg (.t 21))⟩, ⟨some 11, none, (.asg (.t 22))⟩] [2, 6, 9, 10, 11])
 (.seq (.seq (.reg [⟨some 23, none, (.mov (.t 9))⟩, ⟨some 24, none, (.un .not (.t 23))⟩, ⟨some 25, none, (.mov (.t 24))⟩, ⟨some 26, (some (25, false)), (.mov (.t 11))⟩, ⟨some 27, (some (25, false)), (.un .not (.t 26))⟩, ⟨some 28, none, (.pick (.t 25) (.c (.pv (.bool true))) (.t 27))⟩] [2, 6, 10, 28])
 (.kp (.cond (.t 28) (.seq (.reg [⟨some 29, none, (.build [(.pv (.int .i64 0)), (.pv (.int .i64 0))] [])⟩, ⟨none, none, (.store 2 (.t 6) (.t 29))⟩, ⟨some 7, none, (.asg (.c (.pv (.bool false))))⟩] [6, 7])
 .ret)
 .skip) [2, 6, 10]))
 (.seq (.reg [⟨some 30, none, (.mov (.t 2))⟩, ⟨some 31, none, (.mov (.t 10))⟩, ⟨some 32, none, (.build [(.pv (.int .i64 0)), (.pv (.int .i64 0))] [(0, 1, (.t 30)), (1, 1, (.t 31))])⟩, ⟨none, none, (.store 2 (.t 6) (.t 32))⟩, ⟨some 7, none, (.asg (.c (.pv (.bool true))))⟩] [6, 7])
 .ret))))) }
def zl30x0 : List AV := [(.pv (.bool false)), (.pv (.bool false)), (.pv (.bool false)), (.pv (.bool false)), (.pv (.bool false)), (.pv (.bool false)), (.pv (.bool false)), (.pv (.bool false)), (.pv (.bool false)), (.pv (.bool false)), (.pv (.bool false)), (.pv (.bool false)), (.pv (.bool false)), (.pv (.bool false)), (.pv (.bool false)), (.pv (.bool false)), (.pv (.bool false)), (.pv (.bool false)), (.pv (.bool false)), (.pv (.bool false)), (.pv (.bool false)), (.pv (.bool false)), (.pv (.bool false)), (.pv (.bool false)), (.pv (.bool false)), (.pv (.bool false)), (.pv (.bool false)), (.pv (.bool false)), (.pv (.bool false)), (.pv (.bool false)), (.pv (.bool false)), (.pv (.bool false)), (.pv (.bool false)), (.pv (.bool false)), (.pv (.bool false)), (.pv (.bool false)), (.pv (.bool false)), (.pv (.bool false)), (.pv (.bool false)), (.pv (.bool false)), (.pv (.bool false)), (.pv (.bool false)), (.pv (.bool false)), (.pv (.bool false)), (.pv (.bool false)), (.pv (.bool false)), (.pv (.bool false)), (.pv (.bool false)), (.pv (.bool false)), (.pv (.bool false)), (.pv (.bool false)), (.pv (.bool false)), (.pv (.bool false)), (.pv (.bool false)), (.pv (.bool false)), (.pv (.bool false)), (.pv (.bool false)), (.pv (.bool false)), (.pv (.bool false)), (.pv (.bool false)), (.pv (.bool false)), (.pv (.bool false)), (.pv (.bool false)), (.pv (.bool false)), (.pv (.bool false)), (.pv (.bool false)), (.pv (.bool false)), (.pv (.bool false)), (.pv (.bool false)), (.pv (.bool false)), (.pv (.bool false)), (.pv (.bool false)), (.pv (.bool false)), (.pv (.bool false)), (.pv (.bool false)), (.pv (.bool false)), (.pv (.bool false)), (.pv (.bool false)), (.pv (.bool false)), (.pv (.bool false)), (.pv (.bool false)), (.pv (.bool false)), (.pv (.bool false)), (.pv (.bool false)), (.pv (.bool false)), (.pv (.bool false)), (.pv (.bool false)), (.pv (.bool false)), (.pv (.bool false)), (.pv (.bool false)), (.pv (.bool false)), (.pv (.bool false)), (.pv (.bool false)), (.pv (.bool false)), (.pv (.bool false)), (.pv (.bool false)), (.pv (.bool false)), (.pv (.bool false)), (.pv (.bool false)), (.pv (.bool false)), (.pv (.bool false)), (.pv (.bool false)), (.pv (.bool false)), (.pv (.bool false)), (.pv (.bool false)), (.pv (.bool false)), (.pv (.bool false)), (.pv (.bool false)), (.pv (.bool false)), (.pv (.bool false)), (.pv (.bool false)), (.pv (.bool false)), (.pv (.bool false)), (.pv (.bool false)), (.pv (.bool false)), (.pv (.bool false)), (.pv (.bool false)), (.pv (.bool false)), (.pv (.bool false)), (.pv (.bool false)), (.pv (.bool false)), (.pv (.bool false)), (.pv (.bool false)), (.pv (.bool false)), (.pv (.bool false)), (.pv (.bool false)), (.pv (.bool false)), (.pv (.bool false)), (.pv (.bool false)), (.pv (.bool false)), (.pv (.bool false)), (.pv (.bool false)), (.pv (.bool false)), (.pv (.bool false)), (.pv (.bool false)), (.pv (.bool false)), (.pv (.bool false)), (.pv (.bool false)), (.pv (.bool false)), (.pv (.bool false)), (.pv (.bool false)), (.pv (.bool false)), (.pv (.bool false)), (.pv (.bool false)), (.pv (.bool false)), (.pv (.bool false)), (.pv (.bool false)), (.pv (.bool false)), (.pv (.bool false)), (.pv (.bool false)), (.pv (.bool false)), (.pv (.bool false)), (.pv (.bool false)), (.pv (.bool false)), (.pv (.bool false)), (.pv (.bool false)), (.pv (.bool false)), (.pv (.bool false)), (.pv (.bool false)), (.pv (.bool false)), (.pv (.bool false)), (.pv (.bool false)), (.pv (.bool false)), (.pv (.bool false)), (.pv (.bool false)), (.pv (.bool false)), (.pv (.bool false)), (.pv (.bool false)), (.pv (.bool false)), (.pv (.bool false)), (.pv (.bool false)), (.pv (.bool false)), (.pv (.bool false)), (.pv (.bool false)), (.pv (.bool false)), (.pv (.bool false)), (.pv (.bool false)), (.pv (.bool false)), (.pv (.bool false)), (.pv (.bool false)), (.pv (.bool false)), (.pv (.bool false)), (.pv (.bool false)), (.pv (.bool false)), (.pv (.bool false)), (.pv (.bool false)), (.pv (.bool false)), (.pv (.bool false)), (.pv (.bool false)), (.pv (.bool false)), (.pv (.bool false)), (.pv (.bool false)), (.pv (.bool false)), (.pv (.bool false)), (.pv (.bool false)), (.pv (.bool false)), (.pv (.bool false)), (.pv (.bool false)), (.pv (.bool false)), (.pv (.bool false)), (.pv (.bool false)), (.pv (.bool false)), (.pv (.bool false)), (.pv (.bool false)), (.pv (.bool false)), (.pv (.bool false)), (.pv (.bool false)), (.pv (.bool false)), (.pv (.bool false)), (.pv (.bool false)), (.pv (.bool false)), (.pv (.bool false)), (.pv (.bool false)), (.pv (.bool false)), (.pv (.bool false)), (.pv (.bool false)), (.pv (.bool false)), (.pv (.bool false)), (.pv (.bool false)), (.pv (.bool false)), (.pv (.bool false)), (.pv (.bool false)), (.pv (.bool false)), (.pv (.bool false)), (.pv (.bool false)), (.pv (.bool false)), (.pv (.bool false)), (.pv (.bool false)), (.pv (.bool false)), (.pv (.bool false)), (.pv (.bool false)), (.pv (.bool false)), (.pv (.bool false)), (.pv (.bool false)), (.pv (.bool false)), (.pv (.bool false)), (.pv (.bool false)), (.pv (.bool false)), (.pv (.bool false)), (.pv (.bool false)), (.pv (.bool false)), (.pv (.bool false)), (.pv (.bool false)), (.pv (.bool false)), (.pv (.bool false)), (.pv (.bool false)), (.pv (.bool false)), (.pv (.bool false)), (.pv (.bool false)), (.pv (.bool false)), (.pv (.bool false)), (.pv (.bool false)), (.pv (.bool false)), (.pv (.bool false)), (.pv (.bool false)), (.pv (.bool false))]
/-- strings.Trim -/
def mf30 : MFun := { np := 2, res := [.t 4], clean := true, body :=
 (.seq (.reg [⟨some 4, none, (.asg (.c (.pv (.str []))))⟩] [0, 1])
 (.seq (.seq (.reg [⟨some 7, none, (.mov (.t 0))⟩, ⟨some 8, none, (.bin .eql (.t 7) (.c (.pv (.str []))))⟩, ⟨some 9, none, (.mov (.t 8))⟩, ⟨some 10, (some (9, false)), (.mov (.t 1))⟩, ⟨some 11, (some (9, false)), (.bin .eql (.t 10) (.c (.pv (.str []))))⟩, ⟨some 12, none, (.pick (.t 9) (.c (.pv (.bool true))) (.t 11))⟩] [0, 1, 12])
 (.kp (.cond (.t 12) (.seq (.reg [⟨some 13, none, (.mov (.t 0))⟩, ⟨some 4, none, (.asg (.t 13))⟩] [4])
 .ret)
 .skip) [0, 1]))
 (.seq (.seq (.reg [⟨some 14, none, (.mov (.t 1))⟩, ⟨some 15, none, (.len true (.t 14))⟩, ⟨some 16, none, (.bin .eql (.t 15) (.c (.pv (.int .i64 1))))⟩, ⟨some 17, none, (.mov (.t 16))⟩, ⟨some 18, (some (17, true)), (.mov (.t 1))⟩, ⟨some 19, (some (17, true)), (.idxS (.t 18) (.c (.pv (.int .i64 0))))⟩, ⟨some 20, (some (17, true)), (.bin .lss (.t 19) (.c (.pv (.int .u8 128))))⟩, ⟨some 21, none, (.pick (.t 17) (.t 20) (.c (.pv (.bool false))))⟩] [0, 1, 21])
 (.kp (.cond (.t 21) (.seq (.draw [⟨some 22, none, (.mov (.t 0))⟩, ⟨some 23, none, (.mov (.t 1))⟩, ⟨some 24, none, (.idxS (.t 23) (.c (.pv (.int .i64 0))))⟩, ⟨some 25, none, (.call 38 [(.t 22), (.t 24)])⟩, ⟨some 26, none, (.mov (.t 1))⟩, ⟨some 27, none, (.idxS (.t 26) (.c (.pv (.int .i64 0))))⟩, ⟨some 28, none, (.call 45 [(.t 25), (.t 27)])⟩, ⟨some 4, none, (.mov (.t 28))⟩] [] [4])
 .ret)
 .skip) [0, 1]))
 (.seq (.seq (.reg [⟨some 30, none, (.mov (.t 1))⟩, ⟨some 31, none, (.call 39 [(.t 30)])⟩, ⟨some 29, none, (.mov (.t 31))⟩, ⟨some 32, none, (.ext 0 (.t 29))⟩, ⟨some 33, none, (.ext 1 (.t 29))⟩, ⟨some 5, none, (.alloc zl30x0)⟩, ⟨none, none, (.store 256 (.t 5) (.t 32))⟩, ⟨some 6, none, (.asg (.t 33))⟩] [0, 1, 5, 6])
 (.seq (.reg [⟨some 34, none, (.mov (.t 6))⟩] [0, 1, 5, 34])
 (.kp (.cond (.t 34) (.seq (.reg [⟨some 35, none, (.mov (.t 0))⟩, ⟨some 36, none, (.call 40 [(.t 35), (.t 5)])⟩, ⟨some 37, none, (.call 46 [(.t 36), (.t 5)])⟩, ⟨some 4, none, (.asg (.t 37))⟩] [4])
 .ret)
 .skip) [0, 1])))
 (.seq (.reg [⟨some 38, none, (.mov (.t 0))⟩, ⟨some 39, none, (.mov (.t 1))⟩, ⟨some 40, none, (.call 41 [(.t 38), (.t 39)])⟩, ⟨some 41, none, (.mov (.t 1))⟩, ⟨some 42, none, (.call 47 [(.t 40), (.t 41)])⟩, ⟨some 4, none, (.asg (.t 42))⟩] [4])
 .ret))))) }
/-- scrim/value.number -/
def mf31 : MFun := { np := 1, res := [.t 2, .t 3], clean := true, body :=
 (.seq (.reg [⟨some 2, none, (.asg (.c (.pv (.int .i64 0))))⟩, ⟨some 3, none, (.asg (.c (.pv (.bool false))))⟩] [0])
 (.seq (.reg [⟨some 14, none, (.mov (.t 0))⟩, ⟨some 15, none, (.call 42 [(.t 14), (.c (.pv (.str [45])))])⟩, ⟨some 13, none, (.mov (.t 15))⟩, ⟨some 16, none, (.ext 0 (.t 13))⟩, ⟨some 17, none, (.ext 1 (.t 13))⟩, ⟨some 4, none, (.asg (.t 16))⟩, ⟨some 5, none, (.asg (.t 17))⟩] [4, 5])
 (.seq (.reg [⟨some 19, none, (.mov (.t 4))⟩, ⟨some 20, none, (.call 48 [(.t 19), (.c (.pv (.str [46])))])⟩, ⟨some 18, none, (.mov (.t 20))⟩, ⟨some 21, none, (.ext 0 (.t 18))⟩, ⟨some 22, none, (.ext 1 (.t 18))⟩, ⟨some 23, none, (.ext 2 (.t 18))⟩, ⟨some 6, none, (.asg (.t 21))⟩, ⟨some 7, none, (.asg (.t 22))⟩, ⟨some 8, none, (.asg (.t 23))⟩] [5, 6, 7, 8])
 (.seq (.seq (.reg [⟨some 24, none, (.mov (.t 6))⟩, ⟨some 25, none, (.call 49 [(.t 24), (.c (.pv (.int .i64 9)))])⟩, ⟨some 26, none, (.un .not (.t 25))⟩, ⟨some 27, none, (.mov (.t 26))⟩, ⟨some 28, (some (27, false)), (.mov (.t 8))⟩, ⟨some 29, (some (27, false)), (.mov (.t 28))⟩, ⟨some 30, (some (29, true)), (.mov (.t 7))⟩, ⟨some 31, (some (29, true)), (.call 49 [(.t 30), (.c (.pv (.int .i64 6)))])⟩, ⟨some 32, (some (29, true)), (.un .not (.t 31))⟩, ⟨some 33, (some (27, false)), (.pick (.t 29) (.t 32) (.c (.pv (.bool false))))⟩, ⟨some 34, none, (.pick (.t 27) (.c (.pv (.bool true))) (.t 33))⟩] [5, 6, 7, 34])
 (.kp (.cond (.t 34) (.seq (.reg [⟨some 2, none, (.asg (.c (.pv (.int .i64 0))))⟩, ⟨some 3, none, (.asg (.c (.pv (.bool false))))⟩] [2, 3])
 .ret)
 .skip) [5, 6, 7]))
 (.seq (.reg [⟨some 36, none, (.mov (.t 6))⟩, ⟨some 37, none, (.call 43 [(.t 36), (.c (.pv (.int .i64 10))), (.c (.pv (.int .i64 64)))])⟩, ⟨some 35, none, (.mov (.t 37))⟩, ⟨some 38, none, (.ext 0 (.t 35))⟩, ⟨some 39, none, (.ext 1 (.t 35))⟩, ⟨some 9, none, (.asg (.t 38))⟩, ⟨some 10, none, (.asg (.t 39))⟩] [5, 7, 9])
 (.seq (.reg [⟨some 41, none, (.mov (.t 7))⟩, ⟨some 42, none, (.bin .add (.t 41) (.c (.pv (.str [48, 48, 48, 48, 48, 48]))))⟩, ⟨some 43, none, (.slice true 0 (.t 42) none (some (.c (.pv (.int .i64 6)))) none)⟩, ⟨some 44, none, (.call 43 [(.t 43), (.c (.pv (.int .i64 10))), (.c (.pv (.int .i64 64)))])⟩, ⟨some 40, none, (.mov (.t 44))⟩, ⟨some 45, none, (.ext 0 (.t 40))⟩, ⟨some 46, none, (.ext 1 (.t 40))⟩, ⟨some 11, none, (.asg (.t 45))⟩, ⟨some 12, none, (.asg (.t 46))⟩] [5, 9, 11])
 (.seq (.reg [⟨some 47, none, (.mov (.t 9))⟩, ⟨some 48, none, (.bin .mul (.t 47) (.c (.pv (.int .i64 64))))⟩, ⟨some 49, none, (.mov (.t 11))⟩, ⟨some 50, none, (.bin .mul (.t 49) (.c (.pv (.int .i64 64))))⟩, ⟨some 51, none, (.bin .quo (.t 50) (.c (.pv (.int .i64 1000000))))⟩, ⟨some 52, none, (.bin .add (.t 48) (.t 51))⟩, ⟨some 9, none, (.asg (.t 52))⟩] [5, 9])
 (.seq (.seq (.reg [⟨some 53, none, (.mov (.t 5))⟩] [9, 53])
 (.kp (.cond (.t 53) (.reg [⟨some 54, none, (.mov (.t 9))⟩, ⟨some 55, none, (.un .neg (.t 54))⟩, ⟨some 9, none, (.asg (.t 55))⟩] [9])
 .skip) [9]))
 (.seq (.reg [⟨some 56, none, (.mov (.t 9))⟩, ⟨some 2, none, (.asg (.t 56))⟩, ⟨some 3, none, (.asg (.c (.pv (.bool true))))⟩] [2, 3])
 .ret))))))))) }
/-- scrim/value.sides -/
def mf32 : MFun := { np := 2, res := [(.c 4 true 4)], clean := true, body :=
 (.seq (.reg [⟨some 4, none, (.alloc [(.pv (.str [])), (.pv (.str [])), (.pv (.str [])), (.pv (.str []))])⟩] [0, 1, 4])
 (.seq (.reg [⟨some 5, none, (.mov (.t 0))⟩, ⟨some 6, none, (.bin .add (.t 5) (.c (.pv (.str [45, 116, 111, 112]))))⟩, ⟨some 7, none, (.mov (.t 1))⟩, ⟨some 8, none, (.bin .add (.t 6) (.t 7))⟩, ⟨some 9, none, (.mov (.t 0))⟩, ⟨some 10, none, (.bin .add (.t 9) (.c (.pv (.str [45, 114, 105, 103, 104, 116]))))⟩, ⟨some 11, none, (.mov (.t 1))⟩, ⟨some 12, none, (.bin .add (.t 10) (.t 11))⟩, ⟨some 13, none, (.mov (.t 0))⟩, ⟨some 14, none, (.bin .add (.t 13) (.c (.pv (.str [45, 98, 111, 116, 116, 111, 109]))))⟩, ⟨some 15, none, (.mov (.t 1))⟩, ⟨some 16, none, (.bin .add (.t 14) (.t 15))⟩, ⟨some 17, none, (.mov (.t 0))⟩, ⟨some 18, none, (.bin .add (.t 17) (.c (.pv (.str [45, 108, 101, 102, 116]))))⟩, ⟨some 19, none, (.mov (.t 1))⟩, ⟨some 20, none, (.bin .add (.t 18) (.t 19))⟩, ⟨some 21, none, (.build [(.pv (.str [])), (.pv (.str [])), (.pv (.str [])), (.pv (.str []))] [(0, 1, (.t 8)), (1, 1, (.t 12)), (2, 1, (.t 16)), (3, 1, (.t 20))])⟩, ⟨none, none, (.store 4 (.t 4) (.t 21))⟩] [4])
 .ret)) }
/-- internal/strconv.small -/
def mf33 : MFun := { np := 1, res := [.t 2], clean := true, body :=
 (.seq (.reg [⟨some 2, none, (.asg (.c (.pv (.str []))))⟩] [0])
 (.seq (.seq (.reg [⟨some 3, none, (.mov (.t 0))⟩, ⟨some 4, none, (.bin .lss (.t 3) (.c (.pv (.int .i64 10))))⟩] [0, 4])
 (.kp (.cond (.t 4) (.seq (.reg [⟨some 5, none, (.mov (.t 0))⟩, ⟨some 6, none, (.mov (.t 0))⟩, ⟨some 7, none, (.bin .add (.t 6) (.c (.pv (.int .i64 1))))⟩, ⟨some 8, none, (.slice true 0 (.c (.pv (.str [48, 49, 50, 51, 52, 53, 54, 55, 56, 57, 97, 98, 99, 100, 101, 102, 103, 104, 105, 106, 107, 108, 109, 110, 111, 112, 113, 114, 115, 116, 117, 118, 119, 120, 121, 122]))) (some (.t 5)) (some (.t 7)) none)⟩, ⟨some 2, none, (.asg (.t 8))⟩] [2])
 .ret)
 .skip) [0]))
 (.seq (.reg [⟨some 9, none, (.mov (.t 0))⟩, ⟨some 10, none, (.bin .mul (.t 9) (.c (.pv (.int .i64 2))))⟩, ⟨some 11, none, (.mov (.t 0))⟩, ⟨some 12, none, (.bin .mul (.t 11) (.c (.pv (.int .i64 2))))⟩, ⟨some 13, none, (.bin .add (.t 12) (.c (.pv (.int .i64 2))))⟩, ⟨some 14, none, (.slice true 0 (.c (.pv (.str [48, 48, 48, 49, 48, 50, 48, 51, 48, 52, 48, 53, 48, 54, 48, 55, 48, 56, 48, 57, 49, 48, 49, 49, 49, 50, 49, 51, 49, 52, 49, 53, 49, 54, 49, 55, 49, 56, 49, 57, 50, 48, 50, 49, 50, 50, 50, 51, 50, 52, 50, 53, 50, 54, 50, 55, 50, 56, 50, 57, 51, 48, 51, 49, 51, 50, 51, 51, 51, 52, 51, 53, 51, 54, 51, 55, 51, 56, 51, 57, 52, 48, 52, 49, 52, 50, 52, 51, 52, 52, 52, 53, 52, 54, 52, 55, 52, 56, 52, 57, 53, 48, 53, 49, 53, 50, 53, 51, 53, 52, 53, 53, 53, 54, 53, 55, 53, 56, 53, 57, 54, 48, 54, 49, 54, 50, 54, 51, 54, 52, 54, 53, 54, 54, 54, 55, 54, 56, 54, 57, 55, 48, 55, 49, 55, 50, 55, 51, 55, 52, 55, 53, 55, 54, 55, 55, 55, 56, 55, 57, 56, 48, 56, 49, 56, 50, 56, 51, 56, 52, 56, 53, 56, 54, 56, 55, 56, 56, 56, 57, 57, 48, 57, 49, 57, 50, 57, 51, 57, 52, 57, 53, 57, 54, 57, 55, 57, 56, 57, 57]))) (some (.t 10)) (some (.t 13)) none)⟩, ⟨some 2, none, (.asg (.t 14))⟩] [2])
 .ret))) }
/-- internal/strconv.numDigits -/
def mf34 : MFun := { np := 1, res := [.t 2], clean := true, body :=
 (.seq (.reg [⟨some 2, none, (.asg (.c (.pv (.int .i64 0))))⟩] [0])
 (.seq (.reg [⟨some 4, none, (.mov (.t 0))⟩, ⟨some 5, none, (.call 51 [(.t 4)])⟩, ⟨some 6, none, (.call 50 [(.t 5)])⟩, ⟨some 3, none, (.asg (.t 6))⟩] [0, 3])
 (.seq (.reg [⟨some 7, none, (.mov (.t 3))⟩, ⟨some 8, none, (.mov (.t 0))⟩, ⟨some 9, none, (.mov (.t 3))⟩, ⟨some 10, none, (.iadrA 20 1 (.c (.elem tab0 0)) (.t 9))⟩, ⟨some 11, none, (.load false 1 (.t 10))⟩, ⟨some 12, none, (.bin .geq (.t 8) (.t 11))⟩, ⟨some 13, none, (.call 52 [(.t 12)])⟩, ⟨some 14, none, (.bin .add (.t 7) (.t 13))⟩, ⟨some 2, none, (.asg (.t 14))⟩] [2])
 .ret))) }
def lp35x0 : MC :=
 (.seq (.seq (.reg [⟨some 19, none, (.mov (.t 4))⟩, ⟨some 20, none, (.bin .geq (.t 19) (.c (.pv (.int .i64 8))))⟩] [0, 1, 4, 20])
 (.kp (.cond (.t 20) .skip
 (.exit 0)) [0, 1, 4]))
 (.kp (.block 1 (.seq (.reg [⟨some 21, none, (.mov (.t 1))⟩, ⟨some 22, none, (.bin .rem (.t 21) (.c (.pv (.int .u64 100000000))))⟩, ⟨some 23, none, (.conv (.int .u32) (.t 22))⟩, ⟨some 5, none, (.asg (.t 23))⟩] [0, 1, 4, 5])
 (.seq (.reg [⟨some 24, none, (.mov (.t 1))⟩, ⟨some 25, none, (.bin .quo (.t 24) (.c (.pv (.int .u64 100000000))))⟩, ⟨some 1, none, (.asg (.t 25))⟩] [0, 1, 4, 5])
 (.seq (.reg [⟨some 26, none, (.mov (.t 5))⟩, ⟨some 27, none, (.bin .quo (.t 26) (.c (.pv (.int .u32 10000))))⟩, ⟨some 28, none, (.mov (.t 5))⟩, ⟨some 29, none, (.bin .rem (.t 28) (.c (.pv (.int .u32 10000))))⟩, ⟨some 6, none, (.asg (.t 27))⟩, ⟨some 7, none, (.asg (.t 29))⟩] [0, 1, 4, 6, 7])
 (.seq (.reg [⟨some 30, none, (.mov (.t 7))⟩, ⟨some 31, none, (.bin .quo (.t 30) (.c (.pv (.int .u32 100))))⟩, ⟨some 32, none, (.bin .mul (.t 31) (.c (.pv (.int .u32 2))))⟩, ⟨some 33, none, (.mov (.t 7))⟩, ⟨some 34, none, (.bin .rem (.t 33) (.c (.pv (.int .u32 100))))⟩, ⟨some 35, none, (.bin .mul (.t 34) (.c (.pv (.int .u32 2))))⟩, ⟨some 8, none, (.asg (.t 32))⟩, ⟨some 9, none, (.asg (.t 35))⟩] [0, 1, 4, 6, 8, 9])
 (.seq (.reg [⟨some 36, none, (.mov (.t 6))⟩, ⟨some 37, none, (.bin .quo (.t 36) (.c (.pv (.int .u32 100))))⟩, ⟨some 38, none, (.bin .mul (.t 37) (.c (.pv (.int .u32 2))))⟩, ⟨some 39, none, (.mov (.t 6))⟩, ⟨some 40, none, (.bin .rem (.t 39) (.c (.pv (.int .u32 100))))⟩, ⟨some 41, none, (.bin .mul (.t 40) (.c (.pv (.int .u32 2))))⟩, ⟨some 10, none, (.asg (.t 38))⟩, ⟨some 11, none, (.asg (.t 41))⟩] [0, 1, 4, 8, 9, 10, 11])
 (.seq (.loud [⟨some 42, none, (.movd (.t 0))⟩, ⟨some 43, none, (.movd (.t 4))⟩, ⟨some 44, none, (.bin .sub (.t 43) (.c (.pv (.int .i64 1))))⟩, ⟨some 45, none, (.movd (.t 0))⟩, ⟨some 46, none, (.movd (.t 4))⟩, ⟨some 47, none, (.bin .sub (.t 46) (.c (.pv (.int .i64 2))))⟩, ⟨some 48, none, (.movd (.t 9))⟩, ⟨some 49, none, (.bin .add (.t 48) (.c (.pv (.int .u32 1))))⟩, ⟨some 50, none, (.idxS (.c (.pv (.str [48, 48, 48, 49, 48, 50, 48, 51, 48, 52, 48, 53, 48, 54, 48, 55, 48, 56, 48, 57, 49, 48, 49, 49, 49, 50, 49, 51, 49, 52, 49, 53, 49, 54, 49, 55, 49, 56, 49, 57, 50, 48, 50, 49, 50, 50, 50, 51, 50, 52, 50, 53, 50, 54, 50, 55, 50, 56, 50, 57, 51, 48, 51, 49, 51, 50, 51, 51, 51, 52, 51, 53, 51, 54, 51, 55, 51, 56, 51, 57, 52, 48, 52, 49, 52, 50, 52, 51, 52, 52, 52, 53, 52, 54, 52, 55, 52, 56, 52, 57, 53, 48, 53, 49, 53, 50, 53, 51, 53, 52, 53, 53, 53, 54, 53, 55, 53, 56, 53, 57, 54, 48, 54, 49, 54, 50, 54, 51, 54, 52, 54, 53, 54, 54, 54, 55, 54, 56, 54, 57, 55, 48, 55, 49, 55, 50, 55, 51, 55, 52, 55, 53, 55, 54, 55, 55, 55, 56, 55, 57, 56, 48, 56, 49, 56, 50, 56, 51, 56, 52, 56, 53, 56, 54, 56, 55, 56, 56, 56, 57, 57, 48, 57, 49, 57, 50, 57, 51, 57, 52, 57, 53, 57, 54, 57, 55, 57, 56, 57, 57]))) (.t 49))⟩, ⟨some 51, none, (.movd (.t 9))⟩, ⟨some 52, none, (.idxS (.c (.pv (.str [48, 48, 48, 49, 48, 50, 48, 51, 48, 52, 48, 53, 48, 54, 48, 55, 48, 56, 48, 57, 49, 48, 49, 49, 49, 50, 49, 51, 49, 52, 49, 53, 49, 54, 49, 55, 49, 56, 49, 57, 50, 48, 50, 49, 50, 50, 50, 51, 50, 52, 50, 53, 50, 54, 50, 55, 50, 56, 50, 57, 51, 48, 51, 49, 51, 50, 51, 51, 51, 52, 51, 53, 51, 54, 51, 55, 51, 56, 51, 57, 52, 48, 52, 49, 52, 50, 52, 51, 52, 52, 52, 53, 52, 54, 52, 55, 52, 56, 52, 57, 53, 48, 53, 49, 53, 50, 53, 51, 53, 52, 53, 53, 53, 54, 53, 55, 53, 56, 53, 57, 54, 48, 54, 49, 54, 50, 54, 51, 54, 52, 54, 53, 54, 54, 54, 55, 54, 56, 54, 57, 55, 48, 55, 49, 55, 50, 55, 51, 55, 52, 55, 53, 55, 54, 55, 55, 55, 56, 55, 57, 56, 48, 56, 49, 56, 50, 56, 51, 56, 52, 56, 53, 56, 54, 56, 55, 56, 56, 56, 57, 57, 48, 57, 49, 57, 50, 57, 51, 57, 52, 57, 53, 57, 54, 57, 55, 57, 56, 57, 57]))) (.t 51))⟩, ⟨some 53, none, (.iadr 1 (.t 42) (.t 44))⟩, ⟨none, none, (.store 1 (.t 53) (.t 50))⟩, ⟨some 54, none, (.iadr 1 (.t 45) (.t 47))⟩, ⟨none, none, (.store 1 (.t 54) (.t 52))⟩] [0, 1, 2, 3, 4, 5, 6, 7, 8, 9, 10, 11, 12, 13, 14] [0, 0, 1, 5, 5, 6, 0, 1, 2, 0, 1, 3, 4, 7, 8] [0, 1, 4, 8, 10, 11])
 (.seq (.loud [⟨some 55, none, (.movd (.t 0))⟩, ⟨some 56, none, (.movd (.t 4))⟩, ⟨some 57, none, (.bin .sub (.t 56) (.c (.pv (.int .i64 3))))⟩, ⟨some 58, none, (.movd (.t 0))⟩, ⟨some 59, none, (.movd (.t 4))⟩, ⟨some 60, none, (.bin .sub (.t 59) (.c (.pv (.int .i64 4))))⟩, ⟨some 61, none, (.movd (.t 8))⟩, ⟨some 62, none, (.bin .add (.t 61) (.c (.pv (.int .u32 1))))⟩, ⟨some 63, none, (.idxS (.c (.pv (.str [48, 48, 48, 49, 48, 50, 48, 51, 48, 52, 48, 53, 48, 54, 48, 55, 48, 56, 48, 57, 49, 48, 49, 49, 49, 50, 49, 51, 49, 52, 49, 53, 49, 54, 49, 55, 49, 56, 49, 57, 50, 48, 50, 49, 50, 50, 50, 51, 50, 52, 50, 53, 50, 54, 50, 55, 50, 56, 50, 57, 51, 48, 51, 49, 51, 50, 51, 51, 51, 52, 51, 53, 51, 54, 51, 55, 51, 56, 51, 57, 52, 48, 52, 49, 52, 50, 52, 51, 52, 52, 52, 53, 52, 54, 52, 55, 52, 56, 52, 57, 53, 48, 53, 49, 53, 50, 53, 51, 53, 52, 53, 53, 53, 54, 53, 55, 53, 56, 53, 57, 54, 48, 54, 49, 54, 50, 54, 51, 54, 52, 54, 53, 54, 54, 54, 55, 54, 56, 54, 57, 55, 48, 55, 49, 55, 50, 55, 51, 55, 52, 55, 53, 55, 54, 55, 55, 55, 56, 55, 57, 56, 48, 56, 49, 56, 50, 56, 51, 56, 52, 56, 53, 56, 54, 56, 55, 56, 56, 56, 57, 57, 48, 57, 49, 57, 50, 57, 51, 57, 52, 57, 53, 57, 54, 57, 55, 57, 56, 57, 57]))) (.t 62))⟩, ⟨some 64, none, (.movd (.t 8))⟩, ⟨some 65, none, (.idxS (.c (.pv (.str [48, 48, 48, 49, 48, 50, 48, 51, 48, 52, 48, 53, 48, 54, 48, 55, 48, 56, 48, 57, 49, 48, 49, 49, 49, 50, 49, 51, 49, 52, 49, 53, 49, 54, 49, 55, 49, 56, 49, 57, 50, 48, 50, 49, 50, 50, 50, 51, 50, 52, 50, 53, 50, 54, 50, 55, 50, 56, 50, 57, 51, 48, 51, 49, 51, 50, 51, 51, 51, 52, 51, 53, 51, 54, 51, 55, 51, 56, 51, 57, 52, 48, 52, 49, 52, 50, 52, 51, 52, 52, 52, 53, 52, 54, 52, 55, 52, 56, 52, 57, 53, 48, 53, 49, 53, 50, 53, 51, 53, 52, 53, 53, 53, 54, 53, 55, 53, 56, 53, 57, 54, 48, 54, 49, 54, 50, 54, 51, 54, 52, 54, 53, 54, 54, 54, 55, 54, 56, 54, 57, 55, 48, 55, 49, 55, 50, 55, 51, 55, 52, 55, 53, 55, 54, 55, 55, 55, 56, 55, 57, 56, 48, 56, 49, 56, 50, 56, 51, 56, 52, 56, 53, 56, 54, 56, 55, 56, 56, 56, 57, 57, 48, 57, 49, 57, 50, 57, 51, 57, 52, 57, 53, 57, 54, 57, 55, 57, 56, 57, 57]))) (.t 64))⟩, ⟨some 66, none, (.iadr 1 (.t 55) (.t 57))⟩, ⟨none, none, (.store 1 (.t 66) (.t 63))⟩, ⟨some 67, none, (.iadr 1 (.t 58) (.t 60))⟩, ⟨none, none, (.store 1 (.t 67) (.t 65))⟩] [0, 1, 2, 3, 4, 5, 6, 7, 8, 9, 10, 11, 12, 13, 14] [0, 0, 1, 5, 5, 6, 0, 1, 2, 0, 1, 3, 4, 7, 8] [0, 1, 4, 10, 11])
 (.seq (.loud [⟨some 68, none, (.movd (.t 0))⟩, ⟨some 69, none, (.movd (.t 4))⟩, ⟨some 70, none, (.bin .sub (.t 69) (.c (.pv (.int .i64 5))))⟩, ⟨some 71, none, (.movd (.t 0))⟩, ⟨some 72, none, (.movd (.t 4))⟩, ⟨some 73, none, (.bin .sub (.t 72) (.c (.pv (.int .i64 6))))⟩, ⟨some 74, none, (.movd (.t 11))⟩, ⟨some 75, none, (.bin .add (.t 74) (.c (.pv (.int .u32 1))))⟩, ⟨some 76, none, (.idxS (.c (.pv (.str [48, 48, 48, 49, 48, 50, 48, 51, 48, 52, 48, 53, 48, 54, 48, 55, 48, 56, 48, 57, 49, 48, 49, 49, 49, 50, 49, 51, 49, 52, 49, 53, 49, 54, 49, 55, 49, 56, 49, 57, 50, 48, 50, 49, 50, 50, 50, 51, 50, 52, 50, 53, 50, 54, 50, 55, 50, 56, 50, 57, 51, 48, 51, 49, 51, 50, 51, 51, 51, 52, 51, 53, 51, 54, 51, 55, 51, 56, 51, 57, 52, 48, 52, 49, 52, 50, 52, 51, 52, 52, 52, 53, 52, 54, 52, 55, 52, 56, 52, 57, 53, 48, 53, 49, 53, 50, 53, 51, 53, 52, 53, 53, 53, 54, 53, 55, 53, 56, 53, 57, 54, 48, 54, 49, 54, 50, 54, 51, 54, 52, 54, 53, 54, 54, 54, 55, 54, 56, 54, 57, 55, 48, 55, 49, 55, 50, 55, 51, 55, 52, 55, 53, 55, 54, 55, 55, 55, 56, 55, 57, 56, 48, 56, 49, 56, 50, 56, 51, 56, 52, 56, 53, 56, 54, 56, 55, 56, 56, 56, 57, 57, 48, 57, 49, 57, 50, 57, 51, 57, 52, 57, 53, 57, 54, 57, 55, 57, 56, 57, 57]))) (.t 75))⟩, ⟨some 77, none, (.movd (.t 11))⟩, ⟨some 78, none, (.idxS (.c (.pv (.str [48, 48, 48, 49, 48, 50, 48, 51, 48, 52, 48, 53, 48, 54, 48, 55, 48, 56, 48, 57, 49, 48, 49, 49, 49, 50, 49, 51, 49, 52, 49, 53, 49, 54, 49, 55, 49, 56, 49, 57, 50, 48, 50, 49, 50, 50, 50, 51, 50, 52, 50, 53, 50, 54, 50, 55, 50, 56, 50, 57, 51, 48, 51, 49, 51, 50, 51, 51, 51, 52, 51, 53, 51, 54, 51, 55, 51, 56, 51, 57, 52, 48, 52, 49, 52, 50, 52, 51, 52, 52, 52, 53, 52, 54, 52, 55, 52, 56, 52, 57, 53, 48, 53, 49, 53, 50, 53, 51, 53, 52, 53, 53, 53, 54, 53, 55, 53, 56, 53, 57, 54, 48, 54, 49, 54, 50, 54, 51, 54, 52, 54, 53, 54, 54, 54, 55, 54, 56, 54, 57, 55, 48, 55, 49, 55, 50, 55, 51, 55, 52, 55, 53, 55, 54, 55, 55, 55, 56, 55, 57, 56, 48, 56, 49, 56, 50, 56, 51, 56, 52, 56, 53, 56, 54, 56, 55, 56, 56, 56, 57, 57, 48, 57, 49, 57, 50, 57, 51, 57, 52, 57, 53, 57, 54, 57, 55, 57, 56, 57, 57]))) (.t 77))⟩, ⟨some 79, none, (.iadr 1 (.t 68) (.t 70))⟩, ⟨none, none, (.store 1 (.t 79) (.t 76))⟩, ⟨some 80, none, (.iadr 1 (.t 71) (.t 73))⟩, ⟨none, none, (.store 1 (.t 80) (.t 78))⟩] [0, 1, 2, 3, 4, 5, 6, 7, 8, 9, 10, 11, 12, 13, 14] [0, 0, 1, 5, 5, 6, 0, 1, 2, 0, 1, 3, 4, 7, 8] [0, 1, 4, 10])
 (.seq (.loud [⟨some 81, none, (.movd (.t 0))⟩, ⟨some 82, none, (.movd (.t 4))⟩, ⟨some 83, none, (.bin .sub (.t 82) (.c (.pv (.int .i64 7))))⟩, ⟨some 84, none, (.movd (.t 0))⟩, ⟨some 85, none, (.movd (.t 4))⟩, ⟨some 86, none, (.bin .sub (.t 85) (.c (.pv (.int .i64 8))))⟩, ⟨some 87, none, (.movd (.t 10))⟩, ⟨some 88, none, (.bin .add (.t 87) (.c (.pv (.int .u32 1))))⟩, ⟨some 89, none, (.idxS (.c (.pv (.str [48, 48, 48, 49, 48, 50, 48, 51, 48, 52, 48, 53, 48, 54, 48, 55, 48, 56, 48, 57, 49, 48, 49, 49, 49, 50, 49, 51, 49, 52, 49, 53, 49, 54, 49, 55, 49, 56, 49, 57, 50, 48, 50, 49, 50, 50, 50, 51, 50, 52, 50, 53, 50, 54, 50, 55, 50, 56, 50, 57, 51, 48, 51, 49, 51, 50, 51, 51, 51, 52, 51, 53, 51, 54, 51, 55, 51, 56, 51, 57, 52, 48, 52, 49, 52, 50, 52, 51, 52, 52, 52, 53, 52, 54, 52, 55, 52, 56, 52, 57, 53, 48, 53, 49, 53, 50, 53, 51, 53, 52, 53, 53, 53, 54, 53, 55, 53, 56, 53, 57, 54, 48, 54, 49, 54, 50, 54, 51, 54, 52, 54, 53, 54, 54, 54, 55, 54, 56, 54, 57, 55, 48, 55, 49, 55, 50, 55, 51, 55, 52, 55, 53, 55, 54, 55, 55, 55, 56, 55, 57, 56, 48, 56, 49, 56, 50, 56, 51, 56, 52, 56, 53, 56, 54, 56, 55, 56, 56, 56, 57, 57, 48, 57, 49, 57, 50, 57, 51, 57, 52, 57, 53, 57, 54, 57, 55, 57, 56, 57, 57]))) (.t 88))⟩, ⟨some 90, none, (.movd (.t 10))⟩, ⟨some 91, none, (.idxS (.c (.pv (.str [48, 48, 48, 49, 48, 50, 48, 51, 48, 52, 48, 53, 48, 54, 48, 55, 48, 56, 48, 57, 49, 48, 49, 49, 49, 50, 49, 51, 49, 52, 49, 53, 49, 54, 49, 55, 49, 56, 49, 57, 50, 48, 50, 49, 50, 50, 50, 51, 50, 52, 50, 53, 50, 54, 50, 55, 50, 56, 50, 57, 51, 48, 51, 49, 51, 50, 51, 51, 51, 52, 51, 53, 51, 54, 51, 55, 51, 56, 51, 57, 52, 48, 52, 49, 52, 50, 52, 51, 52, 52, 52, 53, 52, 54, 52, 55, 52, 56, 52, 57, 53, 48, 53, 49, 53, 50, 53, 51, 53, 52, 53, 53, 53, 54, 53, 55, 53, 56, 53, 57, 54, 48, 54, 49, 54, 50, 54, 51, 54, 52, 54, 53, 54, 54, 54, 55, 54, 56, 54, 57, 55, 48, 55, 49, 55, 50, 55, 51, 55, 52, 55, 53, 55, 54, 55, 55, 55, 56, 55, 57, 56, 48, 56, 49, 56, 50, 56, 51, 56, 52, 56, 53, 56, 54, 56, 55, 56, 56, 56, 57, 57, 48, 57, 49, 57, 50, 57, 51, 57, 52, 57, 53, 57, 54, 57, 55, 57, 56, 57, 57]))) (.t 90))⟩, ⟨some 92, none, (.iadr 1 (.t 81) (.t 83))⟩, ⟨none, none, (.store 1 (.t 92) (.t 89))⟩, ⟨some 93, none, (.iadr 1 (.t 84) (.t 86))⟩, ⟨none, none, (.store 1 (.t 93) (.t 91))⟩] [0, 1, 2, 3, 4, 5, 6, 7, 8, 9, 10, 11, 12, 13, 14] [0, 0, 1, 5, 5, 6, 0, 1, 2, 0, 1, 3, 4, 7, 8] [0, 1, 4])
 (.reg [⟨some 94, none, (.mov (.t 4))⟩, ⟨some 95, none, (.bin .sub (.t 94) (.c (.pv (.int .i64 8))))⟩, ⟨some 4, none, (.asg (.t 95))⟩] [0, 1, 4]))))))))))) [0, 1, 4]))
/-- internal/strconv.formatBase10 -/
def mf35 : MFun := { np := 2, res := [], clean := false, body :=
 (.seq (.reg [⟨some 17, none, (.mov (.t 0))⟩, ⟨some 18, none, (.len false (.t 17))⟩, ⟨some 4, none, (.asg (.t 18))⟩] [0, 1, 4])
 (.seq (.kp (.block 0 (.loop lp35x0)) [0, 1, 4])
 (.seq (.reg [⟨some 96, none, (.mov (.t 1))⟩, ⟨some 97, none, (.conv (.int .u32) (.t 96))⟩, ⟨some 12, none, (.asg (.t 97))⟩] [0, 4, 12])
 (.seq (.seq (.reg [⟨some 98, none, (.mov (.t 4))⟩, ⟨some 99, none, (.bin .geq (.t 98) (.c (.pv (.int .i64 4))))⟩] [0, 4, 12, 99])
 (.kp (.cond (.t 99) (.seq (.reg [⟨some 100, none, (.mov (.t 12))⟩, ⟨some 101, none, (.bin .rem (.t 100) (.c (.pv (.int .u32 10000))))⟩, ⟨some 13, none, (.asg (.t 101))⟩] [0, 4, 12, 13])
 (.seq (.reg [⟨some 102, none, (.mov (.t 12))⟩, ⟨some 103, none, (.bin .quo (.t 102) (.c (.pv (.int .u32 10000))))⟩, ⟨some 12, none, (.asg (.t 103))⟩] [0, 4, 12, 13])
 (.seq (.reg [⟨some 104, none, (.mov (.t 13))⟩, ⟨some 105, none, (.bin .quo (.t 104) (.c (.pv (.int .u32 100))))⟩, ⟨some 106, none, (.bin .mul (.t 105) (.c (.pv (.int .u32 2))))⟩, ⟨some 107, none, (.mov (.t 13))⟩, ⟨some 108, none, (.bin .rem (.t 107) (.c (.pv (.int .u32 100))))⟩, ⟨some 109, none, (.bin .mul (.t 108) (.c (.pv (.int .u32 2))))⟩, ⟨some 14, none, (.asg (.t 106))⟩, ⟨some 15, none, (.asg (.t 109))⟩] [0, 4, 12, 14, 15])
 (.seq (.loud [⟨some 110, none, (.movd (.t 0))⟩, ⟨some 111, none, (.movd (.t 4))⟩, ⟨some 112, none, (.bin .sub (.t 111) (.c (.pv (.int .i64 1))))⟩, ⟨some 113, none, (.movd (.t 0))⟩, ⟨some 114, none, (.movd (.t 4))⟩, ⟨some 115, none, (.bin .sub (.t 114) (.c (.pv (.int .i64 2))))⟩, ⟨some 116, none, (.movd (.t 15))⟩, ⟨some 117, none, (.bin .add (.t 116) (.c (.pv (.int .u32 1))))⟩, ⟨some 118, none, (.idxS (.c (.pv (.str [48, 48, 48, 49, 48, 50, 48, 51, 48, 52, 48, 53, 48, 54, 48, 55, 48, 56, 48, 57, 49, 48, 49, 49, 49, 50, 49, 51, 49, 52, 49, 53, 49, 54, 49, 55, 49, 56, 49, 57, 50, 48, 50, 49, 50, 50, 50, 51, 50, 52, 50, 53, 50, 54, 50, 55, 50, 56, 50, 57, 51, 48, 51, 49, 51, 50, 51, 51, 51, 52, 51, 53, 51, 54, 51, 55, 51, 56, 51, 57, 52, 48, 52, 49, 52, 50, 52, 51, 52, 52, 52, 53, 52, 54, 52, 55, 52, 56, 52, 57, 53, 48, 53, 49, 53, 50, 53, 51, 53, 52, 53, 53, 53, 54, 53, 55, 53, 56, 53, 57, 54, 48, 54, 49, 54, 50, 54, 51, 54, 52, 54, 53, 54, 54, 54, 55, 54, 56, 54, 57, 55, 48, 55, 49, 55, 50, 55, 51, 55, 52, 55, 53, 55, 54, 55, 55, 55, 56, 55, 57, 56, 48, 56, 49, 56, 50, 56, 51, 56, 52, 56, 53, 56, 54, 56, 55, 56, 56, 56, 57, 57, 48, 57, 49, 57, 50, 57, 51, 57, 52, 57, 53, 57, 54, 57, 55, 57, 56, 57, 57]))) (.t 117))⟩, ⟨some 119, none, (.movd (.t 15))⟩, ⟨some 120, none, (.idxS (.c (.pv (.str [48, 48, 48, 49, 48, 50, 48, 51, 48, 52, 48, 53, 48, 54, 48, 55, 48, 56, 48, 57, 49, 48, 49, 49, 49, 50, 49, 51, 49, 52, 49, 53, 49, 54, 49, 55, 49, 56, 49, 57, 50, 48, 50, 49, 50, 50, 50, 51, 50, 52, 50, 53, 50, 54, 50, 55, 50, 56, 50, 57, 51, 48, 51, 49, 51, 50, 51, 51, 51, 52, 51, 53, 51, 54, 51, 55, 51, 56, 51, 57, 52, 48, 52, 49, 52, 50, 52, 51, 52, 52, 52, 53, 52, 54, 52, 55, 52, 56, 52, 57, 53, 48, 53, 49, 53, 50, 53, 51, 53, 52, 53, 53, 53, 54, 53, 55, 53, 56, 53, 57, 54, 48, 54, 49, 54, 50, 54, 51, 54, 52, 54, 53, 54, 54, 54, 55, 54, 56, 54, 57, 55, 48, 55, 49, 55, 50, 55, 51, 55, 52, 55, 53, 55, 54, 55, 55, 55, 56, 55, 57, 56, 48, 56, 49, 56, 50, 56, 51, 56, 52, 56, 53, 56, 54, 56, 55, 56, 56, 56, 57, 57, 48, 57, 49, 57, 50, 57, 51, 57, 52, 57, 53, 57, 54, 57, 55, 57, 56, 57, 57]))) (.t 119))⟩, ⟨some 121, none, (.iadr 1 (.t 110) (.t 112))⟩, ⟨none, none, (.store 1 (.t 121) (.t 118))⟩, ⟨some 122, none, (.iadr 1 (.t 113) (.t 115))⟩, ⟨none, none, (.store 1 (.t 122) (.t 120))⟩] [0, 1, 2, 3, 4, 5, 6, 7, 8, 9, 10, 11, 12, 13, 14] [0, 0, 1, 5, 5, 6, 0, 1, 2, 0, 1, 3, 4, 7, 8] [0, 4, 12, 14])
 (.seq (.loud [⟨some 123, none, (.movd (.t 0))⟩, ⟨some 124, none, (.movd (.t 4))⟩, ⟨some 125, none, (.bin .sub (.t 124) (.c (.pv (.int .i64 3))))⟩, ⟨some 126, none, (.movd (.t 0))⟩, ⟨some 127, none, (.movd (.t 4))⟩, ⟨some 128, none, (.bin .sub (.t 127) (.c (.pv (.int .i64 4))))⟩, ⟨some 129, none, (.movd (.t 14))⟩, ⟨some 130, none, (.bin .add (.t 129) (.c (.pv (.int .u32 1))))⟩, ⟨some 131, none, (.idxS (.c (.pv (.str [48, 48, 48, 49, 48, 50, 48, 51, 48, 52, 48, 53, 48, 54, 48, 55, 48, 56, 48, 57, 49, 48, 49, 49, 49, 50, 49, 51, 49, 52, 49, 53, 49, 54, 49, 55, 49, 56, 49, 57, 50, 48, 50, 49, 50, 50, 50, 51, 50, 52, 50, 53, 50, 54, 50, 55, 50, 56, 50, 57, 51, 48, 51, 49, 51, 50, 51, 51, 51, 52, 51, 53, 51, 54, 51, 55, 51, 56, 51, 57, 52, 48, 52, 49, 52, 50, 52, 51, 52, 52, 52, 53, 52, 54, 52, 55, 52, 56, 52, 57, 53, 48, 53, 49, 53, 50, 53, 51, 53, 52, 53, 53, 53, 54, 53, 55, 53, 56, 53, 57, 54, 48, 54, 49, 54, 50, 54, 51, 54, 52, 54, 53, 54, 54, 54, 55, 54, 56, 54, 57, 55, 48, 55, 49, 55, 50, 55, 51, 55, 52, 55, 53, 55, 54, 55, 55, 55, 56, 55, 57, 56, 48, 56, 49, 56, 50, 56, 51, 56, 52, 56, 53, 56, 54, 56, 55, 56, 56, 56, 57, 57, 48, 57, 49, 57, 50, 57, 51, 57, 52, 57, 53, 57, 54, 57, 55, 57, 56, 57, 57]))) (.t 130))⟩, ⟨some 132, none, (.movd (.t 14))⟩, ⟨some 133, none, (.idxS (.c (.pv (.str [48, 48, 48, 49, 48, 50, 48, 51, 48, 52, 48, 53, 48, 54, 48, 55, 48, 56, 48, 57, 49, 48, 49, 49, 49, 50, 49, 51, 49, 52, 49, 53, 49, 54, 49, 55, 49, 56, 49, 57, 50, 48, 50, 49, 50, 50, 50, 51, 50, 52, 50, 53, 50, 54, 50, 55, 50, 56, 50, 57, 51, 48, 51, 49, 51, 50, 51, 51, 51, 52, 51, 53, 51, 54, 51, 55, 51, 56, 51, 57, 52, 48, 52, 49, 52, 50, 52, 51, 52, 52, 52, 53, 52, 54, 52, 55, 52, 56, 52, 57, 53, 48, 53, 49, 53, 50, 53, 51, 53, 52, 53, 53, 53, 54, 53, 55, 53, 56, 53, 57, 54, 48, 54, 49, 54, 50, 54, 51, 54, 52, 54, 53, 54, 54, 54, 55, 54, 56, 54, 57, 55, 48, 55, 49, 55, 50, 55, 51, 55, 52, 55, 53, 55, 54, 55, 55, 55, 56, 55, 57, 56, 48, 56, 49, 56, 50, 56, 51, 56, 52, 56, 53, 56, 54, 56, 55, 56, 56, 56, 57, 57, 48, 57, 49, 57, 50, 57, 51, 57, 52, 57, 53, 57, 54, 57, 55, 57, 56, 57, 57]))) (.t 132))⟩, ⟨some 134, none, (.iadr 1 (.t 123) (.t 125))⟩, ⟨none, none, (.store 1 (.t 134) (.t 131))⟩, ⟨some 135, none, (.iadr 1 (.t 126) (.t 128))⟩, ⟨none, none, (.store 1 (.t 135) (.t 133))⟩] [0, 1, 2, 3, 4, 5, 6, 7, 8, 9, 10, 11, 12, 13, 14] [0, 0, 1, 5, 5, 6, 0, 1, 2, 0, 1, 3, 4, 7, 8] [0, 4, 12])
 (.reg [⟨some 136, none, (.mov (.t 4))⟩, ⟨some 137, none, (.bin .sub (.t 136) (.c (.pv (.int .i64 4))))⟩, ⟨some 4, none, (.asg (.t 137))⟩] [0, 4, 12]))))))
 .skip) [0, 4, 12]))
 (.seq (.seq (.reg [⟨some 138, none, (.mov (.t 4))⟩, ⟨some 139, none, (.bin .geq (.t 138) (.c (.pv (.int .i64 2))))⟩] [0, 4, 12, 139])
 (.kp (.cond (.t 139) (.seq (.reg [⟨some 140, none, (.mov (.t 12))⟩, ⟨some 141, none, (.bin .rem (.t 140) (.c (.pv (.int .u32 100))))⟩, ⟨some 142, none, (.bin .mul (.t 141) (.c (.pv (.int .u32 2))))⟩, ⟨some 16, none, (.asg (.t 142))⟩] [0, 4, 12, 16])
 (.seq (.reg [⟨some 143, none, (.mov (.t 12))⟩, ⟨some 144, none, (.bin .quo (.t 143) (.c (.pv (.int .u32 100))))⟩, ⟨some 12, none, (.asg (.t 144))⟩] [0, 4, 12, 16])
 (.seq (.loud [⟨some 145, none, (.movd (.t 0))⟩, ⟨some 146, none, (.movd (.t 4))⟩, ⟨some 147, none, (.bin .sub (.t 146) (.c (.pv (.int .i64 1))))⟩, ⟨some 148, none, (.movd (.t 0))⟩, ⟨some 149, none, (.movd (.t 4))⟩, ⟨some 150, none, (.bin .sub (.t 149) (.c (.pv (.int .i64 2))))⟩, ⟨some 151, none, (.movd (.t 16))⟩, ⟨some 152, none, (.bin .add (.t 151) (.c (.pv (.int .u32 1))))⟩, ⟨some 153, none, (.idxS (.c (.pv (.str [48, 48, 48, 49, 48, 50, 48, 51, 48, 52, 48, 53, 48, 54, 48, 55, 48, 56, 48, 57, 49, 48, 49, 49, 49, 50, 49, 51, 49, 52, 49, 53, 49, 54, 49, 55, 49, 56, 49, 57, 50, 48, 50, 49, 50, 50, 50, 51, 50, 52, 50, 53, 50, 54, 50, 55, 50, 56, 50, 57, 51, 48, 51, 49, 51, 50, 51, 51, 51, 52, 51, 53, 51, 54, 51, 55, 51, 56, 51, 57, 52, 48, 52, 49, 52, 50, 52, 51, 52, 52, 52, 53, 52, 54, 52, 55, 52, 56, 52, 57, 53, 48, 53, 49, 53, 50, 53, 51, 53, 52, 53, 53, 53, 54, 53, 55, 53, 56, 53, 57, 54, 48, 54, 49, 54, 50, 54, 51, 54, 52, 54, 53, 54, 54, 54, 55, 54, 56, 54, 57, 55, 48, 55, 49, 55, 50, 55, 51, 55, 52, 55, 53, 55, 54, 55, 55, 55, 56, 55, 57, 56, 48, 56, 49, 56, 50, 56, 51, 56, 52, 56, 53, 56, 54, 56, 55, 56, 56, 56, 57, 57, 48, 57, 49, 57, 50, 57, 51, 57, 52, 57, 53, 57, 54, 57, 55, 57, 56, 57, 57]))) (.t 152))⟩, ⟨some 154, none, (.movd (.t 16))⟩, ⟨some 155, none, (.idxS (.c (.pv (.str [48, 48, 48, 49, 48, 50, 48, 51, 48, 52, 48, 53, 48, 54, 48, 55, 48, 56, 48, 57, 49, 48, 49, 49, 49, 50, 49, 51, 49, 52, 49, 53, 49, 54, 49, 55, 49, 56, 49, 57, 50, 48, 50, 49, 50, 50, 50, 51, 50, 52, 50, 53, 50, 54, 50, 55, 50, 56, 50, 57, 51, 48, 51, 49, 51, 50, 51, 51, 51, 52, 51, 53, 51, 54, 51, 55, 51, 56, 51, 57, 52, 48, 52, 49, 52, 50, 52, 51, 52, 52, 52, 53, 52, 54, 52, 55, 52, 56, 52, 57, 53, 48, 53, 49, 53, 50, 53, 51, 53, 52, 53, 53, 53, 54, 53, 55, 53, 56, 53, 57, 54, 48, 54, 49, 54, 50, 54, 51, 54, 52, 54, 53, 54, 54, 54, 55, 54, 56, 54, 57, 55, 48, 55, 49, 55, 50, 55, 51, 55, 52, 55, 53, 55, 54, 55, 55, 55, 56, 55, 57, 56, 48, 56, 49, 56, 50, 56, 51, 56, 52, 56, 53, 56, 54, 56, 55, 56, 56, 56, 57, 57, 48, 57, 49, 57, 50, 57, 51, 57, 52, 57, 53, 57, 54, 57, 55, 57, 56, 57, 57]))) (.t 154))⟩, ⟨some 156, none, (.iadr 1 (.t 145) (.t 147))⟩, ⟨none, none, (.store 1 (.t 156) (.t 153))⟩, ⟨some 157, none, (.iadr 1 (.t 148) (.t 150))⟩, ⟨none, none, (.store 1 (.t 157) (.t 155))⟩] [0, 1, 2, 3, 4, 5, 6, 7, 8, 9, 10, 11, 12, 13, 14] [0, 0, 1, 5, 5, 6, 0, 1, 2, 0, 1, 3, 4, 7, 8] [0, 4, 12])
 (.reg [⟨some 158, none, (.mov (.t 4))⟩, ⟨some 159, none, (.bin .sub (.t 158) (.c (.pv (.int .i64 2))))⟩, ⟨some 4, none, (.asg (.t 159))⟩] [0, 4, 12]))))
 .skip) [0, 4, 12]))
 (.seq (.reg [⟨some 160, none, (.mov (.t 4))⟩, ⟨some 161, none, (.bin .gtr (.t 160) (.c (.pv (.int .i64 0))))⟩] [0, 12, 161])
 (.kp (.cond (.t 161) (.reg [⟨some 162, none, (.mov (.t 0))⟩, ⟨some 163, none, (.mov (.t 12))⟩, ⟨some 164, none, (.bin .add (.c (.pv (.int .u32 48))) (.t 163))⟩, ⟨some 165, none, (.conv (.int .u8) (.t 164))⟩, ⟨some 166, none, (.iadr 1 (.t 162) (.c (.pv (.int .i64 0))))⟩, ⟨none, none, (.store 1 (.t 166) (.t 165))⟩] [])
 .skip) []))))))) }
def zl36x0 : List AV := [(.pv (.int .u8 0)), (.pv (.int .u8 0)), (.pv (.int .u8 0)), (.pv (.int .u8 0)), (.pv (.int .u8 0)), (.pv (.int .u8 0)), (.pv (.int .u8 0)), (.pv (.int .u8 0)), (.pv (.int .u8 0)), (.pv (.int .u8 0)), (.pv (.int .u8 0)), (.pv (.int .u8 0)), (.pv (.int .u8 0)), (.pv (.int .u8 0)), (.pv (.int .u8 0)), (.pv (.int .u8 0)), (.pv (.int .u8 0)), (.pv (.int .u8 0)), (.pv (.int .u8 0)), (.pv (.int .u8 0)), (.pv (.int .u8 0)), (.pv (.int .u8 0)), (.pv (.int .u8 0)), (.pv (.int .u8 0)), (.pv (.int .u8 0)), (.pv (.int .u8 0)), (.pv (.int .u8 0)), (.pv (.int .u8 0)), (.pv (.int .u8 0)), (.pv (.int .u8 0)), (.pv (.int .u8 0)), (.pv (.int .u8 0)), (.pv (.int .u8 0)), (.pv (.int .u8 0)), (.pv (.int .u8 0)), (.pv (.int .u8 0)), (.pv (.int .u8 0)), (.pv (.int .u8 0)), (.pv (.int .u8 0)), (.pv (.int .u8 0)), (.pv (.int .u8 0)), (.pv (.int .u8 0)), (.pv (.int .u8 0)), (.pv (.int .u8 0)), (.pv (.int .u8 0)), (.pv (.int .u8 0)), (.pv (.int .u8 0)), (.pv (.int .u8 0)), (.pv (.int .u8 0)), (.pv (.int .u8 0)), (.pv (.int .u8 0)), (.pv (.int .u8 0)), (.pv (.int .u8 0)), (.pv (.int .u8 0)), (.pv (.int .u8 0)), (.pv (.int .u8 0)), (.pv (.int .u8 0)), (.pv (.int .u8 0)), (.pv (.int .u8 0)), (.pv (.int .u8 0)), (.pv (.int .u8 0)), (.pv (.int .u8 0)), (.pv (.int .u8 0)), (.pv (.int .u8 0)), (.pv (.int .u8 0))]
def lp36x0 : MC :=
 (.seq (.seq (.reg [⟨some 44, none, (.mov (.t 1))⟩, ⟨some 45, none, (.mov (.t 15))⟩, ⟨some 46, none, (.bin .geq (.t 44) (.t 45))⟩] [0, 1, 3, 4, 10, 11, 12, 13, 14, 15, 16, 46])
 (.kp (.cond (.t 46) .skip
 (.exit 0)) [0, 1, 3, 4, 10, 11, 12, 13, 14, 15, 16]))
 (.kp (.block 1 (.seq (.reg [⟨some 47, none, (.mov (.t 13))⟩, ⟨some 48, none, (.bin .sub (.t 47) (.c (.pv (.int .i64 1))))⟩, ⟨some 13, none, (.asg (.t 48))⟩] [0, 1, 3, 4, 10, 11, 12, 13, 14, 15, 16])
 (.seq (.reg [⟨some 49, none, (.mov (.t 13))⟩, ⟨some 50, none, (.mov (.t 1))⟩, ⟨some 51, none, (.mov (.t 16))⟩, ⟨some 52, none, (.bin .and (.t 50) (.t 51))⟩, ⟨some 53, none, (.idxS (.c (.pv (.str [48, 49, 50, 51, 52, 53, 54, 55, 56, 57, 97, 98, 99, 100, 101, 102, 103, 104, 105, 106, 107, 108, 109, 110, 111, 112, 113, 114, 115, 116, 117, 118, 119, 120, 121, 122]))) (.t 52))⟩, ⟨some 54, none, (.iadrA 65 1 (.t 12) (.t 49))⟩, ⟨none, none, (.store 1 (.t 54) (.t 53))⟩] [0, 1, 3, 4, 10, 11, 12, 13, 14, 15, 16])
 (.reg [⟨some 55, none, (.mov (.t 1))⟩, ⟨some 56, none, (.mov (.t 14))⟩, ⟨some 57, none, (.bin .shr (.t 55) (.t 56))⟩, ⟨some 1, none, (.asg (.t 57))⟩] [0, 1, 3, 4, 10, 11, 12, 13, 14, 15, 16])))) [0, 1, 3, 4, 10, 11, 12, 13, 14, 15, 16]))
def lp36x1 : MC :=
 (.seq (.seq (.reg [⟨some 66, none, (.mov (.t 1))⟩, ⟨some 67, none, (.mov (.t 17))⟩, ⟨some 68, none, (.bin .geq (.t 66) (.t 67))⟩] [0, 1, 3, 4, 10, 11, 12, 13, 17, 68])
 (.kp (.cond (.t 68) .skip
 (.exit 2)) [0, 1, 3, 4, 10, 11, 12, 13, 17]))
 (.kp (.block 3 (.seq (.reg [⟨some 69, none, (.mov (.t 13))⟩, ⟨some 70, none, (.bin .sub (.t 69) (.c (.pv (.int .i64 1))))⟩, ⟨some 13, none, (.asg (.t 70))⟩] [0, 1, 3, 4, 10, 11, 12, 13, 17])
 (.seq (.reg [⟨some 71, none, (.mov (.t 1))⟩, ⟨some 72, none, (.mov (.t 17))⟩, ⟨some 73, none, (.bin .quo (.t 71) (.t 72))⟩, ⟨some 18, none, (.asg (.t 73))⟩] [0, 1, 3, 4, 10, 11, 12, 13, 17, 18])
 (.seq (.reg [⟨some 74, none, (.mov (.t 13))⟩, ⟨some 75, none, (.mov (.t 1))⟩, ⟨some 76, none, (.mov (.t 18))⟩, ⟨some 77, none, (.mov (.t 17))⟩, ⟨some 78, none, (.bin .mul (.t 76) (.t 77))⟩, ⟨some 79, none, (.bin .sub (.t 75) (.t 78))⟩, ⟨some 80, none, (.idxS (.c (.pv (.str [48, 49, 50, 51, 52, 53, 54, 55, 56, 57, 97, 98, 99, 100, 101, 102, 103, 104, 105, 106, 107, 108, 109, 110, 111, 112, 113, 114, 115, 116, 117, 118, 119, 120, 121, 122]))) (.t 79))⟩, ⟨some 81, none, (.iadrA 65 1 (.t 12) (.t 74))⟩, ⟨none, none, (.store 1 (.t 81) (.t 80))⟩] [0, 3, 4, 10, 11, 12, 13, 17, 18])
 (.reg [⟨some 82, none, (.mov (.t 18))⟩, ⟨some 1, none, (.asg (.t 82))⟩] [0, 1, 3, 4, 10, 11, 12, 13, 17]))))) [0, 1, 3, 4, 10, 11, 12, 13, 17]))
/-- internal/strconv.formatBits -/
def mf36 : MFun := { np := 5, res := [.t 10, .t 11], clean := true, body :=
 (.seq (.reg [⟨some 10, none, (.asg (.c .nils))⟩, ⟨some 11, none, (.asg (.c (.pv (.str []))))⟩] [0, 1, 2, 3, 4, 10, 11])
 (.seq (.seq (.reg [⟨some 19, none, (.mov (.t 2))⟩, ⟨some 20, none, (.bin .lss (.t 19) (.c (.pv (.int .i64 2))))⟩, ⟨some 21, none, (.mov (.t 20))⟩, ⟨some 22, (some (21, false)), (.mov (.t 2))⟩, ⟨some 23, (some (21, false)), (.bin .eql (.t 22) (.c (.pv (.int .i64 10))))⟩, ⟨some 24, none, (.pick (.t 21) (.c (.pv (.bool true))) (.t 23))⟩, ⟨some 25, none, (.mov (.t 24))⟩, ⟨some 26, (some (25, false)), (.mov (.t 2))⟩, ⟨some 27, (some (25, false)), (.bin .gtr (.t 26) (.c (.pv (.int .i64 36))))⟩, ⟨some 28, none, (.pick (.t 25) (.c (.pv (.bool true))) (.t 27))⟩] [0, 1, 2, 3, 4, 10, 11, 28])
 (.kp (.cond (.t 28) .no
 .skip) [0, 1, 2, 3, 4, 10, 11]))
 (.seq (.reg [⟨some 12, none, (.alloc zl36x0)⟩] [0, 1, 2, 3, 4, 10, 11, 12])
 (.seq (.reg [⟨some 13, none, (.asg (.c (.pv (.int .i64 65))))⟩] [0, 1, 2, 3, 4, 10, 11, 12, 13])
 (.seq (.seq (.reg [⟨some 30, none, (.mov (.t 3))⟩] [0, 1, 2, 3, 4, 10, 11, 12, 13, 30])
 (.kp (.cond (.t 30) (.reg [⟨some 31, none, (.mov (.t 1))⟩, ⟨some 32, none, (.un .neg (.t 31))⟩, ⟨some 1, none, (.asg (.t 32))⟩] [0, 1, 2, 3, 4, 10, 11, 12, 13])
 .skip) [0, 1, 2, 3, 4, 10, 11, 12, 13]))
 (.seq (.seq (.reg [⟨some 33, none, (.mov (.t 2))⟩, ⟨some 34, none, (.call 53 [(.t 33)])⟩] [0, 1, 2, 3, 4, 10, 11, 12, 13, 34])
 (.kp (.cond (.t 34) (.seq (.reg [⟨some 35, none, (.mov (.t 2))⟩, ⟨some 36, none, (.conv (.int .u64) (.t 35))⟩, ⟨some 37, none, (.call 54 [(.t 36)])⟩, ⟨some 38, none, (.conv (.int .u64) (.t 37))⟩, ⟨some 14, none, (.asg (.t 38))⟩] [0, 1, 2, 3, 4, 10, 11, 12, 13, 14])
 (.seq (.reg [⟨some 39, none, (.mov (.t 2))⟩, ⟨some 40, none, (.conv (.int .u64) (.t 39))⟩, ⟨some 15, none, (.asg (.t 40))⟩] [0, 1, 2, 3, 4, 10, 11, 12, 13, 14, 15])
 (.seq (.reg [⟨some 41, none, (.mov (.t 2))⟩, ⟨some 42, none, (.conv (.int .u64) (.t 41))⟩, ⟨some 43, none, (.bin .sub (.t 42) (.c (.pv (.int .u64 1))))⟩, ⟨some 16, none, (.asg (.t 43))⟩] [0, 1, 3, 4, 10, 11, 12, 13, 14, 15, 16])
 (.seq (.kp (.block 0 (.loop lp36x0)) [0, 1, 3, 4, 10, 11, 12, 13])
 (.seq (.reg [⟨some 58, none, (.mov (.t 13))⟩, ⟨some 59, none, (.bin .sub (.t 58) (.c (.pv (.int .i64 1))))⟩, ⟨some 13, none, (.asg (.t 59))⟩] [0, 1, 3, 4, 10, 11, 12, 13])
 (.reg [⟨some 60, none, (.mov (.t 13))⟩, ⟨some 61, none, (.mov (.t 1))⟩, ⟨some 62, none, (.idxS (.c (.pv (.str [48, 49, 50, 51, 52, 53, 54, 55, 56, 57, 97, 98, 99, 100, 101, 102, 103, 104, 105, 106, 107, 108, 109, 110, 111, 112, 113, 114, 115, 116, 117, 118, 119, 120, 121, 122]))) (.t 61))⟩, ⟨some 63, none, (.iadrA 65 1 (.t 12) (.t 60))⟩, ⟨none, none, (.store 1 (.t 63) (.t 62))⟩] [0, 3, 4, 10, 11, 12, 13]))))))
 (.seq (.reg [⟨some 64, none, (.mov (.t 2))⟩, ⟨some 65, none, (.conv (.int .u64) (.t 64))⟩, ⟨some 17, none, (.asg (.t 65))⟩] [0, 1, 3, 4, 10, 11, 12, 13, 17])
 (.seq (.kp (.block 2 (.loop lp36x1)) [0, 1, 3, 4, 10, 11, 12, 13])
 (.seq (.reg [⟨some 83, none, (.mov (.t 13))⟩, ⟨some 84, none, (.bin .sub (.t 83) (.c (.pv (.int .i64 1))))⟩, ⟨some 13, none, (.asg (.t 84))⟩] [0, 1, 3, 4, 10, 11, 12, 13])
 (.reg [⟨some 85, none, (.mov (.t 13))⟩, ⟨some 86, none, (.mov (.t 1))⟩, ⟨some 87, none, (.idxS (.c (.pv (.str [48, 49, 50, 51, 52, 53, 54, 55, 56, 57, 97, 98, 99, 100, 101, 102, 103, 104, 105, 106, 107, 108, 109, 110, 111, 112, 113, 114, 115, 116, 117, 118, 119, 120, 121, 122]))) (.t 86))⟩, ⟨some 88, none, (.iadrA 65 1 (.t 12) (.t 85))⟩, ⟨none, none, (.store 1 (.t 88) (.t 87))⟩] [0, 3, 4, 10, 11, 12, 13]))))) [0, 3, 4, 10, 11, 12, 13]))
 (.seq (.seq (.reg [⟨some 89, none, (.mov (.t 3))⟩] [0, 4, 10, 11, 12, 13, 89])
 (.kp (.cond (.t 89) (.seq (.reg [⟨some 90, none, (.mov (.t 13))⟩, ⟨some 91, none, (.bin .sub (.t 90) (.c (.pv (.int .i64 1))))⟩, ⟨some 13, none, (.asg (.t 91))⟩] [0, 4, 10, 11, 12, 13])
 (.reg [⟨some 92, none, (.mov (.t 13))⟩, ⟨some 93, none, (.iadrA 65 1 (.t 12) (.t 92))⟩, ⟨none, none, (.store 1 (.t 93) (.c (.pv (.int .u8 45))))⟩] [0, 4, 10, 11, 12, 13]))
 .skip) [0, 4, 10, 11, 12, 13]))
 (.seq (.seq (.reg [⟨some 94, none, (.mov (.t 4))⟩] [0, 10, 11, 12, 13, 94])
 (.kp (.cond (.t 94) (.seq (.reg [⟨some 95, none, (.mov (.t 0))⟩, ⟨some 96, none, (.mov (.t 13))⟩, ⟨some 97, none, (.sliceA 65 1 (.t 12) (some (.t 96)) none)⟩, ⟨some 98, none, (.app 1 1 (.t 95) (.t 97))⟩, ⟨some 10, none, (.asg (.t 98))⟩] [10, 11])
 .ret)
 .skip) [10, 12, 13]))
 (.seq (.reg [⟨some 99, none, (.mov (.t 13))⟩, ⟨some 100, none, (.sliceA 65 1 (.t 12) (some (.t 99)) none)⟩, ⟨some 101, none, (.conv .b2s (.t 100))⟩, ⟨some 11, none, (.asg (.t 101))⟩] [10, 11])
 .ret))))))))) }
/-- internal/stringslite.TrimSuffix -/
def mf37 : MFun := { np := 2, res := [.t 4], clean := true, body :=
 (.seq (.reg [⟨some 4, none, (.asg (.c (.pv (.str []))))⟩] [0, 1])
 (.seq (.seq (.reg [⟨some 5, none, (.mov (.t 0))⟩, ⟨some 6, none, (.mov (.t 1))⟩, ⟨some 7, none, (.call 55 [(.t 5), (.t 6)])⟩] [0, 1, 7])
 (.kp (.cond (.t 7) (.seq (.reg [⟨some 8, none, (.mov (.t 0))⟩, ⟨some 9, none, (.mov (.t 0))⟩, ⟨some 10, none, (.len true (.t 9))⟩, ⟨some 11, none, (.mov (.t 1))⟩, ⟨some 12, none, (.len true (.t 11))⟩, ⟨some 13, none, (.bin .sub (.t 10) (.t 12))⟩, ⟨some 14, none, (.slice true 0 (.t 8) none (some (.t 13)) none)⟩, ⟨some 4, none, (.asg (.t 14))⟩] [4])
 .ret)
 .skip) [0]))
 (.seq (.reg [⟨some 15, none, (.mov (.t 0))⟩, ⟨some 4, none, (.asg (.t 15))⟩] [4])
 .ret))) }
def lp38x0 : MC :=
 (.seq (.seq (.reg [⟨some 5, none, (.mov (.t 0))⟩, ⟨some 6, none, (.len true (.t 5))⟩, ⟨some 7, none, (.bin .gtr (.t 6) (.c (.pv (.int .i64 0))))⟩, ⟨some 8, none, (.mov (.t 7))⟩, ⟨some 9, (some (8, true)), (.mov (.t 0))⟩, ⟨some 10, (some (8, true)), (.mov (.t 0))⟩, ⟨some 11, (some (8, true)), (.len true (.t 10))⟩, ⟨some 12, (some (8, true)), (.bin .sub (.t 11) (.c (.pv (.int .i64 1))))⟩, ⟨some 13, (some (8, true)), (.idxS (.t 9) (.t 12))⟩, ⟨some 14, (some (8, true)), (.mov (.t 1))⟩, ⟨some 15, (some (8, true)), (.bin .eql (.t 13) (.t 14))⟩, ⟨some 16, none, (.pick (.t 8) (.t 15) (.c (.pv (.bool false))))⟩] [0, 1, 16])
 (.kp (.cond (.t 16) .skip
 (.exit 0)) [0, 1]))
 (.kp (.block 1 (.reg [⟨some 17, none, (.mov (.t 0))⟩, ⟨some 18, none, (.mov (.t 0))⟩, ⟨some 19, none, (.len true (.t 18))⟩, ⟨some 20, none, (.bin .sub (.t 19) (.c (.pv (.int .i64 1))))⟩, ⟨some 21, none, (.slice true 0 (.t 17) none (some (.t 20)) none)⟩, ⟨some 0, none, (.asg (.t 21))⟩] [0, 1])) [0, 1]))
/-- strings.trimRightByte -/
def mf38 : MFun := { np := 2, res := [.t 4], clean := true, body :=
 (.seq (.reg [⟨some 4, none, (.asg (.c (.pv (.str []))))⟩] [0, 1])
 (.seq (.kp (.block 0 (.loop lp38x0)) [0])
 (.seq (.reg [⟨some 22, none, (.mov (.t 0))⟩, ⟨some 4, none, (.asg (.t 22))⟩] [4])
 .ret))) }
def zl39x0 : List AV := [(.pv (.bool false)), (.pv (.bool false)), (.pv (.bool false)), (.pv (.bool false)), (.pv (.bool false)), (.pv (.bool false)), (.pv (.bool false)), (.pv (.bool false)), (.pv (.bool false)), (.pv (.bool false)), (.pv (.bool false)), (.pv (.bool false)), (.pv (.bool false)), (.pv (.bool false)), (.pv (.bool false)), (.pv (.bool false)), (.pv (.bool false)), (.pv (.bool false)), (.pv (.bool false)), (.pv (.bool false)), (.pv (.bool false)), (.pv (.bool false)), (.pv (.bool false)), (.pv (.bool false)), (.pv (.bool false)), (.pv (.bool false)), (.pv (.bool false)), (.pv (.bool false)), (.pv (.bool false)), (.pv (.bool false)), (.pv (.bool false)), (.pv (.bool false)), (.pv (.bool false)), (.pv (.bool false)), (.pv (.bool false)), (.pv (.bool false)), (.pv (.bool false)), (.pv (.bool false)), (.pv (.bool false)), (.pv (.bool false)), (.pv (.bool false)), (.pv (.bool false)), (.pv (.bool false)), (.pv (.bool false)), (.pv (.bool false)), (.pv (.bool false)), (.pv (.bool false)), (.pv (.bool false)), (.pv (.bool false)), (.pv (.bool false)), (.pv (.bool false)), (.pv (.bool false)), (.pv (.bool false)), (.pv (.bool false)), (.pv (.bool false)), (.pv (.bool false)), (.pv (.bool false)), (.pv (.bool false)), (.pv (.bool false)), (.pv (.bool false)), (.pv (.bool false)), (.pv (.bool false)), (.pv (.bool false)), (.pv (.bool false)), (.pv (.bool false)), (.pv (.bool false)), (.pv (.bool false)), (.pv (.bool false)), (.pv (.bool false)), (.pv (.bool false)), (.pv (.bool false)), (.pv (.bool false)), (.pv (.bool false)), (.pv (.bool false)), (.pv (.bool false)), (.pv (.bool false)), (.pv (.bool false)), (.pv (.bool false)), (.pv (.bool false)), (.pv (.bool false)), (.pv (.bool false)), (.pv (.bool false)), (.pv (.bool false)), (.pv (.bool false)), (.pv (.bool false)), (.pv (.bool false)), (.pv (.bool false)), (.pv (.bool false)), (.pv (.bool false)), (.pv (.bool false)), (.pv (.bool false)), (.pv (.bool false)), (.pv (.bool false)), (.pv (.bool false)), (.pv (.bool false)), (.pv (.bool false)), (.pv (.bool false)), (.pv (.bool false)), (.pv (.bool false)), (.pv (.bool false)), (.pv (.bool false)), (.pv (.bool false)), (.pv (.bool false)), (.pv (.bool false)), (.pv (.bool false)), (.pv (.bool false)), (.pv (.bool false)), (.pv (.bool false)), (.pv (.bool false)), (.pv (.bool false)), (.pv (.bool false)), (.pv (.bool false)), (.pv (.bool false)), (.pv (.bool false)), (.pv (.bool false)), (.pv (.bool false)), (.pv (.bool false)), (.pv (.bool false)), (.pv (.bool false)), (.pv (.bool false)), (.pv (.bool false)), (.pv (.bool false)), (.pv (.bool false)), (.pv (.bool false)), (.pv (.bool false)), (.pv (.bool false)), (.pv (.bool false)), (.pv (.bool false)), (.pv (.bool false)), (.pv (.bool false)), (.pv (.bool false)), (.pv (.bool false)), (.pv (.bool false)), (.pv (.bool false)), (.pv (.bool false)), (.pv (.bool false)), (.pv (.bool false)), (.pv (.bool false)), (.pv (.bool false)), (.pv (.bool false)), (.pv (.bool false)), (.pv (.bool false)), (.pv (.bool false)), (.pv (.bool false)), (.pv (.bool false)), (.pv (.bool false)), (.pv (.bool false)), (.pv (.bool false)), (.pv (.bool false)), (.pv (.bool false)), (.pv (.bool false)), (.pv (.bool false)), (.pv (.bool false)), (.pv (.bool false)), (.pv (.bool false)), (.pv (.bool false)), (.pv (.bool false)), (.pv (.bool false)), (.pv (.bool false)), (.pv (.bool false)), (.pv (.bool false)), (.pv (.bool false)), (.pv (.bool false)), (.pv (.bool false)), (.pv (.bool false)), (.pv (.bool false)), (.pv (.bool false)), (.pv (.bool false)), (.pv (.bool false)), (.pv (.bool false)), (.pv (.bool false)), (.pv (.bool false)), (.pv (.bool false)), (.pv (.bool false)), (.pv (.bool false)), (.pv (.bool false)), (.pv (.bool false)), (.pv (.bool false)), (.pv (.bool false)), (.pv (.bool false)), (.pv (.bool false)), (.pv (.bool false)), (.pv (.bool false)), (.pv (.bool false)), (.pv (.bool false)), (.pv (.bool false)), (.pv (.bool false)), (.pv (.bool false)), (.pv (.bool false)), (.pv (.bool false)), (.pv (.bool false)), (.pv (.bool false)), (.pv (.bool false)), (.pv (.bool false)), (.pv (.bool false)), (.pv (.bool false)), (.pv (.bool false)), (.pv (.bool false)), (.pv (.bool false)), (.pv (.bool false)), (.pv (.bool false)), (.pv (.bool false)), (.pv (.bool false)), (.pv (.bool false)), (.pv (.bool false)), (.pv (.bool false)), (.pv (.bool false)), (.pv (.bool false)), (.pv (.bool false)), (.pv (.bool false)), (.pv (.bool false)), (.pv (.bool false)), (.pv (.bool false)), (.pv (.bool false)), (.pv (.bool false)), (.pv (.bool false)), (.pv (.bool false)), (.pv (.bool false)), (.pv (.bool false)), (.pv (.bool false)), (.pv (.bool false)), (.pv (.bool false)), (.pv (.bool false)), (.pv (.bool false)), (.pv (.bool false)), (.pv (.bool false)), (.pv (.bool false)), (.pv (.bool false)), (.pv (.bool false)), (.pv (.bool false)), (.pv (.bool false)), (.pv (.bool false)), (.pv (.bool false)), (.pv (.bool false)), (.pv (.bool false)), (.pv (.bool false)), (.pv (.bool false)), (.pv (.bool false)), (.pv (.bool false)), (.pv (.bool false)), (.pv (.bool false)), (.pv (.bool false)), (.pv (.bool false)), (.pv (.bool false)), (.pv (.bool false)), (.pv (.bool false)), (.pv (.bool false)), (.pv (.bool false)), (.pv (.bool false)), (.pv (.bool false)), (.pv (.bool false)), (.pv (.bool false)), (.pv (.bool false)), (.pv (.bool false)), (.pv (.bool false)), (.pv (.bool false))]
def lp39x0 : MC :=
 (.seq (.seq (.reg [⟨some 6, none, (.mov (.t 4))⟩, ⟨some 7, none, (.mov (.t 0))⟩, ⟨some 8, none, (.len true (.t 7))⟩, ⟨some 9, none, (.bin .lss (.t 6) (.t 8))⟩] [0, 2, 4, 9])
 (.kp (.cond (.t 9) .skip
 (.exit 0)) [0, 2, 4]))
 (.seq (.kp (.block 1 (.seq (.reg [⟨some 12, none, (.mov (.t 0))⟩, ⟨some 13, none, (.mov (.t 4))⟩, ⟨some 14, none, (.idxS (.t 12) (.t 13))⟩, ⟨some 5, none, (.asg (.t 14))⟩] [0, 2, 4, 5])
 (.seq (.seq (.reg [⟨some 15, none, (.mov (.t 5))⟩, ⟨some 16, none, (.bin .geq (.t 15) (.c (.pv (.int .u8 128))))⟩] [0, 2, 4, 5, 16])
 (.kp (.cond (.t 16) (.seq (.reg [⟨some 17, none, (.load true 256 (.t 2))⟩, ⟨none, none, (.store 256 (.t 2) (.t 17))⟩, ⟨some 3, none, (.asg (.c (.pv (.bool false))))⟩] [2, 3])
 .ret)
 .skip) [0, 2, 4, 5]))
 (.reg [⟨some 18, none, (.mov (.t 5))⟩, ⟨some 19, none, (.iadrA 256 1 (.t 2) (.t 18))⟩, ⟨none, none, (.store 1 (.t 19) (.c (.pv (.bool true))))⟩] [0, 2, 4])))) [0, 2, 4])
 (.reg [⟨some 10, none, (.mov (.t 4))⟩, ⟨some 11, none, (.bin .add (.t 10) (.c (.pv (.int .i64 1))))⟩, ⟨some 4, none, (.asg (.t 11))⟩] [0, 2, 4])))
/-- strings.makeASCIISet -/
def mf39 : MFun := { np := 1, res := [(.c 2 true 256), .t 3], clean := true, body :=
 (.seq (.reg [⟨some 2, none, (.alloc zl39x0)⟩, ⟨some 3, none, (.asg (.c (.pv (.bool false))))⟩] [0, 2])
 (.seq (.seq (.reg [⟨some 4, none, (.asg (.c (.pv (.int .i64 0))))⟩] [0, 2, 4])
 (.kp (.block 0 (.loop lp39x0)) [2]))
 (.seq (.reg [⟨some 20, none, (.load true 256 (.t 2))⟩, ⟨none, none, (.store 256 (.t 2) (.t 20))⟩, ⟨some 3, none, (.asg (.c (.pv (.bool true))))⟩] [2, 3])
 .ret))) }
def lp40x0 : MC :=
 (.seq (.seq (.reg [⟨some 5, none, (.mov (.t 0))⟩, ⟨some 6, none, (.len true (.t 5))⟩, ⟨some 7, none, (.bin .gtr (.t 6) (.c (.pv (.int .i64 0))))⟩] [0, 1, 7])
 (.kp (.cond (.t 7) .skip
 (.exit 0)) [0, 1]))
 (.kp (.block 1 (.seq (.seq (.reg [⟨some 8, none, (.mov (.t 1))⟩, ⟨some 9, none, (.mov (.t 0))⟩, ⟨some 10, none, (.mov (.t 0))⟩, ⟨some 11, none, (.len true (.t 10))⟩, ⟨some 12, none, (.bin .sub (.t 11) (.c (.pv (.int .i64 1))))⟩, ⟨some 13, none, (.idxS (.t 9) (.t 12))⟩, ⟨some 14, none, (.call 56 [(.t 8), (.t 13)])⟩, ⟨some 15, none, (.un .not (.t 14))⟩] [0, 1, 15])
 (.kp (.cond (.t 15) (.exit 0)
 .skip) [0, 1]))
 (.reg [⟨some 16, none, (.mov (.t 0))⟩, ⟨some 17, none, (.mov (.t 0))⟩, ⟨some 18, none, (.len true (.t 17))⟩, ⟨some 19, none, (.bin .sub (.t 18) (.c (.pv (.int .i64 1))))⟩, ⟨some 20, none, (.slice true 0 (.t 16) none (some (.t 19)) none)⟩, ⟨some 0, none, (.asg (.t 20))⟩] [0, 1]))) [0, 1]))
/-- strings.trimRightASCII -/
def mf40 : MFun := { np := 2, res := [.t 4], clean := true, body :=
 (.seq (.reg [⟨some 4, none, (.asg (.c (.pv (.str []))))⟩] [0, 1])
 (.seq (.kp (.block 0 (.loop lp40x0)) [0])
 (.seq (.reg [⟨some 21, none, (.mov (.t 0))⟩, ⟨some 4, none, (.asg (.t 21))⟩] [4])
 .ret))) }
def lp41x0 : MC :=
 (.seq (.seq (.reg [⟨some 7, none, (.mov (.t 0))⟩, ⟨some 8, none, (.len true (.t 7))⟩, ⟨some 9, none, (.bin .gtr (.t 8) (.c (.pv (.int .i64 0))))⟩] [0, 1, 9])
 (.kp (.cond (.t 9) .skip
 (.exit 0)) [0, 1]))
 (.kp (.block 1 (.seq (.reg [⟨some 10, none, (.mov (.t 0))⟩, ⟨some 11, none, (.mov (.t 0))⟩, ⟨some 12, none, (.len true (.t 11))⟩, ⟨some 13, none, (.bin .sub (.t 12) (.c (.pv (.int .i64 1))))⟩, ⟨some 14, none, (.idxS (.t 10) (.t 13))⟩, ⟨some 15, none, (.conv (.int .i32) (.t 14))⟩, ⟨some 5, none, (.asg (.t 15))⟩, ⟨some 6, none, (.asg (.c (.pv (.int .i64 1))))⟩] [0, 1, 5, 6])
 (.seq (.seq (.reg [⟨some 16, none, (.mov (.t 5))⟩, ⟨some 17, none, (.bin .geq (.t 16) (.c (.pv (.int .i32 128))))⟩] [0, 1, 5, 6, 17])
 (.kp (.cond (.t 17) (.reg [⟨some 19, none, (.mov (.t 0))⟩, ⟨some 20, none, (.call 57 [(.t 19)])⟩, ⟨some 18, none, (.mov (.t 20))⟩, ⟨some 21, none, (.ext 0 (.t 18))⟩, ⟨some 22, none, (.ext 1 (.t 18))⟩, ⟨some 5, none, (.asg (.t 21))⟩, ⟨some 6, none, (.asg (.t 22))⟩] [0, 1, 5, 6])
 .skip) [0, 1, 5, 6]))
 (.seq (.seq (.reg [⟨some 23, none, (.mov (.t 1))⟩, ⟨some 24, none, (.mov (.t 5))⟩, ⟨some 25, none, (.call 58 [(.t 23), (.t 24)])⟩, ⟨some 26, none, (.un .not (.t 25))⟩] [0, 1, 6, 26])
 (.kp (.cond (.t 26) (.exit 0)
 .skip) [0, 1, 6]))
 (.reg [⟨some 27, none, (.mov (.t 0))⟩, ⟨some 28, none, (.mov (.t 0))⟩, ⟨some 29, none, (.len true (.t 28))⟩, ⟨some 30, none, (.mov (.t 6))⟩, ⟨some 31, none, (.bin .sub (.t 29) (.t 30))⟩, ⟨some 32, none, (.slice true 0 (.t 27) none (some (.t 31)) none)⟩, ⟨some 0, none, (.asg (.t 32))⟩] [0, 1]))))) [0, 1]))
/-- strings.trimRightUnicode -/
def mf41 : MFun := { np := 2, res := [.t 4], clean := true, body :=
 (.seq (.reg [⟨some 4, none, (.asg (.c (.pv (.str []))))⟩] [0, 1])
 (.seq (.kp (.block 0 (.loop lp41x0)) [0])
 (.seq (.reg [⟨some 33, none, (.mov (.t 0))⟩, ⟨some 4, none, (.asg (.t 33))⟩] [4])
 .ret))) }
/-- strings.CutPrefix -/
def mf42 : MFun := { np := 2, res := [.t 4, .t 5], clean := true, body :=
 (.seq (.reg [⟨some 4, none, (.asg (.c (.pv (.str []))))⟩, ⟨some 5, none, (.asg (.c (.pv (.bool false))))⟩] [0, 1])
 (.seq (.reg [⟨some 6, none, (.mov (.t 0))⟩, ⟨some 7, none, (.mov (.t 1))⟩, ⟨some 8, none, (.call 59 [(.t 6), (.t 7)])⟩, ⟨some 9, none, (.ext 0 (.t 8))⟩, ⟨some 10, none, (.ext 1 (.t 8))⟩, ⟨some 4, none, (.asg (.t 9))⟩, ⟨some 5, none, (.asg (.t 10))⟩] [4, 5])
 .ret)) }
/-- strconv.ParseInt -/
def mf43 : MFun := { np := 3, res := [.t 6, .t 7], clean := true, body :=
 (.seq (.reg [⟨some 6, none, (.asg (.c (.pv (.int .i64 0))))⟩, ⟨some 7, none, (.asg (.c .nilif))⟩] [0, 1, 2])
 (.seq (.reg [⟨some 10, none, (.mov (.t 0))⟩, ⟨some 11, none, (.mov (.t 1))⟩, ⟨some 12, none, (.mov (.t 2))⟩, ⟨some 13, none, (.call 60 [(.t 10), (.t 11), (.t 12)])⟩, ⟨some 9, none, (.mov (.t 13))⟩, ⟨some 14, none, (.ext 0 (.t 9))⟩, ⟨some 15, none, (.ext 1 (.t 9))⟩, ⟨some 8, none, (.asg (.t 14))⟩, ⟨some 7, none, (.asg (.t 15))⟩] [0, 1, 2, 7, 8])
 (.seq (.seq (.reg [⟨some 16, none, (.mov (.t 7))⟩, ⟨some 17, none, (.isnil true 0 (.t 16))⟩] [0, 1, 2, 7, 8, 17])
 (.kp (.cond (.t 17) (.seq (.reg [⟨some 18, none, (.mov (.t 8))⟩, ⟨some 19, none, (.mov (.t 0))⟩, ⟨some 20, none, (.mov (.t 1))⟩, ⟨some 21, none, (.mov (.t 2))⟩, ⟨some 22, none, (.mov (.t 7))⟩, ⟨some 23, none, (.call 61 [(.c (.pv (.str [80, 97, 114, 115, 101, 73, 110, 116]))), (.t 19), (.t 20), (.t 21), (.t 22)])⟩, ⟨some 6, none, (.asg (.t 18))⟩, ⟨some 7, none, (.asg (.t 23))⟩] [6, 7])
 .ret)
 .skip) [8]))
 (.seq (.reg [⟨some 24, none, (.mov (.t 8))⟩, ⟨some 6, none, (.asg (.t 24))⟩, ⟨some 7, none, (.asg (.c .nilif))⟩] [6, 7])
 .ret)))) }
/-- strings.CutSuffix -/
def mf44 : MFun := { np := 2, res := [.t 4, .t 5], clean := true, body :=
 (.seq (.reg [⟨some 4, none, (.asg (.c (.pv (.str []))))⟩, ⟨some 5, none, (.asg (.c (.pv (.bool false))))⟩] [0, 1])
 (.seq (.reg [⟨some 6, none, (.mov (.t 0))⟩, ⟨some 7, none, (.mov (.t 1))⟩, ⟨some 8, none, (.call 62 [(.t 6), (.t 7)])⟩, ⟨some 9, none, (.ext 0 (.t 8))⟩, ⟨some 10, none, (.ext 1 (.t 8))⟩, ⟨some 4, none, (.asg (.t 9))⟩, ⟨some 5, none, (.asg (.t 10))⟩] [4, 5])
 .ret)) }
def lp45x0 : MC :=
 (.seq (.seq (.reg [⟨some 5, none, (.mov (.t 0))⟩, ⟨some 6, none, (.len true (.t 5))⟩, ⟨some 7, none, (.bin .gtr (.t 6) (.c (.pv (.int .i64 0))))⟩, ⟨some 8, none, (.mov (.t 7))⟩, ⟨some 9, (some (8, true)), (.mov (.t 0))⟩, ⟨some 10, (some (8, true)), (.idxS (.t 9) (.c (.pv (.int .i64 0))))⟩, ⟨some 11, (some (8, true)), (.mov (.t 1))⟩, ⟨some 12, (some (8, true)), (.bin .eql (.t 10) (.t 11))⟩, ⟨some 13, none, (.pick (.t 8) (.t 12) (.c (.pv (.bool false))))⟩] [0, 1, 13])
 (.kp (.cond (.t 13) .skip
 (.exit 0)) [0, 1]))
 (.kp (.block 1 (.reg [⟨some 14, none, (.mov (.t 0))⟩, ⟨some 15, none, (.slice true 0 (.t 14) (some (.c (.pv (.int .i64 1)))) none none)⟩, ⟨some 0, none, (.asg (.t 15))⟩] [0, 1])) [0, 1]))
/-- strings.trimLeftByte -/
def mf45 : MFun := { np := 2, res := [.t 4], clean := true, body :=
 (.seq (.reg [⟨some 4, none, (.asg (.c (.pv (.str []))))⟩] [0, 1])
 (.seq (.kp (.block 0 (.loop lp45x0)) [0])
 (.seq (.reg [⟨some 16, none, (.mov (.t 0))⟩, ⟨some 4, none, (.asg (.t 16))⟩] [4])
 .ret))) }
def lp46x0 : MC :=
 (.seq (.seq (.reg [⟨some 5, none, (.mov (.t 0))⟩, ⟨some 6, none, (.len true (.t 5))⟩, ⟨some 7, none, (.bin .gtr (.t 6) (.c (.pv (.int .i64 0))))⟩] [0, 1, 7])
 (.kp (.cond (.t 7) .skip
 (.exit 0)) [0, 1]))
 (.kp (.block 1 (.seq (.seq (.reg [⟨some 8, none, (.mov (.t 1))⟩, ⟨some 9, none, (.mov (.t 0))⟩, ⟨some 10, none, (.idxS (.t 9) (.c (.pv (.int .i64 0))))⟩, ⟨some 11, none, (.call 56 [(.t 8), (.t 10)])⟩, ⟨some 12, none, (.un .not (.t 11))⟩] [0, 1, 12])
 (.kp (.cond (.t 12) (.exit 0)
 .skip) [0, 1]))
 (.reg [⟨some 13, none, (.mov (.t 0))⟩, ⟨some 14, none, (.slice true 0 (.t 13) (some (.c (.pv (.int .i64 1)))) none none)⟩, ⟨some 0, none, (.asg (.t 14))⟩] [0, 1]))) [0, 1]))
/-- strings.trimLeftASCII -/
def mf46 : MFun := { np := 2, res := [.t 4], clean := true, body :=
 (.seq (.reg [⟨some 4, none, (.asg (.c (.pv (.str []))))⟩] [0, 1])
 (.seq (.kp (.block 0 (.loop lp46x0)) [0])
 (.seq (.reg [⟨some 15, none, (.mov (.t 0))⟩, ⟨some 4, none, (.asg (.t 15))⟩] [4])
 .ret))) }
def lp47x0 : MC :=
 (.seq (.seq (.reg [⟨some 7, none, (.mov (.t 0))⟩, ⟨some 8, none, (.len true (.t 7))⟩, ⟨some 9, none, (.bin .gtr (.t 8) (.c (.pv (.int .i64 0))))⟩] [0, 1, 9])
 (.kp (.cond (.t 9) .skip
 (.exit 0)) [0, 1]))
 (.kp (.block 1 (.seq (.reg [⟨some 11, none, (.mov (.t 0))⟩, ⟨some 12, none, (.call 63 [(.t 11)])⟩, ⟨some 10, none, (.mov (.t 12))⟩, ⟨some 13, none, (.ext 0 (.t 10))⟩, ⟨some 14, none, (.ext 1 (.t 10))⟩, ⟨some 5, none, (.asg (.t 13))⟩, ⟨some 6, none, (.asg (.t 14))⟩] [0, 1, 5, 6])
 (.seq (.seq (.reg [⟨some 15, none, (.mov (.t 1))⟩, ⟨some 16, none, (.mov (.t 5))⟩, ⟨some 17, none, (.call 58 [(.t 15), (.t 16)])⟩, ⟨some 18, none, (.un .not (.t 17))⟩] [0, 1, 6, 18])
 (.kp (.cond (.t 18) (.exit 0)
 .skip) [0, 1, 6]))
 (.reg [⟨some 19, none, (.mov (.t 0))⟩, ⟨some 20, none, (.mov (.t 6))⟩, ⟨some 21, none, (.slice true 0 (.t 19) (some (.t 20)) none none)⟩, ⟨some 0, none, (.asg (.t 21))⟩] [0, 1])))) [0, 1]))
/-- strings.trimLeftUnicode -/
def mf47 : MFun := { np := 2, res := [.t 4], clean := true, body :=
 (.seq (.reg [⟨some 4, none, (.asg (.c (.pv (.str []))))⟩] [0, 1])
 (.seq (.kp (.block 0 (.loop lp47x0)) [0])
 (.seq (.reg [⟨some 22, none, (.mov (.t 0))⟩, ⟨some 4, none, (.asg (.t 22))⟩] [4])
 .ret))) }
/-- strings.Cut -/
def mf48 : MFun := { np := 2, res := [.t 4, .t 5, .t 6], clean := true, body :=
 (.seq (.reg [⟨some 4, none, (.asg (.c (.pv (.str []))))⟩, ⟨some 5, none, (.asg (.c (.pv (.str []))))⟩, ⟨some 6, none, (.asg (.c (.pv (.bool false))))⟩] [0, 1])
 (.seq (.reg [⟨some 7, none, (.mov (.t 0))⟩, ⟨some 8, none, (.mov (.t 1))⟩, ⟨some 9, none, (.call 64 [(.t 7), (.t 8)])⟩, ⟨some 10, none, (.ext 0 (.t 9))⟩, ⟨some 11, none, (.ext 1 (.t 9))⟩, ⟨some 12, none, (.ext 2 (.t 9))⟩, ⟨some 4, none, (.asg (.t 10))⟩, ⟨some 5, none, (.asg (.t 11))⟩, ⟨some 6, none, (.asg (.t 12))⟩] [4, 5, 6])
 .ret)) }
/-- scrim/value.digits -/
def mf49 : MFun := { np := 2, res := [.t 4], clean := true, body :=
 (.seq (.reg [⟨some 4, none, (.asg (.c (.pv (.bool false))))⟩] [0, 1])
 (.seq (.reg [⟨some 5, none, (.mov (.t 0))⟩, ⟨some 6, none, (.bin .neq (.t 5) (.c (.pv (.str []))))⟩, ⟨some 7, none, (.mov (.t 6))⟩, ⟨some 8, (some (7, true)), (.mov (.t 0))⟩, ⟨some 9, (some (7, true)), (.len true (.t 8))⟩, ⟨some 10, (some (7, true)), (.mov (.t 1))⟩, ⟨some 11, (some (7, true)), (.bin .leq (.t 9) (.t 10))⟩, ⟨some 12, none, (.pick (.t 7) (.t 11) (.c (.pv (.bool false))))⟩, ⟨some 13, none, (.mov (.t 12))⟩, ⟨some 14, (some (13, true)), (.mov (.t 0))⟩, ⟨some 15, (some (13, true)), (.call 30 [(.t 14), (.c (.pv (.str [48, 49, 50, 51, 52, 53, 54, 55, 56, 57])))])⟩, ⟨some 16, (some (13, true)), (.bin .eql (.t 15) (.c (.pv (.str []))))⟩, ⟨some 17, none, (.pick (.t 13) (.t 16) (.c (.pv (.bool false))))⟩, ⟨some 4, none, (.asg (.t 17))⟩] [4])
 .ret)) }
/-- internal/strconv.log10Pow2 -/
def mf50 : MFun := { np := 1, res := [.t 2], clean := true, body :=
 (.seq (.reg [⟨some 2, none, (.asg (.c (.pv (.int .i64 0))))⟩] [0])
 (.seq (.reg [⟨some 3, none, (.mov (.t 0))⟩, ⟨some 4, none, (.bin .mul (.t 3) (.c (.pv (.int .i64 78913))))⟩, ⟨some 5, none, (.bin .shr (.t 4) (.c (.pv (.int .u64 18))))⟩, ⟨some 2, none, (.asg (.t 5))⟩] [2])
 .ret)) }
/-- math/bits.Len64 -/
def mf51 : MFun := { np := 1, res := [.t 2], clean := true, body :=
 (.seq (.reg [⟨some 2, none, (.asg (.c (.pv (.int .i64 0))))⟩] [0, 2])
 (.seq (.seq (.reg [⟨some 3, none, (.mov (.t 0))⟩, ⟨some 4, none, (.bin .geq (.t 3) (.c (.pv (.int .u64 4294967296))))⟩] [0, 2, 4])
 (.kp (.cond (.t 4) (.seq (.reg [⟨some 5, none, (.mov (.t 0))⟩, ⟨some 6, none, (.bin .shr (.t 5) (.c (.pv (.int .u64 32))))⟩, ⟨some 0, none, (.asg (.t 6))⟩] [0])
 (.reg [⟨some 2, none, (.asg (.c (.pv (.int .i64 32))))⟩] [0, 2]))
 .skip) [0, 2]))
 (.seq (.seq (.reg [⟨some 7, none, (.mov (.t 0))⟩, ⟨some 8, none, (.bin .geq (.t 7) (.c (.pv (.int .u64 65536))))⟩] [0, 2, 8])
 (.kp (.cond (.t 8) (.seq (.reg [⟨some 9, none, (.mov (.t 0))⟩, ⟨some 10, none, (.bin .shr (.t 9) (.c (.pv (.int .u64 16))))⟩, ⟨some 0, none, (.asg (.t 10))⟩] [0, 2])
 (.reg [⟨some 11, none, (.mov (.t 2))⟩, ⟨some 12, none, (.bin .add (.t 11) (.c (.pv (.int .i64 16))))⟩, ⟨some 2, none, (.asg (.t 12))⟩] [0, 2]))
 .skip) [0, 2]))
 (.seq (.seq (.reg [⟨some 13, none, (.mov (.t 0))⟩, ⟨some 14, none, (.bin .geq (.t 13) (.c (.pv (.int .u64 256))))⟩] [0, 2, 14])
 (.kp (.cond (.t 14) (.seq (.reg [⟨some 15, none, (.mov (.t 0))⟩, ⟨some 16, none, (.bin .shr (.t 15) (.c (.pv (.int .u64 8))))⟩, ⟨some 0, none, (.asg (.t 16))⟩] [0, 2])
 (.reg [⟨some 17, none, (.mov (.t 2))⟩, ⟨some 18, none, (.bin .add (.t 17) (.c (.pv (.int .i64 8))))⟩, ⟨some 2, none, (.asg (.t 18))⟩] [0, 2]))
 .skip) [0, 2]))
 (.seq (.reg [⟨some 19, none, (.mov (.t 2))⟩, ⟨some 20, none, (.mov (.t 0))⟩, ⟨some 21, none, (.conv (.int .u8) (.t 20))⟩, ⟨some 22, none, (.idxS (.c (.pv (.str [0, 1, 2, 2, 3, 3, 3, 3, 4, 4, 4, 4, 4, 4, 4, 4, 5, 5, 5, 5, 5, 5, 5, 5, 5, 5, 5, 5, 5, 5, 5, 5, 6, 6, 6, 6, 6, 6, 6, 6, 6, 6, 6, 6, 6, 6, 6, 6, 6, 6, 6, 6, 6, 6, 6, 6, 6, 6, 6, 6, 6, 6, 6, 6, 7, 7, 7, 7, 7, 7, 7, 7, 7, 7, 7, 7, 7, 7, 7, 7, 7, 7, 7, 7, 7, 7, 7, 7, 7, 7, 7, 7, 7, 7, 7, 7, 7, 7, 7, 7, 7, 7, 7, 7, 7, 7, 7, 7, 7, 7, 7, 7, 7, 7, 7, 7, 7, 7, 7, 7, 7, 7, 7, 7, 7, 7, 7, 7, 8, 8, 8, 8, 8, 8, 8, 8, 8, 8, 8, 8, 8, 8, 8, 8, 8, 8, 8, 8, 8, 8, 8, 8, 8, 8, 8, 8, 8, 8, 8, 8, 8, 8, 8, 8, 8, 8, 8, 8, 8, 8, 8, 8, 8, 8, 8, 8, 8, 8, 8, 8, 8, 8, 8, 8, 8, 8, 8, 8, 8, 8, 8, 8, 8, 8, 8, 8, 8, 8, 8, 8, 8, 8, 8, 8, 8, 8, 8, 8, 8, 8, 8, 8, 8, 8, 8, 8, 8, 8, 8, 8, 8, 8, 8, 8, 8, 8, 8, 8, 8, 8, 8, 8, 8, 8, 8, 8, 8, 8, 8, 8, 8, 8, 8, 8, 8, 8, 8, 8, 8, 8, 8, 8, 8, 8, 8, 8]))) (.t 21))⟩, ⟨some 23, none, (.conv (.int .i64) (.t 22))⟩, ⟨some 24, none, (.bin .add (.t 19) (.t 23))⟩, ⟨some 2, none, (.asg (.t 24))⟩] [2])
 .ret))))) }
/-- internal/strconv.bool2 int  -/
def mf52 : MFun := { np := 1, res := [.t 2], clean := true, body :=
 (.seq (.reg [⟨some 2, none, (.asg (.c (.pv (.int .i64 0))))⟩] [0])
 (.seq (.seq (.reg [⟨some 3, none, (.mov (.t 0))⟩] [3])
 (.kp (.cond (.t 3) (.seq (.reg [⟨some 2, none, (.asg (.c (.pv (.int .i64 1))))⟩] [2])
 .ret)
 .skip) []))
 (.seq (.reg [⟨some 2, none, (.asg (.c (.pv (.int .i64 0))))⟩] [2])
 .ret))) }
/-- internal/strconv.isPowerOfTwo -/
def mf53 : MFun := { np := 1, res := [.t 2], clean := true, body :=
 (.seq (.reg [⟨some 2, none, (.asg (.c (.pv (.bool false))))⟩] [0])
 (.seq (.reg [⟨some 3, none, (.mov (.t 0))⟩, ⟨some 4, none, (.mov (.t 0))⟩, ⟨some 5, none, (.bin .sub (.t 4) (.c (.pv (.int .i64 1))))⟩, ⟨some 6, none, (.bin .and (.t 3) (.t 5))⟩, ⟨some 7, none, (.bin .eql (.t 6) (.c (.pv (.int .i64 0))))⟩, ⟨some 2, none, (.asg (.t 7))⟩] [2])
 .ret)) }
/-- math/bits.TrailingZeros -/
def mf54 : MFun := { np := 1, res := [.t 2], clean := true, body :=
 (.seq (.reg [⟨some 2, none, (.asg (.c (.pv (.int .i64 0))))⟩] [0])
 (.seq (.kp (.cond (.c (.pv (.bool false))) (.seq (.reg [⟨some 3, none, (.mov (.t 0))⟩, ⟨some 4, none, (.conv (.int .u32) (.t 3))⟩, ⟨some 5, none, (.call 65 [(.t 4)])⟩, ⟨some 2, none, (.asg (.t 5))⟩] [2])
 .ret)
 .skip) [0])
 (.seq (.reg [⟨some 6, none, (.mov (.t 0))⟩, ⟨some 7, none, (.call 66 [(.t 6)])⟩, ⟨some 2, none, (.asg (.t 7))⟩] [2])
 .ret))) }
/-- internal/stringslite.HasSuffix -/
def mf55 : MFun := { np := 2, res := [.t 4], clean := true, body :=
 (.seq (.reg [⟨some 4, none, (.asg (.c (.pv (.bool false))))⟩] [0, 1])
 (.seq (.reg [⟨some 5, none, (.mov (.t 0))⟩, ⟨some 6, none, (.len true (.t 5))⟩, ⟨some 7, none, (.mov (.t 1))⟩, ⟨some 8, none, (.len true (.t 7))⟩, ⟨some 9, none, (.bin .geq (.t 6) (.t 8))⟩, ⟨some 10, none, (.mov (.t 9))⟩, ⟨some 11, (some (10, true)), (.mov (.t 0))⟩, ⟨some 12, (some (10, true)), (.mov (.t 0))⟩, ⟨some 13, (some (10, true)), (.len true (.t 12))⟩, ⟨some 14, (some (10, true)), (.mov (.t 1))⟩, ⟨some 15, (some (10, true)), (.len true (.t 14))⟩, ⟨some 16, (some (10, true)), (.bin .sub (.t 13) (.t 15))⟩, ⟨some 17, (some (10, true)), (.slice true 0 (.t 11) (some (.t 16)) none none)⟩, ⟨some 18, (some (10, true)), (.mov (.t 1))⟩, ⟨some 19, (some (10, true)), (.bin .eql (.t 17) (.t 18))⟩, ⟨some 20, none, (.pick (.t 10) (.t 19) (.c (.pv (.bool false))))⟩, ⟨some 4, none, (.asg (.t 20))⟩] [4])
 .ret)) }
/-- (*strings.asciiSet).contains -/
def mf56 : MFun := { np := 2, res := [.t 4], clean := true, body :=
 (.seq (.reg [⟨some 4, none, (.asg (.c (.pv (.bool false))))⟩] [0, 1])
 (.seq (.reg [⟨some 5, none, (.mov (.t 0))⟩, ⟨some 6, none, (.mov (.t 1))⟩, ⟨some 7, none, (.nilck (.t 5))⟩, ⟨some 8, none, (.iadrA 256 1 (.t 7) (.t 6))⟩, ⟨some 9, none, (.load false 1 (.t 8))⟩, ⟨some 4, none, (.asg (.t 9))⟩] [4])
 .ret)) }
def lp57x0 : MC :=
 (.seq (.seq (.reg [⟨some 25, none, (.mov (.t 5))⟩, ⟨some 26, none, (.mov (.t 6))⟩, ⟨some 27, none, (.bin .geq (.t 25) (.t 26))⟩] [0, 4, 5, 6, 27])
 (.kp (.cond (.t 27) .skip
 (.exit 0)) [0, 4, 5, 6]))
 (.seq (.kp (.block 1 (.seq (.reg [⟨some 30, none, (.mov (.t 0))⟩, ⟨some 31, none, (.mov (.t 5))⟩, ⟨some 32, none, (.idxS (.t 30) (.t 31))⟩, ⟨some 33, none, (.call 67 [(.t 32)])⟩] [0, 4, 5, 6, 33])
 (.kp (.cond (.t 33) (.exit 0)
 .skip) [0, 4, 5, 6]))) [0, 4, 5, 6])
 (.reg [⟨some 28, none, (.mov (.t 5))⟩, ⟨some 29, none, (.bin .sub (.t 28) (.c (.pv (.int .i64 1))))⟩, ⟨some 5, none, (.asg (.t 29))⟩] [0, 4, 5, 6])))
/-- unicode/utf8.DecodeLastRuneInString -/
def mf57 : MFun := { np := 1, res := [.t 2, .t 3], clean := true, body :=
 (.seq (.reg [⟨some 2, none, (.asg (.c (.pv (.int .i32 0))))⟩, ⟨some 3, none, (.asg (.c (.pv (.int .i64 0))))⟩] [0])
 (.seq (.reg [⟨some 7, none, (.mov (.t 0))⟩, ⟨some 8, none, (.len true (.t 7))⟩, ⟨some 4, none, (.asg (.t 8))⟩] [0, 4])
 (.seq (.seq (.reg [⟨some 9, none, (.mov (.t 4))⟩, ⟨some 10, none, (.bin .eql (.t 9) (.c (.pv (.int .i64 0))))⟩] [0, 4, 10])
 (.kp (.cond (.t 10) (.seq (.reg [⟨some 2, none, (.asg (.c (.pv (.int .i32 65533))))⟩, ⟨some 3, none, (.asg (.c (.pv (.int .i64 0))))⟩] [2, 3])
 .ret)
 .skip) [0, 4]))
 (.seq (.reg [⟨some 11, none, (.mov (.t 4))⟩, ⟨some 12, none, (.bin .sub (.t 11) (.c (.pv (.int .i64 1))))⟩, ⟨some 5, none, (.asg (.t 12))⟩] [0, 4, 5])
 (.seq (.reg [⟨some 13, none, (.mov (.t 0))⟩, ⟨some 14, none, (.mov (.t 5))⟩, ⟨some 15, none, (.idxS (.t 13) (.t 14))⟩, ⟨some 16, none, (.conv (.int .i32) (.t 15))⟩, ⟨some 2, none, (.asg (.t 16))⟩] [0, 2, 4, 5])
 (.seq (.seq (.reg [⟨some 17, none, (.mov (.t 2))⟩, ⟨some 18, none, (.bin .lss (.t 17) (.c (.pv (.int .i32 128))))⟩] [0, 2, 4, 5, 18])
 (.kp (.cond (.t 18) (.seq (.reg [⟨some 19, none, (.mov (.t 2))⟩, ⟨some 2, none, (.asg (.t 19))⟩, ⟨some 3, none, (.asg (.c (.pv (.int .i64 1))))⟩] [2, 3])
 .ret)
 .skip) [0, 4, 5]))
 (.seq (.reg [⟨some 20, none, (.mov (.t 4))⟩, ⟨some 21, none, (.bin .sub (.t 20) (.c (.pv (.int .i64 4))))⟩, ⟨some 22, none, (.mx [(.t 21), (.c (.pv (.int .i64 0)))])⟩, ⟨some 6, none, (.asg (.t 22))⟩] [0, 4, 5, 6])
 (.seq (.seq (.reg [⟨some 23, none, (.mov (.t 5))⟩, ⟨some 24, none, (.bin .sub (.t 23) (.c (.pv (.int .i64 1))))⟩, ⟨some 5, none, (.asg (.t 24))⟩] [0, 4, 5, 6])
 (.kp (.block 0 (.loop lp57x0)) [0, 4, 5]))
 (.seq (.seq (.reg [⟨some 34, none, (.mov (.t 5))⟩, ⟨some 35, none, (.bin .lss (.t 34) (.c (.pv (.int .i64 0))))⟩] [0, 4, 5, 35])
 (.kp (.cond (.t 35) (.reg [⟨some 5, none, (.asg (.c (.pv (.int .i64 0))))⟩] [0, 4, 5])
 .skip) [0, 4, 5]))
 (.seq (.reg [⟨some 37, none, (.mov (.t 0))⟩, ⟨some 38, none, (.mov (.t 5))⟩, ⟨some 39, none, (.mov (.t 4))⟩, ⟨some 40, none, (.slice true 0 (.t 37) (some (.t 38)) (some (.t 39)) none)⟩, ⟨some 41, none, (.call 63 [(.t 40)])⟩, ⟨some 36, none, (.mov (.t 41))⟩, ⟨some 42, none, (.ext 0 (.t 36))⟩, ⟨some 43, none, (.ext 1 (.t 36))⟩, ⟨some 2, none, (.asg (.t 42))⟩, ⟨some 3, none, (.asg (.t 43))⟩] [2, 3, 4, 5])
 (.seq (.seq (.reg [⟨some 44, none, (.mov (.t 5))⟩, ⟨some 45, none, (.mov (.t 3))⟩, ⟨some 46, none, (.bin .add (.t 44) (.t 45))⟩, ⟨some 47, none, (.mov (.t 4))⟩, ⟨some 48, none, (.bin .neq (.t 46) (.t 47))⟩] [2, 3, 48])
 (.kp (.cond (.t 48) (.seq (.reg [⟨some 2, none, (.asg (.c (.pv (.int .i32 65533))))⟩, ⟨some 3, none, (.asg (.c (.pv (.int .i64 1))))⟩] [2, 3])
 .ret)
 .skip) [2, 3]))
 (.seq (.reg [⟨some 49, none, (.mov (.t 2))⟩, ⟨some 50, none, (.mov (.t 3))⟩, ⟨some 2, none, (.asg (.t 49))⟩, ⟨some 3, none, (.asg (.t 50))⟩] [2, 3])
 .ret)))))))))))) }
/-- strings.ContainsRune -/
def mf58 : MFun := { np := 2, res := [.t 4], clean := true, body :=
 (.seq (.reg [⟨some 4, none, (.asg (.c (.pv (.bool false))))⟩] [0, 1])
 (.seq (.reg [⟨some 5, none, (.mov (.t 0))⟩, ⟨some 6, none, (.mov (.t 1))⟩, ⟨some 7, none, (.call 68 [(.t 5), (.t 6)])⟩, ⟨some 8, none, (.bin .geq (.t 7) (.c (.pv (.int .i64 0))))⟩, ⟨some 4, none, (.asg (.t 8))⟩] [4])
 .ret)) }
/-- internal/stringslite.CutPrefix -/
def mf59 : MFun := { np := 2, res := [.t 4, .t 5], clean := true, body :=
 (.seq (.reg [⟨some 4, none, (.asg (.c (.pv (.str []))))⟩, ⟨some 5, none, (.asg (.c (.pv (.bool false))))⟩] [0, 1])
 (.seq (.seq (.reg [⟨some 6, none, (.mov (.t 0))⟩, ⟨some 7, none, (.mov (.t 1))⟩, ⟨some 8, none, (.call 69 [(.t 6), (.t 7)])⟩, ⟨some 9, none, (.un .not (.t 8))⟩] [0, 1, 9])
 (.kp (.cond (.t 9) (.seq (.reg [⟨some 10, none, (.mov (.t 0))⟩, ⟨some 4, none, (.asg (.t 10))⟩, ⟨some 5, none, (.asg (.c (.pv (.bool false))))⟩] [4, 5])
 .ret)
 .skip) [0, 1]))
 (.seq (.reg [⟨some 11, none, (.mov (.t 0))⟩, ⟨some 12, none, (.mov (.t 1))⟩, ⟨some 13, none, (.len true (.t 12))⟩, ⟨some 14, none, (.slice true 0 (.t 11) (some (.t 13)) none none)⟩, ⟨some 4, none, (.asg (.t 14))⟩, ⟨some 5, none, (.asg (.c (.pv (.bool true))))⟩] [4, 5])
 .ret))) }
/-- internal/strconv.ParseInt -/
def mf60 : MFun := { np := 3, res := [.t 6, .t 7], clean := true, body :=
 (.seq (.reg [⟨some 6, none, (.asg (.c (.pv (.int .i64 0))))⟩, ⟨some 7, none, (.asg (.c .nilif))⟩] [0, 1, 2])
 (.seq (.seq (.reg [⟨some 12, none, (.mov (.t 0))⟩, ⟨some 13, none, (.bin .eql (.t 12) (.c (.pv (.str []))))⟩] [0, 1, 2, 13])
 (.kp (.cond (.t 13) (.seq (.reg [⟨some 14, none, (.mkif 97 (.c (.pv (.int .i64 2))))⟩, ⟨some 6, none, (.asg (.c (.pv (.int .i64 0))))⟩, ⟨some 7, none, (.asg (.t 14))⟩] [6, 7])
 .ret)
 .skip) [0, 1, 2]))
 (.seq (.reg [⟨some 8, none, (.asg (.c (.pv (.bool false))))⟩] [0, 1, 2, 8])
 (.seq (.seq (.reg [⟨some 15, none, (.mov (.t 0))⟩, ⟨some 16, none, (.idxS (.t 15) (.c (.pv (.int .i64 0))))⟩] [0, 1, 2, 8, 16])
 (.kp (.block 0 (.seq (.reg [⟨some 18, none, (.bin .eql (.t 16) (.c (.pv (.int .u8 43))))⟩, ⟨some 17, none, (.asg (.t 18))⟩] [0, 1, 2, 8, 16, 17])
 (.kp (.cond (.t 17) (.reg [⟨some 19, none, (.mov (.t 0))⟩, ⟨some 20, none, (.slice true 0 (.t 19) (some (.c (.pv (.int .i64 1)))) none none)⟩, ⟨some 0, none, (.asg (.t 20))⟩] [0, 1, 2, 8])
 (.seq (.reg [⟨some 22, none, (.bin .eql (.t 16) (.c (.pv (.int .u8 45))))⟩, ⟨some 21, none, (.asg (.t 22))⟩] [0, 1, 2, 8, 21])
 (.kp (.cond (.t 21) (.seq (.reg [⟨some 23, none, (.mov (.t 0))⟩, ⟨some 24, none, (.slice true 0 (.t 23) (some (.c (.pv (.int .i64 1)))) none none)⟩, ⟨some 0, none, (.asg (.t 24))⟩] [0, 1, 2])
 (.reg [⟨some 8, none, (.asg (.c (.pv (.bool true))))⟩] [0, 1, 2, 8]))
 .skip) [0, 1, 2, 8]))) [0, 1, 2, 8]))) [0, 1, 2, 8]))
 (.seq (.reg [⟨some 9, none, (.asg (.c (.pv (.int .u64 0))))⟩] [0, 1, 2, 8])
 (.seq (.reg [⟨some 26, none, (.mov (.t 0))⟩, ⟨some 27, none, (.mov (.t 1))⟩, ⟨some 28, none, (.mov (.t 2))⟩, ⟨some 29, none, (.call 70 [(.t 26), (.t 27), (.t 28)])⟩, ⟨some 25, none, (.mov (.t 29))⟩, ⟨some 30, none, (.ext 0 (.t 25))⟩, ⟨some 31, none, (.ext 1 (.t 25))⟩, ⟨some 9, none, (.asg (.t 30))⟩, ⟨some 7, none, (.asg (.t 31))⟩] [2, 7, 8, 9])
 (.seq (.seq (.reg [⟨some 32, none, (.mov (.t 7))⟩, ⟨some 33, none, (.isnil true 0 (.t 32))⟩, ⟨some 34, none, (.mov (.t 33))⟩, ⟨some 35, (some (34, true)), (.mov (.t 7))⟩, ⟨some 36, (some (34, true)), (.mkif 97 (.c (.pv (.int .i64 1))))⟩, ⟨some 37, (some (34, true)), .bad⟩, ⟨some 38, none, (.pick (.t 34) (.t 37) (.c (.pv (.bool false))))⟩] [2, 7, 8, 9, 38])
 (.kp (.cond (.t 38) (.seq (.reg [⟨some 39, none, (.mov (.t 7))⟩, ⟨some 6, none, (.asg (.c (.pv (.int .i64 0))))⟩, ⟨some 7, none, (.asg (.t 39))⟩] [6, 7])
 .ret)
 .skip) [2, 8, 9]))
 (.seq (.seq (.reg [⟨some 40, none, (.mov (.t 2))⟩, ⟨some 41, none, (.bin .eql (.t 40) (.c (.pv (.int .i64 0))))⟩] [2, 8, 9, 41])
 (.kp (.cond (.t 41) (.reg [⟨some 2, none, (.asg (.c (.pv (.int .i64 64))))⟩] [2, 8, 9])
 .skip) [2, 8, 9]))
 (.seq (.reg [⟨some 42, none, (.mov (.t 2))⟩, ⟨some 43, none, (.bin .sub (.t 42) (.c (.pv (.int .i64 1))))⟩, ⟨some 44, none, (.conv (.int .u64) (.t 43))⟩, ⟨some 45, none, (.bin .shl (.c (.pv (.int .u64 1))) (.t 44))⟩, ⟨some 10, none, (.asg (.t 45))⟩] [8, 9, 10])
 (.seq (.seq (.reg [⟨some 46, none, (.mov (.t 8))⟩, ⟨some 47, none, (.un .not (.t 46))⟩, ⟨some 48, none, (.mov (.t 47))⟩, ⟨some 49, (some (48, true)), (.mov (.t 9))⟩, ⟨some 50, (some (48, true)), (.mov (.t 10))⟩, ⟨some 51, (some (48, true)), (.bin .geq (.t 49) (.t 50))⟩, ⟨some 52, none, (.pick (.t 48) (.t 51) (.c (.pv (.bool false))))⟩] [8, 9, 10, 52])
 (.kp (.cond (.t 52) (.seq (.reg [⟨some 53, none, (.mov (.t 10))⟩, ⟨some 54, none, (.bin .sub (.t 53) (.c (.pv (.int .u64 1))))⟩, ⟨some 55, none, (.conv (.int .i64) (.t 54))⟩, ⟨some 56, none, (.mkif 97 (.c (.pv (.int .i64 1))))⟩, ⟨some 6, none, (.asg (.t 55))⟩, ⟨some 7, none, (.asg (.t 56))⟩] [6, 7])
 .ret)
 .skip) [8, 9, 10]))
 (.seq (.seq (.reg [⟨some 57, none, (.mov (.t 8))⟩, ⟨some 58, none, (.mov (.t 57))⟩, ⟨some 59, (some (58, true)), (.mov (.t 9))⟩, ⟨some 60, (some (58, true)), (.mov (.t 10))⟩, ⟨some 61, (some (58, true)), (.bin .gtr (.t 59) (.t 60))⟩, ⟨some 62, none, (.pick (.t 58) (.t 61) (.c (.pv (.bool false))))⟩] [8, 9, 10, 62])
 (.kp (.cond (.t 62) (.seq (.reg [⟨some 63, none, (.mov (.t 10))⟩, ⟨some 64, none, (.conv (.int .i64) (.t 63))⟩, ⟨some 65, none, (.un .neg (.t 64))⟩, ⟨some 66, none, (.mkif 97 (.c (.pv (.int .i64 1))))⟩, ⟨some 6, none, (.asg (.t 65))⟩, ⟨some 7, none, (.asg (.t 66))⟩] [6, 7])
 .ret)
 .skip) [8, 9]))
 (.seq (.reg [⟨some 67, none, (.mov (.t 9))⟩, ⟨some 68, none, (.conv (.int .i64) (.t 67))⟩, ⟨some 11, none, (.asg (.t 68))⟩] [8, 11])
 (.seq (.seq (.reg [⟨some 69, none, (.mov (.t 8))⟩] [11, 69])
 (.kp (.cond (.t 69) (.reg [⟨some 70, none, (.mov (.t 11))⟩, ⟨some 71, none, (.un .neg (.t 70))⟩, ⟨some 11, none, (.asg (.t 71))⟩] [11])
 .skip) [11]))
 (.seq (.reg [⟨some 72, none, (.mov (.t 11))⟩, ⟨some 6, none, (.asg (.t 72))⟩, ⟨some 7, none, (.asg (.c .nilif))⟩] [6, 7])
 .ret)))))))))))))) }
/-- strconv.toError -/
def mf61 : MFun := { np := 5, res := [.t 10], clean := true, body :=
 (.seq (.reg [⟨some 10, none, (.asg (.c .nilif))⟩] [0, 1, 2, 3, 4])
 (.seq (.seq (.reg [⟨some 11, none, (.mov (.t 4))⟩] [0, 1, 2, 3, 4, 11])
 (.kp (.block 0 (.seq .no
 (.kp (.cond (.t 12) (.seq (.reg [⟨some 15, none, (.mov (.t 0))⟩, ⟨some 16, none, (.mov (.t 1))⟩, ⟨some 17, none, (.call 71 [(.t 15), (.t 16)])⟩, ⟨some 18, none, (.mkif 100 (.t 17))⟩, ⟨some 10, none, (.asg (.t 18))⟩] [10])
 .ret)
 (.seq .no
 (.kp (.cond (.t 19) (.seq (.reg [⟨some 22, none, (.mov (.t 0))⟩, ⟨some 23, none, (.mov (.t 1))⟩, ⟨some 24, none, (.call 72 [(.t 22), (.t 23)])⟩, ⟨some 25, none, (.mkif 100 (.t 24))⟩, ⟨some 10, none, (.asg (.t 25))⟩] [10])
 .ret)
 (.seq .no
 (.kp (.cond (.t 26) (.seq (.reg [⟨some 29, none, (.mov (.t 0))⟩, ⟨some 30, none, (.mov (.t 1))⟩, ⟨some 31, none, (.mov (.t 2))⟩, ⟨some 32, none, (.call 73 [(.t 29), (.t 30), (.t 31)])⟩, ⟨some 33, none, (.mkif 100 (.t 32))⟩, ⟨some 10, none, (.asg (.t 33))⟩] [10])
 .ret)
 (.seq .no
 (.kp (.cond (.t 34) (.seq (.reg [⟨some 37, none, (.mov (.t 0))⟩, ⟨some 38, none, (.mov (.t 1))⟩, ⟨some 39, none, (.mov (.t 3))⟩, ⟨some 40, none, (.call 74 [(.t 37), (.t 38), (.t 39)])⟩, ⟨some 41, none, (.mkif 100 (.t 40))⟩, ⟨some 10, none, (.asg (.t 41))⟩] [10])
 .ret)
 .skip) [4]))) [4]))) [4]))) [4]))) [4]))
 (.seq (.reg [⟨some 42, none, (.mov (.t 4))⟩, ⟨some 10, none, (.asg (.t 42))⟩] [10])
 .ret))) }
/-- internal/stringslite.CutSuffix -/
def mf62 : MFun := { np := 2, res := [.t 4, .t 5], clean := true, body :=
 (.seq (.reg [⟨some 4, none, (.asg (.c (.pv (.str []))))⟩, ⟨some 5, none, (.asg (.c (.pv (.bool false))))⟩] [0, 1])
 (.seq (.seq (.reg [⟨some 6, none, (.mov (.t 0))⟩, ⟨some 7, none, (.mov (.t 1))⟩, ⟨some 8, none, (.call 55 [(.t 6), (.t 7)])⟩, ⟨some 9, none, (.un .not (.t 8))⟩] [0, 1, 9])
 (.kp (.cond (.t 9) (.seq (.reg [⟨some 10, none, (.mov (.t 0))⟩, ⟨some 4, none, (.asg (.t 10))⟩, ⟨some 5, none, (.asg (.c (.pv (.bool false))))⟩] [4, 5])
 .ret)
 .skip) [0, 1]))
 (.seq (.reg [⟨some 11, none, (.mov (.t 0))⟩, ⟨some 12, none, (.mov (.t 0))⟩, ⟨some 13, none, (.len true (.t 12))⟩, ⟨some 14, none, (.mov (.t 1))⟩, ⟨some 15, none, (.len true (.t 14))⟩, ⟨some 16, none, (.bin .sub (.t 13) (.t 15))⟩, ⟨some 17, none, (.slice true 0 (.t 11) none (some (.t 16)) none)⟩, ⟨some 4, none, (.asg (.t 17))⟩, ⟨some 5, none, (.asg (.c (.pv (.bool true))))⟩] [4, 5])
 .ret))) }
/-- unicode/utf8.DecodeRuneInString -/
def mf63 : MFun := { np := 1, res := [.t 2, .t 3], clean := true, body :=
 (.seq (.reg [⟨some 2, none, (.asg (.c (.pv (.int .i32 0))))⟩, ⟨some 3, none, (.asg (.c (.pv (.int .i64 0))))⟩] [0])
 (.seq (.seq (.reg [⟨some 4, none, (.mov (.t 0))⟩, ⟨some 5, none, (.bin .neq (.t 4) (.c (.pv (.str []))))⟩, ⟨some 6, none, (.mov (.t 5))⟩, ⟨some 7, (some (6, true)), (.mov (.t 0))⟩, ⟨some 8, (some (6, true)), (.idxS (.t 7) (.c (.pv (.int .i64 0))))⟩, ⟨some 9, (some (6, true)), (.bin .lss (.t 8) (.c (.pv (.int .u8 128))))⟩, ⟨some 10, none, (.pick (.t 6) (.t 9) (.c (.pv (.bool false))))⟩] [0, 10])
 (.kp (.cond (.t 10) (.seq (.reg [⟨some 11, none, (.mov (.t 0))⟩, ⟨some 12, none, (.idxS (.t 11) (.c (.pv (.int .i64 0))))⟩, ⟨some 13, none, (.conv (.int .i32) (.t 12))⟩, ⟨some 2, none, (.asg (.t 13))⟩, ⟨some 3, none, (.asg (.c (.pv (.int .i64 1))))⟩] [2, 3])
 .ret)
 (.reg [⟨some 15, none, (.mov (.t 0))⟩, ⟨some 16, none, (.call 75 [(.t 15)])⟩, ⟨some 14, none, (.mov (.t 16))⟩, ⟨some 17, none, (.ext 0 (.t 14))⟩, ⟨some 18, none, (.ext 1 (.t 14))⟩, ⟨some 2, none, (.asg (.t 17))⟩, ⟨some 3, none, (.asg (.t 18))⟩] [2, 3])) [2, 3]))
 .ret)) }
/-- internal/stringslite.Cut -/
def mf64 : MFun := { np := 2, res := [.t 4, .t 5, .t 6], clean := true, body :=
 (.seq (.reg [⟨some 4, none, (.asg (.c (.pv (.str []))))⟩, ⟨some 5, none, (.asg (.c (.pv (.str []))))⟩, ⟨some 6, none, (.asg (.c (.pv (.bool false))))⟩] [0, 1])
 (.seq (.seq (.reg [⟨some 8, none, (.mov (.t 0))⟩, ⟨some 9, none, (.mov (.t 1))⟩, ⟨some 10, none, (.call 76 [(.t 8), (.t 9)])⟩, ⟨some 7, none, (.asg (.t 10))⟩] [0, 1, 7])
 (.seq (.reg [⟨some 11, none, (.mov (.t 7))⟩, ⟨some 12, none, (.bin .geq (.t 11) (.c (.pv (.int .i64 0))))⟩] [0, 1, 7, 12])
 (.kp (.cond (.t 12) (.seq (.draw [⟨some 13, none, (.mov (.t 0))⟩, ⟨some 14, none, (.mov (.t 7))⟩, ⟨some 15, none, (.slice true 0 (.t 13) none (some (.t 14)) none)⟩, ⟨some 16, none, (.mov (.t 0))⟩, ⟨some 17, none, (.mov (.t 7))⟩, ⟨some 18, none, (.mov (.t 1))⟩, ⟨some 19, none, (.len true (.t 18))⟩, ⟨some 20, none, (.bin .add (.t 17) (.t 19))⟩, ⟨some 21, none, (.slice true 0 (.t 16) (some (.t 20)) none none)⟩, ⟨some 4, none, (.mov (.t 15))⟩, ⟨some 5, none, (.mov (.t 21))⟩, ⟨some 6, none, (.mov (.c (.pv (.bool true))))⟩] [] [4, 5, 6])
 .ret)
 .skip) [0])))
 (.seq (.reg [⟨some 22, none, (.mov (.t 0))⟩, ⟨some 4, none, (.asg (.t 22))⟩, ⟨some 5, none, (.asg (.c (.pv (.str []))))⟩, ⟨some 6, none, (.asg (.c (.pv (.bool false))))⟩] [4, 5, 6])
 .ret))) }
/-- math/bits.TrailingZeros32 -/
def mf65 : MFun := { np := 1, res := [.t 2], clean := true, body :=
 (.seq (.reg [⟨some 2, none, (.asg (.c (.pv (.int .i64 0))))⟩] [0])
 (.seq (.seq (.reg [⟨some 3, none, (.mov (.t 0))⟩, ⟨some 4, none, (.bin .eql (.t 3) (.c (.pv (.int .u32 0))))⟩] [0, 4])
 (.kp (.cond (.t 4) (.seq (.reg [⟨some 2, none, (.asg (.c (.pv (.int .i64 32))))⟩] [2])
 .ret)
 .skip) [0]))
 (.seq (.reg [⟨some 5, none, (.mov (.t 0))⟩, ⟨some 6, none, (.mov (.t 0))⟩, ⟨some 7, none, (.un .neg (.t 6))⟩, ⟨some 8, none, (.bin .and (.t 5) (.t 7))⟩, ⟨some 9, none, (.bin .mul (.t 8) (.c (.pv (.int .u32 125613361))))⟩, ⟨some 10, none, (.bin .shr (.t 9) (.c (.pv (.int .u64 27))))⟩, ⟨some 11, none, (.iadrA 32 1 (.c (.elem tab1 0)) (.t 10))⟩, ⟨some 12, none, (.load false 1 (.t 11))⟩, ⟨some 13, none, (.conv (.int .i64) (.t 12))⟩, ⟨some 2, none, (.asg (.t 13))⟩] [2])
 .ret))) }
end Go.Proofs.YtggoaggneapneaaDoorM
