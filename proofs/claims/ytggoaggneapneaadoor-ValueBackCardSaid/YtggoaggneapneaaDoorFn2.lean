/-
  The mirror at this seat: copies of functions, part 2.
-/
import Derived.Test.YtggoaggneapneaaDoorM0
import Derived.Test.YtggoaggneapneaaDoorFn1
set_option linter.unusedVariables false
namespace Go.Proofs.YtggoaggneapneaaDoorM
open Go
/-- math/bits.TrailingZeros64 -/
def mf66 : MFun := { np := 1, res := [.t 2], clean := true, body :=
 (.seq (.reg [⟨some 2, none, (.asg (.c (.pv (.int .i64 0))))⟩] [0])
 (.seq (.seq (.reg [⟨some 3, none, (.mov (.t 0))⟩, ⟨some 4, none, (.bin .eql (.t 3) (.c (.pv (.int .u64 0))))⟩] [0, 4])
 (.kp (.cond (.t 4) (.seq (.reg [⟨some 2, none, (.asg (.c (.pv (.int .i64 64))))⟩] [2])
 .ret)
 .skip) [0]))
 (.seq (.reg [⟨some 5, none, (.mov (.t 0))⟩, ⟨some 6, none, (.mov (.t 0))⟩, ⟨some 7, none, (.un .neg (.t 6))⟩, ⟨some 8, none, (.bin .and (.t 5) (.t 7))⟩, ⟨some 9, none, (.bin .mul (.t 8) (.c (.pv (.int .u64 285870213051353865))))⟩, ⟨some 10, none, (.bin .shr (.t 9) (.c (.pv (.int .u64 58))))⟩, ⟨some 11, none, (.iadrA 64 1 (.c (.elem tab2 0)) (.t 10))⟩, ⟨some 12, none, (.load false 1 (.t 11))⟩, ⟨some 13, none, (.conv (.int .i64) (.t 12))⟩, ⟨some 2, none, (.asg (.t 13))⟩] [2])
 .ret))) }
/-- unicode/utf8.RuneStart -/
def mf67 : MFun := { np := 1, res := [.t 2], clean := true, body :=
 (.seq (.reg [⟨some 2, none, (.asg (.c (.pv (.bool false))))⟩] [0])
 (.seq (.reg [⟨some 3, none, (.mov (.t 0))⟩, ⟨some 4, none, (.bin .and (.t 3) (.c (.pv (.int .u8 192))))⟩, ⟨some 5, none, (.bin .neq (.t 4) (.c (.pv (.int .u8 128))))⟩, ⟨some 2, none, (.asg (.t 5))⟩] [2])
 .ret)) }
def lp68x0 : MC :=
 (.seq .no
 (.seq (.kp (.cond (.t 177) .skip
 (.exit 9)) [175, 176])
 (.kp (.block 10 (.seq (.reg [⟨some 178, none, (.ext 1 (.t 176))⟩, ⟨some 179, none, (.ext 2 (.t 176))⟩, ⟨some 5, none, (.asg (.t 178))⟩, ⟨some 6, none, (.asg (.t 179))⟩] [5, 6, 175])
 (.seq (.reg [⟨some 180, none, (.mov (.t 6))⟩, ⟨some 181, none, (.bin .eql (.t 180) (.c (.pv (.int .i32 65533))))⟩] [5, 175, 181])
 (.kp (.cond (.t 181) (.seq (.reg [⟨some 182, none, (.mov (.t 5))⟩, ⟨some 4, none, (.asg (.t 182))⟩] [4])
 .ret)
 .skip) [175])))) [175])))
/-- strings.IndexRune -/
def mf68 : MFun := { np := 2, res := [.t 4], clean := true, body :=
 (.seq (.reg [⟨some 4, none, (.asg (.c (.pv (.int .i64 0))))⟩] [0, 1, 4, 7, 8, 9, 10, 11, 12, 13, 14, 15, 16, 17, 18, 19, 20, 21, 22, 23, 24, 25, 26, 27, 28, 29, 30, 31, 32, 33, 34, 35, 36, 37, 38, 39, 40, 41, 42, 43, 44, 45, 46, 47, 48, 49, 50, 51, 52, 53, 54, 55, 56, 57, 58, 59, 60, 61, 62, 63, 64, 65, 66, 67, 68, 69, 70, 71, 72, 73, 74, 75, 76, 77, 78, 79, 80, 81, 82, 83, 84, 85, 86, 87, 88, 89, 90, 91, 92, 93, 94, 95, 96, 97, 98, 99, 100, 101, 102, 103, 104, 105, 106, 107, 108, 109, 110, 111, 112, 113, 114, 115, 116, 117, 118, 119, 120, 121, 122, 123, 124, 125, 126, 127, 128, 129, 130, 131, 132, 133, 134, 135, 136, 137, 138, 139, 140, 141, 142, 143, 144, 145, 146, 147, 148, 149, 150, 151, 152, 153, 154, 155, 156, 157, 158, 159])
 (.kp (.block 0 (.seq (.reg [⟨some 161, none, (.mov (.t 1))⟩, ⟨some 162, none, (.bin .leq (.c (.pv (.int .i32 0))) (.t 161))⟩, ⟨some 163, none, (.mov (.t 162))⟩, ⟨some 164, (some (163, true)), (.mov (.t 1))⟩, ⟨some 165, (some (163, true)), (.bin .lss (.t 164) (.c (.pv (.int .i32 128))))⟩, ⟨some 166, none, (.pick (.t 163) (.t 165) (.c (.pv (.bool false))))⟩, ⟨some 160, none, (.asg (.t 166))⟩] [0, 1, 4, 7, 8, 9, 10, 11, 12, 13, 14, 15, 16, 17, 18, 19, 20, 21, 22, 23, 24, 25, 26, 27, 28, 29, 30, 31, 32, 33, 34, 35, 36, 37, 38, 39, 40, 41, 42, 43, 44, 45, 46, 47, 48, 49, 50, 51, 52, 53, 54, 55, 56, 57, 58, 59, 60, 61, 62, 63, 64, 65, 66, 67, 68, 69, 70, 71, 72, 73, 74, 75, 76, 77, 78, 79, 80, 81, 82, 83, 84, 85, 86, 87, 88, 89, 90, 91, 92, 93, 94, 95, 96, 97, 98, 99, 100, 101, 102, 103, 104, 105, 106, 107, 108, 109, 110, 111, 112, 113, 114, 115, 116, 117, 118, 119, 120, 121, 122, 123, 124, 125, 126, 127, 128, 129, 130, 131, 132, 133, 134, 135, 136, 137, 138, 139, 140, 141, 142, 143, 144, 145, 146, 147, 148, 149, 150, 151, 152, 153, 154, 155, 156, 157, 158, 159, 160])
 (.kp (.cond (.t 160) (.seq (.reg [⟨some 167, none, (.mov (.t 0))⟩, ⟨some 168, none, (.mov (.t 1))⟩, ⟨some 169, none, (.conv (.int .u8) (.t 168))⟩, ⟨some 170, none, (.call 77 [(.t 167), (.t 169)])⟩, ⟨some 4, none, (.asg (.t 170))⟩] [4])
 .ret)
 (.seq (.reg [⟨some 172, none, (.mov (.t 1))⟩, ⟨some 173, none, (.bin .eql (.t 172) (.c (.pv (.int .i32 65533))))⟩, ⟨some 171, none, (.asg (.t 173))⟩] [0, 1, 4, 7, 8, 9, 10, 11, 12, 13, 14, 15, 16, 17, 18, 19, 20, 21, 22, 23, 24, 25, 26, 27, 28, 29, 30, 31, 32, 33, 34, 35, 36, 37, 38, 39, 40, 41, 42, 43, 44, 45, 46, 47, 48, 49, 50, 51, 52, 53, 54, 55, 56, 57, 58, 59, 60, 61, 62, 63, 64, 65, 66, 67, 68, 69, 70, 71, 72, 73, 74, 75, 76, 77, 78, 79, 80, 81, 82, 83, 84, 85, 86, 87, 88, 89, 90, 91, 92, 93, 94, 95, 96, 97, 98, 99, 100, 101, 102, 103, 104, 105, 106, 107, 108, 109, 110, 111, 112, 113, 114, 115, 116, 117, 118, 119, 120, 121, 122, 123, 124, 125, 126, 127, 128, 129, 130, 131, 132, 133, 134, 135, 136, 137, 138, 139, 140, 141, 142, 143, 144, 145, 146, 147, 148, 149, 150, 151, 152, 153, 154, 155, 156, 157, 158, 159, 171])
 (.kp (.cond (.t 171) (.seq (.seq .no
 (.kp (.block 9 (.loop lp68x0)) []))
 (.seq (.reg [⟨some 4, none, (.asg (.c (.pv (.int .i64 (-1)))))⟩] [4])
 .ret))
 (.seq (.reg [⟨some 184, none, (.mov (.t 1))⟩, ⟨some 185, none, (.call 78 [(.t 184)])⟩, ⟨some 186, none, (.un .not (.t 185))⟩, ⟨some 183, none, (.asg (.t 186))⟩] [0, 1, 4, 7, 8, 9, 10, 11, 12, 13, 14, 15, 16, 17, 18, 19, 20, 21, 22, 23, 24, 25, 26, 27, 28, 29, 30, 31, 32, 33, 34, 35, 36, 37, 38, 39, 40, 41, 42, 43, 44, 45, 46, 47, 48, 49, 50, 51, 52, 53, 54, 55, 56, 57, 58, 59, 60, 61, 62, 63, 64, 65, 66, 67, 68, 69, 70, 71, 72, 73, 74, 75, 76, 77, 78, 79, 80, 81, 82, 83, 84, 85, 86, 87, 88, 89, 90, 91, 92, 93, 94, 95, 96, 97, 98, 99, 100, 101, 102, 103, 104, 105, 106, 107, 108, 109, 110, 111, 112, 113, 114, 115, 116, 117, 118, 119, 120, 121, 122, 123, 124, 125, 126, 127, 128, 129, 130, 131, 132, 133, 134, 135, 136, 137, 138, 139, 140, 141, 142, 143, 144, 145, 146, 147, 148, 149, 150, 151, 152, 153, 154, 155, 156, 157, 158, 159, 183])
 (.kp (.cond (.t 183) (.seq (.reg [⟨some 4, none, (.asg (.c (.pv (.int .i64 (-1)))))⟩] [4])
 .ret)
 .no) [4]))) [4]))) [4]))) [4])) }
/-- internal/stringslite.HasPrefix -/
def mf69 : MFun := { np := 2, res := [.t 4], clean := true, body :=
 (.seq (.reg [⟨some 4, none, (.asg (.c (.pv (.bool false))))⟩] [0, 1])
 (.seq (.reg [⟨some 5, none, (.mov (.t 0))⟩, ⟨some 6, none, (.len true (.t 5))⟩, ⟨some 7, none, (.mov (.t 1))⟩, ⟨some 8, none, (.len true (.t 7))⟩, ⟨some 9, none, (.bin .geq (.t 6) (.t 8))⟩, ⟨some 10, none, (.mov (.t 9))⟩, ⟨some 11, (some (10, true)), (.mov (.t 0))⟩, ⟨some 12, (some (10, true)), (.mov (.t 1))⟩, ⟨some 13, (some (10, true)), (.len true (.t 12))⟩, ⟨some 14, (some (10, true)), (.slice true 0 (.t 11) none (some (.t 13)) none)⟩, ⟨some 15, (some (10, true)), (.mov (.t 1))⟩, ⟨some 16, (some (10, true)), (.bin .eql (.t 14) (.t 15))⟩, ⟨some 17, none, (.pick (.t 10) (.t 16) (.c (.pv (.bool false))))⟩, ⟨some 4, none, (.asg (.t 17))⟩] [4])
 .ret)) }
def lp70x0 : MC :=
 (.seq (.reg [⟨some 102, none, (.bin .lss (.t 101) (.t 100))⟩] [1, 8, 9, 10, 11, 12, 13, 99, 100, 101, 102])
 (.seq (.kp (.cond (.t 102) .skip
 (.exit 3)) [1, 8, 9, 10, 11, 12, 13, 99, 100, 101])
 (.seq (.kp (.block 4 (.seq (.reg [⟨some 103, none, (.iadr 1 (.t 99) (.t 101))⟩, ⟨some 104, none, (.load false 1 (.t 103))⟩, ⟨some 15, none, (.asg (.t 104))⟩] [1, 8, 9, 10, 11, 12, 13, 15, 99, 100, 101])
 (.seq (.reg [⟨some 16, none, (.asg (.c (.pv (.int .u8 0))))⟩] [1, 8, 9, 10, 11, 12, 13, 15, 99, 100, 101])
 (.seq (.kp (.block 5 (.seq (.reg [⟨some 107, none, (.mov (.t 15))⟩, ⟨some 108, none, (.bin .eql (.t 107) (.c (.pv (.int .u8 95))))⟩, ⟨some 109, none, (.mov (.t 108))⟩, ⟨some 110, (some (109, true)), (.mov (.t 8))⟩, ⟨some 111, none, (.pick (.t 109) (.t 110) (.c (.pv (.bool false))))⟩, ⟨some 106, none, (.asg (.t 111))⟩] [1, 8, 9, 10, 11, 12, 13, 15, 99, 100, 101, 106])
 (.kp (.cond (.t 106) (.seq (.reg [⟨some 12, none, (.asg (.c (.pv (.bool true))))⟩] [1, 8, 9, 10, 11, 12, 13, 99, 100, 101])
 (.exit 4))
 (.seq (.reg [⟨some 113, none, (.mov (.t 15))⟩, ⟨some 114, none, (.bin .leq (.c (.pv (.int .u8 48))) (.t 113))⟩, ⟨some 115, none, (.mov (.t 114))⟩, ⟨some 116, (some (115, true)), (.mov (.t 15))⟩, ⟨some 117, (some (115, true)), (.bin .leq (.t 116) (.c (.pv (.int .u8 57))))⟩, ⟨some 118, none, (.pick (.t 115) (.t 117) (.c (.pv (.bool false))))⟩, ⟨some 112, none, (.asg (.t 118))⟩] [1, 8, 9, 10, 11, 12, 13, 15, 99, 100, 101, 112])
 (.kp (.cond (.t 112) (.reg [⟨some 119, none, (.mov (.t 15))⟩, ⟨some 120, none, (.bin .sub (.t 119) (.c (.pv (.int .u8 48))))⟩, ⟨some 16, none, (.asg (.t 120))⟩] [1, 8, 9, 10, 11, 12, 13, 16, 99, 100, 101])
 (.seq (.reg [⟨some 122, none, (.mov (.t 15))⟩, ⟨some 123, none, (.call 81 [(.t 122)])⟩, ⟨some 124, none, (.bin .leq (.c (.pv (.int .u8 97))) (.t 123))⟩, ⟨some 125, none, (.mov (.t 124))⟩, ⟨some 126, (some (125, true)), (.mov (.t 15))⟩, ⟨some 127, (some (125, true)), (.call 81 [(.t 126)])⟩, ⟨some 128, (some (125, true)), (.bin .leq (.t 127) (.c (.pv (.int .u8 122))))⟩, ⟨some 129, none, (.pick (.t 125) (.t 128) (.c (.pv (.bool false))))⟩, ⟨some 121, none, (.asg (.t 129))⟩] [1, 8, 9, 10, 11, 12, 13, 15, 99, 100, 101, 121])
 (.kp (.cond (.t 121) (.reg [⟨some 130, none, (.mov (.t 15))⟩, ⟨some 131, none, (.call 81 [(.t 130)])⟩, ⟨some 132, none, (.bin .sub (.t 131) (.c (.pv (.int .u8 97))))⟩, ⟨some 133, none, (.bin .add (.t 132) (.c (.pv (.int .u8 10))))⟩, ⟨some 16, none, (.asg (.t 133))⟩] [1, 8, 9, 10, 11, 12, 13, 16, 99, 100, 101])
 (.seq (.reg [⟨some 105, none, (.mkif 97 (.c (.pv (.int .i64 2))))⟩, ⟨some 6, none, (.asg (.c (.pv (.int .u64 0))))⟩, ⟨some 7, none, (.asg (.t 105))⟩] [6, 7])
 .ret)) [1, 8, 9, 10, 11, 12, 13, 16, 99, 100, 101]))) [1, 8, 9, 10, 11, 12, 13, 16, 99, 100, 101]))) [1, 8, 9, 10, 11, 12, 13, 16, 99, 100, 101]))) [1, 8, 9, 10, 11, 12, 13, 16, 99, 100, 101])
 (.seq (.seq (.reg [⟨some 134, none, (.mov (.t 16))⟩, ⟨some 135, none, (.mov (.t 1))⟩, ⟨some 136, none, (.conv (.int .u8) (.t 135))⟩, ⟨some 137, none, (.bin .geq (.t 134) (.t 136))⟩] [1, 8, 9, 10, 11, 12, 13, 16, 99, 100, 101, 137])
 (.kp (.cond (.t 137) (.seq (.reg [⟨some 138, none, (.mkif 97 (.c (.pv (.int .i64 2))))⟩, ⟨some 6, none, (.asg (.c (.pv (.int .u64 0))))⟩, ⟨some 7, none, (.asg (.t 138))⟩] [6, 7])
 .ret)
 .skip) [1, 8, 9, 10, 11, 12, 13, 16, 99, 100, 101]))
 (.seq (.seq (.reg [⟨some 139, none, (.mov (.t 13))⟩, ⟨some 140, none, (.mov (.t 10))⟩, ⟨some 141, none, (.bin .geq (.t 139) (.t 140))⟩] [1, 8, 9, 10, 11, 12, 13, 16, 99, 100, 101, 141])
 (.kp (.cond (.t 141) (.seq (.reg [⟨some 142, none, (.mov (.t 11))⟩, ⟨some 143, none, (.mkif 97 (.c (.pv (.int .i64 1))))⟩, ⟨some 6, none, (.asg (.t 142))⟩, ⟨some 7, none, (.asg (.t 143))⟩] [6, 7])
 .ret)
 .skip) [1, 8, 9, 10, 11, 12, 13, 16, 99, 100, 101]))
 (.seq (.reg [⟨some 144, none, (.mov (.t 13))⟩, ⟨some 145, none, (.mov (.t 1))⟩, ⟨some 146, none, (.conv (.int .u64) (.t 145))⟩, ⟨some 147, none, (.bin .mul (.t 144) (.t 146))⟩, ⟨some 13, none, (.asg (.t 147))⟩] [1, 8, 9, 10, 11, 12, 13, 16, 99, 100, 101])
 (.seq (.reg [⟨some 148, none, (.mov (.t 13))⟩, ⟨some 149, none, (.mov (.t 16))⟩, ⟨some 150, none, (.conv (.int .u64) (.t 149))⟩, ⟨some 151, none, (.bin .add (.t 148) (.t 150))⟩, ⟨some 17, none, (.asg (.t 151))⟩] [1, 8, 9, 10, 11, 12, 13, 17, 99, 100, 101])
 (.seq (.seq (.reg [⟨some 152, none, (.mov (.t 17))⟩, ⟨some 153, none, (.mov (.t 13))⟩, ⟨some 154, none, (.bin .lss (.t 152) (.t 153))⟩, ⟨some 155, none, (.mov (.t 154))⟩, ⟨some 156, (some (155, false)), (.mov (.t 17))⟩, ⟨some 157, (some (155, false)), (.mov (.t 11))⟩, ⟨some 158, (some (155, false)), (.bin .gtr (.t 156) (.t 157))⟩, ⟨some 159, none, (.pick (.t 155) (.c (.pv (.bool true))) (.t 158))⟩] [1, 8, 9, 10, 11, 12, 17, 99, 100, 101, 159])
 (.kp (.cond (.t 159) (.seq (.reg [⟨some 160, none, (.mov (.t 11))⟩, ⟨some 161, none, (.mkif 97 (.c (.pv (.int .i64 1))))⟩, ⟨some 6, none, (.asg (.t 160))⟩, ⟨some 7, none, (.asg (.t 161))⟩] [6, 7])
 .ret)
 .skip) [1, 8, 9, 10, 11, 12, 17, 99, 100, 101]))
 (.reg [⟨some 162, none, (.mov (.t 17))⟩, ⟨some 13, none, (.asg (.t 162))⟩] [1, 8, 9, 10, 11, 12, 13, 99, 100, 101])))))))))) [1, 8, 9, 10, 11, 12, 13, 99, 100, 101])
 (.reg [⟨some 163, none, (.bin .add (.t 101) (.c (.pv (.int .i64 1))))⟩, ⟨some 101, none, (.mov (.t 163))⟩] [1, 8, 9, 10, 11, 12, 13, 99, 100, 101]))))
/-- internal/strconv.ParseUint -/
def mf70 : MFun := { np := 3, res := [.t 6, .t 7], clean := true, body :=
 (.seq (.reg [⟨some 6, none, (.asg (.c (.pv (.int .u64 0))))⟩, ⟨some 7, none, (.asg (.c .nilif))⟩] [0, 1, 2])
 (.seq (.seq (.reg [⟨some 18, none, (.mov (.t 0))⟩, ⟨some 19, none, (.bin .eql (.t 18) (.c (.pv (.str []))))⟩] [0, 1, 2, 19])
 (.kp (.cond (.t 19) (.seq (.reg [⟨some 20, none, (.mkif 97 (.c (.pv (.int .i64 2))))⟩, ⟨some 6, none, (.asg (.c (.pv (.int .u64 0))))⟩, ⟨some 7, none, (.asg (.t 20))⟩] [6, 7])
 .ret)
 .skip) [0, 1, 2]))
 (.seq (.reg [⟨some 21, none, (.mov (.t 1))⟩, ⟨some 22, none, (.bin .eql (.t 21) (.c (.pv (.int .i64 0))))⟩, ⟨some 8, none, (.asg (.t 22))⟩] [0, 1, 2, 8])
 (.seq (.reg [⟨some 23, none, (.mov (.t 0))⟩, ⟨some 9, none, (.asg (.t 23))⟩] [0, 1, 2, 8, 9])
 (.seq (.kp (.block 0 (.seq (.reg [⟨some 26, none, (.mov (.t 1))⟩, ⟨some 27, none, (.bin .leq (.c (.pv (.int .i64 2))) (.t 26))⟩, ⟨some 28, none, (.mov (.t 27))⟩, ⟨some 29, (some (28, true)), (.mov (.t 1))⟩, ⟨some 30, (some (28, true)), (.bin .leq (.t 29) (.c (.pv (.int .i64 36))))⟩, ⟨some 31, none, (.pick (.t 28) (.t 30) (.c (.pv (.bool false))))⟩, ⟨some 25, none, (.asg (.t 31))⟩] [0, 1, 2, 8, 9, 25])
 (.kp (.cond (.t 25) .skip
 (.seq (.reg [⟨some 33, none, (.mov (.t 1))⟩, ⟨some 34, none, (.bin .eql (.t 33) (.c (.pv (.int .i64 0))))⟩, ⟨some 32, none, (.asg (.t 34))⟩] [0, 2, 8, 9, 32])
 (.kp (.cond (.t 32) (.seq (.reg [⟨some 1, none, (.asg (.c (.pv (.int .i64 10))))⟩] [0, 1, 2, 8, 9])
 (.seq (.reg [⟨some 35, none, (.mov (.t 0))⟩, ⟨some 36, none, (.idxS (.t 35) (.c (.pv (.int .i64 0))))⟩, ⟨some 37, none, (.bin .eql (.t 36) (.c (.pv (.int .u8 48))))⟩] [0, 1, 2, 8, 9, 37])
 (.kp (.cond (.t 37) (.kp (.block 1 (.seq (.reg [⟨some 41, none, (.mov (.t 0))⟩, ⟨some 42, none, (.len true (.t 41))⟩, ⟨some 43, none, (.bin .geq (.t 42) (.c (.pv (.int .i64 3))))⟩, ⟨some 44, none, (.mov (.t 43))⟩, ⟨some 45, (some (44, true)), (.mov (.t 0))⟩, ⟨some 46, (some (44, true)), (.idxS (.t 45) (.c (.pv (.int .i64 1))))⟩, ⟨some 47, (some (44, true)), (.call 81 [(.t 46)])⟩, ⟨some 48, (some (44, true)), (.bin .eql (.t 47) (.c (.pv (.int .u8 98))))⟩, ⟨some 49, none, (.pick (.t 44) (.t 48) (.c (.pv (.bool false))))⟩, ⟨some 40, none, (.asg (.t 49))⟩] [0, 2, 8, 9, 40])
 (.kp (.cond (.t 40) (.seq (.reg [⟨some 1, none, (.asg (.c (.pv (.int .i64 2))))⟩] [0, 1, 2, 8, 9])
 (.reg [⟨some 50, none, (.mov (.t 0))⟩, ⟨some 51, none, (.slice true 0 (.t 50) (some (.c (.pv (.int .i64 2)))) none none)⟩, ⟨some 0, none, (.asg (.t 51))⟩] [0, 1, 2, 8, 9]))
 (.seq (.reg [⟨some 53, none, (.mov (.t 0))⟩, ⟨some 54, none, (.len true (.t 53))⟩, ⟨some 55, none, (.bin .geq (.t 54) (.c (.pv (.int .i64 3))))⟩, ⟨some 56, none, (.mov (.t 55))⟩, ⟨some 57, (some (56, true)), (.mov (.t 0))⟩, ⟨some 58, (some (56, true)), (.idxS (.t 57) (.c (.pv (.int .i64 1))))⟩, ⟨some 59, (some (56, true)), (.call 81 [(.t 58)])⟩, ⟨some 60, (some (56, true)), (.bin .eql (.t 59) (.c (.pv (.int .u8 111))))⟩, ⟨some 61, none, (.pick (.t 56) (.t 60) (.c (.pv (.bool false))))⟩, ⟨some 52, none, (.asg (.t 61))⟩] [0, 2, 8, 9, 52])
 (.kp (.cond (.t 52) (.seq (.reg [⟨some 1, none, (.asg (.c (.pv (.int .i64 8))))⟩] [0, 1, 2, 8, 9])
 (.reg [⟨some 62, none, (.mov (.t 0))⟩, ⟨some 63, none, (.slice true 0 (.t 62) (some (.c (.pv (.int .i64 2)))) none none)⟩, ⟨some 0, none, (.asg (.t 63))⟩] [0, 1, 2, 8, 9]))
 (.seq (.reg [⟨some 65, none, (.mov (.t 0))⟩, ⟨some 66, none, (.len true (.t 65))⟩, ⟨some 67, none, (.bin .geq (.t 66) (.c (.pv (.int .i64 3))))⟩, ⟨some 68, none, (.mov (.t 67))⟩, ⟨some 69, (some (68, true)), (.mov (.t 0))⟩, ⟨some 70, (some (68, true)), (.idxS (.t 69) (.c (.pv (.int .i64 1))))⟩, ⟨some 71, (some (68, true)), (.call 81 [(.t 70)])⟩, ⟨some 72, (some (68, true)), (.bin .eql (.t 71) (.c (.pv (.int .u8 120))))⟩, ⟨some 73, none, (.pick (.t 68) (.t 72) (.c (.pv (.bool false))))⟩, ⟨some 64, none, (.asg (.t 73))⟩] [0, 2, 8, 9, 64])
 (.kp (.cond (.t 64) (.seq (.reg [⟨some 1, none, (.asg (.c (.pv (.int .i64 16))))⟩] [0, 1, 2, 8, 9])
 (.reg [⟨some 74, none, (.mov (.t 0))⟩, ⟨some 75, none, (.slice true 0 (.t 74) (some (.c (.pv (.int .i64 2)))) none none)⟩, ⟨some 0, none, (.asg (.t 75))⟩] [0, 1, 2, 8, 9]))
 (.seq (.reg [⟨some 1, none, (.asg (.c (.pv (.int .i64 8))))⟩] [0, 1, 2, 8, 9])
 (.reg [⟨some 38, none, (.mov (.t 0))⟩, ⟨some 39, none, (.slice true 0 (.t 38) (some (.c (.pv (.int .i64 1)))) none none)⟩, ⟨some 0, none, (.asg (.t 39))⟩] [0, 1, 2, 8, 9]))) [0, 1, 2, 8, 9]))) [0, 1, 2, 8, 9]))) [0, 1, 2, 8, 9]))) [0, 1, 2, 8, 9])
 .skip) [0, 1, 2, 8, 9])))
 (.seq (.reg [⟨some 24, none, (.mkif 97 (.c (.pv (.int .i64 3))))⟩, ⟨some 6, none, (.asg (.c (.pv (.int .u64 0))))⟩, ⟨some 7, none, (.asg (.t 24))⟩] [6, 7])
 .ret)) [0, 1, 2, 8, 9]))) [0, 1, 2, 8, 9]))) [0, 1, 2, 8, 9])
 (.seq (.seq (.reg [⟨some 76, none, (.mov (.t 2))⟩, ⟨some 77, none, (.bin .eql (.t 76) (.c (.pv (.int .i64 0))))⟩] [0, 1, 2, 8, 9, 77])
 (.kp (.cond (.t 77) (.reg [⟨some 2, none, (.asg (.c (.pv (.int .i64 64))))⟩] [0, 1, 2, 8, 9])
 (.seq (.reg [⟨some 78, none, (.mov (.t 2))⟩, ⟨some 79, none, (.bin .lss (.t 78) (.c (.pv (.int .i64 0))))⟩, ⟨some 80, none, (.mov (.t 79))⟩, ⟨some 81, (some (80, false)), (.mov (.t 2))⟩, ⟨some 82, (some (80, false)), (.bin .gtr (.t 81) (.c (.pv (.int .i64 64))))⟩, ⟨some 83, none, (.pick (.t 80) (.c (.pv (.bool true))) (.t 82))⟩] [0, 1, 2, 8, 9, 83])
 (.kp (.cond (.t 83) (.seq (.reg [⟨some 84, none, (.mkif 97 (.c (.pv (.int .i64 4))))⟩, ⟨some 6, none, (.asg (.c (.pv (.int .u64 0))))⟩, ⟨some 7, none, (.asg (.t 84))⟩] [6, 7])
 .ret)
 .skip) [0, 1, 2, 8, 9]))) [0, 1, 2, 8, 9]))
 (.seq (.reg [⟨some 10, none, (.asg (.c (.pv (.int .u64 0))))⟩] [0, 1, 2, 8, 9])
 (.seq (.seq (.reg [⟨some 85, none, (.mov (.t 1))⟩] [0, 1, 2, 8, 9, 85])
 (.kp (.block 2 (.seq (.reg [⟨some 91, none, (.bin .eql (.t 85) (.c (.pv (.int .i64 10))))⟩, ⟨some 90, none, (.asg (.t 91))⟩] [0, 1, 2, 8, 9, 85, 90])
 (.kp (.cond (.t 90) (.reg [⟨some 10, none, (.asg (.c (.pv (.int .u64 1844674407370955162))))⟩] [0, 1, 2, 8, 9, 10])
 (.seq (.reg [⟨some 93, none, (.bin .eql (.t 85) (.c (.pv (.int .i64 16))))⟩, ⟨some 92, none, (.asg (.t 93))⟩] [0, 1, 2, 8, 9, 92])
 (.kp (.cond (.t 92) (.reg [⟨some 10, none, (.asg (.c (.pv (.int .u64 1152921504606846976))))⟩] [0, 1, 2, 8, 9, 10])
 (.reg [⟨some 86, none, (.mov (.t 1))⟩, ⟨some 87, none, (.conv (.int .u64) (.t 86))⟩, ⟨some 88, none, (.bin .quo (.c (.pv (.int .u64 18446744073709551615))) (.t 87))⟩, ⟨some 89, none, (.bin .add (.t 88) (.c (.pv (.int .u64 1))))⟩, ⟨some 10, none, (.asg (.t 89))⟩] [0, 1, 2, 8, 9, 10])) [0, 1, 2, 8, 9, 10]))) [0, 1, 2, 8, 9, 10]))) [0, 1, 2, 8, 9, 10]))
 (.seq (.reg [⟨some 94, none, (.mov (.t 2))⟩, ⟨some 95, none, (.conv (.int .u64) (.t 94))⟩, ⟨some 96, none, (.bin .shl (.c (.pv (.int .u64 1))) (.t 95))⟩, ⟨some 97, none, (.bin .sub (.t 96) (.c (.pv (.int .u64 1))))⟩, ⟨some 11, none, (.asg (.t 97))⟩] [0, 1, 8, 9, 10, 11])
 (.seq (.reg [⟨some 12, none, (.asg (.c (.pv (.bool false))))⟩] [0, 1, 8, 9, 10, 11, 12])
 (.seq (.reg [⟨some 13, none, (.asg (.c (.pv (.int .u64 0))))⟩] [0, 1, 8, 9, 10, 11, 12, 13])
 (.seq (.seq (.reg [⟨some 98, none, (.mov (.t 0))⟩, ⟨some 99, none, (.conv .s2b (.t 98))⟩, ⟨some 100, none, (.len false (.t 99))⟩, ⟨some 101, none, (.mov (.c (.pv (.int .i64 0))))⟩] [1, 8, 9, 10, 11, 12, 13, 99, 100, 101])
 (.kp (.block 3 (.loop lp70x0)) [9, 12, 13]))
 (.seq (.seq (.reg [⟨some 164, none, (.mov (.t 12))⟩, ⟨some 165, none, (.mov (.t 164))⟩, ⟨some 166, (some (165, true)), (.mov (.t 9))⟩, ⟨some 167, (some (165, true)), (.call 82 [(.t 166)])⟩, ⟨some 168, (some (165, true)), (.un .not (.t 167))⟩, ⟨some 169, none, (.pick (.t 165) (.t 168) (.c (.pv (.bool false))))⟩] [13, 169])
 (.kp (.cond (.t 169) (.seq (.reg [⟨some 170, none, (.mkif 97 (.c (.pv (.int .i64 2))))⟩, ⟨some 6, none, (.asg (.c (.pv (.int .u64 0))))⟩, ⟨some 7, none, (.asg (.t 170))⟩] [6, 7])
 .ret)
 .skip) [13]))
 (.seq (.reg [⟨some 171, none, (.mov (.t 13))⟩, ⟨some 6, none, (.asg (.t 171))⟩, ⟨some 7, none, (.asg (.c .nilif))⟩] [6, 7])
 .ret)))))))))))))) }
/-- strconv.syntaxError -/
def mf71 : MFun := { np := 2, res := [.t 4], clean := true, body :=
 (.seq (.reg [⟨some 4, none, (.asg (.c .nilp))⟩] [0, 1])
 (.seq .no
 .ret)) }
/-- strconv.rangeError -/
def mf72 : MFun := { np := 2, res := [.t 4], clean := true, body :=
 (.seq (.reg [⟨some 4, none, (.asg (.c .nilp))⟩] [0, 1])
 (.seq .no
 .ret)) }
/-- strconv.baseError -/
def mf73 : MFun := { np := 3, res := [.t 6], clean := true, body :=
 (.seq (.reg [⟨some 6, none, (.asg (.c .nilp))⟩] [0, 1, 2])
 (.seq (.reg [⟨some 7, none, (.mov (.t 0))⟩, ⟨some 8, none, (.mov (.t 1))⟩, ⟨some 9, none, (.call 83 [(.t 8)])⟩, ⟨some 10, none, (.mov (.t 2))⟩, ⟨some 11, none, (.call 85 [(.t 10)])⟩, ⟨some 12, none, (.bin .add (.c (.pv (.str [105, 110, 118, 97, 108, 105, 100, 32, 98, 97, 115, 101, 32]))) (.t 11))⟩, ⟨some 13, none, (.call 84 [(.t 12)])⟩, ⟨some 14, none, (.build [(.pv (.str [])), (.pv (.str [])), .nilif] [(0, 1, (.t 7)), (1, 1, (.t 9)), (2, 1, (.t 13))])⟩, ⟨some 15, none, (.box 3 (.t 14))⟩, ⟨some 6, none, (.asg (.t 15))⟩] [6])
 .ret)) }
/-- strconv.bitSizeError -/
def mf74 : MFun := { np := 3, res := [.t 6], clean := true, body :=
 (.seq (.reg [⟨some 6, none, (.asg (.c .nilp))⟩] [0, 1, 2])
 (.seq (.reg [⟨some 7, none, (.mov (.t 0))⟩, ⟨some 8, none, (.mov (.t 1))⟩, ⟨some 9, none, (.call 83 [(.t 8)])⟩, ⟨some 10, none, (.mov (.t 2))⟩, ⟨some 11, none, (.call 85 [(.t 10)])⟩, ⟨some 12, none, (.bin .add (.c (.pv (.str [105, 110, 118, 97, 108, 105, 100, 32, 98, 105, 116, 32, 115, 105, 122, 101, 32]))) (.t 11))⟩, ⟨some 13, none, (.call 84 [(.t 12)])⟩, ⟨some 14, none, (.build [(.pv (.str [])), (.pv (.str [])), .nilif] [(0, 1, (.t 7)), (1, 1, (.t 9)), (2, 1, (.t 13))])⟩, ⟨some 15, none, (.box 3 (.t 14))⟩, ⟨some 6, none, (.asg (.t 15))⟩] [6])
 .ret)) }
/-- unicode/utf8.decodeRuneInStringSlow -/
def mf75 : MFun := { np := 1, res := [.t 2, .t 3], clean := true, body :=
 (.seq (.reg [⟨some 2, none, (.asg (.c (.pv (.int .i32 0))))⟩, ⟨some 3, none, (.asg (.c (.pv (.int .i64 0))))⟩] [0])
 (.seq (.reg [⟨some 13, none, (.mov (.t 0))⟩, ⟨some 14, none, (.len true (.t 13))⟩, ⟨some 4, none, (.asg (.t 14))⟩] [0, 4])
 (.seq (.seq (.reg [⟨some 15, none, (.mov (.t 4))⟩, ⟨some 16, none, (.bin .lss (.t 15) (.c (.pv (.int .i64 1))))⟩] [0, 4, 16])
 (.kp (.cond (.t 16) (.seq (.reg [⟨some 2, none, (.asg (.c (.pv (.int .i32 65533))))⟩, ⟨some 3, none, (.asg (.c (.pv (.int .i64 0))))⟩] [2, 3])
 .ret)
 .skip) [0, 4]))
 (.seq (.reg [⟨some 17, none, (.mov (.t 0))⟩, ⟨some 18, none, (.idxS (.t 17) (.c (.pv (.int .i64 0))))⟩, ⟨some 5, none, (.asg (.t 18))⟩] [0, 4, 5])
 (.seq .no
 (.seq (.seq (.reg [⟨some 22, none, (.mov (.t 6))⟩, ⟨some 23, none, (.bin .geq (.t 22) (.c (.pv (.int .u8 240))))⟩] [0, 4, 5, 6, 23])
 (.kp (.cond (.t 23) (.seq (.reg [⟨some 24, none, (.mov (.t 6))⟩, ⟨some 25, none, (.conv (.int .i32) (.t 24))⟩, ⟨some 26, none, (.bin .shl (.t 25) (.c (.pv (.int .u64 31))))⟩, ⟨some 27, none, (.bin .shr (.t 26) (.c (.pv (.int .u64 31))))⟩, ⟨some 7, none, (.asg (.t 27))⟩] [0, 7])
 (.seq (.reg [⟨some 28, none, (.mov (.t 0))⟩, ⟨some 29, none, (.idxS (.t 28) (.c (.pv (.int .i64 0))))⟩, ⟨some 30, none, (.conv (.int .i32) (.t 29))⟩, ⟨some 31, none, (.mov (.t 7))⟩, ⟨some 32, none, (.bin .andNot (.t 30) (.t 31))⟩, ⟨some 33, none, (.mov (.t 7))⟩, ⟨some 34, none, (.bin .and (.c (.pv (.int .i32 65533))) (.t 33))⟩, ⟨some 35, none, (.bin .or (.t 32) (.t 34))⟩, ⟨some 2, none, (.asg (.t 35))⟩, ⟨some 3, none, (.asg (.c (.pv (.int .i64 1))))⟩] [2, 3])
 .ret))
 .skip) [0, 4, 5, 6]))
 (.seq (.reg [⟨some 36, none, (.mov (.t 6))⟩, ⟨some 37, none, (.bin .and (.t 36) (.c (.pv (.int .u8 7))))⟩, ⟨some 38, none, (.conv (.int .i64) (.t 37))⟩, ⟨some 8, none, (.asg (.t 38))⟩] [0, 4, 5, 6, 8])
 (.seq .no
 (.seq (.seq (.reg [⟨some 43, none, (.mov (.t 4))⟩, ⟨some 44, none, (.mov (.t 8))⟩, ⟨some 45, none, (.bin .lss (.t 43) (.t 44))⟩] [0, 5, 8, 9, 45])
 (.kp (.cond (.t 45) (.seq (.reg [⟨some 2, none, (.asg (.c (.pv (.int .i32 65533))))⟩, ⟨some 3, none, (.asg (.c (.pv (.int .i64 1))))⟩] [2, 3])
 .ret)
 .skip) [0, 5, 8, 9]))
 (.seq (.reg [⟨some 46, none, (.mov (.t 0))⟩, ⟨some 47, none, (.idxS (.t 46) (.c (.pv (.int .i64 1))))⟩, ⟨some 10, none, (.asg (.t 47))⟩] [0, 5, 8, 9, 10])
 (.seq (.seq (.reg [⟨some 48, none, (.mov (.t 10))⟩, ⟨some 49, none, (.fadr 0 (.t 9))⟩, ⟨some 50, none, (.load false 1 (.t 49))⟩, ⟨some 51, none, (.bin .lss (.t 48) (.t 50))⟩, ⟨some 52, none, (.mov (.t 51))⟩, ⟨some 53, (some (52, false)), (.fadr 1 (.t 9))⟩, ⟨some 54, (some (52, false)), (.load false 1 (.t 53))⟩, ⟨some 55, (some (52, false)), (.mov (.t 10))⟩, ⟨some 56, (some (52, false)), (.bin .lss (.t 54) (.t 55))⟩, ⟨some 57, none, (.pick (.t 52) (.c (.pv (.bool true))) (.t 56))⟩] [0, 5, 8, 10, 57])
 (.kp (.cond (.t 57) (.seq (.reg [⟨some 2, none, (.asg (.c (.pv (.int .i32 65533))))⟩, ⟨some 3, none, (.asg (.c (.pv (.int .i64 1))))⟩] [2, 3])
 .ret)
 .skip) [0, 5, 8, 10]))
 (.seq (.seq (.reg [⟨some 58, none, (.mov (.t 8))⟩, ⟨some 59, none, (.bin .leq (.t 58) (.c (.pv (.int .i64 2))))⟩] [0, 5, 8, 10, 59])
 (.kp (.cond (.t 59) (.seq (.reg [⟨some 60, none, (.mov (.t 5))⟩, ⟨some 61, none, (.bin .and (.t 60) (.c (.pv (.int .u8 31))))⟩, ⟨some 62, none, (.conv (.int .i32) (.t 61))⟩, ⟨some 63, none, (.bin .shl (.t 62) (.c (.pv (.int .u64 6))))⟩, ⟨some 64, none, (.mov (.t 10))⟩, ⟨some 65, none, (.bin .and (.t 64) (.c (.pv (.int .u8 63))))⟩, ⟨some 66, none, (.conv (.int .i32) (.t 65))⟩, ⟨some 67, none, (.bin .or (.t 63) (.t 66))⟩, ⟨some 2, none, (.asg (.t 67))⟩, ⟨some 3, none, (.asg (.c (.pv (.int .i64 2))))⟩] [2, 3])
 .ret)
 .skip) [0, 5, 8, 10]))
 (.seq (.reg [⟨some 68, none, (.mov (.t 0))⟩, ⟨some 69, none, (.idxS (.t 68) (.c (.pv (.int .i64 2))))⟩, ⟨some 11, none, (.asg (.t 69))⟩] [0, 5, 8, 10, 11])
 (.seq (.seq (.reg [⟨some 70, none, (.mov (.t 11))⟩, ⟨some 71, none, (.bin .lss (.t 70) (.c (.pv (.int .u8 128))))⟩, ⟨some 72, none, (.mov (.t 71))⟩, ⟨some 73, (some (72, false)), (.mov (.t 11))⟩, ⟨some 74, (some (72, false)), (.bin .lss (.c (.pv (.int .u8 191))) (.t 73))⟩, ⟨some 75, none, (.pick (.t 72) (.c (.pv (.bool true))) (.t 74))⟩] [0, 5, 8, 10, 11, 75])
 (.kp (.cond (.t 75) (.seq (.reg [⟨some 2, none, (.asg (.c (.pv (.int .i32 65533))))⟩, ⟨some 3, none, (.asg (.c (.pv (.int .i64 1))))⟩] [2, 3])
 .ret)
 .skip) [0, 5, 8, 10, 11]))
 (.seq (.seq (.reg [⟨some 76, none, (.mov (.t 8))⟩, ⟨some 77, none, (.bin .leq (.t 76) (.c (.pv (.int .i64 3))))⟩] [0, 5, 10, 11, 77])
 (.kp (.cond (.t 77) (.seq (.reg [⟨some 78, none, (.mov (.t 5))⟩, ⟨some 79, none, (.bin .and (.t 78) (.c (.pv (.int .u8 15))))⟩, ⟨some 80, none, (.conv (.int .i32) (.t 79))⟩, ⟨some 81, none, (.bin .shl (.t 80) (.c (.pv (.int .u64 12))))⟩, ⟨some 82, none, (.mov (.t 10))⟩, ⟨some 83, none, (.bin .and (.t 82) (.c (.pv (.int .u8 63))))⟩, ⟨some 84, none, (.conv (.int .i32) (.t 83))⟩, ⟨some 85, none, (.bin .shl (.t 84) (.c (.pv (.int .u64 6))))⟩, ⟨some 86, none, (.bin .or (.t 81) (.t 85))⟩, ⟨some 87, none, (.mov (.t 11))⟩, ⟨some 88, none, (.bin .and (.t 87) (.c (.pv (.int .u8 63))))⟩, ⟨some 89, none, (.conv (.int .i32) (.t 88))⟩, ⟨some 90, none, (.bin .or (.t 86) (.t 89))⟩, ⟨some 2, none, (.asg (.t 90))⟩, ⟨some 3, none, (.asg (.c (.pv (.int .i64 3))))⟩] [2, 3])
 .ret)
 .skip) [0, 5, 10, 11]))
 (.seq (.reg [⟨some 91, none, (.mov (.t 0))⟩, ⟨some 92, none, (.idxS (.t 91) (.c (.pv (.int .i64 3))))⟩, ⟨some 12, none, (.asg (.t 92))⟩] [5, 10, 11, 12])
 (.seq (.seq (.reg [⟨some 93, none, (.mov (.t 12))⟩, ⟨some 94, none, (.bin .lss (.t 93) (.c (.pv (.int .u8 128))))⟩, ⟨some 95, none, (.mov (.t 94))⟩, ⟨some 96, (some (95, false)), (.mov (.t 12))⟩, ⟨some 97, (some (95, false)), (.bin .lss (.c (.pv (.int .u8 191))) (.t 96))⟩, ⟨some 98, none, (.pick (.t 95) (.c (.pv (.bool true))) (.t 97))⟩] [5, 10, 11, 12, 98])
 (.kp (.cond (.t 98) (.seq (.reg [⟨some 2, none, (.asg (.c (.pv (.int .i32 65533))))⟩, ⟨some 3, none, (.asg (.c (.pv (.int .i64 1))))⟩] [2, 3])
 .ret)
 .skip) [5, 10, 11, 12]))
 (.seq (.reg [⟨some 99, none, (.mov (.t 5))⟩, ⟨some 100, none, (.bin .and (.t 99) (.c (.pv (.int .u8 7))))⟩, ⟨some 101, none, (.conv (.int .i32) (.t 100))⟩, ⟨some 102, none, (.bin .shl (.t 101) (.c (.pv (.int .u64 18))))⟩, ⟨some 103, none, (.mov (.t 10))⟩, ⟨some 104, none, (.bin .and (.t 103) (.c (.pv (.int .u8 63))))⟩, ⟨some 105, none, (.conv (.int .i32) (.t 104))⟩, ⟨some 106, none, (.bin .shl (.t 105) (.c (.pv (.int .u64 12))))⟩, ⟨some 107, none, (.bin .or (.t 102) (.t 106))⟩, ⟨some 108, none, (.mov (.t 11))⟩, ⟨some 109, none, (.bin .and (.t 108) (.c (.pv (.int .u8 63))))⟩, ⟨some 110, none, (.conv (.int .i32) (.t 109))⟩, ⟨some 111, none, (.bin .shl (.t 110) (.c (.pv (.int .u64 6))))⟩, ⟨some 112, none, (.bin .or (.t 107) (.t 111))⟩, ⟨some 113, none, (.mov (.t 12))⟩, ⟨some 114, none, (.bin .and (.t 113) (.c (.pv (.int .u8 63))))⟩, ⟨some 115, none, (.conv (.int .i32) (.t 114))⟩, ⟨some 116, none, (.bin .or (.t 112) (.t 115))⟩, ⟨some 2, none, (.asg (.t 116))⟩, ⟨some 3, none, (.asg (.c (.pv (.int .i64 4))))⟩] [2, 3])
 .ret)))))))))))))))))) }
def lp76x0 : MC :=
 (.seq (.seq (.reg [⟨some 57, none, (.mov (.t 8))⟩, ⟨some 58, none, (.mov (.t 9))⟩, ⟨some 59, none, (.bin .lss (.t 57) (.t 58))⟩] [0, 1, 5, 6, 7, 8, 9, 10, 59])
 (.kp (.cond (.t 59) .skip
 (.exit 1)) [0, 1, 5, 6, 7, 8, 9, 10]))
 (.kp (.block 2 (.seq (.seq (.reg [⟨some 60, none, (.mov (.t 0))⟩, ⟨some 61, none, (.mov (.t 8))⟩, ⟨some 62, none, (.idxS (.t 60) (.t 61))⟩, ⟨some 63, none, (.mov (.t 6))⟩, ⟨some 64, none, (.bin .neq (.t 62) (.t 63))⟩] [0, 1, 5, 6, 7, 8, 9, 10, 64])
 (.kp (.cond (.t 64) (.seq (.reg [⟨some 65, none, (.mov (.t 0))⟩, ⟨some 66, none, (.mov (.t 8))⟩, ⟨some 67, none, (.bin .add (.t 66) (.c (.pv (.int .i64 1))))⟩, ⟨some 68, none, (.mov (.t 9))⟩, ⟨some 69, none, (.slice true 0 (.t 65) (some (.t 67)) (some (.t 68)) none)⟩, ⟨some 70, none, (.mov (.t 6))⟩, ⟨some 71, none, (.call 86 [(.t 69), (.t 70)])⟩, ⟨some 11, none, (.asg (.t 71))⟩] [0, 1, 5, 6, 7, 8, 9, 10, 11])
 (.seq (.seq (.reg [⟨some 72, none, (.mov (.t 11))⟩, ⟨some 73, none, (.bin .lss (.t 72) (.c (.pv (.int .i64 0))))⟩] [0, 1, 5, 6, 7, 8, 9, 10, 11, 73])
 (.kp (.cond (.t 73) (.seq (.reg [⟨some 4, none, (.asg (.c (.pv (.int .i64 (-1)))))⟩] [4])
 .ret)
 .skip) [0, 1, 5, 6, 7, 8, 9, 10, 11]))
 (.reg [⟨some 74, none, (.mov (.t 8))⟩, ⟨some 75, none, (.mov (.t 11))⟩, ⟨some 76, none, (.bin .add (.t 75) (.c (.pv (.int .i64 1))))⟩, ⟨some 77, none, (.bin .add (.t 74) (.t 76))⟩, ⟨some 8, none, (.asg (.t 77))⟩] [0, 1, 5, 6, 7, 8, 9, 10])))
 .skip) [0, 1, 5, 6, 7, 8, 9, 10]))
 (.seq (.seq (.reg [⟨some 78, none, (.mov (.t 0))⟩, ⟨some 79, none, (.mov (.t 8))⟩, ⟨some 80, none, (.bin .add (.t 79) (.c (.pv (.int .i64 1))))⟩, ⟨some 81, none, (.idxS (.t 78) (.t 80))⟩, ⟨some 82, none, (.mov (.t 7))⟩, ⟨some 83, none, (.bin .eql (.t 81) (.t 82))⟩, ⟨some 84, none, (.mov (.t 83))⟩, ⟨some 85, (some (84, true)), (.mov (.t 0))⟩, ⟨some 86, (some (84, true)), (.mov (.t 8))⟩, ⟨some 87, (some (84, true)), (.mov (.t 8))⟩, ⟨some 88, (some (84, true)), (.mov (.t 5))⟩, ⟨some 89, (some (84, true)), (.bin .add (.t 87) (.t 88))⟩, ⟨some 90, (some (84, true)), (.slice true 0 (.t 85) (some (.t 86)) (some (.t 89)) none)⟩, ⟨some 91, (some (84, true)), (.mov (.t 1))⟩, ⟨some 92, (some (84, true)), (.bin .eql (.t 90) (.t 91))⟩, ⟨some 93, none, (.pick (.t 84) (.t 92) (.c (.pv (.bool false))))⟩] [0, 1, 5, 6, 7, 8, 9, 10, 93])
 (.kp (.cond (.t 93) (.seq (.reg [⟨some 94, none, (.mov (.t 8))⟩, ⟨some 4, none, (.asg (.t 94))⟩] [4])
 .ret)
 .skip) [0, 1, 5, 6, 7, 8, 9, 10]))
 (.seq (.reg [⟨some 95, none, (.mov (.t 8))⟩, ⟨some 96, none, (.bin .add (.t 95) (.c (.pv (.int .i64 1))))⟩, ⟨some 8, none, (.asg (.t 96))⟩] [0, 1, 5, 6, 7, 8, 9, 10])
 (.seq (.reg [⟨some 97, none, (.mov (.t 10))⟩, ⟨some 98, none, (.bin .add (.t 97) (.c (.pv (.int .i64 1))))⟩, ⟨some 10, none, (.asg (.t 98))⟩] [0, 1, 5, 6, 7, 8, 9, 10])
 (.seq .no
 (.kp (.cond (.t 107) (.seq (.reg [⟨some 108, none, (.mov (.t 0))⟩, ⟨some 109, none, (.mov (.t 8))⟩, ⟨some 110, none, (.slice true 0 (.t 108) (some (.t 109)) none none)⟩, ⟨some 111, none, (.mov (.t 1))⟩, ⟨some 112, none, (.call 80 [(.t 110), (.t 111)])⟩, ⟨some 12, none, (.asg (.t 112))⟩] [8, 12])
 (.seq (.seq (.reg [⟨some 113, none, (.mov (.t 12))⟩, ⟨some 114, none, (.bin .geq (.t 113) (.c (.pv (.int .i64 0))))⟩] [8, 12, 114])
 (.kp (.cond (.t 114) (.seq (.reg [⟨some 115, none, (.mov (.t 12))⟩, ⟨some 116, none, (.mov (.t 8))⟩, ⟨some 117, none, (.bin .add (.t 115) (.t 116))⟩, ⟨some 4, none, (.asg (.t 117))⟩] [4])
 .ret)
 .skip) []))
 (.seq (.reg [⟨some 4, none, (.asg (.c (.pv (.int .i64 (-1)))))⟩] [4])
 .ret)))
 (.seq .no
 (.kp (.cond (.t 132) (.seq (.reg [⟨some 133, none, (.mov (.t 0))⟩, ⟨some 134, none, (.mov (.t 8))⟩, ⟨some 135, none, (.slice true 0 (.t 133) (some (.t 134)) none none)⟩, ⟨some 136, none, (.mov (.t 1))⟩, ⟨some 137, none, (.call 87 [(.t 135), (.t 136)])⟩, ⟨some 13, none, (.asg (.t 137))⟩] [8, 13])
 (.seq (.seq (.reg [⟨some 138, none, (.mov (.t 13))⟩, ⟨some 139, none, (.bin .lss (.t 138) (.c (.pv (.int .i64 0))))⟩] [8, 13, 139])
 (.kp (.cond (.t 139) (.seq (.reg [⟨some 4, none, (.asg (.c (.pv (.int .i64 (-1)))))⟩] [4])
 .ret)
 .skip) [8, 13]))
 (.seq (.reg [⟨some 140, none, (.mov (.t 8))⟩, ⟨some 141, none, (.mov (.t 13))⟩, ⟨some 142, none, (.bin .add (.t 140) (.t 141))⟩, ⟨some 4, none, (.asg (.t 142))⟩] [4])
 .ret)))
 .skip) [0, 1, 5, 6, 7, 8, 9, 10]))) [0, 1, 5, 6, 7, 8, 9, 10]))))))) [0, 1, 5, 6, 7, 8, 9, 10]))
/-- internal/stringslite.Index -/
def mf76 : MFun := { np := 2, res := [.t 4], clean := true, body :=
 (.seq (.reg [⟨some 4, none, (.asg (.c (.pv (.int .i64 0))))⟩] [0, 1])
 (.seq (.reg [⟨some 14, none, (.mov (.t 1))⟩, ⟨some 15, none, (.len true (.t 14))⟩, ⟨some 5, none, (.asg (.t 15))⟩] [0, 1, 5])
 (.seq (.kp (.block 0 (.seq (.reg [⟨some 17, none, (.mov (.t 5))⟩, ⟨some 18, none, (.bin .eql (.t 17) (.c (.pv (.int .i64 0))))⟩, ⟨some 19, none, (.mov (.t 18))⟩, ⟨some 20, (some (19, false)), (.mov (.t 1))⟩, ⟨some 21, (some (19, false)), (.mov (.t 0))⟩, ⟨some 22, (some (19, false)), (.bin .eql (.t 20) (.t 21))⟩, ⟨some 23, none, (.pick (.t 19) (.c (.pv (.bool true))) (.t 22))⟩, ⟨some 16, none, (.asg (.t 23))⟩] [0, 1, 5, 16])
 (.kp (.cond (.t 16) (.seq (.reg [⟨some 4, none, (.asg (.c (.pv (.int .i64 0))))⟩] [4])
 .ret)
 (.seq (.reg [⟨some 25, none, (.mov (.t 5))⟩, ⟨some 26, none, (.bin .eql (.t 25) (.c (.pv (.int .i64 1))))⟩, ⟨some 24, none, (.asg (.t 26))⟩] [0, 1, 5, 24])
 (.kp (.cond (.t 24) (.seq (.reg [⟨some 27, none, (.mov (.t 0))⟩, ⟨some 28, none, (.mov (.t 1))⟩, ⟨some 29, none, (.idxS (.t 28) (.c (.pv (.int .i64 0))))⟩, ⟨some 30, none, (.call 86 [(.t 27), (.t 29)])⟩, ⟨some 4, none, (.asg (.t 30))⟩] [4])
 .ret)
 (.seq (.reg [⟨some 32, none, (.mov (.t 5))⟩, ⟨some 33, none, (.mov (.t 0))⟩, ⟨some 34, none, (.len true (.t 33))⟩, ⟨some 35, none, (.bin .geq (.t 32) (.t 34))⟩, ⟨some 31, none, (.asg (.t 35))⟩] [0, 1, 5, 31])
 (.kp (.cond (.t 31) (.seq (.reg [⟨some 4, none, (.asg (.c (.pv (.int .i64 (-1)))))⟩] [4])
 .ret)
 (.seq .no
 (.kp (.cond (.t 36) (.seq (.reg [⟨some 45, none, (.mov (.t 0))⟩, ⟨some 46, none, (.mov (.t 1))⟩, ⟨some 47, none, (.call 80 [(.t 45), (.t 46)])⟩, ⟨some 4, none, (.asg (.t 47))⟩] [4])
 .ret)
 .skip) [0, 1, 5]))) [0, 1, 5]))) [0, 1, 5]))) [0, 1, 5]))) [0, 1, 5])
 (.seq (.reg [⟨some 48, none, (.mov (.t 1))⟩, ⟨some 49, none, (.idxS (.t 48) (.c (.pv (.int .i64 0))))⟩, ⟨some 6, none, (.asg (.t 49))⟩] [0, 1, 5, 6])
 (.seq (.reg [⟨some 50, none, (.mov (.t 1))⟩, ⟨some 51, none, (.idxS (.t 50) (.c (.pv (.int .i64 1))))⟩, ⟨some 7, none, (.asg (.t 51))⟩] [0, 1, 5, 6, 7])
 (.seq (.reg [⟨some 8, none, (.asg (.c (.pv (.int .i64 0))))⟩] [0, 1, 5, 6, 7, 8])
 (.seq (.reg [⟨some 52, none, (.mov (.t 0))⟩, ⟨some 53, none, (.len true (.t 52))⟩, ⟨some 54, none, (.mov (.t 5))⟩, ⟨some 55, none, (.bin .sub (.t 53) (.t 54))⟩, ⟨some 56, none, (.bin .add (.t 55) (.c (.pv (.int .i64 1))))⟩, ⟨some 9, none, (.asg (.t 56))⟩] [0, 1, 5, 6, 7, 8, 9])
 (.seq (.reg [⟨some 10, none, (.asg (.c (.pv (.int .i64 0))))⟩] [0, 1, 5, 6, 7, 8, 9, 10])
 (.seq (.kp (.block 1 (.loop lp76x0)) [])
 (.seq (.reg [⟨some 4, none, (.asg (.c (.pv (.int .i64 (-1)))))⟩] [4])
 .ret)))))))))) }
/-- strings.IndexByte -/
def mf77 : MFun := { np := 2, res := [.t 4], clean := true, body :=
 (.seq (.reg [⟨some 4, none, (.asg (.c (.pv (.int .i64 0))))⟩] [0, 1])
 (.seq (.reg [⟨some 5, none, (.mov (.t 0))⟩, ⟨some 6, none, (.mov (.t 1))⟩, ⟨some 7, none, (.call 86 [(.t 5), (.t 6)])⟩, ⟨some 4, none, (.asg (.t 7))⟩] [4])
 .ret)) }
/-- unicode/utf8.ValidRune -/
def mf78 : MFun := { np := 1, res := [.t 2], clean := true, body :=
 (.seq (.reg [⟨some 2, none, (.asg (.c (.pv (.bool false))))⟩] [0])
 (.seq (.kp (.block 0 (.seq (.reg [⟨some 4, none, (.mov (.t 0))⟩, ⟨some 5, none, (.bin .leq (.c (.pv (.int .i32 0))) (.t 4))⟩, ⟨some 6, none, (.mov (.t 5))⟩, ⟨some 7, (some (6, true)), (.mov (.t 0))⟩, ⟨some 8, (some (6, true)), (.bin .lss (.t 7) (.c (.pv (.int .i32 55296))))⟩, ⟨some 9, none, (.pick (.t 6) (.t 8) (.c (.pv (.bool false))))⟩, ⟨some 3, none, (.asg (.t 9))⟩] [0, 3])
 (.kp (.cond (.t 3) (.seq (.reg [⟨some 2, none, (.asg (.c (.pv (.bool true))))⟩] [2])
 .ret)
 (.seq (.reg [⟨some 11, none, (.mov (.t 0))⟩, ⟨some 12, none, (.bin .lss (.c (.pv (.int .i32 57343))) (.t 11))⟩, ⟨some 13, none, (.mov (.t 12))⟩, ⟨some 14, (some (13, true)), (.mov (.t 0))⟩, ⟨some 15, (some (13, true)), (.bin .leq (.t 14) (.c (.pv (.int .i32 1114111))))⟩, ⟨some 16, none, (.pick (.t 13) (.t 15) (.c (.pv (.bool false))))⟩, ⟨some 10, none, (.asg (.t 16))⟩] [10])
 (.kp (.cond (.t 10) (.seq (.reg [⟨some 2, none, (.asg (.c (.pv (.bool true))))⟩] [2])
 .ret)
 .skip) []))) []))) [])
 (.seq (.reg [⟨some 2, none, (.asg (.c (.pv (.bool false))))⟩] [2])
 .ret))) }
/-- internal/bytealg.Cutover -/
def mf79 : MFun := { np := 1, res := [.t 2], clean := true, body :=
 (.seq (.reg [⟨some 2, none, (.asg (.c (.pv (.int .i64 0))))⟩] [0])
 (.seq (.reg [⟨some 3, none, (.mov (.t 0))⟩, ⟨some 4, none, (.bin .add (.t 3) (.c (.pv (.int .i64 16))))⟩, ⟨some 5, none, (.bin .quo (.t 4) (.c (.pv (.int .i64 8))))⟩, ⟨some 2, none, (.asg (.t 5))⟩] [2])
 .ret)) }
/-- internal/strconv.lower -/
def mf81 : MFun := { np := 1, res := [.t 2], clean := true, body :=
 (.seq (.reg [⟨some 2, none, (.asg (.c (.pv (.int .u8 0))))⟩] [0])
 (.seq (.reg [⟨some 3, none, (.mov (.t 0))⟩, ⟨some 4, none, (.bin .or (.t 3) (.c (.pv (.int .u8 32))))⟩, ⟨some 2, none, (.asg (.t 4))⟩] [2])
 .ret)) }
def lp82x0 : MC :=
 (.seq (.seq (.reg [⟨some 51, none, (.mov (.t 4))⟩, ⟨some 52, none, (.mov (.t 0))⟩, ⟨some 53, none, (.len true (.t 52))⟩, ⟨some 54, none, (.bin .lss (.t 51) (.t 53))⟩] [0, 3, 4, 5, 54])
 (.kp (.cond (.t 54) .skip
 (.exit 0)) [0, 3, 4, 5]))
 (.seq (.kp (.block 1 (.seq (.seq (.reg [⟨some 57, none, (.mov (.t 0))⟩, ⟨some 58, none, (.mov (.t 4))⟩, ⟨some 59, none, (.idxS (.t 57) (.t 58))⟩, ⟨some 60, none, (.bin .leq (.c (.pv (.int .u8 48))) (.t 59))⟩, ⟨some 61, none, (.mov (.t 60))⟩, ⟨some 62, (some (61, true)), (.mov (.t 0))⟩, ⟨some 63, (some (61, true)), (.mov (.t 4))⟩, ⟨some 64, (some (61, true)), (.idxS (.t 62) (.t 63))⟩, ⟨some 65, (some (61, true)), (.bin .leq (.t 64) (.c (.pv (.int .u8 57))))⟩, ⟨some 66, none, (.pick (.t 61) (.t 65) (.c (.pv (.bool false))))⟩, ⟨some 67, none, (.mov (.t 66))⟩, ⟨some 68, (some (67, false)), (.mov (.t 5))⟩, ⟨some 69, (some (67, false)), (.mov (.t 68))⟩, ⟨some 70, (some (69, true)), (.mov (.t 0))⟩, ⟨some 71, (some (69, true)), (.mov (.t 4))⟩, ⟨some 72, (some (69, true)), (.idxS (.t 70) (.t 71))⟩, ⟨some 73, (some (69, true)), (.call 81 [(.t 72)])⟩, ⟨some 74, (some (69, true)), (.bin .leq (.c (.pv (.int .u8 97))) (.t 73))⟩, ⟨some 75, (some (67, false)), (.pick (.t 69) (.t 74) (.c (.pv (.bool false))))⟩, ⟨some 76, (some (67, false)), (.mov (.t 75))⟩, ⟨some 77, (some (76, true)), (.mov (.t 0))⟩, ⟨some 78, (some (76, true)), (.mov (.t 4))⟩, ⟨some 79, (some (76, true)), (.idxS (.t 77) (.t 78))⟩, ⟨some 80, (some (76, true)), (.call 81 [(.t 79)])⟩, ⟨some 81, (some (76, true)), (.bin .leq (.t 80) (.c (.pv (.int .u8 102))))⟩, ⟨some 82, (some (67, false)), (.pick (.t 76) (.t 81) (.c (.pv (.bool false))))⟩, ⟨some 83, none, (.pick (.t 67) (.c (.pv (.bool true))) (.t 82))⟩] [0, 3, 4, 5, 83])
 (.kp (.cond (.t 83) (.seq (.reg [⟨some 3, none, (.asg (.c (.pv (.int .i32 48))))⟩] [0, 3, 4, 5])
 (.exit 1))
 .skip) [0, 3, 4, 5]))
 (.seq (.seq (.reg [⟨some 84, none, (.mov (.t 0))⟩, ⟨some 85, none, (.mov (.t 4))⟩, ⟨some 86, none, (.idxS (.t 84) (.t 85))⟩, ⟨some 87, none, (.bin .eql (.t 86) (.c (.pv (.int .u8 95))))⟩] [0, 3, 4, 5, 87])
 (.kp (.cond (.t 87) (.seq (.seq (.reg [⟨some 88, none, (.mov (.t 3))⟩, ⟨some 89, none, (.bin .neq (.t 88) (.c (.pv (.int .i32 48))))⟩] [0, 4, 5, 89])
 (.kp (.cond (.t 89) (.seq (.reg [⟨some 2, none, (.asg (.c (.pv (.bool false))))⟩] [2])
 .ret)
 .skip) [0, 4, 5]))
 (.seq (.reg [⟨some 3, none, (.asg (.c (.pv (.int .i32 95))))⟩] [0, 3, 4, 5])
 (.exit 1)))
 .skip) [0, 3, 4, 5]))
 (.seq (.seq (.reg [⟨some 90, none, (.mov (.t 3))⟩, ⟨some 91, none, (.bin .eql (.t 90) (.c (.pv (.int .i32 95))))⟩] [0, 4, 5, 91])
 (.kp (.cond (.t 91) (.seq (.reg [⟨some 2, none, (.asg (.c (.pv (.bool false))))⟩] [2])
 .ret)
 .skip) [0, 4, 5]))
 (.reg [⟨some 3, none, (.asg (.c (.pv (.int .i32 33))))⟩] [0, 3, 4, 5]))))) [0, 3, 4, 5])
 (.reg [⟨some 55, none, (.mov (.t 4))⟩, ⟨some 56, none, (.bin .add (.t 55) (.c (.pv (.int .i64 1))))⟩, ⟨some 4, none, (.asg (.t 56))⟩] [0, 3, 4, 5])))
/-- internal/strconv.underscoreOK -/
def mf82 : MFun := { np := 1, res := [.t 2], clean := true, body :=
 (.seq (.reg [⟨some 2, none, (.asg (.c (.pv (.bool false))))⟩] [0])
 (.seq (.reg [⟨some 3, none, (.asg (.c (.pv (.int .i32 94))))⟩] [0, 3])
 (.seq (.reg [⟨some 4, none, (.asg (.c (.pv (.int .i64 0))))⟩] [0, 3, 4])
 (.seq (.seq (.reg [⟨some 6, none, (.mov (.t 0))⟩, ⟨some 7, none, (.len true (.t 6))⟩, ⟨some 8, none, (.bin .geq (.t 7) (.c (.pv (.int .i64 1))))⟩, ⟨some 9, none, (.mov (.t 8))⟩, ⟨some 10, (some (9, true)), (.mov (.t 0))⟩, ⟨some 11, (some (9, true)), (.idxS (.t 10) (.c (.pv (.int .i64 0))))⟩, ⟨some 12, (some (9, true)), (.bin .eql (.t 11) (.c (.pv (.int .u8 45))))⟩, ⟨some 13, (some (9, true)), (.mov (.t 12))⟩, ⟨some 14, (some (13, false)), (.mov (.t 0))⟩, ⟨some 15, (some (13, false)), (.idxS (.t 14) (.c (.pv (.int .i64 0))))⟩, ⟨some 16, (some (13, false)), (.bin .eql (.t 15) (.c (.pv (.int .u8 43))))⟩, ⟨some 17, (some (9, true)), (.pick (.t 13) (.c (.pv (.bool true))) (.t 16))⟩, ⟨some 18, none, (.pick (.t 9) (.t 17) (.c (.pv (.bool false))))⟩] [0, 3, 4, 18])
 (.kp (.cond (.t 18) (.reg [⟨some 19, none, (.mov (.t 0))⟩, ⟨some 20, none, (.slice true 0 (.t 19) (some (.c (.pv (.int .i64 1)))) none none)⟩, ⟨some 0, none, (.asg (.t 20))⟩] [0, 3, 4])
 .skip) [0, 3, 4]))
 (.seq (.reg [⟨some 5, none, (.asg (.c (.pv (.bool false))))⟩] [0, 3, 4, 5])
 (.seq (.seq (.reg [⟨some 21, none, (.mov (.t 0))⟩, ⟨some 22, none, (.len true (.t 21))⟩, ⟨some 23, none, (.bin .geq (.t 22) (.c (.pv (.int .i64 2))))⟩, ⟨some 24, none, (.mov (.t 23))⟩, ⟨some 25, (some (24, true)), (.mov (.t 0))⟩, ⟨some 26, (some (24, true)), (.idxS (.t 25) (.c (.pv (.int .i64 0))))⟩, ⟨some 27, (some (24, true)), (.bin .eql (.t 26) (.c (.pv (.int .u8 48))))⟩, ⟨some 28, none, (.pick (.t 24) (.t 27) (.c (.pv (.bool false))))⟩, ⟨some 29, none, (.mov (.t 28))⟩, ⟨some 30, (some (29, true)), (.mov (.t 0))⟩, ⟨some 31, (some (29, true)), (.idxS (.t 30) (.c (.pv (.int .i64 1))))⟩, ⟨some 32, (some (29, true)), (.call 81 [(.t 31)])⟩, ⟨some 33, (some (29, true)), (.bin .eql (.t 32) (.c (.pv (.int .u8 98))))⟩, ⟨some 34, (some (29, true)), (.mov (.t 33))⟩, ⟨some 35, (some (34, false)), (.mov (.t 0))⟩, ⟨some 36, (some (34, false)), (.idxS (.t 35) (.c (.pv (.int .i64 1))))⟩, ⟨some 37, (some (34, false)), (.call 81 [(.t 36)])⟩, ⟨some 38, (some (34, false)), (.bin .eql (.t 37) (.c (.pv (.int .u8 111))))⟩, ⟨some 39, (some (29, true)), (.pick (.t 34) (.c (.pv (.bool true))) (.t 38))⟩, ⟨some 40, (some (29, true)), (.mov (.t 39))⟩, ⟨some 41, (some (40, false)), (.mov (.t 0))⟩, ⟨some 42, (some (40, false)), (.idxS (.t 41) (.c (.pv (.int .i64 1))))⟩, ⟨some 43, (some (40, false)), (.call 81 [(.t 42)])⟩, ⟨some 44, (some (40, false)), (.bin .eql (.t 43) (.c (.pv (.int .u8 120))))⟩, ⟨some 45, (some (29, true)), (.pick (.t 40) (.c (.pv (.bool true))) (.t 44))⟩, ⟨some 46, none, (.pick (.t 29) (.t 45) (.c (.pv (.bool false))))⟩] [0, 3, 4, 5, 46])
 (.kp (.cond (.t 46) (.seq (.reg [⟨some 4, none, (.asg (.c (.pv (.int .i64 2))))⟩] [0, 4])
 (.seq (.reg [⟨some 3, none, (.asg (.c (.pv (.int .i32 48))))⟩] [0, 3, 4])
 (.reg [⟨some 47, none, (.mov (.t 0))⟩, ⟨some 48, none, (.idxS (.t 47) (.c (.pv (.int .i64 1))))⟩, ⟨some 49, none, (.call 81 [(.t 48)])⟩, ⟨some 50, none, (.bin .eql (.t 49) (.c (.pv (.int .u8 120))))⟩, ⟨some 5, none, (.asg (.t 50))⟩] [0, 3, 4, 5])))
 .skip) [0, 3, 4, 5]))
 (.seq (.kp (.block 0 (.loop lp82x0)) [3])
 (.seq (.reg [⟨some 92, none, (.mov (.t 3))⟩, ⟨some 93, none, (.bin .neq (.t 92) (.c (.pv (.int .i32 95))))⟩, ⟨some 2, none, (.asg (.t 93))⟩] [2])
 .ret)))))))) }
/-- internal/stringslite.Clone -/
def mf83 : MFun := { np := 1, res := [.t 2], clean := true, body :=
 (.seq (.reg [⟨some 2, none, (.asg (.c (.pv (.str []))))⟩] [0])
 (.seq (.seq (.reg [⟨some 4, none, (.mov (.t 0))⟩, ⟨some 5, none, (.len true (.t 4))⟩, ⟨some 6, none, (.bin .eql (.t 5) (.c (.pv (.int .i64 0))))⟩] [0, 6])
 (.kp (.cond (.t 6) (.seq (.reg [⟨some 2, none, (.asg (.c (.pv (.str []))))⟩] [2])
 .ret)
 .skip) [0]))
 (.seq (.reg [⟨some 7, none, (.mov (.t 0))⟩, ⟨some 8, none, (.len true (.t 7))⟩, ⟨some 9, none, (.mks 1 1 [(.pv (.int .u8 0))] (.t 8))⟩, ⟨some 3, none, (.asg (.t 9))⟩] [0, 3])
 (.seq .no
 (.seq .no
 .ret))))) }
/-- errors.New -/
def mf84 : MFun := { np := 1, res := [.t 2], clean := true, body :=
 (.seq (.reg [⟨some 2, none, (.asg (.c .nilif))⟩] [0])
 (.seq (.reg [⟨some 3, none, (.mov (.t 0))⟩, ⟨some 4, none, (.build [(.pv (.str []))] [(0, 1, (.t 3))])⟩, ⟨some 5, none, (.box 1 (.t 4))⟩, ⟨some 6, none, (.mkif 118 (.t 5))⟩, ⟨some 2, none, (.asg (.t 6))⟩] [2])
 .ret)) }
/-- strconv.Itoa -/
def mf85 : MFun := { np := 1, res := [.t 2], clean := true, body :=
 (.seq (.reg [⟨some 2, none, (.asg (.c (.pv (.str []))))⟩] [0])
 (.seq (.reg [⟨some 3, none, (.mov (.t 0))⟩, ⟨some 4, none, (.call 88 [(.t 3)])⟩, ⟨some 2, none, (.asg (.t 4))⟩] [2])
 .ret)) }
/-- internal/stringslite.IndexByte -/
def mf86 : MFun := { np := 2, res := [.t 4], clean := true, body :=
 (.seq (.reg [⟨some 4, none, (.asg (.c (.pv (.int .i64 0))))⟩] [0, 1])
 (.seq (.reg [⟨some 5, none, (.mov (.t 0))⟩, ⟨some 6, none, (.mov (.t 1))⟩, ⟨some 7, none, (.call 89 [(.t 5), (.t 6)])⟩, ⟨some 4, none, (.asg (.t 7))⟩] [4])
 .ret)) }
def lp87x0 : MC :=
 (.seq (.seq (.reg [⟨some 41, none, (.mov (.t 10))⟩, ⟨some 42, none, (.mov (.t 0))⟩, ⟨some 43, none, (.len true (.t 42))⟩, ⟨some 44, none, (.bin .lss (.t 41) (.t 43))⟩] [0, 1, 5, 6, 7, 8, 10, 44])
 (.kp (.cond (.t 44) .skip
 (.exit 2)) [0, 1, 5, 6, 7, 8, 10]))
 (.kp (.block 3 (.seq (.reg [⟨some 45, none, (.mov (.t 8))⟩, ⟨some 46, none, (.bin .mul (.t 45) (.c (.pv (.int .u32 16777619))))⟩, ⟨some 8, none, (.asg (.t 46))⟩] [0, 1, 5, 6, 7, 8, 10])
 (.seq (.reg [⟨some 47, none, (.mov (.t 8))⟩, ⟨some 48, none, (.mov (.t 0))⟩, ⟨some 49, none, (.mov (.t 10))⟩, ⟨some 50, none, (.idxS (.t 48) (.t 49))⟩, ⟨some 51, none, (.conv (.int .u32) (.t 50))⟩, ⟨some 52, none, (.bin .add (.t 47) (.t 51))⟩, ⟨some 8, none, (.asg (.t 52))⟩] [0, 1, 5, 6, 7, 8, 10])
 (.seq (.reg [⟨some 53, none, (.mov (.t 8))⟩, ⟨some 54, none, (.mov (.t 6))⟩, ⟨some 55, none, (.mov (.t 0))⟩, ⟨some 56, none, (.mov (.t 10))⟩, ⟨some 57, none, (.mov (.t 7))⟩, ⟨some 58, none, (.bin .sub (.t 56) (.t 57))⟩, ⟨some 59, none, (.idxS (.t 55) (.t 58))⟩, ⟨some 60, none, (.conv (.int .u32) (.t 59))⟩, ⟨some 61, none, (.bin .mul (.t 54) (.t 60))⟩, ⟨some 62, none, (.bin .sub (.t 53) (.t 61))⟩, ⟨some 8, none, (.asg (.t 62))⟩] [0, 1, 5, 6, 7, 8, 10])
 (.seq (.reg [⟨some 63, none, (.mov (.t 10))⟩, ⟨some 64, none, (.bin .add (.t 63) (.c (.pv (.int .i64 1))))⟩, ⟨some 10, none, (.asg (.t 64))⟩] [0, 1, 5, 6, 7, 8, 10])
 (.seq (.reg [⟨some 65, none, (.mov (.t 8))⟩, ⟨some 66, none, (.mov (.t 5))⟩, ⟨some 67, none, (.bin .eql (.t 65) (.t 66))⟩, ⟨some 68, none, (.mov (.t 67))⟩, ⟨some 69, (some (68, true)), (.mov (.t 0))⟩, ⟨some 70, (some (68, true)), (.mov (.t 10))⟩, ⟨some 71, (some (68, true)), (.mov (.t 7))⟩, ⟨some 72, (some (68, true)), (.bin .sub (.t 70) (.t 71))⟩, ⟨some 73, (some (68, true)), (.mov (.t 10))⟩, ⟨some 74, (some (68, true)), (.slice true 0 (.t 69) (some (.t 72)) (some (.t 73)) none)⟩, ⟨some 75, (some (68, true)), (.mov (.t 1))⟩, ⟨some 76, (some (68, true)), (.bin .eql (.t 74) (.t 75))⟩, ⟨some 77, none, (.pick (.t 68) (.t 76) (.c (.pv (.bool false))))⟩] [0, 1, 5, 6, 7, 8, 10, 77])
 (.kp (.cond (.t 77) (.seq (.reg [⟨some 78, none, (.mov (.t 10))⟩, ⟨some 79, none, (.mov (.t 7))⟩, ⟨some 80, none, (.bin .sub (.t 78) (.t 79))⟩, ⟨some 4, none, (.asg (.t 80))⟩] [4])
 .ret)
 .skip) [0, 1, 5, 6, 7, 8, 10]))))))) [0, 1, 5, 6, 7, 8, 10]))
def lp87x1 : MC :=
 (.seq (.seq (.reg [⟨some 18, none, (.mov (.t 9))⟩, ⟨some 19, none, (.mov (.t 7))⟩, ⟨some 20, none, (.bin .lss (.t 18) (.t 19))⟩] [0, 1, 5, 6, 7, 8, 9, 20])
 (.kp (.cond (.t 20) .skip
 (.exit 0)) [0, 1, 5, 6, 7, 8, 9]))
 (.seq (.kp (.block 1 (.reg [⟨some 23, none, (.mov (.t 8))⟩, ⟨some 24, none, (.bin .mul (.t 23) (.c (.pv (.int .u32 16777619))))⟩, ⟨some 25, none, (.mov (.t 0))⟩, ⟨some 26, none, (.mov (.t 9))⟩, ⟨some 27, none, (.idxS (.t 25) (.t 26))⟩, ⟨some 28, none, (.conv (.int .u32) (.t 27))⟩, ⟨some 29, none, (.bin .add (.t 24) (.t 28))⟩, ⟨some 8, none, (.asg (.t 29))⟩] [0, 1, 5, 6, 7, 8, 9])) [0, 1, 5, 6, 7, 8, 9])
 (.reg [⟨some 21, none, (.mov (.t 9))⟩, ⟨some 22, none, (.bin .add (.t 21) (.c (.pv (.int .i64 1))))⟩, ⟨some 9, none, (.asg (.t 22))⟩] [0, 1, 5, 6, 7, 8, 9])))
/-- internal/bytealg.IndexRabinKarp string  -/
def mf87 : MFun := { np := 2, res := [.t 4], clean := true, body :=
 (.seq (.reg [⟨some 4, none, (.asg (.c (.pv (.int .i64 0))))⟩] [0, 1])
 (.seq (.reg [⟨some 12, none, (.mov (.t 1))⟩, ⟨some 13, none, (.call 90 [(.t 12)])⟩, ⟨some 11, none, (.mov (.t 13))⟩, ⟨some 14, none, (.ext 0 (.t 11))⟩, ⟨some 15, none, (.ext 1 (.t 11))⟩, ⟨some 5, none, (.asg (.t 14))⟩, ⟨some 6, none, (.asg (.t 15))⟩] [0, 1, 5, 6])
 (.seq (.reg [⟨some 16, none, (.mov (.t 1))⟩, ⟨some 17, none, (.len true (.t 16))⟩, ⟨some 7, none, (.asg (.t 17))⟩] [0, 1, 5, 6, 7])
 (.seq (.reg [⟨some 8, none, (.asg (.c (.pv (.int .u32 0))))⟩] [0, 1, 5, 6, 7, 8])
 (.seq (.seq (.reg [⟨some 9, none, (.asg (.c (.pv (.int .i64 0))))⟩] [0, 1, 5, 6, 7, 8, 9])
 (.kp (.block 0 (.loop lp87x1)) [0, 1, 5, 6, 7, 8]))
 (.seq (.seq (.reg [⟨some 30, none, (.mov (.t 8))⟩, ⟨some 31, none, (.mov (.t 5))⟩, ⟨some 32, none, (.bin .eql (.t 30) (.t 31))⟩, ⟨some 33, none, (.mov (.t 32))⟩, ⟨some 34, (some (33, true)), (.mov (.t 0))⟩, ⟨some 35, (some (33, true)), (.mov (.t 7))⟩, ⟨some 36, (some (33, true)), (.slice true 0 (.t 34) none (some (.t 35)) none)⟩, ⟨some 37, (some (33, true)), (.mov (.t 1))⟩, ⟨some 38, (some (33, true)), (.bin .eql (.t 36) (.t 37))⟩, ⟨some 39, none, (.pick (.t 33) (.t 38) (.c (.pv (.bool false))))⟩] [0, 1, 5, 6, 7, 8, 39])
 (.kp (.cond (.t 39) (.seq (.reg [⟨some 4, none, (.asg (.c (.pv (.int .i64 0))))⟩] [4])
 .ret)
 .skip) [0, 1, 5, 6, 7, 8]))
 (.seq (.seq (.reg [⟨some 40, none, (.mov (.t 7))⟩, ⟨some 10, none, (.asg (.t 40))⟩] [0, 1, 5, 6, 7, 8, 10])
 (.kp (.block 2 (.loop lp87x0)) []))
 (.seq (.reg [⟨some 4, none, (.asg (.c (.pv (.int .i64 (-1)))))⟩] [4])
 .ret)))))))) }
/-- internal/strconv.Itoa -/
def mf88 : MFun := { np := 1, res := [.t 2], clean := true, body :=
 (.seq (.reg [⟨some 2, none, (.asg (.c (.pv (.str []))))⟩] [0])
 (.seq (.reg [⟨some 3, none, (.mov (.t 0))⟩, ⟨some 4, none, (.call 24 [(.t 3), (.c (.pv (.int .i64 10)))])⟩, ⟨some 2, none, (.asg (.t 4))⟩] [2])
 .ret)) }
def lp90x0 : MC :=
 (.seq (.seq (.reg [⟨some 24, none, (.mov (.t 8))⟩, ⟨some 25, none, (.bin .gtr (.t 24) (.c (.pv (.int .i64 0))))⟩] [4, 6, 7, 8, 25])
 (.kp (.cond (.t 25) .skip
 (.exit 2)) [4, 6, 7, 8]))
 (.seq (.kp (.block 3 (.seq (.seq (.reg [⟨some 28, none, (.mov (.t 8))⟩, ⟨some 29, none, (.bin .and (.t 28) (.c (.pv (.int .i64 1))))⟩, ⟨some 30, none, (.bin .neq (.t 29) (.c (.pv (.int .i64 0))))⟩] [4, 6, 7, 8, 30])
 (.kp (.cond (.t 30) (.reg [⟨some 31, none, (.mov (.t 6))⟩, ⟨some 32, none, (.mov (.t 7))⟩, ⟨some 33, none, (.bin .mul (.t 31) (.t 32))⟩, ⟨some 6, none, (.asg (.t 33))⟩] [4, 6, 7, 8])
 .skip) [4, 6, 7, 8]))
 (.reg [⟨some 34, none, (.mov (.t 7))⟩, ⟨some 35, none, (.mov (.t 7))⟩, ⟨some 36, none, (.bin .mul (.t 34) (.t 35))⟩, ⟨some 7, none, (.asg (.t 36))⟩] [4, 6, 7, 8]))) [4, 6, 7, 8])
 (.reg [⟨some 26, none, (.mov (.t 8))⟩, ⟨some 27, none, (.bin .shr (.t 26) (.c (.pv (.int .u64 1))))⟩, ⟨some 8, none, (.asg (.t 27))⟩] [4, 6, 7, 8])))
def lp90x1 : MC :=
 (.seq (.seq (.reg [⟨some 9, none, (.mov (.t 5))⟩, ⟨some 10, none, (.mov (.t 0))⟩, ⟨some 11, none, (.len true (.t 10))⟩, ⟨some 12, none, (.bin .lss (.t 9) (.t 11))⟩] [0, 4, 5, 12])
 (.kp (.cond (.t 12) .skip
 (.exit 0)) [0, 4, 5]))
 (.seq (.kp (.block 1 (.reg [⟨some 15, none, (.mov (.t 4))⟩, ⟨some 16, none, (.bin .mul (.t 15) (.c (.pv (.int .u32 16777619))))⟩, ⟨some 17, none, (.mov (.t 0))⟩, ⟨some 18, none, (.mov (.t 5))⟩, ⟨some 19, none, (.idxS (.t 17) (.t 18))⟩, ⟨some 20, none, (.conv (.int .u32) (.t 19))⟩, ⟨some 21, none, (.bin .add (.t 16) (.t 20))⟩, ⟨some 4, none, (.asg (.t 21))⟩] [0, 4, 5])) [0, 4, 5])
 (.reg [⟨some 13, none, (.mov (.t 5))⟩, ⟨some 14, none, (.bin .add (.t 13) (.c (.pv (.int .i64 1))))⟩, ⟨some 5, none, (.asg (.t 14))⟩] [0, 4, 5])))
/-- internal/bytealg.hashStr string  -/
def mf90 : MFun := { np := 1, res := [.t 2, .t 3], clean := true, body :=
 (.seq (.reg [⟨some 2, none, (.asg (.c (.pv (.int .u32 0))))⟩, ⟨some 3, none, (.asg (.c (.pv (.int .u32 0))))⟩] [0])
 (.seq (.reg [⟨some 4, none, (.asg (.c (.pv (.int .u32 0))))⟩] [0, 4])
 (.seq (.seq (.reg [⟨some 5, none, (.asg (.c (.pv (.int .i64 0))))⟩] [0, 4, 5])
 (.kp (.block 0 (.loop lp90x1)) [0, 4]))
 (.seq (.reg [⟨some 6, none, (.asg (.c (.pv (.int .u32 1))))⟩, ⟨some 7, none, (.asg (.c (.pv (.int .u32 16777619))))⟩] [0, 4, 6, 7])
 (.seq (.seq (.reg [⟨some 22, none, (.mov (.t 0))⟩, ⟨some 23, none, (.len true (.t 22))⟩, ⟨some 8, none, (.asg (.t 23))⟩] [4, 6, 7, 8])
 (.kp (.block 2 (.loop lp90x0)) [4, 6]))
 (.seq (.reg [⟨some 37, none, (.mov (.t 4))⟩, ⟨some 38, none, (.mov (.t 6))⟩, ⟨some 2, none, (.asg (.t 37))⟩, ⟨some 3, none, (.asg (.t 38))⟩] [2, 3])
 .ret)))))) }
end Go.Proofs.YtggoaggneapneaaDoorM
