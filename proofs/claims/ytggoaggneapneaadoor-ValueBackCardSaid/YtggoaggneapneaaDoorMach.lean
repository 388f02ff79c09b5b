/-
  The mirror at this seat: the machine.
-/
import Derived.Test.YtggoaggneapneaaDoorFn0
import Derived.Test.YtggoaggneapneaaDoorFn1
import Derived.Test.YtggoaggneapneaaDoorFn2
import Derived.Test.YtggoaggneapneaaDoorM30
set_option linter.unusedVariables false
namespace Go.Proofs.YtggoaggneapneaaDoorM
open Go
def fnT : Nat → Option MFun
  | 3 => some mf3
  | 4 => some mf4
  | 5 => some mf5
  | 6 => some mf6
  | 7 => some mf7
  | 8 => some mf8
  | 9 => some mf9
  | 10 => some mf10
  | 11 => some mf11
  | 12 => some mf12
  | 13 => some mf13
  | 14 => some mf14
  | 15 => some mf15
  | 16 => some mf16
  | 17 => some mf17
  | 18 => some mf18
  | 19 => some mf19
  | 20 => some mf20
  | 21 => some mf21
  | 22 => some mf22
  | 23 => some mf23
  | 24 => some mf24
  | 25 => some mf25
  | 26 => some mf26
  | 27 => some mf27
  | 28 => some mf28
  | 29 => some mf29
  | 30 => some mf30
  | 31 => some mf31
  | 32 => some mf32
  | 33 => some mf33
  | 34 => some mf34
  | 35 => some mf35
  | 36 => some mf36
  | 37 => some mf37
  | 38 => some mf38
  | 39 => some mf39
  | 40 => some mf40
  | 41 => some mf41
  | 42 => some mf42
  | 43 => some mf43
  | 44 => some mf44
  | 45 => some mf45
  | 46 => some mf46
  | 47 => some mf47
  | 48 => some mf48
  | 49 => some mf49
  | 50 => some mf50
  | 51 => some mf51
  | 52 => some mf52
  | 53 => some mf53
  | 54 => some mf54
  | 55 => some mf55
  | 56 => some mf56
  | 57 => some mf57
  | 58 => some mf58
  | 59 => some mf59
  | 60 => some mf60
  | 61 => some mf61
  | 62 => some mf62
  | 63 => some mf63
  | 64 => some mf64
  | 65 => some mf65
  | 66 => some mf66
  | 67 => some mf67
  | 68 => some mf68
  | 69 => some mf69
  | 70 => some mf70
  | 71 => some mf71
  | 72 => some mf72
  | 73 => some mf73
  | 74 => some mf74
  | 75 => some mf75
  | 76 => some mf76
  | 77 => some mf77
  | 78 => some mf78
  | 79 => some mf79
  | 81 => some mf81
  | 82 => some mf82
  | 83 => some mf83
  | 84 => some mf84
  | 85 => some mf85
  | 86 => some mf86
  | 87 => some mf87
  | 88 => some mf88
  | 90 => some mf90
  | _ => none
def libT : Nat → Option (List AV → Option AV)
  | 89 => some xIndexByteString
  | _ => none
def mach : Mach := { fn := fnT, lib := libT, libI := fun _ => none }
theorem fn3 : mach.fn 3 = some mf3 := rfl
theorem fn4 : mach.fn 4 = some mf4 := rfl
theorem fn5 : mach.fn 5 = some mf5 := rfl
theorem fn6 : mach.fn 6 = some mf6 := rfl
theorem fn7 : mach.fn 7 = some mf7 := rfl
theorem fn8 : mach.fn 8 = some mf8 := rfl
theorem fn9 : mach.fn 9 = some mf9 := rfl
theorem fn10 : mach.fn 10 = some mf10 := rfl
theorem fn11 : mach.fn 11 = some mf11 := rfl
theorem fn12 : mach.fn 12 = some mf12 := rfl
theorem fn13 : mach.fn 13 = some mf13 := rfl
theorem fn14 : mach.fn 14 = some mf14 := rfl
theorem fn15 : mach.fn 15 = some mf15 := rfl
theorem fn16 : mach.fn 16 = some mf16 := rfl
theorem fn17 : mach.fn 17 = some mf17 := rfl
theorem fn18 : mach.fn 18 = some mf18 := rfl
theorem fn19 : mach.fn 19 = some mf19 := rfl
theorem fn20 : mach.fn 20 = some mf20 := rfl
theorem fn21 : mach.fn 21 = some mf21 := rfl
theorem fn22 : mach.fn 22 = some mf22 := rfl
theorem fn23 : mach.fn 23 = some mf23 := rfl
theorem fn24 : mach.fn 24 = some mf24 := rfl
theorem fn25 : mach.fn 25 = some mf25 := rfl
theorem fn26 : mach.fn 26 = some mf26 := rfl
theorem fn27 : mach.fn 27 = some mf27 := rfl
theorem fn28 : mach.fn 28 = some mf28 := rfl
theorem fn29 : mach.fn 29 = some mf29 := rfl
theorem fn30 : mach.fn 30 = some mf30 := rfl
theorem fn31 : mach.fn 31 = some mf31 := rfl
theorem fn32 : mach.fn 32 = some mf32 := rfl
theorem fn33 : mach.fn 33 = some mf33 := rfl
theorem fn34 : mach.fn 34 = some mf34 := rfl
theorem fn35 : mach.fn 35 = some mf35 := rfl
theorem fn36 : mach.fn 36 = some mf36 := rfl
theorem fn37 : mach.fn 37 = some mf37 := rfl
theorem fn38 : mach.fn 38 = some mf38 := rfl
theorem fn39 : mach.fn 39 = some mf39 := rfl
theorem fn40 : mach.fn 40 = some mf40 := rfl
theorem fn41 : mach.fn 41 = some mf41 := rfl
theorem fn42 : mach.fn 42 = some mf42 := rfl
theorem fn43 : mach.fn 43 = some mf43 := rfl
theorem fn44 : mach.fn 44 = some mf44 := rfl
theorem fn45 : mach.fn 45 = some mf45 := rfl
theorem fn46 : mach.fn 46 = some mf46 := rfl
theorem fn47 : mach.fn 47 = some mf47 := rfl
theorem fn48 : mach.fn 48 = some mf48 := rfl
theorem fn49 : mach.fn 49 = some mf49 := rfl
theorem fn50 : mach.fn 50 = some mf50 := rfl
theorem fn51 : mach.fn 51 = some mf51 := rfl
theorem fn52 : mach.fn 52 = some mf52 := rfl
theorem fn53 : mach.fn 53 = some mf53 := rfl
theorem fn54 : mach.fn 54 = some mf54 := rfl
theorem fn55 : mach.fn 55 = some mf55 := rfl
theorem fn56 : mach.fn 56 = some mf56 := rfl
theorem fn57 : mach.fn 57 = some mf57 := rfl
theorem fn58 : mach.fn 58 = some mf58 := rfl
theorem fn59 : mach.fn 59 = some mf59 := rfl
theorem fn60 : mach.fn 60 = some mf60 := rfl
theorem fn61 : mach.fn 61 = some mf61 := rfl
theorem fn62 : mach.fn 62 = some mf62 := rfl
theorem fn63 : mach.fn 63 = some mf63 := rfl
theorem fn64 : mach.fn 64 = some mf64 := rfl
theorem fn65 : mach.fn 65 = some mf65 := rfl
theorem fn66 : mach.fn 66 = some mf66 := rfl
theorem fn67 : mach.fn 67 = some mf67 := rfl
theorem fn68 : mach.fn 68 = some mf68 := rfl
theorem fn69 : mach.fn 69 = some mf69 := rfl
theorem fn70 : mach.fn 70 = some mf70 := rfl
theorem fn71 : mach.fn 71 = some mf71 := rfl
theorem fn72 : mach.fn 72 = some mf72 := rfl
theorem fn73 : mach.fn 73 = some mf73 := rfl
theorem fn74 : mach.fn 74 = some mf74 := rfl
theorem fn75 : mach.fn 75 = some mf75 := rfl
theorem fn76 : mach.fn 76 = some mf76 := rfl
theorem fn77 : mach.fn 77 = some mf77 := rfl
theorem fn78 : mach.fn 78 = some mf78 := rfl
theorem fn79 : mach.fn 79 = some mf79 := rfl
theorem fn81 : mach.fn 81 = some mf81 := rfl
theorem fn82 : mach.fn 82 = some mf82 := rfl
theorem fn83 : mach.fn 83 = some mf83 := rfl
theorem fn84 : mach.fn 84 = some mf84 := rfl
theorem fn85 : mach.fn 85 = some mf85 := rfl
theorem fn86 : mach.fn 86 = some mf86 := rfl
theorem fn87 : mach.fn 87 = some mf87 := rfl
theorem fn88 : mach.fn 88 = some mf88 := rfl
theorem fn90 : mach.fn 90 = some mf90 := rfl
end Go.Proofs.YtggoaggneapneaaDoorM
