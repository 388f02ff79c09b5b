/-
  The mirror at this seat: the copies are copies.
-/
import Derived.Test.YtggoaggneapneaaDoorMach
import Derived.Test.YtggoaggneapneaaDoorProg
import Derived.KernelRfl
set_option linter.unusedVariables false
namespace Go.Proofs.YtggoaggneapneaaDoorM
open Go
theorem ck3 : chkF Tryd.prog mach mf3 Tryd.f3 = true := by kernel_rfl
theorem ck4 : chkF Tryd.prog mach mf4 Tryd.f4 = true := by kernel_rfl
theorem ck5 : chkF Tryd.prog mach mf5 Tryd.f5 = true := by kernel_rfl
theorem ck6 : chkF Tryd.prog mach mf6 Tryd.f6 = true := by kernel_rfl
theorem ck7 : chkF Tryd.prog mach mf7 Tryd.f7 = true := by kernel_rfl
theorem ck8 : chkF Tryd.prog mach mf8 Tryd.f8 = true := by kernel_rfl
theorem ck9 : chkF Tryd.prog mach mf9 Tryd.f9 = true := by kernel_rfl
theorem ck10 : chkF Tryd.prog mach mf10 Tryd.f10 = true := by kernel_rfl
theorem ck11 : chkF Tryd.prog mach mf11 Tryd.f11 = true := by kernel_rfl
theorem ck12 : chkF Tryd.prog mach mf12 Tryd.f12 = true := by kernel_rfl
theorem ck13 : chkF Tryd.prog mach mf13 Tryd.f13 = true := by kernel_rfl
theorem ck14 : chkF Tryd.prog mach mf14 Tryd.f14 = true := by kernel_rfl
theorem ck15 : chkF Tryd.prog mach mf15 Tryd.f15 = true := by kernel_rfl
theorem ck16 : chkF Tryd.prog mach mf16 Tryd.f16 = true := by kernel_rfl
theorem ck17 : chkF Tryd.prog mach mf17 Tryd.f17 = true := by kernel_rfl
theorem ck18 : chkF Tryd.prog mach mf18 Tryd.f18 = true := by kernel_rfl
theorem ck19 : chkF Tryd.prog mach mf19 Tryd.f19 = true := by kernel_rfl
theorem ck20 : chkF Tryd.prog mach mf20 Tryd.f20 = true := by kernel_rfl
theorem ck21 : chkF Tryd.prog mach mf21 Tryd.f21 = true := by kernel_rfl
theorem ck22 : chkF Tryd.prog mach mf22 Tryd.f22 = true := by kernel_rfl
theorem ck23 : chkF Tryd.prog mach mf23 Tryd.f23 = true := by kernel_rfl
theorem ck24 : chkF Tryd.prog mach mf24 Tryd.f24 = true := by kernel_rfl
theorem ck25 : chkF Tryd.prog mach mf25 Tryd.f25 = true := by kernel_rfl
theorem ck26 : chkF Tryd.prog mach mf26 Tryd.f26 = true := by kernel_rfl
theorem ck27 : chkF Tryd.prog mach mf27 Tryd.f27 = true := by kernel_rfl
theorem ck28 : chkF Tryd.prog mach mf28 Tryd.f28 = true := by kernel_rfl
theorem ck29 : chkF Tryd.prog mach mf29 Tryd.f29 = true := by kernel_rfl
theorem ck30 : chkF Tryd.prog mach mf30 Tryd.f30 = true := by kernel_rfl
theorem ck31 : chkF Tryd.prog mach mf31 Tryd.f31 = true := by kernel_rfl
theorem ck32 : chkF Tryd.prog mach mf32 Tryd.f32 = true := by kernel_rfl
theorem ck33 : chkF Tryd.prog mach mf33 Tryd.f33 = true := by kernel_rfl
theorem ck34 : chkF Tryd.prog mach mf34 Tryd.f34 = true := by kernel_rfl
theorem ck35 : chkF Tryd.prog mach mf35 Tryd.f35 = true := by kernel_rfl
theorem ck36 : chkF Tryd.prog mach mf36 Tryd.f36 = true := by kernel_rfl
theorem ck37 : chkF Tryd.prog mach mf37 Tryd.f37 = true := by kernel_rfl
theorem ck38 : chkF Tryd.prog mach mf38 Tryd.f38 = true := by kernel_rfl
theorem ck39 : chkF Tryd.prog mach mf39 Tryd.f39 = true := by kernel_rfl
theorem ck40 : chkF Tryd.prog mach mf40 Tryd.f40 = true := by kernel_rfl
theorem ck41 : chkF Tryd.prog mach mf41 Tryd.f41 = true := by kernel_rfl
theorem ck42 : chkF Tryd.prog mach mf42 Tryd.f42 = true := by kernel_rfl
theorem ck43 : chkF Tryd.prog mach mf43 Tryd.f43 = true := by kernel_rfl
theorem ck44 : chkF Tryd.prog mach mf44 Tryd.f44 = true := by kernel_rfl
theorem ck45 : chkF Tryd.prog mach mf45 Tryd.f45 = true := by kernel_rfl
theorem ck46 : chkF Tryd.prog mach mf46 Tryd.f46 = true := by kernel_rfl
theorem ck47 : chkF Tryd.prog mach mf47 Tryd.f47 = true := by kernel_rfl
theorem ck48 : chkF Tryd.prog mach mf48 Tryd.f48 = true := by kernel_rfl
theorem ck49 : chkF Tryd.prog mach mf49 Tryd.f49 = true := by kernel_rfl
theorem ck50 : chkF Tryd.prog mach mf50 Tryd.f50 = true := by kernel_rfl
theorem ck51 : chkF Tryd.prog mach mf51 Tryd.f51 = true := by kernel_rfl
theorem ck52 : chkF Tryd.prog mach mf52 Tryd.f52 = true := by kernel_rfl
theorem ck53 : chkF Tryd.prog mach mf53 Tryd.f53 = true := by kernel_rfl
theorem ck54 : chkF Tryd.prog mach mf54 Tryd.f54 = true := by kernel_rfl
theorem ck55 : chkF Tryd.prog mach mf55 Tryd.f55 = true := by kernel_rfl
theorem ck56 : chkF Tryd.prog mach mf56 Tryd.f56 = true := by kernel_rfl
theorem ck57 : chkF Tryd.prog mach mf57 Tryd.f57 = true := by kernel_rfl
theorem ck58 : chkF Tryd.prog mach mf58 Tryd.f58 = true := by kernel_rfl
theorem ck59 : chkF Tryd.prog mach mf59 Tryd.f59 = true := by kernel_rfl
theorem ck60 : chkF Tryd.prog mach mf60 Tryd.f60 = true := by kernel_rfl
theorem ck61 : chkF Tryd.prog mach mf61 Tryd.f61 = true := by kernel_rfl
theorem ck62 : chkF Tryd.prog mach mf62 Tryd.f62 = true := by kernel_rfl
theorem ck63 : chkF Tryd.prog mach mf63 Tryd.f63 = true := by kernel_rfl
theorem ck64 : chkF Tryd.prog mach mf64 Tryd.f64 = true := by kernel_rfl
theorem ck65 : chkF Tryd.prog mach mf65 Tryd.f65 = true := by kernel_rfl
theorem ck66 : chkF Tryd.prog mach mf66 Tryd.f66 = true := by kernel_rfl
theorem ck67 : chkF Tryd.prog mach mf67 Tryd.f67 = true := by kernel_rfl
theorem ck68 : chkF Tryd.prog mach mf68 Tryd.f68 = true := by kernel_rfl
theorem ck69 : chkF Tryd.prog mach mf69 Tryd.f69 = true := by kernel_rfl
theorem ck70 : chkF Tryd.prog mach mf70 Tryd.f70 = true := by kernel_rfl
theorem ck71 : chkF Tryd.prog mach mf71 Tryd.f71 = true := by kernel_rfl
theorem ck72 : chkF Tryd.prog mach mf72 Tryd.f72 = true := by kernel_rfl
theorem ck73 : chkF Tryd.prog mach mf73 Tryd.f73 = true := by kernel_rfl
theorem ck74 : chkF Tryd.prog mach mf74 Tryd.f74 = true := by kernel_rfl
theorem ck75 : chkF Tryd.prog mach mf75 Tryd.f75 = true := by kernel_rfl
theorem ck76 : chkF Tryd.prog mach mf76 Tryd.f76 = true := by kernel_rfl
theorem ck77 : chkF Tryd.prog mach mf77 Tryd.f77 = true := by kernel_rfl
theorem ck78 : chkF Tryd.prog mach mf78 Tryd.f78 = true := by kernel_rfl
theorem ck79 : chkF Tryd.prog mach mf79 Tryd.f79 = true := by kernel_rfl
theorem ck81 : chkF Tryd.prog mach mf81 Tryd.f81 = true := by kernel_rfl
theorem ck82 : chkF Tryd.prog mach mf82 Tryd.f82 = true := by kernel_rfl
theorem ck83 : chkF Tryd.prog mach mf83 Tryd.f83 = true := by kernel_rfl
theorem ck84 : chkF Tryd.prog mach mf84 Tryd.f84 = true := by kernel_rfl
theorem ck85 : chkF Tryd.prog mach mf85 Tryd.f85 = true := by kernel_rfl
theorem ck86 : chkF Tryd.prog mach mf86 Tryd.f86 = true := by kernel_rfl
theorem ck87 : chkF Tryd.prog mach mf87 Tryd.f87 = true := by kernel_rfl
theorem ck88 : chkF Tryd.prog mach mf88 Tryd.f88 = true := by kernel_rfl
theorem ck90 : chkF Tryd.prog mach mf90 Tryd.f90 = true := by kernel_rfl
theorem machOK : MachOK Tryd.prog mach where
  lib := by
    intro f g h args sg r hr
    have h : libT f = some g := h
    unfold libT at h
    split at h
    · cases h; exact sat_indexByteString Tryd.func89 (by kernel_rfl) (by kernel_rfl) (by kernel_rfl) (by kernel_rfl) args sg r hr
    · cases h
  libI := by intro f g _ h; cases h
  fn := by
    intro f mf _ _ h
    have h : fnT f = some mf := h
    unfold fnT at h
    split at h
    · cases h; exact chkF_ok Tryd.func3 ck3
    · cases h; exact chkF_ok Tryd.func4 ck4
    · cases h; exact chkF_ok Tryd.func5 ck5
    · cases h; exact chkF_ok Tryd.func6 ck6
    · cases h; exact chkF_ok Tryd.func7 ck7
    · cases h; exact chkF_ok Tryd.func8 ck8
    · cases h; exact chkF_ok Tryd.func9 ck9
    · cases h; exact chkF_ok Tryd.func10 ck10
    · cases h; exact chkF_ok Tryd.func11 ck11
    · cases h; exact chkF_ok Tryd.func12 ck12
    · cases h; exact chkF_ok Tryd.func13 ck13
    · cases h; exact chkF_ok Tryd.func14 ck14
    · cases h; exact chkF_ok Tryd.func15 ck15
    · cases h; exact chkF_ok Tryd.func16 ck16
    · cases h; exact chkF_ok Tryd.func17 ck17
    · cases h; exact chkF_ok Tryd.func18 ck18
    · cases h; exact chkF_ok Tryd.func19 ck19
    · cases h; exact chkF_ok Tryd.func20 ck20
    · cases h; exact chkF_ok Tryd.func21 ck21
    · cases h; exact chkF_ok Tryd.func22 ck22
    · cases h; exact chkF_ok Tryd.func23 ck23
    · cases h; exact chkF_ok Tryd.func24 ck24
    · cases h; exact chkF_ok Tryd.func25 ck25
    · cases h; exact chkF_ok Tryd.func26 ck26
    · cases h; exact chkF_ok Tryd.func27 ck27
    · cases h; exact chkF_ok Tryd.func28 ck28
    · cases h; exact chkF_ok Tryd.func29 ck29
    · cases h; exact chkF_ok Tryd.func30 ck30
    · cases h; exact chkF_ok Tryd.func31 ck31
    · cases h; exact chkF_ok Tryd.func32 ck32
    · cases h; exact chkF_ok Tryd.func33 ck33
    · cases h; exact chkF_ok Tryd.func34 ck34
    · cases h; exact chkF_ok Tryd.func35 ck35
    · cases h; exact chkF_ok Tryd.func36 ck36
    · cases h; exact chkF_ok Tryd.func37 ck37
    · cases h; exact chkF_ok Tryd.func38 ck38
    · cases h; exact chkF_ok Tryd.func39 ck39
    · cases h; exact chkF_ok Tryd.func40 ck40
    · cases h; exact chkF_ok Tryd.func41 ck41
    · cases h; exact chkF_ok Tryd.func42 ck42
    · cases h; exact chkF_ok Tryd.func43 ck43
    · cases h; exact chkF_ok Tryd.func44 ck44
    · cases h; exact chkF_ok Tryd.func45 ck45
    · cases h; exact chkF_ok Tryd.func46 ck46
    · cases h; exact chkF_ok Tryd.func47 ck47
    · cases h; exact chkF_ok Tryd.func48 ck48
    · cases h; exact chkF_ok Tryd.func49 ck49
    · cases h; exact chkF_ok Tryd.func50 ck50
    · cases h; exact chkF_ok Tryd.func51 ck51
    · cases h; exact chkF_ok Tryd.func52 ck52
    · cases h; exact chkF_ok Tryd.func53 ck53
    · cases h; exact chkF_ok Tryd.func54 ck54
    · cases h; exact chkF_ok Tryd.func55 ck55
    · cases h; exact chkF_ok Tryd.func56 ck56
    · cases h; exact chkF_ok Tryd.func57 ck57
    · cases h; exact chkF_ok Tryd.func58 ck58
    · cases h; exact chkF_ok Tryd.func59 ck59
    · cases h; exact chkF_ok Tryd.func60 ck60
    · cases h; exact chkF_ok Tryd.func61 ck61
    · cases h; exact chkF_ok Tryd.func62 ck62
    · cases h; exact chkF_ok Tryd.func63 ck63
    · cases h; exact chkF_ok Tryd.func64 ck64
    · cases h; exact chkF_ok Tryd.func65 ck65
    · cases h; exact chkF_ok Tryd.func66 ck66
    · cases h; exact chkF_ok Tryd.func67 ck67
    · cases h; exact chkF_ok Tryd.func68 ck68
    · cases h; exact chkF_ok Tryd.func69 ck69
    · cases h; exact chkF_ok Tryd.func70 ck70
    · cases h; exact chkF_ok Tryd.func71 ck71
    · cases h; exact chkF_ok Tryd.func72 ck72
    · cases h; exact chkF_ok Tryd.func73 ck73
    · cases h; exact chkF_ok Tryd.func74 ck74
    · cases h; exact chkF_ok Tryd.func75 ck75
    · cases h; exact chkF_ok Tryd.func76 ck76
    · cases h; exact chkF_ok Tryd.func77 ck77
    · cases h; exact chkF_ok Tryd.func78 ck78
    · cases h; exact chkF_ok Tryd.func79 ck79
    · cases h; exact chkF_ok Tryd.func81 ck81
    · cases h; exact chkF_ok Tryd.func82 ck82
    · cases h; exact chkF_ok Tryd.func83 ck83
    · cases h; exact chkF_ok Tryd.func84 ck84
    · cases h; exact chkF_ok Tryd.func85 ck85
    · cases h; exact chkF_ok Tryd.func86 ck86
    · cases h; exact chkF_ok Tryd.func87 ck87
    · cases h; exact chkF_ok Tryd.func88 ck88
    · cases h; exact chkF_ok Tryd.func90 ck90
    · cases h
end Go.Proofs.YtggoaggneapneaaDoorM
