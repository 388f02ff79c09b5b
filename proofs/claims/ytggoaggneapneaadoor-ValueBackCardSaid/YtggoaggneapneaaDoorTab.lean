/-
  The mirror at this seat: what the rows' list gives: the tables.
-/
import Derived.Test.YtggoaggneapneaaDoorCk
import Derived.Test.YtggoaggneapneaaDoorM32
import Derived.Test.YtggoaggneapneaaDoorRows
import Derived.MakeChecks
set_option linter.unusedVariables false
namespace Go.Proofs.YtggoaggneapneaaDoorM
open Go
theorem zs_cells (zs : List Int) (k : IntKind) (o : Nat) (x : Value) (h : (((zs.map (PV.int k))[o]?).bind toVal) = some x) : (zs[o]?).map (Value.int k) = some x := by
  rw [List.getElem?_map] at h
  cases hz : zs[o]? with
  | none => rw [hz] at h; cases h
  | some z => rw [hz] at h; simpa [toVal] using h
theorem B0_ok {W : World} {laid : List (String × DataW Unit)} (hp : (laid.all fun x => x.2.handleName?.isNone) = true) (h0 : laid[2]? = some ("internal/strconv.uint64pow10", Lib.tabData .u64 zs0)) (h1 : laid[0]? = some ("math/bits.deBruijn32tab", Lib.tabData .u8 zs1)) (h2 : laid[1]? = some ("math/bits.deBruijn64tab", Lib.tabData .u8 zs2)) (h : laidMetH Tryd.prog laid W) : ∀ b o x, B0 b o = some x → W.cell? ⟨b, o, none⟩ = some x := by
  rw [MakeChecks.laidMetH_plain _ _ _ hp] at h
  intro b o x e
  unfold B0 tabOf at e
  split at e
  · exact tab_cells h (t := 84) (n := 20) (e := 60) (List.mem_of_getElem? h0) (by kernel_rfl) (by kernel_rfl) (by kernel_rfl) (by kernel_rfl) (by kernel_rfl) (by kernel_rfl) o x (zs_cells _ _ o x e)
  · exact tab_cells h (t := 104) (n := 32) (e := 5) (List.mem_of_getElem? h1) (by kernel_rfl) (by kernel_rfl) (by kernel_rfl) (by kernel_rfl) (by kernel_rfl) (by kernel_rfl) o x (zs_cells _ _ o x e)
  · exact tab_cells h (t := 105) (n := 64) (e := 5) (List.mem_of_getElem? h2) (by kernel_rfl) (by kernel_rfl) (by kernel_rfl) (by kernel_rfl) (by kernel_rfl) (by kernel_rfl) o x (zs_cells _ _ o x e)
  · simp at e
end Go.Proofs.YtggoaggneapneaaDoorM
