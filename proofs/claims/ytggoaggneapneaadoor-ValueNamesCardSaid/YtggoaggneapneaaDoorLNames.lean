/-
  Proved: scrimlaw08.ValueNames returns true for every input, and its arguments read behind the call as before (the tied card ValueNamesCardSaid).
  Conditions: those of the card alone (its tables are tied by the given tie); none of our own.
-/
import Derived.Test.YtggoaggneapneaaDoorAw
import Derived.Test.YtggoaggneapneaaDoorRNames
set_option linter.unusedVariables false
set_option linter.unusedSimpArgs false
namespace Go.Proofs.YtggoaggneapneaaDoorM
open Go
theorem all_names : ∀ i : Fin 26, propOf (srts.getD (i.val + 1) noSrt).nm = (i.val : Int) + 1 ∧ mayV (srts.getD (i.val + 1) noSrt) (srts.getD (i.val + 1) noSrt).fk (srts.getD (i.val + 1) noSrt).fn = true := by decide +kernel
theorem prop_in (nm : List UInt8) : 0 ≤ propOf nm ∧ propOf nm < 27 ∧ (propOf nm ≠ 0 → (srtAt (propOf nm)).nm = nm) := by
  unfold propOf
  cases hq : fromAt nm 0 with
  | none => simp
  | some j =>
    obtain ⟨_, h1, h2⟩ := fromAt_lt nm 26 0 j rfl hq
    refine ⟨by simp only; omega, by simp only; omega, fun _ => ?_⟩
    simp only
    unfold srtAt
    rw [if_pos (by omega), show ((j : Int) + 1).toNat = j + 1 by omega]
    exact h2
theorem at_name (p : Int) (h : 1 ≤ p) (h' : p < 27) : propOf (srtAt p).nm = p ∧ mayV (srtAt p) (srtAt p).fk (srtAt p).fn = true := by
  have := all_names ⟨p.toNat - 1, by omega⟩
  simp only at this
  rw [show p.toNat - 1 + 1 = p.toNat by omega] at this
  unfold srtAt
  rw [if_pos ⟨h, h'⟩]
  exact ⟨by rw [this.1]; omega, this.2⟩
theorem law4 : valueNames.Law := by
  intro p s wf hs
  refine ⟨sg0, ?_⟩
  rw [acall_fn (mf := mf4) rfl rfl rfl rfl]
  obtain ⟨h1, h2, h3⟩ := prop_in s
  have e1 : ¬ propOf s < 0 := by omega
  have e2 : ¬ 27 ≤ propOf s := by omega
  by_cases hl : (200 : Int) < s.length
  · simp [mf4, awake, hl]
  by_cases hp : p < 1
  · have e3 : srtAt p = noSrt := by unfold srtAt; rw [if_neg (by omega)]
    have e4 : p ≠ 16 := by omega
    have e5 : p ≠ 18 := by omega
    have e6 : p ≠ 19 := by omega
    by_cases hq : propOf s = 0
    · simp [mf4, awake, hl, c10, c11, c12, c13, hq, hp, e3, noSrt, e4, e5, e6]
    · simp [mf4, awake, hl, c10, c11, c12, c13, hq, h3 hq, e1, e2, hp, e3, noSrt, e4, e5, e6]
  by_cases hp2 : 27 ≤ p
  · have e3 : srtAt p = noSrt := by unfold srtAt; rw [if_neg (by omega)]
    have e4 : p ≠ 16 := by omega
    have e5 : p ≠ 18 := by omega
    have e6 : p ≠ 19 := by omega
    by_cases hq : propOf s = 0
    · simp [mf4, awake, hl, c10, c11, c12, c13, hq, hp, hp2, e3, noSrt, e4, e5, e6]
    · simp [mf4, awake, hl, c10, c11, c12, c13, hq, h3 hq, e1, e2, hp, hp2, e3, noSrt, e4, e5, e6]
  obtain ⟨e3, e4⟩ := at_name p (by omega) (by omega)
  by_cases hq : propOf s = 0
  · simp [mf4, awake, hl, c10, c11, c12, c13, c9, hq, hp, hp2, e3, e4]
  · simp [mf4, awake, hl, c10, c11, c12, c13, c9, hq, h3 hq, e1, e2, hp, hp2, e3, e4]
end Go.Proofs.YtggoaggneapneaaDoorM
namespace Go.Proofs.YtggoaggneapneaaDoor
/-- Names and properties are each other's; what each is at first may be. -/
theorem valueNames_holds : Rows.ValueNamesCardSaid := Go.Proofs.YtggoaggneapneaaDoorM.valueNames.card Go.Proofs.YtggoaggneapneaaDoorM.law4
end Go.Proofs.YtggoaggneapneaaDoor
