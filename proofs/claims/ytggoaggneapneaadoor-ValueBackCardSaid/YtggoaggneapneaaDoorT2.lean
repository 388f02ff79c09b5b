/-
  Package value: which values may be.
-/
import Derived.Test.YtggoaggneapneaaDoorT1
set_option linter.unusedVariables false
set_option linter.unusedSimpArgs false
namespace Go.Proofs.YtggoaggneapneaaDoorM
open Go
def MOST : Int := 63999999999
theorem c20 (sg : Sig) : acall mach 20 [] sg = some (.pv (.int .i64 63999999999), sg) := callN_le mach 1000 20 [] sg _ (by kernel_rfl)
def lowOf (s : Srt) : Int := if s.below then -63999999999 else 0
def mayV (s : Srt) (k n : Int) : Bool :=
  if k = 1 then s.auto && n == 0
  else if k = 2 then s.length && (decide (n ≥ lowOf s) && decide (n ≤ 63999999999))
  else if k = 3 then s.part && (decide (n ≥ 0) && decide (n ≤ 63999999999))
  else if k = 4 then s.color && (decide (n ≥ 0) && decide (n ≤ 16777215))
  else if k = 5 then decide (n ≥ 0) && decide (n < s.words.length)
  else if k = 6 then s.number && (decide (n ≥ lowOf s) && decide (n ≤ 63999999999))
  else false
set_option maxHeartbeats 4000000 in
theorem c9 (p k n : Int) (sg : Sig) : acall mach 9 [.pv (.int .i64 p), .agg [.pv (.int .i64 k), .pv (.int .i64 n)]] sg = some (.pv (.bool (mayV (srtAt p) k n)), sg) := by
  rw [acall_fn (mf := mf9) rfl rfl rfl rfl]
  have hc := c15 p
  generalize srtAt p = s at hc ⊢
  obtain ⟨nm, a, l, pt, b, c, nu, ws, fk, fn⟩ := s
  have hw : IntKind.i64.wrap (-63999999999) = -63999999999 := by decide
  by_cases k1 : k = 1
  · subst k1
    cases b <;> cases a <;> simp [mf9, hc, c20, Srt.cells, mayV]
  by_cases k2 : k = 2
  · subst k2
    cases b <;> cases l <;> simp [mf9, hc, c20, Srt.cells, mayV, lowOf, hw]
    · by_cases h : n ≥ 0 <;> simp [h]
    · by_cases h : n ≥ -63999999999 <;> simp [h]
  by_cases k3 : k = 3
  · subst k3
    cases b <;> cases pt <;> by_cases h : n ≥ 0 <;> simp [mf9, hc, c20, Srt.cells, mayV, lowOf, hw, h]
  by_cases k4 : k = 4
  · subst k4
    cases b <;> cases c <;> by_cases h : n ≥ 0 <;> simp [mf9, hc, c20, Srt.cells, mayV, lowOf, hw, h]
  by_cases k5 : k = 5
  · subst k5
    cases b <;> by_cases h : n ≥ 0 <;> simp [mf9, hc, c20, Srt.cells, mayV, lowOf, hw, h]
  by_cases k6 : k = 6
  · subst k6
    cases b <;> cases nu <;> simp [mf9, hc, c20, Srt.cells, mayV, lowOf, hw]
    · by_cases h : n ≥ 0 <;> simp [h]
    · by_cases h : n ≥ -63999999999 <;> simp [h]
  cases b <;> simp [mf9, hc, c20, Srt.cells, mayV, lowOf, hw, k1, k2, k3, k4, k5, k6]
end Go.Proofs.YtggoaggneapneaaDoorM
