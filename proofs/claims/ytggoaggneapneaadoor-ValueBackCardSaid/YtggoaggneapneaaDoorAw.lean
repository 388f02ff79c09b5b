/-
  Package value: closed runs.
-/
import Derived.Test.YtggoaggneapneaaDoorT2
import Derived.Test.YtggoaggneapneaaDoorM33
set_option linter.unusedVariables false
set_option linter.unusedSimpArgs false
namespace Go.Proofs.YtggoaggneapneaaDoorM
open Go
def known1 : Nat → Option (List AV → Option AV)
  | 15 => some fun
    | [.pv (.int .i64 p)] => some (.tup [.agg (srtAt p).cells, .pv (.bool (decide (1 ≤ p ∧ p < 27)))])
    | _ => none
  | 20 => some fun
    | [] => some (.pv (.int .i64 63999999999))
    | _ => none
  | 9 => some fun
    | [.pv (.int .i64 p), .agg [.pv (.int .i64 k), .pv (.int .i64 n)]] => some (.pv (.bool (mayV (srtAt p) k n)))
    | _ => none
  | 10 => some fun
    | [.pv (.str nm)] => some (.pv (.int .i64 (propOf nm)))
    | _ => none
  | _ => none
theorem known1_ok : ∀ f g, known1 f = some g → ∀ args r, g args = some r → ∀ sg, acall mach f args sg = some (r, sg) := by
  intro f g h args r hr sg
  unfold known1 at h
  split at h
  · cases h
    dsimp only at hr
    split at hr
    · cases hr; exact c15 _ _
    · cases hr
  · cases h
    dsimp only at hr
    split at hr
    · cases hr; exact c20 _
    · cases hr
  · cases h
    dsimp only at hr
    split at hr
    · cases hr; exact c9 _ _ _ _
    · cases hr
  · cases h
    dsimp only at hr
    split at hr
    · cases hr; exact c10 _ _
    · cases hr
  · cases h
theorem awake (sg : Sig) : acall mach 6 [] sg = some (.pv (.bool true), sg) := runT known1_ok 1000 6 [] sg _ (by kernel_rfl)
end Go.Proofs.YtggoaggneapneaaDoorM
