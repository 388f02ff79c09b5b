/-
  The mirror, part 33: a machine some of whose functions answer by what is known of them.
-/
import Derived.Test.YtggoaggneapneaaDoorM32
set_option linter.unusedVariables false
set_option linter.unusedSimpArgs false
namespace Go.Proofs.YtggoaggneapneaaDoorM
open Go
theorem exStep_mono2 {M M' : Mach} {r r' : Rec} (hc : LeC (callW M r) (callW M' r')) (h : LeR r r') : LeR (exStep M r) (exStep M' r') := by
  intro c env sg o e
  cases c with
  | skip => exact e
  | no => exact e
  | exit id => exact e
  | ret => exact e
  | mlit m m2 m3 kvs keep => exact e
  | reg ops keep =>
    simp only [exStep] at e ⊢
    obtain ⟨s, h1, h2⟩ := Option.map_eq_some_iff.1 e
    rw [opsW_mono hc h1]; exact congrArg some h2
  | draw ops rk keep =>
    simp only [exStep] at e ⊢
    obtain ⟨s, h1, h2⟩ := Option.map_eq_some_iff.1 e
    rw [opsD_mono hc h1]; exact congrArg some h2
  | loud ops ord rk keep =>
    simp only [exStep] at e ⊢
    obtain ⟨s, h1, h2⟩ := Option.map_eq_some_iff.1 e
    rw [opsW_mono hc h1]; exact congrArg some h2
  | seq a b =>
    simp only [exStep] at e ⊢
    obtain ⟨⟨x, e1, sg1⟩, h1, h2⟩ := Option.bind_eq_some_iff.1 e
    rw [h _ _ _ _ h1]
    simp only [Option.bind_some] at h2 ⊢
    cases x with
    | nrm => exact h _ _ _ _ h2
    | ext i => exact h2
    | ret => exact h2
  | cond c a b =>
    simp only [exStep] at e ⊢
    unfold condB at e ⊢
    split at e
    · rename_i t ht
      cases t with
      | true => exact h _ _ _ _ e
      | false => exact h _ _ _ _ e
    · cases e
  | block id b =>
    simp only [exStep] at e ⊢
    obtain ⟨x, h1, h2⟩ := Option.map_eq_some_iff.1 e
    rw [h _ _ _ _ h1]; exact congrArg some h2
  | loop b =>
    simp only [exStep] at e ⊢
    obtain ⟨⟨x, e1, sg1⟩, h1, h2⟩ := Option.bind_eq_some_iff.1 e
    rw [h _ _ _ _ h1]
    simp only [Option.bind_some] at h2 ⊢
    cases x with
    | nrm => exact h _ _ _ _ h2
    | ext i => exact h2
    | ret => exact h2
  | kp b keep =>
    simp only [exStep] at e ⊢
    obtain ⟨x, h1, h2⟩ := Option.map_eq_some_iff.1 e
    rw [h _ _ _ _ h1]; exact congrArg some h2


def Mach.over (M : Mach) (tab : Nat → Option (List AV → Option AV)) : Mach := { M with lib := fun f => match tab f with
  | some g => some g
  | none => M.lib f }
theorem over_le {M : Mach} {tab : Nat → Option (List AV → Option AV)} (h : ∀ f g, tab f = some g → ∀ args r, g args = some r → ∀ sg, acall M f args sg = some (r, sg)) : LeC (acall (M.over tab)) (acall M) := by
  have hcall : ∀ rec : Rec, LeR rec (ex M) → LeC (callW (M.over tab) rec) (callW M (ex M)) := by
    intro rec hr f args sg r e
    cases ht : tab f with
    | some g =>
      have hl : (M.over tab).lib f = some g := by simp only [Mach.over, ht]
      unfold callW at e
      simp only [hl] at e
      obtain ⟨x, h1, h2⟩ := Option.map_eq_some_iff.1 e
      cases h2
      exact h f g ht args x h1 sg
    | none =>
      have hl : (M.over tab).lib f = M.lib f := by simp only [Mach.over, ht]
      have : callW (M.over tab) rec f args sg = callW M rec f args sg := by
        unfold callW
        rw [hl]
        rfl
      rw [this] at e
      exact callW_mono hr _ _ _ _ e
  have hex : LeR (ex (M.over tab)) (ex M) := by
    intro c e sg o he
    have := ex_iff.1 he
    induction this with
    | mk rec c e sg o hr hs ih =>
      rw [ex_fix]
      exact exStep_mono2 (hcall rec fun c e sg o h => ih c e sg o h (ex_iff.2 (hr c e sg o h))) (fun c e sg o h => ih c e sg o h (ex_iff.2 (hr c e sg o h))) _ _ _ _ hs
  exact hcall _ hex
theorem runT {M : Mach} {tab : Nat → Option (List AV → Option AV)} (h : ∀ f g, tab f = some g → ∀ args r, g args = some r → ∀ sg, acall M f args sg = some (r, sg)) (n f : Nat) (args : List AV) (sg : Sig) (r : AV × Sig) (hr : callN (M.over tab) n f args sg = some r) : acall M f args sg = some r :=
  over_le h _ _ _ _ (callN_le _ n _ _ _ _ hr)
end Go.Proofs.YtggoaggneapneaaDoorM
