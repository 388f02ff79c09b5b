/-
  The mirror, part 23: steps that may be swapped: any order that may be drawn comes to the same as the one that the text tells. Plain Lean.
-/
import Derived.Test.YtggoaggneapneaaDoorM19
set_option linter.unusedVariables false
set_option linter.unusedSimpArgs false
namespace Go.Proofs.YtggoaggneapneaaDoorM
open Go

section
variable {S : Type} (st : Nat → S → Option S) (R : S → S → Prop)

def runL : List Nat → S → Option S
  | [], s => some s
  | i :: l, s => (st i s).bind (runL l)

structure Cong : Prop where
  refl : ∀ s, R s s
  trans : ∀ s t u, R s t → R t u → R s u
  step : ∀ i s t s', R s t → st i s = some s' → ∃ t', st i t = some t' ∧ R s' t'
/-- i ahead of a: a may be ahead of i. -/
def Swap (i a : Nat) : Prop := ∀ s s1 s2, st i s = some s1 → st a s1 = some s2 → ∃ t1 t2, st a s = some t1 ∧ st i t1 = some t2 ∧ R s2 t2

variable {st R}
theorem runL_cong (hc : Cong st R) : ∀ {l : List Nat} {s t s' : S}, R s t → runL st l s = some s' → ∃ t', runL st l t = some t' ∧ R s' t'
  | [], s, t, s', h, e => by simp only [runL] at e; cases e; exact ⟨t, rfl, h⟩
  | i :: l, s, t, s', h, e => by
    simp only [runL] at e ⊢
    obtain ⟨s1, h1, h2⟩ := Option.bind_eq_some_iff.1 e
    obtain ⟨t1, h3, h4⟩ := hc.step i s t s1 h h1
    obtain ⟨t', h5, h6⟩ := runL_cong hc h4 h2
    exact ⟨t', by rw [h3]; exact h5, h6⟩
theorem runL_append {l m : List Nat} {s : S} : runL st (l ++ m) s = (runL st l s).bind (runL st m) := by
  induction l generalizing s with
  | nil => rfl
  | cons i l ih =>
    simp only [List.cons_append, runL]
    cases st i s with
    | none => rfl
    | some s1 => simp only [Option.bind_some]; exact ih
theorem swap_front (hc : Cong st R) {i : Nat} {B : List Nat} : ∀ {A : List Nat} {s s' : S}, (∀ a ∈ A, Swap st R i a) → runL st (i :: (A ++ B)) s = some s' → ∃ t', runL st (A ++ i :: B) s = some t' ∧ R s' t'
  | [], s, s', _, e => ⟨s', e, hc.refl _⟩
  | a :: A, s, s', h, e => by
    simp only [List.cons_append, runL] at e ⊢
    obtain ⟨s1, h1, e⟩ := Option.bind_eq_some_iff.1 e
    obtain ⟨s2, h2, e⟩ := Option.bind_eq_some_iff.1 e
    obtain ⟨t1, t2, h3, h4, h5⟩ := h a List.mem_cons_self s s1 s2 h1 h2
    obtain ⟨u, h6, h7⟩ := runL_cong hc h5 e
    have h8 : runL st (i :: (A ++ B)) t1 = some u := by simp only [runL, h4, Option.bind_some]; exact h6
    obtain ⟨v, h9, h10⟩ := swap_front hc (fun a ha => h a (List.mem_cons_of_mem _ ha)) h8
    exact ⟨v, by rw [h3]; exact h9, hc.trans _ _ _ h7 h10⟩

/-- x stands ahead of y in a list. -/
def Ahead (l : List Nat) (x y : Nat) : Prop := [x, y].Sublist l

theorem perm_run (hc : Cong st R) : ∀ {σ l : List Nat} {s s' : S}, σ.Perm l → σ.Nodup → (∀ x y, Ahead σ x y → Ahead l y x → Swap st R x y) → runL st σ s = some s' → ∃ t', runL st l s = some t' ∧ R s' t'
  | [], l, s, s', hp, _, _, e => by
    have : l = [] := hp.symm.eq_nil
    subst this
    exact ⟨s', e, hc.refl _⟩
  | i :: σ, l, s, s', hp, hn, hsw, e => by
    have hi : i ∈ l := hp.mem_iff.1 List.mem_cons_self
    obtain ⟨A, B, rfl⟩ := List.append_of_mem hi
    have hp2 : σ.Perm (A ++ B) := by
      have : (i :: σ).Perm (i :: (A ++ B)) := hp.trans List.perm_middle
      exact this.cons_inv
    rw [List.nodup_cons] at hn
    simp only [runL] at e
    obtain ⟨s1, h1, h2⟩ := Option.bind_eq_some_iff.1 e
    obtain ⟨t1, h3, h4⟩ := perm_run hc hp2 hn.2 (fun x y hx hy => by
      refine hsw x y ?_ ?_
      · exact List.Sublist.cons i hx
      · exact List.Sublist.trans hy (List.Sublist.append (List.Sublist.refl A) (List.sublist_cons_self i B))) h2
    have h5 : runL st (i :: (A ++ B)) s = some t1 := by simp only [runL, h1, Option.bind_some]; exact h3
    obtain ⟨t', h6, h7⟩ := swap_front hc (fun a ha => by
      refine hsw i a ?_ ?_
      · have : a ∈ σ := hp2.mem_iff.2 (List.mem_append.2 (.inl ha))
        exact List.Sublist.cons_cons i (List.singleton_sublist.2 this)
      · exact List.Sublist.append (l₁ := [a]) (r₁ := [i]) (List.singleton_sublist.2 ha) (List.singleton_sublist.2 List.mem_cons_self)) h5
    exact ⟨t', h6, hc.trans _ _ _ h4 h7⟩
end
end Go.Proofs.YtggoaggneapneaaDoorM
