/-
  Proved: scrimlaw08.ValueBack returns true for every input, and its arguments read behind the call as before (the tied card ValueBackCardSaid).
  Conditions: those of the card alone (its tables are tied by the given tie); none of our own.
-/
import Derived.Test.YtggoaggneapneaaDoorAw
import Derived.Test.YtggoaggneapneaaDoorVB
import Derived.Test.YtggoaggneapneaaDoorRBack
set_option linter.unusedVariables false
set_option linter.unusedSimpArgs false
namespace Go.Proofs.YtggoaggneapneaaDoorM
open Go
theorem print_len (p k n : Int) : (printV p k n).length ≤ 100 := by
  unfold printV
  split
  · rename_i h
    rcases may_k h with rfl | rfl | rfl | rfl | rfl | rfl
    · rw [if_pos rfl]; decide
    · obtain ⟨h1, h2, h3⟩ := may_2 h
      have := low_ge (srtAt p)
      have := decT_len n (by omega) h3
      simp [pxB]; omega
    · obtain ⟨h1, h2, h3⟩ := may_3 h
      have := decT_len n (by omega) h3
      simp [percB]; omega
    · obtain ⟨h1, h2, h3⟩ := may_4 h
      have := hexD_len (16777216 + n.toNat) (by omega)
      simp only [Int.reduceEq, if_false, if_true, List.length_cons, List.length_drop]; omega
    · simp only [Int.reduceEq, if_false, if_true]
      have hh : ∀ w ∈ (srtAt p).words, w.length ≤ 100 := by
        unfold srtAt
        split
        · rw [List.getD_eq_getElem?_getD]
          have h : ∀ s ∈ srts, ∀ w ∈ s.words, w.length ≤ 100 := by decide +kernel
          cases hx : srts[p.toNat]? with
          | none => decide
          | some s => exact h s (List.mem_of_getElem? hx)
        · decide
      rw [List.getD_eq_getElem?_getD]
      cases hx : (srtAt p).words[n.toNat]? with
      | none => decide
      | some w => exact hh w (List.mem_of_getElem? hx)
    · obtain ⟨h1, h2, h3⟩ := may_6 h
      have := low_ge (srtAt p)
      have := decT_len n (by omega) h3
      simp only [Int.reduceEq, if_false]; omega
  · decide
theorem idxFrom_mem (ws : List (List UInt8)) (s : List UInt8) (j : Nat) : ∀ n i : Nat, i + n = ws.length → idxFrom ws s i = some j → s ∈ ws
  | 0, i, h, e => by
    rw [idxFrom, dif_neg (by omega)] at e
    cases e
  | n + 1, i, h, e => by
    have hi : i < ws.length := by omega
    rw [idxFrom, dif_pos hi] at e
    split at e
    · rename_i hh
      rw [← hh]; exact List.getElem_mem hi
    · exact idxFrom_mem ws s j n (i + 1) (by omega) e
theorem nil_not (p : Int) : ([] : List UInt8) ∉ (srtAt p).words := by
  unfold srtAt
  split
  · rw [List.getD_eq_getElem?_getD]
    have h : ∀ s ∈ srts, ([] : List UInt8) ∉ s.words := by decide +kernel
    cases hx : srts[p.toNat]? with
    | none => decide
    | some s => exact h s (List.mem_of_getElem? hx)
  · decide
theorem read_nil (p : Int) : readV p [] = none := by
  have hi : ¬ 0 ≤ idxOf (srtAt p).words [] := by
    unfold idxOf
    cases hx : idxFrom (srtAt p).words [] 0 with
    | none => simp
    | some j => exact absurd (idxFrom_mem (srtAt p).words [] j (srtAt p).words.length 0 (by omega) hx) (nil_not p)
  have e1 : colorV [] = none := by decide +kernel
  have e2 : measV [] pxB = none := by decide +kernel
  have e3 : measV [] percB = none := by decide +kernel
  have e4 : measV [] [] = none := by decide +kernel
  have ha : (anyV (srtAt p) []).2.2 = false := by
    unfold anyV
    rw [e1, e2, e3, e4, if_neg hi]
    simp [autoB]
    cases (srtAt p).color <;> cases (srtAt p).part <;> cases (srtAt p).number <;> rfl
  unfold readV
  rw [show lowerB (trimB []) = [] from rfl, ha]
  simp
theorem law3 : valueBack.Law := by
  intro p k n s wp wk wn hs
  refine ⟨sg0, ?_⟩
  rw [acall_fn (mf := mf3) rfl rfl rfl rfl]
  by_cases hl : (200 : Int) < s.length
  · simp -implicitDefEqProofs [mf3, awake, hl]
  have hP := c_Print p
  have hM := c9 p
  have hR := fun k n => c_Read p (printV p k n) (by have := print_len p k n; omega)
  have hS := c_Read p s (by omega)
  have first : ∃ w : Bool, mayV (srtAt p) k n = w ∧ (w = true → readV p (printV p k n) = some (k, n)) ∧ (w = false → readV p (printV p k n) = none ∧ printV p k n = []) := by
    refine ⟨_, rfl, read_print p k n, fun h => ?_⟩
    have hp : printV p k n = [] := by unfold printV; rw [h]; rfl
    exact ⟨by rw [hp]; exact read_nil p, hp⟩
  obtain ⟨w, hw, hw1, hw2⟩ := first
  have hP1 := hP k n
  have hR1 := hR k n
  have hM1 := hM k n
  rw [hw] at hM1
  cases hx : readV p s with
  | none =>
    rw [hx] at hS
    cases w with
    | true =>
      rw [hw1 rfl] at hR1
      generalize printV p k n = t at hP1 hR1
      simp -implicitDefEqProofs [mf3, awake, hl, hP1, hR1, hM1, hS, readA, valA]
    | false =>
      obtain ⟨h1, h2⟩ := hw2 rfl
      rw [h1] at hR1
      rw [h2] at hP1 hR1
      simp -implicitDefEqProofs [mf3, awake, hl, hP1, hR1, hM1, hS, readA, valA]
  | some kn =>
    obtain ⟨k2, n2⟩ := kn
    have hm2 := may_read p k2 n2 s hx
    have hM2 := hM k2 n2
    have hP2 := hP k2 n2
    have hR2 := hR k2 n2
    rw [read_print p k2 n2 hm2] at hR2
    rw [hm2] at hM2
    rw [hx] at hS
    generalize printV p k2 n2 = t2 at hP2 hR2
    cases w with
    | true =>
      rw [hw1 rfl] at hR1
      generalize printV p k n = t at hP1 hR1
      simp -implicitDefEqProofs [mf3, awake, hl, hP1, hR1, hM1, hS, hP2, hR2, hM2, readA, valA]
    | false =>
      obtain ⟨h1, h2⟩ := hw2 rfl
      rw [h1] at hR1
      rw [h2] at hP1 hR1
      simp -implicitDefEqProofs [mf3, awake, hl, hP1, hR1, hM1, hS, hP2, hR2, hM2, readA, valA]
end Go.Proofs.YtggoaggneapneaaDoorM
namespace Go.Proofs.YtggoaggneapneaaDoor
/-- What is printed is read as what it was; what is read may be, and its own text is read as it. -/
theorem valueBack_holds : Rows.ValueBackCardSaid := Go.Proofs.YtggoaggneapneaaDoorM.valueBack.card Go.Proofs.YtggoaggneapneaaDoorM.law3
end Go.Proofs.YtggoaggneapneaaDoor
