/-
  Package value: the numbers of decimal texts.
-/
import Derived.Test.YtggoaggneapneaaDoorV4
set_option linter.unusedVariables false
set_option linter.unusedSimpArgs false
namespace Go.Proofs.YtggoaggneapneaaDoorM
open Go

def tailB (ds : List UInt8) : List UInt8 := if ds = [] then [] else 46 :: ds
theorem before_app {D : List UInt8} (h : D.all isD = true) (x : List UInt8) : before 46 (D ++ x) = D ++ before 46 x := by
  unfold before
  rw [List.takeWhile_append_of_pos]
  intro c hc
  have := List.all_eq_true.1 h c hc
  simp only [isD, Bool.and_eq_true, decide_eq_true_eq] at this
  have h46 : c ≠ 46 := by rintro rfl; simp at this
  simpa using h46
theorem isD_ne45 {c : UInt8} (h : isD c = true) : c ≠ 45 := by rintro rfl; revert h; decide
theorem parts_of {D ds : List UInt8} (hD : D.all isD = true) : wholeOf (D ++ tailB ds) = D ∧ partOf (D ++ tailB ds) = ds ∧ (dotIn (D ++ tailB ds) = true ↔ ds ≠ []) := by
  unfold wholeOf partOf dotIn
  rw [before_app hD]
  by_cases h : ds = []
  · subst h
    have e : before 46 (tailB []) = [] := rfl
    have e2 : tailB [] = [] := rfl
    rw [e, e2]
    simp
  · have e : before 46 (tailB ds) = [] := by unfold tailB; rw [if_neg h]; simp [before, List.takeWhile_cons]
    have e2 : tailB ds = 46 :: ds := by unfold tailB; rw [if_neg h]
    rw [e, e2]
    simp [h]
def decN (D ds : List UInt8) : Nat := valB 10 D * 64 + valB 10 ((ds ++ zeros6).take 6) * 64 / 1000000
theorem ok_of {D ds : List UInt8} (hD : digitsB D 9 = true) (hd : ds = [] ∨ digitsB ds 6 = true) : okNum (D ++ tailB ds) = true ∧ unitsOf (D ++ tailB ds) = decN D ds := by
  obtain ⟨_, _, ha⟩ := digitsB_facts hD
  obtain ⟨h1, h2, h3⟩ := parts_of (ds := ds) ha
  unfold okNum unitsOf decN
  rw [h1, h2, hD]
  refine ⟨?_, rfl⟩
  rcases hd with rfl | hd
  · have : dotIn (D ++ tailB []) = false := by
      cases hx : dotIn (D ++ tailB []) with
      | false => rfl
      | true => exact absurd rfl (h3.1 hx)
    rw [this]; rfl
  · rw [hd]; simp
theorem num_pos {D ds : List UInt8} (hD : digitsB D 9 = true) (hd : ds = [] ∨ digitsB ds 6 = true) : numV (D ++ tailB ds) = some (decN D ds : Int) := by
  obtain ⟨h0, _, ha⟩ := digitsB_facts hD
  obtain ⟨h1, h2⟩ := ok_of hD hd
  have hp : hasPre (D ++ tailB ds) [45] = false := by
    cases D with
    | nil => exact absurd rfl h0
    | cons c D =>
      have hc : isD c = true := List.all_eq_true.1 ha c (by simp)
      have := isD_ne45 hc
      simp [hasPre, this]
  unfold numV restOf
  rw [hp]
  simp only [Bool.false_eq_true, if_false, h1, h2, if_true]
theorem num_neg {D ds : List UInt8} (hD : digitsB D 9 = true) (hd : ds = [] ∨ digitsB ds 6 = true) : numV (45 :: (D ++ tailB ds)) = some (-(decN D ds : Int)) := by
  obtain ⟨h1, h2⟩ := ok_of hD hd
  have hp : hasPre (45 :: (D ++ tailB ds)) [45] = true := by simp [hasPre]
  unfold numV restOf
  rw [hp]
  simp only [if_true, List.drop_succ_cons, List.drop_zero, h1, h2]
theorem hasSuf_app (s p : List UInt8) : hasSuf (s ++ p) p = true := by simp [hasSuf]
theorem take_suf (s p : List UInt8) : (s ++ p).take ((s ++ p).length - p.length) = s := by simp
theorem meas_app (s p : List UInt8) : measV (s ++ p) p = numV s := by
  unfold measV
  rw [hasSuf_app, take_suf]; rfl
theorem not_suf (s : List UInt8) (c d a : UInt8) (h : d ≠ c) : hasSuf (s ++ [d]) [a, c] = false := by
  cases hx : hasSuf (s ++ [d]) [a, c] with
  | false => rfl
  | true =>
    simp only [hasSuf, Bool.and_eq_true, decide_eq_true_eq, beq_iff_eq] at hx
    have hl := congrArg List.getLast? hx.2
    rw [List.getLast?_drop] at hl
    have h1 := hx.1
    simp only [List.length_append, List.length_cons, List.length_nil] at h1 hl
    rw [if_neg (by omega)] at hl
    simp at hl
    exact absurd hl h

/-! ### What is neither blank nor a great letter -/
def plainC (c : UInt8) : Bool := !memB blanksB c && (low1 c == c)
theorem plain_low {s : List UInt8} (h : s.all plainC = true) : lowerB s = s := by
  induction s with
  | nil => rfl
  | cons c s ih =>
    rw [List.all_cons, Bool.and_eq_true] at h
    have h1 : low1 c = c := by have := h.1; simp only [plainC, Bool.and_eq_true, beq_iff_eq] at this; exact this.2
    have := ih h.2
    simp only [lowerB, List.map_cons] at this ⊢
    rw [this, h1]
theorem dw_none (p : UInt8 → Bool) : ∀ s : List UInt8, (∀ c ∈ s, p c = false) → s.dropWhile p = s
  | [], _ => rfl
  | c :: s, h => List.dropWhile_cons_of_neg (by simp [h c (by simp)])
theorem plain_trim {s : List UInt8} (h : s.all plainC = true) : trimB s = s := by
  have hn : ∀ c ∈ s, memB blanksB c = false := by
    intro c hc
    have := List.all_eq_true.1 h c hc
    simp only [plainC, Bool.and_eq_true, Bool.not_eq_true'] at this
    exact this.1
  unfold trimB rdrop
  rw [dw_none _ s.reverse (fun c hc => hn c (List.mem_reverse.1 hc)), List.reverse_reverse, dw_none _ s hn]
theorem plain_isD (c : UInt8) (h : isD c = true) : plainC c = true := by
  have := u8_all (fun c => !isD c || plainC c) (by decide +kernel) c
  simpa [h] using this
theorem plain_digits {s : List UInt8} (h : s.all isD = true) : s.all plainC = true := by
  rw [List.all_eq_true] at h ⊢
  exact fun c hc => plain_isD c (h c hc)
theorem plain_tail {ds : List UInt8} (h : ds.all isD = true) : (tailB ds).all plainC = true := by
  unfold tailB
  split
  · rfl
  · rw [List.all_cons, plain_digits h, Bool.and_true]; decide
theorem idx_nil (s : List UInt8) : idxOf [] s = -1 := by
  unfold idxOf
  rw [idxFrom]
  simp

/-! ### Decimal digits -/
def digit (m : Nat) : UInt8 := UInt8.ofNat (48 + m % 10)
def digsF : Nat → Nat → List UInt8
  | 0, _ => []
  | k + 1, m => if m = 0 then [] else digsF k (m / 10) ++ [digit m]
theorem digit_nat (m : Nat) : (digit m).toNat = 48 + m % 10 := by
  unfold digit
  rw [UInt8.toNat_ofNat']
  omega
theorem digit_isD (m : Nat) : isD (digit m) = true := by
  simp only [isD, digit_nat, Bool.and_eq_true, decide_eq_true_eq]; omega
theorem digit_dv (m : Nat) : dv (digit m) = m % 10 := by
  unfold dv
  rw [digit_nat, if_pos (by omega)]; omega
theorem valF_app (bs a : Nat) (s t : List UInt8) : valF bs a (s ++ t) = valF bs (valF bs a s) t := by simp [valF]
theorem digsF_facts : ∀ k m, m < 10 ^ k → (digsF k m).all isD = true ∧ (digsF k m).length ≤ k ∧ valB 10 (digsF k m) = m
  | 0, m, h => by
    have : m = 0 := by simpa using h
    subst this
    simp [digsF, valB, valF]
  | k + 1, m, h => by
    unfold digsF
    by_cases h0 : m = 0
    · subst h0; simp [valB, valF]
    · rw [if_neg h0]
      rw [Nat.pow_succ] at h
      obtain ⟨h1, h2, h3⟩ := digsF_facts k (m / 10) (by omega)
      refine ⟨by rw [List.all_append, h1]; simp [digit_isD], by rw [List.length_append]; simp only [List.length_cons, List.length_nil]; omega, ?_⟩
      unfold valB at h3 ⊢
      rw [valF_app, h3]
      simp only [valF, List.foldl_cons, List.foldl_nil, digit_dv]
      omega
/-- The decimal digits of a number, at least one. -/
def decD (n : Nat) : List UInt8 := digsF 8 (n / 10) ++ [digit n]
theorem decD_facts (n : Nat) (h : n ≤ 999999999) : digitsB (decD n) 9 = true ∧ valB 10 (decD n) = n := by
  obtain ⟨h1, h2, h3⟩ := digsF_facts 8 (n / 10) (by omega)
  unfold decD
  constructor
  · simp only [digitsB, List.all_append, h1, List.length_append, List.length_cons, List.length_nil, Bool.and_eq_true, Bool.not_eq_true', beq_eq_false_iff_ne, decide_eq_true_eq]
    refine ⟨by simp, by omega, by simp [digit_isD]⟩
  · unfold valB at h3 ⊢
    rw [valF_app, h3]
    simp only [valF, List.foldl_cons, List.foldl_nil, digit_dv]
    omega
end Go.Proofs.YtggoaggneapneaaDoorM
