/-
  Proved: scrimlaw08.ValueUnits returns true for every input, and its arguments read behind the call as before (the tied card ValueUnitsCardSaid).
  Conditions: those of the card alone (its tables are tied by the given tie); none of our own.
-/
import Derived.Test.YtggoaggneapneaaDoorAw
import Derived.Test.YtggoaggneapneaaDoorV5
import Derived.Test.YtggoaggneapneaaDoorRUnits
set_option linter.unusedVariables false
set_option linter.unusedSimpArgs false
namespace Go.Proofs.YtggoaggneapneaaDoorM
open Go
def ten10 : List UInt8 := [48, 49, 50, 51, 52, 53, 54, 55, 56, 57]
theorem ten_at (m : Nat) : (ten10.take (m % 10 + 1)).drop (m % 10) = [digit m] := by
  have h : ∀ k : Fin 10, (ten10.take (k.val + 1)).drop k.val = [UInt8.ofNat (48 + k.val)] := by decide
  exact h ⟨m % 10, Nat.mod_lt _ (by omega)⟩
theorem quart (q : Int) (h : 0 ≤ q) (h' : q ≤ 3) : q = 0 ∨ q = 1 ∨ q = 2 ∨ q = 3 := by omega
theorem tmod10 (m : Nat) : Int.tmod (m : Int) 10 = ((m % 10 : Nat) : Int) := by
  have := Int.ofNat_tmod m 10
  simpa using this.symm
theorem tdiv10 (m : Nat) : Int.tdiv (m : Int) 10 = ((m / 10 : Nat) : Int) := tdiv_pos m 10
/-- The loop, once the text isn't empty. -/
theorem loop_dec (a b : AV) (sg : Sig) : ∀ (k m : Nat) (s : List UInt8), m < 10 ^ k → s ≠ [] → k + s.length ≤ 100 → m ≤ 999999999 → ∃ e, ex mach (.loop lp5x0) [(0, a), (1, b), (5, .pv (.str s)), (6, .pv (.int .i64 (m : Int)))] sg = some (.ext 0, e, sg) ∧ look e 0 = some a ∧ look e 1 = some b ∧ look e 5 = some (.pv (.str (digsF k m ++ s)))
  | 0, m, s, h, hs, hl, hm => by
    have : m = 0 := by simpa using h
    subst this
    have hs' : (s == []) = false := by simpa using hs
    refine ⟨_, by rw [ex_loopU lp5x0.eq_1]; simp [hs, hs']; rfl, rfl, rfl, rfl⟩
  | k + 1, m, s, h, hs, hl, hm => by
    by_cases h0 : m = 0
    · subst h0
      have hs' : (s == []) = false := by simpa using hs
      refine ⟨_, by rw [ex_loopU lp5x0.eq_1]; simp [hs, hs']; rfl, rfl, rfl, by simp [digsF]⟩
    · rw [Nat.pow_succ] at h
      obtain ⟨e, h1, h2, h3, h4⟩ := loop_dec a b sg k (m / 10) (digit m :: s) (by omega) (by simp) (by simp only [List.length_cons]; omega) (by omega)
      refine ⟨e, ?_, h2, h3, by rw [h4]; simp [digsF, h0]⟩
      rw [ex_loopU lp5x0.eq_1]
      have p0 : (0 : Int) < m := by omega
      have t1 := tmod10 m
      have t2 := tdiv10 m
      have w1 : IntKind.i64.wrap ((m % 10 : Nat) : Int) = ((m % 10 : Nat) : Int) := wrap_in (by omega) (by omega)
      have w2 : IntKind.i64.wrap (((m % 10 : Nat) : Int) + 1) = ((m % 10 + 1 : Nat) : Int) := by rw [wrap_in (by omega) (by omega)]; omega
      have w3 : IntKind.i64.wrap ((m / 10 : Nat) : Int) = ((m / 10 : Nat) : Int) := wrap_in (by omega) (by omega)
      have hten := ten_at m
      unfold ten10 at hten
      have hk : m % 10 < 10 := Nat.mod_lt _ (by omega)
      have p1 : 0 < m := by omega
      generalize m % 10 = r at t1 w1 w2 hten hk
      generalize m / 10 = d at t2 w3 h1
      simp only [Int.natCast_add, Int.cast_ofNat_Int] at w2
      have g1 : (0 : Int) ≤ r := by omega
      have g2 : (r : Int) ≤ r + 1 := by omega
      have g3 : (r : Int) + 1 ≤ 10 := by omega
      have g4 : ((r : Int) + 1).toNat = r + 1 := by omega
      have g5 : s.length + 1 ≤ maxI := by simp only [maxI]; omega
      have g6 : 1 + s.length ≤ maxI := by simp only [maxI]; omega
      simp only [List.take_succ_cons] at hten
      simp [g6, p0, p1, h0, t1, t2, w1, w2, w3, hten, hk, g1, g2, g3, g4, g5, h1]
/-- The loop. -/
theorem loop_dec0 (a b : AV) (sg : Sig) (m : Nat) (hm : m ≤ 999999999) : ∃ e, ex mach (.loop lp5x0) [(0, a), (1, b), (5, .pv (.str [])), (6, .pv (.int .i64 (m : Int)))] sg = some (.ext 0, e, sg) ∧ look e 0 = some a ∧ look e 1 = some b ∧ look e 5 = some (.pv (.str (decD m))) := by
  obtain ⟨e, h1, h2, h3, h4⟩ := loop_dec a b sg 8 (m / 10) [digit m] (by omega) (by simp) (by simp) (by omega)
  refine ⟨e, ?_, h2, h3, h4⟩
  rw [ex_loopU lp5x0.eq_1]
  have t1 := tmod10 m
  have t2 := tdiv10 m
  have w1 : IntKind.i64.wrap ((m % 10 : Nat) : Int) = ((m % 10 : Nat) : Int) := wrap_in (by omega) (by omega)
  have w2 : IntKind.i64.wrap (((m % 10 : Nat) : Int) + 1) = ((m % 10 + 1 : Nat) : Int) := by rw [wrap_in (by omega) (by omega)]; omega
  have w3 : IntKind.i64.wrap ((m / 10 : Nat) : Int) = ((m / 10 : Nat) : Int) := wrap_in (by omega) (by omega)
  have hten := ten_at m
  unfold ten10 at hten
  have hk : m % 10 < 10 := Nat.mod_lt _ (by omega)
  generalize m % 10 = r at t1 w1 w2 hten hk
  generalize m / 10 = d at t2 w3 h1
  simp only [Int.natCast_add, Int.cast_ofNat_Int] at w2
  have g1 : (0 : Int) ≤ r := by omega
  have g2 : (r : Int) ≤ r + 1 := by omega
  have g3 : (r : Int) + 1 ≤ 10 := by omega
  have g4 : ((r : Int) + 1).toNat = r + 1 := by omega
  have g6 : 1 ≤ maxI := by decide
  simp only [List.take_succ_cons] at hten
  by_cases p0 : 0 < m
  · simp [g6, p0, t1, t2, w1, w2, w3, hten, hk, g1, g2, g3, g4, h1]
  · simp [g6, p0, t1, t2, w1, w2, w3, hten, hk, g1, g2, g3, g4, h1]

/-! ### What is read -/
def qs (q : Nat) : List UInt8 := if q = 1 then [50, 53] else if q = 2 then [53, 48] else if q = 3 then [55, 53] else []
theorem qs_facts : ∀ q : Fin 4, (qs q.val = [] ∨ digitsB (qs q.val) 6 = true) ∧ valB 10 ((qs q.val ++ zeros6).take 6) * 64 / 1000000 = q.val * 16 ∧ (qs q.val).all isD = true ∧ (qs q.val).length ≤ 2 := by decide +kernel
theorem srt25 : srtAt 25 = ⟨[108, 101, 102, 116], false, true, false, true, false, false, [], 2, 0⟩ := by unfold srtAt; rw [if_pos (by omega)]; rfl
theorem srt3 : srtAt 3 = ⟨[104, 101, 105, 103, 104, 116], true, true, true, false, false, false, [], 1, 0⟩ := by unfold srtAt; rw [if_pos (by omega)]; rfl
theorem read25 (x : List UInt8) (v : Int) (hx : x ≠ []) (hp : x.all plainC = true) (hn : numV x = some v) (h1 : -63999999999 ≤ v) (h2 : v ≤ 63999999999) : readV 25 (x ++ pxB) = some (2, v) := by
  have hp2 : (x ++ pxB).all plainC = true := by rw [List.all_append, hp]; decide
  have e1 : ¬ (x ++ pxB = [48]) := by
    intro e
    have := congrArg List.length e
    simp [pxB] at this
  unfold readV
  rw [plain_trim hp2, plain_low hp2, srt25]
  have ha : anyV ⟨[108, 101, 102, 116], false, true, false, true, false, false, [], 2, 0⟩ (x ++ pxB) = (2, v, true) := by
    simp [anyV, idx_nil, e1, meas_app, hn]
  rw [ha]
  simp [mayV, lowOf, h1, h2]
theorem read3 (x : List UInt8) (v : Int) (c : UInt8) (y : List UInt8) (hx : x = c :: y) (hc : isD c = true) (hp : x.all plainC = true) (hn : numV x = some v) (h1 : 0 ≤ v) (h2 : v ≤ 63999999999) : readV 3 (x ++ percB) = some (3, v) := by
  have hp2 : (x ++ percB).all plainC = true := by rw [List.all_append, hp]; decide
  have e1 : ¬ (x ++ percB = [48]) := by
    intro e
    have := congrArg List.length e
    rw [hx] at this
    simp [percB] at this
  have e2 : ¬ (x ++ percB = autoB) := by
    intro e
    rw [hx] at e
    simp only [autoB, List.cons_append, List.cons.injEq] at e
    rw [e.1] at hc
    revert hc; decide
  have e3 : measV (x ++ percB) pxB = none := by
    unfold measV pxB percB
    rw [not_suf x 120 37 112 (by decide)]; rfl
  unfold readV
  rw [plain_trim hp2, plain_low hp2, srt3]
  have ha : anyV ⟨[104, 101, 105, 103, 104, 116], true, true, true, false, false, false, [], 1, 0⟩ (x ++ percB) = (3, v, true) := by
    simp [anyV, idx_nil, e1, e2, e3, meas_app, hn]
  rw [ha]
  simp [mayV, lowOf, h1, h2]
theorem reads (m q : Nat) (hm : m ≤ 999999999) (hq : q ≤ 3) (sg : Sig) :
    acall mach 8 [.pv (.int .i64 25), .pv (.str (decD m ++ tailB (qs q) ++ pxB))] sg = some (.tup [valA 2 (m * 64 + q * 16 : Int), .pv (.bool true)], sg) ∧
    acall mach 8 [.pv (.int .i64 25), .pv (.str (45 :: (decD m ++ tailB (qs q)) ++ pxB))] sg = some (.tup [valA 2 (-(m * 64 + q * 16 : Int)), .pv (.bool true)], sg) ∧
    acall mach 8 [.pv (.int .i64 3), .pv (.str (decD m ++ tailB (qs q) ++ percB))] sg = some (.tup [valA 3 (m * 64 + q * 16 : Int), .pv (.bool true)], sg) := by
  obtain ⟨hD, hv⟩ := decD_facts m hm
  obtain ⟨q1, q2, q3, q4⟩ := qs_facts ⟨q, by omega⟩
  simp only at q1 q2 q3 q4
  obtain ⟨d1, d2, d3⟩ := digitsB_facts hD
  have hn := num_pos hD q1
  have hn' := num_neg hD q1
  have hdec : (decN (decD m) (qs q) : Int) = m * 64 + q * 16 := by unfold decN; rw [hv, q2]; omega
  rw [hdec] at hn hn'
  have hpl : (decD m ++ tailB (qs q)).all plainC = true := by rw [List.all_append, plain_digits d3, plain_tail q3]; rfl
  have hpl' : (45 :: (decD m ++ tailB (qs q))).all plainC = true := by rw [List.all_cons, hpl]; decide
  have hlen : (decD m ++ tailB (qs q)).length ≤ 12 := by
    rw [List.length_append]
    unfold tailB
    split
    · simp only [List.length_nil]; omega
    · simp only [List.length_cons]; omega
  obtain ⟨c, y, hcy⟩ : ∃ c y, decD m = c :: y := by
    cases h : decD m with
    | nil => exact absurd h d1
    | cons c y => exact ⟨c, y, rfl⟩
  have hc : isD c = true := by rw [hcy] at d3; exact List.all_eq_true.1 d3 c (by simp)
  have r1 := read25 _ _ (by rw [hcy]; simp) hpl hn (by omega) (by omega)
  have r2 := read25 _ _ (by simp) hpl' hn' (by omega) (by omega)
  have r3 := read3 _ _ c (y ++ tailB (qs q)) (by rw [hcy]; rfl) hc hpl hn (by omega) (by omega)
  refine ⟨?_, ?_, ?_⟩
  · rw [c_Read 25 _ (by rw [List.length_append]; simp only [pxB, List.length_cons, List.length_nil]; omega), r1]; rfl
  · rw [c_Read 25 _ (by rw [List.length_append, List.length_cons]; simp only [pxB, List.length_cons, List.length_nil]; omega), r2]; rfl
  · rw [c_Read 3 _ (by rw [List.length_append]; simp only [percB, List.length_cons, List.length_nil]; omega), r3]; rfl
theorem law5_0 (m : Nat) (hm : m ≤ 999999999) : acall mach 5 [.pv (.int .i64 (m : Int)), .pv (.int .i64 0)] sg0 = some (.pv (.bool true), sg0) := by
  rw [acall_fn (mf := mf5) rfl rfl rfl rfl]
  have h1 : ¬ (m : Int) < 0 := by omega
  have h2 : ¬ (999999999 : Int) < m := by omega
  obtain ⟨e, l1, l2, l3, l4⟩ := loop_dec0 (.pv (.int .i64 (m : Int))) (.pv (.int .i64 0)) { bl := [], fl := 0 } m hm
  have hlen : (decD m).length ≤ 9 := (digitsB_facts (decD_facts m hm).1).2.1
  have hr := reads m 0 hm (by omega)
  have w1 : IntKind.i64.wrap ((m : Int) * 64) = (m : Int) * 64 := wrap_in (by omega) (by omega)
  have w2 : IntKind.i64.wrap ((m : Int) * 64) = (m : Int) * 64 + (0 : Nat) * 16 := by rw [wrap_in (by omega) (by omega)]; omega
  have w3 : IntKind.i64.wrap (-((m : Int) * 64 + (0 : Nat) * 16)) = -((m : Int) * 64 + (0 : Nat) * 16) := wrap_in (by omega) (by omega)
  have w4 : IntKind.i64.wrap ((m : Int) * 64 + (0 : Nat) * 16) = ((m : Int) * 64 + (0 : Nat) * 16) := wrap_in (by omega) (by omega)
  generalize hv : (m : Int) * 64 + (0 : Nat) * 16 = v at hr w2 w3 w4
  have hv0 : (m : Int) * 64 = v := by omega
  simp only [qs, tailB, pxB, percB] at hr
  simp at hr
  generalize decD m = D at l4 hr hlen
  have k1 := fun sg => (hr sg).1
  have k2 := fun sg => (hr sg).2.1
  have k3 := fun sg => (hr sg).2.2
  have n1 : D.length ≤ maxI := by simp only [maxI]; omega
  have n2 : D.length + 2 ≤ maxI := by simp only [maxI]; omega
  have n3 : D.length + 1 ≤ maxI := by simp only [maxI]; omega
  have n4 : 1 + D.length ≤ maxI := by simp only [maxI]; omega
  have n5 : D.length + 1 + 2 ≤ maxI := by simp only [maxI]; omega
  have n6 : D.length + 3 ≤ maxI := by simp only [maxI]; omega
  have n7 : D.length + 3 + 2 ≤ maxI := by simp only [maxI]; omega
  have n8 : D.length + 3 + 1 ≤ maxI := by simp only [maxI]; omega
  have n9 : D.length + 3 + 1 + 2 ≤ maxI := by simp only [maxI]; omega
  have n10 : D.length + 5 ≤ maxI := by simp only [maxI]; omega
  have n11 : D.length + 4 ≤ maxI := by simp only [maxI]; omega
  have n12 : D.length + 6 ≤ maxI := by simp only [maxI]; omega
  have n13 : 1 + (D.length + 3) ≤ maxI := by simp only [maxI]; omega
  have wq : IntKind.i64.wrap ((IntKind.i64.wrap 0).tdiv 4) = 0 := by decide
  simp -implicitDefEqProofs [mf5, awake, h1, h2, l1, l2, l3, l4, hv0, w1, w4, wq, w2, w3, n1, n2, n3, n4, n5, n6, n7, n8, n9, n10, n11, n12, n13, k1, k2, k3, valA]
theorem law5_1 (m : Nat) (hm : m ≤ 999999999) : acall mach 5 [.pv (.int .i64 (m : Int)), .pv (.int .i64 1)] sg0 = some (.pv (.bool true), sg0) := by
  rw [acall_fn (mf := mf5) rfl rfl rfl rfl]
  have h1 : ¬ (m : Int) < 0 := by omega
  have h2 : ¬ (999999999 : Int) < m := by omega
  obtain ⟨e, l1, l2, l3, l4⟩ := loop_dec0 (.pv (.int .i64 (m : Int))) (.pv (.int .i64 1)) { bl := [], fl := 0 } m hm
  have hlen : (decD m).length ≤ 9 := (digitsB_facts (decD_facts m hm).1).2.1
  have hr := reads m 1 hm (by omega)
  have w1 : IntKind.i64.wrap ((m : Int) * 64) = (m : Int) * 64 := wrap_in (by omega) (by omega)
  have w2 : IntKind.i64.wrap ((m : Int) * 64 + 16) = (m : Int) * 64 + (1 : Nat) * 16 := by rw [wrap_in (by omega) (by omega)]; omega
  have w3 : IntKind.i64.wrap (-((m : Int) * 64 + (1 : Nat) * 16)) = -((m : Int) * 64 + (1 : Nat) * 16) := wrap_in (by omega) (by omega)
  have w4 : IntKind.i64.wrap ((m : Int) * 64 + (1 : Nat) * 16) = ((m : Int) * 64 + (1 : Nat) * 16) := wrap_in (by omega) (by omega)
  generalize hv : (m : Int) * 64 + (1 : Nat) * 16 = v at hr w2 w3 w4
  simp only [qs, tailB, pxB, percB] at hr
  simp at hr
  generalize decD m = D at l4 hr hlen
  have k1 := fun sg => (hr sg).1
  have k2 := fun sg => (hr sg).2.1
  have k3 := fun sg => (hr sg).2.2
  have n1 : D.length ≤ maxI := by simp only [maxI]; omega
  have n2 : D.length + 2 ≤ maxI := by simp only [maxI]; omega
  have n3 : D.length + 1 ≤ maxI := by simp only [maxI]; omega
  have n4 : 1 + D.length ≤ maxI := by simp only [maxI]; omega
  have n5 : D.length + 1 + 2 ≤ maxI := by simp only [maxI]; omega
  have n6 : D.length + 3 ≤ maxI := by simp only [maxI]; omega
  have n7 : D.length + 3 + 2 ≤ maxI := by simp only [maxI]; omega
  have n8 : D.length + 3 + 1 ≤ maxI := by simp only [maxI]; omega
  have n9 : D.length + 3 + 1 + 2 ≤ maxI := by simp only [maxI]; omega
  have n10 : D.length + 5 ≤ maxI := by simp only [maxI]; omega
  have n11 : D.length + 4 ≤ maxI := by simp only [maxI]; omega
  have n12 : D.length + 6 ≤ maxI := by simp only [maxI]; omega
  have n13 : 1 + (D.length + 3) ≤ maxI := by simp only [maxI]; omega
  have wq : IntKind.i64.wrap ((IntKind.i64.wrap 64).tdiv 4) = 16 := by decide
  simp -implicitDefEqProofs [mf5, awake, h1, h2, l1, l2, l3, l4, w1, w4, wq, w2, w3, n1, n2, n3, n4, n5, n6, n7, n8, n9, n10, n11, n12, n13, k1, k2, k3, valA]
theorem law5_2 (m : Nat) (hm : m ≤ 999999999) : acall mach 5 [.pv (.int .i64 (m : Int)), .pv (.int .i64 2)] sg0 = some (.pv (.bool true), sg0) := by
  rw [acall_fn (mf := mf5) rfl rfl rfl rfl]
  have h1 : ¬ (m : Int) < 0 := by omega
  have h2 : ¬ (999999999 : Int) < m := by omega
  obtain ⟨e, l1, l2, l3, l4⟩ := loop_dec0 (.pv (.int .i64 (m : Int))) (.pv (.int .i64 2)) { bl := [], fl := 0 } m hm
  have hlen : (decD m).length ≤ 9 := (digitsB_facts (decD_facts m hm).1).2.1
  have hr := reads m 2 hm (by omega)
  have w1 : IntKind.i64.wrap ((m : Int) * 64) = (m : Int) * 64 := wrap_in (by omega) (by omega)
  have w2 : IntKind.i64.wrap ((m : Int) * 64 + 32) = (m : Int) * 64 + (2 : Nat) * 16 := by rw [wrap_in (by omega) (by omega)]; omega
  have w3 : IntKind.i64.wrap (-((m : Int) * 64 + (2 : Nat) * 16)) = -((m : Int) * 64 + (2 : Nat) * 16) := wrap_in (by omega) (by omega)
  have w4 : IntKind.i64.wrap ((m : Int) * 64 + (2 : Nat) * 16) = ((m : Int) * 64 + (2 : Nat) * 16) := wrap_in (by omega) (by omega)
  generalize hv : (m : Int) * 64 + (2 : Nat) * 16 = v at hr w2 w3 w4
  simp only [qs, tailB, pxB, percB] at hr
  simp at hr
  generalize decD m = D at l4 hr hlen
  have k1 := fun sg => (hr sg).1
  have k2 := fun sg => (hr sg).2.1
  have k3 := fun sg => (hr sg).2.2
  have n1 : D.length ≤ maxI := by simp only [maxI]; omega
  have n2 : D.length + 2 ≤ maxI := by simp only [maxI]; omega
  have n3 : D.length + 1 ≤ maxI := by simp only [maxI]; omega
  have n4 : 1 + D.length ≤ maxI := by simp only [maxI]; omega
  have n5 : D.length + 1 + 2 ≤ maxI := by simp only [maxI]; omega
  have n6 : D.length + 3 ≤ maxI := by simp only [maxI]; omega
  have n7 : D.length + 3 + 2 ≤ maxI := by simp only [maxI]; omega
  have n8 : D.length + 3 + 1 ≤ maxI := by simp only [maxI]; omega
  have n9 : D.length + 3 + 1 + 2 ≤ maxI := by simp only [maxI]; omega
  have n10 : D.length + 5 ≤ maxI := by simp only [maxI]; omega
  have n11 : D.length + 4 ≤ maxI := by simp only [maxI]; omega
  have n12 : D.length + 6 ≤ maxI := by simp only [maxI]; omega
  have n13 : 1 + (D.length + 3) ≤ maxI := by simp only [maxI]; omega
  have wq : IntKind.i64.wrap ((IntKind.i64.wrap 128).tdiv 4) = 32 := by decide
  simp -implicitDefEqProofs [mf5, awake, h1, h2, l1, l2, l3, l4, w1, w4, wq, w2, w3, n1, n2, n3, n4, n5, n6, n7, n8, n9, n10, n11, n12, n13, k1, k2, k3, valA]
theorem law5_3 (m : Nat) (hm : m ≤ 999999999) : acall mach 5 [.pv (.int .i64 (m : Int)), .pv (.int .i64 3)] sg0 = some (.pv (.bool true), sg0) := by
  rw [acall_fn (mf := mf5) rfl rfl rfl rfl]
  have h1 : ¬ (m : Int) < 0 := by omega
  have h2 : ¬ (999999999 : Int) < m := by omega
  obtain ⟨e, l1, l2, l3, l4⟩ := loop_dec0 (.pv (.int .i64 (m : Int))) (.pv (.int .i64 3)) { bl := [], fl := 0 } m hm
  have hlen : (decD m).length ≤ 9 := (digitsB_facts (decD_facts m hm).1).2.1
  have hr := reads m 3 hm (by omega)
  have w1 : IntKind.i64.wrap ((m : Int) * 64) = (m : Int) * 64 := wrap_in (by omega) (by omega)
  have w2 : IntKind.i64.wrap ((m : Int) * 64 + 48) = (m : Int) * 64 + (3 : Nat) * 16 := by rw [wrap_in (by omega) (by omega)]; omega
  have w3 : IntKind.i64.wrap (-((m : Int) * 64 + (3 : Nat) * 16)) = -((m : Int) * 64 + (3 : Nat) * 16) := wrap_in (by omega) (by omega)
  have w4 : IntKind.i64.wrap ((m : Int) * 64 + (3 : Nat) * 16) = ((m : Int) * 64 + (3 : Nat) * 16) := wrap_in (by omega) (by omega)
  generalize hv : (m : Int) * 64 + (3 : Nat) * 16 = v at hr w2 w3 w4
  simp only [qs, tailB, pxB, percB] at hr
  simp at hr
  generalize decD m = D at l4 hr hlen
  have k1 := fun sg => (hr sg).1
  have k2 := fun sg => (hr sg).2.1
  have k3 := fun sg => (hr sg).2.2
  have n1 : D.length ≤ maxI := by simp only [maxI]; omega
  have n2 : D.length + 2 ≤ maxI := by simp only [maxI]; omega
  have n3 : D.length + 1 ≤ maxI := by simp only [maxI]; omega
  have n4 : 1 + D.length ≤ maxI := by simp only [maxI]; omega
  have n5 : D.length + 1 + 2 ≤ maxI := by simp only [maxI]; omega
  have n6 : D.length + 3 ≤ maxI := by simp only [maxI]; omega
  have n7 : D.length + 3 + 2 ≤ maxI := by simp only [maxI]; omega
  have n8 : D.length + 3 + 1 ≤ maxI := by simp only [maxI]; omega
  have n9 : D.length + 3 + 1 + 2 ≤ maxI := by simp only [maxI]; omega
  have n10 : D.length + 5 ≤ maxI := by simp only [maxI]; omega
  have n11 : D.length + 4 ≤ maxI := by simp only [maxI]; omega
  have n12 : D.length + 6 ≤ maxI := by simp only [maxI]; omega
  have n13 : 1 + (D.length + 3) ≤ maxI := by simp only [maxI]; omega
  have wq : IntKind.i64.wrap ((IntKind.i64.wrap 192).tdiv 4) = 48 := by decide
  simp -implicitDefEqProofs [mf5, awake, h1, h2, l1, l2, l3, l4, w1, w4, wq, w2, w3, n1, n2, n3, n4, n5, n6, n7, n8, n9, n10, n11, n12, n13, k1, k2, k3, valA]
theorem law5 : valueUnits.Law := by
  intro p q wp wq
  by_cases h1 : p < 0
  · exact ⟨sg0, by rw [acall_fn (mf := mf5) rfl rfl rfl rfl]; simp [mf5, awake, h1]⟩
  by_cases h2 : 999999999 < p
  · exact ⟨sg0, by rw [acall_fn (mf := mf5) rfl rfl rfl rfl]; simp [mf5, awake, h1, h2]⟩
  by_cases h3 : q < 0
  · exact ⟨sg0, by rw [acall_fn (mf := mf5) rfl rfl rfl rfl]; simp [mf5, awake, h1, h2, h3]⟩
  by_cases h4 : 3 < q
  · exact ⟨sg0, by rw [acall_fn (mf := mf5) rfl rfl rfl rfl]; simp [mf5, awake, h1, h2, h3, h4]⟩
  obtain ⟨m, rfl⟩ : ∃ m : Nat, p = m := ⟨p.toNat, by omega⟩
  have hm : m ≤ 999999999 := by omega
  rcases quart q (by omega) (by omega) with rfl | rfl | rfl | rfl
  · exact ⟨sg0, law5_0 m hm⟩
  · exact ⟨sg0, law5_1 m hm⟩
  · exact ⟨sg0, law5_2 m hm⟩
  · exact ⟨sg0, law5_3 m hm⟩
end Go.Proofs.YtggoaggneapneaaDoorM
namespace Go.Proofs.YtggoaggneapneaaDoor
/-- A number that is told by whole pixels is so many units; halves and quarters are told exactly. -/
theorem valueUnits_holds : Rows.ValueUnitsCardSaid := Go.Proofs.YtggoaggneapneaaDoorM.valueUnits.card Go.Proofs.YtggoaggneapneaaDoorM.law5
end Go.Proofs.YtggoaggneapneaaDoor
