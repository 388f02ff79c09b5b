/-
  Package value: digits, numbers, colors, measures.
-/
import Derived.Test.YtggoaggneapneaaDoorS4
set_option linter.unusedVariables false
set_option linter.unusedSimpArgs false
namespace Go.Proofs.YtggoaggneapneaaDoorM
open Go

def lkpV (m k : AV) : Option AV := match m, k with
  | .mapc kvs, .pv (.str t) => some (.tup [.pv (.int .i64 (mfind kvs t).1), .pv (.bool (mfind kvs t).2)])
  | _, _ => none
@[simp] theorem lkpV_str (kvs : List (List UInt8 × Int)) (t : List UInt8) : lkpV (.mapc kvs) (.pv (.str t)) = some (.tup [.pv (.int .i64 (mfind kvs t).1), .pv (.bool (mfind kvs t).2)]) := rfl
@[simp] theorem i_lkp (call : Call) (s : St) (x k : Opd) : stepI call s (.lkp x k) = (lkpV (eo s.env x) (eo s.env k)).bind fun v => some { v, p := none, dm := [], sg := s.sg, cl := false } := by
  simp only [stepI]
  generalize eo s.env x = a
  generalize eo s.env k = b
  cases a <;> first | rfl | (cases b <;> first | rfl | (rename_i p; cases p <;> rfl))
def isD (c : UInt8) : Bool := decide (48 ≤ c.toNat) && decide (c.toNat ≤ 57)
def isH (c : UInt8) : Bool := isD c || (decide (97 ≤ c.toNat) && decide (c.toNat ≤ 102))
def tens : List UInt8 := [48, 49, 50, 51, 52, 53, 54, 55, 56, 57]
def sixteens : List UInt8 := [48, 49, 50, 51, 52, 53, 54, 55, 56, 57, 97, 98, 99, 100, 101, 102]
theorem u8_all (p : UInt8 → Bool) (h : ∀ n : Fin 256, p (UInt8.ofNat n.val) = true) (c : UInt8) : p c = true := by
  have := h ⟨c.toNat, c.toNat_lt⟩
  simpa using this
theorem mem_tens (c : UInt8) : memB tens c = isD c := by
  have := u8_all (fun c => memB tens c == isD c) (by decide +kernel) c
  simpa using this
theorem mem_sixteens (c : UInt8) : memB sixteens c = isH c := by
  have := u8_all (fun c => memB sixteens c == isH c) (by decide +kernel) c
  simpa using this
theorem cut_tens : Cut tens := ⟨by decide, fun sg => callN_le mach 3000 _ _ sg _ (by kernel_rfl)⟩
theorem cut_sixteens : Cut sixteens := ⟨by decide, fun sg => callN_le mach 3000 _ _ sg _ (by kernel_rfl)⟩
theorem dw_nil (p : UInt8 → Bool) : ∀ s : List UInt8, s.dropWhile p = [] ↔ ∀ c ∈ s, p c = true
  | [] => by simp
  | c :: s => by
    have ih := dw_nil p s
    cases h : p c <;> simp [List.dropWhile_cons, h, ih]
theorem dw_head (p : UInt8 → Bool) : ∀ (s : List UInt8) (c : UInt8) (t : List UInt8), s.dropWhile p = c :: t → p c = false
  | [], c, t, h => by simp at h
  | d :: s, c, t, h => by
    cases hd : p d with
    | true => rw [List.dropWhile_cons_of_pos hd] at h; exact dw_head p s c t h
    | false => rw [List.dropWhile_cons_of_neg (by simp [hd])] at h; cases h; exact hd
theorem trim_nil (p : UInt8 → Bool) (s : List UInt8) : ((rdrop p s).dropWhile p == []) = s.all p := by
  cases h : s.all p with
  | true =>
    have h1 : s.reverse.dropWhile p = [] := by
      rw [dw_nil]
      intro c hc
      exact List.all_eq_true.1 h c (List.mem_reverse.1 hc)
    simp [rdrop, h1]
  | false =>
    cases h1 : s.reverse.dropWhile p with
    | nil =>
      rw [dw_nil] at h1
      rw [List.all_eq_true.2 fun c hc => h1 c (List.mem_reverse.2 hc)] at h
      exact absurd h (by decide)
    | cons c t =>
      have h2 : p c = false := dw_head p _ c t h1
      have h4 : (rdrop p s).dropWhile p ≠ [] := by
        intro e
        rw [dw_nil] at e
        have := e c (by simp [rdrop, h1])
        rw [h2] at this
        exact absurd this (by decide)
      simpa using h4
theorem all_tens (s : List UInt8) : s.all (memB tens) = s.all isD := by
  congr 1; funext c; exact mem_tens c
theorem all_sixteens (s : List UInt8) : s.all (memB sixteens) = s.all isH := by
  congr 1; funext c; exact mem_sixteens c
def digitsB (s : List UInt8) (m : Nat) : Bool := !(s == []) && (decide (s.length ≤ m) && s.all isD)
theorem c_digits (s : List UInt8) (hm : s.length ≤ maxI) (m : Nat) (sg : Sig) : acall mach 49 [.pv (.str s), .pv (.int .i64 (m : Int))] sg = some (.pv (.bool (digitsB s m)), sg) := by
  rw [acall_fn (mf := mf49) rfl rfl rfl rfl]
  have ht := c_Trim cut_tens s hm
  have ha := trim_nil (memB tens) s
  rw [all_tens] at ha
  unfold tens at ht
  have ha' : ((rdrop (memB [48, 49, 50, 51, 52, 53, 54, 55, 56, 57]) s).dropWhile (memB [48, 49, 50, 51, 52, 53, 54, 55, 56, 57]) == []) = s.all isD := ha
  generalize (rdrop (memB [48, 49, 50, 51, 52, 53, 54, 55, 56, 57]) s).dropWhile (memB [48, 49, 50, 51, 52, 53, 54, 55, 56, 57]) = x at ht ha'
  cases h : s == [] with
  | true => simp [mf49, digitsB, h]
  | false =>
    by_cases h2 : s.length ≤ m
    · have h3 : (s.length : Int) ≤ m := by omega
      cases h4 : s.all isD <;> rw [h4] at ha' <;> simp [mf49, digitsB, h, h2, h3, ht, ha', -List.all_eq_true, -List.all_eq_false, h4]
    · have h3 : ¬ (s.length : Int) ≤ m := by omega
      simp [mf49, digitsB, h, h2, h3]
theorem dig_of {s : List UInt8} (h : s.all isD = true) (bs : Nat) : ∀ c ∈ s, isDig bs c := by
  intro c hc
  have := List.all_eq_true.1 h c hc
  simp only [isD, Bool.and_eq_true, decide_eq_true_eq] at this
  exact .inl this
theorem dig_ofH {s : List UInt8} (h : s.all isH = true) : ∀ c ∈ s, isDig 16 c := by
  intro c hc
  have := List.all_eq_true.1 h c hc
  simp only [isH, isD, Bool.or_eq_true, Bool.and_eq_true, decide_eq_true_eq] at this
  rcases this with h | h
  · exact .inl h
  · exact .inr ⟨rfl, h⟩

/-! ### Numbers -/
def wholeOf (s : List UInt8) : List UInt8 := before 46 s
def dotIn (s : List UInt8) : Bool := decide ((before 46 s).length < s.length)
def partOf (s : List UInt8) : List UInt8 := if dotIn s then s.drop ((before 46 s).length + 1) else []
def zeros6 : List UInt8 := [48, 48, 48, 48, 48, 48]
def restOf (s : List UInt8) : List UInt8 := if hasPre s [45] then s.drop 1 else s
def okNum (s : List UInt8) : Bool := digitsB (wholeOf s) 9 && (!dotIn s || digitsB (partOf s) 6)
def unitsOf (s : List UInt8) : Nat := valB 10 (wholeOf s) * 64 + valB 10 ((partOf s ++ zeros6).take 6) * 64 / 1000000
def numV (s : List UInt8) : Option Int := if okNum (restOf s) then some (if hasPre s [45] then -(unitsOf (restOf s) : Int) else (unitsOf (restOf s) : Int)) else none
theorem cutA_parts (s : List UInt8) : cutA 46 s = .tup [.pv (.str (wholeOf s)), .pv (.str (partOf s)), .pv (.bool (dotIn s))] := by
  unfold cutA wholeOf partOf dotIn
  by_cases h : (before 46 s).length < s.length
  · simp [h]
  · have h2 : before 46 s = s := by
      have h3 := take_before 46 s
      rw [List.take_of_length_le (by omega)] at h3
      exact h3.symm
    simp [h, h2]
theorem tdiv_pos (a b : Nat) : Int.tdiv (a : Int) (b : Int) = ((a / b : Nat) : Int) := by
  rw [Int.ofNat_tdiv]
theorem part6 {s : List UInt8} (h : (!dotIn s || digitsB (partOf s) 6) = true) : ((partOf s ++ zeros6).take 6).all isD = true ∧ ((partOf s ++ zeros6).take 6).length = 6 ∧ (partOf s ++ zeros6).length = (partOf s).length + 6 := by
  have h0 : (partOf s).all isD = true := by
    cases hd : dotIn s with
    | false => simp [partOf, hd]
    | true => rw [hd] at h; simp only [digitsB, Bool.not_true, Bool.false_or, Bool.and_eq_true] at h; exact h.2.2
  refine ⟨?_, by simp [zeros6], by simp [zeros6]⟩
  rw [List.all_eq_true] at h0 ⊢
  intro c hc
  have hc := List.mem_of_mem_take hc
  rw [List.mem_append] at hc
  rcases hc with hc | hc
  · exact h0 c hc
  · have : zeros6.all isD = true := by decide
    exact List.all_eq_true.1 this c hc
theorem restOf_len (s : List UInt8) : (restOf s).length ≤ s.length := by unfold restOf; split <;> simp
theorem wholeOf_len (s : List UInt8) : (wholeOf s).length ≤ s.length := before_le _ _
theorem partOf_len (s : List UInt8) : (partOf s).length ≤ s.length := by unfold partOf; split <;> simp
theorem digitsB_facts {s : List UInt8} {m : Nat} (h : digitsB s m = true) : s ≠ [] ∧ s.length ≤ m ∧ s.all isD = true := by
  simp only [digitsB, Bool.and_eq_true, Bool.not_eq_true', beq_eq_false_iff_ne, decide_eq_true_eq] at h
  exact ⟨h.1, h.2.1, h.2.2⟩
set_option maxHeartbeats 4000000 in
theorem c_number (s : List UInt8) (hm : s.length + 6 ≤ maxI) (sg : Sig) : acall mach 31 [.pv (.str s)] sg = some (.tup [.pv (.int .i64 ((numV s).getD 0)), .pv (.bool (numV s).isSome)], sg) := by
  rw [acall_fn (mf := mf31) rfl rfl rfl rfl]
  simp only [maxI] at hm
  have hcp : ∀ sg, acall mach 42 [.pv (.str s), .pv (.str [45])] sg = some (.tup [.pv (.str (restOf s)), .pv (.bool (hasPre s [45]))], sg) := fun sg => by simpa [restOf] using c_CutPrefix s [45] sg
  unfold numV
  have hr := restOf_len s
  generalize restOf s = r at hcp hr ⊢
  generalize hasPre s [45] = below at hcp ⊢
  have hcc := c_Cut1 r (by simp only [maxI]; omega) 46
  rw [cutA_parts] at hcc
  have hw := wholeOf_len r
  have hp := partOf_len r
  have d9 : ∀ sg, acall mach 49 [.pv (.str (wholeOf r)), .pv (.int .i64 9)] sg = some (.pv (.bool (digitsB (wholeOf r) 9)), sg) := fun sg => c_digits (wholeOf r) (by simp only [maxI]; omega) 9 sg
  have d6 : ∀ sg, acall mach 49 [.pv (.str (partOf r)), .pv (.int .i64 6)] sg = some (.pv (.bool (digitsB (partOf r) 6)), sg) := fun sg => c_digits (partOf r) (by simp only [maxI]; omega) 6 sg
  cases hok : okNum r with
  | false =>
    unfold okNum at hok
    cases h1 : digitsB (wholeOf r) 9 with
    | false => simp [mf31, hcp, hcc, d9, h1]
    | true =>
      cases h2 : dotIn r with
      | false => rw [h1, h2] at hok; simp at hok
      | true =>
        rw [h1, h2] at hok
        have h3 : digitsB (partOf r) 6 = false := by simpa using hok
        simp [mf31, hcp, hcc, d9, d6, h1, h2, h3]
  | true =>
    have hok2 := hok
    unfold okNum at hok
    rw [Bool.and_eq_true] at hok
    obtain ⟨h1, h23⟩ := hok
    obtain ⟨g1, g2, g3⟩ := digitsB_facts h1
    obtain ⟨q1, q2, q3⟩ := part6 h23
    have hpi := c_ParseInt (wholeOf r) 10 (.inl rfl) (dig_of g3 10) g1 (by omega)
    have hpj := c_ParseInt ((partOf r ++ zeros6).take 6) 10 (.inl rfl) (dig_of q1 10) (by intro e; rw [e] at q2; simp at q2) (by omega)
    have hv1 := valB_lt 10 (.inl rfl) (wholeOf r) 0 0 (dig_of g3 10) (by simp)
    have hv2 := valB_lt 10 (.inl rfl) ((partOf r ++ zeros6).take 6) 0 0 (dig_of q1 10) (by simp)
    rw [show valF 10 0 (wholeOf r) = valB 10 (wholeOf r) from rfl] at hv1
    rw [show valF 10 0 ((partOf r ++ zeros6).take 6) = valB 10 ((partOf r ++ zeros6).take 6) from rfl] at hv2
    have hv1 : valB 10 (wholeOf r) < 10 ^ 9 := Nat.lt_of_lt_of_le hv1 (Nat.pow_le_pow_right (by omega) (by omega))
    have hv2 : valB 10 ((partOf r ++ zeros6).take 6) < 10 ^ 6 := Nat.lt_of_lt_of_le hv2 (Nat.pow_le_pow_right (by omega) (by omega))
    unfold unitsOf
    simp only [Int.cast_ofNat_Int] at hpi hpj
    generalize valB 10 (wholeOf r) = n at hpi hv1 ⊢
    generalize valB 10 ((partOf r ++ zeros6).take 6) = m at hpj hv2 ⊢
    have w1 : IntKind.i64.wrap ((n : Int) * 64) = (n : Int) * 64 := wrap_in (by omega) (by omega)
    have w2 : IntKind.i64.wrap ((m : Int) * 64) = (m : Int) * 64 := wrap_in (by omega) (by omega)
    have t1 : Int.tdiv ((m : Int) * 64) 1000000 = (m : Int) * 64 / 1000000 := by
      have := tdiv_pos (m * 64) 1000000
      simpa using this
    have w3 : IntKind.i64.wrap ((m : Int) * 64 / 1000000) = (m : Int) * 64 / 1000000 := wrap_in (by omega) (by omega)
    have w4 : IntKind.i64.wrap ((n : Int) * 64 + (m : Int) * 64 / 1000000) = (n : Int) * 64 + (m : Int) * 64 / 1000000 := wrap_in (by omega) (by omega)
    have w5 : IntKind.i64.wrap (-((n : Int) * 64 + (m : Int) * 64 / 1000000)) = -((n : Int) * 64 + (m : Int) * 64 / 1000000) := wrap_in (by omega) (by omega)
    have hq : (partOf r).length + 6 ≤ maxI := by simp only [maxI]; omega
    have hq2 : (6 : Int) ≤ (partOf r).length + 6 := by omega
    unfold zeros6 at q3 hpj
    cases h2 : dotIn r with
    | false => cases below <;> simp [mf31, hcp, hcc, d9, d6, h1, h2, hpi, hpj, w1, w2, w3, w4, w5, t1, q3, hq, hq2]
    | true =>
      have h3 : digitsB (partOf r) 6 = true := by rw [h2] at h23; simpa using h23
      cases below <;> simp [mf31, hcp, hcc, d9, d6, h1, h2, h3, hpi, hpj, w1, w2, w3, w4, w5, t1, q3, hq, hq2]

/-! ### Colors -/
def namedV (s : List UInt8) : Option Int :=
  if s = [98, 108, 97, 99, 107] then some 0
  else if s = [119, 104, 105, 116, 101] then some 16777215
  else if s = [114, 101, 100] then some 16711680
  else if s = [103, 114, 101, 101, 110] then some 32768
  else if s = [98, 108, 117, 101] then some 255
  else none
def colorV (s : List UInt8) : Option Int :=
  match namedV s with
  | some n => some n
  | none => if hasPre s [35] && (decide ((s.drop 1).length = 6) && (s.drop 1).all isH) then some (valB 16 (s.drop 1) : Int) else none
set_option maxHeartbeats 4000000 in
theorem c_color (s : List UInt8) (hm : s.length ≤ maxI) (sg : Sig) : acall mach 28 [.pv (.str s)] sg = some (.tup [.pv (.int .i64 ((colorV s).getD 0)), .pv (.bool (colorV s).isSome)], sg) := by
  rw [acall_fn (mf := mf28) rfl rfl rfl rfl]
  unfold colorV namedV
  by_cases n1 : s = [98, 108, 97, 99, 107]
  · subst n1; simp [mf28]
  by_cases n2 : s = [119, 104, 105, 116, 101]
  · subst n2; simp [mf28]
  by_cases n3 : s = [114, 101, 100]
  · subst n3; simp [mf28]
  by_cases n4 : s = [103, 114, 101, 101, 110]
  · subst n4; simp [mf28]
  by_cases n5 : s = [98, 108, 117, 101]
  · subst n5; simp [mf28]
  simp only [n1, n2, n3, n4, n5, if_false]
  have n1 := Ne.symm n1
  have n2 := Ne.symm n2
  have n3 := Ne.symm n3
  have n4 := Ne.symm n4
  have n5 := Ne.symm n5
  have hcp := c_CutPrefix s [35]
  simp only [List.length_cons, List.length_nil, Nat.zero_add] at hcp
  cases h1 : hasPre s [35] with
  | false => simp [mf28, n1, n2, n3, n4, n5, hcp, h1]
  | true =>
    simp only [h1, if_true] at hcp
    have hl : (s.drop 1).length ≤ maxI := by simp only [List.length_drop]; omega
    generalize s.drop 1 = x at hcp hl ⊢
    by_cases h2 : x.length = 6
    · have h2' : (x.length : Int) = 6 := by omega
      have ht := c_Trim cut_sixteens x hl
      have ha := trim_nil (memB sixteens) x
      rw [all_sixteens] at ha
      unfold sixteens at ht
      have ha' : ((rdrop (memB [48, 49, 50, 51, 52, 53, 54, 55, 56, 57, 97, 98, 99, 100, 101, 102]) x).dropWhile (memB [48, 49, 50, 51, 52, 53, 54, 55, 56, 57, 97, 98, 99, 100, 101, 102]) == []) = x.all isH := ha
      generalize (rdrop (memB [48, 49, 50, 51, 52, 53, 54, 55, 56, 57, 97, 98, 99, 100, 101, 102]) x).dropWhile (memB [48, 49, 50, 51, 52, 53, 54, 55, 56, 57, 97, 98, 99, 100, 101, 102]) = y at ht ha'
      cases h4 : x.all isH with
      | false => rw [h4] at ha'; simp [mf28, n1, n2, n3, n4, n5, hcp, h1, h2, h2', ht, ha']
      | true =>
        rw [h4] at ha'
        have hpi := c_ParseInt x 16 (.inr rfl) (dig_ofH h4) (by rintro rfl; simp at h2) (by omega)
        simp only [Int.cast_ofNat_Int] at hpi
        simp [mf28, n1, n2, n3, n4, n5, hcp, h1, h2, h2', ht, ha', hpi]
    · have h2' : ¬ (x.length : Int) = 6 := by omega
      simp [mf28, n1, n2, n3, n4, n5, hcp, h1, h2, h2']

/-! ### Measures -/
def measV (s sign : List UInt8) : Option Int := if hasSuf s sign then numV (s.take (s.length - sign.length)) else none
set_option maxHeartbeats 4000000 in
theorem c_measure (s sign : List UInt8) (hm : s.length + 6 ≤ maxI) (k : Int) (sg : Sig) : acall mach 29 [.pv (.str s), .pv (.str sign), .pv (.int .i64 k)] sg = some (.tup [.agg [.pv (.int .i64 (if (measV s sign).isSome then k else 0)), .pv (.int .i64 ((measV s sign).getD 0))], .pv (.bool (measV s sign).isSome)], sg) := by
  rw [acall_fn (mf := mf29) rfl rfl rfl rfl]
  have hcs := c_CutSuffix s sign (by omega)
  unfold measV
  cases h1 : hasSuf s sign with
  | false =>
    have hn := c_number s hm
    simp [mf29, hcs, h1, hn]
  | true =>
    have hn := c_number (s.take (s.length - sign.length)) (by simp only [List.length_take]; omega)
    generalize s.take (s.length - sign.length) = x at hcs hn ⊢
    cases h2 : numV x with
    | none => simp [mf29, hcs, h1, hn, h2]
    | some n => simp [mf29, hcs, h1, hn, h2]
end Go.Proofs.YtggoaggneapneaaDoorM
