/-
  Package strings: prefixes, suffixes, cutting at a byte; slices.Index of texts.
-/
import Derived.Test.YtggoaggneapneaaDoorS1
set_option linter.unusedVariables false
set_option linter.unusedSimpArgs false
namespace Go.Proofs.YtggoaggneapneaaDoorM
open Go

def hasPre (s p : List UInt8) : Bool := decide (p.length ≤ s.length) && (s.take p.length == p)
theorem c_HasPrefix (s p : List UInt8) (sg : Sig) : acall mach 69 [.pv (.str s), .pv (.str p)] sg = some (.pv (.bool (hasPre s p)), sg) := by
  rw [acall_fn (mf := mf69) rfl rfl rfl rfl]
  by_cases h : p.length ≤ s.length
  · have h1 : (p.length : Int) ≤ s.length := by omega
    have h0 : (0 : Int) ≤ p.length := by omega
    simp [mf69, hasPre, h, h0, h1]
  · have h1 : ¬ (p.length : Int) ≤ s.length := by omega
    simp [mf69, hasPre, h, h1]
theorem c_CutPrefix' (s p : List UInt8) (sg : Sig) : acall mach 59 [.pv (.str s), .pv (.str p)] sg = some (.tup [.pv (.str (if hasPre s p then s.drop p.length else s)), .pv (.bool (hasPre s p))], sg) := by
  rw [acall_fn (mf := mf59) rfl rfl rfl rfl]
  cases h : hasPre s p with
  | true =>
    have h1 : p.length ≤ s.length := by simp [hasPre] at h; exact h.1
    have h2 : (p.length : Int) ≤ s.length := by omega
    have h0 : (0 : Int) ≤ p.length := by omega
    simp [mf59, c_HasPrefix, h, h0, h2]
  | false => simp [mf59, c_HasPrefix, h]
theorem c_CutPrefix (s p : List UInt8) (sg : Sig) : acall mach 42 [.pv (.str s), .pv (.str p)] sg = some (.tup [.pv (.str (if hasPre s p then s.drop p.length else s)), .pv (.bool (hasPre s p))], sg) := by
  rw [acall_fn (mf := mf42) rfl rfl rfl rfl]
  simp [mf42, c_CutPrefix']
def hasSuf (s p : List UInt8) : Bool := decide (p.length ≤ s.length) && (s.drop (s.length - p.length) == p)
theorem suf_facts {s p : List UInt8} (hm : s.length ≤ maxI) (h : p.length ≤ s.length) : IntKind.i64.wrap ((s.length : Int) - p.length) = ((s.length - p.length : Nat) : Int) ∧ (0 : Int) ≤ ((s.length - p.length : Nat) : Int) ∧ ((s.length - p.length : Nat) : Int) ≤ s.length := by
  simp only [maxI] at hm
  refine ⟨?_, by omega, by omega⟩
  rw [wrap_in (by omega) (by omega)]
  omega
theorem c_HasSuffix (s p : List UInt8) (hm : s.length ≤ maxI) (sg : Sig) : acall mach 55 [.pv (.str s), .pv (.str p)] sg = some (.pv (.bool (hasSuf s p)), sg) := by
  rw [acall_fn (mf := mf55) rfl rfl rfl rfl]
  by_cases h : p.length ≤ s.length
  · have h1 : (p.length : Int) ≤ s.length := by omega
    obtain ⟨h2, h3, h4⟩ := suf_facts hm h
    simp only [mf55, hasSuf, h]
    generalize s.length - p.length = k at h2 h3 h4 ⊢
    simp [h1, h2, h3, h4]
  · have h1 : ¬ (p.length : Int) ≤ s.length := by omega
    simp [mf55, hasSuf, h, h1]
theorem hasSuf_le {s p : List UInt8} (h : hasSuf s p = true) : p.length ≤ s.length := by simp [hasSuf] at h; exact h.1
theorem c_CutSuffix' (s p : List UInt8) (hm : s.length ≤ maxI) (sg : Sig) : acall mach 62 [.pv (.str s), .pv (.str p)] sg = some (.tup [.pv (.str (if hasSuf s p then s.take (s.length - p.length) else s)), .pv (.bool (hasSuf s p))], sg) := by
  rw [acall_fn (mf := mf62) rfl rfl rfl rfl]
  have hc := c_HasSuffix s p hm
  cases h : hasSuf s p with
  | true =>
    obtain ⟨h2, h3, h4⟩ := suf_facts hm (hasSuf_le h)
    generalize s.length - p.length = k at h2 h3 h4 ⊢
    simp [mf62, hc, h, h2, h3, h4]
  | false => simp [mf62, hc, h]
theorem c_CutSuffix (s p : List UInt8) (hm : s.length ≤ maxI) (sg : Sig) : acall mach 44 [.pv (.str s), .pv (.str p)] sg = some (.tup [.pv (.str (if hasSuf s p then s.take (s.length - p.length) else s)), .pv (.bool (hasSuf s p))], sg) := by
  rw [acall_fn (mf := mf44) rfl rfl rfl rfl]
  have hc := c_CutSuffix' s p hm
  simp [mf44, hc]

/-! ### The first place of a byte -/
def before (c : UInt8) (s : List UInt8) : List UInt8 := s.takeWhile (· != c)
theorem before_le (c : UInt8) (s : List UInt8) : (before c s).length ≤ s.length := (List.takeWhile_sublist _).length_le
theorem indexByte_eq (c : UInt8) : ∀ s : List UInt8, Lib.indexByte s c = if (before c s).length < s.length then ((before c s).length : Int) else -1
  | [] => rfl
  | b :: s => by
    have ih := indexByte_eq c s
    have hle := before_le c s
    unfold Lib.indexByte
    by_cases h : (b == c) = true
    · have h2 : (b != c) = false := by simp only [bne, h]; rfl
      simp [h, before, List.takeWhile_cons, h2]
    · have h2 : (b != c) = true := by simp only [bne, Bool.not_eq_true] at h ⊢; rw [h]; rfl
      have hb : before c (b :: s) = b :: before c s := by simp [before, List.takeWhile_cons, h2]
      rw [hb, ih]
      simp only [Bool.not_eq_true] at h
      simp only [h, Bool.false_eq_true, if_false, List.length_cons]
      by_cases hl : (before c s).length < s.length
      · have e : (((before c s).length : Int) == -1) = false := by rw [beq_eq_false_iff_ne]; omega
        have hl2 : (before c s).length + 1 < s.length + 1 := by omega
        simp only [if_pos hl, if_pos hl2, e, Bool.false_eq_true, if_false]
        omega
      · have hl2 : ¬ (before c s).length + 1 < s.length + 1 := by omega
        simp only [if_neg hl, if_neg hl2]
        rfl
theorem c_IndexByteL (s : List UInt8) (c : UInt8) (sg : Sig) : acall mach 86 [.pv (.str s), .pv (.int .u8 (c.toNat : Int))] sg = some (.pv (.int .i64 (Lib.indexByte s c)), sg) := by
  rw [acall_fn (mf := mf86) rfl rfl rfl rfl]
  have h : ∀ sg, acall mach 89 [.pv (.str s), .pv (.int .u8 (c.toNat : Int))] sg = some (.pv (.int .i64 (Lib.indexByte s c)), sg) := fun sg => by
    rw [acall_lib (g := xIndexByteString) rfl]
    have : ((c.toNat : Int)).toNat.toUInt8 = c := by simp
    simp only [xIndexByteString, this, Option.map_some]
  simp [mf86, h]
theorem c_Index1 (s : List UInt8) (c : UInt8) (sg : Sig) : acall mach 76 [.pv (.str s), .pv (.str [c])] sg = some (.pv (.int .i64 (Lib.indexByte s c)), sg) := by
  rw [acall_fn (mf := mf76) rfl rfl rfl rfl]
  by_cases h : [c] = s
  · subst h
    have e : Lib.indexByte [c] c = 0 := by simp [Lib.indexByte]
    simp [mf76, e]
  · have h2 : ([c] == s) = false := by simpa using h
    simp [mf76, h2, c_IndexByteL]
def cutA (c : UInt8) (s : List UInt8) : AV :=
  if (before c s).length < s.length then .tup [.pv (.str (before c s)), .pv (.str (s.drop ((before c s).length + 1))), .pv (.bool true)] else .tup [.pv (.str s), .pv (.str []), .pv (.bool false)]
theorem take_before (c : UInt8) : ∀ s : List UInt8, s.take (before c s).length = before c s
  | [] => rfl
  | b :: s => by
    have := take_before c s
    cases h : b != c with
    | true => simp [before, List.takeWhile_cons, h] at this ⊢; exact this
    | false => simp [before, List.takeWhile_cons, h]
theorem c_Cut1' (s : List UInt8) (hm : s.length ≤ maxI) (c : UInt8) (sg : Sig) : acall mach 64 [.pv (.str s), .pv (.str [c])] sg = some (cutA c s, sg) := by
  rw [acall_fn (mf := mf64) rfl rfl rfl rfl]
  have hi := indexByte_eq c s
  simp only [maxI] at hm
  by_cases h : (before c s).length < s.length
  · rw [if_pos h] at hi
    have h1 : (0 : Int) ≤ (before c s).length := by omega
    have h2 : ((before c s).length : Int) ≤ s.length := by omega
    have h3 : IntKind.i64.wrap (((before c s).length : Int) + 1) = ((before c s).length : Int) + 1 := wrap_in (by omega) (by omega)
    have h4 : (0 : Int) ≤ (before c s).length + 1 := by omega
    have h5 : ((before c s).length : Int) + 1 ≤ s.length := by omega
    have h6 : (((before c s).length : Int) + 1).toNat = (before c s).length + 1 := by omega
    simp [mf64, c_Index1, hi, h1, h2, h3, h4, h5, h6, take_before, cutA, h]
  · rw [if_neg h] at hi
    simp [mf64, c_Index1, hi, cutA, h]
theorem c_Cut1 (s : List UInt8) (hm : s.length ≤ maxI) (c : UInt8) (sg : Sig) : acall mach 48 [.pv (.str s), .pv (.str [c])] sg = some (cutA c s, sg) := by
  rw [acall_fn (mf := mf48) rfl rfl rfl rfl]
  have hc := c_Cut1' s hm c
  unfold cutA at hc ⊢
  split <;> rename_i h <;> simp only [h, if_true, if_false] at hc <;> simp [mf48, hc]

/-! ### slices.Index -/
def strRows (ws : List (List UInt8)) : List (List PV) := ws.map fun w => [.str w]
def idxFrom (ws : List (List UInt8)) (s : List UInt8) (i : Nat) : Option Nat := if h : i < ws.length then (if ws[i] = s then some i else idxFrom ws s (i + 1)) else none
termination_by ws.length - i
def idxOf (ws : List (List UInt8)) (s : List UInt8) : Int := match idxFrom ws s 0 with
  | some j => (j : Int)
  | none => -1
def envI (ws : List (List UInt8)) (s : List UInt8) (i : Nat) : Env := [(0, .pv (.sl (strRows ws))), (1, .pv (.str s)), (7, .pv (.int .i64 (ws.length : Int))), (8, .pv (.int .i64 (i : Int)))]
theorem strRows_len (ws : List (List UInt8)) : (strRows ws).length = ws.length := by simp [strRows]
theorem loop_idx (ws : List (List UInt8)) (s : List UInt8) (hm : ws.length ≤ maxI) (sg : Sig) : ∀ n i : Nat, i + n = ws.length → ∃ e, ex mach (.loop lp27x0) (envI ws s i) sg = some (match idxFrom ws s i with
    | some j => (.ret, [(4, .pv (.int .i64 (j : Int)))], sg)
    | none => (.ext 0, e, sg))
  | 0, i, h => by
    obtain rfl : i = ws.length := by omega
    have e : idxFrom ws s ws.length = none := by rw [idxFrom]; simp
    refine ⟨envI ws s ws.length ++ [(9, .pv (.bool false))], ?_⟩
    rw [ex_loopU lp27x0.eq_1, e]
    simp [envI]
  | n + 1, i, h => by
    have hi : i < ws.length := by omega
    simp only [maxI] at hm
    have e4 : (i : Int) < ws.length := by omega
    have e5 : (0 : Int) ≤ i := by omega
    have hw : IntKind.i64.wrap ((i : Int) + 1) = (i : Int) + 1 := wrap_in (by omega) (by omega)
    have hr : (strRows ws)[i]? = some [.str ws[i]] := by simp [strRows, hi]
    obtain ⟨e, hrec⟩ := loop_idx ws s (by simp only [maxI]; exact hm) sg n (i + 1) (by omega)
    have hf : idxFrom ws s i = if ws[i] = s then some i else idxFrom ws s (i + 1) := by rw [idxFrom, dif_pos hi]
    by_cases hq : ws[i] = s
    · refine ⟨[], ?_⟩
      rw [hf, if_pos hq, ex_loopU lp27x0.eq_1]
      simp [envI, e4, e5, strRows_len, hr, hq]
    · have hq2 : (s == ws[i]) = false := by simpa using fun e => hq e.symm
      refine ⟨e, ?_⟩
      rw [hf, if_neg hq, ex_loopU lp27x0.eq_1]
      have hx : (((i + 1 : Nat)) : Int) = (i : Int) + 1 := by simp
      simp only [envI, hx] at hrec
      simp [envI, e4, e5, strRows_len, hr, hq2, hw, hrec]
theorem c_IndexS (ws : List (List UInt8)) (s : List UInt8) (hm : ws.length ≤ maxI) (sg : Sig) : acall mach 27 [.pv (.sl (strRows ws)), .pv (.str s)] sg = some (.pv (.int .i64 (idxOf ws s)), sg) := by
  rw [acall_fn (mf := mf27) rfl rfl rfl rfl]
  obtain ⟨e, hl⟩ := loop_idx ws s hm { bl := [], fl := 0 } ws.length 0 (by omega)
  unfold idxOf
  cases hq : idxFrom ws s 0 with
  | none =>
    rw [hq] at hl
    simp only [envI, Int.natCast_zero, Int.cast_ofNat_Int] at hl
    simp [mf27, strRows_len, hl]
  | some j =>
    rw [hq] at hl
    simp only [envI, Int.natCast_zero, Int.cast_ofNat_Int] at hl
    simp [mf27, strRows_len, hl]
end Go.Proofs.YtggoaggneapneaaDoorM
