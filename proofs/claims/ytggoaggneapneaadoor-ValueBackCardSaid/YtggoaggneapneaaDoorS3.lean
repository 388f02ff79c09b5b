/-
  Package scan: small letters; blanks.
-/
import Derived.Test.YtggoaggneapneaaDoorS1
set_option linter.unusedVariables false
set_option linter.unusedSimpArgs false
namespace Go.Proofs.YtggoaggneapneaaDoorM
open Go

def low1 (c : UInt8) : UInt8 := if 65 ≤ c.toNat ∧ c.toNat ≤ 90 then UInt8.ofNat (c.toNat + 32) else c
def lowerB (s : List UInt8) : List UInt8 := s.map low1
theorem low1_nat {c : UInt8} (h : 65 ≤ c.toNat ∧ c.toNat ≤ 90) : (low1 c).toNat = c.toNat + 32 := by
  unfold low1
  rw [if_pos h, UInt8.toNat_ofNat']
  omega
def bytesV (l : List UInt8) : List AV := l.map fun b => .pv (.int .u8 (b.toNat : Int))
theorem bytesV_len (l : List UInt8) : (bytesV l).length = l.length := by simp [bytesV]
theorem bytesV_at (l : List UInt8) (i : Nat) (h : i < l.length) : ((bytesV l).drop i).take 1 = [.pv (.int .u8 (l[i].toNat : Int))] := by
  have h' : i < (bytesV l).length := by rw [bytesV_len]; exact h
  rw [List.drop_eq_getElem_cons h']
  simp [bytesV]
/-- So far the letters are small. -/
def lowTo (s : List UInt8) (i : Nat) : List UInt8 := lowerB (s.take i) ++ s.drop i
theorem lowTo_len (s : List UInt8) (i : Nat) : (lowTo s i).length = s.length := by simp [lowTo, lowerB]; omega
theorem lowTo_at (s : List UInt8) (i : Nat) (h : i < s.length) : (lowTo s i)[i]'(by rw [lowTo_len]; exact h) = s[i] := by
  have hl : (lowerB (s.take i)).length = i := by simp [lowerB]; omega
  unfold lowTo
  rw [List.getElem_append_right (by omega)]
  simp only [hl, Nat.sub_self]
  simp
theorem lowTo_set (s : List UInt8) (i : Nat) (h : i < s.length) : (lowTo s i).set i (low1 s[i]) = lowTo s (i + 1) := by
  have hl : (lowerB (s.take i)).length = i := by simp [lowerB]; omega
  unfold lowTo
  rw [List.set_append_right _ _ (by omega), hl, Nat.sub_self, List.drop_eq_getElem_cons h, List.set_cons_zero, List.take_succ_eq_append_getElem h]
  rw [show lowerB (s.take i ++ [s[i]]) = lowerB (s.take i) ++ [low1 s[i]] from by simp only [lowerB, List.map_append, List.map_cons, List.map_nil], List.append_assoc]
  rfl
theorem lowTo_same (s : List UInt8) (i : Nat) (h : i < s.length) (hl : low1 s[i] = s[i]) : lowTo s (i + 1) = lowTo s i := by
  rw [← lowTo_set s i h, hl]
  have h2 := lowTo_at s i h
  apply List.ext_getElem (by simp)
  intro j h3 h4
  rw [List.getElem_set]
  split
  · rename_i e; subst e; exact h2.symm
  · rfl
def sgL (s : List UInt8) (i : Nat) : Sig := { bl := [bytesV (lowTo s i)], fl := 0 }
def envL (n : Nat) (i : Nat) : Env := [(3, .row 0 0 n 1), (8, .row 0 0 n 1), (9, .pv (.int .i64 (n : Int))), (10, .pv (.int .i64 (i : Int)))]
theorem loop_low (s : List UInt8) (hm : s.length ≤ maxI) : ∀ n i : Nat, i + n = s.length → ∃ e, ex mach (.loop lp18x0) (envL s.length i) (sgL s i) = some (.ext 0, e, sgL s s.length) ∧ look e 3 = some (.row 0 0 s.length 1)
  | 0, i, h => by
    obtain rfl : i = s.length := by omega
    refine ⟨envL s.length s.length ++ [(11, .pv (.bool false))], ?_, rfl⟩
    rw [ex_loopU lp18x0.eq_1]
    simp [envL]
  | n + 1, i, h => by
    have hi : i < s.length := by omega
    simp only [maxI] at hm
    have e4 : (i : Int) < s.length := by omega
    have e5 : (0 : Int) ≤ i := by omega
    have hw : IntKind.i64.wrap ((i : Int) + 1) = (i : Int) + 1 := wrap_in (by omega) (by omega)
    have hx : (((i + 1 : Nat)) : Int) = (i : Int) + 1 := by simp
    have hl := bytesV_len (lowTo s i)
    rw [lowTo_len] at hl
    have hl2 : i + 1 ≤ s.length := by omega
    have ha := bytesV_at (lowTo s i) i (by rw [lowTo_len]; exact hi)
    rw [lowTo_at s i hi] at ha
    obtain ⟨e, h1, h2⟩ := loop_low s (by simp only [maxI]; exact hm) n (i + 1) (by omega)
    simp only [envL, hx] at h1
    refine ⟨e, ?_, h2⟩
    rw [ex_loopU lp18x0.eq_1]
    by_cases c1 : 65 ≤ s[i].toNat
    · have d1 : (65 : Int) ≤ s[i].toNat := by omega
      by_cases c2 : s[i].toNat ≤ 90
      · have d2 : (s[i].toNat : Int) ≤ 90 := by omega
        have hv : IntKind.u8.wrap (IntKind.u8.wrap ((s[i].toNat : Int) + 97) - 65) = ((low1 s[i]).toNat : Int) := by
          rw [low1_nat ⟨c1, c2⟩, IntKind.wrap_u8, IntKind.wrap_u8]
          omega
        have hs : (bytesV (lowTo s i)).set i (.pv (.int .u8 ((low1 s[i]).toNat : Int))) = bytesV (lowTo s (i + 1)) := by
          rw [← lowTo_set s i hi]
          simp [bytesV, List.map_set]
        simp [envL, sgL, e4, e5, hl, hl2, ha, d1, d2, hv, hs, hw]
        simpa [sgL] using h1
      · have d2 : ¬ (s[i].toNat : Int) ≤ 90 := by omega
        have hsame := lowTo_same s i hi (by unfold low1; rw [if_neg (by omega)])
        rw [show sgL s (i + 1) = sgL s i by simp only [sgL, hsame]] at h1
        simp [envL, sgL, e4, e5, hl, hl2, ha, d1, d2, hw]
        simpa [sgL] using h1
    · have d1 : ¬ (65 : Int) ≤ s[i].toNat := by omega
      have hsame := lowTo_same s i hi (by unfold low1; rw [if_neg (by omega)])
      rw [show sgL s (i + 1) = sgL s i by simp only [sgL, hsame]] at h1
      simp [envL, sgL, e4, e5, hl, hl2, ha, d1, hw]
      simpa [sgL] using h1
theorem toBs_bytes : ∀ l : List UInt8, ((bytesV l).length = l.length ∧ ∃ ps, purL (bytesV l) = some ps ∧ toBs (ps.map fun p => [p]) = some l)
  | [] => ⟨rfl, [], rfl, rfl⟩
  | b :: l => by
    obtain ⟨h1, ps, h2, h3⟩ := toBs_bytes l
    refine ⟨by simp [bytesV], .int .u8 (b.toNat : Int) :: ps, ?_, ?_⟩
    · simp only [bytesV, List.map_cons, purL, s_pur1_pv, Option.bind_some]
      have : purL (l.map fun b => AV.pv (.int .u8 (b.toNat : Int))) = some ps := h2
      rw [this]; rfl
    · simp only [List.map_cons, toBs]
      rw [h3]
      simp [toB]
theorem lowTo_all (s : List UInt8) : lowTo s s.length = lowerB s := by simp [lowTo]
theorem lowTo_zero (s : List UInt8) : lowTo s 0 = s := by simp [lowTo, lowerB]
theorem c_Lower (s : List UInt8) (hm : s.length ≤ 140737488355328) (sg : Sig) : acall mach 18 [.pv (.str s)] sg = some (.pv (.str (lowerB s)), sg) := by
  rw [acall_fn (mf := mf18) rfl rfl rfl rfl]
  obtain ⟨e, h1, h2⟩ := loop_low s (by simp only [maxI]; omega) s.length 0 (by omega)
  obtain ⟨h3, ps, h4, h5⟩ := toBs_bytes (lowerB s)
  have h6 : (lowerB s).length = s.length := by simp [lowerB]
  rw [h6] at h3
  have h7 : (bytesV (lowerB s)).take s.length = bytesV (lowerB s) := List.take_of_length_le (by omega)
  simp only [envL, sgL, lowTo_zero, lowTo_all, Int.natCast_zero, Int.cast_ofNat_Int] at h1
  have h8 : (s.map fun b => AV.pv (.int .u8 (b.toNat : Int))) = bytesV s := rfl
  simp [mf18, hm, h8, h1, h2, h3, h4, h5, h7]
def blanksB : List UInt8 := [32, 9, 10, 13]
theorem cut_blanks : Cut blanksB := ⟨by decide, fun sg => callN_le mach 3000 _ _ sg _ (by kernel_rfl)⟩
def trimB (s : List UInt8) : List UInt8 := (rdrop (memB blanksB) s).dropWhile (memB blanksB)
theorem c_ScanTrim (s : List UInt8) (hm : s.length ≤ maxI) (sg : Sig) : acall mach 19 [.pv (.str s)] sg = some (.pv (.str (trimB s)), sg) := by
  rw [acall_fn (mf := mf19) rfl rfl rfl rfl]
  have h := c_Trim cut_blanks s hm
  unfold blanksB at h
  simp [mf19, h, trimB, blanksB]
end Go.Proofs.YtggoaggneapneaaDoorM
