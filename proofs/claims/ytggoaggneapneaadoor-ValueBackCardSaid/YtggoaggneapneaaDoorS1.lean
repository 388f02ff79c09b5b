/-
  Package strings: trimming.
-/
import Derived.Test.YtggoaggneapneaaDoorMach
import Derived.Test.YtggoaggneapneaaDoorM32
import Derived.KernelRfl
set_option linter.unusedVariables false
set_option linter.unusedSimpArgs false
namespace Go.Proofs.YtggoaggneapneaaDoorM
open Go

/-- A set of bytes, as the library keeps it. -/
def setV (p : UInt8 → Bool) : List AV := (List.range 256).map fun i => .pv (.bool (p (UInt8.ofNat i)))
theorem setV_len (p : UInt8 → Bool) : (setV p).length = 256 := by simp [setV]
theorem setV_at (p : UInt8 → Bool) (c : UInt8) : ((setV p).drop c.toNat).take 1 = [.pv (.bool (p c))] := by
  have h : c.toNat < 256 := c.toNat_lt
  have h' : c.toNat < (setV p).length := by rw [setV_len]; exact h
  rw [List.drop_eq_getElem_cons h']
  simp [setV]
theorem c_contains (p : UInt8 → Bool) (b : Nat) (c : UInt8) (sg : Sig) (h : sg.bl[b]? = some (setV p)) : acall mach 56 [.cell b 0, .pv (.int .u8 (c.toNat : Int))] sg = some (.pv (.bool (p c)), sg) := by
  rw [acall_fn (mf := mf56) rfl rfl rfl rfl]
  have h1 : (c.toNat : Int) < 256 := by have := c.toNat_lt; omega
  have h2 : c.toNat + 1 ≤ 256 := by have := c.toNat_lt; omega
  have h3 := setV_at p c
  have h4 := setV_len p
  simp [mf56, h, h1, h2, h3, h4]

theorem loop_tlA (p : UInt8 → Bool) (b : Nat) (sg : Sig) (h : sg.bl[b]? = some (setV p)) : ∀ s : List UInt8, ∃ e, ex mach (.loop lp46x0) [(0, .pv (.str s)), (1, .cell b 0)] sg = some (.ext 0, e, sg) ∧ look e 0 = some (.pv (.str (s.dropWhile p)))
  | [] => by
    refine ⟨_, by rw [ex_loopU lp46x0.eq_1]; simp; rfl, rfl⟩
  | c :: s => by
    have hc := c_contains p b c sg h
    cases hp : p c with
    | true =>
      obtain ⟨e, h1, h2⟩ := loop_tlA p b sg h s
      refine ⟨e, ?_, by rw [h2, List.dropWhile_cons_of_pos hp]⟩
      rw [ex_loopU lp46x0.eq_1]
      have h3 : ((s.length : Int) + 1).toNat = s.length + 1 := by omega
      have h4 : (1 : Int) ≤ s.length + 1 := by omega
      simp [hc, hp, h3, h4, h1]
    | false =>
      refine ⟨_, by rw [ex_loopU lp46x0.eq_1]; simp [hc, hp]; rfl, ?_⟩
      rw [List.dropWhile_cons_of_neg (by simp [hp])]
      rfl
theorem c_trimLeftASCII (p : UInt8 → Bool) (b : Nat) (s : List UInt8) (sg : Sig) (h : sg.bl[b]? = some (setV p)) : acall mach 46 [.pv (.str s), .cell b 0] sg = some (.pv (.str (s.dropWhile p)), sg) := by
  rw [acall_fn (mf := mf46) rfl rfl rfl rfl]
  obtain ⟨e, h1, h2⟩ := loop_tlA p b { sg with fl := sg.bl.length } h s
  simp [mf46, h1, h2]
/-- Without what stands at the end. -/
def rdrop (p : UInt8 → Bool) (s : List UInt8) : List UInt8 := (s.reverse.dropWhile p).reverse
theorem rdrop_snoc_pos {p : UInt8 → Bool} {c : UInt8} (h : p c = true) (s : List UInt8) : rdrop p (s ++ [c]) = rdrop p s := by simp [rdrop, h]
theorem rdrop_snoc_neg {p : UInt8 → Bool} {c : UInt8} (h : p c = false) (s : List UInt8) : rdrop p (s ++ [c]) = s ++ [c] := by simp [rdrop, h]
theorem loop_trA (p : UInt8 → Bool) (b : Nat) (sg : Sig) (h : sg.bl[b]? = some (setV p)) : ∀ (n : Nat) (s : List UInt8), s.length = n → s.length ≤ maxI → ∃ e, ex mach (.loop lp40x0) [(0, .pv (.str s)), (1, .cell b 0)] sg = some (.ext 0, e, sg) ∧ look e 0 = some (.pv (.str (rdrop p s)))
  | 0, s, hn, hm => by
    obtain rfl := List.eq_nil_of_length_eq_zero hn
    refine ⟨_, by rw [ex_loopU lp40x0.eq_1]; simp; rfl, rfl⟩
  | n + 1, s, hn, hm => by
    obtain ⟨s, c, rfl⟩ : ∃ s' c, s = s' ++ [c] := ⟨s.dropLast, s.getLast (by intro e; simp [e] at hn), by rw [List.dropLast_concat_getLast]⟩
    have hc := c_contains p b c sg h
    have hl : s.length = n := by simpa using hn
    simp only [List.length_append, List.length_cons, List.length_nil, maxI] at hm
    have hw : IntKind.i64.wrap (s.length : Int) = s.length := wrap_in (by omega) (by omega)
    have h0 : (0 : Int) < s.length + 1 := by omega
    have h4 : ((s.length : Int)) ≤ s.length + 1 := by omega
    have h5 : (0 : Int) ≤ s.length := by omega
    cases hp : p c with
    | true =>
      obtain ⟨e, h1, h2⟩ := loop_trA p b sg h n s hl (by simp only [maxI]; omega)
      refine ⟨e, ?_, by rw [h2, rdrop_snoc_pos hp]⟩
      rw [ex_loopU lp40x0.eq_1]
      simp [hc, hp, hw, h0, h4, h5, h1]
    | false =>
      refine ⟨_, by rw [ex_loopU lp40x0.eq_1]; simp [hc, hp, hw, h0, h4, h5]; rfl, ?_⟩
      rw [rdrop_snoc_neg hp]
      rfl
theorem c_trimRightASCII (p : UInt8 → Bool) (b : Nat) (s : List UInt8) (hm : s.length ≤ maxI) (sg : Sig) (h : sg.bl[b]? = some (setV p)) : acall mach 40 [.pv (.str s), .cell b 0] sg = some (.pv (.str (rdrop p s)), sg) := by
  rw [acall_fn (mf := mf40) rfl rfl rfl rfl]
  obtain ⟨e, h1, h2⟩ := loop_trA p b { sg with fl := sg.bl.length } h _ s rfl hm
  simp [mf40, h1, h2]
def memB (cut : List UInt8) (c : UInt8) : Bool := cut.contains c
/-- A cutset of two bytes or more, all below 128, whose set is known. -/
structure Cut (cut : List UInt8) : Prop where
  two : 2 ≤ cut.length
  set : ∀ sg, acall mach 39 [.pv (.str cut)] sg = some (.tup [.agg (setV (memB cut)), .pv (.bool true)], sg)
theorem dem_setV (p : UInt8 → Bool) : (setV p).map dem = setV p := by
  simp only [setV, List.map_map]; rfl
theorem cell_setV (p : UInt8 → Bool) : (setV p).all isCell = true := by
  simp only [setV, List.all_map, List.all_eq_true]; intro x _; rfl
theorem zl_Trim_len : zl30x0.length = 256 := by kernel_rfl
theorem c_Trim {cut : List UInt8} (hc : Cut cut) (s : List UInt8) (hm : s.length ≤ maxI) (sg : Sig) : acall mach 30 [.pv (.str s), .pv (.str cut)] sg = some (.pv (.str ((rdrop (memB cut) s).dropWhile (memB cut))), sg) := by
  rw [acall_fn (mf := mf30) rfl rfl rfl rfl]
  have h1 := hc.two
  have h2 : cut ≠ [] := by rintro rfl; simp at h1
  have h2b : (cut == []) = false := by simpa using h2
  have h3 : ¬ (cut.length : Int) = 1 := by omega
  have h3b : ((cut.length : Int) == 1) = false := by simpa using h3
  have h4 := setV_len (memB cut)
  have h5 := dem_setV (memB cut)
  have h6 := cell_setV (memB cut)
  have h7 : fillA zl30x0 0 (setV (memB cut)) = setV (memB cut) := fillA_all (by rw [h4, zl_Trim_len])
  have h8 := c_trimRightASCII (memB cut) 0 s hm { bl := [setV (memB cut)], fl := 0 } rfl
  have h9 := c_trimLeftASCII (memB cut) 0 (rdrop (memB cut) s) { bl := [setV (memB cut)], fl := 0 } rfl
  cases s with
  | nil => simp [mf30, rdrop]
  | cons c s => simp [mf30, h2, h2b, h3, h3b, hc.set, h4, h5, -List.all_eq_true, h6, h7, zl_Trim_len, h8, h9]
end Go.Proofs.YtggoaggneapneaaDoorM
