/-
  Package value: the sorts of properties.
-/
import Derived.Test.YtggoaggneapneaaDoorMach
import Derived.Test.YtggoaggneapneaaDoorM32
import Derived.KernelRfl
set_option linter.unusedVariables false
set_option linter.unusedSimpArgs false
namespace Go.Proofs.YtggoaggneapneaaDoorM
open Go

/-- A property's sort. -/
structure Srt where
  nm : List UInt8
  auto : Bool
  length : Bool
  part : Bool
  below : Bool
  color : Bool
  number : Bool
  words : List (List UInt8)
  fk : Int
  fn : Int
def Srt.cells (s : Srt) : List AV := [.pv (.str s.nm), .pv (.bool s.auto), .pv (.bool s.length), .pv (.bool s.part), .pv (.bool s.below), .pv (.bool s.color), .pv (.bool s.number), .pv (.sl (s.words.map fun w => [.str w])), .pv (.int .i64 s.fk), .pv (.int .i64 s.fn)]
def noSrt : Srt := ⟨[], false, false, false, false, false, false, [], 0, 0⟩
def srts : List Srt := [
  ⟨[], false, false, false, false, false, false, [], 0, 0⟩,
  ⟨[100, 105, 115, 112, 108, 97, 121], false, false, false, false, false, false, [[98, 108, 111, 99, 107], [105, 110, 108, 105, 110, 101], [102, 108, 101, 120], [110, 111, 110, 101]], 5, 1⟩,
  ⟨[119, 105, 100, 116, 104], true, true, true, false, false, false, [], 1, 0⟩,
  ⟨[104, 101, 105, 103, 104, 116], true, true, true, false, false, false, [], 1, 0⟩,
  ⟨[109, 97, 114, 103, 105, 110, 45, 116, 111, 112], true, true, false, true, false, false, [], 2, 0⟩,
  ⟨[109, 97, 114, 103, 105, 110, 45, 114, 105, 103, 104, 116], true, true, false, true, false, false, [], 2, 0⟩,
  ⟨[109, 97, 114, 103, 105, 110, 45, 98, 111, 116, 116, 111, 109], true, true, false, true, false, false, [], 2, 0⟩,
  ⟨[109, 97, 114, 103, 105, 110, 45, 108, 101, 102, 116], true, true, false, true, false, false, [], 2, 0⟩,
  ⟨[112, 97, 100, 100, 105, 110, 103, 45, 116, 111, 112], false, true, false, false, false, false, [], 2, 0⟩,
  ⟨[112, 97, 100, 100, 105, 110, 103, 45, 114, 105, 103, 104, 116], false, true, false, false, false, false, [], 2, 0⟩,
  ⟨[112, 97, 100, 100, 105, 110, 103, 45, 98, 111, 116, 116, 111, 109], false, true, false, false, false, false, [], 2, 0⟩,
  ⟨[112, 97, 100, 100, 105, 110, 103, 45, 108, 101, 102, 116], false, true, false, false, false, false, [], 2, 0⟩,
  ⟨[98, 111, 114, 100, 101, 114, 45, 116, 111, 112, 45, 119, 105, 100, 116, 104], false, true, false, false, false, false, [], 2, 0⟩,
  ⟨[98, 111, 114, 100, 101, 114, 45, 114, 105, 103, 104, 116, 45, 119, 105, 100, 116, 104], false, true, false, false, false, false, [], 2, 0⟩,
  ⟨[98, 111, 114, 100, 101, 114, 45, 98, 111, 116, 116, 111, 109, 45, 119, 105, 100, 116, 104], false, true, false, false, false, false, [], 2, 0⟩,
  ⟨[98, 111, 114, 100, 101, 114, 45, 108, 101, 102, 116, 45, 119, 105, 100, 116, 104], false, true, false, false, false, false, [], 2, 0⟩,
  ⟨[99, 111, 108, 111, 114], false, false, false, false, true, false, [], 4, 0⟩,
  ⟨[98, 97, 99, 107, 103, 114, 111, 117, 110, 100, 45, 99, 111, 108, 111, 114], false, false, false, false, true, false, [], 4, 16777215⟩,
  ⟨[102, 111, 110, 116, 45, 115, 105, 122, 101], false, true, false, false, false, false, [], 2, 1024⟩,
  ⟨[116, 101, 120, 116, 45, 97, 108, 105, 103, 110], false, false, false, false, false, false, [[108, 101, 102, 116], [99, 101, 110, 116, 101, 114], [114, 105, 103, 104, 116]], 5, 0⟩,
  ⟨[102, 108, 101, 120, 45, 103, 114, 111, 119], false, false, false, false, false, true, [], 6, 0⟩,
  ⟨[102, 108, 101, 120, 45, 115, 104, 114, 105, 110, 107], false, false, false, false, false, true, [], 6, 64⟩,
  ⟨[102, 108, 101, 120, 45, 100, 105, 114, 101, 99, 116, 105, 111, 110], false, false, false, false, false, false, [[114, 111, 119], [99, 111, 108, 117, 109, 110]], 5, 0⟩,
  ⟨[106, 117, 115, 116, 105, 102, 121, 45, 99, 111, 110, 116, 101, 110, 116], false, false, false, false, false, false, [[115, 116, 97, 114, 116], [99, 101, 110, 116, 101, 114], [101, 110, 100], [98, 101, 116, 119, 101, 101, 110]], 5, 0⟩,
  ⟨[111, 114, 100, 101, 114], false, false, false, true, false, true, [], 6, 0⟩,
  ⟨[108, 101, 102, 116], false, true, false, true, false, false, [], 2, 0⟩,
  ⟨[116, 111, 112], false, true, false, true, false, false, [], 2, 0⟩]
def srtAt (p : Int) : Srt := if 1 ≤ p ∧ p < 27 then srts.getD p.toNat noSrt else noSrt
theorem srts_len : srts.length = 27 := rfl
theorem flat_row : ∀ (l : List Srt) (j : Nat) (h : j < l.length), (((l.flatMap Srt.cells).drop (j * 10)).take 10) = (l[j]).cells
  | [], j, h => by simp at h
  | s :: l, 0, h => by simp [Srt.cells]
  | s :: l, j + 1, h => by
    have := flat_row l j (by simpa using h)
    rw [List.flatMap_cons, show (j + 1) * 10 = s.cells.length + j * 10 by simp [Srt.cells]; omega, List.drop_length_add_append]
    simpa using this
theorem flat_len (l : List Srt) : (l.flatMap Srt.cells).length = l.length * 10 := by
  induction l with
  | nil => rfl
  | cons s l ih => rw [List.flatMap_cons, List.length_append, ih]; simp [Srt.cells]; omega
def sortsV : List AV := srts.flatMap Srt.cells
theorem c21 (sg : Sig) : acall mach 21 [] sg = some (.agg sortsV, sg) := callN_le mach 1000 21 [] sg _ (by kernel_rfl)
theorem sortsV_len : sortsV.length = 270 := by rw [sortsV, flat_len]; rfl
theorem sortsV_row (j : Nat) (h : j < 27) : (sortsV.drop (j * 10)).take 10 = (srts[j]'(by rw [srts_len]; exact h)).cells := flat_row srts j h

theorem dem_sorts : sortsV.map dem = sortsV := by
  unfold sortsV
  induction srts with
  | nil => rfl
  | cons s l ih => rw [List.flatMap_cons, List.map_append, ih]; rfl
theorem srtAt_row (p : Int) (h : 1 ≤ p) (h' : p < 27) : (sortsV.drop (p.toNat * 10)).take 10 = (srtAt p).cells := by
  rw [sortsV_row p.toNat (by omega)]
  unfold srtAt
  rw [if_pos ⟨h, h'⟩, List.getD_eq_getElem?_getD, List.getElem?_eq_getElem (by rw [srts_len]; omega)]
  rfl

theorem c15 (p : Int) (sg : Sig) : acall mach 15 [.pv (.int .i64 p)] sg = some (.tup [.agg (srtAt p).cells, .pv (.bool (decide (1 ≤ p ∧ p < 27)))], sg) := by
  rw [acall_fn (mf := mf15) rfl rfl rfl rfl]
  by_cases h1 : p < 1
  · simp [mf15, h1, srtAt, show ¬ 1 ≤ p by omega, noSrt, Srt.cells]
  · by_cases h2 : p ≥ 27
    · simp [mf15, h1, h2, srtAt, show ¬ p < 27 by omega, noSrt, Srt.cells]
    · have e1 : 0 ≤ p := by omega
      have e2 : p < 27 := by omega
      have e3 : (p.toNat + 1) * 10 ≤ 270 := by omega
      have e4 : 1 ≤ p := by omega
      have e5 := srtAt_row p e4 e2
      simp [mf15, h1, h2, c21, sortsV_len, e1, e2, e3, e4, e5, dem_sorts]
      simp [Srt.cells]
theorem c11 (p : Int) (sg : Sig) : acall mach 11 [.pv (.int .i64 p)] sg = some (.pv (.str (srtAt p).nm), sg) := by
  rw [acall_fn (mf := mf11) rfl rfl rfl rfl]
  simp [mf11, c15, Srt.cells]
theorem c12 (p : Int) (sg : Sig) : acall mach 12 [.pv (.int .i64 p)] sg = some (.agg [.pv (.int .i64 (srtAt p).fk), .pv (.int .i64 (srtAt p).fn)], sg) := by
  rw [acall_fn (mf := mf12) rfl rfl rfl rfl]
  simp [mf12, c15, Srt.cells]
theorem c13 (p : Int) (sg : Sig) : acall mach 13 [.pv (.int .i64 p)] sg = some (.pv (.bool (p == 16 || (p == 18 || p == 19))), sg) := by
  rw [acall_fn (mf := mf13) rfl rfl rfl rfl]
  by_cases h1 : p = 16
  · simp [mf13, h1]
  · by_cases h2 : p = 18
    · simp [mf13, h1, h2]
    · simp [mf13, h1, h2]
      rw [beq_eq_false_iff_ne.2 h1, beq_eq_false_iff_ne.2 h2]; rfl
theorem c23 (s : Srt) (nm : List UInt8) (b : Nat) (sg : Sig) (h : sg.bl[b]? = some [.pv (.str nm)]) : acall mach 23 [.agg s.cells, .cell b 0] sg = some (.pv (.bool (s.nm == nm)), sg) := by
  rw [acall_fn (mf := mf23) rfl rfl rfl rfl]
  have h2 : ∀ x, (sg.bl ++ [x])[b]? = some [.pv (.str nm)] := fun x => by rw [List.getElem?_append_left (List.getElem?_eq_some_iff.1 h).1]; exact h
  simp [mf23, Srt.cells, h2]

/-- The place of the first sort of a name, from a place on. -/
def fromAt (nm : List UInt8) (i : Nat) : Option Nat := if h : i < 26 then (if ((srts.getD (i + 1) noSrt).nm == nm) = true then some i else fromAt nm (i + 1)) else none
termination_by 26 - i
def sgP (nm : List UInt8) : Sig := { bl := [[.pv (.str nm)], sortsV], fl := 0 }
def envP (i : Int) : Env := [(0, .row 1 10 26 10), (1, .fn 23 [.cell 0 0]), (7, .pv (.int .i64 26)), (8, .pv (.int .i64 i))]
theorem dem_cells (s : Srt) : s.cells.map dem = s.cells := rfl
theorem loop22 (nm : List UInt8) (sg : Sig) (hb : sg.bl = [[.pv (.str nm)], sortsV]) : ∀ n i : Nat, i + n = 26 → ex mach (.loop lp22x0) (envP i) sg = some (match fromAt nm i with
    | some j => (.ret, [(4, .pv (.int .i64 j))], sg)
    | none => (.ext 0, envP 26 ++ [(9, .pv (.bool false))], sg))
  | 0, i, h => by
    obtain rfl : i = 26 := by omega
    rw [ex_loop]
    have e : fromAt nm 26 = none := by unfold fromAt; simp
    rw [e]
    simp [lp22x0, envP]
  | n + 1, i, h => by
    have hi : i < 26 := by omega
    rw [ex_loop]
    have e1 : ((i : Int)).toNat = i := by simp
    have e2 : 10 + i * 10 = (i + 1) * 10 := by omega
    have e3 := sortsV_row (i + 1) (by omega)
    have e4 : (i : Int) < 26 := by omega
    have e5 : (0 : Int) ≤ i := by omega
    have e6 : (i + 1) * 10 + 10 ≤ 270 := by omega
    have hw : IntKind.i64.wrap ((i : Int) + 1) = (i : Int) + 1 := wrap_in (by omega) (by omega)
    have hc := c23 (srts[i + 1]'(by rw [srts_len]; omega)) nm 0 sg (by rw [hb]; rfl)
    have hrec := loop22 nm sg hb n (i + 1) (by omega)
    have hg : srts.getD (i + 1) noSrt = srts[i + 1]'(by rw [srts_len]; omega) := by
      rw [List.getD_eq_getElem?_getD, List.getElem?_eq_getElem (by rw [srts_len]; omega)]; rfl
    have hf : fromAt nm i = if (srts[i + 1]'(by rw [srts_len]; omega)).nm == nm then some i else fromAt nm (i + 1) := by
      rw [fromAt, dif_pos hi, hg]
    rw [hf]
    have hx : (((i + 1 : Nat)) : Int) = (i : Int) + 1 := by simp
    cases hq : (srts[i + 1]'(by rw [srts_len]; omega)).nm == nm with
    | true => simp [lp22x0, envP, e1, e2, e3, e4, e5, e6, hb, sortsV_len, dem_cells, hc, hq]
    | false =>
      rw [hx] at hrec
      simp [lp22x0, envP, e1, e2, e3, e4, e5, e6, hb, sortsV_len, dem_cells, hc, hq, hw]
      simpa [lp22x0, envP] using hrec

def propOf (nm : List UInt8) : Int := match fromAt nm 0 with
  | some j => (j : Int) + 1
  | none => 0
theorem fromAt_lt (nm : List UInt8) : ∀ n i j, i + n = 26 → fromAt nm i = some j → i ≤ j ∧ j < 26 ∧ (srts.getD (j + 1) noSrt).nm = nm
  | 0, i, j, h, e => by rw [fromAt, dif_neg (by omega)] at e; cases e
  | n + 1, i, j, h, e => by
    rw [fromAt, dif_pos (by omega)] at e
    split at e
    · rename_i hq
      cases e
      exact ⟨Nat.le_refl _, by omega, by simpa using hq⟩
    · obtain ⟨h1, h2, h3⟩ := fromAt_lt nm n (i + 1) j (by omega) e
      exact ⟨by omega, h2, h3⟩
theorem c22 (nm : List UInt8) (sg : Sig) (hb : sg.bl = [[.pv (.str nm)], sortsV]) : acall mach 22 [.row 1 10 26 10, .fn 23 [.cell 0 0]] sg = some (.pv (.int .i64 (match fromAt nm 0 with
    | some j => (j : Int)
    | none => -1)), sg) := by
  rw [acall_fn (mf := mf22) rfl rfl rfl rfl]
  have hl := loop22 nm { sg with fl := sg.bl.length } hb 26 0 rfl
  simp only [envP, Int.ofNat_eq_natCast, Int.natCast_zero, Int.cast_ofNat_Int, List.cons_append, List.nil_append] at hl
  cases hq : fromAt nm 0 with
  | none =>
    rw [hq] at hl
    simp [mf22, hl]
  | some j =>
    rw [hq] at hl
    simp [mf22, hl]
theorem zl10_len : zl10x0.length = 270 := by kernel_rfl
theorem sorts_cells : sortsV.all isCell = true := by kernel_rfl
theorem c10 (nm : List UInt8) (sg : Sig) : acall mach 10 [.pv (.str nm)] sg = some (.pv (.int .i64 (propOf nm)), sg) := by
  rw [acall_fn (mf := mf10) rfl rfl rfl rfl]
  have hc := c22 nm { bl := [[.pv (.str nm)], sortsV], fl := 0 } rfl
  have hf : fillA zl10x0 0 sortsV = sortsV := fillA_all (by rw [sortsV_len, zl10_len])
  simp [mf10, c21, sortsV_len, dem_sorts, hc, zl10_len, hf, -List.all_eq_true, sorts_cells]
  unfold propOf
  cases hq : fromAt nm 0 with
  | none => decide
  | some j =>
    have := fromAt_lt nm 26 0 j rfl hq
    have hw : IntKind.i64.wrap ((j : Int) + 1) = (j : Int) + 1 := wrap_in (by omega) (by omega)
    simp only [hw]
    rw [if_neg (by omega)]
end Go.Proofs.YtggoaggneapneaaDoorM
