/-
  Package value: reading a value.
-/
import Derived.Test.YtggoaggneapneaaDoorV3
import Derived.Test.YtggoaggneapneaaDoorT2
set_option linter.unusedVariables false
set_option linter.unusedSimpArgs false
namespace Go.Proofs.YtggoaggneapneaaDoorM
open Go

def autoB : List UInt8 := [97, 117, 116, 111]
def pxB : List UInt8 := [112, 120]
def percB : List UInt8 := [37]
/-- What a text is, of a sort: kind, number, whether any. -/
def anyV (t : Srt) (s : List UInt8) : Int × Int × Bool :=
  if 0 ≤ idxOf t.words s then (5, idxOf t.words s, true)
  else if t.auto = true ∧ s = autoB then (1, 0, true)
  else if t.length = true ∧ s = [48] then (2, 0, true)
  else if t.color = true then (4, (colorV s).getD 0, (colorV s).isSome)
  else if t.length = true ∧ (measV s pxB).isSome = true then (2, (measV s pxB).getD 0, true)
  else if t.part = true then (if (measV s percB).isSome then 3 else 0, (measV s percB).getD 0, (measV s percB).isSome)
  else if t.number = true then (if (measV s []).isSome then 6 else 0, (measV s []).getD 0, (measV s []).isSome)
  else (0, 0, false)
def valA (k n : Int) : AV := .agg [.pv (.int .i64 k), .pv (.int .i64 n)]
set_option maxHeartbeats 8000000 in
theorem c_any (t : Srt) (s : List UInt8) (hw : t.words.length ≤ 100) (hm : s.length + 6 ≤ maxI) (sg : Sig) : acall mach 17 [.agg t.cells, .pv (.str s)] sg = some (.tup [valA (anyV t s).1 (anyV t s).2.1, .pv (.bool (anyV t s).2.2)], sg) := by
  rw [acall_fn (mf := mf17) rfl rfl rfl rfl]
  have hi := c_IndexS t.words s (by simp only [maxI]; omega)
  unfold strRows at hi
  have hpx := c_measure s pxB hm 2
  have hpc := c_measure s percB hm 3
  have hno := c_measure s [] hm 6
  have hco := c_color s (by omega)
  unfold pxB at hpx
  unfold percB at hpc
  unfold anyV valA
  by_cases g1 : 0 ≤ idxOf t.words s
  · simp [mf17, Srt.cells, hi, g1]
  obtain ⟨nm, a, l, pt, b, c, nu, ws, fk, fn⟩ := t
  rw [if_neg g1]
  simp only at hi g1
  by_cases g2 : a = true ∧ s = autoB
  · rw [if_pos g2]
    have hs : (s == [97, 117, 116, 111]) = true := by rw [g2.2]; rfl
    obtain ⟨rfl, h2⟩ := g2
    simp [mf17, Srt.cells, hi, g1, hs]
  rw [if_neg g2]
  have g2' : a = false ∨ (s == [97, 117, 116, 111]) = false := by
    cases a with
    | false => exact .inl rfl
    | true => exact .inr (by rw [beq_eq_false_iff_ne]; exact fun e => g2 ⟨rfl, e⟩)
  by_cases g3 : l = true ∧ s = [48]
  · rw [if_pos g3]
    have hs : (s == [48]) = true := by rw [g3.2]; rfl
    obtain ⟨rfl, h2⟩ := g3
    rcases g2' with g2' | g2' <;> (try subst g2')
    · simp [mf17, Srt.cells, hi, g1, hs]
    · cases a <;> simp [mf17, Srt.cells, hi, g1, hs, g2']
  rw [if_neg g3]
  have g3' : l = false ∨ (s == [48]) = false := by
    cases l with
    | false => exact .inl rfl
    | true => exact .inr (by rw [beq_eq_false_iff_ne]; exact fun e => g3 ⟨rfl, e⟩)
  clear g2 g3
  cases c with
  | true =>
    rcases g2' with g2' | g2' <;> rcases g3' with g3' | g3' <;> (try subst g2') <;> (try subst g3')
    · simp [mf17, Srt.cells, hi, g1, hco]
    · cases l <;> simp [mf17, Srt.cells, hi, g1, hco, g3']
    · cases a <;> simp [mf17, Srt.cells, hi, g1, hco, g2']
    · cases a <;> cases l <;> simp [mf17, Srt.cells, hi, g1, hco, g2', g3']
  | false =>
    cases l with
    | false =>
      cases pt with
      | true =>
        rcases g2' with g2' | g2' <;> (try subst g2')
        · simp [mf17, Srt.cells, hi, g1, hpc, percB] <;> rfl
        · cases a <;> simp [mf17, Srt.cells, hi, g1, hpc, percB, g2'] <;> rfl
      | false =>
        rcases g2' with g2' | g2' <;> (try subst g2')
        · cases nu <;> simp [mf17, Srt.cells, hi, g1, hno]
        · cases a <;> cases nu <;> simp [mf17, Srt.cells, hi, g1, hno, g2']
    | true =>
      have g3'' : (s == [48]) = false := by
        rcases g3' with h | h
        · cases h
        · exact h
      cases hpm : (measV s pxB).isSome with
      | true =>
        have hpm' : (measV s [112, 120]).isSome = true := hpm
        rcases g2' with g2' | g2' <;> (try subst g2')
        · simp [mf17, Srt.cells, hi, g1, hpx, hpm', g3'', pxB]
        · cases a <;> simp [mf17, Srt.cells, hi, g1, hpx, hpm', g3'', pxB, g2']
      | false =>
        have hpm' : (measV s [112, 120]).isSome = false := hpm
        rcases g2' with g2' | g2' <;> (try subst g2')
        · cases pt <;> cases nu <;> simp [mf17, Srt.cells, hi, g1, hpx, hpc, hno, hpm', g3'', percB, pxB] <;> rfl
        · cases a <;> cases pt <;> cases nu <;> simp [mf17, Srt.cells, hi, g1, hpx, hpc, hno, hpm', g3'', percB, pxB, g2'] <;> rfl

/-! ### Reading -/
def readV (p : Int) (s : List UInt8) : Option (Int × Int) :=
  if (anyV (srtAt p) (lowerB (trimB s))).2.2 = true ∧ mayV (srtAt p) (anyV (srtAt p) (lowerB (trimB s))).1 (anyV (srtAt p) (lowerB (trimB s))).2.1 = true then some ((anyV (srtAt p) (lowerB (trimB s))).1, (anyV (srtAt p) (lowerB (trimB s))).2.1) else none
def readA : Option (Int × Int) → AV
  | some (k, n) => .tup [valA k n, .pv (.bool true)]
  | none => .tup [valA 0 0, .pv (.bool false)]
theorem srt_words (p : Int) : (srtAt p).words.length ≤ 100 := by
  unfold srtAt
  split
  · rw [List.getD_eq_getElem?_getD]
    have h : ∀ s ∈ srts, s.words.length ≤ 100 := by decide
    cases hx : srts[p.toNat]? with
    | none => decide
    | some s => exact h s (List.mem_of_getElem? hx)
  · decide
theorem trimB_len (s : List UInt8) : (trimB s).length ≤ s.length := by
  unfold trimB rdrop
  refine Nat.le_trans (List.dropWhile_sublist _).length_le ?_
  rw [List.length_reverse]
  refine Nat.le_trans (List.dropWhile_sublist _).length_le ?_
  simp
theorem c_Read (p : Int) (s : List UInt8) (hm : s.length ≤ 140737488355328) (sg : Sig) : acall mach 8 [.pv (.int .i64 p), .pv (.str s)] sg = some (readA (readV p s), sg) := by
  rw [acall_fn (mf := mf8) rfl rfl rfl rfl]
  have hl := trimB_len s
  have ho := c15 p
  have ht := c_ScanTrim s (by simp only [maxI]; omega)
  have hlo := c_Lower (trimB s) (by omega)
  have ha := c_any (srtAt p) (lowerB (trimB s)) (srt_words p) (by simp only [lowerB, List.length_map, maxI]; omega)
  have hd := dem_cells (srtAt p)
  unfold readV
  generalize lowerB (trimB s) = x at hlo ha ⊢
  have hy := c9 p (anyV (srtAt p) x).1 (anyV (srtAt p) x).2.1
  generalize hk : (anyV (srtAt p) x).1 = k at ha hy ⊢
  generalize hn : (anyV (srtAt p) x).2.1 = n at ha hy ⊢
  generalize hb : (anyV (srtAt p) x).2.2 = b at ha ⊢
  generalize hmy : mayV (srtAt p) k n = my at hy ⊢
  unfold valA at ha
  have hc1 : (srtAt p).cells.all closed1 = true := rfl
  generalize hc : (srtAt p).cells = cs at ho ha hd hc1
  have hcl : cs.length = 10 := by rw [← hc]; rfl
  have hcc : cs.all isCell = true := by rw [← hc]; rfl
  have hf : ∀ zs : List AV, zs.length = 10 → fillA zs 0 cs = cs := fun zs h => fillA_all (by rw [hcl, h])
  have hft := hf [.pv (.str []), .pv (.bool false), .pv (.bool false), .pv (.bool false), .pv (.bool false), .pv (.bool false), .pv (.bool false), .nils, .pv (.int .i64 0), .pv (.int .i64 0)] rfl
  have htk : cs.take 10 = cs := List.take_of_length_le (by omega)
  cases b with
  | false => simp [mf8, ho, ht, hlo, ha, hy, hd, hcl, hft, htk, -List.all_eq_true, hcc, hc1, readA, valA]
  | true => cases my <;> simp [mf8, ho, ht, hlo, ha, hy, hd, hcl, hft, htk, -List.all_eq_true, hcc, hc1, readA, valA]
end Go.Proofs.YtggoaggneapneaaDoorM
