/-
  The mirror, part 27: the check of a region whose order is drawn and that turns memory.
-/
import Derived.Test.YtggoaggneapneaaDoorM26
set_option linter.unusedVariables false
set_option linter.unusedSimpArgs false
namespace Go.Proofs.YtggoaggneapneaaDoorM
open Go
variable {M : Mach}

def rkOf : List Nat → Nat → Nat
  | [], i => i
  | x :: l, i => (x :: l).getD i 0
def chkBack (m : Region.Mode) (rk : List Nat) (n : Nat) : Nat → List Oper → Bool
  | _, [] => true
  | i, o :: l => o.after.toList.all (fun e => !(Region.binds m e) || (decide (rkOf rk e.on < rkOf rk i) && decide (e.on < n))) && chkBack m rk n (i + 1) l
theorem chkBack_ok {m : Region.Mode} {rk : List Nat} {n : Nat} : ∀ {k : Nat} {l : List Oper}, chkBack m rk n k l = true → ∀ (i : Nat) o, l[i]? = some o → ∀ e ∈ o.after, Region.binds m e = true → rkOf rk e.on < rkOf rk (k + i) ∧ e.on < n
  | k, [], _ => by simp
  | k, o :: l, h => by
    simp only [chkBack, Bool.and_eq_true, List.all_eq_true, Bool.or_eq_true, Bool.not_eq_true', decide_eq_true_eq] at h
    intro i o' hi e he hb
    cases i with
    | zero =>
      simp at hi; subst hi
      rcases h.1 e (by simpa using he) with h1 | h1
      · rw [hb] at h1; cases h1
      · exact h1
    | succ i =>
      have := chkBack_ok h.2 i o' (by simpa using hi) e he hb
      rw [show k + (i + 1) = k + 1 + i by omega]
      exact this
def chkBacks (rk : List Nat) (rs : List Oper) : Bool := chkBack .text [] rs.length 0 rs && chkBack .any [] rs.length 0 rs && chkBack .gc rk rs.length 0 rs
theorem chkBacks_ok {rk : List Nat} {ops : Array Oper} (h : chkBacks rk ops.toList = true) : BackOK ops := by
  simp only [chkBacks, Bool.and_eq_true] at h
  have key : ∀ m r, chkBack m r ops.toList.length 0 ops.toList = true → ∃ rk : Nat → Nat, ∀ (i : Nat) o, ops[i]? = some o → ∀ e ∈ o.after, Region.binds m e = true → rk e.on < rk i ∧ e.on < ops.size := fun m r h =>
    ⟨rkOf r, fun i o hi e he hb => by
      have := chkBack_ok h i o (by simpa using hi) e he hb
      simpa using this⟩
  intro m
  cases m with
  | text => exact key _ _ h.1.1
  | any => exact key _ _ h.1.2
  | gc => exact key _ _ h.2
def commB (M : Mach) (m1 m2 : MOp) : Bool :=
  memI M m1.i != 9 && memI M m2.i != 9 && (wrO m1).all (fun k => !((usesO m2).contains k) && !((wrO m2).contains k)) && (wrO m2).all (fun k => !((usesO m1).contains k)) &&
  (memI M m1.i == 0 || memI M m2.i == 0 || (memI M m1.i == 1 && memI M m2.i == 1) || (isLd m1.i && m1.g.isNone && isAl m2.i && m2.g.isNone)) && (!(isCl m1.i) || (!(isLoadP m2.i) && !(isAppC m2.i))) && (!(isCl m2.i) || (!(isLoadP m1.i) && !(isAppC m1.i)))
theorem commB_ok {m1 m2 : MOp} (h : commB M m1 m2 = true) : Comm M m1 m2 := by
  simp only [commB, Bool.and_eq_true, Bool.or_eq_true, bne_iff_ne, ne_eq, beq_iff_eq, List.all_eq_true, Bool.not_eq_true', List.contains_eq_mem, decide_eq_false_iff_not] at h
  obtain ⟨⟨⟨⟨⟨⟨h1, h2⟩, h3⟩, h4⟩, h5⟩, h6⟩, h7⟩ := h
  refine ⟨h1, h2, h3, h4, ?_, fun hc => ?_, fun hc => ?_⟩
  · rcases h5 with ((h5 | h5) | h5) | h5
    · exact .inl h5
    · exact .inr (.inl h5)
    · exact .inr (.inr (.inl h5))
    · simp only [Option.isNone_iff_eq_none] at h5
      exact .inr (.inr (.inr ⟨h5.1.1.1, h5.1.1.2, h5.1.2, h5.2⟩))
  · rcases h6 with h6 | h6
    · rw [hc] at h6; cases h6
    · exact h6
  · rcases h7 with h7 | h7
    · rw [hc] at h7; cases h7
    · exact h7

/-- The firm ancestors of each operation. -/
def ancT : List Oper → List (List Nat) → List (List Nat)
  | [], acc => acc
  | o :: l, acc => ancT l (acc ++ [((o.after.toList.filter firm).flatMap fun e => e.on :: acc.getD e.on []).eraseDups])
theorem ancT_ok {ops : Array Oper} : ∀ {l : List Oper} {acc : List (List Nat)}, (∀ i, (l[i]?) = ops.toList[acc.length + i]?) → (∀ (y : Nat) r, acc[y]? = some r → ∀ x ∈ r, Anc ops x y) → ∀ (y : Nat) r, (ancT l acc)[y]? = some r → ∀ x ∈ r, Anc ops x y
  | [], acc, _, hA => hA
  | o :: l, acc, hl, hA => by
    refine ancT_ok (l := l) (fun i => ?_) fun y r hy x hx => ?_
    · have := hl (i + 1)
      simp only [List.getElem?_cons_succ] at this
      rw [this, List.length_append]
      congr 1
      simp only [List.length_cons, List.length_nil]; omega
    · rcases Nat.lt_or_ge y acc.length with h | h
      · rw [List.getElem?_append_left h] at hy
        exact hA y r hy x hx
      · rw [List.getElem?_append_right h] at hy
        have hy0 : y - acc.length = 0 := by
          rcases Nat.eq_zero_or_pos (y - acc.length) with h0 | h0
          · exact h0
          · rw [List.getElem?_eq_none (by simp; omega)] at hy; cases hy
        rw [hy0] at hy
        simp only [List.getElem?_cons_zero, Option.some.injEq] at hy
        subst hy
        have hyl : y = acc.length := by omega
        subst hyl
        rw [List.mem_eraseDups, List.mem_flatMap] at hx
        obtain ⟨e, he, hx⟩ := hx
        rw [List.mem_filter] at he
        have ho : ops[acc.length]? = some o := by
          have := hl 0
          simp only [List.getElem?_cons_zero, Nat.add_zero] at this
          simpa using this.symm
        have he1 : Anc ops e.on acc.length := .edge _ o e ho (by simpa using he.1) he.2
        rcases List.mem_cons.1 hx with rfl | hx
        · exact he1
        · simp only [List.getD_eq_getElem?_getD] at hx
          cases hr : acc[e.on]? with
          | none => rw [hr] at hx; simp at hx
          | some r =>
            rw [hr] at hx
            exact .trans _ _ _ (hA e.on r hr x (by simpa using hx)) he1

def pairsB (M : Mach) (ms : List MOp) (T : List (List Nat)) : List Nat → Bool
  | [] => true
  | x :: l => l.all (fun y => (T.getD y []).contains x || commB M (ms.getD x nop) (ms.getD y nop)) && pairsB M ms T l
theorem pairsB_ok {ops : Array Oper} {ms : List MOp} {T : List (List Nat)} (hT : ∀ (y : Nat) r, T[y]? = some r → ∀ x ∈ r, Anc ops x y) : ∀ {l : List Nat}, pairsB M ms T l = true → ∀ x y, Ahead l x y → Anc ops x y ∨ Comm M (ms.getD x nop) (ms.getD y nop)
  | [], _, x, y, h => by cases h
  | z :: l, h, x, y, ha => by
    simp only [pairsB, Bool.and_eq_true, List.all_eq_true] at h
    cases ha with
    | cons _ ha => exact pairsB_ok hT h.2 x y ha
    | cons_cons _ ha =>
      have hy : y ∈ l := ha.subset (by simp)
      have := h.1 y hy
      simp only [Bool.or_eq_true] at this
      rcases this with h1 | h1
      · left
        simp only [List.getD_eq_getElem?_getD, List.contains_eq_mem, decide_eq_true_eq] at h1
        cases hr : T[y]? with
        | none => rw [hr] at h1; simp at h1
        | some r => rw [hr] at h1; exact hT y r hr z (by simpa using h1)
      · exact .inr (commB_ok h1)

def chkLoud (M : Mach) (ms : List MOp) (ord rk : List Nat) (rs : List Oper) : Bool :=
  decide ord.Nodup && ord.all (fun i => decide (i < rs.length)) && (List.range rs.length).all (fun i => ord.contains i) && chkBacks rk rs && ms.all (fun m => memI M m.i != 9) && pairsB M ms (ancT rs []) ord
theorem chkLoud_ok {ms : List MOp} {ord rk : List Nat} {ops : Array Oper} (h : chkLoud M ms ord rk ops.toList = true) : LoudOK M (inOrd ms ord) ord ops (fun i => ms.getD i nop) := by
  simp only [chkLoud, Bool.and_eq_true, decide_eq_true_eq, List.all_eq_true, bne_iff_ne, ne_eq] at h
  obtain ⟨⟨⟨⟨⟨h1, h2⟩, h3⟩, h4⟩, h5⟩, h6⟩ := h
  refine ⟨rfl, h1, fun i => ⟨fun hi => by simpa using h2 i hi, fun hi => by simpa using h3 i (List.mem_range.2 (by simpa using hi))⟩, chkBacks_ok h4, fun i => ?_, ?_⟩
  · simp only [List.getD_eq_getElem?_getD]
    cases hm : ms[i]? with
    | none => simp [nop, memI]
    | some m => simpa using h5 m (List.mem_of_getElem? hm)
  · exact pairsB_ok (ancT_ok (ops := ops) (fun i => by simp) (fun y r hr => by simp at hr)) h6
end Go.Proofs.YtggoaggneapneaaDoorM
