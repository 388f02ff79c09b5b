/-
  The mirror, part 5: append.
-/
import Derived.Test.YtggoaggneapneaaDoorM4
set_option linter.unusedVariables false
set_option linter.unusedSimpArgs false
namespace Go.Proofs.YtggoaggneapneaaDoorM
open Go
variable {X : Nat → Prop} {g g' : G} {nt : Nat} {s : St} {a : Act} {w w' : World} {F : Facts} {P : Program}

/-- Cells as they lie one behind the other. -/
def HasRows (F : Facts) (k o sz : Nat) (xs : List (List PV)) : Prop :=
  ∀ (j : Nat) r (q : Nat) p, xs[j]? = some r → r[q]? = some p → ∃ v, F k (o + j * sz + q) = some v ∧ VRep F p v
theorem VRep.of_rows {k o sz c : Nat} {xs : List (List PV)} (hn : ∀ r ∈ xs, r.length = sz) (hc : xs.length ≤ c) (h : HasRows F k o sz xs) :
    VRep F (.sl xs) (.slice (some ⟨k, o, none⟩) xs.length c) := by
  refine .sl xs k o c sz (fun j q => (F k (o + j * sz + q)).getD undef) hc hn ?_ ?_
  · intro j r q p hj hq
    obtain ⟨v, h1, _⟩ := h j r q p hj hq
    rw [h1]; rfl
  · intro j r q p hj hq
    obtain ⟨v, h1, h2⟩ := h j r q p hj hq
    rw [h1]; exact h2
theorem VRep.rows {k o n c sz : Nat} {xs : List (List PV)} (h : VRep F (.sl xs) (.slice (some ⟨k, o, none⟩) n c)) (hn : ∀ r ∈ xs, r.length = sz) :
    n = xs.length ∧ xs.length ≤ c ∧ HasRows F k o sz xs := by
  cases h with
  | slE a c => exact ⟨rfl, Nat.zero_le _, fun j r q p hj => by simp at hj⟩
  | sl xs b o c sz' cv hc hn' hF hR =>
    refine ⟨rfl, hc, fun j r q p hj hq => ?_⟩
    have : sz' = sz := by
      have hm := List.mem_of_getElem? hj
      rw [← hn' r hm, ← hn r hm]
    subst this
    exact ⟨cv j q, hF j r q p hj hq, hR j r q p hj hq⟩
theorem HasRows.mono {F' : Facts} (hF : F.le F') {k o sz : Nat} {xs : List (List PV)} (h : HasRows F k o sz xs) : HasRows F' k o sz xs :=
  fun j r q p hj hq => let ⟨v, h1, h2⟩ := h j r q p hj hq; ⟨v, hF _ _ _ h1, h2.mono hF⟩
theorem HasRows.append {k o sz : Nat} {xs ys : List (List PV)} (h : HasRows F k o sz xs) (h' : HasRows F k (o + xs.length * sz) sz ys) : HasRows F k o sz (xs ++ ys) := by
  intro j r q p hj hq
  rcases Nat.lt_or_ge j xs.length with hl | hl
  · rw [List.getElem?_append_left hl] at hj; exact h j r q p hj hq
  · rw [List.getElem?_append_right hl] at hj
    have := h' (j - xs.length) r q p hj hq
    have e : o + xs.length * sz + (j - xs.length) * sz + q = o + j * sz + q := by
      rw [Nat.sub_mul]
      have : xs.length * sz ≤ j * sz := Nat.mul_le_mul_right _ hl
      omega
    rwa [e] at this

/-- Concrete cells of rows. -/
def Cells (F : Facts) (sz : Nat) (xs : List (List PV)) (cs : List Value) : Prop :=
  cs.length = xs.length * sz ∧ (∀ v ∈ cs, v.oneCell' = true) ∧ ∀ (j : Nat) r (q : Nat) p, xs[j]? = some r → r[q]? = some p → ∃ v, cs[j * sz + q]? = some v ∧ VRep F p v
theorem VRep.oneCell {p : PV} {v : Value} (h : VRep F p v) : v.oneCell' = true := by cases h <;> rfl
theorem Cells.mono {F' : Facts} (hF : F.le F') {sz : Nat} {xs : List (List PV)} {cs : List Value} (h : Cells F sz xs cs) : Cells F' sz xs cs :=
  ⟨h.1, h.2.1, fun j r q p hj hq => let ⟨v, h1, h2⟩ := h.2.2 j r q p hj hq; ⟨v, h1, h2.mono hF⟩⟩

theorem div_lt {j n sz : Nat} (h : j < n * sz) : j / sz < n := Nat.div_lt_of_lt_mul (by rw [Nat.mul_comm]; exact h)
theorem sz_pos {j n sz : Nat} (h : j < n * sz) : 0 < sz := by
  rcases Nat.eq_zero_or_pos sz with h0 | h0
  · subst h0; simp at h
  · exact h0
/-- What memory holds of rows. -/
theorem HasRows.cells {k o sz : Nat} {xs : List (List PV)} (h : HasRows F k o sz xs) (hn : ∀ r ∈ xs, r.length = sz) :
    ∃ cs, Cells F sz xs cs ∧ ∀ (j : Nat) v, cs[j]? = some v → F k (o + j) = some v := by
  have at_ : ∀ j, j < xs.length * sz → ∃ v, F k (o + j) = some v ∧ v.oneCell' = true := by
    intro j hj
    have hp := sz_pos hj
    have h1 := div_lt hj
    have h2 := Nat.mod_lt j hp
    have hl := hn _ (List.getElem_mem (l := xs) h1)
    obtain ⟨v, h3, h4⟩ := h (j / sz) _ (j % sz) _ (List.getElem?_eq_getElem h1) (List.getElem?_eq_getElem (by rw [hl]; exact h2))
    have e : o + j / sz * sz + j % sz = o + j := by
      have := Nat.div_add_mod j sz
      rw [Nat.mul_comm] at this
      omega
    rw [e] at h3
    exact ⟨v, h3, h4.oneCell⟩
  refine ⟨(List.range (xs.length * sz)).map fun j => (F k (o + j)).getD undef, ⟨by simp, ?_, ?_⟩, ?_⟩
  · intro v hv
    simp only [List.mem_map, List.mem_range] at hv
    obtain ⟨j, hj, rfl⟩ := hv
    obtain ⟨v, h1, h2⟩ := at_ j hj
    rw [h1]; exact h2
  · intro j r q p hj hq
    obtain ⟨v, h1, h2⟩ := h j r q p hj hq
    have hjl := (List.getElem?_eq_some_iff.1 hj).1
    have hql := (List.getElem?_eq_some_iff.1 hq).1
    have hrl := hn r (List.mem_of_getElem? hj)
    have hlt : j * sz + q < xs.length * sz := by
      have : (j + 1) * sz ≤ xs.length * sz := Nat.mul_le_mul_right _ hjl
      rw [Nat.add_mul] at this
      omega
    refine ⟨v, ?_, h2⟩
    rw [List.getElem?_map, List.getElem?_range hlt]
    simp only [Option.map_some, ← Nat.add_assoc, h1, Option.getD_some]
  · intro j v hj
    rw [List.getElem?_map] at hj
    obtain ⟨i, hi, hv⟩ := Option.map_eq_some_iff.1 hj
    have hil := (List.getElem?_eq_some_iff.1 hi).1
    simp at hil
    rw [List.getElem?_range hil] at hi
    cases hi
    obtain ⟨v', h1, _⟩ := at_ j hil
    rw [h1] at hv
    simp at hv
    rw [h1, hv]
theorem HasRows.of_cells {k o sz : Nat} {xs : List (List PV)} {cs : List Value} (h : Cells F sz xs cs) (hF : ∀ (j : Nat) v, cs[j]? = some v → F k (o + j) = some v) : HasRows F k o sz xs := by
  intro j r q p hj hq
  obtain ⟨v, h1, h2⟩ := h.2.2 j r q p hj hq
  exact ⟨v, by rw [Nat.add_assoc]; exact hF _ _ h1, h2⟩
theorem Cells.append {sz : Nat} {xs ys : List (List PV)} {cs ds : List Value} (h : Cells F sz xs cs) (h' : Cells F sz ys ds) : Cells F sz (xs ++ ys) (cs ++ ds) := by
  refine ⟨by simp [h.1, h'.1, Nat.add_mul], fun v hv => (List.mem_append.1 hv).elim (h.2.1 v) (h'.2.1 v), ?_⟩
  intro j r q p hj hq
  rcases Nat.lt_or_ge j xs.length with hl | hl
  · rw [List.getElem?_append_left hl] at hj
    obtain ⟨v, h1, h2⟩ := h.2.2 j r q p hj hq
    exact ⟨v, by rw [List.getElem?_append_left (List.getElem?_eq_some_iff.1 h1).1]; exact h1, h2⟩
  · rw [List.getElem?_append_right hl] at hj
    obtain ⟨v, h1, h2⟩ := h'.2.2 (j - xs.length) r q p hj hq
    refine ⟨v, ?_, h2⟩
    have e : j * sz + q - cs.length = (j - xs.length) * sz + q := by
      rw [h.1, Nat.sub_mul]
      have : xs.length * sz ≤ j * sz := Nat.mul_le_mul_right _ hl
      omega
    have hge : cs.length ≤ j * sz + q := by
      rw [h.1]
      have : xs.length * sz ≤ j * sz := Nat.mul_le_mul_right _ hl
      omega
    rw [List.getElem?_append_right hge, e]
    exact h1

theorem add_plain (k o j : Nat) : (⟨k, o, none⟩ : Addr).add j = ⟨k, o + j, none⟩ := by unfold Addr.add; split <;> simp_all

/-! ### What is appended -/
/-- A source of so many elements, whose cells are read in whatever world that holds the facts. -/
structure Src (P : Program) (F : Facts) (sz : Nat) (ys : List (List PV)) (x : Value) : Prop where
  len : Builtin.lenOf x = pure ys.length
  ex : ∃ cs, Cells F sz ys cs ∧ ∀ w : World, (∀ b o v, F b o = some v → w.cell? ⟨b, o, none⟩ = some v) → (Builtin.firstCells sz ys.length x).run P w = .ok cs.toArray w

theorem Src.slice {sz c : Nat} {ys : List (List PV)} {x : Value} (h : VRep F (.sl ys) x) (hn : ∀ r ∈ ys, r.length = sz) : Src P F sz ys x := by
  cases h with
  | slE a c =>
    refine ⟨rfl, [], ⟨by simp, by simp, fun j r q p hj => by simp at hj⟩, fun w _ => ?_⟩
    cases a with
    | none => simp [Builtin.firstCells]
    | some a => simp [Builtin.firstCells, loadCells, loadCellsFrom]
  | sl xs b o c sz' cv hc hn' hF hR =>
    have h : VRep F (.sl ys) (.slice (some ⟨b, o, none⟩) ys.length c) := .sl ys b o c sz' cv hc hn' hF hR
    obtain ⟨_, _, hr⟩ := h.rows hn
    obtain ⟨cs, h1, h2⟩ := hr.cells hn
    exact ⟨rfl, cs, h1, fun w hw => run_firstCells_some w sz ys.length _ _ _ cs h1.1 fun j v hj => by rw [add_plain]; exact hw _ _ _ (h2 j v hj)⟩
theorem strCells_cells (s : List UInt8) : Cells F 1 (ofBs s) (s.map fun b => .int .u8 (b.toNat : Int)) := by
  refine ⟨by simp [ofBs], by simp [Value.oneCell'], ?_⟩
  intro j r q p hj hq
  simp only [ofBs, List.getElem?_map] at hj
  obtain ⟨b, hb, rfl⟩ := Option.map_eq_some_iff.1 hj
  have : q = 0 := by
    rcases Nat.eq_zero_or_pos q with h0 | h0
    · exact h0
    · rw [List.getElem?_eq_none (by simp; omega)] at hq; cases hq
  subst this
  simp at hq
  subst hq
  exact ⟨_, by simp [hb], .int _ _⟩
theorem Src.string {s : List UInt8} {x : Value} (h : VRep F (.str s) x) : Src P F 1 (ofBs s) x := by
  cases h with
  | str s bs h =>
    have hsz : bs.size = s.length := by
      rw [← h]
      show bs.data.size = bs.data.toList.length
      exact (Array.length_toList).symm
    refine ⟨by simp only [Builtin.lenOf, ofBs, List.length_map, hsz], _, strCells_cells s, fun w _ => ?_⟩
    have e : (ofBs s).length = bs.size := by simp only [ofBs, List.length_map, hsz]
    rw [e, Lib.run_firstCells_string]
    congr 1
    simp only [Lib.strCells, ← h]
/-! ### The operation's run -/
theorem run_append_in (w : World) {t u ty e : TypeId} {i : TypeInfo} {d : TypeDesc} (ht : P.underlying t = some (.slice e)) (hu : P.underlying u = some d) (hd : (∃ e2, d = .slice e2) ∨ d = .string) (hi : P.info? e = some i)
    (base : Option Addr) (n c m : Nat) (x : Value) (hlen : Builtin.lenOf x = pure m) (cs : List Value) (hf : (Builtin.firstCells i.size m x).run P w = .ok cs.toArray w) (hroom : n + m ≤ c)
    (hst : ∀ a, base = some a → (storeCells (a.add (n * i.size)) cs).run P w = .ok () w') (hst' : base = none → w' = w) :
    (Builtin.append_ #[t, u] ty #[.slice base n c, x]).run P w = .ok (.slice base (n + m) c) w' := by
  cases base with
  | none =>
    have := hst' rfl
    subst this
    rcases hd with ⟨e2, rfl⟩ | rfl
    · simp [Builtin.append_, run_underlying ht, run_underlying hu, sizeOf, typeInfo, hi, hlen, hroom, hf]
    · simp [Builtin.append_, run_underlying ht, run_underlying hu, sizeOf, typeInfo, hi, hlen, hroom, hf]
  | some b =>
    have h1 := hst b rfl
    rcases hd with ⟨e2, rfl⟩ | rfl
    · simp [Builtin.append_, run_underlying ht, run_underlying hu, sizeOf, typeInfo, hi, hlen, hroom, hf, h1]
    · simp [Builtin.append_, run_underlying ht, run_underlying hu, sizeOf, typeInfo, hi, hlen, hroom, hf, h1]

theorem run_append_out (w : World) {t u ty e : TypeId} {i : TypeInfo} {z : Value} {d : TypeDesc} (ht : P.underlying t = some (.slice e)) (hu : P.underlying u = some d) (hd : (∃ e2, d = .slice e2) ∨ d = .string) (hi : P.info? e = some i) (hz : i.zero = some z)
    (base : Option Addr) (n c m : Nat) (x : Value) (hlen : Builtin.lenOf x = pure m) (cs olds : List Value) (hf : (Builtin.firstCells i.size m x).run P w.drew = .ok cs.toArray w.drew)
    (hfo : (Builtin.firstCells i.size n (.slice base n c)).run P w.drew = .ok olds.toArray w.drew) (hroom : c < n + m)
    (h63 : ((n + m : Nat) : Int) ≤ 9223372036854775807) (hfit : Builtin.nextslicecap (n + m) c * i.bytes ≤ 281474976710656) :
    (Builtin.append_ #[t, u] ty #[.slice base n c, x]).run P w =
      .ok (.slice (some ⟨w.heap.size, 0, none⟩) (n + m) (grownCap w (n + m) c e))
        (w.drew.alloc (.cells (olds.toArray ++ cs.toArray ++ Builtin.zeroCells z.cells (grownCap w (n + m) c e - (n + m))) e)) := by
  have hn : ¬ (n + m ≤ c) := by omega
  have h63' : ¬ (9223372036854775807 < ((n : Int) + (m : Int))) := by omega
  have h48' : ¬ (281474976710656 < Builtin.nextslicecap (n + m) c * i.bytes) := by omega
  rcases hd with ⟨e2, rfl⟩ | rfl
  · simp [Builtin.append_, run_underlying ht, run_underlying hu, sizeOf, typeInfo, zeroValue, hi, hz, hlen, hn, h63', h48', Question.forced, hf, hfo, newRow, grownCap]
    congr 2
    apply Array.ext'
    simp [List.append_assoc]
  · simp [Builtin.append_, run_underlying ht, run_underlying hu, sizeOf, typeInfo, zeroValue, hi, hz, hlen, hn, h63', h48', Question.forced, hf, hfo, newRow, grownCap]
    congr 2
    apply Array.ext'
    simp [List.append_assoc]
end Go.Proofs.YtggoaggneapneaaDoorM
