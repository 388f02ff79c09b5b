/-
  The mirror, part 19: whatever order is drawn for a region that turns nothing, it comes to the same.
-/
import Derived.Test.YtggoaggneapneaaDoorM18
set_option linter.unusedVariables false
set_option linter.unusedSimpArgs false
namespace Go.Proofs.YtggoaggneapneaaDoorM
open Go
variable {X : Nat → Prop} {g g' : G} {nt : Nat} {s : St} {a : Act} {w w' : World} {F : Facts} {P : Program} {o : Oper} {sg : Sig}

def firm (e : Edge) : Bool := match e.ground with
  | .textOnly _ => false
  | .gcOnly _ => false
  | _ => true
theorem firm_binds {e : Edge} (h : firm e = true) (m : Region.Mode) : Region.binds m e = true := by
  unfold firm at h
  unfold Region.binds
  split at h <;> simp_all

/-- A list of operations as they may be drawn, when those of D are done. -/
inductive Sched (ops : Array Oper) : (Nat → Bool) → List Nat → Prop where
  | nil (D : Nat → Bool) (h : ∀ i, i < ops.size → D i = true) : Sched ops D []
  | cons (D : Nat → Bool) (i : Nat) (o : Oper) (l : List Nat) (h : ops[i]? = some o) (hD : D i = false) (he : ∀ e ∈ o.after, firm e = true → D e.on = true) (hl : Sched ops (fun j => j == i || D j) l) : Sched ops D (i :: l)

theorem count_one {D : Nat → Bool} {i : Nat} (hD : D i = false) : ∀ (l : List Nat), l.Nodup → i ∈ l → (l.filter fun j => !(j == i || D j)).length + 1 = (l.filter fun j => !D j).length
  | [], _, h => by cases h
  | x :: l, hn, h => by
    rw [List.nodup_cons] at hn
    by_cases hx : x = i
    · subst hx
      have he : (l.filter fun j => !(j == x || D j)) = l.filter fun j => !D j := by
        apply List.filter_congr
        intro j hj
        have : j ≠ x := fun e => hn.1 (e ▸ hj)
        simp [this]
      rw [List.filter_cons, List.filter_cons, he]
      simp [hD]
    · have hi : i ∈ l := by
        rcases List.mem_cons.1 h with h | h
        · exact absurd h.symm hx
        · exact h
      have ih := count_one hD l hn.2 hi
      rw [List.filter_cons, List.filter_cons]
      by_cases hd : D x = true
      · simp [hd]; simpa using ih
      · simp only [Bool.not_eq_true] at hd
        simp [hd, hx]; simpa using ih

/-- No way of drawing an order gets stuck. -/
def BackOK (ops : Array Oper) : Prop := ∀ m : Region.Mode, ∃ rk : Nat → Nat, ∀ (i : Nat) o, ops[i]? = some o → ∀ e ∈ o.after, Region.binds m e = true → rk e.on < rk i ∧ e.on < ops.size
theorem ready_one {ops : Array Oper} {D : Nat → Bool} {m : Region.Mode} (hb : BackOK ops) : ∀ i, i < ops.size → D i = false → ∃ j o, ops[j]? = some o ∧ D j = false ∧ ∀ e ∈ o.after, Region.binds m e = true → D e.on = true ∧ e.on < ops.size := by
  obtain ⟨rk, hb⟩ := hb m
  have key : ∀ n i, rk i = n → i < ops.size → D i = false → ∃ j o, ops[j]? = some o ∧ D j = false ∧ ∀ e ∈ o.after, Region.binds m e = true → D e.on = true ∧ e.on < ops.size := by
    intro n
    induction n using Nat.strongRecOn with
    | _ n ih =>
      intro i hn hi hD
      have ho : ops[i]? = some ops[i] := Array.getElem?_eq_getElem hi
      by_cases h : ∀ e ∈ ops[i].after, Region.binds m e = true → D e.on = true
      · exact ⟨i, _, ho, hD, fun e he hbd => ⟨h e he hbd, (hb i _ ho e he hbd).2⟩⟩
      · simp only [Classical.not_forall] at h
        obtain ⟨e, he, hbd, hd⟩ := h
        obtain ⟨h1, h2⟩ := hb i _ ho e he hbd
        exact ih (rk e.on) (by omega) e.on rfl h2 (by simpa using hd)
  exact fun i hi hD => key _ i rfl hi hD
theorem go_sched {ops : Array Oper} (m : Region.Mode) (hb : BackOK ops) : ∀ (fuel t : Nat) (listed : Array Bool) (acc : List Nat), listed.size = ops.size →
    ((List.range ops.size).filter fun i => !listed.getD i true).length = fuel → ∃ l, Region.linearise.go m ops fuel t listed acc = acc.reverse ++ l ∧ Sched ops (fun i => listed.getD i true) l
  | 0, t, listed, acc, hs, hc => by
    refine ⟨[], by simp [Region.linearise.go], .nil _ fun i hi => ?_⟩
    have h0 := List.eq_nil_of_length_eq_zero hc
    rw [List.filter_eq_nil_iff] at h0
    have := h0 i (List.mem_range.2 hi)
    simpa using this
  | fuel + 1, t, listed, acc, hs, hc => by
    simp only [Region.linearise.go]
    generalize hrs : (List.filter (fun i => !listed.getD i true && ((ops[i]?).map fun x => x.after.all fun e => !Region.binds m e || listed.getD e.on false).getD false) (List.range ops.size)) = rs
    have hne : rs ≠ [] := by
      have h1 : ∃ i, i ∈ (List.range ops.size).filter fun i => !listed.getD i true := by
        cases hh : (List.range ops.size).filter fun i => !listed.getD i true with
        | nil => rw [hh] at hc; simp at hc
        | cons x l => exact ⟨x, List.mem_cons_self⟩
      obtain ⟨i, hi⟩ := h1
      rw [List.mem_filter] at hi
      obtain ⟨j, o, h2, h3, h4⟩ := ready_one (m := m) (D := fun i => listed.getD i true) hb i (List.mem_range.1 hi.1) (by simpa using hi.2)
      have hj := (Array.getElem?_eq_some_iff.1 h2).1
      have hm : j ∈ rs := by
        rw [← hrs, List.mem_filter]
        refine ⟨List.mem_range.2 hj, ?_⟩
        simp only [h3, h2, Option.map_some, Option.getD_some, Bool.not_false, Bool.true_and]
        rw [Array.all_eq_true_iff_forall_mem]
        intro e he
        cases hbd : Region.binds m e with
        | false => rfl
        | true =>
        obtain ⟨h5, h6⟩ := h4 e he hbd
        simp only [Array.getD_eq_getD_getElem?] at h5 ⊢
        rw [Array.getElem?_eq_getElem (by omega)] at h5 ⊢
        simp only [Option.getD_some] at h5 ⊢
        simp [h5]
      intro e0
      rw [e0] at hm; cases hm
    have hpos : 0 < rs.length := List.length_pos_iff.2 hne
    have hi : rs[t % rs.length]? = some (rs[t % rs.length]'(Nat.mod_lt _ hpos)) := List.getElem?_eq_getElem _
    generalize (rs[t % rs.length]'(Nat.mod_lt _ hpos)) = i at hi
    simp only [hi]
    have hmem := List.mem_of_getElem? hi
    rw [← hrs, List.mem_filter] at hmem
    obtain ⟨hir, hcond⟩ := hmem
    have hlt := List.mem_range.1 hir
    simp only [Bool.and_eq_true, Bool.not_eq_true'] at hcond
    obtain ⟨hD, hrd⟩ := hcond
    have ho : ops[i]? = some ops[i] := Array.getElem?_eq_getElem hlt
    rw [ho] at hrd
    simp only [Option.map_some, Option.getD_some] at hrd
    rw [Array.all_eq_true_iff_forall_mem] at hrd
    have hget : (fun j => (listed.setIfInBounds i true).getD j true) = fun j => j == i || listed.getD j true := by
      funext j
      simp only [Array.getD_eq_getD_getElem?, Array.getElem?_setIfInBounds]
      by_cases hji : i = j
      · subst hji
        simp [hs, hlt]
      · simp [hji, Ne.symm hji]
    have hcount : ((List.range ops.size).filter fun j => !(listed.setIfInBounds i true).getD j true).length = fuel := by
      have h1 : (fun j => !(listed.setIfInBounds i true).getD j true) = fun j => !(j == i || listed.getD j true) := by
        funext j
        rw [← congrFun hget j]
      rw [h1]
      have := count_one (D := fun j => listed.getD j true) hD _ List.nodup_range hir
      omega
    obtain ⟨l, h1, h2⟩ := go_sched m hb fuel (t / rs.length) (listed.setIfInBounds i true) (i :: acc) (by simpa using hs) hcount
    refine ⟨i :: l, by rw [h1]; simp, .cons _ i _ l ho hD ?_ (by rw [← hget]; exact h2)⟩
    intro e he hf
    have h3 := hrd e he
    rw [firm_binds hf] at h3
    simp only [Bool.not_true, Bool.false_or] at h3
    obtain ⟨rk, hbb⟩ := hb m
    obtain ⟨_, h4⟩ := hbb i _ ho e he (firm_binds hf m)
    simp only [Array.getD_eq_getD_getElem?] at h3 ⊢
    rw [Array.getElem?_eq_getElem (by omega)] at h3 ⊢
    exact h3

theorem schedule_sched {ops : Array Oper} (hb : BackOK ops) (b : Bool) (t : Nat) : Sched ops (fun i => (Array.replicate ops.size false).getD i true) (Region.schedule b ops t) := by
  have key : ∀ m t, Sched ops (fun i => (Array.replicate ops.size false).getD i true) (Region.linearise m ops t) := by
    intro m t
    obtain ⟨l, h1, h2⟩ := go_sched m hb ops.size t (Array.replicate ops.size false) [] (by simp) (by
      rw [List.filter_eq_self.2, List.length_range]
      intro i hi
      have := List.mem_range.1 hi
      simp [this])
    unfold Region.linearise
    rw [h1]
    simpa using h2
  unfold Region.schedule
  split
  · exact key _ _
  · exact key _ _

structure DrawOK (M : Mach) (ms : List MOp) (ops : Array Oper) : Prop where
  len : ms.length = ops.size
  quiet : ∀ m ∈ ms, quietI M m.i = true
  back : BackOK ops
  dist : ∀ (i j : Nat) m m' d, ms[i]? = some m → ms[j]? = some m' → m.dst = some d → m'.dst = some d → i = j
  dep : ∀ (i j : Nat) m m' o o' t, ms[i]? = some m → ms[j]? = some m' → ops[i]? = some o → ops[j]? = some o' → t ∈ usesO m → m'.dst = some t →
    (j < i → ∃ e ∈ o.after, firm e = true ∧ e.on = j) ∧ (i < j → ∃ e ∈ o'.after, firm e = true ∧ e.on = i)

/-- The state when the operations of D are done. -/
def At (ms : List MOp) (e0 : Env) (V : Nat → AV) (D : Nat → Bool) (e : Env) : Prop :=
  (∀ (j : Nat) m t, ms[j]? = some m → m.dst = some t → D j = true → get e t = V j) ∧
  ∀ t, (∀ (j : Nat) m, ms[j]? = some m → m.dst = some t → D j = false) → get e t = get e0 t

theorem At.put {ms : List MOp} {e0 e : Env} {V : Nat → AV} {D : Nat → Bool} {i : Nat} {m : MOp} (h : At ms e0 V D e) (hi : ms[i]? = some m)
    (hd : ∀ (i j : Nat) m m' d, ms[i]? = some m → ms[j]? = some m' → m.dst = some d → m'.dst = some d → i = j) : At ms e0 V (fun j => j == i || D j) (putO e m.dst (V i)) := by
  have hg : ∀ t, get (putO e m.dst (V i)) t = if m.dst = some t then V i else get e t := by
    intro t
    unfold putO
    cases hm : m.dst with
    | none => simp
    | some d => simp only [get_put]; simp
  refine ⟨fun j m' t hj ht hD => ?_, fun t ht => ?_⟩
  · rw [hg]
    by_cases hji : j = i
    · subst hji
      rw [hi] at hj
      cases hj
      rw [if_pos ht]
    · rw [if_neg fun e => hji (hd j i m' m t hj hi ht e)]
      refine h.1 j m' t hj ht ?_
      simp only [Bool.or_eq_true, beq_iff_eq] at hD
      exact hD.resolve_left hji
  · rw [hg]
    by_cases hm : m.dst = some t
    · have := ht i m hi hm
      simp at this
    · rw [if_neg hm]
      refine h.2 t fun j m' hj hjt => ?_
      have := ht j m' hj hjt
      simp only [Bool.or_eq_false_iff] at this
      exact this.2

theorem path_at {ms : List MOp} {E : Nat → Env} {V : Nat → AV} (hd : ∀ (i j : Nat) m m' d, ms[i]? = some m → ms[j]? = some m' → m.dst = some d → m'.dst = some d → i = j)
    (h : ∀ (i : Nat) m, ms[i]? = some m → E (i + 1) = putO (E i) m.dst (V i)) : ∀ i, i ≤ ms.length → At ms (E 0) V (fun j => decide (j < i)) (E i)
  | 0, _ => ⟨fun j m t _ _ hD => by simp at hD, fun t _ => rfl⟩
  | i + 1, hi => by
    have hm : ms[i]? = some ms[i] := List.getElem?_eq_getElem (by omega)
    have := (path_at hd h i (by omega)).put hm hd
    rw [h i _ hm]
    have e : (fun j => decide (j < i + 1)) = fun j => j == i || decide (j < i) := by
      funext j
      rw [Bool.eq_iff_iff]
      simp
      omega
    rw [e]; exact this

theorem ops_drawn {M : Mach} {rec : Rec} (hc : CallGood P (callW M rec)) {ops : Array Oper} {ms : List MOp} (hm : ∀ (j : Nat) m, ms[j]? = some m → ∃ o, ops[j]? = some o ∧ OpOK P nt ops m o) (hdr : DrawOK M ms ops) {Q : Exit → Act → World → Prop}
    {E : Nat → Env} {V : Nat → AV} (hE : ∀ (i : Nat) m, ms[i]? = some m → valO (callW M rec) sg (E i) m = some (V i) ∧ E (i + 1) = putO (E i) m.dst (V i)) {D : Nat → Bool} {l : List Nat} (hS : Sched ops D l) :
    ∀ {e : Env} {g : G} {a : Act} {w : World}, (∀ (j : Nat) o, ops[j]? = some o → D j = true → ∀ e ∈ o.after, firm e = true → D e.on = true) → At ms (E 0) V D e → WRel X g nt { env := e, sg, pr := [] } a w →
      (∀ e', (∀ t, get e' t = get (E ms.length) t) → Next X g nt w { env := e', sg, pr := [] } (Q .normal)) → wpOpsIn Fence.wide 0 P ops Q l a w := by
  induction hS with
  | nil D h =>
    intro e g a w hcl hA hR hK
    refine hK e (fun t => ?_) g a w hR (.refl _ _) (.refl _ _ _)
    have hB := path_at hdr.dist (fun i m hi => (hE i m hi).2) ms.length (Nat.le_refl _)
    by_cases hex : ∃ (j : Nat) (m : MOp), ms[j]? = some m ∧ m.dst = some t
    · obtain ⟨j, m, h1, h2⟩ := hex
      have hj := (List.getElem?_eq_some_iff.1 h1).1
      rw [hA.1 j m t h1 h2 (h j (by rw [← hdr.len]; exact hj)), hB.1 j m t h1 h2 (by simpa using hj)]
    · rw [hA.2 t fun j m h1 h2 => absurd ⟨j, m, h1, h2⟩ hex, hB.2 t fun j m h1 h2 => absurd ⟨j, m, h1, h2⟩ hex]
  | cons D i o l hi hD he hl ih =>
    intro e g a w hcl hA hR hK
    have hlt : i < ms.length := by rw [hdr.len]; exact (Array.getElem?_eq_some_iff.1 hi).1
    have hmi : ms[i]? = some ms[i] := List.getElem?_eq_getElem hlt
    generalize ms[i] = m at hmi
    obtain ⟨o', h1, h2⟩ := hm i m hmi
    rw [hi] at h1
    cases h1
    have hB := path_at hdr.dist (fun i m hi => (hE i m hi).2) i (by omega)
    have hq := hdr.quiet m (List.mem_of_getElem? hmi)
    have hsame : ∀ t ∈ usesO m, get (E i) t = get e t := by
      intro t ht
      by_cases hex : ∃ (j : Nat) (m' : MOp), ms[j]? = some m' ∧ m'.dst = some t
      · obtain ⟨j, m', h3, h4⟩ := hex
        have hjl := (List.getElem?_eq_some_iff.1 h3).1
        have hjo : ops[j]? = some (ops[j]'(by rw [← hdr.len]; exact hjl)) := Array.getElem?_eq_getElem _
        obtain ⟨h5, h6⟩ := hdr.dep i j m m' _ _ t hmi h3 hi hjo ht h4
        have none_of : ∀ {D' : Nat → Bool} {e' : Env}, At ms (E 0) V D' e' → D' j = false → get e' t = get (E 0) t := by
          intro D' e' hA' hj'
          refine hA'.2 t fun k mk hk hkt => ?_
          have := hdr.dist k j mk m' t hk h3 hkt h4
          subst this
          exact hj'
        rcases Nat.lt_trichotomy j i with hji | hji | hji
        · obtain ⟨e1, h7, h8, h9⟩ := h5 hji
          rw [hB.1 j m' t h3 h4 (by simpa using hji), hA.1 j m' t h3 h4 (by rw [← h9]; exact he e1 h7 h8)]
        · subst hji
          rw [none_of hB (by simp), none_of hA hD]
        · obtain ⟨e1, h7, h8, h9⟩ := h6 hji
          rw [none_of hB (by simp; omega)]
          refine (none_of hA ?_).symm
          cases hDj : D j with
          | false => rfl
          | true =>
            have := hcl j _ hjo hDj e1 h7 h8
            rw [h9, hD] at this
            cases this
      · rw [hA.2 t fun j m h1 h2 => absurd ⟨j, m, h1, h2⟩ hex, hB.2 t fun j m h1 h2 => absurd ⟨j, m, h1, h2⟩ hex]
    have hval : valO (callW M rec) sg e m = some (V i) := by rw [← valO_congr hq hsame]; exact (hE i m hmi).1
    obtain ⟨s', h3, h4, h5⟩ := valO_step hq hval
    refine op_step hR hi h2 hc h3 fun g1 a1 w1 hR1 hE1 hP1 => ?_
    have hR2 : WRel X g1 nt { env := putO e m.dst (V i), sg, pr := [] } a1 w1 := by
      have := hR1.prov (pr := []) (by simp)
      rw [h4, h5] at this
      exact this
    refine ih ?_ (hA.put hmi hdr.dist) hR2 fun e' he' => (hK e' he').trans hE1 hP1
    intro j oj hj hDj e1 h6 h7
    simp only [Bool.or_eq_true, beq_iff_eq] at hDj ⊢
    rcases hDj with rfl | hDj
    · rw [hi] at hj
      cases hj
      exact .inr (he e1 h6 h7)
    · exact .inr (hcl j oj hj hDj e1 h6 h7)

theorem WRel.drew (h : WRel X g nt s a w) : WRel X g nt s a { w with drawn := w.drawn + 1 } :=
  h.grow (w' := { w with drawn := w.drawn + 1 }) (Nat.le_refl _) (fun _ _ => rfl) (G.le_refl _) rfl (fun _ _ _ => rfl) (fun b o x e => h.fok b o x e) h.obk
end Go.Proofs.YtggoaggneapneaaDoorM
