/-
  The mirror, part 26: regions whose order is drawn and that turn memory.
-/
import Derived.Test.YtggoaggneapneaaDoorM25
set_option linter.unusedVariables false
set_option linter.unusedSimpArgs false
namespace Go.Proofs.YtggoaggneapneaaDoorM
open Go
variable {X : Nat → Prop} {g g' : G} {nt : Nat} {s : St} {a : Act} {w w' : World} {P : Program} {o : Oper} {sg : Sig} {M : Mach} {rec : Rec}

theorem Eqv.refl (s : St) : Eqv s s := ⟨fun _ => rfl, rfl, fun _ => Iff.rfl⟩
theorem Eqv.trans {s t u : St} (h : Eqv s t) (h' : Eqv t u) : Eqv s u := ⟨fun k => (h.get k).trans (h'.get k), h.sg.trans h'.sg, fun x => (h.pr x).trans (h'.pr x)⟩
theorem Eqv.uq {s t : St} (h : Eqv s t) (hu : Uq s.pr) : Uq t.pr := fun k a b h1 h2 => hu k a b ((h.pr _).2 h1) ((h.pr _).2 h2)
theorem step_eqv {m : MOp} (h9 : memI M m.i ≠ 9) {s t s' : St} (hE : Eqv s t) (hu : Uq s.pr) (h : stepO (callW M rec) s m = some s') : ∃ t', stepO (callW M rec) t m = some t' ∧ Eqv s' t' := by
  have hut := hE.uq hu
  rw [stepO_upd] at h
  obtain ⟨u, e, rfl⟩ := Option.map_eq_some_iff.1 h
  have e2 := updO_move (t := t) h9 (fun k _ => hE.get k) (fun k _ h _ hl => by
    rw [lookP_iff hu] at hl
    rw [lookP_iff hut]
    exact (hE.pr _).1 hl) (.inr (.inl hE.sg)) e
  have hsame : ({ u with sg := if memI M m.i = 2 then u.sg else t.sg } : Upd) = u := by
    rcases memI_cases M m.i with h2 | h2 | h2 | h2
    · rw [if_neg (by rw [h2]; decide), ← hE.sg, ← updO_sg (.inl h2) e]
    · rw [if_neg (by rw [h2]; decide), ← hE.sg, ← updO_sg (.inr h2) e]
    · rw [if_pos h2]
    · exact absurd h2 h9
  rw [hsame] at e2
  refine ⟨_, by rw [stepO_upd, e2]; rfl, fun k => ?_, by rw [sg_applyU, sg_applyU], fun x => ?_⟩
  · rw [get_applyU, get_applyU, hE.get k]
  · rw [mem_pr, mem_pr, hE.pr x]

open Classical in
noncomputable def stQ (call : Call) (mAt : Nat → MOp) (i : Nat) (s : St) : Option St := if Uq s.pr then stepO call s (mAt i) else none
theorem stQ_some {call : Call} {mAt : Nat → MOp} {i : Nat} {s s' : St} (h : stQ call mAt i s = some s') : Uq s.pr ∧ stepO call s (mAt i) = some s' := by
  unfold stQ at h
  split at h
  · rename_i hu; exact ⟨hu, h⟩
  · cases h
theorem stQ_of {call : Call} {mAt : Nat → MOp} {i : Nat} {s s' : St} (hu : Uq s.pr) (h : stepO call s (mAt i) = some s') : stQ call mAt i s = some s' := by
  unfold stQ
  rw [if_pos hu]; exact h
theorem step_uq {call : Call} {m : MOp} {s s' : St} (hu : Uq s.pr) (h : stepO call s m = some s') : Uq s'.pr := by
  rw [stepO_upd] at h
  obtain ⟨u, _, rfl⟩ := Option.map_eq_some_iff.1 h
  exact uq_applyU hu _ _
theorem cong_stQ {mAt : Nat → MOp} (h9 : ∀ i, memI M (mAt i).i ≠ 9) : Cong (stQ (callW M rec) mAt) Eqv :=
  ⟨Eqv.refl, fun _ _ _ => Eqv.trans, fun i s t s' hE h => by
    obtain ⟨hu, h1⟩ := stQ_some h
    obtain ⟨t', h2, h3⟩ := step_eqv (h9 i) hE hu h1
    exact ⟨t', stQ_of (hE.uq hu) h2, h3⟩⟩
theorem swap_stQ {mAt : Nat → MOp} {i j : Nat} (hc : Comm M (mAt i) (mAt j)) : Swap (stQ (callW M rec) mAt) Eqv i j := by
  intro s s1 s2 h1 h2
  obtain ⟨hu, h1⟩ := stQ_some h1
  obtain ⟨hu1, h2⟩ := stQ_some h2
  obtain ⟨t1, t2, h3, h4, h5⟩ := swap_ops hc hu h1 h2
  exact ⟨t1, t2, stQ_of hu h3, stQ_of (step_uq hu h3) h4, h5⟩
theorem run_ops {call : Call} {mAt : Nat → MOp} : ∀ {l : List Nat} {s s' : St}, Uq s.pr → opsW call (l.map mAt) s = some s' → runL (stQ call mAt) l s = some s'
  | [], s, s', _, h => h
  | i :: l, s, s', hu, h => by
    simp only [List.map_cons, opsW] at h
    obtain ⟨s1, h1, h2⟩ := Option.bind_eq_some_iff.1 h
    simp only [runL]
    rw [stQ_of hu h1]
    exact run_ops (step_uq hu h1) h2
theorem ops_run {call : Call} {mAt : Nat → MOp} : ∀ {l : List Nat} {s s' : St}, runL (stQ call mAt) l s = some s' → opsW call (l.map mAt) s = some s'
  | [], s, s', h => h
  | i :: l, s, s', h => by
    simp only [runL] at h
    obtain ⟨s1, h1, h2⟩ := Option.bind_eq_some_iff.1 h
    simp only [List.map_cons, opsW]
    rw [(stQ_some h1).2]
    exact ops_run h2

/-! ### What a drawn list keeps -/
inductive Anc (ops : Array Oper) : Nat → Nat → Prop where
  | edge (y : Nat) (o : Oper) (e : Edge) (ho : ops[y]? = some o) (he : e ∈ o.after) (hf : firm e = true) : Anc ops e.on y
  | trans (x y z : Nat) (h1 : Anc ops x y) (h2 : Anc ops y z) : Anc ops x z
def Closed (ops : Array Oper) (D : Nat → Bool) : Prop := ∀ (j : Nat) o, ops[j]? = some o → D j = true → ∀ e ∈ o.after, firm e = true → D e.on = true
theorem anc_closed {ops : Array Oper} {D : Nat → Bool} (hD : Closed ops D) {x y : Nat} (h : Anc ops x y) : D y = true → D x = true := by
  induction h with
  | edge y o e ho he hf => exact fun h => hD y o ho h e he hf
  | trans x y z _ _ ih1 ih2 => exact fun h => ih1 (ih2 h)
theorem anc_ready {ops : Array Oper} {D : Nat → Bool} (hD : Closed ops D) {x y : Nat} (h : Anc ops x y) : ∀ {o : Oper}, ops[y]? = some o → (∀ e ∈ o.after, firm e = true → D e.on = true) → D x = true := by
  induction h with
  | edge y o e ho he hf =>
    intro o' ho' hr
    rw [ho] at ho'
    cases ho'
    exact hr e he hf
  | trans x y z h1 _ _ ih2 => exact fun ho hr => anc_closed hD h1 (ih2 ho hr)
theorem sched_anc {ops : Array Oper} {D : Nat → Bool} {l : List Nat} (h : Sched ops D l) : Closed ops D → ∀ {A B : List Nat} {y x : Nat}, l = A ++ y :: B → Anc ops x y → D x = true ∨ x ∈ A := by
  induction h with
  | nil D h => intro _ A B y x e; simp at e
  | cons D i o l ho hD he hl ih =>
    intro hc A B y x e ha
    cases A with
    | nil =>
      simp only [List.nil_append, List.cons.injEq] at e
      obtain ⟨rfl, _⟩ := e
      exact .inl (anc_ready hc ha ho he)
    | cons a A =>
      simp only [List.cons_append, List.cons.injEq] at e
      obtain ⟨rfl, e⟩ := e
      have hc' : Closed ops fun j => j == i || D j := by
        intro j oj hj hDj e1 h6 h7
        simp only [Bool.or_eq_true, beq_iff_eq] at hDj ⊢
        rcases hDj with rfl | hDj
        · rw [ho] at hj
          cases hj
          exact .inr (he e1 h6 h7)
        · exact .inr (hc j oj hj hDj e1 h6 h7)
      rcases ih hc' e ha with h1 | h1
      · simp only [Bool.or_eq_true, beq_iff_eq] at h1
        rcases h1 with rfl | h1
        · exact .inr List.mem_cons_self
        · exact .inl h1
      · exact .inr (List.mem_cons_of_mem _ h1)
theorem sched_mem {ops : Array Oper} {D : Nat → Bool} {l : List Nat} (h : Sched ops D l) : l.Nodup ∧ (∀ i ∈ l, D i = false ∧ i < ops.size) ∧ ∀ i, i < ops.size → D i = false → i ∈ l := by
  induction h with
  | nil D h => exact ⟨List.nodup_nil, by simp, fun i hi hD => by rw [h i hi] at hD; cases hD⟩
  | cons D i o l ho hD he hl ih =>
    obtain ⟨h1, h2, h3⟩ := ih
    have hi := (Array.getElem?_eq_some_iff.1 ho).1
    refine ⟨?_, ?_, ?_⟩
    · rw [List.nodup_cons]
      refine ⟨fun hm => ?_, h1⟩
      have := (h2 i hm).1
      simp at this
    · intro j hj
      rcases List.mem_cons.1 hj with rfl | hj
      · exact ⟨hD, hi⟩
      · obtain ⟨h4, h5⟩ := h2 j hj
        simp only [Bool.or_eq_false_iff] at h4
        exact ⟨h4.2, h5⟩
    · intro j hj hDj
      by_cases hji : j = i
      · subst hji; exact List.mem_cons_self
      · exact List.mem_cons_of_mem _ (h3 j hj (by simp [hji, hDj]))
theorem sched_ahead {ops : Array Oper} {D : Nat → Bool} {l : List Nat} (h : Sched ops D l) (hc : Closed ops D) {x y : Nat} (ha : Anc ops x y) : ¬ Ahead l y x := by
  intro hs
  obtain ⟨hn, hm, _⟩ := sched_mem h
  have hy : y ∈ l := hs.subset (by simp)
  obtain ⟨A, B, rfl⟩ := List.append_of_mem hy
  have hx : x ∈ A ++ y :: B := hs.subset (by simp)
  rcases sched_anc h hc rfl ha with h1 | h1
  · rw [(hm x hx).1] at h1; cases h1
  · -- x stands in A, so it cannot stand behind y
    rw [List.nodup_append] at hn
    obtain ⟨hA, hyB, hdis⟩ := hn
    have hyA : y ∉ A := fun hyA => hdis y hyA y List.mem_cons_self rfl
    have hxB : x ∉ y :: B := fun hxB => hdis x h1 x hxB rfl
    rcases List.sublist_append_iff.1 hs with ⟨l1, l2, e, s1, s2⟩
    match l1, e with
    | [], e =>
      simp only [List.nil_append] at e
      rw [← e] at s2
      exact hxB (s2.subset (by simp))
    | z :: l1, e =>
      simp only [List.cons_append, List.cons.injEq] at e
      exact hyA (s1.subset (by rw [e.1]; simp))

/-- The operations in whatever order the list tells. -/
theorem ops_list {ops : Array Oper} {call : Call} (hc : CallGood P call) {mAt : Nat → MOp} {Q : Exit → Act → World → Prop} : ∀ (l : List Nat) {s s' : St} {g : G} {a : Act} {w : World}, (∀ i ∈ l, ∃ o, ops[i]? = some o ∧ OpOK P nt ops (mAt i) o) →
    opsW call (l.map mAt) s = some s' → WRel X g nt s a w → Next X g nt w s' (Q .normal) → wpOpsIn Fence.wide 0 P ops Q l a w
  | [], s, s', g, a, w, hm, hs, h, hK => by
    simp only [List.map_nil, opsW] at hs
    cases hs
    exact hK g a w h (.refl _ _) (.refl _ _ _)
  | i :: l, s, s', g, a, w, hm, hs, h, hK => by
    simp only [List.map_cons, opsW] at hs
    obtain ⟨s1, h1, h2⟩ := Option.bind_eq_some_iff.1 hs
    obtain ⟨o, h3, h4⟩ := hm i List.mem_cons_self
    exact op_step h h3 h4 hc h1 fun g1 a1 w1 hR hE hP => ops_list hc l (fun j hj => hm j (List.mem_cons_of_mem _ hj)) h2 hR (hK.trans hE hP)

structure LoudOK (M : Mach) (ms : List MOp) (ord : List Nat) (ops : Array Oper) (mAt : Nat → MOp) : Prop where
  map : ord.map mAt = ms
  nodup : ord.Nodup
  all : ∀ i, i ∈ ord ↔ i < ops.size
  back : BackOK ops
  n9 : ∀ i, memI M (mAt i).i ≠ 9
  pair : ∀ x y, Ahead ord x y → Anc ops x y ∨ Comm M (mAt x) (mAt y)
theorem ops_loud (hc : CallGood P (callW M rec)) {ops : Array Oper} {ms : List MOp} {ord : List Nat} {mAt : Nat → MOp} (hL : LoudOK M ms ord ops mAt) (hm : ∀ i, i < ops.size → ∃ o, ops[i]? = some o ∧ OpOK P nt ops (mAt i) o) {Q : Exit → Act → World → Prop} {e : Env} {s' : St}
    (hs : opsW (callW M rec) ms { env := e, sg, pr := [] } = some s') {g : G} {a : Act} {w : World} (hR : WRel X g nt { env := e, sg, pr := [] } a w)
    (hK : ∀ t', Eqv s' t' → Next X g nt w t' (Q .normal)) (b : Bool) (t : Nat) : wpOpsIn Fence.wide 0 P ops Q (Region.schedule b ops t) a w := by
  have hS := schedule_sched hL.back b t
  have hcl : Closed ops fun i => (Array.replicate ops.size false).getD i true := by
    intro j o hj hD
    have hj := (Array.getElem?_eq_some_iff.1 hj).1
    simp [hj] at hD
  obtain ⟨h1, h2, h3⟩ := sched_mem hS
  have hperm : ord.Perm (Region.schedule b ops t) := by
    rw [List.perm_ext_iff_of_nodup hL.nodup h1]
    intro i
    rw [hL.all]
    refine ⟨fun hi => h3 i hi (by simp [hi]), fun hi => (h2 i hi).2⟩
  rw [← hL.map] at hs
  have hu : Uq ([] : List (Nat × Home)) := fun k h h' h1 => by cases h1
  have hrun := run_ops (s := { env := e, sg, pr := [] }) hu hs
  obtain ⟨t', h4, h5⟩ := perm_run (cong_stQ hL.n9) hperm hL.nodup (fun x y hx hy => by
    rcases hL.pair x y hx with ha | hcm
    · exact absurd hy (sched_ahead hS hcl ha)
    · exact swap_stQ hcm) hrun
  exact ops_list hc _ (fun i hi => hm i (h2 i hi).2) (ops_run h4) hR (hK t' h5)
end Go.Proofs.YtggoaggneapneaaDoorM
