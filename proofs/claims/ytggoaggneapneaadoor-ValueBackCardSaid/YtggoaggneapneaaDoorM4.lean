/-
  The mirror, part 4: cells are stored; a slice of one's own is appended to.
-/
import Derived.Test.YtggoaggneapneaaDoorM3
set_option linter.unusedVariables false
set_option linter.unusedSimpArgs false
namespace Go.Proofs.YtggoaggneapneaaDoorM
open Go
variable {X : Nat → Prop} {g g' : G} {nt : Nat} {s : St} {a : Act} {w w' : World}

theorem atHome_cell {s : St} {b o : Nat} {v : AV} : atHome s (.cell b o) = some v ↔ s.sg.fl ≤ b ∧ cellAt s.sg b o = some v := by
  unfold atHome
  by_cases h : s.sg.fl ≤ b
  · simp [h]
  · simp [h]
theorem fillA_length (vs : List AV) : ∀ (cs : List AV) (o : Nat), (fillA cs o vs).length = cs.length := by
  induction vs with
  | nil => exact fun _ _ => rfl
  | cons v l ih => exact fun cs o => by rw [fillA, ih]; simp
theorem fillA_get (vs : List AV) : ∀ (cs : List AV) (o j : Nat), o + vs.length ≤ cs.length → (fillA cs o vs)[j]? = if o ≤ j ∧ j < o + vs.length then vs[j - o]? else cs[j]? := by
  induction vs with
  | nil => exact fun cs o j _ => by simp only [fillA, List.length_nil]; rw [if_neg (by omega)]
  | cons v l ih =>
    intro cs o j h
    simp only [List.length_cons] at h
    rw [fillA, ih _ _ _ (by simp; omega)]
    by_cases h1 : o + 1 ≤ j ∧ j < o + 1 + l.length
    · rw [if_pos h1, if_pos (by simp; omega)]
      obtain ⟨d, rfl⟩ : ∃ d, j = o + 1 + d := ⟨j - (o + 1), by omega⟩
      rw [show o + 1 + d - (o + 1) = d by omega, show o + 1 + d - o = d + 1 by omega]
      rfl
    · rw [if_neg h1]
      by_cases h2 : j = o
      · subst h2
        rw [if_pos (by simp)]
        simp [List.getElem?_set]
        omega
      · rw [if_neg (by simp; omega), List.getElem?_set_ne (Ne.symm h2)]

theorem setCell_heap (w : World) (k o : Nat) (v : Value) (k' : Nat) (h : k' ≠ k) : (w.setCell ⟨k, o, none⟩ v).heap[k']? = w.heap[k']? := by
  simp only [World.setCell, Array.getElem?_modify]
  rw [if_neg (Ne.symm h)]
theorem setCells_heap (k : Nat) (vs : List Value) : ∀ (w : World) (o k' : Nat), k' ≠ k → (w.setCells k o vs).heap[k']? = w.heap[k']? := by
  induction vs with
  | nil => exact fun _ _ _ _ => rfl
  | cons v l ih => exact fun w o k' h => by rw [World.setCells, ih _ _ _ h, setCell_heap w k o v k' h]
theorem setCell_same (w : World) (k o : Nat) (v : Value) {ccs : Array Value} {T : TypeId} {fr : Nat × Nat} (h : w.heap[k]? = some (.cells ccs T fr)) :
    (w.setCell ⟨k, o, none⟩ v).heap[k]? = some (.cells (ccs.setIfInBounds o v) T fr) := by
  simp only [World.setCell, Array.getElem?_modify, if_true, h, Option.map_some]
  simp
theorem setCells_same (k : Nat) (vs : List Value) : ∀ (w : World) (o : Nat) (ccs : Array Value) (T : TypeId) (fr : Nat × Nat), w.heap[k]? = some (.cells ccs T fr) →
    ∃ ccs', (w.setCells k o vs).heap[k]? = some (.cells ccs' T fr) ∧ ccs'.size = ccs.size := by
  induction vs with
  | nil => exact fun w o ccs T fr h => ⟨ccs, h, rfl⟩
  | cons v l ih =>
    intro w o ccs T fr h
    obtain ⟨ccs', h1, h2⟩ := ih (w.setCell ⟨k, o, none⟩ v) (o + 1) _ T fr (setCell_same w k o v h)
    exact ⟨ccs', h1, by rw [h2]; simp⟩
theorem setCells_misc (k : Nat) (vs : List Value) : ∀ (w : World) (o : Nat), (w.setCells k o vs).os = w.os ∧ (w.setCells k o vs).tape = w.tape ∧ (w.setCells k o vs).output = w.output ∧ (w.setCells k o vs).heap.size = w.heap.size := by
  induction vs with
  | nil => exact fun _ _ => ⟨rfl, rfl, rfl, rfl⟩
  | cons v l ih =>
    intro w o
    obtain ⟨h1, h2, h3, h4⟩ := ih (w.setCell ⟨k, o, none⟩ v) (o + 1)
    exact ⟨by rw [World.setCells, h1]; rfl, by rw [World.setCells, h2]; rfl, by rw [World.setCells, h3]; rfl, by rw [World.setCells, h4]; simp⟩
theorem setCells_out (k : Nat) (vs : List Value) (w : World) (o k' q : Nat) (h : k' = k → q < o ∨ o + vs.length ≤ q) : (w.setCells k o vs).cell? ⟨k', q, none⟩ = w.cell? ⟨k', q, none⟩ :=
  World.cell?_setCells_out k vs o w ⟨k', q, none⟩ fun e _ => h e
theorem pres_setCells {F : Facts} {w : World} (k o : Nat) (vs : List Value) (h : ¬ X k) : Pres X F w (w.setCells k o vs) := by
  obtain ⟨h1, h2, h3, h4⟩ := setCells_misc k vs w o
  exact ⟨h1, h2, h3, by omega, fun k' hk => .inl (setCells_heap k vs w o k' fun e => h (e ▸ hk))⟩

/-- Cells of a variable are stored. 'own': which of what is stored is one's own (one alone), and from now on that variable's. -/
theorem WRel.store (h : WRel X g nt s a w) {b k o : Nat} {cs vs : List AV} {cvs : List Value} (hbe : g.be[b]? = some k) (hbl : s.sg.bl[b]? = some cs) (hfl : s.sg.fl ≤ b)
    (hl : vs.length = cvs.length) (hr : ∀ (j : Nat) x v, vs[j]? = some x → cvs[j]? = some v → ARep g x v) (hk : ∀ (j : Nat) x, vs[j]? = some x → isCell x = true) (hfit : o + vs.length ≤ cs.length)
    (hown : (∀ (j : Nat) x, vs[j]? = some x → isOwn x = false) ∨ ∃ sz xs k1 o1 c1, vs = [.own sz xs] ∧ cvs = [.slice (some ⟨k1, o1, none⟩) xs.length c1] ∧ Perm X g w sz k1 o1 xs.length c1 ∧
      ∀ hm sz' xs' o' n' c', atHome s hm = some (.own sz' xs') → conc g a w hm = some (.slice (some ⟨k1, o', none⟩) n' c') → hm = .cell b o) :
    WRel X g nt { s with sg := setCells s.sg b (fillA cs o vs), pr := noCell s.pr } a (w.setCells k o cvs) := by
  have hB := h.blk b k cs hbe hbl
  have hblt : b < s.sg.bl.length := (List.getElem?_eq_some_iff.1 hbl).1
  obtain ⟨ccs, T, fr, hheap, hcl⟩ := hB.ex
  have hin : ∀ j, j < cvs.length → (w.setCells k o cvs).cell? ⟨k, o + j, none⟩ = cvs[j]? := by
    intro j hj
    rw [World.cell?_setCells_in k cvs o w (fun i hi => by
      obtain ⟨v, hv, _⟩ := hB.cells (o + i) _ (List.getElem?_eq_getElem (by omega))
      rw [hv]; rfl) j hj]
    exact (List.getElem?_eq_getElem hj).symm
  have hout : ∀ k' q, (k' = k → q < o ∨ o + cvs.length ≤ q) → (w.setCells k o cvs).cell? ⟨k', q, none⟩ = w.cell? ⟨k', q, none⟩ := fun k' q hq => setCells_out k cvs w o k' q hq
  have hfro : ∀ k' q, FrozenNo (w.setCells k o cvs) k' q ↔ FrozenNo w k' q := fun k' q => by unfold FrozenNo; rw [World.frozen?_setCells]
  -- what is at a place now
  have hat : ∀ hm sz xs, atHome { s with sg := setCells s.sg b (fillA cs o vs), pr := noCell s.pr } hm = some (.own sz xs) →
      (∃ j, hm = .cell b (o + j) ∧ vs[j]? = some (.own sz xs)) ∨ (atHome s hm = some (.own sz xs) ∧ ∀ j, j < vs.length → hm ≠ .cell b (o + j)) := by
    intro hm sz xs e
    cases hm with
    | slot t => exact .inr ⟨e, fun j _ c => by cases c⟩
    | cell b' o' =>
      obtain ⟨hf, e⟩ := atHome_cell.1 e
      have e : ((s.sg.bl.set b (fillA cs o vs))[b']?.bind fun x => x[o']?) = some (.own sz xs) := e
      by_cases hbb : b' = b
      · subst hbb
        rw [List.getElem?_set_self hblt] at e
        simp only [Option.bind_some] at e
        rw [fillA_get vs cs o o' hfit] at e
        split at e
        · rename_i hoo
          exact .inl ⟨o' - o, by rw [show o + (o' - o) = o' by omega], e⟩
        · rename_i hoo
          refine .inr ⟨atHome_cell.2 ⟨hf, by simp only [cellAt, hbl, Option.bind_some]; exact e⟩, fun j hj c => hoo ?_⟩
          injection c with c1 c2; omega
      · rw [List.getElem?_set_ne (Ne.symm hbb)] at e
        exact .inr ⟨atHome_cell.2 ⟨hf, e⟩, fun j _ c => hbb (by injection c)⟩
  -- values at places that were not stored to
  have hcc : ∀ hm, (∀ j, j < vs.length → hm ≠ .cell b (o + j)) → conc g a (w.setCells k o cvs) hm = conc g a w hm := by
    intro hm hne
    cases hm with
    | slot t => rfl
    | cell b' o' =>
      simp only [conc]
      cases hb' : g.be[b']? with
      | none => rfl
      | some k' =>
        simp only [Option.bind_some]
        refine hout k' o' fun e => ?_
        subst e
        have : b' = b := h.inj _ _ _ hb' hbe
        subst this
        rcases Nat.lt_or_ge o' o with h1 | h1
        · exact .inl h1
        · refine .inr ?_
          rcases Nat.lt_or_ge o' (o + cvs.length) with h2 | h2
          · exact absurd (by rw [show o + (o' - o) = o' by omega]) (hne (o' - o) (by omega))
          · exact h2
  have hcs : ∀ j v, vs[j]? = some v → ∃ cv, cvs[j]? = some cv ∧ conc g a (w.setCells k o cvs) (.cell b (o + j)) = some cv := by
    intro j v hj
    have hj' : j < cvs.length := by rw [← hl]; exact (List.getElem?_eq_some_iff.1 hj).1
    exact ⟨cvs[j], List.getElem?_eq_getElem hj', by simp only [conc, hbe, Option.bind_some]; rw [hin j hj', List.getElem?_eq_getElem hj']⟩
  have hperm : ∀ sz k1 o1 n1 c1, Perm X g w sz k1 o1 n1 c1 → Perm X g (w.setCells k o cvs) sz k1 o1 n1 c1 := by
    intro sz k1 o1 n1 c1 hp
    have hne : k1 ≠ k := fun e => hp.nbe b (by rw [e]; exact hbe)
    exact hp.same (setCells_heap k cvs w o k1 hne) hp.noF hp.nbe
  refine { fok := ?_, bas := h.bas, obk := h.obNe (let ⟨ccs, T, fr, h1, _⟩ := hB.ex; ⟨ccs, T, fr, h1⟩) fun k' hk' => setCells_heap k cvs w o k' hk', len := by simp [setCells, h.len], inj := h.inj, blk := ?_, wrt := h.wrt, xlt := fun k' hk' => by rw [(setCells_misc k cvs w o).2.2.2]; exact h.xlt k' hk', nt := h.nt, env := h.env, prv := ?_, prm := ?_, dst := ?_, dfr := h.dfr }
  · intro b' o' x e
    rw [hout b' o' fun e' => by subst e'; rw [hB.noF] at e; cases e]
    exact h.fok b' o' x e
  · intro i k' l hi hbl'
    by_cases hib : i = b
    · subst hib
      have hkk : k' = k := by rw [hbe] at hi; injection hi with hi; exact hi.symm
      subst hkk
      simp only [setCells] at hbl'
      rw [List.getElem?_set_self hblt] at hbl'
      injection hbl' with hbl'
      subst hbl'
      obtain ⟨ccs', h1, h2⟩ := setCells_same k' cvs w o ccs T fr hheap
      refine ⟨⟨ccs', T, fr, h1, by rw [fillA_length, h2]; exact hcl⟩, ?_, ?_, ?_, hB.noF⟩
      · intro j x e
        rw [fillA_get vs cs o j hfit] at e
        split at e
        · rename_i hj
          have hj' : j - o < cvs.length := by omega
          have := hin (j - o) hj'
          rw [show o + (j - o) = j by omega] at this
          exact ⟨cvs[j - o], by rw [this]; exact List.getElem?_eq_getElem hj', hr _ _ _ e (List.getElem?_eq_getElem hj')⟩
        · rename_i hj
          obtain ⟨v, h3, h4⟩ := hB.cells j x e
          exact ⟨v, by rw [hout k' j fun _ => by omega]; exact h3, h4⟩
      · intro j x e
        rw [fillA_get vs cs o j hfit] at e
        split at e
        · exact hk _ _ e
        · exact hB.kind j x e
      · intro j hj
        rw [fillA_length] at hj
        exact (hfro k' j).2 (hB.fro j hj)
    · simp only [setCells] at hbl'
      rw [List.getElem?_set_ne (Ne.symm hib)] at hbl'
      have hne : k' ≠ k := fun e => hib (h.inj _ _ _ hi (by rw [e]; exact hbe))
      exact (h.blk i k' l hi hbl').same (G.le_refl g) (setCells_heap k cvs w o k' hne) (h.blk i k' l hi hbl').noF
  · intro d hm e
    obtain ⟨e1, t, rfl⟩ := mem_noCell e
    exact h.prv d _ e1
  · intro hm sz xs e
    rcases hat hm sz xs e with ⟨j, rfl, hj⟩ | ⟨e1, e2⟩
    · rcases hown with hno | ⟨sz1, xs1, k1, o1, c1, h1, h2, h3, h4⟩
      · have := hno j _ hj; simp [isOwn] at this
      · subst h1; subst h2
        have hj0 : j = 0 := by
          rcases Nat.eq_zero_or_pos j with h0 | h0
          · exact h0
          · rw [List.getElem?_eq_none (by simp; omega)] at hj; cases hj
        subst hj0
        simp at hj
        obtain ⟨rfl, rfl⟩ := hj
        obtain ⟨cv, h5, h6⟩ := hcs 0 (.own sz1 xs1) rfl
        simp at h5
        subst h5
        exact ⟨k1, o1, c1, h6, hperm _ _ _ _ _ h3⟩
    · obtain ⟨k1, o1, c1, h1, h2⟩ := h.prm hm sz xs e1
      exact ⟨k1, o1, c1, by rw [hcc hm e2]; exact h1, hperm _ _ _ _ _ h2⟩
  · intro hm hm' sz xs sz' xs' k1 o1 n1 c1 o1' n1' c1' e e' hc hc'
    have single : ∀ hm sz xs j, hm = .cell b (o + j) → vs[j]? = some (.own sz xs) → conc g a (w.setCells k o cvs) hm = some (.slice (some ⟨k1, o1, none⟩) n1 c1) ∨ conc g a (w.setCells k o cvs) hm = some (.slice (some ⟨k1, o1', none⟩) n1' c1') →
        hm = .cell b o ∧ ∀ hm' sz' xs' o' n' c', atHome s hm' = some (.own sz' xs') → conc g a w hm' = some (.slice (some ⟨k1, o', none⟩) n' c') → hm' = .cell b o := by
      intro hm sz xs j hm1 hj hcon
      rcases hown with hno | ⟨sz2, xs2, k2, o2, c2, h1, h2, h3, h4⟩
      · have := hno j _ hj; simp [isOwn] at this
      · subst h1; subst h2
        have hj0 : j = 0 := by
          rcases Nat.eq_zero_or_pos j with h0 | h0
          · exact h0
          · rw [List.getElem?_eq_none (by simp; omega)] at hj; cases hj
        subst hj0
        subst hm1
        obtain ⟨cv, h5, h6⟩ := hcs 0 (.own sz2 xs2) rfl
        simp at h5
        subst h5
        refine ⟨rfl, ?_⟩
        have hkk : k2 = k1 := by
          rw [h6] at hcon
          rcases hcon with hcon | hcon <;> · injection hcon with hcon; injection hcon with hcon; injection hcon with hcon; injection hcon
        subst hkk
        exact h4
    rcases hat hm sz xs e with ⟨j, h1, hj⟩ | ⟨e1, e2⟩
    · obtain ⟨h2, h3⟩ := single hm sz xs j h1 hj (.inl hc)
      rcases hat hm' sz' xs' e' with ⟨j', h1', hj'⟩ | ⟨e1', e2'⟩
      · obtain ⟨h2', _⟩ := single hm' sz' xs' j' h1' hj' (.inr hc')
        rw [h2, h2']
      · rw [hcc hm' e2'] at hc'
        rw [h2]; exact (h3 hm' _ _ _ _ _ e1' hc').symm
    · rw [hcc hm e2] at hc
      rcases hat hm' sz' xs' e' with ⟨j', h1', hj'⟩ | ⟨e1', e2'⟩
      · obtain ⟨h2', h3'⟩ := single hm' sz' xs' j' h1' hj' (.inr hc')
        rw [h2']; exact h3' hm _ _ _ _ _ e1 hc
      · rw [hcc hm' e2'] at hc'
        exact h.dst hm hm' sz xs sz' xs' k1 o1 n1 c1 o1' n1' c1' e1 e1' hc hc'
end Go.Proofs.YtggoaggneapneaaDoorM
