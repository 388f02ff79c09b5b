/-
  The mirror, part 3: what a step may turn, and that the relation between state and world stands behind it.
-/
import Derived.Test.YtggoaggneapneaaDoorM2
set_option linter.unusedVariables false
set_option linter.unusedSimpArgs false
namespace Go.Proofs.YtggoaggneapneaaDoorM
open Go
variable {X : Nat → Prop} {g g' : G} {nt : Nat} {s : St} {a : Act} {w w' : World}

theorem WRel.be_lt (h : WRel X g nt s a w) {i k : Nat} (hi : g.be[i]? = some k) : k < w.heap.size := by
  have hl : i < s.sg.bl.length := by rw [← h.len]; exact (List.getElem?_eq_some_iff.1 hi).1
  obtain ⟨ccs, T, fr, hk, _⟩ := (h.blk i k _ hi (List.getElem?_eq_getElem hl)).ex
  exact heap_lt hk
theorem WRel.get_rep (h : WRel X g nt s a w) (t : Nat) : ARep g (get s.env t) (a.tmps.getD t undef) := by
  unfold get
  cases hl : look s.env t with
  | none => exact .bot _
  | some v =>
    obtain ⟨cv, h1, h2⟩ := h.env t v hl
    simpa [Array.getD_eq_getD_getElem?, h1] using h2

theorem tmps_put (a : Act) (d : Nat) (v : Value) (t : Nat) (hd : d < a.tmps.size) : (a.put (some d) v).tmps[t]? = if d = t then some v else a.tmps[t]? := by
  simp only [Act.put, Array.getElem?_setIfInBounds]
  split
  · rename_i e; subst e; simp [hd]
  · rfl
theorem size_put (a : Act) (d : Option Nat) (v : Value) : (a.put d v).tmps.size = a.tmps.size := by cases d <;> simp [Act.put]
theorem defers_put (a : Act) (d : Option Nat) (v : Value) : (a.put d v).defers = a.defers := by cases d <;> rfl
theorem conc_put_cell (g : G) (a : Act) (w : World) (d : Option Nat) (v : Value) (b o : Nat) : conc g (a.put d v) w (.cell b o) = conc g a w (.cell b o) := rfl

theorem mem_noSlot {t : Nat} {l : List (Nat × Home)} {d : Nat} {h : Home} : (d, h) ∈ noSlot t l ↔ (d, h) ∈ l ∧ d ≠ t ∧ h ≠ .slot t := by
  simp [noSlot]
theorem mem_noCell {l : List (Nat × Home)} {d : Nat} {h : Home} (e : (d, h) ∈ noCell l) : (d, h) ∈ l ∧ ∃ t, h = .slot t := by
  simp only [noCell, List.mem_filter] at e
  refine ⟨e.1, ?_⟩
  cases h with
  | slot t => exact ⟨t, rfl⟩
  | cell b o => simp at e

/-- A result that is no slice of one's own goes into a slot. -/
theorem WRel.putv (h : WRel X g nt s a w) {d : Nat} (hd : d < nt) {v : AV} {cv : Value} (hv : ARep g v cv) (hno : isOwn v = false) {p : Option Home} (hp : ∀ hm, p = some hm → conc g a w hm = some cv) :
    WRel X g nt { env := put s.env d v, sg := s.sg, pr := provPut s.pr d p } (a.put (some d) cv) w := by
  have hda : d < a.tmps.size := by rw [h.nt]; exact hd
  have hcs : ∀ t, t ≠ d → conc g (a.put (some d) cv) w (.slot t) = conc g a w (.slot t) := fun t ht => by
    simp only [conc, tmps_put a d cv t hda]; rw [if_neg (Ne.symm ht)]
  have hat : ∀ hm sz xs, atHome { env := put s.env d v, sg := s.sg, pr := provPut s.pr d p } hm = some (.own sz xs) → atHome s hm = some (.own sz xs) ∧ hm ≠ .slot d := by
    intro hm sz xs e
    cases hm with
    | slot t =>
      simp only [atHome, look_put] at e
      split at e
      · injection e with e; subst e; simp [isOwn] at hno
      · rename_i ht; exact ⟨e, fun c => ht (by injection c with c; exact c.symm)⟩
    | cell b o => exact ⟨e, fun c => by cases c⟩
  have hcc : ∀ hm, hm ≠ .slot d → conc g (a.put (some d) cv) w hm = conc g a w hm := by
    intro hm hne
    cases hm with
    | slot t => exact hcs t fun c => hne (by rw [c])
    | cell b o => rfl
  refine { fok := h.fok, bas := h.bas, obk := h.obk, len := h.len, inj := h.inj, blk := h.blk, wrt := h.wrt, xlt := h.xlt, nt := by rw [size_put]; exact h.nt, env := ?_, prv := ?_, prm := ?_, dst := ?_, dfr := by rw [defers_put]; exact h.dfr }
  · intro t u e
    simp only [look_put] at e
    split at e
    · rename_i ht
      subst ht
      injection e with e
      subst e
      exact ⟨cv, by rw [tmps_put a d cv d hda, if_pos rfl], hv⟩
    · rename_i ht
      obtain ⟨u', h1, h2⟩ := h.env t u e
      exact ⟨u', by rw [tmps_put a d cv t hda, if_neg ht]; exact h1, h2⟩
  · intro d' hm e
    have key : ∀ d' hm, (d', hm) ∈ noSlot d s.pr → ∃ u, (a.put (some d) cv).tmps[d']? = some u ∧ conc g (a.put (some d) cv) w hm = some u := by
      intro d' hm e
      obtain ⟨e1, e2, e3⟩ := mem_noSlot.1 e
      obtain ⟨u, h1, h2⟩ := h.prv d' hm e1
      exact ⟨u, by rw [tmps_put a d cv d' hda, if_neg (Ne.symm e2)]; exact h1, by rw [hcc hm e3]; exact h2⟩
    cases p with
    | none => exact key d' hm e
    | some q =>
      simp only [provPut] at e
      split at e
      · exact key d' hm e
      · rename_i hq
        rcases List.mem_cons.1 e with e | e
        · injection e with e1 e2
          subst e1; subst e2
          exact ⟨cv, by rw [tmps_put a d' cv d' hda, if_pos rfl], by rw [hcc hm hq]; exact hp _ rfl⟩
        · exact key d' hm e
  · intro hm sz xs e
    obtain ⟨e1, e2⟩ := hat hm sz xs e
    obtain ⟨k, o, c, h1, h2⟩ := h.prm hm sz xs e1
    exact ⟨k, o, c, by rw [hcc hm e2]; exact h1, h2⟩
  · intro hm hm' sz xs sz' xs' k o n c o' n' c' e e' hc hc'
    obtain ⟨e1, e2⟩ := hat hm sz xs e
    obtain ⟨e1', e2'⟩ := hat hm' sz' xs' e'
    rw [hcc hm e2] at hc
    rw [hcc hm' e2'] at hc'
    exact h.dst hm hm' sz xs sz' xs' k o n c o' n' c' e1 e1' hc hc'

/-- A slice of one's own goes into a slot. -/
theorem WRel.putOwn (h : WRel X g nt s a w) {d : Nat} (hd : d < nt) {sz : Nat} {xs : List (List PV)} {k o c : Nat} (hv : ARep g (.own sz xs) (.slice (some ⟨k, o, none⟩) xs.length c))
    (hP : Perm X g w sz k o xs.length c)
    (hD : ∀ hm sz' xs' o' n' c', atHome s hm = some (.own sz' xs') → conc g a w hm = some (.slice (some ⟨k, o', none⟩) n' c') → hm = .slot d) :
    WRel X g nt { env := put s.env d (.own sz xs), sg := s.sg, pr := noSlot d s.pr } (a.put (some d) (.slice (some ⟨k, o, none⟩) xs.length c)) w := by
  have hda : d < a.tmps.size := by rw [h.nt]; exact hd
  have hcc : ∀ hm, hm ≠ .slot d → conc g (a.put (some d) (.slice (some ⟨k, o, none⟩) xs.length c)) w hm = conc g a w hm := by
    intro hm hne
    cases hm with
    | slot t => simp only [conc, tmps_put a d _ t hda]; rw [if_neg (fun c => hne (by rw [c]))]
    | cell b o => rfl
  have hcd : conc g (a.put (some d) (.slice (some ⟨k, o, none⟩) xs.length c)) w (.slot d) = some (.slice (some ⟨k, o, none⟩) xs.length c) := by
    simp only [conc, tmps_put a d _ d hda, if_pos]
  have hat : ∀ hm sz1 xs1, atHome { env := put s.env d (.own sz xs), sg := s.sg, pr := noSlot d s.pr } hm = some (.own sz1 xs1) → (hm = .slot d ∧ sz1 = sz ∧ xs1 = xs) ∨ (atHome s hm = some (.own sz1 xs1) ∧ hm ≠ .slot d) := by
    intro hm sz1 xs1 e
    cases hm with
    | slot t =>
      simp only [atHome, look_put] at e
      split at e
      · rename_i ht; injection e with e; injection e with e1 e2; exact .inl ⟨by rw [ht], e1.symm, e2.symm⟩
      · rename_i ht; exact .inr ⟨e, fun c => ht (by injection c with c; exact c.symm)⟩
    | cell b o => exact .inr ⟨e, fun c => by cases c⟩
  refine { fok := h.fok, bas := h.bas, obk := h.obk, len := h.len, inj := h.inj, blk := h.blk, wrt := h.wrt, xlt := h.xlt, nt := by rw [size_put]; exact h.nt, env := ?_, prv := ?_, prm := ?_, dst := ?_, dfr := by rw [defers_put]; exact h.dfr }
  · intro t u e
    simp only [look_put] at e
    split at e
    · rename_i ht
      subst ht
      injection e with e
      subst e
      exact ⟨_, by rw [tmps_put a d _ d hda, if_pos rfl], hv⟩
    · rename_i ht
      obtain ⟨u', h1, h2⟩ := h.env t u e
      exact ⟨u', by rw [tmps_put a d _ t hda, if_neg ht]; exact h1, h2⟩
  · intro d' hm e
    obtain ⟨e1, e2, e3⟩ := mem_noSlot.1 e
    obtain ⟨u, h1, h2⟩ := h.prv d' hm e1
    exact ⟨u, by rw [tmps_put a d _ d' hda, if_neg (Ne.symm e2)]; exact h1, by rw [hcc hm e3]; exact h2⟩
  · intro hm sz1 xs1 e
    rcases hat hm sz1 xs1 e with ⟨rfl, rfl, rfl⟩ | ⟨e1, e2⟩
    · exact ⟨k, o, c, hcd, hP⟩
    · obtain ⟨k1, o1, c1, h1, h2⟩ := h.prm hm sz1 xs1 e1
      exact ⟨k1, o1, c1, by rw [hcc hm e2]; exact h1, h2⟩
  · intro hm hm' sz1 xs1 sz' xs' k1 o1 n1 c1 o' n' c' e e' hc hc'
    rcases hat hm sz1 xs1 e with ⟨rfl, rfl, rfl⟩ | ⟨e1, e2⟩
    · rw [hcd] at hc
      rcases hat hm' sz' xs' e' with ⟨rfl, _, _⟩ | ⟨e1', e2'⟩
      · rfl
      · rw [hcc hm' e2'] at hc'
        have hk : k = k1 := by injection hc with hc; injection hc with hc; injection hc with hc; injection hc
        subst hk
        exact (hD hm' sz' xs' o' n' c' e1' hc').symm
    · rw [hcc hm e2] at hc
      rcases hat hm' sz' xs' e' with ⟨rfl, _, _⟩ | ⟨e1', e2'⟩
      · rw [hcd] at hc'
        have hk : k = k1 := by injection hc' with hc; injection hc with hc; injection hc with hc; injection hc
        subst hk
        exact hD hm sz1 xs1 o1 n1 c1 e1 hc
      · rw [hcc hm' e2'] at hc'
        exact h.dst hm hm' sz1 xs1 sz' xs' k1 o1 n1 c1 o' n' c' e1 e1' hc hc'

/-- A slot gives up what is its own. -/
theorem WRel.demSlot (h : WRel X g nt s a w) {t : Nat} {v : AV} (ht : look s.env t = some v) : WRel X g nt { s with env := put s.env t (dem v) } a w := by
  obtain ⟨cv, hc1, hc2⟩ := h.env t v ht
  have hat : ∀ hm sz xs, atHome { s with env := put s.env t (dem v) } hm = some (.own sz xs) → atHome s hm = some (.own sz xs) := by
    intro hm sz xs e
    cases hm with
    | slot t' =>
      simp only [atHome, look_put] at e
      split at e
      · injection e with e
        have := isOwn_dem v
        rw [e] at this
        simp [isOwn] at this
      · exact e
    | cell b o => exact e
  refine { fok := h.fok, bas := h.bas, obk := h.obk, len := h.len, inj := h.inj, blk := h.blk, wrt := h.wrt, xlt := h.xlt, nt := h.nt, env := ?_, prv := h.prv, prm := fun hm sz xs e => h.prm hm sz xs (hat hm sz xs e), dst := fun hm hm' sz xs sz' xs' k o n c o' n' c' e e' => h.dst hm hm' sz xs sz' xs' k o n c o' n' c' (hat _ _ _ e) (hat _ _ _ e'), dfr := h.dfr }
  intro t' u e
  simp only [look_put] at e
  split at e
  · rename_i ht'
    subst ht'
    injection e with e
    subst e
    exact ⟨cv, hc1, hc2.dem⟩
  · exact h.env t' u e

theorem WRel.demSlots (l : List Nat) : ∀ {s : St}, WRel X g nt s a w → (∀ t ∈ l, look s.env t ≠ none) → WRel X g nt { s with env := demSlots s.env l } a w := by
  induction l with
  | nil => exact fun h _ => h
  | cons t l ih =>
    intro s h hl
    have ht := hl t List.mem_cons_self
    obtain ⟨v, hv⟩ := Option.ne_none_iff_exists'.1 ht
    have hg : get s.env t = v := by simp [get, hv]
    have h1 := h.demSlot hv
    simp only [Go.Proofs.YtggoaggneapneaaDoorM.demSlots, hg]
    refine ih (s := { s with env := put s.env t (dem v) }) h1 fun t' ht' => ?_
    simp only [look_put]
    split
    · simp
    · exact hl t' (List.mem_cons_of_mem _ ht')

/-- Fewer copies are known. -/
theorem WRel.prov (h : WRel X g nt s a w) {pr : List (Nat × Home)} (hp : ∀ x ∈ pr, x ∈ s.pr) : WRel X g nt { s with pr := pr } a w :=
  { fok := h.fok, bas := h.bas, obk := h.obk, len := h.len, inj := h.inj, blk := h.blk, wrt := h.wrt, xlt := h.xlt, nt := h.nt, env := h.env, prv := fun d hm e => h.prv d hm (hp _ e), prm := fun hm sz xs e => h.prm hm sz xs (by cases hm <;> exact e),
    dst := fun hm hm' sz xs sz' xs' k o n c o' n' c' e e' => h.dst hm hm' sz xs sz' xs' k o n c o' n' c' (by cases hm <;> exact e) (by cases hm' <;> exact e'), dfr := h.dfr }

/-- Less is known of the slots. -/
theorem WRel.envLess (h : WRel X g nt s a w) {e : Env} (he : ∀ (t : Nat) v, look e t = some v → look s.env t = some v ∨ v = .bot ∧ t < nt) : WRel X g nt { s with env := e } a w := by
  have hat : ∀ hm sz xs, atHome { s with env := e } hm = some (.own sz xs) → atHome s hm = some (.own sz xs) := by
    intro hm sz xs e'
    cases hm with
    | slot t => rcases he t _ e' with h1 | ⟨h1, _⟩
                · exact h1
                · cases h1
    | cell b o => exact e'
  refine { fok := h.fok, bas := h.bas, obk := h.obk, len := h.len, inj := h.inj, blk := h.blk, wrt := h.wrt, xlt := h.xlt, nt := h.nt, env := ?_, prv := h.prv, prm := fun hm sz xs e => h.prm hm sz xs (hat hm sz xs e), dst := fun hm hm' sz xs sz' xs' k o n c o' n' c' e e' => h.dst hm hm' sz xs sz' xs' k o n c o' n' c' (hat _ _ _ e) (hat _ _ _ e'), dfr := h.dfr }
  intro t v e'
  rcases he t v e' with h1 | ⟨rfl, h2⟩
  · exact h.env t v h1
  · exact ⟨_, Array.getElem?_eq_getElem (by rw [h.nt]; exact h2), .bot _⟩

/-- Memory grows; nothing that was there turns. -/
theorem WRel.grow (h : WRel X g nt s a w) (hsz : w.heap.size ≤ w'.heap.size) (hw : ∀ k, k < w.heap.size → w'.heap[k]? = w.heap[k]?) (hg : g.le g') (hbe : g'.be = g.be)
    (hF : ∀ b o, b < w.heap.size → g'.F b o = g.F b o) (hF' : ∀ b o x, g'.F b o = some x → w'.cell? ⟨b, o, none⟩ = some x) (hO : ∀ b o, g'.ob b = some o → w'.heap[b]? = some o ∧ notCells o) : WRel X g' nt s a w' := by
  have hcc : ∀ hm cv, conc g a w hm = some cv → conc g' a w' hm = some cv := by
    intro hm cv e
    cases hm with
    | slot t => exact e
    | cell b o =>
      simp only [conc, hbe] at e ⊢
      obtain ⟨k, hk, hk2⟩ := Option.bind_eq_some_iff.1 e
      rw [hk]
      simp only [Option.bind_some]
      rw [cell_of_heap (hw k (cell_lt hk2))]
      exact hk2
  have hcc' : ∀ hm cv sz xs, atHome s hm = some (.own sz xs) → conc g' a w' hm = some cv → conc g a w hm = some cv := by
    intro hm cv sz xs e e'
    obtain ⟨k, o, c, h1, _⟩ := h.prm hm sz xs e
    have := hcc hm _ h1
    rw [this] at e'
    rw [h1, ← e']
  refine { fok := hF', bas := fun b o v e => hg.F b o v (h.bas b o v e), obk := hO, len := by rw [hbe]; exact h.len, inj := by rw [hbe]; exact h.inj, blk := ?_, wrt := by rw [hbe]; exact h.wrt, xlt := fun k hk => Nat.lt_of_lt_of_le (h.xlt k hk) hsz, nt := h.nt, env := ?_, prv := ?_, prm := ?_, dst := ?_, dfr := h.dfr }
  · intro i k cs hi hb
    rw [hbe] at hi
    have hk := h.be_lt hi
    exact (h.blk i k cs hi hb).same hg (hw k hk) fun o => by rw [hF k o hk]; exact (h.blk i k cs hi hb).noF o
  · intro t v e
    obtain ⟨cv, h1, h2⟩ := h.env t v e
    exact ⟨cv, h1, h2.mono hg⟩
  · intro d hm e
    obtain ⟨cv, h1, h2⟩ := h.prv d hm e
    exact ⟨cv, h1, hcc hm cv h2⟩
  · intro hm sz xs e
    obtain ⟨k, o, c, h1, h2⟩ := h.prm hm sz xs e
    obtain ⟨ccs, T, fr, hk, _⟩ := h2.ex
    have hlt := heap_lt hk
    exact ⟨k, o, c, hcc hm _ h1, h2.same (hw k hlt) (fun q hq => by rw [hF k q hlt]; exact h2.noF q hq) (by rw [hbe]; exact h2.nbe)⟩
  · intro hm hm' sz xs sz' xs' k o n c o' n' c' e e' hc hc'
    exact h.dst hm hm' sz xs sz' xs' k o n c o' n' c' e e' (hcc' hm _ _ _ e hc) (hcc' hm' _ _ _ e' hc')

/-- A new block of memory, whose cells nobody will write: its facts are told. -/
def G.facts (g : G) (k : Nat) (f : Nat → Option Value) : G := { g with F := fun b o => if b = k then f o else g.F b o }

theorem WRel.noFacts (h : WRel X g nt s a w) (o : Nat) : g.F w.heap.size o = none := by
  cases e : g.F w.heap.size o with
  | none => rfl
  | some x => exact absurd (cell_lt (h.fok _ _ _ e)) (Nat.lt_irrefl _)
theorem WRel.facts_le (h : WRel X g nt s a w) (f : Nat → Option Value) : g.le (g.facts w.heap.size f) :=
  ⟨fun b o x e => by
    have : b ≠ w.heap.size := fun c => by subst c; rw [h.noFacts] at e; cases e
    simp only [G.facts]; rw [if_neg this]; exact e, fun i k e => e, fun _ _ e => e⟩
theorem WRel.obLess (h : WRel X g nt s a w) (hw : ∀ k, k < w.heap.size → w'.heap[k]? = w.heap[k]?) (b : Nat) (o : Obj) (e : g.ob b = some o) : w'.heap[b]? = some o ∧ notCells o :=
  ⟨by rw [hw b (heap_lt (h.obk b o e).1)]; exact (h.obk b o e).1, (h.obk b o e).2⟩
theorem WRel.obNe (h : WRel X g nt s a w) {k : Nat} (hk : ∃ ccs T fr, w.heap[k]? = some (.cells ccs T fr)) (hw : ∀ k', k' ≠ k → w'.heap[k']? = w.heap[k']?) (b : Nat) (o : Obj) (e : g.ob b = some o) : w'.heap[b]? = some o ∧ notCells o := by
  obtain ⟨h1, h2⟩ := h.obk b o e
  obtain ⟨ccs, T, fr, h3⟩ := hk
  have hne : b ≠ k := by
    rintro rfl
    rw [h1] at h3
    cases h3
    exact h2
  exact ⟨by rw [hw b hne]; exact h1, h2⟩
theorem WRel.ext_facts (h : WRel X g nt s a w) (f : Nat → Option Value) : Ext X g (g.facts w.heap.size f) :=
  ⟨h.facts_le f, fun b o hb => by
    have : b ≠ w.heap.size := fun c => by subst c; exact absurd (h.xlt _ hb) (Nat.lt_irrefl _)
    simp only [G.facts]; rw [if_neg this], fun i k e => .inl e⟩
theorem WRel.growNew (h : WRel X g nt s a w) (hsz : w'.heap.size = w.heap.size + 1) (hw : ∀ k, k < w.heap.size → w'.heap[k]? = w.heap[k]?)
    (f : Nat → Option Value) (hf : ∀ o x, f o = some x → w'.cell? ⟨w.heap.size, o, none⟩ = some x) : WRel X (g.facts w.heap.size f) nt s a w' :=
  h.grow (by omega) hw (h.facts_le f) rfl (fun b o hb => by simp only [G.facts]; rw [if_neg (by omega)]) (fun b o x e => by
    simp only [G.facts] at e
    split at e
    · rename_i hb; subst hb; exact hf o x e
    · have := h.fok b o x e
      rw [cell_of_heap (hw b (cell_lt this))]; exact this) (h.obLess hw)

/-- A new variable. -/
theorem WRel.newVar (h : WRel X g nt s a w) {cs : List AV} {ccs : Array Value} {T : TypeId} {fr : Nat × Nat} (hl : cs.length ≤ ccs.size) (hr : ∀ (j : Nat) a, cs[j]? = some a → ∃ v, ccs[j]? = some v ∧ ARep g a v)
    (hc : ∀ (j : Nat) a, cs[j]? = some a → isCell a = true ∧ isOwn a = false) (hfr : ∀ j, j < cs.length → (decide (fr.1 ≤ j) && decide (j < fr.2)) = false)
    (hsz : w'.heap.size = w.heap.size + 1) (hw : ∀ k, k < w.heap.size → w'.heap[k]? = w.heap[k]?) (hnew : w'.heap[w.heap.size]? = some (.cells ccs T fr)) :
    WRel X { g with be := g.be ++ [w.heap.size] } nt { s with sg := { s.sg with bl := s.sg.bl ++ [cs] } } a w' := by
  have hle : g.le { g with be := g.be ++ [w.heap.size] } := ⟨Facts.le_refl _, fun i k e => by
    rw [List.getElem?_append_left (List.getElem?_eq_some_iff.1 e).1]; exact e, fun _ _ e => e⟩
  have hbe : ∀ i k : Nat, (g.be ++ [w.heap.size])[i]? = some k → g.be[i]? = some k ∨ (i = g.be.length ∧ k = w.heap.size) := by
    intro i k e
    rcases Nat.lt_or_ge i g.be.length with hi | hi
    · rw [List.getElem?_append_left hi] at e; exact .inl e
    · rw [List.getElem?_append_right hi] at e
      refine .inr ?_
      have : i - g.be.length = 0 := by
        rcases Nat.eq_zero_or_pos (i - g.be.length) with h0 | h0
        · exact h0
        · rw [List.getElem?_eq_none (by simp; omega)] at e; cases e
      rw [this] at e
      exact ⟨by omega, by simpa using e.symm⟩
  have hcc : ∀ hm cv, conc g a w hm = some cv → conc { g with be := g.be ++ [w.heap.size] } a w' hm = some cv := by
    intro hm cv e
    cases hm with
    | slot t => exact e
    | cell b o =>
      simp only [conc] at e ⊢
      obtain ⟨k, hk, hk2⟩ := Option.bind_eq_some_iff.1 e
      rw [hle.be b k hk]
      simp only [Option.bind_some]
      rw [cell_of_heap (hw k (cell_lt hk2))]
      exact hk2
  have hat : ∀ hm sz xs, atHome { s with sg := { s.sg with bl := s.sg.bl ++ [cs] } } hm = some (.own sz xs) → atHome s hm = some (.own sz xs) := by
    intro hm sz xs e
    cases hm with
    | slot t => exact e
    | cell b o =>
      simp only [atHome, cellAt] at e ⊢
      split at e
      · rename_i hfl
        rw [if_pos hfl]
        rcases Nat.lt_or_ge b s.sg.bl.length with hb | hb
        · rw [List.getElem?_append_left hb] at e; exact e
        · rw [List.getElem?_append_right hb] at e
          obtain ⟨l, hl1, hl2⟩ := Option.bind_eq_some_iff.1 e
          have : l = cs := by
            rcases Nat.eq_zero_or_pos (b - s.sg.bl.length) with h0 | h0
            · rw [h0] at hl1; simpa using hl1.symm
            · rw [List.getElem?_eq_none (by simp; omega)] at hl1; cases hl1
          subst this
          have := (hc o _ hl2).2
          simp [isOwn] at this
      · cases e
  have hcc' : ∀ hm cv sz xs, atHome s hm = some (.own sz xs) → conc { g with be := g.be ++ [w.heap.size] } a w' hm = some cv → conc g a w hm = some cv := by
    intro hm cv sz xs e e'
    obtain ⟨k, o, c, h1, _⟩ := h.prm hm sz xs e
    have := hcc hm _ h1
    rw [this] at e'
    rw [h1, ← e']
  refine { fok := ?_, bas := h.bas, obk := h.obLess hw, len := by simp [h.len], inj := ?_, blk := ?_, wrt := ?_, xlt := fun k hk => by have := h.xlt k hk; omega, nt := h.nt, env := ?_, prv := ?_, prm := ?_, dst := ?_, dfr := h.dfr }
  · intro b o x e
    have := h.fok b o x e
    rw [cell_of_heap (hw b (cell_lt this))]; exact this
  · intro i j k hi hj
    rcases hbe i k hi with hi | ⟨hi, hk⟩
    · rcases hbe j k hj with hj | ⟨hj, hk⟩
      · exact h.inj i j k hi hj
      · have := h.be_lt hi; omega
    · rcases hbe j k hj with hj | ⟨hj, hk'⟩
      · have := h.be_lt hj; omega
      · omega
  · intro i k l hi hb
    rcases hbe i k hi with hi' | ⟨hi', hk⟩
    · have hlt : i < s.sg.bl.length := by rw [← h.len]; exact (List.getElem?_eq_some_iff.1 hi').1
      simp only at hb
      rw [List.getElem?_append_left hlt] at hb
      exact (h.blk i k l hi' hb).same hle (hw k (h.be_lt hi')) (h.blk i k l hi' hb).noF
    · subst hk
      simp only at hb
      rw [hi', h.len, List.getElem?_append_right (Nat.le_refl _)] at hb
      simp at hb
      subst hb
      refine ⟨⟨ccs, T, fr, hnew, hl⟩, ?_, fun j a e => (hc j a e).1, ?_, fun o => h.noFacts o⟩
      · intro j a e
        obtain ⟨v, h1, h2⟩ := hr j a e
        exact ⟨v, heap_cell hnew h1, h2.mono hle⟩
      · intro j hj
        unfold FrozenNo World.frozen?
        rw [hnew]
        exact hfr j hj
  · intro i k hf hi
    rcases hbe i k hi with hi | ⟨hi, hk⟩
    · exact h.wrt i k hf hi
    · subst hk; exact fun hx => absurd (h.xlt _ hx) (Nat.lt_irrefl _)
  · intro t v e
    obtain ⟨cv, h1, h2⟩ := h.env t v e
    exact ⟨cv, h1, h2.mono hle⟩
  · intro d hm e
    obtain ⟨cv, h1, h2⟩ := h.prv d hm e
    exact ⟨cv, h1, hcc hm cv h2⟩
  · intro hm sz xs e
    obtain ⟨k, o, c, h1, h2⟩ := h.prm hm sz xs (hat hm sz xs e)
    obtain ⟨ccs', T', fr', hk, _⟩ := h2.ex
    have hlt := heap_lt hk
    refine ⟨k, o, c, hcc hm _ h1, h2.same (hw k hlt) h2.noF fun i hi => ?_⟩
    rcases hbe i k hi with hi | ⟨hi, hk⟩
    · exact h2.nbe i hi
    · omega
  · intro hm hm' sz xs sz' xs' k o n c o' n' c' e e' hc1 hc2
    exact h.dst hm hm' sz xs sz' xs' k o n c o' n' c' (hat _ _ _ e) (hat _ _ _ e') (hcc' hm _ _ _ (hat _ _ _ e) hc1) (hcc' hm' _ _ _ (hat _ _ _ e') hc2)
theorem WRel.ext_newVar (h : WRel X g nt s a w) : Ext X g { g with be := g.be ++ [w.heap.size] } :=
  ⟨⟨Facts.le_refl _, fun i k e => by rw [List.getElem?_append_left (List.getElem?_eq_some_iff.1 e).1]; exact e, fun _ _ e => e⟩, fun _ _ _ => rfl, fun i k e => by
    rcases Nat.lt_or_ge i g.be.length with hi | hi
    · simp only at e; rw [List.getElem?_append_left hi] at e; exact .inl e
    · simp only at e
      rw [List.getElem?_append_right hi] at e
      refine .inr fun hx => ?_
      have hk : k = w.heap.size := by
        rcases Nat.eq_zero_or_pos (i - g.be.length) with h0 | h0
        · rw [h0] at e; simpa using e.symm
        · rw [List.getElem?_eq_none (by simp; omega)] at e; cases e
      subst hk
      exact absurd (h.xlt _ hx) (Nat.lt_irrefl _)⟩
end Go.Proofs.YtggoaggneapneaaDoorM
