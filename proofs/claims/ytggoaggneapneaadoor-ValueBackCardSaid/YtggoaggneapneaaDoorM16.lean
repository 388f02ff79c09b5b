/-
  The mirror, part 16: a call: what the caller keeps, what the callee may turn, what is forgotten when it comes back.
-/
import Derived.Test.YtggoaggneapneaaDoorM14
import Derived.Test.YtggoaggneapneaaDoorM15
set_option linter.unusedVariables false
set_option linter.unusedSimpArgs false
namespace Go.Proofs.YtggoaggneapneaaDoorM
open Go
variable {X : Nat → Prop} {g g' : G} {nt : Nat} {s : St} {a : Act} {w w' : World} {F : Facts} {P : Program} {o : Oper} {sg : Sig}

/-- Memory alone. -/
def SRel (X : Nat → Prop) (g : G) (sg : Sig) (w : World) : Prop := WRel X g 0 { env := [], sg, pr := [] } { tmps := #[], defers := [] } w

def Args (g : G) (args : List AV) (vs : List Value) : Prop := args.length = vs.length ∧ ∀ (j : Nat) x v, args[j]? = some x → vs[j]? = some v → ARep g x v ∧ isOwn x = false

/-- What a call comes to. -/
def Does (P : Program) (f : FuncId) (vs : Array Value) (w : World) (Post : Value → World → Prop) : Prop :=
  (∃ v w', (callFunc f vs).run P w = .ok (.value v) w' ∧ Post v w') ∨
  ((callFunc f vs).run P w = .ok (.enter f vs) w ∧ CallsIn Fence.wide 0 P f vs w fun e w' => ∃ v, e = .returned v ∧ Post v w')

def PostS (X : Nat → Prop) (g : G) (w : World) (sg' : Sig) (r : AV) (v : Value) (w' : World) : Prop :=
  ∃ g', SRel X g' sg' w' ∧ ARep g' r v ∧ isOwn r = false ∧ Ext X g g' ∧ Pres X g.F w w'
def Sat (P : Program) (f : Nat) (args : List AV) (sg sg' : Sig) (r : AV) : Prop :=
  ∀ X g w vs, SRel X g sg w → Args g args vs → Does P f vs.toArray w (PostS X g w sg' r)

/-- What the caller keeps besides: the blocks of what may be appended to. -/
def Kept (X : Nat → Prop) (s : St) (a : Act) (k : Nat) : Prop :=
  X k ∨ ∃ t sz xs o n c, look s.env t = some (.own sz xs) ∧ a.tmps[t]? = some (.slice (some ⟨k, o, none⟩) n c)

theorem slot_perm (h : WRel X g nt s a w) {t sz : Nat} {xs : List (List PV)} {k o n c : Nat} (hl : look s.env t = some (.own sz xs)) (ht : a.tmps[t]? = some (.slice (some ⟨k, o, none⟩) n c)) : Perm X g w sz k o xs.length c ∧ n = xs.length := by
  obtain ⟨k1, o1, c1, h1, h2⟩ := h.prm (.slot t) sz xs hl
  have h1 : a.tmps[t]? = some (.slice (some ⟨k1, o1, none⟩) xs.length c1) := h1
  rw [ht] at h1
  cases h1
  exact ⟨h2, rfl⟩

theorem WRel.keeps (h : WRel X g nt s a w) : SRel (Kept X s a) g s.sg w := by
  have hno : ∀ b q sz xs k o n c, atHome { env := [], sg := s.sg, pr := [] } (.cell b q) = some (.own sz xs) → conc g a w (.cell b q) = some (.slice (some ⟨k, o, none⟩) n c) → ¬ Kept X s a k := by
    rintro b q sz xs k o n c e1 e2 (hx | ⟨t, sz', xs', o', n', c', h1, h2⟩)
    · obtain ⟨k1, o1, c1, h3, h4⟩ := h.prm (.cell b q) sz xs e1
      rw [e2] at h3
      cases h3
      exact h4.nX hx
    · have := h.dst (.slot t) (.cell b q) sz' xs' sz xs k o' n' c' o n c h1 e1 h2 e2
      cases this
  refine { fok := h.fok, bas := h.bas, obk := h.obk, len := h.len, inj := h.inj, blk := h.blk, wrt := ?_, xlt := ?_, nt := rfl, env := fun t v e => (by cases e), prv := fun d hm e => (by cases e), prm := ?_, dst := ?_, dfr := rfl }
  · rintro i k hf hi (hx | ⟨t, sz, xs, o, n, c, h1, h2⟩)
    · exact h.wrt i k hf hi hx
    · exact (slot_perm h h1 h2).1.nbe i hi
  · rintro k (hx | ⟨t, sz, xs, o, n, c, h1, h2⟩)
    · exact h.xlt k hx
    · obtain ⟨ccs, T, fr, h3, _⟩ := (slot_perm h h1 h2).1.ex
      exact heap_lt h3
  · intro hm sz xs e
    cases hm with
    | slot t => cases e
    | cell b q =>
      obtain ⟨k, o, c, h1, h2⟩ := h.prm (.cell b q) sz xs e
      exact ⟨k, o, c, h1, ⟨hno b q sz xs k o _ c e h1, h2.nbe, h2.le, h2.ex, h2.noF⟩⟩
  · intro hm hm' sz xs sz' xs' k o n c o' n' c' e e' h1 h2
    cases hm with
    | slot t => cases e
    | cell b q =>
      cases hm' with
      | slot t => cases e'
      | cell b' q' => exact h.dst (.cell b q) (.cell b' q') sz xs sz' xs' k o n c o' n' c' e e' h1 h2

theorem WRel.back (h : WRel X g nt s a w) {sg' : Sig} (hS : SRel (Kept X s a) g' sg' w') (hE : Ext (Kept X s a) g g') (hP : Pres (Kept X s a) g.F w w') :
    WRel X g' nt { env := s.env, sg := sg', pr := noCell s.pr } a w' := by
  have hslot : ∀ t sz xs k o n c, look s.env t = some (.own sz xs) → a.tmps[t]? = some (.slice (some ⟨k, o, none⟩) n c) → Kept X s a k := fun t sz xs k o n c h1 h2 => .inr ⟨t, sz, xs, o, n, c, h1, h2⟩
  have hcell : ∀ b q sz xs, atHome { env := s.env, sg := sg', pr := noCell s.pr } (.cell b q) = some (.own sz xs) →
      ∃ k o c, conc g' a w' (.cell b q) = some (.slice (some ⟨k, o, none⟩) xs.length c) ∧ Perm (Kept X s a) g' w' sz k o xs.length c := fun b q sz xs e => hS.prm (.cell b q) sz xs e
  refine { fok := hS.fok, bas := hS.bas, obk := hS.obk, len := hS.len, inj := hS.inj, blk := hS.blk, wrt := fun i k hf hi hx => hS.wrt i k hf hi (.inl hx), xlt := fun k hx => Nat.lt_of_lt_of_le (h.xlt k hx) hP.size, nt := h.nt, env := ?_, prv := ?_, prm := ?_, dst := ?_, dfr := h.dfr }
  · intro t v e
    obtain ⟨cv, h1, h2⟩ := h.env t v e
    exact ⟨cv, h1, h2.mono hE.le⟩
  · intro d hm e
    obtain ⟨h1, t, rfl⟩ := mem_noCell e
    exact h.prv d (.slot t) h1
  · intro hm sz xs e
    cases hm with
    | slot t =>
      obtain ⟨k, o, c, h1, h2⟩ := h.prm (.slot t) sz xs e
      have hk := hslot t sz xs k o _ c e h1
      refine ⟨k, o, c, h1, h2.like (hP.same k hk) (fun q hq => by rw [hE.F k q hk]; exact h2.noF q hq) fun i hi => ?_⟩
      rcases hE.be i k hi with h3 | h3
      · exact h2.nbe i h3
      · exact h3 hk
    | cell b q =>
      obtain ⟨k, o, c, h1, h2⟩ := hcell b q sz xs e
      exact ⟨k, o, c, h1, ⟨fun hx => h2.nX (.inl hx), h2.nbe, h2.le, h2.ex, h2.noF⟩⟩
  · intro hm hm' sz xs sz' xs' k o n c o' n' c' e e' h1 h2
    cases hm with
    | slot t =>
      cases hm' with
      | slot t' => exact h.dst (.slot t) (.slot t') sz xs sz' xs' k o n c o' n' c' e e' h1 h2
      | cell b q =>
        obtain ⟨k1, o1, c1, h3, h4⟩ := hcell b q sz' xs' e'
        rw [h2] at h3
        cases h3
        exact absurd (hslot t sz xs k o n c e h1) h4.nX
    | cell b q =>
      cases hm' with
      | slot t =>
        obtain ⟨k1, o1, c1, h3, h4⟩ := hcell b q sz xs e
        rw [h1] at h3
        cases h3
        exact absurd (hslot t sz' xs' k o' n' c' e' h2) h4.nX
      | cell b' q' => exact hS.dst (.cell b q) (.cell b' q') sz xs sz' xs' k o n c o' n' c' e e' h1 h2

/-! ### A function that keeps nothing: what it made is only read from then on -/
def Facts.frozen (F : Facts) (n : Nat) (w : World) : Facts := fun b o => if n ≤ b then w.cell? ⟨b, o, none⟩ else F b o

theorem SRel.shut (h : SRel X g sg w) : SRel (fun k => k < w.heap.size) g { sg with fl := sg.bl.length } w := by
  have hno : ∀ hm sz xs, atHome { env := [], sg := { sg with fl := sg.bl.length }, pr := [] } hm ≠ some (.own sz xs) := by
    intro hm sz xs e
    cases hm with
    | slot t => cases e
    | cell b q =>
      obtain ⟨h1, h2⟩ := atHome_cell.1 e
      simp only [cellAt] at h2
      obtain ⟨cs, h3, _⟩ := Option.bind_eq_some_iff.1 h2
      have := (List.getElem?_eq_some_iff.1 h3).1
      simp only at h1 this
      omega
  refine { fok := h.fok, bas := h.bas, obk := h.obk, len := h.len, inj := h.inj, blk := h.blk, wrt := ?_, xlt := fun k hk => hk, nt := rfl, env := fun t v e => (by cases e), prv := fun d hm e => (by cases e), prm := fun hm sz xs e => absurd e (hno hm sz xs), dst := fun hm hm' sz xs sz' xs' k o n c o' n' c' e => absurd e (hno hm sz xs), dfr := rfl }
  intro i k hf hi
  have h1 := (List.getElem?_eq_some_iff.1 hi).1
  have h2 : g.be.length = sg.bl.length := h.len
  simp only at hf
  omega

theorem SRel.unshut (h : SRel X g sg w) {sg1 : Sig} (h1 : SRel (fun k => k < w.heap.size) g' sg1 w') (hEl : g.F.le g'.F) (hOb : ∀ b o, g.ob b = some o → g'.ob b = some o) (hEF : ∀ b o, b < w.heap.size → g'.F b o = g.F b o) (hP : Pres (fun k => k < w.heap.size) g.F w w') :
    SRel X { F := g'.F.frozen w.heap.size w', be := g.be, ob := g'.ob } sg w' ∧ Ext X g { F := g'.F.frozen w.heap.size w', be := g.be, ob := g'.ob } ∧ Pres X g.F w w' ∧ g'.F.le (g'.F.frozen w.heap.size w') := by
  have hlt : ∀ k, X k → k < w.heap.size := h.xlt
  have hle : g'.F.le (g'.F.frozen w.heap.size w') := by
    intro b o x e
    unfold Facts.frozen
    split
    · exact h1.fok b o x e
    · exact e
  have hbe : ∀ {i k : Nat}, g.be[i]? = some k → k < w.heap.size := fun e => h.be_lt e
  have hF : ∀ b o, b < w.heap.size → g'.F.frozen w.heap.size w' b o = g.F b o := by
    intro b o hb
    unfold Facts.frozen
    rw [if_neg (by omega)]
    exact hEF b o hb
  have hg : g.le { F := g'.F.frozen w.heap.size w', be := g.be, ob := g'.ob } := ⟨Facts.le_trans hEl hle, fun i k e => e, hOb⟩
  refine ⟨?_, ⟨hg, fun b o hb => hF b o (hlt b hb), fun i k e => .inl e⟩, hP.less hlt, hle⟩
  refine { fok := ?_, bas := fun b o v e => hg.F b o v (h.bas b o v e), obk := h1.obk, len := h.len, inj := h.inj, blk := ?_, wrt := h.wrt, xlt := fun k hk => Nat.lt_of_lt_of_le (hlt k hk) hP.size, nt := rfl, env := fun t v e => (by cases e), prv := fun d hm e => (by cases e), prm := ?_, dst := ?_, dfr := rfl }
  · intro b o x e
    simp only [Facts.frozen] at e
    split at e
    · exact e
    · exact h1.fok b o x e
  · intro i k cs hi hc
    have hB := h.blk i k cs hi hc
    exact hB.same hg ((hP.same k (hbe hi)).bare hB.noF) fun o => by show g'.F.frozen w.heap.size w' k o = none; rw [hF k o (hbe hi)]; exact hB.noF o
  · intro hm sz xs e
    cases hm with
    | slot t => cases e
    | cell b q =>
      obtain ⟨k, o, c, h2, h3⟩ := h.prm (.cell b q) sz xs e
      obtain ⟨ccs, T, fr, h4, h5⟩ := h3.ex
      have hk := heap_lt h4
      refine ⟨k, o, c, ?_, h3.like (hP.same k hk) (fun q hq => by show g'.F.frozen w.heap.size w' k q = none; rw [hF k q hk]; exact h3.noF q hq) h3.nbe⟩
      simp only [conc] at h2 ⊢
      obtain ⟨kk, h6, h7⟩ := Option.bind_eq_some_iff.1 h2
      rw [h6]
      simp only [Option.bind_some]
      rw [(hP.same kk (hbe h6)).cell]
      exact h7
  · intro hm hm' sz xs sz' xs' k o n c o' n' c' e e' h2 h3
    have key : ∀ hm sz xs k o n c, atHome { env := [], sg := sg, pr := [] } hm = some (.own sz xs) → conc { F := g'.F.frozen w.heap.size w', be := g.be, ob := g'.ob } { tmps := #[], defers := [] } w' hm = some (.slice (some ⟨k, o, none⟩) n c) →
        conc g { tmps := #[], defers := [] } w hm = some (.slice (some ⟨k, o, none⟩) n c) := by
      intro hm sz xs k o n c e h2
      cases hm with
      | slot t => cases e
      | cell b q =>
        simp only [conc] at h2 ⊢
        obtain ⟨kk, h6, h7⟩ := Option.bind_eq_some_iff.1 h2
        rw [h6]
        simp only [Option.bind_some]
        rw [← (hP.same kk (hbe h6)).cell]
        exact h7
    exact h.dst hm hm' sz xs sz' xs' k o n c o' n' c' e e' (key hm sz xs k o n c e h2) (key hm' sz' xs' k o' n' c' e' h3)

theorem SRel.empty (h : SRel X g sg w) : SRel (fun k => k < w.heap.size) { F := g.F, be := [], ob := g.ob } { bl := [], fl := 0 } w := by
  have hno : ∀ hm sz xs, atHome { env := [], sg := { bl := [], fl := 0 }, pr := [] } hm ≠ some (.own sz xs) := by
    intro hm sz xs e
    cases hm with
    | slot t => cases e
    | cell b q =>
      obtain ⟨_, h2⟩ := atHome_cell.1 e
      simp [cellAt] at h2
  refine { fok := h.fok, bas := h.bas, obk := h.obk, len := rfl, inj := fun i j k e => (by simp at e), blk := fun i k cs e => (by simp at e), wrt := fun i k _ e => (by simp at e), xlt := fun k hk => hk, nt := rfl, env := fun t v e => (by cases e), prv := fun d hm e => (by cases e), prm := fun hm sz xs e => absurd e (hno hm sz xs), dst := fun hm hm' sz xs sz' xs' k o n c o' n' c' e => absurd e (hno hm sz xs), dfr := rfl }
theorem closed1_rep {x : AV} {v : Value} (h : ARep g x v) (hc : closed1 x = true) : ARep { F := g.F, be := [], ob := g.ob } x v := by
  cases h with
  | pv p v h => exact .pv p v h
  | nils => exact .nils
  | nilp => exact .nilp
  | nilfn => exact .nilfn
  | nilif => exact .nilif
  | _ => simp [closed1] at hc
theorem closedA_rep {x : AV} {v : Value} (h : ARep g x v) (hc : closedA x = true) : ARep { F := g.F, be := [], ob := g.ob } x v := by
  cases x with
  | agg cs =>
    simp only [closedA, List.all_eq_true] at hc
    cases h with
    | agg cs vs hl hr => exact .agg cs vs hl fun j a v e1 e2 => closed1_rep (hr j a v e1 e2) (hc a (List.mem_of_getElem? e1))
  | _ => exact closed1_rep h hc
theorem closed_args {args : List AV} {vs : List Value} (h : Args g args vs) (hc : args.all closedA = true) : Args { F := g.F, be := [], ob := g.ob } args vs := by
  rw [List.all_eq_true] at hc
  exact ⟨h.1, fun j x v e1 e2 => ⟨closedA_rep (h.2 j x v e1 e2).1 (hc x (List.mem_of_getElem? e1)), (h.2 j x v e1 e2).2⟩⟩

theorem chunk_get {sz : Nat} : ∀ (n : Nat) (l : List PV), l.length = n * sz → (chunk sz n l).length = n ∧ (∀ r ∈ chunk sz n l, r.length = sz) ∧ ∀ (j : Nat) r (q : Nat) p, (chunk sz n l)[j]? = some r → r[q]? = some p → l[j * sz + q]? = some p
  | 0, l, h => by simp [chunk]
  | n + 1, l, h => by
    have hl : (l.drop sz).length = n * sz := by rw [List.length_drop, h, Nat.add_mul]; omega
    obtain ⟨h1, h2, h3⟩ := chunk_get n (l.drop sz) hl
    have h4 : (l.take sz).length = sz := by rw [List.length_take, h, Nat.add_mul]; omega
    refine ⟨by simp [chunk, h1], ?_, ?_⟩
    · intro r hr
      simp only [chunk, List.mem_cons] at hr
      rcases hr with rfl | hr
      · exact h4
      · exact h2 r hr
    · intro j r q p hj hq
      cases j with
      | zero =>
        simp only [chunk, List.getElem?_cons_zero, Option.some.injEq] at hj
        subst hj
        rw [List.getElem?_take] at hq
        split at hq
        · simpa using hq
        · cases hq
      | succ j =>
        simp only [chunk, List.getElem?_cons_succ] at hj
        have := h3 j r q p hj hq
        rw [List.getElem?_drop] at this
        rw [← this]
        congr 1
        rw [Nat.add_mul]; omega

/-- What is handed back by a function that keeps nothing. -/
theorem freeze_rep {F' : Facts} {g2 : G} {n : Nat} (h : SRel (fun k => k < n) g sg w) (hle : g.F.le F') (hF : ∀ b o v, n ≤ b → w.cell? ⟨b, o, none⟩ = some v → F' b o = some v) (h2 : g2.F = F') {x r : AV} {v : Value}
    (hx : ARep g x v) (e : freeze sg x = some r) : ARep g2 r v ∧ isOwn r = false := by
  subst h2
  cases x with
  | pv p => simp only [freeze] at e; cases e; cases hx with | pv p v h => exact ⟨.pv _ _ (h.mono hle), rfl⟩
  | nils => simp only [freeze] at e; cases e; cases hx; exact ⟨.pv _ _ (.slE none 0), rfl⟩
  | own sz xs => simp only [freeze] at e; cases e; cases hx with | own sz xs b o c h hs => exact ⟨.pv _ _ (h.mono hle), rfl⟩
  | row b o m sz =>
    simp only [freeze] at e
    cases hb : sg.bl[b]? with
    | none => rw [hb] at e; cases e
    | some cs =>
      rw [hb] at e
      simp only at e
      split at e
      · rename_i hc0
        obtain ⟨hfl, hfit⟩ := hc0
        obtain ⟨ps, h3, rfl⟩ := Option.map_eq_some_iff.1 e
        cases hx with
        | row b o m sz k c hk hc =>
          have hB := h.blk b k cs hk hb
          have hnew : n ≤ k := Nat.le_of_not_lt (h.wrt b k hfl hk)
          obtain ⟨h4, h5⟩ := purL_get h3
          refine ⟨.pv _ _ ?_, rfl⟩
          have hpl : ps.length = m * sz := by rw [h4, List.length_take, List.length_drop]; omega
          obtain ⟨h6, h7, h8⟩ := chunk_get m ps hpl
          have hrows : HasRows g2.F k o sz (chunk sz m ps) := by
            intro j r q p hj hq
            have h9 := h8 j r q p hj hq
            obtain ⟨x, h10, h11⟩ := h5 _ p h9
            rw [List.getElem?_take] at h10
            split at h10
            · rw [List.getElem?_drop] at h10
              obtain ⟨v, h12, h13⟩ := hB.cells _ x h10
              refine ⟨v, ?_, (pur1_rep h13 h11).mono hle⟩
              rw [Nat.add_assoc]
              exact hF k _ v hnew h12
            · cases h10
          have := VRep.of_rows h7 (by rw [h6]; exact hc) hrows (c := c)
          rw [h6] at this
          exact this
      · cases e
  | nilp => simp only [freeze] at e; cases e; cases hx; exact ⟨.nilp, rfl⟩
  | nilfn => simp only [freeze] at e; cases e; cases hx; exact ⟨.nilfn, rfl⟩
  | nilif => simp only [freeze] at e; cases e; cases hx; exact ⟨.nilif, rfl⟩
  | _ => simp [freeze] at e
theorem map_get {α β : Type} {f : α → Option β} {fl : List α → Option (List β)} (h0 : fl [] = some []) (h1 : ∀ a l, fl (a :: l) = (f a).bind fun p => (fl l).map (p :: ·)) :
    ∀ {l : List α} {r : List β}, fl l = some r → r.length = l.length ∧ ∀ (j : Nat) y, r[j]? = some y → ∃ x, l[j]? = some x ∧ f x = some y
  | [], r, e => by rw [h0] at e; cases e; exact ⟨rfl, by simp⟩
  | a :: l, r, e => by
    rw [h1] at e
    obtain ⟨p, h2, e⟩ := Option.bind_eq_some_iff.1 e
    obtain ⟨r', h3, rfl⟩ := Option.map_eq_some_iff.1 e
    obtain ⟨h4, h5⟩ := map_get h0 h1 h3
    refine ⟨by simp [h4], fun j y hj => ?_⟩
    match j with
    | 0 => simp at hj; subst hj; exact ⟨a, rfl, h2⟩
    | j + 1 => exact h5 j y (by simpa using hj)
theorem freezeA_rep {F' : Facts} {g2 : G} {n : Nat} (h : SRel (fun k => k < n) g sg w) (hle : g.F.le F') (hF : ∀ b o v, n ≤ b → w.cell? ⟨b, o, none⟩ = some v → F' b o = some v) (h2 : g2.F = F') {x r : AV} {v : Value}
    (hx : ARep g x v) (e : freezeA sg x = some r) : ARep g2 r v ∧ isOwn r = false := by
  cases x with
  | agg cs =>
    simp only [freezeA] at e
    obtain ⟨l, h3, rfl⟩ := Option.map_eq_some_iff.1 e
    obtain ⟨h4, h5⟩ := map_get (f := freeze sg) (fl := freezeL sg) rfl (fun _ _ => rfl) h3
    cases hx with
    | agg cs vs hl hr =>
      refine ⟨.agg _ _ (by rw [h4, hl]) fun j y u e1 e2 => ?_, rfl⟩
      obtain ⟨x, h6, h7⟩ := h5 j y e1
      exact (freeze_rep h hle hF h2 (hr j x u h6 e2) h7).1
  | _ => exact freeze_rep h hle hF h2 hx e
theorem freezeV_rep {F' : Facts} {g2 : G} {n : Nat} (h : SRel (fun k => k < n) g sg w) (hle : g.F.le F') (hF : ∀ b o v, n ≤ b → w.cell? ⟨b, o, none⟩ = some v → F' b o = some v) (h2 : g2.F = F') {x r : AV} {v : Value}
    (hx : ARep g x v) (e : freezeV sg x = some r) : ARep g2 r v ∧ isOwn r = false := by
  cases x with
  | tup cs =>
    simp only [freezeV] at e
    obtain ⟨l, h3, rfl⟩ := Option.map_eq_some_iff.1 e
    obtain ⟨h4, h5⟩ := map_get (f := freezeA sg) (fl := freezeAL sg) rfl (fun _ _ => rfl) h3
    cases hx with
    | tup cs vs hl hr =>
      refine ⟨.tup _ _ (by rw [h4, hl]) fun j y u e1 e2 => ?_, rfl⟩
      obtain ⟨x, h6, h7⟩ := h5 j y e1
      exact (freezeA_rep h hle hF h2 (hr j x u h6 e2) h7).1
  | _ => exact freezeA_rep h hle hF h2 hx e
end Go.Proofs.YtggoaggneapneaaDoorM
