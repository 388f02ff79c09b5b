/-
  The mirror, part 6: the end of a step, whatever it hands back; append's.
-/
import Derived.Test.YtggoaggneapneaaDoorM5
set_option linter.unusedVariables false
set_option linter.unusedSimpArgs false
namespace Go.Proofs.YtggoaggneapneaaDoorM
open Go
variable {X : Nat → Prop} {g g' : G} {nt : Nat} {s : St} {a : Act} {w w' : World} {F : Facts} {P : Program}

def mid (s : St) (u : Upd) : St := { env := demSlots s.env u.dm, sg := u.sg, pr := if u.cl then noCell s.pr else s.pr }
structure Fine (X : Nat → Prop) (g : G) (nt : Nat) (s : St) (u : Upd) (a : Act) (w : World) (cv : Value) : Prop where
  rel : WRel X g nt (mid s u) a w
  rep : ARep g u.v cv
  own : ∀ sz xs, u.v = .own sz xs → ∃ k o c, cv = .slice (some ⟨k, o, none⟩) xs.length c ∧ Perm X g w sz k o xs.length c ∧
    ∀ hm sz' xs' o' n' c', atHome (mid s u) hm = some (.own sz' xs') → conc g a w hm ≠ some (.slice (some ⟨k, o', none⟩) n' c')
  prov : ∀ hm, u.p = some hm → isOwn u.v = false ∧ conc g a w hm = some cv

theorem put_none (a : Act) (v : Value) : a.put none v = a := rfl
theorem Fine.done {u : Upd} {cv : Value} (h : Fine X g nt s u a w cv) {dst : Option Nat} (hd : ∀ d, dst = some d → d < nt) : WRel X g nt (applyU s dst u) (a.put dst cv) w := by
  cases dst with
  | none => exact h.rel
  | some d =>
    have hd := hd d rfl
    cases ho : isOwn u.v with
    | false => exact h.rel.putv hd h.rep ho (p := u.p) fun hm e => (h.prov hm e).2
    | true =>
      obtain ⟨sz, xs, hv⟩ := isOwn_iff.1 ho
      obtain ⟨k, o, c, rfl, hP, hD⟩ := h.own sz xs hv
      have hp : u.p = none := by
        cases hp : u.p with
        | none => rfl
        | some hm => have := (h.prov hm hp).1; rw [ho] at this; cases this
      have hr := h.rep
      rw [hv] at hr
      have := h.rel.putOwn hd hr hP fun hm sz' xs' o' n' c' e1 e2 => absurd e2 (hD hm sz' xs' o' n' c' e1)
      simp only [applyU, hv, hp, provPut]
      exact this

/-- A result that is no slice of one's own, at a state that stays. -/
theorem Fine.plain (h : WRel X g nt s a w) {v : AV} {cv : Value} (hv : ARep g v cv) (ho : isOwn v = false) : Fine X g nt s { v, p := none, dm := [], sg := s.sg, cl := false } a w cv :=
  ⟨h, hv, fun sz xs e => by subst e; simp [isOwn] at ho, fun hm e => by cases e⟩
theorem plain_some {sg : Sig} {v : AV} {u : Upd} (h : plain sg v = some u) : u = { v, p := none, dm := [], sg, cl := false } := by
  unfold plain at h; injection h with h; exact h.symm
theorem plainO_some {sg : Sig} {v : Option AV} {u : Upd} (h : plainO sg v = some u) : ∃ x, v = some x ∧ u = { v := x, p := none, dm := [], sg, cl := false } := by
  unfold plainO at h
  obtain ⟨x, h1, h2⟩ := Option.bind_eq_some_iff.1 h
  exact ⟨x, h1, plain_some h2⟩

/-- A new slice of one's own: its block lies behind all. -/
theorem Fine.newOwn (h : WRel X g nt s a w) {sz c : Nat} {xs : List (List PV)} {cs : List Value} {ccs : Array Value} {T : TypeId} {fr : Nat × Nat}
    (hcs : Cells g.F sz xs cs) (hn : ∀ r ∈ xs, r.length = sz) (hcc : ∀ (j : Nat) v, cs[j]? = some v → ccs[j]? = some v) (hc : xs.length ≤ c) (hsize : c * sz ≤ ccs.size)
    (hfr : fr.1 = fr.2 ∨ fr.2 ≤ xs.length * sz)
    (hsz : w'.heap.size = w.heap.size + 1) (hw : ∀ k, k < w.heap.size → w'.heap[k]? = w.heap[k]?) (hnew : w'.heap[w.heap.size]? = some (.cells ccs T fr)) :
    ∃ g', Ext X g g' ∧ WRel X g' nt s a w' ∧ ARep g' (.own sz xs) (.slice (some ⟨w.heap.size, 0, none⟩) xs.length c) ∧ Perm X g' w' sz w.heap.size 0 xs.length c ∧
      ∀ hm sz' xs' o' n' c', atHome s hm = some (.own sz' xs') → conc g' a w' hm ≠ some (.slice (some ⟨w.heap.size, o', none⟩) n' c') := by
  have hf : ∀ o x, cs[o]? = some x → w'.cell? ⟨w.heap.size, o, none⟩ = some x := fun o x e => heap_cell hnew (hcc o x e)
  have hrel := h.growNew hsz hw (fun o => cs[o]?) hf
  have hle := h.facts_le (fun o => cs[o]?)
  have hrows : HasRows (g.facts w.heap.size fun o => cs[o]?).F w.heap.size 0 sz xs :=
    HasRows.of_cells (hcs.mono hle.F) fun j v e => by simp only [G.facts, Nat.zero_add, if_true]; exact e
  have hV : VRep (g.facts w.heap.size fun o => cs[o]?).F (.sl xs) (.slice (some ⟨w.heap.size, 0, none⟩) xs.length c) := .of_rows hn hc hrows
  refine ⟨_, h.ext_facts _, hrel, .own sz xs w.heap.size 0 c hV hn, ⟨fun hx => absurd (h.xlt _ hx) (Nat.lt_irrefl _), fun i hi => absurd (h.be_lt hi) (Nat.lt_irrefl _), hc, ⟨ccs, T, fr, hnew, by simpa using hsize, by simpa using hfr⟩, ?_⟩, ?_⟩
  · intro q hq
    simp only [G.facts, if_true]
    exact List.getElem?_eq_none (by rw [hcs.1]; omega)
  · intro hm sz' xs' o' n' c' e1 e2
    obtain ⟨k, o, c1, h1, h2⟩ := hrel.prm hm sz' xs' e1
    rw [h1] at e2
    have hk : k = w.heap.size := by injection e2 with e2; injection e2 with e2; injection e2 with e2; injection e2
    subst hk
    obtain ⟨k, o, c1, h3, h4⟩ := h.prm hm sz' xs' e1
    obtain ⟨ccs', T', fr', h5, _⟩ := h4.ex
    have hlt := heap_lt h5
    have hcon : conc (g.facts w.heap.size fun o => cs[o]?) a w' hm = conc g a w hm := by
      cases hm with
      | slot t => rfl
      | cell b o =>
        simp only [conc, G.facts]
        cases hb : g.be[b]? with
        | none => rfl
        | some kk => simp only [Option.bind_some]; exact cell_of_heap (hw kk (h.be_lt hb))
    rw [hcon, h3] at h1
    have hk : k = w.heap.size := by injection h1 with e2; injection e2 with e2; injection e2 with e2; injection e2
    omega

/-- More cells at the tail of a slice that may be appended to. -/
theorem WRel.extend (h : WRel X g nt s a w) {sz k o n c : Nat} (hP : Perm X g w sz k o n c) {nvs : List Value} (hfit : n * sz + nvs.length ≤ c * sz)
    (hD : ∀ hm sz' xs' o' n' c', atHome s hm = some (.own sz' xs') → conc g a w hm ≠ some (.slice (some ⟨k, o', none⟩) n' c')) :
    ∃ g', Ext X g g' ∧ WRel X g' nt s a (w.setCells k (o + n * sz) nvs) ∧ (∀ (j : Nat) v, nvs[j]? = some v → g'.F k (o + n * sz + j) = some v) ∧
      (∀ q, o + n * sz + nvs.length ≤ q → g'.F k q = none) ∧ g'.be = g.be ∧ Pres X g.F w (w.setCells k (o + n * sz) nvs) := by
  obtain ⟨ccs, T, fr, hheap, hsize, hhull⟩ := hP.ex
  have hcell : ∀ q, q < ccs.size → (w.cell? ⟨k, q, none⟩).isSome = true := fun q hq => by rw [heap_cell hheap (Array.getElem?_eq_getElem hq)]; rfl
  let g' : G := { g with F := fun b q => if b = k ∧ o + n * sz ≤ q ∧ q < o + n * sz + nvs.length then nvs[q - (o + n * sz)]? else g.F b q }
  have hin : ∀ j (hj : j < nvs.length), (w.setCells k (o + n * sz) nvs).cell? ⟨k, o + n * sz + j, none⟩ = some nvs[j] := fun j hj =>
    World.cell?_setCells_in k nvs _ w (fun i hi => hcell _ (by omega)) j hj
  have hnoF : ∀ q, o + n * sz ≤ q → g.F k q = none := hP.noF
  have hleF : g.F.le g'.F := by
    intro b q x e
    show (if b = k ∧ _ then _ else _) = _
    rw [if_neg]
    · exact e
    · rintro ⟨rfl, h1, _⟩
      rw [hnoF q h1] at e; cases e
  have hle : g.le g' := ⟨hleF, fun i k' e => e, fun _ _ e => e⟩
  have hsame : ∀ k', k' ≠ k → (w.setCells k (o + n * sz) nvs).heap[k']? = w.heap[k']? := fun k' hk' => setCells_heap k nvs w _ k' hk'
  have hcon : ∀ hm, (∀ kk oo nn cc, conc g a w hm = some (.slice (some ⟨kk, oo, none⟩) nn cc) → True) → conc g' a (w.setCells k (o + n * sz) nvs) hm = conc g a w hm := by
    intro hm _
    cases hm with
    | slot t => rfl
    | cell b q =>
      show ((g.be[b]?).bind _) = ((g.be[b]?).bind _)
      cases hb : g.be[b]? with
      | none => rfl
      | some kk =>
        simp only [Option.bind_some]
        exact cell_of_heap (hsame kk fun e => hP.nbe b (by rw [hb, e]))
  have hcon' := fun hm => hcon hm fun _ _ _ _ _ => trivial
  refine ⟨g', ⟨hle, ?_, fun i k' e => .inl e⟩, ?_, ?_, ?_, rfl, pres_setCells k _ nvs hP.nX⟩
  · intro b q hb
    show (if b = k ∧ _ then _ else _) = _
    rw [if_neg]
    rintro ⟨rfl, _⟩
    exact hP.nX hb
  · refine { fok := ?_, bas := fun b o v e => hle.F b o v (h.bas b o v e), obk := h.obNe ⟨ccs, T, fr, hheap⟩ hsame, len := h.len, inj := h.inj, blk := ?_, wrt := h.wrt, xlt := fun k' hk' => by rw [(setCells_misc k nvs w _).2.2.2]; exact h.xlt k' hk', nt := h.nt, env := ?_, prv := ?_, prm := ?_, dst := ?_, dfr := h.dfr }
    · intro b q x e
      have e' : (if b = k ∧ o + n * sz ≤ q ∧ q < o + n * sz + nvs.length then nvs[q - (o + n * sz)]? else g.F b q) = some x := e
      by_cases hc : b = k ∧ o + n * sz ≤ q ∧ q < o + n * sz + nvs.length
      · rw [if_pos hc] at e'
        obtain ⟨rfl, h1, h2⟩ := hc
        have := hin (q - (o + n * sz)) (by omega)
        rw [show o + n * sz + (q - (o + n * sz)) = q by omega] at this
        rw [this, ← e', List.getElem?_eq_getElem (by omega)]
      · rw [if_neg hc] at e'
        rw [setCells_out k nvs w _ b q]
        · exact h.fok b q x e'
        · intro hb
          subst hb
          rcases Nat.lt_or_ge q (o + n * sz) with h1 | h1
          · exact .inl h1
          · rw [hnoF q h1] at e'; cases e'
    · intro i k' l hi hl
      have hne : k' ≠ k := fun e => hP.nbe i (by rw [← e]; exact hi)
      refine (h.blk i k' l hi hl).same hle (hsame k' hne) fun q => ?_
      show (if k' = k ∧ _ then _ else _) = _
      rw [if_neg fun c => hne c.1]
      exact (h.blk i k' l hi hl).noF q
    · intro t v e
      obtain ⟨cv, h1, h2⟩ := h.env t v e
      exact ⟨cv, h1, h2.mono hle⟩
    · intro d hm e
      obtain ⟨cv, h1, h2⟩ := h.prv d hm e
      exact ⟨cv, h1, by rw [hcon']; exact h2⟩
    · intro hm sz' xs' e
      obtain ⟨k1, o1, c1, h1, h2⟩ := h.prm hm sz' xs' e
      have hne : k1 ≠ k := fun e' => hD hm sz' xs' o1 xs'.length c1 e (by rw [h1, e'])
      refine ⟨k1, o1, c1, by rw [hcon']; exact h1, h2.same (hsame k1 hne) (fun q hq => ?_) h2.nbe⟩
      show (if k1 = k ∧ _ then _ else _) = _
      rw [if_neg fun c => hne c.1]
      exact h2.noF q hq
    · intro hm hm' sz1 xs1 sz2 xs2 k1 o1 n1 c1 o2 n2 c2 e1 e2 hc1 hc2
      rw [hcon'] at hc1 hc2
      exact h.dst hm hm' sz1 xs1 sz2 xs2 k1 o1 n1 c1 o2 n2 c2 e1 e2 hc1 hc2
  · intro j v e
    have hj := (List.getElem?_eq_some_iff.1 e).1
    show (if k = k ∧ o + n * sz ≤ o + n * sz + j ∧ o + n * sz + j < o + n * sz + nvs.length then nvs[o + n * sz + j - (o + n * sz)]? else _) = _
    rw [if_pos ⟨rfl, by omega, by omega⟩, show o + n * sz + j - (o + n * sz) = j by omega]
    exact e
  · intro q hq
    show (if k = k ∧ o + n * sz ≤ q ∧ q < o + n * sz + nvs.length then nvs[q - (o + n * sz)]? else _) = _
    rw [if_neg (by omega)]
    exact hnoF q (by omega)

theorem inS_iff {b n : Nat} (h : inS b n = true) : b * n ≤ 140737488355328 := by simpa [inS] using h
theorem facts_drew (h : WRel X g nt s a w) : ∀ b o v, g.F b o = some v → w.drew.cell? ⟨b, o, none⟩ = some v := fun b o v e => h.fok b o v e
theorem size_zeroCells' (z : Array Value) (n : Nat) : (Builtin.zeroCells z n).size = n * z.size := by simp [Builtin.zeroCells]

/-- Append to a slice of one's own that no place holds any more. -/
theorem own_append (h : WRel X g nt s a w) {sz k o c : Nat} {xs ys : List (List PV)} (hrep : ARep g (.own sz xs) (.slice (some ⟨k, o, none⟩) xs.length c)) (hP : Perm X g w sz k o xs.length c)
    (hD : ∀ hm sz' xs' o' n' c', atHome s hm = some (.own sz' xs') → conc g a w hm ≠ some (.slice (some ⟨k, o', none⟩) n' c'))
    {x : Value} (hS : Src P g.F sz ys x) (hys : ∀ r ∈ ys, r.length = sz) {bytes : Nat} (hfit : bytes * (xs.length + ys.length) ≤ 140737488355328)
    {t u ty e : TypeId} {i : TypeInfo} {z : Value} {d : TypeDesc} (ht : P.underlying t = some (.slice e)) (hu : P.underlying u = some d) (hd : (∃ e2, d = .slice e2) ∨ d = .string)
    (hi : P.info? e = some i) (hz : i.zero = some z) (hsz : i.size = sz) (hby : i.bytes = bytes) (hzs : z.cells.size = sz) (h63 : xs.length + ys.length ≤ 9223372036854775807) :
    ∃ cv g' w', (Builtin.append_ #[t, u] ty #[.slice (some ⟨k, o, none⟩) xs.length c, x]).run P w = .ok cv w' ∧ Ext X g g' ∧ Pres X g.F w w' ∧ WRel X g' nt s a w' ∧ ARep g' (.own sz (xs ++ ys)) cv ∧
      ∃ k' o' c', cv = .slice (some ⟨k', o', none⟩) (xs ++ ys).length c' ∧ Perm X g' w' sz k' o' (xs ++ ys).length c' ∧
        ∀ hm sz' xs' o1 n' c', atHome s hm = some (.own sz' xs') → conc g' a w' hm ≠ some (.slice (some ⟨k', o1, none⟩) n' c') := by
  subst hsz
  cases hrep with
  | own sz xs b o c hV hn =>
  obtain ⟨_, hxc, hrows⟩ := hV.rows hn
  obtain ⟨cs, hcs, hf⟩ := hS.ex
  have hnn : ∀ r ∈ xs ++ ys, r.length = i.size := fun r hr => (List.mem_append.1 hr).elim (hn r) (hys r)
  by_cases hroom : xs.length + ys.length ≤ c
  · -- there is room
    have hlen : xs.length * i.size + cs.length ≤ c * i.size := by rw [hcs.1, ← Nat.add_mul]; exact Nat.mul_le_mul_right _ hroom
    obtain ⟨g', hE, hR, hnew, hno, hbe, hPr⟩ := h.extend hP (nvs := cs) hlen hD
    obtain ⟨ccs, T, fr, hheap, hsize, hhull⟩ := hP.ex
    have hrun := run_append_in (P := P) (w' := w.setCells k (o + xs.length * i.size) cs) (ty := ty) w ht hu hd hi (some ⟨k, o, none⟩) xs.length c ys.length x hS.len cs (hf w h.fok) hroom
      (fun a0 e0 => by
        cases e0
        rw [add_plain]
        have := run_storeCells_cells (P := P) k (o + xs.length * i.size) cs 0 w (fun j hj => by
            rw [heap_cell hheap (Array.getElem?_eq_getElem (show o + xs.length * i.size + 0 + j < ccs.size by omega))]; rfl)
          (fun j hj => hP.fro _ (by omega)) hcs.2.1
        simpa using this) (fun e0 => by cases e0)
    have hr2 : HasRows g'.F k o i.size (xs ++ ys) := (hrows.mono hE.le.F).append (HasRows.of_cells (hcs.mono hE.le.F) fun j v e0 => hnew j v e0)
    have hV2 : VRep g'.F (.sl (xs ++ ys)) (.slice (some ⟨k, o, none⟩) (xs ++ ys).length c) := .of_rows hnn (by simpa using hroom) hr2
    rw [← List.length_append] at hrun
    have hP2 : Perm X g' (w.setCells k (o + xs.length * i.size) cs) i.size k o (xs ++ ys).length c := by
      obtain ⟨ccs', h1, h2⟩ := setCells_same k cs w (o + xs.length * i.size) ccs T fr hheap
      refine ⟨hP.nX, by rw [hbe]; exact hP.nbe, by simpa using hroom, ⟨ccs', T, fr, h1, by rw [h2]; exact hsize, ?_⟩, ?_⟩
      · rw [List.length_append, Nat.add_mul]; omega
      · intro q hq
        refine hno q ?_
        rw [hcs.1]
        rw [List.length_append, Nat.add_mul] at hq
        omega
    refine ⟨_, g', _, hrun, hE, hPr, hR, .own i.size (xs ++ ys) k o c hV2 hnn, k, o, c, rfl, hP2, ?_⟩
    intro hm sz' xs' o1 n' c' e1 e2
    obtain ⟨k1, o2, c1, h1, h2⟩ := h.prm hm sz' xs' e1
    have hcon : conc g' a (w.setCells k (o + xs.length * i.size) cs) hm = conc g a w hm := by
      cases hm with
      | slot t => rfl
      | cell b q =>
        simp only [conc, hbe]
        cases hb : g.be[b]? with
        | none => rfl
        | some kk =>
          simp only [Option.bind_some]
          exact cell_of_heap (setCells_heap k cs w _ kk fun e => hP.nbe b (by rw [hb, e]))
    rw [hcon] at e2
    exact hD hm sz' xs' o1 n' c' e1 e2
  · -- a new array
    obtain ⟨olds, ho1, ho2⟩ := hrows.cells hn
    have hcap := grownCap_ge w (xs.length + ys.length) c e
    have hrun := run_append_out (P := P) (ty := ty) w ht hu hd hi hz (some ⟨k, o, none⟩) xs.length c ys.length x hS.len cs olds (hf w.drew (facts_drew h))
      (run_firstCells_some w.drew i.size xs.length ⟨k, o, none⟩ xs.length c olds ho1.1 fun j v e0 => by rw [add_plain]; exact h.fok _ _ _ (ho2 j v e0))
      (by omega) (by omega) (growslice_fits (by omega) (by rw [hby, Nat.mul_comm]; exact hfit))
    generalize grownCap w (xs.length + ys.length) c e = cap at hrun hcap
    have hall : Cells g.F i.size (xs ++ ys) (olds ++ cs) := ho1.append hcs
    obtain ⟨g', hE, hR, hA, hP2, hD2⟩ := Fine.newOwn (w' := w.drew.alloc (.cells (olds.toArray ++ cs.toArray ++ Builtin.zeroCells z.cells (cap - (xs.length + ys.length))) e)) (c := cap)
      (fr := (0, 0)) (T := e) h hall hnn (fun j v e0 => by
        have hj := (List.getElem?_eq_some_iff.1 e0).1
        rw [Array.getElem?_append_left (by simpa using hj)]
        simpa using e0) (by simpa using hcap)
      (by
        have h1 := ho1.1
        have h2 := hcs.1
        simp only [Array.size_append, List.size_toArray, size_zeroCells', h1, h2, hzs, ← Nat.add_mul]
        exact Nat.mul_le_mul_right _ (by omega))
      (.inl rfl) (by simp) (fun k' hk' => heap_alloc (w := w.drew) hk') (heap_alloc_self w.drew _)
    refine ⟨_, g', _, hrun, hE, (pres_drew X g.F w).trans (pres_alloc (w := w.drew) h.xlt _), hR, ?_, w.heap.size, 0, cap, ?_, hP2, hD2⟩
    · rw [← List.length_append]; exact hA
    · rw [← List.length_append]
end Go.Proofs.YtggoaggneapneaaDoorM
