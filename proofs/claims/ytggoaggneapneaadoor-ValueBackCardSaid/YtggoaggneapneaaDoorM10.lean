/-
  The mirror, part 10: literals.
-/
import Derived.Test.YtggoaggneapneaaDoorM9
import Derived.Great.BuildSlice
set_option linter.unusedVariables false
set_option linter.unusedSimpArgs false
namespace Go.Proofs.YtggoaggneapneaaDoorM
open Go
variable {X : Nat → Prop} {g g' : G} {nt : Nat} {s : St} {a : Act} {w w' : World} {F : Facts} {P : Program} {o : Oper}

/-- Cells set one behind the other. -/
def setAll (cells : Array Value) (off : Nat) : List Value → Array Value
  | [] => cells
  | v :: l => setAll (cells.setIfInBounds off v) (off + 1) l
theorem setAll_size (l : List Value) : ∀ (cells : Array Value) (off : Nat), (setAll cells off l).size = cells.size := by
  induction l with
  | nil => exact fun _ _ => rfl
  | cons v l ih => exact fun cells off => by rw [setAll, ih]; simp
theorem setAll_get (l : List Value) : ∀ (cells : Array Value) (off j : Nat), off + l.length ≤ cells.size → (setAll cells off l)[j]? = if off ≤ j ∧ j < off + l.length then l[j - off]? else cells[j]? := by
  induction l with
  | nil => exact fun cells off j _ => by simp only [setAll, List.length_nil]; rw [if_neg (by omega)]
  | cons v l ih =>
    intro cells off j h
    simp only [List.length_cons] at h
    rw [setAll, ih _ _ _ (by simp; omega)]
    by_cases h1 : off + 1 ≤ j ∧ j < off + 1 + l.length
    · rw [if_pos h1, if_pos (by simp; omega)]
      obtain ⟨d, rfl⟩ : ∃ d, j = off + 1 + d := ⟨j - (off + 1), by omega⟩
      rw [show off + 1 + d - (off + 1) = d by omega, show off + 1 + d - off = d + 1 by omega]
      rfl
    · rw [if_neg h1]
      by_cases h2 : j = off
      · subst h2
        rw [if_pos (by simp)]
        simp [show j < cells.size by omega]
      · rw [if_neg (by simp; omega), Array.getElem?_setIfInBounds_ne (Ne.symm h2)]
theorem foldl_setAll (off : Nat) : ∀ (l : List Value) (k : Nat) (cells : Array Value), (l.zipIdx k).foldl (fun cs (x : Value × Nat) => cs.setIfInBounds (off + x.2) x.1) cells = setAll cells (off + k) l
  | [], _, _ => rfl
  | v :: l, k, cells => by
    rw [List.zipIdx_cons, List.foldl_cons, foldl_setAll off l (k + 1)]
    rfl
theorem fill_step (off : Nat) (v : Array Value) (cells : Array Value) : v.zipIdx.foldl (fun cs (x : Value × Nat) => cs.setIfInBounds (off + x.2) x.1) cells = setAll cells off v.toList := by
  rw [← Array.foldl_toList, Array.toList_zipIdx, foldl_setAll]
  rfl

def RepL (g : G) (zs : List AV) (cs : Array Value) : Prop := zs.length = cs.size ∧ ∀ (j : Nat) x v, zs[j]? = some x → cs[j]? = some v → ARep g x v
theorem RepL.fill {zs : List AV} {cs : Array Value} (h : RepL g zs cs) {off : Nat} {xs : List AV} {vs : List Value} (hl : xs.length = vs.length) (hr : ∀ (j : Nat) x v, xs[j]? = some x → vs[j]? = some v → ARep g x v) (hf : off + xs.length ≤ zs.length) :
    RepL g (fillA zs off xs) (setAll cs off vs) := by
  refine ⟨by rw [fillA_length, setAll_size]; exact h.1, fun j x v e1 e2 => ?_⟩
  rw [fillA_get xs zs off j hf] at e1
  rw [setAll_get vs cs off j (by rw [← hl, ← h.1]; exact hf)] at e2
  by_cases hj : off ≤ j ∧ j < off + xs.length
  · rw [if_pos hj] at e1
    rw [if_pos (by rw [← hl]; exact hj)] at e2
    exact hr _ _ _ e1 e2
  · rw [if_neg hj] at e1
    rw [if_neg (by rw [← hl]; exact hj)] at e2
    exact h.2 j x v e1 e2

theorem fill_rep (h : WRel X g nt s a w) {pl : Nat → Option (Nat × Nat)} : ∀ {parts : List (Nat × Nat × Opd)} {ps : List (Nat × Operand)} {zs r : List AV} {cs : Array Value}, PartsOK pl parts ps → RepL g zs cs → buildA s.env zs parts = some r →
    ∃ cs', Instr.fill pl cs (ps.map fun x => (x.1, a.eval x.2)) = some cs' ∧ RepL g r cs'
  | [], [], zs, r, cs, _, hR, e => by
    simp only [buildA] at e
    injection e with e
    subst e
    exact ⟨cs, rfl, hR⟩
  | (off, sz, x) :: l, (i, y) :: m, zs, r, cs, hp, hR, e => by
    obtain ⟨h1, h2, h3⟩ := hp
    simp only [buildA] at e
    split at e
    · rename_i hc
      obtain ⟨c1, c2, c3⟩ := hc
      have hrep := (h.opd h2).dem
      rw [demL_all] at c3
      obtain ⟨h4, h5⟩ := rep_cells hrep c3
      have hcl : (demL (cellsOf (dem (eo s.env x)))).length = (a.eval y).cells.toList.length := by simpa [demL] using h4
      have hsz : (a.eval y).cells.size = sz := by rw [← h4, ← c1]; simp [demL]
      have hR' := hR.fill (off := off) (xs := demL (cellsOf (dem (eo s.env x)))) (vs := (a.eval y).cells.toList) hcl (fun j x' v e1 e2 => by
        obtain ⟨x0, h6, rfl⟩ := demL_get e1
        exact (h5 j x0 v h6 (by simpa using e2)).dem) (by rw [c1]; exact c2)
      obtain ⟨cs', h7, h8⟩ := fill_rep h h3 hR' e
      refine ⟨cs', ?_, h8⟩
      simp only [List.map_cons, Instr.fill, h1]
      have hno : ((a.eval y).cells.size ≠ sz || off + (a.eval y).cells.size > cs.size) = false := by
        have := hR.1
        simp [hsz]
        omega
      have hno' : (decide ((a.eval y).cells.size ≠ sz) || decide (off + (a.eval y).cells.size > cs.size)) = false := hno
      rw [if_neg (by rw [hno']; simp)]
      rw [fill_step]
      exact h7
    · cases e
  | [], _ :: _, _, _, _, hp, _, _ => hp.elim
  | _ :: _, [], _, _, _, hp, _, _ => hp.elim

theorem zok_rep {z : List AV} {vs : Array Value} (h : ZOK z vs.toList) : RepL g z vs :=
  ⟨by simpa using h.1, fun j x v e1 e2 => (h.2 j x v e1 (by simpa using e2)).1 g⟩
theorem places_eq (fs : List Field) (h : ∀ f ∈ fs, ∃ i, P.info? f.type = some i) : fs.mapM (fun f => (P.info? f.type).map fun i => (f.offset, i.size)) = some (fs.map fun f => (f.offset, P.cellsOf f.type)) := by
  induction fs with
  | nil => rfl
  | cons f l ih =>
    obtain ⟨i, hi⟩ := h f List.mem_cons_self
    rw [List.mapM_cons, ih fun f' hf' => h f' (List.mem_cons_of_mem _ hf'), hi]
    simp [Program.cellsOf, hi]

theorem sound_build (h : WRel X g nt s a w) {z : List AV} {parts : List (Nat × Nat × Opd)} {t : TypeId} {ps : Array (Nat × Operand)} (ho : o.op = .build t ps) (hI : IOK P (.build z parts) (.build t ps)) {call : Call} {u : Upd} (hs : stepI call s (.build z parts) = some u) :
    Sound P X g nt s u a w o := by
  obtain ⟨i, zv, h1, h2, h3, h4⟩ := hI
  simp only [stepI] at hs
  refine Sound.plainO h hs fun x hx => ?_
  obtain ⟨r, h5, rfl⟩ := Option.map_eq_some_iff.1 hx
  have key : ∀ pl, PartsOK pl parts ps.toList → P.built t (ps.map fun (i, x) => (i, a.eval x)).toList = Instr.fill pl zv.cells (ps.map fun (i, x) => (i, a.eval x)).toList →
      ∃ cv, (execOp a.eval o).run P w = .ok (.value cv) w ∧ ARep g (.agg r) cv ∧ isOwn (.agg r) = false := by
    intro pl hp hb
    obtain ⟨cs', h6, h7⟩ := fill_rep h hp (zok_rep h3) h5
    have e : (ps.map fun (i, x) => (i, a.eval x)).toList = ps.toList.map fun x => (x.1, a.eval x.2) := by simp
    rw [e] at hb
    rw [h6] at hb
    rw [← e] at hb
    refine ⟨.agg cs', ?_, ?_, rfl⟩
    · simp only [execOp, ho, Sem.run_bind, run_build w t _ _ hb, Result.andThen_ok, Sem.run_pure]
    · have := ARep.agg (g := g) r cs'.toList (by simpa using h7.1) (fun j x v e1 e2 => h7.2 j x v e1 (by simpa using e2))
      simpa using this
  rcases h4 with ⟨fs, hu, hfs, hp⟩ | ⟨n, e, hu, ⟨ie, hie⟩, hp⟩
  · refine key _ hp ?_
    simp only [Program.built, h1, hu, h2, places_eq fs.toList hfs]
    congr 1
    funext i
    simp
  · refine key _ hp ?_
    simp only [Program.built, h1, hu, h2, hie, Program.cellsOf, Option.map_some, Option.getD_some]

/-! ### A slice literal -/
theorem pur1_rep {x : AV} {v : Value} {p : PV} (h : ARep g x v) (e : pur1 x = some p) : VRep g.F p v := by
  cases x with
  | pv q => simp [pur1] at e; subst e; cases h with | pv p v h => exact h
  | own sz xs => simp [pur1] at e; subst e; cases h with | own sz xs b o c h hs => exact h
  | nils => simp [pur1] at e; subst e; cases h; exact .slE none 0
  | _ => simp [pur1] at e
theorem purL_get : ∀ {l : List AV} {ps : List PV}, purL l = some ps → ps.length = l.length ∧ ∀ (j : Nat) p, ps[j]? = some p → ∃ x, l[j]? = some x ∧ pur1 x = some p
  | [], ps, e => by simp [purL] at e; subst e; exact ⟨rfl, by simp⟩
  | x :: l, ps, e => by
    simp only [purL] at e
    obtain ⟨p, h1, h2⟩ := Option.bind_eq_some_iff.1 e
    obtain ⟨qs, h3, rfl⟩ := Option.map_eq_some_iff.1 h2
    obtain ⟨h4, h5⟩ := purL_get h3
    refine ⟨by simp [h4], fun j q hj => ?_⟩
    cases j with
    | zero => simp at hj; subst hj; exact ⟨x, rfl, h1⟩
    | succ j => simp at hj; simpa using h5 j q hj
theorem pur1_cell {x : AV} {p : PV} (e : pur1 x = some p) : isCell x = true := by cases x <;> simp_all [pur1, isCell]
theorem purL_all : ∀ {l : List AV} {ps : List PV}, purL l = some ps → l.all isCell = true
  | [], _, _ => rfl
  | x :: l, ps, e => by
    simp only [purL] at e
    obtain ⟨p, h1, h2⟩ := Option.bind_eq_some_iff.1 e
    obtain ⟨qs, h3, rfl⟩ := Option.map_eq_some_iff.1 h2
    simp [pur1_cell h1, purL_all h3]

theorem rowsA_get : ∀ {xs : List Opd} {rs : List (List PV)} {sz : Nat} {e : Env}, rowsA e sz xs = some rs → rs.length = xs.length ∧ (∀ r ∈ rs, r.length = sz) ∧ ∀ (j : Nat) r, rs[j]? = some r → ∃ x, xs[j]? = some x ∧ purL (cellsOf (eo e x)) = some r
  | [], rs, sz, e, h => by simp [rowsA] at h; subst h; exact ⟨rfl, by simp, by simp⟩
  | x :: l, rs, sz, e, h => by
    simp only [rowsA] at h
    obtain ⟨r, h1, h2⟩ := Option.bind_eq_some_iff.1 h
    split at h2
    · rename_i hl
      obtain ⟨qs, h3, rfl⟩ := Option.map_eq_some_iff.1 h2
      obtain ⟨h4, h5, h6⟩ := rowsA_get h3
      refine ⟨by simp [h4], fun r' hr' => (List.mem_cons.1 hr').elim (fun e => by rw [e]; exact hl) (h5 r'), fun j q hj => ?_⟩
      cases j with
      | zero => simp at hj; subst hj; exact ⟨x, rfl, h1⟩
      | succ j => simp at hj; simpa using h6 j q hj
    · cases h2

/-- The cells of a slice literal, one element behind the other. -/
theorem fill_dense {sz : Nat} : ∀ (vs : List Value) (k : Nat) (cs : Array Value), (∀ v ∈ vs, v.cells.size = sz) → k * sz + vs.length * sz ≤ cs.size →
    Instr.fill (fun i => some (i * sz, sz)) cs ((List.range' k vs.length).zip vs) = some (setAll cs (k * sz) (vs.map fun v => v.cells.toList).flatten)
  | [], k, cs, _, _ => rfl
  | v :: vs, k, cs, hv, hl => by
    have h1 := hv v List.mem_cons_self
    simp only [List.length_cons, Nat.add_mul, Nat.one_mul] at hl
    rw [List.length_cons, List.range'_succ, List.zip_cons_cons]
    simp only [Instr.fill]
    have hno : (decide (v.cells.size ≠ sz) || decide (k * sz + v.cells.size > cs.size)) = false := by
      simp [h1]; omega
    rw [if_neg (by rw [hno]; simp), fill_step]
    rw [fill_dense vs (k + 1) _ (fun v' hv' => hv v' (List.mem_cons_of_mem _ hv')) (by rw [setAll_size, Nat.add_mul]; omega)]
    congr 1
    simp only [List.map_cons, List.flatten_cons]
    have happ : ∀ (l1 l2 : List Value) (cs : Array Value) (off : Nat), setAll cs off (l1 ++ l2) = setAll (setAll cs off l1) (off + l1.length) l2 := by
      intro l1
      induction l1 with
      | nil => intro l2 cs off; rfl
      | cons x l1 ih => intro l2 cs off; simp only [List.cons_append, setAll, ih, List.length_cons]; congr 1; omega
    rw [happ]
    congr 1
    rw [Nat.add_mul]; simp [h1]

theorem flatten_get {sz : Nat} : ∀ (L : List (List Value)) (j q : Nat) r, (∀ r ∈ L, r.length = sz) → L[j]? = some r → q < sz → L.flatten[j * sz + q]? = r[q]?
  | [], j, q, r, _, e, _ => by simp at e
  | x :: L, 0, q, r, hL, e, hq => by
    simp at e; subst e
    have := hL x List.mem_cons_self
    rw [List.flatten_cons, Nat.zero_mul, Nat.zero_add, List.getElem?_append_left (by omega)]
  | x :: L, j + 1, q, r, hL, e, hq => by
    have h1 := hL x List.mem_cons_self
    rw [List.flatten_cons, List.getElem?_append_right (by rw [h1, Nat.add_mul]; omega)]
    have : (j + 1) * sz + q - x.length = j * sz + q := by rw [h1, Nat.add_mul]; omega
    rw [this]
    exact flatten_get L j q r (fun r hr => hL r (List.mem_cons_of_mem _ hr)) (by simpa using e) hq
theorem flatten_len {sz : Nat} : ∀ (L : List (List Value)), (∀ r ∈ L, r.length = sz) → L.flatten.length = L.length * sz
  | [], _ => by simp
  | x :: L, h => by
    rw [List.flatten_cons, List.length_append, flatten_len L fun r hr => h r (List.mem_cons_of_mem _ hr), h x List.mem_cons_self, List.length_cons, Nat.add_mul]
    omega

theorem sound_bsl (h : WRel X g nt s a w) {sz : Nat} {xs : List Opd} {t : TypeId} {len : Nat} {ps : Array (Nat × Operand)} (ho : o.op = .buildSlice t len ps) (hI : IOK P (.bsl sz xs) (.buildSlice t len ps)) {call : Call} {u : Upd} (hs : stepI call s (.bsl sz xs) = some u) :
    Sound P X g nt s u a w o := by
  obtain ⟨e, bytes, ys, hu, ⟨i, z, hi, hsz, _, hz, hzs⟩, hsmall, hlen, hpos, hps, hOO⟩ := hI
  subst hlen
  simp only [stepI] at hs
  obtain ⟨x, h1, rfl⟩ := plainO_some hs
  obtain ⟨rs, h2, rfl⟩ := Option.map_eq_some_iff.1 h1
  obtain ⟨h3, h4, h5⟩ := rowsA_get h2
  obtain ⟨hyl, hyr⟩ := h.opds hOO
  have hxy : xs.length = ys.length := by simpa using hyl
  -- the values of the parts
  let vs := ys.map a.eval
  have hvl : vs.length = xs.length := by simp [vs, hxy]
  have hval : ∀ (j : Nat) r, rs[j]? = some r → ∃ v, vs[j]? = some v ∧ v.cells.size = sz ∧ ∀ (q : Nat) p u, r[q]? = some p → v.cells[q]? = some u → VRep g.F p u := by
    intro j r hj
    obtain ⟨x, h6, h7⟩ := h5 j r hj
    have hjl := (List.getElem?_eq_some_iff.1 h6).1
    have hv : vs[j]? = some vs[j] := List.getElem?_eq_getElem (by omega)
    refine ⟨_, hv, ?_⟩
    have hrep : ARep g (eo s.env x) vs[j] := hyr j _ _ (by rw [List.getElem?_map, h6]; rfl) hv
    obtain ⟨h8, h9⟩ := rep_cells hrep (purL_all h7)
    obtain ⟨h10, h11⟩ := purL_get h7
    have hrl := h4 r (List.mem_of_getElem? hj)
    refine ⟨by rw [← h8, ← h10, hrl], fun q p u e1 e2 => ?_⟩
    obtain ⟨x', h12, h13⟩ := h11 q p e1
    exact pur1_rep (h9 q x' u h12 e2) h13
  have hvsz : ∀ v ∈ vs, v.cells.size = sz := by
    intro v hv
    obtain ⟨j, hj, rfl⟩ := List.getElem_of_mem hv
    obtain ⟨v', h6, h7, _⟩ := hval j _ (List.getElem?_eq_getElem (show j < rs.length by omega))
    rw [List.getElem?_eq_getElem hj] at h6
    injection h6 with h6
    rw [h6]; exact h7
  have hparts : (ps.map fun (i, x) => (i, a.eval x)).toList = (List.range' 0 vs.length).zip vs := by
    have : (ps.map fun (i, x) => (i, a.eval x)).toList = ps.toList.map fun x => (x.1, a.eval x.2) := by simp
    rw [this, hps, hvl, List.range_eq_range', ← List.map_id (List.range' 0 xs.length), List.zip_map, List.map_id]
    rfl
  let flat := (vs.map fun v => v.cells.toList).flatten
  have hrl : ∀ r ∈ vs.map (fun v => v.cells.toList), r.length = sz := by
    intro r hr
    obtain ⟨v, hv, rfl⟩ := List.mem_map.1 hr
    simpa using hvsz v hv
  have hflen : flat.length = xs.length * sz := by
    rw [flatten_len _ hrl]; simp [hvl]
  let cs0 : Array Value := (Array.range (xs.length * i.size)).map (z.cells[· % z.cells.size]!)
  have hcs0 : cs0.size = xs.length * sz := by simp [cs0, hsz]
  have hfill : Instr.fill (fun i' => some (i' * i.size, i.size)) cs0 (ps.map fun (i, x) => (i, a.eval x)).toList = some (setAll cs0 0 flat) := by
    rw [hparts, hsz]
    have := fill_dense (sz := sz) vs 0 cs0 hvsz (by rw [hcs0, hvl]; omega)
    rw [this]
    simp [flat]
  rcases Nat.eq_zero_or_pos xs.length with h0 | hp
  · -- an empty literal
    have hx0 : xs = [] := List.eq_nil_of_length_eq_zero h0
    have hr0 : rs = [] := List.eq_nil_of_length_eq_zero (by rw [h3, h0])
    subst hr0
    have hps0 : ps.toList = [] := by rw [hps, h0]; rfl
    have hps1 : ps = #[] := by apply Array.ext'; simpa using hps0
    have hrun : (execOp a.eval o).run P w = .ok (.value (.slice (some ⟨w.heap.size, 0, none⟩) 0 0)) (w.alloc (.cells #[] e)) := by
      simp [execOp, ho, Instr.buildSlice, run_underlying hu, sizeOf, typeInfo, hi, h0, hps1, Instr.fill, newRow]
      have hz0 : ∀ f : Nat → Value, Array.map f (Array.range 0) = #[] := fun f => Array.eq_empty_of_size_eq_zero (by simp)
      rw [hz0]
    obtain ⟨g', hE, hR, hA, hP, hD⟩ := Fine.newOwn (w' := w.alloc (.cells #[] e)) (sz := sz) (xs := []) (cs := []) (ccs := #[]) (T := e) (fr := (0, 0)) (c := 0) h ⟨by simp, by simp, fun j r q p hj => by simp at hj⟩ (by simp) (by simp) (Nat.le_refl _) (by simp) (.inl rfl) (by simp)
      (fun k hk => heap_alloc hk) (heap_alloc_self w _)
    exact ⟨_, _, _, g', hrun, .inl rfl, hE, pres_alloc h.xlt _, hR, hA, fun sz' xs' e => by
      have e : AV.own sz [] = .own sz' xs' := e
      injection e with e1 e2
      subst e1; subst e2
      exact ⟨_, _, _, rfl, hP, hD⟩, fun hm e => (by cases e)⟩
  · have hrun : (execOp a.eval o).run P w = .ok (.value (.slice (some ⟨w.heap.size, 0, none⟩) xs.length xs.length)) (w.alloc (.cells (setAll cs0 0 flat) e)) := by
      have := run_buildSlice (P := P) w t e xs.length _ _ i z hu hi hz (by rw [hsz]; omega) (by rw [hsz]; exact Nat.ne_of_gt (Nat.mul_pos hp hpos)) hfill
      simp only [execOp, ho, Sem.run_bind, this, Result.andThen_ok, Sem.run_pure]
    have hcell : ∀ (j : Nat) v, flat[j]? = some v → (setAll cs0 0 flat)[j]? = some v := by
      intro j v e
      have hj := (List.getElem?_eq_some_iff.1 e).1
      rw [setAll_get flat cs0 0 j (by rw [hflen, hcs0]; omega), if_pos (by omega)]
      simpa using e
    have hC : Cells g.F sz rs flat := by
      refine ⟨by rw [hflen, h3], ?_, ?_⟩
      · intro v hv
        obtain ⟨r, hr, hvr⟩ := List.mem_flatten.1 hv
        obtain ⟨v0, hv0, rfl⟩ := List.mem_map.1 hr
        obtain ⟨j, hj, rfl⟩ := List.getElem_of_mem hv0
        obtain ⟨q, hq, rfl⟩ := List.getElem_of_mem hvr
        obtain ⟨v', h6, h7, h8⟩ := hval j _ (List.getElem?_eq_getElem (show j < rs.length by omega))
        rw [List.getElem?_eq_getElem hj] at h6
        injection h6 with h6
        have hrl' := h4 _ (List.getElem_mem (show j < rs.length by omega))
        have hq' : q < vs[j].cells.size := by simpa using hq
        have hqs : q < (rs[j]'(by omega)).length := by rw [hrl', ← h7, ← h6]; exact hq'
        have e9 : vs[j].cells[q]? = some (vs[j].cells.toList[q]) := by
          simp [Array.getElem?_eq_getElem hq']
        have e10 : v'.cells[q]? = some (vs[j].cells.toList[q]) := by
          rw [← e9, h6]
        exact (h8 q _ _ (List.getElem?_eq_getElem hqs) e10).oneCell
      · intro j r q p hj hq
        obtain ⟨v, h6, h7, h8⟩ := hval j r hj
        have hrl' := h4 r (List.mem_of_getElem? hj)
        have hql := (List.getElem?_eq_some_iff.1 hq).1
        have hqv : q < v.cells.size := by omega
        refine ⟨v.cells[q], ?_, h8 q p _ hq (Array.getElem?_eq_getElem hqv)⟩
        rw [flatten_get _ j q v.cells.toList hrl (by rw [List.getElem?_map, h6]; rfl) (by omega)]
        simp [Array.getElem?_eq_getElem hqv]
    obtain ⟨g', hE, hR, hA, hP, hD⟩ := Fine.newOwn (w' := w.alloc (.cells (setAll cs0 0 flat) e)) (T := e) (fr := (0, 0)) (c := xs.length) h hC h4 hcell (by omega) (by rw [setAll_size, hcs0]; omega) (.inl rfl) (by simp)
      (fun k hk => heap_alloc hk) (heap_alloc_self w _)
    rw [h3] at hA hP
    exact ⟨_, _, _, g', hrun, .inl rfl, hE, pres_alloc h.xlt _, hR, hA, fun sz' xs' e => by
      have e : AV.own sz rs = .own sz' xs' := e
      injection e with e1 e2
      subst e1; subst e2
      exact ⟨_, _, _, by rw [h3], by rw [h3]; exact hP, hD⟩, fun hm e => (by cases e)⟩
end Go.Proofs.YtggoaggneapneaaDoorM
