/-
  The mirror, part 9: loads, stores, addresses, parts.
-/
import Derived.Test.YtggoaggneapneaaDoorM8
set_option linter.unusedVariables false
set_option linter.unusedSimpArgs false
namespace Go.Proofs.YtggoaggneapneaaDoorM
open Go
variable {X : Nat → Prop} {g g' : G} {nt : Nat} {s : St} {a : Act} {w w' : World} {F : Facts} {P : Program} {o : Oper}

theorem part_eq {agg : Bool} {cs : List AV} {v : AV} (h : part agg cs = some v) : (agg = true ∧ v = .agg cs) ∨ (agg = false ∧ cs = [v]) := by
  cases agg with
  | true => simp [part] at h; exact .inl ⟨rfl, h.symm⟩
  | false =>
    refine .inr ⟨rfl, ?_⟩
    match cs, h with
    | [c], h => simp [part] at h; rw [h]
theorem run_loadVar {t : TypeId} {agg : Bool} {k q sz : Nat} (hA : AggIs P t agg) (hS : SizeIs P t sz) {vs : List Value} (hl : vs.length = sz) (hv : ∀ (j : Nat) v, vs[j]? = some v → w.cell? ⟨k, q + j, none⟩ = some v) :
    (agg = true → (loadVar t ⟨k, q, none⟩).run P w = .ok (.agg vs.toArray) w) ∧ (agg = false → ∀ v, vs = [v] → (loadVar t ⟨k, q, none⟩).run P w = .ok v w) := by
  constructor
  · rintro rfl
    have := run_loadCells_list (P := P) w ⟨k, q, none⟩ vs (fun j v e => by rw [add_plain]; exact hv j v e)
    simp [loadVar, run_agg hA, run_size hS, ← hl, this]
  · rintro rfl v rfl
    have := hv 0 v rfl
    simp only [Nat.add_zero] at this
    simp [loadVar, run_agg hA, this]

/-- The cells that a pointer leads to. -/
theorem rep_loadV (h : WRel X g nt s a w) {x : AV} {v : Value} (hx : ARep g x v) {agg : Bool} {sz : Nat} {cs : List AV} (e : loadV s.sg agg sz x = some cs) :
    cs.length = sz ∧ ∃ (k q : Nat) (vs : List Value), v = .pointer (some ⟨k, q, none⟩) ∧ vs.length = sz ∧ (∀ (j : Nat) u, vs[j]? = some u → w.cell? ⟨k, q + j, none⟩ = some u) ∧ (∀ (j : Nat) y u, cs[j]? = some y → vs[j]? = some u → ARep g y u) ∧
      ∀ b o, x = .cell b o → ∀ y, cs = [y] → conc g a w (.cell b o) = vs[0]? ∧ cellAt s.sg b o = some y := by
  cases x with
  | cell b q =>
    cases hx with
    | cell b q k hbe =>
    simp only [loadV] at e
    split at e
    · rename_i bl hbl
      split at e
      · rename_i hle
        injection e with e
        subst e
        have hB := h.blk b k bl hbe hbl
        have hlen : ((bl.drop q).take sz).length = sz := by simp; omega
        have hex : ∀ j, j < sz → ∃ u, w.cell? ⟨k, q + j, none⟩ = some u ∧ ∀ y, ((bl.drop q).take sz)[j]? = some y → ARep g y u := by
          intro j hj
          have hq : q + j < bl.length := by omega
          obtain ⟨u, h1, h2⟩ := hB.cells (q + j) _ (List.getElem?_eq_getElem hq)
          refine ⟨u, h1, fun y hy => ?_⟩
          rw [List.getElem?_take_of_lt hj, List.getElem?_drop, List.getElem?_eq_getElem hq] at hy
          injection hy with hy
          rw [← hy]; exact h2
        refine ⟨hlen, k, q, (List.range sz).map fun j => (w.cell? ⟨k, q + j, none⟩).getD undef, rfl, by simp, ?_, ?_, ?_⟩
        · intro j u e
          rw [List.getElem?_map] at e
          obtain ⟨i, h1, h2⟩ := Option.map_eq_some_iff.1 e
          have hj : j < sz := by have := (List.getElem?_eq_some_iff.1 h1).1; simpa using this
          rw [List.getElem?_range hj] at h1
          cases h1
          obtain ⟨u', h3, _⟩ := hex j hj
          rw [h3] at h2 ⊢
          simpa using h2
        · intro j y u e1 e2
          have hj : j < sz := by rw [← hlen]; exact (List.getElem?_eq_some_iff.1 e1).1
          rw [List.getElem?_map, List.getElem?_range hj] at e2
          obtain ⟨u', h3, h4⟩ := hex j hj
          simp only [Option.map_some, h3, Option.getD_some] at e2
          injection e2 with e2
          subst e2
          exact h4 y e1
        · intro b' o' e1 y e2
          injection e1 with e1 e1'
          subst e1; subst e1'
          have hsz : sz = 1 := by rw [← hlen, e2]; rfl
          subst hsz
          obtain ⟨u, h1, _⟩ := hex 0 (by omega)
          constructor
          · simp only [conc, hbe, Option.bind_some]
            simp only [Nat.add_zero] at h1
            rw [h1]
            simp [List.range_succ, h1]
          · simp only [cellAt, hbl, Option.bind_some]
            have : ((bl.drop q).take 1)[0]? = some y := by rw [e2]; rfl
            rw [List.getElem?_take_of_lt (by omega), List.getElem?_drop] at this
            simpa using this
      · cases e
    · cases e
  | elem r q =>
    cases hx with
    | elem r q b q0 hF =>
    simp only [loadV] at e
    split at e
    · rename_i hle
      injection e with e
      subst e
      have hlen : (((r.drop q).take sz).map AV.pv).length = sz := by simp; omega
      have hex : ∀ j, j < sz → ∃ u, g.F b (q0 + q + j) = some u ∧ ∀ y, (((r.drop q).take sz).map AV.pv)[j]? = some y → ARep g y u := by
        intro j hj
        have hq : q + j < r.length := by omega
        obtain ⟨u, h1, h2⟩ := hF (q + j) _ (List.getElem?_eq_getElem hq)
        refine ⟨u, by rw [Nat.add_assoc]; exact h1, fun y hy => ?_⟩
        rw [List.getElem?_map, List.getElem?_take_of_lt hj, List.getElem?_drop, List.getElem?_eq_getElem hq] at hy
        simp at hy
        rw [← hy]; exact .pv _ _ h2
      refine ⟨hlen, b, q0 + q, (List.range sz).map fun j => (g.F b (q0 + q + j)).getD undef, rfl, by simp, ?_, ?_, fun b' o' e1 => by cases e1⟩
      · intro j u e
        rw [List.getElem?_map] at e
        obtain ⟨i, h1, h2⟩ := Option.map_eq_some_iff.1 e
        have hj : j < sz := by have := (List.getElem?_eq_some_iff.1 h1).1; simpa using this
        rw [List.getElem?_range hj] at h1
        cases h1
        obtain ⟨u', h3, _⟩ := hex j hj
        rw [h3] at h2
        rw [h.fok _ _ _ h3]
        simpa using h2
      · intro j y u e1 e2
        have hj : j < sz := by rw [← hlen]; exact (List.getElem?_eq_some_iff.1 e1).1
        rw [List.getElem?_map, List.getElem?_range hj] at e2
        obtain ⟨u', h3, h4⟩ := hex j hj
        simp only [Option.map_some, h3, Option.getD_some] at e2
        injection e2 with e2
        subst e2
        exact h4 y e1
    · cases e
  | _ => simp [loadV] at e

theorem rep_part {agg : Bool} {cs : List AV} {vs : List Value} {v : AV} (hp : part agg (demL cs) = some v) (hl : cs.length = vs.length) (hr : ∀ (j : Nat) y u, cs[j]? = some y → vs[j]? = some u → ARep g y u) :
    isOwn v = false ∧ ((agg = true ∧ ARep g v (.agg vs.toArray)) ∨ (agg = false ∧ ∃ y u, cs = [y] ∧ vs = [u] ∧ v = dem y ∧ ARep g v u)) := by
  rcases part_eq hp with ⟨rfl, rfl⟩ | ⟨rfl, h2⟩
  · refine ⟨rfl, .inl ⟨rfl, .agg _ vs (by simpa [demL] using hl) fun j y u e1 e2 => ?_⟩⟩
    obtain ⟨x, h1, rfl⟩ := demL_get e1
    exact (hr j x u h1 e2).dem
  · match cs, vs, hl, h2 with
    | [y], [u], _, h2 =>
      have h2 : [dem y] = [v] := h2
      injection h2 with h2
      subst h2
      exact ⟨isOwn_dem y, .inr ⟨rfl, y, u, rfl, rfl, rfl, (hr 0 y u rfl rfl).dem⟩⟩
    | [], _, _, h2 => simp [demL] at h2
    | _ :: _ :: _, _, _, h2 => simp [demL] at h2

theorem sound_load (h : WRel X g nt s a w) {agg : Bool} {sz : Nat} {x : Opd} {y : Operand} {t : TypeId} (ho : o.op = .load t y) (hI : IOK P (.load agg sz x) (.load t y)) {call : Call} {u : Upd} (hs : stepI call s (.load agg sz x) = some u) :
    Sound P X g nt s u a w o := by
  obtain ⟨hx, hA, hS⟩ := hI
  simp only [stepI] at hs
  obtain ⟨cs, h1, h2⟩ := Option.bind_eq_some_iff.1 hs
  obtain ⟨v, h3, h4⟩ := Option.bind_eq_some_iff.1 h2
  injection h4 with h4
  obtain ⟨hl, k, q, vs, hp, hvl, hc, hr, hone⟩ := rep_loadV h (h.opd hx) h1
  obtain ⟨hno, hcase⟩ := rep_part h3 (by rw [hl, hvl]) hr
  obtain ⟨hr1, hr2⟩ := run_loadVar (P := P) hA hS hvl hc
  have hrun : ∀ cv, (loadVar t ⟨k, q, none⟩).run P w = .ok cv w → (execOp a.eval o).run P w = .ok (.value cv) w := by
    intro cv e
    simp [execOp, ho, Instr.loadAt, hp, Instr.sureAddr, e]
  rcases hcase with ⟨rfl, hrep⟩ | ⟨rfl, y0, u0, rfl, rfl, rfl, hrep⟩
  · subst h4
    exact ⟨_, w, _, g, hrun _ (hr1 rfl), .inl rfl, .refl _ _, .refl _ _ _, h, hrep, fun sz xs e => by
      have e : v = .own sz xs := e
      rw [e] at hno; simp [isOwn] at hno, fun hm e => by simp at e⟩
  · subst h4
    refine ⟨_, w, _, g, hrun _ (hr2 rfl u0 rfl), .inl rfl, .refl _ _, .refl _ _ _, h, hrep, fun sz xs e => ?_, fun hm e => ⟨hno, ?_⟩⟩
    · have e : dem y0 = .own sz xs := e
      rw [e] at hno; simp [isOwn] at hno
    · simp only at e
      split at e
      · rename_i b q' _ hb
        split at e
        · injection e with e
          subst e
          exact (hone b q' hb y0 rfl).1
        · cases e
      · cases e

theorem sound_store (h : WRel X g nt s a w) {sz : Nat} {x y : Opd} {x' y' : Operand} {t : TypeId} (ho : o.op = .store t x' y') (hI : IOK P (.store sz x y) (.store t x' y')) {call : Call} {u : Upd} (hs : stepI call s (.store sz x y) = some u) :
    Sound P X g nt s u a w o := by
  obtain ⟨hx, hy, hS⟩ := hI
  simp only [stepI] at hs
  split at hs
  · rename_i b q hb
    split at hs
    · rename_i hlen
      obtain ⟨sg, h1, h2⟩ := Option.map_eq_some_iff.1 hs
      subst h2
      simp only [storeV] at h1
      split at h1
      · rename_i hfc
        split at h1
        · rename_i cs hbl
          split at h1
          · rename_i hfit
            injection h1 with h1
            subst h1
            have hxr := h.opd hx
            rw [hb] at hxr
            obtain ⟨k, hk, hbe⟩ : ∃ k, a.eval x' = .pointer (some ⟨k, q, none⟩) ∧ g.be[b]? = some k := by
              generalize a.eval x' = v at hxr
              cases hxr with | cell b q k hbe => exact ⟨k, rfl, hbe⟩
            -- the values that are stored
            have hyr := h.opd hy
            have hvals : ∃ vs : List Value, (a.eval y').cells = vs.toArray ∧ (storeCs (eo s.env y)).length = vs.length ∧
                ∀ (j : Nat) z v, (storeCs (eo s.env y))[j]? = some z → vs[j]? = some v → ARep g z v := by
              generalize hev : eo s.env y = ev at hyr hfc
              cases ev with
              | agg l =>
                generalize a.eval y' = cv at hyr
                cases hyr with
                | agg l vs hl hr =>
                  refine ⟨vs, rfl, by simpa [storeCs, demL] using hl, fun j z v e1 e2 => ?_⟩
                  obtain ⟨z0, h3, rfl⟩ := demL_get e1
                  exact (hr j z0 v h3 e2).dem
              | _ =>
                have hc := hfc.2
                simp only [storeCs, List.all_cons, List.all_nil, Bool.and_true] at hc
                refine ⟨[a.eval y'], by rw [cells_one (hyr.oneCell hc)], rfl, fun j z v e1 e2 => ?_⟩
                cases j with
                | zero => simp [storeCs] at e1 e2; subst e1; subst e2; exact hyr
                | succ j => simp [storeCs] at e1
            obtain ⟨vs, hcells, hvl, hvr⟩ := hvals
            generalize hcs' : storeCs (eo s.env y) = nvs at hfc hfit hvl hvr hlen
            have hmid := taken_mid h y
            have hone : ∀ v ∈ vs, v.oneCell' = true := by
              intro v hv
              obtain ⟨j, hj, rfl⟩ := List.getElem_of_mem hv
              have hj' : j < nvs.length := by omega
              exact (hvr j _ _ (List.getElem?_eq_getElem hj') (List.getElem?_eq_getElem hj)).oneCell (List.all_eq_true.1 hfc.2 _ (List.getElem_mem hj'))
            have hB := h.blk b k cs hbe hbl
            have hrun : (execOp a.eval o).run P w = .ok .skip (w.setCells k q vs) := by
              have hst := run_storeCells_cells (P := P) k q vs 0 w (fun j hj => by
                  obtain ⟨v, hv, _⟩ := hB.cells (q + 0 + j) _ (List.getElem?_eq_getElem (by omega))
                  rw [hv]; rfl) (fun j hj => hB.fro _ (by omega)) hone
              simp only [Nat.add_zero] at hst
              have hsz : (a.eval y').cells.size = sz := by rw [hcells]; simp; omega
              have hl2 : (a.eval y').cells.toList = vs := by rw [hcells]
              simp [execOp, ho, Instr.storeAt, hk, Instr.sureAddr, storeVar, run_size hS, hsz, hl2, hst]
            have hR := hmid.store (o := q) (vs := nvs) (cvs := vs) hbe hbl hfc.1 hvl hvr (fun j z e => List.all_eq_true.1 hfc.2 _ (List.mem_of_getElem? e)) hfit (by
              by_cases hown : ∃ sz xs, eo s.env y = .own sz xs
              · obtain ⟨sz1, xs1, hev⟩ := hown
                obtain ⟨k1, o1, c1, e1, e2, e3⟩ := taken_own h hy hev
                refine .inr ⟨sz1, xs1, k1, o1, c1, ?_, ?_, e2, fun hm sz' xs' o' n' c' e4 e5 => absurd e5 (e3 s.pr hm sz' xs' o' n' c' e4)⟩
                · rw [← hcs', hev]; rfl
                · have : vs.toArray = #[Value.slice (some ⟨k1, o1, none⟩) xs1.length c1] := by rw [← hcells, e1]; rfl
                  simpa using congrArg Array.toList this
              · refine .inl fun j z e => ?_
                rw [← hcs'] at e
                cases hz : isOwn z with
                | false => rfl
                | true =>
                  obtain ⟨sz1, xs1, rfl⟩ := isOwn_iff.1 hz
                  exfalso
                  generalize eo s.env y = ev at e hown
                  cases ev with
                  | agg l =>
                    obtain ⟨z0, h3, h4⟩ := demL_get e
                    have := isOwn_dem z0
                    rw [← h4] at this; simp [isOwn] at this
                  | own sz2 xs2 => exact hown ⟨sz2, xs2, rfl⟩
                  | _ => cases j <;> simp [storeCs] at e)
            refine ⟨_, _, undef, g, hrun, .inr ⟨rfl, rfl⟩, .refl _ _, pres_setCells k q vs (h.wrt b k hfc.1 hbe), ?_, .bot _, fun sz xs e => (by cases e), fun hm e => (by cases e)⟩
            exact hR
          · cases h1
        · cases h1
      · cases h1
    · cases hs
  · cases hs

theorem sound_nilck (h : WRel X g nt s a w) {x : Opd} {y : Operand} (ho : o.op = .nilCheck y) (hx : OOK x y) {call : Call} {u : Upd} (hs : stepI call s (.nilck x) = some u) : Sound P X g nt s u a w o := by
  have hr := h.opd hx
  simp only [stepI] at hs
  split at hs
  · rename_i b q e
    rw [plain_some hs]
    rw [e] at hr
    refine Sound.plain h (cv := a.eval y) ?_ hr rfl
    generalize hv : a.eval y = v at hr
    cases hr with
    | cell b q k hbe => simp [execOp, ho, hv]
  · rename_i r q e
    rw [plain_some hs]
    rw [e] at hr
    refine Sound.plain h (cv := a.eval y) ?_ hr rfl
    generalize hv : a.eval y = v at hr
    cases hr with
    | elem r q b q0 hF => simp [execOp, ho, hv]
  · cases hs
end Go.Proofs.YtggoaggneapneaaDoorM
