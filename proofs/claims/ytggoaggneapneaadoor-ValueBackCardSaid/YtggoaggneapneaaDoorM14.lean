/-
  The mirror, part 14: append and make.
-/
import Derived.Test.YtggoaggneapneaaDoorM13
set_option linter.unusedVariables false
set_option linter.unusedSimpArgs false
namespace Go.Proofs.YtggoaggneapneaaDoorM
open Go
variable {X : Nat → Prop} {g g' : G} {nt : Nat} {s : St} {a : Act} {w w' : World} {F : Facts} {P : Program} {o : Oper}

/-- A cell of memory gives up what is its own. -/
theorem WRel.demCell (h : WRel X g nt s a w) {b q sz : Nat} {cs : List AV} {xs : List (List PV)} (hb : s.sg.bl[b]? = some cs) (hq : cs[q]? = some (.own sz xs)) :
    WRel X g nt { s with sg := setCells s.sg b (cs.set q (.pv (.sl xs))) } a w := by
  have hbl := (List.getElem?_eq_some_iff.1 hb).1
  have hql := (List.getElem?_eq_some_iff.1 hq).1
  have hat : ∀ hm sz' xs', atHome { s with sg := setCells s.sg b (cs.set q (.pv (.sl xs))) } hm = some (.own sz' xs') → atHome s hm = some (.own sz' xs') := by
    intro hm sz' xs' e
    cases hm with
    | slot t => exact e
    | cell b' q' =>
      obtain ⟨hfl, e⟩ := atHome_cell.1 e
      refine atHome_cell.2 ⟨hfl, ?_⟩
      simp only [cellAt, setCells] at e ⊢
      by_cases hbb : b = b'
      · subst hbb
        rw [List.getElem?_set_self hbl] at e
        rw [hb]
        simp only [Option.bind_some] at e ⊢
        by_cases hqq : q = q'
        · subst hqq
          rw [List.getElem?_set_self hql] at e; cases e
        · rw [List.getElem?_set_ne hqq] at e; exact e
      · rw [List.getElem?_set_ne hbb] at e; exact e
  refine { fok := h.fok, bas := h.bas, obk := h.obk, len := by simpa [setCells] using h.len, inj := h.inj, blk := ?_, wrt := h.wrt, xlt := h.xlt, nt := h.nt, env := h.env, prv := h.prv, prm := fun hm sz xs e => h.prm hm sz xs (hat hm sz xs e), dst := fun hm hm' sz xs sz' xs' k o n c o' n' c' e e' => h.dst hm hm' sz xs sz' xs' k o n c o' n' c' (hat _ _ _ e) (hat _ _ _ e'), dfr := h.dfr }
  intro i k cs' hi hc
  simp only [setCells] at hc
  by_cases hbb : b = i
  · subst hbb
    rw [List.getElem?_set_self hbl] at hc
    cases hc
    have hB := h.blk b k cs hi hb
    refine ⟨by simpa using hB.ex, ?_, ?_, by simpa using hB.fro, hB.noF⟩
    · intro j x hj
      by_cases hqq : q = j
      · subst hqq
        rw [List.getElem?_set_self hql] at hj
        cases hj
        obtain ⟨v, h1, h2⟩ := hB.cells q _ hq
        exact ⟨v, h1, h2.dem⟩
      · rw [List.getElem?_set_ne hqq] at hj
        exact hB.cells j x hj
    · intro j x hj
      by_cases hqq : q = j
      · subst hqq
        rw [List.getElem?_set_self hql] at hj
        cases hj; rfl
      · rw [List.getElem?_set_ne hqq] at hj
        exact hB.kind j x hj
  · rw [List.getElem?_set_ne hbb] at hc
    exact h.blk i k cs' hi hc

theorem src_rep {y : AV} {v : Value} {ys : List (List PV)} {sz : Nat} (h : ARep g y v) (e : srcOf y = some ys) (hn : ∀ r ∈ ys, r.length = sz) : Src P g.F sz ys v := by
  unfold srcOf at e
  split at e
  · rename_i l
    cases e
    cases h with
    | pv p v h =>
      have h1 := Src.string (P := P) h
      cases l with
      | nil =>
        obtain ⟨cs, hc, hf⟩ := h1.ex
        have : cs = [] := List.eq_nil_of_length_eq_zero (by simpa [ofBs] using hc.1)
        subst this
        cases h with
        | str s bs h =>
          refine ⟨h1.len, [], ⟨by simp [ofBs], by simp, fun j r q p hj => by simp [ofBs] at hj⟩, fun w hw => ?_⟩
          have := hf w hw
          simpa [Builtin.firstCells] using this
      | cons b l =>
        have : sz = 1 := by rw [← hn [.int .u8 (b.toNat : Int)] (by simp [ofBs])]; rfl
        subst this; exact h1
  · obtain ⟨ad, c, rfl, hV, _⟩ := rep_rows h e
    exact Src.slice (c := c) hV hn

theorem own_size {x : AV} {sz : Nat} {xs : List (List PV)} {cv : Value} (h : ARep g (.own sz xs) cv) : ∃ b o c, cv = .slice (some ⟨b, o, none⟩) xs.length c := by
  cases h with
  | own sz xs b o c h hs => exact ⟨b, o, c, rfl⟩

theorem sound_app (h : WRel X g nt s a w) {sz bytes : Nat} {x y : Opd} {c : Go.Call} (ho : o.op = .call c) (hI : IOK P (.app sz bytes x y) (.call c)) {call : Call} {u : Upd} (hs : stepI call s (.app sz bytes x y) = some u) : Sound P X g nt s u a w o := by
  obtain ⟨t, t2, x', y', e, d, rfl, hx, hy, ht, ⟨i, z, hi, hsz, hby, hz, hzs⟩, hpos, hu, hd⟩ := hI
  simp only [stepI] at hs
  obtain ⟨ys, h1, hs⟩ := Option.bind_eq_some_iff.1 hs
  unfold appV at hs
  split at hs
  · rename_i hall
    have hys : ∀ r ∈ ys, r.length = sz := fun r hr => by simpa using List.all_eq_true.1 hall r hr
    have hS : Src P g.F sz ys (a.eval y') := src_rep (h.opd hy) h1 hys
    have hop : ∀ w, (execOp a.eval o).run P w = ((Builtin.append_ #[t, t2] o.type #[a.eval x', a.eval y']).run P w).andThen fun v w => .ok (.value v) w := by
      intro w
      simp [execOp, ho, resolve, invoke, builtin]
    split at hs
    · -- nothing yet
      rename_i ev
      have hxr := h.opd hx
      rw [ev] at hxr
      generalize hcv : a.eval x' = cv at hxr hop
      cases hxr with
      | nils =>
      split at hs
      · rename_i hfit
        have hfit' := inS_iff hfit
        cases hs
        cases ys with
        | nil =>
          obtain ⟨cs, hcs, hf⟩ := hS.ex
          have hrun := run_append_in (P := P) (w' := w) (ty := o.type) w ht hu hd hi none 0 0 0 (a.eval y') hS.len cs (by rw [hsz]; exact hf w h.fok) (Nat.le_refl _) (fun a0 e0 => by cases e0) (fun _ => rfl)
          refine Sound.plain h (v := .nils) (cv := .slice none 0 0) ?_ .nils rfl
          rw [hop, hrun]; rfl
        | cons r ys =>
          obtain ⟨cs, hcs, hf⟩ := hS.ex
          have hb1 : (r :: ys).length ≤ bytes * (r :: ys).length := Nat.le_mul_of_pos_left _ hpos
          have hb0 : 0 < (r :: ys).length := by simp
          have hrun := run_append_out (P := P) (ty := o.type) w ht hu hd hi hz none 0 0 (r :: ys).length (a.eval y') hS.len cs [] (by rw [hsz]; exact hf w.drew (facts_drew h))
            (by simp [Builtin.firstCells]) (by simp) (by omega) (growslice_fits (by omega) (by rw [hby, Nat.zero_add, Nat.mul_comm]; exact hfit'))
          have hcap := grownCap_ge w (0 + (r :: ys).length) 0 e
          generalize hcapE : grownCap w (0 + (r :: ys).length) 0 e = cap at hrun hcap
          obtain ⟨g', hE, hR, hA, hP2, hD2⟩ := Fine.newOwn (w' := w.drew.alloc (.cells (([] : List Value).toArray ++ cs.toArray ++ Builtin.zeroCells z.cells (cap - (0 + (r :: ys).length))) e)) (c := cap)
            (fr := (0, 0)) (T := e) h hcs hys (fun j v e0 => by
              have hj := (List.getElem?_eq_some_iff.1 e0).1
              rw [Array.getElem?_append_left (by simpa using hj)]
              simpa using e0) (by omega)
            (by
              have h2 := hcs.1
              simp only [Array.size_append, List.size_toArray, size_zeroCells', h2, hzs, List.length_nil, Nat.zero_add, ← Nat.add_mul]
              exact Nat.mul_le_mul_right _ (by omega))
            (.inl rfl) (by simp) (fun k' hk' => heap_alloc (w := w.drew) hk') (heap_alloc_self w.drew _)
          refine ⟨_, _, _, g', by rw [hop, hrun]; rfl, .inl rfl, hE, (pres_drew X g.F w).trans (pres_alloc (w := w.drew) h.xlt _), hR, ?_, ?_, fun hm e => (by cases e)⟩
          · simp only [List.isEmpty_cons, Bool.false_eq_true, if_false]
            rw [Nat.zero_add]; exact hA
          · intro sz1 xs1 e1
            simp only [List.isEmpty_cons, Bool.false_eq_true, if_false] at e1
            injection e1 with e2 e3
            subst e2; subst e3
            exact ⟨_, _, _, by rw [Nat.zero_add], hP2, hD2⟩
      · cases hs
    · -- the slice's home
      have hval : ∀ hm, homeOf s x = some hm → conc g a w hm = some (a.eval x') := by
        intro hm e
        cases x with
        | c v => simp [homeOf] at e
        | t n =>
          cases x' with
          | tmp m =>
            simp only [OOK] at hx
            subst hx
            have hget : ∀ cv, a.tmps[n]? = some cv → a.eval (.tmp n) = cv := fun cv e => by simp [Act.eval, Array.getD_eq_getD_getElem?, e]
            simp only [homeOf] at e
            split at e
            · rename_i hown
              cases e
              obtain ⟨sz, xs, hsx⟩ := isOwn_iff.1 hown
              obtain ⟨cv, h1, _⟩ := h.env n _ (get_own hsx)
              show conc g a w (.slot n) = _
              rw [hget cv h1]; exact h1
            · obtain ⟨cv, h1, h2⟩ := h.prv n hm (lookP_mem e)
              rw [hget cv h1]; exact h2
          | const v => exact hx.elim
          | global k => exact hx.elim
          | func f => exact hx.elim
      have fin : ∀ (s' : St) (u' : Upd) xs, WRel X g nt s' a w → (∀ hm sz' xs', atHome s' hm = some (.own sz' xs') → atHome s hm = some (.own sz' xs') ∧ homeOf s x ≠ some hm) → (∀ hm, homeOf s x = some hm → atHome s hm = some (.own sz xs)) → (∃ hm, homeOf s x = some hm) →
          inS bytes (xs.length + ys.length) = true → u'.v = .own sz (xs ++ ys) → u'.p = none → mid s u' = s' → Sound P X g nt s u' a w o := by
        intro s' u' xs hR' hless hat hex hfit hv hp hmid
        obtain ⟨hm, hhm⟩ := hex
        obtain ⟨k, q, c, h2, h3⟩ := h.prm hm sz xs (hat hm hhm)
        have hcon := hval hm hhm
        rw [h2] at hcon
        have ex : a.eval x' = .slice (some ⟨k, q, none⟩) xs.length c := by injection hcon with hcon; exact hcon.symm
        have hrep : ARep g (.own sz xs) (.slice (some ⟨k, q, none⟩) xs.length c) := by
          cases hm with
          | slot t0 =>
            obtain ⟨cv, h4, h5⟩ := h.env t0 _ (hat _ hhm)
            have h4' : conc g a w (.slot t0) = some cv := h4
            rw [h2] at h4'
            cases h4'; exact h5
          | cell b0 q0 =>
            obtain ⟨_, h4⟩ := atHome_cell.1 (hat _ hhm)
            simp only [cellAt] at h4
            obtain ⟨cs, h5, h6⟩ := Option.bind_eq_some_iff.1 h4
            simp only [conc] at h2
            obtain ⟨kk, h7, h8⟩ := Option.bind_eq_some_iff.1 h2
            obtain ⟨v, h9, h10⟩ := (h.blk b0 kk cs h7 h5).cells q0 _ h6
            rw [h8] at h9
            cases h9; exact h10
        have hfit' := inS_iff hfit
        have hb1 : xs.length + ys.length ≤ bytes * (xs.length + ys.length) := Nat.le_mul_of_pos_left _ hpos
        obtain ⟨cv, g', w', hrun, hE, hPr, hR, hA, hex2⟩ := own_append (ty := o.type) hR' hrep h3
          (fun hm' sz' xs' o' n' c' e1 e2 => by
            obtain ⟨e3, e4⟩ := hless hm' sz' xs' e1
            exact e4 (by rw [h.dst hm' hm sz' xs' sz xs k o' n' c' q xs.length c e3 (hat hm hhm) e2 h2]; exact hhm))
          hS hys (bytes := bytes) hfit' ht hu hd hi hz hsz hby hzs (by omega)
        rw [← ex] at hrun
        refine ⟨_, w', cv, g', by rw [hop, hrun]; rfl, .inl rfl, hE, hPr, by rw [hmid]; exact hR, by rw [hv]; exact hA, ?_, fun hm e => by rw [hp] at e; cases e⟩
        intro sz1 xs1 e1
        rw [hv] at e1
        injection e1 with e2 e3
        subst e2; subst e3
        obtain ⟨k', o', c', e4, hP4, hD4⟩ := hex2
        exact ⟨k', o', c', e4, hP4, by rw [hmid]; exact hD4⟩
      split at hs
      · rename_i t0 hhm
        split at hs
        · rename_i sz' xs hl
          split at hs
          · rename_i hc
            obtain ⟨rfl, hfit⟩ := hc
            cases hs
            refine fin { s with env := demSlots s.env [t0] } _ xs (h.demSlots [t0] (by simp [hl])) ?_ ?_ ⟨_, hhm⟩ hfit rfl rfl rfl
            · intro hm sz1 xs1 e1
              have hne : hm ≠ .slot t0 := by
                rintro rfl
                simp only [atHome, demSlots, look_put, if_true, get, hl, Option.getD_some, dem] at e1
                cases e1
              refine ⟨?_, fun e2 => hne (by rw [hhm] at e2; cases e2; rfl)⟩
              cases hm with
              | slot t' =>
                simp only [atHome, demSlots, look_put] at e1
                rw [if_neg (fun c => hne (by rw [c]))] at e1
                exact e1
              | cell b0 q0 => exact e1
            · intro hm e1
              rw [hhm] at e1
              cases e1; exact hl
          · cases hs
        · cases hs
      · rename_i b0 q0 hhm
        split at hs
        · rename_i sz' xs hl
          split at hs
          · rename_i hc
            obtain ⟨rfl, hfit⟩ := hc
            split at hs
            · rename_i cs hcs
              cases hs
              obtain ⟨hfl, hcell⟩ := atHome_cell.1 hl
              simp only [cellAt, hcs, Option.bind_some] at hcell
              refine fin { s with sg := setCells s.sg b0 (cs.set q0 (.pv (.sl xs))) } _ xs (h.demCell hcs hcell) ?_ ?_ ⟨_, hhm⟩ hfit rfl rfl rfl
              · intro hm sz1 xs1 e1
                have hbl := (List.getElem?_eq_some_iff.1 hcs).1
                have hql := (List.getElem?_eq_some_iff.1 hcell).1
                have hne : hm ≠ .cell b0 q0 := by
                  rintro rfl
                  obtain ⟨_, e1⟩ := atHome_cell.1 e1
                  simp only [cellAt, setCells, List.getElem?_set_self hbl, Option.bind_some, List.getElem?_set_self hql] at e1
                  cases e1
                refine ⟨?_, fun e2 => hne (by rw [hhm] at e2; cases e2; rfl)⟩
                cases hm with
                | slot t' => exact e1
                | cell b1 q1 =>
                  obtain ⟨hfl1, e1⟩ := atHome_cell.1 e1
                  refine atHome_cell.2 ⟨hfl1, ?_⟩
                  simp only [cellAt, setCells] at e1 ⊢
                  by_cases hbb : b0 = b1
                  · subst hbb
                    rw [List.getElem?_set_self hbl] at e1
                    rw [hcs]
                    simp only [Option.bind_some] at e1 ⊢
                    rw [List.getElem?_set_ne (fun c => hne (by rw [c]))] at e1
                    exact e1
                  · rw [List.getElem?_set_ne hbb] at e1; exact e1
              · intro hm e1
                rw [hhm] at e1
                cases e1; exact hl
            · cases hs
          · cases hs
        · cases hs
      · cases hs
  · cases hs

theorem replicate_get {α : Type} {z : List α} : ∀ (m j : Nat), j < m * z.length → ((List.replicate m z).flatten)[j]? = z[j % z.length]?
  | 0, j, h => by omega
  | m + 1, j, h => by
    rw [List.replicate_succ, List.flatten_cons]
    rcases Nat.lt_or_ge j z.length with hj | hj
    · rw [List.getElem?_append_left hj, Nat.mod_eq_of_lt hj]
    · rw [List.getElem?_append_right hj, replicate_get m (j - z.length) (by rw [Nat.add_mul] at h; omega), ← Nat.mod_eq_sub_mod hj]
theorem replicate_len {α : Type} (z : List α) (m : Nat) : ((List.replicate m z).flatten).length = m * z.length := by
  simp

theorem sound_mks (h : WRel X g nt s a w) {sz bytes : Nat} {z : List AV} {n : Opd} {t : TypeId} {l c : Operand} (ho : o.op = .makeSlice t l c) (hI : IOK P (.mks sz bytes z n) (.makeSlice t l c)) {call : Call} {u : Upd} (hs : stepI call s (.mks sz bytes z n) = some u) :
    Sound P X g nt s u a w o := by
  obtain ⟨rfl, hn, e, i, zv, hu, hi, hsz, hby, hz, ⟨hzl, hzr⟩, hp1, hp2⟩ := hI
  simp only [stepI] at hs
  obtain ⟨m, h1, hs⟩ := Option.bind_eq_some_iff.1 hs
  obtain ⟨k, hk⟩ := rep_asI (h.opd hn) h1
  split at hs
  · rename_i hc
    obtain ⟨h0, hfit, hzsz⟩ := hc
    have hfit' := inS_iff hfit
    rw [plain_some hs]
    have hb1 : m.toNat ≤ bytes * m.toNat := Nat.le_mul_of_pos_left _ hp2
    have hzs : zv.cells.size = sz := by rw [← hzsz, hzl]; simp
    have hwrap : IntKind.i64.wrap m = m := by
      simp [IntKind.wrap, IntKind.bits, IntKind.signed]; omega
    let ccs : Array Value := (Array.range (m.toNat * sz)).map (zv.cells[· % zv.cells.size]!)
    have hrun : (execOp a.eval o).run P w = .ok (.value (.slice (some ⟨w.heap.size, 0, none⟩) m.toNat m.toNat)) (w.alloc (.cells ccs e)) := by
      have hlt : ¬ (281474976710656 < (bytes : Int) * m) := by
        have : ((bytes * m.toNat : Nat) : Int) = (bytes : Int) * m := by rw [Int.natCast_mul, Int.toNat_of_nonneg h0]
        omega
      have hge : ¬ (m < 0) := by omega
      have e2 : (Instr.makeSlice t (.int k m) (.int k m)).run P w = .ok (.slice (some ⟨w.heap.size, 0, none⟩) m.toNat m.toNat) (w.alloc (.cells ccs e)) := by
        unfold Instr.makeSlice
        simp only [Sem.run_bind, run_underlying hu, Result.andThen_ok, asInt, Sem.run_pure, run_info hi, hby, hwrap]
        have e3 : ∀ w, (asIntOf (.int k m)).run P w = .ok (k, m) w := fun _ => rfl
        by_cases h2 : m.toNat * sz = 0
        · have e4 : (Array.range 0).map (fun x => (default : Value)) = ccs := by
            simp only [ccs, h2]
            apply Array.ext'; simp
          simp [hlt, hge, run_askRoom, run_size ⟨i, hi, hsz⟩, e3, hwrap, h2, newRow]
          rw [e4]
        · simp [hlt, hge, run_askRoom, run_size ⟨i, hi, hsz⟩, e3, hwrap, h2, newRow, run_zero hi hz, ccs]
      simp [execOp, ho, hk, e2]
    have hR := h.newVar (w' := w.alloc (.cells ccs e)) (cs := (List.replicate m.toNat z).flatten) (T := e) (fr := (0, 0)) (by rw [replicate_len, hzsz]; simp [ccs]) (fun j x ej => by
        have hj := (List.getElem?_eq_some_iff.1 ej).1
        rw [replicate_len] at hj
        rw [replicate_get _ _ hj] at ej
        have hj2 := (List.getElem?_eq_some_iff.1 ej).1
        have hj3 : j % sz < zv.cells.size := by rw [hzs]; exact Nat.mod_lt _ hp1
        rw [hzsz] at ej hj
        refine ⟨zv.cells[j % sz], ?_, (hzr (j % sz) x _ ej (by simp [Array.getElem?_eq_getElem hj3])).1 g⟩
        have := getElem!_pos zv.cells (j % sz) hj3
        simp [ccs, hj, hzs, this])
      (fun j x ej => by
        have hj := (List.getElem?_eq_some_iff.1 ej).1
        rw [replicate_len] at hj
        rw [replicate_get _ _ hj] at ej
        have hj2 := (List.getElem?_eq_some_iff.1 ej).1
        have hj3 : j % z.length < zv.cells.toList.length := by rw [← hzl]; exact hj2
        exact (hzr (j % z.length) x _ ej (List.getElem?_eq_getElem hj3)).2)
      (fun j _ => by simp) (by simp) (fun k hk => heap_alloc hk) (heap_alloc_self w _)
    refine ⟨_, _, _, _, hrun, .inl rfl, h.ext_newVar, pres_alloc h.xlt _, hR, ?_, fun sz xs e => (by cases e), fun hm e => (by cases e)⟩
    exact .row _ 0 _ sz _ _ (by rw [← h.len]; simp) (Nat.le_refl _)
  · cases hs
end Go.Proofs.YtggoaggneapneaaDoorM
