/-
  The mirror, part 8: each instruction but calls does what the machine does.
-/
import Derived.Test.YtggoaggneapneaaDoorM7
set_option linter.unusedVariables false
set_option linter.unusedSimpArgs false
namespace Go.Proofs.YtggoaggneapneaaDoorM
open Go
variable {X : Nat → Prop} {g g' : G} {nt : Nat} {s : St} {a : Act} {w w' : World} {F : Facts} {P : Program} {o : Oper}

def Sound (P : Program) (X : Nat → Prop) (g : G) (nt : Nat) (s : St) (u : Upd) (a : Act) (w : World) (o : Oper) : Prop :=
  ∃ nx w' cv g', (execOp a.eval o).run P w = .ok nx w' ∧ (nx = .value cv ∨ nx = .skip ∧ cv = undef) ∧ Ext X g g' ∧ Pres X g.F w w' ∧ Fine X g' nt s u a w' cv
theorem Sound.plain (h : WRel X g nt s a w) {v : AV} {cv : Value} (hr : (execOp a.eval o).run P w = .ok (.value cv) w) (hv : ARep g v cv) (ho : isOwn v = false) :
    Sound P X g nt s { v, p := none, dm := [], sg := s.sg, cl := false } a w o :=
  ⟨_, w, cv, g, hr, .inl rfl, .refl _ _, .refl _ _ _, Fine.plain h hv ho⟩
theorem Sound.plainO (h : WRel X g nt s a w) {v : Option AV} {u : Upd} (hs : Go.Proofs.YtggoaggneapneaaDoorM.plainO s.sg v = some u)
    (hr : ∀ x, v = some x → ∃ cv, (execOp a.eval o).run P w = .ok (.value cv) w ∧ ARep g x cv ∧ isOwn x = false) : Sound P X g nt s u a w o := by
  obtain ⟨x, h1, rfl⟩ := plainO_some hs
  obtain ⟨cv, h2, h3, h4⟩ := hr x h1
  exact Sound.plain h h2 h3 h4

theorem sound_mov (h : WRel X g nt s a w) {x : Opd} {y : Operand} (ho : o.op = .move y ∨ o.op = .assign y) (hx : OOK x y) {call : Call} {u : Upd} (hs : stepI call s (.mov x) = some u) : Sound P X g nt s u a w o := by
  have hr : (execOp a.eval o).run P w = .ok (.value (a.eval y)) w := by rcases ho with ho | ho <;> simp only [execOp, ho, Sem.run_pure]
  have hv := h.opd hx
  cases x with
  | c v => rw [plain_some hs]; exact Sound.plain h hr hv hx.notOwn
  | t n =>
    simp only [stepI] at hs
    injection hs with hs
    subst hs
    refine ⟨_, w, _, g, hr, .inl rfl, .refl _ _, .refl _ _ _, h, hv.dem, fun sz xs e => ?_, fun hm e => ⟨isOwn_dem _, ?_⟩⟩
    · have e : dem (get s.env n) = .own sz xs := e
      have := isOwn_dem (get s.env n)
      rw [e] at this
      simp [isOwn] at this
    · cases y with
      | tmp m =>
        simp only [OOK] at hx
        subst hx
        have hget : ∀ cv, a.tmps[n]? = some cv → a.eval (.tmp n) = cv := fun cv e => by simp [Act.eval, Array.getD_eq_getD_getElem?, e]
        simp only at e
        split at e
        · rename_i hown
          injection e with e
          subst e
          obtain ⟨sz, xs, hsx⟩ := isOwn_iff.1 hown
          obtain ⟨cv, h1, _⟩ := h.env n _ (get_own hsx)
          show conc g a w (.slot n) = _
          rw [hget cv h1]; exact h1
        · obtain ⟨cv, h1, h2⟩ := h.prv n hm (lookP_mem e)
          show conc g a w hm = _
          rw [hget cv h1]; exact h2
      | const v => exact hx.elim
      | global k => exact hx.elim
      | func f => exact hx.elim

/-- An operand's value moves on: its slot keeps a copy. -/
theorem taken_mid (h : WRel X g nt s a w) (x : Opd) : WRel X g nt { s with env := demSlots s.env (taken s.env x) } a w := by
  refine h.demSlots _ fun t ht => ?_
  cases x with
  | c v => simp [taken] at ht
  | t n =>
    simp only [taken] at ht
    split at ht
    · rename_i hown
      obtain ⟨sz, xs, hsx⟩ := isOwn_iff.1 hown
      have : t = n := by simpa using ht
      subst this
      rw [get_own hsx]; simp
    · simp at ht
/-- What moves on is no place's any more. -/
theorem taken_own (h : WRel X g nt s a w) {x : Opd} {y : Operand} (hx : OOK x y) {sz : Nat} {xs : List (List PV)} (e : eo s.env x = .own sz xs) :
    ∃ k o c, a.eval y = .slice (some ⟨k, o, none⟩) xs.length c ∧ Perm X g w sz k o xs.length c ∧
      ∀ pr hm sz' xs' o' n' c', atHome { s with env := demSlots s.env (taken s.env x), pr := pr } hm = some (.own sz' xs') → conc g a w hm ≠ some (.slice (some ⟨k, o', none⟩) n' c') := by
  cases x with
  | c v =>
    have := OOK.notOwn hx
    simp only [eo] at e
    rw [e] at this; simp [isOwn] at this
  | t n =>
    cases y with
    | tmp m =>
      simp only [OOK] at hx
      subst hx
      simp only [eo] at e
      have hl := get_own e
      obtain ⟨k, o, c, h1, h2⟩ := h.prm (.slot n) sz xs hl
      have h1' : a.tmps[n]? = some (.slice (some ⟨k, o, none⟩) xs.length c) := h1
      refine ⟨k, o, c, by simp [Act.eval, Array.getD_eq_getD_getElem?, h1'], h2, ?_⟩
      intro pr hm sz' xs' o' n' c' e1 e2
      have hne : hm ≠ .slot n := by
        rintro rfl
        simp only [atHome, taken, e, isOwn, if_true, demSlots, look_put, dem] at e1
        cases e1
      have e1' : atHome s hm = some (.own sz' xs') := by
        cases hm with
        | slot t =>
          simp only [atHome, taken, e, isOwn, if_true, demSlots, look_put] at e1
          rw [if_neg (fun c => hne (by rw [c]))] at e1
          exact e1
        | cell b q => exact e1
      exact hne (h.dst _ _ _ _ _ _ k o' n' c' o xs.length c e1' hl e2 h1)
    | const v => exact hx.elim
    | global k => exact hx.elim
    | func f => exact hx.elim

theorem sound_asg (h : WRel X g nt s a w) {x : Opd} {y : Operand} (ho : o.op = .assign y) (hx : OOK x y) {call : Call} {u : Upd} (hs : stepI call s (.asg x) = some u) : Sound P X g nt s u a w o := by
  have hr : (execOp a.eval o).run P w = .ok (.value (a.eval y)) w := by simp only [execOp, ho, Sem.run_pure]
  have hv := h.opd hx
  simp only [stepI] at hs
  injection hs with hs
  subst hs
  refine ⟨_, w, _, g, hr, .inl rfl, .refl _ _, .refl _ _ _, ?_, hv, fun sz xs e => ?_, fun hm e => by cases e⟩
  · exact taken_mid h x
  · obtain ⟨k, o, c, h1, h2, h3⟩ := taken_own h hx e
    exact ⟨k, o, c, h1, h2, h3 s.pr⟩

theorem sound_pick (h : WRel X g nt s a w) {c x y : Opd} {c' x' y' : Operand} (ho : o.op = .pick c' x' y') (hc : OOK c c') (hx : OOK x x') (hy : OOK y y') {call : Call} {u : Upd} (hs : stepI call s (.pick c x y) = some u) :
    Sound P X g nt s u a w o := by
  simp only [stepI] at hs
  split at hs
  · rename_i t e
    rw [plain_some hs]
    have hcv := h.opd hc
    rw [e] at hcv
    have hb := rep_bool hcv
    cases t with
    | true => exact Sound.plain h (cv := a.eval x') (by simp [execOp, ho, asBool, hb]) (h.opd hx).dem (isOwn_dem _)
    | false => exact Sound.plain h (cv := a.eval y') (by simp [execOp, ho, asBool, hb]) (h.opd hy).dem (isOwn_dem _)
  · cases hs

theorem sound_newVar (h : WRel X g nt s a w) {cs : List AV} {ccs : Array Value} {T : TypeId} (hl : cs.length = ccs.size) (hr : ∀ (j : Nat) x v, cs[j]? = some x → ccs[j]? = some v → ARep g x v)
    (hc : ∀ (j : Nat) x, cs[j]? = some x → isCell x = true ∧ isOwn x = false) (hrun : (execOp a.eval o).run P w = .ok (.value (.pointer (some ⟨w.heap.size, 0, none⟩))) (w.alloc (.cells ccs T))) :
    Sound P X g nt s { v := .cell s.sg.bl.length 0, p := none, dm := [], sg := { s.sg with bl := s.sg.bl ++ [cs] }, cl := false } a w o := by
  have hR := h.newVar (w' := w.alloc (.cells ccs T)) (T := T) (fr := (0, 0)) (Nat.le_of_eq hl) (fun j x e => by
      have hj : j < ccs.size := by rw [← hl]; exact (List.getElem?_eq_some_iff.1 e).1
      exact ⟨ccs[j], Array.getElem?_eq_getElem hj, hr j x _ e (Array.getElem?_eq_getElem hj)⟩) hc (fun j _ => by simp) (by simp) (fun k hk => heap_alloc hk) (heap_alloc_self w _)
  refine ⟨_, _, _, _, hrun, .inl rfl, h.ext_newVar, pres_alloc h.xlt _, hR, ?_, fun sz xs e => (by cases e), fun hm e => (by cases e)⟩
  exact .cell _ 0 _ (by rw [← h.len]; simp)

theorem sound_alloc (h : WRel X g nt s a w) {z : List AV} {t : TypeId} (ho : o.op = .alloc t) (hI : IOK P (.alloc z) (.alloc t)) {call : Call} {u : Upd} (hs : stepI call s (.alloc z) = some u) : Sound P X g nt s u a w o := by
  obtain ⟨i, zv, h1, h2, h3, h4⟩ := hI
  rw [plain_some hs]
  refine sound_newVar h (ccs := zv.cells) (T := t) (by simpa using h3) (fun j x v e1 e2 => (h4 j x v e1 (by simpa using e2)).1 g) (fun j x e => ?_) ?_
  · have hj : j < zv.cells.toList.length := by rw [← h3]; exact (List.getElem?_eq_some_iff.1 e).1
    exact (h4 j x _ e (List.getElem?_eq_getElem hj)).2
  · simp [execOp, ho, Instr.alloc, run_zero h1 h2, newVar, newRow]

theorem sound_box (h : WRel X g nt s a w) {sz : Nat} {x : Opd} {y : Operand} {t : TypeId} (ho : o.op = .box t y) (hx : OOK x y) {call : Call} {u : Upd} (hs : stepI call s (.box sz x) = some u) : Sound P X g nt s u a w o := by
  simp only [stepI] at hs
  split at hs
  · rename_i hc
    rw [plain_some hs]
    have hall : (cellsOf (eo s.env x)).all isCell = true := by rw [← demL_all]; exact hc.2
    obtain ⟨h1, h2⟩ := rep_cells (h.opd hx) hall
    refine sound_newVar h (ccs := (a.eval y).cells) (T := t) (by rw [← h1]; simp [demL]) (fun j x' v e1 e2 => ?_) (fun j x' e => ?_) ?_
    · obtain ⟨x0, h3, rfl⟩ := demL_get e1
      exact (h2 j x0 v h3 e2).dem
    · obtain ⟨x0, h3, rfl⟩ := demL_get e
      exact ⟨by rw [isCell_dem]; exact List.all_eq_true.1 hall _ (List.mem_of_getElem? h3), isOwn_dem _⟩
    · simp [execOp, ho, Instr.box, newVar, newRow]
  · cases hs
end Go.Proofs.YtggoaggneapneaaDoorM
