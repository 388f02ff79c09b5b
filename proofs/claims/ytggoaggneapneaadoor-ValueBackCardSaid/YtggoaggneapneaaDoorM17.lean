/-
  The mirror, part 17: an operation in a region: every instruction does what the machine does.
-/
import Derived.Test.YtggoaggneapneaaDoorM16
import Derived.Test.YtggoaggneapneaaDoorM28
set_option linter.unusedVariables false
set_option linter.unusedSimpArgs false
namespace Go.Proofs.YtggoaggneapneaaDoorM
open Go
variable {X : Nat → Prop} {g g' : G} {nt : Nat} {s : St} {a : Act} {w w' : World} {F : Facts} {P : Program} {o : Oper} {sg : Sig}

theorem Sound.noP {v : AV} {p : Option Home} {sg : Sig} (h : Sound P X g nt s { v, p, dm := [], sg, cl := false } a w o) : Sound P X g nt s { v, p := none, dm := [], sg, cl := false } a w o := by
  obtain ⟨nx, w', cv, g', h1, h2, h3, h4, h5⟩ := h
  exact ⟨nx, w', cv, g', h1, h2, h3, h4, h5.rel, h5.rep, h5.own, fun hm e => by cases e⟩
theorem sound_i (h : WRel X g nt s a w) {i : MI} (hI : IOK P i o.op) (hn : isCallI i = false) {call : Call} {u : Upd} (hs : stepI call s i = some u) : Sound P X g nt s u a w o := by
  cases i with
  | mov x => revert hI; cases ho : o.op <;> intro hI <;> first | exact hI.elim | exact sound_mov h (.inl ho) hI hs | exact sound_mov h (.inr ho) hI hs
  | movd x =>
    have key : (∃ y, (o.op = .move y ∨ o.op = .assign y) ∧ OOK x y) → Sound P X g nt s u a w o := by
      rintro ⟨y, ho, hx⟩
      cases x with
      | c v => exact sound_mov (x := .c v) h ho hx (call := call) hs
      | t n =>
        simp only [stepI] at hs
        injection hs with hs
        have h0 := sound_mov (P := P) (call := call) h ho hx (u := { v := dem (get s.env n), p := if isOwn (get s.env n) then some (.slot n) else lookP s.pr n, dm := [], sg := s.sg, cl := false }) rfl
        subst hs
        by_cases hown : isOwn (get s.env n) = true
        · simp only [hown, if_true] at h0 ⊢
          exact h0
        · simp only [hown, if_false, Bool.false_eq_true] at h0 ⊢
          exact h0.noP
    revert hI; cases ho : o.op <;> intro hI <;> first | exact hI.elim | exact key ⟨_, .inl ho, hI⟩ | exact key ⟨_, .inr ho, hI⟩
  | loadd agg sz x =>
    revert hI; cases ho : o.op <;> intro hI <;> first | exact hI.elim | skip
    simp only [stepI] at hs
    obtain ⟨cs, h1, hs⟩ := Option.bind_eq_some_iff.1 hs
    obtain ⟨v, h2, hs⟩ := Option.bind_eq_some_iff.1 hs
    have hl : ∃ p, stepI call s (.load agg sz x) = some { v, p, dm := [], sg := s.sg, cl := false } := by
      simp only [stepI, h1, Option.bind_some, h2]
      exact ⟨_, rfl⟩
    obtain ⟨p, hl⟩ := hl
    rw [plain_some hs]
    exact (sound_load (call := call) h ho hI hl).noP
  | appS sz bytes x y hm =>
    revert hI; cases ho : o.op <;> intro hI <;> first | exact hI.elim | skip
    simp only [stepI] at hs
    split at hs
    · exact sound_app (call := call) h ho hI hs
    · cases hs
  | appC sz bytes x y =>
    revert hI; cases ho : o.op <;> intro hI <;> first | exact hI.elim | skip
    simp only [stepI] at hs
    split at hs
    · exact sound_app (call := call) h ho hI hs
    · cases hs
  | asg x => revert hI; cases ho : o.op <;> intro hI <;> first | exact hI.elim | exact sound_asg h ho hI hs
  | pick c x y => revert hI; cases ho : o.op <;> intro hI <;> first | exact hI.elim | exact sound_pick h ho hI.1 hI.2.1 hI.2.2 hs
  | alloc z => revert hI; cases ho : o.op <;> intro hI <;> first | exact hI.elim | exact sound_alloc h ho hI hs
  | box sz x => revert hI; cases ho : o.op <;> intro hI <;> first | exact hI.elim | exact sound_box h ho hI hs
  | build z parts => revert hI; cases ho : o.op <;> intro hI <;> first | exact hI.elim | exact sound_build h ho hI hs
  | bsl sz xs => revert hI; cases ho : o.op <;> intro hI <;> first | exact hI.elim | exact sound_bsl h ho hI hs
  | load agg sz x => revert hI; cases ho : o.op <;> intro hI <;> first | exact hI.elim | exact sound_load h ho hI hs
  | store sz x y => revert hI; cases ho : o.op <;> intro hI <;> first | exact hI.elim | exact sound_store h ho hI hs
  | nilck x => revert hI; cases ho : o.op <;> intro hI <;> first | exact hI.elim | exact sound_nilck h ho hI hs
  | bin op x y =>
    revert hI; cases ho : o.op <;> intro hI <;> first
      | exact hI.elim
      | (obtain ⟨rfl, h1, h2⟩ := hI; exact sound_bin h ho h1 h2 hs)
  | beq ne x y =>
    revert hI; cases ho : o.op <;> intro hI <;> first
      | exact hI.elim
      | (obtain ⟨rfl, h1, h2, h3⟩ := hI; exact sound_beq h ho h1 h2 h3 hs)
  | un op x =>
    revert hI; cases ho : o.op <;> intro hI <;> first
      | exact hI.elim
      | (obtain ⟨rfl, h1⟩ := hI; exact sound_un h ho h1 hs)
  | eqA ne n x y => revert hI; cases ho : o.op <;> intro hI <;> first | exact hI.elim | exact sound_eqA h ho hI hs
  | conv k x => revert hI; cases ho : o.op <;> intro hI <;> first | exact hI.elim | exact sound_conv h ho hI hs
  | slice st sz x lo hi mx => revert hI; cases ho : o.op <;> intro hI <;> first | exact hI.elim | exact sound_slice h ho hI hs
  | sliceA len sz x lo hi => revert hI; cases ho : o.op <;> intro hI <;> first | exact hI.elim | exact sound_sliceA h ho hI hs
  | fadr off x => revert hI; cases ho : o.op <;> intro hI <;> first | exact hI.elim | exact sound_fadr h ho hI hs
  | fld agg sz off x => revert hI; cases ho : o.op <;> intro hI <;> first | exact hI.elim | exact sound_fld h ho hI hs
  | iadr sz x i => revert hI; cases ho : o.op <;> intro hI <;> first | exact hI.elim | exact sound_iadr h ho hI hs
  | iadrA len sz x i => revert hI; cases ho : o.op <;> intro hI <;> first | exact hI.elim | exact sound_iadrA h ho hI hs
  | idxS x i => revert hI; cases ho : o.op <;> intro hI <;> first | exact hI.elim | exact sound_idxS h ho hI hs
  | idxA len agg sz x i => revert hI; cases ho : o.op <;> intro hI <;> first | exact hI.elim | exact sound_idxA h ho hI hs
  | mkfn f caps => revert hI; cases ho : o.op <;> intro hI <;> first | exact hI.elim | exact sound_mkfn h ho hI hs
  | mkif t x => revert hI; cases ho : o.op <;> intro hI <;> first | exact hI.elim | exact sound_mkif h ho hI hs
  | tas t ok x => revert hI; cases ho : o.op <;> intro hI <;> first | exact hI.elim | exact sound_tas h ho hI hs
  | ext i x => revert hI; cases ho : o.op <;> intro hI <;> first | exact hI.elim | exact sound_ext h ho hI hs
  | call f args => cases hn
  | callc f args => cases hn
  | callv f args => cases hn
  | len st x => revert hI; cases ho : o.op <;> intro hI <;> first | exact hI.elim | exact sound_len h ho hI hs
  | lenA n => revert hI; cases ho : o.op <;> intro hI <;> first | exact hI.elim | exact sound_lenA h ho hI hs
  | isnil ne k x => revert hI; cases ho : o.op <;> intro hI <;> first | exact hI.elim | exact sound_isnil h ho hI hs
  | bad => cases hs
  | lkp x k => revert hI; cases ho : o.op <;> intro hI <;> first | exact hI.elim | exact sound_lkp h ho hI hs
  | mn xs => revert hI; cases ho : o.op <;> intro hI <;> first | exact hI.elim | exact sound_mn h ho hI hs
  | mx xs => revert hI; cases ho : o.op <;> intro hI <;> first | exact hI.elim | exact sound_mx h ho hI hs
  | app sz bytes x y => revert hI; cases ho : o.op <;> intro hI <;> first | exact hI.elim | exact sound_app h ho hI hs
  | mks sz bytes z n => revert hI; cases ho : o.op <;> intro hI <;> first | exact hI.elim | exact sound_mks h ho hI hs

/-! ### Operations as steps of a walk -/
def Next (X : Nat → Prop) (g : G) (nt : Nat) (w : World) (s : St) (K : Act → World → Prop) : Prop :=
  ∀ g' a' w', WRel X g' nt s a' w' → Ext X g g' → Pres X g.F w w' → K a' w'

theorem wide_about (f : FuncId) : Fence.wide.fn f := trivial
theorem wp_value {nx : Go.Next} {cv : Value} (hr : (execOp a.eval o).run P w = .ok nx w') (hnx : nx = .value cv ∨ nx = .skip ∧ cv = undef) {K : Act → World → Prop} {Q : Exit → Act → World → Prop} (hK : K (a.put o.dst cv) w') : o.wpIn Fence.wide 0 P a w K Q := by
  refine ⟨fun f _ => wide_about f, ?_⟩
  have e : Oper.semAt Fence.wide.round a.eval o = execOp a.eval o := rfl
  rw [e, hr]
  rcases hnx with rfl | ⟨rfl, rfl⟩
  · exact hK
  · exact hK

theorem wp_i (h : WRel X g nt s a w) {i : MI} (hI : IOK P i o.op) (hn : isCallI i = false) {call : Call} {u : Upd} (hs : stepI call s i = some u) (hd : ∀ d, o.dst = some d → d < nt) {K : Act → World → Prop} {Q : Exit → Act → World → Prop}
    (hK : Next X g nt w (applyU s o.dst u) K) : o.wpIn Fence.wide 0 P a w K Q := by
  obtain ⟨nx, w', cv, g', h1, h2, h3, h4, h5⟩ := sound_i h hI hn hs
  exact wp_value h1 h2 (hK g' _ w' (h5.done hd) h3 h4)

/-- A call. -/
theorem wp_does (h : WRel X g nt s a w) {f : Nat} {vs : List Value} {r : AV} {sg' : Sig} (hop : (execOp a.eval o).run P w = (callFunc f vs.toArray).run P w)
    (hd : Does P f vs.toArray w (PostS (Kept X s a) g w sg' r)) (hdst : ∀ d, o.dst = some d → d < nt) {K : Act → World → Prop} {Q : Exit → Act → World → Prop}
    (hK : Next X g nt w (applyU s o.dst { v := r, p := none, dm := [], sg := sg', cl := true }) K) : o.wpIn Fence.wide 0 P a w K Q := by
  have fin : ∀ v w', PostS (Kept X s a) g w sg' r v w' → K (a.put o.dst v) w' := by
    rintro v w' ⟨g', h1, h2, h3, h4, h5⟩
    have hR := h.back h1 h4 h5
    have hF : Fine X g' nt s { v := r, p := none, dm := [], sg := sg', cl := true } a w' v :=
      ⟨hR, h2, fun sz xs e => by
        have e : r = .own sz xs := e
        rw [e] at h3; simp [isOwn] at h3, fun hm e => by cases e⟩
    exact hK g' _ w' (hF.done hdst) (h4.less fun k hk => .inl hk) (h5.less fun k hk => .inl hk)
  refine ⟨fun f _ => wide_about f, ?_⟩
  have e : Oper.semAt Fence.wide.round a.eval o = execOp a.eval o := rfl
  rw [e, hop]
  rcases hd with ⟨v, w', h1, h2⟩ | ⟨h1, h2⟩
  · rw [h1]; exact fin v w' h2
  · rw [h1]
    refine ⟨fun e => (by cases e), h2.mono fun e w' h3 => ?_⟩
    obtain ⟨v, rfl, h4⟩ := h3
    exact fin v w' h4

def CallGood (P : Program) (call : Call) : Prop := ∀ f args sg r sg', call f args sg = some (r, sg') → Sat P f args sg sg' r

theorem wp_call_plain (h : WRel X g nt s a w) {f : Nat} {args : List Opd} (hI : IOK P (.call f args) o.op) {call : Call} (hc : CallGood P call) {u : Upd} (hs : (call f (argsOf s.env args) s.sg).bind (fun (v, sg) => some { v, p := none, dm := [], sg, cl := true : Upd }) = some u)
    (hd : ∀ d, o.dst = some d → d < nt) {K : Act → World → Prop} {Q : Exit → Act → World → Prop} (hK : Next X g nt w (applyU s o.dst u) K) : o.wpIn Fence.wide 0 P a w K Q := by
  revert hI; cases ho : o.op <;> intro hI <;> first | exact hI.elim | skip
  rename_i c
  obtain ⟨ys, h1, h2, h3⟩ := hI
  obtain ⟨⟨r, sg'⟩, h4, h5⟩ := Option.bind_eq_some_iff.1 hs
  cases h5
  obtain ⟨hl, hr⟩ := argsOf_rep h h3
  refine wp_does h (f := f) (vs := ys.toList.map a.eval) ?_ (hc f _ _ r sg' h4 _ g w _ h.keeps ⟨hl, hr⟩) hd hK
  have e : c.args.map a.eval = (ys.toList.map a.eval).toArray := by rw [h2]; apply Array.ext'; simp
  simp [execOp, ho, resolve, h1, e, Deferred.ofValue, Act.eval, invoke]
theorem wp_call (h : WRel X g nt s a w) {i : MI} (hI : IOK P i o.op) (hn : isCallI i = true) {call : Call} (hc : CallGood P call) {u : Upd} (hs : stepI call s i = some u) (hd : ∀ d, o.dst = some d → d < nt) {K : Act → World → Prop} {Q : Exit → Act → World → Prop}
    (hK : Next X g nt w (applyU s o.dst u) K) : o.wpIn Fence.wide 0 P a w K Q := by
  cases i with
  | call f args =>
    revert hI; cases ho : o.op <;> intro hI <;> first | exact hI.elim | skip
    rename_i c
    obtain ⟨ys, h1, h2, h3⟩ := hI
    simp only [stepI] at hs
    obtain ⟨⟨r, sg'⟩, h4, h5⟩ := Option.bind_eq_some_iff.1 hs
    cases h5
    obtain ⟨hl, hr⟩ := argsOf_rep h h3
    refine wp_does h (f := f) (vs := ys.toList.map a.eval) ?_ (hc f _ _ r sg' h4 _ g w _ h.keeps ⟨hl, hr⟩) hd hK
    have e : c.args.map a.eval = (ys.toList.map a.eval).toArray := by rw [h2]; apply Array.ext'; simp
    simp [execOp, ho, resolve, h1, e, Deferred.ofValue, Act.eval, invoke]
  | callc f args =>
    simp only [stepI] at hs
    split at hs
    · have hI' : IOK P (.call f args) o.op := by
        revert hI
        cases o.op <;> exact fun h => h
      exact wp_call_plain h hI' hc hs hd hK
    · cases hs
  | callv f args =>
    revert hI; cases ho : o.op <;> intro hI <;> first | exact hI.elim | skip
    rename_i c
    obtain ⟨y, ys, h1, h0, h2, h3⟩ := hI
    simp only [stepI] at hs
    split at hs
    · rename_i ff caps ev
      obtain ⟨⟨r, sg'⟩, h4, h5⟩ := Option.bind_eq_some_iff.1 hs
      cases h5
      obtain ⟨hl, hr⟩ := argsOf_rep h h3
      have hfr := h.opd h0
      rw [ev] at hfr
      generalize hcv : a.eval y = cv at hfr
      cases hfr with
      | fn ff caps cs hcl hcr =>
        have hargs : Args g (argsOf s.env args ++ caps.map dem) (ys.toList.map a.eval ++ cs) := by
          refine ⟨by simp only [List.length_append, List.length_map] at hl ⊢; omega, fun j x v e1 e2 => ?_⟩
          rcases Nat.lt_or_ge j (argsOf s.env args).length with hj | hj
          · rw [List.getElem?_append_left hj] at e1
            rw [List.getElem?_append_left (by omega)] at e2
            exact hr j x v e1 e2
          · rw [List.getElem?_append_right hj] at e1
            rw [List.getElem?_append_right (by omega), ← hl] at e2
            rw [List.getElem?_map] at e1
            obtain ⟨x0, e3, rfl⟩ := Option.map_eq_some_iff.1 e1
            exact ⟨(hcr _ x0 v e3 e2).dem, isOwn_dem _⟩
        refine wp_does h (f := ff) (vs := ys.toList.map a.eval ++ cs) ?_ (hc ff _ _ r sg' h4 _ g w _ h.keeps hargs) hd hK
        have e : c.args.map a.eval ++ cs.toArray = (ys.toList.map a.eval ++ cs).toArray := by rw [h2]; apply Array.ext'; simp
        simp [execOp, ho, resolve, h1, e, Deferred.ofValue, hcv, invoke]
    · cases hs
  | _ => cases hn
end Go.Proofs.YtggoaggneapneaaDoorM
