/-
  The mirror, part 18: regions: in their own order, and in any order that may be drawn.
-/
import Derived.Test.YtggoaggneapneaaDoorM17
set_option linter.unusedVariables false
set_option linter.unusedSimpArgs false
namespace Go.Proofs.YtggoaggneapneaaDoorM
open Go
variable {X : Nat → Prop} {g g' : G} {nt : Nat} {s : St} {a : Act} {w w' : World} {F : Facts} {P : Program} {o : Oper} {sg : Sig}

structure OpOK (P : Program) (nt : Nat) (ops : Array Oper) (m : MOp) (o : Oper) : Prop where
  dst : m.dst = o.dst
  lt : ∀ d, m.dst = some d → d < nt
  ok : IOK P m.i o.op
  g : match m.g, o.guard with
    | none, none => True
    | some (t, b), some (j, b') => (ops[j]?).bind (·.dst) = some t ∧ b = b'
    | _, _ => False

theorem wanted_ok (h : WRel X g nt s a w) {ops : Array Oper} {m : MOp} (hk : OpOK P nt ops m o) {b : Bool} (hb : wantedM s.env m.g = some b) : Region.wanted o (yielded ops a.tmps) = b := by
  have hg := hk.g
  unfold Region.wanted
  cases hm : m.g with
  | none =>
    rw [hm] at hg hb
    cases ho : o.guard with
    | none => simp [wantedM] at hb; simp [hb]
    | some x => rw [ho] at hg; exact hg.elim
  | some x =>
    obtain ⟨t, c⟩ := x
    rw [hm] at hg hb
    cases ho : o.guard with
    | none => rw [ho] at hg; exact hg.elim
    | some y =>
      obtain ⟨j, c'⟩ := y
      rw [ho] at hg
      obtain ⟨h1, rfl⟩ := hg
      simp only [wantedM] at hb
      split at hb
      · rename_i d hd
        cases hb
        have hl : ∃ cv, a.tmps[t]? = some cv ∧ ARep g (.pv (.bool d)) cv := by
          cases hlk : look s.env t with
          | none => simp [get, hlk] at hd
          | some v =>
            simp [get, hlk] at hd
            subst hd
            exact h.env t _ hlk
        obtain ⟨cv, h2, h3⟩ := hl
        have := rep_bool h3
        subst this
        simp only [yielded, h1, Option.bind_some, h2]
        cases c <;> cases d <;> rfl
      · rename_i hd
        cases hb
        have hl : ∃ cv, a.tmps[t]? = some cv ∧ ARep g (.tup []) cv := by
          cases hlk : look s.env t with
          | none => simp [get, hlk] at hd
          | some v =>
            simp [get, hlk] at hd
            subst hd
            exact h.env t _ hlk
        obtain ⟨cv, h2, h3⟩ := hl
        cases h3
        simp only [yielded, h1, Option.bind_some, h2]
        cases c <;> rfl
      · cases hb

theorem op_step (h : WRel X g nt s a w) {ops : Array Oper} {m : MOp} {i : Nat} {rest : List Nat} (hi : ops[i]? = some o) (hk : OpOK P nt ops m o) {call : Call} (hc : CallGood P call) {s' : St} (hs : stepO call s m = some s') {Q : Exit → Act → World → Prop}
    (hK : Next X g nt w s' (wpOpsIn Fence.wide 0 P ops Q rest)) : wpOpsIn Fence.wide 0 P ops Q (i :: rest) a w := by
  unfold stepO at hs
  obtain ⟨b, h1, h2⟩ := Option.bind_eq_some_iff.1 hs
  have hw := wanted_ok h hk h1
  simp only [wpOpsIn, hi, hw]
  have hd : ∀ d, o.dst = some d → d < nt := fun d e => hk.lt d (by rw [hk.dst]; exact e)
  cases b with
  | true =>
    simp only [if_true] at h2 ⊢
    obtain ⟨u, h3, rfl⟩ := Option.map_eq_some_iff.1 h2
    rw [hk.dst] at hK
    cases hn : isCallI m.i with
    | true => exact wp_call h hk.ok hn hc h3 hd hK
    | false => exact wp_i h hk.ok hn h3 hd hK
  | false =>
    simp only [Bool.false_eq_true, if_false] at h2 ⊢
    cases h2
    refine ⟨fun f _ => wide_about f, ?_⟩
    have hF : Fine X g nt s { v := .tup [], p := none, dm := [], sg := s.sg, cl := false } a w undef := Fine.plain h (.tup [] [] rfl (by simp)) rfl
    rw [hk.dst] at hK
    exact hK g _ w (hF.done hd) (.refl _ _) (.refl _ _ _)

theorem Next.trans {s1 : St} {K : Act → World → Prop} (hK : Next X g nt w s1 K) {g1 : G} {w1 : World} (hE : Ext X g g1) (hP : Pres X g.F w w1) : Next X g1 nt w1 s1 K :=
  fun g2 a2 w2 h1 h2 h3 => hK g2 a2 w2 h1 (hE.trans h2) (hP.trans (h3.conv fun k q hk => (hE.F k q hk).symm))

theorem ops_ordered {ops : Array Oper} {call : Call} (hc : CallGood P call) {Q : Exit → Act → World → Prop} : ∀ (ms : List MOp) (k : Nat) {s s' : St} {g : G} {a : Act} {w : World}, (∀ (j : Nat) m, ms[j]? = some m → ∃ o, ops[k + j]? = some o ∧ OpOK P nt ops m o) →
    opsW call ms s = some s' → WRel X g nt s a w → Next X g nt w s' (Q .normal) → wpOpsIn Fence.wide 0 P ops Q (List.range' k ms.length) a w
  | [], k, s, s', g, a, w, hm, hs, h, hK => by
    simp only [opsW] at hs
    cases hs
    exact hK g a w h (.refl _ _) (.refl _ _ _)
  | m :: ms, k, s, s', g, a, w, hm, hs, h, hK => by
    simp only [opsW] at hs
    obtain ⟨s1, h1, h2⟩ := Option.bind_eq_some_iff.1 hs
    obtain ⟨o, h3, h4⟩ := hm 0 m rfl
    rw [List.length_cons, List.range'_succ]
    refine op_step h h3 h4 hc h1 fun g1 a1 w1 hR hE hP => ?_
    refine ops_ordered hc ms (k + 1) (fun j m' hj => ?_) h2 hR (hK.trans hE hP)
    obtain ⟨o', h5, h6⟩ := hm (j + 1) m' (by simpa using hj)
    exact ⟨o', by rw [← h5]; congr 1; omega, h6⟩

/-! ### Any order -/
theorem get_put (e : Env) (d : Nat) (v : AV) (t : Nat) : get (put e d v) t = if d = t then v else get e t := by
  simp only [get, look_put]
  split <;> rfl
theorem eo_congr {e e' : Env} {x : Opd} (h : ∀ t ∈ useO x, get e t = get e' t) : eo e x = eo e' x := by
  cases x with
  | t n => exact h n (by simp [useO])
  | c v => rfl
theorem map_congr {e e' : Env} : ∀ {l : List Opd}, (∀ t ∈ useL l, get e t = get e' t) → l.map (eo e) = l.map (eo e')
  | [], _ => rfl
  | x :: l, h => by
    simp only [List.map_cons]
    rw [eo_congr (x := x) fun t ht => h t (by simp [useL, ht]), map_congr (l := l) fun t ht => h t (by simp [useL, ht])]
theorem args_congr {e e' : Env} {l : List Opd} (h : ∀ t ∈ useL l, get e t = get e' t) : argsOf e l = argsOf e' l := by
  have := map_congr h
  have e1 : ∀ e, argsOf e l = (l.map (eo e)).map dem := fun e => by simp [argsOf]
  rw [e1, e1, this]
theorem rows_congr {e e' : Env} {sz : Nat} : ∀ {l : List Opd}, (∀ t ∈ useL l, get e t = get e' t) → rowsA e sz l = rowsA e' sz l
  | [], _ => rfl
  | x :: l, h => by
    simp only [rowsA]
    rw [eo_congr (x := x) fun t ht => h t (by simp [useL, ht]), rows_congr (l := l) fun t ht => h t (by simp [useL, ht])]
theorem build_congr {e e' : Env} : ∀ {l : List (Nat × Nat × Opd)} {z : List AV}, (∀ t ∈ useL (l.map fun p => p.2.2), get e t = get e' t) → buildA e z l = buildA e' z l
  | [], z, _ => rfl
  | (o, sz, x) :: l, z, h => by
    simp only [buildA]
    rw [eo_congr (x := x) fun t ht => h t (by simp [useL, ht])]
    split
    · exact build_congr fun t ht => h t (by simp only [List.map_cons, useL, List.mem_append]; exact .inr ht)
    · rfl
theorem bnd_congr {e e' : Env} {d : Int} {x : Option Opd} (h : ∀ t ∈ useOo x, get e t = get e' t) : bnd e d x = bnd e' d x := by
  cases x with
  | none => rfl
  | some x => simp only [bnd]; rw [eo_congr (x := x) h]

theorem quiet_congr {M : Mach} {call : Call} {i : MI} (hq : quietI M i = true) {e e' : Env} (h : ∀ t ∈ usesI i, get e t = get e' t) : stepI call { env := e, sg, pr := [] } i = stepI call { env := e', sg, pr := [] } i := by
  cases i with
  | mov x =>
    cases x with
    | t n => simp only [stepI]; rw [h n (by simp [usesI, useO])]
    | c v => rfl
  | pick c a b =>
    simp only [usesI, List.mem_append] at h
    simp only [stepI]
    have ha := eo_congr (x := a) fun t ht => h t (.inl (.inr ht))
    have hb := eo_congr (x := b) fun t ht => h t (.inr ht)
    have hk : ∀ t : Bool, eo e (if t = true then a else b) = eo e' (if t = true then a else b) := by
      intro t
      cases t
      · exact hb
      · exact ha
    rw [eo_congr (x := c) fun t ht => h t (.inl (.inl ht))]
    simp only [hk]
  | build z parts => simp only [stepI]; rw [build_congr h]
  | bsl sz xs => simp only [stepI]; rw [rows_congr h]
  | load agg sz x => simp only [stepI]; rw [eo_congr (x := x) h]
  | nilck x => simp only [stepI]; rw [eo_congr (x := x) h]
  | bin op x y =>
    simp only [usesI, List.mem_append] at h
    simp only [stepI]
    rw [eo_congr (x := x) fun t ht => h t (.inl ht), eo_congr (x := y) fun t ht => h t (.inr ht)]
  | beq ne x y =>
    simp only [usesI, List.mem_append] at h
    simp only [stepI]
    rw [eo_congr (x := x) fun t ht => h t (.inl ht), eo_congr (x := y) fun t ht => h t (.inr ht)]
  | un op x => simp only [stepI]; rw [eo_congr (x := x) h]
  | eqA ne n x y =>
    simp only [usesI, List.mem_append] at h
    simp only [stepI]
    rw [eo_congr (x := x) fun t ht => h t (.inl ht), eo_congr (x := y) fun t ht => h t (.inr ht)]
  | conv k x => simp only [stepI]; rw [eo_congr (x := x) h]
  | slice st sz x lo hi mx =>
    simp only [usesI, List.mem_append] at h
    simp only [stepI, sliceV, sliceS, sliceL]
    rw [eo_congr (x := x) fun t ht => h t (.inl (.inl (.inl ht)))]
    simp only [bnd_congr (x := lo) fun t ht => h t (.inl (.inl (.inr ht))), bnd_congr (x := hi) fun t ht => h t (.inl (.inr ht)), bnd_congr (x := mx) fun t ht => h t (.inr ht)]
  | sliceA len sz x lo hi =>
    simp only [usesI, List.mem_append] at h
    simp only [stepI, sliceAV]
    rw [eo_congr (x := x) fun t ht => h t (.inl (.inl ht))]
    simp only [bnd_congr (x := lo) fun t ht => h t (.inl (.inr ht)), bnd_congr (x := hi) fun t ht => h t (.inr ht)]
  | fadr off x => simp only [stepI]; rw [eo_congr (x := x) h]
  | fld agg sz off x => simp only [stepI]; rw [eo_congr (x := x) h]
  | iadr sz x i =>
    simp only [usesI, List.mem_append] at h
    simp only [stepI]
    rw [eo_congr (x := x) fun t ht => h t (.inl ht), eo_congr (x := i) fun t ht => h t (.inr ht)]
  | iadrA len sz x i =>
    simp only [usesI, List.mem_append] at h
    simp only [stepI]
    rw [eo_congr (x := x) fun t ht => h t (.inl ht), eo_congr (x := i) fun t ht => h t (.inr ht)]
  | idxS x i =>
    simp only [usesI, List.mem_append] at h
    simp only [stepI]
    rw [eo_congr (x := x) fun t ht => h t (.inl ht), eo_congr (x := i) fun t ht => h t (.inr ht)]
  | idxA len agg sz x i =>
    simp only [usesI, List.mem_append] at h
    simp only [stepI]
    rw [eo_congr (x := x) fun t ht => h t (.inl ht), eo_congr (x := i) fun t ht => h t (.inr ht)]
  | mkfn f caps => simp only [stepI]; rw [args_congr h]
  | mkif t x => simp only [stepI]; rw [eo_congr (x := x) h]
  | tas t ok x => simp only [stepI]; rw [eo_congr (x := x) h]
  | ext i x => simp only [stepI]; rw [eo_congr (x := x) h]
  | call f args => simp only [stepI]; rw [args_congr h]
  | len st x => simp only [stepI]; rw [eo_congr (x := x) h]
  | lenA n => rfl
  | bad => rfl
  | isnil ne k x => simp only [stepI]; rw [eo_congr (x := x) h]
  | lkp x k => simp only [stepI]; rw [eo_congr (x := x) fun t ht => h t (List.mem_append_left _ ht), eo_congr (x := k) fun t ht => h t (List.mem_append_right _ ht)]
  | mn xs => simp only [stepI]; rw [map_congr h]
  | mx xs => simp only [stepI]; rw [map_congr h]
  | _ => cases hq

theorem plainO_quiet {v : Option AV} {u : Upd} (h : plainO sg v = some u) : u.sg = sg ∧ u.dm = [] := by
  obtain ⟨x, _, rfl⟩ := plainO_some h
  exact ⟨rfl, rfl⟩
theorem plain_quiet {v : AV} {u : Upd} (h : plain sg v = some u) : u.sg = sg ∧ u.dm = [] := by
  rw [plain_some h]; exact ⟨rfl, rfl⟩
theorem quiet_call {M : Mach} {rec : Rec} {f : Nat} {args args' : List AV} (hq : quietI M (.call f []) = true) {r : AV} {sg' : Sig} (h : callW M rec f args' sg = some (r, sg')) : sg' = sg := by
  simp only [quietI] at hq
  unfold callW at h
  cases hl : M.lib f with
  | some g =>
    simp only [hl] at h
    obtain ⟨x, _, h⟩ := Option.map_eq_some_iff.1 h
    cases h; rfl
  | none =>
    simp only [hl] at h hq
    cases hli : M.libI f with
    | some g => simp [hli] at hq
    | none =>
      simp only [hli] at h hq
      cases hm : M.fn f with
      | none => simp only [hm] at h; cases h
      | some mf =>
        simp only [hm] at h hq
        split at h
        · obtain ⟨⟨x, e1, sg1⟩, h1, h2⟩ := Option.bind_eq_some_iff.1 h
          simp only [hq, if_true] at h2
          split at h2
          · cases h2
          · obtain ⟨v, h3, h4⟩ := Option.bind_eq_some_iff.1 h2
            obtain ⟨x, _, h5⟩ := Option.map_eq_some_iff.1 h4
            cases h5; rfl
        · cases h
theorem quiet_sg {M : Mach} {rec : Rec} {i : MI} (hq : quietI M i = true) {e : Env} {u : Upd} (h : stepI (callW M rec) { env := e, sg, pr := [] } i = some u) : u.sg = sg ∧ u.dm = [] := by
  cases i with
  | mov x =>
    cases x with
    | t n => simp only [stepI] at h; cases h; exact ⟨rfl, rfl⟩
    | c v => exact plain_quiet h
  | pick c a b =>
    simp only [stepI] at h
    split at h
    · exact plain_quiet h
    · cases h
  | build z parts => exact plainO_quiet h
  | bsl sz xs => exact plainO_quiet h
  | load agg sz x =>
    simp only [stepI] at h
    obtain ⟨cs, _, h⟩ := Option.bind_eq_some_iff.1 h
    obtain ⟨v, _, h⟩ := Option.bind_eq_some_iff.1 h
    cases h; exact ⟨rfl, rfl⟩
  | nilck x => simp only [stepI] at h; split at h <;> first | exact plain_quiet h | cases h
  | bin op x y => exact plainO_quiet h
  | beq ne x y => simp only [stepI] at h; split at h <;> first | exact plain_quiet h | cases h
  | un op x => exact plainO_quiet h
  | eqA ne n x y => exact plainO_quiet h
  | conv k x =>
    simp only [stepI] at h
    split at h
    · exact plain_quiet h
    · exact plain_quiet h
    · split at h
      · exact plain_quiet h
      · cases h
    · cases hq
    · split at h
      · split at h
        · exact plainO_quiet h
        · cases h
      · cases h
    · exact plainO_quiet h
    · cases h
  | slice st sz x lo hi mx => exact plainO_quiet h
  | sliceA len sz x lo hi => exact plainO_quiet h
  | fadr off x => exact plainO_quiet h
  | fld agg sz off x =>
    simp only [stepI] at h
    split at h
    · split at h
      · exact plainO_quiet h
      · cases h
    · cases h
  | iadr sz x i => exact plainO_quiet h
  | iadrA len sz x i => exact plainO_quiet h
  | idxS x i => simp only [stepI] at h; split at h <;> first | exact plainO_quiet h | cases h
  | idxA len agg sz x i => simp only [stepI] at h; split at h <;> first | exact plainO_quiet h | cases h
  | mkfn f caps => exact plain_quiet h
  | mkif t x => exact plain_quiet h
  | tas t ok x =>
    simp only [stepI] at h
    split at h
    · split at h
      · exact plain_quiet h
      · cases h
    · cases h
  | ext i x => simp only [stepI] at h; split at h <;> first | exact plainO_quiet h | cases h
  | call f args =>
    simp only [stepI] at h
    obtain ⟨⟨r, sg'⟩, h1, h2⟩ := Option.bind_eq_some_iff.1 h
    cases h2
    exact ⟨quiet_call (args := []) hq h1, rfl⟩
  | len st x => exact plainO_quiet h
  | lenA n => exact plain_quiet h
  | bad => cases h
  | isnil ne k x => exact plainO_quiet h
  | lkp x k =>
    simp only [stepI] at h
    split at h
    · exact plain_quiet h
    · cases h
  | mn xs => exact plainO_quiet h
  | mx xs => exact plainO_quiet h
  | _ => cases hq

def usesO (m : MOp) : List Nat := usesI m.i ++ (match m.g with
  | none => []
  | some (t, _) => [t])
def valO (call : Call) (sg : Sig) (e : Env) (m : MOp) : Option AV :=
  (wantedM e m.g).bind fun b => if b then (stepI call { env := e, sg, pr := [] } m.i).map (·.v) else some (.tup [])
def putO (e : Env) (d : Option Nat) (v : AV) : Env := match d with
  | some d => put e d v
  | none => e
theorem valO_congr {M : Mach} {call : Call} {m : MOp} (hq : quietI M m.i = true) {e e' : Env} (h : ∀ t ∈ usesO m, get e t = get e' t) : valO call sg e m = valO call sg e' m := by
  have h1 := quiet_congr (sg := sg) (call := call) hq (e := e) (e' := e') fun t ht => h t (by simp [usesO, ht])
  have h2 : wantedM e m.g = wantedM e' m.g := by
    cases hg : m.g with
    | none => rfl
    | some x =>
      obtain ⟨t, b⟩ := x
      simp only [wantedM]
      rw [h t (by simp [usesO, hg])]
  unfold valO
  rw [h1, h2]
theorem valO_step {M : Mach} {rec : Rec} {m : MOp} (hq : quietI M m.i = true) {e : Env} {v : AV} (h : valO (callW M rec) sg e m = some v) :
    ∃ s', stepO (callW M rec) { env := e, sg, pr := [] } m = some s' ∧ s'.env = putO e m.dst v ∧ s'.sg = sg := by
  unfold valO at h
  obtain ⟨b, h1, h2⟩ := Option.bind_eq_some_iff.1 h
  unfold stepO
  simp only [h1, Option.bind_some]
  cases b with
  | true =>
    simp only [if_true] at h2 ⊢
    obtain ⟨u, h3, rfl⟩ := Option.map_eq_some_iff.1 h2
    obtain ⟨h4, h5⟩ := quiet_sg hq h3
    refine ⟨_, by rw [h3]; rfl, ?_⟩
    unfold applyU
    rw [h4, h5]
    cases m.dst <;> exact ⟨rfl, rfl⟩
  | false =>
    simp only [Bool.false_eq_true, if_false] at h2 ⊢
    cases h2
    refine ⟨_, rfl, ?_⟩
    unfold applyU
    cases m.dst <;> exact ⟨rfl, rfl⟩
theorem step_valO {M : Mach} {rec : Rec} {m : MOp} (hq : quietI M m.i = true) {e : Env} {s' : St} (h : stepO (callW M rec) { env := e, sg, pr := [] } m = some s') :
    ∃ v, valO (callW M rec) sg e m = some v ∧ s'.env = putO e m.dst v := by
  have h0 := h
  unfold stepO at h
  obtain ⟨b, h1, h2⟩ := Option.bind_eq_some_iff.1 h
  have hv : ∃ v, valO (callW M rec) sg e m = some v := by
    unfold valO
    simp only at h1
    rw [h1]
    cases b with
    | true =>
      simp only [if_true] at h2
      obtain ⟨u, h3, _⟩ := Option.map_eq_some_iff.1 h2
      exact ⟨u.v, by simp [h3]⟩
    | false => exact ⟨.tup [], rfl⟩
  obtain ⟨v, hv⟩ := hv
  obtain ⟨s1, h3, h4, _⟩ := valO_step hq hv
  rw [h0] at h3
  cases h3
  exact ⟨v, hv, h4⟩

/-- The states along the text's own order. -/
theorem opsD_path {M : Mach} {rec : Rec} : ∀ {ms : List MOp} {e e' : Env}, (∀ m ∈ ms, quietI M m.i = true) → opsD (callW M rec) sg ms e = some e' →
    ∃ (E : Nat → Env) (V : Nat → AV), E 0 = e ∧ E ms.length = e' ∧ ∀ (i : Nat) m, ms[i]? = some m → valO (callW M rec) sg (E i) m = some (V i) ∧ E (i + 1) = putO (E i) m.dst (V i)
  | [], e, e', hq, h => by
    simp only [opsD] at h
    cases h
    exact ⟨fun _ => e, fun _ => .bot, rfl, rfl, by simp⟩
  | m :: ms, e, e', hq, h => by
    simp only [opsD] at h
    obtain ⟨s1, h1, h2⟩ := Option.bind_eq_some_iff.1 h
    obtain ⟨v, h3, h4⟩ := step_valO (hq m List.mem_cons_self) h1
    obtain ⟨E, V, h5, h6, h7⟩ := opsD_path (fun m hm => hq m (List.mem_cons_of_mem _ hm)) h2
    refine ⟨fun i => match i with
      | 0 => e
      | i + 1 => E i, fun i => match i with
      | 0 => v
      | i + 1 => V i, rfl, h6, ?_⟩
    intro i m' hi
    cases i with
    | zero =>
      simp at hi
      subst hi
      exact ⟨h3, by show E 0 = _; rw [h5, h4]⟩
    | succ i => exact h7 i m' (by simpa using hi)
end Go.Proofs.YtggoaggneapneaaDoorM
