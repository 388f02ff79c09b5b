/-
  The mirror, part 20: code and functions: what the evaluator answers is what the machine's call comes to.
-/
import Derived.Test.YtggoaggneapneaaDoorM26
import Derived.Test.YtggoaggneapneaaDoorM29
set_option linter.unusedVariables false
set_option linter.unusedSimpArgs false
namespace Go.Proofs.YtggoaggneapneaaDoorM
open Go
variable {X : Nat → Prop} {g g' : G} {nt : Nat} {s : St} {a : Act} {w w' : World} {F : Facts} {P : Program} {o : Oper} {sg : Sig} {M : Mach}

def KeepOK (nt : Nat) (keep : List Nat) : Prop := ∀ t ∈ keep, t < nt
inductive COK (P : Program) (M : Mach) (nt : Nat) : MC → Code → Prop where
  | skip : COK P M nt .skip .skip
  | no (c : Code) : COK P M nt .no c
  | label (l : Nat) : COK P M nt .skip (.label l)
  | reg (ms : List MOp) (keep : List Nat) (id : Nat) (ops : Array Oper) (hk : KeepOK nt keep) (hl : ms.length = ops.size) (h : ∀ (j : Nat) m, ms[j]? = some m → ∃ o, ops[j]? = some o ∧ OpOK P nt ops m o) : COK P M nt (.reg ms keep) (.region id ops false)
  | draw (ms : List MOp) (rk keep : List Nat) (id : Nat) (ops : Array Oper) (hk : KeepOK nt keep) (hd : DrawOK M ms ops) (h : ∀ (j : Nat) m, ms[j]? = some m → ∃ o, ops[j]? = some o ∧ OpOK P nt ops m o) : COK P M nt (.draw ms rk keep) (.region id ops true)
  | loud (ms : List MOp) (ord rk keep : List Nat) (id : Nat) (ops : Array Oper) (hk : KeepOK nt keep) (hL : LoudOK M (inOrd ms ord) ord ops (fun i => ms.getD i nop)) (h : ∀ i, i < ops.size → ∃ o, ops[i]? = some o ∧ OpOK P nt ops (ms.getD i nop) o) : COK P M nt (.loud ms ord rk keep) (.region id ops true)
  | mlit (m m2 m3 : Nat) (kvs : List (List UInt8 × Int)) (keep : List Nat) (id : Nat) (ops : Array Oper) (hk : KeepOK nt keep) (h : MlitOK P nt m m2 m3 kvs ops.toList) : COK P M nt (.mlit m m2 m3 kvs keep) (.region id ops false)
  | seq (x y : MC) (x' y' : Code) (h1 : COK P M nt x x') (h2 : COK P M nt y y') : COK P M nt (.seq x y) (.seq x' y')
  | cond (c : Opd) (c' : Operand) (x y : MC) (x' y' : Code) (hc : OOK c c') (h1 : COK P M nt x x') (h2 : COK P M nt y y') : COK P M nt (.cond c x y) (.cond c' x' y')
  | block (id : Nat) (x : MC) (x' : Code) (h : COK P M nt x x') : COK P M nt (.block id x) (.block id x')
  | loop (x : MC) (x' : Code) (h : COK P M nt x x') : COK P M nt (.loop x) (.loop x')
  | exit (id : Nat) : COK P M nt (.exit id) (.exit id)
  | ret : COK P M nt .ret .ret
  | kp (x : MC) (keep : List Nat) (x' : Code) (hk : KeepOK nt keep) (h : COK P M nt x x') : COK P M nt (.kp x keep) x'

def ResOK (P : Program) : List MRes → List ResultVar → Prop
  | [], [] => True
  | .t n :: l, .tmp m :: r => n = m ∧ ResOK P l r
  | .c n agg sz :: l, .cell m t :: r => n = m ∧ AggIs P t agg ∧ SizeIs P t sz ∧ ResOK P l r
  | _, _ => False

structure FunOK (P : Program) (M : Mach) (f : Nat) (mf : MFun) : Prop where
  mk ::
  ex : ∃ fn code, P.funcs[f]? = some fn ∧ fn.body = some code ∧ (fn.name == "runtime.NumGoroutine") = false ∧ mf.np ≤ fn.ntmps ∧ COK P M fn.ntmps mf.body code ∧ ResOK P mf.res fn.results.toList
structure MachOK (P : Program) (M : Mach) : Prop where
  lib : ∀ f g, M.lib f = some g → ∀ args sg r, g args = some r → Sat P f args sg sg r
  libI : ∀ f g, M.lib f = none → M.libI f = some g → ∀ args sg r sg', g args sg = some (r, sg') → Sat P f args sg sg' r
  fn : ∀ f mf, M.lib f = none → M.libI f = none → M.fn f = some mf → FunOK P M f mf

def Match : MX → Exit → Prop
  | .nrm, .normal => True
  | .ext i, .exit j => i = j
  | .ret, .ret => True
  | _, _ => False
def Post (X : Nat → Prop) (g : G) (nt : Nat) (w : World) (o : Out) : Exit → Act → World → Prop := fun ex a' w' =>
  Match o.1 ex ∧ ∃ g', WRel X g' nt { env := o.2.1, sg := o.2.2, pr := [] } a' w' ∧ Ext X g g' ∧ Pres X g.F w w'
theorem Post.less {o : Out} {g1 : G} {w1 : World} (hE : Ext X g g1) (hP : Pres X g.F w w1) {ex : Exit} {a' : Act} {w' : World} (h : Post X g1 nt w1 o ex a' w') : Post X g nt w o ex a' w' := by
  obtain ⟨h1, g', h2, h3, h4⟩ := h
  exact ⟨h1, g', h2, hE.trans h3, hP.trans (h4.conv fun k q hk => (hE.F k q hk).symm)⟩

def LoopIn (P : Program) (c : Code) (Q : Exit → Act → World → Prop) (a : Act) (w : World) : Prop :=
  ∀ (b : Frame) (k : List Item) (cs : List Frame), b.roundOf = Fence.wide.round → Fence.wide.fn b.fn → Fence.wide.room (cs.length + 1 + 0) →
    ∃ e a' w', Q e a' w' ∧ ArrivesIn (Machine.fenced P Fence.wide) P (lone (b.atR a (.code c :: .inLoop c :: k)) cs w) b k cs e a' w'
theorem LoopIn.mono {c : Code} {Q Q' : Exit → Act → World → Prop} (h : LoopIn P c Q a w) (hq : ∀ e a w, Q e a w → Q' e a w) : LoopIn P c Q' a w :=
  fun b k cs h1 h2 h3 => let ⟨e, a', w', q, r⟩ := h b k cs h1 h2 h3; ⟨e, a', w', hq _ _ _ q, r⟩
theorem LoopIn.wp {c : Code} {Q : Exit → Act → World → Prop} (h : LoopIn P c Q a w) : (Code.loop c).wpIn Fence.wide 0 P Q a w := by
  intro b k cs hro hb hr
  obtain ⟨e, a', w', hq, harr⟩ := h b k cs hro hb hr
  exact ⟨e, a', w', hq, .of_steps (.one (fenced_calm hb hr rfl) stepR_loop) harr⟩
theorem LoopIn.step {c : Code} {Q : Exit → Act → World → Prop} (h : c.wpIn Fence.wide 0 P (Exit.then (LoopIn P c Q) Q) a w) : LoopIn P c Q a w := by
  intro b k cs hro hb hr
  obtain ⟨e, a₁, w₁, hq, harr⟩ := h b (.inLoop c :: k) cs hro hb hr
  cases e with
  | normal =>
    obtain ⟨e₂, a₂, w₂, hq₂, harr₂⟩ := hq b k cs hro hb hr
    exact ⟨e₂, a₂, w₂, hq₂, .of_steps (StepsIn.trans harr (.one (fenced_calm hb hr rfl) stepR_inLoop)) harr₂⟩
  | exit id => exact ⟨_, a₁, w₁, hq, .pass (x := .inLoop c) rfl (fun _ _ => .inl (by simp)) harr⟩
  | goto l => exact ⟨_, a₁, w₁, hq, .pass (x := .inLoop c) rfl (fun _ _ => .inl (by simp)) harr⟩
  | ret => exact ⟨_, a₁, w₁, hq, .pass (x := .inLoop c) rfl (fun _ _ => .inl (by simp)) harr⟩
  | panic ch => exact ⟨_, a₁, w₁, hq, .pass (x := .inLoop c) rfl (fun _ _ => .inl (by simp)) harr⟩
  | outgrown => exact ⟨_, a₁, w₁, hq, .pass (x := .inLoop c) rfl (fun _ _ => .inl (by simp)) harr⟩

def Good (P : Program) (M : Mach) (c : MC) (e : Env) (sg : Sig) (o : Out) : Prop :=
  ∀ code nt, COK P M nt c code → ∀ X g a w, WRel X g nt { env := e, sg, pr := [] } a w → code.wpIn Fence.wide 0 P (Post X g nt w o) a w ∧ ∀ b, code = .loop b → LoopIn P b (Post X g nt w o) a w

/-! ### Results -/
def rdRes (tmps : Array Value) : ResultVar → Sem Value
  | .tmp t => pure (tmps.getD t undef)
  | .cell b t => do loadVar t (← asAddr (tmps.getD b undef))
theorem run_resL (h : WRel X g nt s a w) : ∀ {l : List MRes} {rs : List ResultVar} {vs : List AV}, ResOK P l rs → resL s.env s.sg l = some vs →
    ∃ cvs : List Value, (rs.mapM (rdRes a.tmps)).run P w = .ok cvs w ∧ Args g vs cvs
  | [], [], vs, _, e => by
    simp only [resL] at e
    cases e
    exact ⟨[], rfl, rfl, by simp⟩
  | .t n :: l, .tmp m :: r, vs, hr, e => by
    obtain ⟨rfl, hr⟩ := hr
    simp only [resL] at e
    obtain ⟨v, h1, e⟩ := Option.bind_eq_some_iff.1 e
    obtain ⟨vs', h2, rfl⟩ := Option.map_eq_some_iff.1 e
    obtain ⟨cvs, h3, h4, h5⟩ := run_resL h hr h2
    simp only [res1] at h1
    cases h1
    refine ⟨a.tmps.getD n undef :: cvs, ?_, by simp [h4], ?_⟩
    · rw [List.mapM_cons]
      simp only [rdRes, Sem.run_bind, Sem.run_pure, Result.andThen_ok, h3]
    · intro j x v e1 e2
      cases j with
      | zero => simp only [List.getElem?_cons_zero, Option.some.injEq] at e1 e2; subst e1; subst e2; exact ⟨(h.get_rep n).dem, isOwn_dem _⟩
      | succ j => exact h5 j x v (by simpa using e1) (by simpa using e2)
  | .c n agg sz :: l, .cell m t :: r, vs, hr, e => by
    obtain ⟨rfl, hA, hS, hr⟩ := hr
    simp only [resL] at e
    obtain ⟨v, h1, e⟩ := Option.bind_eq_some_iff.1 e
    obtain ⟨vs', h2, rfl⟩ := Option.map_eq_some_iff.1 e
    obtain ⟨cvs, h3, h4, h5⟩ := run_resL h hr h2
    simp only [res1] at h1
    obtain ⟨cs, h6, h7⟩ := Option.bind_eq_some_iff.1 h1
    obtain ⟨hl, k, q, us, hp, hvl, hc, hrr, -⟩ := rep_loadV h (h.get_rep n) h6
    obtain ⟨hno, hcase⟩ := rep_part h7 (by rw [hl, hvl]) hrr
    obtain ⟨hr1, hr2⟩ := run_loadVar (P := P) hA hS hvl hc
    have hx : ∃ cv, (loadVar t ⟨k, q, none⟩).run P w = .ok cv w ∧ ARep g v cv := by
      rcases hcase with ⟨rfl, hrep⟩ | ⟨rfl, y0, u0, rfl, rfl, rfl, hrep⟩
      · exact ⟨_, hr1 rfl, hrep⟩
      · exact ⟨_, hr2 rfl u0 rfl, hrep⟩
    obtain ⟨cv, h8, h9⟩ := hx
    refine ⟨cv :: cvs, ?_, by simp [h4], ?_⟩
    · rw [List.mapM_cons]
      have e0 : (asAddr (.pointer (some ⟨k, q, none⟩))).run P w = .ok ⟨k, q, none⟩ w := rfl
      simp only [rdRes, Sem.run_bind, hp, e0, Sem.run_pure, Result.andThen_ok, h8, h3]
    · intro j x v e1 e2
      cases j with
      | zero => simp at e1 e2; subst e1; subst e2; exact ⟨h9, hno⟩
      | succ j => exact h5 j x v (by simpa using e1) (by simpa using e2)
  | [], _ :: _, _, hr, _ => hr.elim
  | .t _ :: _, [], _, hr, _ => hr.elim
  | .c _ _ _ :: _, [], _, hr, _ => hr.elim
  | .t _ :: _, .cell _ _ :: _, _, hr, _ => hr.elim
  | .c _ _ _ :: _, .tmp _ :: _, _, hr, _ => hr.elim

theorem run_resV (h : WRel X g nt s a w) {l : List MRes} {fn : Func} {v : AV} (hr : ResOK P l fn.results.toList) (e : resV s.env s.sg l = some v) : ∃ cv, (results fn a.tmps).run P w = .ok cv w ∧ ARep g v cv ∧ isOwn v = false := by
  unfold resV at e
  obtain ⟨vs, h1, rfl⟩ := Option.map_eq_some_iff.1 e
  obtain ⟨cvs, h2, h3, h4⟩ := run_resL h hr h1
  have hrun : (results fn a.tmps).run P w = .ok (if h : cvs.toArray.size = 1 then cvs.toArray[0] else .tuple cvs.toArray) w := by
    have e0 : results fn a.tmps = (do
        let vs ← fn.results.mapM (rdRes a.tmps)
        pure (if h : vs.size = 1 then vs[0] else .tuple vs)) := by
      unfold results
      congr 1
    rw [e0, Array.mapM_eq_mapM_toList]
    simp [h2]
  refine ⟨_, hrun, ?_⟩
  match vs, cvs, h3, h4 with
  | [x], [u], _, h4 => exact h4 0 x u rfl rfl
  | [], [], _, _ => exact ⟨.tup [] [] rfl (by simp), rfl⟩
  | x :: y :: l, u :: u' :: m, h3, h4 =>
    refine ⟨?_, rfl⟩
    rw [dif_neg (by simp)]
    exact .tup _ _ h3 fun j x v e1 e2 => (h4 j x v e1 e2).1

theorem WRel.clear (h : WRel X g nt s a w) : WRel X g nt { s with pr := [] } a w := h.prov (by simp)
theorem WRel.keep (h : WRel X g nt s a w) {keep : List Nat} (hk : KeepOK nt keep) : WRel X g nt { env := restrict s.env keep, sg := s.sg, pr := [] } a w := by
  refine h.clear.envLess fun t v e => ?_
  rw [look_restrict] at e
  split at e
  · rename_i ht
    cases e
    simp only [get]
    cases hl : look s.env t with
    | none => exact .inr ⟨rfl, hk t ht⟩
    | some v => exact .inl rfl
  · cases e

/-! ### Functions -/
theorem enter_look : ∀ (l : List AV) (k t : Nat), look (enter k l) t = if k ≤ t then l[t - k]? else none
  | [], k, t => by simp [enter, look]
  | x :: l, k, t => by
    simp only [enter, look]
    by_cases h : k = t
    · subst h; simp
    · rw [if_neg h, enter_look l (k + 1) t]
      by_cases h2 : k + 1 ≤ t
      · rw [if_pos h2, if_pos (by omega)]
        have : t - k = (t - (k + 1)) + 1 := by omega
        rw [this, List.getElem?_cons_succ]
      · rw [if_neg h2, if_neg (by omega)]

theorem enter_rel {args : List AV} {vs : List Value} (h : SRel X g sg w) (ha : Args g args vs) (hl : args.length ≤ nt) :
    WRel X g nt { env := enter 0 args, sg, pr := [] } { tmps := vs.toArray ++ Array.replicate (nt - vs.toArray.size) undef, defers := [] } w := by
  have hlv : vs.length ≤ nt := by rw [← ha.1]; exact hl
  have hno : ∀ hm sz xs, atHome { env := enter 0 args, sg, pr := [] } hm = some (.own sz xs) → atHome { env := [], sg, pr := [] } hm = some (.own sz xs) ∧ ∃ b o, hm = .cell b o := by
    intro hm sz xs e
    cases hm with
    | slot t =>
      simp only [atHome, enter_look, Nat.zero_le, if_true, Nat.sub_zero] at e
      have hj := (List.getElem?_eq_some_iff.1 e).1
      have hjv : t < vs.length := by rw [← ha.1]; exact hj
      have := (ha.2 t _ vs[t] e (List.getElem?_eq_getElem hjv)).2
      simp [isOwn] at this
    | cell b o => exact ⟨e, b, o, rfl⟩
  refine { fok := h.fok, bas := h.bas, obk := h.obk, len := h.len, inj := h.inj, blk := h.blk, wrt := h.wrt, xlt := h.xlt, nt := ?_, env := ?_, prv := fun d hm e => (by cases e), prm := ?_, dst := ?_, dfr := rfl }
  · simp; omega
  · intro t v e
    simp only [enter_look, Nat.zero_le, if_true, Nat.sub_zero] at e
    have hj := (List.getElem?_eq_some_iff.1 e).1
    have hjv : t < vs.length := by rw [← ha.1]; exact hj
    refine ⟨vs[t], ?_, (ha.2 t _ vs[t] e (List.getElem?_eq_getElem hjv)).1⟩
    rw [Array.getElem?_append_left (by simpa using hjv)]
    simp [hjv]
  · intro hm sz xs e
    obtain ⟨e1, b, o, rfl⟩ := hno hm sz xs e
    exact h.prm (.cell b o) sz xs e1
  · intro hm hm' sz xs sz' xs' k o n c o' n' c' e e' h1 h2
    obtain ⟨e1, b, q, rfl⟩ := hno hm sz xs e
    obtain ⟨e2, b', q', rfl⟩ := hno hm' sz' xs' e'
    exact h.dst (.cell b q) (.cell b' q') sz xs sz' xs' k o n c o' n' c' e1 e2 h1 h2

theorem WRel.mem (h : WRel X g nt s a w) : SRel X g s.sg w := by
  have := h.keeps
  have hle : ∀ k, X k → Kept X s a k := fun k hk => .inl hk
  exact { fok := this.fok, bas := this.bas, obk := this.obk, len := this.len, inj := this.inj, blk := this.blk, wrt := fun i k hf hi hx => this.wrt i k hf hi (hle k hx), xlt := fun k hk => this.xlt k (hle k hk), nt := rfl, env := fun t v e => (by cases e), prv := fun d hm e => (by cases e),
          prm := fun hm sz xs e => let ⟨k, o, c, h1, h2⟩ := this.prm hm sz xs e; ⟨k, o, c, h1, ⟨fun hx => h2.nX (hle k hx), h2.nbe, h2.le, h2.ex, h2.noF⟩⟩, dst := this.dst, dfr := rfl }

theorem callW_good (hM : MachOK P M) {rec : Rec} (ih : ∀ c e sg o, rec c e sg = some o → Good P M c e sg o) : CallGood P (callW M rec) := by
  intro f args sg r sg' h
  unfold callW at h
  cases hl : M.lib f with
  | some gg =>
    simp only [hl] at h
    obtain ⟨x, h1, h2⟩ := Option.map_eq_some_iff.1 h
    cases h2
    exact hM.lib f gg hl args sg r h1
  | none =>
  simp only [hl] at h
  cases hli : M.libI f with
  | some gg => simp only [hli] at h; exact hM.libI f gg hl hli args sg r sg' h
  | none =>
  simp only [hli] at h
  cases hm : M.fn f with
  | none => simp only [hm] at h; cases h
  | some mf =>
  simp only [hm] at h
  split at h
  · rename_i hlen
    obtain ⟨⟨x, e1, sg1⟩, h1, h2⟩ := Option.bind_eq_some_iff.1 h
    obtain ⟨fn, code, hf, hb, hname, hnp, hC, hR⟩ := (hM.fn f mf hl hli hm).ex
    have hG := ih _ _ _ _ h1
    intro X g w vs hS ha
    refine .inr ⟨?_, ?_⟩
    · have hn' : ¬ fn.name = "runtime.NumGoroutine" := by simpa using hname
      simp [callFunc, hf, hn', hb]
    · have hlv : args.length ≤ fn.ntmps := by rw [hlen]; exact hnp
      refine callsIn_of_wp hf hb (wide_about f) ?_
      -- the body, and what is read of it
      have body : ∀ X' g0, SRel X' g0 (startSg mf.clean args sg) w → Args g0 args vs →
          (∀ g1 v cv w1, SRel X' g1 sg1 w1 → resV e1 sg1 mf.res = some v → ARep g1 v cv → isOwn v = false → Ext X' g0 g1 → Pres X' g0.F w w1 → PostS X g w sg' r cv w1) →
          code.wpIn Fence.wide 0 P (bodyPost P fn fun e w' => ∃ v, e = .returned v ∧ PostS X g w sg' r v w') { tmps := vs.toArray ++ Array.replicate (fn.ntmps - vs.toArray.size) undef, defers := [] } w := by
        intro X' g0 hS0 ha0 hfin
        have hW := enter_rel hS0 ha0 hlv
        refine wpIn_mono (hG code fn.ntmps hC X' g0 _ w hW).1 fun ex a' w' hp => ?_
        obtain ⟨hmt, g1, hW1, hE, hP⟩ := hp
        have hx : ∃ v, resV e1 sg1 mf.res = some v := by
          split at h2
          · cases h2
          · obtain ⟨v, h3, _⟩ := Option.bind_eq_some_iff.1 h2
            exact ⟨v, h3⟩
        obtain ⟨v, hv⟩ := hx
        obtain ⟨cv, h3, h4, h5⟩ := run_resV (s := { env := e1, sg := sg1, pr := [] }) (fn := fn) hW1 hR hv
        have hdone := hfin g1 v cv w' hW1.mem hv h4 h5 hE hP
        cases x with
        | nrm =>
          cases ex with
          | normal => exact ⟨hW1.dfr, cv, h3, cv, rfl, hdone⟩
          | _ => exact hmt.elim
        | ret =>
          cases ex with
          | ret => exact ⟨hW1.dfr, cv, h3, cv, rfl, hdone⟩
          | _ => exact hmt.elim
        | ext i => cases h2
      cases hcl : mf.clean with
      | true =>
        have tail : ∀ g0 : G, g0.F = g.F → g0.ob = g.ob → ∀ g1 v cv w1, SRel (fun k => k < w.heap.size) g1 sg1 w1 → resV e1 sg1 mf.res = some v → ARep g1 v cv → isOwn v = false → Ext (fun k => k < w.heap.size) g0 g1 → Pres (fun k => k < w.heap.size) g0.F w w1 → PostS X g w sg' r cv w1 := by
          intro g0 hg0 hg0o g1 v cv w1 hS1 hv hr hno hE hP
          have hz : (freezeV sg1 v).map (fun r => (r, sg)) = some (r, sg') := by
            split at h2
            · cases h2
            · obtain ⟨v', h3, h4⟩ := Option.bind_eq_some_iff.1 h2
              rw [hv] at h3
              cases h3
              rw [hcl] at h4; exact h4
          obtain ⟨r', h3, h4⟩ := Option.map_eq_some_iff.1 hz
          cases h4
          obtain ⟨h5, h6, h7, h8⟩ := hS.unshut hS1 (by rw [← hg0]; exact hE.le.F) (by rw [← hg0o]; exact hE.le.ob) (fun b o hb => by rw [← hg0]; exact hE.F b o hb) (by rw [← hg0]; exact hP)
          obtain ⟨h9, h10⟩ := freezeV_rep (F' := g1.F.frozen w.heap.size w1) (g2 := { F := g1.F.frozen w.heap.size w1, be := g.be, ob := g1.ob }) hS1 h8 (fun b o v hb e => by unfold Facts.frozen; rw [if_pos hb]; exact e) rfl hr h3
          exact ⟨_, h5, h9, h10, h6, h7⟩
        by_cases hcd : args.all closedA = true
        · have es : startSg mf.clean args sg = { bl := [], fl := 0 } := by unfold startSg; rw [hcl, hcd]; rfl
          exact body _ { F := g.F, be := [], ob := g.ob } (by rw [es]; exact hS.empty) (closed_args ha hcd) (tail _ rfl rfl)
        · have es : startSg mf.clean args sg = { sg with fl := sg.bl.length } := by unfold startSg; rw [hcl, if_pos rfl, if_neg hcd]
          exact body _ g (by rw [es]; exact hS.shut) ha (tail _ rfl rfl)
      | false =>
        have es : startSg mf.clean args sg = sg := by unfold startSg; rw [hcl]; rfl
        simp only [hcl, Bool.false_eq_true, if_false] at h2
        refine body X g (by rw [es]; exact hS) ha fun g1 v cv w1 hS1 hv hr hno hE hP => ?_
        have hz : (v, sg1) = (r, sg') := by
          split at h2
          · cases h2
          · obtain ⟨v', h3, h4⟩ := Option.bind_eq_some_iff.1 h2
            rw [hv] at h3
            cases h3
            injection h4
        cases hz
        exact ⟨g1, hS1, hr, hno, hE, hP⟩
  · cases h
end Go.Proofs.YtggoaggneapneaaDoorM
