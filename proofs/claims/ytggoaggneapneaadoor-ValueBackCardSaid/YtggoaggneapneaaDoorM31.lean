/-
  The mirror, part 31: the evaluator on what is known only in part: the rules by which it goes.
-/
import Derived.Test.YtggoaggneapneaaDoorM30
import Derived.IntWalk
set_option linter.unusedVariables false
set_option linter.unusedSimpArgs false
namespace Go.Proofs.YtggoaggneapneaaDoorM
open Go
variable {M : Mach}

/-- What a function hands back, when its code has been gone through. -/
def fin (mf : MFun) (sg : Sig) : Out → Option (AV × Sig)
  | (.ext _, _, _) => none
  | (_, e, sg1) => (resV e sg1 mf.res).bind fun v => if mf.clean then (freezeV sg1 v).map fun r => (r, sg) else some (v, sg1)
theorem acall_fn {f : Nat} {mf : MFun} {args : List AV} {sg : Sig} (hl : M.lib f = none) (hi : M.libI f = none) (hf : M.fn f = some mf) (ha : args.length = mf.np) :
    acall M f args sg = (ex M mf.body (enter 0 args) (startSg mf.clean args sg)).bind (fin mf sg) := by
  unfold acall callW
  simp only [hl, hi, hf, if_pos ha]
  congr 1
  funext ⟨x, e, sg1⟩
  cases x <;> rfl
theorem acall_lib {f : Nat} {g : List AV → Option AV} {args : List AV} {sg : Sig} (hl : M.lib f = some g) : acall M f args sg = (g args).map fun r => (r, sg) := by
  unfold acall callW
  simp only [hl]
theorem bind_map {α β γ : Type} (x : Option α) (f : α → β) (g : β → Option γ) : (x.map f).bind g = x.bind fun a => g (f a) := by cases x <;> rfl

theorem wrap_in {n : Int} (h : -9223372036854775808 ≤ n) (h' : n ≤ 9223372036854775807) : IntKind.i64.wrap n = n := IntWalk.i64_in _ ⟨h, h'⟩
theorem fillA_eq : ∀ (vs cs : List AV) (o : Nat), o + vs.length ≤ cs.length → fillA cs o vs = cs.take o ++ vs ++ cs.drop (o + vs.length)
  | [], cs, o, h => by simp [fillA]
  | v :: vs, cs, o, h => by
    simp only [List.length_cons] at h
    rw [fillA, fillA_eq vs (cs.set o v) (o + 1) (by rw [List.length_set]; omega)]
    have ho : o < cs.length := by omega
    have e1 : (cs.set o v).take (o + 1) = cs.take o ++ [v] := by
      rw [List.take_set, List.take_succ_eq_append_getElem ho, List.set_append_right _ _ (by simp; omega)]
      simp [Nat.min_eq_left (Nat.le_of_lt ho)]
    rw [e1, List.drop_set_of_lt (by omega)]
    simp only [List.append_assoc, List.cons_append, List.nil_append, List.length_cons]
    rw [show o + 1 + vs.length = o + (vs.length + 1) by omega]
theorem fillA_all {vs cs : List AV} (h : vs.length = cs.length) : fillA cs 0 vs = vs := by
  rw [fillA_eq vs cs 0 (by omega), List.drop_of_length_le (by omega)]
  simp
/-! ### The rules as simp goes by them -/
theorem pick_opd (e : Env) (b : Bool) (x y : Opd) : eo e (if b = true then x else y) = if b = true then eo e x else eo e y := by cases b <;> rfl
theorem ite_dem (b : Bool) (x y : AV) : dem (if b = true then x else y) = if b = true then dem x else dem y := by cases b <;> rfl
theorem ite_bool (b c d : Bool) : (if b = true then AV.pv (PV.bool c) else AV.pv (PV.bool d)) = AV.pv (PV.bool (if b = true then c else d)) := by cases b <;> rfl
@[simp] theorem s_dem_pv (p : PV) : dem (AV.pv p) = AV.pv p := rfl
@[simp] theorem s_dem_nils  : dem (AV.nils) = AV.nils := rfl
@[simp] theorem s_dem_own (sz : Nat) (xs : List (List PV)) : dem (AV.own sz xs) = AV.pv (PV.sl xs) := rfl
@[simp] theorem s_dem_row (b o n sz : Nat) : dem (AV.row b o n sz) = AV.row b o n sz := rfl
@[simp] theorem s_dem_nilp  : dem (AV.nilp) = AV.nilp := rfl
@[simp] theorem s_dem_cell (b o : Nat) : dem (AV.cell b o) = AV.cell b o := rfl
@[simp] theorem s_dem_elem (r : List PV) (o : Nat) : dem (AV.elem r o) = AV.elem r o := rfl
@[simp] theorem s_dem_fn (f : Nat) (caps : List AV) : dem (AV.fn f caps) = AV.fn f caps := rfl
@[simp] theorem s_dem_nilfn  : dem (AV.nilfn) = AV.nilfn := rfl
@[simp] theorem s_dem_agg (cs : List AV) : dem (AV.agg cs) = AV.agg cs := rfl
@[simp] theorem s_dem_tup (vs : List AV) : dem (AV.tup vs) = AV.tup vs := rfl
@[simp] theorem s_dem_iface (t : Nat) (v : AV) : dem (AV.iface t v) = AV.iface t v := rfl
@[simp] theorem s_dem_nilif  : dem (AV.nilif) = AV.nilif := rfl
@[simp] theorem s_dem_yld (l : Nat) : dem (AV.yld l) = AV.yld l := rfl
@[simp] theorem s_dem_mapc (kvs : List (List UInt8 × Int)) : dem (AV.mapc kvs) = AV.mapc kvs := rfl
@[simp] theorem s_dem_bot  : dem (AV.bot) = AV.bot := rfl
@[simp] theorem s_isOwn_pv (p : PV) : isOwn (AV.pv p) = false := rfl
@[simp] theorem s_isOwn_nils  : isOwn (AV.nils) = false := rfl
@[simp] theorem s_isOwn_own (sz : Nat) (xs : List (List PV)) : isOwn (AV.own sz xs) = true := rfl
@[simp] theorem s_isOwn_row (b o n sz : Nat) : isOwn (AV.row b o n sz) = false := rfl
@[simp] theorem s_isOwn_nilp  : isOwn (AV.nilp) = false := rfl
@[simp] theorem s_isOwn_cell (b o : Nat) : isOwn (AV.cell b o) = false := rfl
@[simp] theorem s_isOwn_elem (r : List PV) (o : Nat) : isOwn (AV.elem r o) = false := rfl
@[simp] theorem s_isOwn_fn (f : Nat) (caps : List AV) : isOwn (AV.fn f caps) = false := rfl
@[simp] theorem s_isOwn_nilfn  : isOwn (AV.nilfn) = false := rfl
@[simp] theorem s_isOwn_agg (cs : List AV) : isOwn (AV.agg cs) = false := rfl
@[simp] theorem s_isOwn_tup (vs : List AV) : isOwn (AV.tup vs) = false := rfl
@[simp] theorem s_isOwn_iface (t : Nat) (v : AV) : isOwn (AV.iface t v) = false := rfl
@[simp] theorem s_isOwn_nilif  : isOwn (AV.nilif) = false := rfl
@[simp] theorem s_isOwn_yld (l : Nat) : isOwn (AV.yld l) = false := rfl
@[simp] theorem s_isOwn_mapc (kvs : List (List UInt8 × Int)) : isOwn (AV.mapc kvs) = false := rfl
@[simp] theorem s_isOwn_bot  : isOwn (AV.bot) = false := rfl
@[simp] theorem s_isCell_pv (p : PV) : isCell (AV.pv p) = true := rfl
@[simp] theorem s_isCell_nils  : isCell (AV.nils) = true := rfl
@[simp] theorem s_isCell_own (sz : Nat) (xs : List (List PV)) : isCell (AV.own sz xs) = true := rfl
@[simp] theorem s_isCell_row (b o n sz : Nat) : isCell (AV.row b o n sz) = true := rfl
@[simp] theorem s_isCell_nilp  : isCell (AV.nilp) = true := rfl
@[simp] theorem s_isCell_cell (b o : Nat) : isCell (AV.cell b o) = true := rfl
@[simp] theorem s_isCell_elem (r : List PV) (o : Nat) : isCell (AV.elem r o) = true := rfl
@[simp] theorem s_isCell_fn (f : Nat) (caps : List AV) : isCell (AV.fn f caps) = true := rfl
@[simp] theorem s_isCell_nilfn  : isCell (AV.nilfn) = true := rfl
@[simp] theorem s_isCell_agg (cs : List AV) : isCell (AV.agg cs) = false := rfl
@[simp] theorem s_isCell_tup (vs : List AV) : isCell (AV.tup vs) = false := rfl
@[simp] theorem s_isCell_iface (t : Nat) (v : AV) : isCell (AV.iface t v) = true := rfl
@[simp] theorem s_isCell_nilif  : isCell (AV.nilif) = true := rfl
@[simp] theorem s_isCell_yld (l : Nat) : isCell (AV.yld l) = true := rfl
@[simp] theorem s_isCell_mapc (kvs : List (List UInt8 × Int)) : isCell (AV.mapc kvs) = false := rfl
@[simp] theorem s_isCell_bot  : isCell (AV.bot) = false := rfl
@[simp] theorem s_cellsOf_pv (p : PV) : cellsOf (AV.pv p) = [AV.pv p] := rfl
@[simp] theorem s_cellsOf_nils  : cellsOf (AV.nils) = [AV.nils] := rfl
@[simp] theorem s_cellsOf_own (sz : Nat) (xs : List (List PV)) : cellsOf (AV.own sz xs) = [AV.own sz xs] := rfl
@[simp] theorem s_cellsOf_row (b o n sz : Nat) : cellsOf (AV.row b o n sz) = [AV.row b o n sz] := rfl
@[simp] theorem s_cellsOf_nilp  : cellsOf (AV.nilp) = [AV.nilp] := rfl
@[simp] theorem s_cellsOf_cell (b o : Nat) : cellsOf (AV.cell b o) = [AV.cell b o] := rfl
@[simp] theorem s_cellsOf_elem (r : List PV) (o : Nat) : cellsOf (AV.elem r o) = [AV.elem r o] := rfl
@[simp] theorem s_cellsOf_fn (f : Nat) (caps : List AV) : cellsOf (AV.fn f caps) = [AV.fn f caps] := rfl
@[simp] theorem s_cellsOf_nilfn  : cellsOf (AV.nilfn) = [AV.nilfn] := rfl
@[simp] theorem s_cellsOf_agg (cs : List AV) : cellsOf (AV.agg cs) = cs := rfl
@[simp] theorem s_cellsOf_tup (vs : List AV) : cellsOf (AV.tup vs) = [AV.tup vs] := rfl
@[simp] theorem s_cellsOf_iface (t : Nat) (v : AV) : cellsOf (AV.iface t v) = [AV.iface t v] := rfl
@[simp] theorem s_cellsOf_nilif  : cellsOf (AV.nilif) = [AV.nilif] := rfl
@[simp] theorem s_cellsOf_yld (l : Nat) : cellsOf (AV.yld l) = [AV.yld l] := rfl
@[simp] theorem s_cellsOf_mapc (kvs : List (List UInt8 × Int)) : cellsOf (AV.mapc kvs) = [AV.mapc kvs] := rfl
@[simp] theorem s_cellsOf_bot  : cellsOf (AV.bot) = [AV.bot] := rfl
@[simp] theorem s_storeCs_pv (p : PV) : storeCs (AV.pv p) = [AV.pv p] := rfl
@[simp] theorem s_storeCs_nils  : storeCs (AV.nils) = [AV.nils] := rfl
@[simp] theorem s_storeCs_own (sz : Nat) (xs : List (List PV)) : storeCs (AV.own sz xs) = [AV.own sz xs] := rfl
@[simp] theorem s_storeCs_row (b o n sz : Nat) : storeCs (AV.row b o n sz) = [AV.row b o n sz] := rfl
@[simp] theorem s_storeCs_nilp  : storeCs (AV.nilp) = [AV.nilp] := rfl
@[simp] theorem s_storeCs_cell (b o : Nat) : storeCs (AV.cell b o) = [AV.cell b o] := rfl
@[simp] theorem s_storeCs_elem (r : List PV) (o : Nat) : storeCs (AV.elem r o) = [AV.elem r o] := rfl
@[simp] theorem s_storeCs_fn (f : Nat) (caps : List AV) : storeCs (AV.fn f caps) = [AV.fn f caps] := rfl
@[simp] theorem s_storeCs_nilfn  : storeCs (AV.nilfn) = [AV.nilfn] := rfl
@[simp] theorem s_storeCs_agg (cs : List AV) : storeCs (AV.agg cs) = demL cs := rfl
@[simp] theorem s_storeCs_tup (vs : List AV) : storeCs (AV.tup vs) = [AV.tup vs] := rfl
@[simp] theorem s_storeCs_iface (t : Nat) (v : AV) : storeCs (AV.iface t v) = [AV.iface t v] := rfl
@[simp] theorem s_storeCs_nilif  : storeCs (AV.nilif) = [AV.nilif] := rfl
@[simp] theorem s_storeCs_yld (l : Nat) : storeCs (AV.yld l) = [AV.yld l] := rfl
@[simp] theorem s_storeCs_mapc (kvs : List (List UInt8 × Int)) : storeCs (AV.mapc kvs) = [AV.mapc kvs] := rfl
@[simp] theorem s_storeCs_bot  : storeCs (AV.bot) = [AV.bot] := rfl
@[simp] theorem s_isNils_pv (p : PV) : isNils (AV.pv p) = false := rfl
@[simp] theorem s_isNils_nils  : isNils (AV.nils) = true := rfl
@[simp] theorem s_isNils_own (sz : Nat) (xs : List (List PV)) : isNils (AV.own sz xs) = false := rfl
@[simp] theorem s_isNils_row (b o n sz : Nat) : isNils (AV.row b o n sz) = false := rfl
@[simp] theorem s_isNils_nilp  : isNils (AV.nilp) = false := rfl
@[simp] theorem s_isNils_cell (b o : Nat) : isNils (AV.cell b o) = false := rfl
@[simp] theorem s_isNils_elem (r : List PV) (o : Nat) : isNils (AV.elem r o) = false := rfl
@[simp] theorem s_isNils_fn (f : Nat) (caps : List AV) : isNils (AV.fn f caps) = false := rfl
@[simp] theorem s_isNils_nilfn  : isNils (AV.nilfn) = false := rfl
@[simp] theorem s_isNils_agg (cs : List AV) : isNils (AV.agg cs) = false := rfl
@[simp] theorem s_isNils_tup (vs : List AV) : isNils (AV.tup vs) = false := rfl
@[simp] theorem s_isNils_iface (t : Nat) (v : AV) : isNils (AV.iface t v) = false := rfl
@[simp] theorem s_isNils_nilif  : isNils (AV.nilif) = false := rfl
@[simp] theorem s_isNils_yld (l : Nat) : isNils (AV.yld l) = false := rfl
@[simp] theorem s_isNils_mapc (kvs : List (List UInt8 × Int)) : isNils (AV.mapc kvs) = false := rfl
@[simp] theorem s_isNils_bot  : isNils (AV.bot) = false := rfl
@[simp] theorem s_isNrm_nrm : isNrm .nrm = true := rfl
@[simp] theorem s_isNrm_ext (i : Nat) : isNrm (.ext i) = false := rfl
@[simp] theorem s_isNrm_ret : isNrm .ret = false := rfl
@[simp] theorem s_outOf_nrm (i : Nat) : outOf i .nrm = .nrm := rfl
@[simp] theorem s_outOf_ret (i : Nat) : outOf i .ret = .ret := rfl
@[simp] theorem s_outOf_ext (i j : Nat) : outOf i (.ext j) = if j = i then .nrm else .ext j := rfl
@[simp] theorem s_condB (b : Bool) (x y : Option Out) : condB (.pv (.bool b)) x y = if b then x else y := rfl
theorem ex_loopU {M : Mach} {b b' : MC} {e : Env} {sg : Sig} (h : b = b') : ex M (.loop b) e sg = (ex M b' e sg).bind fun o => if isNrm o.1 then ex M (.loop b) o.2.1 o.2.2 else some o := by rw [ex_loop, ← h]
/-- What is not gone through is not looked at. -/
@[congr] theorem condB_congr {v v' : AV} (h : v = v') (x y : Option Out) : condB v x y = condB v' x y := by rw [h]
@[congr] theorem obind_congr {α β : Type} {x x' : Option α} (h : x = x') (f : α → Option β) : x.bind f = x'.bind f := by rw [h]
@[congr] theorem omap_congr {α β : Type} {x x' : Option α} (h : x = x') (f : α → β) : x.map f = x'.map f := by rw [h]
@[congr] theorem ex_congr {M : Mach} {e e' : Env} {sg sg' : Sig} (h : e = e') (h' : sg = sg') (c : MC) : ex M c e sg = ex M c e' sg' := by rw [h, h']
@[congr] theorem opsW_congr {s s' : St} (h : s = s') (call : Call) (l : List MOp) : opsW call l s = opsW call l s' := by rw [h]
@[congr] theorem opsD_congr {e e' : Env} {sg sg' : Sig} (h : sg = sg') (h' : e = e') (call : Call) (l : List MOp) : opsD call sg l e = opsD call sg' l e' := by rw [h, h']
@[congr] theorem stepO_congr {s s' : St} (h : s = s') (call : Call) (o : MOp) : stepO call s o = stepO call s' o := by rw [h]
@[congr] theorem stepI_congr {s s' : St} (h : s = s') (call : Call) (i : MI) : stepI call s i = stepI call s' i := by rw [h]
@[simp] theorem s_noSlot_nil (t : Nat) : noSlot t [] = [] := rfl
@[simp] theorem s_noSlot_cons (t k : Nat) (h : Home) (l : List (Nat × Home)) : noSlot t ((k, h) :: l) = if k = t ∨ h = .slot t then noSlot t l else (k, h) :: noSlot t l := by
  by_cases h1 : k = t ∨ h = .slot t
  · rw [if_pos h1]; unfold noSlot; rw [List.filter_cons_of_neg (by simpa using fun h2 => h1.resolve_left h2)]
  · rw [if_neg h1]; unfold noSlot; rw [List.filter_cons_of_pos (by simpa [not_or] using h1)]
@[simp] theorem s_noCell_nil : noCell [] = [] := rfl
@[simp] theorem s_noCell_cons (k : Nat) (h : Home) (l : List (Nat × Home)) : noCell ((k, h) :: l) = match h with
    | .slot _ => (k, h) :: noCell l
    | .cell _ _ => noCell l := by cases h <;> rfl
@[simp] theorem s_provPut_none (l : List (Nat × Home)) (t : Nat) : provPut l t none = noSlot t l := rfl
@[simp] theorem s_provPut_some (l : List (Nat × Home)) (t : Nat) (h : Home) : provPut l t (some h) = if h = .slot t then noSlot t l else (t, h) :: noSlot t l := rfl
@[simp] theorem s_stepO_none (call : Call) (s : St) (d : Option Nat) (i : MI) : stepO call s ⟨d, none, i⟩ = (stepI call s i).map (applyU s d) := rfl
@[simp] theorem s_stepO_some (call : Call) (s : St) (d : Option Nat) (t : Nat) (b : Bool) (i : MI) : stepO call s ⟨d, some (t, b), i⟩ = (wantedM s.env (some (t, b))).bind fun w => if w then (stepI call s i).map (applyU s d) else some (applyU s d { v := .tup [], p := none, dm := [], sg := s.sg, cl := false }) := rfl

def onCell {α : Type} (v : AV) (f : Nat → Nat → Option α) : Option α := match v with
  | .cell b o => f b o
  | _ => none
def onAgg {α : Type} (v : AV) (f : List AV → Option α) : Option α := match v with
  | .agg cs => f cs
  | _ => none
def onTup {α : Type} (v : AV) (f : List AV → Option α) : Option α := match v with
  | .tup cs => f cs
  | _ => none
def onBool {α : Type} (v : AV) (f : Bool → Option α) : Option α := match v with
  | .pv (.bool b) => f b
  | _ => none
def onStr {α : Type} (v : AV) (f : List UInt8 → Option α) : Option α := match v with
  | .pv (.str b) => f b
  | _ => none
def onFn {α : Type} (v : AV) (f : Nat → List AV → Option α) : Option α := match v with
  | .fn b l => f b l
  | _ => none
@[simp] theorem s_onCell {α : Type} (b o : Nat) (f : Nat → Nat → Option α) : onCell (.cell b o) f = f b o := rfl
@[simp] theorem s_onAgg {α : Type} (cs : List AV) (f : List AV → Option α) : onAgg (.agg cs) f = f cs := rfl
@[simp] theorem s_onTup {α : Type} (cs : List AV) (f : List AV → Option α) : onTup (.tup cs) f = f cs := rfl
@[simp] theorem s_onBool {α : Type} (b : Bool) (f : Bool → Option α) : onBool (.pv (.bool b)) f = f b := rfl
@[simp] theorem s_onStr {α : Type} (b : List UInt8) (f : List UInt8 → Option α) : onStr (.pv (.str b)) f = f b := rfl
@[simp] theorem s_onFn {α : Type} (b : Nat) (l : List AV) (f : Nat → List AV → Option α) : onFn (.fn b l) f = f b l := rfl
@[congr] theorem onCell_congr {α : Type} {v v' : AV} (h : v = v') (f : Nat → Nat → Option α) : onCell v f = onCell v' f := by rw [h]
@[congr] theorem onAgg_congr {α : Type} {v v' : AV} (h : v = v') (f : List AV → Option α) : onAgg v f = onAgg v' f := by rw [h]
@[congr] theorem onTup_congr {α : Type} {v v' : AV} (h : v = v') (f : List AV → Option α) : onTup v f = onTup v' f := by rw [h]
@[congr] theorem onBool_congr {α : Type} {v v' : AV} (h : v = v') (f : Bool → Option α) : onBool v f = onBool v' f := by rw [h]
@[congr] theorem onStr_congr {α : Type} {v v' : AV} (h : v = v') (f : List UInt8 → Option α) : onStr v f = onStr v' f := by rw [h]
@[congr] theorem onFn_congr {α : Type} {v v' : AV} (h : v = v') (f : Nat → List AV → Option α) : onFn v f = onFn v' f := by rw [h]
/-- One more form: what a load keeps. -/
def loadP (sg : Sig) (agg : Bool) : AV → Option Home
  | .cell b o => if agg then none else if isOwn ((cellAt sg b o).getD .bot) then some (.cell b o) else none
  | _ => none
@[simp] theorem s_loadP_cell (sg : Sig) (b o : Nat) : loadP sg false (.cell b o) = if isOwn ((cellAt sg b o).getD .bot) then some (.cell b o) else none := rfl
@[simp] theorem s_loadP_true (sg : Sig) (b o : Nat) : loadP sg true (.cell b o) = none := rfl
@[simp] theorem s_loadP_elem (sg : Sig) (agg : Bool) (r : List PV) (o : Nat) : loadP sg agg (.elem r o) = none := rfl
section
variable {call : Call} {s : St}
@[simp] theorem i_movt (n : Nat) : stepI call s (.mov (.t n)) = some { v := dem (get s.env n), p := if isOwn (get s.env n) then some (.slot n) else lookP s.pr n, dm := [], sg := s.sg, cl := false } := rfl
@[simp] theorem i_movc (v : AV) : stepI call s (.mov (.c v)) = some { v, p := none, dm := [], sg := s.sg, cl := false } := rfl
@[simp] theorem i_movdt (n : Nat) : stepI call s (.movd (.t n)) = some { v := dem (get s.env n), p := if isOwn (get s.env n) then some (.slot n) else none, dm := [], sg := s.sg, cl := false } := rfl
@[simp] theorem i_movdc (v : AV) : stepI call s (.movd (.c v)) = some { v, p := none, dm := [], sg := s.sg, cl := false } := rfl
@[simp] theorem i_asg (x : Opd) : stepI call s (.asg x) = some { v := eo s.env x, p := none, dm := taken s.env x, sg := s.sg, cl := false } := rfl
@[simp] theorem i_pick (c a b : Opd) : stepI call s (.pick c a b) = onBool (eo s.env c) fun t => some { v := dem (if t then eo s.env a else eo s.env b), p := none, dm := [], sg := s.sg, cl := false } := by
  simp only [stepI]
  cases eo s.env c with
  | pv p => cases p with
    | bool t => cases t <;> rfl
    | _ => rfl
  | _ => rfl
@[simp] theorem i_alloc (z : List AV) : stepI call s (.alloc z) = some { v := .cell s.sg.bl.length 0, p := none, dm := [], sg := { s.sg with bl := s.sg.bl ++ [z] }, cl := false } := rfl
@[simp] theorem i_box (sz : Nat) (x : Opd) : stepI call s (.box sz x) = if (demL (cellsOf (eo s.env x))).length = sz ∧ (demL (cellsOf (eo s.env x))).all isCell then some { v := .cell s.sg.bl.length 0, p := none, dm := [], sg := { s.sg with bl := s.sg.bl ++ [demL (cellsOf (eo s.env x))] }, cl := false } else none := rfl
@[simp] theorem i_build (z : List AV) (ps : List (Nat × Nat × Opd)) : stepI call s (.build z ps) = (buildA s.env z ps).bind fun l => some { v := .agg l, p := none, dm := [], sg := s.sg, cl := false } := by
  simp only [stepI, plainO]; cases buildA s.env z ps <;> rfl
@[simp] theorem i_bsl (sz : Nat) (xs : List Opd) : stepI call s (.bsl sz xs) = (rowsA s.env sz xs).bind fun l => some { v := .own sz l, p := none, dm := [], sg := s.sg, cl := false } := by
  simp only [stepI, plainO]; cases rowsA s.env sz xs <;> rfl
@[simp] theorem i_load (agg : Bool) (sz : Nat) (a : Opd) : stepI call s (.load agg sz a) = (loadV s.sg agg sz (eo s.env a)).bind fun cs => (part agg (demL cs)).bind fun v => some { v, p := loadP s.sg agg (eo s.env a), dm := [], sg := s.sg, cl := false } := by
  simp only [stepI]
  congr 1; funext cs; congr 1; funext v; congr 2
  cases agg <;> cases eo s.env a <;> rfl
@[simp] theorem i_loadd (agg : Bool) (sz : Nat) (a : Opd) : stepI call s (.loadd agg sz a) = (loadV s.sg agg sz (eo s.env a)).bind fun cs => (part agg (demL cs)).bind fun v => some { v, p := none, dm := [], sg := s.sg, cl := false } := rfl
@[simp] theorem i_store (sz : Nat) (a x : Opd) : stepI call s (.store sz a x) = onCell (eo s.env a) fun b o => if (storeCs (eo s.env x)).length = sz then (storeV s.sg b o (storeCs (eo s.env x))).bind fun sg => some { v := .bot, p := none, dm := taken s.env x, sg, cl := true } else none := by
  simp only [stepI]
  cases eo s.env a with
  | cell b o =>
    simp only [s_onCell]
    split
    · cases storeV s.sg b o (storeCs (eo s.env x)) <;> rfl
    · rfl
  | _ => rfl
@[simp] theorem i_bin (op : BinOp) (x y : Opd) : stepI call s (.bin op x y) = (binV op (eo s.env x) (eo s.env y)).bind fun v => some { v, p := none, dm := [], sg := s.sg, cl := false } := rfl
@[simp] theorem i_beq (ne : Bool) (x y : Opd) : stepI call s (.beq ne x y) = onBool (eo s.env x) fun a => onBool (eo s.env y) fun b => some { v := .pv (.bool ((a == b) != ne)), p := none, dm := [], sg := s.sg, cl := false } := by
  simp only [stepI]
  cases eo s.env x with
  | pv p => cases p with
    | bool a => cases eo s.env y with
      | pv q => cases q <;> rfl
      | _ => rfl
    | _ => rfl
  | _ => rfl
@[simp] theorem i_un (op : UnOp) (x : Opd) : stepI call s (.un op x) = (unV op (eo s.env x)).bind fun v => some { v, p := none, dm := [], sg := s.sg, cl := false } := rfl
@[simp] theorem i_eqA (ne : Bool) (ks : List Nat) (x y : Opd) : stepI call s (.eqA ne ks x y) = (eqAV ks (eo s.env x) (eo s.env y)).bind fun b => some { v := .pv (.bool (b != ne)), p := none, dm := [], sg := s.sg, cl := false } := by
  simp only [stepI, plainO]; cases eqAV ks (eo s.env x) (eo s.env y) <;> rfl
@[simp] theorem i_fadr (k : Nat) (x : Opd) : stepI call s (.fadr k x) = (offAV k (eo s.env x)).bind fun v => some { v, p := none, dm := [], sg := s.sg, cl := false } := rfl
@[simp] theorem i_fld (agg : Bool) (sz off : Nat) (x : Opd) : stepI call s (.fld agg sz off x) = onAgg (eo s.env x) fun cs => if off + sz ≤ cs.length then (part agg (demL ((cs.drop off).take sz))).bind fun v => some { v, p := none, dm := [], sg := s.sg, cl := false } else none := by
  simp only [stepI]; cases eo s.env x with
  | agg cs => simp only [s_onAgg]; split <;> rfl
  | _ => rfl
@[simp] theorem i_iadr (sz : Nat) (x i : Opd) : stepI call s (.iadr sz x i) = (asI (eo s.env i)).bind fun j => (iadrV sz (eo s.env x) j).bind fun v => some { v, p := none, dm := [], sg := s.sg, cl := false } := by
  simp only [stepI, plainO]; cases asI (eo s.env i) <;> rfl
@[simp] theorem i_iadrA (len sz : Nat) (x i : Opd) : stepI call s (.iadrA len sz x i) = (asI (eo s.env i)).bind fun j => if inB j len then (offAV (j.toNat * sz) (eo s.env x)).bind fun v => some { v, p := none, dm := [], sg := s.sg, cl := false } else none := by
  simp only [stepI, plainO]; cases asI (eo s.env i) <;> first | rfl | (simp only [Option.bind_some]; split <;> rfl)
@[simp] theorem i_idxS (x i : Opd) : stepI call s (.idxS x i) = onStr (eo s.env x) fun t => (asI (eo s.env i)).bind fun j => if 0 ≤ j then (t[j.toNat]?).bind fun b => some { v := .pv (.int .u8 (b.toNat : Int)), p := none, dm := [], sg := s.sg, cl := false } else none := by
  simp only [stepI]
  cases eo s.env x with
  | pv p => cases p with
    | str t =>
      cases asI (eo s.env i) with
      | none => rfl
      | some j => simp only [Option.bind_some, plainO, s_onStr]; split <;> first | rfl | (cases t[j.toNat]? <;> rfl)
    | _ => rfl
  | _ => rfl
@[simp] theorem i_idxA (len : Nat) (agg : Bool) (sz : Nat) (x i : Opd) : stepI call s (.idxA len agg sz x i) = onAgg (eo s.env x) fun cs => (asI (eo s.env i)).bind fun j => if inB j len ∧ (j.toNat + 1) * sz ≤ cs.length then (part agg (demL ((cs.drop (j.toNat * sz)).take sz))).bind fun v => some { v, p := none, dm := [], sg := s.sg, cl := false } else none := by
  simp only [stepI]
  cases eo s.env x with
  | agg cs =>
    cases asI (eo s.env i) with
    | none => rfl
    | some j => simp only [Option.bind_some, plainO, s_onAgg]; split <;> rfl
  | _ => rfl
@[simp] theorem i_mkfn (f : Nat) (caps : List Opd) : stepI call s (.mkfn f caps) = some { v := .fn f (argsOf s.env caps), p := none, dm := [], sg := s.sg, cl := false } := rfl
@[simp] theorem i_mkif (t : Nat) (x : Opd) : stepI call s (.mkif t x) = some { v := .iface t (dem (eo s.env x)), p := none, dm := [], sg := s.sg, cl := false } := rfl
@[simp] theorem i_ext (i : Nat) (x : Opd) : stepI call s (.ext i x) = onTup (eo s.env x) fun vs => (vs[i]?).bind fun v => some { v := dem v, p := none, dm := [], sg := s.sg, cl := false } := by
  simp only [stepI]
  cases eo s.env x with
  | tup vs => simp only [plainO, s_onTup]; cases vs[i]? <;> rfl
  | _ => rfl
@[simp] theorem i_call (f : Nat) (args : List Opd) : stepI call s (.call f args) = (call f (argsOf s.env args) s.sg).bind fun r => some { v := r.1, p := none, dm := [], sg := r.2, cl := true } := rfl
@[simp] theorem i_callc (f : Nat) (args : List Opd) : stepI call s (.callc f args) = if (argsOf s.env args).all closedA then (call f (argsOf s.env args) s.sg).bind fun r => some { v := r.1, p := none, dm := [], sg := r.2, cl := true } else none := rfl
@[simp] theorem i_callv (f : Opd) (args : List Opd) : stepI call s (.callv f args) = onFn (eo s.env f) fun n caps => (call n (argsOf s.env args ++ caps.map dem) s.sg).bind fun r => some { v := r.1, p := none, dm := [], sg := r.2, cl := true } := by
  simp only [stepI]; cases eo s.env f <;> rfl
@[simp] theorem i_lenS (x : Opd) : stepI call s (.len true x) = (lenS (eo s.env x)).bind fun n => some { v := .pv (.int .i64 n), p := none, dm := [], sg := s.sg, cl := false } := by
  simp only [stepI, plainO, if_true]; cases lenS (eo s.env x) <;> rfl
@[simp] theorem i_lenL (x : Opd) : stepI call s (.len false x) = (lenL (eo s.env x)).bind fun n => some { v := .pv (.int .i64 n), p := none, dm := [], sg := s.sg, cl := false } := by
  simp only [stepI, plainO, Bool.false_eq_true, if_false]; cases lenL (eo s.env x) <;> rfl
@[simp] theorem i_lenA (n : Nat) : stepI call s (.lenA n) = some { v := .pv (.int .i64 n), p := none, dm := [], sg := s.sg, cl := false } := rfl
@[simp] theorem i_mn (xs : List Opd) : stepI call s (.mn xs) = (minL (xs.map (eo s.env))).bind fun v => some { v, p := none, dm := [], sg := s.sg, cl := false } := rfl
@[simp] theorem i_mx (xs : List Opd) : stepI call s (.mx xs) = (maxL (xs.map (eo s.env))).bind fun v => some { v, p := none, dm := [], sg := s.sg, cl := false } := rfl
@[simp] theorem i_app (sz bytes : Nat) (x y : Opd) : stepI call s (.app sz bytes x y) = (srcOf (eo s.env y)).bind fun ys => appV s sz bytes x ys := rfl
@[simp] theorem i_appS (sz bytes : Nat) (x y : Opd) (h : Nat) : stepI call s (.appS sz bytes x y h) = if homeS s x h then (srcOf (eo s.env y)).bind fun ys => appV s sz bytes x ys else none := rfl
@[simp] theorem i_appC (sz bytes : Nat) (x y : Opd) : stepI call s (.appC sz bytes x y) = if homeC s x then (srcOf (eo s.env y)).bind fun ys => appV s sz bytes x ys else none := rfl
@[simp] theorem i_mks (sz bytes : Nat) (z : List AV) (n : Opd) : stepI call s (.mks sz bytes z n) = (asI (eo s.env n)).bind fun m => if 0 ≤ m ∧ inS bytes m.toNat ∧ z.length = sz then some { v := .row s.sg.bl.length 0 m.toNat sz, p := none, dm := [], sg := { s.sg with bl := s.sg.bl ++ [(List.replicate m.toNat z).flatten] }, cl := false } else none := rfl
@[simp] theorem i_slice (st : Bool) (sz : Nat) (x : Opd) (lo hi mx : Option Opd) : stepI call s (.slice st sz x lo hi mx) = (sliceV s.env st sz (eo s.env x) lo hi mx).bind fun v => some { v, p := none, dm := [], sg := s.sg, cl := false } := rfl
@[simp] theorem i_sliceA (len sz : Nat) (x : Opd) (lo hi : Option Opd) : stepI call s (.sliceA len sz x lo hi) = (sliceAV s.env len sz (eo s.env x) lo hi).bind fun v => some { v, p := none, dm := [], sg := s.sg, cl := false } := rfl
@[simp] theorem i_isnil (ne : Bool) (k : Nat) (x : Opd) : stepI call s (.isnil ne k x) = (isNilV k (eo s.env x)).bind fun b => some { v := .pv (.bool (b != ne)), p := none, dm := [], sg := s.sg, cl := false } := by
  simp only [stepI, plainO]; cases isNilV k (eo s.env x) <;> rfl
@[simp] theorem i_nilck_cell (x : Opd) : stepI call s (.nilck x) = match eo s.env x with
    | .cell b o => some { v := .cell b o, p := none, dm := [], sg := s.sg, cl := false }
    | .elem r o => some { v := .elem r o, p := none, dm := [], sg := s.sg, cl := false }
    | _ => none := by simp only [stepI]; cases eo s.env x <;> rfl
@[simp] theorem i_convI (k : IntKind) (x : Opd) : stepI call s (.conv (.int k) x) = (asI (eo s.env x)).bind fun n => some { v := .pv (.int k (k.wrap n)), p := none, dm := [], sg := s.sg, cl := false } := by
  simp only [stepI]; cases h : eo s.env x <;> first | rfl | (rename_i p; cases p <;> rfl)
@[simp] theorem i_convS (x : Opd) : stepI call s (.conv .same x) = onStr (eo s.env x) fun t => some { v := .pv (.str t), p := none, dm := [], sg := s.sg, cl := false } := by
  simp only [stepI]; cases h : eo s.env x <;> first | rfl | (rename_i p; cases p <;> rfl)
@[simp] theorem i_convB (x : Opd) : stepI call s (.conv .s2b x) = onStr (eo s.env x) fun t => if inS 1 t.length then some { v := .pv (.sl (ofBs t)), p := none, dm := [], sg := s.sg, cl := false } else none := by
  simp only [stepI]; cases h : eo s.env x <;> first | rfl | (rename_i p; cases p <;> rfl)
@[simp] theorem i_convR (x : Opd) : stepI call s (.conv .s2r x) = onStr (eo s.env x) fun t => if inS 1 t.length then some { v := .row s.sg.bl.length 0 t.length 1, p := none, dm := [], sg := { s.sg with bl := s.sg.bl ++ [t.map fun b => .pv (.int .u8 (b.toNat : Int))] }, cl := false } else none := by
  simp only [stepI]; cases h : eo s.env x <;> first | rfl | (rename_i p; cases p <;> rfl)
def b2sV (sg : Sig) : AV → Option (List UInt8)
  | .row b o n sz => match sg.bl[b]? with
    | some cs => if sz = 1 ∧ o + n ≤ cs.length then (purL ((cs.drop o).take n)).bind fun ps => toBs (ps.map fun p => [p]) else none
    | none => none
  | v => (rowsOf v).bind toBs
@[simp] theorem i_convT (x : Opd) : stepI call s (.conv .b2s x) = (b2sV s.sg (eo s.env x)).bind fun l => some { v := .pv (.str l), p := none, dm := [], sg := s.sg, cl := false } := by
  have key : ∀ z : Option (List UInt8), plainO s.sg (z.map fun l => .pv (.str l)) = z.bind fun l => some { v := .pv (.str l), p := none, dm := [], sg := s.sg, cl := false } := by intro z; cases z <;> rfl
  simp only [stepI]
  cases h : eo s.env x with
  | row b o n sz =>
    simp only [b2sV]
    cases s.sg.bl[b]? with
    | none => rfl
    | some cs =>
      simp only
      split
      · exact key _
      · rfl
  | _ => exact key _
end
@[simp] theorem s_b2sV_row (sg : Sig) (b o n sz : Nat) : b2sV sg (.row b o n sz) = match sg.bl[b]? with
    | some cs => if sz = 1 ∧ o + n ≤ cs.length then (purL ((cs.drop o).take n)).bind fun ps => toBs (ps.map fun p => [p]) else none
    | none => none := rfl
@[simp] theorem s_b2sV_sl (sg : Sig) (xs : List (List PV)) : b2sV sg (.pv (.sl xs)) = toBs xs := rfl
@[simp] theorem s_b2sV_own (sg : Sig) (sz : Nat) (xs : List (List PV)) : b2sV sg (.own sz xs) = toBs xs := rfl
@[simp] theorem s_b2sV_nils (sg : Sig) : b2sV sg .nils = some [] := rfl
@[simp] theorem s_loadV_cell (sg : Sig) (agg : Bool) (sz b o : Nat) : loadV sg agg sz (.cell b o) = match sg.bl[b]? with
    | some cs => if o + sz ≤ cs.length then some ((cs.drop o).take sz) else none
    | none => none := rfl
@[simp] theorem s_loadV_elem (sg : Sig) (agg : Bool) (sz o : Nat) (r : List PV) : loadV sg agg sz (.elem r o) = if o + sz ≤ r.length then some (((r.drop o).take sz).map .pv) else none := rfl
@[simp] theorem s_part_true (cs : List AV) : part true cs = some (.agg cs) := rfl
@[simp] theorem s_part_one (c : AV) : part false [c] = some c := rfl
@[simp] theorem s_asI (k : IntKind) (n : Int) : asI (.pv (.int k n)) = some n := rfl
@[simp] theorem s_lenS (b : List UInt8) : lenS (.pv (.str b)) = some (b.length : Int) := rfl
@[simp] theorem s_lenL_sl (xs : List (List PV)) : lenL (.pv (.sl xs)) = some (xs.length : Int) := rfl
@[simp] theorem s_lenL_own (sz : Nat) (xs : List (List PV)) : lenL (.own sz xs) = some (xs.length : Int) := rfl
@[simp] theorem s_lenL_nils : lenL .nils = some 0 := rfl
@[simp] theorem s_lenL_row (b o n sz : Nat) : lenL (.row b o n sz) = some (n : Int) := rfl
@[simp] theorem s_rowsOf_sl (xs : List (List PV)) : rowsOf (.pv (.sl xs)) = some xs := rfl
@[simp] theorem s_rowsOf_own (sz : Nat) (xs : List (List PV)) : rowsOf (.own sz xs) = some xs := rfl
@[simp] theorem s_rowsOf_nils : rowsOf .nils = some [] := rfl
@[simp] theorem s_srcOf_str (b : List UInt8) : srcOf (.pv (.str b)) = some (ofBs b) := rfl
@[simp] theorem s_srcOf_sl (xs : List (List PV)) : srcOf (.pv (.sl xs)) = some xs := rfl
@[simp] theorem s_srcOf_own (sz : Nat) (xs : List (List PV)) : srcOf (.own sz xs) = some xs := rfl
@[simp] theorem s_srcOf_nils : srcOf .nils = some [] := rfl
@[simp] theorem s_offAV_cell (k b o : Nat) : offAV k (.cell b o) = some (.cell b (o + k)) := rfl
@[simp] theorem s_offAV_elem (k o : Nat) (r : List PV) : offAV k (.elem r o) = some (.elem r (o + k)) := rfl
@[simp] theorem s_iadrV_row (sz b o n sz' : Nat) (i : Int) : iadrV sz (.row b o n sz') i = if sz' = sz ∧ inB i n then some (.cell b (o + i.toNat * sz)) else none := rfl
@[simp] theorem s_iadrV_sl (sz : Nat) (xs : List (List PV)) (i : Int) : iadrV sz (.pv (.sl xs)) i = if inB i xs.length then (xs[i.toNat]?).bind fun r => if r.length = sz then some (.elem r 0) else none else none := rfl
@[simp] theorem s_iadrV_own (sz sz' : Nat) (xs : List (List PV)) (i : Int) : iadrV sz (.own sz' xs) i = if inB i xs.length then (xs[i.toNat]?).bind fun r => if r.length = sz then some (.elem r 0) else none else none := rfl
@[simp] theorem s_pur1_pv (p : PV) : pur1 (.pv p) = some p := rfl
@[simp] theorem s_pur1_own (sz : Nat) (xs : List (List PV)) : pur1 (.own sz xs) = some (.sl xs) := rfl
@[simp] theorem s_pur1_nils : pur1 .nils = some (.sl []) := rfl
@[simp] theorem s_wanted_none (e : Env) : wantedM e none = some true := rfl
def wB (b : Bool) : AV → Option Bool
  | .pv (.bool c) => some (c == b)
  | .tup [] => some false
  | _ => none
@[simp] theorem s_wanted_some (e : Env) (t : Nat) (b : Bool) : wantedM e (some (t, b)) = wB b (get e t) := by
  show (match get e t with
    | .pv (.bool c) => some (c == b)
    | .tup [] => some false
    | _ => none) = wB b (get e t)
  generalize get e t = v
  cases v with
  | pv p => cases p <;> rfl
  | tup l => cases l <;> rfl
  | _ => rfl
@[simp] theorem s_wB_bool (b c : Bool) : wB b (.pv (.bool c)) = some (c == b) := rfl
@[simp] theorem s_wB_tup (b : Bool) : wB b (.tup []) = some false := rfl
@[simp] theorem b_add (k : IntKind) (a b : Int) : binV .add (.pv (.int k a)) (.pv (.int k b)) = some (.pv (.int k (k.wrap (a + b)))) := by simp [binV, binI]
@[simp] theorem b_sub (k : IntKind) (a b : Int) : binV .sub (.pv (.int k a)) (.pv (.int k b)) = some (.pv (.int k (k.wrap (a - b)))) := by simp [binV, binI]
@[simp] theorem b_mul (k : IntKind) (a b : Int) : binV .mul (.pv (.int k a)) (.pv (.int k b)) = some (.pv (.int k (k.wrap (a * b)))) := by simp [binV, binI]
@[simp] theorem b_quo (k : IntKind) (a b : Int) : binV .quo (.pv (.int k a)) (.pv (.int k b)) = if b = 0 then none else some (.pv (.int k (k.wrap (a.tdiv b)))) := by simp [binV, binI]; split <;> rfl
@[simp] theorem b_rem (k : IntKind) (a b : Int) : binV .rem (.pv (.int k a)) (.pv (.int k b)) = if b = 0 then none else some (.pv (.int k (a.tmod b))) := by simp [binV, binI]; split <;> rfl
@[simp] theorem b_and (k : IntKind) (a b : Int) : binV .and (.pv (.int k a)) (.pv (.int k b)) = some (.pv (.int k (k.wrap ((BitVec.ofInt k.bits a &&& BitVec.ofInt k.bits b).toNat)))) := by simp [binV, binI]
@[simp] theorem b_or (k : IntKind) (a b : Int) : binV .or (.pv (.int k a)) (.pv (.int k b)) = some (.pv (.int k (k.wrap ((BitVec.ofInt k.bits a ||| BitVec.ofInt k.bits b).toNat)))) := by simp [binV, binI]
@[simp] theorem b_eql (k : IntKind) (a b : Int) : binV .eql (.pv (.int k a)) (.pv (.int k b)) = some (.pv (.bool (a == b))) := by simp [binV, binI]
@[simp] theorem b_neq (k : IntKind) (a b : Int) : binV .neq (.pv (.int k a)) (.pv (.int k b)) = some (.pv (.bool (a != b))) := by simp [binV, binI]
@[simp] theorem b_lss (k : IntKind) (a b : Int) : binV .lss (.pv (.int k a)) (.pv (.int k b)) = some (.pv (.bool (decide (a < b)))) := by simp [binV, binI]
@[simp] theorem b_leq (k : IntKind) (a b : Int) : binV .leq (.pv (.int k a)) (.pv (.int k b)) = some (.pv (.bool (decide (a ≤ b)))) := by simp [binV, binI]
@[simp] theorem b_gtr (k : IntKind) (a b : Int) : binV .gtr (.pv (.int k a)) (.pv (.int k b)) = some (.pv (.bool (decide (b < a)))) := by simp [binV, binI]
@[simp] theorem b_geq (k : IntKind) (a b : Int) : binV .geq (.pv (.int k a)) (.pv (.int k b)) = some (.pv (.bool (decide (b ≤ a)))) := by simp [binV, binI]
@[simp] theorem b_shl (k k' : IntKind) (a b : Int) : binV .shl (.pv (.int k a)) (.pv (.int k' b)) = if b < 0 then none else some (.pv (.int k (k.wrap (a * 2 ^ (min b.toNat k.bits))))) := rfl
@[simp] theorem b_shr (k k' : IntKind) (a b : Int) : binV .shr (.pv (.int k a)) (.pv (.int k' b)) = if b < 0 then none else some (.pv (.int k (a.fdiv (2 ^ (min b.toNat k.bits))))) := rfl
@[simp] theorem b_sadd (a b : List UInt8) : binV .add (.pv (.str a)) (.pv (.str b)) = if a.length + b.length ≤ maxI then some (.pv (.str (a ++ b))) else none := rfl
@[simp] theorem b_seql (a b : List UInt8) : binV .eql (.pv (.str a)) (.pv (.str b)) = some (.pv (.bool (a == b))) := rfl
@[simp] theorem b_sneq (a b : List UInt8) : binV .neq (.pv (.str a)) (.pv (.str b)) = some (.pv (.bool (!(a == b)))) := rfl
@[simp] theorem u_neg (k : IntKind) (n : Int) : unV .neg (.pv (.int k n)) = some (.pv (.int k (k.wrap (0 - n)))) := rfl
@[simp] theorem u_not (b : Bool) : unV .not (.pv (.bool b)) = some (.pv (.bool (!b))) := rfl
@[simp] theorem s_taken_c (e : Env) (v : AV) : taken e (.c v) = [] := rfl
@[simp] theorem s_taken_t (e : Env) (n : Nat) : taken e (.t n) = if isOwn (get e n) then [n] else [] := rfl
@[simp] theorem s_eo_t (e : Env) (n : Nat) : eo e (.t n) = get e n := rfl
@[simp] theorem s_eo_c (e : Env) (v : AV) : eo e (.c v) = v := rfl
@[simp] theorem s_closed_pv (p : PV) : closed1 (.pv p) = true := rfl
@[simp] theorem s_closed_nils : closed1 .nils = true := rfl
@[simp] theorem s_closedA_agg (cs : List AV) : closedA (.agg cs) = cs.all closed1 := rfl
@[simp] theorem s_closedA_pv (p : PV) : closedA (.pv p) = true := rfl
@[simp] theorem s_closedA_nils : closedA .nils = true := rfl
@[simp] theorem s_closedA_nilif : closedA .nilif = true := rfl
@[simp] theorem s_closedA_cell (b o : Nat) : closedA (.cell b o) = false := rfl
@[simp] theorem s_closedA_row (b o n sz : Nat) : closedA (.row b o n sz) = false := rfl
@[simp] theorem s_closedA_fn (f : Nat) (l : List AV) : closedA (.fn f l) = false := rfl
@[simp] theorem s_closedA_elem (r : List PV) (o : Nat) : closedA (.elem r o) = false := rfl
@[simp] theorem s_freeze_pv (sg : Sig) (p : PV) : freeze sg (.pv p) = some (.pv p) := rfl
@[simp] theorem s_freeze_own (sg : Sig) (sz : Nat) (xs : List (List PV)) : freeze sg (.own sz xs) = some (.pv (.sl xs)) := rfl
@[simp] theorem s_freeze_nils (sg : Sig) : freeze sg .nils = some (.pv (.sl [])) := rfl
@[simp] theorem s_freeze_nilif (sg : Sig) : freeze sg .nilif = some .nilif := rfl
@[simp] theorem s_freeze_nilp (sg : Sig) : freeze sg .nilp = some .nilp := rfl
@[simp] theorem s_freeze_row (sg : Sig) (b o n sz : Nat) : freeze sg (.row b o n sz) = match sg.bl[b]? with
    | some cs => if sg.fl ≤ b ∧ o + n * sz ≤ cs.length then (purL ((cs.drop o).take (n * sz))).map fun ps => .pv (.sl (chunk sz n ps)) else none
    | none => none := rfl
@[simp] theorem s_freezeA_agg (sg : Sig) (cs : List AV) : freezeA sg (.agg cs) = (freezeL sg cs).map .agg := rfl
@[simp] theorem s_freezeA_pv (sg : Sig) (p : PV) : freezeA sg (.pv p) = some (.pv p) := rfl
@[simp] theorem s_freezeA_own (sg : Sig) (sz : Nat) (xs : List (List PV)) : freezeA sg (.own sz xs) = some (.pv (.sl xs)) := rfl
@[simp] theorem s_freezeA_nils (sg : Sig) : freezeA sg .nils = some (.pv (.sl [])) := rfl
@[simp] theorem s_freezeA_nilif (sg : Sig) : freezeA sg .nilif = some .nilif := rfl
@[simp] theorem s_freezeA_row (sg : Sig) (b o n sz : Nat) : freezeA sg (.row b o n sz) = freeze sg (.row b o n sz) := rfl
@[simp] theorem s_freezeV_tup (sg : Sig) (vs : List AV) : freezeV sg (.tup vs) = (freezeAL sg vs).map .tup := rfl
@[simp] theorem s_freezeV_agg (sg : Sig) (cs : List AV) : freezeV sg (.agg cs) = (freezeL sg cs).map .agg := rfl
@[simp] theorem s_freezeV_pv (sg : Sig) (p : PV) : freezeV sg (.pv p) = some (.pv p) := rfl
@[simp] theorem s_freezeV_own (sg : Sig) (sz : Nat) (xs : List (List PV)) : freezeV sg (.own sz xs) = some (.pv (.sl xs)) := rfl
@[simp] theorem s_freezeV_nils (sg : Sig) : freezeV sg .nils = some (.pv (.sl [])) := rfl
@[simp] theorem s_freezeV_nilif (sg : Sig) : freezeV sg .nilif = some .nilif := rfl
@[simp] theorem s_freezeV_row (sg : Sig) (b o n sz : Nat) : freezeV sg (.row b o n sz) = freeze sg (.row b o n sz) := rfl
@[simp] theorem s_fin_nrm (mf : MFun) (sg : Sig) (e : Env) (sg1 : Sig) : fin mf sg (.nrm, e, sg1) = (resV e sg1 mf.res).bind fun v => if mf.clean then (freezeV sg1 v).map fun r => (r, sg) else some (v, sg1) := rfl
@[simp] theorem s_fin_ret (mf : MFun) (sg : Sig) (e : Env) (sg1 : Sig) : fin mf sg (.ret, e, sg1) = (resV e sg1 mf.res).bind fun v => if mf.clean then (freezeV sg1 v).map fun r => (r, sg) else some (v, sg1) := rfl
attribute [simp] ex_skip ex_exit ex_ret ex_reg ex_draw ex_loud ex_seq ex_cond ex_block ex_kp ex_mlit opsW opsD inOrd nop applyU demSlots get look put lookP restrict
attribute [simp] bnd inB demL storeV cellAt setCells fillA inS slotOf argsOf purL headIs rowsA buildA homeOf atHome homeS homeC minL minG maxL maxG eqAV eqPs eqP kindP toB startSg enter resV resL res1 freezeAL freezeL sliceAV sliceV sliceS sliceL mfind isNilV ownOf chunk
end Go.Proofs.YtggoaggneapneaaDoorM
