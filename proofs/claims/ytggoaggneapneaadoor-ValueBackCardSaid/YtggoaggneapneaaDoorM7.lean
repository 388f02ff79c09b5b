/-
  The mirror, part 7: which operation of the loaded code an instruction stands for; each does what the machine does.
-/
import Derived.Test.YtggoaggneapneaaDoorM6
set_option linter.unusedVariables false
set_option linter.unusedSimpArgs false
namespace Go.Proofs.YtggoaggneapneaaDoorM
open Go
variable {X : Nat → Prop} {g g' : G} {nt : Nat} {s : St} {a : Act} {w w' : World} {F : Facts} {P : Program}

def OOK (x : Opd) (y : Operand) : Prop :=
  match x, y with
  | .t n, .tmp m => n = m
  | .c v, .const cv => (∀ g, ARep g v cv) ∧ isOwn v = false
  | .c v, .func f => v = .fn f []
  | .c v, .global k => (∀ g : G, (∀ b o x, B0 b o = some x → g.F b o = some x) → ARep g v (.pointer (some ⟨k, 0, none⟩))) ∧ isOwn v = false
  | _, _ => False
def OOKs : List Opd → List Operand → Prop
  | [], [] => True
  | x :: l, y :: m => OOK x y ∧ OOKs l m
  | _, _ => False
def OOKo : Option Opd → Option Operand → Prop
  | none, none => True
  | some x, some y => OOK x y
  | _, _ => False
def ZOK (z : List AV) (vs : List Value) : Prop :=
  z.length = vs.length ∧ ∀ (j : Nat) x v, z[j]? = some x → vs[j]? = some v → (∀ g, ARep g x v) ∧ isCell x = true ∧ isOwn x = false
def SizeIs (P : Program) (t : TypeId) (sz : Nat) : Prop := ∃ i, P.info? t = some i ∧ i.size = sz
def AggIs (P : Program) (t : TypeId) (agg : Bool) : Prop := ∃ d, P.underlying t = some d ∧ (match d with | .struct _ => true | .array _ _ => true | _ => false) = agg
def ElemIs (P : Program) (e : TypeId) (sz bytes : Nat) : Prop := ∃ i z, P.info? e = some i ∧ i.size = sz ∧ i.bytes = bytes ∧ i.zero = some z ∧ z.cells.size = sz

def isCallI : MI → Bool
  | .call _ _ => true
  | .callc _ _ => true
  | .callv _ _ => true
  | _ => false

def PartsOK (pl : Nat → Option (Nat × Nat)) : List (Nat × Nat × Opd) → List (Nat × Operand) → Prop
  | [], [] => True
  | (off, sz, x) :: l, (i, y) :: m => pl i = some (off, sz) ∧ OOK x y ∧ PartsOK pl l m
  | _, _ => False

def kindD : TypeDesc → Nat
  | .int _ => 0
  | .bool => 1
  | .string => 2
  | _ => 9
def Scal (P : Program) : Nat → List Nat → List Field → Prop
  | _, [], [] => True
  | i, k :: ks, f :: l => f.offset = i ∧ f.name ≠ "_" ∧ (∃ d, P.underlying f.type = some d ∧ kindD d = k ∧ k < 3) ∧ Scal P (i + 1) ks l
  | _, _, _ => False
def IOK (P : Program) : MI → Op → Prop
  | .mov x, .move y => OOK x y
  | .mov x, .assign y => OOK x y
  | .movd x, .move y => OOK x y
  | .movd x, .assign y => OOK x y
  | .loadd agg sz x, .load t y => OOK x y ∧ AggIs P t agg ∧ SizeIs P t sz
  | .appS sz bytes x y _, .call c => ∃ t u x' y' e d, c = { callee := .builtin .append, args := #[x', y'], argTypes := #[t, u] } ∧ OOK x x' ∧ OOK y y' ∧ P.underlying t = some (.slice e) ∧ ElemIs P e sz bytes ∧ 0 < bytes ∧
      P.underlying u = some d ∧ ((∃ e2, d = .slice e2) ∨ d = .string)
  | .appC sz bytes x y, .call c => ∃ t u x' y' e d, c = { callee := .builtin .append, args := #[x', y'], argTypes := #[t, u] } ∧ OOK x x' ∧ OOK y y' ∧ P.underlying t = some (.slice e) ∧ ElemIs P e sz bytes ∧ 0 < bytes ∧
      P.underlying u = some d ∧ ((∃ e2, d = .slice e2) ∨ d = .string)
  | .asg x, .assign y => OOK x y
  | .pick c x y, .pick c' x' y' => OOK c c' ∧ OOK x x' ∧ OOK y y'
  | .alloc z, .alloc t => ∃ i zv, P.info? t = some i ∧ i.zero = some zv ∧ ZOK z zv.cells.toList
  | .box _ x, .box _ y => OOK x y
  | .build z parts, .build t ps => ∃ i zv, P.info? t = some i ∧ i.zero = some zv ∧ ZOK z zv.cells.toList ∧
      ((∃ fs, P.underlying t = some (.struct fs) ∧ (∀ f ∈ fs.toList, ∃ i, P.info? f.type = some i) ∧ PartsOK (fun i => (fs[i]?).map fun f => (f.offset, P.cellsOf f.type)) parts ps.toList) ∨
       ∃ n e, P.underlying t = some (.array n e) ∧ (∃ i, P.info? e = some i) ∧ PartsOK (fun i => some (i * P.cellsOf e, P.cellsOf e)) parts ps.toList)
  | .bsl sz xs, .buildSlice t len ps => ∃ e bytes ys, P.underlying t = some (.slice e) ∧ ElemIs P e sz bytes ∧ len * sz ≤ 16777216 ∧ len = xs.length ∧ 0 < sz ∧
      ps.toList = (List.range len).zip ys ∧ OOKs xs ys
  | .load agg sz x, .load t y => OOK x y ∧ AggIs P t agg ∧ SizeIs P t sz
  | .store sz x y, .store t x' y' => OOK x x' ∧ OOK y y' ∧ SizeIs P t sz
  | .nilck x, .nilCheck y => OOK x y
  | .bin op x y, .binOp op' _ x' y' _ => op = op' ∧ OOK x x' ∧ OOK y y'
  | .beq ne x y, .binOp op t x' y' _ => op = (if ne then .neq else .eql) ∧ OOK x x' ∧ OOK y y' ∧ P.underlying t = some .bool
  | .un op x, .unOp op' _ y => op = op' ∧ OOK x y
  | .eqA ne ks x y, .binOp op t x' y' _ => op = (if ne then .neq else .eql) ∧ OOK x x' ∧ OOK y y' ∧ P.stoodInHeld t = false ∧ P.eqGuardType P.depth t = false ∧ ∃ fs, P.underlying t = some (.struct fs) ∧ Scal P 0 ks fs.toList
  | .conv k x, .convert t u y => OOK x y ∧ (match k with
      | .int k => ∃ k', P.underlying t = some (.int k') ∧ P.underlying u = some (.int k)
      | .same => P.underlying t = some .string ∧ P.underlying u = some .string
      | .s2b => ∃ e, P.underlying t = some .string ∧ P.underlying u = some (.slice e) ∧ P.underlying e = some (.int .u8)
      | .s2r => ∃ e, P.underlying t = some .string ∧ P.underlying u = some (.slice e) ∧ P.underlying e = some (.int .u8)
      | .b2s => ∃ e, P.underlying t = some (.slice e) ∧ P.underlying u = some .string ∧ P.underlying e = some (.int .u8))
  | .sliceA len sz x lo hi, .slice t y lo' hi' mx' => OOK x y ∧ OOKo lo lo' ∧ OOKo hi hi' ∧ mx' = none ∧ ∃ e, P.underlying t = some (.array len e) ∧ SizeIs P e sz
  | .slice st sz x lo hi mx, .slice t y lo' hi' mx' => OOK x y ∧ OOKo lo lo' ∧ OOKo hi hi' ∧ OOKo mx mx' ∧ (if st then P.underlying t = some .string else ∃ e, P.underlying t = some (.slice e) ∧ SizeIs P e sz)
  | .fadr off x, .fieldAddr t y f => OOK x y ∧ ∃ fs fl sz, P.underlying t = some (.struct fs) ∧ fs[f]? = some fl ∧ fl.offset = off ∧ SizeIs P fl.type sz ∧ sz ≠ 0
  | .fld agg sz off x, .field t y f => OOK x y ∧ ∃ fs fl, P.underlying t = some (.struct fs) ∧ fs[f]? = some fl ∧ fl.offset = off ∧ SizeIs P fl.type sz ∧ AggIs P fl.type agg
  | .iadr sz x i, .indexAddr t y j => OOK x y ∧ OOK i j ∧ ∃ e, P.underlying t = some (.slice e) ∧ SizeIs P e sz
  | .iadrA len sz x i, .indexAddr t y j => OOK x y ∧ OOK i j ∧ ∃ e, P.underlying t = some (.array len e) ∧ SizeIs P e sz
  | .idxS x i, .index t y j => OOK x y ∧ OOK i j ∧ P.underlying t = some .string
  | .idxA len agg sz x i, .index t y j => OOK x y ∧ OOK i j ∧ ∃ e, P.underlying t = some (.array len e) ∧ SizeIs P e sz ∧ AggIs P e agg
  | .mkfn f caps, .makeFunc fn first cs => fn = .func f ∧ first = #[] ∧ OOKs caps cs.toList
  | .mkif t x, .makeInterface t' y => t = t' ∧ OOK x y ∧ ∃ d, P.underlying t = some d ∧ ∀ ms, d ≠ .interface ms
  | .tas t ok x, .typeAssert y _ t' ok' => t = t' ∧ ok = ok' ∧ OOK x y ∧ ∃ d, P.underlying t = some d ∧ ∀ ms, d ≠ .interface ms
  | .ext i x, .extract y j => i = j ∧ OOK x y
  | .len st x, .call c => ∃ t y, c = { callee := .builtin .len, args := #[y], argTypes := #[t] } ∧ OOK x y ∧ (if st then P.underlying t = some .string else ∃ e, P.underlying t = some (.slice e))
  | .bad, _ => True
  | .isnil ne k x, .binOp op t y (.const nv) _ => op = (if ne then .neq else .eql) ∧ OOK x y ∧ ∃ d, P.underlying t = some d ∧
      (k = 0 ∧ (∃ ms, d = .interface ms) ∧ nv = .nilIface ∨ k = 1 ∧ (∃ e, d = .pointer e) ∧ nv = .pointer none ∨ k = 2 ∧ (∃ e, d = .slice e) ∧ nv = .slice none 0 0 ∨ k = 3 ∧ (∃ a b c, d = .func a b c) ∧ nv = .nilFunc)
  | .lkp x k, .lookup t y z ok => ok = true ∧ OOK x y ∧ OOK k z ∧ ∃ kt et, P.underlying t = some (.map kt et) ∧ P.underlying kt = some .string ∧ ∃ i, P.info? et = some i ∧ i.zero = some (.int .i64 0)
  | .lenA n, .call c => ∃ t y, c = { callee := .builtin .len, args := #[y], argTypes := #[t] } ∧ ((∃ e, P.underlying t = some (.array n e)) ∨ ∃ p e, P.underlying t = some (.pointer p) ∧ P.underlying p = some (.array n e))
  | .mn xs, .call c => ∃ ts ys, c = { callee := .builtin .min, args := ys, argTypes := ts } ∧ OOKs xs ys.toList
  | .mx xs, .call c => ∃ ts ys, c = { callee := .builtin .max, args := ys, argTypes := ts } ∧ OOKs xs ys.toList
  | .app sz bytes x y, .call c => ∃ t u x' y' e d, c = { callee := .builtin .append, args := #[x', y'], argTypes := #[t, u] } ∧ OOK x x' ∧ OOK y y' ∧ P.underlying t = some (.slice e) ∧ ElemIs P e sz bytes ∧ 0 < bytes ∧
      P.underlying u = some d ∧ ((∃ e2, d = .slice e2) ∨ d = .string)
  | .mks sz bytes z n, .makeSlice t l c => l = c ∧ OOK n l ∧ ∃ e i zv, P.underlying t = some (.slice e) ∧ P.info? e = some i ∧ i.size = sz ∧ i.bytes = bytes ∧ i.zero = some zv ∧ ZOK z zv.cells.toList ∧ 0 < sz ∧ 0 < bytes
  | .call f args, .call c => ∃ ys, c.callee = .value (.func f) ∧ c.args = ys ∧ OOKs args ys.toList
  | .callc f args, .call c => ∃ ys, c.callee = .value (.func f) ∧ c.args = ys ∧ OOKs args ys.toList
  | .callv f args, .call c => ∃ y ys, c.callee = .value y ∧ OOK f y ∧ c.args = ys ∧ OOKs args ys.toList
  | _, _ => False

/-! ### Operands -/
theorem WRel.opd (h : WRel X g nt s a w) {x : Opd} {y : Operand} (hx : OOK x y) : ARep g (eo s.env x) (a.eval y) := by
  cases x with
  | t n =>
    cases y with
    | tmp m => simp only [OOK] at hx; subst hx; exact h.get_rep n
    | const v => exact hx.elim
    | global k => exact hx.elim
    | func f => exact hx.elim
  | c v =>
    cases y with
    | tmp m => exact hx.elim
    | const cv => exact hx.1 g
    | global k => exact hx.1 g h.bas
    | func f =>
      simp only [OOK] at hx
      subst hx
      exact .fn f [] [] rfl (by simp)
theorem OOK.notOwn {v : AV} {y : Operand} (hx : OOK (.c v) y) : isOwn v = false := by
  cases y with
  | tmp m => exact hx.elim
  | const cv => exact hx.2
  | global k => exact hx.2
  | func f => simp only [OOK] at hx; subst hx; rfl
theorem WRel.opds (h : WRel X g nt s a w) : ∀ {xs : List Opd} {ys : List Operand}, OOKs xs ys →
    (xs.map (eo s.env)).length = (ys.map a.eval).length ∧ ∀ (j : Nat) x v, (xs.map (eo s.env))[j]? = some x → (ys.map a.eval)[j]? = some v → ARep g x v
  | [], [], _ => ⟨rfl, by simp⟩
  | x :: l, y :: m, hx => by
    obtain ⟨h1, h2⟩ := h.opds hx.2
    refine ⟨by simp at h1 ⊢; exact h1, ?_⟩
    intro j x' v e1 e2
    cases j with
    | zero => simp at e1 e2; subst e1; subst e2; exact h.opd hx.1
    | succ j => simp at e1 e2; exact h2 j x' v (by simpa using e1) (by simpa using e2)
  | [], _ :: _, hx => hx.elim
  | _ :: _, [], hx => hx.elim

theorem rep_int {k : IntKind} {n : Int} {v : Value} (h : ARep g (.pv (.int k n)) v) : v = .int k n := by
  cases h with | pv p v h => cases h; rfl
theorem rep_bool {b : Bool} {v : Value} (h : ARep g (.pv (.bool b)) v) : v = .bool b := by
  cases h with | pv p v h => cases h; rfl
theorem rep_str {t : List UInt8} {v : Value} (h : ARep g (.pv (.str t)) v) : ∃ bs : ByteArray, v = .string bs ∧ bs.data.toList = t := by
  cases h with | pv p v h => cases h with | str s bs h => exact ⟨bs, rfl, h⟩
theorem rep_asI {x : AV} {v : Value} {n : Int} (h : ARep g x v) (e : asI x = some n) : ∃ k, v = .int k n := by
  cases x with
  | pv p =>
    cases p with
    | int k m => simp [asI] at e; subst e; exact ⟨k, rep_int h⟩
    | _ => simp [asI] at e
  | _ => simp [asI] at e
theorem bytes_size {bs : ByteArray} {t : List UInt8} (h : bs.data.toList = t) : bs.size = t.length := by
  rw [← h]; show bs.data.size = _; exact (Array.length_toList).symm
/-- A slice that is read: what it is told to hold. -/
theorem rep_rows {x : AV} {v : Value} {xs : List (List PV)} (h : ARep g x v) (e : rowsOf x = some xs) : ∃ ad c, v = .slice ad xs.length c ∧ VRep g.F (.sl xs) v ∧ xs.length ≤ c := by
  cases x with
  | pv p =>
    cases p with
    | sl ys =>
      simp [rowsOf] at e
      subst e
      cases h with
      | pv p v h => cases h with
        | slE a c => exact ⟨a, c, rfl, .slE a c, Nat.zero_le _⟩
        | sl _ b o c sz cv hc hn hF hR => exact ⟨_, c, rfl, .sl _ b o c sz cv hc hn hF hR, hc⟩
    | _ => simp [rowsOf] at e
  | own sz ys =>
    simp [rowsOf] at e
    subst e
    cases h with
    | own sz xs b o c h hs =>
      refine ⟨_, c, rfl, h, ?_⟩
      cases h with
      | slE a c => exact Nat.zero_le _
      | sl xs b o c sz cv hc hn hF hR => exact hc
  | nils => simp [rowsOf] at e; subst e; cases h; exact ⟨none, 0, rfl, .slE none 0, Nat.le_refl _⟩
  | _ => simp [rowsOf] at e

theorem cells_one {v : Value} (h : v.oneCell' = true) : v.cells = #[v] := by cases v <;> first | rfl | simp [Value.oneCell'] at h
theorem ARep.oneCell {x : AV} {v : Value} (h : ARep g x v) (hx : isCell x = true) : v.oneCell' = true := by
  cases h with
  | pv p v h => exact h.oneCell
  | agg => simp [isCell] at hx
  | tup => simp [isCell] at hx
  | bot => simp [isCell] at hx
  | _ => rfl
/-- The cells of a value. -/
theorem rep_cells {x : AV} {v : Value} (h : ARep g x v) (hc : (cellsOf x).all isCell = true) :
    (cellsOf x).length = v.cells.size ∧ ∀ (j : Nat) y u, (cellsOf x)[j]? = some y → v.cells[j]? = some u → ARep g y u := by
  cases x with
  | agg cs =>
    cases h with
    | agg cs vs hl h => exact ⟨by simpa [cellsOf, Value.cells] using hl, fun j y u e1 e2 => h j y u e1 (by simpa [Value.cells] using e2)⟩
  | _ =>
    simp only [cellsOf, List.all_cons, List.all_nil, Bool.and_true] at hc
    have := cells_one (h.oneCell hc)
    rw [this]
    refine ⟨rfl, fun j y u e1 e2 => ?_⟩
    cases j with
    | zero => simp [cellsOf] at e1 e2; subst e1; subst e2; exact h
    | succ j => simp [cellsOf] at e1
theorem isCell_dem (x : AV) : isCell (dem x) = isCell x := by cases x <;> rfl
theorem demL_get {l : List AV} {j : Nat} {y : AV} (e : (demL l)[j]? = some y) : ∃ x, l[j]? = some x ∧ y = dem x := by
  simp only [demL, List.getElem?_map] at e
  obtain ⟨x, h1, h2⟩ := Option.map_eq_some_iff.1 e
  exact ⟨x, h1, h2.symm⟩
theorem demL_all (l : List AV) : (demL l).all isCell = l.all isCell := by
  induction l with
  | nil => rfl
  | cons x l ih => simp only [demL, List.map_cons, List.all_cons, isCell_dem] at ih ⊢; rw [ih]

theorem run_under {t : TypeId} {d : TypeDesc} (h : P.underlying t = some d) (w : World) : (underlying t).run P w = .ok d w := run_underlying h w
theorem run_info {t : TypeId} {i : TypeInfo} (h : P.info? t = some i) (w : World) : (typeInfo t).run P w = .ok i w := by
  simp [typeInfo, h]
theorem run_size {t : TypeId} {sz : Nat} (h : SizeIs P t sz) (w : World) : (sizeOf t).run P w = .ok sz w := by
  obtain ⟨i, h1, h2⟩ := h
  simp [sizeOf, typeInfo, h1, h2]
theorem run_zero {t : TypeId} {i : TypeInfo} {z : Value} (h : P.info? t = some i) (hz : i.zero = some z) (w : World) : (zeroValue t).run P w = .ok z w := by
  simp [zeroValue, typeInfo, h, hz]
theorem run_agg {t : TypeId} {b : Bool} (h : AggIs P t b) (w : World) : (isAgg t).run P w = .ok b w := by
  obtain ⟨d, h1, h2⟩ := h
  subst h2
  unfold isAgg
  rw [Sem.run_bind, run_underlying h1]
  cases d <;> rfl
end Go.Proofs.YtggoaggneapneaaDoorM
