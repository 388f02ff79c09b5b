/-
  The mirror, part 22: the check that a copy is a copy: a computation, and what its truth says.
-/
import Derived.Test.YtggoaggneapneaaDoorM21
import Derived.Test.YtggoaggneapneaaDoorM27
set_option linter.unusedVariables false
set_option linter.unusedSimpArgs false
namespace Go.Proofs.YtggoaggneapneaaDoorM
open Go
variable {P : Program} {M : Mach}

def chkV1 : AV → Value → Bool
  | .pv (.int k n), .int k' m => decide (k = k') && decide (n = m)
  | .pv (.bool b), .bool c => b == c
  | .pv (.str s), .string bs => decide (bs.data.toList = s)
  | .nils, .slice none 0 0 => true
  | .nilp, .pointer none => true
  | .nilfn, .nilFunc => true
  | .nilif, .nilIface => true
  | _, _ => false
theorem chkV1_ok {x : AV} {v : Value} (h : chkV1 x v = true) : (∀ g, ARep g x v) ∧ isCell x = true ∧ isOwn x = false := by
  unfold chkV1 at h
  split at h
  · simp only [Bool.and_eq_true, decide_eq_true_eq] at h
    obtain ⟨rfl, rfl⟩ := h
    exact ⟨fun g => .pv _ _ (.int _ _), rfl, rfl⟩
  · simp only [beq_iff_eq] at h
    subst h
    exact ⟨fun g => .pv _ _ (.bool _), rfl, rfl⟩
  · simp only [decide_eq_true_eq] at h
    exact ⟨fun g => .pv _ _ (.str _ _ h), rfl, rfl⟩
  · exact ⟨fun g => .nils, rfl, rfl⟩
  · exact ⟨fun g => .nilp, rfl, rfl⟩
  · exact ⟨fun g => .nilfn, rfl, rfl⟩
  · exact ⟨fun g => .nilif, rfl, rfl⟩
  · cases h
def chkZ : List AV → List Value → Bool
  | [], [] => true
  | x :: l, v :: m => chkV1 x v && chkZ l m
  | _, _ => false
theorem chkZ_ok : ∀ {z : List AV} {vs : List Value}, chkZ z vs = true → ZOK z vs
  | [], [], _ => ⟨rfl, by simp⟩
  | x :: l, v :: m, h => by
    simp only [chkZ, Bool.and_eq_true] at h
    obtain ⟨h1, h2⟩ := chkZ_ok h.2
    refine ⟨by simp [h1], fun j x' v' e1 e2 => ?_⟩
    cases j with
    | zero => simp at e1 e2; subst e1; subst e2; exact chkV1_ok h.1
    | succ j => exact h2 j x' v' (by simpa using e1) (by simpa using e2)
  | [], _ :: _, h => by cases h
  | _ :: _, [], h => by cases h
def chkV : AV → Value → Bool
  | .agg cs, .agg vs => chkZ cs vs.toList
  | x, v => chkV1 x v
theorem chkV_ok {x : AV} {v : Value} (h : chkV x v = true) : (∀ g, ARep g x v) ∧ isOwn x = false := by
  unfold chkV at h
  split at h
  · rename_i cs vs
    obtain ⟨h1, h2⟩ := chkZ_ok h
    refine ⟨fun g => ?_, rfl⟩
    have e : vs = vs.toList.toArray := by apply Array.ext'; simp
    rw [e]
    exact .agg _ _ h1 fun j x v e1 e2 => (h2 j x v e1 e2).1 g
  · obtain ⟨h1, _, h3⟩ := chkV1_ok h
    exact ⟨h1, h3⟩

def chkB0 (k : Nat) : Nat → List PV → Bool
  | _, [] => true
  | j, p :: r => (match B0 k j with
    | some v => chkV1 (.pv p) v
    | none => false) && chkB0 k (j + 1) r
theorem chkB0_ok {k : Nat} : ∀ {r : List PV} {j : Nat}, chkB0 k j r = true → ∀ (i : Nat) p, r[i]? = some p → ∃ v, B0 k (j + i) = some v ∧ ∀ g, ARep g (.pv p) v
  | [], _, _ => by simp
  | p :: r, j, h => by
    simp only [chkB0, Bool.and_eq_true] at h
    intro i p' hi
    cases i with
    | zero =>
      simp at hi
      subst hi
      have h1 := h.1
      split at h1
      · rename_i v hv; exact ⟨v, hv, (chkV1_ok h1).1⟩
      · cases h1
    | succ i =>
      obtain ⟨v, h1, h2⟩ := chkB0_ok h.2 i p' (by simpa using hi)
      exact ⟨v, by rw [← h1]; congr 1; omega, h2⟩
def chkO : Opd → Operand → Bool
  | .t n, .tmp m => n == m
  | .c v, .const cv => chkV v cv
  | .c (.fn f []), .func f' => f == f'
  | .c (.elem r 0), .global k => chkB0 k 0 r
  | _, _ => false
theorem chkO_ok {x : Opd} {y : Operand} (h : chkO x y = true) : OOK x y := by
  unfold chkO at h
  split at h
  · simpa [OOK] using h
  · exact chkV_ok h
  · simp only [beq_iff_eq] at h
    subst h; rfl
  · rename_i r k
    refine ⟨fun g hg => ?_, rfl⟩
    refine .elem r 0 k 0 fun j p hj => ?_
    obtain ⟨v, h1, h2⟩ := chkB0_ok h j p hj
    refine ⟨v, hg k _ v h1, ?_⟩
    cases h2 g with
    | pv _ _ h3 => exact h3
  · cases h
def chkOs : List Opd → List Operand → Bool
  | [], [] => true
  | x :: l, y :: m => chkO x y && chkOs l m
  | _, _ => false
theorem chkOs_ok : ∀ {l : List Opd} {m : List Operand}, chkOs l m = true → OOKs l m
  | [], [], _ => trivial
  | x :: l, y :: m, h => by
    simp only [chkOs, Bool.and_eq_true] at h
    exact ⟨chkO_ok h.1, chkOs_ok h.2⟩
  | [], _ :: _, h => by cases h
  | _ :: _, [], h => by cases h
def chkOo : Option Opd → Option Operand → Bool
  | none, none => true
  | some x, some y => chkO x y
  | _, _ => false
theorem chkOo_ok {x : Option Opd} {y : Option Operand} (h : chkOo x y = true) : OOKo x y := by
  unfold chkOo at h
  split at h
  · trivial
  · exact chkO_ok h
  · cases h

def isU (P : Program) (t : TypeId) (f : TypeDesc → Bool) : Bool := match P.underlying t with
  | some d => f d
  | none => false
theorem isU_ok {t : TypeId} {f : TypeDesc → Bool} (h : isU P t f = true) : ∃ d, P.underlying t = some d ∧ f d = true := by
  unfold isU at h
  split at h
  · rename_i d hd; exact ⟨d, hd, h⟩
  · cases h
def isI (P : Program) (t : TypeId) (f : TypeInfo → Bool) : Bool := match P.info? t with
  | some d => f d
  | none => false
theorem isI_ok {t : TypeId} {f : TypeInfo → Bool} (h : isI P t f = true) : ∃ d, P.info? t = some d ∧ f d = true := by
  unfold isI at h
  split at h
  · rename_i d hd; exact ⟨d, hd, h⟩
  · cases h
def chkSize (P : Program) (t : TypeId) (sz : Nat) : Bool := isI P t fun i => i.size == sz
theorem chkSize_ok {t : TypeId} {sz : Nat} (h : chkSize P t sz = true) : SizeIs P t sz := by
  obtain ⟨i, h1, h2⟩ := isI_ok h
  exact ⟨i, h1, by simpa using h2⟩
def aggD : TypeDesc → Bool
  | .struct _ => true
  | .array _ _ => true
  | _ => false
def chkAgg (P : Program) (t : TypeId) (b : Bool) : Bool := isU P t fun d => aggD d == b
theorem chkAgg_ok {t : TypeId} {b : Bool} (h : chkAgg P t b = true) : AggIs P t b := by
  obtain ⟨d, h1, h2⟩ := isU_ok h
  refine ⟨d, h1, ?_⟩
  simp only [beq_iff_eq] at h2
  rw [← h2]
  cases d <;> rfl
def strD : TypeDesc → Bool
  | .string => true
  | _ => false
def boolD : TypeDesc → Bool
  | .bool => true
  | _ => false
def intD : TypeDesc → Bool
  | .int _ => true
  | _ => false
def intKD (k : IntKind) : TypeDesc → Bool
  | .int k' => decide (k' = k)
  | _ => false
def slD : TypeDesc → Option TypeId
  | .slice e => some e
  | _ => none
def ifaceD : TypeDesc → Bool
  | .interface _ => true
  | _ => false
theorem strD_ok {t : TypeId} (h : isU P t strD = true) : P.underlying t = some .string := by
  obtain ⟨d, h1, h2⟩ := isU_ok h
  cases d <;> first | exact h1 | cases h2
theorem boolD_ok {t : TypeId} (h : isU P t boolD = true) : P.underlying t = some .bool := by
  obtain ⟨d, h1, h2⟩ := isU_ok h
  cases d <;> first | exact h1 | cases h2
theorem intD_ok {t : TypeId} (h : isU P t intD = true) : ∃ k, P.underlying t = some (.int k) := by
  obtain ⟨d, h1, h2⟩ := isU_ok h
  cases d <;> first | exact ⟨_, h1⟩ | cases h2
theorem intKD_ok {t : TypeId} {k : IntKind} (h : isU P t (intKD k) = true) : P.underlying t = some (.int k) := by
  obtain ⟨d, h1, h2⟩ := isU_ok h
  cases d <;> first | cases h2 | skip
  simp only [intKD, decide_eq_true_eq] at h2
  subst h2; exact h1
def chkSl (P : Program) (t : TypeId) (f : TypeId → Bool) : Bool := isU P t fun d => match d with
  | .slice e => f e
  | _ => false
theorem chkSl_ok {t : TypeId} {f : TypeId → Bool} (h : chkSl P t f = true) : ∃ e, P.underlying t = some (.slice e) ∧ f e = true := by
  obtain ⟨d, h1, h2⟩ := isU_ok h
  cases d <;> first | exact ⟨_, h1, h2⟩ | cases h2
def chkAr (P : Program) (t : TypeId) (n : Nat) (f : TypeId → Bool) : Bool := isU P t fun d => match d with
  | .array m e => m == n && f e
  | _ => false
theorem chkAr_ok {t : TypeId} {n : Nat} {f : TypeId → Bool} (h : chkAr P t n f = true) : ∃ e, P.underlying t = some (.array n e) ∧ f e = true := by
  obtain ⟨d, h1, h2⟩ := isU_ok h
  cases d <;> first | cases h2 | skip
  simp only [Bool.and_eq_true, beq_iff_eq] at h2
  obtain ⟨rfl, h2⟩ := h2
  exact ⟨_, h1, h2⟩
def chkFld (P : Program) (t : TypeId) (f : Nat) (k : Field → Bool) : Bool := isU P t fun d => match d with
  | .struct fs => match fs[f]? with
    | some fl => k fl
    | none => false
  | _ => false
theorem chkFld_ok {t : TypeId} {f : Nat} {k : Field → Bool} (h : chkFld P t f k = true) : ∃ fs fl, P.underlying t = some (.struct fs) ∧ fs[f]? = some fl ∧ k fl = true := by
  obtain ⟨d, h1, h2⟩ := isU_ok h
  cases d <;> first | cases h2 | skip
  simp only at h2
  split at h2
  · rename_i fl hf; exact ⟨_, fl, h1, hf, h2⟩
  · cases h2
def chkZero (z : List AV) (i : TypeInfo) : Bool := match i.zero with
  | some zv => chkZ z zv.cells.toList
  | none => false
theorem chkZero_ok {z : List AV} {i : TypeInfo} (h : chkZero z i = true) : ∃ zv, i.zero = some zv ∧ ZOK z zv.cells.toList := by
  unfold chkZero at h
  split at h
  · rename_i zv hz; exact ⟨zv, hz, chkZ_ok h⟩
  · cases h
def chkElem (P : Program) (e : TypeId) (sz bytes : Nat) : Bool := isI P e fun i => i.size == sz && i.bytes == bytes && (match i.zero with
  | some z => z.cells.size == sz
  | none => false)
theorem chkElem_ok {e : TypeId} {sz bytes : Nat} (h : chkElem P e sz bytes = true) : ElemIs P e sz bytes := by
  obtain ⟨i, h1, h2⟩ := isI_ok h
  simp only [Bool.and_eq_true, beq_iff_eq] at h2
  obtain ⟨⟨h3, h4⟩, h5⟩ := h2
  split at h5
  · rename_i z hz; exact ⟨i, z, h1, h3, h4, hz, by simpa using h5⟩
  · cases h5
def chkElem0 (P : Program) (e : TypeId) (sz : Nat) : Bool := isI P e fun i => chkElem P e sz i.bytes
theorem chkElem0_ok {e : TypeId} {sz : Nat} (h : chkElem0 P e sz = true) : ∃ bytes, ElemIs P e sz bytes := by
  obtain ⟨i, h1, h2⟩ := isI_ok h
  exact ⟨_, chkElem_ok h2⟩
def chkParts (pl : Nat → Option (Nat × Nat)) : List (Nat × Nat × Opd) → List (Nat × Operand) → Bool
  | [], [] => true
  | (off, sz, x) :: l, (i, y) :: m => (match pl i with
    | some (a, b) => a == off && b == sz
    | none => false) && chkO x y && chkParts pl l m
  | _, _ => false
theorem chkParts_ok {pl : Nat → Option (Nat × Nat)} : ∀ {l : List (Nat × Nat × Opd)} {m : List (Nat × Operand)}, chkParts pl l m = true → PartsOK pl l m
  | [], [], _ => trivial
  | (off, sz, x) :: l, (i, y) :: m, h => by
    simp only [chkParts, Bool.and_eq_true] at h
    obtain ⟨⟨h1, h2⟩, h3⟩ := h
    refine ⟨?_, chkO_ok h2, chkParts_ok h3⟩
    split at h1
    · rename_i a b hp
      simp only [Bool.and_eq_true, beq_iff_eq] at h1
      obtain ⟨rfl, rfl⟩ := h1
      exact hp
    · cases h1
  | [], _ :: _, h => by cases h
  | _ :: _, [], h => by cases h
def chkRow : Nat → List Opd → List (Nat × Operand) → Bool
  | _, [], [] => true
  | k, x :: l, (i, y) :: m => i == k && chkO x y && chkRow (k + 1) l m
  | _, _, _ => false
theorem chkRow_ok : ∀ {k : Nat} {l : List Opd} {m : List (Nat × Operand)}, chkRow k l m = true → ∃ ys, m = (List.range' k l.length).zip ys ∧ OOKs l ys
  | k, [], [], _ => ⟨[], rfl, trivial⟩
  | k, x :: l, (i, y) :: m, h => by
    simp only [chkRow, Bool.and_eq_true, beq_iff_eq] at h
    obtain ⟨⟨rfl, h2⟩, h3⟩ := h
    obtain ⟨ys, h4, h5⟩ := chkRow_ok h3
    exact ⟨y :: ys, by rw [List.length_cons, List.range'_succ, List.zip_cons_cons, ← h4], chkO_ok h2, h5⟩
  | _, [], _ :: _, h => by cases h
  | _, _ :: _, [], h => by cases h

def chkBuild (P : Program) (t : TypeId) (parts : List (Nat × Nat × Opd)) (ps : List (Nat × Operand)) : Bool := isU P t fun d => match d with
  | .struct fs => fs.toList.all (fun f => isI P f.type fun _ => true) && chkParts (fun i => (fs[i]?).map fun f => (f.offset, P.cellsOf f.type)) parts ps
  | .array _ e => isI P e (fun _ => true) && chkParts (fun i => some (i * P.cellsOf e, P.cellsOf e)) parts ps
  | _ => false
def chkCall (c : Go.Call) (b : Builtin) (f : List TypeId → List Operand → Bool) : Bool := (match c.callee with
  | .builtin b' => decide (b' = b)
  | _ => false) && f c.argTypes.toList c.args.toList
theorem chkCall_ok {c : Go.Call} {b : Builtin} {f : List TypeId → List Operand → Bool} (h : chkCall c b f = true) : ∃ ts ys, c = { callee := .builtin b, args := List.toArray ys, argTypes := List.toArray ts } ∧ f ts ys = true := by
  obtain ⟨callee, args, argTypes⟩ := c
  simp only [chkCall, Bool.and_eq_true] at h
  obtain ⟨h1, h2⟩ := h
  split at h1
  · rename_i b' 
    simp only [decide_eq_true_eq] at h1
    subst h1
    exact ⟨argTypes.toList, args.toList, by simp, h2⟩
  · cases h1

def chkScal (P : Program) : Nat → List Nat → List Field → Bool
  | _, [], [] => true
  | i, k :: ks, f :: l => f.offset == i && !(f.name == "_") && isU P f.type (fun d => kindD d == k) && decide (k < 3) && chkScal P (i + 1) ks l
  | _, _, _ => false
theorem chkScal_ok : ∀ {ks : List Nat} {l : List Field} {i : Nat}, chkScal P i ks l = true → Scal P i ks l
  | [], [], _, _ => trivial
  | k :: ks, f :: l, i, h => by
    simp only [chkScal, Bool.and_eq_true, beq_iff_eq, Bool.not_eq_true', decide_eq_true_eq] at h
    obtain ⟨⟨⟨⟨h1, h2⟩, h3⟩, h5⟩, h4⟩ := h
    obtain ⟨d, h6, h7⟩ := isU_ok h3
    exact ⟨h1, by simpa using h2, ⟨d, h6, by simpa using h7, h5⟩, chkScal_ok h4⟩
  | [], _ :: _, _, h => by cases h
  | _ :: _, [], _, h => by cases h
def sameO : Operand → Operand → Bool
  | .tmp a, .tmp b => a == b
  | .const (.int k n), .const (.int k' m) => decide (k = k') && decide (n = m)
  | _, _ => false
theorem sameO_ok {a b : Operand} (h : sameO a b = true) : a = b := by
  unfold sameO at h
  split at h
  · simp only [beq_iff_eq] at h; rw [h]
  · simp only [Bool.and_eq_true, decide_eq_true_eq] at h
    rw [h.1, h.2]
  · cases h
def chkI (P : Program) : MI → Op → Bool
  | .mov x, .move y => chkO x y
  | .mov x, .assign y => chkO x y
  | .movd x, .move y => chkO x y
  | .movd x, .assign y => chkO x y
  | .loadd agg sz x, .load t y => chkO x y && chkAgg P t agg && chkSize P t sz
  | .appS sz bytes x y _, .call c => chkCall c .append fun ts ys => match ts, ys with
      | [t, u], [x', y'] => chkO x x' && chkO y y' && chkSl P t (fun e => chkElem P e sz bytes) && decide (0 < bytes) && isU P u (fun d => (slD d).isSome || strD d)
      | _, _ => false
  | .appC sz bytes x y, .call c => chkCall c .append fun ts ys => match ts, ys with
      | [t, u], [x', y'] => chkO x x' && chkO y y' && chkSl P t (fun e => chkElem P e sz bytes) && decide (0 < bytes) && isU P u (fun d => (slD d).isSome || strD d)
      | _, _ => false
  | .asg x, .assign y => chkO x y
  | .pick c x y, .pick c' x' y' => chkO c c' && chkO x x' && chkO y y'
  | .alloc z, .alloc t => isI P t (chkZero z)
  | .box _ x, .box _ y => chkO x y
  | .build z parts, .build t ps => isI P t (chkZero z) && chkBuild P t parts ps.toList
  | .bsl sz xs, .buildSlice t len ps => chkSl P t (fun e => chkElem0 P e sz) && decide (len * sz ≤ 16777216) && decide (len = xs.length) && decide (0 < sz) && chkRow 0 xs ps.toList
  | .load agg sz x, .load t y => chkO x y && chkAgg P t agg && chkSize P t sz
  | .store sz x y, .store t x' y' => chkO x x' && chkO y y' && chkSize P t sz
  | .nilck x, .nilCheck y => chkO x y
  | .bin op x y, .binOp op' _ x' y' _ => decide (op = op') && chkO x x' && chkO y y'
  | .beq ne x y, .binOp op t x' y' _ => decide (op = (if ne then .neq else .eql)) && chkO x x' && chkO y y' && isU P t boolD
  | .un op x, .unOp op' _ y => decide (op = op') && chkO x y
  | .eqA ne ks x y, .binOp op t x' y' _ => decide (op = (if ne then .neq else .eql)) && chkO x x' && chkO y y' && !(P.stoodInHeld t) && !(P.eqGuardType P.depth t) && isU P t (fun d => match d with
      | .struct fs => chkScal P 0 ks fs.toList
      | _ => false)
  | .conv k x, .convert t u y => chkO x y && (match k with
      | .int k => isU P t intD && isU P u (intKD k)
      | .same => isU P t strD && isU P u strD
      | .s2b => isU P t strD && chkSl P u (fun e => isU P e (intKD .u8))
      | .s2r => isU P t strD && chkSl P u (fun e => isU P e (intKD .u8))
      | .b2s => chkSl P t (fun e => isU P e (intKD .u8)) && isU P u strD)
  | .slice st sz x lo hi mx, .slice t y lo' hi' mx' => chkO x y && chkOo lo lo' && chkOo hi hi' && chkOo mx mx' && (if st then isU P t strD else chkSl P t (fun e => chkSize P e sz))
  | .sliceA len sz x lo hi, .slice t y lo' hi' mx' => chkO x y && chkOo lo lo' && chkOo hi hi' && mx'.isNone && chkAr P t len (fun e => chkSize P e sz)
  | .fadr off x, .fieldAddr t y f => chkO x y && chkFld P t f (fun fl => fl.offset == off && isI P fl.type fun i => i.size != 0)
  | .fld agg sz off x, .field t y f => chkO x y && chkFld P t f (fun fl => fl.offset == off && chkSize P fl.type sz && chkAgg P fl.type agg)
  | .iadr sz x i, .indexAddr t y j => chkO x y && chkO i j && chkSl P t (fun e => chkSize P e sz)
  | .iadrA len sz x i, .indexAddr t y j => chkO x y && chkO i j && chkAr P t len (fun e => chkSize P e sz)
  | .idxS x i, .index t y j => chkO x y && chkO i j && isU P t strD
  | .idxA len agg sz x i, .index t y j => chkO x y && chkO i j && chkAr P t len (fun e => chkSize P e sz && chkAgg P e agg)
  | .mkfn f caps, .makeFunc fn first cs => (match fn with
      | .func f' => f' == f
      | _ => false) && first.isEmpty && chkOs caps cs.toList
  | .mkif t x, .makeInterface t' y => t == t' && chkO x y && isU P t (fun d => !ifaceD d)
  | .tas t ok x, .typeAssert y _ t' ok' => t == t' && ok == ok' && chkO x y && isU P t (fun d => !ifaceD d)
  | .ext i x, .extract y j => i == j && chkO x y
  | .len st x, .call c => chkCall c .len fun ts ys => match ts, ys with
      | [t], [y] => chkO x y && (if st then isU P t strD else chkSl P t fun _ => true)
      | _, _ => false
  | .bad, _ => true
  | .isnil ne k x, .binOp op t y z _ => decide (op = (if ne then .neq else .eql)) && chkO x y && (match z with
      | .const .nilIface => k == 0 && isU P t ifaceD
      | .const (.pointer none) => k == 1 && isU P t (fun d => match d with
        | .pointer _ => true
        | _ => false)
      | .const (.slice none 0 0) => k == 2 && isU P t (fun d => (slD d).isSome)
      | .const .nilFunc => k == 3 && isU P t (fun d => match d with
        | .func _ _ _ => true
        | _ => false)
      | _ => false)
  | .lkp x k, .lookup t y z ok => ok && chkO x y && chkO k z && isU P t (fun d => match d with
      | .map kt et => isU P kt strD && isI P et (fun i => match i.zero with
        | some (.int .i64 0) => true
        | _ => false)
      | _ => false)
  | .lenA n, .call c => chkCall c .len fun ts ys => match ts, ys with
      | [t], [y] => chkAr P t n (fun _ => true) || isU P t (fun d => match d with
        | .pointer p => chkAr P p n fun _ => true
        | _ => false)
      | _, _ => false
  | .mn xs, .call c => chkCall c .min fun _ ys => chkOs xs ys
  | .mx xs, .call c => chkCall c .max fun _ ys => chkOs xs ys
  | .app sz bytes x y, .call c => chkCall c .append fun ts ys => match ts, ys with
      | [t, u], [x', y'] => chkO x x' && chkO y y' && chkSl P t (fun e => chkElem P e sz bytes) && decide (0 < bytes) && isU P u (fun d => (slD d).isSome || strD d)
      | _, _ => false
  | .mks sz bytes z n, .makeSlice t l c => chkO n l && sameO l c && chkSl P t (fun e => isI P e fun i => i.size == sz && i.bytes == bytes && chkZero z i) && decide (0 < sz) && decide (0 < bytes)
  | .call f args, .call c => (match c.callee with
      | .value (.func f') => f' == f
      | _ => false) && chkOs args c.args.toList
  | .callc f args, .call c => (match c.callee with
      | .value (.func f') => f' == f
      | _ => false) && chkOs args c.args.toList
  | .callv f args, .call c => (match c.callee with
      | .value y => chkO f y
      | _ => false) && chkOs args c.args.toList
  | _, _ => false

theorem chkBuild_ok {t : TypeId} {parts : List (Nat × Nat × Opd)} {ps : List (Nat × Operand)} (h : chkBuild P t parts ps = true) :
    ((∃ fs, P.underlying t = some (.struct fs) ∧ (∀ f ∈ fs.toList, ∃ i, P.info? f.type = some i) ∧ PartsOK (fun i => (fs[i]?).map fun f => (f.offset, P.cellsOf f.type)) parts ps) ∨
       ∃ n e, P.underlying t = some (.array n e) ∧ (∃ i, P.info? e = some i) ∧ PartsOK (fun i => some (i * P.cellsOf e, P.cellsOf e)) parts ps) := by
  obtain ⟨d, h1, h2⟩ := isU_ok h
  cases d <;> first | cases h2 | skip
  · rename_i n e
    simp only [Bool.and_eq_true] at h2
    obtain ⟨i, h3, _⟩ := isI_ok h2.1
    exact .inr ⟨n, e, h1, ⟨i, h3⟩, chkParts_ok h2.2⟩
  · rename_i fs
    simp only [Bool.and_eq_true, List.all_eq_true] at h2
    refine .inl ⟨fs, h1, fun f hf => ?_, chkParts_ok h2.2⟩
    obtain ⟨i, h3, _⟩ := isI_ok (h2.1 f hf)
    exact ⟨i, h3⟩
theorem arr_eq {α : Type} {a : Array α} {l : List α} (h : a.toList = l) : a = l.toArray := by
  subst h; simp
theorem chkI_ok {i : MI} {op : Op} (h : chkI P i op = true) : IOK P i op := by
  cases i with
  | mov x => cases op <;> first | exact Bool.noConfusion h | exact chkO_ok h
  | movd x => cases op <;> first | exact Bool.noConfusion h | exact chkO_ok h
  | loadd agg sz x =>
    cases op <;> first | exact Bool.noConfusion h | skip
    simp only [chkI, Bool.and_eq_true] at h
    exact ⟨chkO_ok h.1.1, chkAgg_ok h.1.2, chkSize_ok h.2⟩
  | appS sz bytes x y hm =>
    cases op <;> first | exact Bool.noConfusion h | skip
    simp only [chkI] at h
    obtain ⟨ts, ys, h1, h2⟩ := chkCall_ok h
    split at h2
    · simp only [Bool.and_eq_true, decide_eq_true_eq] at h2
      obtain ⟨⟨⟨⟨h3, h4⟩, h5⟩, h6⟩, h7⟩ := h2
      obtain ⟨e, h8, h9⟩ := chkSl_ok h5
      obtain ⟨d, h10, h11⟩ := isU_ok h7
      refine ⟨_, _, _, _, e, d, h1, chkO_ok h3, chkO_ok h4, h8, chkElem_ok h9, h6, h10, ?_⟩
      simp only [Bool.or_eq_true] at h11
      rcases h11 with h11 | h11
      · cases d <;> first | exact .inl ⟨_, rfl⟩ | (simp [slD] at h11)
      · cases d <;> first | exact .inr rfl | (simp [strD] at h11)
    · cases h2
  | appC sz bytes x y =>
    cases op <;> first | exact Bool.noConfusion h | skip
    simp only [chkI] at h
    obtain ⟨ts, ys, h1, h2⟩ := chkCall_ok h
    split at h2
    · simp only [Bool.and_eq_true, decide_eq_true_eq] at h2
      obtain ⟨⟨⟨⟨h3, h4⟩, h5⟩, h6⟩, h7⟩ := h2
      obtain ⟨e, h8, h9⟩ := chkSl_ok h5
      obtain ⟨d, h10, h11⟩ := isU_ok h7
      refine ⟨_, _, _, _, e, d, h1, chkO_ok h3, chkO_ok h4, h8, chkElem_ok h9, h6, h10, ?_⟩
      simp only [Bool.or_eq_true] at h11
      rcases h11 with h11 | h11
      · cases d <;> first | exact .inl ⟨_, rfl⟩ | (simp [slD] at h11)
      · cases d <;> first | exact .inr rfl | (simp [strD] at h11)
    · cases h2
  | asg x => cases op <;> first | exact Bool.noConfusion h | exact chkO_ok h
  | pick c x y =>
    cases op <;> first | exact Bool.noConfusion h | skip
    simp only [chkI, Bool.and_eq_true] at h
    exact ⟨chkO_ok h.1.1, chkO_ok h.1.2, chkO_ok h.2⟩
  | alloc z =>
    cases op <;> first | exact Bool.noConfusion h | skip
    obtain ⟨i, h1, h2⟩ := isI_ok h
    obtain ⟨zv, h3, h4⟩ := chkZero_ok h2
    exact ⟨i, zv, h1, h3, h4⟩
  | box sz x => cases op <;> first | exact Bool.noConfusion h | exact chkO_ok h
  | build z parts =>
    cases op <;> first | exact Bool.noConfusion h | skip
    simp only [chkI, Bool.and_eq_true] at h
    obtain ⟨i, h1, h2⟩ := isI_ok h.1
    obtain ⟨zv, h3, h4⟩ := chkZero_ok h2
    exact ⟨i, zv, h1, h3, h4, chkBuild_ok h.2⟩
  | bsl sz xs =>
    cases op <;> first | exact Bool.noConfusion h | skip
    simp only [chkI, Bool.and_eq_true, decide_eq_true_eq] at h
    obtain ⟨⟨⟨⟨h1, h2⟩, h3⟩, h4⟩, h5⟩ := h
    obtain ⟨e, h6, h7⟩ := chkSl_ok h1
    obtain ⟨bytes, h8⟩ := chkElem0_ok h7
    obtain ⟨ys, h9, h10⟩ := chkRow_ok h5
    exact ⟨e, bytes, ys, h6, h8, h2, h3, h4, by rw [h9, h3, List.range_eq_range'], h10⟩
  | load agg sz x =>
    cases op <;> first | exact Bool.noConfusion h | skip
    simp only [chkI, Bool.and_eq_true] at h
    exact ⟨chkO_ok h.1.1, chkAgg_ok h.1.2, chkSize_ok h.2⟩
  | store sz x y =>
    cases op <;> first | exact Bool.noConfusion h | skip
    simp only [chkI, Bool.and_eq_true] at h
    exact ⟨chkO_ok h.1.1, chkO_ok h.1.2, chkSize_ok h.2⟩
  | nilck x => cases op <;> first | exact Bool.noConfusion h | exact chkO_ok h
  | bin o x y =>
    cases op <;> first | exact Bool.noConfusion h | skip
    simp only [chkI, Bool.and_eq_true, decide_eq_true_eq] at h
    exact ⟨h.1.1, chkO_ok h.1.2, chkO_ok h.2⟩
  | beq ne x y =>
    cases op <;> first | exact Bool.noConfusion h | skip
    simp only [chkI, Bool.and_eq_true, decide_eq_true_eq] at h
    exact ⟨h.1.1.1, chkO_ok h.1.1.2, chkO_ok h.1.2, boolD_ok h.2⟩
  | un o x =>
    cases op <;> first | exact Bool.noConfusion h | skip
    simp only [chkI, Bool.and_eq_true, decide_eq_true_eq] at h
    exact ⟨h.1, chkO_ok h.2⟩
  | eqA ne n x y =>
    cases op <;> first | exact Bool.noConfusion h | skip
    simp only [chkI, Bool.and_eq_true, decide_eq_true_eq, Bool.not_eq_true'] at h
    obtain ⟨⟨⟨⟨⟨h1, h2⟩, h3⟩, h4⟩, h5⟩, h6⟩ := h
    obtain ⟨d, h7, h8⟩ := isU_ok h6
    cases d <;> first | cases h8 | skip
    exact ⟨h1, chkO_ok h2, chkO_ok h3, h4, h5, _, h7, chkScal_ok h8⟩
  | conv k x =>
    cases op <;> first | exact Bool.noConfusion h | skip
    simp only [chkI, Bool.and_eq_true] at h
    refine ⟨chkO_ok h.1, ?_⟩
    have h2 := h.2
    cases k with
    | int k =>
      simp only [Bool.and_eq_true] at h2
      obtain ⟨k', h3⟩ := intD_ok h2.1
      exact ⟨k', h3, intKD_ok h2.2⟩
    | same =>
      simp only [Bool.and_eq_true] at h2
      exact ⟨strD_ok h2.1, strD_ok h2.2⟩
    | s2b =>
      simp only [Bool.and_eq_true] at h2
      obtain ⟨e, h3, h4⟩ := chkSl_ok h2.2
      exact ⟨e, strD_ok h2.1, h3, intKD_ok h4⟩
    | s2r =>
      simp only [Bool.and_eq_true] at h2
      obtain ⟨e, h3, h4⟩ := chkSl_ok h2.2
      exact ⟨e, strD_ok h2.1, h3, intKD_ok h4⟩
    | b2s =>
      simp only [Bool.and_eq_true] at h2
      obtain ⟨e, h3, h4⟩ := chkSl_ok h2.1
      exact ⟨e, h3, strD_ok h2.2, intKD_ok h4⟩
  | slice st sz x lo hi mx =>
    cases op <;> first | exact Bool.noConfusion h | skip
    simp only [chkI, Bool.and_eq_true] at h
    obtain ⟨⟨⟨⟨h1, h2⟩, h3⟩, h4⟩, h5⟩ := h
    refine ⟨chkO_ok h1, chkOo_ok h2, chkOo_ok h3, chkOo_ok h4, ?_⟩
    cases st with
    | true => simp only [if_true] at h5 ⊢; exact strD_ok h5
    | false =>
      simp only [Bool.false_eq_true, if_false] at h5 ⊢
      obtain ⟨e, h6, h7⟩ := chkSl_ok h5
      exact ⟨e, h6, chkSize_ok h7⟩
  | sliceA len sz x lo hi =>
    cases op <;> first | exact Bool.noConfusion h | skip
    simp only [chkI, Bool.and_eq_true] at h
    obtain ⟨⟨⟨⟨h1, h2⟩, h3⟩, h4⟩, h5⟩ := h
    obtain ⟨e, h6, h7⟩ := chkAr_ok h5
    exact ⟨chkO_ok h1, chkOo_ok h2, chkOo_ok h3, by simpa using h4, e, h6, chkSize_ok h7⟩
  | fadr off x =>
    cases op <;> first | exact Bool.noConfusion h | skip
    simp only [chkI, Bool.and_eq_true] at h
    obtain ⟨fs, fl, h1, h2, h3⟩ := chkFld_ok h.2
    simp only [Bool.and_eq_true, beq_iff_eq] at h3
    obtain ⟨i, h4, h5⟩ := isI_ok h3.2
    exact ⟨chkO_ok h.1, fs, fl, i.size, h1, h2, h3.1, ⟨i, h4, rfl⟩, by simpa using h5⟩
  | fld agg sz off x =>
    cases op <;> first | exact Bool.noConfusion h | skip
    simp only [chkI, Bool.and_eq_true] at h
    obtain ⟨fs, fl, h1, h2, h3⟩ := chkFld_ok h.2
    simp only [Bool.and_eq_true, beq_iff_eq] at h3
    exact ⟨chkO_ok h.1, fs, fl, h1, h2, h3.1.1, chkSize_ok h3.1.2, chkAgg_ok h3.2⟩
  | iadr sz x i =>
    cases op <;> first | exact Bool.noConfusion h | skip
    simp only [chkI, Bool.and_eq_true] at h
    obtain ⟨e, h1, h2⟩ := chkSl_ok h.2
    exact ⟨chkO_ok h.1.1, chkO_ok h.1.2, e, h1, chkSize_ok h2⟩
  | iadrA len sz x i =>
    cases op <;> first | exact Bool.noConfusion h | skip
    simp only [chkI, Bool.and_eq_true] at h
    obtain ⟨e, h1, h2⟩ := chkAr_ok h.2
    exact ⟨chkO_ok h.1.1, chkO_ok h.1.2, e, h1, chkSize_ok h2⟩
  | idxS x i =>
    cases op <;> first | exact Bool.noConfusion h | skip
    simp only [chkI, Bool.and_eq_true] at h
    exact ⟨chkO_ok h.1.1, chkO_ok h.1.2, strD_ok h.2⟩
  | idxA len agg sz x i =>
    cases op <;> first | exact Bool.noConfusion h | skip
    simp only [chkI, Bool.and_eq_true] at h
    obtain ⟨e, h1, h2⟩ := chkAr_ok h.2
    simp only [Bool.and_eq_true] at h2
    exact ⟨chkO_ok h.1.1, chkO_ok h.1.2, e, h1, chkSize_ok h2.1, chkAgg_ok h2.2⟩
  | mkfn f caps =>
    cases op <;> first | exact Bool.noConfusion h | skip
    rename_i fn first cs
    simp only [chkI, Bool.and_eq_true] at h
    obtain ⟨⟨h1, h2⟩, h3⟩ := h
    refine ⟨?_, ?_, chkOs_ok h3⟩
    · split at h1
      · simp only [beq_iff_eq] at h1; rw [h1]
      · cases h1
    · simpa using h2
  | mkif t x =>
    cases op <;> first | exact Bool.noConfusion h | skip
    simp only [chkI, Bool.and_eq_true, beq_iff_eq] at h
    obtain ⟨d, h1, h2⟩ := isU_ok h.2
    exact ⟨h.1.1, chkO_ok h.1.2, d, h1, fun ms e => by subst e; simp [ifaceD] at h2⟩
  | tas t ok x =>
    cases op <;> first | exact Bool.noConfusion h | skip
    simp only [chkI, Bool.and_eq_true, beq_iff_eq] at h
    obtain ⟨d, h1, h2⟩ := isU_ok h.2
    exact ⟨h.1.1.1, h.1.1.2, chkO_ok h.1.2, d, h1, fun ms e => by subst e; simp [ifaceD] at h2⟩
  | ext i x =>
    cases op <;> first | exact Bool.noConfusion h | skip
    simp only [chkI, Bool.and_eq_true, beq_iff_eq] at h
    exact ⟨h.1, chkO_ok h.2⟩
  | call f args =>
    cases op <;> first | exact Bool.noConfusion h | skip
    rename_i c
    simp only [chkI, Bool.and_eq_true] at h
    refine ⟨c.args, ?_, rfl, chkOs_ok h.2⟩
    have h1 := h.1
    split at h1
    · rename_i f' hc
      simp only [beq_iff_eq] at h1
      rw [hc, h1]
    · cases h1
  | callc f args =>
    cases op <;> first | exact Bool.noConfusion h | skip
    rename_i c
    simp only [chkI, Bool.and_eq_true] at h
    refine ⟨c.args, ?_, rfl, chkOs_ok h.2⟩
    have h1 := h.1
    split at h1
    · rename_i f' hc
      simp only [beq_iff_eq] at h1
      rw [hc, h1]
    · cases h1
  | callv f args =>
    cases op <;> first | exact Bool.noConfusion h | skip
    rename_i c
    simp only [chkI, Bool.and_eq_true] at h
    have h1 := h.1
    split at h1
    · rename_i y hc
      exact ⟨y, c.args, hc, chkO_ok h1, rfl, chkOs_ok h.2⟩
    · cases h1
  | len st x =>
    cases op <;> first | exact Bool.noConfusion h | skip
    simp only [chkI] at h
    obtain ⟨ts, ys, h1, h2⟩ := chkCall_ok h
    split at h2
    · simp only [Bool.and_eq_true] at h2
      refine ⟨_, _, h1, chkO_ok h2.1, ?_⟩
      have h3 := h2.2
      cases st with
      | true => simp only [if_true] at h3 ⊢; exact strD_ok h3
      | false =>
        simp only [Bool.false_eq_true, if_false] at h3 ⊢
        obtain ⟨e, h6, _⟩ := chkSl_ok h3
        exact ⟨e, h6⟩
    · cases h2
  | bad => cases op <;> trivial
  | isnil ne k x =>
    cases op <;> first | exact Bool.noConfusion h | skip
    rename_i op t y z t2
    simp only [chkI, Bool.and_eq_true, decide_eq_true_eq] at h
    obtain ⟨⟨h1, h2⟩, h3⟩ := h
    split at h3
    · simp only [Bool.and_eq_true, beq_iff_eq] at h3
      obtain ⟨d, h4, h5⟩ := isU_ok h3.2
      exact ⟨h1, chkO_ok h2, d, h4, .inl ⟨h3.1, (by cases d <;> first | exact ⟨_, rfl⟩ | cases h5), rfl⟩⟩
    · simp only [Bool.and_eq_true, beq_iff_eq] at h3
      obtain ⟨d, h4, h5⟩ := isU_ok h3.2
      exact ⟨h1, chkO_ok h2, d, h4, .inr (.inl ⟨h3.1, (by cases d <;> first | exact ⟨_, rfl⟩ | cases h5), rfl⟩)⟩
    · simp only [Bool.and_eq_true, beq_iff_eq] at h3
      obtain ⟨d, h4, h5⟩ := isU_ok h3.2
      exact ⟨h1, chkO_ok h2, d, h4, .inr (.inr (.inl ⟨h3.1, (by cases d <;> first | exact ⟨_, rfl⟩ | simp [slD] at h5), rfl⟩))⟩
    · simp only [Bool.and_eq_true, beq_iff_eq] at h3
      obtain ⟨d, h4, h5⟩ := isU_ok h3.2
      exact ⟨h1, chkO_ok h2, d, h4, .inr (.inr (.inr ⟨h3.1, (by cases d <;> first | exact ⟨_, _, _, rfl⟩ | cases h5), rfl⟩))⟩
    · cases h3
  | lkp x k =>
    cases op <;> first | exact Bool.noConfusion h | skip
    simp only [chkI, Bool.and_eq_true] at h
    obtain ⟨⟨⟨h1, h2⟩, h3⟩, h4⟩ := h
    obtain ⟨d, h5, h6⟩ := isU_ok h4
    cases d <;> first | cases h6 | skip
    simp only [Bool.and_eq_true] at h6
    obtain ⟨i, h7, h8⟩ := isI_ok h6.2
    refine ⟨h1, chkO_ok h2, chkO_ok h3, _, _, h5, strD_ok h6.1, i, h7, ?_⟩
    split at h8
    · rename_i hz; exact hz
    · cases h8
  | lenA n =>
    cases op <;> first | exact Bool.noConfusion h | skip
    simp only [chkI] at h
    obtain ⟨ts, ys, h1, h2⟩ := chkCall_ok h
    split at h2
    · simp only [Bool.or_eq_true] at h2
      refine ⟨_, _, h1, ?_⟩
      rcases h2 with h2 | h2
      · obtain ⟨e, h6, _⟩ := chkAr_ok h2
        exact .inl ⟨e, h6⟩
      · obtain ⟨d, h3, h4⟩ := isU_ok h2
        cases d <;> first | cases h4 | skip
        obtain ⟨e, h6, _⟩ := chkAr_ok h4
        exact .inr ⟨_, e, h3, h6⟩
    · cases h2
  | mn xs =>
    cases op <;> first | exact Bool.noConfusion h | skip
    simp only [chkI] at h
    obtain ⟨ts, ys, h1, h2⟩ := chkCall_ok h
    exact ⟨_, _, h1, by simpa using chkOs_ok h2⟩
  | mx xs =>
    cases op <;> first | exact Bool.noConfusion h | skip
    simp only [chkI] at h
    obtain ⟨ts, ys, h1, h2⟩ := chkCall_ok h
    exact ⟨_, _, h1, by simpa using chkOs_ok h2⟩
  | app sz bytes x y =>
    cases op <;> first | exact Bool.noConfusion h | skip
    simp only [chkI] at h
    obtain ⟨ts, ys, h1, h2⟩ := chkCall_ok h
    split at h2
    · simp only [Bool.and_eq_true, decide_eq_true_eq] at h2
      obtain ⟨⟨⟨⟨h3, h4⟩, h5⟩, h6⟩, h7⟩ := h2
      obtain ⟨e, h8, h9⟩ := chkSl_ok h5
      obtain ⟨d, h10, h11⟩ := isU_ok h7
      refine ⟨_, _, _, _, e, d, h1, chkO_ok h3, chkO_ok h4, h8, chkElem_ok h9, h6, h10, ?_⟩
      simp only [Bool.or_eq_true] at h11
      rcases h11 with h11 | h11
      · cases d <;> first | exact .inl ⟨_, rfl⟩ | (simp [slD] at h11)
      · cases d <;> first | exact .inr rfl | (simp [strD] at h11)
    · cases h2
  | mks sz bytes z n =>
    cases op <;> first | exact Bool.noConfusion h | skip
    simp only [chkI, Bool.and_eq_true, decide_eq_true_eq] at h
    obtain ⟨⟨⟨⟨h1, h2⟩, h3⟩, h4⟩, h5⟩ := h
    obtain ⟨e, h6, h7⟩ := chkSl_ok h3
    obtain ⟨i, h8, h9⟩ := isI_ok h7
    simp only [Bool.and_eq_true, beq_iff_eq] at h9
    obtain ⟨zv, h10, h11⟩ := chkZero_ok h9.2
    exact ⟨sameO_ok h2, chkO_ok h1, e, i, zv, h6, h8, h9.1.1, h9.1.2, h10, h11, h4, h5⟩

/-! ### Regions, code, functions -/
def chkG (ops : Array Oper) : Option (Nat × Bool) → Option (Nat × Bool) → Bool
  | none, none => true
  | some (t, b), some (j, b') => (match (ops[j]?).bind (·.dst) with
    | some t' => t' == t
    | none => false) && b == b'
  | _, _ => false
def chkDst (nt : Nat) : Option Nat → Option Nat → Bool
  | none, none => true
  | some d, some d' => d == d' && decide (d < nt)
  | _, _ => false
def chkOp (P : Program) (nt : Nat) (ops : Array Oper) (m : MOp) (o : Oper) : Bool := chkDst nt m.dst o.dst && chkI P m.i o.op && chkG ops m.g o.guard
theorem chkOp_ok {nt : Nat} {ops : Array Oper} {m : MOp} {o : Oper} (h : chkOp P nt ops m o = true) : OpOK P nt ops m o := by
  simp only [chkOp, Bool.and_eq_true] at h
  obtain ⟨⟨h1, h2⟩, h3⟩ := h
  refine ⟨?_, ?_, chkI_ok h2, ?_⟩
  · unfold chkDst at h1
    split at h1
    · rename_i e1 e2; rw [e1, e2]
    · rename_i e1 e2
      simp only [Bool.and_eq_true, beq_iff_eq] at h1
      rw [e1, e2, h1.1]
    · cases h1
  · intro d hd
    unfold chkDst at h1
    rw [hd] at h1
    split at h1
    · rename_i e1 e2; cases e1
    · rename_i e1 e2
      cases e1
      simp only [Bool.and_eq_true, decide_eq_true_eq] at h1
      exact h1.2
    · cases h1
  · unfold chkG at h3
    split at h3
    · rename_i e1 e2; rw [e1, e2]; trivial
    · rename_i t b j b' e1 e2
      rw [e1, e2]
      simp only [Bool.and_eq_true, beq_iff_eq] at h3
      obtain ⟨h4, h5⟩ := h3
      refine ⟨?_, h5⟩
      split at h4
      · rename_i t' ht
        simp only [beq_iff_eq] at h4
        rw [ht, h4]
      · cases h4
    · cases h3
def chkOps (P : Program) (nt : Nat) (ops : Array Oper) : List MOp → List Oper → Bool
  | [], [] => true
  | m :: l, o :: r => chkOp P nt ops m o && chkOps P nt ops l r
  | _, _ => false
theorem chkOps_ok {nt : Nat} {ops : Array Oper} : ∀ {l : List MOp} {r : List Oper}, chkOps P nt ops l r = true → l.length = r.length ∧ ∀ (j : Nat) m, l[j]? = some m → ∃ o, r[j]? = some o ∧ OpOK P nt ops m o
  | [], [], _ => ⟨rfl, by simp⟩
  | m :: l, o :: r, h => by
    simp only [chkOps, Bool.and_eq_true] at h
    obtain ⟨h1, h2⟩ := chkOps_ok h.2
    refine ⟨by simp [h1], fun j m' hj => ?_⟩
    cases j with
    | zero => simp at hj; subst hj; exact ⟨o, rfl, chkOp_ok h.1⟩
    | succ j => exact h2 j m' (by simpa using hj)
  | [], _ :: _, h => by cases h
  | _ :: _, [], h => by cases h
def hasE (o : Oper) (j : Nat) : Bool := o.after.toList.any fun e => firm e && e.on == j
theorem hasE_ok {o : Oper} {j : Nat} (h : hasE o j = true) : ∃ e ∈ o.after, firm e = true ∧ e.on = j := by
  unfold hasE at h
  rw [List.any_eq_true] at h
  obtain ⟨e, h1, h2⟩ := h
  simp only [Bool.and_eq_true, beq_iff_eq] at h2
  exact ⟨e, by simpa using h1, h2⟩
/-- One operation against all: who writes what it reads. -/
def chkDep (i : Nat) (o : Oper) (us : List Nat) : Nat → List MOp → List Oper → Bool
  | _, [], _ => true
  | _, _ :: _, [] => true
  | j, m :: l, p :: r => (match m.dst with
    | none => true
    | some d => if us.contains d then (if j < i then hasE o j else if i < j then hasE p i else true) else true) && chkDep i o us (j + 1) l r
theorem chkDep_ok {i : Nat} {o : Oper} {us : List Nat} : ∀ {k : Nat} {l : List MOp} {r : List Oper}, chkDep i o us k l r = true → ∀ (j : Nat) m p t, l[j]? = some m → r[j]? = some p → t ∈ us → m.dst = some t →
    (k + j < i → ∃ e ∈ o.after, firm e = true ∧ e.on = k + j) ∧ (i < k + j → ∃ e ∈ p.after, firm e = true ∧ e.on = i)
  | k, [], r, h => by simp
  | k, _ :: _, [], h => by simp
  | k, m :: l, p :: r, h => by
    simp only [chkDep, Bool.and_eq_true] at h
    obtain ⟨h1, h2⟩ := h
    intro j m' p' t e1 e2 ht hd
    cases j with
    | zero =>
      simp at e1 e2
      subst e1; subst e2
      rw [hd] at h1
      simp only at h1
      rw [if_pos (by simpa using ht)] at h1
      refine ⟨fun h3 => ?_, fun h3 => ?_⟩
      · rw [if_pos (by omega)] at h1
        exact hasE_ok h1
      · rw [if_neg (by omega), if_pos (by omega)] at h1
        exact hasE_ok h1
    | succ j =>
      have := chkDep_ok h2 j m' p' t (by simpa using e1) (by simpa using e2) ht hd
      rw [show k + 1 + j = k + (j + 1) by omega] at this
      exact this
def chkDeps (ms : List MOp) (rs : List Oper) : Nat → List MOp → List Oper → Bool
  | _, [], _ => true
  | _, _ :: _, [] => true
  | i, m :: l, o :: r => chkDep i o (usesO m) 0 ms rs && chkDeps ms rs (i + 1) l r
theorem chkDeps_ok {ms : List MOp} {rs : List Oper} : ∀ {k : Nat} {l : List MOp} {r : List Oper}, chkDeps ms rs k l r = true → ∀ (i : Nat) m o, l[i]? = some m → r[i]? = some o →
    chkDep (k + i) o (usesO m) 0 ms rs = true
  | k, [], r, h => by simp
  | k, _ :: _, [], h => by simp
  | k, m :: l, o :: r, h => by
    simp only [chkDeps, Bool.and_eq_true] at h
    obtain ⟨h1, h3⟩ := h
    intro i m' o' e1 e2
    cases i with
    | zero =>
      simp at e1 e2
      subst e1; subst e2
      exact h1
    | succ i =>
      have := chkDeps_ok h3 i m' o' (by simpa using e1) (by simpa using e2)
      rw [show k + 1 + i = k + (i + 1) by omega] at this
      exact this
def chkDist : List (Option Nat) → Bool
  | [] => true
  | none :: l => chkDist l
  | some d :: l => !(l.contains (some d)) && chkDist l
theorem chkDist_ok : ∀ {l : List (Option Nat)}, chkDist l = true → ∀ (i j : Nat) d, l[i]? = some (some d) → l[j]? = some (some d) → i = j
  | [], _ => by simp
  | x :: l, h => by
    have hl : chkDist l = true := by
      cases x with
      | none => exact h
      | some d => simp only [chkDist, Bool.and_eq_true] at h; exact h.2
    intro i j d e1 e2
    cases i with
    | zero =>
      cases j with
      | zero => rfl
      | succ j =>
        simp at e1 e2
        subst e1
        simp only [chkDist, Bool.and_eq_true, Bool.not_eq_true'] at h
        have := List.mem_of_getElem? e2
        have h1 := h.1
        rw [List.contains_iff_mem.2 this] at h1
        cases h1
    | succ i =>
      cases j with
      | zero =>
        simp at e1 e2
        subst e2
        simp only [chkDist, Bool.and_eq_true, Bool.not_eq_true'] at h
        have := List.mem_of_getElem? e1
        have h1 := h.1
        rw [List.contains_iff_mem.2 this] at h1
        cases h1
      | succ j =>
        have := chkDist_ok hl i j d (by simpa using e1) (by simpa using e2)
        omega
def chkDraw (M : Mach) (ms : List MOp) (rk : List Nat) (rs : List Oper) : Bool := chkBacks rk rs && ms.all (fun m => quietI M m.i) && chkDeps ms rs 0 ms rs && chkDist (ms.map (·.dst))
theorem chkDraw_ok {ms : List MOp} {rk : List Nat} {ops : Array Oper} (hl : ms.length = ops.size) (h : chkDraw M ms rk ops.toList = true) : DrawOK M ms ops := by
  simp only [chkDraw, Bool.and_eq_true] at h
  obtain ⟨⟨⟨hbk, h1⟩, h2⟩, h3⟩ := h
  rw [List.all_eq_true] at h1
  refine ⟨hl, h1, chkBacks_ok hbk, ?_, ?_⟩
  · intro i j m m' d e1 e2 e3 e4
    exact chkDist_ok h3 i j d (by simp [e1, e3]) (by simp [e2, e4])
  · intro i j m m' o o' t e1 e2 e3 e4 ht hd
    have h4 := chkDeps_ok h2 i m o e1 (by simpa using e3)
    have := chkDep_ok h4 j m' o' t e2 (by simpa using e4) ht hd
    simpa using this
def chkKeep (nt : Nat) (keep : List Nat) : Bool := keep.all fun t => decide (t < nt)
theorem chkKeep_ok {nt : Nat} {keep : List Nat} (h : chkKeep nt keep = true) : KeepOK nt keep := by
  intro t ht
  unfold chkKeep at h
  rw [List.all_eq_true] at h
  simpa using h t ht
def chkMRest (T : TypeId) (m m2 m3 : Nat) : List (List UInt8 × Int) → List Oper → Bool
  | [], [o1, o2] => (match o1.op with
      | .move (.tmp a) => a == m
      | _ => false) && decide (o1.dst = some m2) && o1.guard.isNone && (match o2.op with
      | .assign (.tmp a) => a == m2
      | _ => false) && decide (o2.dst = some m3) && o2.guard.isNone
  | (k, n) :: l, o :: r => (match o.op with
      | .insert t (.tmp a) (.const (.string bs)) (.const (.int .i64 v)) => t == T && a == m && decide (bs.data.toList = k) && decide (v = n)
      | _ => false) && o.dst.isNone && o.guard.isNone && chkMRest T m m2 m3 l r
  | _, _ => false
theorem chkMRest_ok {T : TypeId} {m m2 m3 : Nat} : ∀ {l : List (List UInt8 × Int)} {r : List Oper}, chkMRest T m m2 m3 l r = true → MlitRest P T m m2 m3 l r
  | [], [o1, o2], h => by
    simp only [chkMRest, Bool.and_eq_true, decide_eq_true_eq, Option.isNone_iff_eq_none] at h
    obtain ⟨⟨⟨⟨⟨h1, h2⟩, h3⟩, h4⟩, h5⟩, h6⟩ := h
    refine ⟨⟨?_, h2, h3⟩, ?_, h5, h6⟩
    · split at h1
      · rename_i ho; rw [ho]; simp only [beq_iff_eq] at h1; rw [h1]
      · cases h1
    · split at h4
      · rename_i ho; rw [ho]; simp only [beq_iff_eq] at h4; rw [h4]
      · cases h4
  | (k, n) :: l, o :: r, h => by
    simp only [chkMRest, Bool.and_eq_true, Option.isNone_iff_eq_none] at h
    obtain ⟨⟨⟨h1, h2⟩, h3⟩, h4⟩ := h
    refine ⟨?_, chkMRest_ok h4⟩
    split at h1
    · rename_i bs v ho
      simp only [Bool.and_eq_true, beq_iff_eq, decide_eq_true_eq] at h1
      obtain ⟨⟨⟨rfl, rfl⟩, h5⟩, rfl⟩ := h1
      exact ⟨bs, ho, h5, h2, h3⟩
    · cases h1
  | [], [], h => by cases h
  | [], [_], h => by cases h
  | [], _ :: _ :: _ :: _, h => by cases h
  | _ :: _, [], h => by cases h
def chkMlit (P : Program) (nt m m2 m3 : Nat) (kvs : List (List UInt8 × Int)) : List Oper → Bool
  | o :: r => (match o.op with
      | .makeMap T none => isU P T (fun d => match d with
          | .map kt _ => isU P kt strD
          | _ => false) && chkMRest T m m2 m3 kvs r
      | _ => false) && decide (o.dst = some m) && o.guard.isNone && decide (m < nt) && decide (m2 < nt) && decide (m3 < nt) && decide (kvs.map (·.1)).Nodup
  | [] => false
theorem chkMlit_ok {nt m m2 m3 : Nat} {kvs : List (List UInt8 × Int)} : ∀ {l : List Oper}, chkMlit P nt m m2 m3 kvs l = true → MlitOK P nt m m2 m3 kvs l
  | o :: r, h => by
    simp only [chkMlit, Bool.and_eq_true, decide_eq_true_eq, Option.isNone_iff_eq_none] at h
    obtain ⟨⟨⟨⟨⟨⟨h1, h2⟩, h3⟩, h4⟩, h5⟩, h6⟩, h7⟩ := h
    split at h1
    · rename_i T ho
      simp only [Bool.and_eq_true] at h1
      obtain ⟨d, h8, h9⟩ := isU_ok h1.1
      cases d <;> first | cases h9 | skip
      exact ⟨T, _, _, ho, h2, h3, h8, strD_ok h9, h4, h5, h6, h7, chkMRest_ok h1.2⟩
    · cases h1
  | [], h => by cases h
def chkC (P : Program) (M : Mach) (nt : Nat) : MC → Code → Bool
  | .no, _ => true
  | .skip, .skip => true
  | .skip, .label _ => true
  | .reg ms keep, .region _ ops d => !d && chkKeep nt keep && chkOps P nt ops ms ops.toList
  | .draw ms rk keep, .region _ ops d => d && chkKeep nt keep && chkOps P nt ops ms ops.toList && chkDraw M ms rk ops.toList
  | .loud ms ord rk keep, .region _ ops d => d && chkKeep nt keep && chkOps P nt ops ms ops.toList && chkLoud M ms ord rk ops.toList
  | .mlit m m2 m3 kvs keep, .region _ ops d => !d && chkKeep nt keep && chkMlit P nt m m2 m3 kvs ops.toList
  | .seq x y, .seq x' y' => chkC P M nt x x' && chkC P M nt y y'
  | .cond c x y, .cond c' x' y' => chkO c c' && chkC P M nt x x' && chkC P M nt y y'
  | .block id x, .block id' x' => id == id' && chkC P M nt x x'
  | .loop x, .loop x' => chkC P M nt x x'
  | .exit id, .exit id' => id == id'
  | .ret, .ret => true
  | .kp x keep, c => chkKeep nt keep && chkC P M nt x c
  | _, _ => false
theorem chkC_ok {nt : Nat} : ∀ {x : MC} {c : Code}, chkC P M nt x c = true → COK P M nt x c := by
  intro x
  induction x with
  | no => intro c h; exact .no c
  | skip => intro c h; cases c <;> first | exact Bool.noConfusion h | exact .skip | exact .label _
  | reg ms keep =>
    intro c h
    cases c <;> first | exact Bool.noConfusion h | skip
    rename_i id ops d
    simp only [chkC, Bool.and_eq_true, Bool.not_eq_true'] at h
    obtain ⟨⟨rfl, h1⟩, h2⟩ := h
    obtain ⟨h3, h4⟩ := chkOps_ok h2
    exact .reg ms keep id ops (chkKeep_ok h1) (by simpa using h3) fun j m hj => by simpa using h4 j m hj
  | mlit m m2 m3 kvs keep =>
    intro c h
    cases c <;> first | exact Bool.noConfusion h | skip
    rename_i id ops d
    simp only [chkC, Bool.and_eq_true, Bool.not_eq_true'] at h
    obtain ⟨⟨rfl, h1⟩, h2⟩ := h
    exact .mlit m m2 m3 kvs keep id ops (chkKeep_ok h1) (chkMlit_ok h2)
  | draw ms rk keep =>
    intro c h
    cases c <;> first | exact Bool.noConfusion h | skip
    rename_i id ops d
    simp only [chkC, Bool.and_eq_true] at h
    obtain ⟨⟨⟨rfl, h1⟩, h2⟩, h5⟩ := h
    obtain ⟨h3, h4⟩ := chkOps_ok h2
    have hl : ms.length = ops.size := by simpa using h3
    exact .draw ms rk keep id ops (chkKeep_ok h1) (chkDraw_ok hl h5) fun j m hj => by simpa using h4 j m hj
  | loud ms ord rk keep =>
    intro c h
    cases c <;> first | exact Bool.noConfusion h | skip
    rename_i id ops d
    simp only [chkC, Bool.and_eq_true] at h
    obtain ⟨⟨⟨rfl, h1⟩, h2⟩, h5⟩ := h
    obtain ⟨h3, h4⟩ := chkOps_ok h2
    refine .loud ms ord rk keep id ops (chkKeep_ok h1) (chkLoud_ok h5) fun i hi => ?_
    have hl : i < ms.length := by rw [h3]; simpa using hi
    obtain ⟨o, h6, h7⟩ := h4 i ms[i] (List.getElem?_eq_getElem hl)
    refine ⟨o, by simpa using h6, ?_⟩
    rw [List.getD_eq_getElem?_getD, List.getElem?_eq_getElem hl]
    exact h7
  | seq x y ih1 ih2 =>
    intro c h
    cases c <;> first | exact Bool.noConfusion h | skip
    simp only [chkC, Bool.and_eq_true] at h
    exact .seq _ _ _ _ (ih1 h.1) (ih2 h.2)
  | cond c x y ih1 ih2 =>
    intro c h
    cases c <;> first | exact Bool.noConfusion h | skip
    simp only [chkC, Bool.and_eq_true] at h
    exact .cond _ _ _ _ _ _ (chkO_ok h.1.1) (ih1 h.1.2) (ih2 h.2)
  | block id x ih =>
    intro c h
    cases c <;> first | exact Bool.noConfusion h | skip
    simp only [chkC, Bool.and_eq_true, beq_iff_eq] at h
    obtain ⟨rfl, h⟩ := h
    exact .block _ _ _ (ih h)
  | loop x ih =>
    intro c h
    cases c <;> first | exact Bool.noConfusion h | skip
    exact .loop _ _ (ih h)
  | exit id =>
    intro c h
    cases c <;> first | exact Bool.noConfusion h | skip
    simp only [chkC, beq_iff_eq] at h
    subst h; exact .exit _
  | ret => intro c h; cases c <;> first | exact Bool.noConfusion h | exact .ret
  | kp x keep ih =>
    intro c h
    simp only [chkC, Bool.and_eq_true] at h
    exact .kp _ _ _ (chkKeep_ok h.1) (ih h.2)
def chkRes (P : Program) : List MRes → List ResultVar → Bool
  | [], [] => true
  | .t n :: l, .tmp m :: r => n == m && chkRes P l r
  | .c n agg sz :: l, .cell m t :: r => n == m && chkAgg P t agg && chkSize P t sz && chkRes P l r
  | _, _ => false
theorem chkRes_ok : ∀ {l : List MRes} {r : List ResultVar}, chkRes P l r = true → ResOK P l r
  | [], [], _ => trivial
  | .t n :: l, .tmp m :: r, h => by
    simp only [chkRes, Bool.and_eq_true, beq_iff_eq] at h
    exact ⟨h.1, chkRes_ok h.2⟩
  | .c n agg sz :: l, .cell m t :: r, h => by
    simp only [chkRes, Bool.and_eq_true, beq_iff_eq] at h
    exact ⟨h.1.1.1, chkAgg_ok h.1.1.2, chkSize_ok h.1.2, chkRes_ok h.2⟩
  | [], _ :: _, h => by cases h
  | .t _ :: _, [], h => by cases h
  | .c _ _ _ :: _, [], h => by cases h
  | .t _ :: _, .cell _ _ :: _, h => by cases h
  | .c _ _ _ :: _, .tmp _ :: _, h => by cases h
def chkF (P : Program) (M : Mach) (mf : MFun) (fn : Func) : Bool := match fn.body with
  | some c => decide (mf.np ≤ fn.ntmps) && (fn.name == "runtime.NumGoroutine") == false && chkRes P mf.res fn.results.toList && chkC P M fn.ntmps mf.body c
  | none => false
theorem chkF_ok {f : Nat} {mf : MFun} {fn : Func} (hf : P.funcs[f]? = some fn) (h : chkF P M mf fn = true) : FunOK P M f mf := by
  unfold chkF at h
  split at h
  · rename_i c hc
    simp only [Bool.and_eq_true, decide_eq_true_eq] at h
    obtain ⟨⟨⟨h1, h2⟩, h3⟩, h4⟩ := h
    exact ⟨fn, c, hf, hc, by simpa using h2, h1, chkC_ok h4, chkRes_ok h3⟩
  · cases h
end Go.Proofs.YtggoaggneapneaaDoorM
