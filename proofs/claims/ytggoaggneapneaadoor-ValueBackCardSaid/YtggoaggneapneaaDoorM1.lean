/-
  A small deterministic evaluator ("mirror") over abstract values. Part 1: definitions. Plain Lean; nothing of the program.
-/
import GoSem.Core.View
set_option linter.unusedVariables false
namespace Go.Proofs.YtggoaggneapneaaDoorM
open Go

/-- A pure value: a number, a truth, a text, a slice that nobody writes any more (a list of elements, each a list of cells). -/
inductive PV where
  | int (k : IntKind) (n : Int)
  | bool (b : Bool)
  | str (s : List UInt8)
  | sl (xs : List (List PV))
  deriving Inhabited

/-- An abstract value. -/
inductive AV where
  | pv (p : PV)
  | nils
  | own (sz : Nat) (xs : List (List PV))
  | row (b o n sz : Nat)
  | nilp
  | cell (b o : Nat)
  | elem (r : List PV) (o : Nat)
  | fn (f : Nat) (caps : List AV)
  | nilfn
  | agg (cs : List AV)
  | tup (vs : List AV)
  | iface (t : Nat) (v : AV)
  | nilif
  | yld (l : Nat)
  | mapc (kvs : List (List UInt8 × Int))
  | bot
  deriving Inhabited

abbrev AV.int (k : IntKind) (n : Int) : AV := .pv (.int k n)
abbrev AV.bool (b : Bool) : AV := .pv (.bool b)
abbrev AV.str (s : List UInt8) : AV := .pv (.str s)
abbrev AV.sl (xs : List (List PV)) : AV := .pv (.sl xs)

inductive Opd where
  | t (n : Nat)
  | c (v : AV)
  deriving Inhabited

/-- How an integer operand's result is converted, and the like. -/
inductive Cv where
  | int (k : IntKind)
  | same
  | s2b
  | s2r
  | b2s
  deriving Inhabited

inductive MI where
  | mov (x : Opd)
  | movd (x : Opd)
  | loadd (agg : Bool) (sz : Nat) (a : Opd)
  | appS (sz bytes : Nat) (x y : Opd) (h : Nat)
  | appC (sz bytes : Nat) (x y : Opd)
  | asg (x : Opd)
  | pick (c a b : Opd)
  | alloc (z : List AV)
  | box (sz : Nat) (x : Opd)
  | build (z : List AV) (parts : List (Nat × Nat × Opd))
  | bsl (sz : Nat) (xs : List Opd)
  | load (agg : Bool) (sz : Nat) (a : Opd)
  | store (sz : Nat) (a x : Opd)
  | nilck (x : Opd)
  | bin (op : BinOp) (x y : Opd)
  | beq (ne : Bool) (x y : Opd)
  | un (op : UnOp) (x : Opd)
  | eqA (ne : Bool) (ks : List Nat) (x y : Opd)
  | conv (k : Cv) (x : Opd)
  | slice (st : Bool) (sz : Nat) (x : Opd) (lo hi mx : Option Opd)
  | sliceA (len sz : Nat) (x : Opd) (lo hi : Option Opd)
  | fadr (off : Nat) (x : Opd)
  | fld (agg : Bool) (sz off : Nat) (x : Opd)
  | iadr (sz : Nat) (x i : Opd)
  | iadrA (len sz : Nat) (x i : Opd)
  | idxS (x i : Opd)
  | idxA (len : Nat) (agg : Bool) (sz : Nat) (x i : Opd)
  | mkfn (f : Nat) (caps : List Opd)
  | mkif (t : Nat) (x : Opd)
  | tas (t : Nat) (ok : Bool) (x : Opd)
  | ext (i : Nat) (x : Opd)
  | call (f : Nat) (args : List Opd)
  | callc (f : Nat) (args : List Opd)
  | callv (f : Opd) (args : List Opd)
  | len (st : Bool) (x : Opd)
  | lenA (n : Nat)
  | lkp (x k : Opd)
  | bad
  | isnil (ne : Bool) (k : Nat) (x : Opd)
  | mn (xs : List Opd)
  | mx (xs : List Opd)
  | app (sz bytes : Nat) (x y : Opd)
  | mks (sz bytes : Nat) (z : List AV) (n : Opd)
  deriving Inhabited

structure MOp where
  dst : Option Nat
  g : Option (Nat × Bool)
  i : MI
  deriving Inhabited

inductive MC where
  | skip
  | no
  | reg (ops : List MOp) (keep : List Nat)
  | draw (ops : List MOp) (rk : List Nat) (keep : List Nat)
  | loud (ops : List MOp) (ord : List Nat) (rk : List Nat) (keep : List Nat)
  | mlit (m m2 m3 : Nat) (kvs : List (List UInt8 × Int)) (keep : List Nat)
  | seq (a b : MC)
  | cond (c : Opd) (a b : MC)
  | block (id : Nat) (b : MC)
  | loop (b : MC)
  | exit (id : Nat)
  | ret
  | kp (b : MC) (keep : List Nat)
  deriving Inhabited

inductive MX where
  | nrm
  | ext (id : Nat)
  | ret
  deriving Inhabited

inductive MRes where
  | t (n : Nat)
  | c (n : Nat) (agg : Bool) (sz : Nat)
  deriving Inhabited

structure MFun where
  np : Nat
  res : List MRes
  body : MC
  clean : Bool

abbrev Env := List (Nat × AV)
structure Sig where
  bl : List (List AV)
  fl : Nat

inductive Home where
  | slot (t : Nat)
  | cell (b o : Nat)
  deriving DecidableEq, Inhabited

structure St where
  env : Env
  sg : Sig
  pr : List (Nat × Home)

def look : Env → Nat → Option AV
  | [], _ => none
  | (k, v) :: e, t => if k = t then some v else look e t
def get (e : Env) (t : Nat) : AV := (look e t).getD .bot
def lookP : List (Nat × Home) → Nat → Option Home
  | [], _ => none
  | (k, v) :: e, t => if k = t then some v else lookP e t
def put (e : Env) (t : Nat) (v : AV) : Env := (t, v) :: e
def restrict (e : Env) (keep : List Nat) : Env := keep.map fun t => (t, get e t)
def eo (e : Env) : Opd → AV
  | .t n => get e n
  | .c v => v

/-- A copy: what is ours elsewhere is only read here. -/
def dem : AV → AV
  | .own _ xs => .pv (.sl xs)
  | a => a
def isOwn : AV → Bool
  | .own _ _ => true
  | _ => false
/-- What a cell of memory may hold. -/
def isCell : AV → Bool
  | .agg _ => false
  | .tup _ => false
  | .bot => false
  | .mapc _ => false
  | _ => true
def cellsOf : AV → List AV
  | .agg cs => cs
  | a => [a]
/-- A cell of a slice that nobody writes. -/
def pur1 : AV → Option PV
  | .pv p => some p
  | .own _ xs => some (.sl xs)
  | .nils => some (.sl [])
  | _ => none
def purL : List AV → Option (List PV)
  | [] => some []
  | a :: l => (pur1 a).bind fun p => (purL l).map (p :: ·)

def inS (sz n : Nat) : Bool := sz * n ≤ 140737488355328
def chunk (sz : Nat) : Nat → List PV → List (List PV)
  | 0, _ => []
  | n + 1, l => l.take sz :: chunk sz n (l.drop sz)

/-- What a function hands back, when all that it made is forgotten. -/
def freeze (sg : Sig) : AV → Option AV
  | .pv p => some (.pv p)
  | .own _ xs => some (.pv (.sl xs))
  | .nils => some (.pv (.sl []))
  | .row b o n sz => match sg.bl[b]? with
    | some cs => if sg.fl ≤ b ∧ o + n * sz ≤ cs.length then (purL ((cs.drop o).take (n * sz))).map fun ps => .pv (.sl (chunk sz n ps)) else none
    | none => none
  | .nilp => some .nilp
  | .nilfn => some .nilfn
  | .nilif => some .nilif
  | _ => none
def freezeL (sg : Sig) : List AV → Option (List AV)
  | [] => some []
  | a :: l => (freeze sg a).bind fun p => (freezeL sg l).map (p :: ·)
def freezeA (sg : Sig) : AV → Option AV
  | .agg cs => (freezeL sg cs).map .agg
  | a => freeze sg a
def freezeAL (sg : Sig) : List AV → Option (List AV)
  | [] => some []
  | a :: l => (freezeA sg a).bind fun p => (freezeAL sg l).map (p :: ·)
def freezeV (sg : Sig) : AV → Option AV
  | .tup vs => (freezeAL sg vs).map .tup
  | a => freezeA sg a

/-! ### Numbers -/
def binI (op : BinOp) (k : IntKind) (a b : Int) : Option PV :=
  match op with
  | .add => some (.int k (k.wrap (a + b)))
  | .sub => some (.int k (k.wrap (a - b)))
  | .mul => some (.int k (k.wrap (a * b)))
  | .quo => if b = 0 then none else some (.int k (k.wrap (a.tdiv b)))
  | .rem => if b = 0 then none else some (.int k (a.tmod b))
  | .and => some (.int k (k.wrap ((BitVec.ofInt k.bits a &&& BitVec.ofInt k.bits b).toNat)))
  | .or => some (.int k (k.wrap ((BitVec.ofInt k.bits a ||| BitVec.ofInt k.bits b).toNat)))
  | .xor => some (.int k (k.wrap ((BitVec.ofInt k.bits a ^^^ BitVec.ofInt k.bits b).toNat)))
  | .andNot => some (.int k (k.wrap ((BitVec.ofInt k.bits a &&& ~~~(BitVec.ofInt k.bits b)).toNat)))
  | .eql => some (.bool (a == b))
  | .neq => some (.bool (a != b))
  | .lss => some (.bool (decide (a < b)))
  | .leq => some (.bool (decide (a ≤ b)))
  | .gtr => some (.bool (decide (a > b)))
  | .geq => some (.bool (decide (a ≥ b)))
  | .shl => none
  | .shr => none
def maxI : Nat := 9223372036854775807
def binV (op : BinOp) (x y : AV) : Option AV :=
  match x, y with
  | .pv (.int k a), .pv (.int k' b) =>
    match op with
    | .shl => if b < 0 then none else some (.pv (.int k (k.wrap (a * 2 ^ (min b.toNat k.bits)))))
    | .shr => if b < 0 then none else some (.pv (.int k (a.fdiv (2 ^ (min b.toNat k.bits)))))
    | _ => if k = k' then (binI op k a b).map .pv else none
  | .pv (.str a), .pv (.str b) =>
    match op with
    | .add => if a.length + b.length ≤ maxI then some (.pv (.str (a ++ b))) else none
    | .eql => some (.pv (.bool (a == b)))
    | .neq => some (.pv (.bool (!(a == b))))
    | _ => none
  | _, _ => none
def unV (op : UnOp) (x : AV) : Option AV :=
  match op, x with
  | .neg, .pv (.int k n) => some (.pv (.int k (k.wrap (0 - n))))
  | .not, .pv (.bool b) => some (.pv (.bool (!b)))
  | _, _ => none
def rowsOf : AV → Option (List (List PV))
  | .pv (.sl xs) => some xs
  | .own _ xs => some xs
  | .nils => some []
  | _ => none
def toB : List PV → Option UInt8
  | [.int .u8 n] => some (UInt8.ofNat n.toNat)
  | _ => none
def toBs : List (List PV) → Option (List UInt8)
  | [] => some []
  | r :: l => (toB r).bind fun b => (toBs l).map (b :: ·)
def ofBs (s : List UInt8) : List (List PV) := s.map fun b => [.int .u8 (b.toNat : Int)]
def asI : AV → Option Int
  | .pv (.int _ n) => some n
  | _ => none
def part (agg : Bool) (cs : List AV) : Option AV :=
  if agg then some (.agg cs) else match cs with
    | [c] => some c
    | _ => none
def fillA (cells : List AV) (off : Nat) : List AV → List AV
  | [] => cells
  | v :: l => fillA (cells.set off v) (off + 1) l
/-- A cell of memory, as it is copied. -/
def demL (l : List AV) : List AV := l.map dem
def storeCs : AV → List AV
  | .agg l => demL l
  | a => [a]
def buildA (e : Env) : List AV → List (Nat × Nat × Opd) → Option (List AV)
  | z, [] => some z
  | z, (off, sz, x) :: l =>
    let cs := demL (cellsOf (dem (eo e x)))
    if cs.length = sz ∧ off + sz ≤ z.length ∧ cs.all isCell then buildA e (fillA z off cs) l else none
def rowsA (e : Env) (sz : Nat) : List Opd → Option (List (List PV))
  | [] => some []
  | x :: l =>
    (purL (cellsOf (eo e x))).bind fun r => if r.length = sz then (rowsA e sz l).map (r :: ·) else none
def minG (k : IntKind) : Int → List AV → Option AV
  | a, [] => some (.pv (.int k a))
  | a, .pv (.int k' b) :: l => if k = k' then minG k (if b < a then b else a) l else none
  | _, _ => none
def maxG (k : IntKind) : Int → List AV → Option AV
  | a, [] => some (.pv (.int k a))
  | a, .pv (.int k' b) :: l => if k = k' then maxG k (if b > a then b else a) l else none
  | _, _ => none
def minL : List AV → Option AV
  | .pv (.int k a) :: l => minG k a l
  | _ => none
def maxL : List AV → Option AV
  | .pv (.int k a) :: l => maxG k a l
  | _ => none

/-! ### One operation: what it hands back, what it turns -/
structure Upd where
  v : AV
  p : Option Home
  dm : List Nat
  sg : Sig
  cl : Bool

def slotOf : Opd → Option Nat
  | .t n => some n
  | .c _ => none
def plain (sg : Sig) (v : AV) : Option Upd := some { v, p := none, dm := [], sg, cl := false }
def plainO (sg : Sig) (v : Option AV) : Option Upd := v.bind (plain sg)
/-- What is taken from an operand that moves: its slot keeps a copy. -/
def taken (e : Env) : Opd → List Nat
  | .t n => if isOwn (get e n) then [n] else []
  | .c _ => []
def cellAt (sg : Sig) (b o : Nat) : Option AV := (sg.bl[b]?).bind (·[o]?)
def setCells (sg : Sig) (b : Nat) (cs : List AV) : Sig := { sg with bl := sg.bl.set b cs }
def storeV (sg : Sig) (b o : Nat) (vs : List AV) : Option Sig :=
  if sg.fl ≤ b ∧ vs.all isCell then
    match sg.bl[b]? with
    | some cs => if o + vs.length ≤ cs.length then some (setCells sg b (fillA cs o vs)) else none
    | none => none
  else none
def loadV (sg : Sig) (agg : Bool) (sz : Nat) : AV → Option (List AV)
  | .cell b o => match sg.bl[b]? with
    | some cs => if o + sz ≤ cs.length then some ((cs.drop o).take sz) else none
    | none => none
  | .elem r o => if o + sz ≤ r.length then some (((r.drop o).take sz).map .pv) else none
  | _ => none
def ownOf : AV → Option (Nat × List (List PV))
  | .own sz xs => some (sz, xs)
  | _ => none
/-- The slice that may be appended to: the operand itself, or the place that it is a copy of. -/
def homeOf (s : St) (x : Opd) : Option Home :=
  match x with
  | .t n => if isOwn (get s.env n) then some (.slot n) else lookP s.pr n
  | .c _ => none
def atHome (s : St) : Home → Option AV
  | .slot t => look s.env t
  | .cell b o => if s.sg.fl ≤ b then cellAt s.sg b o else none
def appV (s : St) (sz bytes : Nat) (x : Opd) (ys : List (List PV)) : Option Upd :=
  if ys.all (fun r => r.length = sz) then
    match eo s.env x with
    | .nils => if inS bytes ys.length then some { v := if ys.isEmpty then .nils else .own sz ys, p := none, dm := [], sg := s.sg, cl := false } else none
    | _ =>
      match homeOf s x with
      | some (.slot t) => match look s.env t with
        | some (.own sz' xs) => if sz' = sz ∧ inS bytes (xs.length + ys.length) then some { v := .own sz (xs ++ ys), p := none, dm := [t], sg := s.sg, cl := false } else none
        | _ => none
      | some (.cell b o) => match atHome s (.cell b o) with
        | some (.own sz' xs) => if sz' = sz ∧ inS bytes (xs.length + ys.length) then
            match s.sg.bl[b]? with
            | some cs => some { v := .own sz (xs ++ ys), p := none, dm := [], sg := setCells s.sg b (cs.set o (.pv (.sl xs))), cl := false }
            | none => none
          else none
        | _ => none
      | none => none
  else none
/-- Equality of structs of numbers, truths and texts. -/
def eqP : PV → PV → Option Bool
  | .int k a, .int k' b => if k = k' then some (a == b) else none
  | .bool a, .bool b => some (a == b)
  | .str a, .str b => some (a == b)
  | _, _ => none
def kindP : PV → Nat
  | .int _ _ => 0
  | .bool _ => 1
  | .str _ => 2
  | .sl _ => 3
def eqPs : List Nat → List AV → List AV → Option Bool
  | [], [], [] => some true
  | k :: ks, .pv p :: l, .pv q :: m => if kindP p = k then (eqP p q).bind fun b => (eqPs ks l m).map (b && ·) else none
  | _, _, _ => none
def eqAV (ks : List Nat) : AV → AV → Option Bool
  | .agg l, .agg m => eqPs ks l m
  | _, _ => none
/-- What is appended: a slice's elements, or a text's bytes. -/
def srcOf : AV → Option (List (List PV))
  | .pv (.str s) => some (ofBs s)
  | a => rowsOf a
def inB (i : Int) (n : Nat) : Bool := 0 ≤ i ∧ i < n
def bnd (e : Env) (d : Int) : Option Opd → Option Int
  | none => some d
  | some x => asI (eo e x)
def sliceS (e : Env) (x : AV) (lo hi : Option Opd) : Option AV :=
  match x with
  | .pv (.str s) => (bnd e 0 lo).bind fun l => (bnd e s.length hi).bind fun h =>
      if 0 ≤ l ∧ l ≤ h ∧ h ≤ s.length then some (.pv (.str ((s.take h.toNat).drop l.toNat))) else none
  | _ => none
def headIs (sz : Nat) : List (List PV) → Bool
  | [] => true
  | r :: _ => r.length == sz
def sliceL (e : Env) (sz : Nat) (x : AV) (lo hi mx : Option Opd) : Option AV :=
  (rowsOf x).bind fun xs => (bnd e 0 lo).bind fun l => (bnd e xs.length hi).bind fun h => (bnd e xs.length mx).bind fun m =>
      if 0 ≤ l ∧ l ≤ h ∧ h ≤ m ∧ m ≤ xs.length ∧ (hi.isSome ∨ mx.isNone) ∧ headIs sz xs then some (.pv (.sl ((xs.take h.toNat).drop l.toNat))) else none
def sliceV (e : Env) (st : Bool) (sz : Nat) (x : AV) (lo hi mx : Option Opd) : Option AV :=
  if st then (if mx.isNone then sliceS e x lo hi else none) else sliceL e sz x lo hi mx
def sliceAV (e : Env) (len sz : Nat) (x : AV) (lo hi : Option Opd) : Option AV :=
  match x with
  | .cell b o => (bnd e 0 lo).bind fun l => (bnd e len hi).bind fun h => if 0 ≤ l ∧ l ≤ h ∧ h ≤ len ∧ (l < len ∨ l = 0) then some (.row b (o + l.toNat * sz) (h.toNat - l.toNat) sz) else none
  | _ => none
def iadrV (sz : Nat) (x : AV) (i : Int) : Option AV :=
  match x with
  | .row b o n sz' => if sz' = sz ∧ inB i n then some (.cell b (o + i.toNat * sz)) else none
  | _ => (rowsOf x).bind fun xs => if inB i xs.length then (xs[i.toNat]?).bind fun r => if r.length = sz then some (.elem r 0) else none else none
def argsOf (e : Env) (l : List Opd) : List AV := l.map fun x => dem (eo e x)
/-- Is a value nil? -/
def isNilV : Nat → AV → Option Bool
  | 0, .nilif => some true
  | 0, .iface _ _ => some false
  | 1, .nilp => some true
  | 1, .cell _ _ => some false
  | 1, .elem _ _ => some false
  | 2, .nils => some true
  | 2, .own _ _ => some false
  | 2, .row _ _ _ _ => some false
  | 2, .pv (.sl (_ :: _)) => some false
  | 3, .nilfn => some true
  | 3, .fn _ _ => some false
  | _, _ => none
/-- A look-up in a map that is told whole. -/
def mfind : List (List UInt8 × Int) → List UInt8 → Int × Bool
  | [], _ => (0, false)
  | (k, n) :: l, s => if k = s then (n, true) else mfind l s
def offAV (k : Nat) : AV → Option AV
  | .cell b o => some (.cell b (o + k))
  | .elem r o => some (.elem r (o + k))
  | _ => none
def lenS : AV → Option Int
  | .pv (.str s) => some s.length
  | _ => none
def lenL : AV → Option Int
  | .row _ _ n _ => some n
  | a => (rowsOf a).map fun xs => (xs.length : Int)

/-- A value that holds no address. -/
def closed1 : AV → Bool
  | .pv _ => true
  | .nils => true
  | .nilp => true
  | .nilfn => true
  | .nilif => true
  | _ => false
def closedA : AV → Bool
  | .agg cs => cs.all closed1
  | a => closed1 a
def isNils : AV → Bool
  | .nils => true
  | _ => false
/-- The home of a slice that is appended to, as it was told ahead: a slot, a cell. -/
def homeS (s : St) (x : Opd) (h : Nat) : Bool := isNils (eo s.env x) || decide (homeOf s x = some (.slot h))
def homeC (s : St) (x : Opd) : Bool := isNils (eo s.env x) || (match homeOf s x with
  | some (.cell _ _) => true
  | _ => false)
abbrev Call := Nat → List AV → Sig → Option (AV × Sig)

def stepI (call : Call) (s : St) (i : MI) : Option Upd :=
  match i with
  | .mov x => match x with
    | .t n => some { v := dem (get s.env n), p := if isOwn (get s.env n) then some (.slot n) else lookP s.pr n, dm := [], sg := s.sg, cl := false }
    | .c v => plain s.sg v
  | .movd x => match x with
    | .t n => some { v := dem (get s.env n), p := if isOwn (get s.env n) then some (.slot n) else none, dm := [], sg := s.sg, cl := false }
    | .c v => plain s.sg v
  | .loadd agg sz a => (loadV s.sg agg sz (eo s.env a)).bind fun cs => (part agg (demL cs)).bind fun v => plain s.sg v
  | .appS sz bytes x y h => if homeS s x h then (srcOf (eo s.env y)).bind fun ys => appV s sz bytes x ys else none
  | .appC sz bytes x y => if homeC s x then (srcOf (eo s.env y)).bind fun ys => appV s sz bytes x ys else none
  | .asg x => some { v := eo s.env x, p := none, dm := taken s.env x, sg := s.sg, cl := false }
  | .pick c a b => match eo s.env c with
    | .pv (.bool t) => plain s.sg (dem (eo s.env (if t then a else b)))
    | _ => none
  | .alloc z => plain { s.sg with bl := s.sg.bl ++ [z] } (.cell s.sg.bl.length 0)
  | .box sz x =>
    let cs := demL (cellsOf (eo s.env x))
    if cs.length = sz ∧ cs.all isCell then plain { s.sg with bl := s.sg.bl ++ [cs] } (.cell s.sg.bl.length 0) else none
  | .build z parts => plainO s.sg ((buildA s.env z parts).map .agg)
  | .bsl sz xs => plainO s.sg ((rowsA s.env sz xs).map (.own sz))
  | .load agg sz a =>
    (loadV s.sg agg sz (eo s.env a)).bind fun cs =>
      (part agg (demL cs)).bind fun v =>
        some { v, p := match agg, eo s.env a with
                        | false, .cell b o => if isOwn ((cellAt s.sg b o).getD .bot) then some (.cell b o) else none
                        | _, _ => none, dm := [], sg := s.sg, cl := false }
  | .store sz a x => match eo s.env a with
    | .cell b o =>
      if (storeCs (eo s.env x)).length = sz then
        (storeV s.sg b o (storeCs (eo s.env x))).map fun sg => { v := .bot, p := none, dm := taken s.env x, sg, cl := true }
      else none
    | _ => none
  | .nilck x => match eo s.env x with
    | .cell b o => plain s.sg (.cell b o)
    | .elem r o => plain s.sg (.elem r o)
    | _ => none
  | .bin op x y => plainO s.sg (binV op (eo s.env x) (eo s.env y))
  | .beq ne x y => match eo s.env x, eo s.env y with
    | .pv (.bool a), .pv (.bool b) => plain s.sg (.pv (.bool ((a == b) != ne)))
    | _, _ => none
  | .un op x => plainO s.sg (unV op (eo s.env x))
  | .eqA ne n x y => plainO s.sg ((eqAV n (eo s.env x) (eo s.env y)).map fun b => .pv (.bool (b != ne)))
  | .conv k x => match k, eo s.env x with
    | .int k, .pv (.int _ n) => plain s.sg (.pv (.int k (k.wrap n)))
    | .same, .pv (.str t) => plain s.sg (.pv (.str t))
    | .s2b, .pv (.str t) => if inS 1 t.length then plain s.sg (.pv (.sl (ofBs t))) else none
    | .s2r, .pv (.str t) => if inS 1 t.length then plain { s.sg with bl := s.sg.bl ++ [t.map fun b => .pv (.int .u8 (b.toNat : Int))] } (.row s.sg.bl.length 0 t.length 1) else none
    | .b2s, .row b o n sz => match s.sg.bl[b]? with
      | some cs => if sz = 1 ∧ o + n ≤ cs.length then plainO s.sg (((purL ((cs.drop o).take n)).bind fun ps => toBs (ps.map fun p => [p])).map fun l => .pv (.str l)) else none
      | none => none
    | .b2s, v => plainO s.sg (((rowsOf v).bind toBs).map fun l => .pv (.str l))
    | _, _ => none
  | .slice st sz x lo hi mx => plainO s.sg (sliceV s.env st sz (eo s.env x) lo hi mx)
  | .sliceA len sz x lo hi => plainO s.sg (sliceAV s.env len sz (eo s.env x) lo hi)
  | .fadr off x => plainO s.sg (offAV off (eo s.env x))
  | .fld agg sz off x => match eo s.env x with
    | .agg cs => if off + sz ≤ cs.length then plainO s.sg (part agg (demL ((cs.drop off).take sz))) else none
    | _ => none
  | .iadr sz x i => plainO s.sg ((asI (eo s.env i)).bind (iadrV sz (eo s.env x)))
  | .iadrA len sz x i => plainO s.sg ((asI (eo s.env i)).bind fun j => if inB j len then offAV (j.toNat * sz) (eo s.env x) else none)
  | .idxS x i => match eo s.env x with
    | .pv (.str t) => plainO s.sg ((asI (eo s.env i)).bind fun j => if 0 ≤ j then (t[j.toNat]?).map fun b => .pv (.int .u8 (b.toNat : Int)) else none)
    | _ => none
  | .idxA len agg sz x i => match eo s.env x with
    | .agg cs => plainO s.sg ((asI (eo s.env i)).bind fun j => if inB j len ∧ (j.toNat + 1) * sz ≤ cs.length then part agg (demL ((cs.drop (j.toNat * sz)).take sz)) else none)
    | _ => none
  | .mkfn f caps => plain s.sg (.fn f (argsOf s.env caps))
  | .mkif t x => plain s.sg (.iface t (dem (eo s.env x)))
  | .tas t ok x => match eo s.env x with
    | .iface u v => if u = t then plain s.sg (if ok then .tup [dem v, .pv (.bool true)] else dem v) else none
    | _ => none
  | .ext i x => match eo s.env x with
    | .tup vs => plainO s.sg ((vs[i]?).map dem)
    | _ => none
  | .call f args => (call f (argsOf s.env args) s.sg).bind fun (v, sg) => some { v, p := none, dm := [], sg, cl := true }
  | .callc f args => if (argsOf s.env args).all closedA then (call f (argsOf s.env args) s.sg).bind fun (v, sg) => some { v, p := none, dm := [], sg, cl := true } else none
  | .callv f args => match eo s.env f with
    | .fn f caps => (call f (argsOf s.env args ++ caps.map dem) s.sg).bind fun (v, sg) => some { v, p := none, dm := [], sg, cl := true }
    | _ => none
  | .len st x => plainO s.sg ((if st then lenS (eo s.env x) else lenL (eo s.env x)).map fun n => .pv (.int .i64 n))
  | .lenA n => plain s.sg (.pv (.int .i64 n))
  | .bad => none
  | .isnil ne k x => plainO s.sg ((isNilV k (eo s.env x)).map fun b => .pv (.bool (b != ne)))
  | .lkp x k => match eo s.env x, eo s.env k with
    | .mapc kvs, .pv (.str t) => plain s.sg (.tup [.pv (.int .i64 (mfind kvs t).1), .pv (.bool (mfind kvs t).2)])
    | _, _ => none
  | .mn xs => plainO s.sg (minL (xs.map (eo s.env)))
  | .mx xs => plainO s.sg (maxL (xs.map (eo s.env)))
  | .app sz bytes x y => (srcOf (eo s.env y)).bind fun ys => appV s sz bytes x ys
  | .mks sz bytes z n => (asI (eo s.env n)).bind fun m =>
      if 0 ≤ m ∧ inS bytes m.toNat ∧ z.length = sz then plain { s.sg with bl := s.sg.bl ++ [(List.replicate m.toNat z).flatten] } (.row s.sg.bl.length 0 m.toNat sz) else none

def demSlots (e : Env) : List Nat → Env
  | [] => e
  | t :: l => demSlots (put e t (dem (get e t))) l
def noCell (l : List (Nat × Home)) : List (Nat × Home) := l.filter fun x => match x.2 with
  | .slot _ => true
  | .cell _ _ => false
def noSlot (t : Nat) (l : List (Nat × Home)) : List (Nat × Home) := l.filter fun x => x.1 ≠ t ∧ x.2 ≠ .slot t
def provPut (l : List (Nat × Home)) (t : Nat) : Option Home → List (Nat × Home)
  | none => noSlot t l
  | some h => if h = .slot t then noSlot t l else (t, h) :: noSlot t l
def applyU (s : St) (dst : Option Nat) (u : Upd) : St :=
  let e := demSlots s.env u.dm
  let pr := if u.cl then noCell s.pr else s.pr
  match dst with
  | some d => { env := put e d u.v, sg := u.sg, pr := provPut pr d u.p }
  | none => { env := e, sg := u.sg, pr }
def wantedM (e : Env) : Option (Nat × Bool) → Option Bool
  | none => some true
  | some (t, b) => match get e t with
    | .pv (.bool c) => some (c == b)
    | .tup [] => some false
    | _ => none
def stepO (call : Call) (s : St) (o : MOp) : Option St :=
  (wantedM s.env o.g).bind fun w =>
    if w then (stepI call s o.i).map (applyU s o.dst)
    else some (applyU s o.dst { v := .tup [], p := none, dm := [], sg := s.sg, cl := false })
def opsW (call : Call) : List MOp → St → Option St
  | [], s => some s
  | o :: l, s => (stepO call s o).bind (opsW call l)

/-- A region whose order is drawn: nothing in it turns memory, so its order does not matter. -/
def opsD (call : Call) (sg : Sig) : List MOp → Env → Option Env
  | [], e => some e
  | o :: l, e => (stepO call { env := e, sg, pr := [] } o).bind fun s => opsD call sg l s.env

def nop : MOp := { dst := none, g := none, i := .lenA 0 }
/-- Operations in the order that is told. -/
def inOrd (ms : List MOp) (ord : List Nat) : List MOp := ord.map fun i => ms.getD i nop
abbrev Out := MX × Env × Sig
abbrev Rec := MC → Env → Sig → Option Out

/-- The functions of the program; and the contracts of those that are not walked: the ones that turn nothing, and the others. -/
structure Mach where
  fn : Nat → Option MFun
  lib : Nat → Option (List AV → Option AV)
  libI : Nat → Option (List AV → Sig → Option (AV × Sig))

def enter : Nat → List AV → Env
  | _, [] => []
  | k, a :: l => (k, a) :: enter (k + 1) l
def res1 (e : Env) (sg : Sig) : MRes → Option AV
  | .t n => some (dem (get e n))
  | .c n agg sz => (loadV sg agg sz (get e n)).bind fun cs => part agg (demL cs)
def resL (e : Env) (sg : Sig) : List MRes → Option (List AV)
  | [] => some []
  | r :: l => (res1 e sg r).bind fun a => (resL e sg l).map (a :: ·)
def resV (e : Env) (sg : Sig) (l : List MRes) : Option AV :=
  (resL e sg l).map fun vs => match vs with
    | [v] => v
    | vs => .tup vs

/-- What a function sees of memory: one that keeps nothing and is handed no address, none. -/
def startSg (clean : Bool) (args : List AV) (sg : Sig) : Sig :=
  if clean then (if args.all closedA then { bl := [], fl := 0 } else { sg with fl := sg.bl.length }) else sg
def callW (M : Mach) (rec : Rec) : Call := fun f args sg =>
  match M.lib f with
  | some g => (g args).map fun r => (r, sg)
  | none => match M.libI f with
    | some g => g args sg
    | none => match M.fn f with
      | none => none
      | some mf =>
        if args.length = mf.np then
          (rec mf.body (enter 0 args) (startSg mf.clean args sg)).bind fun (x, e, sg1) =>
            match x with
            | .ext _ => none
            | _ => (resV e sg1 mf.res).bind fun v =>
              if mf.clean then (freezeV sg1 v).map fun r => (r, sg) else some (v, sg1)
        else none

def isNrm : MX → Bool
  | .nrm => true
  | _ => false
def condB (v : AV) (x y : Option Out) : Option Out :=
  match v with
  | .pv (.bool b) => if b then x else y
  | _ => none
def outOf (id : Nat) : MX → MX
  | .ext i => if i = id then .nrm else .ext i
  | x => x

def exStep (M : Mach) (rec : Rec) : Rec := fun c env sg =>
  match c with
  | .skip => some (.nrm, env, sg)
  | .no => none
  | .reg ops keep => (opsW (callW M rec) ops { env, sg, pr := [] }).map fun s => (.nrm, restrict s.env keep, s.sg)
  | .draw ops _ keep => (opsD (callW M rec) sg ops env).map fun e => (.nrm, restrict e keep, sg)
  | .loud ops ord _ keep => (opsW (callW M rec) (inOrd ops ord) { env, sg, pr := [] }).map fun s => (.nrm, restrict s.env keep, s.sg)
  | .mlit m m2 m3 kvs keep => some (.nrm, restrict (put (put (put env m (.mapc kvs)) m2 (.mapc kvs)) m3 (.mapc kvs)) keep, sg)
  | .seq a b => (rec a env sg).bind fun (x, e, sg1) => if isNrm x then rec b e sg1 else some (x, e, sg1)
  | .cond c a b => condB (eo env c) (rec a env sg) (rec b env sg)
  | .block id b => (rec b env sg).map fun (x, e, sg1) => (outOf id x, e, sg1)
  | .loop b => (rec b env sg).bind fun (x, e, sg1) => if isNrm x then rec (.loop b) e sg1 else some (x, e, sg1)
  | .exit id => some (.ext id, env, sg)
  | .ret => some (.ret, env, sg)
  | .kp b keep => (rec b env sg).map fun (x, e, sg1) => (x, if isNrm x then restrict e keep else e, sg1)

/-! ### What an instruction reads; which ones turn nothing -/
def useO : Opd → List Nat
  | .t n => [n]
  | .c _ => []
def useOo : Option Opd → List Nat
  | none => []
  | some x => useO x
def useL : List Opd → List Nat
  | [] => []
  | x :: l => useO x ++ useL l
def usesI : MI → List Nat
  | .mov x => useO x
  | .movd x => useO x
  | .loadd _ _ a => useO a
  | .appS _ _ x y h => h :: (useO x ++ useO y)
  | .appC _ _ x y => useO x ++ useO y
  | .asg x => useO x
  | .pick c a b => useO c ++ useO a ++ useO b
  | .alloc _ => []
  | .box _ x => useO x
  | .build _ parts => useL (parts.map fun p => p.2.2)
  | .bsl _ xs => useL xs
  | .load _ _ a => useO a
  | .store _ a x => useO a ++ useO x
  | .nilck x => useO x
  | .bin _ x y => useO x ++ useO y
  | .beq _ x y => useO x ++ useO y
  | .un _ x => useO x
  | .eqA _ _ x y => useO x ++ useO y
  | .conv _ x => useO x
  | .slice _ _ x lo hi mx => useO x ++ useOo lo ++ useOo hi ++ useOo mx
  | .sliceA _ _ x lo hi => useO x ++ useOo lo ++ useOo hi
  | .fadr _ x => useO x
  | .fld _ _ _ x => useO x
  | .iadr _ x i => useO x ++ useO i
  | .iadrA _ _ x i => useO x ++ useO i
  | .idxS x i => useO x ++ useO i
  | .idxA _ _ _ x i => useO x ++ useO i
  | .mkfn _ caps => useL caps
  | .mkif _ x => useO x
  | .tas _ _ x => useO x
  | .ext _ x => useO x
  | .call _ args => useL args
  | .callc _ args => useL args
  | .callv f args => useO f ++ useL args
  | .len _ x => useO x
  | .lenA _ => []
  | .lkp x k => useO x ++ useO k
  | .bad => []
  | .isnil _ _ x => useO x
  | .mn xs => useL xs
  | .mx xs => useL xs
  | .app _ _ x y => useO x ++ useO y
  | .mks _ _ _ n => useO n
def quietI (M : Mach) : MI → Bool
  | .movd _ => false
  | .loadd _ _ _ => false
  | .appS _ _ _ _ _ => false
  | .appC _ _ _ _ => false
  | .asg _ => false
  | .alloc _ => false
  | .box _ _ => false
  | .store _ _ _ => false
  | .conv .s2r _ => false
  | .app _ _ _ _ => false
  | .mks _ _ _ _ => false
  | .callc _ _ => false
  | .callv _ _ => false
  | .call f _ => match M.lib f with
    | some _ => true
    | none => match M.libI f with
      | some _ => false
      | none => match M.fn f with
        | some mf => mf.clean
        | none => false
  | _ => true

def exN (M : Mach) (n : Nat) : Rec := Nat.rec (fun _ _ _ => none) (fun _ ih => exStep M ih) n
def callN (M : Mach) (n : Nat) : Call := callW M (exN M n)

end Go.Proofs.YtggoaggneapneaaDoorM
