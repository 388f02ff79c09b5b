/-
  The mirror, part 2: what an abstract value, an abstract state stand for in a world of the machine; and what keeps it.
-/
import Derived.Test.YtggoaggneapneaaDoorM1
import Derived.Test.YtggoaggneapneaaDoorM0
import Derived.CallsIn
import Derived.Laws.AppendOwn
import Derived.Laws.IdiomCopy
import Derived.Lib.AppendStr
set_option linter.unusedVariables false
set_option linter.unusedSimpArgs false
namespace Go.Proofs.YtggoaggneapneaaDoorM
open Go

abbrev Facts := Nat → Nat → Option Value
/-- Facts on cells; the blocks that are ours; objects that are no cells, and are never written. -/
structure G where
  F : Facts
  be : List Nat
  ob : Nat → Option Obj
def KVs : List (List UInt8 × Int) → List MapEntry → Prop
  | [], [] => True
  | (k, n) :: l, e :: es => (∃ bs : ByteArray, e.key = .string bs ∧ bs.data.toList = k) ∧ e.val = .int .i64 n ∧ KVs l es
  | _, _ => False
def notCells : Obj → Prop
  | .cells _ _ _ => False
  | _ => True

/-- A pure value, in memory whose facts are F. -/
inductive VRep (F : Facts) : PV → Value → Prop where
  | int (k : IntKind) (n : Int) : VRep F (.int k n) (.int k n)
  | bool (b : Bool) : VRep F (.bool b) (.bool b)
  | str (s : List UInt8) (bs : ByteArray) (h : bs.data.toList = s) : VRep F (.str s) (.string bs)
  | slE (a : Option Addr) (c : Nat) : VRep F (.sl []) (.slice a 0 c)
  | sl (xs : List (List PV)) (b o c sz : Nat) (cv : Nat → Nat → Value) (hc : xs.length ≤ c)
      (hn : ∀ r ∈ xs, r.length = sz)
      (hF : ∀ (j : Nat) r (k : Nat) p, xs[j]? = some r → r[k]? = some p → F b (o + j * sz + k) = some (cv j k))
      (hR : ∀ (j : Nat) r (k : Nat) p, xs[j]? = some r → r[k]? = some p → VRep F p (cv j k)) :
      VRep F (.sl xs) (.slice (some ⟨b, o, none⟩) xs.length c)

def Facts.le (F F' : Facts) : Prop := ∀ b o x, F b o = some x → F' b o = some x
theorem Facts.le_refl (F : Facts) : F.le F := fun _ _ _ h => h
theorem Facts.le_trans {F F' F'' : Facts} (h : F.le F') (h' : F'.le F'') : F.le F'' := fun _ _ _ k => h' _ _ _ (h _ _ _ k)

theorem VRep.mono {F F' : Facts} (hF : F.le F') {p : PV} {v : Value} (h : VRep F p v) : VRep F' p v := by
  induction h with
  | int k n => exact .int k n
  | bool b => exact .bool b
  | str s bs h => exact .str s bs h
  | slE a c => exact .slE a c
  | sl xs b o c sz cv hc hn h1 _ ih => exact .sl xs b o c sz cv hc hn (fun j r k p hj hk => hF _ _ _ (h1 j r k p hj hk)) ih

/-- What an abstract value stands for. -/
inductive ARep (g : G) : AV → Value → Prop where
  | pv (p : PV) (v : Value) (h : VRep g.F p v) : ARep g (.pv p) v
  | nils : ARep g .nils (.slice none 0 0)
  | own (sz : Nat) (xs : List (List PV)) (b o c : Nat) (h : VRep g.F (.sl xs) (.slice (some ⟨b, o, none⟩) xs.length c)) (hs : ∀ r ∈ xs, r.length = sz) :
      ARep g (.own sz xs) (.slice (some ⟨b, o, none⟩) xs.length c)
  | row (b o n sz k c : Nat) (h : g.be[b]? = some k) (hc : n ≤ c) : ARep g (.row b o n sz) (.slice (some ⟨k, o, none⟩) n c)
  | nilp : ARep g .nilp (.pointer none)
  | cell (b o k : Nat) (h : g.be[b]? = some k) : ARep g (.cell b o) (.pointer (some ⟨k, o, none⟩))
  | elem (r : List PV) (o b q : Nat) (h : ∀ (j : Nat) p, r[j]? = some p → ∃ v, g.F b (q + j) = some v ∧ VRep g.F p v) :
      ARep g (.elem r o) (.pointer (some ⟨b, q + o, none⟩))
  | fn (f : Nat) (caps : List AV) (vs : List Value) (hl : caps.length = vs.length) (h : ∀ (j : Nat) a v, caps[j]? = some a → vs[j]? = some v → ARep g a v) :
      ARep g (.fn f caps) (.func (.func f) #[] vs.toArray)
  | nilfn : ARep g .nilfn .nilFunc
  | agg (cs : List AV) (vs : List Value) (hl : cs.length = vs.length) (h : ∀ (j : Nat) a v, cs[j]? = some a → vs[j]? = some v → ARep g a v) :
      ARep g (.agg cs) (.agg vs.toArray)
  | tup (cs : List AV) (vs : List Value) (hl : cs.length = vs.length) (h : ∀ (j : Nat) a v, cs[j]? = some a → vs[j]? = some v → ARep g a v) :
      ARep g (.tup cs) (.tuple vs.toArray)
  | iface (t : Nat) (a : AV) (v : Value) (h : ARep g a v) : ARep g (.iface t a) (.iface t v)
  | nilif : ARep g .nilif .nilIface
  | mapc (kvs : List (List UInt8 × Int)) (b : Nat) (es : Array MapEntry) (clock : Nat) (h : g.ob b = some (.map es clock)) (hr : KVs kvs es.toList) : ARep g (.mapc kvs) (.map (some b))
  | bot (v : Value) : ARep g .bot v

structure G.le (g g' : G) : Prop where
  F : g.F.le g'.F
  be : ∀ (i k : Nat), g.be[i]? = some k → g'.be[i]? = some k
  ob : ∀ b o, g.ob b = some o → g'.ob b = some o
theorem G.le_refl (g : G) : g.le g := ⟨Facts.le_refl _, fun _ _ h => h, fun _ _ h => h⟩
theorem G.le_trans {g g' g'' : G} (h : g.le g') (h' : g'.le g'') : g.le g'' := ⟨Facts.le_trans h.F h'.F, fun i k e => h'.be i k (h.be i k e), fun b o e => h'.ob b o (h.ob b o e)⟩

theorem ARep.mono {g g' : G} (hg : g.le g') {a : AV} {v : Value} (h : ARep g a v) : ARep g' a v := by
  induction h with
  | pv p v h => exact .pv p v (h.mono hg.F)
  | nils => exact .nils
  | own sz xs b o c h hs => exact .own sz xs b o c (h.mono hg.F) hs
  | row b o n sz k c h hc => exact .row b o n sz k c (hg.be _ _ h) hc
  | nilp => exact .nilp
  | cell b o k h => exact .cell b o k (hg.be _ _ h)
  | elem r o b q h => exact .elem r o b q fun j p hj => let ⟨v, h1, h2⟩ := h j p hj; ⟨v, hg.F _ _ _ h1, h2.mono hg.F⟩
  | fn f caps vs hl _ ih => exact .fn f caps vs hl ih
  | nilfn => exact .nilfn
  | agg cs vs hl _ ih => exact .agg cs vs hl ih
  | tup cs vs hl _ ih => exact .tup cs vs hl ih
  | iface t a v _ ih => exact .iface t a v ih
  | nilif => exact .nilif
  | mapc kvs b es clock h hr => exact .mapc kvs b es clock (hg.ob _ _ h) hr
  | bot v => exact .bot v

theorem ARep.dem {g : G} {a : AV} {v : Value} (h : ARep g a v) : ARep g (dem a) v := by
  cases h with
  | own sz xs b o c h hs => exact .pv _ _ h
  | pv p v h => exact .pv p v h
  | nils => exact .nils
  | row b o n sz k c h hc => exact .row b o n sz k c h hc
  | nilp => exact .nilp
  | cell b o k h => exact .cell b o k h
  | elem r o b q h => exact .elem r o b q h
  | fn f caps vs hl h => exact .fn f caps vs hl h
  | nilfn => exact .nilfn
  | agg cs vs hl h => exact .agg cs vs hl h
  | tup cs vs hl h => exact .tup cs vs hl h
  | iface t a v h => exact .iface t a v h
  | nilif => exact .nilif
  | mapc kvs b es clock h hr => exact .mapc kvs b es clock h hr
  | bot v => exact .bot v

theorem isOwn_dem (a : AV) : isOwn (dem a) = false := by cases a <;> rfl
theorem isOwn_iff {a : AV} : isOwn a = true ↔ ∃ sz xs, a = .own sz xs := by
  cases a <;> simp [isOwn]

/-! ### Memory -/
def FrozenNo (w : World) (k q : Nat) : Prop := w.frozen? ⟨k, q, none⟩ = false

structure BlkOK (g : G) (w : World) (k : Nat) (cs : List AV) : Prop where
  mk ::
  ex : ∃ ccs T fr, w.heap[k]? = some (.cells ccs T fr) ∧ cs.length ≤ ccs.size
  cells : ∀ (j : Nat) a, cs[j]? = some a → ∃ v, w.cell? ⟨k, j, none⟩ = some v ∧ ARep g a v
  kind : ∀ (j : Nat) a, cs[j]? = some a → isCell a = true
  fro : ∀ j : Nat, j < cs.length → FrozenNo w k j
  noF : ∀ o : Nat, g.F k o = none

/-- The tail of a slice that may be appended to is nobody else's. -/
structure Perm (X : Nat → Prop) (g : G) (w : World) (sz : Nat) (k o n c : Nat) : Prop where
  nX : ¬ X k
  nbe : ∀ i : Nat, g.be[i]? ≠ some k
  le : n ≤ c
  ex : ∃ ccs T fr, w.heap[k]? = some (.cells ccs T fr) ∧ o + c * sz ≤ ccs.size ∧ (fr.1 = fr.2 ∨ fr.2 ≤ o + n * sz)
  noF : ∀ q : Nat, o + n * sz ≤ q → g.F k q = none
theorem Perm.fro {X : Nat → Prop} {g : G} {w : World} {sz k o n c : Nat} (h : Perm X g w sz k o n c) (q : Nat) (hq : o + n * sz ≤ q) : FrozenNo w k q := by
  obtain ⟨ccs, T, fr, h1, _, h2⟩ := h.ex
  unfold FrozenNo World.frozen?
  rw [h1]
  show (decide (fr.1 ≤ q) && decide (q < fr.2)) = false
  rw [Bool.and_eq_false_iff, decide_eq_false_iff_not, decide_eq_false_iff_not]
  omega

def conc (g : G) (a : Act) (w : World) : Home → Option Value
  | .slot t => a.tmps[t]?
  | .cell b o => (g.be[b]?).bind fun k => w.cell? ⟨k, o, none⟩

structure WRel (X : Nat → Prop) (g : G) (nt : Nat) (s : St) (a : Act) (w : World) : Prop where
  fok : ∀ b o x, g.F b o = some x → w.cell? ⟨b, o, none⟩ = some x
  bas : ∀ b o x, B0 b o = some x → g.F b o = some x
  obk : ∀ b o, g.ob b = some o → w.heap[b]? = some o ∧ notCells o
  len : g.be.length = s.sg.bl.length
  inj : ∀ i j k : Nat, g.be[i]? = some k → g.be[j]? = some k → i = j
  blk : ∀ (i k : Nat) cs, g.be[i]? = some k → s.sg.bl[i]? = some cs → BlkOK g w k cs
  wrt : ∀ i k : Nat, s.sg.fl ≤ i → g.be[i]? = some k → ¬ X k
  xlt : ∀ k, X k → k < w.heap.size
  nt : a.tmps.size = nt
  env : ∀ (t : Nat) v, look s.env t = some v → ∃ cv, a.tmps[t]? = some cv ∧ ARep g v cv
  prv : ∀ d h, (d, h) ∈ s.pr → ∃ cv, a.tmps[d]? = some cv ∧ conc g a w h = some cv
  prm : ∀ h sz xs, atHome s h = some (.own sz xs) → ∃ k o c, conc g a w h = some (.slice (some ⟨k, o, none⟩) xs.length c) ∧ Perm X g w sz k o xs.length c
  dst : ∀ h h' sz xs sz' xs' k o n c o' n' c', atHome s h = some (.own sz xs) → atHome s h' = some (.own sz' xs') → conc g a w h = some (.slice (some ⟨k, o, none⟩) n c) →
    conc g a w h' = some (.slice (some ⟨k, o', none⟩) n' c') → h = h'
  dfr : a.defers = []

/-- A block is as it was. -/
def Like (F : Facts) (k : Nat) (w w' : World) : Prop := w'.heap[k]? = w.heap[k]? ∨ False
theorem Like.eq {F : Facts} {k : Nat} {w w' : World} (h : Like F k w w') : w'.heap[k]? = w.heap[k]? := h.elim id False.elim
theorem Like.trans {F : Facts} {k : Nat} {w w' w'' : World} (h : Like F k w w') (h' : Like F k w' w'') : Like F k w w'' := .inl (h'.eq.trans h.eq)
theorem Like.bare {F : Facts} {k : Nat} {w w' : World} (h : Like F k w w') (hF : ∀ q, F k q = none) : w'.heap[k]? = w.heap[k]? := h.eq
theorem Like.cell {F : Facts} {k : Nat} {w w' : World} (h : Like F k w w') (q : Nat) : w'.cell? ⟨k, q, none⟩ = w.cell? ⟨k, q, none⟩ := by
  simp only [World.cell?, h.eq]
theorem Like.conv {F F' : Facts} {k : Nat} {w w' : World} (h : Like F k w w') (e : ∀ q, F' k q = F k q) : Like F' k w w' := h

/-- What is left of a world: whatever is in X is as it was. -/
structure Pres (X : Nat → Prop) (F : Facts) (w w' : World) : Prop where
  os : w'.os = w.os
  tape : w'.tape = w.tape
  output : w'.output = w.output
  size : w.heap.size ≤ w'.heap.size
  same : ∀ k : Nat, X k → Like F k w w'
theorem Pres.refl (X : Nat → Prop) (F : Facts) (w : World) : Pres X F w w := ⟨rfl, rfl, rfl, Nat.le_refl _, fun _ _ => .inl rfl⟩
theorem Pres.trans {X : Nat → Prop} {F : Facts} {w w' w'' : World} (h : Pres X F w w') (h' : Pres X F w' w'') : Pres X F w w'' :=
  ⟨h'.os.trans h.os, h'.tape.trans h.tape, h'.output.trans h.output, Nat.le_trans h.size h'.size, fun k hk => (h.same k hk).trans (h'.same k hk)⟩
theorem Pres.less {X Y : Nat → Prop} {F : Facts} {w w' : World} (h : Pres X F w w') (hxy : ∀ k, Y k → X k) : Pres Y F w w' :=
  ⟨h.os, h.tape, h.output, h.size, fun k hk => h.same k (hxy k hk)⟩
theorem Pres.conv {X : Nat → Prop} {F F' : Facts} {w w' : World} (h : Pres X F w w') (e : ∀ k q, X k → F' k q = F k q) : Pres X F' w w' :=
  ⟨h.os, h.tape, h.output, h.size, fun k hk => (h.same k hk).conv fun q => e k q hk⟩

structure Ext (X : Nat → Prop) (g g' : G) : Prop where
  le : g.le g'
  F : ∀ b o, X b → g'.F b o = g.F b o
  be : ∀ i k : Nat, g'.be[i]? = some k → g.be[i]? = some k ∨ ¬ X k
theorem Ext.refl (X : Nat → Prop) (g : G) : Ext X g g := ⟨G.le_refl _, fun _ _ _ => rfl, fun _ _ h => .inl h⟩
theorem Ext.trans {X : Nat → Prop} {g g' g'' : G} (h : Ext X g g') (h' : Ext X g' g'') : Ext X g g'' :=
  ⟨G.le_trans h.le h'.le, fun b o hb => (h'.F b o hb).trans (h.F b o hb), fun i k e => (h'.be i k e).elim (h.be i k) .inr⟩
theorem Ext.less {X Y : Nat → Prop} {g g' : G} (h : Ext X g g') (hxy : ∀ k, Y k → X k) : Ext Y g g' :=
  ⟨h.le, fun b o hb => h.F b o (hxy b hb), fun i k e => (h.be i k e).imp id fun n y => n (hxy k y)⟩

/-! ### Cells of a world that grows -/
theorem cell_of_heap {w w' : World} {k o : Nat} (h : w'.heap[k]? = w.heap[k]?) : w'.cell? ⟨k, o, none⟩ = w.cell? ⟨k, o, none⟩ := by
  simp only [World.cell?, h]
theorem frozen_of_heap {w w' : World} {k o : Nat} (h : w'.heap[k]? = w.heap[k]?) : w'.frozen? ⟨k, o, none⟩ = w.frozen? ⟨k, o, none⟩ := by
  simp only [World.frozen?, h]
theorem cell_heap {w : World} {k o : Nat} {v : Value} (h : w.cell? ⟨k, o, none⟩ = some v) : ∃ ccs T fr, w.heap[k]? = some (.cells ccs T fr) ∧ ccs[o]? = some v := by
  unfold World.cell? at h
  split at h
  · rename_i c T fr hb
    exact ⟨c, T, fr, hb, by simpa using h⟩
  · simp at h
theorem heap_cell {w : World} {k o : Nat} {v : Value} {ccs : Array Value} {T : TypeId} {fr : Nat × Nat} (h : w.heap[k]? = some (.cells ccs T fr)) (hv : ccs[o]? = some v) : w.cell? ⟨k, o, none⟩ = some v := by
  simp [World.cell?, h, hv]
theorem cell_lt {w : World} {k o : Nat} {v : Value} (h : w.cell? ⟨k, o, none⟩ = some v) : k < w.heap.size := by
  obtain ⟨_, _, _, h, _⟩ := cell_heap h
  exact (Array.getElem?_eq_some_iff.1 h).1
theorem heap_lt {w : World} {k : Nat} {o : Obj} (h : w.heap[k]? = some o) : k < w.heap.size := (Array.getElem?_eq_some_iff.1 h).1
theorem heap_alloc {w : World} {o : Obj} {k : Nat} (h : k < w.heap.size) : (w.alloc o).heap[k]? = w.heap[k]? := by
  simp only [World.alloc, Array.getElem?_push]
  rw [if_neg (by omega)]
theorem heap_alloc_self (w : World) (o : Obj) : (w.alloc o).heap[w.heap.size]? = some o := by
  show (w.heap.push o)[w.heap.size]? = some o
  simp
theorem pres_alloc {X : Nat → Prop} {F : Facts} {w : World} (hX : ∀ k, X k → k < w.heap.size) (o : Obj) : Pres X F w (w.alloc o) :=
  ⟨rfl, rfl, rfl, by simp, fun k hk => .inl (heap_alloc (hX k hk))⟩
theorem pres_drew (X : Nat → Prop) (F : Facts) (w : World) : Pres X F w w.drew := ⟨rfl, rfl, rfl, Nat.le_refl _, fun _ _ => .inl rfl⟩

/-- The same memory: nothing turns. -/
theorem BlkOK.same {g g' : G} {w w' : World} {k : Nat} {cs : List AV} (h : BlkOK g w k cs) (hg : g.le g') (hw : w'.heap[k]? = w.heap[k]?) (hF : ∀ o, g'.F k o = none) : BlkOK g' w' k cs :=
  ⟨by rw [hw]; exact h.ex, fun j a hj => let ⟨v, h1, h2⟩ := h.cells j a hj; ⟨v, by rw [cell_of_heap hw]; exact h1, h2.mono hg⟩, h.kind, fun j hj => by unfold FrozenNo; rw [frozen_of_heap hw]; exact h.fro j hj, hF⟩
theorem Perm.same {X : Nat → Prop} {g g' : G} {w w' : World} {sz k o n c : Nat} (h : Perm X g w sz k o n c) (hw : w'.heap[k]? = w.heap[k]?) (hF : ∀ q, o + n * sz ≤ q → g'.F k q = none) (hb : ∀ i : Nat, g'.be[i]? ≠ some k) : Perm X g' w' sz k o n c :=
  ⟨h.nX, hb, h.le, by rw [hw]; exact h.ex, hF⟩
theorem Perm.like {X : Nat → Prop} {g g' : G} {w w' : World} {sz k o n c : Nat} (h : Perm X g w sz k o n c) (hw : Like g.F k w w') (hF : ∀ q, o + n * sz ≤ q → g'.F k q = none) (hb : ∀ i : Nat, g'.be[i]? ≠ some k) : Perm X g' w' sz k o n c :=
  h.same hw.eq hF hb

theorem look_put (e : Env) (t : Nat) (v : AV) (t' : Nat) : look (put e t v) t' = if t = t' then some v else look e t' := rfl
theorem look_restrict (e : Env) (keep : List Nat) (t : Nat) : look (restrict e keep) t = if t ∈ keep then some (get e t) else none := by
  induction keep with
  | nil => simp [restrict, look]
  | cons k l ih =>
    simp only [restrict, List.map_cons, look]
    by_cases h : k = t
    · subst h; simp
    · rw [if_neg h]
      have : look (List.map (fun t => (t, get e t)) l) t = look (restrict e l) t := rfl
      rw [this, ih]
      simp [Ne.symm h]
theorem get_own {e : Env} {t sz : Nat} {xs : List (List PV)} (h : get e t = .own sz xs) : look e t = some (.own sz xs) := by
  unfold get at h
  cases hl : look e t with
  | none => rw [hl] at h; simp at h
  | some v => rw [hl] at h; simp at h; rw [h]
theorem lookP_mem {l : List (Nat × Home)} {d : Nat} {h : Home} (e : lookP l d = some h) : (d, h) ∈ l := by
  induction l with
  | nil => simp [lookP] at e
  | cons x l ih =>
    obtain ⟨k, v⟩ := x
    simp only [lookP] at e
    split at e
    · rename_i hk
      cases e
      subst hk
      exact List.mem_cons_self
    · exact List.mem_cons_of_mem _ (ih e)
end Go.Proofs.YtggoaggneapneaaDoorM
