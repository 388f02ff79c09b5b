/-
  The mirror, part 12: parts of texts, of slices and of aggregates; conversions; append and make.
-/
import Derived.Test.YtggoaggneapneaaDoorM11
import Derived.Room.Entries
import Derived.Lib.Strings
set_option linter.unusedVariables false
set_option linter.unusedSimpArgs false
namespace Go.Proofs.YtggoaggneapneaaDoorM
open Go
variable {X : Nat → Prop} {g g' : G} {nt : Nat} {s : St} {a : Act} {w w' : World} {F : Facts} {P : Program} {o : Oper}

theorem bnd_rep (h : WRel X g nt s a w) {d n : Int} {x : Option Opd} {y : Option Operand} (hx : OOKo x y) (e : bnd s.env d x = some n) :
    (x = none ∧ y = none ∧ n = d) ∨ ∃ x0 y0 k, x = some x0 ∧ y = some y0 ∧ a.eval y0 = .int k n := by
  cases x with
  | none =>
    cases y with
    | none => simp [bnd] at e; exact .inl ⟨rfl, rfl, e.symm⟩
    | some y => exact hx.elim
  | some x =>
    cases y with
    | none => exact hx.elim
    | some y =>
      simp only [bnd] at e
      obtain ⟨k, hk⟩ := rep_asI (h.opd hx) e
      exact .inr ⟨x, y, k, rfl, rfl, hk⟩

theorem run_sliceBound {k : IntKind} {i : Int} {y : Nat} (h : 0 ≤ i ∧ i ≤ y) (c : BoundsCode) (w : World) : (Instr.sliceBound (.int k i) y c).run P w = .ok i.toNat w := by
  simp [Instr.sliceBound, asIntOf, h]

theorem sound_sliceS (h : WRel X g nt s a w) {sz : Nat} {x : Opd} {lo hi : Option Opd} {t : TypeId} {y : Operand} {lo' hi' : Option Operand} (ho : o.op = .slice t y lo' hi' none) (hx : OOK x y) (hlo : OOKo lo lo') (hhi : OOKo hi hi') (hu : P.underlying t = some .string)
    {v : AV} (hv : sliceS s.env (eo s.env x) lo hi = some v) : ∃ cv, (execOp a.eval o).run P w = .ok (.value cv) w ∧ ARep g v cv ∧ isOwn v = false := by
  have hxr := h.opd hx
  unfold sliceS at hv
  split at hv
  · rename_i l ev
    rw [ev] at hxr
    obtain ⟨bs, e1, e2⟩ := rep_str hxr
    have hsz := bytes_size e2
    obtain ⟨p, h1, hv⟩ := Option.bind_eq_some_iff.1 hv
    obtain ⟨q, h2, hv⟩ := Option.bind_eq_some_iff.1 hv
    split at hv
    · rename_i hc
      cases hv
      refine ⟨.string (bs.extract p.toNat q.toNat), ?_, pv_str g ?_, rfl⟩
      · rcases bnd_rep h hlo h1 with ⟨-, rfl, rfl⟩ | ⟨_, lo0, k1, -, rfl, hl⟩ <;> rcases bnd_rep h hhi h2 with ⟨-, rfl, rfl⟩ | ⟨_, hi0, k2, -, rfl, hh⟩
        · simp [execOp, ho, e1, Instr.sliceAt, Instr.slice, run_underlying hu, Instr.sliceBounds, hsz]
          rw [← hsz]; simp
        · simp [execOp, ho, e1, Instr.sliceAt, Instr.slice, run_underlying hu, Instr.sliceBounds, hsz, hh, run_sliceBound (P := P) (k := k2) (i := q) (y := l.length) (by omega)]
        · simp [execOp, ho, e1, Instr.sliceAt, Instr.slice, run_underlying hu, Instr.sliceBounds, hsz, hl, run_sliceBound (P := P) (k := k1) (i := p) (y := l.length) (by omega)]
        · simp [execOp, ho, e1, Instr.sliceAt, Instr.slice, run_underlying hu, Instr.sliceBounds, hsz, hh, hl, run_sliceBound (P := P) (k := k2) (i := q) (y := l.length) (by omega), run_sliceBound (P := P) (k := k1) (i := p) (y := q.toNat) (by omega)]
      · rw [Lib.extract_data, e2, List.drop_take]
    · cases hv
  · cases hv

theorem VRep.part {xs : List (List PV)} {ad : Option Addr} {c sz l q m : Nat} (hV : VRep F (.sl xs) (.slice ad xs.length c)) (hh : headIs sz xs = true) (h1 : l ≤ q) (h2 : q ≤ m) (h3 : q ≤ xs.length) (h4 : m ≤ c) :
    VRep F (.sl ((xs.take q).drop l)) (.slice (if m = l then ad else ad.map (·.add (l * sz))) (q - l) (m - l)) := by
  have hlen : ((xs.take q).drop l).length = q - l := by simp; omega
  rcases Nat.lt_or_ge l q with hlq | hlq
  · rw [if_neg (by omega)]
    generalize hn : xs.length = n at hV h3
    cases hV with
    | slE a c => simp at h3; omega
    | sl _ b o c sz' cv hc hn' hF hR =>
      have hs : sz' = sz := by
        cases xs with
        | nil => simp at h3; omega
        | cons r _ =>
          simp only [headIs, beq_iff_eq] at hh
          rw [← hh]; exact (hn' r List.mem_cons_self).symm
      subst hs
      have hget : ∀ (j : Nat) r, ((xs.take q).drop l)[j]? = some r → xs[l + j]? = some r := by
        intro j r hj
        rw [List.getElem?_drop, List.getElem?_take] at hj
        split at hj
        · exact hj
        · cases hj
      rw [← hlen, Option.map_some, add_plain]
      refine .sl _ b (o + l * sz') (m - l) sz' (fun j k => cv (l + j) k) (by rw [hlen]; omega) (fun r hr => hn' r (List.mem_of_mem_take (List.mem_of_mem_drop hr))) ?_ ?_
      · intro j r k p hj hk
        have := hF (l + j) r k p (hget j r hj) hk
        rw [Nat.add_mul] at this
        rw [show o + l * sz' + j * sz' + k = o + (l * sz' + j * sz') + k by omega]; exact this
      · intro j r k p hj hk
        exact hR (l + j) r k p (hget j r hj) hk
  · have : (xs.take q).drop l = [] := List.eq_nil_of_length_eq_zero (by omega)
    rw [this, show q - l = 0 by omega]
    exact .slE _ _

theorem sound_sliceL (h : WRel X g nt s a w) {sz : Nat} {x : Opd} {lo hi mx : Option Opd} {t e : TypeId} {y : Operand} {lo' hi' mx' : Option Operand} (ho : o.op = .slice t y lo' hi' mx') (hx : OOK x y) (hlo : OOKo lo lo') (hhi : OOKo hi hi') (hmx : OOKo mx mx')
    (hu : P.underlying t = some (.slice e)) (hS : SizeIs P e sz) {v : AV} (hv : sliceL s.env sz (eo s.env x) lo hi mx = some v) : ∃ cv, (execOp a.eval o).run P w = .ok (.value cv) w ∧ ARep g v cv ∧ isOwn v = false := by
  have hxr := h.opd hx
  unfold sliceL at hv
  obtain ⟨xs, h0, hv⟩ := Option.bind_eq_some_iff.1 hv
  obtain ⟨ad, c, e1, hV, hc⟩ := rep_rows hxr h0
  obtain ⟨p, h1, hv⟩ := Option.bind_eq_some_iff.1 hv
  obtain ⟨q, h2, hv⟩ := Option.bind_eq_some_iff.1 hv
  obtain ⟨m, h3, hv⟩ := Option.bind_eq_some_iff.1 hv
  split at hv
  · rename_i hcond
    obtain ⟨c1, c2, c3, c4, c5, c6⟩ := hcond
    cases hv
    rw [e1] at hV
    have key : ∀ M : Nat, q.toNat ≤ M → M ≤ c → (execOp a.eval o).run P w = .ok (.value (.slice (if M = p.toNat then ad else ad.map (·.add (p.toNat * sz))) (q.toNat - p.toNat) (M - p.toNat))) w →
        ∃ cv, (execOp a.eval o).run P w = .ok (.value cv) w ∧ ARep g (.pv (.sl ((xs.take q.toNat).drop p.toNat))) cv ∧ isOwn (.pv (.sl ((xs.take q.toNat).drop p.toNat))) = false :=
      fun M hM1 hM2 hr => ⟨_, hr, .pv _ _ (hV.part c6 (by omega) hM1 (by omega) hM2), rfl⟩
    have hs := run_size hS w
    rcases bnd_rep h hmx h3 with ⟨rfl, rfl, rfl⟩ | ⟨_, mx0, k3, rfl, rfl, hm⟩
    · rcases bnd_rep h hhi h2 with ⟨-, rfl, rfl⟩ | ⟨_, hi0, k2, -, rfl, hh⟩
      · rcases bnd_rep h hlo h1 with ⟨-, rfl, rfl⟩ | ⟨_, lo0, k1, -, rfl, hl⟩
        · exact key c (by omega) (Nat.le_refl _) (by simp [execOp, ho, e1, Instr.sliceAt, Instr.slice, run_underlying hu, Instr.sliceBounds, hs])
        · exact key c (by omega) (Nat.le_refl _) (by simp [execOp, ho, e1, Instr.sliceAt, Instr.slice, run_underlying hu, Instr.sliceBounds, hs, hl, run_sliceBound (P := P) (k := k1) (i := p) (y := xs.length) (by omega)])
      · rcases bnd_rep h hlo h1 with ⟨-, rfl, rfl⟩ | ⟨_, lo0, k1, -, rfl, hl⟩
        · exact key c (by omega) (Nat.le_refl _) (by simp [execOp, ho, e1, Instr.sliceAt, Instr.slice, run_underlying hu, Instr.sliceBounds, hs, hh, run_sliceBound (P := P) (k := k2) (i := q) (y := c) (by omega)])
        · exact key c (by omega) (Nat.le_refl _) (by simp [execOp, ho, e1, Instr.sliceAt, Instr.slice, run_underlying hu, Instr.sliceBounds, hs, hh, hl, run_sliceBound (P := P) (k := k2) (i := q) (y := c) (by omega), run_sliceBound (P := P) (k := k1) (i := p) (y := q.toNat) (by omega)])
    · rcases bnd_rep h hhi h2 with ⟨rfl, rfl, rfl⟩ | ⟨_, hi0, k2, -, rfl, hh⟩
      · simp at c5
      · rcases bnd_rep h hlo h1 with ⟨-, rfl, rfl⟩ | ⟨_, lo0, k1, -, rfl, hl⟩
        · exact key m.toNat (by omega) (by omega) (by simp [execOp, ho, e1, Instr.sliceAt, Instr.slice, run_underlying hu, Instr.sliceBounds, hs, hh, hm, run_sliceBound (P := P) (k := k3) (i := m) (y := c) (by omega), run_sliceBound (P := P) (k := k2) (i := q) (y := m.toNat) (by omega)])
        · exact key m.toNat (by omega) (by omega) (by simp [execOp, ho, e1, Instr.sliceAt, Instr.slice, run_underlying hu, Instr.sliceBounds, hs, hh, hm, hl, run_sliceBound (P := P) (k := k3) (i := m) (y := c) (by omega), run_sliceBound (P := P) (k := k2) (i := q) (y := m.toNat) (by omega), run_sliceBound (P := P) (k := k1) (i := p) (y := q.toNat) (by omega)])
  · cases hv

theorem sound_slice (h : WRel X g nt s a w) {st : Bool} {sz : Nat} {x : Opd} {lo hi mx : Option Opd} {t : TypeId} {y : Operand} {lo' hi' mx' : Option Operand} (ho : o.op = .slice t y lo' hi' mx') (hI : IOK P (.slice st sz x lo hi mx) (.slice t y lo' hi' mx'))
    {call : Call} {u : Upd} (hs : stepI call s (.slice st sz x lo hi mx) = some u) : Sound P X g nt s u a w o := by
  simp only [IOK] at hI
  obtain ⟨hx, hlo, hhi, hmx, hu⟩ := hI
  simp only [stepI] at hs
  refine Sound.plainO h hs fun v hv => ?_
  unfold sliceV at hv
  cases st with
  | true =>
    simp only [if_true] at hu hv
    split at hv
    · rename_i hn
      cases mx with
      | some _ => simp at hn
      | none =>
        cases mx' with
        | some _ => exact hmx.elim
        | none => exact sound_sliceS h (sz := sz) ho hx hlo hhi hu hv
    · cases hv
  | false =>
    simp only [Bool.false_eq_true, if_false] at hu hv
    obtain ⟨e, hu, hS⟩ := hu
    exact sound_sliceL h ho hx hlo hhi hmx hu hS hv

theorem sound_sliceA (h : WRel X g nt s a w) {len sz : Nat} {x : Opd} {lo hi : Option Opd} {t : TypeId} {y : Operand} {lo' hi' mx' : Option Operand} (ho : o.op = .slice t y lo' hi' mx') (hI : IOK P (.sliceA len sz x lo hi) (.slice t y lo' hi' mx'))
    {call : Call} {u : Upd} (hs : stepI call s (.sliceA len sz x lo hi) = some u) : Sound P X g nt s u a w o := by
  simp only [IOK] at hI
  obtain ⟨hx, hlo, hhi, rfl, e, hu, hS⟩ := hI
  simp only [stepI] at hs
  refine Sound.plainO h hs fun v hv => ?_
  have hxr := h.opd hx
  unfold sliceAV at hv
  split at hv
  · rename_i b q ev
    rw [ev] at hxr
    generalize hcv : a.eval y = cv at hxr
    cases hxr with
    | cell b q k hbe =>
    obtain ⟨l, h1, hv⟩ := Option.bind_eq_some_iff.1 hv
    obtain ⟨m, h2, hv⟩ := Option.bind_eq_some_iff.1 hv
    split at hv
    · rename_i hc
      obtain ⟨c1, c2, c3, c4⟩ := hc
      cases hv
      have hs := run_size hS w
      have e0 : (if len = l.toNat then (⟨k, q, none⟩ : Addr) else (⟨k, q, none⟩ : Addr).add (l.toNat * sz)) = ⟨k, q + l.toNat * sz, none⟩ := by
        split
        · have : l.toNat = 0 := by omega
          rw [this]; simp
        · rw [add_plain]
      refine ⟨.slice (some ⟨k, q + l.toNat * sz, none⟩) (m.toNat - l.toNat) (len - l.toNat), ?_, .row b _ _ sz k _ hbe (by omega), rfl⟩
      rw [← e0]
      rcases bnd_rep h hlo h1 with ⟨-, rfl, rfl⟩ | ⟨_, lo0, k1, -, rfl, hl⟩ <;> rcases bnd_rep h hhi h2 with ⟨-, rfl, rfl⟩ | ⟨_, hi0, k2, -, rfl, hh⟩
      · simp [execOp, ho, hcv, Instr.sliceAt, Instr.sureAddr, run_underlying hu, Instr.sliceBounds, hs]
      · simp [execOp, ho, hcv, Instr.sliceAt, Instr.sureAddr, run_underlying hu, Instr.sliceBounds, hs, hh, run_sliceBound (P := P) (k := k2) (i := m) (y := len) (by omega)]
      · simp [execOp, ho, hcv, Instr.sliceAt, Instr.sureAddr, run_underlying hu, Instr.sliceBounds, hs, hl, run_sliceBound (P := P) (k := k1) (i := l) (y := len) (by omega)]
      · simp [execOp, ho, hcv, Instr.sliceAt, Instr.sureAddr, run_underlying hu, Instr.sliceBounds, hs, hh, hl, run_sliceBound (P := P) (k := k2) (i := m) (y := len) (by omega), run_sliceBound (P := P) (k := k1) (i := l) (y := m.toNat) (by omega)]
    · cases hv
  · cases hv

theorem demL_notOwn {l : List AV} : ∀ x ∈ demL l, isOwn x = false := by
  intro x hx
  obtain ⟨y, _, rfl⟩ := List.mem_map.1 hx
  exact isOwn_dem y
theorem part_notOwn {agg : Bool} {cs : List AV} {v : AV} (h : part agg cs = some v) (hc : ∀ x ∈ cs, isOwn x = false) : isOwn v = false := by
  rcases part_eq h with ⟨-, rfl⟩ | ⟨-, rfl⟩
  · rfl
  · exact hc v (by simp)
theorem part_run {t : TypeId} {agg : Bool} {sz off : Nat} (hA : AggIs P t agg) (hS : SizeIs P t sz) {cs : List AV} {vs : List Value} (hl : cs.length = vs.length) (hr : ∀ (j : Nat) x v, cs[j]? = some x → vs[j]? = some v → ARep g x v)
    (hf : off + sz ≤ cs.length) {v : AV} (hp : part agg (demL ((cs.drop off).take sz)) = some v) (w : World) : ∃ cv, (Go.part t vs.toArray off).run P w = .ok cv w ∧ ARep g v cv ∧ isOwn v = false := by
  have hsub : ∀ (j : Nat) x v, (demL ((cs.drop off).take sz))[j]? = some x → ((vs.drop off).take sz)[j]? = some v → ARep g x v := by
    intro j x v e1 e2
    obtain ⟨x, e3, rfl⟩ := demL_get e1
    clear e1
    refine ARep.dem ?_
    rw [List.getElem?_take] at e3 e2
    split at e3
    · rename_i hj
      rw [if_pos hj] at e2
      rw [List.getElem?_drop] at e3 e2
      exact hr _ _ _ e3 e2
    · cases e3
  have hno := part_notOwn hp demL_notOwn
  rcases part_eq hp with ⟨rfl, rfl⟩ | ⟨rfl, h1⟩
  · refine ⟨.agg ((vs.drop off).take sz).toArray, ?_, .agg _ _ (by simp [hl, demL]) hsub, hno⟩
    have : vs.toArray.extract off (off + sz) = ((vs.drop off).take sz).toArray := by
      apply Array.ext'
      simp [List.extract_eq_take_drop]
    simp [Go.part, run_agg hA, run_size hS, this]
  · have hsz : 0 < sz := by
      rcases Nat.eq_zero_or_pos sz with h0 | h0
      · subst h0; simp [demL] at h1
      · exact h0
    have hv : vs[off]? = some vs[off] := List.getElem?_eq_getElem (by omega)
    refine ⟨vs[off], ?_, ?_, hno⟩
    · simp [Go.part, run_agg hA, hv]
    · refine hsub 0 v _ (by rw [h1]; rfl) ?_
      rw [List.getElem?_take, if_pos hsz, List.getElem?_drop]; exact hv

theorem sound_fld (h : WRel X g nt s a w) {agg : Bool} {sz off : Nat} {x : Opd} {t : TypeId} {f : Nat} {y : Operand} (ho : o.op = .field t y f) (hI : IOK P (.fld agg sz off x) (.field t y f)) {call : Call} {u : Upd} (hs : stepI call s (.fld agg sz off x) = some u) :
    Sound P X g nt s u a w o := by
  obtain ⟨hx, fs, fl, hu, hf, hoff, hS, hA⟩ := hI
  have hxr := h.opd hx
  simp only [stepI] at hs
  split at hs
  · rename_i cs ev
    rw [ev] at hxr
    split at hs
    · rename_i hfit
      refine Sound.plainO h hs fun v hv => ?_
      generalize hcv : a.eval y = cv at hxr
      cases hxr with
      | agg cs vs hl hr =>
        obtain ⟨cv, h1, h2, h3⟩ := part_run (g := g) hA hS hl hr hfit hv w
        refine ⟨cv, ?_, h2, h3⟩
        simp [execOp, ho, hcv, Instr.field, run_underlying hu, hf, asAgg, hoff, h1]
    · cases hs
  · cases hs

theorem sound_idxA (h : WRel X g nt s a w) {agg : Bool} {len sz : Nat} {x i : Opd} {t : TypeId} {y j : Operand} (ho : o.op = .index t y j) (hI : IOK P (.idxA len agg sz x i) (.index t y j)) {call : Call} {u : Upd} (hs : stepI call s (.idxA len agg sz x i) = some u) :
    Sound P X g nt s u a w o := by
  simp only [IOK] at hI
  obtain ⟨hx, hi, e, hu, hS, hA⟩ := hI
  have hxr := h.opd hx
  simp only [stepI] at hs
  split at hs
  · rename_i cs ev
    rw [ev] at hxr
    refine Sound.plainO h hs fun v hv => ?_
    obtain ⟨n, h1, h2⟩ := Option.bind_eq_some_iff.1 hv
    obtain ⟨kk, hj⟩ := rep_asI (h.opd hi) h1
    split at h2
    · rename_i hc
      obtain ⟨hin, hfit⟩ := hc
      simp only [inB, decide_eq_true_eq] at hin
      generalize hcv : a.eval y = cv at hxr
      cases hxr with
      | agg cs vs hl hr =>
        obtain ⟨cv, h3, h4, h5⟩ := part_run (g := g) hA hS hl hr (by rw [Nat.add_mul, Nat.one_mul] at hfit; exact hfit) h2 w
        refine ⟨cv, ?_, h4, h5⟩
        simp [execOp, ho, hcv, hj, Instr.index, asIntOf, run_underlying hu, hin, run_size hS, h3]
    · cases h2
  · cases hs

theorem eqP_run {p q : PV} {u v : Value} {b : Bool} {t : TypeId} {d : TypeDesc} {n : Nat} (hp : VRep F p u) (hq : VRep F q v) (e : eqP p q = some b) (hu : P.underlying t = some d) (hd : kindD d = kindP p) :
    (Op.equalIn (n + 1) t u v).run P w = .ok b w := by
  unfold eqP at e
  split at e
  · split at e
    · rename_i hk
      subst hk
      cases e; cases hp; cases hq
      cases d <;> first | (simp [kindD, kindP] at hd; done) | skip
      simp [Op.equalIn, run_underlying hu]
    · cases e
  · cases e; cases hp; cases hq
    cases d <;> first | (simp [kindD, kindP] at hd; done) | skip
    simp [Op.equalIn, run_underlying hu]
  · cases e
    cases hp with
    | str s bs h1 =>
    cases hq with
    | str s' bs' h2 =>
    cases d <;> first | (simp [kindD, kindP] at hd; done) | skip
    have := bytes_eq h1 h2
    simp only [Op.equalIn, Sem.run_bind, run_underlying hu, Result.andThen_ok, Sem.run_pure]
    congr 1
    have hd : (bs == bs') = (bs.data == bs'.data) := by cases bs; cases bs'; rfl
    rw [hd, Bool.eq_iff_iff]
    simp only [beq_iff_eq]
    constructor
    · intro e
      rw [← h1, ← h2, e]
    · intro e
      apply Array.ext'; rw [h1, h2, e]
  · cases e
theorem agg_kind {t : TypeId} {d : TypeDesc} {k : Nat} (hu : P.underlying t = some d) (hk : kindD d = k) (h3 : k < 3) : AggIs P t false := by
  refine ⟨d, hu, ?_⟩
  cases d <;> first | rfl | (simp [kindD] at hk; omega)
def eqBody (n : Nat) (xs ys : Array Value) (f : Field) (r : Option Bool × Unit) : Sem (ForInStep (Option Bool × Unit)) :=
  if f.name ≠ "_" then do
    let a ← Go.part f.type xs f.offset
    let b ← Go.part f.type ys f.offset
    let e ← Op.equalIn n f.type a b
    if !e then pure (.done (some false, ())) else pure (.yield (none, ()))
  else pure (.yield (none, ()))
theorem eqPs_run {n : Nat} {xs ys : List Value} : ∀ {fs : List Field} {ks : List Nat} {l m : List AV} {b : Bool} {i : Nat}, Scal P i ks fs → eqPs ks l m = some b →
    (∀ (j : Nat) x v, l[j]? = some x → xs[i + j]? = some v → ARep g x v) → (∀ (j : Nat) x v, m[j]? = some x → ys[i + j]? = some v → ARep g x v) → i + l.length ≤ xs.length → i + m.length ≤ ys.length →
    ∃ r : Option Bool × Unit, (forIn fs ((none, ()) : Option Bool × Unit) (eqBody (n + 1) xs.toArray ys.toArray)).run P w = .ok r w ∧ r.1 = if b then none else some false
  | [], [], [], [], b, i, _, e, _, _, _, _ => by
    simp [eqPs] at e
    subst e
    exact ⟨_, rfl, rfl⟩
  | f :: fs, k :: ks, x :: l, y :: m, b, i, hS, e, h1, h2, hl, hm => by
    obtain ⟨ho, hn, ⟨d, hu, hk, h3⟩, hS⟩ := hS
    have hA := agg_kind hu hk h3
    cases x with
    | pv p =>
      cases y with
      | pv q =>
        simp only [eqPs] at e
        split at e
        · rename_i hkp
          obtain ⟨b1, e1, e⟩ := Option.bind_eq_some_iff.1 e
          obtain ⟨b2, e2, rfl⟩ := Option.map_eq_some_iff.1 e
          have hi1 : i < xs.length := by simp at hl; omega
          have hi2 : i < ys.length := by simp at hm; omega
          have hx : xs[i]? = some xs[i] := List.getElem?_eq_getElem _
          have hy : ys[i]? = some ys[i] := List.getElem?_eq_getElem _
          have hrx := h1 0 _ _ rfl hx
          have hry := h2 0 _ _ rfl hy
          cases hrx with
          | pv _ _ hvx =>
          cases hry with
          | pv _ _ hvy =>
          have hpx : (Go.part f.type xs.toArray f.offset).run P w = .ok xs[i] w := by
            simp [Go.part, run_agg hA, ho, hx]
          have hpy : (Go.part f.type ys.toArray f.offset).run P w = .ok ys[i] w := by
            simp [Go.part, run_agg hA, ho, hy]
          have heq := eqP_run (P := P) (w := w) (n := n) hvx hvy e1 hu (by rw [hk, hkp])
          have hbody : (eqBody (n + 1) xs.toArray ys.toArray f (none, ())).run P w = .ok (if b1 then .yield (none, ()) else .done (some false, ())) w := by
            unfold eqBody
            rw [if_pos hn]
            simp only [Sem.run_bind, hpx, Result.andThen_ok, hpy, heq]
            cases b1 <;> rfl
          obtain ⟨r, h5, h6⟩ := eqPs_run (n := n) (b := b2) hS e2 (fun j x v e3 e4 => h1 (j + 1) x v (by simpa using e3) (by rw [← e4]; congr 1; omega)) (fun j x v e3 e4 => h2 (j + 1) x v (by simpa using e3) (by rw [← e4]; congr 1; omega))
            (by simp at hl; omega) (by simp at hm; omega)
          rw [List.forIn_cons]
          simp only [Sem.run_bind, hbody, Result.andThen_ok]
          cases b1 with
          | true => exact ⟨r, by simpa using h5, by simpa using h6⟩
          | false => exact ⟨_, rfl, by simp⟩
        · cases e
      | _ => simp [eqPs] at e
    | _ => simp [eqPs] at e
  | [], [], [], _ :: _, _, _, _, e, _, _, _, _ => by simp [eqPs] at e
  | [], [], _ :: _, _, _, _, _, e, _, _, _, _ => by simp [eqPs] at e
  | [], _ :: _, _, _, _, _, hS, _, _, _, _, _ => hS.elim
  | _ :: _, [], _, _, _, _, hS, _, _, _, _, _ => hS.elim
  | _ :: _, _ :: _, [], _, _, _, _, e, _, _, _, _ => by simp [eqPs] at e
  | _ :: _, _ :: _, _ :: _, [], _, _, _, e, _, _, _, _ => by
    rename_i x _ _ _ _
    cases x <;> simp [eqPs] at e
theorem sound_eqA (h : WRel X g nt s a w) {ne : Bool} {ks : List Nat} {x y : Opd} {op : BinOp} {t t' : TypeId} {x' y' : Operand} (ho : o.op = .binOp op t x' y' t') (hI : IOK P (.eqA ne ks x y) (.binOp op t x' y' t')) {call : Call} {u : Upd}
    (hs : stepI call s (.eqA ne ks x y) = some u) : Sound P X g nt s u a w o := by
  simp only [IOK] at hI
  obtain ⟨rfl, hx, hy, hst, hgt, fs, hu, hS⟩ := hI
  have hxr := h.opd hx
  have hyr := h.opd hy
  simp only [stepI] at hs
  refine Sound.plainO h hs fun v hv => ?_
  obtain ⟨b, h1, rfl⟩ := Option.map_eq_some_iff.1 hv
  unfold eqAV at h1
  split at h1
  · rename_i l m ex ey
    rw [ex] at hxr
    rw [ey] at hyr
    generalize hcx : a.eval x' = cx at hxr
    generalize hcy : a.eval y' = cy at hyr
    cases hxr with
    | agg _ xs hl1 hr1 =>
    cases hyr with
    | agg _ ys hl2 hr2 =>
    obtain ⟨r, h2, h3⟩ := eqPs_run (P := P) (w := w) (n := 9998) hS h1 (xs := xs) (ys := ys) (fun j x v e1 e2 => hr1 j x v e1 (by simpa using e2)) (fun j x v e1 e2 => hr2 j x v e1 (by simpa using e2)) (by omega) (by omega)
    have heq : (Op.equal t (.agg xs.toArray) (.agg ys.toArray)).run P w = .ok b w := by
      have hmax : Op.maxDepth = 9999 + 1 := rfl
      unfold Op.equal
      rw [hmax, Op.equalIn]
      have hprog : (program : Sem Program).run P w = .ok P w := rfl
      simp only [Sem.run_bind, run_underlying hu, Result.andThen_ok, hprog, hst, Bool.false_eq_true, if_false]
      have e0 : (forIn fs ((none, ()) : Option Bool × Unit) (eqBody 9999 xs.toArray ys.toArray)).run P w = .ok r w := by
        rw [← Array.forIn_toList]; exact h2
      have e1 : (forIn fs ((none, ()) : Option Bool × Unit) fun f __s =>
            if f.name ≠ "_" then do
              let __do_lift ← Go.part f.type xs.toArray f.offset
              let __do_lift_1 ← Go.part f.type ys.toArray f.offset
              let __do_lift ← Op.equalIn 9999 f.type __do_lift __do_lift_1
              if (!__do_lift) = true then pure (ForInStep.done (some false, ())) else pure (ForInStep.yield (none, ()))
            else pure (ForInStep.yield (none, ()))) = forIn fs ((none, ()) : Option Bool × Unit) (eqBody 9999 xs.toArray ys.toArray) := rfl
      rw [e1, e0]
      simp only [Result.andThen_ok, h3]
      cases b <;> rfl
    have hg : (eqGuard (if ne then .neq else .eql) t x' y' (.agg xs.toArray) (.agg ys.toArray)).run P w = .ok () w := by
      unfold eqGuard
      have hprog : (program : Sem Program).run P w = .ok P w := rfl
      cases ne <;> simp [hprog, hgt]
    refine ⟨.bool (b != ne), ?_, pv_bool _ _, rfl⟩
    cases ne with
    | true => simp only [if_true] at hg ho; simp [execOp, ho, hcx, hcy, hg, binOp, heq]
    | false => simp only [Bool.false_eq_true, if_false] at hg ho; simp [execOp, ho, hcx, hcy, hg, binOp, heq]
  · cases h1
end Go.Proofs.YtggoaggneapneaaDoorM
