/-
  The mirror, part 29: the literal by which a map is laid whole.
-/
import Derived.Test.YtggoaggneapneaaDoorM17
import Derived.MapKept
import Derived.TacticsIn
set_option linter.unusedVariables false
set_option linter.unusedSimpArgs false
namespace Go.Proofs.YtggoaggneapneaaDoorM
open Go Go.MapKept
variable {X : Nat → Prop} {g g' : G} {nt : Nat} {s : St} {a : Act} {w w' : World} {F : Facts} {P : Program} {o : Oper} {sg : Sig}

/-! ### The literal -/
def MlitRest (P : Program) (T : TypeId) (m m2 m3 : Nat) : List (List UInt8 × Int) → List Oper → Prop
  | [], [o1, o2] => (o1.op = .move (.tmp m) ∧ o1.dst = some m2 ∧ o1.guard = none) ∧ o2.op = .assign (.tmp m2) ∧ o2.dst = some m3 ∧ o2.guard = none
  | (k, n) :: l, o :: r => (∃ bs : ByteArray, o.op = .insert T (.tmp m) (.const (.string bs)) (.const (.int .i64 n)) ∧ bs.data.toList = k ∧ o.dst = none ∧ o.guard = none) ∧ MlitRest P T m m2 m3 l r
  | _, _ => False
def MlitOK (P : Program) (nt m m2 m3 : Nat) (kvs : List (List UInt8 × Int)) : List Oper → Prop
  | o :: r => ∃ T kt et, o.op = .makeMap T none ∧ o.dst = some m ∧ o.guard = none ∧ P.underlying T = some (.map kt et) ∧ P.underlying kt = some .string ∧ m < nt ∧ m2 < nt ∧ m3 < nt ∧ (kvs.map (·.1)).Nodup ∧ MlitRest P T m m2 m3 kvs r
  | [] => False

theorem MlitRest.last {T : TypeId} {m m2 m3 : Nat} : ∀ {r : List Oper}, MlitRest P T m m2 m3 [] r → ∃ o1 o2, r = [o1, o2] ∧ (o1.op = .move (.tmp m) ∧ o1.dst = some m2 ∧ o1.guard = none) ∧ o2.op = .assign (.tmp m2) ∧ o2.dst = some m3 ∧ o2.guard = none
  | [o1, o2], h => ⟨o1, o2, rfl, h⟩
  | [], h => h.elim
  | [_], h => h.elim
  | _ :: _ :: _ :: _, h => h.elim
theorem MlitOK.first {m m2 m3 : Nat} {kvs : List (List UInt8 × Int)} : ∀ {l : List Oper}, MlitOK P nt m m2 m3 kvs l → ∃ o r, l = o :: r ∧ MlitOK P nt m m2 m3 kvs (o :: r)
  | o :: r, h => ⟨o, r, rfl, h⟩
  | [], h => h.elim
/-- A map is being laid at the block n. -/
structure Laying (w w' : World) (n : Nat) (done : List (List UInt8 × Int)) : Prop where
  os : w'.os = w.os
  tape : w'.tape = w.tape
  output : w'.output = w.output
  size : w'.heap.size = w.heap.size + 1
  same : ∀ k, k < w.heap.size → w'.heap[k]? = w.heap[k]?
  map : ∃ es clock, w'.heap[w.heap.size]? = some (.map es clock) ∧ KVs done es.toList

theorem KVs.snoc {n : Int} {bs : ByteArray} : ∀ {l : List (List UInt8 × Int)} {es : List MapEntry} (_ : KVs l es) (e : MapEntry), e.key = .string bs → e.val = .int .i64 n → KVs (l ++ [(bs.data.toList, n)]) (es ++ [e])
  | [], [], _, e, h1, h2 => ⟨⟨bs, h1, rfl⟩, h2, trivial⟩
  | _ :: l, _ :: es, h, e, h1, h2 => ⟨h.1, h.2.1, KVs.snoc h.2.2 e h1 h2⟩
  | [], _ :: _, h, _, _, _ => h.elim
  | _ :: _, [], h, _, _, _ => h.elim
theorem mfind_no {s : List UInt8} : ∀ {l : List (List UInt8 × Int)}, s ∉ l.map (·.1) → mfind l s = (0, false)
  | [], _ => rfl
  | (k, n) :: l, h => by
    simp only [List.map_cons, List.mem_cons, not_or] at h
    simp only [mfind]
    rw [if_neg (Ne.symm h.1)]
    exact mfind_no h.2

theorem wp_inserts {T kt et : TypeId} {m m2 m3 : Nat} {ops : Array Oper} {Q : Exit → Act → World → Prop} (h1 : P.underlying T = some (.map kt et)) (h2 : P.underlying kt = some .string) {a : Act}
    (hm : a.tmps[m]? = some (.map (some w.heap.size))) : ∀ (kvs done : List (List UInt8 × Int)) (r : List Oper) (w' : World), MlitRest P T m m2 m3 kvs r → ((done ++ kvs).map (·.1)).Nodup → Laying w w' w.heap.size done →
    (∀ w', Laying w w' w.heap.size (done ++ kvs) → ∀ r, MlitRest P T m m2 m3 [] r → wpListIn Fence.wide 0 P ops Q r a w') → wpListIn Fence.wide 0 P ops Q r a w'
  | [], done, r, w', hr, hn, hL, hK => hK w' (by simpa using hL) r hr
  | (k, n) :: l, done, [], w', hr, hn, hL, hK => hr.elim
  | (k, n) :: l, done, o :: r, w', hr, hn, hL, hK => by
    obtain ⟨⟨bs, ho, rfl, hd, hg⟩, hr⟩ := hr
    refine wpListIn_plain hg fun K hk => ?_
    obtain ⟨es, clock, hmap, hkv⟩ := hL.map
    have hkey : IsKey .string (.string bs) := trivial
    have hno : mfind done bs.data.toList = (0, false) := mfind_no (by
      rw [List.map_append, List.nodup_append] at hn
      intro hc
      exact hn.2.2 _ hc _ (by simp) rfl)
    have hf : Instr.findNow .string (.string bs) es.toList 0 = some none := by
      rcases findNow_kv bs 0 hkv with ⟨h4, _⟩ | ⟨_, h5⟩
      · rw [hno] at h4; cases h4
      · exact h5
    have hlt : w.heap.size < w'.heap.size := by rw [hL.size]; omega
    have he : a.eval (.tmp m) = .map (some w.heap.size) := by simp [Act.eval, Array.getD_eq_getD_getElem?, hm]
    let w2 : World := { w' with heap := w'.heap.setIfInBounds w.heap.size (.map (es.push { key := .string bs, val := .int .i64 n, born := clock }) (clock + 1)) }
    have hrun : (execOp a.eval o).run P w' = .ok .skip w2 := by
      have hc : ∀ v, a.eval (.const v) = v := fun _ => rfl
      simp only [execOp, ho, he, hc]
      simp [Instr.mapUpdate, run_underlying h1, run_getObj_map hmap, run_checkKey h2 hkey, run_findKey h2 hf, run_setObj_map _ hmap, Result.andThen, w2]
    refine wp_value hrun (.inr ⟨rfl, rfl⟩) ?_
    rw [hd]
    refine hk _ _ ?_
    show wpListIn Fence.wide 0 P ops Q r a w2
    refine wp_inserts h1 h2 hm l (done ++ [(bs.data.toList, n)]) r w2 hr (by simpa using hn) ?_ (by simpa using hK)
    refine ⟨hL.os, hL.tape, hL.output, by simp [w2, hL.size], fun k hk => ?_, es.push { key := .string bs, val := .int .i64 n, born := clock }, clock + 1, ?_, ?_⟩
    · simp only [w2]
      rw [Array.getElem?_setIfInBounds_ne (by omega)]
      exact hL.same k hk
    · simp only [w2]
      rw [Array.getElem?_setIfInBounds_self_of_lt hlt]
    · simpa using hkv.snoc _ rfl rfl

/-- The whole literal's region. -/
theorem wp_mlit (h : WRel X g nt { s with pr := [] } a w) {m m2 m3 : Nat} {kvs : List (List UInt8 × Int)} {id : Nat} {ops : Array Oper} (hk : MlitOK P nt m m2 m3 kvs ops.toList) {Q : Exit → Act → World → Prop}
    (hK : ∀ g' a' w', WRel X g' nt { env := put (put (put s.env m (.mapc kvs)) m2 (.mapc kvs)) m3 (.mapc kvs), sg := s.sg, pr := [] } a' w' → Ext X g g' → Pres X g.F w w' → Q .normal a' w') :
    (Code.region id ops false).wpIn Fence.wide 0 P Q a w := by
  refine wpIn_region_list ?_
  generalize ops.toList = l at hk
  obtain ⟨o, r, rfl, hk⟩ := hk.first
  · obtain ⟨T, kt, et, ho, hd, hg, h1, h2, hm, hm2, hm3, hn, hr⟩ := hk
    refine wpListIn_plain hg fun K hKK => ?_
    have hrun : (execOp a.eval o).run P w = .ok (.value (.map (some w.heap.size))) (w.alloc (.map #[] 0)) := by
      simp [execOp, ho, Instr.makeMap]
    refine wp_value hrun (.inl rfl) (hKK _ _ ?_)
    rw [hd]
    have hma : m < a.tmps.size := by rw [h.nt]; exact hm
    refine wp_inserts (m := m) (m2 := m2) (m3 := m3) h1 h2 (by rw [tmps_put _ _ _ _ hma, if_pos rfl]) (w := w) kvs [] r _ hr (by simpa using hn) ⟨rfl, rfl, rfl, by simp, fun k hk => heap_alloc (w := w) hk, #[], 0, heap_alloc_self w _, trivial⟩ ?_
    intro w1 hL r1 hr1
    obtain ⟨es, clock, hmap, hkv⟩ := hL.map
    simp only [List.nil_append] at hkv
    let g1 : G := { g with ob := fun b => if b = w.heap.size then some (.map es clock) else g.ob b }
    have hle : g.le g1 := ⟨Facts.le_refl _, fun _ _ e => e, fun b o e => by
      show (if b = w.heap.size then _ else _) = _
      rw [if_neg]
      · exact e
      · rintro rfl
        exact absurd (heap_lt (h.obk _ _ e).1) (Nat.lt_irrefl _)⟩
    have hW1 : WRel X g1 nt { s with pr := [] } a w1 := by
      refine h.grow (by rw [hL.size]; omega) hL.same hle rfl (fun _ _ _ => rfl) (fun b o x e => ?_) (fun b o e => ?_)
      · have := h.fok b o x e
        rw [cell_of_heap (hL.same b (cell_lt this))]; exact this
      · have e' : (if b = w.heap.size then some (Obj.map es clock) else g.ob b) = some o := e
        split at e'
        · rename_i hb
          subst hb
          cases e'
          exact ⟨hmap, trivial⟩
        · exact h.obLess hL.same b o e'
    have hv : ARep g1 (.mapc kvs) (.map (some w.heap.size)) := .mapc kvs w.heap.size es clock (by show (if _ then _ else _) = _; rw [if_pos rfl]) hkv
    have hE : Ext X g g1 := ⟨hle, fun _ _ _ => rfl, fun _ _ e => .inl e⟩
    have hP : Pres X g.F w w1 := ⟨hL.os, hL.tape, hL.output, by rw [hL.size]; omega, fun k hk => .inl (hL.same k (h.xlt k hk))⟩
    have hW2 := hW1.putv hm hv rfl (p := none) (fun hm e => by cases e)
    obtain ⟨o1, o2, rfl, ⟨ho1, hd1, hg1⟩, ho2, hd2, hg2⟩ := hr1.last
    · skip
      have ev1 : (a.put (some m) (.map (some w.heap.size))).eval (.tmp m) = .map (some w.heap.size) := by
        simp only [Act.eval, Array.getD_eq_getD_getElem?]
        rw [tmps_put _ _ _ _ hma, if_pos rfl]; rfl
      refine wpListIn_plain hg1 fun K1 hK1 => ?_
      refine wp_value (cv := .map (some w.heap.size)) (by simp only [execOp, ho1, ev1]; rfl) (.inl rfl) (hK1 _ _ ?_)
      rw [hd1]
      have hW3 := hW2.putv hm2 hv rfl (p := none) (fun hm e => by cases e)
      have ev2 : ((a.put (some m) (.map (some w.heap.size))).put (some m2) (.map (some w.heap.size))).eval (.tmp m2) = .map (some w.heap.size) := by
        simp only [Act.eval, Array.getD_eq_getD_getElem?]
        rw [tmps_put _ _ _ _ (by rw [size_put, h.nt]; exact hm2), if_pos rfl]; rfl
      refine wpListIn_plain hg2 fun K2 hK2 => ?_
      refine wp_value (cv := .map (some w.heap.size)) (by simp only [execOp, ho2, ev2]; rfl) (.inl rfl) (hK2 _ _ ?_)
      rw [hd2]
      have hW4 := hW3.putv hm3 hv rfl (p := none) (fun hm e => by cases e)
      exact hK g1 _ w1 (hW4.prov (by simp)) hE hP
end Go.Proofs.YtggoaggneapneaaDoorM
