/-
  The mirror, part 28: maps that are laid whole, by a literal, and then only asked.
-/
import Derived.Test.YtggoaggneapneaaDoorM16
import Derived.MapKept
import Derived.TacticsIn
set_option linter.unusedVariables false
set_option linter.unusedSimpArgs false
namespace Go.Proofs.YtggoaggneapneaaDoorM
open Go Go.MapKept
variable {X : Nat → Prop} {g g' : G} {nt : Nat} {s : St} {a : Act} {w w' : World} {F : Facts} {P : Program} {o : Oper} {sg : Sig}

theorem str_eq {x y : ByteArray} : x.data.toList = y.data.toList ↔ x = y := by
  constructor
  · intro h
    obtain ⟨x⟩ := x
    obtain ⟨y⟩ := y
    congr 1
    exact Array.ext' h
  · rintro rfl; rfl
theorem findNow_kv (bs : ByteArray) : ∀ {kvs : List (List UInt8 × Int)} {es : List MapEntry} (i : Nat), KVs kvs es →
    ((mfind kvs bs.data.toList).2 = true ∧ ∃ j, Instr.findNow .string (.string bs) es i = some (some (j, .int .i64 (mfind kvs bs.data.toList).1))) ∨
    (mfind kvs bs.data.toList = (0, false) ∧ Instr.findNow .string (.string bs) es i = some none)
  | [], [], i, _ => .inr ⟨rfl, rfl⟩
  | (k, n) :: l, e :: es, i, h => by
    obtain ⟨⟨ks, h1, h2⟩, h3, h4⟩ := h
    simp only [mfind, Instr.findNow, h1, Instr.sameNow]
    by_cases hk : k = bs.data.toList
    · rw [if_pos hk]
      have hb : (bs == ks) = true := (bytes_beq _ _).2 (str_eq.1 (by rw [h2, hk]))
      rw [hb]
      exact .inl ⟨rfl, i, by rw [h3]⟩
    · rw [if_neg hk]
      have hb : (bs == ks) = false := by
        cases hc : bs == ks with
        | false => rfl
        | true =>
          have := (bytes_beq _ _).1 hc
          subst this
          exact absurd h2.symm hk
      rw [hb]
      exact findNow_kv bs (i + 1) h4
  | [], _ :: _, _, h => h.elim
  | _ :: _, [], _, h => h.elim

theorem sound_isnil (h : WRel X g nt s a w) {ne : Bool} {k : Nat} {x : Opd} {op : BinOp} {t t' : TypeId} {y z : Operand} (ho : o.op = .binOp op t y z t') (hI : IOK P (.isnil ne k x) (.binOp op t y z t')) {call : Call} {u : Upd} (hs : stepI call s (.isnil ne k x) = some u) : Sound P X g nt s u a w o := by
  cases z with
  | tmp t => exact hI.elim
  | global t => exact hI.elim
  | func t => exact hI.elim
  | const nv =>
    obtain ⟨rfl, hx, d, hd, hcase⟩ := hI
    have hxr := h.opd hx
    refine Sound.plainO h hs fun v hv => ?_
    obtain ⟨b, h1, rfl⟩ := Option.map_eq_some_iff.1 hv
    generalize hcx : a.eval y = cx at hxr
    generalize eo s.env x = ax at hxr h1
    have hc : ∀ v, a.eval (.const v) = v := fun _ => rfl
    have key : (eqGuard (if ne then .neq else .eql) t y (.const nv) cx nv).run P w = .ok () w → (Op.equal t cx nv).run P w = .ok b w →
        ∃ cv, (execOp a.eval o).run P w = .ok (.value cv) w ∧ ARep g (.pv (.bool (b != ne))) cv ∧ isOwn (.pv (.bool (b != ne))) = false := by
      intro hg he
      refine ⟨.bool (b != ne), ?_, .pv _ _ (.bool _), rfl⟩
      have hb : (binOp (if ne then .neq else .eql) t cx nv).run P w = .ok (.bool (b != ne)) w := by
        rcases hcase with ⟨_, _, rfl⟩ | ⟨_, _, rfl⟩ | ⟨_, _, rfl⟩ | ⟨_, _, rfl⟩ <;> cases ne <;> cases b <;> cases cx <;> simp [binOp, he, Result.andThen]
      simp [execOp, ho, hcx, hc, hg, hb, Result.andThen]
    rcases hcase with ⟨rfl, ⟨ms, rfl⟩, rfl⟩ | ⟨rfl, ⟨e, rfl⟩, rfl⟩ | ⟨rfl, ⟨e, rfl⟩, rfl⟩ | ⟨rfl, ⟨p, q, r, rfl⟩, rfl⟩
    all_goals
      cases hxr with
      | pv p v hp =>
        cases hp with
        | sl xs b o c sz cv hc hn hF hR =>
          cases xs with
          | nil => cases h1
          | cons r xs =>
            first
              | (cases h1; done)
              | (cases h1
                 refine key ?_ ?_
                 · cases ne <;> simp [eqGuard]
                 · (show (Op.equalIn (9999 + 1) t _ _).run P w = _; generalize 9999 = n; simp [Op.equalIn, run_underlying hd]))
        | _ => cases h1
      | _ =>
        first
          | (cases h1; done)
          | (cases h1
             refine key ?_ ?_
             · cases ne <;> simp [eqGuard]
             · (show (Op.equalIn (9999 + 1) t _ _).run P w = _; generalize 9999 = n; simp [Op.equalIn, run_underlying hd]))
theorem sound_lkp (h : WRel X g nt s a w) {x k : Opd} {t : TypeId} {y z : Operand} {ok : Bool} (ho : o.op = .lookup t y z ok) (hI : IOK P (.lkp x k) (.lookup t y z ok)) {call : Call} {u : Upd} (hs : stepI call s (.lkp x k) = some u) : Sound P X g nt s u a w o := by
  obtain ⟨rfl, hx, hk, kt, et, h1, h2, i, h3, h3z⟩ := hI
  have hxr := h.opd hx
  have hkr := h.opd hk
  simp only [stepI] at hs
  split at hs
  · rename_i kvs l ev ek
    rw [ev] at hxr
    rw [ek] at hkr
    generalize hcx : a.eval y = cx at hxr
    generalize hck : a.eval z = ck at hkr
    cases hxr with
    | mapc kvs b es clock hob hkv =>
      cases hkr with
      | pv p v hp =>
        cases hp with
        | str l bs hbs =>
          obtain ⟨hheap, _⟩ := h.obk _ _ hob
          subst hbs
          rw [plain_some hs]
          have hkey : IsKey .string (.string bs) := trivial
          have hzero : (zeroValue et).run P w = .ok (.int .i64 0) w := run_zero h3 h3z w
          rcases findNow_kv bs 0 hkv with ⟨h4, j, h5⟩ | ⟨h4, h5⟩
          · refine Sound.plain (cv := .tuple #[.int .i64 (mfind kvs bs.data.toList).1, .bool true]) h ?_ ?_ rfl
            · simp [execOp, ho, hcx, hck, Instr.lookup, run_underlying h1, run_getObj_map hheap, run_checkKey h2 hkey, run_findKey h2 h5, Result.andThen]
            · rw [h4]
              exact .tup _ [.int .i64 (mfind kvs bs.data.toList).1, .bool true] rfl fun j a v e1 e2 => by
                match j with
                | 0 => simp at e1 e2; subst e1; subst e2; exact .pv _ _ (.int _ _)
                | 1 => simp at e1 e2; subst e1; subst e2; exact .pv _ _ (.bool _)
                | j + 2 => simp at e1
          · refine Sound.plain (cv := .tuple #[.int .i64 0, .bool false]) h ?_ ?_ rfl
            · simp [execOp, ho, hcx, hck, Instr.lookup, run_underlying h1, run_getObj_map hheap, run_checkKey h2 hkey, run_findKey h2 h5, Result.andThen, hzero]
            · rw [h4]
              exact .tup _ [.int .i64 0, .bool false] rfl fun j a v e1 e2 => by
                match j with
                | 0 => simp at e1 e2; subst e1; subst e2; exact .pv _ _ (.int _ _)
                | 1 => simp at e1 e2; subst e1; subst e2; exact .pv _ _ (.bool _)
                | j + 2 => simp at e1
  · cases hs

end Go.Proofs.YtggoaggneapneaaDoorM
