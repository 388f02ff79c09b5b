/-
  The mirror, part 11: numbers, texts, addresses, the builtins.
-/
import Derived.Test.YtggoaggneapneaaDoorM10
import Derived.Lib.ConvBytes
import Derived.Laws.IdiomStrings
import Derived.Laws.Strings
import Derived.Laws.Concat
set_option linter.unusedVariables false
set_option linter.unusedSimpArgs false
namespace Go.Proofs.YtggoaggneapneaaDoorM
open Go
variable {X : Nat → Prop} {g g' : G} {nt : Nat} {s : St} {a : Act} {w w' : World} {F : Facts} {P : Program} {o : Oper}

theorem pv_int (g : G) (k : IntKind) (n : Int) : ARep g (.pv (.int k n)) (.int k n) := .pv _ _ (.int k n)
theorem pv_bool (g : G) (b : Bool) : ARep g (.pv (.bool b)) (.bool b) := .pv _ _ (.bool b)
theorem pv_str (g : G) {bs : ByteArray} {t : List UInt8} (h : bs.data.toList = t) : ARep g (.pv (.str t)) (.string bs) := .pv _ _ (.str t bs h)

theorem binI_run {op : BinOp} {k : IntKind} {x y : Int} {p : PV} (h : binI op k x y = some p) (w : World) :
    ∃ cv, ((match op with
      | .add | .sub | .mul => Op.intArith op k x y
      | .quo | .rem => Op.intDiv op k x y
      | .and | .or | .xor | .andNot => Op.intBits op k x y
      | _ => Op.intCmp op x y) : Sem Value).run P w = .ok cv w ∧ VRep F p cv := by
  cases op <;> simp only [binI] at h
  case add => cases h; exact ⟨_, rfl, .int _ _⟩
  case sub => cases h; exact ⟨_, rfl, .int _ _⟩
  case mul => cases h; exact ⟨_, rfl, .int _ _⟩
  case quo =>
    split at h
    · cases h
    · rename_i hy; cases h; exact ⟨_, by simp [Op.intDiv, hy], .int _ _⟩
  case rem =>
    split at h
    · cases h
    · rename_i hy; cases h; exact ⟨_, by simp [Op.intDiv, hy], .int _ _⟩
  case and => cases h; exact ⟨_, rfl, .int _ _⟩
  case or => cases h; exact ⟨_, rfl, .int _ _⟩
  case xor => cases h; exact ⟨_, rfl, .int _ _⟩
  case andNot => cases h; exact ⟨_, rfl, .int _ _⟩
  case eql => cases h; exact ⟨_, rfl, .bool _⟩
  case neq => cases h; exact ⟨_, rfl, .bool _⟩
  case lss => cases h; exact ⟨_, rfl, .bool _⟩
  case leq => cases h; exact ⟨_, rfl, .bool _⟩
  case gtr => cases h; exact ⟨_, rfl, .bool _⟩
  case geq => cases h; exact ⟨_, rfl, .bool _⟩
  all_goals cases h

theorem eqGuard_int (op : BinOp) (t : TypeId) (x y : Operand) (k k' : IntKind) (n m : Int) (w : World) : (eqGuard op t x y (.int k n) (.int k' m)).run P w = .ok () w := by
  unfold eqGuard
  split <;> rfl
theorem eqGuard_str (op : BinOp) (t : TypeId) (x y : Operand) (b c : ByteArray) (w : World) : (eqGuard op t x y (.string b) (.string c)).run P w = .ok () w := by
  unfold eqGuard
  split <;> rfl
theorem eqGuard_bool (op : BinOp) (t : TypeId) (x y : Operand) (b c : Bool) (w : World) : (eqGuard op t x y (.bool b) (.bool c)).run P w = .ok () w := by
  unfold eqGuard
  split <;> rfl
theorem bytes_eq {b c : ByteArray} {t u : List UInt8} (hb : b.data.toList = t) (hc : c.data.toList = u) : (b.toList == c.toList) = (t == u) := by
  rw [← hb, ← hc]
  rw [ByteArray.toList_eq, ByteArray.toList_eq]

theorem sound_bin (h : WRel X g nt s a w) {op : BinOp} {x y : Opd} {t t' : TypeId} {x' y' : Operand} (ho : o.op = .binOp op t x' y' t') (hx : OOK x x') (hy : OOK y y') {call : Call} {u : Upd} (hs : stepI call s (.bin op x y) = some u) :
    Sound P X g nt s u a w o := by
  simp only [stepI] at hs
  refine Sound.plainO h hs fun v hv => ?_
  have hxr := h.opd hx
  have hyr := h.opd hy
  unfold binV at hv
  split at hv
  · rename_i k n k' m ex ey
    rw [ex] at hxr; rw [ey] at hyr
    have e1 := rep_int hxr
    have e2 := rep_int hyr
    split at hv
    · split at hv
      · cases hv
      · rename_i hm
        cases hv
        exact ⟨_, by simp [execOp, ho, e1, e2, eqGuard_int, binOp, Op.shift, hm], pv_int _ _ _, rfl⟩
    · split at hv
      · cases hv
      · rename_i hm
        cases hv
        exact ⟨_, by simp [execOp, ho, e1, e2, eqGuard_int, binOp, Op.shift, hm], pv_int _ _ _, rfl⟩
    · rename_i hne1 hne2
      split at hv
      · rename_i hk
        subst hk
        obtain ⟨p, h1, rfl⟩ := Option.map_eq_some_iff.1 hv
        obtain ⟨cv, h2, h3⟩ := binI_run (P := P) (F := g.F) h1 w
        refine ⟨cv, ?_, .pv _ _ h3, rfl⟩
        have hb : (binOp op t (.int k n) (.int k m)).run P w = .ok cv w := by
          rw [← h2]
          cases op <;> first | (exact absurd rfl hne1) | (exact absurd rfl hne2) | (simp [binOp])
        simp [execOp, ho, e1, e2, eqGuard_int, hb]
      · cases hv
  · rename_i b c ex ey
    rw [ex] at hxr; rw [ey] at hyr
    obtain ⟨b', e1, hb⟩ := rep_str hxr
    obtain ⟨c', e2, hc⟩ := rep_str hyr
    split at hv
    · split at hv
      · rename_i hm
        cases hv
        have hm' := run_string_add_sum (P := P) (w := w) b' c' (by rw [bytes_size hb, bytes_size hc]; exact hm)
        exact ⟨.string (b' ++ c'), by simp [execOp, ho, e1, e2, eqGuard_str, binOp, hm'], pv_str _ (by simp [ByteArray.data_append, hb, hc]), rfl⟩
      · cases hv
    · cases hv
      exact ⟨_, by simp only [execOp, ho, e1, e2, Sem.run_bind, eqGuard_str, Result.andThen_ok, binOp, Op.stringOp, bytes_eq hb hc, Sem.run_pure], pv_bool _ _, rfl⟩
    · cases hv
      exact ⟨_, by simp only [execOp, ho, e1, e2, Sem.run_bind, eqGuard_str, Result.andThen_ok, binOp, Op.stringOp, bytes_eq hb hc, Sem.run_pure], pv_bool _ _, rfl⟩
    · cases hv
  · cases hv

theorem sound_beq (h : WRel X g nt s a w) {ne : Bool} {x y : Opd} {t t' : TypeId} {x' y' : Operand} (ho : o.op = .binOp (if ne then .neq else .eql) t x' y' t') (hx : OOK x x') (hy : OOK y y') (hu : P.underlying t = some .bool) {call : Call} {u : Upd}
    (hs : stepI call s (.beq ne x y) = some u) : Sound P X g nt s u a w o := by
  have hxr := h.opd hx
  have hyr := h.opd hy
  simp only [stepI] at hs
  split at hs
  · rename_i b c ex ey
    rw [plain_some hs]
    rw [ex] at hxr; rw [ey] at hyr
    have e1 := rep_bool hxr
    have e2 := rep_bool hyr
    have heq : (Op.equal t (.bool b) (.bool c)).run P w = .ok (b == c) w := by
      have : Op.maxDepth = 9999 + 1 := rfl
      unfold Op.equal
      rw [this, Op.equalIn]
      simp [run_underlying hu]
    cases ne with
    | true => exact Sound.plain h (cv := .bool (!(b == c))) (by simp [execOp, ho, e1, e2, eqGuard_bool, binOp, heq]) (by cases b <;> cases c <;> exact pv_bool _ _) rfl
    | false => exact Sound.plain h (cv := .bool (b == c)) (by simp [execOp, ho, e1, e2, eqGuard_bool, binOp, heq]) (by cases b <;> cases c <;> exact pv_bool _ _) rfl
  · cases hs

theorem sound_un (h : WRel X g nt s a w) {op : UnOp} {x : Opd} {t : TypeId} {x' : Operand} (ho : o.op = .unOp op t x') (hx : OOK x x') {call : Call} {u : Upd} (hs : stepI call s (.un op x) = some u) : Sound P X g nt s u a w o := by
  have hxr := h.opd hx
  simp only [stepI] at hs
  refine Sound.plainO h hs fun v hv => ?_
  unfold unV at hv
  split at hv
  · rename_i k n ex
    rw [ex] at hxr
    cases hv
    exact ⟨_, by simp [execOp, ho, rep_int hxr, Op.unary, Op.intArith], pv_int _ _ _, rfl⟩
  · rename_i b ex
    rw [ex] at hxr
    cases hv
    exact ⟨_, by simp [execOp, ho, rep_bool hxr, Op.unary], pv_bool _ _, rfl⟩
  · cases hv

theorem lenL_eq {x : AV} (h : ∀ b o n sz, x ≠ .row b o n sz) : lenL x = (rowsOf x).map fun xs => (xs.length : Int) := by
  cases x <;> first | rfl | exact absurd rfl (h _ _ _ _)
theorem iadrV_eq {sz : Nat} {x : AV} {i : Int} (h : ∀ b o n sz, x ≠ .row b o n sz) :
    iadrV sz x i = (rowsOf x).bind fun xs => if inB i xs.length then (xs[i.toNat]?).bind fun r => if r.length = sz then some (.elem r 0) else none else none := by
  cases x <;> first | rfl | exact absurd rfl (h _ _ _ _)
theorem sound_len (h : WRel X g nt s a w) {st : Bool} {x : Opd} {c : Go.Call} (ho : o.op = .call c) (hI : IOK P (.len st x) (.call c)) {call : Call} {u : Upd} (hs : stepI call s (.len st x) = some u) : Sound P X g nt s u a w o := by
  obtain ⟨t, y, rfl, hx, hu⟩ := hI
  have hxr := h.opd hx
  simp only [stepI] at hs
  refine Sound.plainO h hs fun v hv => ?_
  obtain ⟨n, h1, rfl⟩ := Option.map_eq_some_iff.1 hv
  refine ⟨.int .i64 n, ?_, pv_int _ _ _, rfl⟩
  cases st with
  | true =>
    simp only [if_true] at hu h1
    generalize eo s.env x = ev at h1 hxr
    cases ev with
    | pv p =>
      cases p with
      | str l =>
        obtain ⟨bs, e1, e2⟩ := rep_str hxr
        simp only [lenS] at h1
        injection h1 with h1
        subst h1
        simp [execOp, ho, resolve, e1, invoke, builtin, Builtin.len_, run_underlying hu, goInt, bytes_size e2]
      | _ => simp [lenS] at h1
    | _ => simp [lenS] at h1
  | false =>
    simp only [Bool.false_eq_true, if_false] at hu h1
    obtain ⟨e, hu⟩ := hu
    have key : ∀ ad (m c : Nat), a.eval y = .slice ad m c → n = m → (execOp a.eval o).run P w = .ok (.value (.int .i64 n)) w := by
      intro ad m c e1 e2
      simp [execOp, ho, resolve, e1, invoke, builtin, Builtin.len_, run_underlying hu, goInt, e2]
    generalize hev : eo s.env x = ev at h1 hxr
    cases ev with
    | row b q m sz =>
      simp only [lenL] at h1
      injection h1 with h1
      generalize hcv : a.eval y = cv at hxr
      cases hxr with
      | row b q m sz k c hb hc => exact key _ _ _ hcv h1.symm
    | _ =>
      rw [lenL_eq (by rintro _ _ _ _ ⟨⟩)] at h1
      obtain ⟨xs, h2, h3⟩ := Option.map_eq_some_iff.1 h1
      obtain ⟨ad, c, e1, _, _⟩ := rep_rows hxr h2
      exact key _ _ _ e1 h3.symm

theorem sound_lenA (h : WRel X g nt s a w) {n : Nat} {c : Go.Call} (ho : o.op = .call c) (hI : IOK P (.lenA n) (.call c)) {call : Call} {u : Upd} (hs : stepI call s (.lenA n) = some u) : Sound P X g nt s u a w o := by
  obtain ⟨t, y, rfl, hu⟩ := hI
  rw [plain_some hs]
  refine Sound.plain h (cv := .int .i64 n) ?_ (pv_int _ _ _) rfl
  rcases hu with ⟨e, hu⟩ | ⟨p, e, hu, hp⟩
  · simp [execOp, ho, resolve, invoke, builtin, Builtin.len_, run_underlying hu, goInt]
  · simp [execOp, ho, resolve, invoke, builtin, Builtin.len_, run_underlying hu, run_underlying hp, goInt]

theorem minG_run {k : IntKind} : ∀ {n : Int} {l : List AV} {v : AV}, minG k n l = some v → ∀ {vs : List Value}, l.length = vs.length → (∀ (j : Nat) x u, l[j]? = some x → vs[j]? = some u → ARep g x u) →
    ∃ m, (vs.foldlM Builtin.min2 (.int k n)).run P w = .ok (.int k m) w ∧ v = .pv (.int k m)
  | n, [], v, e, [], _, _ => by simp [minG] at e; exact ⟨n, rfl, e.symm⟩
  | n, x :: l, v, e, u :: vs, hl, hr => by
    cases x with
    | pv p =>
      cases p with
      | int k' b =>
        simp only [minG] at e
        split at e
        · rename_i hk
          subst hk
          have h0 := rep_int (hr 0 _ u rfl rfl)
          subst h0
          obtain ⟨m, h1, h2⟩ := minG_run e (vs := vs) (by simpa using hl) (fun j x u e1 e2 => hr (j + 1) x u (by simpa using e1) (by simpa using e2))
          refine ⟨m, ?_, h2⟩
          rw [List.foldlM_cons, Sem.run_bind]
          exact h1
        · cases e
      | _ => simp [minG] at e
    | _ => simp [minG] at e
theorem maxG_run {k : IntKind} : ∀ {n : Int} {l : List AV} {v : AV}, maxG k n l = some v → ∀ {vs : List Value}, l.length = vs.length → (∀ (j : Nat) x u, l[j]? = some x → vs[j]? = some u → ARep g x u) →
    ∃ m, (vs.foldlM Builtin.max2 (.int k n)).run P w = .ok (.int k m) w ∧ v = .pv (.int k m)
  | n, [], v, e, [], _, _ => by simp [maxG] at e; exact ⟨n, rfl, e.symm⟩
  | n, x :: l, v, e, u :: vs, hl, hr => by
    cases x with
    | pv p =>
      cases p with
      | int k' b =>
        simp only [maxG] at e
        split at e
        · rename_i hk
          subst hk
          have h0 := rep_int (hr 0 _ u rfl rfl)
          subst h0
          obtain ⟨m, h1, h2⟩ := maxG_run e (vs := vs) (by simpa using hl) (fun j x u e1 e2 => hr (j + 1) x u (by simpa using e1) (by simpa using e2))
          refine ⟨m, ?_, h2⟩
          rw [List.foldlM_cons, Sem.run_bind]
          exact h1
        · cases e
      | _ => simp [maxG] at e
    | _ => simp [maxG] at e
theorem sound_mn (h : WRel X g nt s a w) {xs : List Opd} {c : Go.Call} (ho : o.op = .call c) (hI : IOK P (.mn xs) (.call c)) {call : Call} {u : Upd} (hs : stepI call s (.mn xs) = some u) : Sound P X g nt s u a w o := by
  obtain ⟨ts, ys, rfl, hx⟩ := hI
  obtain ⟨hl, hr⟩ := h.opds hx
  simp only [stepI] at hs
  refine Sound.plainO h hs fun v hv => ?_
  have he : (ys.map a.eval).toList = ys.toList.map a.eval := by simp
  generalize xs.map (eo s.env) = ls at hv hl hr
  generalize hvs : ys.toList.map a.eval = vs at hl hr he
  match ls, vs, hl with
  | .pv (.int k n) :: l, u :: vs, hl =>
    have h0 := rep_int (hr 0 _ u rfl rfl)
    subst h0
    obtain ⟨m, h1, rfl⟩ := minG_run (P := P) (w := w) (g := g) hv (vs := vs) (by simpa using hl) (fun j x u e1 e2 => hr (j + 1) x u (by simpa using e1) (by simpa using e2))
    exact ⟨_, by simp [execOp, ho, resolve, invoke, builtin, Builtin.min_, hvs, h1], pv_int _ _ _, rfl⟩
theorem sound_mx (h : WRel X g nt s a w) {xs : List Opd} {c : Go.Call} (ho : o.op = .call c) (hI : IOK P (.mx xs) (.call c)) {call : Call} {u : Upd} (hs : stepI call s (.mx xs) = some u) : Sound P X g nt s u a w o := by
  obtain ⟨ts, ys, rfl, hx⟩ := hI
  obtain ⟨hl, hr⟩ := h.opds hx
  simp only [stepI] at hs
  refine Sound.plainO h hs fun v hv => ?_
  have he : (ys.map a.eval).toList = ys.toList.map a.eval := by simp
  generalize xs.map (eo s.env) = ls at hv hl hr
  generalize hvs : ys.toList.map a.eval = vs at hl hr he
  match ls, vs, hl with
  | .pv (.int k n) :: l, u :: vs, hl =>
    have h0 := rep_int (hr 0 _ u rfl rfl)
    subst h0
    obtain ⟨m, h1, rfl⟩ := maxG_run (P := P) (w := w) (g := g) hv (vs := vs) (by simpa using hl) (fun j x u e1 e2 => hr (j + 1) x u (by simpa using e1) (by simpa using e2))
    exact ⟨_, by simp [execOp, ho, resolve, invoke, builtin, Builtin.max_, hvs, h1], pv_int _ _ _, rfl⟩

theorem sound_mkif (h : WRel X g nt s a w) {t t' : TypeId} {x : Opd} {y : Operand} (ho : o.op = .makeInterface t' y) (hI : IOK P (.mkif t x) (.makeInterface t' y)) {call : Call} {u : Upd} (hs : stepI call s (.mkif t x) = some u) : Sound P X g nt s u a w o := by
  obtain ⟨rfl, hx, d, hu, hd⟩ := hI
  rw [plain_some hs]
  refine Sound.plain h (cv := .iface t (a.eval y)) ?_ (.iface _ _ _ (h.opd hx).dem) rfl
  have : (Instr.makeInterface t (a.eval y)).run P w = .ok (.iface t (a.eval y)) w := by
    unfold Instr.makeInterface
    rw [Sem.run_bind, run_underlying hu]
    cases d <;> first | rfl | (exact absurd rfl (hd _))
  simp [execOp, ho, this]
theorem sound_tas (h : WRel X g nt s a w) {t t1 t' : TypeId} {ok ok' : Bool} {x : Opd} {y : Operand} (ho : o.op = .typeAssert y t1 t' ok') (hI : IOK P (.tas t ok x) (.typeAssert y t1 t' ok')) {call : Call} {u : Upd} (hs : stepI call s (.tas t ok x) = some u) :
    Sound P X g nt s u a w o := by
  obtain ⟨rfl, rfl, hx, d, hu, hd⟩ := hI
  have hxr := h.opd hx
  simp only [stepI] at hs
  split at hs
  · rename_i t0 v ev
    split at hs
    · rename_i ht
      subst ht
      rw [ev] at hxr
      generalize hcv : a.eval y = cv at hxr
      cases hxr with
      | iface t v cv hv =>
        have hrun : (Instr.typeAssert (.iface t0 cv) t1 t0 ok).run P w = .ok (if ok then .tuple #[cv, .bool true] else cv) w := by
          unfold Instr.typeAssert
          simp only [Sem.run_bind, run_underlying hu, Result.andThen_ok]
          cases d <;> first | (exact absurd rfl (hd _)) | (cases ok <;> simp)
        rw [plain_some hs]
        cases ok with
        | true =>
          exact Sound.plain h (cv := .tuple #[cv, .bool true]) (by simp only [execOp, ho, hcv, Sem.run_bind, hrun, Result.andThen_ok, Sem.run_pure, if_true])
            (.tup [dem v, .pv (.bool true)] [cv, .bool true] rfl fun j x u e1 e2 => by
              match j with
              | 0 => simp at e1 e2; subst e1; subst e2; exact hv.dem
              | 1 => simp at e1 e2; subst e1; subst e2; exact pv_bool _ _
              | j + 2 => simp at e1) rfl
        | false => exact Sound.plain h (cv := cv) (by simp only [execOp, ho, hcv, Sem.run_bind, hrun, Result.andThen_ok, Sem.run_pure]; rfl) hv.dem (isOwn_dem _)
    · cases hs
  · cases hs

theorem sound_ext (h : WRel X g nt s a w) {i j : Nat} {x : Opd} {y : Operand} (ho : o.op = .extract y j) (hI : IOK P (.ext i x) (.extract y j)) {call : Call} {u : Upd} (hs : stepI call s (.ext i x) = some u) : Sound P X g nt s u a w o := by
  obtain ⟨rfl, hx⟩ := hI
  have hxr := h.opd hx
  simp only [stepI] at hs
  split at hs
  · rename_i vs ev
    rw [ev] at hxr
    refine Sound.plainO h hs fun v hv => ?_
    obtain ⟨v0, h1, rfl⟩ := Option.map_eq_some_iff.1 hv
    generalize hcv : a.eval y = cv at hxr
    cases hxr with
    | tup cs us hl hr =>
      have hi := (List.getElem?_eq_some_iff.1 h1).1
      have h2 : us[i]? = some us[i] := List.getElem?_eq_getElem (by omega)
      exact ⟨us[i], by simp [execOp, ho, hcv, Instr.extract, h2], (hr i _ _ h1 h2).dem, isOwn_dem _⟩
  · cases hs

theorem argsOf_rep (h : WRel X g nt s a w) {xs : List Opd} {ys : List Operand} (hx : OOKs xs ys) :
    (argsOf s.env xs).length = (ys.map a.eval).length ∧ ∀ (j : Nat) x v, (argsOf s.env xs)[j]? = some x → (ys.map a.eval)[j]? = some v → ARep g x v ∧ isOwn x = false := by
  obtain ⟨hl, hr⟩ := h.opds hx
  refine ⟨by simpa [argsOf] using hl, fun j x v e1 e2 => ?_⟩
  simp only [argsOf, List.getElem?_map] at e1
  obtain ⟨y, h1, rfl⟩ := Option.map_eq_some_iff.1 e1
  exact ⟨(hr j (eo s.env y) v (by simp [h1]) e2).dem, isOwn_dem _⟩
theorem sound_mkfn (h : WRel X g nt s a w) {f : Nat} {caps : List Opd} {fn : Fn} {first cs : Array Operand} (ho : o.op = .makeFunc fn first cs) (hI : IOK P (.mkfn f caps) (.makeFunc fn first cs)) {call : Call} {u : Upd} (hs : stepI call s (.mkfn f caps) = some u) :
    Sound P X g nt s u a w o := by
  obtain ⟨rfl, rfl, hx⟩ := hI
  obtain ⟨hl, hr⟩ := argsOf_rep h hx
  rw [plain_some hs]
  refine Sound.plain h (cv := .func (.func f) #[] (cs.toList.map a.eval).toArray) ?_ (.fn f _ _ hl fun j x v e1 e2 => (hr j x v e1 e2).1) rfl
  have e : cs.map a.eval = (cs.toList.map a.eval).toArray := by apply Array.ext'; simp
  simp [execOp, ho, Instr.makeFunc, e]

theorem sound_fadr (h : WRel X g nt s a w) {off : Nat} {x : Opd} {t : TypeId} {f : Nat} {y : Operand} (ho : o.op = .fieldAddr t y f) (hI : IOK P (.fadr off x) (.fieldAddr t y f)) {call : Call} {u : Upd} (hs : stepI call s (.fadr off x) = some u) :
    Sound P X g nt s u a w o := by
  obtain ⟨hx, fs, fl, sz, hu, hf, hoff, hS, hsz⟩ := hI
  have hxr := h.opd hx
  simp only [stepI] at hs
  have hrun : ∀ k q, a.eval y = .pointer (some ⟨k, q, none⟩) → (execOp a.eval o).run P w = .ok (.value (.pointer (some ⟨k, q + off, none⟩))) w := by
    intro k q e
    simp [execOp, ho, e, Instr.fieldAt, run_underlying hu, hf, Instr.sureAddr, fieldPlace, run_size hS, hsz, add_plain, hoff]
  refine Sound.plainO h hs fun v hv => ?_
  generalize hcv : a.eval y = cv at hxr
  generalize eo s.env x = ev at hv hxr
  cases hxr with
  | cell b q k hbe =>
    simp only [offAV] at hv
    cases hv
    exact ⟨_, hrun _ _ hcv, .cell b (q + off) k hbe, rfl⟩
  | elem r q b q0 hF =>
    simp only [offAV] at hv
    cases hv
    refine ⟨_, hrun _ _ hcv, ?_, rfl⟩
    rw [Nat.add_assoc]
    exact .elem r (q + off) b q0 hF
  | _ => simp [offAV] at hv

theorem sound_iadrA (h : WRel X g nt s a w) {len sz : Nat} {x i : Opd} {t : TypeId} {y j : Operand} (ho : o.op = .indexAddr t y j) (hI : IOK P (.iadrA len sz x i) (.indexAddr t y j)) {call : Call} {u : Upd} (hs : stepI call s (.iadrA len sz x i) = some u) :
    Sound P X g nt s u a w o := by
  simp only [IOK] at hI
  obtain ⟨hx, hi, e, hu, hS⟩ := hI
  have hxr := h.opd hx
  simp only [stepI] at hs
  refine Sound.plainO h hs fun v hv => ?_
  obtain ⟨n, h1, h2⟩ := Option.bind_eq_some_iff.1 hv
  obtain ⟨kk, hj⟩ := rep_asI (h.opd hi) h1
  split at h2
  · rename_i hin
    simp only [inB, decide_eq_true_eq] at hin
    have hrun : ∀ k q, a.eval y = .pointer (some ⟨k, q, none⟩) → (execOp a.eval o).run P w = .ok (.value (.pointer (some ⟨k, q + n.toNat * sz, none⟩))) w := by
      intro k q e1
      simp [execOp, ho, e1, hj, Instr.indexAt, run_underlying hu, asIntOf, Instr.sureAddr, hin, run_size hS, add_plain]
    generalize hcv : a.eval y = cv at hxr
    generalize eo s.env x = ev at h2 hxr
    cases hxr with
    | cell b q k hbe =>
      simp only [offAV] at h2
      cases h2
      exact ⟨_, hrun _ _ hcv, .cell b _ k hbe, rfl⟩
    | elem r q b q0 hF =>
      simp only [offAV] at h2
      cases h2
      refine ⟨_, hrun _ _ hcv, ?_, rfl⟩
      rw [Nat.add_assoc]
      exact .elem r _ b q0 hF
    | _ => simp [offAV] at h2
  · cases h2

theorem sound_iadr (h : WRel X g nt s a w) {sz : Nat} {x i : Opd} {t : TypeId} {y j : Operand} (ho : o.op = .indexAddr t y j) (hI : IOK P (.iadr sz x i) (.indexAddr t y j)) {call : Call} {u : Upd} (hs : stepI call s (.iadr sz x i) = some u) :
    Sound P X g nt s u a w o := by
  simp only [IOK] at hI
  obtain ⟨hx, hi, e, hu, hS⟩ := hI
  have hxr := h.opd hx
  simp only [stepI] at hs
  refine Sound.plainO h hs fun v hv => ?_
  obtain ⟨n, h1, h2⟩ := Option.bind_eq_some_iff.1 hv
  obtain ⟨kk, hj⟩ := rep_asI (h.opd hi) h1
  have hrun : ∀ (k q len c : Nat), a.eval y = .slice (some ⟨k, q, none⟩) len c → 0 ≤ n ∧ n < len → (execOp a.eval o).run P w = .ok (.value (.pointer (some ⟨k, q + n.toNat * sz, none⟩))) w := by
    intro k q len c e1 hin
    simp [execOp, ho, e1, hj, Instr.indexAt, run_underlying hu, asIntOf, hin, run_size hS, add_plain]
  have key : ∀ xs, rowsOf (eo s.env x) = some xs → inB n xs.length = true → ∀ r, xs[n.toNat]? = some r → r.length = sz → v = .elem r 0 →
      ∃ cv, (execOp a.eval o).run P w = .ok (.value cv) w ∧ ARep g v cv ∧ isOwn v = false := by
    rintro xs hxs hin r hr hrl rfl
    obtain ⟨ad, c, e1, hV, hc⟩ := rep_rows hxr hxs
    simp only [inB, decide_eq_true_eq] at hin
    rw [e1] at hV
    cases hV with
    | slE a c => simp at hr
    | sl _ b o' c sz' cvf hc' hn hF hR =>
      have hsz : sz' = sz := by rw [← hn r (List.mem_of_getElem? hr)]; exact hrl
      subst hsz
      refine ⟨_, hrun b o' _ _ e1 hin, ?_, rfl⟩
      exact .elem r 0 b (o' + n.toNat * sz') fun q p hq => ⟨_, hF n.toNat r q p hr hq, hR n.toNat r q p hr hq⟩
  generalize hev : eo s.env x = ev at h2 hxr key
  cases ev with
  | row b q m sz' =>
    simp only [iadrV] at h2
    split at h2
    · rename_i hc
      obtain ⟨rfl, hin⟩ := hc
      cases h2
      simp only [inB, decide_eq_true_eq] at hin
      generalize hcv : a.eval y = cv at hxr
      cases hxr with
      | row b q m sz k c hb hc => exact ⟨_, hrun k q m c hcv hin, .cell b _ k hb, rfl⟩
    · cases h2
  | _ =>
    rw [iadrV_eq (by rintro _ _ _ _ ⟨⟩)] at h2
    obtain ⟨xs, h3, h4⟩ := Option.bind_eq_some_iff.1 h2
    split at h4
    · rename_i hin
      obtain ⟨r, h5, h6⟩ := Option.bind_eq_some_iff.1 h4
      split at h6
      · rename_i hrl
        cases h6
        exact key xs h3 hin r h5 hrl rfl
      · cases h6
    · cases h4

theorem sound_idxS (h : WRel X g nt s a w) {x i : Opd} {t : TypeId} {y j : Operand} (ho : o.op = .index t y j) (hI : IOK P (.idxS x i) (.index t y j)) {call : Call} {u : Upd} (hs : stepI call s (.idxS x i) = some u) : Sound P X g nt s u a w o := by
  simp only [IOK] at hI
  obtain ⟨hx, hi, hu⟩ := hI
  have hxr := h.opd hx
  simp only [stepI] at hs
  split at hs
  · rename_i l ev
    refine Sound.plainO h hs fun v hv => ?_
    obtain ⟨n, h1, h2⟩ := Option.bind_eq_some_iff.1 hv
    obtain ⟨kk, hj⟩ := rep_asI (h.opd hi) h1
    rw [ev] at hxr
    obtain ⟨bs, e1, e2⟩ := rep_str hxr
    split at h2
    · rename_i hn
      obtain ⟨b, h3, rfl⟩ := Option.map_eq_some_iff.1 h2
      refine ⟨.int .u8 (b.toNat : Int), ?_, pv_int _ _ _, rfl⟩
      have hg : bs[n.toNat]? = some b := by
        have hlt := (List.getElem?_eq_some_iff.1 h3).1
        have hsz := bytes_size e2
        subst e2
        rw [Array.getElem?_toList] at h3
        have : bs[n.toNat]? = bs.data[n.toNat]? := by
          rw [getElem?_def, getElem?_def]
          rfl
        rw [this]; exact h3
      simp [execOp, ho, e1, hj, Instr.index, asIntOf, run_underlying hu, hn, hg]
    · cases h2
  · cases hs
end Go.Proofs.YtggoaggneapneaaDoorM
