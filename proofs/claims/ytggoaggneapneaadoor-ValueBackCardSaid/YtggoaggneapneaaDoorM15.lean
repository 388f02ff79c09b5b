/-
  The mirror, part 15: the evaluator's answers grow with what it may call on: so it has one answer, and that answer obeys its own step.
-/
import Derived.Test.YtggoaggneapneaaDoorM1
set_option linter.unusedVariables false
set_option linter.unusedSimpArgs false
namespace Go.Proofs.YtggoaggneapneaaDoorM
open Go

def LeC (c c' : Call) : Prop := ∀ f args sg r, c f args sg = some r → c' f args sg = some r
def LeR (r r' : Rec) : Prop := ∀ c e sg o, r c e sg = some o → r' c e sg = some o

theorem stepI_mono {c c' : Call} (h : LeC c c') {s : St} {i : MI} {u : Upd} (e : stepI c s i = some u) : stepI c' s i = some u := by
  cases i with
  | call f args =>
    simp only [stepI] at e ⊢
    obtain ⟨x, h1, h2⟩ := Option.bind_eq_some_iff.1 e
    rw [h _ _ _ _ h1]; exact h2
  | callc f args =>
    simp only [stepI] at e ⊢
    split at e
    · rename_i hc
      rw [if_pos hc]
      obtain ⟨x, h1, h2⟩ := Option.bind_eq_some_iff.1 e
      rw [h _ _ _ _ h1]; exact h2
    · cases e
  | callv f args =>
    simp only [stepI] at e ⊢
    split at e
    · obtain ⟨x, h1, h2⟩ := Option.bind_eq_some_iff.1 e
      rw [h _ _ _ _ h1]; exact h2
    · cases e
  | _ => exact e
theorem stepO_mono {c c' : Call} (h : LeC c c') {s s' : St} {o : MOp} (e : stepO c s o = some s') : stepO c' s o = some s' := by
  unfold stepO at e ⊢
  obtain ⟨b, h1, h2⟩ := Option.bind_eq_some_iff.1 e
  rw [h1]
  simp only [Option.bind_some]
  cases b with
  | true =>
    simp only [if_true] at h2 ⊢
    obtain ⟨u, h3, h4⟩ := Option.map_eq_some_iff.1 h2
    rw [stepI_mono h h3]; simp [h4]
  | false => exact h2
theorem opsW_mono {c c' : Call} (h : LeC c c') : ∀ {l : List MOp} {s s' : St}, opsW c l s = some s' → opsW c' l s = some s'
  | [], s, s', e => e
  | o :: l, s, s', e => by
    simp only [opsW] at e ⊢
    obtain ⟨s1, h1, h2⟩ := Option.bind_eq_some_iff.1 e
    rw [stepO_mono h h1]
    exact opsW_mono h h2
theorem opsD_mono {c c' : Call} (h : LeC c c') {sg : Sig} : ∀ {l : List MOp} {e e' : Env}, opsD c sg l e = some e' → opsD c' sg l e = some e'
  | [], s, s', e => e
  | o :: l, s, s', e => by
    simp only [opsD] at e ⊢
    obtain ⟨s1, h1, h2⟩ := Option.bind_eq_some_iff.1 e
    rw [stepO_mono h h1]
    exact opsD_mono h h2
theorem callW_mono {M : Mach} {r r' : Rec} (h : LeR r r') : LeC (callW M r) (callW M r') := by
  intro f args sg o e
  unfold callW at e ⊢
  cases hg : M.lib f with
  | some g => simp only [hg] at e ⊢; exact e
  | none =>
    simp only [hg] at e ⊢
    cases hgi : M.libI f with
    | some g => simp only [hgi] at e ⊢; exact e
    | none =>
    simp only [hgi] at e ⊢
    cases hm : M.fn f with
    | none => simp only [hm] at e; cases e
    | some mf =>
      simp only [hm] at e ⊢
      split at e
      · rename_i hl
        rw [if_pos hl]
        obtain ⟨⟨x, e1, sg1⟩, h1, h2⟩ := Option.bind_eq_some_iff.1 e
        rw [h _ _ _ _ h1]; exact h2
      · cases e
theorem exStep_mono {M : Mach} {r r' : Rec} (h : LeR r r') : LeR (exStep M r) (exStep M r') := by
  intro c env sg o e
  cases c with
  | skip => exact e
  | no => exact e
  | exit id => exact e
  | ret => exact e
  | mlit m m2 m3 kvs keep => exact e
  | reg ops keep =>
    simp only [exStep] at e ⊢
    obtain ⟨s, h1, h2⟩ := Option.map_eq_some_iff.1 e
    rw [opsW_mono (callW_mono h) h1]; simp [h2]
  | draw ops rk keep =>
    simp only [exStep] at e ⊢
    obtain ⟨s, h1, h2⟩ := Option.map_eq_some_iff.1 e
    rw [opsD_mono (callW_mono h) h1]; simp [h2]
  | loud ops ord rk keep =>
    simp only [exStep] at e ⊢
    obtain ⟨s, h1, h2⟩ := Option.map_eq_some_iff.1 e
    rw [opsW_mono (callW_mono h) h1]; simp [h2]
  | seq a b =>
    simp only [exStep] at e ⊢
    obtain ⟨⟨x, e1, sg1⟩, h1, h2⟩ := Option.bind_eq_some_iff.1 e
    rw [h _ _ _ _ h1]
    simp only [Option.bind_some] at h2 ⊢
    cases x with
    | nrm => exact h _ _ _ _ h2
    | ext i => exact h2
    | ret => exact h2
  | cond c a b =>
    simp only [exStep] at e ⊢
    unfold condB at e ⊢
    split at e
    · rename_i t ht
      cases t with
      | true => exact h _ _ _ _ e
      | false => exact h _ _ _ _ e
    · cases e
  | block id b =>
    simp only [exStep] at e ⊢
    obtain ⟨x, h1, h2⟩ := Option.map_eq_some_iff.1 e
    rw [h _ _ _ _ h1]; simp [h2]
  | loop b =>
    simp only [exStep] at e ⊢
    obtain ⟨⟨x, e1, sg1⟩, h1, h2⟩ := Option.bind_eq_some_iff.1 e
    rw [h _ _ _ _ h1]
    simp only [Option.bind_some] at h2 ⊢
    cases x with
    | nrm => exact h _ _ _ _ h2
    | ext i => exact h2
    | ret => exact h2
  | kp b keep =>
    simp only [exStep] at e ⊢
    obtain ⟨x, h1, h2⟩ := Option.map_eq_some_iff.1 e
    rw [h _ _ _ _ h1]; simp [h2]

/-- What the evaluator comes to. -/
inductive Ex (M : Mach) : MC → Env → Sig → Out → Prop where
  | mk (rec : Rec) (c : MC) (e : Env) (sg : Sig) (o : Out) (hr : ∀ c e sg o, rec c e sg = some o → Ex M c e sg o) (h : exStep M rec c e sg = some o) : Ex M c e sg o

theorem Ex.det {M : Mach} {c : MC} {e : Env} {sg : Sig} {o : Out} (h : Ex M c e sg o) : ∀ {o'}, Ex M c e sg o' → o = o' := by
  induction h with
  | mk rec c e sg o hr hs ih =>
    intro o' h'
    cases h' with
    | mk rec' _ _ _ _ hr' hs' =>
      let j : Rec := fun c e sg => match rec c e sg with
        | some o => some o
        | none => rec' c e sg
      have h1 : LeR rec j := by
        intro c e sg o h
        show (match rec c e sg with | some o => some o | none => rec' c e sg) = some o
        rw [h]
      have h2 : LeR rec' j := by
        intro c e sg o h
        show (match rec c e sg with | some o => some o | none => rec' c e sg) = some o
        cases hh : rec c e sg with
        | none => exact h
        | some o1 => rw [ih _ _ _ _ hh (hr' _ _ _ _ h)]
      have h3 := exStep_mono (M := M) h1 _ _ _ _ hs
      have h4 := exStep_mono (M := M) h2 _ _ _ _ hs'
      rw [h3] at h4
      injection h4

open Classical in
/-- The evaluator. -/
noncomputable def ex (M : Mach) : Rec := fun c e sg => if h : ∃ o, Ex M c e sg o then some h.choose else none
theorem ex_iff {M : Mach} {c : MC} {e : Env} {sg : Sig} {o : Out} : ex M c e sg = some o ↔ Ex M c e sg o := by
  unfold ex
  constructor
  · intro h
    split at h
    · rename_i hh
      injection h with h
      rw [← h]; exact hh.choose_spec
    · cases h
  · intro h
    have hh : ∃ o, Ex M c e sg o := ⟨o, h⟩
    rw [dif_pos hh]
    rw [(Ex.det h hh.choose_spec)]
theorem ex_fix (M : Mach) (c : MC) (e : Env) (sg : Sig) : ex M c e sg = exStep M (ex M) c e sg := by
  cases h : exStep M (ex M) c e sg with
  | some o => exact ex_iff.2 (.mk (ex M) c e sg o (fun _ _ _ _ h => ex_iff.1 h) h)
  | none =>
    cases h' : ex M c e sg with
    | none => rfl
    | some o =>
      have := ex_iff.1 h'
      cases this with
      | mk rec _ _ _ _ hr hs =>
        have := exStep_mono (M := M) (r := rec) (r' := ex M) (fun _ _ _ _ h => ex_iff.2 (hr _ _ _ _ h)) _ _ _ _ hs
        rw [this] at h; cases h
theorem exN_le (M : Mach) : ∀ n, LeR (exN M n) (ex M)
  | 0 => fun c e sg o h => by cases h
  | n + 1 => fun c e sg o h => by
    rw [ex_fix]
    exact exStep_mono (exN_le M n) _ _ _ _ h
noncomputable def acall (M : Mach) : Call := callW M (ex M)
theorem callN_le (M : Mach) (n : Nat) : LeC (callN M n) (acall M) := callW_mono (exN_le M n)

theorem ex_skip {M : Mach} {e : Env} {sg : Sig} : ex M .skip e sg = some (.nrm, e, sg) := by rw [ex_fix]; rfl
theorem ex_exit {M : Mach} {e : Env} {sg : Sig} {id : Nat} : ex M (.exit id) e sg = some (.ext id, e, sg) := by rw [ex_fix]; rfl
theorem ex_ret {M : Mach} {e : Env} {sg : Sig} : ex M .ret e sg = some (.ret, e, sg) := by rw [ex_fix]; rfl
theorem ex_reg {M : Mach} {e : Env} {sg : Sig} {ops : List MOp} {keep : List Nat} : ex M (.reg ops keep) e sg = (opsW (acall M) ops { env := e, sg, pr := [] }).map fun s => (.nrm, restrict s.env keep, s.sg) := by rw [ex_fix]; rfl
theorem ex_draw {M : Mach} {e : Env} {sg : Sig} {ops : List MOp} {rk keep : List Nat} : ex M (.draw ops rk keep) e sg = (opsD (acall M) sg ops e).map fun e => (.nrm, restrict e keep, sg) := by rw [ex_fix]; rfl
theorem ex_loud {M : Mach} {e : Env} {sg : Sig} {ops : List MOp} {ord rk keep : List Nat} : ex M (.loud ops ord rk keep) e sg = (opsW (acall M) (inOrd ops ord) { env := e, sg, pr := [] }).map fun s => (.nrm, restrict s.env keep, s.sg) := by rw [ex_fix]; rfl
theorem ex_mlit {M : Mach} {e : Env} {sg : Sig} {m m2 m3 : Nat} {kvs : List (List UInt8 × Int)} {keep : List Nat} : ex M (.mlit m m2 m3 kvs keep) e sg = some (.nrm, restrict (put (put (put e m (.mapc kvs)) m2 (.mapc kvs)) m3 (.mapc kvs)) keep, sg) := by rw [ex_fix]; rfl
theorem ex_seq {M : Mach} {e : Env} {sg : Sig} {a b : MC} : ex M (.seq a b) e sg = (ex M a e sg).bind fun o => if isNrm o.1 then ex M b o.2.1 o.2.2 else some o := by rw [ex_fix]; rfl
theorem ex_cond {M : Mach} {e : Env} {sg : Sig} {c : Opd} {a b : MC} : ex M (.cond c a b) e sg = condB (eo e c) (ex M a e sg) (ex M b e sg) := by rw [ex_fix]; rfl
theorem ex_block {M : Mach} {e : Env} {sg : Sig} {id : Nat} {b : MC} : ex M (.block id b) e sg = (ex M b e sg).map fun o => (outOf id o.1, o.2.1, o.2.2) := by rw [ex_fix]; rfl
theorem ex_loop {M : Mach} {e : Env} {sg : Sig} {b : MC} : ex M (.loop b) e sg = (ex M b e sg).bind fun o => if isNrm o.1 then ex M (.loop b) o.2.1 o.2.2 else some o := by rw [ex_fix]; rfl
theorem ex_kp {M : Mach} {e : Env} {sg : Sig} {b : MC} {keep : List Nat} : ex M (.kp b keep) e sg = (ex M b e sg).map fun o => (o.1, if isNrm o.1 then restrict o.2.1 keep else o.2.1, o.2.2) := by rw [ex_fix]; rfl
end Go.Proofs.YtggoaggneapneaaDoorM
