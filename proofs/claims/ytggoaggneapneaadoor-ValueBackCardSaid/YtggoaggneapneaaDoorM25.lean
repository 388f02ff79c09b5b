/-
  The mirror, part 25: two operations of a region that may be swapped.
-/
import Derived.Test.YtggoaggneapneaaDoorM24
set_option linter.unusedVariables false
set_option linter.unusedSimpArgs false
namespace Go.Proofs.YtggoaggneapneaaDoorM
open Go
variable {sg : Sig} {M : Mach} {rec : Rec}

def Uq (l : List (Nat × Home)) : Prop := ∀ k h h', (k, h) ∈ l → (k, h') ∈ l → h = h'
theorem mem_lookP {l : List (Nat × Home)} {k : Nat} {h : Home} (hm : (k, h) ∈ l) : ∃ h', lookP l k = some h' := by
  induction l with
  | nil => cases hm
  | cons x l ih =>
    obtain ⟨k', v⟩ := x
    simp only [lookP]
    split
    · exact ⟨v, rfl⟩
    · rename_i hne
      rcases List.mem_cons.1 hm with e | e
      · cases e; exact absurd rfl hne
      · exact ih e
theorem lookP_iff {l : List (Nat × Home)} (hu : Uq l) {k : Nat} {h : Home} : lookP l k = some h ↔ (k, h) ∈ l := by
  refine ⟨lookP_mem, fun hm => ?_⟩
  obtain ⟨h', e⟩ := mem_lookP hm
  rw [e, hu k h h' hm (lookP_mem e)]
theorem mem_provPut {l : List (Nat × Home)} {d : Nat} {p : Option Home} {x : Nat × Home} : x ∈ provPut l d p ↔ (∃ h, p = some h ∧ h ≠ .slot d ∧ x = (d, h)) ∨ (x ∈ l ∧ x.1 ≠ d ∧ x.2 ≠ .slot d) := by
  obtain ⟨k, v⟩ := x
  unfold provPut
  cases p with
  | none =>
    simp only [mem_noSlot]
    constructor
    · exact fun h => .inr h
    · rintro (⟨h, e, _⟩ | h)
      · cases e
      · exact h
  | some h0 =>
    simp only
    split
    · rename_i e
      subst e
      rw [mem_noSlot]
      constructor
      · exact fun h => .inr h
      · rintro (⟨h, e, h1, _⟩ | h)
        · cases e; exact absurd rfl h1
        · exact h
    · rename_i hne
      rw [List.mem_cons, mem_noSlot]
      constructor
      · rintro (e | h)
        · cases e; exact .inl ⟨_, rfl, hne, rfl⟩
        · exact .inr h
      · rintro (⟨h, e, h1, e2⟩ | h)
        · cases e; cases e2; exact .inl rfl
        · exact .inr h
theorem uq_provPut {l : List (Nat × Home)} (hu : Uq l) (d : Nat) (p : Option Home) : Uq (provPut l d p) := by
  intro k h h' h1 h2
  rw [mem_provPut] at h1 h2
  rcases h1 with ⟨g, rfl, _, e1⟩ | ⟨h1, h3, _⟩
  · rcases h2 with ⟨g', e, _, e2⟩ | ⟨_, h4, _⟩
    · cases e; cases e1; cases e2; rfl
    · cases e1; exact absurd rfl h4
  · rcases h2 with ⟨g', _, _, e2⟩ | ⟨h2, _, _⟩
    · cases e2; exact absurd rfl h3
    · exact hu k h h' h1 h2
theorem uq_noCell {l : List (Nat × Home)} (hu : Uq l) : Uq (noCell l) := fun k h h' h1 h2 => hu k h h' (mem_noCell h1).1 (mem_noCell h2).1
theorem mem_noCell_iff {l : List (Nat × Home)} {k : Nat} {h : Home} : (k, h) ∈ noCell l ↔ (k, h) ∈ l ∧ ∃ t, h = .slot t := by
  refine ⟨mem_noCell, ?_⟩
  rintro ⟨h1, t, rfl⟩
  unfold noCell
  rw [List.mem_filter]
  exact ⟨h1, rfl⟩

theorem dem_dem (a : AV) : dem (dem a) = dem a := by cases a <;> rfl
theorem get_demSlots : ∀ (l : List Nat) (e : Env) (t : Nat), get (demSlots e l) t = if t ∈ l then dem (get e t) else get e t
  | [], e, t => by simp [demSlots]
  | k :: l, e, t => by
    simp only [demSlots]
    rw [get_demSlots l, get_put]
    by_cases hk : k = t
    · subst hk
      simp only [if_true, dem_dem, List.mem_cons, true_or]
      split <;> rfl
    · simp only [if_neg hk, List.mem_cons, Ne.symm hk, false_or]
theorem get_applyU (s : St) (d : Option Nat) (u : Upd) (t : Nat) : get (applyU s d u).env t = if d = some t then u.v else if t ∈ u.dm then dem (get s.env t) else get s.env t := by
  unfold applyU
  cases d with
  | none => simp [get_demSlots]
  | some k =>
    simp only [get_put, get_demSlots, Option.some.injEq]
theorem sg_applyU (s : St) (d : Option Nat) (u : Upd) : (applyU s d u).sg = u.sg := by cases d <;> rfl
theorem pr_applyU (s : St) (d : Option Nat) (u : Upd) : (applyU s d u).pr = match d with
    | some d => provPut (if u.cl then noCell s.pr else s.pr) d u.p
    | none => if u.cl then noCell s.pr else s.pr := by cases d <;> rfl
theorem uq_applyU {s : St} (hu : Uq s.pr) (d : Option Nat) (u : Upd) : Uq (applyU s d u).pr := by
  have h1 : Uq (if u.cl then noCell s.pr else s.pr) := by
    split
    · exact uq_noCell hu
    · exact hu
  rw [pr_applyU]
  cases d with
  | none => exact h1
  | some d => exact uq_provPut h1 d u.p

/-- States that tell the same. -/
structure Eqv (s t : St) : Prop where
  get : ∀ k, Go.Proofs.YtggoaggneapneaaDoorM.get s.env k = Go.Proofs.YtggoaggneapneaaDoorM.get t.env k
  sg : s.sg = t.sg
  pr : ∀ x, x ∈ s.pr ↔ x ∈ t.pr

/-- Which homes of copies an instruction asks for. -/
def asks : MI → Home → Prop
  | .appS _ _ _ _ hm, h => h = .slot hm
  | .appC _ _ _ _, h => ∃ b o, h = .cell b o
  | _, _ => False
theorem homeOf_keep {e : Env} {pr pr' : List (Nat × Home)} {x : Opd} {h : Home} (hp : ∀ k ∈ useO x, lookP pr k = some h → lookP pr' k = some h) (hh : homeOf { env := e, sg, pr } x = some h) : homeOf { env := e, sg, pr := pr' } x = some h := by
  cases x with
  | c v => cases hh
  | t n =>
    simp only [homeOf] at hh ⊢
    split
    · rename_i ho; rw [if_pos ho] at hh; exact hh
    · rename_i ho; rw [if_neg ho] at hh; exact hp n (by simp [useO]) hh
theorem appV_pr {e : Env} {pr pr' : List (Nat × Home)} {sz bytes : Nat} {x : Opd} {ys : List (List PV)} (h : isNils (eo e x) = true ∨ homeOf { env := e, sg, pr } x = homeOf { env := e, sg, pr := pr' } x) :
    appV { env := e, sg, pr } sz bytes x ys = appV { env := e, sg, pr := pr' } sz bytes x ys := by
  unfold appV
  rcases h with h | h
  · cases hv : eo e x <;> simp [hv, isNils] at h
    simp only [hv]
  · simp only [h]
    rfl
theorem loud_pr {call : Call} {i : MI} (h9 : memI M i ≠ 9) {e : Env} {pr pr' : List (Nat × Home)} (hp : ∀ k ∈ usesI i, ∀ h, asks i h → lookP pr k = some h → lookP pr' k = some h) {u : Upd} (h : stepI call { env := e, sg, pr } i = some u) :
    stepI call { env := e, sg, pr := pr' } i = some u := by
  cases i with
  | mov x => simp [memI] at h9
  | app sz bytes x y => simp [memI] at h9
  | appS sz bytes x y hm =>
    simp only [stepI] at h ⊢
    split at h
    · rename_i hc
      unfold homeS at hc
      simp only [Bool.or_eq_true, decide_eq_true_eq] at hc
      have key : isNils (eo e x) = true ∨ homeOf { env := e, sg, pr } x = homeOf { env := e, sg, pr := pr' } x := by
        rcases hc with hc | hc
        · exact .inl hc
        · refine .inr ?_
          rw [hc, homeOf_keep (fun k hk => hp k (by simp [usesI, hk]) _ rfl) hc]
      have hc' : homeS { env := e, sg, pr := pr' } x hm = true := by
        unfold homeS
        simp only [Bool.or_eq_true, decide_eq_true_eq]
        rcases hc with hc | hc
        · exact .inl hc
        · exact .inr (homeOf_keep (fun k hk => hp k (by simp [usesI, hk]) _ rfl) hc)
      rw [if_pos hc']
      obtain ⟨ys, h1, h2⟩ := Option.bind_eq_some_iff.1 h
      rw [h1]
      simp only [Option.bind_some]
      rw [← appV_pr key]; exact h2
    · cases h
  | appC sz bytes x y =>
    simp only [stepI] at h ⊢
    split at h
    · rename_i hc
      unfold homeC at hc
      simp only [Bool.or_eq_true] at hc
      have hk : isNils (eo e x) = true ∨ ∃ b o, homeOf { env := e, sg, pr } x = some (.cell b o) ∧ homeOf { env := e, sg, pr := pr' } x = some (.cell b o) := by
        rcases hc with hc | hc
        · exact .inl hc
        · refine .inr ?_
          split at hc
          · rename_i b o hh
            exact ⟨b, o, hh, homeOf_keep (fun k hk => hp k (by simp [usesI, hk]) _ ⟨b, o, rfl⟩) hh⟩
          · cases hc
      have hc' : homeC { env := e, sg, pr := pr' } x = true := by
        unfold homeC
        simp only [Bool.or_eq_true]
        rcases hk with hk | ⟨b, o, _, hk⟩
        · exact .inl hk
        · exact .inr (by rw [hk])
      rw [if_pos hc']
      obtain ⟨ys, h1, h2⟩ := Option.bind_eq_some_iff.1 h
      rw [h1]
      simp only [Option.bind_some]
      rw [← appV_pr (pr := pr) (hk.imp id fun ⟨b, o, h3, h4⟩ => by rw [h3, h4])]; exact h2
    · cases h
  | movd x => cases x <;> exact h
  | _ => exact h

theorem memI_cases (M : Mach) (i : MI) : memI M i = 0 ∨ memI M i = 1 ∨ memI M i = 2 ∨ memI M i = 9 := by
  cases i with
  | conv k x => cases k <;> simp [memI]
  | call f args => simp only [memI]; split <;> simp
  | callc f args => simp only [memI]; split <;> simp
  | _ => simp [memI]
def isLd : MI → Bool
  | .load _ _ _ => true
  | .loadd _ _ _ => true
  | _ => false
def isAl : MI → Bool
  | .alloc _ => true
  | _ => false
theorem loadV_ext {sg : Sig} {agg : Bool} {sz : Nat} {v : AV} {cs z : List AV} (h : loadV sg agg sz v = some cs) : loadV { sg with bl := sg.bl ++ [z] } agg sz v = some cs := by
  cases v with
  | cell b o =>
    simp only [loadV] at h ⊢
    cases hb : sg.bl[b]? with
    | none => rw [hb] at h; cases h
    | some l =>
      rw [hb] at h
      rw [List.getElem?_append_left (List.getElem?_eq_some_iff.1 hb).1, hb]
      exact h
  | elem r o => exact h
  | _ => cases h
theorem load_ext {i : MI} (hl : isLd i = true) {call : Call} {e : Env} {sg : Sig} {pr : List (Nat × Home)} {z : List AV} {u : Upd} (h : stepI call { env := e, sg, pr } i = some u) :
    stepI call { env := e, sg := { sg with bl := sg.bl ++ [z] }, pr } i = some { u with sg := { sg with bl := sg.bl ++ [z] } } := by
  cases i with
  | load agg sz a =>
    simp only [stepI] at h ⊢
    obtain ⟨cs, h1, h⟩ := Option.bind_eq_some_iff.1 h
    obtain ⟨v, h2, h⟩ := Option.bind_eq_some_iff.1 h
    rw [loadV_ext h1]
    simp only [Option.bind_some, h2]
    injection h with h
    subst h
    congr 1
    simp only [Upd.mk.injEq, true_and, and_true]
    cases agg with
    | true => rfl
    | false =>
    cases ha : eo e a with
    | cell b o =>
      simp only
      have hc : cellAt { sg with bl := sg.bl ++ [z] } b o = cellAt sg b o := by
        simp only [loadV, ha] at h1
        simp only [cellAt]
        cases hb : sg.bl[b]? with
        | none => rw [hb] at h1; cases h1
        | some l => rw [List.getElem?_append_left (List.getElem?_eq_some_iff.1 hb).1, hb]
      rw [hc]
    | _ => rfl
  | loadd agg sz a =>
    simp only [stepI] at h ⊢
    obtain ⟨cs, h1, h⟩ := Option.bind_eq_some_iff.1 h
    obtain ⟨v, h2, h⟩ := Option.bind_eq_some_iff.1 h
    rw [loadV_ext h1]
    simp only [Option.bind_some, h2]
    exact plain_free h _
  | _ => cases hl
theorem loud_move {i : MI} (h9 : memI M i ≠ 9) {s t : St} (hg : ∀ k ∈ usesI i, get s.env k = get t.env k) (hp : ∀ k ∈ usesI i, ∀ h, asks i h → lookP s.pr k = some h → lookP t.pr k = some h) (hm : memI M i = 0 ∨ s.sg = t.sg ∨ (isLd i = true ∧ ∃ z, t.sg = { s.sg with bl := s.sg.bl ++ [z] })) {u : Upd}
    (h : stepI (callW M rec) s i = some u) : stepI (callW M rec) t i = some { u with sg := if memI M i = 2 then u.sg else t.sg } := by
  obtain ⟨e, sg, pr⟩ := s
  obtain ⟨e', sg', pr'⟩ := t
  have h1 := loud_pr h9 hp h
  rw [loud_congr (pr := pr') (pr' := pr') h9 hg (fun k _ => rfl)] at h1
  rcases hm with h0 | hs | ⟨hl, z, hz⟩
  · have := loud_free h0 h1 sg'
    rw [this, if_neg (by rw [h0]; decide)]
  · simp only at hs
    subst hs
    rw [h1]
    congr 1
    rcases memI_cases M i with h2 | h2 | h2 | h2
    · rw [if_neg (by rw [h2]; decide)]
      have := loud_sg (.inl h2) h1
      simp only at this ⊢
      rw [← this]
    · rw [if_neg (by rw [h2]; decide)]
      have := loud_sg (.inr h2) h1
      simp only at this ⊢
      rw [← this]
    · rw [if_pos h2]
    · exact absurd h2 h9
  · simp only at hz
    subst hz
    have := load_ext (z := z) hl h1
    rw [this, if_neg]
    cases i <;> first | (cases hl; done) | simp [memI]

/-- An operation's whole doing. -/
def updO (call : Call) (s : St) (m : MOp) : Option Upd := (wantedM s.env m.g).bind fun w => if w then stepI call s m.i else some { v := .tup [], p := none, dm := [], sg := s.sg, cl := false }
theorem stepO_upd (call : Call) (s : St) (m : MOp) : stepO call s m = (updO call s m).map (applyU s m.dst) := by
  unfold stepO updO
  cases wantedM s.env m.g with
  | none => rfl
  | some w => cases w <;> rfl
theorem wanted_congr {e e' : Env} {m : MOp} (h : ∀ k ∈ usesO m, get e k = get e' k) : wantedM e m.g = wantedM e' m.g := by
  cases hg : m.g with
  | none => rfl
  | some x =>
    obtain ⟨t, b⟩ := x
    simp only [wantedM]
    rw [h t (by simp [usesO, hg])]
theorem updO_move {m : MOp} (h9 : memI M m.i ≠ 9) {s t : St} (hg : ∀ k ∈ usesO m, get s.env k = get t.env k) (hp : ∀ k ∈ usesI m.i, ∀ h, asks m.i h → lookP s.pr k = some h → lookP t.pr k = some h) (hm : memI M m.i = 0 ∨ s.sg = t.sg ∨ (isLd m.i = true ∧ m.g = none ∧ ∃ z, t.sg = { s.sg with bl := s.sg.bl ++ [z] })) {u : Upd}
    (h : updO (callW M rec) s m = some u) : updO (callW M rec) t m = some { u with sg := if memI M m.i = 2 then u.sg else t.sg } := by
  unfold updO at h ⊢
  rw [← wanted_congr hg]
  obtain ⟨w, h1, h2⟩ := Option.bind_eq_some_iff.1 h
  rw [h1]
  simp only [Option.bind_some]
  cases w with
  | true =>
    simp only [if_true] at h2 ⊢
    exact loud_move h9 (fun k hk => hg k (by simp [usesO, hk])) hp (hm.imp id fun x => x.imp id fun y => ⟨y.1, y.2.2⟩) h2
  | false =>
    simp only [Bool.false_eq_true, if_false] at h2 ⊢
    cases h2
    congr 1
    rcases hm with h0 | hs | ⟨_, hg, _⟩
    · rw [if_neg (by rw [h0]; decide)]
    · rw [hs]; split <;> rfl
    · rw [hg] at h1; cases h1
theorem updO_foot {m : MOp} (h9 : memI M m.i ≠ 9) {call : Call} {s : St} {u : Upd} (h : updO call s m = some u) : Foot m.i u := by
  unfold updO at h
  obtain ⟨w, _, h2⟩ := Option.bind_eq_some_iff.1 h
  cases w with
  | true => exact loud_foot h9 h2
  | false =>
    simp only [Bool.false_eq_true, if_false] at h2
    cases h2
    exact ⟨fun k hk => (by simp at hk), fun n e => (by cases e), fun b o e => (by cases e), fun e => (by cases e)⟩
theorem updO_sg {m : MOp} (h1 : memI M m.i = 0 ∨ memI M m.i = 1) {s : St} {u : Upd} (h : updO (callW M rec) s m = some u) : u.sg = s.sg := by
  unfold updO at h
  obtain ⟨w, _, h2⟩ := Option.bind_eq_some_iff.1 h
  cases w with
  | true => exact loud_sg h1 h2
  | false =>
    simp only [Bool.false_eq_true, if_false] at h2
    cases h2; rfl

theorem mem_pr {s : St} {d : Option Nat} {u : Upd} {x : Nat × Home} : x ∈ (applyU s d u).pr ↔
    (∃ k h, d = some k ∧ u.p = some h ∧ h ≠ .slot k ∧ x = (k, h)) ∨ (x ∈ s.pr ∧ (u.cl = true → ∃ t, x.2 = .slot t) ∧ ∀ k, d = some k → x.1 ≠ k ∧ x.2 ≠ .slot k) := by
  have hC : x ∈ (if u.cl then noCell s.pr else s.pr) ↔ x ∈ s.pr ∧ (u.cl = true → ∃ t, x.2 = .slot t) := by
    obtain ⟨k, h⟩ := x
    cases u.cl with
    | true => simp only [if_true, mem_noCell_iff, true_implies]
    | false => simp
  rw [pr_applyU]
  cases d with
  | none =>
    simp only [hC]
    constructor
    · rintro ⟨h1, h2⟩; exact .inr ⟨h1, h2, fun k e => by cases e⟩
    · rintro (⟨k, h, e, _⟩ | ⟨h1, h2, _⟩)
      · cases e
      · exact ⟨h1, h2⟩
  | some d =>
    simp only [mem_provPut, hC]
    constructor
    · rintro (⟨h, h1, h2, h3⟩ | ⟨⟨h1, h2⟩, h3, h4⟩)
      · exact .inl ⟨d, h, rfl, h1, h2, h3⟩
      · exact .inr ⟨h1, h2, fun k e => by cases e; exact ⟨h3, h4⟩⟩
    · rintro (⟨k, h, e, h1, h2, h3⟩ | ⟨h1, h2, h3⟩)
      · cases e; exact .inl ⟨h, h1, h2, h3⟩
      · obtain ⟨h4, h5⟩ := h3 d rfl
        exact .inr ⟨⟨h1, h2⟩, h4, h5⟩

def wrO (m : MOp) : List Nat := (match m.dst with
  | some d => [d]
  | none => []) ++ takesI m.i
def isAppC : MI → Bool
  | .appC _ _ _ _ => true
  | _ => false
structure Comm (M : Mach) (m1 m2 : MOp) : Prop where
  n1 : memI M m1.i ≠ 9
  n2 : memI M m2.i ≠ 9
  d12 : ∀ k ∈ wrO m1, k ∉ usesO m2 ∧ k ∉ wrO m2
  d21 : ∀ k ∈ wrO m2, k ∉ usesO m1
  mem : memI M m1.i = 0 ∨ memI M m2.i = 0 ∨ (memI M m1.i = 1 ∧ memI M m2.i = 1) ∨ (isLd m1.i = true ∧ m1.g = none ∧ isAl m2.i = true ∧ m2.g = none)
  c1 : isCl m1.i = true → isLoadP m2.i = false ∧ isAppC m2.i = false
  c2 : isCl m2.i = true → isLoadP m1.i = false ∧ isAppC m1.i = false
theorem isLd_mem {i : MI} (h : isLd i = true) : memI M i = 1 := by cases i <;> first | (cases h; done) | rfl
theorem isAl_mem {i : MI} (h : isAl i = true) : memI M i = 2 := by cases i <;> first | (cases h; done) | rfl
theorem isAl_sg {m : MOp} (h : isAl m.i = true) (hg : m.g = none) {call : Call} {s : St} {u : Upd} (e : updO call s m = some u) : ∃ z, u.sg = { s.sg with bl := s.sg.bl ++ [z] } := by
  obtain ⟨d, g, i⟩ := m
  simp only at h hg
  subst hg
  cases i with
  | alloc z =>
    simp only [updO, wantedM, Option.bind_some, if_true, stepI, plain] at e
    cases e
    exact ⟨z, rfl⟩
  | _ => cases h
theorem dst_wr {m : MOp} {k : Nat} (h : m.dst = some k) : k ∈ wrO m := by simp [wrO, h]
theorem takes_wr {m : MOp} {k : Nat} (h : k ∈ takesI m.i) : k ∈ wrO m := by simp [wrO, h]
theorem get_away {s : St} {m : MOp} {u : Upd} (hf : Foot m.i u) {k : Nat} (h : k ∉ wrO m) : get (applyU s m.dst u).env k = get s.env k := by
  rw [get_applyU, if_neg fun e => h (dst_wr e), if_neg fun e => h (takes_wr (hf.dm k e))]
theorem asks_cell {i : MI} {h : Home} (ha : asks i h) : (∃ n, h = .slot n ∧ n ∈ usesI i) ∨ (isAppC i = true ∧ ∃ b o, h = .cell b o) := by
  cases i with
  | appS sz bytes x y hm => simp only [asks] at ha; subst ha; exact .inl ⟨hm, rfl, by simp [usesI]⟩
  | appC sz bytes x y => simp only [asks] at ha; exact .inr ⟨rfl, ha⟩
  | _ => exact ha.elim

theorem swap_ops {m1 m2 : MOp} (hc : Comm M m1 m2) {s s1 s2 : St} (hu : Uq s.pr) (h1 : stepO (callW M rec) s m1 = some s1) (h2 : stepO (callW M rec) s1 m2 = some s2) :
    ∃ t1 t2, stepO (callW M rec) s m2 = some t1 ∧ stepO (callW M rec) t1 m1 = some t2 ∧ Eqv s2 t2 := by
  rw [stepO_upd] at h1 h2
  obtain ⟨u1, e1, rfl⟩ := Option.map_eq_some_iff.1 h1
  obtain ⟨u2, e2, rfl⟩ := Option.map_eq_some_iff.1 h2
  have f1 := updO_foot hc.n1 e1
  have f2 := updO_foot hc.n2 e2
  have q1 : Uq (applyU s m1.dst u1).pr := uq_applyU hu _ _
  have hs1 : memI M m2.i = 0 ∨ (applyU s m1.dst u1).sg = s.sg := by
    rw [sg_applyU]
    rcases hc.mem with h | h | h | h
    · exact .inr (updO_sg (.inl h) e1)
    · exact .inl h
    · exact .inr (updO_sg (.inr h.1) e1)
    · exact .inr (updO_sg (.inr (isLd_mem h.1)) e1)
  have e3 := updO_move (t := s) hc.n2 (fun k hk => get_away f1 fun h => (hc.d12 k h).1 hk) (fun k hk h _ hl => by
    rw [lookP_iff q1, mem_pr] at hl
    rw [lookP_iff hu]
    rcases hl with ⟨d, h', e, _, _, e'⟩ | ⟨hm, _, _⟩
    · cases e'
      exact absurd (by simp [usesO, hk]) (hc.d12 k (dst_wr e)).1
    · exact hm) (hs1.imp id .inl) e2
  generalize ha2 : ({ u2 with sg := if memI M m2.i = 2 then u2.sg else s.sg } : Upd) = a2 at e3
  have f2' : Foot m2.i a2 := updO_foot hc.n2 e3
  have q2 : Uq (applyU s m2.dst a2).pr := uq_applyU hu _ _
  have hs2 : memI M m1.i = 0 ∨ s.sg = (applyU s m2.dst a2).sg ∨ (isLd m1.i = true ∧ m1.g = none ∧ ∃ z, (applyU s m2.dst a2).sg = { s.sg with bl := s.sg.bl ++ [z] }) := by
    rw [sg_applyU]
    rcases hc.mem with h | h | h | h
    · exact .inl h
    · exact .inr (.inl (updO_sg (.inl h) e3).symm)
    · exact .inr (.inl (updO_sg (.inr h.2) e3).symm)
    · exact .inr (.inr ⟨h.1, h.2.1, isAl_sg h.2.2.1 h.2.2.2 e3⟩)
  have e4 := updO_move (t := applyU s m2.dst a2) hc.n1 (fun k hk => (get_away f2' fun h => hc.d21 k h hk).symm) (fun k hk h ha hl => by
    rw [lookP_iff hu] at hl
    rw [lookP_iff q2, mem_pr]
    refine .inr ⟨hl, fun hcl => ?_, fun d hd => ⟨?_, ?_⟩⟩
    · rcases asks_cell ha with ⟨n, rfl, _⟩ | ⟨hap, _⟩
      · exact ⟨n, rfl⟩
      · have := (hc.c2 (f2'.cl hcl)).2
        rw [hap] at this; cases this
    · rintro rfl
      exact hc.d21 _ (dst_wr hd) (by simp [usesO, hk])
    · rcases asks_cell ha with ⟨n, rfl, hn⟩ | ⟨_, b, o, rfl⟩
      · intro e
        cases e
        exact hc.d21 _ (dst_wr hd) (by simp [usesO, hn])
      · intro e; cases e) hs2 e1
  generalize ha1 : ({ u1 with sg := if memI M m1.i = 2 then u1.sg else (applyU s m2.dst a2).sg } : Upd) = a1 at e4
  have f1' : Foot m1.i a1 := updO_foot hc.n1 e4
  refine ⟨_, _, by rw [stepO_upd, e3]; rfl, by rw [stepO_upd, e4]; rfl, ?_, ?_, ?_⟩
  · intro k
    have v2 : a2.v = u2.v := by rw [← ha2]
    have v1 : a1.v = u1.v := by rw [← ha1]
    have d2 : a2.dm = u2.dm := by rw [← ha2]
    have d1 : a1.dm = u1.dm := by rw [← ha1]
    by_cases h1 : k ∈ wrO m1
    · have h2 := (hc.d12 k h1).2
      rw [get_away f2 h2, get_applyU s m1.dst, get_applyU _ m1.dst, get_away f2' h2, v1, d1]
    · rw [get_away f1' h1, get_applyU _ m2.dst, get_applyU s m2.dst, get_away f1 h1, v2, d2]
  · rw [sg_applyU, sg_applyU, ← ha1]
    simp only [sg_applyU]
    rw [← ha2]
    simp only
    have g1 : memI M m1.i = 0 ∨ memI M m1.i = 1 → u1.sg = s.sg := fun h => updO_sg h e1
    have g2 : memI M m2.i = 0 ∨ memI M m2.i = 1 → u2.sg = u1.sg := fun h => by have := updO_sg h e2; rw [sg_applyU] at this; exact this
    have n1 := hc.n1
    have n2 := hc.n2
    have hm := hc.mem
    have hla : (isLd m1.i = true ∧ m1.g = none ∧ isAl m2.i = true ∧ m2.g = none) → memI M m1.i = 1 ∧ memI M m2.i = 2 := fun h => ⟨isLd_mem h.1, isAl_mem h.2.2.1⟩
    rcases memI_cases M m1.i with h1 | h1 | h1 | h1 <;> rcases memI_cases M m2.i with h2 | h2 | h2 | h2 <;> simp only [h1, h2] at g1 g2 n1 n2 hm hla ⊢ <;> simp at g1 g2 n1 n2 hm hla ⊢ <;> simp_all
  · intro x
    have p2 : a2.p = u2.p := by rw [← ha2]
    have p1 : a1.p = u1.p := by rw [← ha1]
    have c2 : a2.cl = u2.cl := by rw [← ha2]
    have c1 : a1.cl = u1.cl := by rw [← ha1]
    rw [mem_pr, mem_pr, mem_pr, mem_pr, p1, p2, c1, c2]
    have cross : ∀ (ma mb : MOp) (ua ub : Upd), Foot ma.i ua → Foot mb.i ub → (∀ k ∈ wrO ma, k ∉ wrO mb) → (∀ k ∈ wrO mb, k ∉ usesO ma) → (isCl mb.i = true → isLoadP ma.i = false) → ∀ k h, ma.dst = some k → ua.p = some h →
        (ub.cl = true → ∃ t, h = .slot t) ∧ ∀ j, mb.dst = some j → k ≠ j ∧ h ≠ .slot j := by
      intro ma mb ua ub fa fb hd hd2 hcl k h e1 e2
      refine ⟨fun hb => ?_, fun j hj => ⟨?_, ?_⟩⟩
      · cases h with
        | slot t => exact ⟨t, rfl⟩
        | cell b o =>
          have h3 := fa.cell b o e2
          have h4 := hcl (fb.cl hb)
          rw [h3] at h4; cases h4
      · rintro rfl
        exact hd k (dst_wr e1) (dst_wr hj)
      · rintro rfl
        exact hd2 j (dst_wr hj) (by simp [usesO, fa.slot j e2])
    have x12 := cross m1 m2 u1 u2 f1 f2 (fun k h => (hc.d12 k h).2) hc.d21 fun h => (hc.c2 h).1
    have x21 := cross m2 m1 u2 u1 f2 f1 (fun k h h' => (hc.d12 k h').2 h) (fun k h => (hc.d12 k h).1) fun h => (hc.c1 h).1
    constructor
    · rintro (⟨k, h, e1, e2, e3, rfl⟩ | ⟨⟨k, h, e1, e2, e3, rfl⟩ | ⟨h1, h2, h3⟩, h4, h5⟩)
      · obtain ⟨y1, y2⟩ := x21 k h e1 e2
        exact .inr ⟨.inl ⟨k, h, e1, e2, e3, rfl⟩, y1, y2⟩
      · exact .inl ⟨k, h, e1, e2, e3, rfl⟩
      · exact .inr ⟨.inr ⟨h1, h4, h5⟩, h2, h3⟩
    · rintro (⟨k, h, e1, e2, e3, rfl⟩ | ⟨⟨k, h, e1, e2, e3, rfl⟩ | ⟨h1, h2, h3⟩, h4, h5⟩)
      · obtain ⟨y1, y2⟩ := x12 k h e1 e2
        exact .inr ⟨.inl ⟨k, h, e1, e2, e3, rfl⟩, y1, y2⟩
      · exact .inl ⟨k, h, e1, e2, e3, rfl⟩
      · exact .inr ⟨.inr ⟨h1, h4, h5⟩, h2, h3⟩
end Go.Proofs.YtggoaggneapneaaDoorM
