/-
  The mirror, part 24: what an instruction reads and turns; which two may be swapped.
-/
import Derived.Test.YtggoaggneapneaaDoorM23
set_option linter.unusedVariables false
set_option linter.unusedSimpArgs false
namespace Go.Proofs.YtggoaggneapneaaDoorM
open Go
variable {sg : Sig} {M : Mach} {rec : Rec}

/-- Memory: 0 not read, 1 read, 2 turned, 9 not to be used in such a region. -/
def memI (M : Mach) : MI → Nat
  | .mov _ => 9
  | .movd _ => 0
  | .asg _ => 0
  | .pick _ _ _ => 0
  | .alloc _ => 2
  | .box _ _ => 2
  | .build _ _ => 0
  | .bsl _ _ => 0
  | .load _ _ _ => 1
  | .loadd _ _ _ => 1
  | .store _ _ _ => 2
  | .nilck _ => 0
  | .bin _ _ _ => 0
  | .beq _ _ _ => 0
  | .un _ _ => 0
  | .eqA _ _ _ _ => 0
  | .conv .s2r _ => 2
  | .conv .s2b _ => 0
  | .conv .b2s _ => 1
  | .conv _ _ => 0
  | .slice _ _ _ _ _ _ => 0
  | .sliceA _ _ _ _ _ => 0
  | .fadr _ _ => 0
  | .fld _ _ _ _ => 0
  | .iadr _ _ _ => 0
  | .iadrA _ _ _ _ => 0
  | .idxS _ _ => 0
  | .idxA _ _ _ _ _ => 0
  | .mkfn _ _ => 0
  | .mkif _ _ => 0
  | .tas _ _ _ => 0
  | .ext _ _ => 0
  | .call f _ => if quietI M (.call f []) then 1 else 2
  | .callc f _ => if quietI M (.call f []) then 0 else 9
  | .callv _ _ => 2
  | .len _ _ => 0
  | .lenA _ => 0
  | .lkp _ _ => 9
  | .isnil _ _ _ => 0
  | .bad => 9
  | .mn _ => 0
  | .mx _ => 0
  | .app _ _ _ _ => 9
  | .appS _ _ _ _ _ => 0
  | .appC _ _ _ _ => 2
  | .mks _ _ _ _ => 2
/-- The slots that give something up. -/
def takesI : MI → List Nat
  | .asg x => useO x
  | .store _ _ x => useO x
  | .appS _ _ x _ h => h :: useO x
  | .appC _ _ x _ => useO x
  | _ => []

theorem argsOf_len (e : Env) (l : List Opd) : (argsOf e l).length = l.length := by simp [argsOf]
theorem quiet_free {f : Nat} {args : List AV} (hq : quietI M (.call f []) = true) (hc : args.all closedA = true) {r : AV} {sg' : Sig} (h : callW M rec f args sg = some (r, sg')) (sg2 : Sig) : callW M rec f args sg2 = some (r, sg2) := by
  simp only [quietI] at hq
  unfold callW at h ⊢
  cases hl : M.lib f with
  | some g =>
    simp only [hl] at h ⊢
    obtain ⟨x, h1, h2⟩ := Option.map_eq_some_iff.1 h
    cases h2
    rw [h1]; rfl
  | none =>
    simp only [hl] at h hq ⊢
    cases hli : M.libI f with
    | some g => simp [hli] at hq
    | none =>
      simp only [hli] at h hq ⊢
      cases hm : M.fn f with
      | none => simp only [hm] at h; cases h
      | some mf =>
        simp only [hm] at h hq ⊢
        split at h
        · rename_i hlen
          rw [if_pos hlen]
          have es : ∀ sg, startSg mf.clean args sg = { bl := [], fl := 0 } := fun sg => by unfold startSg; rw [hq, hc]; rfl
          rw [es] at h ⊢
          obtain ⟨⟨x, e1, sg1⟩, h1, h2⟩ := Option.bind_eq_some_iff.1 h
          rw [h1]
          simp only [Option.bind_some, hq, if_true] at h2 ⊢
          split at h2
          · cases h2
          · rename_i hx
            obtain ⟨v, h3, h4⟩ := Option.bind_eq_some_iff.1 h2
            obtain ⟨y, h5, h6⟩ := Option.map_eq_some_iff.1 h4
            cases h6
            rw [h3]
            simp only [Option.bind_some, h5]
            rfl
        · cases h

theorem homeOf_congr {s t : St} {x : Opd} (hg : ∀ k ∈ useO x, get s.env k = get t.env k) (hp : ∀ k ∈ useO x, lookP s.pr k = lookP t.pr k) : homeOf s x = homeOf t x := by
  cases x with
  | c v => rfl
  | t n =>
    simp only [homeOf]
    rw [hg n (by simp [useO]), hp n (by simp [useO])]
theorem look_own (e : Env) (t : Nat) (f : Nat → List (List PV) → Option Upd) : (match look e t with
    | some (.own sz xs) => f sz xs
    | _ => none) = (match get e t with
    | .own sz xs => f sz xs
    | _ => none) := by
  unfold get
  cases look e t with
  | none => rfl
  | some v => simp only [Option.getD_some]; cases v <;> rfl
theorem taken_congr {e e' : Env} {x : Opd} (h : ∀ k ∈ useO x, get e k = get e' k) : taken e x = taken e' x := by
  cases x with
  | c v => rfl
  | t n => simp only [taken]; rw [h n (by simp [useO])]

/-- The same memory, the same slots that are read: the same answer. -/
theorem loud_congr {call : Call} {i : MI} (h9 : memI M i ≠ 9) {e e' : Env} {pr pr' : List (Nat × Home)} (h : ∀ k ∈ usesI i, get e k = get e' k) (hp : ∀ k ∈ usesI i, lookP pr k = lookP pr' k) :
    stepI call { env := e, sg, pr } i = stepI call { env := e', sg, pr := pr' } i := by
  cases i with
  | mov x => simp [memI] at h9
  | app sz bytes x y => simp [memI] at h9
  | lkp x k => simp [memI] at h9
  | bad => simp [memI] at h9
  | movd x =>
    cases x with
    | t n => simp only [stepI]; rw [h n (by simp [usesI, useO])]
    | c v => rfl
  | loadd agg sz x => simp only [stepI]; rw [eo_congr (x := x) h]
  | asg x => simp only [stepI]; rw [eo_congr (x := x) h, taken_congr h]
  | alloc z => rfl
  | box sz x => simp only [stepI]; rw [eo_congr (x := x) h]
  | store sz x y =>
    simp only [usesI, List.mem_append] at h
    simp only [stepI]
    rw [eo_congr (x := x) fun t ht => h t (.inl ht), eo_congr (x := y) fun t ht => h t (.inr ht), taken_congr (x := y) fun t ht => h t (.inr ht)]
  | mks sz bytes z n => simp only [stepI]; rw [eo_congr (x := n) h]
  | callc f args => simp only [stepI]; rw [args_congr h]
  | callv f args =>
    simp only [usesI, List.mem_append] at h
    simp only [stepI]
    rw [eo_congr (x := f) fun t ht => h t (.inl ht), args_congr (l := args) fun t ht => h t (.inr ht)]
  | appS sz bytes x y hm =>
    simp only [usesI, List.mem_cons, List.mem_append] at h hp
    have hx : ∀ k ∈ useO x, get e k = get e' k := fun t ht => h t (.inr (.inl ht))
    have hh := homeOf_congr (s := { env := e, sg, pr }) (t := { env := e', sg, pr := pr' }) (x := x) hx fun t ht => hp t (.inr (.inl ht))
    have ey := eo_congr (x := y) fun t ht => h t (.inr (.inr ht))
    have ex := eo_congr (x := x) hx
    have hS : homeS { env := e, sg, pr } x hm = homeS { env := e', sg, pr := pr' } x hm := by
      unfold homeS
      rw [hh]
      simp only [ex]
    simp only [stepI]
    rw [hS, ey]
    split
    · rename_i hc
      unfold homeS at hc
      congr 1
      funext ys
      simp only [appV, ex, hh]
      by_cases hn : isNils (eo e' x) = true
      · split
        · split
          · rfl
          · rename_i hne
            cases hv : eo e' x <;> simp [hv, isNils] at hn
            exact absurd hv hne
        · rfl
      · have hs : homeOf { env := e', sg := sg, pr := pr' } x = some (.slot hm) := by
          simp only [Bool.or_eq_true, decide_eq_true_eq] at hc
          exact hc.resolve_left hn
        rw [hs]
        have hg := h hm (.inl rfl)
        simp only [get] at hg
        cases h1 : look e hm with
        | none =>
          cases h2 : look e' hm with
          | none => simp only [h1, h2]
          | some v =>
            simp only [h1, h2, Option.getD_none, Option.getD_some] at hg
            subst hg; simp only [h1, h2]
        | some v =>
          cases h2 : look e' hm with
          | none =>
            simp only [h1, h2, Option.getD_none, Option.getD_some] at hg
            subst hg; simp only [h1, h2]
          | some v' =>
            simp only [h1, h2, Option.getD_some] at hg
            subst hg; simp only [h1, h2]
    · rfl
  | appC sz bytes x y =>
    simp only [usesI, List.mem_append] at h hp
    have hx : ∀ k ∈ useO x, get e k = get e' k := fun t ht => h t (.inl ht)
    have hh := homeOf_congr (s := { env := e, sg, pr }) (t := { env := e', sg, pr := pr' }) (x := x) hx fun t ht => hp t (.inl ht)
    have ey := eo_congr (x := y) fun t ht => h t (.inr ht)
    have ex := eo_congr (x := x) hx
    have hS : homeC { env := e, sg, pr } x = homeC { env := e', sg, pr := pr' } x := by
      unfold homeC
      rw [hh]
      simp only [ex]
    simp only [stepI]
    rw [hS, ey]
    split
    · rename_i hc
      unfold homeC at hc
      congr 1
      funext ys
      simp only [appV, ex, hh]
      split
      · split
        · rfl
        · cases hm : homeOf { env := e', sg := sg, pr := pr' } x with
          | none => rfl
          | some hmm =>
            cases hmm with
            | cell b o => rfl
            | slot t =>
              rw [hm] at hc
              simp only [Bool.or_false] at hc
              rename_i hne
              cases hv : eo e' x <;> simp [hv, isNils] at hc
              exact absurd hv hne
      · rfl
    · rfl
  | pick c a b =>
    simp only [usesI, List.mem_append] at h
    have ha := eo_congr (x := a) fun t ht => h t (.inl (.inr ht))
    have hb := eo_congr (x := b) fun t ht => h t (.inr ht)
    have hk : ∀ t : Bool, eo e (if t = true then a else b) = eo e' (if t = true then a else b) := by
      intro t
      cases t
      · exact hb
      · exact ha
    simp only [stepI]
    rw [eo_congr (x := c) fun t ht => h t (.inl (.inl ht))]
    simp only [hk]
  | build z parts => simp only [stepI]; rw [build_congr h]
  | bsl sz xs => simp only [stepI]; rw [rows_congr h]
  | load agg sz x => simp only [stepI]; rw [eo_congr (x := x) h]
  | nilck x => simp only [stepI]; rw [eo_congr (x := x) h]
  | bin op x y =>
    simp only [usesI, List.mem_append] at h
    simp only [stepI]
    rw [eo_congr (x := x) fun t ht => h t (.inl ht), eo_congr (x := y) fun t ht => h t (.inr ht)]
  | beq ne x y =>
    simp only [usesI, List.mem_append] at h
    simp only [stepI]
    rw [eo_congr (x := x) fun t ht => h t (.inl ht), eo_congr (x := y) fun t ht => h t (.inr ht)]
  | eqA ne n x y =>
    simp only [usesI, List.mem_append] at h
    simp only [stepI]
    rw [eo_congr (x := x) fun t ht => h t (.inl ht), eo_congr (x := y) fun t ht => h t (.inr ht)]
  | un op x => simp only [stepI]; rw [eo_congr (x := x) h]
  | conv k x => simp only [stepI]; rw [eo_congr (x := x) h]
  | slice st sz x lo hi mx =>
    simp only [usesI, List.mem_append] at h
    simp only [stepI, sliceV, sliceS, sliceL]
    rw [eo_congr (x := x) fun t ht => h t (.inl (.inl (.inl ht)))]
    simp only [bnd_congr (x := lo) fun t ht => h t (.inl (.inl (.inr ht))), bnd_congr (x := hi) fun t ht => h t (.inl (.inr ht)), bnd_congr (x := mx) fun t ht => h t (.inr ht)]
  | sliceA len sz x lo hi =>
    simp only [usesI, List.mem_append] at h
    simp only [stepI, sliceAV]
    rw [eo_congr (x := x) fun t ht => h t (.inl (.inl ht))]
    simp only [bnd_congr (x := lo) fun t ht => h t (.inl (.inr ht)), bnd_congr (x := hi) fun t ht => h t (.inr ht)]
  | fadr off x => simp only [stepI]; rw [eo_congr (x := x) h]
  | fld agg sz off x => simp only [stepI]; rw [eo_congr (x := x) h]
  | iadr sz x i =>
    simp only [usesI, List.mem_append] at h
    simp only [stepI]
    rw [eo_congr (x := x) fun t ht => h t (.inl ht), eo_congr (x := i) fun t ht => h t (.inr ht)]
  | iadrA len sz x i =>
    simp only [usesI, List.mem_append] at h
    simp only [stepI]
    rw [eo_congr (x := x) fun t ht => h t (.inl ht), eo_congr (x := i) fun t ht => h t (.inr ht)]
  | idxS x i =>
    simp only [usesI, List.mem_append] at h
    simp only [stepI]
    rw [eo_congr (x := x) fun t ht => h t (.inl ht), eo_congr (x := i) fun t ht => h t (.inr ht)]
  | idxA len agg sz x i =>
    simp only [usesI, List.mem_append] at h
    simp only [stepI]
    rw [eo_congr (x := x) fun t ht => h t (.inl ht), eo_congr (x := i) fun t ht => h t (.inr ht)]
  | mkfn f caps => simp only [stepI]; rw [args_congr h]
  | mkif t x => simp only [stepI]; rw [eo_congr (x := x) h]
  | tas t ok x => simp only [stepI]; rw [eo_congr (x := x) h]
  | ext i x => simp only [stepI]; rw [eo_congr (x := x) h]
  | call f args => simp only [stepI]; rw [args_congr h]
  | len st x => simp only [stepI]; rw [eo_congr (x := x) h]
  | lenA n => rfl
  | isnil ne k x => simp only [stepI]; rw [eo_congr (x := x) h]
  | mn xs => simp only [stepI]; rw [map_congr h]
  | mx xs => simp only [stepI]; rw [map_congr h]

theorem plain_free {v : AV} {u : Upd} (h : plain sg v = some u) (sg2 : Sig) : plain sg2 v = some { u with sg := sg2 } := by
  rw [plain_some h]; rfl
theorem plainO_free {v : Option AV} {u : Upd} (h : plainO sg v = some u) (sg2 : Sig) : plainO sg2 v = some { u with sg := sg2 } := by
  obtain ⟨x, rfl, rfl⟩ := plainO_some h
  rfl
/-- What does not read memory does the same whatever it holds. -/
theorem loud_free {i : MI} (h0 : memI M i = 0) {e : Env} {pr : List (Nat × Home)} {u : Upd} (h : stepI (callW M rec) { env := e, sg, pr } i = some u) (sg2 : Sig) :
    stepI (callW M rec) { env := e, sg := sg2, pr } i = some { u with sg := sg2 } := by
  cases i with
  | mov x => simp [memI] at h0
  | app sz bytes x y => simp [memI] at h0
  | lkp x k => simp [memI] at h0
  | bad => simp [memI] at h0
  | movd x =>
    cases x with
    | t n => simp only [stepI] at h ⊢; cases h; rfl
    | c v => exact plain_free h sg2
  | asg x => simp only [stepI] at h ⊢; cases h; rfl
  | pick c a b =>
    simp only [stepI] at h ⊢
    split at h
    · rename_i t ht; exact plain_free h sg2
    · cases h
  | alloc z => simp [memI] at h0
  | box sz x => simp [memI] at h0
  | build z parts => exact plainO_free h sg2
  | bsl sz xs => exact plainO_free h sg2
  | load agg sz x => simp [memI] at h0
  | loadd agg sz x => simp [memI] at h0
  | store sz x y => simp [memI] at h0
  | nilck x =>
    simp only [stepI] at h ⊢
    split at h
    · rename_i b o hx; exact plain_free h sg2
    · rename_i r o hx; exact plain_free h sg2
    · cases h
  | bin op x y => exact plainO_free h sg2
  | beq ne x y =>
    simp only [stepI] at h ⊢
    split at h
    · rename_i a b hx hy; exact plain_free h sg2
    · cases h
  | un op x => exact plainO_free h sg2
  | eqA ne n x y => exact plainO_free h sg2
  | conv k x =>
    cases k with
    | s2r => simp [memI] at h0
    | b2s => simp [memI] at h0
    | int k =>
      simp only [stepI] at h ⊢
      generalize eo e x = ev at h ⊢
      cases ev with
      | pv p => cases p <;> first | exact plain_free h sg2 | cases h
      | _ => cases h
    | same =>
      simp only [stepI] at h ⊢
      generalize eo e x = ev at h ⊢
      cases ev with
      | pv p => cases p <;> first | exact plain_free h sg2 | cases h
      | _ => cases h
    | s2b =>
      simp only [stepI] at h ⊢
      generalize eo e x = ev at h ⊢
      cases ev with
      | pv p =>
        cases p <;> first | cases h; done | skip
        simp only at h ⊢
        split at h
        · rename_i hc; rw [if_pos hc]; exact plain_free h sg2
        · cases h
      | _ => cases h
  | slice st sz x lo hi mx => exact plainO_free h sg2
  | sliceA len sz x lo hi => exact plainO_free h sg2
  | fadr off x => exact plainO_free h sg2
  | fld agg sz off x =>
    simp only [stepI] at h ⊢
    split at h
    · rename_i cs hx
      split at h
      · rename_i hc; rw [if_pos hc]; exact plainO_free h sg2
      · cases h
    · cases h
  | iadr sz x i => exact plainO_free h sg2
  | iadrA len sz x i => exact plainO_free h sg2
  | idxS x i =>
    simp only [stepI] at h ⊢
    split at h
    · rename_i t hx; exact plainO_free h sg2
    · cases h
  | idxA len agg sz x i =>
    simp only [stepI] at h ⊢
    split at h
    · rename_i t hx; exact plainO_free h sg2
    · cases h
  | mkfn f caps => exact plain_free h sg2
  | mkif t x => exact plain_free h sg2
  | tas t ok x =>
    simp only [stepI] at h ⊢
    split at h
    · rename_i t' v hx
      split at h
      · rename_i hc; rw [if_pos hc]; exact plain_free h sg2
      · cases h
    · cases h
  | ext i x =>
    simp only [stepI] at h ⊢
    split at h
    · rename_i t hx; exact plainO_free h sg2
    · cases h
  | call f args => simp only [memI] at h0; split at h0 <;> simp at h0
  | callc f args =>
    simp only [memI] at h0
    split at h0
    · rename_i hq
      simp only [stepI] at h ⊢
      split at h
      · rename_i hc
        rw [if_pos hc]
        obtain ⟨⟨r, sg'⟩, h1, h2⟩ := Option.bind_eq_some_iff.1 h
        cases h2
        rw [quiet_free hq hc h1 sg2]
        rfl
      · cases h
    · simp at h0
  | callv f args => simp [memI] at h0
  | len st x => exact plainO_free h sg2
  | lenA n => exact plain_free h sg2
  | isnil ne k x => exact plainO_free h sg2
  | mn xs => exact plainO_free h sg2
  | mx xs => exact plainO_free h sg2
  | appS sz bytes x y hm =>
    simp only [stepI] at h ⊢
    split at h
    · rename_i hc
      rw [if_pos (show homeS { env := e, sg := sg2, pr } x hm = true from hc)]
      obtain ⟨ys, h1, h2⟩ := Option.bind_eq_some_iff.1 h
      rw [h1]
      simp only [Option.bind_some]
      unfold appV at h2 ⊢
      unfold homeS at hc
      simp only at h2 ⊢ hc
      split at h2
      · rename_i hall
        rw [if_pos hall]
        have hh : homeOf { env := e, sg := sg2, pr } x = homeOf { env := e, sg := sg, pr } x := by cases x <;> rfl
        by_cases hn : isNils (eo e x) = true
        · cases hv : eo e x <;> simp [hv, isNils] at hn
          simp only [hv] at h2 ⊢
          split at h2
          · rename_i hc2; rw [if_pos hc2]; cases h2; rfl
          · cases h2
        · have hs : homeOf { env := e, sg := sg, pr } x = some (.slot hm) := by
            simp only [Bool.or_eq_true, decide_eq_true_eq] at hc
            exact hc.resolve_left hn
          rw [hh, hs]
          rw [hs] at h2
          generalize eo e x = ev at h2 hn ⊢
          have fin : ∀ {A : Option Upd}, (match look e hm with
              | some (.own sz' xs) => if sz' = sz ∧ inS bytes (xs.length + ys.length) = true then some ({ v := .own sz (xs ++ ys), p := none, dm := [hm], sg, cl := false } : Upd) else none
              | _ => none) = some u → (match look e hm with
              | some (.own sz' xs) => if sz' = sz ∧ inS bytes (xs.length + ys.length) = true then some ({ v := .own sz (xs ++ ys), p := none, dm := [hm], sg := sg2, cl := false } : Upd) else none
              | _ => none) = some { u with sg := sg2 } := by
            intro _ h3
            cases hl : look e hm with
            | none => simp only [hl] at h3; cases h3
            | some v =>
              simp only [hl] at h3 ⊢
              cases v with
              | own sz' xs =>
                simp only at h3 ⊢
                split at h3
                · rename_i hc2; rw [if_pos hc2]; cases h3; rfl
                · cases h3
              | _ => cases h3
          cases ev with
          | nils => simp [isNils] at hn
          | _ => exact fin (A := none) h2
      · cases h2
    · cases h
  | appC sz bytes x y => simp [memI] at h0
  | mks sz bytes z n => simp [memI] at h0

theorem part_sg {sg : Sig} {v : Option AV} {u : Upd} (h : v.bind (fun v => plain sg v) = some u) : u.sg = sg := by
  obtain ⟨x, _, h⟩ := Option.bind_eq_some_iff.1 h
  exact (plain_quiet h).1
/-- What only reads memory leaves it. -/
theorem loud_sg {i : MI} (h1 : memI M i = 0 ∨ memI M i = 1) {s : St} {u : Upd} (h : stepI (callW M rec) s i = some u) : u.sg = s.sg := by
  rcases h1 with h1 | h1
  · have := loud_free (sg := s.sg) (e := s.env) (pr := s.pr) h1 h s.sg
    have h2 : stepI (callW M rec) s i = some { u with sg := s.sg } := this
    rw [h] at h2
    injection h2 with h2
    rw [h2]
  · cases i with
    | load agg sz x =>
      simp only [stepI] at h
      obtain ⟨cs, _, h⟩ := Option.bind_eq_some_iff.1 h
      obtain ⟨v, _, h⟩ := Option.bind_eq_some_iff.1 h
      cases h; rfl
    | loadd agg sz x =>
      simp only [stepI] at h
      obtain ⟨cs, _, h⟩ := Option.bind_eq_some_iff.1 h
      exact part_sg h
    | conv k x =>
      cases k with
      | b2s =>
        simp only [stepI] at h
        generalize eo s.env x = ev at h
        cases ev with
        | row b o n sz =>
          simp only at h
          split at h
          · split at h
            · exact (plainO_quiet h).1
            · cases h
          · cases h
        | pv p => cases p <;> exact (plainO_quiet h).1
        | _ => exact (plainO_quiet h).1
      | _ => simp [memI] at h1
    | call f args =>
      simp only [memI] at h1
      split at h1
      · rename_i hq
        simp only [stepI] at h
        obtain ⟨⟨r, sg'⟩, h2, h3⟩ := Option.bind_eq_some_iff.1 h
        cases h3
        exact quiet_call (args := []) hq h2
      · simp at h1
    | callc f args => simp only [memI] at h1; split at h1 <;> simp at h1
    | _ => simp [memI] at h1

def isLoadP : MI → Bool
  | .load _ _ _ => true
  | _ => false
def isCl : MI → Bool
  | .store _ _ _ => true
  | .call _ _ => true
  | .callc _ _ => true
  | .callv _ _ => true
  | _ => false
structure Foot (i : MI) (u : Upd) : Prop where
  dm : ∀ k ∈ u.dm, k ∈ takesI i
  slot : ∀ n, u.p = some (.slot n) → n ∈ usesI i
  cell : ∀ b o, u.p = some (.cell b o) → isLoadP i = true
  cl : u.cl = true → isCl i = true
theorem foot_plain {i : MI} {v : AV} {u : Upd} (h : plain sg v = some u) : Foot i u := by
  rw [plain_some h]
  exact ⟨fun k hk => (by simp at hk), fun n e => (by cases e), fun b o e => (by cases e), fun e => (by cases e)⟩
theorem foot_plainO {i : MI} {v : Option AV} {u : Upd} (h : plainO sg v = some u) : Foot i u := by
  obtain ⟨x, _, rfl⟩ := plainO_some h
  exact ⟨fun k hk => (by simp at hk), fun n e => (by cases e), fun b o e => (by cases e), fun e => (by cases e)⟩
theorem taken_mem {e : Env} {x : Opd} {k : Nat} (h : k ∈ taken e x) : k ∈ useO x := by
  cases x with
  | c v => simp [taken] at h
  | t n =>
    simp only [taken] at h
    split at h
    · simpa [useO] using h
    · simp at h
theorem foot_app {i : MI} {s : St} {sz bytes : Nat} {x : Opd} {ys : List (List PV)} {u : Upd} (h : appV s sz bytes x ys = some u) (hd : ∀ k, homeOf s x = some (.slot k) → isNils (eo s.env x) = false → k ∈ takesI i) : Foot i u := by
  unfold appV at h
  split at h
  · split at h
    · split at h
      · cases h; exact ⟨fun k hk => (by simp at hk), fun n e => (by cases e), fun b o e => (by cases e), fun e => (by cases e)⟩
      · cases h
    · rename_i hne
      have hn : isNils (eo s.env x) = false := by
        cases hv : eo s.env x <;> first | rfl | exact absurd hv hne
      split at h
      · rename_i k hk
        split at h
        · split at h
          · cases h
            exact ⟨fun j hj => (by simp at hj; subst hj; exact hd _ hk hn), fun n e => (by cases e), fun b o e => (by cases e), fun e => (by cases e)⟩
          · cases h
        · cases h
      · split at h
        · split at h
          · split at h
            · cases h; exact ⟨fun k hk => (by simp at hk), fun n e => (by cases e), fun b o e => (by cases e), fun e => (by cases e)⟩
            · cases h
          · cases h
        · cases h
      · cases h
  · cases h
theorem loud_foot {call : Call} {i : MI} (h9 : memI M i ≠ 9) {s : St} {u : Upd} (h : stepI call s i = some u) : Foot i u := by
  cases i with
  | mov x => simp [memI] at h9
  | app sz bytes x y => simp [memI] at h9
  | bad => simp [memI] at h9
  | lkp x k => simp [memI] at h9
  | movd x =>
    cases x with
    | c v => exact foot_plain h
    | t n =>
      simp only [stepI] at h
      cases h
      refine ⟨fun k hk => (by simp at hk), fun m e => ?_, fun b o e => ?_, fun e => (by cases e)⟩
      · simp only at e
        split at e
        · cases e; simp [usesI, useO]
        · cases e
      · simp only at e
        split at e <;> cases e
  | asg x =>
    simp only [stepI] at h
    cases h
    exact ⟨fun k hk => taken_mem hk, fun n e => (by cases e), fun b o e => (by cases e), fun e => (by cases e)⟩
  | load agg sz x =>
    simp only [stepI] at h
    obtain ⟨cs, _, h⟩ := Option.bind_eq_some_iff.1 h
    obtain ⟨v, _, h⟩ := Option.bind_eq_some_iff.1 h
    cases h
    refine ⟨fun k hk => (by simp at hk), fun n e => ?_, fun b o e => rfl, fun e => (by cases e)⟩
    simp only at e
    split at e
    · split at e <;> cases e
    · cases e
  | loadd agg sz x =>
    simp only [stepI] at h
    obtain ⟨cs, _, h⟩ := Option.bind_eq_some_iff.1 h
    obtain ⟨v, _, h⟩ := Option.bind_eq_some_iff.1 h
    exact foot_plain h
  | store sz x y =>
    simp only [stepI] at h
    split at h
    · split at h
      · obtain ⟨g, _, h⟩ := Option.map_eq_some_iff.1 h
        cases h
        exact ⟨fun k hk => taken_mem hk, fun n e => (by cases e), fun b o e => (by cases e), fun e => rfl⟩
      · cases h
    · cases h
  | alloc z => exact foot_plain h
  | box sz x =>
    simp only [stepI] at h
    split at h
    · exact foot_plain h
    · cases h
  | mks sz bytes z n =>
    simp only [stepI] at h
    obtain ⟨m, _, h⟩ := Option.bind_eq_some_iff.1 h
    split at h
    · exact foot_plain h
    · cases h
  | call f args =>
    simp only [stepI] at h
    obtain ⟨m, _, h⟩ := Option.bind_eq_some_iff.1 h
    cases h
    exact ⟨fun k hk => (by simp at hk), fun n e => (by cases e), fun b o e => (by cases e), fun e => rfl⟩
  | callc f args =>
    simp only [stepI] at h
    split at h
    · obtain ⟨m, _, h⟩ := Option.bind_eq_some_iff.1 h
      cases h
      exact ⟨fun k hk => (by simp at hk), fun n e => (by cases e), fun b o e => (by cases e), fun e => rfl⟩
    · cases h
  | callv f args =>
    simp only [stepI] at h
    split at h
    · obtain ⟨m, _, h⟩ := Option.bind_eq_some_iff.1 h
      cases h
      exact ⟨fun k hk => (by simp at hk), fun n e => (by cases e), fun b o e => (by cases e), fun e => rfl⟩
    · cases h
  | appS sz bytes x y hm =>
    simp only [stepI] at h
    split at h
    · rename_i hc
      obtain ⟨ys, _, h⟩ := Option.bind_eq_some_iff.1 h
      refine foot_app h fun k hk hn => ?_
      unfold homeS at hc
      rw [hn, hk] at hc
      simp only [Bool.false_or, decide_eq_true_eq, Option.some.injEq, Home.slot.injEq] at hc
      subst hc
      exact List.mem_cons_self
    · cases h
  | appC sz bytes x y =>
    simp only [stepI] at h
    split at h
    · rename_i hc
      obtain ⟨ys, _, h⟩ := Option.bind_eq_some_iff.1 h
      refine foot_app h fun k hk hn => ?_
      unfold homeC at hc
      rw [hn, hk] at hc
      simp at hc
    · cases h
  | pick c a b => simp only [stepI] at h; split at h <;> first | exact foot_plain h | cases h
  | nilck x => simp only [stepI] at h; split at h <;> first | exact foot_plain h | cases h
  | beq ne x y => simp only [stepI] at h; split at h <;> first | exact foot_plain h | cases h
  | fld agg sz off x =>
    simp only [stepI] at h
    split at h
    · split at h
      · exact foot_plainO h
      · cases h
    · cases h
  | idxS x i => simp only [stepI] at h; split at h <;> first | exact foot_plainO h | cases h
  | idxA len agg sz x i => simp only [stepI] at h; split at h <;> first | exact foot_plainO h | cases h
  | ext i x => simp only [stepI] at h; split at h <;> first | exact foot_plainO h | cases h
  | tas t ok x =>
    simp only [stepI] at h
    split at h
    · split at h
      · exact foot_plain h
      · cases h
    · cases h
  | conv k x =>
    simp only [stepI] at h
    generalize eo s.env x = ev at h
    cases k with
    | int k => cases ev with
      | pv p => cases p <;> first | exact foot_plain h | cases h
      | _ => cases h
    | same => cases ev with
      | pv p => cases p <;> first | exact foot_plain h | cases h
      | _ => cases h
    | s2b => cases ev with
      | pv p =>
        cases p <;> first | cases h; done | skip
        simp only at h
        split at h
        · exact foot_plain h
        · cases h
      | _ => cases h
    | s2r => cases ev with
      | pv p =>
        cases p <;> first | cases h; done | skip
        simp only at h
        split at h
        · exact foot_plain h
        · cases h
      | _ => cases h
    | b2s => cases ev with
      | row b o n sz =>
        simp only at h
        split at h
        · split at h
          · exact foot_plainO h
          · cases h
        · cases h
      | pv p => cases p <;> exact foot_plainO h
      | _ => exact foot_plainO h
  | build z parts => exact foot_plainO h
  | bsl sz xs => exact foot_plainO h
  | bin op x y => exact foot_plainO h
  | un op x => exact foot_plainO h
  | eqA ne n x y => exact foot_plainO h
  | slice st sz x lo hi mx => exact foot_plainO h
  | sliceA len sz x lo hi => exact foot_plainO h
  | fadr off x => exact foot_plainO h
  | iadr sz x i => exact foot_plainO h
  | iadrA len sz x i => exact foot_plainO h
  | mkfn f caps => exact foot_plain h
  | mkif t x => exact foot_plain h
  | len st x => exact foot_plainO h
  | lenA n => exact foot_plain h
  | isnil ne k x => exact foot_plainO h
  | mn xs => exact foot_plainO h
  | mx xs => exact foot_plainO h
end Go.Proofs.YtggoaggneapneaaDoorM
