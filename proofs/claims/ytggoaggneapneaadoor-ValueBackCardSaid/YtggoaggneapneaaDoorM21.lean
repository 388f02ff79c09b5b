/-
  The mirror, part 21: every answer of the evaluator is the machine's.
-/
import Derived.Test.YtggoaggneapneaaDoorM20
set_option linter.unusedVariables false
set_option linter.unusedSimpArgs false
namespace Go.Proofs.YtggoaggneapneaaDoorM
open Go
variable {X : Nat → Prop} {g g' : G} {nt : Nat} {s : St} {a : Act} {w w' : World} {F : Facts} {P : Program} {o : Oper} {sg : Sig} {M : Mach}

theorem Good.of_wp {c : MC} {e : Env} {o : Out} (hn : ∀ code nt, COK P M nt c code → ∀ b, code ≠ .loop b)
    (h : ∀ code nt, COK P M nt c code → ∀ X g a w, WRel X g nt { env := e, sg, pr := [] } a w → code.wpIn Fence.wide 0 P (Post X g nt w o) a w) : Good P M c e sg o :=
  fun code nt hC X g a w hR => ⟨h code nt hC X g a w hR, fun b hb => absurd hb (hn code nt hC b)⟩

theorem step_good (hM : MachOK P M) {rec : Rec} (ih : ∀ c e sg o, rec c e sg = some o → Good P M c e sg o) {c : MC} {e : Env} {o : Out} (h : exStep M rec c e sg = some o) : Good P M c e sg o := by
  have hcall := callW_good hM ih
  cases c with
  | no => cases h
  | skip =>
    simp only [exStep] at h
    cases h
    refine Good.of_wp (fun code nt hC b hb => by cases hC <;> cases hb) fun code nt hC X g a w hR => ?_
    cases hC with
    | skip => exact wpIn_skip ⟨trivial, g, hR, .refl _ _, .refl _ _ _⟩
    | label l => exact wpIn_label ⟨trivial, g, hR, .refl _ _, .refl _ _ _⟩
  | exit id =>
    simp only [exStep] at h
    cases h
    refine Good.of_wp (fun code nt hC b hb => by cases hC; cases hb) fun code nt hC X g a w hR => ?_
    cases hC
    exact wpIn_exit ⟨rfl, g, hR, .refl _ _, .refl _ _ _⟩
  | ret =>
    simp only [exStep] at h
    cases h
    refine Good.of_wp (fun code nt hC b hb => by cases hC; cases hb) fun code nt hC X g a w hR => ?_
    cases hC
    exact wpIn_ret ⟨trivial, g, hR, .refl _ _, .refl _ _ _⟩
  | reg ops keep =>
    simp only [exStep] at h
    obtain ⟨s1, h1, rfl⟩ := Option.map_eq_some_iff.1 h
    refine Good.of_wp (fun code nt hC b hb => by cases hC; cases hb) fun code nt hC X g a w hR => ?_
    cases hC with
    | reg ms keep id ops hk hl hops =>
      refine wpIn_region ?_
      rw [← hl, List.range_eq_range']
      refine ops_ordered hcall _ 0 (fun j m hj => by rw [Nat.zero_add]; exact hops j m hj) h1 hR fun g1 a1 w1 hR1 hE hP => ?_
      exact ⟨trivial, g1, hR1.keep hk, hE, hP⟩
  | draw ops rk keep =>
    simp only [exStep] at h
    obtain ⟨e1, h1, rfl⟩ := Option.map_eq_some_iff.1 h
    refine Good.of_wp (fun code nt hC b hb => by cases hC; cases hb) fun code nt hC X g a w hR => ?_
    cases hC with
    | draw ms rk keep id ops hk hd hops =>
      refine wpIn_region_draw fun t => ?_
      obtain ⟨E, V, h2, h3, h4⟩ := opsD_path hd.quiet h1
      refine ops_drawn hcall hops hd h4 (schedule_sched hd.back _ t) (e := e) ?_ ?_ hR.drew ?_
      · intro j o hj hD
        have hj := (Array.getElem?_eq_some_iff.1 hj).1
        simp [hj] at hD
      · refine ⟨fun j m t hj _ hD => ?_, fun t _ => by rw [h2]⟩
        have hj := (List.getElem?_eq_some_iff.1 hj).1
        rw [hd.len] at hj
        simp [hj] at hD
      · intro e' he' g1 a1 w1 hR1 hE hP
        refine ⟨trivial, g1, ?_, hE, ⟨hP.os, hP.tape, hP.output, hP.size, hP.same⟩⟩
        have := hR1.keep hk
        have hk2 : restrict e' keep = restrict e1 keep := by
          unfold restrict
          refine List.map_congr_left fun t _ => ?_
          rw [he' t, h3]
        rw [hk2] at this
        exact this
  | loud ops ord rk keep =>
    simp only [exStep] at h
    obtain ⟨s1, h1, rfl⟩ := Option.map_eq_some_iff.1 h
    refine Good.of_wp (fun code nt hC b hb => by cases hC; cases hb) fun code nt hC X g a w hR => ?_
    cases hC with
    | loud ms ord rk keep id ops hk hL hops =>
      refine wpIn_region_draw fun t => ?_
      refine ops_loud hcall hL hops h1 hR.drew (fun t' hE g1 a1 w1 hR1 hX hP => ?_) _ t
      refine ⟨trivial, g1, ?_, hX, ⟨hP.os, hP.tape, hP.output, hP.size, hP.same⟩⟩
      have := hR1.keep hk
      have hk2 : restrict t'.env keep = restrict s1.env keep := by
        unfold restrict
        refine List.map_congr_left fun k _ => ?_
        rw [hE.get k]
      rw [hk2, ← hE.sg] at this
      exact this
  | mlit m m2 m3 kvs keep =>
    simp only [exStep] at h
    cases h
    refine Good.of_wp (fun code nt hC b hb => by cases hC; cases hb) fun code nt hC X g a w hR => ?_
    cases hC with
    | mlit m m2 m3 kvs keep id ops hk hm =>
      exact wp_mlit (s := { env := e, sg := sg, pr := [] }) hR hm fun g1 a1 w1 hR1 hE hP => ⟨trivial, g1, hR1.keep hk, hE, hP⟩
  | seq x y =>
    simp only [exStep] at h
    obtain ⟨⟨m, e1, sg1⟩, h1, h2⟩ := Option.bind_eq_some_iff.1 h
    refine Good.of_wp (fun code nt hC b hb => by cases hC; cases hb) fun code nt hC X g a w hR => ?_
    cases hC with
    | seq x y x' y' c1 c2 =>
      refine wpIn_seq (wpIn_mono (ih _ _ _ _ h1 x' nt c1 X g a w hR).1 fun ex a1 w1 hp => ?_)
      obtain ⟨hm, g1, hR1, hE, hP⟩ := hp
      cases m with
      | nrm =>
        cases ex with
        | normal =>
          simp only [isNrm, if_true] at h2
          exact wpIn_mono (ih _ _ _ _ h2 y' nt c2 X g1 a1 w1 hR1).1 fun ex a2 w2 hp => hp.less hE hP
        | _ => exact hm.elim
      | ext i =>
        simp only [isNrm, Bool.false_eq_true, if_false] at h2
        cases h2
        cases ex with
        | exit j => exact ⟨hm, g1, hR1, hE, hP⟩
        | _ => exact hm.elim
      | ret =>
        simp only [isNrm, Bool.false_eq_true, if_false] at h2
        cases h2
        cases ex with
        | ret => exact ⟨hm, g1, hR1, hE, hP⟩
        | _ => exact hm.elim
  | cond c x y =>
    simp only [exStep] at h
    refine Good.of_wp (fun code nt hC b hb => by cases hC; cases hb) fun code nt hC X g a w hR => ?_
    cases hC with
    | cond c c' x y x' y' hc c1 c2 =>
      unfold condB at h
      split at h
      · rename_i t ht
        have hv := hR.opd hc
        simp only at hv
        rw [ht] at hv
        have hb := rep_bool hv
        refine wpIn_cond hb ?_
        cases t with
        | true =>
          simp only [if_true] at h ⊢
          exact (ih _ _ _ _ h x' nt c1 X g a w hR).1
        | false =>
          simp only [Bool.false_eq_true, if_false] at h ⊢
          exact (ih _ _ _ _ h y' nt c2 X g a w hR).1
      · cases h
  | block id b =>
    simp only [exStep] at h
    obtain ⟨⟨m, e1, sg1⟩, h1, rfl⟩ := Option.map_eq_some_iff.1 h
    refine Good.of_wp (fun code nt hC b hb => by cases hC; cases hb) fun code nt hC X g a w hR => ?_
    cases hC with
    | block id b b' c1 =>
      refine wpIn_block (wpIn_mono (ih _ _ _ _ h1 b' nt c1 X g a w hR).1 fun ex a1 w1 hp => ?_)
      obtain ⟨hm, g1, hR1, hE, hP⟩ := hp
      cases m with
      | nrm =>
        cases ex with
        | normal => exact ⟨trivial, g1, hR1, hE, hP⟩
        | _ => exact hm.elim
      | ext i =>
        cases ex with
        | exit j =>
          have hm : i = j := hm
          subst hm
          simp only [Exit.inBlock, outOf]
          split
          · exact ⟨trivial, g1, hR1, hE, hP⟩
          · exact ⟨rfl, g1, hR1, hE, hP⟩
        | _ => exact hm.elim
      | ret =>
        cases ex with
        | ret => exact ⟨trivial, g1, hR1, hE, hP⟩
        | _ => exact hm.elim
  | loop b =>
    simp only [exStep] at h
    obtain ⟨⟨m, e1, sg1⟩, h1, h2⟩ := Option.bind_eq_some_iff.1 h
    have key : ∀ b' nt, COK P M nt b b' → ∀ X g a w, WRel X g nt { env := e, sg, pr := [] } a w → LoopIn P b' (Post X g nt w o) a w := by
      intro b' nt c1 X g a w hR
      refine LoopIn.step (wpIn_mono (ih _ _ _ _ h1 b' nt c1 X g a w hR).1 fun ex a1 w1 hp => ?_)
      obtain ⟨hm, g1, hR1, hE, hP⟩ := hp
      cases m with
      | nrm =>
        cases ex with
        | normal =>
          simp only [isNrm, if_true] at h2
          exact ((ih _ _ _ _ h2 (.loop b') nt (.loop b b' c1) X g1 a1 w1 hR1).2 b' rfl).mono fun ex a2 w2 hp => hp.less hE hP
        | _ => exact hm.elim
      | ext i =>
        simp only [isNrm, Bool.false_eq_true, if_false] at h2
        cases h2
        cases ex with
        | exit j => exact ⟨hm, g1, hR1, hE, hP⟩
        | _ => exact hm.elim
      | ret =>
        simp only [isNrm, Bool.false_eq_true, if_false] at h2
        cases h2
        cases ex with
        | ret => exact ⟨hm, g1, hR1, hE, hP⟩
        | _ => exact hm.elim
    intro code nt hC X g a w hR
    cases hC with
    | loop b b' c1 =>
      have := key b' nt c1 X g a w hR
      exact ⟨this.wp, fun b'' hb => by cases hb; exact this⟩
  | kp b keep =>
    simp only [exStep] at h
    obtain ⟨⟨m, e1, sg1⟩, h1, rfl⟩ := Option.map_eq_some_iff.1 h
    have up : ∀ {nt X g w}, KeepOK nt keep → ∀ ex a1 w1, Post X g nt w (m, e1, sg1) ex a1 w1 → Post X g nt w (m, if isNrm m then restrict e1 keep else e1, sg1) ex a1 w1 := by
      rintro nt X g w hk ex a1 w1 ⟨hm, g1, hR1, hE, hP⟩
      refine ⟨hm, g1, ?_, hE, hP⟩
      cases m with
      | nrm => exact hR1.keep hk
      | ext i => exact hR1
      | ret => exact hR1
    intro code nt hC X g a w hR
    cases hC with
    | kp b keep code hk c1 =>
      obtain ⟨h3, h4⟩ := ih _ _ _ _ h1 code nt c1 X g a w hR
      exact ⟨wpIn_mono h3 (up hk), fun b' hb => (h4 b' hb).mono (up hk)⟩

theorem Ex.good (hM : MachOK P M) {c : MC} {e : Env} {o : Out} (h : Ex M c e sg o) : Good P M c e sg o := by
  induction h with
  | mk rec c e sg o hr hs ih => exact step_good hM ih hs
theorem acall_good (hM : MachOK P M) : CallGood P (acall M) := callW_good hM fun c e sg o h => Ex.good hM (ex_iff.1 h)
end Go.Proofs.YtggoaggneapneaaDoorM
