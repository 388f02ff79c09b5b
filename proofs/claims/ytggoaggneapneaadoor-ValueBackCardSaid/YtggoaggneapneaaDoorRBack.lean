/-
  ValueBack, out of the evaluator's answer.
-/
import Derived.Test.YtggoaggneapneaaDoorTab
import Derived.Test.YtggoaggneapneaaDoorCards
import Derived.Test.YtggoaggneapneaaDoorTie
import Derived.ProofKit
import Derived.ChangeSame
import Derived.OpenShut
import Derived.LaidMore
import Derived.SevenTiedAt
import Derived.Deep.DeepHandedRow
import Derived.Deep.DeepWitnessRowRef
set_option linter.unusedVariables false
set_option linter.unusedSimpArgs false
namespace Go.Proofs.YtggoaggneapneaaDoorM.valueBack
open Go Go.ChangeShapes Go.WideShapes Go.ChangeAt Go.RowKit Go.Proofs.YtggoaggneapneaaDoor
open Go.ChangeMaps (open_string shut_string)

def Law : Prop := ∀ (p k n : Int) (s : List UInt8), (Lit.int .i64 p).wf = true → (Lit.int .i64 k).wf = true → (Lit.int .i64 n).wf = true → s.length ≤ maxLen → ∃ sg', acall mach 3 [.pv (.int .i64 p), .agg [.pv (.int .i64 k), .pv (.int .i64 n)], .pv (.str s)] sg0 = some (.pv (.bool true), sg')

section
variable {H : Type} {enc : TypeId × Value → H} {P : Program} {W : World} {base : Nat} {sp : Nat → Bool} {held : Bool}
theorem open_i2 {t : TypeId} {f0 f1 : Field} (ht : P.underlying t = some (.struct #[f0, f1])) (hc : P.cellsOf t = 2) (o0 : f0.offset = 0) (o1 : f1.offset = 1) (c0 : P.cellsOf f0.type = 1) (c1 : P.cellsOf f1.type = 1)
    (h0 : P.underlying f0.type = some (.int .i64)) (h1 : P.underlying f1.type = some (.int .i64)) {r : Reach} {b0 : Nat} {v : Value} {d : DataW H} {ps : List MemPlace} (hval : Value.okWide P W r b0 t v) (hd : DataW.Trod enc P W base sp held t v d ps) :
    ∃ a b : Int, v = .agg #[.int .i64 a, .int .i64 b] ∧ d = .agg [.lit (.int .i64 a), .lit (.int .i64 b)] ∧ ps = [] ∧ (Lit.int .i64 a).wf = true ∧ (Lit.int .i64 b).wf = true := by
  obtain ⟨cs, rfl, hsz⟩ := okWide_struct ht hval
  rw [hc] at hsz
  obtain ⟨l⟩ := cs
  match l, hsz with
  | [x0, x1], _ =>
    obtain ⟨fuel, hf⟩ := hd
    obtain ⟨y0, y1, n, e1, _, g0, g1⟩ := Go.ChangeShapes.trod_struct2 ht hf
    rw [o0, c0] at g0
    rw [o1, c1] at g1
    obtain ⟨a, ea, rfl, wa⟩ := DataW.trod_int h0 g0
    obtain ⟨b, eb, rfl, wb⟩ := DataW.trod_int h1 g1
    simp [Value.cells] at ea eb
    subst ea; subst eb
    simp only [Prod.mk.injEq] at e1
    exact ⟨a, b, rfl, by rw [e1.1], by rw [e1.2]; rfl, wa, wb⟩
theorem shut_i2 {t : TypeId} {f0 f1 : Field} (ht : P.underlying t = some (.struct #[f0, f1])) (hc : P.cellsOf t = 2) (o0 : f0.offset = 0) (o1 : f1.offset = 1) (c0 : P.cellsOf f0.type = 1) (c1 : P.cellsOf f1.type = 1)
    (h0 : P.underlying f0.type = some (.int .i64)) (h1 : P.underlying f1.type = some (.int .i64)) {a b : Int} (wa : (Lit.int .i64 a).wf = true) (wb : (Lit.int .i64 b).wf = true) :
    DataW.Trod enc P W base sp held t (.agg #[.int .i64 a, .int .i64 b]) (.agg [.lit (.int .i64 a), .lit (.int .i64 b)]) [] :=
  ⟨2, by
    have := Go.ChangeShapes.trod_struct2_mk (enc := enc) (w := W) (base := base) (spare := sp) (held := held) (n := 1) (cs := [.int .i64 a, .int .i64 b]) (y0 := (.lit (.int .i64 a), [])) (y1 := (.lit (.int .i64 b), [])) ht (by rw [hc]; rfl)
      (by rw [o0, c0]; exact Go.ChangeShapes.trod_int_mk 0 h0 wa) (by rw [o1, c1]; exact Go.ChangeShapes.trod_int_mk 0 h1 wb)
    exact this⟩
end
theorem c23 : Tryd.prog.cellsOf 23 = 2 := by kernel_rfl
theorem one3 : Tryd.prog.cellsOf 3 = 1 := by kernel_rfl
theorem one2 : Tryd.prog.cellsOf 2 = 1 := by kernel_rfl
theorem own : ownKnob Tryd.prog.godebug = none := by kernel_rfl
set_option maxRecDepth 100000 in
theorem contract (L : Law) (H : Type) (enc : TypeId × Value → H) (W : World) (base : Nat) (args : Array Value) (ds gs : List (DataW H)) (before : List MemPlace)
    (hval : ∀ (j : Nat) t v, Tryd.f3.params[j]? = some t → args[j]? = some v → Value.okWide Tryd.prog W .any base t v)
    (hW : DataW.Whole enc Tryd.prog Tryd.f3.params.toList Rows.valueBackSpec.vars false W args.toList ds gs before) (hL : laidMetH Tryd.prog Rows.valueBackRow.laid W) :
    Calls Tryd.prog 3 args W fun e W' => ∃ v, e = .returned v ∧ Rows.valueBackSpec.post enc Tryd.prog Tryd.f3 false true false false W args v W' := by
  have hW' := hW
  obtain ⟨p, q, hA0, hV, rfl, hfz, hnd⟩ := hW
  have hA : DataW.TrodAll enc Tryd.prog W 0 (fun _ => true) true Tryd.f3.params.toList args.toList ds p := hA0
  rw [Tryd.params3] at hA hval
  obtain ⟨v0, vs0, d0, ds0, p0, q0, hargs, rfl, rfl, h0, r0⟩ := trodAll_cons hA
  obtain ⟨v1, vs1, d1, ds1, p1, q1, rfl, rfl, rfl, h1, r1⟩ := trodAll_cons r0
  obtain ⟨v2, vs2, d2, ds2, p2, q2, rfl, rfl, rfl, h2, r2⟩ := trodAll_cons r1
  obtain ⟨rfl, rfl, rfl⟩ := trodAll_nil r2
  obtain rfl : args = #[v0, v1, v2] := by cases args; simp_all
  obtain ⟨rfl, rfl⟩ := trodVars_none hV
  obtain ⟨a0, rfl, rfl, rfl, w0⟩ := open_int Tryd.underlying3 (hval 0 3 v0 rfl rfl) h0
  obtain ⟨k1, n1, rfl, rfl, rfl, wk, wn⟩ := open_i2 Tryd.underlying23 c23 rfl rfl one3 one2 Tryd.underlying3 Tryd.underlying2 (hval 1 23 v1 rfl rfl) h1
  obtain ⟨a2, rfl, rfl, rfl, w2⟩ := open_string Tryd.underlying9 (hval 2 9 v2 rfl rfl) h2
  obtain ⟨sg', hr⟩ := L a0 k1 n1 a2.data.toList w0 wk wn (by rw [Array.length_toList]; exact w2)
  have hagg : ∀ g, ARep g (.agg [.pv (.int .i64 k1), .pv (.int .i64 n1)]) (.agg #[.int .i64 k1, .int .i64 n1]) := fun g => .agg _ [.int .i64 k1, .int .i64 n1] rfl (by
    intro j x v hx hv
    match j with
    | 0 => cases hx; cases hv; exact .pv _ _ (.int _ _)
    | 1 => cases hx; cases hv; exact .pv _ _ (.int _ _)
    | j + 2 => simp at hx)
  refine (bridge machOK Tryd.func3 rfl (by kernel_rfl) (B0_ok (by kernel_rfl) (by kernel_rfl) (by kernel_rfl) (by kernel_rfl) hL) (args_cons (.pv _ _ (.int _ _)) rfl (args_cons (hagg _) rfl (args_cons (.pv _ _ (.str _ _ rfl)) rfl args_nil))) hr).mono fun e W' ⟨he, bel⟩ => ?_
  subst he
  exact ⟨_, rfl, _, _, _, [], _, [], hW', trodAll_mk1 (shut_bool Tryd.underlying4 _), (trodAll_cons_mk (shut_int Tryd.underlying3 w0) (trodAll_cons_mk (shut_i2 Tryd.underlying23 c23 rfl rfl one3 one2 Tryd.underlying3 Tryd.underlying2 wk wn) (trodAll_cons_mk (shut_string Tryd.underlying9 w2) trodAll_mk0))), rfl, bel.frame _, fun h => by cases h⟩

def wit : Array Value := #[.int .i64 0, .agg #[.int .i64 0, .int .i64 0], .string .empty]
noncomputable def laidW (os : Os) : World :=
  { World.doorLaid Tryd.prog 4000 os with heap := (World.doorLaid Tryd.prog 4000 os).heap.modify 5 fun
      | .cells _ t frozen => .cells (Go.Pinned.utf8FirstZ.map fun (n : Nat) => Value.int .u8 (n : Int)).toArray t frozen
      | o => o }
theorem laid_met (os : Os) : laidMetH Tryd.prog Rows.valueBackRow.laid ((laidW os).forCall (fun _ _ => 0) ⟨#[], wit, []⟩).memory :=
  laidMetH_of_parts3 (fuel := 8) (laidMet_of_run' 8 (by kernel_rfl) (by kernel_rfl)) (by kernel_rfl) (by kernel_rfl)
theorem reads (os : Os) {H : Type} (enc : TypeId × Value → H) : ∃ places, DataW.whole enc Tryd.prog ((laidW os).forCall (fun _ _ => 0) ⟨#[], wit, []⟩).memory Tryd.f3.params.toList Rows.valueBackSpec.vars false wit.toList 8 = some ([.lit (.int .i64 0), .agg [.lit (.int .i64 0), .lit (.int .i64 0)], .lit (.string [])], [], places) :=
  ⟨[], by kernel_rfl⟩

set_option maxRecDepth 100000 in
theorem lifted (L : Law) (os : Os) (started : os.Started) (H : Type) (enc : TypeId × Value → H) (F : Stop.Interp) :
    ReturnsInHanded {} Tryd.checked os 3 .any ((OpenSpec.ofChange Rows.valueBackSpec).preRow enc Tryd.prog Tryd.f3 Rows.valueBackRow.domain false Rows.valueBackRow.laid) (((OpenSpec.ofChange Rows.valueBackSpec).at F).post enc Tryd.prog Tryd.f3 false true false false) := by
  obtain ⟨places, hx⟩ := reads os enc
  refine returnsInHanded_of_row (C := Tryd.checked) (s := OpenSpec.ofChange Rows.valueBackSpec) own started (by kernel_rfl) Tryd.func3
    (witness_row_atRef (enc := enc) (C := Tryd.checked) false (laidW os) wit rfl (by kernel_rfl) (by kernel_rfl) (by kernel_rfl)
      (OpenSpec.preRow_of_cond 8 hx (by kernel_rfl) (fun k hk => by cases hk) (by kernel_rfl) (laid_met os))) ?_
  intro W base args ds gs before hval hW _ _ _ hL _ _
  exact contract L H enc W base args ds gs before hval hW hL
theorem said (L : Law) : Rows.ValueBackSaid :=
  OpenClaim.holds_of_cond 3 Tryd.f3 rfl rfl rfl rfl rfl rfl rfl ⟨rfl, rfl, rfl, rfl, rfl⟩ rfl rfl rfl rfl rfl (by kernel_rfl) Tryd.func3 (by kernel_rfl)
    (of_decide_eq_true (by kernel_rfl)) (by unfold Func.isWrapper; first | (rw [if_pos (by decide +kernel)]; kernel_rfl) | (rw [if_neg (by decide +kernel)]; exact ⟨rfl, rfl⟩))
    (fun os started H enc _ F => by rw [OpenClaim.pre_eq_preRow]; exact lifted L os started H enc F)
theorem plain (f : FuncId) (fn : Func) (hf : Tryd.pinned.checked.prog.funcNamed "scrim/scrimlaw08.ValueBack" = some f) (hfn : Tryd.pinned.checked.prog.funcs[f]? = some fn) :
    true = Tryd.pinned.checked.prog.looks [] ∧ ∀ (j : Nat) t, fn.params[j]? = some t → Tryd.pinned.checked.prog.wantsStandIn t = false := by
  obtain rfl : f = 3 := Option.some.inj ((show Tryd.prog.funcNamed "scrim/scrimlaw08.ValueBack" = some 3 by kernel_rfl).symm.trans hf) |>.symm
  obtain rfl : fn = Tryd.f3 := (Option.some.inj (Tryd.func3.symm.trans hfn)).symm
  refine ⟨by kernel_rfl, fun j t ht => ?_⟩
  rw [Tryd.params3] at ht
  have hm : t ∈ [3, 23, 9] := by simpa using Array.mem_of_getElem? ht
  have hall : ([3, 23, 9].all fun u => !Tryd.prog.wantsStandIn u) = true := by kernel_rfl
  exact (show Tryd.prog.wantsStandIn t = false by simpa using List.all_eq_true.1 hall t hm)
theorem card (L : Law) : Rows.ValueBackCardSaid :=
  Claim7.holds_tied_plain_at .later [] _ _ _ _ (said L) (fun _ h => by cases h) (by kernel_rfl) (fun _ h => by cases h) valueBack_row_tie rfl ⟨rfl, rfl⟩ (by kernel_rfl) rfl plain (by kernel_rfl)
end Go.Proofs.YtggoaggneapneaaDoorM.valueBack
