/-
  The mirror, part 32: from the evaluator's answer to the machine's call: how a law is proved.
-/
import Derived.Test.YtggoaggneapneaaDoorM31
import Derived.Below
import Derived.LaidLaws
import Derived.Lib.LaidTab
import Derived.FnData
set_option linter.unusedVariables false
set_option linter.unusedSimpArgs false
namespace Go.Proofs.YtggoaggneapneaaDoorM
open Go Go.RowKit
variable {P : Program} {M : Mach}

def sg0 : Sig := { bl := [], fl := 0 }
/-- What is known at the begin: all that memory holds. -/
def gAt (W : World) : G := { F := fun b o => W.cell? ⟨b, o, none⟩, be := [], ob := fun _ => none }
theorem srel_start {W : World} (hB : ∀ b o x, B0 b o = some x → W.cell? ⟨b, o, none⟩ = some x) : SRel (fun k => k < W.heap.size) (gAt W) sg0 W := by
  have hno : ∀ hm sz xs, atHome { env := [], sg := sg0, pr := [] } hm ≠ some (.own sz xs) := by
    intro hm sz xs e
    cases hm with
    | slot t => cases e
    | cell b q =>
      obtain ⟨_, h2⟩ := atHome_cell.1 e
      simp [cellAt, sg0] at h2
  refine { fok := fun b o x e => e, bas := hB, obk := fun b o e => (by cases e), len := rfl, inj := fun i j k e => (by simp [gAt] at e), blk := fun i k cs e => (by simp [gAt] at e), wrt := fun i k _ e => (by simp [gAt] at e), xlt := fun k hk => hk, nt := rfl, env := fun t v e => (by cases e), prv := fun d hm e => (by cases e), prm := fun hm sz xs e => absurd e (hno hm sz xs), dst := fun hm hm' sz xs sz' xs' k o n c o' n' c' e => absurd e (hno hm sz xs), dfr := rfl }
theorem bridge (hM : MachOK P M) {f : Nat} {fn : Func} {c : Code} {args : List AV} {vs : Array Value} {W : World} {sg' : Sig} (hf : P.funcs[f]? = some fn) (hb : fn.body = some c) (hname : (fn.name == "runtime.NumGoroutine") = false)
    (hB : ∀ b o x, B0 b o = some x → W.cell? ⟨b, o, none⟩ = some x) (ha : Args (gAt W) args vs.toList) (h : acall M f args sg0 = some (.pv (.bool true), sg')) :
    Calls P f vs W fun e W' => e = .returned (.bool true) ∧ Below W.heap.size W W' := by
  have hn : fn.name ≠ "runtime.NumGoroutine" := by simpa using hname
  have hD := acall_good hM f args sg0 (.pv (.bool true)) sg' h _ (gAt W) W vs.toList (srel_start hB) ha
  rcases hD with ⟨v, w', h1, _⟩ | ⟨_, h2⟩
  · simp [callFunc, hf, hn, hb] at h1
  · rw [callsIn_wide] at h2
    simp only [Array.toArray_toList] at h2
    refine h2.mono fun e W' ⟨v, he, g', hS, hr, ho, hE, hP⟩ => ?_
    cases hr with
    | pv p v hp =>
      cases hp
      exact ⟨he, hP.os, hP.tape, hP.output, hP.size, fun k hk => (hP.same k hk).eq⟩

theorem laidVars_mem {W : World} : ∀ {laid : List (String × DataW Unit)} {ps : List MemPlace}, DataW.LaidVars P W laid ps → ∀ {n : String} {d : DataW Unit}, (n, d) ∈ laid →
    ∃ g t cs fuel p, P.globalNamed n = some g ∧ (P.globals[g]?).map (·.type) = some t ∧ W.var? P n = some cs ∧ DataW.trod (fun _ => ()) P W 0 (fun _ => true) false fuel t cs.toList = some (d, p)
  | [], _, _, n, d, hm => by cases hm
  | (n', d') :: r, ps, h, n, d, hm => by
    obtain ⟨g, t, cs, fuel, p, q, h1, h2, h3, h4, h5, _⟩ := h
    rcases List.mem_cons.1 hm with e | e
    · cases e; exact ⟨g, t, cs, fuel, p, h1, h2, h3, h4⟩
    · exact laidVars_mem h5 e
/-- A table of numbers that a row lists: its cells. -/
theorem tab_cells {W : World} {laid : List (String × DataW Unit)} (h : laidMet P laid W) {name : String} {k : IntKind} {zs : List Int} {g : Nat} {t e : TypeId} {n : Nat} (hm : (name, Lib.tabData k zs) ∈ laid)
    (hg : P.globalNamed name = some g) (hty : (P.globals[g]?).map (·.type) = some t) (ht : P.underlying t = some (.array n e)) (he : P.underlying e = some (.int k)) (hce : P.cellsOf e = 1) (hct : P.cellsOf t = n)
    (o : Nat) (x : Value) (hx : (zs[o]?).map (Value.int k) = some x) : W.cell? ⟨g, o, none⟩ = some x := by
  obtain ⟨ps, hv, _⟩ := h
  obtain ⟨g', t', cs, fuel, p, h1, h2, h3, h4⟩ := laidVars_mem hv hm
  obtain rfl := Option.some.inj (hg.symm.trans h1)
  obtain rfl := Option.some.inj (hty.symm.trans h2)
  have hc := Lib.cells_of_tab ht he hce hct h4
  have := World.var?_cell hg h3 o
  rw [this]
  rw [← Array.getElem?_toList, hc, List.getElem?_map]
  exact hx
theorem args_nil {g : G} : Args g [] [] := ⟨rfl, fun j x v e => (by simp at e)⟩
theorem args_cons {g : G} {x : AV} {v : Value} {l : List AV} {vs : List Value} (h : ARep g x v) (ho : isOwn x = false) (ht : Args g l vs) : Args g (x :: l) (v :: vs) := by
  refine ⟨by simp [ht.1], fun j y u e1 e2 => ?_⟩
  cases j with
  | zero => simp at e1 e2; subst e1; subst e2; exact ⟨h, ho⟩
  | succ j => exact ht.2 j y u (by simpa using e1) (by simpa using e2)
end Go.Proofs.YtggoaggneapneaaDoorM
