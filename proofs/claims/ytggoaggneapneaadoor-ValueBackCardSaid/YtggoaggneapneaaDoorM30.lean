/-
  The mirror, part 30: functions of the library that have no body: what they hand back.
-/
import Derived.Test.YtggoaggneapneaaDoorM22
import Derived.Lib.Bytealg
set_option linter.unusedVariables false
set_option linter.unusedSimpArgs false
namespace Go.Proofs.YtggoaggneapneaaDoorM
open Go
variable {P : Program}

theorem sat_extern {f : Nat} {fn : Func} {e : Array Value → Sem Value} (hf : P.funcs[f]? = some fn) (hname : (fn.name == "runtime.NumGoroutine") = false) (hb : fn.body.isNone = true) (hn : Extern.findNext fn = none) (he : Extern.find fn = some e)
    {args : List AV} {sg : Sig} {r : AV} (hno : isOwn r = false) (h : ∀ g w vs, Args g args vs → ∃ v, (e vs.toArray).run P w = .ok v w ∧ ARep g r v) : Sat P f args sg sg r := by
  intro X g w vs hS ha
  obtain ⟨v, h1, h2⟩ := h g w vs ha
  refine .inl ⟨v, w, ?_, g, hS, h2, hno, .refl _ _, .refl _ _ _⟩
  rw [run_callFunc_extern hf hname hb hn he, h1]; rfl

def xIndexByteString : List AV → Option AV
  | [.pv (.str s), .pv (.int .u8 c)] => some (.pv (.int .i64 (Lib.indexByte s c.toNat.toUInt8)))
  | _ => none
def xCountString : List AV → Option AV
  | [.pv (.str s), .pv (.int .u8 c)] => some (.pv (.int .i64 (Lib.countByte s c.toNat.toUInt8)))
  | _ => none
theorem args_str_u8 {g : G} {s : List UInt8} {c : Int} {vs : List Value} (h : Args g [.pv (.str s), .pv (.int .u8 c)] vs) : ∃ bs : ByteArray, vs = [.string bs, .int .u8 c] ∧ bs.data.toList = s := by
  obtain ⟨hl, h⟩ := h
  match vs, hl with
  | [v0, v1], _ =>
    have h0 := (h 0 _ v0 rfl rfl).1
    have h1 := (h 1 _ v1 rfl rfl).1
    cases h0 with
    | pv p v hp =>
      cases hp with
      | str s bs hs =>
        cases h1 with
        | pv p v hp =>
          cases hp
          exact ⟨bs, rfl, hs⟩
theorem sat_indexByteString {f : Nat} {fn : Func} (hf : P.funcs[f]? = some fn) (hname : (fn.name == "runtime.NumGoroutine") = false) (hb : fn.body.isNone = true) (hn : Extern.findNext fn = none) (he : Extern.find fn = some Extern.BytealgIndexByte.indexByte)
    (args : List AV) (sg : Sig) (r : AV) (h : xIndexByteString args = some r) : Sat P f args sg sg r := by
  unfold xIndexByteString at h
  split at h
  · cases h
    refine sat_extern hf hname hb hn he rfl fun g w vs ha => ?_
    obtain ⟨bs, rfl, rfl⟩ := args_str_u8 ha
    exact ⟨_, Lib.run_indexByteString bs _ w, .pv _ _ (.int _ _)⟩
  · cases h
theorem sat_countString {f : Nat} {fn : Func} (hf : P.funcs[f]? = some fn) (hname : (fn.name == "runtime.NumGoroutine") = false) (hb : fn.body.isNone = true) (hn : Extern.findNext fn = none) (he : Extern.find fn = some Extern.BytealgCount.count)
    (args : List AV) (sg : Sig) (r : AV) (h : xCountString args = some r) : Sat P f args sg sg r := by
  unfold xCountString at h
  split at h
  · cases h
    refine sat_extern hf hname hb hn he rfl fun g w vs ha => ?_
    obtain ⟨bs, rfl, rfl⟩ := args_str_u8 ha
    exact ⟨_, Lib.run_countString bs _ w, .pv _ _ (.int _ _)⟩
  · cases h
end Go.Proofs.YtggoaggneapneaaDoorM
