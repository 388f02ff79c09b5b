/-
  The mirror, part 13: conversions; append; make.
-/
import Derived.Test.YtggoaggneapneaaDoorM12
set_option linter.unusedVariables false
set_option linter.unusedSimpArgs false
namespace Go.Proofs.YtggoaggneapneaaDoorM
open Go
variable {X : Nat → Prop} {g g' : G} {nt : Nat} {s : St} {a : Act} {w w' : World} {F : Facts} {P : Program} {o : Oper}

theorem toBs_get : ∀ {xs : List (List PV)} {l : List UInt8}, toBs xs = some l → l.length = xs.length ∧ ∀ (j : Nat) b, l[j]? = some b → ∃ n : Int, xs[j]? = some [.int .u8 n] ∧ b = UInt8.ofNat n.toNat
  | [], l, e => by simp [toBs] at e; subst e; exact ⟨rfl, by simp⟩
  | r :: xs, l, e => by
    simp only [toBs] at e
    obtain ⟨b, h1, e⟩ := Option.bind_eq_some_iff.1 e
    obtain ⟨l', h2, rfl⟩ := Option.map_eq_some_iff.1 e
    obtain ⟨h3, h4⟩ := toBs_get h2
    refine ⟨by simp [h3], fun j c ej => ?_⟩
    match j with
    | 0 =>
      simp at ej
      subst ej
      unfold toB at h1
      split at h1
      · rename_i n
        simp at h1
        exact ⟨n, rfl, h1.symm⟩
      · cases h1
    | j + 1 => exact h4 j c (by simpa using ej)

theorem foldl_push : ∀ (l : List Int) (r : ByteArray), (l.foldl (fun r n => r.push (UInt8.ofNat n.toNat)) r).data = r.data ++ (l.map fun n => UInt8.ofNat n.toNat).toArray
  | [], r => by simp
  | b :: l, r => by
    simp only [List.foldl_cons, List.map_cons]
    rw [foldl_push l]
    simp [ByteArray.push]

/-- Bytes read back as a text. -/
theorem run_b2s {t u e : TypeId} {ad : Option Addr} {l : List UInt8} {c : Nat} (ht : P.underlying t = some (.slice e)) (hu : P.underlying u = some .string) (he : P.underlying e = some (.int .u8)) (hne : l ≠ [] → ∃ a, ad = some a)
    (ns : List Int) (hl : ns.map (fun n => UInt8.ofNat n.toNat) = l) (hc : ∀ a, ad = some a → ∀ (j : Nat) n, ns[j]? = some n → w.cell? (a.add j) = some (.int .u8 n)) :
    ∃ bs : ByteArray, bs.data.toList = l ∧ (convert t u (.slice ad l.length c)).run P w = .ok (.string bs) w := by
  rw [run_convert_bytes_string w t u e ad l.length c ht he hu]
  cases ad with
  | none =>
    refine ⟨.empty, ?_, rfl⟩
    have : l = [] := by
      rcases List.eq_nil_or_concat l with h | h
      · exact h
      · obtain ⟨_, h⟩ := hne (by rcases h with ⟨_, _, rfl⟩; simp)
        cases h
    rw [this]; rfl
  | some a0 =>
    have hlen : (ns.map (Value.int .u8)).length = l.length := by rw [← hl]; simp
    have h1 := run_loadCells_list (P := P) w a0 (ns.map (Value.int .u8)) (fun j v hj => by
      rw [List.getElem?_map] at hj
      obtain ⟨n, h2, rfl⟩ := Option.map_eq_some_iff.1 hj
      exact hc a0 rfl j n h2)
    rw [hlen] at h1
    rw [run_bytesToString w a0 l.length c ns h1]
    refine ⟨_, ?_, rfl⟩
    rw [foldl_push, hl]
    have he0 : ByteArray.empty.data = #[] := rfl
    rw [he0]; simp

theorem sound_b2s_rows (h : WRel X g nt s a w) {x : AV} {y : Operand} (hx : ARep g x (a.eval y)) {t u e : TypeId} (ht : P.underlying t = some (.slice e)) (hu : P.underlying u = some .string) (he : P.underlying e = some (.int .u8))
    {xs : List (List PV)} {l : List UInt8} (h1 : rowsOf x = some xs) (h2 : toBs xs = some l) : ∃ bs : ByteArray, bs.data.toList = l ∧ (convert t u (a.eval y)).run P w = .ok (.string bs) w := by
  obtain ⟨ad, c, e1, hV, hc⟩ := rep_rows hx h1
  obtain ⟨h3, h4⟩ := toBs_get h2
  rw [e1] at hV ⊢
  rw [← h3]
  cases hV with
  | slE a c =>
    have : l = [] := List.eq_nil_of_length_eq_zero (by simpa using h3)
    subst this
    exact run_b2s (ns := []) ht hu he (by simp) rfl (by simp)
  | sl _ b o' c sz cv hc' hn hF hR =>
    have hsz : l ≠ [] → sz = 1 := by
      intro hl
      cases l with
      | nil => exact absurd rfl hl
      | cons b l =>
        obtain ⟨n, h5, _⟩ := h4 0 b rfl
        rw [← hn _ (List.mem_of_getElem? h5)]; rfl
    refine run_b2s (ns := xs.map fun r => match r with
      | [.int .u8 n] => n
      | _ => 0) ht hu he (fun _ => ⟨_, rfl⟩) ?_ ?_
    · apply List.ext_getElem?
      intro j
      rcases Nat.lt_or_ge j l.length with hj | hj
      · obtain ⟨n, h5, h6⟩ := h4 j l[j] (List.getElem?_eq_getElem hj)
        simp only [List.getElem?_map, h5, Option.map_some, List.getElem?_eq_getElem hj, h6]
      · rw [List.getElem?_eq_none hj, List.getElem?_eq_none (by simpa using (by omega : xs.length ≤ j))]
    · intro a0 ea j n hj
      cases ea
      have hjl : j < l.length := by
        have := (List.getElem?_eq_some_iff.1 hj).1
        rw [List.length_map] at this; omega
      obtain ⟨m, h5, h6⟩ := h4 j l[j] (List.getElem?_eq_getElem hjl)
      simp only [List.getElem?_map, h5, Option.map_some, Option.some.injEq] at hj
      subst hj
      have hs1 := hsz (by rintro rfl; simp at hjl)
      subst hs1
      have h7 := hF j _ 0 _ h5 rfl
      have h8 := hR j _ 0 _ h5 rfl
      rw [add_plain]
      have h9 := h.fok _ _ _ h7
      generalize cv j 0 = cw at h8 h9
      cases h8
      rw [← h9]; simp

theorem ofBs_len (l : List UInt8) : (ofBs l).length = l.length := by simp [ofBs]
theorem ofBs_one (l : List UInt8) : ∀ r ∈ ofBs l, r.length = 1 := by
  intro r hr
  obtain ⟨b, _, rfl⟩ := List.mem_map.1 hr
  rfl
theorem pres_bytes (h : WRel X g nt s a w) (e : TypeId) (bs : ByteArray) : Pres X g.F w (Lib.bytesWorld w e bs) :=
  ⟨by simp [Lib.bytesWorld, World.freeze, World.alloc, World.drew, -World.alloc_eq, -World.drew_eq], by simp [Lib.bytesWorld, World.freeze, World.alloc, World.drew, -World.alloc_eq, -World.drew_eq],
    by simp [Lib.bytesWorld, World.freeze, World.alloc, World.drew, -World.alloc_eq, -World.drew_eq], by rw [Lib.bytesWorld_size]; omega, fun k hk => .inl (Lib.bytesWorld_at_old w e bs k (h.xlt k hk))⟩
theorem bytesCells_size (e : TypeId) (bs : ByteArray) : grownCap w bs.size 0 e ≤ (Lib.bytesCells w e bs).size := by
  have : bs.data.size = bs.size := rfl
  simp [Lib.bytesCells]; omega
theorem bytesCells_get (e : TypeId) (bs : ByteArray) {j : Nat} (hj : j < bs.size) : (Lib.bytesCells w e bs)[j]? = some (.int .u8 ((bs.data.toList[j]?).getD 0).toNat) := by
  have : bs.data.size = bs.size := rfl
  simp [Lib.bytesCells, Array.getElem?_append, this, hj]

theorem sound_conv (h : WRel X g nt s a w) {k : Cv} {x : Opd} {t u0 : TypeId} {y : Operand} (ho : o.op = .convert t u0 y) (hI : IOK P (.conv k x) (.convert t u0 y)) {call : Call} {u : Upd} (hs : stepI call s (.conv k x) = some u) : Sound P X g nt s u a w o := by
  obtain ⟨hx, hk⟩ := hI
  have hxr := h.opd hx
  simp only [stepI] at hs
  have text : ∀ l, (∃ bs : ByteArray, bs.data.toList = l ∧ (convert t u0 (a.eval y)).run P w = .ok (.string bs) w) → u = { v := .pv (.str l), p := none, dm := [], sg := s.sg, cl := false } → Sound P X g nt s u a w o := by
    rintro l ⟨bs, h1, h2⟩ rfl
    exact Sound.plain h (cv := .string bs) (by simp [execOp, ho, h2]) (pv_str g h1) rfl
  split at hs
  · rename_i k ks n ev
    obtain ⟨k', h1, h2⟩ := hk
    rw [ev] at hxr
    rw [plain_some hs]
    exact Sound.plain h (cv := .int k (k.wrap n)) (by simp [execOp, ho, rep_int hxr, convert, run_underlying h1, run_underlying h2, Conv.intToInt]) (pv_int _ _ _) rfl
  · rename_i l ev
    obtain ⟨h1, h2⟩ := hk
    rw [ev] at hxr
    obtain ⟨bs, e1, e2⟩ := rep_str hxr
    rw [plain_some hs]
    exact Sound.plain h (cv := .string bs) (by simp [execOp, ho, e1, convert, run_underlying h1, run_underlying h2]) (pv_str _ e2) rfl
  · rename_i l ev
    obtain ⟨e, h1, h2, h3⟩ := hk
    rw [ev] at hxr
    obtain ⟨bs, e1, e2⟩ := rep_str hxr
    have hbl := bytes_size e2
    split at hs
    · rw [plain_some hs]
      have hrun := Lib.run_convert_string_bytes (P := P) w t u0 e bs h1 h2 h3
      have hcap := grownCap_ge w bs.size 0 e
      let cs : List Value := l.map fun b => .int .u8 (b.toNat : Int)
      have hf : ∀ o x, cs[o]? = some x → (Lib.bytesWorld w e bs).cell? ⟨w.heap.size, o, none⟩ = some x := by
        intro j v ej
        refine heap_cell (Lib.bytesWorld_at_new w e bs) ?_
        simp only [cs, List.getElem?_map] at ej
        obtain ⟨b, h4, rfl⟩ := Option.map_eq_some_iff.1 ej
        have hj : j < bs.size := by rw [hbl]; exact (List.getElem?_eq_some_iff.1 h4).1
        rw [bytesCells_get e bs hj, e2, h4]; rfl
      have hR := h.growNew (Lib.bytesWorld_size w e bs) (fun k hk => Lib.bytesWorld_at_old w e bs k hk) (fun o => cs[o]?) hf
      have hle := h.facts_le (fun o => cs[o]?)
      have hrows : HasRows (g.facts w.heap.size fun o => cs[o]?).F w.heap.size 0 1 (ofBs l) :=
        HasRows.of_cells ((strCells_cells (F := g.F) l).mono hle.F) fun j v e => by simp only [G.facts, Nat.zero_add, if_true]; exact e
      have hV : VRep (g.facts w.heap.size fun o => cs[o]?).F (.sl (ofBs l)) (.slice (some ⟨w.heap.size, 0, none⟩) (ofBs l).length (grownCap w bs.size 0 e)) := .of_rows (ofBs_one l) (by rw [ofBs_len]; omega) hrows
      rw [ofBs_len, ← hbl] at hV
      exact ⟨_, _, _, _, by simp only [execOp, ho, e1, Sem.run_bind, hrun, Result.andThen_ok, Sem.run_pure], .inl rfl, h.ext_facts _, pres_bytes h e bs, hR, .pv _ _ hV, fun sz xs e => (by cases e), fun hm e => (by cases e)⟩
    · cases hs
  · rename_i l ev
    obtain ⟨e, h1, h2, h3⟩ := hk
    rw [ev] at hxr
    obtain ⟨bs, e1, e2⟩ := rep_str hxr
    have hbl := bytes_size e2
    split at hs
    · rw [plain_some hs]
      have hrun := Lib.run_convert_string_bytes (P := P) w t u0 e bs h1 h2 h3
      have hcap := grownCap_ge w bs.size 0 e
      have hsz := bytesCells_size (w := w) e bs
      have hR := h.newVar (w' := Lib.bytesWorld w e bs) (cs := l.map fun b => AV.pv (.int .u8 (b.toNat : Int))) (ccs := Lib.bytesCells w e bs) (T := e) (by rw [List.length_map]; omega) (fun j x ej => by
          rw [List.getElem?_map] at ej
          obtain ⟨b, h4, rfl⟩ := Option.map_eq_some_iff.1 ej
          have hj : j < bs.size := by rw [hbl]; exact (List.getElem?_eq_some_iff.1 h4).1
          exact ⟨_, bytesCells_get e bs hj, by rw [e2, h4]; exact pv_int _ _ _⟩)
        (fun j x ej => by
          rw [List.getElem?_map] at ej
          obtain ⟨b, h4, rfl⟩ := Option.map_eq_some_iff.1 ej
          exact ⟨rfl, rfl⟩) (fun j hj => by rw [List.length_map] at hj; simp; omega) (Lib.bytesWorld_size w e bs) (fun k hk => Lib.bytesWorld_at_old w e bs k hk) (Lib.bytesWorld_at_new w e bs)
      refine ⟨_, _, _, _, by simp only [execOp, ho, e1, Sem.run_bind, hrun, Result.andThen_ok, Sem.run_pure]; rfl, .inl rfl, h.ext_newVar, pres_bytes h e bs, hR, ?_, fun sz xs e => (by cases e), fun hm e => (by cases e)⟩
      rw [hbl]
      rw [hbl] at hcap
      exact .row _ 0 _ 1 _ _ (by rw [← h.len]; simp) hcap
    · cases hs
  · rename_i b q n sz ev
    obtain ⟨e, h1, h2, h3⟩ := hk
    rw [ev] at hxr
    split at hs
    · rename_i cs hcs
      split at hs
      · rename_i hc
        obtain ⟨rfl, hfit⟩ := hc
        obtain ⟨v, h4, rfl⟩ := plainO_some hs
        obtain ⟨l, h5, rfl⟩ := Option.map_eq_some_iff.1 h4
        obtain ⟨ps, h6, h7⟩ := Option.bind_eq_some_iff.1 h5
        refine text l ?_ rfl
        generalize hcv : a.eval y = cv at hxr ⊢
        cases hxr with
        | row b q n sz kk c hb hcc =>
          have hB := h.blk b kk cs hb hcs
          obtain ⟨h8, h9⟩ := toBs_get h7
          obtain ⟨h10, h11⟩ := purL_get h6
          have hpl : ps.length = n := by rw [h10]; simp; omega
          have hln : l.length = n := by rw [h8, List.length_map, hpl]
          rw [← hln]
          refine run_b2s (ns := ps.map fun r => match r with
            | .int .u8 n => n
            | _ => 0) h1 h2 h3 (fun _ => ⟨_, rfl⟩) ?_ ?_
          · apply List.ext_getElem?
            intro j
            rcases Nat.lt_or_ge j l.length with hj | hj
            · obtain ⟨m, h12, h13⟩ := h9 j l[j] (List.getElem?_eq_getElem hj)
              rw [List.getElem?_map] at h12
              obtain ⟨p, h14, h15⟩ := Option.map_eq_some_iff.1 h12
              simp only [List.cons.injEq, and_true] at h15
              subst h15
              simp only [List.getElem?_map, h14, Option.map_some, List.getElem?_eq_getElem hj, h13]
            · rw [List.getElem?_eq_none hj, List.getElem?_eq_none (by simpa using (by omega : ps.length ≤ j))]
          · intro a0 ea j m hj
            cases ea
            have hjl : j < l.length := by
              have := (List.getElem?_eq_some_iff.1 hj).1
              rw [List.length_map] at this; omega
            obtain ⟨m', h12, h13⟩ := h9 j l[j] (List.getElem?_eq_getElem hjl)
            rw [List.getElem?_map] at h12
            obtain ⟨p, h14, h15⟩ := Option.map_eq_some_iff.1 h12
            simp only [List.cons.injEq, and_true] at h15
            subst h15
            simp only [List.getElem?_map, h14, Option.map_some, Option.some.injEq] at hj
            subst hj
            obtain ⟨x', h16, h17⟩ := h11 j _ h14
            rw [List.getElem?_take] at h16
            rw [if_pos (by omega), List.getElem?_drop] at h16
            obtain ⟨v, h18, h19⟩ := hB.cells _ _ h16
            have h20 := pur1_rep h19 h17
            cases h20
            rw [add_plain]; exact h18
      · cases hs
    · cases hs
  · rename_i _ hnr
    obtain ⟨e, h1, h2, h3⟩ := hk
    obtain ⟨v, h4, rfl⟩ := plainO_some hs
    obtain ⟨l, h5, rfl⟩ := Option.map_eq_some_iff.1 h4
    obtain ⟨xs, h6, h7⟩ := Option.bind_eq_some_iff.1 h5
    exact text l (sound_b2s_rows h hxr h1 h2 h3 h6 h7) rfl
  · cases hs
end Go.Proofs.YtggoaggneapneaaDoorM
