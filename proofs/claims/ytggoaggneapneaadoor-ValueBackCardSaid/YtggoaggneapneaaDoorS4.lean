/-
  Package strconv: reading numbers.
-/
import Derived.Test.YtggoaggneapneaaDoorS2
import Derived.Test.YtggoaggneapneaaDoorS3
set_option linter.unusedVariables false
set_option linter.unusedSimpArgs false
namespace Go.Proofs.YtggoaggneapneaaDoorM
open Go

theorem wrap_u64 {n : Int} (h : 0 ≤ n) (h' : n < 18446744073709551616) : IntKind.u64.wrap n = n := by
  exact IntWalk.u64_in _ ⟨h, by omega⟩
theorem wrap_u8in {n : Int} (h : 0 ≤ n) (h' : n < 256) : IntKind.u8.wrap n = n := by
  rw [IntKind.wrap_u8]; omega
/-- What a digit tells. -/
def dv (c : UInt8) : Nat := if c.toNat ≤ 57 then c.toNat - 48 else c.toNat - 87
/-- A digit, of ten or of sixteen. -/
def isDig (bs : Nat) (c : UInt8) : Prop := (48 ≤ c.toNat ∧ c.toNat ≤ 57) ∨ (bs = 16 ∧ 97 ≤ c.toNat ∧ c.toNat ≤ 102)
theorem dv_lt {bs : Nat} (hb : bs = 10 ∨ bs = 16) {c : UInt8} (h : isDig bs c) : dv c < bs := by
  unfold dv
  rcases h with h | h <;> split <;> rcases hb with hb | hb <;> omega
theorem c_low81 (c : UInt8) (h : 97 ≤ c.toNat ∧ c.toNat ≤ 102) (sg : Sig) : acall mach 81 [.pv (.int .u8 (c.toNat : Int))] sg = some (.pv (.int .u8 (c.toNat : Int)), sg) := by
  obtain ⟨h1, h2⟩ := h
  have h3 : c.toNat = 97 ∨ c.toNat = 98 ∨ c.toNat = 99 ∨ c.toNat = 100 ∨ c.toNat = 101 ∨ c.toNat = 102 := by omega
  rcases h3 with h | h | h | h | h | h <;> rw [h] <;> exact callN_le mach 100 _ _ sg _ (by kernel_rfl)
/-- The number of the digits of a text, behind a number. -/
def valF (bs : Nat) (a : Nat) (s : List UInt8) : Nat := s.foldl (fun a c => a * bs + dv c) a
def valB (bs : Nat) (s : List UInt8) : Nat := valF bs 0 s
def envPU (s : List UInt8) (bs : Nat) (co : Int) (i a : Nat) : Env := [(1, .pv (.int .i64 (bs : Int))), (8, .pv (.bool false)), (9, .pv (.str s)), (10, .pv (.int .u64 co)), (11, .pv (.int .u64 18446744073709551615)), (12, .pv (.bool false)), (13, .pv (.int .u64 (a : Int))), (99, .pv (.sl (ofBs s))), (100, .pv (.int .i64 (s.length : Int))), (101, .pv (.int .i64 (i : Int)))]
theorem ofBs_at (s : List UInt8) (i : Nat) (h : i < s.length) : (ofBs s)[i]? = some [.int .u8 (s[i].toNat : Int)] := by simp [ofBs, h]
theorem pow16 (i : Nat) (h : i ≤ 11) : 16 ^ i ≤ 17592186044416 := by
  have := Nat.pow_le_pow_right (show 0 < 16 by omega) h
  omega
theorem loop_pu (s : List UInt8) (bs : Nat) (hb : bs = 10 ∨ bs = 16) (co : Int) (hco : 1152921504606846976 ≤ co) (hd : ∀ c ∈ s, isDig bs c) (hm : s.length ≤ 11) (sg : Sig) : ∀ n i a : Nat, i + n = s.length → a < 16 ^ i →
    ex mach (.loop lp70x0) (envPU s bs co i a) sg = some (.ext 3, envPU s bs co s.length (valF bs a (s.drop i)) ++ [(102, .pv (.bool false))], sg)
  | 0, i, a, h, ha => by
    obtain rfl : i = s.length := by omega
    rw [ex_loopU lp70x0.eq_1]
    simp [envPU, valF]
  | n + 1, i, a, h, ha => by
    have hi : i < s.length := by omega
    have e4 : (i : Int) < s.length := by omega
    have e5 : (0 : Int) ≤ i := by omega
    have hw : IntKind.i64.wrap ((i : Int) + 1) = (i : Int) + 1 := wrap_in (by omega) (by omega)
    have hx : (((i + 1 : Nat)) : Int) = (i : Int) + 1 := by simp
    have hl := ofBs_len s
    have hat := ofBs_at s i hi
    have hdi := hd s[i] (List.getElem_mem hi)
    have hlt := dv_lt hb hdi
    have hp := pow16 i (by omega)
    have hle : a * bs ≤ a * 16 := Nat.mul_le_mul_left _ (by omega)
    have hpe : 16 ^ (i + 1) = 16 ^ i * 16 := Nat.pow_succ 16 i
    have hrec := loop_pu s bs hb co hco hd hm sg n (i + 1) (a * bs + dv s[i]) (by omega) (by omega)
    have hdr : valF bs a (s.drop i) = valF bs (a * bs + dv s[i]) (s.drop (i + 1)) := by
      rw [List.drop_eq_getElem_cons hi]; rfl
    simp only [envPU, hx] at hrec
    rw [hdr, ex_loopU lp70x0.eq_1]
    have w1 : IntKind.u8.wrap (bs : Int) = bs := wrap_u8in (by omega) (by omega)
    have w2 : IntKind.u64.wrap (bs : Int) = bs := wrap_u64 (by omega) (by omega)
    have w3 : IntKind.u64.wrap ((a : Int) * bs) = ((a * bs : Nat) : Int) := by rw [← Int.natCast_mul]; exact wrap_u64 (by omega) (by omega)
    have w4 : IntKind.u64.wrap (dv s[i] : Int) = dv s[i] := wrap_u64 (by omega) (by omega)
    have w5 : IntKind.u64.wrap (((a * bs : Nat) : Int) + dv s[i]) = ((a * bs + dv s[i] : Nat) : Int) := by rw [← Int.natCast_add]; exact wrap_u64 (by omega) (by omega)
    have c1 : ¬ ((bs : Int) ≤ dv s[i]) := by omega
    have c2 : ¬ (co ≤ (a : Int)) := by omega
    have c3 : ¬ (((a * bs + dv s[i] : Nat) : Int) < ((a * bs : Nat) : Int)) := by omega
    have c4 : ¬ ((18446744073709551615 : Int) < ((a * bs + dv s[i] : Nat) : Int)) := by omega
    have n95 : ¬ ((s[i].toNat : Int) = 95) := by rcases hdi with h | h <;> omega
    generalize a * bs + dv s[i] = a2 at hrec w5 c3 c4 ⊢
    generalize a * bs = ab at w3 w5 c3 ⊢
    rcases hdi with hq | hq
    · have d1 : (48 : Int) ≤ s[i].toNat := by omega
      have d2 : (s[i].toNat : Int) ≤ 57 := by omega
      have d3 : IntKind.u8.wrap ((s[i].toNat : Int) - 48) = dv s[i] := by
        rw [wrap_u8in (by omega) (by omega)]; unfold dv; rw [if_pos hq.2]; omega
      simp [envPU, e4, e5, hl, hat, hw, d1, d2, d3, n95, w1, w2, w3, w4, w5, c1, c2, c3, c4, hrec]
    · have d1 : (48 : Int) ≤ s[i].toNat := by omega
      have d2 : ¬ (s[i].toNat : Int) ≤ 57 := by omega
      have d4 : (97 : Int) ≤ s[i].toNat := by omega
      have d5 : (s[i].toNat : Int) ≤ 122 := by omega
      have d6 : IntKind.u8.wrap ((s[i].toNat : Int) - 97) = (s[i].toNat : Int) - 97 := wrap_u8in (by omega) (by omega)
      have d3 : IntKind.u8.wrap ((s[i].toNat : Int) - 97 + 10) = dv s[i] := by
        rw [wrap_u8in (by omega) (by omega)]; unfold dv; rw [if_neg (by omega)]; omega
      have hc := c_low81 s[i] hq.2
      simp [envPU, e4, e5, hl, hat, hw, d1, d2, d3, d4, d5, d6, hc, n95, w1, w2, w3, w4, w5, c1, c2, c3, c4, hrec]
theorem valB_lt (bs : Nat) (hb : bs = 10 ∨ bs = 16) : ∀ (s : List UInt8) (a i : Nat), (∀ c ∈ s, isDig bs c) → a < bs ^ i → valF bs a s < bs ^ (i + s.length)
  | [], a, i, _, h => h
  | c :: s, a, i, hd, h => by
    have h1 := dv_lt hb (hd c (by simp))
    have h2 : a * bs + dv c < bs ^ (i + 1) := by
      rw [Nat.pow_succ]
      have h3 : (a + 1) * bs ≤ bs ^ i * bs := Nat.mul_le_mul_right _ h
      rw [Nat.add_mul] at h3
      omega
    have h4 := valB_lt bs hb s (a * bs + dv c) (i + 1) (fun c hc => hd c (List.mem_cons_of_mem _ hc)) h2
    rw [show i + (c :: s).length = i + 1 + s.length by simp; omega]
    exact h4
theorem c_ParseUint (s : List UInt8) (bs : Nat) (hb : bs = 10 ∨ bs = 16) (hd : ∀ c ∈ s, isDig bs c) (h0 : s ≠ []) (hm : s.length ≤ 11) (sg : Sig) : acall mach 70 [.pv (.str s), .pv (.int .i64 (bs : Int)), .pv (.int .i64 64)] sg = some (.tup [.pv (.int .u64 (valB bs s : Int)), .nilif], sg) := by
  rw [acall_fn (mf := mf70) rfl rfl rfl rfl]
  have h1 : (s == []) = false := by simpa using h0
  have h2 : (s.length : Int) ≤ 140737488355328 := by omega
  have h2' : s.length ≤ 140737488355328 := by omega
  have hw64 : IntKind.u64.wrap 64 = 64 := by decide
  have h8 := ofBs_len s
  have hmx : IntKind.u64.wrap (IntKind.u64.wrap (2 ^ min 64 IntKind.u64.bits) - 1) = 18446744073709551615 := by decide
  rcases hb with rfl | rfl
  · have hl := loop_pu s 10 (.inl rfl) 1844674407370955162 (by omega) hd hm { bl := [], fl := 0 } s.length 0 0 (by omega) (by simp)
    simp only [envPU, Int.natCast_zero, Int.cast_ofNat_Int, List.drop_zero] at hl
    simp [mf70, hw64, h0, h1, h2, h2', h8, hmx, hl, valB]
  · have hl := loop_pu s 16 (.inr rfl) 1152921504606846976 (by omega) hd hm { bl := [], fl := 0 } s.length 0 0 (by omega) (by simp)
    simp only [envPU, Int.natCast_zero, Int.cast_ofNat_Int, List.drop_zero] at hl
    simp [mf70, hw64, h0, h1, h2, h2', h8, hmx, hl, valB]
theorem c_ParseIntI (s : List UInt8) (bs : Nat) (hb : bs = 10 ∨ bs = 16) (hd : ∀ c ∈ s, isDig bs c) (h0 : s ≠ []) (hm : s.length ≤ 11) (sg : Sig) : acall mach 60 [.pv (.str s), .pv (.int .i64 (bs : Int)), .pv (.int .i64 64)] sg = some (.tup [.pv (.int .i64 (valB bs s : Int)), .nilif], sg) := by
  rw [acall_fn (mf := mf60) rfl rfl rfl rfl]
  have hc := c_ParseUint s bs hb hd h0 hm
  have hv := valB_lt bs hb s 0 0 hd (by simp)
  have hp : bs ^ (0 + s.length) ≤ 17592186044416 := Nat.le_trans (Nat.pow_le_pow_left (by omega) _) (pow16 _ (by omega))
  rw [show valF bs 0 s = valB bs s from rfl] at hv
  cases s with
  | nil => exact absurd rfl h0
  | cons c s =>
    have hcd := hd c (by simp)
    have n43 : ¬ (c.toNat : Int) = 43 := by rcases hcd with h | h <;> omega
    have n45 : ¬ (c.toNat : Int) = 45 := by rcases hcd with h | h <;> omega
    generalize valB bs (c :: s) = v at hc hv ⊢
    have w : IntKind.i64.wrap (v : Int) = v := wrap_in (by omega) (by omega)
    have d1 : ¬ (9223372036854775808 : Int) ≤ v := by omega
    have w63 : IntKind.i64.wrap 63 = 63 := by decide
    have wu63 : IntKind.u64.wrap 63 = 63 := by decide
    have hsh : IntKind.u64.wrap (2 ^ min 63 IntKind.u64.bits) = 9223372036854775808 := by decide
    simp [mf60, n43, n45, hc, w, d1, w63, wu63, hsh]
theorem c_ParseInt (s : List UInt8) (bs : Nat) (hb : bs = 10 ∨ bs = 16) (hd : ∀ c ∈ s, isDig bs c) (h0 : s ≠ []) (hm : s.length ≤ 11) (sg : Sig) : acall mach 43 [.pv (.str s), .pv (.int .i64 (bs : Int)), .pv (.int .i64 64)] sg = some (.tup [.pv (.int .i64 (valB bs s : Int)), .nilif], sg) := by
  rw [acall_fn (mf := mf43) rfl rfl rfl rfl]
  have hc := c_ParseIntI s bs hb hd h0 hm
  simp [mf43, hc]
end Go.Proofs.YtggoaggneapneaaDoorM
