/-
  Made of: S5, S6, V5, S7, S8, V6, V7, V8, V9.
-/
import Derived.Test.YtggoaggneapneaaDoorS4
import Derived.Test.YtggoaggneapneaaDoorV4
set_option linter.unusedVariables false
set_option linter.unusedSimpArgs false
namespace Go.Proofs.YtggoaggneapneaaDoorM
open Go

def hexC (m : Nat) : UInt8 := UInt8.ofNat (if m < 10 then 48 + m else 87 + m)
def digs36 : List UInt8 := [48, 49, 50, 51, 52, 53, 54, 55, 56, 57, 97, 98, 99, 100, 101, 102, 103, 104, 105, 106, 107, 108, 109, 110, 111, 112, 113, 114, 115, 116, 117, 118, 119, 120, 121, 122]
theorem hexC_at (m : Nat) (h : m < 16) : digs36[m]? = some (hexC m) := by
  have hh : ∀ k : Fin 16, digs36[k.val]? = some (hexC k.val) := by decide +kernel
  exact hh ⟨m, h⟩
theorem and15 (u : Nat) (h : u < 18446744073709551616) : IntKind.u64.wrap ((u % 2 ^ IntKind.u64.bits &&& 15 % 2 ^ IntKind.u64.bits : Nat) : Int) = ((u % 16 : Nat) : Int) := by
  have e : (u % 2 ^ IntKind.u64.bits &&& 15 % 2 ^ IntKind.u64.bits : Nat) = u % 16 := by
    rw [show (IntKind.u64.bits) = 64 from rfl, Nat.mod_eq_of_lt h, show 15 % 2 ^ 64 = 2 ^ 4 - 1 by decide, Nat.and_two_pow_sub_one_eq_mod]
  rw [e, wrap_u64 (by omega) (by omega)]
theorem shr4 (u : Nat) : Int.fdiv (u : Int) (2 ^ min 4 IntKind.u64.bits) = ((u / 16 : Nat) : Int) := by
  rw [show ((2 : Int) ^ min 4 IntKind.u64.bits) = ((16 : Nat) : Int) from rfl, Int.ofNat_fdiv]
def zerosA (n : Nat) : List AV := List.replicate n (.pv (.int .u8 0))
/-- The digits stand at the end. -/
def arrB (n : Nat) (d : List UInt8) : List AV := zerosA (n - d.length) ++ bytesV d
theorem arrB_len (n : Nat) (d : List UInt8) (h : d.length ≤ n) : (arrB n d).length = n := by simp [arrB, zerosA, bytesV_len]; omega
theorem arrB_set (n : Nat) (d : List UInt8) (c : UInt8) (h : d.length < n) : (arrB n d).set (n - d.length - 1) (.pv (.int .u8 (c.toNat : Int))) = arrB n (c :: d) := by
  obtain ⟨k, hk⟩ : ∃ k, n - d.length = k + 1 := ⟨n - d.length - 1, by omega⟩
  unfold arrB zerosA
  rw [hk, show n - (c :: d).length = k by simp only [List.length_cons]; omega, List.replicate_succ', List.append_assoc, Nat.add_sub_cancel, List.set_append_right _ _ (by simp)]
  simp [bytesV]
/-- All digits but the first, and the first one's value. -/
def hexL : Nat → Nat → List UInt8 → Nat × List UInt8
  | 0, u, d => (u, d)
  | k + 1, u, d => if u < 16 then (u, d) else hexL k (u / 16) (hexC (u % 16) :: d)
def envFB (u : Nat) (i : Nat) : Env := [(0, .nils), (1, .pv (.int .u64 (u : Int))), (3, .pv (.bool false)), (4, .pv (.bool false)), (10, .nils), (11, .pv (.str [])), (12, .cell 0 0), (13, .pv (.int .i64 (i : Int))), (14, .pv (.int .u64 4)), (15, .pv (.int .u64 16)), (16, .pv (.int .u64 15))]
theorem loop_fb : ∀ (k u : Nat) (d : List UInt8), u < 16 ^ (k + 1) → k ≤ 8 → d.length + k ≤ 60 →
    ex mach (.loop lp36x0) (envFB u (65 - d.length)) { bl := [arrB 65 d], fl := 0 } = some (.ext 0, envFB (hexL k u d).1 (65 - (hexL k u d).2.length) ++ [(46, .pv (.bool false))], { bl := [arrB 65 (hexL k u d).2], fl := 0 })
  | 0, u, d, h, hk, hd => by
    rw [ex_loopU lp36x0.eq_1]
    have h1 : ¬ (16 : Int) ≤ u := by omega
    simp [envFB, hexL, h1]
  | k + 1, u, d, h, hk, hd => by
    by_cases hu : u < 16
    · rw [ex_loopU lp36x0.eq_1]
      have h1 : ¬ (16 : Int) ≤ u := by omega
      simp [envFB, hexL, hu, h1]
    · have hp : 16 ^ (k + 1 + 1) = 16 ^ (k + 1) * 16 := Nat.pow_succ 16 (k + 1)
      have hrec := loop_fb k (u / 16) (hexC (u % 16) :: d) (by omega) (by omega) (by simp only [List.length_cons]; omega)
      have e1 : hexL (k + 1) u d = hexL k (u / 16) (hexC (u % 16) :: d) := by rw [hexL, if_neg hu]
      rw [e1, ex_loopU lp36x0.eq_1]
      have h1 : (16 : Int) ≤ u := by omega
      have h17 : 16 ^ (k + 1 + 1) ≤ 16 ^ 10 := Nat.pow_le_pow_right (by omega) (by omega)
      have ha := and15 u (by omega)
      have hs := shr4 u
      have hx := hexC_at (u % 16) (Nat.mod_lt _ (by omega))
      dsimp only [digs36] at hx
      have hst := arrB_set 65 d (hexC (u % 16)) (by omega)
      have hln := arrB_len 65 d (by omega)
      obtain ⟨i, hi⟩ : ∃ i, 65 - d.length = i + 1 := ⟨64 - d.length, by omega⟩
      have hi2 : 65 - (hexC (u % 16) :: d).length = i := by simp only [List.length_cons]; omega
      rw [hi2] at hrec
      rw [hi] at hst ⊢
      rw [Nat.add_sub_cancel] at hst
      have hw : IntKind.i64.wrap (i : Int) = i := wrap_in (by omega) (by omega)
      have hi3 : (i : Int) < 65 := by omega
      have hi4 : (0 : Int) ≤ i := by omega
      have hi5 : i < 65 := by omega
      have hi6 : i ≤ 64 := by omega
      generalize hexC (u % 16) = c at hrec hst hx
      generalize u % 16 = r at ha hx
      generalize u / 16 = q at hs hrec
      simp only [envFB] at hrec
      simp [envFB, h1, ha, hs, hx, hst, hln, hw, hi3, hi4, hi5, hi6, hrec]
theorem zl_fb : zl36x0 = arrB 65 [] := by kernel_rfl
theorem hexL_facts : ∀ (k u : Nat) (d : List UInt8), u < 16 ^ (k + 1) → (hexL k u d).1 < 16 ∧ (hexL k u d).2.length ≤ d.length + k
  | 0, u, d, h => by simpa [hexL] using h
  | k + 1, u, d, h => by
    unfold hexL
    split
    · exact ⟨by assumption, by simp only; omega⟩
    · rw [Nat.pow_succ] at h
      have := hexL_facts k (u / 16) (hexC (u % 16) :: d) (by omega)
      simp only [List.length_cons] at this
      exact ⟨this.1, by omega⟩
/-- The digits of base sixteen. -/
def hexD (u : Nat) : List UInt8 := hexC (hexL 8 u []).1 :: (hexL 8 u []).2
theorem toBs_row (n : Nat) (d : List UInt8) (h : d.length ≤ n) : ((arrB n d).drop (n - d.length)) = bytesV d := by
  unfold arrB zerosA
  rw [List.drop_append_of_le_length (by simp), List.drop_of_length_le (by simp), List.nil_append]
theorem c_formatBits (u : Nat) (hu : u < 16 ^ 9) (sg : Sig) : acall mach 36 [.nils, .pv (.int .u64 (u : Int)), .pv (.int .i64 16), .pv (.bool false), .pv (.bool false)] sg = some (.tup [.pv (.sl []), .pv (.str (hexD u))], sg) := by
  rw [acall_fn (mf := mf36) rfl rfl rfl rfl]
  have hp : ∀ sg, acall mach 53 [.pv (.int .i64 16)] sg = some (.pv (.bool true), sg) := fun sg => callN_le mach 1000 _ _ sg _ (by kernel_rfl)
  have ht : ∀ sg, acall mach 54 [.pv (.int .u64 16)] sg = some (.pv (.int .i64 4), sg) := fun sg => callN_le mach 1000 _ _ sg _ (by kernel_rfl)
  obtain ⟨f1, f2⟩ := hexL_facts 8 u [] hu
  have hl := loop_fb 8 u [] hu (by omega) (by simp)
  have hx := hexC_at (hexL 8 u []).1 f1
  dsimp only [digs36] at hx
  simp only [List.length_nil, Nat.zero_add] at f2
  unfold hexD
  generalize hexL 8 u [] = r at f1 f2 hl hx ⊢
  obtain ⟨v, d⟩ := r
  simp only at f1 f2 hl hx ⊢
  have hst := arrB_set 65 d (hexC v) (by omega)
  have hln := arrB_len 65 d (by omega)
  obtain ⟨i, hi⟩ : ∃ i, 65 - d.length = i + 1 := ⟨64 - d.length, by omega⟩
  have hi2 : 65 - (hexC v :: d).length = i := by simp only [List.length_cons]; omega
  have hrow := toBs_row 65 (hexC v :: d) (by simp only [List.length_cons]; omega)
  have hln2 := arrB_len 65 (hexC v :: d) (by simp only [List.length_cons]; omega)
  rw [hi2] at hrow
  rw [hi] at hst hl
  rw [Nat.add_sub_cancel] at hst
  have hw : IntKind.i64.wrap (i : Int) = i := wrap_in (by omega) (by omega)
  have hi3 : (i : Int) < 65 := by omega
  have hi3' : (i : Int) ≤ 65 := by omega
  have hi4 : (0 : Int) ≤ i := by omega
  have hi5 : i < 65 := by omega
  have hi6 : i ≤ 64 := by omega
  have w16 : IntKind.u64.wrap 16 = 16 := by decide
  have w15 : IntKind.u64.wrap 15 = 15 := by decide
  have w4 : IntKind.u64.wrap 4 = 4 := by decide
  obtain ⟨b1, ps, b2, b3⟩ := toBs_bytes (hexC v :: d)
  have hlen : 65 - i = d.length + 1 := by omega
  have hi7 : i + (d.length + 1) ≤ 65 := by omega
  generalize hexC v = c at hst hi2 hrow hln2 b1 b2 b3 hx ⊢
  have b4 : (bytesV (c :: d)).take (d.length + 1) = bytesV (c :: d) := List.take_of_length_le (by rw [b1]; simp)
  simp only [List.length_nil, envFB, Nat.sub_zero, Int.cast_ofNat_Int] at hl
  simp [mf36, hp, ht, w16, w15, w4, zl_fb, hl, hx, hst, hln, hln2, hw, hi3, hi3', hi4, hi5, hi6, hi7, hrow, hlen, b1, b2, b3, b4]
theorem c_FormatInt16' (u : Nat) (hu : u < 16 ^ 9) (sg : Sig) : acall mach 24 [.pv (.int .i64 (u : Int)), .pv (.int .i64 16)] sg = some (.pv (.str (hexD u)), sg) := by
  rw [acall_fn (mf := mf24) rfl rfl rfl rfl]
  have hc := c_formatBits u hu
  have hw : IntKind.u64.wrap (u : Int) = u := wrap_u64 (by omega) (by omega)
  have h0 : ¬ (u : Int) < 0 := by omega
  simp [mf24, hw, h0, hc]
theorem c_FormatInt16 (u : Nat) (hu : u < 16 ^ 9) (sg : Sig) : acall mach 14 [.pv (.int .i64 (u : Int)), .pv (.int .i64 16)] sg = some (.pv (.str (hexD u)), sg) := by
  rw [acall_fn (mf := mf14) rfl rfl rfl rfl]
  simp [mf14, c_FormatInt16' u hu]
end Go.Proofs.YtggoaggneapneaaDoorM

set_option linter.unusedVariables false
set_option linter.unusedSimpArgs false
namespace Go.Proofs.YtggoaggneapneaaDoorM
open Go

def tab8 : List UInt8 := [0, 1, 2, 2, 3, 3, 3, 3, 4, 4, 4, 4, 4, 4, 4, 4, 5, 5, 5, 5, 5, 5, 5, 5, 5, 5, 5, 5, 5, 5, 5, 5, 6, 6, 6, 6, 6, 6, 6, 6, 6, 6, 6, 6, 6, 6, 6, 6, 6, 6, 6, 6, 6, 6, 6, 6, 6, 6, 6, 6, 6, 6, 6, 6, 7, 7, 7, 7, 7, 7, 7, 7, 7, 7, 7, 7, 7, 7, 7, 7, 7, 7, 7, 7, 7, 7, 7, 7, 7, 7, 7, 7, 7, 7, 7, 7, 7, 7, 7, 7, 7, 7, 7, 7, 7, 7, 7, 7, 7, 7, 7, 7, 7, 7, 7, 7, 7, 7, 7, 7, 7, 7, 7, 7, 7, 7, 7, 7, 8, 8, 8, 8, 8, 8, 8, 8, 8, 8, 8, 8, 8, 8, 8, 8, 8, 8, 8, 8, 8, 8, 8, 8, 8, 8, 8, 8, 8, 8, 8, 8, 8, 8, 8, 8, 8, 8, 8, 8, 8, 8, 8, 8, 8, 8, 8, 8, 8, 8, 8, 8, 8, 8, 8, 8, 8, 8, 8, 8, 8, 8, 8, 8, 8, 8, 8, 8, 8, 8, 8, 8, 8, 8, 8, 8, 8, 8, 8, 8, 8, 8, 8, 8, 8, 8, 8, 8, 8, 8, 8, 8, 8, 8, 8, 8, 8, 8, 8, 8, 8, 8, 8, 8, 8, 8, 8, 8, 8, 8, 8, 8, 8, 8, 8, 8, 8, 8, 8, 8, 8, 8, 8, 8, 8, 8, 8, 8]
def bits8 (x : Nat) : Nat := (tab8.getD x 0).toNat
theorem tab8_at (x : Nat) (h : x < 256) : tab8[x]? = some (tab8.getD x 0) := by
  have hl : tab8.length = 256 := by decide +kernel
  rw [List.getD_eq_getElem?_getD, List.getElem?_eq_getElem (by omega)]; rfl
theorem bits8_facts (x : Nat) (h : x < 256) (h0 : 0 < x) : bits8 x ≤ 8 ∧ 0 < bits8 x ∧ 2 ^ (bits8 x - 1) ≤ x ∧ x < 2 ^ bits8 x := by
  have hh : ∀ k : Fin 256, 0 < k.val → bits8 k.val ≤ 8 ∧ 0 < bits8 k.val ∧ 2 ^ (bits8 k.val - 1) ≤ k.val ∧ k.val < 2 ^ bits8 k.val := by decide +kernel
  exact hh ⟨x, h⟩ h0
theorem shr16 (u : Nat) : Int.fdiv (u : Int) (2 ^ min 16 IntKind.u64.bits) = ((u / 65536 : Nat) : Int) := by
  rw [show ((2 : Int) ^ min 16 IntKind.u64.bits) = ((65536 : Nat) : Int) from rfl, Int.ofNat_fdiv]
theorem shr8 (u : Nat) : Int.fdiv (u : Int) (2 ^ min 8 IntKind.u64.bits) = ((u / 256 : Nat) : Int) := by
  rw [show ((2 : Int) ^ min 8 IntKind.u64.bits) = ((256 : Nat) : Int) from rfl, Int.ofNat_fdiv]
/-- How many bits. -/
def len32 (u : Nat) : Nat := if 65536 ≤ u then (if 256 ≤ u / 65536 then 24 + bits8 (u / 65536 / 256) else 16 + bits8 (u / 65536)) else (if 256 ≤ u then 8 + bits8 (u / 256) else bits8 u)
theorem len32_facts (u : Nat) (h : u < 4294967296) (h0 : 0 < u) : len32 u ≤ 32 ∧ 0 < len32 u ∧ 2 ^ (len32 u - 1) ≤ u ∧ u < 2 ^ len32 u := by
  have key : ∀ (k x : Nat), x < 256 → 0 < x → x * 2 ^ k ≤ u → u < (x + 1) * 2 ^ k → k + bits8 x ≤ k + 8 ∧ 0 < k + bits8 x ∧ 2 ^ (k + bits8 x - 1) ≤ u ∧ u < 2 ^ (k + bits8 x) := by
    intro k x hx hx0 h1 h2
    obtain ⟨b1, b2, b3, b4⟩ := bits8_facts x hx hx0
    refine ⟨by omega, by omega, ?_, ?_⟩
    · rw [show k + bits8 x - 1 = (bits8 x - 1) + k by omega, Nat.pow_add]
      exact Nat.le_trans (Nat.mul_le_mul_right _ b3) h1
    · rw [Nat.add_comm, Nat.pow_add]
      exact Nat.lt_of_lt_of_le h2 (Nat.mul_le_mul_right _ b4)
  unfold len32
  split
  · split
    · have := key 24 (u / 65536 / 256) (by omega) (by omega) (by omega) (by omega)
      exact ⟨by omega, this.2⟩
    · have := key 16 (u / 65536) (by omega) (by omega) (by omega) (by omega)
      exact ⟨by omega, this.2⟩
  · split
    · have := key 8 (u / 256) (by omega) (by omega) (by omega) (by omega)
      exact ⟨by omega, this.2⟩
    · have := key 0 u (by omega) (by omega) (by omega) (by omega)
      simp only [Nat.zero_add] at this
      exact ⟨by omega, this.2⟩
set_option maxRecDepth 100000 in
theorem c_Len64 (u : Nat) (h : u < 4294967296) (sg : Sig) : acall mach 51 [.pv (.int .u64 (u : Int))] sg = some (.pv (.int .i64 (len32 u : Int)), sg) := by
  rw [acall_fn (mf := mf51) rfl rfl rfl rfl]
  have h1 : ¬ (4294967296 : Int) ≤ u := by omega
  unfold len32
  have fin : ∀ x : Nat, x < 256 → ∃ b : UInt8, tab8[x]? = some b ∧ bits8 x = b.toNat := fun x hx => ⟨_, tab8_at x hx, rfl⟩
  have fin2 : ∀ x : Nat, x < 256 → (0 : Int) ≤ x ∧ IntKind.u8.wrap (x : Int) = x := fun x hx => ⟨by omega, wrap_u8in (by omega) (by omega)⟩
  have s16 := shr16 u
  have s8 := shr8 u
  have s8' := shr8 (u / 65536)
  by_cases c1 : 65536 ≤ u
  · have d1 : (65536 : Int) ≤ u := by omega
    rw [if_pos c1]
    by_cases c2 : 256 ≤ u / 65536
    · rw [if_pos c2]
      have d2 : (256 : Int) ≤ ((u / 65536 : Nat) : Int) := by omega
      obtain ⟨b, hb, hb2⟩ := fin (u / 65536 / 256) (by omega)
      obtain ⟨q1, q2⟩ := fin2 (u / 65536 / 256) (by omega)
      have hbl := (bits8_facts (u / 65536 / 256) (by omega) (by omega)).1
      dsimp only [tab8] at hb
      rw [hb2] at hbl ⊢
      generalize u / 65536 / 256 = y at *
      generalize u / 65536 = z at *
      have w1 : IntKind.i64.wrap (b.toNat : Int) = b.toNat := wrap_in (by omega) (by omega)
      have w2 : IntKind.i64.wrap (24 + (b.toNat : Int)) = 24 + (b.toNat : Int) := wrap_in (by omega) (by omega)
      have w16 : IntKind.i64.wrap 16 = 16 := by decide
      have w24 : IntKind.i64.wrap 24 = 24 := by decide
      simp [mf51, h1, d1, d2, s16, s8', hb, q1, q2, w1, w2, w16, w24]
    · rw [if_neg c2]
      have d2 : ¬ (256 : Int) ≤ ((u / 65536 : Nat) : Int) := by omega
      obtain ⟨b, hb, hb2⟩ := fin (u / 65536) (by omega)
      obtain ⟨q1, q2⟩ := fin2 (u / 65536) (by omega)
      have hbl := (bits8_facts (u / 65536) (by omega) (by omega)).1
      dsimp only [tab8] at hb
      rw [hb2] at hbl ⊢
      generalize u / 65536 = z at *
      have w1 : IntKind.i64.wrap (b.toNat : Int) = b.toNat := wrap_in (by omega) (by omega)
      have w2 : IntKind.i64.wrap (16 + (b.toNat : Int)) = 16 + (b.toNat : Int) := wrap_in (by omega) (by omega)
      have w16 : IntKind.i64.wrap 16 = 16 := by decide
      simp [mf51, h1, d1, d2, s16, hb, q1, q2, w1, w2, w16]
  · have d1 : ¬ (65536 : Int) ≤ u := by omega
    rw [if_neg c1]
    by_cases c2 : 256 ≤ u
    · rw [if_pos c2]
      have d2 : (256 : Int) ≤ u := by omega
      obtain ⟨b, hb, hb2⟩ := fin (u / 256) (by omega)
      obtain ⟨q1, q2⟩ := fin2 (u / 256) (by omega)
      have hbl := (bits8_facts (u / 256) (by omega) (by omega)).1
      dsimp only [tab8] at hb
      rw [hb2] at hbl ⊢
      generalize u / 256 = z at *
      have w1 : IntKind.i64.wrap (b.toNat : Int) = b.toNat := wrap_in (by omega) (by omega)
      have w2 : IntKind.i64.wrap (8 + (b.toNat : Int)) = 8 + (b.toNat : Int) := wrap_in (by omega) (by omega)
      have w8 : IntKind.i64.wrap 8 = 8 := by decide
      simp [mf51, h1, d1, d2, s8, hb, q1, q2, w1, w2, w8]
    · rw [if_neg c2]
      have d2 : ¬ (256 : Int) ≤ u := by omega
      obtain ⟨b, hb, hb2⟩ := fin u (by omega)
      obtain ⟨q1, q2⟩ := fin2 u (by omega)
      have hbl : b.toNat < 256 := b.toNat_lt
      dsimp only [tab8] at hb
      rw [hb2]
      have w1 : IntKind.i64.wrap (b.toNat : Int) = b.toNat := wrap_in (by omega) (by omega)
      simp [mf51, h1, d1, d2, hb, q1, q2, w1]
/-- A first guess of how many decimal digits so many bits have. -/
def lg (b : Nat) : Nat := b * 78913 / 262144
theorem c_log10 (b : Nat) (h : b ≤ 64) (sg : Sig) : acall mach 50 [.pv (.int .i64 (b : Int))] sg = some (.pv (.int .i64 (lg b : Int)), sg) := by
  rw [acall_fn (mf := mf50) rfl rfl rfl rfl]
  have hw : IntKind.i64.wrap ((b : Int) * 78913) = (b : Int) * 78913 := wrap_in (by omega) (by omega)
  have hs : Int.fdiv ((b : Int) * 78913) (2 ^ min 18 IntKind.i64.bits) = (lg b : Int) := by
    rw [show ((2 : Int) ^ min 18 IntKind.i64.bits) = ((262144 : Nat) : Int) from rfl, show (b : Int) * 78913 = ((b * 78913 : Nat) : Int) by omega]
    exact (Int.ofNat_fdiv (b * 78913) 262144).symm
  simp [mf50, hw, hs]
def ndig (u : Nat) : Nat := lg (len32 u) + (if 10 ^ lg (len32 u) ≤ u then 1 else 0)
theorem lg_facts : ∀ b : Fin 33, lg b.val ≤ 9 ∧ 2 ^ b.val ≤ 10 ^ (lg b.val + 1) ∧ (0 < b.val → lg b.val = 0 ∨ 10 ^ (lg b.val - 1) ≤ 2 ^ (b.val - 1)) := by decide +kernel
/-- It is the number of digits. -/
theorem ndig_facts (u : Nat) (h : u < 4294967296) (h0 : 0 < u) : 0 < ndig u ∧ ndig u ≤ 10 ∧ 10 ^ (ndig u - 1) ≤ u ∧ u < 10 ^ ndig u := by
  obtain ⟨b1, b2, b3, b4⟩ := len32_facts u h h0
  obtain ⟨l1, l2, l3⟩ := lg_facts ⟨len32 u, by omega⟩
  simp only at l1 l2 l3
  have l3 := l3 b2
  unfold ndig
  generalize hl : lg (len32 u) = g at *
  by_cases hc : 10 ^ g ≤ u
  · rw [if_pos hc]
    exact ⟨by omega, by omega, by simpa using hc, Nat.lt_of_lt_of_le b4 l2⟩
  · rw [if_neg hc]
    have h1 : g ≠ 0 := by
      rintro rfl
      simp at hc
      omega
    rcases l3 with l3 | l3
    · exact absurd l3 h1
    · exact ⟨by omega, by omega, Nat.le_trans l3 b3, by simpa using Nat.not_le.1 hc⟩
theorem tab0_at (k : Nat) (hk : k < 20) : ((tab0.map AV.pv).drop k).take 1 = [.pv (.int .u64 ((10 ^ k : Nat) : Int))] := by
  have h : ∀ k : Fin 20, (zs0.drop k.val).take 1 = [((10 ^ k.val : Nat) : Int)] := by decide +kernel
  have := h ⟨k, hk⟩
  unfold tab0
  rw [← List.map_drop, ← List.map_take, ← List.map_drop, ← List.map_take, this]; rfl
theorem tab0_len : tab0.length = 20 := rfl
set_option maxRecDepth 100000 in
theorem c_numDigits (u : Nat) (h : u < 4294967296) (h0 : 0 < u) (sg : Sig) : acall mach 34 [.pv (.int .u64 (u : Int))] sg = some (.pv (.int .i64 (ndig u : Int)), sg) := by
  rw [acall_fn (mf := mf34) rfl rfl rfl rfl]
  obtain ⟨b1, b2, b3, b4⟩ := len32_facts u h h0
  obtain ⟨l1, l2, l3⟩ := lg_facts ⟨len32 u, by omega⟩
  simp only at l1
  have hL := c_Len64 u h
  have hG := c_log10 (len32 u) (by omega)
  have hT := tab0_at (lg (len32 u)) (by omega)
  have hTl := tab0_len
  have hB1 : ∀ sg, acall mach 52 [.pv (.bool true)] sg = some (.pv (.int .i64 1), sg) := fun sg => callN_le mach 1000 _ _ sg _ (by kernel_rfl)
  have hB0 : ∀ sg, acall mach 52 [.pv (.bool false)] sg = some (.pv (.int .i64 0), sg) := fun sg => callN_le mach 1000 _ _ sg _ (by kernel_rfl)
  unfold ndig
  generalize lg (len32 u) = g at *
  have w1 : IntKind.i64.wrap ((g : Int) + 1) = (g : Int) + 1 := wrap_in (by omega) (by omega)
  have w0 : IntKind.i64.wrap (g : Int) = (g : Int) := wrap_in (by omega) (by omega)
  have g0 : (0 : Int) ≤ g := by omega
  have g1 : (g : Int) < 20 := by omega
  have g2 : g < 20 := by omega
  have g3 : g + 1 ≤ 20 := by omega
  generalize 10 ^ g = p at *
  by_cases hc : p ≤ u
  · have hc' : (p : Int) ≤ u := by omega
    simp [mf34, hL, hG, hT, hTl, g3, hB1, w1, g0, g1, g2, hc, hc']
  · have hc' : ¬ (p : Int) ≤ u := by omega
    simp [mf34, hL, hG, hT, hTl, g3, hB0, w0, g0, g1, g2, hc, hc']
end Go.Proofs.YtggoaggneapneaaDoorM

set_option linter.unusedVariables false
set_option linter.unusedSimpArgs false
namespace Go.Proofs.YtggoaggneapneaaDoorM
open Go

def tailB (ds : List UInt8) : List UInt8 := if ds = [] then [] else 46 :: ds
theorem before_app {D : List UInt8} (h : D.all isD = true) (x : List UInt8) : before 46 (D ++ x) = D ++ before 46 x := by
  unfold before
  rw [List.takeWhile_append_of_pos]
  intro c hc
  have := List.all_eq_true.1 h c hc
  simp only [isD, Bool.and_eq_true, decide_eq_true_eq] at this
  have h46 : c ≠ 46 := by rintro rfl; simp at this
  simpa using h46
theorem isD_ne45 {c : UInt8} (h : isD c = true) : c ≠ 45 := by rintro rfl; revert h; decide
theorem parts_of {D ds : List UInt8} (hD : D.all isD = true) : wholeOf (D ++ tailB ds) = D ∧ partOf (D ++ tailB ds) = ds ∧ (dotIn (D ++ tailB ds) = true ↔ ds ≠ []) := by
  unfold wholeOf partOf dotIn
  rw [before_app hD]
  by_cases h : ds = []
  · subst h
    have e : before 46 (tailB []) = [] := rfl
    have e2 : tailB [] = [] := rfl
    rw [e, e2]
    simp
  · have e : before 46 (tailB ds) = [] := by unfold tailB; rw [if_neg h]; simp [before, List.takeWhile_cons]
    have e2 : tailB ds = 46 :: ds := by unfold tailB; rw [if_neg h]
    rw [e, e2]
    simp [h]
def decN (D ds : List UInt8) : Nat := valB 10 D * 64 + valB 10 ((ds ++ zeros6).take 6) * 64 / 1000000
theorem ok_of {D ds : List UInt8} (hD : digitsB D 9 = true) (hd : ds = [] ∨ digitsB ds 6 = true) : okNum (D ++ tailB ds) = true ∧ unitsOf (D ++ tailB ds) = decN D ds := by
  obtain ⟨_, _, ha⟩ := digitsB_facts hD
  obtain ⟨h1, h2, h3⟩ := parts_of (ds := ds) ha
  unfold okNum unitsOf decN
  rw [h1, h2, hD]
  refine ⟨?_, rfl⟩
  rcases hd with rfl | hd
  · have : dotIn (D ++ tailB []) = false := by
      cases hx : dotIn (D ++ tailB []) with
      | false => rfl
      | true => exact absurd rfl (h3.1 hx)
    rw [this]; rfl
  · rw [hd]; simp
theorem num_pos {D ds : List UInt8} (hD : digitsB D 9 = true) (hd : ds = [] ∨ digitsB ds 6 = true) : numV (D ++ tailB ds) = some (decN D ds : Int) := by
  obtain ⟨h0, _, ha⟩ := digitsB_facts hD
  obtain ⟨h1, h2⟩ := ok_of hD hd
  have hp : hasPre (D ++ tailB ds) [45] = false := by
    cases D with
    | nil => exact absurd rfl h0
    | cons c D =>
      have hc : isD c = true := List.all_eq_true.1 ha c (by simp)
      have := isD_ne45 hc
      simp [hasPre, this]
  unfold numV restOf
  rw [hp]
  simp only [Bool.false_eq_true, if_false, h1, h2, if_true]
theorem num_neg {D ds : List UInt8} (hD : digitsB D 9 = true) (hd : ds = [] ∨ digitsB ds 6 = true) : numV (45 :: (D ++ tailB ds)) = some (-(decN D ds : Int)) := by
  obtain ⟨h1, h2⟩ := ok_of hD hd
  have hp : hasPre (45 :: (D ++ tailB ds)) [45] = true := by simp [hasPre]
  unfold numV restOf
  rw [hp]
  simp only [if_true, List.drop_succ_cons, List.drop_zero, h1, h2]
theorem hasSuf_app (s p : List UInt8) : hasSuf (s ++ p) p = true := by simp [hasSuf]
theorem take_suf (s p : List UInt8) : (s ++ p).take ((s ++ p).length - p.length) = s := by simp
theorem meas_app (s p : List UInt8) : measV (s ++ p) p = numV s := by
  unfold measV
  rw [hasSuf_app, take_suf]; rfl
theorem not_suf (s : List UInt8) (c d a : UInt8) (h : d ≠ c) : hasSuf (s ++ [d]) [a, c] = false := by
  cases hx : hasSuf (s ++ [d]) [a, c] with
  | false => rfl
  | true =>
    simp only [hasSuf, Bool.and_eq_true, decide_eq_true_eq, beq_iff_eq] at hx
    have hl := congrArg List.getLast? hx.2
    rw [List.getLast?_drop] at hl
    have h1 := hx.1
    simp only [List.length_append, List.length_cons, List.length_nil] at h1 hl
    rw [if_neg (by omega)] at hl
    simp at hl
    exact absurd hl h

/-! ### What is neither blank nor a great letter -/
def plainC (c : UInt8) : Bool := !memB blanksB c && (low1 c == c)
theorem plain_low {s : List UInt8} (h : s.all plainC = true) : lowerB s = s := by
  induction s with
  | nil => rfl
  | cons c s ih =>
    rw [List.all_cons, Bool.and_eq_true] at h
    have h1 : low1 c = c := by have := h.1; simp only [plainC, Bool.and_eq_true, beq_iff_eq] at this; exact this.2
    have := ih h.2
    simp only [lowerB, List.map_cons] at this ⊢
    rw [this, h1]
theorem dw_none (p : UInt8 → Bool) : ∀ s : List UInt8, (∀ c ∈ s, p c = false) → s.dropWhile p = s
  | [], _ => rfl
  | c :: s, h => List.dropWhile_cons_of_neg (by simp [h c (by simp)])
theorem plain_trim {s : List UInt8} (h : s.all plainC = true) : trimB s = s := by
  have hn : ∀ c ∈ s, memB blanksB c = false := by
    intro c hc
    have := List.all_eq_true.1 h c hc
    simp only [plainC, Bool.and_eq_true, Bool.not_eq_true'] at this
    exact this.1
  unfold trimB rdrop
  rw [dw_none _ s.reverse (fun c hc => hn c (List.mem_reverse.1 hc)), List.reverse_reverse, dw_none _ s hn]
theorem plain_isD (c : UInt8) (h : isD c = true) : plainC c = true := by
  have := u8_all (fun c => !isD c || plainC c) (by decide +kernel) c
  simpa [h] using this
theorem plain_digits {s : List UInt8} (h : s.all isD = true) : s.all plainC = true := by
  rw [List.all_eq_true] at h ⊢
  exact fun c hc => plain_isD c (h c hc)
theorem plain_tail {ds : List UInt8} (h : ds.all isD = true) : (tailB ds).all plainC = true := by
  unfold tailB
  split
  · rfl
  · rw [List.all_cons, plain_digits h, Bool.and_true]; decide
theorem idx_nil (s : List UInt8) : idxOf [] s = -1 := by
  unfold idxOf
  rw [idxFrom]
  simp

/-! ### Decimal digits -/
def digit (m : Nat) : UInt8 := UInt8.ofNat (48 + m % 10)
def digsF : Nat → Nat → List UInt8
  | 0, _ => []
  | k + 1, m => if m = 0 then [] else digsF k (m / 10) ++ [digit m]
theorem digit_nat (m : Nat) : (digit m).toNat = 48 + m % 10 := by
  unfold digit
  rw [UInt8.toNat_ofNat']
  omega
theorem digit_isD (m : Nat) : isD (digit m) = true := by
  simp only [isD, digit_nat, Bool.and_eq_true, decide_eq_true_eq]; omega
theorem digit_dv (m : Nat) : dv (digit m) = m % 10 := by
  unfold dv
  rw [digit_nat, if_pos (by omega)]; omega
theorem valF_app (bs a : Nat) (s t : List UInt8) : valF bs a (s ++ t) = valF bs (valF bs a s) t := by simp [valF]
theorem digsF_facts : ∀ k m, m < 10 ^ k → (digsF k m).all isD = true ∧ (digsF k m).length ≤ k ∧ valB 10 (digsF k m) = m
  | 0, m, h => by
    have : m = 0 := by simpa using h
    subst this
    simp [digsF, valB, valF]
  | k + 1, m, h => by
    unfold digsF
    by_cases h0 : m = 0
    · subst h0; simp [valB, valF]
    · rw [if_neg h0]
      rw [Nat.pow_succ] at h
      obtain ⟨h1, h2, h3⟩ := digsF_facts k (m / 10) (by omega)
      refine ⟨by rw [List.all_append, h1]; simp [digit_isD], by rw [List.length_append]; simp only [List.length_cons, List.length_nil]; omega, ?_⟩
      unfold valB at h3 ⊢
      rw [valF_app, h3]
      simp only [valF, List.foldl_cons, List.foldl_nil, digit_dv]
      omega
/-- The decimal digits of a number, at least one. -/
def decD (n : Nat) : List UInt8 := digsF 8 (n / 10) ++ [digit n]
theorem decD_facts (n : Nat) (h : n ≤ 999999999) : digitsB (decD n) 9 = true ∧ valB 10 (decD n) = n := by
  obtain ⟨h1, h2, h3⟩ := digsF_facts 8 (n / 10) (by omega)
  unfold decD
  constructor
  · simp only [digitsB, List.all_append, h1, List.length_append, List.length_cons, List.length_nil, Bool.and_eq_true, Bool.not_eq_true', beq_eq_false_iff_ne, decide_eq_true_eq]
    refine ⟨by simp, by omega, by simp [digit_isD]⟩
  · unfold valB at h3 ⊢
    rw [valF_app, h3]
    simp only [valF, List.foldl_cons, List.foldl_nil, digit_dv]
    omega
end Go.Proofs.YtggoaggneapneaaDoorM

set_option linter.unusedVariables false
set_option linter.unusedSimpArgs false
namespace Go.Proofs.YtggoaggneapneaaDoorM
open Go

def smalls : List UInt8 := [48, 48, 48, 49, 48, 50, 48, 51, 48, 52, 48, 53, 48, 54, 48, 55, 48, 56, 48, 57, 49, 48, 49, 49, 49, 50, 49, 51, 49, 52, 49, 53, 49, 54, 49, 55, 49, 56, 49, 57, 50, 48, 50, 49, 50, 50, 50, 51, 50, 52, 50, 53, 50, 54, 50, 55, 50, 56, 50, 57, 51, 48, 51, 49, 51, 50, 51, 51, 51, 52, 51, 53, 51, 54, 51, 55, 51, 56, 51, 57, 52, 48, 52, 49, 52, 50, 52, 51, 52, 52, 52, 53, 52, 54, 52, 55, 52, 56, 52, 57, 53, 48, 53, 49, 53, 50, 53, 51, 53, 52, 53, 53, 53, 54, 53, 55, 53, 56, 53, 57, 54, 48, 54, 49, 54, 50, 54, 51, 54, 52, 54, 53, 54, 54, 54, 55, 54, 56, 54, 57, 55, 48, 55, 49, 55, 50, 55, 51, 55, 52, 55, 53, 55, 54, 55, 55, 55, 56, 55, 57, 56, 48, 56, 49, 56, 50, 56, 51, 56, 52, 56, 53, 56, 54, 56, 55, 56, 56, 56, 57, 57, 48, 57, 49, 57, 50, 57, 51, 57, 52, 57, 53, 57, 54, 57, 55, 57, 56, 57, 57]
theorem smalls_at (x : Nat) (h : x < 100) : smalls[2 * x]? = some (digit (x / 10)) ∧ smalls[2 * x + 1]? = some (digit x) := by
  have hh : ∀ k : Fin 100, smalls[2 * k.val]? = some (digit (k.val / 10)) ∧ smalls[2 * k.val + 1]? = some (digit k.val) := by decide +kernel
  exact hh ⟨x, h⟩
theorem tdivN (a b : Nat) : Int.tdiv (a : Int) (b : Int) = ((a / b : Nat) : Int) := by rw [Int.ofNat_tdiv]
theorem tmodN (a b : Nat) : Int.tmod (a : Int) (b : Int) = ((a % b : Nat) : Int) := by rw [Int.ofNat_tmod]
theorem wrap_u32 {n : Int} (h : 0 ≤ n) (h' : n < 4294967296) : IntKind.u32.wrap n = n := IntWalk.u32_in _ ⟨h, by omega⟩
def z24 : List AV := [.pv (.int .u8 0), .pv (.int .u8 0), .pv (.int .u8 0), .pv (.int .u8 0), .pv (.int .u8 0), .pv (.int .u8 0), .pv (.int .u8 0), .pv (.int .u8 0), .pv (.int .u8 0), .pv (.int .u8 0), .pv (.int .u8 0), .pv (.int .u8 0), .pv (.int .u8 0), .pv (.int .u8 0), .pv (.int .u8 0), .pv (.int .u8 0), .pv (.int .u8 0), .pv (.int .u8 0), .pv (.int .u8 0), .pv (.int .u8 0), .pv (.int .u8 0), .pv (.int .u8 0), .pv (.int .u8 0), .pv (.int .u8 0)]
/-- The digits in the array, behind its first place. -/
def dA (l : List UInt8) : List AV := .pv (.int .u8 0) :: bytesV l ++ List.replicate (23 - l.length) (.pv (.int .u8 0))
theorem pairF (r : Nat) (h : r < 100) : ∃ k : Nat, IntKind.u32.wrap ((r : Int) * 2) = (k : Int) ∧ IntKind.u32.wrap ((k : Int) + 1) = (k : Int) + 1 ∧ (0 : Int) ≤ (k : Int) + 1 ∧ ((k : Int) + 1).toNat = k + 1 ∧ smalls[k]? = some (digit (r / 10)) ∧ smalls[k + 1]? = some (digit r) := by
  obtain ⟨h1, h2⟩ := smalls_at r h
  refine ⟨2 * r, ?_, ?_, by omega, by omega, h1, h2⟩
  · rw [wrap_u32 (by omega) (by omega)]; omega
  · rw [wrap_u32 (by omega) (by omega)]
theorem digit_eq {a b : Nat} (h : a % 10 = b % 10) : digit a = digit b := by unfold digit; rw [h]
theorem loop_no (r u : AV) (i : Int) (h : i < 8) (sg : Sig) : ex mach (.loop lp35x0) [(0, r), (1, u), (4, .pv (.int .i64 i))] sg = some (.ext 0, [(0, r), (1, u), (4, .pv (.int .i64 i)), (20, .pv (.bool false))], sg) := by
  rw [ex_loopU lp35x0.eq_1]
  have h1 : ¬ 8 ≤ i := by omega
  simp [h1]
set_option maxRecDepth 100000 in
set_option maxHeartbeats 4000000 in
theorem fb10_3 (u : Nat) (h : u < 1000) : acall mach 35 [.row 0 1 3 1, .pv (.int .u64 (u : Int))] { bl := [z24], fl := 0 } = some (.tup [], { bl := [dA [digit (u / 100), digit (u / 10), digit u]], fl := 0 }) := by
  rw [acall_fn (mf := mf35) rfl rfl rfl rfl]
  have hl := loop_no (.row 0 1 3 1) (.pv (.int .u64 (u : Int))) 3 (by omega) { bl := [z24], fl := 0 }
  dsimp only [z24] at hl
  have wu : IntKind.u32.wrap ((u : Nat) : Int) = ((u : Nat) : Int) := wrap_u32 (by omega) (by omega)
  have m3 : Int.tmod ((u : Nat) : Int) 100 = ((u % 100 : Nat) : Int) := tmodN (u) 100
  have d3 : Int.tdiv ((u : Nat) : Int) 100 = ((u / 100 : Nat) : Int) := tdivN (u) 100
  have w3 : IntKind.u32.wrap ((u / 100 : Nat) : Int) = ((u / 100 : Nat) : Int) := wrap_u32 (by omega) (by omega)
  obtain ⟨kc, c1, c2, c3, c4, c5, c6⟩ := pairF (u % 100) (by omega)
  rw [digit_eq (show (u % 100 / 10) % 10 = (u / 10) % 10 by omega)] at c5
  rw [digit_eq (show (u % 100) % 10 = (u) % 10 by omega)] at c6
  dsimp only [smalls] at c5 c6
  have w4 : IntKind.u8.wrap (IntKind.u32.wrap (48 + ((u / 100 : Nat) : Int))) = ((digit (u / 100)).toNat : Int) := by
    rw [wrap_u32 (by omega) (by omega), wrap_u8in (by omega) (by omega), digit_nat]; omega
  generalize digit (u / 100) = e2 at *
  generalize digit (u / 10) = e1 at *
  generalize digit u = e0 at *
  generalize u % 100 = y0 at *
  generalize u / 100 = y1 at *
  have i0 : IntKind.i64.wrap 0 = 0 := by decide
  have i1 : IntKind.i64.wrap 1 = 1 := by decide
  have i2 : IntKind.i64.wrap 2 = 2 := by decide
  have i3 : IntKind.i64.wrap 3 = 3 := by decide
  have i4 : IntKind.i64.wrap 4 = 4 := by decide
  have i5 : IntKind.i64.wrap 5 = 5 := by decide
  have i6 : IntKind.i64.wrap 6 = 6 := by decide
  have i7 : IntKind.i64.wrap 7 = 7 := by decide
  have i8 : IntKind.i64.wrap 8 = 8 := by decide
  have i9 : IntKind.i64.wrap 9 = 9 := by decide
  simp -implicitDefEqProofs [mf35, z24, dA, bytesV, hl, wu, c1, c2, c3, c4, c5, c6, m3, d3, w3, w4, i0, i1, i2, i3, i4, i5, i6, i7, i8, i9]
set_option maxRecDepth 100000 in
set_option maxHeartbeats 4000000 in
theorem fb10_4 (u : Nat) (h : u < 10000) : acall mach 35 [.row 0 1 4 1, .pv (.int .u64 (u : Int))] { bl := [z24], fl := 0 } = some (.tup [], { bl := [dA [digit (u / 1000), digit (u / 100), digit (u / 10), digit u]], fl := 0 }) := by
  rw [acall_fn (mf := mf35) rfl rfl rfl rfl]
  have hl := loop_no (.row 0 1 4 1) (.pv (.int .u64 (u : Int))) 4 (by omega) { bl := [z24], fl := 0 }
  dsimp only [z24] at hl
  have wu : IntKind.u32.wrap ((u : Nat) : Int) = ((u : Nat) : Int) := wrap_u32 (by omega) (by omega)
  have m1 : Int.tmod ((u : Nat) : Int) 10000 = ((u % 10000 : Nat) : Int) := tmodN (u) 10000
  have d1 : Int.tdiv ((u : Nat) : Int) 10000 = ((u / 10000 : Nat) : Int) := tdivN (u) 10000
  have m2 : Int.tmod ((u % 10000 : Nat) : Int) 100 = ((u % 10000 % 100 : Nat) : Int) := tmodN (u % 10000) 100
  have d2 : Int.tdiv ((u % 10000 : Nat) : Int) 100 = ((u % 10000 / 100 : Nat) : Int) := tdivN (u % 10000) 100
  have w1 : IntKind.u32.wrap ((u / 10000 : Nat) : Int) = ((u / 10000 : Nat) : Int) := wrap_u32 (by omega) (by omega)
  have w2 : IntKind.u32.wrap ((u % 10000 / 100 : Nat) : Int) = ((u % 10000 / 100 : Nat) : Int) := wrap_u32 (by omega) (by omega)
  obtain ⟨ka, a1, a2, a3, a4, a5, a6⟩ := pairF (u % 10000 % 100) (by omega)
  rw [digit_eq (show (u % 10000 % 100 / 10) % 10 = (u / 10) % 10 by omega)] at a5
  rw [digit_eq (show (u % 10000 % 100) % 10 = (u) % 10 by omega)] at a6
  dsimp only [smalls] at a5 a6
  obtain ⟨kb, b1, b2, b3, b4, b5, b6⟩ := pairF (u % 10000 / 100) (by omega)
  rw [digit_eq (show (u % 10000 / 100 / 10) % 10 = (u / 1000) % 10 by omega)] at b5
  rw [digit_eq (show (u % 10000 / 100) % 10 = (u / 100) % 10 by omega)] at b6
  dsimp only [smalls] at b5 b6
  generalize digit (u / 1000) = e3 at *
  generalize digit (u / 100) = e2 at *
  generalize digit (u / 10) = e1 at *
  generalize digit u = e0 at *
  generalize u % 10000 % 100 = y0 at *
  generalize u % 10000 / 100 = y1 at *
  generalize u % 10000 = y2 at *
  generalize u / 10000 = y3 at *
  have i0 : IntKind.i64.wrap 0 = 0 := by decide
  have i1 : IntKind.i64.wrap 1 = 1 := by decide
  have i2 : IntKind.i64.wrap 2 = 2 := by decide
  have i3 : IntKind.i64.wrap 3 = 3 := by decide
  have i4 : IntKind.i64.wrap 4 = 4 := by decide
  have i5 : IntKind.i64.wrap 5 = 5 := by decide
  have i6 : IntKind.i64.wrap 6 = 6 := by decide
  have i7 : IntKind.i64.wrap 7 = 7 := by decide
  have i8 : IntKind.i64.wrap 8 = 8 := by decide
  have i9 : IntKind.i64.wrap 9 = 9 := by decide
  simp -implicitDefEqProofs [mf35, z24, dA, bytesV, hl, wu, a1, a2, a3, a4, a5, a6, b1, b2, b3, b4, b5, b6, m1, d1, m2, d2, w1, w2, i0, i1, i2, i3, i4, i5, i6, i7, i8, i9]
set_option maxRecDepth 100000 in
set_option maxHeartbeats 4000000 in
theorem fb10_5 (u : Nat) (h : u < 100000) : acall mach 35 [.row 0 1 5 1, .pv (.int .u64 (u : Int))] { bl := [z24], fl := 0 } = some (.tup [], { bl := [dA [digit (u / 10000), digit (u / 1000), digit (u / 100), digit (u / 10), digit u]], fl := 0 }) := by
  rw [acall_fn (mf := mf35) rfl rfl rfl rfl]
  have hl := loop_no (.row 0 1 5 1) (.pv (.int .u64 (u : Int))) 5 (by omega) { bl := [z24], fl := 0 }
  dsimp only [z24] at hl
  have wu : IntKind.u32.wrap ((u : Nat) : Int) = ((u : Nat) : Int) := wrap_u32 (by omega) (by omega)
  have m1 : Int.tmod ((u : Nat) : Int) 10000 = ((u % 10000 : Nat) : Int) := tmodN (u) 10000
  have d1 : Int.tdiv ((u : Nat) : Int) 10000 = ((u / 10000 : Nat) : Int) := tdivN (u) 10000
  have m2 : Int.tmod ((u % 10000 : Nat) : Int) 100 = ((u % 10000 % 100 : Nat) : Int) := tmodN (u % 10000) 100
  have d2 : Int.tdiv ((u % 10000 : Nat) : Int) 100 = ((u % 10000 / 100 : Nat) : Int) := tdivN (u % 10000) 100
  have w1 : IntKind.u32.wrap ((u / 10000 : Nat) : Int) = ((u / 10000 : Nat) : Int) := wrap_u32 (by omega) (by omega)
  have w2 : IntKind.u32.wrap ((u % 10000 / 100 : Nat) : Int) = ((u % 10000 / 100 : Nat) : Int) := wrap_u32 (by omega) (by omega)
  obtain ⟨ka, a1, a2, a3, a4, a5, a6⟩ := pairF (u % 10000 % 100) (by omega)
  rw [digit_eq (show (u % 10000 % 100 / 10) % 10 = (u / 10) % 10 by omega)] at a5
  rw [digit_eq (show (u % 10000 % 100) % 10 = (u) % 10 by omega)] at a6
  dsimp only [smalls] at a5 a6
  obtain ⟨kb, b1, b2, b3, b4, b5, b6⟩ := pairF (u % 10000 / 100) (by omega)
  rw [digit_eq (show (u % 10000 / 100 / 10) % 10 = (u / 1000) % 10 by omega)] at b5
  rw [digit_eq (show (u % 10000 / 100) % 10 = (u / 100) % 10 by omega)] at b6
  dsimp only [smalls] at b5 b6
  have w4 : IntKind.u8.wrap (IntKind.u32.wrap (48 + ((u / 10000 : Nat) : Int))) = ((digit (u / 10000)).toNat : Int) := by
    rw [wrap_u32 (by omega) (by omega), wrap_u8in (by omega) (by omega), digit_nat]; omega
  generalize digit (u / 10000) = e4 at *
  generalize digit (u / 1000) = e3 at *
  generalize digit (u / 100) = e2 at *
  generalize digit (u / 10) = e1 at *
  generalize digit u = e0 at *
  generalize u % 10000 % 100 = y0 at *
  generalize u % 10000 / 100 = y1 at *
  generalize u % 10000 = y2 at *
  generalize u / 10000 = y3 at *
  have i0 : IntKind.i64.wrap 0 = 0 := by decide
  have i1 : IntKind.i64.wrap 1 = 1 := by decide
  have i2 : IntKind.i64.wrap 2 = 2 := by decide
  have i3 : IntKind.i64.wrap 3 = 3 := by decide
  have i4 : IntKind.i64.wrap 4 = 4 := by decide
  have i5 : IntKind.i64.wrap 5 = 5 := by decide
  have i6 : IntKind.i64.wrap 6 = 6 := by decide
  have i7 : IntKind.i64.wrap 7 = 7 := by decide
  have i8 : IntKind.i64.wrap 8 = 8 := by decide
  have i9 : IntKind.i64.wrap 9 = 9 := by decide
  simp -implicitDefEqProofs [mf35, z24, dA, bytesV, hl, wu, a1, a2, a3, a4, a5, a6, b1, b2, b3, b4, b5, b6, m1, d1, m2, d2, w1, w2, w4, i0, i1, i2, i3, i4, i5, i6, i7, i8, i9]
set_option maxRecDepth 100000 in
set_option maxHeartbeats 4000000 in
theorem fb10_6 (u : Nat) (h : u < 1000000) : acall mach 35 [.row 0 1 6 1, .pv (.int .u64 (u : Int))] { bl := [z24], fl := 0 } = some (.tup [], { bl := [dA [digit (u / 100000), digit (u / 10000), digit (u / 1000), digit (u / 100), digit (u / 10), digit u]], fl := 0 }) := by
  rw [acall_fn (mf := mf35) rfl rfl rfl rfl]
  have hl := loop_no (.row 0 1 6 1) (.pv (.int .u64 (u : Int))) 6 (by omega) { bl := [z24], fl := 0 }
  dsimp only [z24] at hl
  have wu : IntKind.u32.wrap ((u : Nat) : Int) = ((u : Nat) : Int) := wrap_u32 (by omega) (by omega)
  have m1 : Int.tmod ((u : Nat) : Int) 10000 = ((u % 10000 : Nat) : Int) := tmodN (u) 10000
  have d1 : Int.tdiv ((u : Nat) : Int) 10000 = ((u / 10000 : Nat) : Int) := tdivN (u) 10000
  have m2 : Int.tmod ((u % 10000 : Nat) : Int) 100 = ((u % 10000 % 100 : Nat) : Int) := tmodN (u % 10000) 100
  have d2 : Int.tdiv ((u % 10000 : Nat) : Int) 100 = ((u % 10000 / 100 : Nat) : Int) := tdivN (u % 10000) 100
  have w1 : IntKind.u32.wrap ((u / 10000 : Nat) : Int) = ((u / 10000 : Nat) : Int) := wrap_u32 (by omega) (by omega)
  have w2 : IntKind.u32.wrap ((u % 10000 / 100 : Nat) : Int) = ((u % 10000 / 100 : Nat) : Int) := wrap_u32 (by omega) (by omega)
  obtain ⟨ka, a1, a2, a3, a4, a5, a6⟩ := pairF (u % 10000 % 100) (by omega)
  rw [digit_eq (show (u % 10000 % 100 / 10) % 10 = (u / 10) % 10 by omega)] at a5
  rw [digit_eq (show (u % 10000 % 100) % 10 = (u) % 10 by omega)] at a6
  dsimp only [smalls] at a5 a6
  obtain ⟨kb, b1, b2, b3, b4, b5, b6⟩ := pairF (u % 10000 / 100) (by omega)
  rw [digit_eq (show (u % 10000 / 100 / 10) % 10 = (u / 1000) % 10 by omega)] at b5
  rw [digit_eq (show (u % 10000 / 100) % 10 = (u / 100) % 10 by omega)] at b6
  dsimp only [smalls] at b5 b6
  have m3 : Int.tmod ((u / 10000 : Nat) : Int) 100 = ((u / 10000 % 100 : Nat) : Int) := tmodN (u / 10000) 100
  have d3 : Int.tdiv ((u / 10000 : Nat) : Int) 100 = ((u / 10000 / 100 : Nat) : Int) := tdivN (u / 10000) 100
  have w3 : IntKind.u32.wrap ((u / 10000 / 100 : Nat) : Int) = ((u / 10000 / 100 : Nat) : Int) := wrap_u32 (by omega) (by omega)
  obtain ⟨kc, c1, c2, c3, c4, c5, c6⟩ := pairF (u / 10000 % 100) (by omega)
  rw [digit_eq (show (u / 10000 % 100 / 10) % 10 = (u / 100000) % 10 by omega)] at c5
  rw [digit_eq (show (u / 10000 % 100) % 10 = (u / 10000) % 10 by omega)] at c6
  dsimp only [smalls] at c5 c6
  generalize digit (u / 100000) = e5 at *
  generalize digit (u / 10000) = e4 at *
  generalize digit (u / 1000) = e3 at *
  generalize digit (u / 100) = e2 at *
  generalize digit (u / 10) = e1 at *
  generalize digit u = e0 at *
  generalize u % 10000 % 100 = y0 at *
  generalize u % 10000 / 100 = y1 at *
  generalize u % 10000 = y2 at *
  generalize u / 10000 % 100 = y3 at *
  generalize u / 10000 / 100 = y4 at *
  generalize u / 10000 = y5 at *
  have i0 : IntKind.i64.wrap 0 = 0 := by decide
  have i1 : IntKind.i64.wrap 1 = 1 := by decide
  have i2 : IntKind.i64.wrap 2 = 2 := by decide
  have i3 : IntKind.i64.wrap 3 = 3 := by decide
  have i4 : IntKind.i64.wrap 4 = 4 := by decide
  have i5 : IntKind.i64.wrap 5 = 5 := by decide
  have i6 : IntKind.i64.wrap 6 = 6 := by decide
  have i7 : IntKind.i64.wrap 7 = 7 := by decide
  have i8 : IntKind.i64.wrap 8 = 8 := by decide
  have i9 : IntKind.i64.wrap 9 = 9 := by decide
  simp -implicitDefEqProofs [mf35, z24, dA, bytesV, hl, wu, a1, a2, a3, a4, a5, a6, b1, b2, b3, b4, b5, b6, m1, d1, m2, d2, w1, w2, c1, c2, c3, c4, c5, c6, m3, d3, w3, i0, i1, i2, i3, i4, i5, i6, i7, i8, i9]
set_option maxRecDepth 100000 in
set_option maxHeartbeats 4000000 in
theorem fb10_7 (u : Nat) (h : u < 10000000) : acall mach 35 [.row 0 1 7 1, .pv (.int .u64 (u : Int))] { bl := [z24], fl := 0 } = some (.tup [], { bl := [dA [digit (u / 1000000), digit (u / 100000), digit (u / 10000), digit (u / 1000), digit (u / 100), digit (u / 10), digit u]], fl := 0 }) := by
  rw [acall_fn (mf := mf35) rfl rfl rfl rfl]
  have hl := loop_no (.row 0 1 7 1) (.pv (.int .u64 (u : Int))) 7 (by omega) { bl := [z24], fl := 0 }
  dsimp only [z24] at hl
  have wu : IntKind.u32.wrap ((u : Nat) : Int) = ((u : Nat) : Int) := wrap_u32 (by omega) (by omega)
  have m1 : Int.tmod ((u : Nat) : Int) 10000 = ((u % 10000 : Nat) : Int) := tmodN (u) 10000
  have d1 : Int.tdiv ((u : Nat) : Int) 10000 = ((u / 10000 : Nat) : Int) := tdivN (u) 10000
  have m2 : Int.tmod ((u % 10000 : Nat) : Int) 100 = ((u % 10000 % 100 : Nat) : Int) := tmodN (u % 10000) 100
  have d2 : Int.tdiv ((u % 10000 : Nat) : Int) 100 = ((u % 10000 / 100 : Nat) : Int) := tdivN (u % 10000) 100
  have w1 : IntKind.u32.wrap ((u / 10000 : Nat) : Int) = ((u / 10000 : Nat) : Int) := wrap_u32 (by omega) (by omega)
  have w2 : IntKind.u32.wrap ((u % 10000 / 100 : Nat) : Int) = ((u % 10000 / 100 : Nat) : Int) := wrap_u32 (by omega) (by omega)
  obtain ⟨ka, a1, a2, a3, a4, a5, a6⟩ := pairF (u % 10000 % 100) (by omega)
  rw [digit_eq (show (u % 10000 % 100 / 10) % 10 = (u / 10) % 10 by omega)] at a5
  rw [digit_eq (show (u % 10000 % 100) % 10 = (u) % 10 by omega)] at a6
  dsimp only [smalls] at a5 a6
  obtain ⟨kb, b1, b2, b3, b4, b5, b6⟩ := pairF (u % 10000 / 100) (by omega)
  rw [digit_eq (show (u % 10000 / 100 / 10) % 10 = (u / 1000) % 10 by omega)] at b5
  rw [digit_eq (show (u % 10000 / 100) % 10 = (u / 100) % 10 by omega)] at b6
  dsimp only [smalls] at b5 b6
  have m3 : Int.tmod ((u / 10000 : Nat) : Int) 100 = ((u / 10000 % 100 : Nat) : Int) := tmodN (u / 10000) 100
  have d3 : Int.tdiv ((u / 10000 : Nat) : Int) 100 = ((u / 10000 / 100 : Nat) : Int) := tdivN (u / 10000) 100
  have w3 : IntKind.u32.wrap ((u / 10000 / 100 : Nat) : Int) = ((u / 10000 / 100 : Nat) : Int) := wrap_u32 (by omega) (by omega)
  obtain ⟨kc, c1, c2, c3, c4, c5, c6⟩ := pairF (u / 10000 % 100) (by omega)
  rw [digit_eq (show (u / 10000 % 100 / 10) % 10 = (u / 100000) % 10 by omega)] at c5
  rw [digit_eq (show (u / 10000 % 100) % 10 = (u / 10000) % 10 by omega)] at c6
  dsimp only [smalls] at c5 c6
  have w4 : IntKind.u8.wrap (IntKind.u32.wrap (48 + ((u / 10000 / 100 : Nat) : Int))) = ((digit (u / 1000000)).toNat : Int) := by
    rw [wrap_u32 (by omega) (by omega), wrap_u8in (by omega) (by omega), digit_nat]; omega
  generalize digit (u / 1000000) = e6 at *
  generalize digit (u / 100000) = e5 at *
  generalize digit (u / 10000) = e4 at *
  generalize digit (u / 1000) = e3 at *
  generalize digit (u / 100) = e2 at *
  generalize digit (u / 10) = e1 at *
  generalize digit u = e0 at *
  generalize u % 10000 % 100 = y0 at *
  generalize u % 10000 / 100 = y1 at *
  generalize u % 10000 = y2 at *
  generalize u / 10000 % 100 = y3 at *
  generalize u / 10000 / 100 = y4 at *
  generalize u / 10000 = y5 at *
  have i0 : IntKind.i64.wrap 0 = 0 := by decide
  have i1 : IntKind.i64.wrap 1 = 1 := by decide
  have i2 : IntKind.i64.wrap 2 = 2 := by decide
  have i3 : IntKind.i64.wrap 3 = 3 := by decide
  have i4 : IntKind.i64.wrap 4 = 4 := by decide
  have i5 : IntKind.i64.wrap 5 = 5 := by decide
  have i6 : IntKind.i64.wrap 6 = 6 := by decide
  have i7 : IntKind.i64.wrap 7 = 7 := by decide
  have i8 : IntKind.i64.wrap 8 = 8 := by decide
  have i9 : IntKind.i64.wrap 9 = 9 := by decide
  simp -implicitDefEqProofs [mf35, z24, dA, bytesV, hl, wu, a1, a2, a3, a4, a5, a6, b1, b2, b3, b4, b5, b6, m1, d1, m2, d2, w1, w2, c1, c2, c3, c4, c5, c6, m3, d3, w3, w4, i0, i1, i2, i3, i4, i5, i6, i7, i8, i9]
set_option maxRecDepth 100000 in
set_option maxHeartbeats 4000000 in
theorem loop_once8 (u : Nat) (h : u < 100000000) : ex mach (.loop lp35x0) [(0, .row 0 1 8 1), (1, .pv (.int .u64 (u : Int))), (4, .pv (.int .i64 8))] { bl := [z24], fl := 0 } = some (.ext 0, [(0, .row 0 1 8 1), (1, .pv (.int .u64 ((u / 100000000 : Nat) : Int))), (4, .pv (.int .i64 0)), (20, .pv (.bool false))], { bl := [[(.pv (.int .u8 0)), .pv (.int .u8 ((digit (u / 10000000)).toNat : Int)), .pv (.int .u8 ((digit (u / 1000000)).toNat : Int)), .pv (.int .u8 ((digit (u / 100000)).toNat : Int)), .pv (.int .u8 ((digit (u / 10000)).toNat : Int)), .pv (.int .u8 ((digit (u / 1000)).toNat : Int)), .pv (.int .u8 ((digit (u / 100)).toNat : Int)), .pv (.int .u8 ((digit (u / 10)).toNat : Int)), .pv (.int .u8 ((digit u).toNat : Int)), .pv (.int .u8 0), .pv (.int .u8 0), .pv (.int .u8 0), .pv (.int .u8 0), .pv (.int .u8 0), .pv (.int .u8 0), .pv (.int .u8 0), .pv (.int .u8 0), .pv (.int .u8 0), .pv (.int .u8 0), .pv (.int .u8 0), .pv (.int .u8 0), .pv (.int .u8 0), .pv (.int .u8 0), .pv (.int .u8 0)]], fl := 0 }) := by
  rw [ex_loopU lp35x0.eq_1]
  have hl := loop_no (.row 0 1 8 1) (.pv (.int .u64 ((u / 100000000 : Nat) : Int))) 0 (by omega)
  have m0 : Int.tmod ((u : Nat) : Int) 100000000 = ((u % 100000000 : Nat) : Int) := tmodN (u) 100000000
  have d0 : Int.tdiv ((u : Nat) : Int) 100000000 = ((u / 100000000 : Nat) : Int) := tdivN (u) 100000000
  have w0 : IntKind.u32.wrap ((u % 100000000 : Nat) : Int) = ((u % 100000000 : Nat) : Int) := wrap_u32 (by omega) (by omega)
  have w00 : IntKind.u64.wrap ((u / 100000000 : Nat) : Int) = ((u / 100000000 : Nat) : Int) := wrap_u64 (by omega) (by omega)
  have m1 : Int.tmod ((u % 100000000 : Nat) : Int) 10000 = ((u % 100000000 % 10000 : Nat) : Int) := tmodN (u % 100000000) 10000
  have d1 : Int.tdiv ((u % 100000000 : Nat) : Int) 10000 = ((u % 100000000 / 10000 : Nat) : Int) := tdivN (u % 100000000) 10000
  have w1 : IntKind.u32.wrap ((u % 100000000 / 10000 : Nat) : Int) = ((u % 100000000 / 10000 : Nat) : Int) := wrap_u32 (by omega) (by omega)
  have m2 : Int.tmod ((u % 100000000 % 10000 : Nat) : Int) 100 = ((u % 100000000 % 10000 % 100 : Nat) : Int) := tmodN (u % 100000000 % 10000) 100
  have d2 : Int.tdiv ((u % 100000000 % 10000 : Nat) : Int) 100 = ((u % 100000000 % 10000 / 100 : Nat) : Int) := tdivN (u % 100000000 % 10000) 100
  have w2 : IntKind.u32.wrap ((u % 100000000 % 10000 / 100 : Nat) : Int) = ((u % 100000000 % 10000 / 100 : Nat) : Int) := wrap_u32 (by omega) (by omega)
  have m3 : Int.tmod ((u % 100000000 / 10000 : Nat) : Int) 100 = ((u % 100000000 / 10000 % 100 : Nat) : Int) := tmodN (u % 100000000 / 10000) 100
  have d3 : Int.tdiv ((u % 100000000 / 10000 : Nat) : Int) 100 = ((u % 100000000 / 10000 / 100 : Nat) : Int) := tdivN (u % 100000000 / 10000) 100
  have w3 : IntKind.u32.wrap ((u % 100000000 / 10000 / 100 : Nat) : Int) = ((u % 100000000 / 10000 / 100 : Nat) : Int) := wrap_u32 (by omega) (by omega)
  obtain ⟨ka, a1, a2, a3, a4, a5, a6⟩ := pairF (u % 100000000 % 10000 % 100) (by omega)
  rw [digit_eq (show (u % 100000000 % 10000 % 100 / 10) % 10 = (u / 10) % 10 by omega)] at a5
  rw [digit_eq (show (u % 100000000 % 10000 % 100) % 10 = (u) % 10 by omega)] at a6
  dsimp only [smalls] at a5 a6
  obtain ⟨kb, b1, b2, b3, b4, b5, b6⟩ := pairF (u % 100000000 % 10000 / 100) (by omega)
  rw [digit_eq (show (u % 100000000 % 10000 / 100 / 10) % 10 = (u / 1000) % 10 by omega)] at b5
  rw [digit_eq (show (u % 100000000 % 10000 / 100) % 10 = (u / 100) % 10 by omega)] at b6
  dsimp only [smalls] at b5 b6
  obtain ⟨kc, c1, c2, c3, c4, c5, c6⟩ := pairF (u % 100000000 / 10000 % 100) (by omega)
  rw [digit_eq (show (u % 100000000 / 10000 % 100 / 10) % 10 = (u / 100000) % 10 by omega)] at c5
  rw [digit_eq (show (u % 100000000 / 10000 % 100) % 10 = (u / 10000) % 10 by omega)] at c6
  dsimp only [smalls] at c5 c6
  obtain ⟨kg, g1, g2, g3, g4, g5, g6⟩ := pairF (u % 100000000 / 10000 / 100) (by omega)
  rw [digit_eq (show (u % 100000000 / 10000 / 100 / 10) % 10 = (u / 10000000) % 10 by omega)] at g5
  rw [digit_eq (show (u % 100000000 / 10000 / 100) % 10 = (u / 1000000) % 10 by omega)] at g6
  dsimp only [smalls] at g5 g6
  generalize digit (u / 10000000) = e7 at *
  generalize digit (u / 1000000) = e6 at *
  generalize digit (u / 100000) = e5 at *
  generalize digit (u / 10000) = e4 at *
  generalize digit (u / 1000) = e3 at *
  generalize digit (u / 100) = e2 at *
  generalize digit (u / 10) = e1 at *
  generalize digit u = e0 at *
  generalize u % 100000000 % 10000 % 100 = y0 at *
  generalize u % 100000000 % 10000 / 100 = y1 at *
  generalize u % 100000000 / 10000 % 100 = y2 at *
  generalize u % 100000000 / 10000 / 100 = y3 at *
  generalize u % 100000000 % 10000 = y4 at *
  generalize u % 100000000 / 10000 = y5 at *
  generalize u % 100000000 = y6 at *
  generalize u / 100000000 = y7 at *
  have i0 : IntKind.i64.wrap 0 = 0 := by decide
  have i1 : IntKind.i64.wrap 1 = 1 := by decide
  have i2 : IntKind.i64.wrap 2 = 2 := by decide
  have i3 : IntKind.i64.wrap 3 = 3 := by decide
  have i4 : IntKind.i64.wrap 4 = 4 := by decide
  have i5 : IntKind.i64.wrap 5 = 5 := by decide
  have i6 : IntKind.i64.wrap 6 = 6 := by decide
  have i7 : IntKind.i64.wrap 7 = 7 := by decide
  have i8 : IntKind.i64.wrap 8 = 8 := by decide
  have i9 : IntKind.i64.wrap 9 = 9 := by decide
  simp -implicitDefEqProofs [z24, hl, m0, d0, w0, w00, m1, d1, w1, m2, d2, w2, m3, d3, w3, a1, a2, a3, a4, a5, a6, b1, b2, b3, b4, b5, b6, c1, c2, c3, c4, c5, c6, g1, g2, g3, g4, g5, g6, i0, i1, i2, i3, i4, i5, i6, i7, i8, i9]
set_option maxRecDepth 100000 in
set_option maxHeartbeats 4000000 in
theorem loop_once9 (u : Nat) (h : u < 1000000000) : ex mach (.loop lp35x0) [(0, .row 0 1 9 1), (1, .pv (.int .u64 (u : Int))), (4, .pv (.int .i64 9))] { bl := [z24], fl := 0 } = some (.ext 0, [(0, .row 0 1 9 1), (1, .pv (.int .u64 ((u / 100000000 : Nat) : Int))), (4, .pv (.int .i64 1)), (20, .pv (.bool false))], { bl := [[(.pv (.int .u8 0)), (.pv (.int .u8 0)), .pv (.int .u8 ((digit (u / 10000000)).toNat : Int)), .pv (.int .u8 ((digit (u / 1000000)).toNat : Int)), .pv (.int .u8 ((digit (u / 100000)).toNat : Int)), .pv (.int .u8 ((digit (u / 10000)).toNat : Int)), .pv (.int .u8 ((digit (u / 1000)).toNat : Int)), .pv (.int .u8 ((digit (u / 100)).toNat : Int)), .pv (.int .u8 ((digit (u / 10)).toNat : Int)), .pv (.int .u8 ((digit u).toNat : Int)), .pv (.int .u8 0), .pv (.int .u8 0), .pv (.int .u8 0), .pv (.int .u8 0), .pv (.int .u8 0), .pv (.int .u8 0), .pv (.int .u8 0), .pv (.int .u8 0), .pv (.int .u8 0), .pv (.int .u8 0), .pv (.int .u8 0), .pv (.int .u8 0), .pv (.int .u8 0), .pv (.int .u8 0)]], fl := 0 }) := by
  rw [ex_loopU lp35x0.eq_1]
  have hl := loop_no (.row 0 1 9 1) (.pv (.int .u64 ((u / 100000000 : Nat) : Int))) 1 (by omega)
  have m0 : Int.tmod ((u : Nat) : Int) 100000000 = ((u % 100000000 : Nat) : Int) := tmodN (u) 100000000
  have d0 : Int.tdiv ((u : Nat) : Int) 100000000 = ((u / 100000000 : Nat) : Int) := tdivN (u) 100000000
  have w0 : IntKind.u32.wrap ((u % 100000000 : Nat) : Int) = ((u % 100000000 : Nat) : Int) := wrap_u32 (by omega) (by omega)
  have w00 : IntKind.u64.wrap ((u / 100000000 : Nat) : Int) = ((u / 100000000 : Nat) : Int) := wrap_u64 (by omega) (by omega)
  have m1 : Int.tmod ((u % 100000000 : Nat) : Int) 10000 = ((u % 100000000 % 10000 : Nat) : Int) := tmodN (u % 100000000) 10000
  have d1 : Int.tdiv ((u % 100000000 : Nat) : Int) 10000 = ((u % 100000000 / 10000 : Nat) : Int) := tdivN (u % 100000000) 10000
  have w1 : IntKind.u32.wrap ((u % 100000000 / 10000 : Nat) : Int) = ((u % 100000000 / 10000 : Nat) : Int) := wrap_u32 (by omega) (by omega)
  have m2 : Int.tmod ((u % 100000000 % 10000 : Nat) : Int) 100 = ((u % 100000000 % 10000 % 100 : Nat) : Int) := tmodN (u % 100000000 % 10000) 100
  have d2 : Int.tdiv ((u % 100000000 % 10000 : Nat) : Int) 100 = ((u % 100000000 % 10000 / 100 : Nat) : Int) := tdivN (u % 100000000 % 10000) 100
  have w2 : IntKind.u32.wrap ((u % 100000000 % 10000 / 100 : Nat) : Int) = ((u % 100000000 % 10000 / 100 : Nat) : Int) := wrap_u32 (by omega) (by omega)
  have m3 : Int.tmod ((u % 100000000 / 10000 : Nat) : Int) 100 = ((u % 100000000 / 10000 % 100 : Nat) : Int) := tmodN (u % 100000000 / 10000) 100
  have d3 : Int.tdiv ((u % 100000000 / 10000 : Nat) : Int) 100 = ((u % 100000000 / 10000 / 100 : Nat) : Int) := tdivN (u % 100000000 / 10000) 100
  have w3 : IntKind.u32.wrap ((u % 100000000 / 10000 / 100 : Nat) : Int) = ((u % 100000000 / 10000 / 100 : Nat) : Int) := wrap_u32 (by omega) (by omega)
  obtain ⟨ka, a1, a2, a3, a4, a5, a6⟩ := pairF (u % 100000000 % 10000 % 100) (by omega)
  rw [digit_eq (show (u % 100000000 % 10000 % 100 / 10) % 10 = (u / 10) % 10 by omega)] at a5
  rw [digit_eq (show (u % 100000000 % 10000 % 100) % 10 = (u) % 10 by omega)] at a6
  dsimp only [smalls] at a5 a6
  obtain ⟨kb, b1, b2, b3, b4, b5, b6⟩ := pairF (u % 100000000 % 10000 / 100) (by omega)
  rw [digit_eq (show (u % 100000000 % 10000 / 100 / 10) % 10 = (u / 1000) % 10 by omega)] at b5
  rw [digit_eq (show (u % 100000000 % 10000 / 100) % 10 = (u / 100) % 10 by omega)] at b6
  dsimp only [smalls] at b5 b6
  obtain ⟨kc, c1, c2, c3, c4, c5, c6⟩ := pairF (u % 100000000 / 10000 % 100) (by omega)
  rw [digit_eq (show (u % 100000000 / 10000 % 100 / 10) % 10 = (u / 100000) % 10 by omega)] at c5
  rw [digit_eq (show (u % 100000000 / 10000 % 100) % 10 = (u / 10000) % 10 by omega)] at c6
  dsimp only [smalls] at c5 c6
  obtain ⟨kg, g1, g2, g3, g4, g5, g6⟩ := pairF (u % 100000000 / 10000 / 100) (by omega)
  rw [digit_eq (show (u % 100000000 / 10000 / 100 / 10) % 10 = (u / 10000000) % 10 by omega)] at g5
  rw [digit_eq (show (u % 100000000 / 10000 / 100) % 10 = (u / 1000000) % 10 by omega)] at g6
  dsimp only [smalls] at g5 g6
  generalize digit (u / 10000000) = e7 at *
  generalize digit (u / 1000000) = e6 at *
  generalize digit (u / 100000) = e5 at *
  generalize digit (u / 10000) = e4 at *
  generalize digit (u / 1000) = e3 at *
  generalize digit (u / 100) = e2 at *
  generalize digit (u / 10) = e1 at *
  generalize digit u = e0 at *
  generalize u % 100000000 % 10000 % 100 = y0 at *
  generalize u % 100000000 % 10000 / 100 = y1 at *
  generalize u % 100000000 / 10000 % 100 = y2 at *
  generalize u % 100000000 / 10000 / 100 = y3 at *
  generalize u % 100000000 % 10000 = y4 at *
  generalize u % 100000000 / 10000 = y5 at *
  generalize u % 100000000 = y6 at *
  generalize u / 100000000 = y7 at *
  have i0 : IntKind.i64.wrap 0 = 0 := by decide
  have i1 : IntKind.i64.wrap 1 = 1 := by decide
  have i2 : IntKind.i64.wrap 2 = 2 := by decide
  have i3 : IntKind.i64.wrap 3 = 3 := by decide
  have i4 : IntKind.i64.wrap 4 = 4 := by decide
  have i5 : IntKind.i64.wrap 5 = 5 := by decide
  have i6 : IntKind.i64.wrap 6 = 6 := by decide
  have i7 : IntKind.i64.wrap 7 = 7 := by decide
  have i8 : IntKind.i64.wrap 8 = 8 := by decide
  have i9 : IntKind.i64.wrap 9 = 9 := by decide
  simp -implicitDefEqProofs [z24, hl, m0, d0, w0, w00, m1, d1, w1, m2, d2, w2, m3, d3, w3, a1, a2, a3, a4, a5, a6, b1, b2, b3, b4, b5, b6, c1, c2, c3, c4, c5, c6, g1, g2, g3, g4, g5, g6, i0, i1, i2, i3, i4, i5, i6, i7, i8, i9]
set_option maxRecDepth 100000 in
set_option maxHeartbeats 4000000 in
theorem fb10_8 (u : Nat) (h : u < 100000000) : acall mach 35 [.row 0 1 8 1, .pv (.int .u64 (u : Int))] { bl := [z24], fl := 0 } = some (.tup [], { bl := [dA [digit (u / 10000000), digit (u / 1000000), digit (u / 100000), digit (u / 10000), digit (u / 1000), digit (u / 100), digit (u / 10), digit u]], fl := 0 }) := by
  rw [acall_fn (mf := mf35) rfl rfl rfl rfl]
  have hl := loop_once8 u h
  dsimp only [dA, bytesV, z24] at hl
  have wu : IntKind.u32.wrap ((u / 100000000 : Nat) : Int) = ((u / 100000000 : Nat) : Int) := wrap_u32 (by omega) (by omega)
  generalize digit (u / 10000000) = e7 at *
  generalize digit (u / 1000000) = e6 at *
  generalize digit (u / 100000) = e5 at *
  generalize digit (u / 10000) = e4 at *
  generalize digit (u / 1000) = e3 at *
  generalize digit (u / 100) = e2 at *
  generalize digit (u / 10) = e1 at *
  generalize digit u = e0 at *
  generalize u / 100000000 = y0 at *
  have i0 : IntKind.i64.wrap 0 = 0 := by decide
  have i1 : IntKind.i64.wrap 1 = 1 := by decide
  have i2 : IntKind.i64.wrap 2 = 2 := by decide
  have i3 : IntKind.i64.wrap 3 = 3 := by decide
  have i4 : IntKind.i64.wrap 4 = 4 := by decide
  have i5 : IntKind.i64.wrap 5 = 5 := by decide
  have i6 : IntKind.i64.wrap 6 = 6 := by decide
  have i7 : IntKind.i64.wrap 7 = 7 := by decide
  have i8 : IntKind.i64.wrap 8 = 8 := by decide
  have i9 : IntKind.i64.wrap 9 = 9 := by decide
  simp -implicitDefEqProofs [mf35, z24, dA, bytesV, hl, wu, i0, i1, i2, i3, i4, i5, i6, i7, i8, i9]
set_option maxRecDepth 100000 in
set_option maxHeartbeats 4000000 in
theorem fb10_9 (u : Nat) (h : u < 1000000000) : acall mach 35 [.row 0 1 9 1, .pv (.int .u64 (u : Int))] { bl := [z24], fl := 0 } = some (.tup [], { bl := [dA [digit (u / 100000000), digit (u / 10000000), digit (u / 1000000), digit (u / 100000), digit (u / 10000), digit (u / 1000), digit (u / 100), digit (u / 10), digit u]], fl := 0 }) := by
  rw [acall_fn (mf := mf35) rfl rfl rfl rfl]
  have hl := loop_once9 u h
  dsimp only [dA, bytesV, z24] at hl
  have wu : IntKind.u32.wrap ((u / 100000000 : Nat) : Int) = ((u / 100000000 : Nat) : Int) := wrap_u32 (by omega) (by omega)
  have w4 : IntKind.u8.wrap (IntKind.u32.wrap (48 + ((u / 100000000 : Nat) : Int))) = ((digit (u / 100000000)).toNat : Int) := by
    rw [wrap_u32 (by omega) (by omega), wrap_u8in (by omega) (by omega), digit_nat]; omega
  generalize digit (u / 100000000) = e8 at *
  generalize digit (u / 10000000) = e7 at *
  generalize digit (u / 1000000) = e6 at *
  generalize digit (u / 100000) = e5 at *
  generalize digit (u / 10000) = e4 at *
  generalize digit (u / 1000) = e3 at *
  generalize digit (u / 100) = e2 at *
  generalize digit (u / 10) = e1 at *
  generalize digit u = e0 at *
  generalize u / 100000000 = y0 at *
  have i0 : IntKind.i64.wrap 0 = 0 := by decide
  have i1 : IntKind.i64.wrap 1 = 1 := by decide
  have i2 : IntKind.i64.wrap 2 = 2 := by decide
  have i3 : IntKind.i64.wrap 3 = 3 := by decide
  have i4 : IntKind.i64.wrap 4 = 4 := by decide
  have i5 : IntKind.i64.wrap 5 = 5 := by decide
  have i6 : IntKind.i64.wrap 6 = 6 := by decide
  have i7 : IntKind.i64.wrap 7 = 7 := by decide
  have i8 : IntKind.i64.wrap 8 = 8 := by decide
  have i9 : IntKind.i64.wrap 9 = 9 := by decide
  simp -implicitDefEqProofs [mf35, z24, dA, bytesV, hl, wu, w4, i0, i1, i2, i3, i4, i5, i6, i7, i8, i9]
end Go.Proofs.YtggoaggneapneaaDoorM

set_option linter.unusedVariables false
set_option linter.unusedSimpArgs false
namespace Go.Proofs.YtggoaggneapneaaDoorM
open Go

theorem zl_FI : zl24x0 = z24 := by kernel_rfl
theorem z24_len : z24.length = 24 := rfl
theorem ndig_eq (u n : Nat) (hn : 0 < n) (h : 10 ^ (n - 1) ≤ u) (h' : u < 10 ^ n) (hb : u < 4294967296) : ndig u = n := by
  have h0 : 0 < u := Nat.lt_of_lt_of_le (Nat.pow_pos (by omega)) h
  obtain ⟨n1, n2, n3, n4⟩ := ndig_facts u hb h0
  have a1 : ¬ ndig u < n := fun hl => by
    have := Nat.pow_le_pow_right (show 0 < 10 by omega) (show ndig u ≤ n - 1 by omega)
    omega
  have a2 : ¬ n < ndig u := fun hl => by
    have := Nat.pow_le_pow_right (show 0 < 10 by omega) (show n ≤ ndig u - 1 by omega)
    omega
  omega
set_option maxRecDepth 100000 in
set_option maxHeartbeats 4000000 in
theorem fi10_3 (u : Nat) (h : 100 ≤ u) (h' : u < 1000) (sg : Sig) : acall mach 24 [.pv (.int .i64 (u : Int)), .pv (.int .i64 10)] sg = some (.pv (.str [digit (u / 100), digit (u / 10), digit u]), sg) := by
  rw [acall_fn (mf := mf24) rfl rfl rfl rfl]
  have hn : ndig u = 3 := ndig_eq u 3 (by omega) (by omega) (by omega) (by omega)
  have hN := fun sg => c_numDigits u (by omega) (by omega) sg
  rw [hn] at hN
  have hf := fb10_3 u h'
  have hw : IntKind.u64.wrap (u : Int) = u := wrap_u64 (by omega) (by omega)
  have g1 : (0 : Int) ≤ u := by omega
  have g2 : ¬ (u : Int) < 100 := by omega
  have g3 : ¬ (u : Int) < 0 := by omega
  have g4 : ¬ u < 100 := by omega
  have iw : IntKind.i64.wrap 4 = 4 := by decide
  generalize digit (u / 100) = e2 at *
  generalize digit (u / 10) = e1 at *
  generalize digit u = e0 at *
  dsimp only [dA, bytesV] at hf
  simp only [Int.cast_ofNat_Int] at hN
  simp -implicitDefEqProofs [mf24, hN, zl_FI, z24_len, hf, hw, g1, g2, g3, g4, iw, toB, toBs]
set_option maxRecDepth 100000 in
set_option maxHeartbeats 4000000 in
theorem fi10_4 (u : Nat) (h : 1000 ≤ u) (h' : u < 10000) (sg : Sig) : acall mach 24 [.pv (.int .i64 (u : Int)), .pv (.int .i64 10)] sg = some (.pv (.str [digit (u / 1000), digit (u / 100), digit (u / 10), digit u]), sg) := by
  rw [acall_fn (mf := mf24) rfl rfl rfl rfl]
  have hn : ndig u = 4 := ndig_eq u 4 (by omega) (by omega) (by omega) (by omega)
  have hN := fun sg => c_numDigits u (by omega) (by omega) sg
  rw [hn] at hN
  have hf := fb10_4 u h'
  have hw : IntKind.u64.wrap (u : Int) = u := wrap_u64 (by omega) (by omega)
  have g1 : (0 : Int) ≤ u := by omega
  have g2 : ¬ (u : Int) < 100 := by omega
  have g3 : ¬ (u : Int) < 0 := by omega
  have g4 : ¬ u < 100 := by omega
  have iw : IntKind.i64.wrap 5 = 5 := by decide
  generalize digit (u / 1000) = e3 at *
  generalize digit (u / 100) = e2 at *
  generalize digit (u / 10) = e1 at *
  generalize digit u = e0 at *
  dsimp only [dA, bytesV] at hf
  simp only [Int.cast_ofNat_Int] at hN
  simp -implicitDefEqProofs [mf24, hN, zl_FI, z24_len, hf, hw, g1, g2, g3, g4, iw, toB, toBs]
set_option maxRecDepth 100000 in
set_option maxHeartbeats 4000000 in
theorem fi10_5 (u : Nat) (h : 10000 ≤ u) (h' : u < 100000) (sg : Sig) : acall mach 24 [.pv (.int .i64 (u : Int)), .pv (.int .i64 10)] sg = some (.pv (.str [digit (u / 10000), digit (u / 1000), digit (u / 100), digit (u / 10), digit u]), sg) := by
  rw [acall_fn (mf := mf24) rfl rfl rfl rfl]
  have hn : ndig u = 5 := ndig_eq u 5 (by omega) (by omega) (by omega) (by omega)
  have hN := fun sg => c_numDigits u (by omega) (by omega) sg
  rw [hn] at hN
  have hf := fb10_5 u h'
  have hw : IntKind.u64.wrap (u : Int) = u := wrap_u64 (by omega) (by omega)
  have g1 : (0 : Int) ≤ u := by omega
  have g2 : ¬ (u : Int) < 100 := by omega
  have g3 : ¬ (u : Int) < 0 := by omega
  have g4 : ¬ u < 100 := by omega
  have iw : IntKind.i64.wrap 6 = 6 := by decide
  generalize digit (u / 10000) = e4 at *
  generalize digit (u / 1000) = e3 at *
  generalize digit (u / 100) = e2 at *
  generalize digit (u / 10) = e1 at *
  generalize digit u = e0 at *
  dsimp only [dA, bytesV] at hf
  simp only [Int.cast_ofNat_Int] at hN
  simp -implicitDefEqProofs [mf24, hN, zl_FI, z24_len, hf, hw, g1, g2, g3, g4, iw, toB, toBs]
set_option maxRecDepth 100000 in
set_option maxHeartbeats 4000000 in
theorem fi10_6 (u : Nat) (h : 100000 ≤ u) (h' : u < 1000000) (sg : Sig) : acall mach 24 [.pv (.int .i64 (u : Int)), .pv (.int .i64 10)] sg = some (.pv (.str [digit (u / 100000), digit (u / 10000), digit (u / 1000), digit (u / 100), digit (u / 10), digit u]), sg) := by
  rw [acall_fn (mf := mf24) rfl rfl rfl rfl]
  have hn : ndig u = 6 := ndig_eq u 6 (by omega) (by omega) (by omega) (by omega)
  have hN := fun sg => c_numDigits u (by omega) (by omega) sg
  rw [hn] at hN
  have hf := fb10_6 u h'
  have hw : IntKind.u64.wrap (u : Int) = u := wrap_u64 (by omega) (by omega)
  have g1 : (0 : Int) ≤ u := by omega
  have g2 : ¬ (u : Int) < 100 := by omega
  have g3 : ¬ (u : Int) < 0 := by omega
  have g4 : ¬ u < 100 := by omega
  have iw : IntKind.i64.wrap 7 = 7 := by decide
  generalize digit (u / 100000) = e5 at *
  generalize digit (u / 10000) = e4 at *
  generalize digit (u / 1000) = e3 at *
  generalize digit (u / 100) = e2 at *
  generalize digit (u / 10) = e1 at *
  generalize digit u = e0 at *
  dsimp only [dA, bytesV] at hf
  simp only [Int.cast_ofNat_Int] at hN
  simp -implicitDefEqProofs [mf24, hN, zl_FI, z24_len, hf, hw, g1, g2, g3, g4, iw, toB, toBs]
set_option maxRecDepth 100000 in
set_option maxHeartbeats 4000000 in
theorem fi10_7 (u : Nat) (h : 1000000 ≤ u) (h' : u < 10000000) (sg : Sig) : acall mach 24 [.pv (.int .i64 (u : Int)), .pv (.int .i64 10)] sg = some (.pv (.str [digit (u / 1000000), digit (u / 100000), digit (u / 10000), digit (u / 1000), digit (u / 100), digit (u / 10), digit u]), sg) := by
  rw [acall_fn (mf := mf24) rfl rfl rfl rfl]
  have hn : ndig u = 7 := ndig_eq u 7 (by omega) (by omega) (by omega) (by omega)
  have hN := fun sg => c_numDigits u (by omega) (by omega) sg
  rw [hn] at hN
  have hf := fb10_7 u h'
  have hw : IntKind.u64.wrap (u : Int) = u := wrap_u64 (by omega) (by omega)
  have g1 : (0 : Int) ≤ u := by omega
  have g2 : ¬ (u : Int) < 100 := by omega
  have g3 : ¬ (u : Int) < 0 := by omega
  have g4 : ¬ u < 100 := by omega
  have iw : IntKind.i64.wrap 8 = 8 := by decide
  generalize digit (u / 1000000) = e6 at *
  generalize digit (u / 100000) = e5 at *
  generalize digit (u / 10000) = e4 at *
  generalize digit (u / 1000) = e3 at *
  generalize digit (u / 100) = e2 at *
  generalize digit (u / 10) = e1 at *
  generalize digit u = e0 at *
  dsimp only [dA, bytesV] at hf
  simp only [Int.cast_ofNat_Int] at hN
  simp -implicitDefEqProofs [mf24, hN, zl_FI, z24_len, hf, hw, g1, g2, g3, g4, iw, toB, toBs]
set_option maxRecDepth 100000 in
set_option maxHeartbeats 4000000 in
theorem fi10_8 (u : Nat) (h : 10000000 ≤ u) (h' : u < 100000000) (sg : Sig) : acall mach 24 [.pv (.int .i64 (u : Int)), .pv (.int .i64 10)] sg = some (.pv (.str [digit (u / 10000000), digit (u / 1000000), digit (u / 100000), digit (u / 10000), digit (u / 1000), digit (u / 100), digit (u / 10), digit u]), sg) := by
  rw [acall_fn (mf := mf24) rfl rfl rfl rfl]
  have hn : ndig u = 8 := ndig_eq u 8 (by omega) (by omega) (by omega) (by omega)
  have hN := fun sg => c_numDigits u (by omega) (by omega) sg
  rw [hn] at hN
  have hf := fb10_8 u h'
  have hw : IntKind.u64.wrap (u : Int) = u := wrap_u64 (by omega) (by omega)
  have g1 : (0 : Int) ≤ u := by omega
  have g2 : ¬ (u : Int) < 100 := by omega
  have g3 : ¬ (u : Int) < 0 := by omega
  have g4 : ¬ u < 100 := by omega
  have iw : IntKind.i64.wrap 9 = 9 := by decide
  generalize digit (u / 10000000) = e7 at *
  generalize digit (u / 1000000) = e6 at *
  generalize digit (u / 100000) = e5 at *
  generalize digit (u / 10000) = e4 at *
  generalize digit (u / 1000) = e3 at *
  generalize digit (u / 100) = e2 at *
  generalize digit (u / 10) = e1 at *
  generalize digit u = e0 at *
  dsimp only [dA, bytesV] at hf
  simp only [Int.cast_ofNat_Int] at hN
  simp -implicitDefEqProofs [mf24, hN, zl_FI, z24_len, hf, hw, g1, g2, g3, g4, iw, toB, toBs]
set_option maxRecDepth 100000 in
set_option maxHeartbeats 4000000 in
theorem fi10_9 (u : Nat) (h : 100000000 ≤ u) (h' : u < 1000000000) (sg : Sig) : acall mach 24 [.pv (.int .i64 (u : Int)), .pv (.int .i64 10)] sg = some (.pv (.str [digit (u / 100000000), digit (u / 10000000), digit (u / 1000000), digit (u / 100000), digit (u / 10000), digit (u / 1000), digit (u / 100), digit (u / 10), digit u]), sg) := by
  rw [acall_fn (mf := mf24) rfl rfl rfl rfl]
  have hn : ndig u = 9 := ndig_eq u 9 (by omega) (by omega) (by omega) (by omega)
  have hN := fun sg => c_numDigits u (by omega) (by omega) sg
  rw [hn] at hN
  have hf := fb10_9 u h'
  have hw : IntKind.u64.wrap (u : Int) = u := wrap_u64 (by omega) (by omega)
  have g1 : (0 : Int) ≤ u := by omega
  have g2 : ¬ (u : Int) < 100 := by omega
  have g3 : ¬ (u : Int) < 0 := by omega
  have g4 : ¬ u < 100 := by omega
  have iw : IntKind.i64.wrap 10 = 10 := by decide
  generalize digit (u / 100000000) = e8 at *
  generalize digit (u / 10000000) = e7 at *
  generalize digit (u / 1000000) = e6 at *
  generalize digit (u / 100000) = e5 at *
  generalize digit (u / 10000) = e4 at *
  generalize digit (u / 1000) = e3 at *
  generalize digit (u / 100) = e2 at *
  generalize digit (u / 10) = e1 at *
  generalize digit u = e0 at *
  dsimp only [dA, bytesV] at hf
  simp only [Int.cast_ofNat_Int] at hN
  simp -implicitDefEqProofs [mf24, hN, zl_FI, z24_len, hf, hw, g1, g2, g3, g4, iw, toB, toBs]
theorem small_at : ∀ k : Fin 100, (k.val < 10 → (digs36.take (k.val + 1)).drop k.val = [digit k.val]) ∧ (smalls.take (k.val * 2 + 2)).drop (k.val * 2) = [digit (k.val / 10), digit k.val] := by decide +kernel
set_option maxRecDepth 100000 in
set_option maxHeartbeats 4000000 in
theorem c_small (u : Nat) (h : u < 100) (sg : Sig) : acall mach 33 [.pv (.int .i64 (u : Int))] sg = some (.pv (.str (if u < 10 then [digit u] else [digit (u / 10), digit u])), sg) := by
  rw [acall_fn (mf := mf33) rfl rfl rfl rfl]
  obtain ⟨h1, h2⟩ := small_at ⟨u, h⟩
  simp only at h1 h2
  by_cases hu : u < 10
  · have h1 := h1 hu
    rw [if_pos hu]
    have g1 : (u : Int) < 10 := by omega
    obtain ⟨j, hj⟩ : ∃ j, j = u + 1 := ⟨_, rfl⟩
    rw [← hj] at h1
    have w1 : IntKind.i64.wrap ((u : Int) + 1) = (j : Int) := by rw [wrap_in (by omega) (by omega)]; omega
    have g2 : (0 : Int) ≤ u := by omega
    have g3 : (u : Int) ≤ j := by omega
    have g4 : (j : Int) ≤ 36 := by omega
    have g5 : u ≤ j := by omega
    have g6 : j ≤ 36 := by omega
    dsimp only [digs36] at h1
    simp -implicitDefEqProofs [mf33, g1, hu, w1, g2, g3, g4, g5, g6, h1]
  · rw [if_neg hu]
    have g1 : ¬ (u : Int) < 10 := by omega
    obtain ⟨k, hk⟩ : ∃ k, k = u * 2 := ⟨_, rfl⟩
    obtain ⟨j, hj⟩ : ∃ j, j = k + 2 := ⟨_, rfl⟩
    rw [← hk, ← hj] at h2
    have w1 : IntKind.i64.wrap ((u : Int) * 2) = (k : Int) := by rw [wrap_in (by omega) (by omega)]; omega
    have w2 : IntKind.i64.wrap ((k : Int) + 2) = (j : Int) := by rw [wrap_in (by omega) (by omega)]; omega
    have g2 : (0 : Int) ≤ k := by omega
    have g3 : (k : Int) ≤ j := by omega
    have g4 : (j : Int) ≤ 200 := by omega
    have g5 : k ≤ j := by omega
    have g6 : j ≤ 200 := by omega
    dsimp only [smalls] at h2
    simp -implicitDefEqProofs [mf33, g1, hu, w1, w2, g2, g3, g4, g5, g6, h2]
theorem decD_1 (u : Nat) (h : u < 10) : decD u = [digit u] := by
  have h1 : u / 10 = 0 := by omega
  simp [decD, digsF, h1]
theorem decD_2 (u : Nat) (h : 10 ≤ u) (h' : u < 100) : decD u = [digit (u / 10), digit u] := by
  have g1 : ¬ u < 10 := by omega
  simp [decD, digsF, Nat.div_div_eq_div_mul, h', g1]
theorem decD_3 (u : Nat) (h : 100 ≤ u) (h' : u < 1000) : decD u = [digit (u / 100), digit (u / 10), digit u] := by
  have g1 : ¬ u < 10 := by omega
  have g2 : ¬ u < 100 := by omega
  simp [decD, digsF, Nat.div_div_eq_div_mul, h', g1, g2]
theorem decD_4 (u : Nat) (h : 1000 ≤ u) (h' : u < 10000) : decD u = [digit (u / 1000), digit (u / 100), digit (u / 10), digit u] := by
  have g1 : ¬ u < 10 := by omega
  have g2 : ¬ u < 100 := by omega
  have g3 : ¬ u < 1000 := by omega
  simp [decD, digsF, Nat.div_div_eq_div_mul, h', g1, g2, g3]
theorem decD_5 (u : Nat) (h : 10000 ≤ u) (h' : u < 100000) : decD u = [digit (u / 10000), digit (u / 1000), digit (u / 100), digit (u / 10), digit u] := by
  have g1 : ¬ u < 10 := by omega
  have g2 : ¬ u < 100 := by omega
  have g3 : ¬ u < 1000 := by omega
  have g4 : ¬ u < 10000 := by omega
  simp [decD, digsF, Nat.div_div_eq_div_mul, h', g1, g2, g3, g4]
theorem decD_6 (u : Nat) (h : 100000 ≤ u) (h' : u < 1000000) : decD u = [digit (u / 100000), digit (u / 10000), digit (u / 1000), digit (u / 100), digit (u / 10), digit u] := by
  have g1 : ¬ u < 10 := by omega
  have g2 : ¬ u < 100 := by omega
  have g3 : ¬ u < 1000 := by omega
  have g4 : ¬ u < 10000 := by omega
  have g5 : ¬ u < 100000 := by omega
  simp [decD, digsF, Nat.div_div_eq_div_mul, h', g1, g2, g3, g4, g5]
theorem decD_7 (u : Nat) (h : 1000000 ≤ u) (h' : u < 10000000) : decD u = [digit (u / 1000000), digit (u / 100000), digit (u / 10000), digit (u / 1000), digit (u / 100), digit (u / 10), digit u] := by
  have g1 : ¬ u < 10 := by omega
  have g2 : ¬ u < 100 := by omega
  have g3 : ¬ u < 1000 := by omega
  have g4 : ¬ u < 10000 := by omega
  have g5 : ¬ u < 100000 := by omega
  have g6 : ¬ u < 1000000 := by omega
  simp [decD, digsF, Nat.div_div_eq_div_mul, h', g1, g2, g3, g4, g5, g6]
theorem decD_8 (u : Nat) (h : 10000000 ≤ u) (h' : u < 100000000) : decD u = [digit (u / 10000000), digit (u / 1000000), digit (u / 100000), digit (u / 10000), digit (u / 1000), digit (u / 100), digit (u / 10), digit u] := by
  have g1 : ¬ u < 10 := by omega
  have g2 : ¬ u < 100 := by omega
  have g3 : ¬ u < 1000 := by omega
  have g4 : ¬ u < 10000 := by omega
  have g5 : ¬ u < 100000 := by omega
  have g6 : ¬ u < 1000000 := by omega
  have g7 : ¬ u < 10000000 := by omega
  simp [decD, digsF, Nat.div_div_eq_div_mul, h', g1, g2, g3, g4, g5, g6, g7]
theorem decD_9 (u : Nat) (h : 100000000 ≤ u) (h' : u < 1000000000) : decD u = [digit (u / 100000000), digit (u / 10000000), digit (u / 1000000), digit (u / 100000), digit (u / 10000), digit (u / 1000), digit (u / 100), digit (u / 10), digit u] := by
  have g1 : ¬ u < 10 := by omega
  have g2 : ¬ u < 100 := by omega
  have g3 : ¬ u < 1000 := by omega
  have g4 : ¬ u < 10000 := by omega
  have g5 : ¬ u < 100000 := by omega
  have g6 : ¬ u < 1000000 := by omega
  have g7 : ¬ u < 10000000 := by omega
  have g8 : ¬ u < 100000000 := by omega
  simp [decD, digsF, Nat.div_div_eq_div_mul, h', g1, g2, g3, g4, g5, g6, g7, g8]
set_option maxRecDepth 100000 in
theorem c_FormatIntL (u : Nat) (h : u ≤ 999999999) (sg : Sig) : acall mach 24 [.pv (.int .i64 (u : Int)), .pv (.int .i64 10)] sg = some (.pv (.str (decD u)), sg) := by
  by_cases h0 : u < 100
  · rw [acall_fn (mf := mf24) rfl rfl rfl rfl]
    have hs := c_small u h0
    have g1 : (0 : Int) ≤ u := by omega
    have g2 : (u : Int) < 100 := by omega
    by_cases h1 : u < 10
    · rw [decD_1 u h1]
      simp only [if_pos h1] at hs
      simp -implicitDefEqProofs [mf24, g1, g2, h0, hs]
    · rw [decD_2 u (by omega) (by omega)]
      simp only [if_neg h1] at hs
      simp -implicitDefEqProofs [mf24, g1, g2, h0, hs]
  by_cases c3 : u < 1000
  · rw [decD_3 u (by omega) (by omega)]; exact fi10_3 u (by omega) (by omega) sg
  by_cases c4 : u < 10000
  · rw [decD_4 u (by omega) (by omega)]; exact fi10_4 u (by omega) (by omega) sg
  by_cases c5 : u < 100000
  · rw [decD_5 u (by omega) (by omega)]; exact fi10_5 u (by omega) (by omega) sg
  by_cases c6 : u < 1000000
  · rw [decD_6 u (by omega) (by omega)]; exact fi10_6 u (by omega) (by omega) sg
  by_cases c7 : u < 10000000
  · rw [decD_7 u (by omega) (by omega)]; exact fi10_7 u (by omega) (by omega) sg
  by_cases c8 : u < 100000000
  · rw [decD_8 u (by omega) (by omega)]; exact fi10_8 u (by omega) (by omega) sg
  by_cases c9 : u < 1000000000
  · rw [decD_9 u (by omega) (by omega)]; exact fi10_9 u (by omega) (by omega) sg
  omega
theorem c_FormatInt10 (u : Nat) (h : u ≤ 999999999) (sg : Sig) : acall mach 14 [.pv (.int .i64 (u : Int)), .pv (.int .i64 10)] sg = some (.pv (.str (decD u)), sg) := by
  rw [acall_fn (mf := mf14) rfl rfl rfl rfl]
  simp [mf14, c_FormatIntL u h]
end Go.Proofs.YtggoaggneapneaaDoorM

set_option linter.unusedVariables false
set_option linter.unusedSimpArgs false
namespace Go.Proofs.YtggoaggneapneaaDoorM
open Go

def isB (c d : UInt8) : Bool := d == c
theorem loop_trB (c : UInt8) (sg : Sig) : ∀ (n : Nat) (s : List UInt8), s.length = n → s.length ≤ maxI → ∃ e, ex mach (.loop lp38x0) [(0, .pv (.str s)), (1, .pv (.int .u8 (c.toNat : Int)))] sg = some (.ext 0, e, sg) ∧ look e 0 = some (.pv (.str (rdrop (isB c) s)))
  | 0, s, hn, hm => by
    obtain rfl := List.eq_nil_of_length_eq_zero hn
    refine ⟨_, by rw [ex_loopU lp38x0.eq_1]; simp; rfl, rfl⟩
  | n + 1, s, hn, hm => by
    obtain ⟨s, b, rfl⟩ : ∃ s' b, s = s' ++ [b] := ⟨s.dropLast, s.getLast (by intro e; simp [e] at hn), by rw [List.dropLast_concat_getLast]⟩
    have hl : s.length = n := by simpa using hn
    simp only [List.length_append, List.length_cons, List.length_nil, maxI] at hm
    have hw : IntKind.i64.wrap (s.length : Int) = s.length := wrap_in (by omega) (by omega)
    have h0 : (0 : Int) < s.length + 1 := by omega
    have h4 : ((s.length : Int)) ≤ s.length + 1 := by omega
    have h5 : (0 : Int) ≤ s.length := by omega
    by_cases hp : b = c
    · subst hp
      obtain ⟨e, h1, h2⟩ := loop_trB b sg n s hl (by simp only [maxI]; omega)
      refine ⟨e, ?_, by rw [h2, rdrop_snoc_pos (by simp [isB])]⟩
      rw [ex_loopU lp38x0.eq_1]
      simp [hw, h0, h4, h5, h1]
    · have hq : ¬ (b.toNat : Int) = (c.toNat : Int) := by
        intro e
        exact hp (UInt8.toNat_inj.1 (by omega))
      have hq2 : ((b.toNat : Int) == (c.toNat : Int)) = false := by simpa using hq
      have hq3 : ¬ b.toNat = c.toNat := by omega
      refine ⟨_, by rw [ex_loopU lp38x0.eq_1]; simp [hp, hq, hq2, hq3, hw, h0, h4, h5]; rfl, ?_⟩
      rw [rdrop_snoc_neg (by simpa [isB] using hp)]
      rfl
theorem c_trimRightByte (c : UInt8) (s : List UInt8) (hm : s.length ≤ maxI) (sg : Sig) : acall mach 38 [.pv (.str s), .pv (.int .u8 (c.toNat : Int))] sg = some (.pv (.str (rdrop (isB c) s)), sg) := by
  rw [acall_fn (mf := mf38) rfl rfl rfl rfl]
  obtain ⟨e, h1, h2⟩ := loop_trB c { bl := [], fl := 0 } _ s rfl hm
  simp [mf38, h1, h2]
theorem c_TrimRight1 (c : UInt8) (hc : c.toNat < 128) (s : List UInt8) (hm : s.length ≤ maxI) (sg : Sig) : acall mach 26 [.pv (.str s), .pv (.str [c])] sg = some (.pv (.str (rdrop (isB c) s)), sg) := by
  rw [acall_fn (mf := mf26) rfl rfl rfl rfl]
  have h := c_trimRightByte c s hm
  have hc' : (c.toNat : Int) < 128 := by omega
  cases s with
  | nil => simp [mf26, rdrop]
  | cons b s => simp [mf26, h, hc, hc']
def cutSuf (s p : List UInt8) : List UInt8 := if hasSuf s p then s.take (s.length - p.length) else s
theorem c_TrimSuffix' (s p : List UInt8) (hm : s.length ≤ maxI) (sg : Sig) : acall mach 37 [.pv (.str s), .pv (.str p)] sg = some (.pv (.str (cutSuf s p)), sg) := by
  rw [acall_fn (mf := mf37) rfl rfl rfl rfl]
  have hc := c_HasSuffix s p hm
  unfold cutSuf
  cases h : hasSuf s p with
  | true =>
    obtain ⟨h2, h3, h4⟩ := suf_facts hm (hasSuf_le h)
    generalize s.length - p.length = k at h2 h3 h4 ⊢
    simp [mf37, hc, h, h2, h3, h4]
  | false => simp [mf37, hc, h]
theorem c_TrimSuffix (s p : List UInt8) (hm : s.length ≤ maxI) (sg : Sig) : acall mach 25 [.pv (.str s), .pv (.str p)] sg = some (.pv (.str (cutSuf s p)), sg) := by
  rw [acall_fn (mf := mf25) rfl rfl rfl rfl]
  have hc := c_TrimSuffix' s p hm
  simp [mf25, hc]

/-! ### Units -/
def partU (k : Nat) : List UInt8 := (decD (1000000 + k * 15625)).drop 1
def fracB (k : Nat) : List UInt8 := rdrop (isB 48) (partU k)
theorem frac_facts : ∀ k : Fin 64, (fracB k.val = [] ∨ digitsB (fracB k.val) 6 = true) ∧ valB 10 ((fracB k.val ++ zeros6).take 6) * 64 / 1000000 = k.val ∧ (fracB k.val).all isD = true ∧ (partU k.val).length = 6 ∧ (fracB k.val).length ≤ 6 ∧ hasSuf (fracB k.val) [46] = false ∧ (fracB k.val = [] ↔ k.val = 0) := by decide +kernel
/-- The text of so many units, without a sign. -/
def decU (a : Nat) : List UInt8 := decD (a / 64) ++ tailB (fracB (a % 64))
def decT (n : Int) : List UInt8 := if n < 0 then 45 :: decU n.natAbs else decU n.natAbs
theorem cut_dot (x ds : List UInt8) (h : ds = [] ∨ digitsB ds 6 = true) : cutSuf (x ++ (46 :: ds)) [46] = x ++ tailB ds := by
  unfold cutSuf tailB
  rcases h with rfl | h
  · rw [hasSuf_app, take_suf]; simp
  · obtain ⟨h1, h2, h3⟩ := digitsB_facts h
    rw [if_neg h1]
    have hs : hasSuf (x ++ (46 :: ds)) [46] = false := by
      cases hx : hasSuf (x ++ (46 :: ds)) [46] with
      | false => rfl
      | true =>
        simp only [hasSuf, Bool.and_eq_true, decide_eq_true_eq, beq_iff_eq] at hx
        have hl := congrArg List.getLast? hx.2
        rw [List.getLast?_drop, if_neg (by simp only [List.length_append, List.length_cons, List.length_nil]; omega)] at hl
        obtain ⟨ds', c, rfl⟩ : ∃ s' b, ds = s' ++ [b] := ⟨ds.dropLast, ds.getLast h1, by rw [List.dropLast_concat_getLast]⟩
        have hc : isD c = true := List.all_eq_true.1 h3 c (by simp)
        rw [show x ++ 46 :: (ds' ++ [c]) = (x ++ 46 :: ds') ++ [c] by simp, List.getLast?_concat] at hl
        simp at hl
        rw [hl] at hc
        revert hc; decide
    rw [hs]; rfl
set_option maxHeartbeats 4000000 in
theorem c_decimal (n : Int) (h1 : -63999999999 ≤ n) (h2 : n ≤ 63999999999) (sg : Sig) : acall mach 16 [.pv (.int .i64 n)] sg = some (.pv (.str (decT n)), sg) := by
  rw [acall_fn (mf := mf16) rfl rfl rfl rfl]
  obtain ⟨a, ha, hs⟩ : ∃ a : Nat, n.natAbs = a ∧ a ≤ 63999999999 := ⟨n.natAbs, rfl, by omega⟩
  have hf := frac_facts ⟨a % 64, by omega⟩
  simp only at hf
  obtain ⟨f1, f2, f3, f4, f5, f6, f7⟩ := hf
  have hd := c_FormatInt10 (a / 64) (by omega)
  have hp := c_FormatInt10 (1000000 + a % 64 * 15625) (by omega)
  have hpl : (decD (1000000 + a % 64 * 15625)).length = 7 := by
    have : (partU (a % 64)).length = (decD (1000000 + a % 64 * 15625)).length - 1 := by simp [partU]
    omega
  have hdl := (digitsB_facts (decD_facts (a / 64) (by omega)).1).2.1
  have ht := c_TrimRight1 48 (by decide) (partU (a % 64)) (by rw [f4]; decide)
  have e1 : Int.tdiv (a : Int) 64 = ((a / 64 : Nat) : Int) := tdivN a 64
  have e2 : Int.tmod (a : Int) 64 = ((a % 64 : Nat) : Int) := tmodN a 64
  have w1 : IntKind.i64.wrap ((a / 64 : Nat) : Int) = ((a / 64 : Nat) : Int) := wrap_in (by omega) (by omega)
  have w2 : IntKind.i64.wrap (((a % 64 : Nat) : Int) * 15625) = ((a % 64 * 15625 : Nat) : Int) := by rw [wrap_in (by omega) (by omega)]; omega
  have w3 : IntKind.i64.wrap (1000000 + ((a % 64 * 15625 : Nat) : Int)) = ((1000000 + a % 64 * 15625 : Nat) : Int) := by rw [wrap_in (by omega) (by omega)]; omega
  unfold decT decU
  rw [ha]
  unfold fracB at f1 f5 ⊢
  have hcd : ∀ x, cutSuf (x ++ 46 :: rdrop (isB 48) (partU (a % 64))) [46] = x ++ tailB (rdrop (isB 48) (partU (a % 64))) := fun x => cut_dot x _ f1
  have hpd : (decD (1000000 + a % 64 * 15625)).drop 1 = partU (a % 64) := rfl
  generalize decD (a / 64) = D at hd hdl ⊢
  generalize rdrop (isB 48) (partU (a % 64)) = R at *
  generalize partU (a % 64) = P at *
  generalize decD (1000000 + a % 64 * 15625) = Q at *
  generalize 1000000 + a % 64 * 15625 = q at *
  generalize a % 64 * 15625 = q2 at *
  generalize a % 64 = q3 at *
  generalize a / 64 = q4 at *
  have hpt : (Q.take 7).tail = P := by rw [List.take_of_length_le (by omega), ← List.drop_one]; exact hpd
  have n1 : D.length ≤ maxI := by simp only [maxI]; omega
  have n2 : D.length + 1 ≤ maxI := by simp only [maxI]; omega
  have n3 : D.length + 1 + R.length ≤ maxI := by simp only [maxI]; omega
  have n4 : D.length + (1 + R.length) ≤ maxI := by simp only [maxI]; omega
  have n5 : D.length + 1 + 1 + R.length ≤ maxI := by simp only [maxI]; omega
  have n6 : D.length + 1 + 1 ≤ maxI := by simp only [maxI]; omega
  have n7 : 1 + D.length ≤ maxI := by simp only [maxI]; omega
  have hsx := fun x (hx : x.length ≤ maxI) => c_TrimSuffix x [46] hx
  have s1 := hsx (D ++ 46 :: R) (by simp only [List.length_append, List.length_cons, maxI]; omega)
  have s2 := hsx (45 :: (D ++ 46 :: R)) (by simp only [List.length_append, List.length_cons, maxI]; omega)
  rw [hcd] at s1
  rw [show 45 :: (D ++ 46 :: R) = (45 :: D) ++ 46 :: R from rfl, hcd] at s2
  simp only [List.cons_append] at s2
  by_cases hn : n < 0
  · have hna : IntKind.i64.wrap (-n) = a := by rw [wrap_in (by omega) (by omega)]; omega
    simp -implicitDefEqProofs [mf16, hn, hna, e1, e2, w1, w2, w3, hd, hp, hpl, hpd, hpt, ht, n1, n2, n3, n4, n5, n6, n7, s1, s2]
  · have hna : n = a := by omega
    subst hna
    have hn' : ¬ (a : Int) < 0 := by omega
    simp -implicitDefEqProofs [mf16, hn', e1, e2, w1, w2, w3, hd, hp, hpl, hpd, hpt, ht, n1, n2, n3, n4, n5, n6, n7, s1, s2]
end Go.Proofs.YtggoaggneapneaaDoorM

set_option linter.unusedVariables false
set_option linter.unusedSimpArgs false
namespace Go.Proofs.YtggoaggneapneaaDoorM
open Go

def printV (p k n : Int) : List UInt8 :=
  if mayV (srtAt p) k n = true then
    (if k = 1 then autoB else if k = 4 then 35 :: (hexD (16777216 + n.toNat)).drop 1 else if k = 5 then (srtAt p).words.getD n.toNat [] else if k = 2 then decT n ++ pxB else if k = 3 then decT n ++ percB else decT n)
  else []
theorem may_4 {s : Srt} {n : Int} (h : mayV s 4 n = true) : s.color = true ∧ 0 ≤ n ∧ n ≤ 16777215 := by
  simp [mayV] at h; exact h
theorem may_5 {s : Srt} {n : Int} (h : mayV s 5 n = true) : 0 ≤ n ∧ n < s.words.length := by
  simp [mayV] at h; exact h
theorem low_ge (s : Srt) : -63999999999 ≤ lowOf s ∧ lowOf s ≤ 0 := by unfold lowOf; split <;> omega
theorem may_2 {s : Srt} {n : Int} (h : mayV s 2 n = true) : s.length = true ∧ lowOf s ≤ n ∧ n ≤ 63999999999 := by
  simp [mayV] at h; exact h
theorem may_3 {s : Srt} {n : Int} (h : mayV s 3 n = true) : s.part = true ∧ 0 ≤ n ∧ n ≤ 63999999999 := by
  simp [mayV] at h; exact h
theorem may_6 {s : Srt} {n : Int} (h : mayV s 6 n = true) : s.number = true ∧ lowOf s ≤ n ∧ n ≤ 63999999999 := by
  simp [mayV] at h; exact h
theorem may_k {s : Srt} {k n : Int} (h : mayV s k n = true) : k = 1 ∨ k = 2 ∨ k = 3 ∨ k = 4 ∨ k = 5 ∨ k = 6 := by
  by_cases k1 : k = 1; · exact .inl k1
  by_cases k2 : k = 2; · exact .inr (.inl k2)
  by_cases k3 : k = 3; · exact .inr (.inr (.inl k3))
  by_cases k4 : k = 4; · exact .inr (.inr (.inr (.inl k4)))
  by_cases k5 : k = 5; · exact .inr (.inr (.inr (.inr (.inl k5))))
  by_cases k6 : k = 6; · exact .inr (.inr (.inr (.inr (.inr k6))))
  simp [mayV, k1, k2, k3, k4, k5, k6] at h
theorem decD_len (u : Nat) (h : u ≤ 999999999) : (decD u).length ≤ 9 := (digitsB_facts (decD_facts u h).1).2.1
theorem decT_len (n : Int) (h1 : -63999999999 ≤ n) (h2 : n ≤ 63999999999) : (decT n).length ≤ 20 := by
  have hd := decD_len (n.natAbs / 64) (by omega)
  have hf := frac_facts ⟨n.natAbs % 64, by omega⟩
  simp only at hf
  have f5 := hf.2.2.2.2.1
  have ht : (tailB (fracB (n.natAbs % 64))).length ≤ 7 := by
    unfold tailB; split
    · simp
    · simp only [List.length_cons]; omega
  unfold decT decU
  split <;> simp only [List.length_cons, List.length_append] <;> omega
theorem hexD_len (u : Nat) (h : u < 16 ^ 9) : 1 ≤ (hexD u).length ∧ (hexD u).length ≤ 9 := by
  obtain ⟨f1, f2⟩ := hexL_facts 8 u [] h
  simp only [List.length_nil, Nat.zero_add] at f2
  unfold hexD
  simp only [List.length_cons]
  omega
set_option maxHeartbeats 4000000 in
theorem c_Print (p k n : Int) (sg : Sig) : acall mach 7 [.pv (.int .i64 p), .agg [.pv (.int .i64 k), .pv (.int .i64 n)]] sg = some (.pv (.str (printV p k n)), sg) := by
  rw [acall_fn (mf := mf7) rfl rfl rfl rfl]
  have hm := c9 p k n
  unfold printV
  cases h : mayV (srtAt p) k n with
  | false => rw [h] at hm; simp -implicitDefEqProofs [mf7, hm]
  | true =>
    rw [h] at hm
    rcases may_k h with rfl | rfl | rfl | rfl | rfl | rfl
    · simp -implicitDefEqProofs [mf7, hm, autoB]
    · obtain ⟨_, a1, a2⟩ := may_2 h
      have := low_ge (srtAt p)
      have hl := decT_len n (by omega) (by omega)
      have hd := c_decimal n (by omega) (by omega)
      have n1 : (decT n).length + 2 ≤ maxI := by simp only [maxI]; omega
      simp -implicitDefEqProofs [mf7, hm, hd, n1, pxB]
    · obtain ⟨_, a1, a2⟩ := may_3 h
      have hl := decT_len n (by omega) (by omega)
      have hd := c_decimal n (by omega) (by omega)
      have n1 : (decT n).length + 1 ≤ maxI := by simp only [maxI]; omega
      simp -implicitDefEqProofs [mf7, hm, hd, n1, percB]
    · obtain ⟨_, a1, a2⟩ := may_4 h
      obtain ⟨m, rfl⟩ : ∃ m : Nat, n = m := ⟨n.toNat, by omega⟩
      have hx := c_FormatInt16 (16777216 + m) (by omega)
      have hl := hexD_len (16777216 + m) (by omega)
      have hw : IntKind.i64.wrap (16777216 + (m : Int)) = ((16777216 + m : Nat) : Int) := by rw [wrap_in (by omega) (by omega)]; omega
      simp only [Int.toNat_natCast]
      generalize hexD (16777216 + m) = H at hx hl ⊢
      generalize 16777216 + m = q at hx hw
      have n1 : (1 : Int) ≤ H.length := by omega
      have n2 : 1 ≤ H.length := by omega
      have n3 : 1 + (H.length - 1) ≤ maxI := by simp only [maxI]; omega
      have n4 : H.length ≤ maxI := by simp only [maxI]; omega
      simp -implicitDefEqProofs [mf7, hm, hx, hw, n1, n2, n3, n4]
    · obtain ⟨a1, a2⟩ := may_5 h
      have ho := c15 p
      have hd := dem_cells (srtAt p)
      obtain ⟨m, rfl⟩ : ∃ m : Nat, n = m := ⟨n.toNat, by omega⟩
      generalize hss : srtAt p = ss at *
      obtain ⟨nm, sa, sl, pt, sb, sc, nu, ws, fk, fn⟩ := ss
      have g1 : (m : Int) < ws.length := a2
      have g2 : m < ws.length := by omega
      have g3 : (ws.map fun w => ([PV.str w] : List PV))[m]? = some [.str ws[m]] := by simp [g2]
      have g4 : ws.getD m [] = ws[m] := by simp [g2]
      simp -implicitDefEqProofs [mf7, hm, ho, Srt.cells, a1, g1, g2, g3, g4]
    · obtain ⟨_, a1, a2⟩ := may_6 h
      have := low_ge (srtAt p)
      have hd := c_decimal n (by omega) (by omega)
      simp -implicitDefEqProofs [mf7, hm, hd]
end Go.Proofs.YtggoaggneapneaaDoorM

set_option linter.unusedVariables false
set_option linter.unusedSimpArgs false
namespace Go.Proofs.YtggoaggneapneaaDoorM
open Go

theorem decT_facts (n : Int) (h1 : -63999999999 ≤ n) (h2 : n ≤ 63999999999) : numV (decT n) = some n ∧ (decT n).all plainC = true ∧ ∃ c y, decT n = c :: y ∧ (isD c = true ∨ c = 45) := by
  have hd := decD_facts (n.natAbs / 64) (by omega)
  have hf := frac_facts ⟨n.natAbs % 64, by omega⟩
  simp only at hf
  obtain ⟨f1, f2, f3, _⟩ := hf
  obtain ⟨d1, d2, d3⟩ := digitsB_facts hd.1
  have hn := num_pos hd.1 f1
  have hn' := num_neg hd.1 f1
  have hdec : decN (decD (n.natAbs / 64)) (fracB (n.natAbs % 64)) = n.natAbs := by unfold decN; rw [hd.2, f2]; omega
  rw [hdec] at hn hn'
  have hpl : (decU n.natAbs).all plainC = true := by unfold decU; rw [List.all_append, plain_digits d3, plain_tail f3]; rfl
  obtain ⟨c, y, hcy⟩ : ∃ c y, decD (n.natAbs / 64) = c :: y := by
    cases h : decD (n.natAbs / 64) with
    | nil => exact absurd h d1
    | cons c y => exact ⟨c, y, rfl⟩
  have hc : isD c = true := by rw [hcy] at d3; exact List.all_eq_true.1 d3 c (by simp)
  unfold decT
  by_cases h : n < 0
  · rw [if_pos h]
    refine ⟨?_, by rw [List.all_cons, hpl]; decide, 45, _, rfl, .inr rfl⟩
    unfold decU
    rw [hn']
    exact congrArg some (by omega)
  · rw [if_neg h]
    refine ⟨?_, hpl, c, y ++ tailB (fracB (n.natAbs % 64)), by unfold decU; rw [hcy]; rfl, .inl hc⟩
    unfold decU
    rw [hn]
    exact congrArg some (by omega)
/-- What the table's sorts have in common. -/
def tame (s : Srt) : Bool :=
  (!s.length || (s.words == [] && !s.color && !s.number)) && (!s.part || (s.words == [] && !s.color && !s.number && s.length)) && (!s.number || (s.words == [] && !s.color && !s.length && !s.part && !s.auto)) &&
  (!s.color || (s.words == [] && !s.auto && !s.length)) && (!s.auto || s.words == [])
theorem tame_all (p : Int) : tame (srtAt p) = true := by
  unfold srtAt
  split
  · rw [List.getD_eq_getElem?_getD]
    have h : ∀ s ∈ srts, tame s = true := by decide +kernel
    cases hx : srts[p.toNat]? with
    | none => decide
    | some s => exact h s (List.mem_of_getElem? hx)
  · decide
theorem ne_auto {c : UInt8} {y z : List UInt8} (h : isD c = true ∨ c = 45) : ¬ (c :: y ++ z = autoB) := by
  intro e
  simp only [autoB, List.cons_append, List.cons.injEq] at e
  rw [e.1] at h
  revert h; decide
theorem any_2 {s : Srt} (ht : tame s = true) {n : Int} (hl : s.length = true) (h1 : -63999999999 ≤ n) (h2 : n ≤ 63999999999) : anyV s (decT n ++ pxB) = (2, n, true) := by
  obtain ⟨g1, g2, c, y, g3, g4⟩ := decT_facts n h1 h2
  have hw : s.words = [] ∧ s.color = false := by simp only [tame, hl, Bool.and_eq_true, Bool.not_true, Bool.false_or, beq_iff_eq, Bool.not_eq_true'] at ht; exact ⟨ht.1.1.1.1.1.1, ht.1.1.1.1.1.2⟩
  have e1 : ¬ (decT n ++ pxB = [48]) := by
    intro e
    have := congrArg List.length e
    rw [g3] at this
    simp [pxB] at this
  have e2 : ¬ (decT n ++ pxB = autoB) := by rw [g3]; exact ne_auto g4
  unfold anyV
  rw [hw.1, hw.2, idx_nil]
  simp [e1, e2, hl, meas_app, g1]
theorem any_3 {s : Srt} (ht : tame s = true) {n : Int} (hl : s.part = true) (h1 : 0 ≤ n) (h2 : n ≤ 63999999999) : anyV s (decT n ++ percB) = (3, n, true) := by
  obtain ⟨g1, g2, c, y, g3, g4⟩ := decT_facts n (by omega) h2
  have hw : s.words = [] ∧ s.color = false := by
    simp only [tame, hl, Bool.and_eq_true, Bool.not_true, Bool.false_or, beq_iff_eq, Bool.not_eq_true'] at ht
    exact ⟨ht.1.1.1.2.1.1.1, ht.1.1.1.2.1.1.2⟩
  have e1 : ¬ (decT n ++ percB = [48]) := by
    intro e
    have := congrArg List.length e
    rw [g3] at this
    simp [percB] at this
  have e2 : ¬ (decT n ++ percB = autoB) := by rw [g3]; exact ne_auto g4
  have e3 : measV (decT n ++ percB) pxB = none := by
    unfold measV pxB percB
    rw [not_suf _ 120 37 112 (by decide)]; rfl
  unfold anyV
  rw [hw.1, hw.2, idx_nil]
  simp [e1, e2, e3, hl, meas_app, g1]
theorem any_6 {s : Srt} (ht : tame s = true) {n : Int} (hl : s.number = true) (h1 : -63999999999 ≤ n) (h2 : n ≤ 63999999999) : anyV s (decT n) = (6, n, true) := by
  obtain ⟨g1, g2, c, y, g3, g4⟩ := decT_facts n h1 h2
  have hw : s.words = [] ∧ s.color = false ∧ s.length = false ∧ s.part = false ∧ s.auto = false := by
    simp only [tame, hl, Bool.and_eq_true, Bool.not_true, Bool.false_or, beq_iff_eq, Bool.not_eq_true'] at ht
    exact ⟨ht.1.1.2.1.1.1.1, ht.1.1.2.1.1.1.2, ht.1.1.2.1.1.2, ht.1.1.2.1.2, ht.1.1.2.2⟩
  obtain ⟨w1, w2, w3, w4, w5⟩ := hw
  have hm : measV (decT n) [] = numV (decT n) := by have := meas_app (decT n) []; simpa using this
  unfold anyV
  rw [w1, w2, w3, w4, w5, idx_nil]
  simp [hl, hm, g1]
end Go.Proofs.YtggoaggneapneaaDoorM

set_option linter.unusedVariables false
set_option linter.unusedSimpArgs false
namespace Go.Proofs.YtggoaggneapneaaDoorM
open Go

theorem any_1 {s : Srt} (ht : tame s = true) (hl : s.auto = true) : anyV s autoB = (1, 0, true) := by
  have hw : s.words = [] := by
    simp only [tame, hl, Bool.and_eq_true, Bool.not_true, Bool.false_or, beq_iff_eq] at ht
    exact ht.2
  unfold anyV
  rw [hw, idx_nil]
  simp [hl]
theorem idxFrom_at (ws : List (List UInt8)) (hn : ws.Nodup) (i : Nat) (hi : i < ws.length) : ∀ k j : Nat, j + k = i → idxFrom ws ws[i] j = some i
  | 0, j, h => by
    obtain rfl : j = i := by omega
    rw [idxFrom, dif_pos hi, if_pos rfl]
  | k + 1, j, h => by
    have hj : j < ws.length := by omega
    have hne : ¬ ws[j] = ws[i] := List.pairwise_iff_getElem.1 hn j i hj hi (by omega)
    rw [idxFrom, dif_pos hj, if_neg hne]
    exact idxFrom_at ws hn i hi k (j + 1) (by omega)
theorem any_5 {s : Srt} (hn : s.words.Nodup) (m : Nat) (h : m < s.words.length) : anyV s (s.words.getD m []) = (5, (m : Int), true) := by
  have hg : s.words.getD m [] = s.words[m] := by simp [h]
  have hi : idxOf s.words s.words[m] = (m : Int) := by unfold idxOf; rw [idxFrom_at s.words hn m h m 0 (by omega)]
  unfold anyV
  rw [hg, hi]
  simp
theorem nodup_all (p : Int) : (srtAt p).words.Nodup ∧ ∀ w ∈ (srtAt p).words, w.all plainC = true := by
  unfold srtAt
  split
  · rw [List.getD_eq_getElem?_getD]
    have h : ∀ s ∈ srts, s.words.Nodup ∧ ∀ w ∈ s.words, w.all plainC = true := by decide +kernel
    cases hx : srts[p.toNat]? with
    | none => decide
    | some s => exact h s (List.mem_of_getElem? hx)
  · decide
theorem hexC_facts : ∀ k : Fin 16, isH (hexC k.val) = true ∧ dv (hexC k.val) = k.val ∧ plainC (hexC k.val) = true := by decide +kernel
theorem hexD_col (m : Nat) (h : m ≤ 16777215) : (hexD (16777216 + m)).drop 1 = [hexC (m / 1048576 % 16), hexC (m / 65536 % 16), hexC (m / 4096 % 16), hexC (m / 256 % 16), hexC (m / 16 % 16), hexC (m % 16)] := by
  have e0 : (16777216 + m) % 16 = m % 16 := by omega
  have e1 : (16777216 + m) / 16 % 16 = m / 16 % 16 := by omega
  have e2 : (16777216 + m) / 256 % 16 = m / 256 % 16 := by omega
  have e3 : (16777216 + m) / 4096 % 16 = m / 4096 % 16 := by omega
  have e4 : (16777216 + m) / 65536 % 16 = m / 65536 % 16 := by omega
  have e5 : (16777216 + m) / 1048576 % 16 = m / 1048576 % 16 := by omega
  generalize hu : 16777216 + m = u at e0 e1 e2 e3 e4 e5 ⊢
  have g0 : ¬ u < 16 := by omega
  have g1 : ¬ u < 256 := by omega
  have g2 : ¬ u < 4096 := by omega
  have g3 : ¬ u < 65536 := by omega
  have g4 : ¬ u < 1048576 := by omega
  have g5 : ¬ u < 16777216 := by omega
  have g6 : u < 268435456 := by omega
  have k1 : ¬ u / 16 < 16 := by omega
  have k2 : ¬ u / 256 < 16 := by omega
  have k3 : ¬ u / 4096 < 16 := by omega
  have k4 : ¬ u / 65536 < 16 := by omega
  have k5 : ¬ u / 1048576 < 16 := by omega
  have k6 : u / 16777216 < 16 := by omega
  simp [hexD, hexL, Nat.div_div_eq_div_mul, g0, k1, k2, k3, k4, k5, k6, e0, e1, e2, e3, e4, e5]
theorem color_back (m : Nat) (h : m ≤ 16777215) : colorV (35 :: (hexD (16777216 + m)).drop 1) = some (m : Int) ∧ (35 :: (hexD (16777216 + m)).drop 1).all plainC = true := by
  rw [hexD_col m h]
  have f := fun k (hk : k < 16) => hexC_facts ⟨k, hk⟩
  obtain ⟨a1, a2, a3⟩ := f (m / 1048576 % 16) (by omega)
  obtain ⟨b1, b2, b3⟩ := f (m / 65536 % 16) (by omega)
  obtain ⟨c1, c2, c3⟩ := f (m / 4096 % 16) (by omega)
  obtain ⟨d1, d2, d3⟩ := f (m / 256 % 16) (by omega)
  obtain ⟨e1, e2, e3⟩ := f (m / 16 % 16) (by omega)
  obtain ⟨g1, g2, g3⟩ := f (m % 16) (by omega)
  simp only at a1 a2 a3 b1 b2 b3 c1 c2 c3 d1 d2 d3 e1 e2 e3 g1 g2 g3
  have p35 : plainC 35 = true := by decide
  constructor
  · have hv : (valB 16 [hexC (m / 1048576 % 16), hexC (m / 65536 % 16), hexC (m / 4096 % 16), hexC (m / 256 % 16), hexC (m / 16 % 16), hexC (m % 16)]) = m := by
      simp only [valB, valF, List.foldl_cons, List.foldl_nil, a2, b2, c2, d2, e2, g2]
      omega
    unfold colorV namedV
    simp [hasPre, a1, b1, c1, d1, e1, g1, hv]
  · simp [p35, a3, b3, c3, d3, e3, g3]
theorem any_4 {s : Srt} (ht : tame s = true) (hl : s.color = true) (m : Nat) (h : m ≤ 16777215) : anyV s (35 :: (hexD (16777216 + m)).drop 1) = (4, (m : Int), true) := by
  have hw : s.words = [] ∧ s.auto = false ∧ s.length = false := by
    simp only [tame, hl, Bool.and_eq_true, Bool.not_true, Bool.false_or, beq_iff_eq, Bool.not_eq_true'] at ht
    exact ⟨ht.1.2.1.1, ht.1.2.1.2, ht.1.2.2⟩
  have hc := (color_back m h).1
  unfold anyV
  rw [hw.1, hw.2.1, hw.2.2, idx_nil, hc]
  simp [hl]
theorem plain_read (p : Int) (s : List UInt8) (k n : Int) (hp : s.all plainC = true) (ha : anyV (srtAt p) s = (k, n, true)) (hm : mayV (srtAt p) k n = true) : readV p s = some (k, n) := by
  unfold readV
  rw [plain_trim hp, plain_low hp, ha]
  simp [hm]
/-- What is printed is read as what it was. -/
theorem read_print (p k n : Int) (h : mayV (srtAt p) k n = true) : readV p (printV p k n) = some (k, n) := by
  have ht := tame_all p
  have hlow := low_ge (srtAt p)
  unfold printV
  rw [if_pos h]
  rcases may_k h with rfl | rfl | rfl | rfl | rfl | rfl
  · have h1 : (srtAt p).auto = true ∧ n = 0 := by simpa [mayV] using h
    obtain ⟨h1, rfl⟩ := h1
    exact plain_read p _ 1 0 (by rw [if_pos rfl]; decide) (any_1 ht h1) h
  · obtain ⟨h1, h2, h3⟩ := may_2 h
    have hd := decT_facts n (by omega) h3
    exact plain_read p _ 2 n (by simp only [Int.reduceEq, if_false, if_true]; rw [List.all_append, hd.2.1]; decide) (any_2 ht h1 (by omega) h3) h
  · obtain ⟨h1, h2, h3⟩ := may_3 h
    have hd := decT_facts n (by omega) h3
    exact plain_read p _ 3 n (by simp only [Int.reduceEq, if_false, if_true]; rw [List.all_append, hd.2.1]; decide) (any_3 ht h1 h2 h3) h
  · obtain ⟨h1, h2, h3⟩ := may_4 h
    obtain ⟨m, rfl⟩ : ∃ m : Nat, n = m := ⟨n.toNat, by omega⟩
    exact plain_read p _ 4 m (color_back m (by omega)).2 (any_4 ht h1 m (by omega)) h
  · obtain ⟨h2, h3⟩ := may_5 h
    obtain ⟨m, rfl⟩ : ∃ m : Nat, n = m := ⟨n.toNat, by omega⟩
    have hn := nodup_all p
    have hm : m < (srtAt p).words.length := by omega
    have hg : (srtAt p).words.getD m [] = (srtAt p).words[m] := by simp [hm]
    exact plain_read p _ 5 m (by simp only [Int.reduceEq, if_false, if_true, Int.toNat_natCast]; rw [hg]; exact hn.2 _ (List.getElem_mem hm)) (any_5 hn.1 m hm) h
  · obtain ⟨h1, h2, h3⟩ := may_6 h
    have hd := decT_facts n (by omega) h3
    exact plain_read p _ 6 n hd.2.1 (any_6 ht h1 (by omega) h3) h
theorem may_read (p k n : Int) (s : List UInt8) (h : readV p s = some (k, n)) : mayV (srtAt p) k n = true := by
  unfold readV at h
  split at h
  · rename_i hh
    simp only [Option.some.injEq, Prod.mk.injEq] at h
    rw [← h.1, ← h.2]; exact hh.2
  · cases h
end Go.Proofs.YtggoaggneapneaaDoorM
