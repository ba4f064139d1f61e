/- The bits of math.Ldexp and of limb.Near (plain). -/
import Derived.Test.YtdcllcbhepajeaaDoorMono
import Derived.Test.YtdcllcbhepajeaaDoorLd
import Derived.Test.YtdcllcbhepajeaaDoorShl
import Derived.Test.YtdcllcbhepajeaaDoorRNear
import Derived.Lib.ItoaNum
namespace Go.Proofs.YtdcllcbhepajeaaDoor
open Go.RowKit Go.Proofs
set_option linter.unusedVariables false

theorem ld_and (r : Nat) (h0 : 1086 * 2 ^ 52 ≤ r) (h1 : r ≤ 1087 * 2 ^ 52) : bits .and .u64 ((r : Int) / 4503599627370496) 2047 = (r : Int) / 4503599627370496 := by
  have e : (r : Int) / 4503599627370496 = ((r / 4503599627370496 : Nat) : Int) := by omega
  have h := u64_and_nat (r / 4503599627370496) 2047 (by omega) (by decide)
  have h2 : r / 4503599627370496 &&& 2047 = r / 4503599627370496 := by
    have := Nat.and_two_pow_sub_one_eq_mod (r / 4503599627370496) 11
    rw [show 2 ^ 11 - 1 = 2047 by decide] at this
    omega
  rw [h2] at h
  rw [e]; exact h
theorem ld_andNot (r : Nat) (h1 : r < 2 ^ 63) : bits .andNot .u64 (r : Int) 9218868437227405312 = (r : Int) % 4503599627370496 := by
  have h := u64_andNot_nat r 9218868437227405312 (by omega) (by decide)
  have a : r &&& (2 ^ 63 - 1) = r := by rw [Nat.and_two_pow_sub_one_eq_mod]; omega
  have h2 : r &&& (18446744073709551615 - 9218868437227405312) = r % 4503599627370496 := by
    have b : r &&& (18446744073709551615 - 9218868437227405312) = (r &&& (2 ^ 63 - 1)) &&& (18446744073709551615 - 9218868437227405312) := by rw [a]
    rw [b, Nat.and_assoc, show (2 ^ 63 - 1 &&& (18446744073709551615 - 9218868437227405312) : Nat) = 2 ^ 52 - 1 by decide, Nat.and_two_pow_sub_one_eq_mod]
  rw [h2] at h
  refine Eq.trans h ?_
  omega
theorem ld_or (f e : Nat) (hf : f < 4503599627370496) (he : e < 2048) : bits .or .u64 (f : Int) ((e : Int) * 4503599627370496) = (e : Int) * 4503599627370496 + f := by
  have h := u64_or_nat f (2 ^ 52 * e) (by omega) (by omega)
  rw [Nat.or_comm, ← Nat.two_pow_add_eq_or_of_lt (i := 52) (by omega)] at h
  rw [show ((e : Int) * 4503599627370496) = ((2 ^ 52 * e : Nat) : Int) by omega]
  rw [h]; omega

/-- the leading 64 bits of a great number -/
theorem near_len {N : Nat} (hN : N ≤ 2 ^ 127) (hH : N / 18446744073709551616 ≠ 0) : ∃ s : Nat, 1 ≤ s ∧ s ≤ 64 ∧ Lib.bitLen (N / 18446744073709551616) = s ∧ N.log2 = 63 + s ∧ N ≠ 0 ∧ N / 18446744073709551616 < 2 ^ s := by
  have hx : N / 18446744073709551616 < 2 ^ 64 := by omega
  obtain ⟨b1, b2, b3⟩ := Lib.bitLenAux_bounds 64 (N / 18446744073709551616) hx hH
  have b4 := Lib.bitLen_le (N / 18446744073709551616) 64 (by decide) hx
  have e : Lib.bitLenAux 64 (N / 18446744073709551616) = Lib.bitLen (N / 18446744073709551616) := rfl
  rw [e] at b1 b2 b3
  refine ⟨_, b1, b4, rfl, ?_, by omega, b3⟩
  refine Fl.log2_of ?_ ?_
  · have : 2 ^ (63 + Lib.bitLen (N / 18446744073709551616)) = 2 ^ (Lib.bitLen (N / 18446744073709551616) - 1) * 2 ^ 64 := Fl.pw (by omega)
    rw [this]
    exact (Nat.le_div_iff_mul_le (by decide)).1 b2
  · have : 2 ^ (63 + Lib.bitLen (N / 18446744073709551616) + 1) = 2 ^ (Lib.bitLen (N / 18446744073709551616)) * 2 ^ 64 := Fl.pw (by omega)
    rw [this]
    exact (Nat.div_lt_iff_lt_mul (by decide)).1 b3
theorem near_mant {N s : Nat} (h1 : 1 ≤ s) (h64 : s ≤ 64) (hb : N / 18446744073709551616 < 2 ^ s) :
    bits .or .u64 (IntKind.u64.wrap (((N / 18446744073709551616 : Nat) : Int) * 2 ^ (64 - s))) (((N % 18446744073709551616 : Nat) : Int) / 2 ^ s) = ((N / 2 ^ s : Nat) : Int)
    ∧ IntKind.u64.wrap (((N % 18446744073709551616 : Nat) : Int) * 2 ^ (64 - s)) = ((N % 2 ^ s * 2 ^ (64 - s) : Nat) : Int) := by
  have hp : 0 < 2 ^ s := Nat.pow_pos (by decide)
  have hq : 0 < 2 ^ (64 - s) := Nat.pow_pos (by decide)
  have hpq : (2 : Nat) ^ s * 2 ^ (64 - s) = 18446744073709551616 := by rw [← Nat.pow_add, show s + (64 - s) = 64 by omega]
  obtain ⟨H, hH⟩ : ∃ H, H = N / 18446744073709551616 := ⟨_, rfl⟩
  obtain ⟨L, hL⟩ : ∃ L, L = N % 18446744073709551616 := ⟨_, rfl⟩
  have hN : N = H * 18446744073709551616 + L := by omega
  have hL2 : L < 18446744073709551616 := by omega
  rw [← hH] at hb
  rw [← hH, ← hL]
  clear hH hL
  have hb2 : L / 2 ^ s < 2 ^ (64 - s) := by rw [Nat.div_lt_iff_lt_mul hp, Nat.mul_comm, hpq]; exact hL2
  have eH : ((H : Int) * 2 ^ (64 - s)) = ((2 ^ (64 - s) * H : Nat) : Int) := by rw [Nat.mul_comm, Int.natCast_mul, Int.natCast_pow]; rfl
  have eL : ((L : Int) * 2 ^ (64 - s)) = ((L * 2 ^ (64 - s) : Nat) : Int) := by rw [Int.natCast_mul, Int.natCast_pow]; rfl
  have eD : ((L : Int) / 2 ^ s) = ((L / 2 ^ s : Nat) : Int) := by rw [Int.natCast_ediv, Int.natCast_pow]; rfl
  have hlt : 2 ^ (64 - s) * H + L / 2 ^ s < 18446744073709551616 := by
    have h2 : 2 ^ (64 - s) * (H + 1) ≤ 2 ^ (64 - s) * 2 ^ s := Nat.mul_le_mul_left _ hb
    rw [Nat.mul_add, Nat.mul_comm _ (2 ^ s), hpq] at h2
    omega
  have hdiv : N / 2 ^ s = 2 ^ (64 - s) * H + L / 2 ^ s := by
    rw [hN, ← hpq, show H * (2 ^ s * 2 ^ (64 - s)) = 2 ^ s * (2 ^ (64 - s) * H) by rw [Nat.mul_comm H, Nat.mul_assoc], Nat.mul_add_div hp]
  have hmod : N % 2 ^ s = L % 2 ^ s := by
    rw [hN, ← hpq, show H * (2 ^ s * 2 ^ (64 - s)) = 2 ^ s * (2 ^ (64 - s) * H) by rw [Nat.mul_comm H, Nat.mul_assoc], Nat.mul_add_mod]
  constructor
  · have hw : IntKind.u64.wrap ((2 ^ (64 - s) * H : Nat) : Int) = ((2 ^ (64 - s) * H : Nat) : Int) := by
      have hA : 2 ^ (64 - s) * H < 18446744073709551616 := Nat.lt_of_le_of_lt (Nat.le_add_right _ _) hlt
      clear hdiv hlt hb2 eD eL eH hmod hpq hq hp hb
      generalize 2 ^ (64 - s) * H = A at hA ⊢
      exact u64_wrap _ (by omega) (by omega)
    rw [eH, eD, hdiv, hw, or_split _ _ _ hb2 hlt]
  · rw [eL, IntKind.wrap_u64, hmod]
    have : L * 2 ^ (64 - s) % 18446744073709551616 = L % 2 ^ s * 2 ^ (64 - s) := by rw [← hpq, Nat.mul_mod_mul_right]
    rw [← this]
    omega
theorem near_one (M : Nat) (h : M < 18446744073709551616) : bits .or .u64 (M : Int) 1 = ((M / 2 * 2 + 1 : Nat) : Int) := by
  have h2 := u64_or_nat M 1 h (by decide)
  refine Eq.trans h2 ?_
  have : M ||| 1 = M / 2 * 2 + 1 := by
    have e := Nat.two_pow_add_eq_or_of_lt (i := 1) (b := 1) (by decide) (M / 2)
    rcases Nat.mod_two_eq_zero_or_one M with h | h
    · rw [show 2 ^ 1 * (M / 2) = M by omega] at e; omega
    · have e2 := Nat.two_pow_add_eq_or_of_lt (i := 1) (b := 1) (by decide) (M / 2)
      have e3 : M = 2 ^ 1 * (M / 2) ||| 1 := by omega
      rw [show M ||| 1 = (2 ^ 1 * (M / 2) ||| 1) ||| 1 by rw [← e3], Nat.or_assoc, Nat.or_self]
      omega
  rw [this]
/-- the reference's answer is the word of the nearest float -/
theorem mg_log2 (x : Int) : (mg x).toNat.log2 ≤ 127 := by
  have h := mg_range x
  by_cases h0 : (mg x).toNat = 0
  · rw [h0]; decide
  · have : (mg x).toNat.log2 < 128 := (Nat.log2_lt h0).2 (by omega)
    omega
theorem nearV_eq (x : Int) : ((FloatKind.f64.nearest (sv x) : Nat) : Int) = nearV x := by
  have hl := mg_log2 x
  have hr := mg_range x
  unfold nearV
  rcases Int.lt_trichotomy (sv x) 0 with h | h | h
  · have e : mg x = -sv x := by unfold mg; rw [if_pos h]
    rw [e] at hl
    rw [e, if_neg (by omega), if_pos h, Fl.near_neg_word _ h (by omega)]
    omega
  · have e : mg x = 0 := by unfold mg; rw [h]; rfl
    rw [e, if_pos rfl, h, Fl.near_zero]; rfl
  · have e : mg x = sv x := by unfold mg; rw [if_neg (by omega)]
    rw [e] at hl
    rw [e, if_neg (by omega), if_neg (by omega), Fl.near_pos _ h (by omega)]
    omega
end Go.Proofs.YtdcllcbhepajeaaDoor
