/- Plain facts on numbers of 128 bits as two words (no program in sight). -/
import Derived.RowKit
import GoSem.Core.Value
import Derived.WalkKit
namespace Go.Proofs.YtdcllcbhepajeaaDoor
open Go.RowKit
set_option linter.unusedVariables false

/-- the upper word of a whole number modulo 2^128, as int64 -/
def hi (z : Int) : Int := (z / 18446744073709551616 + 9223372036854775808) % 18446744073709551616 - 9223372036854775808
/-- the lower word -/
def lo (z : Int) : Int := z % 18446744073709551616
/-- the upper word, as uint64 -/
def rhi (z : Int) : Int := (z / 18446744073709551616) % 18446744073709551616
/-- the whole number from -2^127 on that it is -/
def sv (z : Int) : Int := (z + 170141183460469231731687303715884105728) % 340282366920938463463374607431768211456 - 170141183460469231731687303715884105728

def IsL (h l x : Int) : Prop := h = hi x ∧ l = lo x
instance (h l x : Int) : Decidable (IsL h l x) := inferInstanceAs (Decidable (_ ∧ _))
def IsR (h l x : Int) : Prop := h = rhi x ∧ l = lo x
instance (h l x : Int) : Decidable (IsR h l x) := inferInstanceAs (Decidable (_ ∧ _))

theorem isL (x : Int) : IsL (hi x) (lo x) x := ⟨rfl, rfl⟩
theorem isR (x : Int) : IsR (rhi x) (lo x) x := ⟨rfl, rfl⟩
theorem isL0 : IsL 0 0 0 := by decide
theorem isR0 : IsR 0 0 0 := by decide
theorem hi_range (z : Int) : -9223372036854775808 ≤ hi z ∧ hi z ≤ 9223372036854775807 := by unfold hi; omega
theorem lo_range (z : Int) : 0 ≤ lo z ∧ lo z ≤ 18446744073709551615 := by unfold lo; omega
theorem rhi_range (z : Int) : 0 ≤ rhi z ∧ rhi z ≤ 18446744073709551615 := by unfold rhi; omega

/-- every pair of words is such a number -/
theorem isL_pair (h l : Int) (h1 : -9223372036854775808 ≤ h) (h2 : h ≤ 9223372036854775807) (l1 : 0 ≤ l) (l2 : l ≤ 18446744073709551615) :
    IsL h l (h * 18446744073709551616 + l) := by unfold IsL hi lo; omega

theorem hi_congr {x y : Int} (h : x % 340282366920938463463374607431768211456 = y % 340282366920938463463374607431768211456) : hi x = hi y := by
  unfold hi; omega
theorem lo_congr {x y : Int} (h : x % 340282366920938463463374607431768211456 = y % 340282366920938463463374607431768211456) : lo x = lo y := by
  unfold lo; omega
theorem rhi_congr {x y : Int} (h : x % 340282366920938463463374607431768211456 = y % 340282366920938463463374607431768211456) : rhi x = rhi y := by
  unfold rhi; omega
theorem hi_lo_inj {x y : Int} (h : hi x = hi y) (l : lo x = lo y) : x % 340282366920938463463374607431768211456 = y % 340282366920938463463374607431768211456 := by
  unfold hi at h; unfold lo at l; omega
theorem rhi_of_hi (x : Int) : IntKind.u64.wrap (hi x) = rhi x := by rw [IntKind.wrap_u64]; unfold hi rhi; omega
theorem sv_eq (x : Int) : sv x = hi x * 18446744073709551616 + lo x := by unfold sv hi lo; omega
theorem sv_small {x : Int} (h1 : -170141183460469231731687303715884105728 ≤ x) (h2 : x < 170141183460469231731687303715884105728) : sv x = x := by unfold sv; omega

theorem lo_add (x y : Int) : (lo x + lo y) % 18446744073709551616 = lo (x + y) := by unfold lo; omega
theorem hi_add (x y : Int) : wrap64 ((IntKind.u64.wrap (hi x) + IntKind.u64.wrap (hi y) + (lo x + lo y) / 18446744073709551616) % 18446744073709551616) = hi (x + y) := by
  rw [IntKind.wrap_u64, IntKind.wrap_u64]; unfold wrap64 hi lo; omega
def bor (x y : Int) : Int := if x < y then 1 else 0
theorem bor_01 (x y : Int) : 0 ≤ bor x y ∧ bor x y ≤ 1 := by unfold bor; split <;> decide
theorem lo_sub (x y : Int) : (lo x - lo y) % 18446744073709551616 = lo (x - y) := by unfold lo; omega
theorem hi_sub (x y : Int) : wrap64 ((IntKind.u64.wrap (hi x) - IntKind.u64.wrap (hi y) - bor (lo x) (lo y)) % 18446744073709551616) = hi (x - y) := by
  rw [IntKind.wrap_u64, IntKind.wrap_u64]; unfold wrap64 hi lo bor; split <;> omega
theorem rlo_add (x y : Int) : IntKind.u64.wrap (lo x + lo y) = lo (x + y) := by rw [IntKind.wrap_u64]; unfold lo; omega
theorem rhi_add_c (x y : Int) (h : IntKind.u64.wrap (lo x + lo y) < lo x) : IntKind.u64.wrap (IntKind.u64.wrap (rhi x + rhi y) + 1) = rhi (x + y) := by
  rw [IntKind.wrap_u64] at h ⊢; rw [IntKind.wrap_u64]; unfold rhi lo at *; omega
theorem rhi_add_n (x y : Int) (h : lo x ≤ IntKind.u64.wrap (lo x + lo y)) : IntKind.u64.wrap (rhi x + rhi y) = rhi (x + y) := by
  rw [IntKind.wrap_u64] at h ⊢; unfold rhi lo at *; omega

theorem lo_mul (x y : Int) : (lo x * lo y) % 18446744073709551616 = lo (x * y) := by unfold lo; rw [← Int.mul_emod]

/-- a product's upper word, out of the words -/
theorem mul_core (x y : Int) : ∃ k : Int, x * y = k * 340282366920938463463374607431768211456 + (lo x * lo y + (rhi x * lo y + lo x * rhi y) * 18446744073709551616) := by
  obtain ⟨qx, hx⟩ : ∃ q, x = q * 340282366920938463463374607431768211456 + rhi x * 18446744073709551616 + lo x := ⟨x / 340282366920938463463374607431768211456, by unfold rhi lo; omega⟩
  obtain ⟨qy, hy⟩ : ∃ q, y = q * 340282366920938463463374607431768211456 + rhi y * 18446744073709551616 + lo y := ⟨y / 340282366920938463463374607431768211456, by unfold rhi lo; omega⟩
  generalize rhi x = a at *
  generalize rhi y = c at *
  generalize lo x = b at *
  generalize lo y = d at *
  subst hx hy
  refine ⟨qx * (qy * 340282366920938463463374607431768211456 + c * 18446744073709551616 + d) + qy * (a * 18446744073709551616 + b) + a * c, ?_⟩
  grind

theorem rhi_mul (x y : Int) : rhi (x * y) = ((lo x * lo y) / 18446744073709551616 + (rhi x * lo y + lo x * rhi y)) % 18446744073709551616 := by
  obtain ⟨k, hk⟩ := mul_core x y
  rw [hk]
  generalize lo x * lo y = p
  generalize rhi x * lo y + lo x * rhi y = q
  unfold rhi; omega

theorem hi_of_rhi (x : Int) : wrap64 (rhi x) = hi x := by unfold wrap64 rhi hi; omega

theorem half_bounds (x y : Int) (hx : 0 ≤ x) (hx' : x ≤ 4294967295) (hy : 0 ≤ y) (hy' : y ≤ 4294967295) : 0 ≤ x * y ∧ x * y ≤ 18446744065119617025 := by
  refine ⟨Int.mul_nonneg hx hy, ?_⟩
  have h1 : x * y ≤ 4294967295 * y := Int.mul_le_mul_of_nonneg_right hx' hy
  omega
theorem words_core (a b : Int) : a * b = a / 4294967296 * (b / 4294967296) * 18446744073709551616 + (a / 4294967296 * (b % 4294967296) + a % 4294967296 * (b / 4294967296)) * 4294967296 + a % 4294967296 * (b % 4294967296) := by
  have h1 : a = a / 4294967296 * 4294967296 + a % 4294967296 := by omega
  have h2 : b = b / 4294967296 * 4294967296 + b % 4294967296 := by omega
  generalize a / 4294967296 = ah at *
  generalize a % 4294967296 = al at *
  generalize b / 4294967296 = bh at *
  generalize b % 4294967296 = bl at *
  subst h1 h2
  grind

theorem words_hi (a b : Int) (h1 : 0 ≤ a) (h1' : a ≤ 18446744073709551615) (h2 : 0 ≤ b) (h2' : b ≤ 18446744073709551615) :
    a / 4294967296 * (b / 4294967296) + a / 4294967296 * (b % 4294967296) / 4294967296 + a % 4294967296 * (b / 4294967296) / 4294967296 +
      (a % 4294967296 * (b % 4294967296) / 4294967296 + a / 4294967296 * (b % 4294967296) % 4294967296 + a % 4294967296 * (b / 4294967296) % 4294967296) / 4294967296 = rhi (a * b) := by
  have p1 := half_bounds (a % 4294967296) (b % 4294967296) (by omega) (by omega) (by omega) (by omega)
  have p2 := half_bounds (a / 4294967296) (b % 4294967296) (by omega) (by omega) (by omega) (by omega)
  have p3 := half_bounds (a % 4294967296) (b / 4294967296) (by omega) (by omega) (by omega) (by omega)
  have p4 := half_bounds (a / 4294967296) (b / 4294967296) (by omega) (by omega) (by omega) (by omega)
  rw [words_core a b]
  clear h1 h1' h2 h2'
  generalize a % 4294967296 * (b % 4294967296) = p at *
  generalize a / 4294967296 * (b % 4294967296) = q at *
  generalize a % 4294967296 * (b / 4294967296) = r at *
  generalize a / 4294967296 * (b / 4294967296) = t at *
  unfold rhi; omega
theorem words_lo (a b : Int) (h1 : 0 ≤ a) (h1' : a ≤ 18446744073709551615) (h2 : 0 ≤ b) (h2' : b ≤ 18446744073709551615) :
    (a % 4294967296 * (b % 4294967296) / 4294967296 + a / 4294967296 * (b % 4294967296) % 4294967296 + a % 4294967296 * (b / 4294967296)) % 4294967296 * 4294967296 + a % 4294967296 * (b % 4294967296) % 4294967296 = lo (a * b) := by
  rw [words_core a b]
  clear h1 h1' h2 h2'
  generalize a % 4294967296 * (b % 4294967296) = p at *
  generalize a / 4294967296 * (b % 4294967296) = q at *
  generalize a % 4294967296 * (b / 4294967296) = r at *
  generalize a / 4294967296 * (b / 4294967296) = t at *
  unfold lo; omega
theorem lo_lo_mul (x y : Int) : lo (lo x * lo y) = lo (x * y) := by
  rw [← lo_mul x y]; rfl
theorem rmul_walk (x y : Int) : IntKind.u64.wrap (IntKind.u64.wrap (rhi (lo x * lo y) + IntKind.u64.wrap (rhi x * lo y)) + IntKind.u64.wrap (lo x * rhi y)) = rhi (x * y) := by
  rw [rhi_mul x y]
  simp only [IntKind.wrap_u64]
  have : rhi (lo x * lo y) = lo x * lo y / 18446744073709551616 % 18446744073709551616 := rfl
  rw [this]
  omega

/-- -1, 0, 1: how two whole numbers stand -/
def cmp3 (x y : Int) : Int := if x < y then -1 else if x = y then 0 else 1
def sg (x : Int) : Int := cmp3 x 0

theorem sv_lt (x y : Int) : sv x < sv y ↔ hi x < hi y ∨ hi x = hi y ∧ lo x < lo y := by
  rw [sv_eq, sv_eq]
  have := lo_range x; have := lo_range y
  omega
theorem sv_inj (x y : Int) : sv x = sv y ↔ hi x = hi y ∧ lo x = lo y := by
  rw [sv_eq, sv_eq]
  have := lo_range x; have := lo_range y
  omega
theorem cmp_lt {x y : Int} (h : hi x < hi y) : (-1 : Int) = cmp3 (sv x) (sv y) := by
  unfold cmp3; rw [if_pos ((sv_lt x y).2 (.inl h))]
theorem cmp_elt {x y : Int} (h : hi x = hi y) (l : lo x < lo y) : (-1 : Int) = cmp3 (sv x) (sv y) := by
  unfold cmp3; rw [if_pos ((sv_lt x y).2 (.inr ⟨h, l⟩))]
theorem cmp_eq {x y : Int} (h : hi x = hi y) (l : lo x = lo y) : (0 : Int) = cmp3 (sv x) (sv y) := by
  unfold cmp3; rw [if_neg (by rw [sv_lt]; omega), if_pos ((sv_inj x y).2 ⟨h, l⟩)]
theorem cmp_gt {x y : Int} (h : hi y < hi x ∨ hi x = hi y ∧ lo y < lo x) : (1 : Int) = cmp3 (sv x) (sv y) := by
  unfold cmp3; rw [if_neg (by rw [sv_lt]; omega), if_neg (by rw [sv_inj]; omega)]
theorem sg_neg {x : Int} (h : hi x < 0) : sg (sv x) = -1 := by
  unfold sg cmp3; rw [sv_eq]; have := lo_range x; rw [if_pos (by omega)]
theorem hi_rhi (x : Int) : (rhi x / 9223372036854775808 = 1 ∧ hi x < 0) ∨ (rhi x / 9223372036854775808 = 0 ∧ hi x = rhi x) := by
  unfold rhi hi; omega

end Go.Proofs.YtdcllcbhepajeaaDoor
