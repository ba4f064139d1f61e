/- Words of binary64 that stand for whole numbers over a power of two: what the four operations, a sign turned, a sign taken away make of them (no program in sight). -/
import Derived.Test.YtdcllcbhepajeaaDoorFilt
import GoSem.Core.Float
import GoSem.Op.Unary
import Derived.KernelRfl
import Derived.Laws.FloatArith
namespace Go.Proofs.YtdcllcbhepajeaaDoor.Fl
open Ieee
set_option linter.unusedVariables false

/-- the word r is the number n / 2^j -/
def FW (r : Nat) (n j : Int) : Prop :=
  ∃ (s : Bool) (rung m : Nat) (e : Int), r = double.word s rung ∧ rung < 2 ^ 63 ∧ (∀ t, double.read (double.word t rung) = .number t m e) ∧ ∃ a b : Nat, (a : Int) - b = e + j ∧ sgn s m * 2 ^ a = n * 2 ^ b

theorem word_parts (s : Bool) (rung : Nat) (h : rung < 2 ^ 63) : double.word s rung / 2 ^ 63 % 2 = s.toNat ∧ double.word s rung % 2 ^ 63 = rung := by
  unfold Format.word
  rw [double_sign]
  cases s
  · simp only [Bool.false_eq_true, if_false, Bool.toNat_false]; omega
  · simp only [if_true, Bool.toNat_true]; omega
theorem read_rung (rung : Nat) (h : rung ≤ 2047 * 2 ^ 52) : (∃ (m : Nat) (e : Int), ∀ t, double.read (double.word t rung) = .number t m e) ∨ (∀ t, double.read (double.word t rung) = .infinity t) := by
  have hp : ∀ t, double.word t rung / 2 ^ 63 % 2 = t.toNat ∧ double.word t rung % 2 ^ 63 = rung := fun t => word_parts t rung (by omega)
  have hb : ∀ t : Bool, (t.toNat == 1) = t := by intro t; cases t <;> rfl
  unfold Format.read
  simp only [double_sign, double_binade, double_inf, double_least, hp, hb]
  by_cases h1 : rung < 2 ^ 52
  · left; exact ⟨_, _, fun t => if_pos h1⟩
  · by_cases h2 : rung < 2047 * 2 ^ 52
    · left; exact ⟨_, _, fun t => by rw [if_neg h1, if_pos h2]⟩
    · right; intro t; rw [if_neg h1, if_neg h2, if_pos (by omega)]
theorem nearest_rung (s : Bool) (mag : Nat) (place : Int) : ∃ rung, rung ≤ 2047 * 2 ^ 52 ∧ double.nearest s mag place = double.word s rung := by
  unfold Format.nearest
  split
  · exact ⟨0, by omega, rfl⟩
  · exact ⟨_, by rw [← double_inf]; exact Nat.min_le_right _ _, rfl⟩
theorem FW.write {d : Datum} {n j : Int} (hx : Val d n j) (hn : n.natAbs < 2 ^ 1000) (h0 : 0 ≤ j) (h1 : j ≤ 1000) : FW (double.write d) (R n) j := by
  have hv := hx.write hn h0 h1
  obtain ⟨s, m, e, rfl, _⟩ := hx
  obtain ⟨rung, hr, hw⟩ := nearest_rung s m e
  have hw' : double.write (.number s m e) = double.word s rung := hw
  rw [hw'] at hv ⊢
  obtain ⟨s1, m1, e1, hd, a, b, hab, h⟩ := hv
  rcases read_rung rung hr with ⟨m2, e2, h2⟩ | h2
  · rw [h2 s] at hd
    injection hd with i1 i2 i3
    subst i1 i2 i3
    exact ⟨s, rung, m2, e2, rfl, by omega, h2, a, b, hab, h⟩
  · rw [h2 s] at hd; cases hd
theorem FW.val {r : Nat} {n j : Int} (h : FW r n j) : Val (double.read r) n j := by
  obtain ⟨s, rung, m, e, rfl, _, h2, a, b, hab, he⟩ := h
  exact ⟨s, m, e, h2 s, a, b, hab, he⟩

theorem FW.mul {x y : Nat} {p q j k : Int} (hx : FW x p j) (hy : FW y q k) (hn : (p * q).natAbs < 2 ^ 1000) (h0 : 0 ≤ j + k) (h1 : j + k ≤ 1000) : ∃ r, floatBits .mul .f64 x y = some r ∧ FW r (R (p * q)) (j + k) := by
  obtain ⟨d, hd, hv⟩ := Val.product hx.val hy.val
  refine ⟨double.write d, ?_, FW.write hv hn h0 h1⟩
  show ((double.read x).product (double.read y)).map double.write = _
  rw [hd]; rfl
theorem FW.add {x y : Nat} {p q j : Int} (hx : FW x p j) (hy : FW y q j) (hn : (p + q).natAbs < 2 ^ 1000) (h0 : 0 ≤ j) (h1 : j ≤ 1000) : ∃ r, floatBits .add .f64 x y = some r ∧ FW r (R (p + q)) j := by
  obtain ⟨d, hd, hv⟩ := Val.sum hx.val hy.val
  refine ⟨double.write d, ?_, FW.write hv hn h0 h1⟩
  show ((double.read x).sum (double.read y)).map double.write = _
  rw [hd]; rfl
theorem FW.sub {x y : Nat} {p q j : Int} (hx : FW x p j) (hy : FW y q j) (hn : (p - q).natAbs < 2 ^ 1000) (h0 : 0 ≤ j) (h1 : j ≤ 1000) : ∃ r, floatBits .sub .f64 x y = some r ∧ FW r (R (p - q)) j := by
  obtain ⟨d, hd, hv⟩ := Val.sum hx.val hy.val.opposite
  rw [← Int.sub_eq_add_neg] at hv
  refine ⟨double.write d, ?_, FW.write hv hn h0 h1⟩
  show ((double.read x).sum (double.read y).opposite).map double.write = _
  rw [hd]; rfl
theorem FW.ofInt (n : Int) (hn : n.natAbs < 2 ^ 1000) : FW (FloatKind.f64.nearest n) (R n) 0 := by
  show FW (double.write (.number (n < 0) n.natAbs 0)) (R n) 0
  refine FW.write ⟨_, _, _, rfl, 0, 0, by omega, ?_⟩ hn (by omega) (by omega)
  unfold sgn
  by_cases h : n < 0 <;> simp [h] <;> omega
theorem FW.small {r : Nat} {n : Int} (h : FW r (R n) 0) (hn : n.natAbs < 2 ^ 53) : FW r n 0 := by rw [R_small n hn] at h; exact h
theorem FW.order {x y : Nat} {p q j : Int} (hx : FW x p j) (hy : FW y q j) : double.order x y = some (compare p q) := Val.order hx.val hy.val
theorem FW.scale {r : Nat} {n j : Int} (k : Nat) (h : FW r n j) : FW r (2 ^ k * n) (j + k) := by
  obtain ⟨s, rung, m, e, rfl, hr, h2, a, b, hab, he⟩ := h
  refine ⟨s, rung, m, e, rfl, hr, h2, a + k, b, by omega, ?_⟩
  rw [Int.pow_add, ← Int.mul_assoc, he]
  ac_rfl
/-- the sign taken away -/
theorem FW.abs {r : Nat} {n j : Int} (h : FW r n j) : FW (r % 2 ^ 63) (ab n) j := by
  obtain ⟨s, rung, m, e, rfl, hr, h2, a, b, hab, he⟩ := h
  rw [(word_parts s rung hr).2]
  refine ⟨false, rung, m, e, rfl, hr, h2, a, b, hab, ?_⟩
  have := congrArg Int.natAbs he
  rw [Int.natAbs_mul, Int.natAbs_mul, Int.natAbs_pow, Int.natAbs_pow] at this
  have hs : (sgn s m).natAbs = m := by unfold sgn; cases s <;> simp
  rw [hs] at this
  have h3 : ((m * 2 ^ a : Nat) : Int) = ((n.natAbs * 2 ^ b : Nat) : Int) := by
    have e2 : (2 : Int).natAbs = 2 := rfl
    rw [e2] at this
    rw [this]
  simp only [Int.natCast_mul, Int.natCast_pow, Int.cast_ofNat_Int] at h3
  unfold sgn ab
  simpa using h3
theorem xor63 (b : Nat) (hb : b < 2 ^ 63) : b ^^^ 2 ^ 63 = 2 ^ 63 + b := by
  have e := Nat.two_pow_add_eq_or_of_lt hb 1
  rw [Nat.mul_one] at e
  rw [e]
  refine Nat.eq_of_testBit_eq fun i => ?_
  rw [Nat.testBit_xor, Nat.testBit_or, Nat.testBit_two_pow]
  by_cases h : 63 = i
  · subst h
    rw [Nat.testBit_lt_two_pow hb]
    simp
  · simp [h]
theorem neg_word (s : Bool) (rung : Nat) (hr : rung < 2 ^ 63) : Go.Op.negFloat .f64 (double.word s rung) = double.word (!s) rung := by
  show double.word s rung ^^^ 2 ^ 63 = _
  unfold Format.word
  rw [double_sign]
  cases s
  · simp only [Bool.false_eq_true, if_false, Bool.not_false, if_true]; exact xor63 rung hr
  · simp only [Bool.not_true, Bool.false_eq_true, if_false, if_true]
    rw [← xor63 rung hr, Nat.xor_assoc, Nat.xor_self, Nat.xor_zero]
/-- the sign turned -/
theorem FW.neg {r : Nat} {n j : Int} (h : FW r n j) : FW (Go.Op.negFloat .f64 r) (-n) j := by
  obtain ⟨s, rung, m, e, rfl, hr, h2, a, b, hab, he⟩ := h
  have hw := neg_word s rung hr
  rw [hw]
  refine ⟨!s, rung, m, e, rfl, hr, h2, a, b, hab, ?_⟩
  have : sgn (!s) m = - sgn s m := by unfold sgn; cases s <;> simp
  rw [this, Int.neg_mul, he, Int.neg_mul]
theorem Rn_idem (n : Nat) : Rn (Rn n) = Rn n := by
  by_cases c : n.log2 ≤ 52
  · have : Rn n = n := by unfold Rn; rw [if_pos c]
    rw [this, this]
  · have hn : n ≠ 0 := by intro h; subst h; simp at c
    have e : Rn n = rne n (n.log2 - 52) * 2 ^ (n.log2 - 52) := by unfold Rn; rw [if_neg c]
    have hl : rne n (n.log2 - 52) ≤ 2 ^ 53 := rne_le _ _ (by rw [show n.log2 - 52 + 53 = n.log2 + 1 by omega]; exact Nat.lt_log2_self)
    rw [e, Rn_scale]
    congr 1
    rcases Nat.lt_or_ge (rne n (n.log2 - 52)) (2 ^ 53) with h | h
    · exact Rn_small _ h
    · have : rne n (n.log2 - 52) = 1 * 2 ^ 53 := by omega
      rw [this, Rn_scale, Rn_small 1 (by decide)]
theorem R_idem (n : Int) : R (R n) = R n := by
  have e : (R n).natAbs = Rn n.natAbs := by unfold R sgn; split <;> simp
  by_cases h0 : n = 0
  · subst h0; decide
  · have hz : Rn n.natAbs ≠ 0 := fun h => h0 (by have := Rn_eq_zero _ h; omega)
    have s : (R n < 0) ↔ n < 0 := by
      unfold R sgn
      by_cases h : n < 0
      · simp only [h, decide_true, if_true, iff_true]; omega
      · simp only [h, decide_false, Bool.false_eq_true, if_false, iff_false]; omega
    show sgn (decide (R n < 0)) (Rn (R n).natAbs) = R n
    rw [e, Rn_idem]
    simp only [s]
    rfl
theorem FW.tiny : FW 4391009636686233600 1 48 := by
  refine ⟨false, 4391009636686233600, 2 ^ 52, -100, by decide, by decide, fun t => by cases t <;> kernel_rfl, 0, 52, by omega, by decide⟩

end Go.Proofs.YtdcllcbhepajeaaDoor.Fl
