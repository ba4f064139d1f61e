/- The word of the nearest float of a whole number (plain): its rung; the same by 64 bits and a sticky one. -/
import Derived.Test.YtdcllcbhepajeaaDoorFw
namespace Go.Proofs.YtdcllcbhepajeaaDoor.Fl
open Ieee
set_option linter.unusedVariables false

/-- the rung of a number that is not 0 -/
def rg (M : Nat) : Nat := (M.log2 + 1022) * 2 ^ 52 + rne (M * 2 ^ (52 - M.log2)) (M.log2 - 52)
theorem near_rg (neg : Bool) (M : Nat) (h0 : M ≠ 0) (hl : M.log2 ≤ 1022) : double.nearest neg M 0 = double.word neg (rg M) := by
  obtain ⟨kept, last, e1, e2, _, _, _, e3⟩ := nearest_word neg M 0 h0 (by omega) (by omega)
  rw [e2]
  unfold rg
  rw [e3, show (last + 1074).toNat = M.log2 + 1022 by omega]
theorem log2_of {n k : Nat} (h1 : 2 ^ k ≤ n) (h2 : n < 2 ^ (k + 1)) : n.log2 = k := by
  have h0 : n ≠ 0 := by have := two_pos k; omega
  refine Nat.le_antisymm ?_ ?_
  · have : n.log2 < k + 1 := (Nat.log2_lt h0).2 h2
    omega
  · exact (Nat.le_log2 h0).2 h1
/-- the upper 64 bits, the last one set where something is left -/
def stick (M s : Nat) : Nat := if M % 2 ^ s = 0 then M / 2 ^ s else M / 2 ^ s / 2 * 2 + 1
theorem rne_stick (M s : Nat) : rne M (11 + s) = rne (stick M s) 11 := by
  have hP := two_pos s
  have e1 : M / 2 ^ (11 + s) = M / 2 ^ s / 2 ^ 11 := by rw [Nat.div_div_eq_div_mul, ← Nat.pow_add, Nat.add_comm]
  have e2 : M % 2 ^ (11 + s) = M / 2 ^ s % 2 ^ 11 * 2 ^ s + M % 2 ^ s := by
    rw [show 2 ^ (11 + s) = 2 ^ s * 2 ^ 11 by rw [← Nat.pow_add, Nat.add_comm], Nat.mod_mul]
    rw [Nat.mul_comm (2 ^ s)]; omega
  have e3 : (2 : Nat) ^ (11 + s) = 2048 * 2 ^ s := by rw [Nat.pow_add]
  have hr : M % 2 ^ s < 2 ^ s := Nat.mod_lt _ hP
  unfold rne
  rw [e1, e2, e3]
  unfold stick
  generalize M / 2 ^ s = q at *
  generalize M % 2 ^ s = r at *
  generalize 2 ^ s = P at *
  have h11 : (2 : Nat) ^ 11 = 2048 := rfl
  rw [h11]
  obtain ⟨t, ht⟩ : ∃ t, t = q % 2048 := ⟨_, rfl⟩
  have htl : t < 2048 := by omega
  rw [← ht]
  have key : ∀ k, t * P + r = k → (t < 1024 → 2 * k < 2048 * P) ∧ (1024 < t → 2048 * P < 2 * k) ∧ (t = 1024 → k = 1024 * P + r) := by
    intro k hk
    refine ⟨fun h => ?_, fun h => ?_, fun h => ?_⟩
    · have : (t + 1) * P ≤ 1024 * P := Nat.mul_le_mul_right P (by omega)
      rw [Nat.add_mul] at this; omega
    · have : 1025 * P ≤ t * P := Nat.mul_le_mul_right P (by omega)
      omega
    · subst h; omega
  generalize hk : t * P + r = k
  obtain ⟨k1, k2, k3⟩ := key k hk
  by_cases h0 : r = 0
  · rw [if_pos h0]
    rw [← ht]
    rcases Nat.lt_trichotomy t 1024 with h | h | h
    · have := k1 h
      congr 2
      rw [decide_eq_false (by omega), decide_eq_false (by omega), show (2048 * P == 2 * k) = false by simpa using (by omega), show (2048 == 2 * t) = false by simpa using (by omega)]
    · have := k3 h
      congr 2
      rw [decide_eq_false (by omega), decide_eq_false (by omega), show (2048 * P == 2 * k) = true by simpa using (by omega), show (2048 == 2 * t) = true by simpa using (by omega)]
    · have := k2 h
      congr 2
      rw [decide_eq_true (by omega), decide_eq_true (by omega)]
      rfl
  · rw [if_neg h0]
    have hq1 : (q / 2 * 2 + 1) / 2048 = q / 2048 := by omega
    obtain ⟨t', ht'⟩ : ∃ t', t' = (q / 2 * 2 + 1) % 2048 := ⟨_, rfl⟩
    have ht2 : t' = t / 2 * 2 + 1 := by omega
    rw [hq1, ← ht']
    rcases Nat.lt_or_ge t 1024 with h | h
    · have := k1 h
      congr 2
      rw [decide_eq_false (by omega), decide_eq_false (by omega), show (2048 * P == 2 * k) = false by simpa using (by omega), show (2048 == 2 * t') = false by simpa using (by omega)]
    · have h3 : 2048 * P < 2 * k := by
        rcases Nat.eq_or_lt_of_le h with h | h
        · have := k3 h.symm; omega
        · exact k2 h
      congr 2
      rw [decide_eq_true (by omega), decide_eq_true (by omega)]
      rfl
theorem stick_log2 {M s : Nat} (h : M.log2 = 63 + s) (h0 : M ≠ 0) : (stick M s).log2 = 63 := by
  have h1 := Nat.log2_self_le h0
  have h2 : M < 2 ^ (M.log2 + 1) := Nat.lt_log2_self
  rw [h] at h1 h2
  have hP := two_pos s
  have q1 : 2 ^ 63 ≤ M / 2 ^ s := by
    rw [Nat.le_div_iff_mul_le hP, ← Nat.pow_add]; exact h1
  have q2 : M / 2 ^ s < 2 ^ 64 := by
    rw [Nat.div_lt_iff_lt_mul hP, ← Nat.pow_add]
    rw [show 64 + s = 63 + s + 1 by omega]; exact h2
  refine log2_of ?_ ?_ <;> unfold stick <;> split <;> omega
/-- the rung by the upper 64 bits -/
theorem rg_stick {M s : Nat} (h : M.log2 = 63 + s) (h0 : M ≠ 0) : rg M = rg (stick M s) + s * 2 ^ 52 := by
  have hs := stick_log2 h h0
  unfold rg
  rw [h, hs, show 52 - (63 + s) = 0 by omega, show (52 - 63 : Nat) = 0 by omega, Nat.pow_zero, Nat.mul_one, Nat.mul_one, show 63 + s - 52 = 11 + s by omega, show (63 - 52 : Nat) = 11 by omega, rne_stick]
  omega
end Go.Proofs.YtdcllcbhepajeaaDoor.Fl
