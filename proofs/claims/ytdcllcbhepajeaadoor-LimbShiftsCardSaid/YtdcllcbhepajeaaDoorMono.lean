/- Rounding to binary64 does not fall where the number rises; the word of a number's nearest float by its rung (plain). -/
import Derived.Test.YtdcllcbhepajeaaDoorNr
namespace Go.Proofs.YtdcllcbhepajeaaDoor.Fl
open Ieee
set_option linter.unusedVariables false

theorem pw {a b c : Nat} (h : a = b + c) : 2 ^ a = 2 ^ b * 2 ^ c := by subst h; exact Nat.pow_add 2 b c
theorem rne_mono {n m k : Nat} (h : n ≤ m) : rne n k ≤ rne m k := by
  rcases Nat.eq_or_lt_of_le h with rfl | h
  · exact Nat.le_refl _
  · refine Nat.le_of_not_lt fun hc => ?_
    have h1 := (rne_bounds n k).1
    have h2 := (rne_bounds m k).2
    have hm : (rne m k + 1) * 2 ^ k ≤ rne n k * 2 ^ k := Nat.mul_le_mul_right _ hc
    rw [Nat.add_mul] at hm
    generalize rne n k * 2 ^ k = a at *
    generalize rne m k * 2 ^ k = b at *
    generalize 2 ^ k = P at *
    omega
theorem Rn_le_top (n : Nat) (h0 : n ≠ 0) : Rn n ≤ 2 ^ (n.log2 + 1) ∧ 2 ^ n.log2 ≤ Rn n := by
  have h1 := Nat.log2_self_le h0
  have h2 : n < 2 ^ (n.log2 + 1) := Nat.lt_log2_self
  unfold Rn
  by_cases c : n.log2 ≤ 52
  · rw [if_pos c]; omega
  · rw [if_neg c]
    have e1 : 2 ^ (n.log2 + 1) = 2 ^ 53 * 2 ^ (n.log2 - 52) := by rw [← Nat.pow_add]; congr 1; omega
    have e2 : 2 ^ n.log2 = 2 ^ 52 * 2 ^ (n.log2 - 52) := by rw [← Nat.pow_add]; congr 1; omega
    have a := rne_le n (n.log2 - 52) (by rw [show n.log2 - 52 + 53 = n.log2 + 1 by omega]; exact h2)
    have b := le_rne n (n.log2 - 52) (by rw [show n.log2 - 52 + 52 = n.log2 by omega]; exact h1)
    rw [e1, e2]
    exact ⟨Nat.mul_le_mul_right _ a, Nat.mul_le_mul_right _ b⟩
theorem log2_mono {n m : Nat} (h0 : n ≠ 0) (h : n ≤ m) : n.log2 ≤ m.log2 := by
  have h1 := Nat.log2_self_le h0
  exact (Nat.le_log2 (by omega)).2 (by omega)
theorem Rn_mono {n m : Nat} (h : n ≤ m) : Rn n ≤ Rn m := by
  by_cases h0 : n = 0
  · subst h0; rw [Rn_zero]; exact Nat.zero_le _
  · have hl := log2_mono h0 h
    rcases Nat.eq_or_lt_of_le hl with e | e
    · unfold Rn
      rw [e]
      split
      · exact h
      · exact Nat.mul_le_mul_right _ (rne_mono h)
    · have a := (Rn_le_top n h0).1
      have b := (Rn_le_top m (by omega)).2
      have c : 2 ^ (n.log2 + 1) ≤ 2 ^ m.log2 := Nat.pow_le_pow_right (by decide) e
      omega
theorem R_mono {n m : Int} (h : n ≤ m) : R n ≤ R m := by
  unfold R sgn
  by_cases h1 : n < 0
  · by_cases h2 : m < 0
    · have := Rn_mono (n := m.natAbs) (m := n.natAbs) (by omega)
      simp only [h1, h2, decide_true, if_true]; omega
    · simp only [h1, h2, decide_true, decide_false, if_true, Bool.false_eq_true, if_false]; omega
  · have h2 : ¬ m < 0 := by omega
    have := Rn_mono (n := n.natAbs) (m := m.natAbs) (by omega)
    simp only [h1, h2, decide_false, Bool.false_eq_true, if_false]; omega
/-- the nearest float's word -/
theorem near_def (n : Int) : FloatKind.f64.nearest n = double.write (.number (n < 0) n.natAbs 0) := rfl
theorem write_def (s : Bool) (m : Nat) : double.write (.number s m 0) = double.nearest s m 0 := rfl
theorem near_zero : FloatKind.f64.nearest 0 = 0 := by decide
theorem near_pos (n : Int) (h0 : 0 < n) (h : n.toNat.log2 ≤ 1022) : FloatKind.f64.nearest n = rg n.toNat := by
  have e1 : n.natAbs = n.toNat := by omega
  have e2 : decide (n < 0) = false := decide_eq_false (by omega)
  have e3 := near_rg false n.toNat (by omega) h
  have e4 : double.word false (rg n.toNat) = rg n.toNat := by unfold Format.word; simp
  rw [near_def, write_def, e1, e2, e3, e4]
theorem rg_lt (M : Nat) (h0 : M ≠ 0) (h : M.log2 ≤ 1022) : rg M ≤ (M.log2 + 1022) * 2 ^ 52 + 2 ^ 53 ∧ (M.log2 + 1022) * 2 ^ 52 + 2 ^ 52 ≤ rg M := by
  have h1 := Nat.log2_self_le h0
  have h2 : M < 2 ^ (M.log2 + 1) := Nat.lt_log2_self
  have q : 2 ^ (M.log2 - 52 + 52) ≤ M * 2 ^ (52 - M.log2) ∧ M * 2 ^ (52 - M.log2) < 2 ^ (M.log2 - 52 + 53) := by
    generalize M.log2 = l at *
    rcases Nat.le_total l 52 with c | c
    · have e1 : 2 ^ (l - 52 + 52) = 2 ^ l * 2 ^ (52 - l) := pw (by omega)
      have e2 : 2 ^ (l - 52 + 53) = 2 ^ (l + 1) * 2 ^ (52 - l) := pw (by omega)
      have hP := two_pos (52 - l)
      rw [e1, e2]
      generalize 2 ^ (52 - l) = P at *
      exact ⟨Nat.mul_le_mul_right _ h1, (Nat.mul_lt_mul_right hP).2 h2⟩
    · have e1 : 52 - l = 0 := by omega
      have e2 : l - 52 + 52 = l := by omega
      have e3 : l - 52 + 53 = l + 1 := by omega
      rw [e1, e2, e3, Nat.pow_zero, Nat.mul_one]
      exact ⟨h1, h2⟩
  have a := rne_le _ _ q.2
  have b := le_rne _ _ q.1
  unfold rg
  omega
theorem near_neg (n : Int) (h0 : n < 0) (h : (-n).toNat.log2 ≤ 1022) : FloatKind.f64.nearest n = Go.Op.negFloat .f64 (FloatKind.f64.nearest (-n)) := by
  rw [near_pos (-n) (by omega) h]
  have hr := rg_lt (-n).toNat (by omega) h
  have e := neg_word false (rg (-n).toNat) (by omega)
  rw [show double.word false (rg (-n).toNat) = rg (-n).toNat by unfold Format.word; simp] at e
  have e1 : n.natAbs = (-n).toNat := by omega
  have e2 : decide (n < 0) = true := decide_eq_true h0
  have e3 := near_rg true (-n).toNat (by omega) h
  rw [near_def, write_def, e1, e2, e3, e]
  rfl
theorem near_neg_word (n : Int) (h0 : n < 0) (h : (-n).toNat.log2 ≤ 1022) : FloatKind.f64.nearest n = 2 ^ 63 + rg (-n).toNat := by
  have e1 : n.natAbs = (-n).toNat := by omega
  have e2 : decide (n < 0) = true := decide_eq_true h0
  have e3 := near_rg true (-n).toNat (by omega) h
  have e5 : FloatKind.f64.nearest n = double.nearest (decide (n < 0)) n.natAbs 0 := rfl
  have e4 : double.word true (rg (-n).toNat) = 2 ^ 63 + rg (-n).toNat := by unfold Format.word; rw [double_sign]; simp
  rw [e5, e1, e2, e3, e4]
end Go.Proofs.YtdcllcbhepajeaaDoor.Fl
