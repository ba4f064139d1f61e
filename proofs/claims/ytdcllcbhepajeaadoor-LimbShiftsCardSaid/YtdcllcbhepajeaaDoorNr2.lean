/- What the reference's Near computes by bits, and that it is the rung of the nearest float (plain). -/
import Derived.Test.YtdcllcbhepajeaaDoorNr
namespace Go.Proofs.YtdcllcbhepajeaaDoor.Fl
set_option linter.unusedVariables false

def tb (N i : Nat) : Nat := N / 2 ^ i % 2
theorem tb_lt (N i : Nat) : tb N i < 2 := Nat.mod_lt _ (by decide)
theorem top_down {N t : Nat} (h : N < 2 ^ (t + 1)) (hb : tb N t = 0) : N < 2 ^ t := by
  have hP := two_pos t
  have h1 : N / 2 ^ t < 2 := by rw [Nat.div_lt_iff_lt_mul hP, ← Nat.pow_succ']; exact h
  unfold tb at hb
  have h2 : N / 2 ^ t = 0 := by generalize N / 2 ^ t = x at hb h1 ⊢; omega
  rcases Nat.div_eq_zero_iff.1 h2 with h | h
  · omega
  · exact h
theorem top_found {N t : Nat} (h : N < 2 ^ (t + 1)) (hb : tb N t ≠ 0) : N ≠ 0 ∧ N.log2 = t := by
  have hP := two_pos t
  unfold tb at hb
  have h1 : 1 ≤ N / 2 ^ t := by
    rcases Nat.eq_zero_or_pos (N / 2 ^ t) with h0 | h0
    · rw [h0] at hb; simp at hb
    · exact h0
  have h2 : 2 ^ t ≤ N := by
    have := (Nat.le_div_iff_mul_le hP).1 h1
    omega
  exact ⟨by omega, log2_of h2 h⟩
/-- the leading bits, the top one and a more -/
def Q (N l a : Nat) : Nat := N * 2 ^ 128 / 2 ^ (128 + l - a)
theorem Q_big {N k : Nat} : N * 2 ^ 128 / 2 ^ (128 + k) = N / 2 ^ k := by
  rw [Nat.pow_add, Nat.mul_comm (2 ^ 128) (2 ^ k)]
  exact Nat.mul_div_mul_right _ _ (two_pos 128)
theorem Q_small {N d : Nat} (h : d ≤ 128) : N * 2 ^ 128 / 2 ^ (128 - d) = N * 2 ^ d := by
  have e : (2 : Nat) ^ 128 = 2 ^ d * 2 ^ (128 - d) := by rw [← Nat.pow_add]; congr 1; omega
  rw [e, ← Nat.mul_assoc]
  exact Nat.mul_div_cancel _ (two_pos _)
theorem Q_step {N l a : Nat} (ha : a < 52) : Q N l (a + 1) = 2 * Q N l a + (if a + 1 ≤ l then tb N (l - (a + 1)) else 0) := by
  have e1 : Q N l a = Q N l (a + 1) / 2 := by
    unfold Q
    rw [Nat.div_div_eq_div_mul, ← Nat.pow_succ]
    congr 2; omega
  have e2 : Q N l (a + 1) % 2 = if a + 1 ≤ l then tb N (l - (a + 1)) else 0 := by
    unfold Q
    split
    · rename_i h
      rw [show 128 + l - (a + 1) = 128 + (l - (a + 1)) by omega, Q_big]; rfl
    · rename_i h
      rw [show 128 + l - (a + 1) = 128 - (a + 1 - l) by omega, Q_small (by omega)]
      obtain ⟨d, hd⟩ : ∃ d, a + 1 - l = d + 1 := ⟨a - l, by omega⟩
      rw [hd, Nat.pow_succ, ← Nat.mul_assoc]
      exact Nat.mul_mod_left _ _
  rw [e1, ← e2]; omega
theorem Q_zero {N l : Nat} (h0 : N ≠ 0) (hl : N.log2 = l) : Q N l 0 = 1 := by
  have h1 := Nat.log2_self_le h0
  have h2 : N < 2 ^ (N.log2 + 1) := Nat.lt_log2_self
  rw [hl] at h1 h2
  unfold Q
  rw [Nat.sub_zero, Q_big]
  refine Nat.le_antisymm ?_ ?_
  · have : N / 2 ^ l < 2 := by rw [Nat.div_lt_iff_lt_mul (two_pos l), ← Nat.pow_succ']; exact h2
    omega
  · rw [Nat.le_div_iff_mul_le (two_pos l)]; omega
theorem Q_range {N l : Nat} (h0 : N ≠ 0) (hl : N.log2 = l) : ∀ a, a ≤ 52 → 2 ^ a ≤ Q N l a ∧ Q N l a < 2 ^ (a + 1)
  | 0, _ => by rw [Q_zero h0 hl]; decide
  | a + 1, h => by
    obtain ⟨h1, h2⟩ := Q_range h0 hl a (by omega)
    rw [Q_step (by omega)]
    have : (if a + 1 ≤ l then tb N (l - (a + 1)) else 0) < 2 := by
      split
      · exact tb_lt _ _
      · omega
    rw [Nat.pow_succ 2 (a + 1)]
    rw [Nat.pow_succ] at h2 ⊢
    omega
theorem Q_end (N l : Nat) : Q N l 52 = N * 2 ^ (52 - l) / 2 ^ (l - 52) := by
  unfold Q
  rcases Nat.le_total 52 l with h | h
  · rw [show 128 + l - 52 = 128 + (l - 52) by omega, Q_big, show 52 - l = 0 by omega, Nat.pow_zero, Nat.mul_one]
  · rw [show 128 + l - 52 = 128 - (52 - l) by omega, Q_small (by omega), show l - 52 = 0 by omega, Nat.pow_zero, Nat.div_one]
/-- is a bit set from the j-th on, below the k-th? -/
def rest (N k j : Nat) : Bool := decide (N % 2 ^ k / 2 ^ j ≠ 0)
theorem rest_start (N k : Nat) : rest N k k = false := by
  unfold rest
  rw [Nat.div_eq_of_lt (Nat.mod_lt _ (two_pos k))]; rfl
theorem rest_step {N k j : Nat} (h : j < k) : rest N k j = (rest N k (j + 1) || decide (tb N j = 1)) := by
  have e1 : N % 2 ^ k / 2 ^ (j + 1) = N % 2 ^ k / 2 ^ j / 2 := by rw [Nat.div_div_eq_div_mul, ← Nat.pow_succ]
  have e2 : N % 2 ^ k / 2 ^ j % 2 = tb N j := by
    unfold tb
    obtain ⟨d, rfl⟩ : ∃ d, k = j + 1 + d := ⟨k - (j + 1), by omega⟩
    have : N % 2 ^ (j + 1 + d) / 2 ^ j % 2 = N % 2 ^ (j + 1 + d) % 2 ^ (j + 1) / 2 ^ j := by
      rw [Nat.pow_succ, Nat.mod_mul_right_div_self]
    rw [this, Nat.mod_mod_of_dvd _ ⟨2 ^ d, by rw [← Nat.pow_add]⟩, Nat.pow_succ, Nat.mod_mul_right_div_self]
  unfold rest
  rw [e1, ← e2]
  generalize N % 2 ^ k / 2 ^ j = x
  rw [Bool.eq_iff_iff]
  simp
  omega
/-- what the reference rounds up by -/
def up (N l : Nat) : Bool := decide (53 ≤ l) && decide (tb N (l - 53) = 1) && (rest N (l - 53) 0 || decide ((Q N l 52 - 2 ^ 52) % 2 = 1))
theorem rg_ref {N l : Nat} (h0 : N ≠ 0) (hl : N.log2 = l) : rg N = (1023 + l) * 2 ^ 52 + (Q N l 52 - 2 ^ 52) + (up N l).toNat := by
  obtain ⟨q1, q2⟩ := Q_range h0 hl 52 (by omega)
  have key : rne (N * 2 ^ (52 - l)) (l - 52) = Q N l 52 + (up N l).toNat := by
    rcases Nat.lt_or_ge l 53 with h | h
    · have hu : up N l = false := by unfold up; rw [decide_eq_false (by omega)]; rfl
      rw [hu, Q_end, show l - 52 = 0 by omega, rne_zero, Nat.pow_zero, Nat.div_one]; rfl
    · obtain ⟨k, rfl⟩ : ∃ k, l = 53 + k := ⟨l - 53, by omega⟩
      have e0 : Q N (53 + k) 52 = N / 2 ^ (k + 1) := by rw [Q_end, show 52 - (53 + k) = 0 by omega, Nat.pow_zero, Nat.mul_one, show 53 + k - 52 = k + 1 by omega]
      rw [show 52 - (53 + k) = 0 by omega, Nat.pow_zero, Nat.mul_one, show 53 + k - 52 = k + 1 by omega]
      unfold up
      rw [e0] at q1 q2 ⊢
      rw [decide_eq_true (by omega), Bool.true_and, show 53 + k - 53 = k by omega]
      unfold rne rest tb
      rw [Nat.pow_zero, Nat.div_one]
      have e1 : N % 2 ^ (k + 1) = N / 2 ^ k % 2 * 2 ^ k + N % 2 ^ k := by
        rw [Nat.pow_succ, Nat.mod_mul, Nat.mul_comm (2 ^ k)]; omega
      have hr : N % 2 ^ k < 2 ^ k := Nat.mod_lt _ (two_pos k)
      rw [e1]
      clear e0 e1
      generalize N / 2 ^ (k + 1) = q at *
      rw [show (2 : Nat) ^ (k + 1) = 2 ^ k * 2 from Nat.pow_succ 2 k]
      generalize N % 2 ^ k = r at *
      have hb := Nat.mod_lt (N / 2 ^ k) (show 2 > 0 by decide)
      generalize N / 2 ^ k % 2 = b at *
      generalize 2 ^ k = P at *
      congr 2
      have : b = 0 ∨ b = 1 := by omega
      rcases this with rfl | rfl
      · rw [decide_eq_false (by omega), show (P * 2 == 2 * (0 * P + r)) = false by simpa using (by omega)]; rfl
      · rcases Nat.eq_zero_or_pos r with h | h
        · subst h
          rw [decide_eq_false (by omega), show (P * 2 == 2 * (1 * P + 0)) = true by simpa using (by omega)]
          have hq2 : (q - 2 ^ 52) % 2 = q % 2 := by omega
          rw [hq2]
          rcases Nat.mod_two_eq_zero_or_one q with h | h <;> simp [h]
        · rw [decide_eq_true (by omega), decide_eq_true (by omega)]
          simp
          omega
  unfold rg
  rw [hl, key]
  omega
end Go.Proofs.YtdcllcbhepajeaaDoor.Fl
