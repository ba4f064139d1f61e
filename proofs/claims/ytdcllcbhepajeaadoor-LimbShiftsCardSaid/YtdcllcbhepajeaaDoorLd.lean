/- What math.Ldexp meets: a normal word and its comparisons; one times a word (plain). -/
import Derived.Test.YtdcllcbhepajeaaDoorNr
namespace Go.Proofs.YtdcllcbhepajeaaDoor.Fl
open Ieee
set_option linter.unusedVariables false

/-- the number of a word from 1075 binades on -/
def wn (r : Nat) : Nat := (2 ^ 52 + r % 2 ^ 52) * 2 ^ (r / 2 ^ 52 - 1075)
theorem fw_word (r : Nat) (h0 : 1075 * 2 ^ 52 ≤ r) (h1 : r < 2047 * 2 ^ 52) : FW (double.word false r) (wn r) 0 := by
  refine ⟨false, r, 2 ^ 52 + r % 2 ^ 52, -1074 + (r / 2 ^ 52 - 1 : Nat), rfl, by omega, fun t => read_word t r h1 (by omega), r / 2 ^ 52 - 1075, 0, by omega, ?_⟩
  unfold sgn wn
  rw [if_neg (by decide)]
  simp
/-- one times a normal word is that word -/
theorem one_mul_word (r : Nat) (h0 : 2 ^ 52 ≤ r) (h1' : r < 2046 * 2 ^ 52) : floatBits .mul .f64 4607182418800017408 (double.word false r) = some (double.word false r) := by
  have e1 : double.read 4607182418800017408 = .number false (2 ^ 52) (-52) := by
    have := read_word false 4607182418800017408 (by decide) (by decide)
    have e : double.word false 4607182418800017408 = 4607182418800017408 := by decide
    rw [e] at this
    rw [this]
    rfl
  have h1 : r < 2047 * 2 ^ 52 := by omega
  have e2 := read_word false r h1 h0
  show ((double.read 4607182418800017408).product (double.read (double.word false r))).map double.write = _
  rw [e1, e2]
  show some (double.nearest false (2 ^ 52 * (2 ^ 52 + r % 2 ^ 52)) (-52 + (-1074 + (r / 2 ^ 52 - 1 : Nat)))) = _
  have hlog : (2 ^ 52 * (2 ^ 52 + r % 2 ^ 52)).log2 = 104 := by
    refine log2_of ?_ ?_ <;> omega
  obtain ⟨kept, last, hl, hw, _, _, _, hk⟩ := nearest_word false (2 ^ 52 * (2 ^ 52 + r % 2 ^ 52)) (-52 + (-1074 + (r / 2 ^ 52 - 1 : Nat))) (by omega) (by rw [hlog]; omega) (by rw [hlog]; omega)
  rw [hlog] at hl hk
  rw [hw, hk]
  have hr : rne (2 ^ 52 * (2 ^ 52 + r % 2 ^ 52) * 2 ^ (52 - 104)) (104 - 52) = 2 ^ 52 + r % 2 ^ 52 := by
    rw [show (52 - 104 : Nat) = 0 by decide, Nat.pow_zero, Nat.mul_one, show (104 - 52 : Nat) = 52 by decide, Nat.mul_comm (2 ^ 52)]
    exact rne_exact _ 52
  rw [hr]
  congr 2
  omega
end Go.Proofs.YtdcllcbhepajeaaDoor.Fl
