/- math/bits.Div64 by 10^19: the quotient and the rest of two words. -/
import Derived.Test.YtoikfekalgkgoaaDoorLp
import Derived.Test.YtoikfekalgkgoaaDoorRows
import Derived.Test.YtoikfekalgkgoaaDoorShelf
import Derived.WalkSpells
import Derived.WalkLawsBesides
import Derived.Lib.Hide
import Derived.Laws.BitsAllLaws
import Derived.Deep.QuietTactic
import Derived.BigQuiet
import Derived.Deep.DeepCutAuto
namespace Go.Proofs.YtoikfekalgkgoaaDoor
open Go.RowKit Go.Proofs
set_option linter.unusedVariables false

theorem u64_and32 (n : Int) (h : 0 ≤ n) (h' : n ≤ 18446744073709551615) : bits .and .u64 n 4294967295 = n % 4294967296 := by
  obtain ⟨x, rfl⟩ := Int.eq_ofNat_of_zero_le h
  have e : ((4294967295 : Nat) : Int) = 4294967295 := rfl
  rw [← e, u64_and_nat x 4294967295 (by omega) (by omega)]
  have h2 : (4294967295 : Nat) = 2 ^ 32 - 1 := by decide
  rw [h2, Nat.and_two_pow_sub_one_eq_mod]
  omega
theorem u64_or0 (n : Int) (h : 0 ≤ n) (h' : n ≤ 18446744073709551615) : bits .or .u64 n 0 = n := by
  obtain ⟨x, rfl⟩ := Int.eq_ofNat_of_zero_le h
  have e : ((0 : Nat) : Int) = 0 := rfl
  rw [← e, u64_or_nat x 0 (by omega) (by omega)]
  simp

/-- what stands of a first guess q with its rest r, for the quotient of X = un * 2^32 + u by 10^19 -/
def Guess (un u q r : Int) : Prop := q * 2328306436 + r = un ∧ (un * 4294967296 + u) / 10000000000000000000 ≤ q ∧ q ≤ 4294967300 ∧ 0 ≤ q ∧ 0 ≤ r ∧ r < 4294967296
theorem guess_first (un u : Int) (h : 0 ≤ un) (h' : un < 10000000000000000000) (hu : 0 ≤ u) (hu' : u < 4294967296) : Guess un u (un / 2328306436) (un - un / 2328306436 * 2328306436) := by
  unfold Guess; omega
/-- the test says no: the guess is right -/
theorem guess_end {un u q r : Int} (hu : 0 ≤ u) (hu' : u < 4294967296) (h : Guess un u q r) (h2 : q < 4294967296) (h3 : q * 2313682944 ≤ 4294967296 * r + u) : q = (un * 4294967296 + u) / 10000000000000000000 := by
  unfold Guess at h; omega
/-- the test says yes: one less -/
theorem guess_less {un u q r : Int} (hun : 0 ≤ un) (hun' : un < 10000000000000000000) (hu : 0 ≤ u) (hu' : u < 4294967296) (h : Guess un u q r) (h2 : 4294967296 ≤ q ∨ 4294967296 * r + u < q * 2313682944) (h4 : r + 2328306436 < 4294967296) : Guess un u (q - 1) (r + 2328306436) := by
  unfold Guess at *; omega
/-- .. and the rest has grown out of 32 bits: it is right -/
theorem guess_break {un u q r : Int} (hun : 0 ≤ un) (hun' : un < 10000000000000000000) (hu : 0 ≤ u) (hu' : u < 4294967296) (h : Guess un u q r) (h2 : 4294967296 ≤ q ∨ 4294967296 * r + u < q * 2313682944) (h4 : 4294967296 ≤ r + 2328306436) : q - 1 = (un * 4294967296 + u) / 10000000000000000000 := by
  unfold Guess at *; omega

end Go.Proofs.YtoikfekalgkgoaaDoor
