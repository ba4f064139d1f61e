/- Plain facts on decimal numerals: a numeral in pieces of 19 digits. -/
import Derived.Test.YtdcllcbhepajeaaDoorLp
import Derived.Lib.ItoaNum
import Derived.Lib.Repeat
namespace Go.Proofs.YtdcllcbhepajeaaDoor
open Go.RowKit Go.Lib
set_option linter.unusedVariables false

/-- k digits of r, zeros ahead -/
def pd : Nat → Nat → List UInt8
  | 0, _ => []
  | k + 1, r => pd k (r / 10) ++ [UInt8.ofNat (48 + r % 10)]

theorem dec_split : ∀ (k q r : Nat), 1 ≤ q → r < 10 ^ k → decDigits (q * 10 ^ k + r) = decDigits q ++ pd k r
  | 0, q, r, hq, hr => by simp at hr; subst hr; simp [pd]
  | k + 1, q, r, hq, hr => by
    have hp : 1 ≤ 10 ^ k := Nat.one_le_pow _ _ (by decide)
    rw [Nat.pow_succ] at hr ⊢
    have e : q * (10 ^ k * 10) = (q * 10 ^ k) * 10 := by rw [Nat.mul_assoc]
    have h1 : 1 ≤ q * 10 ^ k := Nat.mul_le_mul hq hp
    rw [e, decDigits, dif_neg (by omega), pd, show (q * 10 ^ k * 10 + r) / 10 = q * 10 ^ k + r / 10 by omega, show (q * 10 ^ k * 10 + r) % 10 = r % 10 by omega,
      dec_split k q (r / 10) hq (by omega), List.append_assoc]

theorem rep_snoc : ∀ c : Nat, repeatL [48] c ++ [48] = repeatL [48] (c + 1)
  | 0 => rfl
  | c + 1 => by show 48 :: (repeatL [48] c ++ [48]) = _; rw [rep_snoc c]; rfl
theorem pd_zero : ∀ k : Nat, pd k 0 = repeatL [48] k
  | 0 => rfl
  | k + 1 => by rw [pd, Nat.zero_div, pd_zero k, ← rep_snoc]; rfl
theorem pd_eq : ∀ (k r : Nat), 1 ≤ k → r < 10 ^ k → pd k r = repeatL [48] (k - nDigits r) ++ decDigits r
  | 0, r, h, _ => by omega
  | k + 1, r, _, hr => by
    by_cases h : r < 10
    · rw [pd, decDigits_one h, nDigits_small h, show r / 10 = 0 by omega, pd_zero, Nat.add_sub_cancel, show r % 10 = r by omega]
    · rw [Nat.pow_succ] at hr
      have hk : 1 ≤ k := by
        rcases k with _ | k
        · simp at hr; omega
        · omega
      have e : decDigits r = decDigits (r / 10) ++ [UInt8.ofNat (48 + r % 10)] := by rw [decDigits, dif_neg h]
      rw [pd, pd_eq k (r / 10) hk (by omega), e, nDigits_big h, Nat.add_sub_add_right, List.append_assoc]
theorem nDigits_le {r : Nat} (k : Nat) (hk : 1 ≤ k) (h : r < 10 ^ k) : nDigits r ≤ k := by
  induction k generalizing r with
  | zero => omega
  | succ k ih =>
    by_cases h1 : r < 10
    · rw [nDigits_small h1]; omega
    · rw [Nat.pow_succ] at h
      rcases k with _ | k
      · simp at h; omega
      · have := ih (r := r / 10) (by omega) (by omega)
        rw [nDigits_big h1]; omega
/-- the numeral of q * 10^19 + r, as pieces -/
theorem dec_piece (q r : Nat) (hq : 1 ≤ q) (hr : r < 10000000000000000000) : decDigits (q * 10000000000000000000 + r) = decDigits q ++ (repeatL [48] (19 - nDigits r) ++ decDigits r) := by
  have := dec_split 19 q r hq (by simpa using hr)
  rw [pd_eq 19 r (by decide) (by simpa using hr)] at this
  simpa using this

end Go.Proofs.YtdcllcbhepajeaaDoor
