/- The contract of the reference's Near. -/
import Derived.Test.YtdcllcbhepajeaaDoorNr2
import Derived.Test.YtdcllcbhepajeaaDoorTen
namespace Go.Proofs.YtdcllcbhepajeaaDoor
open Go.RowKit Go.Proofs
set_option linter.unusedVariables false

theorem bit_nat (N k : Nat) : bitV (N : Int) (k : Int) = (Fl.tb N k : Int) := by
  unfold bitV Fl.tb
  rw [Int.toNat_natCast]
  norm_cast
/-- the reference's answer -/
def nearV (x : Int) : Int := if mg x = 0 then 0 else (if sv x < 0 then 9223372036854775808 else 0) + (Fl.rg (mg x).toNat : Int)

theorem sg_neg_iff (x : Int) : (sg x < 0 ↔ x < 0) := by unfold sg cmp3; split <;> (try split) <;> constructor <;> intro h <;> omega
/-- the state of the second loop: a bits are taken -/
def S2 (N k : Nat) (F I : Int) : Prop := ∃ a : Nat, a ≤ 52 ∧ I = (k : Int) - 1 - a ∧ F = (Fl.Q N k a : Int) - 2 ^ a
theorem S2.start {N k : Nat} (h0 : N ≠ 0) (hl : N.log2 = k) : S2 N k 0 ((k : Int) - 1) := ⟨0, by omega, by omega, by rw [Fl.Q_zero h0 hl]; rfl⟩
theorem S2.range {N k : Nat} {F I : Int} (h0 : N ≠ 0) (hl : N.log2 = k) (h : S2 N k F I) : 0 ≤ F ∧ F < 4503599627370496 ∧ (I : Int) ≤ k - 1 ∧ (k : Int) - 53 ≤ I := by
  obtain ⟨a, ha, rfl, rfl⟩ := h
  obtain ⟨q1, q2⟩ := Fl.Q_range h0 hl a ha
  have h52 : (2 : Nat) ^ a ≤ 2 ^ 52 := Nat.pow_le_pow_right (by decide) ha
  rw [Nat.pow_succ] at q2
  have e : (2 : Int) ^ a = ((2 ^ a : Nat) : Int) := by norm_cast
  rw [e]
  generalize (2 : Nat) ^ a = P at *
  omega
theorem S2.more {N k : Nat} {F I : Int} (h : S2 N k F I) (hi : (k : Int) - 52 ≤ I) (h0 : 0 ≤ I) : S2 N k (2 * F + (Fl.tb N I.toNat : Int)) (I - 1) := by
  obtain ⟨a, ha, rfl, rfl⟩ := h
  refine ⟨a + 1, by omega, by omega, ?_⟩
  rw [Fl.Q_step (by omega), if_pos (by omega), show ((k : Int) - 1 - a).toNat = k - (a + 1) by omega, Int.pow_succ]
  generalize (2 : Int) ^ a = P
  omega
theorem S2.zero {N k : Nat} {F I : Int} (h : S2 N k F I) (hi : (k : Int) - 52 ≤ I) (h0 : I < 0) : S2 N k (2 * F) (I - 1) := by
  obtain ⟨a, ha, rfl, rfl⟩ := h
  refine ⟨a + 1, by omega, by omega, ?_⟩
  rw [Fl.Q_step (by omega), if_neg (by omega), Int.pow_succ]
  generalize (2 : Int) ^ a = P
  omega
theorem S2.done {N k : Nat} {F I : Int} (h : S2 N k F I) (hi : ¬ (k : Int) - 52 ≤ I) : F = (Fl.Q N k 52 : Int) - 4503599627370496 := by
  obtain ⟨a, ha, rfl, rfl⟩ := h
  obtain rfl : a = 52 := by omega
  rfl
/-- the state of the third loop -/
def S3 (N k : Nat) (r : Bool) (I : Int) : Prop := (k < 53 ∧ r = false ∧ I < 0) ∨ (53 ≤ k ∧ ∃ j : Nat, j ≤ k - 53 ∧ I = (j : Int) - 1 ∧ r = Fl.rest N (k - 53) j)
theorem S3.start (N k : Nat) : S3 N k false ((k : Int) - 54) := by
  rcases Nat.lt_or_ge k 53 with h | h
  · exact .inl ⟨h, rfl, by omega⟩
  · exact .inr ⟨h, k - 53, Nat.le_refl _, by omega, (Fl.rest_start _ _).symm⟩
theorem S3.more {N k : Nat} {r : Bool} {I : Int} (h : S3 N k r I) (h0 : 0 ≤ I) : S3 N k (r || decide (Fl.tb N I.toNat = 1)) (I - 1) := by
  rcases h with ⟨_, _, h⟩ | ⟨h1, j, h2, rfl, rfl⟩
  · omega
  · refine .inr ⟨h1, j - 1, by omega, by omega, ?_⟩
    rw [Fl.rest_step (N := N) (k := k - 53) (j := j - 1) (by omega), show j - 1 + 1 = j by omega, show ((j : Int) - 1).toNat = j - 1 by omega]
theorem S3.top {N k : Nat} {r : Bool} {I : Int} (h : S3 N k r I) (hk : k ≤ 127) : I ≤ 127 := by
  rcases h with ⟨_, _, h⟩ | ⟨h1, j, h2, rfl, rfl⟩ <;> omega
theorem S3.done {N k : Nat} {r : Bool} {I : Int} (h : S3 N k r I) (h0 : ¬ 0 ≤ I) (hk : 53 ≤ k) : r = Fl.rest N (k - 53) 0 := by
  rcases h with ⟨h, _⟩ | ⟨h1, j, h2, rfl, rfl⟩
  · omega
  · obtain rfl : j = 0 := by omega
    rfl
end Go.Proofs.YtdcllcbhepajeaaDoor
