/- math.Ldexp's small callees at a word that is neither 0 nor out of range. (Lines of XFilter, the orient seat's.) -/
import Derived.Test.YtdcllcbhepajeaaDoorLd
import Derived.Test.YtdcllcbhepajeaaDoorShelf
import Derived.Test.YtdcllcbhepajeaaDoorLimb
import Derived.WalkKit
import Derived.WalkSpells
import Derived.Laws.FloatArith
namespace Go.Proofs.YtdcllcbhepajeaaDoor
open Go.RowKit Go.Proofs
set_option linter.unusedVariables false

theorem fl_gtr {s e : Nat} {p q j : Int} (hs : Fl.FW s p j) (he : Fl.FW e q j) (b : Bool) (hb : b = decide (q < p)) : (FloatKind.f64.format.order s e == some Ordering.gt) = b := by
  show (Ieee.double.order s e == some Ordering.gt) = b
  rw [Fl.FW.order hs he, hb]
  rcases Int.lt_trichotomy p q with h | h | h
  · rw [show compare p q = .lt from Int.compare_eq_lt.2 h, decide_eq_false (by omega)]; rfl
  · rw [show compare p q = .eq from Int.compare_eq_eq.2 h, decide_eq_false (by omega)]; rfl
  · rw [show compare p q = .gt from Int.compare_eq_gt.2 h, decide_eq_true h]; rfl
theorem fl_lss {s e : Nat} {p q j : Int} (hs : Fl.FW s p j) (he : Fl.FW e q j) (b : Bool) (hb : b = decide (p < q)) : (FloatKind.f64.format.order s e == some Ordering.lt) = b := by
  show (Ieee.double.order s e == some Ordering.lt) = b
  rw [Fl.FW.order hs he, hb]
  rcases Int.lt_trichotomy p q with h | h | h
  · rw [show compare p q = .lt from Int.compare_eq_lt.2 h, decide_eq_true h]; rfl
  · rw [show compare p q = .eq from Int.compare_eq_eq.2 h, decide_eq_false (by omega)]; rfl
  · rw [show compare p q = .gt from Int.compare_eq_gt.2 h, decide_eq_false (by omega)]; rfl

theorem u64_low63 (r : Nat) (h : r < 18446744073709551616) : bits .andNot .u64 (r : Int) 9223372036854775808 = ((r % 2 ^ 63 : Nat) : Int) := by
  show IntKind.u64.wrap ((BitVec.ofInt 64 (r : Int) &&& ~~~ BitVec.ofInt 64 9223372036854775808).toNat : Int) = _
  have e : (BitVec.ofInt 64 (r : Int) &&& ~~~ BitVec.ofInt 64 9223372036854775808).toNat = r % 2 ^ 63 := by
    rw [BitVec.toNat_and, show (BitVec.ofInt 64 (r : Int)).toNat = r by simp; omega, show (~~~ BitVec.ofInt 64 9223372036854775808).toNat = 2 ^ 63 - 1 by decide, Nat.and_two_pow_sub_one_eq_mod]
  rw [e, IntKind.wrap_u64]
  omega
theorem fl_bits (r : Nat) (W : World) : (callFunc 57 #[.float .f64 r]).run Tryd.prog W = .ok (.value (.int .u64 r)) W := by kernel_rfl
theorem fl_from (r : Nat) (W : World) : (callFunc 87 #[.int .u64 (r : Int)]).run Tryd.prog W = .ok (.value (.float .f64 r)) W := by kernel_rfl
theorem FW_lt {r : Nat} {n j : Int} (h : Fl.FW r n j) : r < 18446744073709551616 := by
  obtain ⟨s, rung, m, e, rfl, hr, _⟩ := h
  have := Fl.word_parts s rung hr
  unfold Ieee.Format.word
  rw [Fl.double_sign]
  split <;> omega
theorem abs_any {r : Nat} {n j : Int} (h : Fl.FW r n j) (w : World) :
    Calls Tryd.prog 94 #[.float .f64 r] w fun e w' => e = .returned (.float .f64 (r % 2 ^ 63)) ∧ w = w' := by
  have E := u64_low63 r (FW_lt h)
  obtain ⟨q, hq⟩ : ∃ q, q = r % 2 ^ 63 := ⟨_, rfl⟩
  rw [← hq] at E ⊢
  clear hq h
  have F1 := fl_bits r
  have F2 := fl_from q
  go_enter Tryd.func94, Tryd.ntmps94
  go_wp2_with (first | simp only [F1] | simp only [F2])
  go_ret
  exact ⟨rfl, rfl⟩
theorem fl_eql {s e : Nat} {p q j : Int} (hs : Fl.FW s p j) (he : Fl.FW e q j) (b : Bool) (hb : b = decide (p = q)) : (FloatKind.f64.format.order s e == some Ordering.eq) = b := by
  show (Ieee.double.order s e == some Ordering.eq) = b
  rw [Fl.FW.order hs he, hb]
  rcases Int.lt_trichotomy p q with h | h | h
  · rw [show compare p q = .lt from Int.compare_eq_lt.2 h, decide_eq_false (by omega)]; rfl
  · rw [show compare p q = .eq from Int.compare_eq_eq.2 h, decide_eq_true h]; rfl
  · rw [show compare p q = .gt from Int.compare_eq_gt.2 h, decide_eq_false (by omega)]; rfl
theorem isnan_any {r : Nat} {n j : Int} (h : Fl.FW r n j) (w : World) :
    Calls Tryd.prog 83 #[.float .f64 r] w fun e w' => e = .returned (.bool false) ∧ w = w' := by
  have E := fl_eql h h true (by simp)
  go_enter Tryd.func83, Tryd.ntmps83
  go_wp2
  go_ret
  exact ⟨by simpa using E, rfl⟩
theorem fw_tiny : Fl.FW 4503599627370496 1 1022 := by
  refine ⟨false, 4503599627370496, 2 ^ 52, -1074, by decide, by decide, fun t => ?_, 0, 52, by omega, by decide⟩
  have := Fl.read_word t 4503599627370496 (by decide) (by decide)
  rw [this]; rfl
set_option maxRecDepth 100000 in
theorem normalize_any {r : Nat} (h0 : 1075 * 2 ^ 52 ≤ r) (h1 : r < 2046 * 2 ^ 52) (w : World) :
    Calls Tryd.prog 84 #[.float .f64 r] w fun e w' => e = .returned (.tuple #[.float .f64 r, .int .i64 0]) ∧ w = w' := by
  have hw : Ieee.double.word false r = r := by unfold Ieee.Format.word; simp
  have F := Fl.fw_word r h0 (by omega)
  rw [hw] at F
  have A := Lib.hid (fun W => abs_any F W)
  rw [show r % 2 ^ 63 = r by omega] at A
  have hp : 1 ≤ Fl.wn r := by
    unfold Fl.wn
    have : 0 < 2 ^ (r / 2 ^ 52 - 1075) := Nat.two_pow_pos _
    exact Nat.le_trans (by omega) (Nat.le_mul_of_pos_right _ this)
  have L0 := fl_lss (F.scale 1022) (by rw [Int.zero_add]; exact fw_tiny) false (by
    symm
    rw [decide_eq_false_iff_not]
    have : (1 : Int) ≤ 2 ^ 1022 := Int.pow_pos (by decide)
    have : (1 : Int) * 1 ≤ 2 ^ 1022 * (Fl.wn r : Int) := Int.mul_le_mul this (by omega) (by decide) (by omega)
    omega)
  have L : (FloatKind.f64.format.order r 4503599627370496 == some Ordering.lt) = false := L0
  clear L0 F hp hw h0 h1
  go_enter Tryd.func84, Tryd.ntmps84
  have HL := Lib.hid L
  clear L
  go_wp2_with fail
  refine (A.out _).mono ?_
  rintro e w1 ⟨rfl, rfl⟩
  have L := HL.out
  go_wp2_with fail
  go_ret2
  exact ⟨rfl, rfl⟩
end Go.Proofs.YtdcllcbhepajeaaDoor
