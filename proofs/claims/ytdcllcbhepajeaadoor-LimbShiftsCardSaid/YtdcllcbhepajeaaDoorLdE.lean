/- math.Ldexp at a float of 2^63 to 2^64 and an exponent of 1 to 64. -/
import Derived.Test.YtdcllcbhepajeaaDoorLdW
import Derived.Test.YtdcllcbhepajeaaDoorPk
namespace Go.Proofs.YtdcllcbhepajeaaDoor
open Go.RowKit Go.Proofs
set_option linter.unusedVariables false

/-- the greatest float -/
theorem fw_max : Fl.FW 9218868437227405311 (Fl.wn 9218868437227405311) 0 := by
  have := Fl.fw_word 9218868437227405311 (by decide) (by decide)
  rwa [show Ieee.double.word false 9218868437227405311 = 9218868437227405311 by decide] at this
theorem wn_lt {r : Nat} (h0 : 1075 * 2 ^ 52 ≤ r) (h1 : r < 2000 * 2 ^ 52) : 1 ≤ Fl.wn r ∧ Fl.wn r < Fl.wn 9218868437227405311 := by
  obtain ⟨k, hk, e⟩ : ∃ k : Nat, k = 971 ∧ Fl.wn 9218868437227405311 = (2 ^ 53 - 1) * 2 ^ k := by
    refine ⟨9218868437227405311 / 2 ^ 52 - 1075, by decide, ?_⟩
    unfold Fl.wn
    rw [show 2 ^ 52 + 9218868437227405311 % 2 ^ 52 = 2 ^ 53 - 1 by decide]
  rw [e]
  unfold Fl.wn
  have hp : 0 < 2 ^ (r / 2 ^ 52 - 1075) := Nat.two_pow_pos _
  have hq : 2 ^ (r / 2 ^ 52 - 1075) ≤ 2 ^ (k - 1) := Nat.pow_le_pow_right (by decide) (by omega)
  have e1 : 2 ^ k = 2 ^ (k - 1) * 2 ^ 1 := Fl.pw (by omega)
  have hr : 0 < 2 ^ (k - 1) := Nat.two_pow_pos _
  rw [e1]
  clear e1 e
  generalize 2 ^ (k - 1) = Y at *
  generalize 2 ^ (r / 2 ^ 52 - 1075) = X at *
  constructor
  · exact Nat.le_trans (by omega) (Nat.le_mul_of_pos_right _ hp)
  · have a : (2 ^ 52 + r % 2 ^ 52) * X ≤ (2 ^ 53 - 1) * Y := Nat.mul_le_mul (by omega) hq
    omega
set_option maxRecDepth 100000 in
theorem isinf_any {r : Nat} (h0 : 1075 * 2 ^ 52 ≤ r) (h1 : r < 2000 * 2 ^ 52) (w : World) :
    Calls Tryd.prog 82 #[.float .f64 r, .int .i64 0] w fun e w' => e = .returned (.bool false) ∧ w = w' := by
  have hw : Ieee.double.word false r = r := by unfold Ieee.Format.word; simp
  have F := Fl.fw_word r h0 (by omega)
  rw [hw] at F
  have A := Lib.hid (fun W => abs_any F W)
  rw [show r % 2 ^ 63 = r by omega] at A
  have hm := wn_lt h0 h1
  have L0 : (FloatKind.f64.format.order r 9218868437227405311 == some Ordering.gt) = false := fl_gtr F fw_max false (by
    symm
    rw [decide_eq_false_iff_not]
    generalize Fl.wn 9218868437227405311 = a at *
    generalize Fl.wn r = b at *
    omega)
  have HL := Lib.hid L0
  clear L0 F hw h0 h1 hm
  go_enter Tryd.func82, Tryd.ntmps82
  go_wp2_with fail
  refine (A.out _).mono ?_
  rintro e w1 ⟨rfl, rfl⟩
  have L := HL.out
  go_wp2_with fail
  go_ret
  exact ⟨rfl, rfl⟩
theorem fw_zero : Fl.FW 0 0 0 := by
  refine ⟨false, 0, 0, -1074, by decide, by decide, fun t => Fl.read_word_zero t, 0, 1074, by omega, ?_⟩
  unfold Fl.sgn
  rw [if_neg (by decide), Int.zero_mul]
  exact Int.zero_mul _
theorem fl_from2 (r : Nat) (T : Int) (h : (r : Int) = T) (W : World) : (callFunc 87 #[.int .u64 T]).run Tryd.prog W = .ok (.value (.float .f64 r)) W := by subst h; exact fl_from r W
theorem fl_bits2 (r : Nat) (T : Int) (h : (r : Int) = T) (W : World) : (callFunc 57 #[.float .f64 r]).run Tryd.prog W = .ok (.value (.int .u64 T)) W := by subst h; exact fl_bits r W
/-- what ldexp asks of the word, put together -/
theorem ld_parts {r : Nat} (S : Int) (h0 : 1086 * 2 ^ 52 ≤ r) (h1 : r ≤ 1087 * 2 ^ 52) (s1 : 1 ≤ S) (s2 : S ≤ 64) : ∃ Q F : Int, (Q = 1086 ∨ Q = 1087) ∧ (r : Int) / 4503599627370496 = Q ∧ bits .andNot .u64 (r : Int) 9218868437227405312 = F ∧ 0 ≤ F ∧ F < 4503599627370496 ∧
    bits .or .u64 F ((Q + S) * 4503599627370496) = ((r + S.toNat * 2 ^ 52 : Nat) : Int) := by
  refine ⟨(r : Int) / 4503599627370496, (r : Int) % 4503599627370496, by omega, rfl, ld_andNot r (by omega), by omega, by omega, ?_⟩
  have h := ld_or (r % 4503599627370496) (r / 4503599627370496 + S.toNat) (by omega) (by omega)
  rw [show (((r / 4503599627370496 + S.toNat : Nat)) : Int) = (r : Int) / 4503599627370496 + S by omega, show ((r % 4503599627370496 : Nat) : Int) = (r : Int) % 4503599627370496 by omega] at h
  rw [h]
  omega
set_option maxRecDepth 100000 in
theorem ldexp_in {r : Nat} (S : Int) (h0 : 1086 * 2 ^ 52 ≤ r) (h1 : r ≤ 1087 * 2 ^ 52) (s1 : 1 ≤ S) (s2 : S ≤ 64) (w : World) :
    Calls Tryd.prog 72 #[.float .f64 r, .int .i64 S] w fun e w' => e = .returned (.float .f64 (r + S.toNat * 2 ^ 52)) ∧ w = w' := by
  have hw : ∀ r, Ieee.double.word false r = r := fun r => by unfold Ieee.Format.word; simp
  have F := Fl.fw_word r (by omega) (by omega)
  rw [hw] at F
  have N := Lib.hid (fun W => isnan_any F W)
  have I := Lib.hid (fun W => isinf_any (r := r) (by omega) (by omega) W)
  have M := Lib.hid (fun W => normalize_any (r := r) (by omega) (by omega) W)
  have Z := Lib.hid (show (FloatKind.f64.format.order r 0 == some Ordering.eq) = false from fl_eql F fw_zero false (by
    have := (wn_lt (r := r) (by omega) (by omega)).1
    symm
    rw [decide_eq_false_iff_not]
    generalize Fl.wn r = b at *
    omega))
  obtain ⟨Q, Fr, hQ, hq, hf, f0, f1, hor⟩ := ld_parts S h0 h1 s1 s2
  obtain ⟨R, hR⟩ : ∃ R : Int, (r : Int) = R := ⟨_, rfl⟩
  have B1 := Lib.hid (fl_bits2 r R hR)
  obtain ⟨t, ht⟩ : ∃ t, t = r + S.toNat * 2 ^ 52 := ⟨_, rfl⟩
  have MU := fun W => run_float_arith (P := Tryd.prog) W .mul 65 .f64 _ _ _ (by have := Fl.one_mul_word t (by omega) (by omega); rw [hw] at this; exact this)
  obtain ⟨T, hT⟩ : ∃ T : Int, (t : Int) = T := ⟨_, rfl⟩
  have B2 := Lib.hid (fl_from2 t T hT)
  rw [← ht, hT] at hor
  rw [← ht]
  rw [hR] at hq hf
  have r0 : 0 ≤ R := by omega
  have r1 : R ≤ 9223372036854775807 := by omega
  have HA := Lib.hid hf
  have HQ := Lib.hid hq
  have MU := Lib.hid MU
  clear hw F hf hq hT ht hR h0 h1
  rcases hQ with rfl | rfl
  case' inl =>
    have HO := Lib.hid (show bits .or .u64 Fr ((S + 63 + 1023) * 4503599627370496) = T by rw [show S + 63 + 1023 = 1086 + S by omega]; exact hor)
    have EA := Lib.hid (show bits .and .i64 1086 2047 = 1086 by decide)
    have EW := Lib.hid (show wrap64 (S + wrap64 (1086 - 1023)) = S + 63 by unfold wrap64; omega)
  case' inr =>
    have HO := Lib.hid (show bits .or .u64 Fr ((S + 64 + 1023) * 4503599627370496) = T by rw [show S + 64 + 1023 = 1087 + S by omega]; exact hor)
    have EA := Lib.hid (show bits .and .i64 1087 2047 = 1087 by decide)
    have EW := Lib.hid (show wrap64 (S + wrap64 (1087 - 1023)) = S + 64 by unfold wrap64; omega)
  all_goals
    clear hor
    go_enter Tryd.func72, Tryd.ntmps72
    have Z1 := Z.out
    go_wp2_with fail
    refine (I.out _).mono ?_
    rintro e w1 ⟨rfl, rfl⟩
    go_wp2_with fail
    refine (N.out _).mono ?_
    rintro e w1 ⟨rfl, rfl⟩
    go_wp2_with fail
    refine (M.out _).mono ?_
    rintro e w1 ⟨rfl, rfl⟩
    have B1o := B1.out
    have HQo := HQ.out
    have EAo := EA.out
    clear HQ EA B1 Z I N M Z1 EW
    go_upto_region 19 with fail
    clear B1o HQo EAo
    have HAo := HA.out
    have HOo := HO.out
    have B2o := B2.out
    have MUo := MU.out
    go_wp2_with (first | simp only [B2o] | simp only [MUo])
    go_ret
    exact ⟨rfl, rfl⟩
end Go.Proofs.YtdcllcbhepajeaaDoor
