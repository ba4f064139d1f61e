/- math/bits.Div64 by 10^19: the quotient and the rest of two words. -/
import Derived.Test.YtdcllcbhepajeaaDoorLp
import Derived.Test.YtdcllcbhepajeaaDoorRows
import Derived.Test.YtdcllcbhepajeaaDoorShelf
import Derived.WalkSpells
import Derived.WalkLawsBesides
import Derived.Lib.Hide
import Derived.Laws.BitsAllLaws
import Derived.Deep.QuietTactic
import Derived.BigQuiet
import Derived.Deep.DeepCutAuto
namespace Go.Proofs.YtdcllcbhepajeaaDoor
open Go.RowKit Go.Proofs
set_option linter.unusedVariables false

theorem div_zero (lo : Int) (h3 : 0 ≤ lo) (h3' : lo ≤ 18446744073709551615) (w : World) :
    Calls Tryd.prog 50 #[.int .u64 0, .int .u64 lo, .int .u64 10000000000000000000] w fun e w' =>
      e = .returned (.tuple #[.int .u64 (lo / 10000000000000000000), .int .u64 (lo % 10000000000000000000)]) ∧ Below w.heap.size w w' := by
  go_enter Tryd.func50, Tryd.ntmps50
  go_wp2_with fail
  go_quiet (fail)
  go_wp2_with fail
  go_ret2
  exact ⟨rfl, below_drewN (Below.refl _ _) _⟩

theorem lz_ten (w : World) : Calls Tryd.prog 63 #[.int .u64 10000000000000000000] w fun e w' => e = .returned (.int .i64 0) ∧ w = w' := by
  refine (Tryd.bits_LeadingZeros64 10000000000000000000 w (by omega) (by omega)).mono ?_
  rintro e w' ⟨rfl, rfl⟩
  refine ⟨?_, rfl⟩
  have : Lib.bitLen (10000000000000000000 : Int).toNat = 64 := by decide
  rw [this]
  rfl

theorem u64_and32 (n : Int) (h : 0 ≤ n) (h' : n ≤ 18446744073709551615) : bits .and .u64 n 4294967295 = n % 4294967296 := by
  obtain ⟨x, rfl⟩ := Int.eq_ofNat_of_zero_le h
  have e : ((4294967295 : Nat) : Int) = 4294967295 := rfl
  rw [← e, u64_and_nat x 4294967295 (by omega) (by omega)]
  have h2 : (4294967295 : Nat) = 2 ^ 32 - 1 := by decide
  rw [h2, Nat.and_two_pow_sub_one_eq_mod]
  omega
theorem u64_or0 (n : Int) (h : 0 ≤ n) (h' : n ≤ 18446744073709551615) : bits .or .u64 n 0 = n := by
  obtain ⟨x, rfl⟩ := Int.eq_ofNat_of_zero_le h
  have e : ((0 : Nat) : Int) = 0 := rfl
  rw [← e, u64_or_nat x 0 (by omega) (by omega)]
  simp

/-- what stands of a first guess q with its rest r, for the quotient of X = un * 2^32 + u by 10^19 -/
def Guess (un u q r : Int) : Prop := q * 2328306436 + r = un ∧ (un * 4294967296 + u) / 10000000000000000000 ≤ q ∧ q ≤ 4294967300 ∧ 0 ≤ q ∧ 0 ≤ r ∧ r < 4294967296
theorem guess_first (un u : Int) (h : 0 ≤ un) (h' : un < 10000000000000000000) (hu : 0 ≤ u) (hu' : u < 4294967296) : Guess un u (un / 2328306436) (un - un / 2328306436 * 2328306436) := by
  unfold Guess; omega
/-- the test says no: the guess is right -/
theorem guess_end {un u q r : Int} (hu : 0 ≤ u) (hu' : u < 4294967296) (h : Guess un u q r) (h2 : q < 4294967296) (h3 : q * 2313682944 ≤ 4294967296 * r + u) : q = (un * 4294967296 + u) / 10000000000000000000 := by
  unfold Guess at h; omega
/-- the test says yes: one less -/
theorem guess_less {un u q r : Int} (hun : 0 ≤ un) (hun' : un < 10000000000000000000) (hu : 0 ≤ u) (hu' : u < 4294967296) (h : Guess un u q r) (h2 : 4294967296 ≤ q ∨ 4294967296 * r + u < q * 2313682944) (h4 : r + 2328306436 < 4294967296) : Guess un u (q - 1) (r + 2328306436) := by
  unfold Guess at *; omega
/-- .. and the rest has grown out of 32 bits: it is right -/
theorem guess_break {un u q r : Int} (hun : 0 ≤ un) (hun' : un < 10000000000000000000) (hu : 0 ≤ u) (hu' : u < 4294967296) (h : Guess un u q r) (h2 : 4294967296 ≤ q ∨ 4294967296 * r + u < q * 2313682944) (h4 : 4294967296 ≤ r + 2328306436) : q - 1 = (un * 4294967296 + u) / 10000000000000000000 := by
  unfold Guess at *; omega

set_option maxHeartbeats 1000000 in
theorem div_ten (hi u1 u0 : Int) (h1 : 1 ≤ hi) (h1' : hi < 10000000000000000000) (a1 : 0 ≤ u1) (a1' : u1 < 4294967296) (a0 : 0 ≤ u0) (a0' : u0 < 4294967296) (w : World) :
    Calls Tryd.prog 50 #[.int .u64 hi, .int .u64 (u1 * 4294967296 + u0), .int .u64 10000000000000000000] w fun e w' =>
      e = .returned (.tuple #[.int .u64 ((hi * 18446744073709551616 + (u1 * 4294967296 + u0)) / 10000000000000000000), .int .u64 ((hi * 18446744073709551616 + (u1 * 4294967296 + u0)) % 10000000000000000000)]) ∧ w = w' := by
  have hz : (hi == 0) = false := by simp; omega
  have hle : decide ((10000000000000000000 : Int) ≤ hi) = false := by simp; omega
  have e1 : bits .and .u64 10000000000000000000 4294967295 = 2313682944 := by decide
  have e2 : (u1 * 4294967296 + u0) / 18446744073709551616 = 0 := by omega
  have e3 := u64_or0 hi (by omega) (by omega)
  have e4 : bits .and .u64 (u1 * 4294967296 + u0) 4294967295 = u0 := by rw [u64_and32 _ (by omega) (by omega)]; omega
  have e5 : (u1 * 4294967296 + u0) / 4294967296 = u1 := by omega
  go_enter Tryd.func50, Tryd.ntmps50
  go_upto_block 0 with (go_at_call 63; refine (lz_ten _).mono ?_; rintro e w1 ⟨rfl, rfl⟩)
  clear hz hle e1 e2 e3 e4 e5
  obtain ⟨Q, hQ⟩ : ∃ Q, Q = (hi * 4294967296 + u1) / 10000000000000000000 := ⟨_, rfl⟩
  have HQ := Lib.hid hQ
  clear hQ
  go_cut [15, 16] (fun s15 _ wx => s15 = .int .u64 Q ∧ wx = w)
  case first =>
    go_wp2_with fail
    go_loop [15, 16] (fun a b => ∃ q r : Int, a = .int .u64 q ∧ b = .int .u64 r ∧ Guess hi u1 q r) (fun a _ => (intOf a).toNat)
    case atStart => exact ⟨_, _, rfl, rfl, guess_first hi u1 (by omega) h1' a1 a1'⟩
    case round =>
      obtain ⟨q, r, rfl, rfl, hg⟩ := hrel
      have HG := Lib.hid hg
      obtain ⟨_, _, g3, g4, g5, g6⟩ := hg
      by_cases c1 : 4294967296 ≤ q
      · by_cases c3 : 4294967296 ≤ r + 2328306436
        · have HE := Lib.hid ((guess_break (by omega) h1' a1 a1' HG.out (.inl c1) c3).trans HQ.out.symm)
          go_wp2_with fail
          go_meet
          exact ⟨by rw [HE.out], rfl⟩
        · have HN := Lib.hid (guess_less (by omega) h1' a1 a1' HG.out (.inl c1) (by omega))
          go_wp2_with fail
          go_round
          case rel => exact ⟨_, _, rfl, rfl, HN.out⟩
          case measure => simp [intOf]; omega
      · by_cases c2 : 4294967296 * r + u1 < q * 2313682944
        · by_cases c3 : 4294967296 ≤ r + 2328306436
          · have HE := Lib.hid ((guess_break (by omega) h1' a1 a1' HG.out (.inr c2) c3).trans HQ.out.symm)
            have q1 : 1 ≤ q := by omega
            go_wp2_with fail
            go_meet
            exact ⟨by rw [HE.out], rfl⟩
          · have HN := Lib.hid (guess_less (by omega) h1' a1 a1' HG.out (.inr c2) (by omega))
            have q1 : 1 ≤ q := by omega
            go_wp2_with fail
            go_round
            case rel => exact ⟨_, _, rfl, rfl, HN.out⟩
            case measure => simp [intOf]; omega
        · have HE := Lib.hid ((guess_end a1 a1' HG.out (by omega) (by omega)).trans HQ.out.symm)
          go_wp2_with fail
          go_meet
          exact ⟨by rw [HE.out], rfl⟩
  case rest =>
    obtain ⟨rfl, rfl⟩ := hcut
    obtain ⟨U, hU⟩ : ∃ U, U = hi * 4294967296 + u1 - Q * 10000000000000000000 := ⟨_, rfl⟩
    have hQ := HQ.out
    have U0 : 0 ≤ U := by omega
    have U1 : U < 10000000000000000000 := by omega
    have e6 : IntKind.u64.wrap (IntKind.u64.wrap (IntKind.u64.wrap (hi * 4294967296) + u1) - IntKind.u64.wrap (Q * 10000000000000000000)) = U := by simp only [IntKind.wrap_u64]; omega
    have HU := Lib.hid hU
    clear hQ hU
    go_upto_block 2 with fail
    clear e6
    obtain ⟨Q2, hQ2⟩ : ∃ Q2, Q2 = (U * 4294967296 + u0) / 10000000000000000000 := ⟨_, rfl⟩
    have HQ2 := Lib.hid hQ2
    clear hQ2
    go_cut [18, 16] (fun s18 _ wx => s18 = .int .u64 Q2 ∧ wx = wc)
    case first =>
      go_wp2_with fail
      go_loop [18, 16] (fun a b => ∃ q r : Int, a = .int .u64 q ∧ b = .int .u64 r ∧ Guess U u0 q r) (fun a _ => (intOf a).toNat)
      case atStart => exact ⟨_, _, rfl, rfl, guess_first U u0 U0 U1 a0 a0'⟩
      case round =>
        obtain ⟨q, r, rfl, rfl, hg⟩ := hrel
        have HG := Lib.hid hg
        obtain ⟨_, _, g3, g4, g5, g6⟩ := hg
        by_cases c1 : 4294967296 ≤ q
        · by_cases c3 : 4294967296 ≤ r + 2328306436
          · have HE := Lib.hid ((guess_break U0 U1 a0 a0' HG.out (.inl c1) c3).trans HQ2.out.symm)
            go_wp2_with fail
            go_meet
            exact ⟨by rw [HE.out], rfl⟩
          · have HN := Lib.hid (guess_less U0 U1 a0 a0' HG.out (.inl c1) (by omega))
            go_wp2_with fail
            go_round
            case rel => exact ⟨_, _, rfl, rfl, HN.out⟩
            case measure => simp [intOf]; omega
        · by_cases c2 : 4294967296 * r + u0 < q * 2313682944
          · by_cases c3 : 4294967296 ≤ r + 2328306436
            · have HE := Lib.hid ((guess_break U0 U1 a0 a0' HG.out (.inr c2) c3).trans HQ2.out.symm)
              have q1 : 1 ≤ q := by omega
              go_wp2_with fail
              go_meet
              exact ⟨by rw [HE.out], rfl⟩
            · have HN := Lib.hid (guess_less U0 U1 a0 a0' HG.out (.inr c2) (by omega))
              have q1 : 1 ≤ q := by omega
              go_wp2_with fail
              go_round
              case rel => exact ⟨_, _, rfl, rfl, HN.out⟩
              case measure => simp [intOf]; omega
          · have HE := Lib.hid ((guess_end a0 a0' HG.out (by omega) (by omega)).trans HQ2.out.symm)
            go_wp2_with fail
            go_meet
            exact ⟨by rw [HE.out], rfl⟩
    case rest =>
      obtain ⟨rfl, rfl⟩ := hcut
      have hQ := HQ.out
      have hQ2 := HQ2.out
      have hU := HU.out
      have f1 : Q * 4294967296 + Q2 = (hi * 18446744073709551616 + (u1 * 4294967296 + u0)) / 10000000000000000000 := by omega
      have f2 : IntKind.u64.wrap (IntKind.u64.wrap (IntKind.u64.wrap (U * 4294967296) + u0) - IntKind.u64.wrap (Q2 * 10000000000000000000)) = (hi * 18446744073709551616 + (u1 * 4294967296 + u0)) % 10000000000000000000 := by simp only [IntKind.wrap_u64]; omega
      have b1 : 0 ≤ Q := by omega
      have b2 : Q ≤ 4294967295 := by omega
      have b3 : 0 ≤ Q2 := by omega
      have b4 : Q2 ≤ 4294967295 := by omega
      have F1 := Lib.hid f1
      have F2 := Lib.hid f2
      clear hQ hQ2 hU f1 f2
      go_wp2
      rw [F1.out, F2.out]
      go_ret2
      exact ⟨rfl, rfl⟩

end Go.Proofs.YtdcllcbhepajeaaDoor
