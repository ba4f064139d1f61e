/- Package limb's Text: a number's size and its digits. -/
import Derived.Test.YtdcllcbhepajeaaDoorRef1
import Derived.Test.YtdcllcbhepajeaaDoorFmt
import Derived.Test.YtdcllcbhepajeaaDoorDiv
import Derived.Deep.QuietTactic
import Derived.BigQuiet
namespace Go.Proofs.YtdcllcbhepajeaaDoor
open Go.RowKit Go.Proofs
set_option linter.unusedVariables false

/-- a number's size: up to 2^127 -/
def mg (x : Int) : Int := if sv x < 0 then -sv x else sv x
theorem mg_neg {x : Int} (h : hi x < 0) : mg x = -sv x ∧ sv x < 0 := by
  have e := sv_eq x
  have := lo_range x
  unfold mg; rw [if_pos (by omega)]; omega
theorem mg_pos {x : Int} (h : 0 ≤ hi x) : mg x = sv x ∧ 0 ≤ sv x := by
  have e := sv_eq x
  have := lo_range x
  unfold mg; rw [if_neg (by omega)]; omega
theorem mg_range (x : Int) : 0 ≤ mg x ∧ mg x ≤ 170141183460469231731687303715884105728 := by
  unfold mg sv; split <;> omega
theorem sv_mod (x : Int) : sv x % 340282366920938463463374607431768211456 = x % 340282366920938463463374607431768211456 := by unfold sv; omega
theorem mg_hi_neg {x : Int} (h : hi x < 0) : IntKind.u64.wrap (hi (-x)) = mg x / 18446744073709551616 ∧ lo (-x) = mg x % 18446744073709551616 := by
  obtain ⟨e, _⟩ := mg_neg h
  have r := mg_range x
  have m := sv_mod x
  rw [IntKind.wrap_u64, e]; rw [e] at r; unfold hi lo; omega
theorem mg_hi_pos {x : Int} (h : 0 ≤ hi x) : hi x = mg x / 18446744073709551616 ∧ lo x = mg x % 18446744073709551616 := by
  obtain ⟨e, _⟩ := mg_pos h
  have r := mg_range x
  have m := sv_mod x
  rw [e]; rw [e] at r; unfold hi lo at *; unfold sv at *; omega

theorem u64_wrap (n : Int) (h : 0 ≤ n) (h' : n ≤ 18446744073709551615) : IntKind.u64.wrap n = n := by rw [IntKind.wrap_u64]; omega
theorem size_any {ah al : Int} (x : Int) (ha : IsL ah al x) (w : World) :
    Calls Tryd.prog 49 #[.agg #[.int .i64 ah, .int .u64 al]] w fun e w' =>
      e = .returned (.tuple #[.int .u64 (mg x / 18446744073709551616), .int .u64 (mg x % 18446744073709551616)]) ∧ Below w.heap.size w w' := by
  obtain ⟨rfl, rfl⟩ := ha
  obtain ⟨h1, h1'⟩ := hi_range x
  obtain ⟨h3, h3'⟩ := lo_range x
  by_cases h : hi x < 0
  · obtain ⟨e1, e2⟩ := mg_hi_neg h
    have E1 := Lib.hid e1
    have E2 := Lib.hid e2
    clear e1 e2
    go_enter Tryd.func49, Tryd.ntmps49
    go_wp2_with fail
    refine (neg_any x ⟨rfl, rfl⟩ _).mono ?_
    rintro e w1 ⟨rfl, hb⟩
    obtain ⟨hc, hf⟩ := bcell hb
    have hz := sz1 hb
    go_wp2_with fail
    go_quiet (fail)
    go_wp2_with fail
    rw [E1.out, E2.out]
    go_ret2
    exact ⟨rfl, below_drewN (((bl1 hb).setCell (by simp) _).setCell (by simp) _) _⟩
  · obtain ⟨e1, e2⟩ := mg_hi_pos (x := x) (by omega)
    have h0 : 0 ≤ hi x := by omega
    have hw := u64_wrap _ h0 (by omega)
    have E1 := Lib.hid e1
    have E2 := Lib.hid e2
    clear e1 e2 h
    go_enter Tryd.func49, Tryd.ntmps49
    go_wp2_with fail
    go_quiet (fail)
    go_wp2_with fail
    rw [E1.out, E2.out]
    go_ret2
    exact ⟨rfl, below_drewN (bl1 (Below.refl _ _)) _⟩

end Go.Proofs.YtdcllcbhepajeaaDoor
