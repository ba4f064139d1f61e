/- LimbNears: the walk. -/
import Derived.Test.YtdcllcbhepajeaaDoorNear
import Derived.Test.YtdcllcbhepajeaaDoorRNear2
import Derived.Test.YtdcllcbhepajeaaDoorLawSums
import Derived.Test.YtdcllcbhepajeaaDoorKin
namespace Go.Proofs.YtdcllcbhepajeaaDoor
open Go.RowKit Go.Proofs
set_option linter.unusedVariables false

theorem bits_near (x : Int) (w : World) :
    Calls Tryd.prog 42 #[.float .f64 (FloatKind.f64.nearest (sv x))] w fun e w' => e = .returned (.int .u64 (nearV x)) ∧ Below w.heap.size w w' := by
  have F := fl_bits2 _ _ (nearV_eq x)
  generalize FloatKind.f64.nearest (sv x) = p at *
  generalize nearV x = v at *
  go_enter Tryd.func42, Tryd.ntmps42
  go_wp2_with (first | simp only [F])
  go_ret
  exact ⟨rfl, Below.refl _ _⟩

theorem limbNears_any (a0 b0 : Int) (w0 : Ws a0 b0) (w : World) (htab : Tab w) :
    Calls Tryd.prog 10 #[.agg #[.int .i64 a0, .int .u64 b0]] w fun e w' =>
      e = .returned (.bool true) ∧ Below w.heap.size w w' := by
  obtain ⟨x, hx⟩ : ∃ x, x = a0 * 18446744073709551616 + b0 := ⟨_, rfl⟩
  obtain ⟨rfl, rfl⟩ : IsL a0 b0 x := hx ▸ isL_ws w0
  clear hx w0
  go_enter Tryd.func10, Tryd.ntmps10
  go_wp2_with fail
  generalize hW : World.alloc _ _ = W
  have hBW : Below w.heap.size w W := by rw [← hW]; exact bl1 (Below.refl _ _)
  have c0 : RCell W w.heap.size (.int .i64 (hi x)) (.int .u64 (lo x)) := by rw [← hW]; exact rcell_new _ _ _ _
  unfold RCell at c0
  clear hW
  have KC := kin_cell W
  refine wp_region_kin_flat (by kernel_rfl) (by kernel_rfl) (by kernel_rfl) ?_
  repeat (go_big_quiet_step (first
    | (go_at_call 43; with_reducible refine quiet_kin (near_any x (isL _) _))
    | (go_at_call 42; with_reducible refine quiet_kin (bits_near x _))
    | (go_at_call 15; with_reducible refine quiet_kin (lof_any x (isL _) _))
    | (go_at_call 44; with_reducible refine quiet_kin (rnear_any x (isR _) _))
    | (go_at_call 25; with_reducible refine quiet_kin (awake_any _ (htab.below (hBW.trans ((below_kin W _).mono hBW.size)))))))
  refine wpQuiet_nil ?_
  clear KC
  intro _ hu_
  obtain ⟨k_, hu_⟩ := hu_
  have hk := below_kin W k_
  rw [← hu_] at hk
  clear hu_ k_
  rename World => u
  have hBf := hBW.trans (hk.mono hBW.size)
  go_wp2_with fail
  go_ret
  exact ⟨rfl, hBf⟩
end Go.Proofs.YtdcllcbhepajeaaDoor
