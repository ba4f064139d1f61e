/- LimbShifts: the walk. -/
import Derived.Test.YtdcllcbhepajeaaDoorNear
import Derived.Test.YtdcllcbhepajeaaDoorLawSums
import Derived.Test.YtdcllcbhepajeaaDoorShl
import Derived.Test.YtdcllcbhepajeaaDoorKin
import Derived.Deep.DeepCutAuto
namespace Go.Proofs.YtdcllcbhepajeaaDoor
open Go.RowKit Go.Proofs
set_option linter.unusedVariables false

theorem shl_shl (x n m : Int) (n0 : 0 ≤ n) (m0 : 0 ≤ m) : hi (shlV (shlV x n) m) = hi (shlV x (n + m)) ∧ lo (shlV (shlV x n) m) = lo (shlV x (n + m)) := by
  unfold shlV
  by_cases h1 : n ≤ 127
  · by_cases h2 : m ≤ 127
    · rw [if_pos ⟨m0, h2⟩, if_pos ⟨n0, h1⟩, Int.mul_assoc, ← Int.pow_add, show n.toNat + m.toNat = (n + m).toNat by omega]
      by_cases h3 : n + m ≤ 127
      · rw [if_pos (by omega)]; exact ⟨rfl, rfl⟩
      · rw [if_neg (by omega)]
        have e : x * 2 ^ (n + m).toNat = x * 2 ^ ((n + m).toNat - 128) * 340282366920938463463374607431768211456 := by
          rw [show (340282366920938463463374607431768211456 : Int) = 2 ^ 128 by decide, Int.mul_assoc, ← Int.pow_add, show (n + m).toNat - 128 + 128 = (n + m).toNat by omega]
        rw [e]
        generalize x * 2 ^ ((n + m).toNat - 128) = y
        unfold hi lo
        omega
    · rw [if_neg (show ¬ (0 ≤ m ∧ m ≤ 127) by omega), if_neg (show ¬ (0 ≤ n + m ∧ n + m ≤ 127) by omega)]; exact ⟨rfl, rfl⟩
  · rw [if_neg (show ¬ (0 ≤ n ∧ n ≤ 127) by omega), if_neg (show ¬ (0 ≤ n + m ∧ n + m ≤ 127) by omega), Int.zero_mul, ite_self]; exact ⟨rfl, rfl⟩
theorem cmp3_is (x y : Int) : (cmp3 x y = -1 ∧ x < y) ∨ (cmp3 x y = 0 ∧ x = y) ∨ (cmp3 x y = 1 ∧ y < x) := by
  unfold cmp3
  rcases Int.lt_trichotomy x y with h | h | h
  · rw [if_pos h]; omega
  · rw [if_neg (by omega), if_pos h]; omega
  · rw [if_neg (by omega), if_neg (by omega)]; omega
set_option exponentiation.threshold 2000 in
theorem sv_fw (x : Int) : Fl.FW (FloatKind.f64.nearest (sv x)) (Fl.R (sv x)) 0 := by
  refine Fl.FW.ofInt _ ?_
  have h : (sv x).natAbs < 2 ^ 128 := by unfold sv; omega
  exact Nat.lt_of_lt_of_le h (Nat.pow_le_pow_right (by decide) (by decide))
/-- the three comparisons of the nearest floats -/
theorem sv_order (x y : Int) : (cmp3 (sv x) (sv y) = -1 ∧ (((FloatKind.f64.format.order (FloatKind.f64.nearest (sv x)) (FloatKind.f64.nearest (sv y)) == some Ordering.lt) = true) ∨
      ((FloatKind.f64.format.order (FloatKind.f64.nearest (sv x)) (FloatKind.f64.nearest (sv y)) == some Ordering.lt) = false ∧ (FloatKind.f64.format.order (FloatKind.f64.nearest (sv x)) (FloatKind.f64.nearest (sv y)) == some Ordering.eq) = true)))
    ∨ (cmp3 (sv x) (sv y) = 1 ∧ (((FloatKind.f64.format.order (FloatKind.f64.nearest (sv x)) (FloatKind.f64.nearest (sv y)) == some Ordering.gt) = true) ∨
      ((FloatKind.f64.format.order (FloatKind.f64.nearest (sv x)) (FloatKind.f64.nearest (sv y)) == some Ordering.gt) = false ∧ (FloatKind.f64.format.order (FloatKind.f64.nearest (sv x)) (FloatKind.f64.nearest (sv y)) == some Ordering.eq) = true)))
    ∨ (cmp3 (sv x) (sv y) = 0 ∧ (FloatKind.f64.format.order (FloatKind.f64.nearest (sv x)) (FloatKind.f64.nearest (sv y)) == some Ordering.eq) = true) := by
  have fx := sv_fw x
  have fy := sv_fw y
  rcases cmp3_is (sv x) (sv y) with ⟨h, k⟩ | ⟨h, k⟩ | ⟨h, k⟩
  · refine .inl ⟨h, ?_⟩
    have m := Fl.R_mono (Int.le_of_lt k)
    rcases Int.lt_or_eq_of_le m with l | l
    · exact .inl (fl_lss fx fy true (by rw [decide_eq_true l]))
    · exact .inr ⟨fl_lss fx fy false (by rw [decide_eq_false (by omega)]), fl_eql fx fy true (by rw [decide_eq_true l])⟩
  · exact .inr (.inr ⟨h, fl_eql fx fy true (by rw [k]; simp)⟩)
  · refine .inr (.inl ⟨h, ?_⟩)
    have m := Fl.R_mono (Int.le_of_lt k)
    rcases Int.lt_or_eq_of_le m with l | l
    · exact .inl (fl_gtr fx fy true (by rw [decide_eq_true l]))
    · exact .inr ⟨fl_gtr fx fy false (by rw [decide_eq_false (by omega)]), fl_eql fx fy true (by rw [decide_eq_true l.symm])⟩

set_option maxHeartbeats 4000000 in
set_option maxRecDepth 20000 in
theorem limbShifts_any (a0 b0 : Int) (w0 : Ws a0 b0) (a1 b1 : Int) (w1 : Ws a1 b1) (n : Int) (hn : -9223372036854775808 ≤ n ∧ n ≤ 9223372036854775807) (m : Int) (hm : -9223372036854775808 ≤ m ∧ m ≤ 9223372036854775807) (w : World) (htab : Tab w) :
    Calls Tryd.prog 11 #[.agg #[.int .i64 a0, .int .u64 b0], .agg #[.int .i64 a1, .int .u64 b1], .int .i64 n, .int .i64 m] w fun e w' =>
      e = .returned (.bool true) ∧ Below w.heap.size w w' := by
  obtain ⟨x, hx⟩ : ∃ x, x = a0 * 18446744073709551616 + b0 := ⟨_, rfl⟩
  obtain ⟨y, hy⟩ : ∃ y, y = a1 * 18446744073709551616 + b1 := ⟨_, rfl⟩
  obtain ⟨rfl, rfl⟩ : IsL a0 b0 x := hx ▸ isL_ws w0
  obtain ⟨rfl, rfl⟩ : IsL a1 b1 y := hy ▸ isL_ws w1
  obtain ⟨n1, n2⟩ := hn
  obtain ⟨m1, m2⟩ := hm
  clear hx hy w0 w1
  have NX := Lib.hid (fun u => near_any x (isL _) u)
  have NY := Lib.hid (fun u => near_any y (isL _) u)
  have CM := Lib.hid (fun u => cmp_any x y (isL _) (isL _) u)
  have OR := sv_order x y
  generalize FloatKind.f64.nearest (sv x) = p at *
  generalize FloatKind.f64.nearest (sv y) = q at *
  generalize cmp3 (sv x) (sv y) = C at *
  have OR := Lib.hid OR
  go_enter Tryd.func11, Tryd.ntmps11
  go_wp2_with fail
  generalize hW : World.alloc _ _ = W
  have hBW : Below w.heap.size w W := by rw [← hW]; exact bl2 (Below.refl _ _)
  have c0 : RCell W w.heap.size (.int .i64 (hi x)) (.int .u64 (lo x)) := by rw [← hW]; exact ⟨by simp [go_sem], by simp [go_sem], by simp [go_sem], by simp [go_sem], by simp; omega⟩
  have c1 : RCell W (w.heap.size + 1) (.int .i64 (hi y)) (.int .u64 (lo y)) := by rw [← hW]; exact ⟨by simp [go_sem], by simp [go_sem], by simp [go_sem], by simp [go_sem], by simp⟩
  unfold RCell at c0 c1
  clear hW
  have C0 := Lib.hid c0
  have C1 := Lib.hid c1
  go_cut [37] (fun s37 wx => s37 = .bool false ∧ Below W.heap.size W wx)
  case first =>
    by_cases r1 : 0 ≤ n
    · by_cases r2 : 0 ≤ m
      · by_cases r3 : n ≤ 200
        · by_cases r4 : m ≤ 200
          · have SX := Lib.hid (fun u => shl_any x n (isL _) n1 n2 u)
            have SM := Lib.hid (fun u => shl_any (shlV x n) m (isL _) m1 m2 u)
            have SN := Lib.hid (fun u => shl_any x (n + m) (isL _) (by omega) (by omega) u)
            rw [← (shl_shl x n m r1 r2).1, ← (shl_shl x n m r1 r2).2] at SN
            generalize shlV (shlV x n) m = z2 at *
            generalize shlV x n = z1 at *
            have KC := kin_cell W
            refine wp_region_kin_flat (by kernel_rfl) (by kernel_rfl) (by kernel_rfl) ?_
            repeat (go_big_quiet_step (first
              | (go_at_call 40; with_reducible refine quiet_kin (SX.out _))
              | (go_at_call 40; with_reducible refine quiet_kin (SM.out _))
              | (go_at_call 40; with_reducible refine quiet_kin (SN.out _))))
            refine wpQuiet_nil ?_
            clear KC
            intro _ hu_
            obtain ⟨k_, hu_⟩ := hu_
            have hk := below_kin W k_
            rw [← hu_] at hk
            clear hu_ k_
            rename World => u
            go_wp2_with fail
            go_meet
            exact ⟨rfl, hk⟩
          · have e : decide (m ≤ 200) = false := by simpa using r4
            have KC := kin_cell W
            refine wp_region_kin_flat (by kernel_rfl) (by kernel_rfl) (by kernel_rfl) ?_
            repeat (go_big_quiet_step (fail))
            refine wpQuiet_nil ?_
            clear KC
            intro _ hu_
            obtain ⟨k_, hu_⟩ := hu_
            have hk := below_kin W k_
            rw [← hu_] at hk
            clear hu_ k_
            rename World => u
            go_wp2_with fail
            go_meet
            exact ⟨rfl, hk⟩
        · have e : decide (n ≤ 200) = false := by simpa using r3
          have KC := kin_cell W
          refine wp_region_kin_flat (by kernel_rfl) (by kernel_rfl) (by kernel_rfl) ?_
          repeat (go_big_quiet_step (fail))
          refine wpQuiet_nil ?_
          clear KC
          intro _ hu_
          obtain ⟨k_, hu_⟩ := hu_
          have hk := below_kin W k_
          rw [← hu_] at hk
          clear hu_ k_
          rename World => u
          go_wp2_with fail
          go_meet
          exact ⟨rfl, hk⟩
      · have e : decide (0 ≤ m) = false := by simpa using r2
        have KC := kin_cell W
        refine wp_region_kin_flat (by kernel_rfl) (by kernel_rfl) (by kernel_rfl) ?_
        repeat (go_big_quiet_step (fail))
        refine wpQuiet_nil ?_
        clear KC
        intro _ hu_
        obtain ⟨k_, hu_⟩ := hu_
        have hk := below_kin W k_
        rw [← hu_] at hk
        clear hu_ k_
        rename World => u
        go_wp2_with fail
        go_meet
        exact ⟨rfl, hk⟩
    · have e : decide (0 ≤ n) = false := by simpa using r1
      have KC := kin_cell W
      refine wp_region_kin_flat (by kernel_rfl) (by kernel_rfl) (by kernel_rfl) ?_
      repeat (go_big_quiet_step (fail))
      refine wpQuiet_nil ?_
      clear KC
      intro _ hu_
      obtain ⟨k_, hu_⟩ := hu_
      have hk := below_kin W k_
      rw [← hu_] at hk
      clear hu_ k_
      rename World => u
      go_wp2_with fail
      go_meet
      exact ⟨rfl, hk⟩
  case rest =>
    obtain ⟨rfl, hB1⟩ := hcut
    replace c0 := carry2 C0.out hB1
    replace c1 := carry2 C1.out hB1
    have hB := hBW.trans (hB1.mono hBW.size)
    clear hB1 C0 C1 hBW
    obtain ⟨W1, rfl⟩ : ∃ W1 : World, W1 = wc := ⟨_, rfl⟩
    go_upto_region 3 with fail
    have KC := kin_cell W1
    refine wp_region_kin_flat (by kernel_rfl) (by kernel_rfl) (by kernel_rfl) ?_
    repeat (go_big_quiet_step (first
      | (go_at_call 43; with_reducible refine quiet_kin (NX.out _))
      | (go_at_call 43; with_reducible refine quiet_kin (NY.out _))))
    refine wpQuiet_nil ?_
    clear KC
    intro _ hu_
    obtain ⟨k_, hu_⟩ := hu_
    have hk := below_kin W1 k_
    rw [← hu_] at hk
    clear hu_ k_
    rename World => u
    replace c0 := carry2 c0 hk
    replace c1 := carry2 c1 hk
    replace hB := hB.trans (hk.mono hB.size)
    clear hk
    go_wp2_with fail
    refine (CM.out _).mono ?_
    rintro e u1 ⟨rfl, hn⟩
    replace hB := hB.trans (hn.mono hB.size)
    clear hn c0 c1 NX NY CM
    rcases OR.out with ⟨rfl, l | ⟨l, k⟩⟩ | ⟨rfl, l | ⟨l, k⟩⟩ | ⟨rfl, l⟩
    all_goals
      clear OR
      go_wp2_with fail
      refine (awake_any _ (htab.below hB)).mono ?_
      rintro e u2 ⟨rfl, hn⟩
      replace hB := hB.trans (hn.mono hB.size)
      clear hn
      go_wp2_with fail
      go_ret
      exact ⟨rfl, hB⟩
end Go.Proofs.YtdcllcbhepajeaaDoor
