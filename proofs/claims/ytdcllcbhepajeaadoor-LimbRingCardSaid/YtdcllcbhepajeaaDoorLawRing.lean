/- LimbRing: the walk. -/
import Derived.Test.YtdcllcbhepajeaaDoorLawSums
import Derived.Test.YtdcllcbhepajeaaDoorShl
import Derived.Test.YtdcllcbhepajeaaDoorKin
namespace Go.Proofs.YtdcllcbhepajeaaDoor
open Go.RowKit Go.Proofs
set_option linter.unusedVariables false

theorem shl_one (x n : Int) : x * shlV 1 n = shlV x n := by
  unfold shlV; split
  · rw [Int.one_mul]
  · rw [Int.mul_zero]

set_option maxHeartbeats 16000000 in
set_option maxRecDepth 20000 in
theorem limbRing_any (a0 b0 : Int) (w0 : Ws a0 b0) (a1 b1 : Int) (w1 : Ws a1 b1) (a2 b2 : Int) (w2 : Ws a2 b2) (n : Int) (hn : -9223372036854775808 ≤ n ∧ n ≤ 9223372036854775807) (w : World) (htab : Tab w) :
    Calls Tryd.prog 9 #[.agg #[.int .i64 a0, .int .u64 b0], .agg #[.int .i64 a1, .int .u64 b1], .agg #[.int .i64 a2, .int .u64 b2], .int .i64 n] w fun e w' =>
      e = .returned (.bool true) ∧ Below w.heap.size w w' := by
  obtain ⟨x, hx⟩ : ∃ x, x = a0 * 18446744073709551616 + b0 := ⟨_, rfl⟩
  obtain ⟨y, hy⟩ : ∃ y, y = a1 * 18446744073709551616 + b1 := ⟨_, rfl⟩
  obtain ⟨z, hz⟩ : ∃ z, z = a2 * 18446744073709551616 + b2 := ⟨_, rfl⟩
  obtain ⟨rfl, rfl⟩ : IsL a0 b0 x := hx ▸ isL_ws w0
  obtain ⟨rfl, rfl⟩ : IsL a1 b1 y := hy ▸ isL_ws w1
  obtain ⟨rfl, rfl⟩ : IsL a2 b2 z := hz ▸ isL_ws w2
  obtain ⟨n1, n2⟩ := hn
  clear hx hy hz w0 w1 w2
  have I0 := Lib.hid (show ∀ W : World, Calls Tryd.prog 19 #[.agg #[.int .i64 (hi (x)), .int .u64 (lo (x))], .agg #[.int .i64 (hi (y)), .int .u64 (lo (y))]] W fun e w' => e = .returned (.agg #[.int .i64 (hi (x + y)), .int .u64 (lo (x + y))]) ∧ Below W.heap.size W w' from fun W => by
    have h := add_any (x) (y) (isL _) (isL _) W
    rw [show (x) + (y) = x + y by rfl] at h
    exact h)
  have I1 := Lib.hid (show ∀ W : World, Calls Tryd.prog 19 #[.agg #[.int .i64 (hi (y)), .int .u64 (lo (y))], .agg #[.int .i64 (hi (x)), .int .u64 (lo (x))]] W fun e w' => e = .returned (.agg #[.int .i64 (hi (x + y)), .int .u64 (lo (x + y))]) ∧ Below W.heap.size W w' from fun W => by
    have h := add_any (y) (x) (isL _) (isL _) W
    rw [show (y) + (x) = x + y by grind] at h
    exact h)
  have I2 := Lib.hid (show ∀ W : World, Calls Tryd.prog 19 #[.agg #[.int .i64 (hi (x + y)), .int .u64 (lo (x + y))], .agg #[.int .i64 (hi (z)), .int .u64 (lo (z))]] W fun e w' => e = .returned (.agg #[.int .i64 (hi (x + y + z)), .int .u64 (lo (x + y + z))]) ∧ Below W.heap.size W w' from fun W => by
    have h := add_any (x + y) (z) (isL _) (isL _) W
    rw [show (x + y) + (z) = x + y + z by rfl] at h
    exact h)
  have I3 := Lib.hid (show ∀ W : World, Calls Tryd.prog 19 #[.agg #[.int .i64 (hi (y)), .int .u64 (lo (y))], .agg #[.int .i64 (hi (z)), .int .u64 (lo (z))]] W fun e w' => e = .returned (.agg #[.int .i64 (hi (y + z)), .int .u64 (lo (y + z))]) ∧ Below W.heap.size W w' from fun W => by
    have h := add_any (y) (z) (isL _) (isL _) W
    rw [show (y) + (z) = y + z by rfl] at h
    exact h)
  have I4 := Lib.hid (show ∀ W : World, Calls Tryd.prog 19 #[.agg #[.int .i64 (hi (x)), .int .u64 (lo (x))], .agg #[.int .i64 (hi (y + z)), .int .u64 (lo (y + z))]] W fun e w' => e = .returned (.agg #[.int .i64 (hi (x + y + z)), .int .u64 (lo (x + y + z))]) ∧ Below W.heap.size W w' from fun W => by
    have h := add_any (x) (y + z) (isL _) (isL _) W
    rw [show (x) + (y + z) = x + y + z by grind] at h
    exact h)
  have I5 := Lib.hid (show ∀ W : World, Calls Tryd.prog 19 #[.agg #[.int .i64 (hi (x * y)), .int .u64 (lo (x * y))], .agg #[.int .i64 (hi (x * z)), .int .u64 (lo (x * z))]] W fun e w' => e = .returned (.agg #[.int .i64 (hi (x * (y + z))), .int .u64 (lo (x * (y + z)))]) ∧ Below W.heap.size W w' from fun W => by
    have h := add_any (x * y) (x * z) (isL _) (isL _) W
    rw [show (x * y) + (x * z) = x * (y + z) by grind] at h
    exact h)
  have I6 := Lib.hid (show ∀ W : World, Calls Tryd.prog 19 #[.agg #[.int .i64 (hi (x)), .int .u64 (lo (x))], .agg #[.int .i64 (hi (-y)), .int .u64 (lo (-y))]] W fun e w' => e = .returned (.agg #[.int .i64 (hi (x - y)), .int .u64 (lo (x - y))]) ∧ Below W.heap.size W w' from fun W => by
    have h := add_any (x) (-y) (isL _) (isL _) W
    rw [show (x) + (-y) = x - y by grind] at h
    exact h)
  have I7 := Lib.hid (show ∀ W : World, Calls Tryd.prog 37 #[.agg #[.int .i64 (hi (x)), .int .u64 (lo (x))], .agg #[.int .i64 (hi (y)), .int .u64 (lo (y))]] W fun e w' => e = .returned (.agg #[.int .i64 (hi (x * y)), .int .u64 (lo (x * y))]) ∧ Below W.heap.size W w' from fun W => by
    have h := mul_any (x) (y) (isL _) (isL _) W
    rw [show (x) * (y) = x * y by rfl] at h
    exact h)
  have I8 := Lib.hid (show ∀ W : World, Calls Tryd.prog 37 #[.agg #[.int .i64 (hi (y)), .int .u64 (lo (y))], .agg #[.int .i64 (hi (x)), .int .u64 (lo (x))]] W fun e w' => e = .returned (.agg #[.int .i64 (hi (x * y)), .int .u64 (lo (x * y))]) ∧ Below W.heap.size W w' from fun W => by
    have h := mul_any (y) (x) (isL _) (isL _) W
    rw [show (y) * (x) = x * y by grind] at h
    exact h)
  have I9 := Lib.hid (show ∀ W : World, Calls Tryd.prog 37 #[.agg #[.int .i64 (hi (x * y)), .int .u64 (lo (x * y))], .agg #[.int .i64 (hi (z)), .int .u64 (lo (z))]] W fun e w' => e = .returned (.agg #[.int .i64 (hi (x * y * z)), .int .u64 (lo (x * y * z))]) ∧ Below W.heap.size W w' from fun W => by
    have h := mul_any (x * y) (z) (isL _) (isL _) W
    rw [show (x * y) * (z) = x * y * z by rfl] at h
    exact h)
  have I10 := Lib.hid (show ∀ W : World, Calls Tryd.prog 37 #[.agg #[.int .i64 (hi (y)), .int .u64 (lo (y))], .agg #[.int .i64 (hi (z)), .int .u64 (lo (z))]] W fun e w' => e = .returned (.agg #[.int .i64 (hi (y * z)), .int .u64 (lo (y * z))]) ∧ Below W.heap.size W w' from fun W => by
    have h := mul_any (y) (z) (isL _) (isL _) W
    rw [show (y) * (z) = y * z by rfl] at h
    exact h)
  have I11 := Lib.hid (show ∀ W : World, Calls Tryd.prog 37 #[.agg #[.int .i64 (hi (x)), .int .u64 (lo (x))], .agg #[.int .i64 (hi (y * z)), .int .u64 (lo (y * z))]] W fun e w' => e = .returned (.agg #[.int .i64 (hi (x * y * z)), .int .u64 (lo (x * y * z))]) ∧ Below W.heap.size W w' from fun W => by
    have h := mul_any (x) (y * z) (isL _) (isL _) W
    rw [show (x) * (y * z) = x * y * z by grind] at h
    exact h)
  have I12 := Lib.hid (show ∀ W : World, Calls Tryd.prog 37 #[.agg #[.int .i64 (hi (x)), .int .u64 (lo (x))], .agg #[.int .i64 (hi (y + z)), .int .u64 (lo (y + z))]] W fun e w' => e = .returned (.agg #[.int .i64 (hi (x * (y + z))), .int .u64 (lo (x * (y + z)))]) ∧ Below W.heap.size W w' from fun W => by
    have h := mul_any (x) (y + z) (isL _) (isL _) W
    rw [show (x) * (y + z) = x * (y + z) by rfl] at h
    exact h)
  have I13 := Lib.hid (show ∀ W : World, Calls Tryd.prog 37 #[.agg #[.int .i64 (hi (x)), .int .u64 (lo (x))], .agg #[.int .i64 (hi (z)), .int .u64 (lo (z))]] W fun e w' => e = .returned (.agg #[.int .i64 (hi (x * z)), .int .u64 (lo (x * z))]) ∧ Below W.heap.size W w' from fun W => by
    have h := mul_any (x) (z) (isL _) (isL _) W
    rw [show (x) * (z) = x * z by rfl] at h
    exact h)
  have I14 := Lib.hid (show ∀ W : World, Calls Tryd.prog 37 #[.agg #[.int .i64 (hi (x)), .int .u64 (lo (x))], .agg #[.int .i64 (hi (1)), .int .u64 (lo (1))]] W fun e w' => e = .returned (.agg #[.int .i64 (hi (x)), .int .u64 (lo (x))]) ∧ Below W.heap.size W w' from fun W => by
    have h := mul_any (x) (1) (isL _) (isL _) W
    rw [show (x) * (1) = x by grind] at h
    exact h)
  have I15 := Lib.hid (show ∀ W : World, Calls Tryd.prog 37 #[.agg #[.int .i64 (hi (x)), .int .u64 (lo (x))], .agg #[.int .i64 (hi (shlV 1 n)), .int .u64 (lo (shlV 1 n))]] W fun e w' => e = .returned (.agg #[.int .i64 (hi (shlV x n)), .int .u64 (lo (shlV x n))]) ∧ Below W.heap.size W w' from fun W => by
    have h := mul_any (x) (shlV 1 n) (isL _) (isL _) W
    rw [show (x) * (shlV 1 n) = shlV x n by exact shl_one x n] at h
    exact h)
  have I16 := Lib.hid (show ∀ W : World, Calls Tryd.prog 21 #[.agg #[.int .i64 (hi (x)), .int .u64 (lo (x))], .agg #[.int .i64 (hi (x)), .int .u64 (lo (x))]] W fun e w' => e = .returned (.agg #[.int .i64 (hi (0)), .int .u64 (lo (0))]) ∧ Below W.heap.size W w' from fun W => by
    have h := sub_any (x) (x) (isL _) (isL _) W
    rw [show (x) - (x) = 0 by omega] at h
    exact h)
  have I17 := Lib.hid (show ∀ W : World, Calls Tryd.prog 21 #[.agg #[.int .i64 (hi (x)), .int .u64 (lo (x))], .agg #[.int .i64 (hi (y)), .int .u64 (lo (y))]] W fun e w' => e = .returned (.agg #[.int .i64 (hi (x - y)), .int .u64 (lo (x - y))]) ∧ Below W.heap.size W w' from fun W => by
    have h := sub_any (x) (y) (isL _) (isL _) W
    rw [show (x) - (y) = x - y by rfl] at h
    exact h)
  have I18 := Lib.hid (show ∀ W : World, Calls Tryd.prog 23 #[.agg #[.int .i64 (hi (y)), .int .u64 (lo (y))]] W fun e w' => e = .returned (.agg #[.int .i64 (hi (-y)), .int .u64 (lo (-y))]) ∧ Below W.heap.size W w' from fun W => by
    have h := neg_any (y) (isL _) W
    rw [show -(y) = -y by rfl] at h
    exact h)
  have I19 := Lib.hid (show ∀ W : World, Calls Tryd.prog 23 #[.agg #[.int .i64 (hi (x)), .int .u64 (lo (x))]] W fun e w' => e = .returned (.agg #[.int .i64 (hi (-x)), .int .u64 (lo (-x))]) ∧ Below W.heap.size W w' from fun W => by
    have h := neg_any (x) (isL _) W
    rw [show -(x) = -x by rfl] at h
    exact h)
  have I20 := Lib.hid (show ∀ W : World, Calls Tryd.prog 23 #[.agg #[.int .i64 (hi (-x)), .int .u64 (lo (-x))]] W fun e w' => e = .returned (.agg #[.int .i64 (hi (x)), .int .u64 (lo (x))]) ∧ Below W.heap.size W w' from fun W => by
    have h := neg_any (-x) (isL _) W
    rw [show -(-x) = x by omega] at h
    exact h)
  go_enter Tryd.func9, Tryd.ntmps9
  go_wp2_with fail
  refine (of_any 1 (by decide) (by decide) _).mono ?_
  rintro e u1 ⟨rfl, hn⟩
  have c0 : RCell u1 w.heap.size (.int .i64 (hi x)) (.int .u64 (lo x)) := carry2 ⟨by simp [go_sem], by simp [go_sem], by simp [go_sem], by simp [go_sem], by simp <;> omega⟩ hn
  have c1 : RCell u1 (w.heap.size + 1) (.int .i64 (hi y)) (.int .u64 (lo y)) := carry2 ⟨by simp [go_sem], by simp [go_sem], by simp [go_sem], by simp [go_sem], by simp <;> omega⟩ hn
  have c2 : RCell u1 (w.heap.size + 1 + 1) (.int .i64 (hi z)) (.int .u64 (lo z)) := carry2 ⟨by simp [go_sem], by simp [go_sem], by simp [go_sem], by simp [go_sem], by simp⟩ hn
  have hB := bl3 hn
  clear hn
  go_wp2_with fail
  generalize hW1 : World.alloc _ _ = W1
  have hn : Below u1.heap.size u1 W1 := by rw [← hW1]; exact (Below.refl _ _).alloc (Nat.le_refl _) _
  have c3 : RCell W1 u1.heap.size (.int .i64 (hi 1)) (.int .u64 (lo 1)) := by rw [← hW1]; exact rcell_new _ _ _ _
  replace c0 := c0.mono hn
  replace c1 := c1.mono hn
  replace c2 := c2.mono hn
  replace hB := hB.trans (hn.mono hB.size)
  unfold RCell at c0 c1 c2 c3
  clear hn hW1
  simp only [List.append]
  have KC := kin_cell W1
  refine wp_region_kin_flat (by kernel_rfl) (by kernel_rfl) (by kernel_rfl) ?_
  repeat (go_big_quiet_step (first
    | (go_at_call 17; with_reducible refine quiet_kin (of_any 0 (by decide) (by decide) _))
    | (go_at_call 19; with_reducible refine quiet_kin (I0.out _))
    | (go_at_call 19; with_reducible refine quiet_kin (I1.out _))
    | (go_at_call 19; with_reducible refine quiet_kin (I2.out _))
    | (go_at_call 19; with_reducible refine quiet_kin (I3.out _))
    | (go_at_call 19; with_reducible refine quiet_kin (I4.out _))
    | (go_at_call 19; with_reducible refine quiet_kin (I5.out _))
    | (go_at_call 19; with_reducible refine quiet_kin (I6.out _))
    | (go_at_call 37; with_reducible refine quiet_kin (I7.out _))
    | (go_at_call 37; with_reducible refine quiet_kin (I8.out _))
    | (go_at_call 37; with_reducible refine quiet_kin (I9.out _))
    | (go_at_call 37; with_reducible refine quiet_kin (I10.out _))
    | (go_at_call 37; with_reducible refine quiet_kin (I11.out _))
    | (go_at_call 37; with_reducible refine quiet_kin (I12.out _))
    | (go_at_call 37; with_reducible refine quiet_kin (I13.out _))
    | (go_at_call 37; with_reducible refine quiet_kin (I14.out _))
    | (go_at_call 37; with_reducible refine quiet_kin (I15.out _))
    | (go_at_call 21; with_reducible refine quiet_kin (I16.out _))
    | (go_at_call 21; with_reducible refine quiet_kin (I17.out _))
    | (go_at_call 23; with_reducible refine quiet_kin (I18.out _))
    | (go_at_call 23; with_reducible refine quiet_kin (I19.out _))
    | (go_at_call 23; with_reducible refine quiet_kin (I20.out _))
    | (go_at_call 40; with_reducible refine quiet_kin (shl_any x n (isL _) n1 n2 _))
    | (go_at_call 40; with_reducible refine quiet_kin (shl_any 1 n (isL _) n1 n2 _))
    | (go_at_call 25; with_reducible refine quiet_kin (awake_any _ (htab.below (hB.trans ((below_kin W1 _).mono hB.size)))))))
  refine wpQuiet_nil ?_
  rintro u ⟨k, rfl⟩
  have hBf := hB.trans ((below_kin W1 k).mono hB.size)
  go_wp2_with fail
  go_ret
  exact ⟨rfl, hBf⟩

end Go.Proofs.YtdcllcbhepajeaaDoor
