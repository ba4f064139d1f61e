/- LimbOrder: the walk. -/
import Derived.Test.YtdcllcbhepajeaaDoorLawSums
import Derived.Test.YtdcllcbhepajeaaDoorBack
import Derived.Test.YtdcllcbhepajeaaDoorKin
import Derived.Deep.DeepCutAuto
namespace Go.Proofs.YtdcllcbhepajeaaDoor
open Go.RowKit Go.Proofs
set_option linter.unusedVariables false

theorem cmp3_cases (x y : Int) : (cmp3 x y = -1 ∧ x < y) ∨ (cmp3 x y = 0 ∧ x = y) ∨ (cmp3 x y = 1 ∧ y < x) := by
  unfold cmp3
  rcases Int.lt_trichotomy x y with h | h | h
  · rw [if_pos h]; omega
  · rw [if_neg (by omega), if_pos h]; omega
  · rw [if_neg (by omega), if_neg (by omega)]; omega
theorem cmp3_neg (x y : Int) : cmp3 y x = - cmp3 x y := by
  rcases cmp3_cases x y with ⟨h1, h2⟩ | ⟨h1, h2⟩ | ⟨h1, h2⟩ <;> rcases cmp3_cases y x with ⟨k1, k2⟩ | ⟨k1, k2⟩ | ⟨k1, k2⟩ <;> omega
/-- an order that goes with the sign of the difference -/
theorem cmp_diff (x y : Int) (h1 : -2305843009213693952 ≤ hi x) (h2 : hi x < 2305843009213693952) (h3 : -2305843009213693952 ≤ hi y) (h4 : hi y < 2305843009213693952) : sg (sv (x - y)) = cmp3 (sv x) (sv y) := by
  have e : sv (x - y) = sv x - sv y := by
    have a := sv_eq x; have b := sv_eq y; have := lo_range x; have := lo_range y
    have m : sv (x - y) = sv (sv x - sv y) := by unfold sv; omega
    rw [m]; unfold sv at *; omega
  rw [e]
  unfold sg
  rcases cmp3_cases (sv x) (sv y) with ⟨k1, k2⟩ | ⟨k1, k2⟩ | ⟨k1, k2⟩ <;> rcases cmp3_cases (sv x - sv y) 0 with ⟨l1, l2⟩ | ⟨l1, l2⟩ | ⟨l1, l2⟩ <;> omega
theorem fit_of (n : Int) (h1 : -9223372036854775808 ≤ n) (h2 : n ≤ 9223372036854775807) : fitV n = n ∧ decide (isInt n) = true := by
  have e : sv n = n := sv_small (by omega) (by omega)
  have : isInt n := by unfold isInt; omega
  unfold fitV
  rw [if_pos this, e]
  exact ⟨rfl, by simpa using this⟩
theorem prod_sign (n m : Int) (h1 : -9223372036854775808 ≤ n) (h2 : n ≤ 9223372036854775807) (h3 : -9223372036854775808 ≤ m) (h4 : m ≤ 9223372036854775807) : sv (n * m) = n * m := by
  have h : (n * m).natAbs ≤ 9223372036854775808 * 9223372036854775808 := by
    rw [Int.natAbs_mul]; exact Nat.mul_le_mul (by omega) (by omega)
  exact sv_small (by omega) (by omega)

set_option maxHeartbeats 4000000 in
set_option maxRecDepth 20000 in
theorem limbOrder_any (a0 b0 : Int) (w0 : Ws a0 b0) (a1 b1 : Int) (w1 : Ws a1 b1) (n : Int) (hn : -9223372036854775808 ≤ n ∧ n ≤ 9223372036854775807) (m : Int) (hm : -9223372036854775808 ≤ m ∧ m ≤ 9223372036854775807) (w : World) (htab : Tab w) :
    Calls Tryd.prog 7 #[.agg #[.int .i64 a0, .int .u64 b0], .agg #[.int .i64 a1, .int .u64 b1], .int .i64 n, .int .i64 m] w fun e w' =>
      e = .returned (.bool true) ∧ Below w.heap.size w w' := by
  obtain ⟨x, hx⟩ : ∃ x, x = a0 * 18446744073709551616 + b0 := ⟨_, rfl⟩
  obtain ⟨y, hy⟩ : ∃ y, y = a1 * 18446744073709551616 + b1 := ⟨_, rfl⟩
  obtain ⟨rfl, rfl⟩ : IsL a0 b0 x := hx ▸ isL_ws w0
  obtain ⟨rfl, rfl⟩ : IsL a1 b1 y := hy ▸ isL_ws w1
  obtain ⟨n1, n2⟩ := hn
  obtain ⟨m1, m2⟩ := hm
  clear hx hy w0 w1
  go_enter Tryd.func7, Tryd.ntmps7
  go_wp2_with fail
  refine (text_any x (isL _) _ ((htab.alloc _).alloc _)).mono ?_
  rintro e u1 ⟨rfl, hn⟩
  have c0 : RCell u1 w.heap.size (.int .i64 (hi x)) (.int .u64 (lo x)) := carry2 ⟨by simp [go_sem], by simp [go_sem], by simp [go_sem], by simp [go_sem], by simp; omega⟩ hn
  have c1 : RCell u1 (w.heap.size + 1) (.int .i64 (hi y)) (.int .u64 (lo y)) := carry2 ⟨by simp [go_sem], by simp [go_sem], by simp [go_sem], by simp [go_sem], by simp⟩ hn
  have hB := bl2 hn
  clear hn
  go_wp2_with fail
  refine (parse_text x _ (htab.below hB)).mono ?_
  rintro e u2 ⟨rfl, hn⟩
  replace c0 := carry2 c0 hn
  replace c1 := carry2 c1 hn
  replace hB := hB.trans (hn.mono hB.size)
  clear hn
  unfold RCell at c0 c1
  go_upto_region 4 with fail
  generalize hW : World.alloc _ _ = W
  have hn : Below u2.heap.size u2 W := by rw [← hW]; exact (Below.refl _ _).alloc (Nat.le_refl _) _
  replace c0 := carry2 c0 hn
  replace c1 := carry2 c1 hn
  replace hB := hB.trans (hn.mono hB.size)
  clear hn hW
  have C0 := Lib.hid c0
  have C1 := Lib.hid c1
  go_cut [45] (fun s45 wx => s45 = .bool false ∧ Below W.heap.size W wx)
  case first =>
    rcases cmp3_cases (sv x) (sv y) with ⟨k1, k2⟩ | ⟨k1, k2⟩ | ⟨k1, k2⟩
    · have CX := Lib.hid (fun u => cmp_any x y (isL _) (isL _) u)
      have CY := Lib.hid (fun u => cmp_any y x (isL _) (isL _) u)
      rw [cmp3_neg (sv x) (sv y), k1, show -((-1) : Int) = 1 from rfl] at CY
      rw [k1] at CX
      have e1 : ¬ (hi x = hi y ∧ lo x = lo y) := fun h => by have := (sv_inj x y).2 h; omega
      by_cases h : hi x = hi y
      · have q1 : (hi x == hi y) = true := by simpa using h
        have q2 : (lo x == lo y) = false := by simpa using fun h2 => e1 ⟨h, h2⟩
        clear k1 k2 e1 h
        have KC := kin_cell W
        refine wp_region_kin_flat (by kernel_rfl) (by kernel_rfl) (by kernel_rfl) ?_
        repeat (go_big_quiet_step (first
          | (go_at_call 28; with_reducible refine quiet_kin (CX.out _))
          | (go_at_call 28; with_reducible refine quiet_kin (CY.out _))))
        refine wpQuiet_nil ?_
        clear KC
        intro _ hu_
        obtain ⟨k_, hu_⟩ := hu_
        have hk := below_kin W k_
        rw [← hu_] at hk
        clear hu_ k_
        rename World => u
        go_wp2_with fail
        go_meet
        exact ⟨rfl, hk⟩
      · have q1 : (hi x == hi y) = false := by simpa using h
        clear k1 k2 e1 h
        have KC := kin_cell W
        refine wp_region_kin_flat (by kernel_rfl) (by kernel_rfl) (by kernel_rfl) ?_
        repeat (go_big_quiet_step (first
          | (go_at_call 28; with_reducible refine quiet_kin (CX.out _))
          | (go_at_call 28; with_reducible refine quiet_kin (CY.out _))))
        refine wpQuiet_nil ?_
        clear KC
        intro _ hu_
        obtain ⟨k_, hu_⟩ := hu_
        have hk := below_kin W k_
        rw [← hu_] at hk
        clear hu_ k_
        rename World => u
        go_wp2_with fail
        go_meet
        exact ⟨rfl, hk⟩
    · have CX := Lib.hid (fun u => cmp_any x y (isL _) (isL _) u)
      have CY := Lib.hid (fun u => cmp_any y x (isL _) (isL _) u)
      rw [cmp3_neg (sv x) (sv y), k1, show -((0) : Int) = 0 from rfl] at CY
      rw [k1] at CX
      obtain ⟨e1, e2⟩ := (sv_inj x y).1 k2
      rw [← e1, ← e2] at CX CY c1
      clear k1 k2 e1 e2
      have KC := kin_cell W
      refine wp_region_kin_flat (by kernel_rfl) (by kernel_rfl) (by kernel_rfl) ?_
      repeat (go_big_quiet_step (first
        | (go_at_call 28; with_reducible refine quiet_kin (CX.out _))
        | (go_at_call 28; with_reducible refine quiet_kin (CY.out _))))
      refine wpQuiet_nil ?_
      clear KC
      intro _ hu_
      obtain ⟨k_, hu_⟩ := hu_
      have hk := below_kin W k_
      rw [← hu_] at hk
      clear hu_ k_
      rename World => u
      go_wp2_with fail
      go_meet
      exact ⟨rfl, hk⟩
    · have CX := Lib.hid (fun u => cmp_any x y (isL _) (isL _) u)
      have CY := Lib.hid (fun u => cmp_any y x (isL _) (isL _) u)
      rw [cmp3_neg (sv x) (sv y), k1, show -((1) : Int) = -1 from rfl] at CY
      rw [k1] at CX
      have e1 : ¬ (hi x = hi y ∧ lo x = lo y) := fun h => by have := (sv_inj x y).2 h; omega
      by_cases h : hi x = hi y
      · have q1 : (hi x == hi y) = true := by simpa using h
        have q2 : (lo x == lo y) = false := by simpa using fun h2 => e1 ⟨h, h2⟩
        clear k1 k2 e1 h
        have KC := kin_cell W
        refine wp_region_kin_flat (by kernel_rfl) (by kernel_rfl) (by kernel_rfl) ?_
        repeat (go_big_quiet_step (first
          | (go_at_call 28; with_reducible refine quiet_kin (CX.out _))
          | (go_at_call 28; with_reducible refine quiet_kin (CY.out _))))
        refine wpQuiet_nil ?_
        clear KC
        intro _ hu_
        obtain ⟨k_, hu_⟩ := hu_
        have hk := below_kin W k_
        rw [← hu_] at hk
        clear hu_ k_
        rename World => u
        go_wp2_with fail
        go_meet
        exact ⟨rfl, hk⟩
      · have q1 : (hi x == hi y) = false := by simpa using h
        clear k1 k2 e1 h
        have KC := kin_cell W
        refine wp_region_kin_flat (by kernel_rfl) (by kernel_rfl) (by kernel_rfl) ?_
        repeat (go_big_quiet_step (first
          | (go_at_call 28; with_reducible refine quiet_kin (CX.out _))
          | (go_at_call 28; with_reducible refine quiet_kin (CY.out _))))
        refine wpQuiet_nil ?_
        clear KC
        intro _ hu_
        obtain ⟨k_, hu_⟩ := hu_
        have hk := below_kin W k_
        rw [← hu_] at hk
        clear hu_ k_
        rename World => u
        go_wp2_with fail
        go_meet
        exact ⟨rfl, hk⟩
  case rest =>
    obtain ⟨rfl, hB1⟩ := hcut
    replace c0 := carry2 C0.out hB1
    replace c1 := carry2 C1.out hB1
    replace hB := hB.trans (hB1.mono hB.size)
    clear hB1 C0 C1
    obtain ⟨W1, rfl⟩ : ∃ W1 : World, W1 = wc := ⟨_, rfl⟩
    go_upto_region 6 with fail
    go_cut [73] (fun s73 wx => s73 = .bool false ∧ Below W1.heap.size W1 wx)
    case first =>
      have CX := Lib.hid (fun u => cmp_any x y (isL _) (isL _) u)
      have SB := Lib.hid (fun u => sub_any x y (isL _) (isL _) u)
      have SG := Lib.hid (fun u => sign_any (x - y) (isL _) u)
      obtain ⟨C, hC⟩ : ∃ C, C = cmp3 (sv x) (sv y) := ⟨_, rfl⟩
      rw [← hC] at CX
      by_cases r1 : -2305843009213693952 ≤ hi x
      · skip
        by_cases r2 : hi x < 2305843009213693952
        · skip
          by_cases r3 : -2305843009213693952 ≤ hi y
          · skip
            by_cases r4 : hi y < 2305843009213693952
            · skip
              have e1 := cmp_diff x y r1 r2 r3 r4
              rw [e1, ← hC] at SG
              clear hC e1
              have KC := kin_cell W1
              refine wp_region_kin_flat (by kernel_rfl) (by kernel_rfl) (by kernel_rfl) ?_
              repeat (go_big_quiet_step (first
                | (go_at_call 28; with_reducible refine quiet_kin (CX.out _))
                | (go_at_call 21; with_reducible refine quiet_kin (SB.out _))
                | (go_at_call 30; with_reducible refine quiet_kin (SG.out _))))
              refine wpQuiet_nil ?_
              clear KC
              intro _ hu_
              obtain ⟨k_, hu_⟩ := hu_
              have hk := below_kin W1 k_
              rw [← hu_] at hk
              clear hu_ k_
              rename World => u
              go_wp2_with fail
              go_meet
              exact ⟨rfl, hk⟩
            · have q : decide (hi y < 2305843009213693952) = false := by simpa using r4
              have KC := kin_cell W1
              refine wp_region_kin_flat (by kernel_rfl) (by kernel_rfl) (by kernel_rfl) ?_
              repeat (go_big_quiet_step (first
                | (go_at_call 28; with_reducible refine quiet_kin (CX.out _))))
              refine wpQuiet_nil ?_
              clear KC
              intro _ hu_
              obtain ⟨k_, hu_⟩ := hu_
              have hk := below_kin W1 k_
              rw [← hu_] at hk
              clear hu_ k_
              rename World => u
              go_wp2_with fail
              go_meet
              exact ⟨rfl, hk⟩
          · have q : decide (-2305843009213693952 ≤ hi y) = false := by simpa using r3
            have KC := kin_cell W1
            refine wp_region_kin_flat (by kernel_rfl) (by kernel_rfl) (by kernel_rfl) ?_
            repeat (go_big_quiet_step (first
              | (go_at_call 28; with_reducible refine quiet_kin (CX.out _))))
            refine wpQuiet_nil ?_
            clear KC
            intro _ hu_
            obtain ⟨k_, hu_⟩ := hu_
            have hk := below_kin W1 k_
            rw [← hu_] at hk
            clear hu_ k_
            rename World => u
            go_wp2_with fail
            go_meet
            exact ⟨rfl, hk⟩
        · have q : decide (hi x < 2305843009213693952) = false := by simpa using r2
          have KC := kin_cell W1
          refine wp_region_kin_flat (by kernel_rfl) (by kernel_rfl) (by kernel_rfl) ?_
          repeat (go_big_quiet_step (first
            | (go_at_call 28; with_reducible refine quiet_kin (CX.out _))))
          refine wpQuiet_nil ?_
          clear KC
          intro _ hu_
          obtain ⟨k_, hu_⟩ := hu_
          have hk := below_kin W1 k_
          rw [← hu_] at hk
          clear hu_ k_
          rename World => u
          go_wp2_with fail
          go_meet
          exact ⟨rfl, hk⟩
      · have q : decide (-2305843009213693952 ≤ hi x) = false := by simpa using r1
        have KC := kin_cell W1
        refine wp_region_kin_flat (by kernel_rfl) (by kernel_rfl) (by kernel_rfl) ?_
        repeat (go_big_quiet_step (first
          | (go_at_call 28; with_reducible refine quiet_kin (CX.out _))))
        refine wpQuiet_nil ?_
        clear KC
        intro _ hu_
        obtain ⟨k_, hu_⟩ := hu_
        have hk := below_kin W1 k_
        rw [← hu_] at hk
        clear hu_ k_
        rename World => u
        go_wp2_with fail
        go_meet
        exact ⟨rfl, hk⟩
    case rest =>
      obtain ⟨rfl, hB1⟩ := hcut
      replace hB := hB.trans (hB1.mono hB.size)
      clear hB1 c0 c1
      obtain ⟨W2, rfl⟩ : ∃ W2 : World, W2 = wc := ⟨_, rfl⟩
      obtain ⟨p, hp⟩ : ∃ p, p = n * m := ⟨_, rfl⟩
      have OF := Lib.hid (fun u => of_any n n1 n2 u)
      have OM := Lib.hid (fun u => of_any m m1 m2 u)
      have FI := Lib.hid (fun u => fit_any n (isL _) u)
      rw [(fit_of n n1 n2).1, (fit_of n n1 n2).2] at FI
      have PR := Lib.hid (fun u => prod_any n m n1 n2 m1 m2 u)
      have MU := Lib.hid (fun u => mul_any n m (isL _) (isL _) u)
      have SG := Lib.hid (fun u => sign_any p (isL _) u)
      have ep : sv p = n * m := by rw [hp]; exact prod_sign n m n1 n2 m1 m2
      rw [ep] at SG
      rw [← hp] at PR MU
      clear hp ep
      rcases Int.lt_trichotomy n 0 with kn | kn | kn <;> rcases Int.lt_trichotomy m 0 with km | km | km
      · rw [show sg (n * m) = 1 from (by have := Int.mul_pos_of_neg_of_neg kn km; unfold sg cmp3; rw [if_neg (by omega), if_neg (by omega)])] at SG
        have dn : (n == 0) = false := by simp; omega
        have dn' : (n != 0) = true := by simp; omega
        have dm : (m == 0) = false := by simp; omega
        have dm' : (m != 0) = true := by simp; omega
        go_wp2_with fail
        refine (OF.out _).mono ?_
        rintro e v1 ⟨rfl, hn⟩
        replace hB := hB.trans (hn.mono hB.size)
        clear hn
        go_wp2_with fail
        refine (FI.out _).mono ?_
        rintro e v2 ⟨rfl, hn⟩
        replace hB := hB.trans (hn.mono hB.size)
        clear hn
        go_wp2_with fail
        refine (PR.out _).mono ?_
        rintro e v3 ⟨rfl, hn⟩
        replace hB := hB.trans (hn.mono hB.size)
        clear hn
        go_wp2_with fail
        refine (SG.out _).mono ?_
        rintro e v4 ⟨rfl, hn⟩
        have c3 := fresh2 hn
        replace hB := chaina hB hn
        clear hn
        go_wp2_with fail
        refine (SG.out _).mono ?_
        rintro e v5 ⟨rfl, hn⟩
        replace hB := hB.trans (hn.mono hB.size)
        clear hn c3
        go_wp2_with fail
        refine (PR.out _).mono ?_
        rintro e v6 ⟨rfl, hn⟩
        replace hB := hB.trans (hn.mono hB.size)
        clear hn
        go_wp2_with fail
        refine (OF.out _).mono ?_
        rintro e v7 ⟨rfl, hn⟩
        replace hB := hB.trans (hn.mono hB.size)
        clear hn
        go_wp2_with fail
        refine (OM.out _).mono ?_
        rintro e v8 ⟨rfl, hn⟩
        replace hB := hB.trans (hn.mono hB.size)
        clear hn
        go_wp2_with fail
        refine (MU.out _).mono ?_
        rintro e v9 ⟨rfl, hn⟩
        replace hB := hB.trans (hn.mono hB.size)
        clear hn
        go_wp2_with fail
        refine (awake_any _ (htab.below hB)).mono ?_
        rintro e v10 ⟨rfl, hn⟩
        replace hB := hB.trans (hn.mono hB.size)
        clear hn
        go_wp2_with fail
        go_ret
        exact ⟨rfl, hB⟩
      · rw [show sg (n * m) = 0 from (by rw [km, Int.mul_zero]; rfl)] at SG
        have dn : (n == 0) = false := by simp; omega
        have dn' : (n != 0) = true := by simp; omega
        subst km
        go_wp2_with fail
        refine (OF.out _).mono ?_
        rintro e v1 ⟨rfl, hn⟩
        replace hB := hB.trans (hn.mono hB.size)
        clear hn
        go_wp2_with fail
        refine (FI.out _).mono ?_
        rintro e v2 ⟨rfl, hn⟩
        replace hB := hB.trans (hn.mono hB.size)
        clear hn
        go_wp2_with fail
        refine (PR.out _).mono ?_
        rintro e v3 ⟨rfl, hn⟩
        replace hB := hB.trans (hn.mono hB.size)
        clear hn
        go_wp2_with fail
        refine (SG.out _).mono ?_
        rintro e v4 ⟨rfl, hn⟩
        have c3 := fresh2 hn
        replace hB := chaina hB hn
        clear hn
        go_wp2_with fail
        refine (SG.out _).mono ?_
        rintro e v5 ⟨rfl, hn⟩
        replace hB := hB.trans (hn.mono hB.size)
        clear hn c3
        go_wp2_with fail
        refine (PR.out _).mono ?_
        rintro e v6 ⟨rfl, hn⟩
        replace hB := hB.trans (hn.mono hB.size)
        clear hn
        go_wp2_with fail
        refine (OF.out _).mono ?_
        rintro e v7 ⟨rfl, hn⟩
        replace hB := hB.trans (hn.mono hB.size)
        clear hn
        go_wp2_with fail
        refine (OM.out _).mono ?_
        rintro e v8 ⟨rfl, hn⟩
        replace hB := hB.trans (hn.mono hB.size)
        clear hn
        go_wp2_with fail
        refine (MU.out _).mono ?_
        rintro e v9 ⟨rfl, hn⟩
        replace hB := hB.trans (hn.mono hB.size)
        clear hn
        go_wp2_with fail
        refine (awake_any _ (htab.below hB)).mono ?_
        rintro e v10 ⟨rfl, hn⟩
        replace hB := hB.trans (hn.mono hB.size)
        clear hn
        go_wp2_with fail
        go_ret
        exact ⟨rfl, hB⟩
      · rw [show sg (n * m) = -1 from (by have := Int.mul_neg_of_neg_of_pos kn km; unfold sg cmp3; rw [if_pos this])] at SG
        have dn : (n == 0) = false := by simp; omega
        have dn' : (n != 0) = true := by simp; omega
        have dm : (m == 0) = false := by simp; omega
        have dm' : (m != 0) = true := by simp; omega
        have dm2 : decide (m < 0) = false := by simp; omega
        go_wp2_with fail
        refine (OF.out _).mono ?_
        rintro e v1 ⟨rfl, hn⟩
        replace hB := hB.trans (hn.mono hB.size)
        clear hn
        go_wp2_with fail
        refine (FI.out _).mono ?_
        rintro e v2 ⟨rfl, hn⟩
        replace hB := hB.trans (hn.mono hB.size)
        clear hn
        go_wp2_with fail
        refine (PR.out _).mono ?_
        rintro e v3 ⟨rfl, hn⟩
        replace hB := hB.trans (hn.mono hB.size)
        clear hn
        go_wp2_with fail
        refine (SG.out _).mono ?_
        rintro e v4 ⟨rfl, hn⟩
        have c3 := fresh2 hn
        replace hB := chaina hB hn
        clear hn
        go_wp2_with fail
        refine (SG.out _).mono ?_
        rintro e v5 ⟨rfl, hn⟩
        replace hB := hB.trans (hn.mono hB.size)
        clear hn c3
        go_wp2_with fail
        refine (PR.out _).mono ?_
        rintro e v6 ⟨rfl, hn⟩
        replace hB := hB.trans (hn.mono hB.size)
        clear hn
        go_wp2_with fail
        refine (OF.out _).mono ?_
        rintro e v7 ⟨rfl, hn⟩
        replace hB := hB.trans (hn.mono hB.size)
        clear hn
        go_wp2_with fail
        refine (OM.out _).mono ?_
        rintro e v8 ⟨rfl, hn⟩
        replace hB := hB.trans (hn.mono hB.size)
        clear hn
        go_wp2_with fail
        refine (MU.out _).mono ?_
        rintro e v9 ⟨rfl, hn⟩
        replace hB := hB.trans (hn.mono hB.size)
        clear hn
        go_wp2_with fail
        refine (awake_any _ (htab.below hB)).mono ?_
        rintro e v10 ⟨rfl, hn⟩
        replace hB := hB.trans (hn.mono hB.size)
        clear hn
        go_wp2_with fail
        go_ret
        exact ⟨rfl, hB⟩
      · rw [show sg (n * m) = 0 from (by rw [kn, Int.zero_mul]; rfl)] at SG
        subst kn
        have dm : (m == 0) = false := by simp; omega
        have dm' : (m != 0) = true := by simp; omega
        go_wp2_with fail
        refine (OF.out _).mono ?_
        rintro e v1 ⟨rfl, hn⟩
        replace hB := hB.trans (hn.mono hB.size)
        clear hn
        go_wp2_with fail
        refine (FI.out _).mono ?_
        rintro e v2 ⟨rfl, hn⟩
        replace hB := hB.trans (hn.mono hB.size)
        clear hn
        go_wp2_with fail
        refine (PR.out _).mono ?_
        rintro e v3 ⟨rfl, hn⟩
        replace hB := hB.trans (hn.mono hB.size)
        clear hn
        go_wp2_with fail
        refine (SG.out _).mono ?_
        rintro e v4 ⟨rfl, hn⟩
        have c3 := fresh2 hn
        replace hB := chaina hB hn
        clear hn
        go_wp2_with fail
        refine (SG.out _).mono ?_
        rintro e v5 ⟨rfl, hn⟩
        replace hB := hB.trans (hn.mono hB.size)
        clear hn c3
        go_wp2_with fail
        refine (PR.out _).mono ?_
        rintro e v6 ⟨rfl, hn⟩
        replace hB := hB.trans (hn.mono hB.size)
        clear hn
        go_wp2_with fail
        refine (OF.out _).mono ?_
        rintro e v7 ⟨rfl, hn⟩
        replace hB := hB.trans (hn.mono hB.size)
        clear hn
        go_wp2_with fail
        refine (OM.out _).mono ?_
        rintro e v8 ⟨rfl, hn⟩
        replace hB := hB.trans (hn.mono hB.size)
        clear hn
        go_wp2_with fail
        refine (MU.out _).mono ?_
        rintro e v9 ⟨rfl, hn⟩
        replace hB := hB.trans (hn.mono hB.size)
        clear hn
        go_wp2_with fail
        refine (awake_any _ (htab.below hB)).mono ?_
        rintro e v10 ⟨rfl, hn⟩
        replace hB := hB.trans (hn.mono hB.size)
        clear hn
        go_wp2_with fail
        go_ret
        exact ⟨rfl, hB⟩
      · rw [show sg (n * m) = 0 from (by rw [km, Int.mul_zero]; rfl)] at SG
        subst kn
        subst km
        go_wp2_with fail
        refine (OF.out _).mono ?_
        rintro e v1 ⟨rfl, hn⟩
        replace hB := hB.trans (hn.mono hB.size)
        clear hn
        go_wp2_with fail
        refine (FI.out _).mono ?_
        rintro e v2 ⟨rfl, hn⟩
        replace hB := hB.trans (hn.mono hB.size)
        clear hn
        go_wp2_with fail
        refine (PR.out _).mono ?_
        rintro e v3 ⟨rfl, hn⟩
        replace hB := hB.trans (hn.mono hB.size)
        clear hn
        go_wp2_with fail
        refine (SG.out _).mono ?_
        rintro e v4 ⟨rfl, hn⟩
        have c3 := fresh2 hn
        replace hB := chaina hB hn
        clear hn
        go_wp2_with fail
        refine (SG.out _).mono ?_
        rintro e v5 ⟨rfl, hn⟩
        replace hB := hB.trans (hn.mono hB.size)
        clear hn c3
        go_wp2_with fail
        refine (PR.out _).mono ?_
        rintro e v6 ⟨rfl, hn⟩
        replace hB := hB.trans (hn.mono hB.size)
        clear hn
        go_wp2_with fail
        refine (OF.out _).mono ?_
        rintro e v7 ⟨rfl, hn⟩
        replace hB := hB.trans (hn.mono hB.size)
        clear hn
        go_wp2_with fail
        refine (OM.out _).mono ?_
        rintro e v8 ⟨rfl, hn⟩
        replace hB := hB.trans (hn.mono hB.size)
        clear hn
        go_wp2_with fail
        refine (MU.out _).mono ?_
        rintro e v9 ⟨rfl, hn⟩
        replace hB := hB.trans (hn.mono hB.size)
        clear hn
        go_wp2_with fail
        refine (awake_any _ (htab.below hB)).mono ?_
        rintro e v10 ⟨rfl, hn⟩
        replace hB := hB.trans (hn.mono hB.size)
        clear hn
        go_wp2_with fail
        go_ret
        exact ⟨rfl, hB⟩
      · rw [show sg (n * m) = 0 from (by rw [kn, Int.zero_mul]; rfl)] at SG
        subst kn
        have dm : (m == 0) = false := by simp; omega
        have dm' : (m != 0) = true := by simp; omega
        have dm2 : decide (m < 0) = false := by simp; omega
        go_wp2_with fail
        refine (OF.out _).mono ?_
        rintro e v1 ⟨rfl, hn⟩
        replace hB := hB.trans (hn.mono hB.size)
        clear hn
        go_wp2_with fail
        refine (FI.out _).mono ?_
        rintro e v2 ⟨rfl, hn⟩
        replace hB := hB.trans (hn.mono hB.size)
        clear hn
        go_wp2_with fail
        refine (PR.out _).mono ?_
        rintro e v3 ⟨rfl, hn⟩
        replace hB := hB.trans (hn.mono hB.size)
        clear hn
        go_wp2_with fail
        refine (SG.out _).mono ?_
        rintro e v4 ⟨rfl, hn⟩
        have c3 := fresh2 hn
        replace hB := chaina hB hn
        clear hn
        go_wp2_with fail
        refine (SG.out _).mono ?_
        rintro e v5 ⟨rfl, hn⟩
        replace hB := hB.trans (hn.mono hB.size)
        clear hn c3
        go_wp2_with fail
        refine (PR.out _).mono ?_
        rintro e v6 ⟨rfl, hn⟩
        replace hB := hB.trans (hn.mono hB.size)
        clear hn
        go_wp2_with fail
        refine (OF.out _).mono ?_
        rintro e v7 ⟨rfl, hn⟩
        replace hB := hB.trans (hn.mono hB.size)
        clear hn
        go_wp2_with fail
        refine (OM.out _).mono ?_
        rintro e v8 ⟨rfl, hn⟩
        replace hB := hB.trans (hn.mono hB.size)
        clear hn
        go_wp2_with fail
        refine (MU.out _).mono ?_
        rintro e v9 ⟨rfl, hn⟩
        replace hB := hB.trans (hn.mono hB.size)
        clear hn
        go_wp2_with fail
        refine (awake_any _ (htab.below hB)).mono ?_
        rintro e v10 ⟨rfl, hn⟩
        replace hB := hB.trans (hn.mono hB.size)
        clear hn
        go_wp2_with fail
        go_ret
        exact ⟨rfl, hB⟩
      · rw [show sg (n * m) = -1 from (by have := Int.mul_neg_of_pos_of_neg kn km; unfold sg cmp3; rw [if_pos this])] at SG
        have dn : (n == 0) = false := by simp; omega
        have dn' : (n != 0) = true := by simp; omega
        have dm : (m == 0) = false := by simp; omega
        have dm' : (m != 0) = true := by simp; omega
        have dn2 : decide (n < 0) = false := by simp; omega
        go_wp2_with fail
        refine (OF.out _).mono ?_
        rintro e v1 ⟨rfl, hn⟩
        replace hB := hB.trans (hn.mono hB.size)
        clear hn
        go_wp2_with fail
        refine (FI.out _).mono ?_
        rintro e v2 ⟨rfl, hn⟩
        replace hB := hB.trans (hn.mono hB.size)
        clear hn
        go_wp2_with fail
        refine (PR.out _).mono ?_
        rintro e v3 ⟨rfl, hn⟩
        replace hB := hB.trans (hn.mono hB.size)
        clear hn
        go_wp2_with fail
        refine (SG.out _).mono ?_
        rintro e v4 ⟨rfl, hn⟩
        have c3 := fresh2 hn
        replace hB := chaina hB hn
        clear hn
        go_wp2_with fail
        refine (SG.out _).mono ?_
        rintro e v5 ⟨rfl, hn⟩
        replace hB := hB.trans (hn.mono hB.size)
        clear hn c3
        go_wp2_with fail
        refine (PR.out _).mono ?_
        rintro e v6 ⟨rfl, hn⟩
        replace hB := hB.trans (hn.mono hB.size)
        clear hn
        go_wp2_with fail
        refine (OF.out _).mono ?_
        rintro e v7 ⟨rfl, hn⟩
        replace hB := hB.trans (hn.mono hB.size)
        clear hn
        go_wp2_with fail
        refine (OM.out _).mono ?_
        rintro e v8 ⟨rfl, hn⟩
        replace hB := hB.trans (hn.mono hB.size)
        clear hn
        go_wp2_with fail
        refine (MU.out _).mono ?_
        rintro e v9 ⟨rfl, hn⟩
        replace hB := hB.trans (hn.mono hB.size)
        clear hn
        go_wp2_with fail
        refine (awake_any _ (htab.below hB)).mono ?_
        rintro e v10 ⟨rfl, hn⟩
        replace hB := hB.trans (hn.mono hB.size)
        clear hn
        go_wp2_with fail
        go_ret
        exact ⟨rfl, hB⟩
      · rw [show sg (n * m) = 0 from (by rw [km, Int.mul_zero]; rfl)] at SG
        have dn : (n == 0) = false := by simp; omega
        have dn' : (n != 0) = true := by simp; omega
        subst km
        have dn2 : decide (n < 0) = false := by simp; omega
        go_wp2_with fail
        refine (OF.out _).mono ?_
        rintro e v1 ⟨rfl, hn⟩
        replace hB := hB.trans (hn.mono hB.size)
        clear hn
        go_wp2_with fail
        refine (FI.out _).mono ?_
        rintro e v2 ⟨rfl, hn⟩
        replace hB := hB.trans (hn.mono hB.size)
        clear hn
        go_wp2_with fail
        refine (PR.out _).mono ?_
        rintro e v3 ⟨rfl, hn⟩
        replace hB := hB.trans (hn.mono hB.size)
        clear hn
        go_wp2_with fail
        refine (SG.out _).mono ?_
        rintro e v4 ⟨rfl, hn⟩
        have c3 := fresh2 hn
        replace hB := chaina hB hn
        clear hn
        go_wp2_with fail
        refine (SG.out _).mono ?_
        rintro e v5 ⟨rfl, hn⟩
        replace hB := hB.trans (hn.mono hB.size)
        clear hn c3
        go_wp2_with fail
        refine (PR.out _).mono ?_
        rintro e v6 ⟨rfl, hn⟩
        replace hB := hB.trans (hn.mono hB.size)
        clear hn
        go_wp2_with fail
        refine (OF.out _).mono ?_
        rintro e v7 ⟨rfl, hn⟩
        replace hB := hB.trans (hn.mono hB.size)
        clear hn
        go_wp2_with fail
        refine (OM.out _).mono ?_
        rintro e v8 ⟨rfl, hn⟩
        replace hB := hB.trans (hn.mono hB.size)
        clear hn
        go_wp2_with fail
        refine (MU.out _).mono ?_
        rintro e v9 ⟨rfl, hn⟩
        replace hB := hB.trans (hn.mono hB.size)
        clear hn
        go_wp2_with fail
        refine (awake_any _ (htab.below hB)).mono ?_
        rintro e v10 ⟨rfl, hn⟩
        replace hB := hB.trans (hn.mono hB.size)
        clear hn
        go_wp2_with fail
        go_ret
        exact ⟨rfl, hB⟩
      · rw [show sg (n * m) = 1 from (by have := Int.mul_pos kn km; unfold sg cmp3; rw [if_neg (by omega), if_neg (by omega)])] at SG
        have dn : (n == 0) = false := by simp; omega
        have dn' : (n != 0) = true := by simp; omega
        have dm : (m == 0) = false := by simp; omega
        have dm' : (m != 0) = true := by simp; omega
        have dn2 : decide (n < 0) = false := by simp; omega
        have dm2 : decide (m < 0) = false := by simp; omega
        go_wp2_with fail
        refine (OF.out _).mono ?_
        rintro e v1 ⟨rfl, hn⟩
        replace hB := hB.trans (hn.mono hB.size)
        clear hn
        go_wp2_with fail
        refine (FI.out _).mono ?_
        rintro e v2 ⟨rfl, hn⟩
        replace hB := hB.trans (hn.mono hB.size)
        clear hn
        go_wp2_with fail
        refine (PR.out _).mono ?_
        rintro e v3 ⟨rfl, hn⟩
        replace hB := hB.trans (hn.mono hB.size)
        clear hn
        go_wp2_with fail
        refine (SG.out _).mono ?_
        rintro e v4 ⟨rfl, hn⟩
        have c3 := fresh2 hn
        replace hB := chaina hB hn
        clear hn
        go_wp2_with fail
        refine (SG.out _).mono ?_
        rintro e v5 ⟨rfl, hn⟩
        replace hB := hB.trans (hn.mono hB.size)
        clear hn c3
        go_wp2_with fail
        refine (PR.out _).mono ?_
        rintro e v6 ⟨rfl, hn⟩
        replace hB := hB.trans (hn.mono hB.size)
        clear hn
        go_wp2_with fail
        refine (OF.out _).mono ?_
        rintro e v7 ⟨rfl, hn⟩
        replace hB := hB.trans (hn.mono hB.size)
        clear hn
        go_wp2_with fail
        refine (OM.out _).mono ?_
        rintro e v8 ⟨rfl, hn⟩
        replace hB := hB.trans (hn.mono hB.size)
        clear hn
        go_wp2_with fail
        refine (MU.out _).mono ?_
        rintro e v9 ⟨rfl, hn⟩
        replace hB := hB.trans (hn.mono hB.size)
        clear hn
        go_wp2_with fail
        refine (awake_any _ (htab.below hB)).mono ?_
        rintro e v10 ⟨rfl, hn⟩
        replace hB := hB.trans (hn.mono hB.size)
        clear hn
        go_wp2_with fail
        go_ret
        exact ⟨rfl, hB⟩
end Go.Proofs.YtdcllcbhepajeaaDoor
