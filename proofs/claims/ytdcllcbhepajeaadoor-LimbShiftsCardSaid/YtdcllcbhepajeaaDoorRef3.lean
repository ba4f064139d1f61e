/- The reference's Cmp, Fit, Sub, and package limb's Fit. -/
import Derived.Test.YtdcllcbhepajeaaDoorRef1
namespace Go.Proofs.YtdcllcbhepajeaaDoor
open Go.RowKit Go.Proofs
set_option linter.unusedVariables false

theorem rsub_any {ah al bh bl : Int} (x y : Int) (ha : IsR ah al x) (hb : IsR bh bl y) (w : World) :
    Calls Tryd.prog 22 #[.agg #[.int .u64 ah, .int .u64 al], .agg #[.int .u64 bh, .int .u64 bl]] w fun e w' =>
      e = .returned (.agg #[.int .u64 (rhi (x - y)), .int .u64 (lo (x - y))]) ∧ Below w.heap.size w w' := by
  obtain ⟨rfl, rfl⟩ := ha
  obtain ⟨rfl, rfl⟩ := hb
  have E := Lib.hid (show x + -y = x - y by omega)
  have HX := Lib.hid (show rhi x = rhi x ∧ lo x = lo x from ⟨rfl, rfl⟩)
  go_enter Tryd.func22, Tryd.ntmps22
  go_wp2_with fail
  generalize hW : World.alloc _ _ = W
  have hBW : Below w.heap.size w W := by rw [← hW]; exact bl3 (Below.refl _ _)
  have a0 : W.cell? ⟨w.heap.size, 0, none⟩ = some (.int .u64 (rhi x)) := by rw [← hW]; simp [go_sem]
  have a1 : W.cell? ⟨w.heap.size, 1, none⟩ = some (.int .u64 (lo x)) := by rw [← hW]; simp [go_sem]
  have b0 : W.cell? ⟨w.heap.size + 1, 0, none⟩ = some (.int .u64 (rhi y)) := by rw [← hW]; simp [go_sem]
  have b1 : W.cell? ⟨w.heap.size + 1, 1, none⟩ = some (.int .u64 (lo y)) := by rw [← hW]; simp [go_sem]
  have zW : w.heap.size < W.heap.size ∧ w.heap.size + 1 < W.heap.size := by rw [← hW]; simp <;> omega
  have hG : W.cell? ⟨w.heap.size + 1 + 1, 0, none⟩ = some (.int .u64 0) ∧ W.cell? ⟨w.heap.size + 1 + 1, 1, none⟩ = some (.int .u64 0) ∧ W.frozen? ⟨w.heap.size + 1 + 1, 0, none⟩ = false ∧ W.frozen? ⟨w.heap.size + 1 + 1, 1, none⟩ = false ∧ w.heap.size + 1 + 1 < W.heap.size := by rw [← hW]; refine ⟨by simp [go_sem], by simp [go_sem], by simp [go_sem], by simp [go_sem], by simp <;> omega⟩
  clear hW
  have hne_0 : w.heap.size ≠ w.heap.size + 1 + 1 := by omega
  have hne_1 : w.heap.size + 1 ≠ w.heap.size + 1 + 1 := by omega
  go_region_held3 (fun w' => (∀ b o, b < W.heap.size → b ≠ w.heap.size + 1 + 1 → w'.cell? ⟨b, o, none⟩ = W.cell? ⟨b, o, none⟩) ∧ W.heap.size ≤ w'.heap.size ∧ Below w.heap.size w w')
    (first | exact kp0 hBW | exact kp_call ‹_› hn | exact kp_alloc ‹_› | exact kp_re ‹_› (by first | assumption | exact Nat.le_refl _) hBW.size | exact kp_set ‹_› (by first | exact .inl rfl | (exact .inr (by first | assumption | exact Nat.le_refl _))) (by omega) | exact kp_set (kp_set ‹_› (by first | exact .inl rfl | (exact .inr (by first | assumption | exact Nat.le_refl _))) (by omega)) (by first | exact .inl rfl | (exact .inr (by first | assumption | exact Nat.le_refl _))) (by omega) | exact kp_set (kp_set (kp_set ‹_› (by first | exact .inl rfl | (exact .inr (by first | assumption | exact Nat.le_refl _))) (by omega)) (by first | exact .inl rfl | (exact .inr (by first | assumption | exact Nat.le_refl _))) (by omega)) (by first | exact .inl rfl | (exact .inr (by first | assumption | exact Nat.le_refl _))) (by omega))
    (first
      | (go_at_call 24; (with_reducible refine (rneg_any y (isR _) _).mono ?_); rintro e w1 ⟨rfl, hn⟩; have hz := kp_sz ‹_› hn; first | have hG := carry2 hG hn | have hG := carry2 hG (undrew hn) | skip)
      | (go_at_call 20; (with_reducible refine (radd_any x (-y) (isR _) (isR _) _).mono ?_); rintro e w1 ⟨rfl, hn⟩; have hz := kp_sz ‹_› hn; first | have hG := carry2 hG hn | have hG := carry2 hG (undrew hn) | skip))
  have hBf := kp_below ‹_›
  go_wp2
  rw [E.out]
  exact bodyPost_ret (v := .agg #[.int .u64 (rhi (x - y)), .int .u64 (lo (x - y))]) (by simp [results, Tryd.results22, go_sem, hG]) rfl
    ⟨rfl, hBf⟩

/-- the uppermost bit turned -/
theorem xor_top (b : Nat) (hb : b < 9223372036854775808) : b ^^^ 9223372036854775808 = 9223372036854775808 + b := by
  have h2 : (9223372036854775808 : Nat) = 2 ^ 63 := by decide
  rw [h2] at hb ⊢
  have e := Nat.two_pow_add_eq_or_of_lt hb 1
  rw [Nat.mul_one] at e
  rw [e]
  refine Nat.eq_of_testBit_eq fun i => ?_
  rw [Nat.testBit_xor, Nat.testBit_or, Nat.testBit_two_pow]
  by_cases h : 63 = i
  · subst h
    rw [Nat.testBit_lt_two_pow hb]
    simp
  · simp [h]
theorem u64_flip (n : Int) (h : 0 ≤ n) (h' : n ≤ 18446744073709551615) : bits .xor .u64 n 9223372036854775808 = (n + 9223372036854775808) % 18446744073709551616 := by
  rw [u64_xor n 9223372036854775808 h (by omega) (by omega) (by omega)]
  obtain ⟨x, rfl⟩ := Int.eq_ofNat_of_zero_le h
  show (((x ^^^ 9223372036854775808 : Nat)) : Int) = _
  by_cases hx : x < 9223372036854775808
  · rw [xor_top x hx]; omega
  · obtain ⟨b, rfl⟩ : ∃ b, x = 9223372036854775808 + b := ⟨x - 9223372036854775808, by omega⟩
    rw [← xor_top b (by omega), Nat.xor_assoc, Nat.xor_self, Nat.xor_zero, xor_top b (by omega)]
    omega
theorem flip_rhi (x : Int) : bits .xor .u64 (rhi x) 9223372036854775808 = hi x + 9223372036854775808 := by
  have := rhi_range x
  rw [u64_flip (rhi x) this.1 this.2]
  unfold rhi hi; omega

theorem rcmp_any {ah al bh bl : Int} (x y : Int) (ha : IsR ah al x) (hb : IsR bh bl y) (w : World) :
    Calls Tryd.prog 29 #[.agg #[.int .u64 ah, .int .u64 al], .agg #[.int .u64 bh, .int .u64 bl]] w fun e w' =>
      e = .returned (.int .i64 (cmp3 (sv x) (sv y))) ∧ Below w.heap.size w w' := by
  obtain ⟨rfl, rfl⟩ := ha
  obtain ⟨rfl, rfl⟩ := hb
  have f1 := flip_rhi x
  have f2 := flip_rhi y
  have R1 := Lib.hid (show rhi x = hi x % 18446744073709551616 by unfold rhi hi; omega)
  have R2 := Lib.hid (show rhi y = hi y % 18446744073709551616 by unfold rhi hi; omega)
  have S1 := Lib.hid (sv_eq x)
  have S2 := Lib.hid (sv_eq y)
  have H1 := Lib.hid (hi_range x)
  have H2 := Lib.hid (hi_range y)
  have L1 := Lib.hid (lo_range x)
  have L2 := Lib.hid (lo_range y)
  go_enter Tryd.func29, Tryd.ntmps29
  go_wp2_with fail
  all_goals go_ret
  all_goals refine ⟨ret_int ?_, bl2 (Below.refl _ _)⟩
  all_goals
    (have r1 := R1.out
     have r2 := R2.out
     have s1 := S1.out
     have s2 := S2.out
     have h1 := H1.out
     have h2 := H2.out
     have l1 := L1.out
     have l2 := L2.out
     clear f1 f2
     show _ = cmp3 (sv x) (sv y)
     unfold cmp3
     repeat' split
     all_goals (first | rfl | (exfalso; omega)))

/-- is a number an int? -/
def isInt (x : Int) : Prop := -9223372036854775808 ≤ sv x ∧ sv x ≤ 9223372036854775807
instance (x : Int) : Decidable (isInt x) := inferInstanceAs (Decidable (_ ∧ _))
def fitV (x : Int) : Int := if isInt x then sv x else 0
theorem fit_n {x n : Int} (h : n = wrap64 (lo x)) : -9223372036854775808 ≤ n ∧ n ≤ 9223372036854775807 ∧ lo n = lo x := by
  subst h; unfold wrap64 lo; omega
theorem fit_yes {x n : Int} (h : n = wrap64 (lo x)) (hi' : isInt x) : n = sv x ∧ hi n = hi x ∧ rhi n = rhi x := by
  subst h; unfold isInt at hi'; unfold wrap64 lo hi rhi; unfold sv at *; omega
theorem fit_no {x n : Int} (h : n = wrap64 (lo x)) (hi' : ¬ isInt x) : ¬ hi n = hi x ∧ ¬ rhi n = rhi x := by
  subst h; unfold isInt at hi'; unfold wrap64 lo hi rhi; unfold sv at *; omega

theorem fit_any {ah al : Int} (x : Int) (ha : IsL ah al x) (w : World) :
    Calls Tryd.prog 26 #[.agg #[.int .i64 ah, .int .u64 al]] w fun e w' =>
      e = .returned (.tuple #[.int .i64 (fitV x), .bool (decide (isInt x))]) ∧ Below w.heap.size w w' := by
  obtain ⟨rfl, rfl⟩ := ha
  obtain ⟨n, hn⟩ : ∃ n, n = wrap64 (lo x) := ⟨_, rfl⟩
  obtain ⟨n1, n2, n3⟩ := fit_n hn
  have OF := Lib.hid (of_any n n1 n2)
  by_cases hI : isInt x
  · obtain ⟨e1, e2, _⟩ := fit_yes hn hI
    have V := Lib.hid (show fitV x = n ∧ decide (isInt x) = true by rw [fitV, if_pos hI, e1]; simp [hI])
    have en := hn.symm
    have en2 : IntKind.i64.wrap (lo x) = n := by rw [IntKind.wrap_i64]; have h := en; unfold wrap64 at h; exact h
    clear hn e1 hI
    go_enter Tryd.func26, Tryd.ntmps26
    go_wp2_with fail
    generalize hW : World.alloc _ _ = W
    have hBW : Below w.heap.size w W := by rw [← hW]; exact bl1 (Below.refl _ _)
    have a0 : W.cell? ⟨w.heap.size, 0, none⟩ = some (.int .i64 (hi x)) := by rw [← hW]; simp [go_sem]
    have a1 : W.cell? ⟨w.heap.size, 1, none⟩ = some (.int .u64 (lo x)) := by rw [← hW]; simp [go_sem]
    have zW : w.heap.size < W.heap.size := by rw [← hW]; simp <;> omega
    clear hW
    go_region_held3 (fun w' => Below W.heap.size W w' ∧ ∀ b o, b < W.heap.size → w'.cell? ⟨b, o, none⟩ = W.cell? ⟨b, o, none⟩)
      (first | exact keep0 _ | exact keep_call ‹_› hn | exact keep_alloc ‹_› | exact keep_re ‹_› (by first | assumption | exact Nat.le_refl _) | exact keep_set (keep_set ‹_› (by first | assumption | exact Nat.le_refl _)) (by first | assumption | exact Nat.le_refl _))
      (first
        | (go_at_call 17; (with_reducible refine (OF.out _).mono ?_); rintro e w1 ⟨rfl, hn⟩; have hz := keep_sz ‹_› hn; first | have hG := fresh2 hn | have hG := fresh2 (undrew hn) | have hG := carry2 hG hn | skip))
    go_wp2
    rw [V.out.1, V.out.2]
    go_ret2
    exact ⟨rfl, hBW.trans ((keep_below (W := W) (by assumption)).mono hBW.size)⟩
  · obtain ⟨e1, e2⟩ := fit_no hn hI
    have V := Lib.hid (show fitV x = 0 ∧ decide (isInt x) = false by rw [fitV, if_neg hI]; simp [hI])
    have en := hn.symm
    have en2 : IntKind.i64.wrap (lo x) = n := by rw [IntKind.wrap_i64]; have h := en; unfold wrap64 at h; exact h
    have e3 : (hi n == hi x) = false := by simpa using e1
    clear hn e1 hI
    go_enter Tryd.func26, Tryd.ntmps26
    go_wp2_with fail
    generalize hW : World.alloc _ _ = W
    have hBW : Below w.heap.size w W := by rw [← hW]; exact bl1 (Below.refl _ _)
    have a0 : W.cell? ⟨w.heap.size, 0, none⟩ = some (.int .i64 (hi x)) := by rw [← hW]; simp [go_sem]
    have a1 : W.cell? ⟨w.heap.size, 1, none⟩ = some (.int .u64 (lo x)) := by rw [← hW]; simp [go_sem]
    have zW : w.heap.size < W.heap.size := by rw [← hW]; simp <;> omega
    clear hW
    go_region_held3 (fun w' => Below W.heap.size W w' ∧ ∀ b o, b < W.heap.size → w'.cell? ⟨b, o, none⟩ = W.cell? ⟨b, o, none⟩)
      (first | exact keep0 _ | exact keep_call ‹_› hn | exact keep_alloc ‹_› | exact keep_re ‹_› (by first | assumption | exact Nat.le_refl _) | exact keep_set (keep_set ‹_› (by first | assumption | exact Nat.le_refl _)) (by first | assumption | exact Nat.le_refl _))
      (first
        | (go_at_call 17; (with_reducible refine (OF.out _).mono ?_); rintro e w1 ⟨rfl, hn⟩; have hz := keep_sz ‹_› hn; first | have hG := fresh2 hn | have hG := fresh2 (undrew hn) | have hG := carry2 hG hn | skip))
    go_wp2
    rw [V.out.1, V.out.2]
    go_ret2
    exact ⟨rfl, hBW.trans ((keep_below (W := W) (by assumption)).mono hBW.size)⟩

theorem rfits_any {ah al : Int} (x : Int) (ha : IsR ah al x) (w : World) :
    Calls Tryd.prog 27 #[.agg #[.int .u64 ah, .int .u64 al]] w fun e w' =>
      e = .returned (.tuple #[.int .i64 (fitV x), .bool (decide (isInt x))]) ∧ Below w.heap.size w w' := by
  obtain ⟨rfl, rfl⟩ := ha
  obtain ⟨n, hn⟩ : ∃ n, n = wrap64 (lo x) := ⟨_, rfl⟩
  obtain ⟨n1, n2, n3⟩ := fit_n hn
  have OF := Lib.hid (rof_any n n1 n2)
  by_cases hI : isInt x
  · obtain ⟨e1, _, e2⟩ := fit_yes hn hI
    have V := Lib.hid (show fitV x = n ∧ decide (isInt x) = true by rw [fitV, if_pos hI, e1]; simp [hI])
    have en := hn.symm
    have en2 : IntKind.i64.wrap (lo x) = n := by rw [IntKind.wrap_i64]; have h := en; unfold wrap64 at h; exact h
    clear hn e1 hI
    go_enter Tryd.func27, Tryd.ntmps27
    go_wp2_with fail
    generalize hW : World.alloc _ _ = W
    have hBW : Below w.heap.size w W := by rw [← hW]; exact bl1 (Below.refl _ _)
    have a0 : W.cell? ⟨w.heap.size, 0, none⟩ = some (.int .u64 (rhi x)) := by rw [← hW]; simp [go_sem]
    have a1 : W.cell? ⟨w.heap.size, 1, none⟩ = some (.int .u64 (lo x)) := by rw [← hW]; simp [go_sem]
    have zW : w.heap.size < W.heap.size := by rw [← hW]; simp <;> omega
    clear hW
    go_region_held3 (fun w' => Below W.heap.size W w' ∧ ∀ b o, b < W.heap.size → w'.cell? ⟨b, o, none⟩ = W.cell? ⟨b, o, none⟩)
      (first | exact keep0 _ | exact keep_call ‹_› hn | exact keep_alloc ‹_› | exact keep_re ‹_› (by first | assumption | exact Nat.le_refl _) | exact keep_set (keep_set ‹_› (by first | assumption | exact Nat.le_refl _)) (by first | assumption | exact Nat.le_refl _))
      (first
        | (go_at_call 18; (with_reducible refine (OF.out _).mono ?_); rintro e w1 ⟨rfl, hn⟩; have hz := keep_sz ‹_› hn; first | have hG := fresh2 hn | have hG := fresh2 (undrew hn) | have hG := carry2 hG hn | skip))
    go_wp2
    rw [V.out.1, V.out.2]
    go_ret2
    exact ⟨rfl, hBW.trans ((keep_below (W := W) (by assumption)).mono hBW.size)⟩
  · obtain ⟨_, e1⟩ := fit_no hn hI
    have V := Lib.hid (show fitV x = 0 ∧ decide (isInt x) = false by rw [fitV, if_neg hI]; simp [hI])
    have en := hn.symm
    have en2 : IntKind.i64.wrap (lo x) = n := by rw [IntKind.wrap_i64]; have h := en; unfold wrap64 at h; exact h
    have e3 : (rhi n == rhi x) = false := by simpa using e1
    clear hn e1 hI
    go_enter Tryd.func27, Tryd.ntmps27
    go_wp2_with fail
    generalize hW : World.alloc _ _ = W
    have hBW : Below w.heap.size w W := by rw [← hW]; exact bl1 (Below.refl _ _)
    have a0 : W.cell? ⟨w.heap.size, 0, none⟩ = some (.int .u64 (rhi x)) := by rw [← hW]; simp [go_sem]
    have a1 : W.cell? ⟨w.heap.size, 1, none⟩ = some (.int .u64 (lo x)) := by rw [← hW]; simp [go_sem]
    have zW : w.heap.size < W.heap.size := by rw [← hW]; simp <;> omega
    clear hW
    go_region_held3 (fun w' => Below W.heap.size W w' ∧ ∀ b o, b < W.heap.size → w'.cell? ⟨b, o, none⟩ = W.cell? ⟨b, o, none⟩)
      (first | exact keep0 _ | exact keep_call ‹_› hn | exact keep_alloc ‹_› | exact keep_re ‹_› (by first | assumption | exact Nat.le_refl _) | exact keep_set (keep_set ‹_› (by first | assumption | exact Nat.le_refl _)) (by first | assumption | exact Nat.le_refl _))
      (first
        | (go_at_call 18; (with_reducible refine (OF.out _).mono ?_); rintro e w1 ⟨rfl, hn⟩; have hz := keep_sz ‹_› hn; first | have hG := fresh2 hn | have hG := fresh2 (undrew hn) | have hG := carry2 hG hn | skip))
    go_wp2
    rw [V.out.1, V.out.2]
    go_ret2
    exact ⟨rfl, hBW.trans ((keep_below (W := W) (by assumption)).mono hBW.size)⟩

end Go.Proofs.YtdcllcbhepajeaaDoor
