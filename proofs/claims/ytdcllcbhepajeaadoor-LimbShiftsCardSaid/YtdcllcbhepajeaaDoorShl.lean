/- Shl of package limb and of the reference. -/
import Derived.Test.YtdcllcbhepajeaaDoorRef1
import Derived.Test.YtdcllcbhepajeaaDoorCells
namespace Go.Proofs.YtdcllcbhepajeaaDoor
open Go.RowKit Go.Proofs
set_option linter.unusedVariables false

/-- what a shift makes: 0 beyond 127 -/
def shlV (x n : Int) : Int := if 0 ≤ n ∧ n ≤ 127 then x * 2 ^ n.toNat else 0

theorem shl_lo (x : Int) (k : Nat) : IntKind.u64.wrap (lo x * 2 ^ k) = lo (x * 2 ^ k) := by
  rw [IntKind.wrap_u64]
  show x % 18446744073709551616 * 2 ^ k % 18446744073709551616 = x * 2 ^ k % 18446744073709551616
  rw [Int.mul_emod (x % 18446744073709551616), Int.emod_emod, ← Int.mul_emod]
theorem shl_big (x : Int) (k : Nat) : IntKind.u64.wrap (lo x * 2 ^ k) = rhi (x * 2 ^ (k + 64)) ∧ lo (x * 2 ^ (k + 64)) = 0 := by
  rw [shl_lo]
  have e : x * 2 ^ (k + 64) = x * 2 ^ k * 18446744073709551616 := by rw [Int.pow_add, ← Int.mul_assoc]; rfl
  rw [e]
  generalize x * 2 ^ k = y
  unfold lo rhi; omega
theorem or_split (a b i : Nat) (hb : b < 2 ^ i) (h : 2 ^ i * a + b < 18446744073709551616) : bits .or .u64 ((2 ^ i * a : Nat) : Int) (b : Int) = ((2 ^ i * a + b : Nat) : Int) := by
  rw [u64_or_nat (2 ^ i * a) b (by omega) (by omega), Nat.two_pow_add_eq_or_of_lt hb]
theorem pow_parts (k : Nat) (hk : k ≤ 63) : (2 : Nat) ^ k * 2 ^ (64 - k) = 18446744073709551616 := by
  rw [← Nat.pow_add, show k + (64 - k) = 64 by omega]
theorem shl_hi (x : Int) (k : Nat) (hk : k ≤ 63) : bits .or .u64 (IntKind.u64.wrap (rhi x * 2 ^ k)) (lo x / 2 ^ (64 - k)) = rhi (x * 2 ^ k) := by
  have hr := rhi_range x
  have hl := lo_range x
  obtain ⟨X, hx⟩ : ∃ X, x = X * 340282366920938463463374607431768211456 + rhi x * 18446744073709551616 + lo x := ⟨x / 340282366920938463463374607431768211456, by unfold rhi lo; omega⟩
  obtain ⟨r, hr'⟩ := Int.eq_ofNat_of_zero_le hr.1
  obtain ⟨l, hl'⟩ := Int.eq_ofNat_of_zero_le hl.1
  rw [hr', hl'] at hx
  rw [hr', hl']
  rw [hr'] at hr
  rw [hl'] at hl
  have hpq := pow_parts k hk
  have hp : 0 < 2 ^ k := Nat.pow_pos (by decide)
  have hq : 0 < 2 ^ (64 - k) := Nat.pow_pos (by decide)
  have hb : l / 2 ^ (64 - k) < 2 ^ k := by
    rw [Nat.div_lt_iff_lt_mul hq, hpq]; omega
  have hm : r * 2 ^ k % 18446744073709551616 = 2 ^ k * (r % 2 ^ (64 - k)) := by
    rw [← hpq, Nat.mul_comm r, Nat.mul_mod_mul_left]
  have hlt : 2 ^ k * (r % 2 ^ (64 - k)) + l / 2 ^ (64 - k) < 18446744073709551616 := by
    have h1 : r % 2 ^ (64 - k) + 1 ≤ 2 ^ (64 - k) := Nat.mod_lt _ hq
    have h2 : 2 ^ k * (r % 2 ^ (64 - k) + 1) ≤ 2 ^ k * 2 ^ (64 - k) := Nat.mul_le_mul_left _ h1
    rw [Nat.mul_add, hpq] at h2
    omega
  have er : (r : Int) * 2 ^ k = ((r * 2 ^ k : Nat) : Int) := by rw [Int.natCast_mul, Int.natCast_pow]; rfl
  have el : (l : Int) * 2 ^ k = ((l * 2 ^ k : Nat) : Int) := by rw [Int.natCast_mul, Int.natCast_pow]; rfl
  have e2 : (l : Int) / 2 ^ (64 - k) = ((l / 2 ^ (64 - k) : Nat) : Int) := by rw [Int.natCast_ediv, Int.natCast_pow]; rfl
  have e1 : IntKind.u64.wrap ((r : Int) * 2 ^ k) = ((2 ^ k * (r % 2 ^ (64 - k)) : Nat) : Int) := by
    rw [IntKind.wrap_u64, er, ← hm]
    generalize r * 2 ^ k = y
    omega
  rw [e1, e2, or_split _ _ _ hb hlt]
  have hd : l * 2 ^ k / 18446744073709551616 = l / 2 ^ (64 - k) := by
    rw [← hpq, Nat.mul_comm l, Nat.mul_div_mul_left _ _ hp]
  have e3 : x * 2 ^ k = X * 2 ^ k * 340282366920938463463374607431768211456 + ((r * 2 ^ k : Nat) : Int) * 18446744073709551616 + ((l * 2 ^ k : Nat) : Int) := by
    rw [hx, ← er, ← el]; grind
  rw [e3]
  clear e3 hx e1 e2 er el
  generalize X * 2 ^ k = Y
  unfold rhi
  generalize r * 2 ^ k = a at *
  generalize l * 2 ^ k = b at *
  generalize 2 ^ k * (r % 2 ^ (64 - k)) = c at *
  generalize l / 2 ^ (64 - k) = d at *
  omega

set_option maxHeartbeats 4000000 in
theorem shl_any {ah al : Int} (x n : Int) (ha : IsL ah al x) (h1 : -9223372036854775808 ≤ n) (h2 : n ≤ 9223372036854775807) (w : World) :
    Calls Tryd.prog 40 #[.agg #[.int .i64 ah, .int .u64 al], .int .i64 n] w fun e w' =>
      e = .returned (.agg #[.int .i64 (hi (shlV x n)), .int .u64 (lo (shlV x n))]) ∧ Below w.heap.size w w' := by
  obtain ⟨rfl, rfl⟩ := ha
  by_cases c1 : n < 0 ∨ 127 < n
  · have V := Lib.hid (show shlV x n = 0 by rw [shlV, if_neg (by omega)])
    rcases c1 with c1 | c1
    · go_enter Tryd.func40, Tryd.ntmps40
      go_wp2_with fail
      rw [V.out]
      exact bodyPost_ret (v := .agg #[.int .i64 0, .int .u64 0]) (by simp [results, Tryd.results40, go_sem]) rfl ⟨rfl, bl2 (Below.refl _ _)⟩
    · have c0 : 0 ≤ n := by omega
      go_enter Tryd.func40, Tryd.ntmps40
      go_wp2_with fail
      rw [V.out]
      exact bodyPost_ret (v := .agg #[.int .i64 0, .int .u64 0]) (by simp [results, Tryd.results40, go_sem]) rfl ⟨rfl, bl2 (Below.refl _ _)⟩
  · by_cases c2 : 64 ≤ n
    · have c3 : n ≤ 127 := by omega
      have V := Lib.hid (show wrap64 (IntKind.u64.wrap (lo x * 2 ^ (n - 64).toNat)) = hi (shlV x n) ∧ 0 = lo (shlV x n) by
        have := shl_big x (n - 64).toNat
        rw [show (n - 64).toNat + 64 = n.toNat by omega] at this
        rw [shlV, if_pos (by omega), this.1, this.2, hi_of_rhi]
        exact ⟨rfl, rfl⟩)
      clear c1
      go_enter Tryd.func40, Tryd.ntmps40
      go_wp2_with fail
      exact bodyPost_ret (v := .agg #[.int .i64 (wrap64 (IntKind.u64.wrap (lo x * 2 ^ (n - 64).toNat))), .int .u64 0]) (by simp [results, Tryd.results40, go_sem]) rfl ⟨by rw [V.out.1, ← V.out.2], bl2 (Below.refl _ _)⟩
    · have c3 : 0 ≤ n := by omega
      have c4 : n ≤ 63 := by omega
      have V := Lib.hid (show shlV x n = x * 2 ^ n.toNat by rw [shlV, if_pos (by omega)])
      have o1 : bits .or .u64 (IntKind.u64.wrap (rhi x * 2 ^ n.toNat)) (lo x / 2 ^ (64 - n).toNat) = rhi (x * 2 ^ n.toNat) := by
        have := shl_hi x n.toNat (by omega)
        rw [show 64 - n.toNat = (64 - n).toNat by omega] at this
        exact this
      have o2 : IntKind.u64.wrap (lo x * 2 ^ n.toNat) = lo (x * 2 ^ n.toNat) := shl_lo x n.toNat
      have o3 : IntKind.u64.wrap (hi x) = rhi x := rhi_of_hi x
      have o4 : IntKind.i64.wrap (rhi (x * 2 ^ n.toNat)) = hi (x * 2 ^ n.toNat) := by rw [IntKind.wrap_i64]; have h := hi_of_rhi (x * 2 ^ n.toNat); unfold wrap64 at h; exact h
      have o5 : IntKind.i64.wrap (64 - n) = 64 - n := by rw [IntKind.wrap_i64]; omega
      clear c1 c2
      go_enter Tryd.func40, Tryd.ntmps40
      go_wp2_with fail
      generalize hW : World.alloc _ _ = W
      have hBW : Below w.heap.size w W := by rw [← hW]; exact bl2 (Below.refl _ _)
      have a0 : W.cell? ⟨w.heap.size, 0, none⟩ = some (.int .i64 (hi x)) := by rw [← hW]; simp [go_sem]
      have a1 : W.cell? ⟨w.heap.size, 1, none⟩ = some (.int .u64 (lo x)) := by rw [← hW]; simp [go_sem]
      have zW : w.heap.size < W.heap.size := by rw [← hW]; simp <;> omega
      have hG : W.cell? ⟨w.heap.size + 1, 0, none⟩ = some (.int .i64 0) ∧ W.cell? ⟨w.heap.size + 1, 1, none⟩ = some (.int .u64 0) ∧ W.frozen? ⟨w.heap.size + 1, 0, none⟩ = false ∧ W.frozen? ⟨w.heap.size + 1, 1, none⟩ = false ∧ w.heap.size + 1 < W.heap.size := by rw [← hW]; refine ⟨by simp [go_sem], by simp [go_sem], by simp [go_sem], by simp [go_sem], by simp <;> omega⟩
      clear hW
      have hne_0 : w.heap.size ≠ w.heap.size + 1 := by omega
      go_region_held3 (fun w' => (∀ b o, b < W.heap.size → b ≠ w.heap.size + 1 → w'.cell? ⟨b, o, none⟩ = W.cell? ⟨b, o, none⟩) ∧ W.heap.size ≤ w'.heap.size ∧ Below w.heap.size w w')
        (first | exact kp0 hBW | exact kp_call ‹_› hn | exact kp_alloc ‹_› | exact kp_re ‹_› (by first | assumption | exact Nat.le_refl _) hBW.size | exact kp_set ‹_› (by first | exact .inl rfl | (exact .inr (by first | assumption | exact Nat.le_refl _))) (by omega) | exact kp_set (kp_set ‹_› (by first | exact .inl rfl | (exact .inr (by first | assumption | exact Nat.le_refl _))) (by omega)) (by first | exact .inl rfl | (exact .inr (by first | assumption | exact Nat.le_refl _))) (by omega) | exact kp_set (kp_set (kp_set ‹_› (by first | exact .inl rfl | (exact .inr (by first | assumption | exact Nat.le_refl _))) (by omega)) (by first | exact .inl rfl | (exact .inr (by first | assumption | exact Nat.le_refl _))) (by omega)) (by first | exact .inl rfl | (exact .inr (by first | assumption | exact Nat.le_refl _))) (by omega))
        (first
          | (go_at_call 17; (with_reducible refine (of_any 0 (by omega) (by omega) _).mono ?_); rintro e w1 ⟨rfl, hn⟩; have hz := kp_sz ‹_› hn; first | have hG := carry2 hG hn | have hG := carry2 hG (undrew hn) | skip))
      have hBf := kp_below ‹_›
      go_wp2
      exact bodyPost_ret (v := .agg #[.int .i64 (hi (x * 2 ^ n.toNat)), .int .u64 (lo (x * 2 ^ n.toNat))]) (by simp [results, Tryd.results40, go_sem, hG]) rfl ⟨by rw [V.out], hBf⟩

theorem rshl_any {ah al : Int} (x n : Int) (ha : IsR ah al x) (h1 : -9223372036854775808 ≤ n) (h2 : n ≤ 9223372036854775807) (w : World) :
    Calls Tryd.prog 41 #[.agg #[.int .u64 ah, .int .u64 al], .int .i64 n] w fun e w' =>
      e = .returned (.agg #[.int .u64 (rhi (shlV x n)), .int .u64 (lo (shlV x n))]) ∧ Below w.heap.size w w' := by
  obtain ⟨rfl, rfl⟩ := ha
  by_cases c1 : n < 0 ∨ 127 < n
  · have V := Lib.hid (show shlV x n = 0 by rw [shlV, if_neg (by omega)])
    rcases c1 with c1 | c1
    · go_enter Tryd.func41, Tryd.ntmps41
      go_wp2_with fail
      rw [V.out]
      exact bodyPost_ret (v := .agg #[.int .u64 0, .int .u64 0]) (by simp [results, Tryd.results41, go_sem]) rfl ⟨rfl, bl2 (Below.refl _ _)⟩
    · have c0 : 0 ≤ n := by omega
      have c2 : 128 ≤ n := by omega
      go_enter Tryd.func41, Tryd.ntmps41
      go_wp2_with fail
      rw [V.out]
      exact bodyPost_ret (v := .agg #[.int .u64 0, .int .u64 0]) (by simp [results, Tryd.results41, go_sem]) rfl ⟨rfl, bl2 (Below.refl _ _)⟩
  · have c2 : 0 ≤ n := by omega
    have c3 : n < 128 := by omega
    have V := Lib.hid (show shlV x n = x * 2 ^ n.toNat by rw [shlV, if_pos (by omega)])
    go_enter Tryd.func41, Tryd.ntmps41
    go_wp2_with fail
    go_loopw [5] (fun a wr => ∃ i : Int, a = .int .i64 i ∧ 0 ≤ i ∧ i ≤ n ∧ RCell wr w.heap.size (.int .u64 (rhi (x * 2 ^ i.toNat))) (.int .u64 (lo (x * 2 ^ i.toNat))) ∧ RCell wr (w.heap.size + 1) (.int .u64 0) (.int .u64 0) ∧ Below w.heap.size w wr) (fun a _ => (n - intOf a).toNat)
    case atStart => exact ⟨0, rfl, by omega, by omega, ⟨by simp [go_sem], by simp [go_sem], by simp [go_sem], by simp [go_sem], by simp; omega⟩, ⟨by simp [go_sem], by simp [go_sem], by simp [go_sem], by simp [go_sem], by simp⟩, bl2 (Below.refl _ _)⟩
    case round =>
      obtain ⟨i, rfl, i0, i1, hG, hG0, hB⟩ := hrel
      unfold RCell at hG hG0
      by_cases ci : i < n
      · go_wp2_with (go_at_call 20; (with_reducible refine (radd_any (x * 2 ^ i.toNat) (x * 2 ^ i.toNat) (isR _) (isR _) _).mono ?_); rintro e w1 ⟨rfl, hn⟩; replace hG := carry2 hG hn; replace hG0 := carry2 hG0 hn; replace hB := hB.trans (hn.mono hB.size); clear hn)
        have e2 : x * 2 ^ i.toNat + x * 2 ^ i.toNat = x * 2 ^ (i + 1).toNat := by
          rw [show (i + 1).toNat = i.toNat + 1 by omega, Int.pow_succ, ← Int.mul_assoc]; omega
        rw [e2]
        exact ⟨⟨i + 1, rfl, by omega, by omega, RCell.put2 hG, (RCell.far (RCell.far hG0 (by omega)) (by omega)), (hB.setCell (by simp) _).setCell (by simp) _⟩, by simp [intOf]; omega⟩
      · have e : i = n := by omega
        subst e
        go_wp2_with fail
        exact bodyPost_ret (v := .agg #[.int .u64 (rhi (x * 2 ^ i.toNat)), .int .u64 (lo (x * 2 ^ i.toNat))]) (by simp [results, Tryd.results41, go_sem, hG0]) rfl ⟨by rw [V.out], (hB.setCell (by simp) _).setCell (by simp) _⟩

end Go.Proofs.YtdcllcbhepajeaaDoor
