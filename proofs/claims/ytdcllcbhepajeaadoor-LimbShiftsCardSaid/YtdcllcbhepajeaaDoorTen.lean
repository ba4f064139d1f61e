/- The reference's size, bit and ten. -/
import Derived.Test.YtdcllcbhepajeaaDoorText
import Derived.Test.YtdcllcbhepajeaaDoorCells
namespace Go.Proofs.YtdcllcbhepajeaaDoor
open Go.RowKit Go.Proofs
set_option linter.unusedVariables false

theorem u64_and1 (n : Int) (h : 0 ≤ n) (h' : n ≤ 18446744073709551615) : bits .and .u64 n 1 = n % 2 := by
  obtain ⟨x, rfl⟩ := Int.eq_ofNat_of_zero_le h
  have e : ((1 : Nat) : Int) = 1 := rfl
  rw [← e, u64_and_nat x 1 (by omega) (by omega), Nat.and_one_is_mod]
  omega

/-- the i-th bit -/
def bitV (m i : Int) : Int := m / 2 ^ i.toNat % 2
theorem bit_lo (m : Int) (k : Nat) (h : k ≤ 63) : lo m / 2 ^ k % 2 = m / 2 ^ k % 2 := by
  obtain ⟨q, hq⟩ : ∃ q, m = q * 18446744073709551616 + lo m := ⟨m / 18446744073709551616, by unfold lo; omega⟩
  have e : (18446744073709551616 : Int) = 2 ^ k * (2 ^ (63 - k) * 2) := by
    rw [← Int.pow_succ, ← Int.pow_add, show k + (63 - k + 1) = 64 by omega]; rfl
  have hp : (2 : Int) ^ k ≠ 0 := Int.ne_of_gt (Int.pow_pos (by decide))
  conv => rhs; rw [hq, e]
  rw [show q * (2 ^ k * (2 ^ (63 - k) * 2)) + lo m = lo m + 2 ^ k * (q * 2 ^ (63 - k) * 2) by grind, Int.add_mul_ediv_left _ _ hp]
  generalize q * 2 ^ (63 - k) = y
  generalize lo m / 2 ^ k = z
  omega
theorem bit_hi (m : Int) (k : Nat) (h : k ≤ 63) : rhi m / 2 ^ k % 2 = m / 2 ^ (64 + k) % 2 := by
  have h1 : rhi m = lo (m / 18446744073709551616) := rfl
  rw [h1, bit_lo _ k h, Int.pow_add, ← Int.ediv_ediv_of_nonneg (by decide)]
  rfl

theorem pow_nonneg2 (k : Nat) : (0 : Int) ≤ 2 ^ k := Int.le_of_lt (Int.pow_pos (by decide))
theorem rbit_any {ah al : Int} (m i : Int) (ha : IsR ah al m) (h1 : 0 ≤ i) (h2 : i ≤ 127) (w : World) :
    Calls Tryd.prog 60 #[.agg #[.int .u64 ah, .int .u64 al], .int .i64 i] w fun e w' =>
      e = .returned (.int .u64 (bitV m i)) ∧ Below w.heap.size w w' := by
  obtain ⟨rfl, rfl⟩ := ha
  obtain ⟨r1, r2⟩ := rhi_range m
  obtain ⟨l1, l2⟩ := lo_range m
  by_cases c : 64 ≤ i
  · have hd := Int.ediv_nonneg r1 (pow_nonneg2 (i - 64).toNat)
    have hd2 : rhi m / 2 ^ (i - 64).toNat ≤ 18446744073709551615 := Int.le_trans (Int.ediv_le_self _ r1) r2
    have e := u64_and1 _ hd hd2
    have B := Lib.hid (show rhi m / 2 ^ (i - 64).toNat % 2 = bitV m i by
      rw [bit_hi m (i - 64).toNat (by omega), show 64 + (i - 64).toNat = i.toNat by omega]; rfl)
    clear hd hd2
    go_enter Tryd.func60, Tryd.ntmps60
    go_wp2_with fail
    go_ret
    exact ⟨ret_int B.out, bl1 (Below.refl _ _)⟩
  · have hd := Int.ediv_nonneg l1 (pow_nonneg2 i.toNat)
    have hd2 : lo m / 2 ^ i.toNat ≤ 18446744073709551615 := Int.le_trans (Int.ediv_le_self _ l1) l2
    have e := u64_and1 _ hd hd2
    have B := Lib.hid (show lo m / 2 ^ i.toNat % 2 = bitV m i from bit_lo m i.toNat (by omega))
    clear hd hd2
    go_enter Tryd.func60, Tryd.ntmps60
    go_wp2_with fail
    go_ret
    exact ⟨ret_int B.out, bl1 (Below.refl _ _)⟩

theorem mg_mod {x : Int} : (if hi x < 0 then -x else x) % 340282366920938463463374607431768211456 = mg x % 340282366920938463463374607431768211456 := by
  have h := sv_mod x
  split
  · rename_i h1; rw [(mg_neg h1).1]; omega
  · rename_i h1; rw [(mg_pos (by omega)).1]; omega

theorem rsize_any {ah al : Int} (x : Int) (ha : IsR ah al x) (w : World) :
    Calls Tryd.prog 53 #[.agg #[.int .u64 ah, .int .u64 al]] w fun e w' =>
      e = .returned (.agg #[.int .u64 (rhi (mg x)), .int .u64 (lo (mg x))]) ∧ Below w.heap.size w w' := by
  obtain ⟨rfl, rfl⟩ := ha
  have M := @mg_mod x
  have SG := Lib.hid (rsign_any x (isR x))
  by_cases c : hi x < 0
  · rw [if_pos c] at M
    have E := Lib.hid (show rhi (-x) = rhi (mg x) ∧ lo (-x) = lo (mg x) from ⟨rhi_congr M, lo_congr M⟩)
    rw [sg_neg c] at SG
    clear M c
    go_enter Tryd.func53, Tryd.ntmps53
    go_wp2_with fail
    refine (SG.out _).mono ?_
    rintro e w1 ⟨rfl, hn⟩
    have hG := fresh22 hn
    have hb := bl2 hn
    clear hn
    go_wp2_with fail
    refine (rneg_any x (isR _) _).mono ?_
    rintro e w2 ⟨rfl, hn⟩
    have hG2 := carry2 hG.2 hn
    replace hb := chain hb hn
    clear hn hG
    go_wp2_with fail
    rw [E.out.1, E.out.2]
    exact bodyPost_ret (v := .agg #[.int .u64 (rhi (mg x)), .int .u64 (lo (mg x))]) (by simp [results, Tryd.results53, go_sem, hG2]) rfl ⟨rfl, (hb.setCell (by simp) _).setCell (by simp) _⟩
  · rw [if_neg c] at M
    have E := Lib.hid (show rhi x = rhi (mg x) ∧ lo x = lo (mg x) from ⟨rhi_congr M, lo_congr M⟩)
    have hs : ¬ sg (sv x) < 0 := by
      have := sv_eq x
      have := lo_range x
      unfold sg cmp3
      rw [if_neg (by omega)]
      split <;> decide
    obtain ⟨G, hGG⟩ : ∃ G, G = sg (sv x) := ⟨_, rfl⟩
    rw [← hGG] at SG hs
    clear M c hGG
    go_enter Tryd.func53, Tryd.ntmps53
    go_wp2_with fail
    refine (SG.out _).mono ?_
    rintro e w1 ⟨rfl, hn⟩
    have hG := fresh22 hn
    have hb := bl2 hn
    clear hn
    go_wp2_with fail
    exact bodyPost_ret (v := .agg #[.int .u64 (rhi x), .int .u64 (lo x)]) (by simp [results, Tryd.results53, go_sem, hG]) rfl ⟨by rw [← E.out.1, ← E.out.2], (hb.setCell (by simp) _).setCell (by simp) _⟩

theorem RCell.put1 {w1 : World} {g : Nat} {a b b' : Value} (h : RCell w1 g a b) : RCell (w1.setCell ⟨g, 1, none⟩ b') g a b' := by
  obtain ⟨h0, h1, h2, h3, h4⟩ := h
  exact ⟨by simp [go_sem, h0], by simp [go_sem, h1], by simp [go_sem, h2], by simp [go_sem, h3], by simpa using h4⟩
/-- the number without its last i bits -/
def cut (m i : Int) : Int := m / 2 ^ i.toNat
theorem cut_top {m : Int} (h : 0 ≤ m) (h2 : m < 340282366920938463463374607431768211456) : cut m 128 = 0 := by
  show m / 2 ^ 128 = 0
  exact Int.ediv_eq_zero_of_lt h h2
theorem cut_step (m i : Int) (h : 0 ≤ i) : cut m i = 2 * cut m (i + 1) + bitV m i := by
  unfold cut bitV
  rw [show (i + 1).toNat = i.toNat + 1 by omega, Int.pow_succ, ← Int.ediv_ediv_of_nonneg (pow_nonneg2 _)]
  omega
theorem bitV_01 (m i : Int) : 0 ≤ bitV m i ∧ bitV m i ≤ 1 := by unfold bitV; omega

theorem rten_any {ah al : Int} (m : Int) (h0 : 0 ≤ m) (hm : m < 340282366920938463463374607431768211456) (ha : IsR ah al m) (w : World) :
    Calls Tryd.prog 54 #[.agg #[.int .u64 ah, .int .u64 al]] w fun e w' =>
      e = .returned (.tuple #[.agg #[.int .u64 (rhi (m / 10)), .int .u64 (lo (m / 10))], .int .u64 (m % 10)]) ∧ Below w.heap.size w w' := by
  obtain ⟨rfl, rfl⟩ := ha
  go_enter Tryd.func54, Tryd.ntmps54
  go_wp2_with fail
  go_loopw [5, 6] (fun s5 s6 wr => ∃ i q r : Int, s5 = .int .u64 r ∧ s6 = .int .i64 i ∧ -1 ≤ i ∧ i ≤ 127 ∧ cut m (i + 1) = 10 * q + r ∧ 0 ≤ r ∧ r ≤ 9 ∧
    RCell wr w.heap.size (.int .u64 (rhi m)) (.int .u64 (lo m)) ∧ RCell wr (w.heap.size + 1) (.int .u64 0) (.int .u64 0) ∧ RCell wr (w.heap.size + 1 + 1) (.int .u64 (rhi q)) (.int .u64 (lo q)) ∧ Below w.heap.size w wr) (fun _ s6 _ => (intOf s6 + 1).toNat)
  case atStart => exact ⟨127, 0, 0, rfl, rfl, by omega, by omega, cut_top h0 hm, by omega, by omega, ⟨by simp [go_sem], by simp [go_sem], by simp [go_sem], by simp [go_sem], by simp; omega⟩, ⟨by simp [go_sem], by simp [go_sem], by simp [go_sem], by simp [go_sem], by simp <;> omega⟩, ⟨by simp [go_sem]; rfl, by simp [go_sem]; rfl, by simp [go_sem], by simp [go_sem], by simp <;> omega⟩, bl3 (Below.refl _ _)⟩
  case round =>
    obtain ⟨i, q, r, rfl, rfl, i0, i1, hC, r0, r1, hG0, hG1, hG2, hB⟩ := hrel
    unfold RCell at hG0 hG1 hG2
    have HC := Lib.hid hC
    clear hC
    by_cases ci : 0 ≤ i
    · obtain ⟨b, hb⟩ : ∃ b, b = bitV m i := ⟨_, rfl⟩
      obtain ⟨b0, b1⟩ := bitV_01 m i
      have BT := Lib.hid (rbit_any m i (isR _) ci i1)
      have ST := Lib.hid (cut_step m i ci)
      rw [← hb] at b0 b1 BT ST
      clear hb
      by_cases cr : 10 ≤ 2 * r + b
      · go_wp2_with (first
          | (go_at_call 60; (with_reducible refine (BT.out _).mono ?_); rintro e w1 ⟨rfl, hn⟩; replace hG0 := carry2 hG0 hn; replace hG1 := carry2 hG1 hn; replace hG2 := carry2 hG2 hn; replace hB := hB.trans (hn.mono hB.size); clear hn)
          | (go_at_call 20; (with_reducible refine (radd_any q q (isR _) (isR _) _).mono ?_); rintro e w1 ⟨rfl, hn⟩; replace hG0 := carry2 hG0 hn; replace hG1 := carry2 hG1 hn; replace hG2 := carry2 hG2 hn; replace hB := hB.trans (hn.mono hB.size); clear hn))
        have st := ST.out
        have hc := HC.out
        have e1 : rhi (q + q) = rhi (2 * q + 1) := by unfold rhi; omega
        have e2 : IntKind.u64.wrap (lo (q + q) + 1) = lo (2 * q + 1) := by rw [IntKind.wrap_u64]; unfold lo; omega
        exact ⟨⟨i - 1, 2 * q + 1, 2 * r + b - 10, rfl, rfl, by omega, by omega, by rw [show i - 1 + 1 = i by omega]; omega, by omega, by omega,
          ((RCell.far (RCell.far hG0 (by omega)) (by omega)).far (by omega)), ((RCell.far (RCell.far hG1 (by omega)) (by omega)).far (by omega)), by rw [← e1, ← e2]; exact (RCell.put2 hG2).put1, ((hB.setCell (by simp <;> omega) _).setCell (by simp <;> omega) _).setCell (by simp <;> omega) _⟩, by simp [intOf]; omega⟩
      · go_wp2_with (first
          | (go_at_call 60; (with_reducible refine (BT.out _).mono ?_); rintro e w1 ⟨rfl, hn⟩; replace hG0 := carry2 hG0 hn; replace hG1 := carry2 hG1 hn; replace hG2 := carry2 hG2 hn; replace hB := hB.trans (hn.mono hB.size); clear hn)
          | (go_at_call 20; (with_reducible refine (radd_any q q (isR _) (isR _) _).mono ?_); rintro e w1 ⟨rfl, hn⟩; replace hG0 := carry2 hG0 hn; replace hG1 := carry2 hG1 hn; replace hG2 := carry2 hG2 hn; replace hB := hB.trans (hn.mono hB.size); clear hn))
        have st := ST.out
        have hc := HC.out
        have e1 : q + q = 2 * q := by omega
        rw [e1]
        exact ⟨⟨i - 1, 2 * q, 2 * r + b, rfl, rfl, by omega, by omega, by rw [show i - 1 + 1 = i by omega]; omega, by omega, by omega,
          (RCell.far (RCell.far hG0 (by omega)) (by omega)), (RCell.far (RCell.far hG1 (by omega)) (by omega)), RCell.put2 hG2, (hB.setCell (by simp <;> omega) _).setCell (by simp <;> omega) _⟩, by simp [intOf]; omega⟩
    · have e : i = -1 := by omega
      subst e
      go_wp2_with fail
      have hc : m = 10 * q + r := by
        have := HC.out
        rw [show (-1 : Int) + 1 = 0 by omega, cut] at this
        simpa using this
      have e1 : m / 10 = q := by omega
      have e2 : m % 10 = r := by omega
      rw [e1, e2]
      exact bodyPost_ret (v := .tuple #[.agg #[.int .u64 (rhi q), .int .u64 (lo q)], .int .u64 r]) (by simp [results, Tryd.results54, go_sem, hG1]) rfl ⟨rfl, (hB.setCell (by simp) _).setCell (by simp) _⟩

end Go.Proofs.YtdcllcbhepajeaaDoor
