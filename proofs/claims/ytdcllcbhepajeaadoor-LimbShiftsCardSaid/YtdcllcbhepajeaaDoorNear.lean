/- math.Ldexp and limb.Near: the float told is the nearest one. -/
import Derived.Test.YtdcllcbhepajeaaDoorLdE
import Derived.Test.YtdcllcbhepajeaaDoorText
import Derived.WalkSpells
namespace Go.Proofs.YtdcllcbhepajeaaDoor
open Go.RowKit Go.Proofs
set_option linter.unusedVariables false

theorem ldexp_any {r : Nat} (S : Int) (h0 : 1086 * 2 ^ 52 ≤ r) (h1 : r ≤ 1087 * 2 ^ 52) (s1 : 1 ≤ S) (s2 : S ≤ 64) (w : World) :
    Calls Tryd.prog 59 #[.float .f64 r, .int .i64 S] w fun e w' => e = .returned (.float .f64 (r + S.toNat * 2 ^ 52)) ∧ w = w' := by
  have L := Lib.hid (fun W => ldexp_in S h0 h1 s1 s2 W)
  generalize r + S.toNat * 2 ^ 52 = t at *
  clear h0 h1
  go_enter Tryd.func59, Tryd.ntmps59
  go_wp2_with fail
  refine (L.out _).mono ?_
  rintro e w1 ⟨rfl, rfl⟩
  go_wp2_with fail
  go_ret
  exact ⟨rfl, rfl⟩
theorem fl_convu (n : Int) (W : World) : (convert 29 65 (.int .u64 n)).run Tryd.prog W = .ok (.float .f64 (FloatKind.f64.nearest n)) W := by kernel_rfl
theorem fl_neg (e : Nat) (W : World) : (Op.unary .neg (.float .f64 e)).run Tryd.prog W = .ok (.float .f64 (Go.Op.negFloat .f64 e)) W := by kernel_rfl

/-- what Near computes of a great number: the mantissa, with something left or not -/
theorem near_parts {N : Nat} (hN : N ≤ 2 ^ 127) (hH : N / 18446744073709551616 ≠ 0) : ∃ (S M Z m : Int) (r : Nat), 1 ≤ S ∧ S ≤ 64 ∧ (Lib.bitLen (N / 18446744073709551616) : Int) = S
    ∧ bits .or .u64 (IntKind.u64.wrap (((N / 18446744073709551616 : Nat) : Int) * 2 ^ (64 - S).toNat)) (((N % 18446744073709551616 : Nat) : Int) / 2 ^ S.toNat) = M
    ∧ IntKind.u64.wrap (((N % 18446744073709551616 : Nat) : Int) * 2 ^ (64 - S).toNat) = Z ∧ bits .or .u64 M 1 = m ∧ 0 ≤ M ∧ M ≤ 18446744073709551615
    ∧ ((Z = 0 ∧ FloatKind.f64.nearest M = r) ∨ ((Z == 0) = false ∧ FloatKind.f64.nearest m = r)) ∧ 1086 * 2 ^ 52 ≤ r ∧ r ≤ 1087 * 2 ^ 52 ∧ r + S.toNat * 2 ^ 52 = Fl.rg N := by
  obtain ⟨s, s1, s2, hb, hl, h0, hlt⟩ := near_len hN hH
  obtain ⟨e1, e2⟩ := near_mant (N := N) s1 s2 hlt
  have hM : N / 2 ^ s < 18446744073709551616 := by
    rw [Nat.div_lt_iff_lt_mul (Nat.two_pow_pos s)]
    have h2 : N < 2 ^ (N.log2 + 1) := Nat.lt_log2_self
    rw [hl, Fl.pw (show 63 + s + 1 = 64 + s by omega)] at h2
    exact h2
  have hst := Fl.stick_log2 hl h0
  have hrg := Fl.rg_stick hl h0
  have hs0 : Fl.stick N s ≠ 0 := by intro h; rw [h] at hst; simp at hst
  have hr := Fl.rg_lt (Fl.stick N s) hs0 (by omega)
  rw [hst] at hr
  have hsl : Fl.stick N s < 18446744073709551616 := by
    have := (Nat.log2_lt hs0 (k := 64)).1 (by omega)
    exact this
  refine ⟨s, ((N / 2 ^ s : Nat) : Int), ((N % 2 ^ s * 2 ^ (64 - s) : Nat) : Int), ((N / 2 ^ s / 2 * 2 + 1 : Nat) : Int), Fl.rg (Fl.stick N s), by omega, by omega, by rw [hb], ?_, ?_, near_one _ hM, Int.natCast_nonneg _, by generalize N / 2 ^ s = q at hM ⊢; omega, ?_, by omega, by omega, by rw [hrg]; simp⟩
  · rw [show ((64 : Int) - (s : Int)).toNat = 64 - s by omega]; simpa using e1
  · rw [show ((64 : Int) - (s : Int)).toNat = 64 - s by omega]; exact e2
  · by_cases hz : N % 2 ^ s = 0
    · left
      refine ⟨by rw [hz]; simp, ?_⟩
      have : Fl.stick N s = N / 2 ^ s := by unfold Fl.stick; rw [if_pos hz]
      rw [this] at hst hs0 ⊢
      rw [Fl.near_pos _ (by omega) (by rw [Int.toNat_natCast]; omega), Int.toNat_natCast]
    · right
      have hp := Nat.two_pow_pos (64 - s)
      refine ⟨?_, ?_⟩
      · have : N % 2 ^ s * 2 ^ (64 - s) ≠ 0 := Nat.mul_ne_zero hz (by omega)
        generalize N % 2 ^ s * 2 ^ (64 - s) = z at this ⊢
        rw [beq_eq_false_iff_ne]; omega
      · have : Fl.stick N s = N / 2 ^ s / 2 * 2 + 1 := by unfold Fl.stick; rw [if_neg hz]
        rw [this] at hst hs0 ⊢
        rw [Fl.near_pos _ (by omega) (by rw [Int.toNat_natCast]; omega), Int.toNat_natCast]
theorem near_any {ah al : Int} (x : Int) (ha : IsL ah al x) (w : World) :
    Calls Tryd.prog 43 #[.agg #[.int .i64 ah, .int .u64 al]] w fun e w' => e = .returned (.float .f64 (FloatKind.f64.nearest (sv x))) ∧ Below w.heap.size w w' := by
  obtain ⟨rfl, rfl⟩ := ha
  obtain ⟨h1, h1'⟩ := hi_range x
  obtain ⟨h3, h3'⟩ := lo_range x
  obtain ⟨g1, g2⟩ := mg_range x
  have ml := mg_log2 x
  have SZ := Lib.hid (fun W => size_any (ah := hi x) (al := lo x) x ⟨rfl, rfl⟩ W)
  have NG : Hid (hi x < 0 → Go.Op.negFloat .f64 (FloatKind.f64.nearest (mg x)) = FloatKind.f64.nearest (sv x)) := Lib.hid (fun h => by
    obtain ⟨e, e2⟩ := mg_neg h
    rw [e] at ml
    rw [Fl.near_neg (sv x) e2 (by omega), e])
  have PO : Hid (¬ hi x < 0 → FloatKind.f64.nearest (mg x) = FloatKind.f64.nearest (sv x)) := Lib.hid (fun h => by
    obtain ⟨e, e2⟩ := mg_pos (x := x) (by omega)
    rw [e])
  have NP := Fl.near_pos (mg x)
  obtain ⟨N, hN⟩ : ∃ N : Nat, (mg x) = N := ⟨(mg x).toNat, by omega⟩
  rw [hN] at g1 g2 SZ NG PO ml NP
  rw [Int.toNat_natCast] at ml NP
  clear hN
  generalize sv x = V at *
  generalize FloatKind.f64.nearest V = v at *
  obtain ⟨H, hH⟩ : ∃ H : Int, (N : Int) / 18446744073709551616 = H := ⟨_, rfl⟩
  obtain ⟨L, hL⟩ : ∃ L : Int, (N : Int) % 18446744073709551616 = L := ⟨_, rfl⟩
  rw [hH, hL] at SZ
  have H0 : 0 ≤ H := by omega
  have H1 : H ≤ 18446744073709551615 := by omega
  have L0 : 0 ≤ L := by omega
  have L1 : L ≤ 18446744073709551615 := by omega
  by_cases hh : H = 0
  · have hLN : L = N := by omega
    subst hLN
    subst hh
    have CL := fl_convu (N : Int)
    generalize FloatKind.f64.nearest (N : Int) = p at *
    clear NP ml hH hL
    generalize (N : Int) = L at *
    by_cases hn : hi x < 0
    case' pos =>
      have E := Lib.hid (NG.out hn)
      have FN := Lib.hid (fl_neg p)
      rw [E.out] at FN
    case' neg =>
      obtain rfl : p = v := PO.out hn
      have FN := Lib.hid (fl_neg p)
    all_goals
      clear NG PO
      generalize hi x = X at *
      generalize lo x = Y at *
      have CL := Lib.hid CL
      go_enter Tryd.func43, Tryd.ntmps43
      go_wp2_with fail
      refine (SZ.out _).mono ?_
      rintro e w1 ⟨rfl, hb⟩
      obtain ⟨hc, hf⟩ := bcell hb
      have hz := sz1 hb
      have CLo := CL.out
      have FNo := FN.out
      go_wp2_with fail
      go_ret
      exact ⟨rfl, bl1 hb⟩
  · obtain ⟨S, M, Z, m, r, s1, s2, hbl, e1, e2, e3, m0, m1, hz, r0, r1, hr⟩ := near_parts (N := N) (by omega) (by omega)
    rw [show ((N / 18446744073709551616 : Nat) : Int) = H by omega, show ((N % 18446744073709551616 : Nat) : Int) = L by omega] at e1
    rw [show ((N % 18446744073709551616 : Nat) : Int) = L by omega] at e2
    have BL := Lib.hid (fun W => Tryd.bits_Len64 H W H0 H1)
    rw [show H.toNat = N / 18446744073709551616 by omega, hbl] at BL
    have LD := Lib.hid (fun W => ldexp_any S r0 r1 s1 s2 W)
    rw [hr, ← NP (by omega) (by omega)] at LD
    generalize FloatKind.f64.nearest (N : Int) = p at *
    have CL := Lib.hid (fl_convu L)
    generalize FloatKind.f64.nearest L = q at *
    have hcase : (hi x < 0 ∧ Go.Op.negFloat .f64 p = v) ∨ (¬ hi x < 0 ∧ p = v) := by
      by_cases hn : hi x < 0
      · exact .inl ⟨hn, NG.out hn⟩
      · exact .inr ⟨hn, PO.out hn⟩
    clear NG PO
    have CM := Lib.hid (fl_convu M)
    have Cm := Lib.hid (fl_convu m)
    have hH1 : 1 ≤ H := by omega
    clear NP ml hH hL hbl hr r0 r1 g1 g2 hh
    have E1 := Lib.hid e1
    have E2 := Lib.hid e2
    have E3 := Lib.hid e3
    clear e1 e2 e3
    have e5 : IntKind.i64.wrap (64 - S) = 64 - S := by rw [IntKind.wrap_i64]; omega
    have E5 := Lib.hid e5
    clear e5
    rcases hz with ⟨rfl, hz⟩ | ⟨hz0, hz⟩
    case' inl =>
      rw [hz] at CM
      have HZ := Lib.hid (show ((0 : Int) == 0) = true from rfl)
    case' inr =>
      rw [hz] at Cm
      have HZ := Lib.hid hz0
      clear hz0
    all_goals
      clear hz
      rcases hcase with ⟨hn, rfl⟩ | ⟨hn, rfl⟩
    all_goals
      have FN := Lib.hid (fl_neg p)
      generalize hi x = X at *
      generalize lo x = Y at *
      go_enter Tryd.func43, Tryd.ntmps43
      go_wp2_with fail
      refine (SZ.out _).mono ?_
      rintro e w1 ⟨rfl, hb⟩
      obtain ⟨hc, hf⟩ := bcell hb
      have hz := sz1 hb
      have CLo := CL.out
      go_wp2_with fail
      refine (BL.out _).mono ?_
      rintro e w2 ⟨rfl, rfl⟩
      have E1o := E1.out
      have E5o := E5.out
      go_wp2_with fail
      go_quiet (fail)
      have E2o := E2.out
      have HZo := HZ.out
      have E3o := E3.out
      have CMo := CM.out
      have Cmo := Cm.out
      have FNo := FN.out
      go_wp2_with fail
      refine (LD.out _).mono ?_
      rintro e w3 ⟨rfl, rfl⟩
      go_wp2_with fail
      go_ret
      exact ⟨rfl, below_drewN (bl1 hb) _⟩
end Go.Proofs.YtdcllcbhepajeaaDoor
