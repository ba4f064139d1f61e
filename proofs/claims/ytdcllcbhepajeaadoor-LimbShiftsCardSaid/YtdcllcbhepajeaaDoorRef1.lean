/- The contracts of the reference's sums and products of 128 bits. -/
import Derived.Test.YtdcllcbhepajeaaDoorLimb
import Derived.Deep.RegionHeld3
namespace Go.Proofs.YtdcllcbhepajeaaDoor
open Go.RowKit Go.Proofs
set_option linter.unusedVariables false

theorem u64_not (a : Nat) (ha : a < 18446744073709551616) : bits .xor .u64 IntKind.u64.max (a : Int) = 18446744073709551615 - (a : Int) := by
  show IntKind.u64.wrap ((BitVec.ofInt 64 IntKind.u64.max ^^^ BitVec.ofInt 64 (a : Int)).toNat : Int) = _
  have h1 : BitVec.ofInt 64 IntKind.u64.max = BitVec.allOnes 64 := by decide
  rw [h1, BitVec.allOnes_xor, BitVec.toNat_not, ofInt_u64 a (by omega), IntKind.wrap_u64]
  omega
theorem u64_not' (a : Int) (h : 0 ≤ a) (ha : a ≤ 18446744073709551615) : bits .xor .u64 IntKind.u64.max a = 18446744073709551615 - a := by
  obtain ⟨x, rfl⟩ := Int.eq_ofNat_of_zero_le h
  exact u64_not x (by omega)

theorem rof_any (n : Int) (h1 : -9223372036854775808 ≤ n) (h2 : n ≤ 9223372036854775807) (w : World) :
    Calls Tryd.prog 18 #[.int .i64 n] w fun e w' => e = .returned (.agg #[.int .u64 (rhi n), .int .u64 (lo n)]) ∧ Below w.heap.size w w' := by
  by_cases h : n < 0
  · have E1 := Lib.hid (show (18446744073709551615 : Int) = rhi n by unfold rhi; omega)
    have E2 := Lib.hid (show IntKind.u64.wrap n = lo n by rw [IntKind.wrap_u64]; unfold lo; omega)
    go_enter Tryd.func18, Tryd.ntmps18
    go_wp2
    rw [E2.out, E1.out]
    exact bodyPost_ret (v := .agg #[.int .u64 (rhi n), .int .u64 (lo n)]) (by simp [results, Tryd.results18, go_sem]) rfl ⟨rfl, (Below.refl _ _).alloc (Nat.le_refl _) _⟩
  · have E1 := Lib.hid (show (0 : Int) = rhi n by unfold rhi; omega)
    have E2 := Lib.hid (show n = lo n by unfold lo; omega)
    go_enter Tryd.func18, Tryd.ntmps18
    go_wp2
    exact bodyPost_ret (v := .agg #[.int .u64 0, .int .u64 n]) (by simp [results, Tryd.results18, go_sem]) rfl ⟨by rw [← E1.out, ← E2.out], (Below.refl _ _).alloc (Nat.le_refl _) _⟩

theorem radd_any {ah al bh bl : Int} (x y : Int) (ha : IsR ah al x) (hb : IsR bh bl y) (w : World) :
    Calls Tryd.prog 20 #[.agg #[.int .u64 ah, .int .u64 al], .agg #[.int .u64 bh, .int .u64 bl]] w fun e w' =>
      e = .returned (.agg #[.int .u64 (rhi (x + y)), .int .u64 (lo (x + y))]) ∧ Below w.heap.size w w' := by
  obtain ⟨rfl, rfl⟩ := ha
  obtain ⟨rfl, rfl⟩ := hb
  obtain ⟨h1, h1'⟩ := rhi_range x
  obtain ⟨h2, h2'⟩ := rhi_range y
  obtain ⟨h3, h3'⟩ := lo_range x
  obtain ⟨h4, h4'⟩ := lo_range y
  go_enter Tryd.func20, Tryd.ntmps20
  go_wp2
  · have h : IntKind.u64.wrap (lo x + lo y) < lo x := by assumption
    rw [rhi_add_c x y h, rlo_add]
    exact bodyPost_ret (v := .agg #[.int .u64 (rhi (x + y)), .int .u64 (lo (x + y))]) (by simp [results, Tryd.results20, go_sem]) rfl
      ⟨rfl, (((Below.refl _ _).alloc (Nat.le_refl _) _).alloc (by simp) _).alloc (by simp <;> omega) _⟩
  · have h : lo x ≤ IntKind.u64.wrap (lo x + lo y) := by assumption
    rw [rhi_add_n x y h, rlo_add]
    exact bodyPost_ret (v := .agg #[.int .u64 (rhi (x + y)), .int .u64 (lo (x + y))]) (by simp [results, Tryd.results20, go_sem]) rfl
      ⟨rfl, (((Below.refl _ _).alloc (Nat.le_refl _) _).alloc (by simp) _).alloc (by simp <;> omega) _⟩

theorem rneg_any {ah al : Int} (x : Int) (ha : IsR ah al x) (w : World) :
    Calls Tryd.prog 24 #[.agg #[.int .u64 ah, .int .u64 al]] w fun e w' =>
      e = .returned (.agg #[.int .u64 (rhi (-x)), .int .u64 (lo (-x))]) ∧ Below w.heap.size w w' := by
  obtain ⟨rfl, rfl⟩ := ha
  obtain ⟨h1, h1'⟩ := rhi_range x
  obtain ⟨h3, h3'⟩ := lo_range x
  have n1 : IsR (18446744073709551615 - rhi x) (18446744073709551615 - lo x) (-x - 1) := by unfold IsR rhi lo; omega
  have n2 : -x - 1 + 1 = -x := by omega
  have N2 := Lib.hid n2
  clear n2
  have u1 := u64_not' (rhi x) h1 h1'
  have u2 := u64_not' (lo x) h3 h3'
  have hs : IntKind.u64.signed = false := rfl
  go_enter Tryd.func24, Tryd.ntmps24
  go_wp2_with fail
  refine (radd_any (-x - 1) 1 n1 ⟨by decide, by decide⟩ _).mono ?_
  rintro e w1 ⟨rfl, hb⟩
  obtain ⟨hc, hf⟩ := bcell hb
  rw [N2.out]
  go_wp2
  exact bodyPost_ret (v := .agg #[.int .u64 (rhi (-x)), .int .u64 (lo (-x))]) (by simp [results, Tryd.results24, go_sem, hc]) rfl
    ⟨rfl, ((bl2 hb).setCell (by simp) _).setCell (by simp) _⟩

theorem rwords_any (a b : Int) (h1 : 0 ≤ a) (h1' : a ≤ 18446744073709551615) (h2 : 0 ≤ b) (h2' : b ≤ 18446744073709551615) (w : World) :
    Calls Tryd.prog 56 #[.int .u64 a, .int .u64 b] w fun e w' =>
      e = .returned (.agg #[.int .u64 (rhi (a * b)), .int .u64 (lo (a * b))]) ∧ Below w.heap.size w w' := by
  obtain ⟨p1, p1'⟩ := half_bounds (a % 4294967296) (b % 4294967296) (by omega) (by omega) (by omega) (by omega)
  obtain ⟨p2, p2'⟩ := half_bounds (a / 4294967296) (b % 4294967296) (by omega) (by omega) (by omega) (by omega)
  obtain ⟨p3, p3'⟩ := half_bounds (a % 4294967296) (b / 4294967296) (by omega) (by omega) (by omega) (by omega)
  obtain ⟨p4, p4'⟩ := half_bounds (a / 4294967296) (b / 4294967296) (by omega) (by omega) (by omega) (by omega)
  go_enter Tryd.func56, Tryd.ntmps56
  go_wp2
  rw [words_hi a b h1 h1' h2 h2', words_lo a b h1 h1' h2 h2']
  exact bodyPost_ret (v := .agg #[.int .u64 (rhi (a * b)), .int .u64 (lo (a * b))]) (by simp [results, Tryd.results56, go_sem]) rfl ⟨rfl, (Below.refl _ _).alloc (Nat.le_refl _) _⟩

theorem rmul_any {ah al bh bl : Int} (x y : Int) (ha : IsR ah al x) (hb : IsR bh bl y) (w : World) :
    Calls Tryd.prog 38 #[.agg #[.int .u64 ah, .int .u64 al], .agg #[.int .u64 bh, .int .u64 bl]] w fun e w' =>
      e = .returned (.agg #[.int .u64 (rhi (x * y)), .int .u64 (lo (x * y))]) ∧ Below w.heap.size w w' := by
  obtain ⟨rfl, rfl⟩ := ha
  obtain ⟨rfl, rfl⟩ := hb
  obtain ⟨h1, h1'⟩ := rhi_range x
  obtain ⟨h2, h2'⟩ := rhi_range y
  obtain ⟨h3, h3'⟩ := lo_range x
  obtain ⟨h4, h4'⟩ := lo_range y
  have E := Lib.hid (rmul_walk x y)
  have E2 := Lib.hid (lo_lo_mul x y)
  go_enter Tryd.func38, Tryd.ntmps38
  go_wp2_with fail
  refine (rwords_any (lo x) (lo y) h3 h3' h4 h4' _).mono ?_
  rintro e w1 ⟨rfl, hb⟩
  obtain ⟨hc, hf⟩ := bcell hb
  obtain ⟨z0, z1, z2⟩ := sz3 hb
  go_wp2
  rw [E.out, E2.out]
  exact bodyPost_ret (v := .agg #[.int .u64 (rhi (x * y)), .int .u64 (lo (x * y))]) (by simp [results, Tryd.results38, go_sem, hc, z2]) rfl
    ⟨rfl, (((bl3 hb).setCell (by simp <;> omega) _).setCell (by simp <;> omega) _).alloc (by simp <;> omega) _⟩

theorem rprod_any (a b : Int) (h1 : -9223372036854775808 ≤ a) (h2 : a ≤ 9223372036854775807) (h3 : -9223372036854775808 ≤ b) (h4 : b ≤ 9223372036854775807) (w : World) :
    Calls Tryd.prog 39 #[.int .i64 a, .int .i64 b] w fun e w' =>
      e = .returned (.agg #[.int .u64 (rhi (a * b)), .int .u64 (lo (a * b))]) ∧ Below w.heap.size w w' := by
  go_enter Tryd.func39, Tryd.ntmps39
  go_wp2_with fail
  refine (rof_any a h1 h2 _).mono ?_
  rintro e w1 ⟨rfl, hb1⟩
  go_wp2_with fail
  refine (rof_any b h3 h4 _).mono ?_
  rintro e w2 ⟨rfl, hb2⟩
  replace hb1 := chain hb1 hb2
  clear hb2
  go_wp2_with fail
  refine (rmul_any a b ⟨rfl, rfl⟩ ⟨rfl, rfl⟩ _).mono ?_
  rintro e w3 ⟨rfl, hb3⟩
  replace hb1 := chain hb1 hb3
  clear hb3
  obtain ⟨hc, hf⟩ := bcell hb1
  go_wp2
  exact bodyPost_ret (v := .agg #[.int .u64 (rhi (a * b)), .int .u64 (lo (a * b))]) (by simp [results, Tryd.results39, go_sem, hc]) rfl
    ⟨rfl, ((bl1 hb1).setCell (by simp) _).setCell (by simp) _⟩

theorem rsign_any {ah al : Int} (x : Int) (ha : IsR ah al x) (w : World) :
    Calls Tryd.prog 31 #[.agg #[.int .u64 ah, .int .u64 al]] w fun e w' =>
      e = .returned (.int .i64 (sg (sv x))) ∧ Below w.heap.size w w' := by
  obtain ⟨rfl, rfl⟩ := ha
  obtain ⟨h1, h1'⟩ := rhi_range x
  obtain ⟨h3, h3'⟩ := lo_range x
  have B1 : ∀ a : Obj, Below w.heap.size w (w.alloc a) := fun a => bl1 (Below.refl _ _)
  by_cases c1 : rhi x / 9223372036854775808 = 1
  · have H := Lib.hid (show (-1 : Int) = sg (sv x) from (sg_neg (by have := hi_rhi x; omega)).symm)
    have c1' : (rhi x / 9223372036854775808 == 1) = true := by simp [c1]
    clear c1
    go_enter Tryd.func31, Tryd.ntmps31
    go_wp2
    go_ret
    exact ⟨ret_int H.out, B1 _⟩
  · have c1' : (rhi x / 9223372036854775808 == 1) = false := by simp [c1]
    have hh := hi_rhi x
    by_cases c2 : rhi x = 0
    · have c2' : (rhi x == 0) = true := by simp [c2]
      by_cases c3 : lo x = 0
      · have H := Lib.hid (show (0 : Int) = sg (sv x) by
          have e : sv x = 0 := by rw [sv_eq]; omega
          rw [e]; decide)
        have c3' : (lo x == 0) = true := by simp [c3]
        clear c1 c2 c3 hh
        go_enter Tryd.func31, Tryd.ntmps31
        go_wp2
        go_ret
        exact ⟨ret_int H.out, B1 _⟩
      · have H := Lib.hid (show (1 : Int) = sg (sv x) by
          have e : 0 < sv x := by rw [sv_eq]; omega
          unfold sg cmp3; rw [if_neg (by omega), if_neg (by omega)])
        have c3' : (lo x == 0) = false := by simp [c3]
        clear c1 c2 c3 hh
        go_enter Tryd.func31, Tryd.ntmps31
        go_wp2
        go_ret
        exact ⟨ret_int H.out, B1 _⟩
    · have H := Lib.hid (show (1 : Int) = sg (sv x) by
        have e : 0 < sv x := by rw [sv_eq]; omega
        unfold sg cmp3; rw [if_neg (by omega), if_neg (by omega)])
      have c2' : (rhi x == 0) = false := by simp [c2]
      clear c1 c2 hh
      go_enter Tryd.func31, Tryd.ntmps31
      go_wp2
      go_ret
      exact ⟨ret_int H.out, B1 _⟩

/-! ### the law's own Of and Is -/

theorem lof_any {ah al : Int} (x : Int) (ha : IsL ah al x) (w : World) :
    Calls Tryd.prog 15 #[.agg #[.int .i64 ah, .int .u64 al]] w fun e w' =>
      e = .returned (.agg #[.int .u64 (rhi x), .int .u64 (lo x)]) ∧ Below w.heap.size w w' := by
  obtain ⟨rfl, rfl⟩ := ha
  have E := Lib.hid (rhi_of_hi x)
  go_enter Tryd.func15, Tryd.ntmps15
  go_wp2
  rw [E.out]
  exact bodyPost_ret (v := .agg #[.int .u64 (rhi x), .int .u64 (lo x)]) (by simp [results, Tryd.results15, go_sem]) rfl ⟨rfl, ((Below.refl _ _).alloc (Nat.le_refl _) _).alloc (by simp) _⟩

theorem is_any {ah al bh bl : Int} (x y : Int) (ha : IsL ah al x) (hb : IsR bh bl y) (h : x % 340282366920938463463374607431768211456 = y % 340282366920938463463374607431768211456) (w : World) :
    Calls Tryd.prog 16 #[.agg #[.int .i64 ah, .int .u64 al], .agg #[.int .u64 bh, .int .u64 bl]] w fun e w' =>
      e = .returned (.bool true) ∧ Below w.heap.size w w' := by
  obtain ⟨rfl, rfl⟩ := hb
  rw [← rhi_congr h, ← lo_congr h]
  clear h
  go_enter Tryd.func16, Tryd.ntmps16
  go_wp2
  go_region_held3 (fun w' => w'.cell? ⟨w.heap.size, 0, none⟩ = some (.int .i64 ah) ∧ w'.cell? ⟨w.heap.size, 1, none⟩ = some (.int .u64 al) ∧ w'.cell? ⟨w.heap.size + 1, 0, none⟩ = some (.int .u64 (rhi x)) ∧ w'.cell? ⟨w.heap.size + 1, 1, none⟩ = some (.int .u64 (lo x)) ∧ Below w.heap.size w w')
    (first
      | exact ⟨by simp [go_sem], by simp [go_sem], by simp [go_sem], by simp [go_sem], (bl2 (Below.refl _ _)).drew⟩
      | exact ⟨by simp [go_sem, hc], by simp [go_sem, hc], by simp [go_sem, hc], by simp [go_sem, hc], bl2 (undrew hb)⟩)
    (first
      | (go_at_call 15; refine (lof_any x ha _).mono ?_; rintro e w1 ⟨rfl, hb⟩; obtain ⟨hc, hf⟩ := bcell hb))
  go_wp2
  go_ret
  exact ⟨rfl, bl2 (undrew hb)⟩

end Go.Proofs.YtdcllcbhepajeaaDoor
