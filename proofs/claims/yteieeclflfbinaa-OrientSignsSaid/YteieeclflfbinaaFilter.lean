/- The contracts of the filter by floats: package orient's and the law's. (Printed by mkfilter.py.) -/
import Derived.Test.YteieeclflfbinaaFw
import Derived.Test.YteieeclflfbinaaGeo2
import Derived.Test.YteieeclflfbinaaKin
namespace Go.Proofs.Yteieeclflfbinaa
open Go.RowKit Go.Proofs
set_option linter.unusedVariables false

def Bd (n : Int) (k : Nat) : Prop := n.natAbs ≤ 2 ^ k
theorem Bd.up {n : Int} {k l : Nat} (h : Bd n k) (hl : k ≤ l) : Bd n l := Nat.le_trans h (Nat.pow_le_pow_right (by decide) hl)
set_option exponentiation.threshold 2000 in
theorem Bd.lt {n : Int} {k : Nat} (h : Bd n k) (hk : k < 1000) : n.natAbs < 2 ^ 1000 := Nat.lt_of_le_of_lt h (Nat.pow_lt_pow_right (by decide) hk)
theorem Bd.R {n : Int} {k : Nat} (h : Bd n k) : Bd (Fl.R n) (k + 1) := by
  have := Fl.R_bounds n
  unfold Bd at *
  rw [Nat.pow_succ]
  omega
theorem Bd.mul {a b : Int} {k l : Nat} (h : Bd a k) (g : Bd b l) : Bd (a * b) (k + l) := by
  unfold Bd at *
  rw [Int.natAbs_mul, Nat.pow_add]
  exact Nat.mul_le_mul h g
theorem Bd.add {a b : Int} {k : Nat} (h : Bd a k) (g : Bd b k) : Bd (a + b) (k + 1) := by unfold Bd at *; rw [Nat.pow_succ]; omega
theorem Bd.sub {a b : Int} {k : Nat} (h : Bd a k) (g : Bd b k) : Bd (a - b) (k + 1) := by unfold Bd at *; rw [Nat.pow_succ]; omega
theorem Bd.ab {a : Int} {k : Nat} (h : Bd a k) : Bd (Fl.ab a) k := by unfold Bd Fl.ab at *; omega
theorem Bd.wd {n : Int} (h : Wd n) : Bd n 31 := by unfold Bd Wd at *; omega

theorem fl_conv (n : Int) (W : World) : (convert 3 69 (.int .i64 n)).run Try.prog W = .ok (.float .f64 (FloatKind.f64.nearest n)) W := by kernel_rfl
theorem fl_neg (e : Nat) (W : World) : (Op.unary .neg (.float .f64 e)).run Try.prog W = .ok (.float .f64 (Go.Op.negFloat .f64 e)) W := by kernel_rfl
theorem fl_gtr {s e : Nat} {p q j : Int} (hs : Fl.FW s p j) (he : Fl.FW e q j) (b : Bool) (hb : b = decide (q < p)) : (FloatKind.f64.format.order s e == some Ordering.gt) = b := by
  show (Ieee.double.order s e == some Ordering.gt) = b
  rw [Fl.FW.order hs he, hb]
  rcases Int.lt_trichotomy p q with h | h | h
  · rw [show compare p q = .lt from Int.compare_eq_lt.2 h, decide_eq_false (by omega)]; rfl
  · rw [show compare p q = .eq from Int.compare_eq_eq.2 h, decide_eq_false (by omega)]; rfl
  · rw [show compare p q = .gt from Int.compare_eq_gt.2 h, decide_eq_true h]; rfl
theorem fl_lss {s e : Nat} {p q j : Int} (hs : Fl.FW s p j) (he : Fl.FW e q j) (b : Bool) (hb : b = decide (p < q)) : (FloatKind.f64.format.order s e == some Ordering.lt) = b := by
  show (Ieee.double.order s e == some Ordering.lt) = b
  rw [Fl.FW.order hs he, hb]
  rcases Int.lt_trichotomy p q with h | h | h
  · rw [show compare p q = .lt from Int.compare_eq_lt.2 h, decide_eq_true h]; rfl
  · rw [show compare p q = .eq from Int.compare_eq_eq.2 h, decide_eq_false (by omega)]; rfl
  · rw [show compare p q = .gt from Int.compare_eq_gt.2 h, decide_eq_false (by omega)]; rfl

theorem f1_any (x y z : Int) (w : World) :
    Calls Try.prog 49 #[.agg #[.int .i64 x, .int .i64 y, .int .i64 z]] w fun e w' => e = .returned (.tuple #[.float .f64 (FloatKind.f64.nearest x), .float .f64 (FloatKind.f64.nearest y), .float .f64 (FloatKind.f64.nearest z)]) ∧ Below w.heap.size w w' := by
  have C := fl_conv
  go_enter Try.func49, Try.ntmps49
  go_wp2_with fail
  go_quiet (fail)
  go_wp2_with fail
  go_ret3
  exact ⟨rfl, bl1 (show Below _ _ _ from ⟨rfl, rfl, rfl, Nat.le_refl _, fun _ _ => rfl⟩)⟩

theorem u64_low63 (r : Nat) (h : r < 18446744073709551616) : bits .andNot .u64 (r : Int) 9223372036854775808 = ((r % 2 ^ 63 : Nat) : Int) := by
  show IntKind.u64.wrap ((BitVec.ofInt 64 (r : Int) &&& ~~~ BitVec.ofInt 64 9223372036854775808).toNat : Int) = _
  have e : (BitVec.ofInt 64 (r : Int) &&& ~~~ BitVec.ofInt 64 9223372036854775808).toNat = r % 2 ^ 63 := by
    rw [BitVec.toNat_and, show (BitVec.ofInt 64 (r : Int)).toNat = r by simp; omega, show (~~~ BitVec.ofInt 64 9223372036854775808).toNat = 2 ^ 63 - 1 by decide, Nat.and_two_pow_sub_one_eq_mod]
  rw [e, IntKind.wrap_u64]
  omega
theorem fl_bits (r : Nat) (W : World) : (callFunc 61 #[.float .f64 r]).run Try.prog W = .ok (.value (.int .u64 r)) W := by kernel_rfl
theorem fl_from (r : Nat) (W : World) : (callFunc 60 #[.int .u64 (r : Int)]).run Try.prog W = .ok (.value (.float .f64 r)) W := by kernel_rfl
theorem FW_lt {r : Nat} {n j : Int} (h : Fl.FW r n j) : r < 18446744073709551616 := by
  obtain ⟨s, rung, m, e, rfl, hr, _⟩ := h
  have := Fl.word_parts s rung hr
  unfold Ieee.Format.word
  rw [Fl.double_sign]
  split <;> omega
theorem abs_any {r : Nat} {n j : Int} (h : Fl.FW r n j) (w : World) :
    Calls Try.prog 50 #[.float .f64 r] w fun e w' => e = .returned (.float .f64 (r % 2 ^ 63)) ∧ w = w' := by
  have E := u64_low63 r (FW_lt h)
  obtain ⟨q, hq⟩ : ∃ q, q = r % 2 ^ 63 := ⟨_, rfl⟩
  rw [← hq] at E ⊢
  clear hq h
  have F1 := fl_bits r
  have F2 := fl_from q
  go_enter Try.func50, Try.ntmps50
  go_wp2_with (first | simp only [F1] | simp only [F2])
  go_ret
  exact ⟨rfl, rfl⟩
theorem fl_max {r : Nat} {n j : Int} (h : Fl.FW r n j) (W : World) : (Builtin.max_ #[69, 69] 69 #[.float .f64 r, .float .f64 (Go.Op.negFloat .f64 r)]).run Try.prog W = .ok (.float .f64 (r % 2 ^ 63)) W := by
  have ho := Fl.FW.order h h.neg
  have e : ∀ x y : Nat, (Builtin.max_ #[69, 69] 69 #[.float .f64 x, .float .f64 y]).run Try.prog W = match Ieee.double.order x y with
      | some .lt => .ok (.float .f64 y) W
      | some .gt => .ok (.float .f64 x) W
      | some .eq => .ok (.float .f64 (if (Ieee.double.read x).neg then y else x)) W
      | none => (Builtin.max_ #[69, 69] 69 #[.float .f64 x, .float .f64 y]).run Try.prog W := by
    intro x y
    cases hc : Ieee.double.order x y with
    | none => rfl
    | some c =>
      have hc' : FloatKind.f64.format.order x y = some c := hc
      cases c <;> (simp [Builtin.max_, Builtin.max2, hc']; try rfl)
  rw [e, ho]
  obtain ⟨s, rung, m, e1, rfl, hr, h2, a, b, hab, he⟩ := h
  have p1 := Fl.ipow_pos a
  have p2 := Fl.ipow_pos b
  have hw := (Fl.word_parts s rung hr).2
  have hn : Go.Op.negFloat .f64 (Ieee.double.word s rung) = Ieee.double.word (!s) rung := Fl.neg_word s rung hr
  have h0 : Ieee.double.word false rung = rung := by unfold Ieee.Format.word; rfl
  rw [hw, hn, h2 s]
  have hs : (0 < n → s = false) ∧ (n < 0 → s = true) := by
    constructor
    · intro hp
      cases s
      · rfl
      · exfalso
        have := Int.mul_pos hp p2
        rw [← he] at this
        unfold Fl.sgn at this
        simp only [if_true, Int.neg_mul] at this
        have := Int.mul_nonneg (Int.natCast_nonneg m) (Int.le_of_lt p1)
        omega
    · intro hp
      cases s
      · exfalso
        have h3 := Int.mul_pos (show 0 < -n by omega) p2
        rw [Int.neg_mul, ← he] at h3
        unfold Fl.sgn at h3
        simp only [Bool.false_eq_true, if_false] at h3
        have := Int.mul_nonneg (Int.natCast_nonneg m) (Int.le_of_lt p1)
        omega
      · rfl
  rcases Int.lt_trichotomy n 0 with hp | hp | hp
  · rw [show compare n (-n) = .lt from Int.compare_eq_lt.2 (by omega), hs.2 hp]
    simp only [Bool.not_true, h0]
  · rw [show compare n (-n) = .eq from Int.compare_eq_eq.2 (by omega)]
    cases s
    · simp [Ieee.Datum.neg, h0]
    · simp [Ieee.Datum.neg, h0]
  · rw [show compare n (-n) = .gt from Int.compare_eq_gt.2 (by omega), hs.1 hp]
    simp only [h0]
theorem labs_any {r : Nat} {n j : Int} (h : Fl.FW r n j) (w : World) :
    Calls Try.prog 35 #[.float .f64 r] w fun e w' => e = .returned (.float .f64 (r % 2 ^ 63)) ∧ w = w' := by
  have N := fl_neg r
  have M := fl_max h
  go_enter Try.func35, Try.ntmps35
  go_wp2_with fail
  go_ret
  exact ⟨rfl, rfl⟩

theorem m0 {x y : Nat} {p q : Int} (hx : Fl.FW x p 0) (hy : Fl.FW y q 0) (hn : (p * q).natAbs < 2 ^ 1000) : ∃ r, floatBits .mul .f64 x y = some r ∧ Fl.FW r (Fl.R (p * q)) 0 := Fl.FW.mul hx hy hn (by decide) (by decide)
theorem a0 {x y : Nat} {p q : Int} (hx : Fl.FW x p 0) (hy : Fl.FW y q 0) (hn : (p + q).natAbs < 2 ^ 1000) : ∃ r, floatBits .add .f64 x y = some r ∧ Fl.FW r (Fl.R (p + q)) 0 := Fl.FW.add hx hy hn (by decide) (by decide)
theorem s0 {x y : Nat} {p q : Int} (hx : Fl.FW x p 0) (hy : Fl.FW y q 0) (hn : (p - q).natAbs < 2 ^ 1000) : ∃ r, floatBits .sub .f64 x y = some r ∧ Fl.FW r (Fl.R (p - q)) 0 := Fl.FW.sub hx hy hn (by decide) (by decide)

set_option maxHeartbeats 4000000 in
set_option maxRecDepth 20000 in
theorem filter_any (px py pz qx qy qz rx ry rz : Int) (bpx : Wd px) (bpy : Wd py) (bpz : Wd pz) (bqx : Wd qx) (bqy : Wd qy) (bqz : Wd qz) (brx : Wd rx) (bry : Wd ry) (brz : Wd rz) (w : World) :
    Calls Try.prog 33 #[.agg #[.int .i64 px, .int .i64 py, .int .i64 pz], .agg #[.int .i64 qx, .int .i64 qy, .int .i64 qz], .agg #[.int .i64 rx, .int .i64 ry, .int .i64 rz]] w fun e w' =>
      e = .returned (.int .i64 (Fl.filt px py pz qx qy qz rx ry rz)) ∧ Below w.heap.size w w' := by
  obtain ⟨PX', hpx⟩ : ∃ w, w = FloatKind.f64.nearest px := ⟨_, rfl⟩
  have fpx : Fl.FW PX' px 0 := by rw [hpx]; exact Fl.FW.small (Fl.FW.ofInt px ((Bd.wd bpx).lt (by decide))) (by unfold Wd at bpx; omega)
  have kpx := Bd.wd bpx
  obtain ⟨PY', hpy⟩ : ∃ w, w = FloatKind.f64.nearest py := ⟨_, rfl⟩
  have fpy : Fl.FW PY' py 0 := by rw [hpy]; exact Fl.FW.small (Fl.FW.ofInt py ((Bd.wd bpy).lt (by decide))) (by unfold Wd at bpy; omega)
  have kpy := Bd.wd bpy
  obtain ⟨PZ', hpz⟩ : ∃ w, w = FloatKind.f64.nearest pz := ⟨_, rfl⟩
  have fpz : Fl.FW PZ' pz 0 := by rw [hpz]; exact Fl.FW.small (Fl.FW.ofInt pz ((Bd.wd bpz).lt (by decide))) (by unfold Wd at bpz; omega)
  have kpz := Bd.wd bpz
  obtain ⟨QX', hqx⟩ : ∃ w, w = FloatKind.f64.nearest qx := ⟨_, rfl⟩
  have fqx : Fl.FW QX' qx 0 := by rw [hqx]; exact Fl.FW.small (Fl.FW.ofInt qx ((Bd.wd bqx).lt (by decide))) (by unfold Wd at bqx; omega)
  have kqx := Bd.wd bqx
  obtain ⟨QY', hqy⟩ : ∃ w, w = FloatKind.f64.nearest qy := ⟨_, rfl⟩
  have fqy : Fl.FW QY' qy 0 := by rw [hqy]; exact Fl.FW.small (Fl.FW.ofInt qy ((Bd.wd bqy).lt (by decide))) (by unfold Wd at bqy; omega)
  have kqy := Bd.wd bqy
  obtain ⟨QZ', hqz⟩ : ∃ w, w = FloatKind.f64.nearest qz := ⟨_, rfl⟩
  have fqz : Fl.FW QZ' qz 0 := by rw [hqz]; exact Fl.FW.small (Fl.FW.ofInt qz ((Bd.wd bqz).lt (by decide))) (by unfold Wd at bqz; omega)
  have kqz := Bd.wd bqz
  obtain ⟨RX', hrx⟩ : ∃ w, w = FloatKind.f64.nearest rx := ⟨_, rfl⟩
  have frx : Fl.FW RX' rx 0 := by rw [hrx]; exact Fl.FW.small (Fl.FW.ofInt rx ((Bd.wd brx).lt (by decide))) (by unfold Wd at brx; omega)
  have krx := Bd.wd brx
  obtain ⟨RY', hry⟩ : ∃ w, w = FloatKind.f64.nearest ry := ⟨_, rfl⟩
  have fry : Fl.FW RY' ry 0 := by rw [hry]; exact Fl.FW.small (Fl.FW.ofInt ry ((Bd.wd bry).lt (by decide))) (by unfold Wd at bry; omega)
  have kry := Bd.wd bry
  obtain ⟨RZ', hrz⟩ : ∃ w, w = FloatKind.f64.nearest rz := ⟨_, rfl⟩
  have frz : Fl.FW RZ' rz 0 := by rw [hrz]; exact Fl.FW.small (Fl.FW.ofInt rz ((Bd.wd brz).lt (by decide))) (by unfold Wd at brz; omega)
  have krz := Bd.wd brz
  obtain ⟨wU, hU, fU⟩ := m0 fqy frz (Bd.lt (Bd.mul kqy krz) (by decide))
  have kU := Bd.R (Bd.mul kqy krz)
  have HU := fun W => run_float_arith (P := Try.prog) W .mul 69 .f64 _ _ _ hU
  obtain ⟨wV, hV, fV⟩ := m0 fqz fry (Bd.lt (Bd.mul kqz kry) (by decide))
  have kV := Bd.R (Bd.mul kqz kry)
  have HV := fun W => run_float_arith (P := Try.prog) W .mul 69 .f64 _ _ _ hV
  obtain ⟨wU2, hU2, fU2⟩ := m0 fqz frx (Bd.lt (Bd.mul kqz krx) (by decide))
  have kU2 := Bd.R (Bd.mul kqz krx)
  have HU2 := fun W => run_float_arith (P := Try.prog) W .mul 69 .f64 _ _ _ hU2
  obtain ⟨wV2, hV2, fV2⟩ := m0 fqx frz (Bd.lt (Bd.mul kqx krz) (by decide))
  have kV2 := Bd.R (Bd.mul kqx krz)
  have HV2 := fun W => run_float_arith (P := Try.prog) W .mul 69 .f64 _ _ _ hV2
  obtain ⟨wU3, hU3, fU3⟩ := m0 fqx fry (Bd.lt (Bd.mul kqx kry) (by decide))
  have kU3 := Bd.R (Bd.mul kqx kry)
  have HU3 := fun W => run_float_arith (P := Try.prog) W .mul 69 .f64 _ _ _ hU3
  obtain ⟨wV3, hV3, fV3⟩ := m0 fqy frx (Bd.lt (Bd.mul kqy krx) (by decide))
  have kV3 := Bd.R (Bd.mul kqy krx)
  have HV3 := fun W => run_float_arith (P := Try.prog) W .mul 69 .f64 _ _ _ hV3
  obtain ⟨wD0, hD0, fD0⟩ := s0 fU fV (Bd.lt (Bd.sub (kU.up (l := 63) (by decide)) (kV.up (by decide))) (by decide))
  have kD0 := Bd.R (Bd.sub (kU.up (l := 63) (by decide)) (kV.up (by decide)))
  have HD0 := fun W => run_float_arith (P := Try.prog) W .sub 69 .f64 _ _ _ hD0
  obtain ⟨wT0, hT0, fT0⟩ := m0 fpx fD0 (Bd.lt (Bd.mul kpx kD0) (by decide))
  have kT0 := Bd.R (Bd.mul kpx kD0)
  have HT0 := fun W => run_float_arith (P := Try.prog) W .mul 69 .f64 _ _ _ hT0
  obtain ⟨wD1, hD1, fD1⟩ := s0 fU2 fV2 (Bd.lt (Bd.sub (kU2.up (l := 63) (by decide)) (kV2.up (by decide))) (by decide))
  have kD1 := Bd.R (Bd.sub (kU2.up (l := 63) (by decide)) (kV2.up (by decide)))
  have HD1 := fun W => run_float_arith (P := Try.prog) W .sub 69 .f64 _ _ _ hD1
  obtain ⟨wT1, hT1, fT1⟩ := m0 fpy fD1 (Bd.lt (Bd.mul kpy kD1) (by decide))
  have kT1 := Bd.R (Bd.mul kpy kD1)
  have HT1 := fun W => run_float_arith (P := Try.prog) W .mul 69 .f64 _ _ _ hT1
  obtain ⟨wD2, hD2, fD2⟩ := s0 fU3 fV3 (Bd.lt (Bd.sub (kU3.up (l := 63) (by decide)) (kV3.up (by decide))) (by decide))
  have kD2 := Bd.R (Bd.sub (kU3.up (l := 63) (by decide)) (kV3.up (by decide)))
  have HD2 := fun W => run_float_arith (P := Try.prog) W .sub 69 .f64 _ _ _ hD2
  obtain ⟨wT2, hT2, fT2⟩ := m0 fpz fD2 (Bd.lt (Bd.mul kpz kD2) (by decide))
  have kT2 := Bd.R (Bd.mul kpz kD2)
  have HT2 := fun W => run_float_arith (P := Try.prog) W .mul 69 .f64 _ _ _ hT2
  obtain ⟨wS12, hS12, fS12⟩ := a0 fT0 fT1 (Bd.lt (Bd.add (kT0.up (l := 97) (by decide)) (kT1.up (by decide))) (by decide))
  have kS12 := Bd.R (Bd.add (kT0.up (l := 97) (by decide)) (kT1.up (by decide)))
  have HS12 := fun W => run_float_arith (P := Try.prog) W .add 69 .f64 _ _ _ hS12
  obtain ⟨wS, hS, fS⟩ := a0 fS12 fT2 (Bd.lt (Bd.add (kS12.up (l := 99) (by decide)) (kT2.up (by decide))) (by decide))
  have kS := Bd.R (Bd.add (kS12.up (l := 99) (by decide)) (kT2.up (by decide)))
  have HS := fun W => run_float_arith (P := Try.prog) W .add 69 .f64 _ _ _ hS
  have fapx := Fl.FW.abs fpx
  have kapx := Bd.ab kpx
  have Aapx := Lib.hid (fun W => abs_any fpx W)
  obtain ⟨wapx, eapx⟩ : ∃ a, a = PX' % 2 ^ 63 := ⟨_, rfl⟩
  rw [← eapx] at fapx Aapx
  have faU := Fl.FW.abs fU
  have kaU := Bd.ab kU
  have AaU := Lib.hid (fun W => abs_any fU W)
  obtain ⟨waU, eaU⟩ : ∃ a, a = wU % 2 ^ 63 := ⟨_, rfl⟩
  rw [← eaU] at faU AaU
  have faV := Fl.FW.abs fV
  have kaV := Bd.ab kV
  have AaV := Lib.hid (fun W => abs_any fV W)
  obtain ⟨waV, eaV⟩ : ∃ a, a = wV % 2 ^ 63 := ⟨_, rfl⟩
  rw [← eaV] at faV AaV
  obtain ⟨wW0, hW0, fW0⟩ := a0 faU faV (Bd.lt (Bd.add (kaU.up (l := 63) (by decide)) (kaV.up (by decide))) (by decide))
  have kW0 := Bd.R (Bd.add (kaU.up (l := 63) (by decide)) (kaV.up (by decide)))
  have HW0 := fun W => run_float_arith (P := Try.prog) W .add 69 .f64 _ _ _ hW0
  obtain ⟨wZ0, hZ0, fZ0⟩ := m0 fapx fW0 (Bd.lt (Bd.mul kapx kW0) (by decide))
  have kZ0 := Bd.R (Bd.mul kapx kW0)
  have HZ0 := fun W => run_float_arith (P := Try.prog) W .mul 69 .f64 _ _ _ hZ0
  have fapy := Fl.FW.abs fpy
  have kapy := Bd.ab kpy
  have Aapy := Lib.hid (fun W => abs_any fpy W)
  obtain ⟨wapy, eapy⟩ : ∃ a, a = PY' % 2 ^ 63 := ⟨_, rfl⟩
  rw [← eapy] at fapy Aapy
  have faU2 := Fl.FW.abs fU2
  have kaU2 := Bd.ab kU2
  have AaU2 := Lib.hid (fun W => abs_any fU2 W)
  obtain ⟨waU2, eaU2⟩ : ∃ a, a = wU2 % 2 ^ 63 := ⟨_, rfl⟩
  rw [← eaU2] at faU2 AaU2
  have faV2 := Fl.FW.abs fV2
  have kaV2 := Bd.ab kV2
  have AaV2 := Lib.hid (fun W => abs_any fV2 W)
  obtain ⟨waV2, eaV2⟩ : ∃ a, a = wV2 % 2 ^ 63 := ⟨_, rfl⟩
  rw [← eaV2] at faV2 AaV2
  obtain ⟨wW1, hW1, fW1⟩ := a0 faU2 faV2 (Bd.lt (Bd.add (kaU2.up (l := 63) (by decide)) (kaV2.up (by decide))) (by decide))
  have kW1 := Bd.R (Bd.add (kaU2.up (l := 63) (by decide)) (kaV2.up (by decide)))
  have HW1 := fun W => run_float_arith (P := Try.prog) W .add 69 .f64 _ _ _ hW1
  obtain ⟨wZ1, hZ1, fZ1⟩ := m0 fapy fW1 (Bd.lt (Bd.mul kapy kW1) (by decide))
  have kZ1 := Bd.R (Bd.mul kapy kW1)
  have HZ1 := fun W => run_float_arith (P := Try.prog) W .mul 69 .f64 _ _ _ hZ1
  have fapz := Fl.FW.abs fpz
  have kapz := Bd.ab kpz
  have Aapz := Lib.hid (fun W => abs_any fpz W)
  obtain ⟨wapz, eapz⟩ : ∃ a, a = PZ' % 2 ^ 63 := ⟨_, rfl⟩
  rw [← eapz] at fapz Aapz
  have faU3 := Fl.FW.abs fU3
  have kaU3 := Bd.ab kU3
  have AaU3 := Lib.hid (fun W => abs_any fU3 W)
  obtain ⟨waU3, eaU3⟩ : ∃ a, a = wU3 % 2 ^ 63 := ⟨_, rfl⟩
  rw [← eaU3] at faU3 AaU3
  have faV3 := Fl.FW.abs fV3
  have kaV3 := Bd.ab kV3
  have AaV3 := Lib.hid (fun W => abs_any fV3 W)
  obtain ⟨waV3, eaV3⟩ : ∃ a, a = wV3 % 2 ^ 63 := ⟨_, rfl⟩
  rw [← eaV3] at faV3 AaV3
  obtain ⟨wW2, hW2, fW2⟩ := a0 faU3 faV3 (Bd.lt (Bd.add (kaU3.up (l := 63) (by decide)) (kaV3.up (by decide))) (by decide))
  have kW2 := Bd.R (Bd.add (kaU3.up (l := 63) (by decide)) (kaV3.up (by decide)))
  have HW2 := fun W => run_float_arith (P := Try.prog) W .add 69 .f64 _ _ _ hW2
  obtain ⟨wZ2, hZ2, fZ2⟩ := m0 fapz fW2 (Bd.lt (Bd.mul kapz kW2) (by decide))
  have kZ2 := Bd.R (Bd.mul kapz kW2)
  have HZ2 := fun W => run_float_arith (P := Try.prog) W .mul 69 .f64 _ _ _ hZ2
  obtain ⟨wE12, hE12, fE12⟩ := a0 fZ0 fZ1 (Bd.lt (Bd.add (kZ0.up (l := 97) (by decide)) (kZ1.up (by decide))) (by decide))
  have kE12 := Bd.R (Bd.add (kZ0.up (l := 97) (by decide)) (kZ1.up (by decide)))
  have HE12 := fun W => run_float_arith (P := Try.prog) W .add 69 .f64 _ _ _ hE12
  obtain ⟨wE, hE, fE⟩ := a0 fE12 fZ2 (Bd.lt (Bd.add (kE12.up (l := 99) (by decide)) (kZ2.up (by decide))) (by decide))
  have kE := Bd.R (Bd.add (kE12.up (l := 99) (by decide)) (kZ2.up (by decide)))
  have HE := fun W => run_float_arith (P := Try.prog) W .add 69 .f64 _ _ _ hE
  obtain ⟨wX, hX, fX⟩ := Fl.FW.mul fE Fl.FW.tiny (by rw [Int.mul_one]; exact kE.lt (by decide)) (by decide) (by decide)
  have HX := fun W => run_float_arith (P := Try.prog) W .mul 69 .f64 _ _ _ hX
  rw [Int.mul_one, Fl.R_idem, Int.zero_add] at fX
  have fS' := Fl.FW.scale 48 fS
  rw [show (0 : Int) + ((48 : Nat) : Int) = 48 from rfl] at fS'
  have HN := fl_neg wX
  have fN := fX.neg
  obtain ⟨wN, eN⟩ : ∃ n, n = Go.Op.negFloat .f64 wX := ⟨_, rfl⟩
  rw [← eN] at HN fN
  obtain ⟨b1, hb1⟩ : ∃ b, b = decide (Fl.fe px py pz qx qy qz rx ry rz < 2 ^ 48 * Fl.fs px py pz qx qy qz rx ry rz) := ⟨_, rfl⟩
  obtain ⟨b2, hb2⟩ : ∃ b, b = decide (2 ^ 48 * Fl.fs px py pz qx qy qz rx ry rz < - Fl.fe px py pz qx qy qz rx ry rz) := ⟨_, rfl⟩
  have HG := fl_gtr fS' fX b1 hb1
  have HL := fl_lss fS' fN b2 hb2
  have FV := Lib.hid (show Fl.filt px py pz qx qy qz rx ry rz = if b1 = true then 1 else if b2 = true then -1 else 0 by unfold Fl.filt; simp only [hb1, hb2, decide_eq_true_eq])
  clear hb1 hb2 fX fN fS' fS eN hX
  clear hU hV hU2 hV2 hU3 hV3 hD0 hT0 hD1 hT1 hD2 hT2 hS12 hS hW0 hZ0 hW1 hZ1 hW2 hZ2 hE12 hE
  clear kU kV kU2 kV2 kU3 kV3 kD0 kT0 kD1 kT1 kD2 kT2 kS12 kS kW0 kZ0 kW1 kZ1 kW2 kZ2 kE12 kE kpx kpy kpz kqx kqy kqz krx kry krz fU fV fU2 fV2 fU3 fV3 fD0 fT0 fD1 fT1 fD2 fT2 fS12 fW0 fZ0 fW1 fZ1 fW2 fZ2 fE12 fE fpx fpy fpz fqx fqy fqz frx fry frz
  clear kapx fapx eapx kaU faU eaU kaV faV eaV kapy fapy eapy kaU2 faU2 eaU2 kaV2 faV2 eaV2 kapz fapz eapz kaU3 faU3 eaU3 kaV3 faV3 eaV3
  have C1 := Lib.hid (f1_any px py pz)
  have C2 := Lib.hid (f1_any qx qy qz)
  have C3 := Lib.hid (f1_any rx ry rz)
  rw [← hpx, ← hpy, ← hpz] at C1
  rw [← hqx, ← hqy, ← hqz] at C2
  rw [← hrx, ← hry, ← hrz] at C3
  clear hpx hpy hpz hqx hqy hqz hrx hry hrz bpx bpy bpz bqx bqy bqz brx bry brz
  rw [FV.out]
  go_enter Try.func33, Try.ntmps33
  go_wp2_with fail
  refine (C1.out _).mono ?_
  rintro e v1 ⟨rfl, hb⟩
  obtain ⟨hc, hf⟩ := bcell hb
  have hz := sz3 hb
  go_wp2_with fail
  refine (C2.out _).mono ?_
  rintro e v2 ⟨rfl, hn⟩
  replace hb := chain hb hn
  clear hn hc hf hz
  obtain ⟨hc, hf⟩ := bcell hb
  have hz := sz3 hb
  go_wp2_with fail
  refine (C3.out _).mono ?_
  rintro e v3 ⟨rfl, hn⟩
  replace hb := chain hb hn
  clear hn hc hf hz C1 C2 C3
  go_wp2_with (first
      | (go_at_call 50; (with_reducible refine (Aapx.out _).mono ?_); rintro e w1 ⟨rfl, rfl⟩)
      | (go_at_call 50; (with_reducible refine (AaU.out _).mono ?_); rintro e w1 ⟨rfl, rfl⟩)
      | (go_at_call 50; (with_reducible refine (AaV.out _).mono ?_); rintro e w1 ⟨rfl, rfl⟩)
      | (go_at_call 50; (with_reducible refine (Aapy.out _).mono ?_); rintro e w1 ⟨rfl, rfl⟩)
      | (go_at_call 50; (with_reducible refine (AaU2.out _).mono ?_); rintro e w1 ⟨rfl, rfl⟩)
      | (go_at_call 50; (with_reducible refine (AaV2.out _).mono ?_); rintro e w1 ⟨rfl, rfl⟩)
      | (go_at_call 50; (with_reducible refine (Aapz.out _).mono ?_); rintro e w1 ⟨rfl, rfl⟩)
      | (go_at_call 50; (with_reducible refine (AaU3.out _).mono ?_); rintro e w1 ⟨rfl, rfl⟩)
      | (go_at_call 50; (with_reducible refine (AaV3.out _).mono ?_); rintro e w1 ⟨rfl, rfl⟩))
  all_goals
    go_ret
    exact ⟨ret_int (by simp [*]), bl3 hb⟩

end Go.Proofs.Yteieeclflfbinaa
