/- The contract of the law's own filter. (Printed by mkfilter.py.) -/
import Derived.Test.YteieeclflfbinaaFilter
namespace Go.Proofs.Yteieeclflfbinaa
open Go.RowKit Go.Proofs
set_option linter.unusedVariables false

set_option maxHeartbeats 4000000 in
set_option maxRecDepth 20000 in
theorem lfilter_raw (ax ay az bx b_ bz cx cy cz dx dy dz : Int) (px py pz qx qy qz rx ry rz : Int) (epx : IntKind.i64.wrap (ax - dx) = px) (epy : IntKind.i64.wrap (ay - dy) = py) (epz : IntKind.i64.wrap (az - dz) = pz) (eqx : IntKind.i64.wrap (bx - dx) = qx) (eqy : IntKind.i64.wrap (b_ - dy) = qy) (eqz : IntKind.i64.wrap (bz - dz) = qz) (erx : IntKind.i64.wrap (cx - dx) = rx) (ery : IntKind.i64.wrap (cy - dy) = ry) (erz : IntKind.i64.wrap (cz - dz) = rz) (bpx : Wd px) (bpy : Wd py) (bpz : Wd pz) (bqx : Wd qx) (bqy : Wd qy) (bqz : Wd qz) (brx : Wd rx) (bry : Wd ry) (brz : Wd rz) (w : World) :
    Calls Try.prog 19 #[.agg #[.int .i64 ax, .int .i64 ay, .int .i64 az], .agg #[.int .i64 bx, .int .i64 b_, .int .i64 bz], .agg #[.int .i64 cx, .int .i64 cy, .int .i64 cz], .agg #[.int .i64 dx, .int .i64 dy, .int .i64 dz]] w fun e w' =>
      e = .returned (.int .i64 (Fl.filt px py pz qx qy qz rx ry rz)) ∧ Below w.heap.size w w' := by
  obtain ⟨PX', hpx⟩ : ∃ w, w = FloatKind.f64.nearest px := ⟨_, rfl⟩
  have fpx : Fl.FW PX' px 0 := by rw [hpx]; exact Fl.FW.small (Fl.FW.ofInt px ((Bd.wd bpx).lt (by decide))) (by unfold Wd at bpx; omega)
  have kpx := Bd.wd bpx
  obtain ⟨PY', hpy⟩ : ∃ w, w = FloatKind.f64.nearest py := ⟨_, rfl⟩
  have fpy : Fl.FW PY' py 0 := by rw [hpy]; exact Fl.FW.small (Fl.FW.ofInt py ((Bd.wd bpy).lt (by decide))) (by unfold Wd at bpy; omega)
  have kpy := Bd.wd bpy
  obtain ⟨PZ', hpz⟩ : ∃ w, w = FloatKind.f64.nearest pz := ⟨_, rfl⟩
  have fpz : Fl.FW PZ' pz 0 := by rw [hpz]; exact Fl.FW.small (Fl.FW.ofInt pz ((Bd.wd bpz).lt (by decide))) (by unfold Wd at bpz; omega)
  have kpz := Bd.wd bpz
  obtain ⟨QX', hqx⟩ : ∃ w, w = FloatKind.f64.nearest qx := ⟨_, rfl⟩
  have fqx : Fl.FW QX' qx 0 := by rw [hqx]; exact Fl.FW.small (Fl.FW.ofInt qx ((Bd.wd bqx).lt (by decide))) (by unfold Wd at bqx; omega)
  have kqx := Bd.wd bqx
  obtain ⟨QY', hqy⟩ : ∃ w, w = FloatKind.f64.nearest qy := ⟨_, rfl⟩
  have fqy : Fl.FW QY' qy 0 := by rw [hqy]; exact Fl.FW.small (Fl.FW.ofInt qy ((Bd.wd bqy).lt (by decide))) (by unfold Wd at bqy; omega)
  have kqy := Bd.wd bqy
  obtain ⟨QZ', hqz⟩ : ∃ w, w = FloatKind.f64.nearest qz := ⟨_, rfl⟩
  have fqz : Fl.FW QZ' qz 0 := by rw [hqz]; exact Fl.FW.small (Fl.FW.ofInt qz ((Bd.wd bqz).lt (by decide))) (by unfold Wd at bqz; omega)
  have kqz := Bd.wd bqz
  obtain ⟨RX', hrx⟩ : ∃ w, w = FloatKind.f64.nearest rx := ⟨_, rfl⟩
  have frx : Fl.FW RX' rx 0 := by rw [hrx]; exact Fl.FW.small (Fl.FW.ofInt rx ((Bd.wd brx).lt (by decide))) (by unfold Wd at brx; omega)
  have krx := Bd.wd brx
  obtain ⟨RY', hry⟩ : ∃ w, w = FloatKind.f64.nearest ry := ⟨_, rfl⟩
  have fry : Fl.FW RY' ry 0 := by rw [hry]; exact Fl.FW.small (Fl.FW.ofInt ry ((Bd.wd bry).lt (by decide))) (by unfold Wd at bry; omega)
  have kry := Bd.wd bry
  obtain ⟨RZ', hrz⟩ : ∃ w, w = FloatKind.f64.nearest rz := ⟨_, rfl⟩
  have frz : Fl.FW RZ' rz 0 := by rw [hrz]; exact Fl.FW.small (Fl.FW.ofInt rz ((Bd.wd brz).lt (by decide))) (by unfold Wd at brz; omega)
  have krz := Bd.wd brz
  obtain ⟨wU, hU, fU⟩ := m0 fqy frz (Bd.lt (Bd.mul kqy krz) (by decide))
  have kU := Bd.R (Bd.mul kqy krz)
  have HU := fun W => run_float_arith (P := Try.prog) W .mul 69 .f64 _ _ _ hU
  obtain ⟨wV, hV, fV⟩ := m0 fqz fry (Bd.lt (Bd.mul kqz kry) (by decide))
  have kV := Bd.R (Bd.mul kqz kry)
  have HV := fun W => run_float_arith (P := Try.prog) W .mul 69 .f64 _ _ _ hV
  obtain ⟨wU2, hU2, fU2⟩ := m0 fqz frx (Bd.lt (Bd.mul kqz krx) (by decide))
  have kU2 := Bd.R (Bd.mul kqz krx)
  have HU2 := fun W => run_float_arith (P := Try.prog) W .mul 69 .f64 _ _ _ hU2
  obtain ⟨wV2, hV2, fV2⟩ := m0 fqx frz (Bd.lt (Bd.mul kqx krz) (by decide))
  have kV2 := Bd.R (Bd.mul kqx krz)
  have HV2 := fun W => run_float_arith (P := Try.prog) W .mul 69 .f64 _ _ _ hV2
  obtain ⟨wU3, hU3, fU3⟩ := m0 fqx fry (Bd.lt (Bd.mul kqx kry) (by decide))
  have kU3 := Bd.R (Bd.mul kqx kry)
  have HU3 := fun W => run_float_arith (P := Try.prog) W .mul 69 .f64 _ _ _ hU3
  obtain ⟨wV3, hV3, fV3⟩ := m0 fqy frx (Bd.lt (Bd.mul kqy krx) (by decide))
  have kV3 := Bd.R (Bd.mul kqy krx)
  have HV3 := fun W => run_float_arith (P := Try.prog) W .mul 69 .f64 _ _ _ hV3
  obtain ⟨wD0, hD0, fD0⟩ := s0 fU fV (Bd.lt (Bd.sub (kU.up (l := 63) (by decide)) (kV.up (by decide))) (by decide))
  have kD0 := Bd.R (Bd.sub (kU.up (l := 63) (by decide)) (kV.up (by decide)))
  have HD0 := fun W => run_float_arith (P := Try.prog) W .sub 69 .f64 _ _ _ hD0
  obtain ⟨wT0, hT0, fT0⟩ := m0 fpx fD0 (Bd.lt (Bd.mul kpx kD0) (by decide))
  have kT0 := Bd.R (Bd.mul kpx kD0)
  have HT0 := fun W => run_float_arith (P := Try.prog) W .mul 69 .f64 _ _ _ hT0
  obtain ⟨wD1, hD1, fD1⟩ := s0 fU2 fV2 (Bd.lt (Bd.sub (kU2.up (l := 63) (by decide)) (kV2.up (by decide))) (by decide))
  have kD1 := Bd.R (Bd.sub (kU2.up (l := 63) (by decide)) (kV2.up (by decide)))
  have HD1 := fun W => run_float_arith (P := Try.prog) W .sub 69 .f64 _ _ _ hD1
  obtain ⟨wT1, hT1, fT1⟩ := m0 fpy fD1 (Bd.lt (Bd.mul kpy kD1) (by decide))
  have kT1 := Bd.R (Bd.mul kpy kD1)
  have HT1 := fun W => run_float_arith (P := Try.prog) W .mul 69 .f64 _ _ _ hT1
  obtain ⟨wD2, hD2, fD2⟩ := s0 fU3 fV3 (Bd.lt (Bd.sub (kU3.up (l := 63) (by decide)) (kV3.up (by decide))) (by decide))
  have kD2 := Bd.R (Bd.sub (kU3.up (l := 63) (by decide)) (kV3.up (by decide)))
  have HD2 := fun W => run_float_arith (P := Try.prog) W .sub 69 .f64 _ _ _ hD2
  obtain ⟨wT2, hT2, fT2⟩ := m0 fpz fD2 (Bd.lt (Bd.mul kpz kD2) (by decide))
  have kT2 := Bd.R (Bd.mul kpz kD2)
  have HT2 := fun W => run_float_arith (P := Try.prog) W .mul 69 .f64 _ _ _ hT2
  obtain ⟨wS12, hS12, fS12⟩ := a0 fT0 fT1 (Bd.lt (Bd.add (kT0.up (l := 97) (by decide)) (kT1.up (by decide))) (by decide))
  have kS12 := Bd.R (Bd.add (kT0.up (l := 97) (by decide)) (kT1.up (by decide)))
  have HS12 := fun W => run_float_arith (P := Try.prog) W .add 69 .f64 _ _ _ hS12
  obtain ⟨wS, hS, fS⟩ := a0 fS12 fT2 (Bd.lt (Bd.add (kS12.up (l := 99) (by decide)) (kT2.up (by decide))) (by decide))
  have kS := Bd.R (Bd.add (kS12.up (l := 99) (by decide)) (kT2.up (by decide)))
  have HS := fun W => run_float_arith (P := Try.prog) W .add 69 .f64 _ _ _ hS
  have fapx := Fl.FW.abs fpx
  have kapx := Bd.ab kpx
  have Aapx := Lib.hid (fun W => labs_any fpx W)
  obtain ⟨wapx, eapx⟩ : ∃ a, a = PX' % 2 ^ 63 := ⟨_, rfl⟩
  rw [← eapx] at fapx Aapx
  have faU := Fl.FW.abs fU
  have kaU := Bd.ab kU
  have AaU := Lib.hid (fun W => labs_any fU W)
  obtain ⟨waU, eaU⟩ : ∃ a, a = wU % 2 ^ 63 := ⟨_, rfl⟩
  rw [← eaU] at faU AaU
  have faV := Fl.FW.abs fV
  have kaV := Bd.ab kV
  have AaV := Lib.hid (fun W => labs_any fV W)
  obtain ⟨waV, eaV⟩ : ∃ a, a = wV % 2 ^ 63 := ⟨_, rfl⟩
  rw [← eaV] at faV AaV
  obtain ⟨wW0, hW0, fW0⟩ := a0 faU faV (Bd.lt (Bd.add (kaU.up (l := 63) (by decide)) (kaV.up (by decide))) (by decide))
  have kW0 := Bd.R (Bd.add (kaU.up (l := 63) (by decide)) (kaV.up (by decide)))
  have HW0 := fun W => run_float_arith (P := Try.prog) W .add 69 .f64 _ _ _ hW0
  obtain ⟨wZ0, hZ0, fZ0⟩ := m0 fapx fW0 (Bd.lt (Bd.mul kapx kW0) (by decide))
  have kZ0 := Bd.R (Bd.mul kapx kW0)
  have HZ0 := fun W => run_float_arith (P := Try.prog) W .mul 69 .f64 _ _ _ hZ0
  have fapy := Fl.FW.abs fpy
  have kapy := Bd.ab kpy
  have Aapy := Lib.hid (fun W => labs_any fpy W)
  obtain ⟨wapy, eapy⟩ : ∃ a, a = PY' % 2 ^ 63 := ⟨_, rfl⟩
  rw [← eapy] at fapy Aapy
  have faU2 := Fl.FW.abs fU2
  have kaU2 := Bd.ab kU2
  have AaU2 := Lib.hid (fun W => labs_any fU2 W)
  obtain ⟨waU2, eaU2⟩ : ∃ a, a = wU2 % 2 ^ 63 := ⟨_, rfl⟩
  rw [← eaU2] at faU2 AaU2
  have faV2 := Fl.FW.abs fV2
  have kaV2 := Bd.ab kV2
  have AaV2 := Lib.hid (fun W => labs_any fV2 W)
  obtain ⟨waV2, eaV2⟩ : ∃ a, a = wV2 % 2 ^ 63 := ⟨_, rfl⟩
  rw [← eaV2] at faV2 AaV2
  obtain ⟨wW1, hW1, fW1⟩ := a0 faU2 faV2 (Bd.lt (Bd.add (kaU2.up (l := 63) (by decide)) (kaV2.up (by decide))) (by decide))
  have kW1 := Bd.R (Bd.add (kaU2.up (l := 63) (by decide)) (kaV2.up (by decide)))
  have HW1 := fun W => run_float_arith (P := Try.prog) W .add 69 .f64 _ _ _ hW1
  obtain ⟨wZ1, hZ1, fZ1⟩ := m0 fapy fW1 (Bd.lt (Bd.mul kapy kW1) (by decide))
  have kZ1 := Bd.R (Bd.mul kapy kW1)
  have HZ1 := fun W => run_float_arith (P := Try.prog) W .mul 69 .f64 _ _ _ hZ1
  have fapz := Fl.FW.abs fpz
  have kapz := Bd.ab kpz
  have Aapz := Lib.hid (fun W => labs_any fpz W)
  obtain ⟨wapz, eapz⟩ : ∃ a, a = PZ' % 2 ^ 63 := ⟨_, rfl⟩
  rw [← eapz] at fapz Aapz
  have faU3 := Fl.FW.abs fU3
  have kaU3 := Bd.ab kU3
  have AaU3 := Lib.hid (fun W => labs_any fU3 W)
  obtain ⟨waU3, eaU3⟩ : ∃ a, a = wU3 % 2 ^ 63 := ⟨_, rfl⟩
  rw [← eaU3] at faU3 AaU3
  have faV3 := Fl.FW.abs fV3
  have kaV3 := Bd.ab kV3
  have AaV3 := Lib.hid (fun W => labs_any fV3 W)
  obtain ⟨waV3, eaV3⟩ : ∃ a, a = wV3 % 2 ^ 63 := ⟨_, rfl⟩
  rw [← eaV3] at faV3 AaV3
  obtain ⟨wW2, hW2, fW2⟩ := a0 faU3 faV3 (Bd.lt (Bd.add (kaU3.up (l := 63) (by decide)) (kaV3.up (by decide))) (by decide))
  have kW2 := Bd.R (Bd.add (kaU3.up (l := 63) (by decide)) (kaV3.up (by decide)))
  have HW2 := fun W => run_float_arith (P := Try.prog) W .add 69 .f64 _ _ _ hW2
  obtain ⟨wZ2, hZ2, fZ2⟩ := m0 fapz fW2 (Bd.lt (Bd.mul kapz kW2) (by decide))
  have kZ2 := Bd.R (Bd.mul kapz kW2)
  have HZ2 := fun W => run_float_arith (P := Try.prog) W .mul 69 .f64 _ _ _ hZ2
  obtain ⟨wE12, hE12, fE12⟩ := a0 fZ0 fZ1 (Bd.lt (Bd.add (kZ0.up (l := 97) (by decide)) (kZ1.up (by decide))) (by decide))
  have kE12 := Bd.R (Bd.add (kZ0.up (l := 97) (by decide)) (kZ1.up (by decide)))
  have HE12 := fun W => run_float_arith (P := Try.prog) W .add 69 .f64 _ _ _ hE12
  obtain ⟨wE, hE, fE⟩ := a0 fE12 fZ2 (Bd.lt (Bd.add (kE12.up (l := 99) (by decide)) (kZ2.up (by decide))) (by decide))
  have kE := Bd.R (Bd.add (kE12.up (l := 99) (by decide)) (kZ2.up (by decide)))
  have HE := fun W => run_float_arith (P := Try.prog) W .add 69 .f64 _ _ _ hE
  obtain ⟨wX, hX, fX⟩ := Fl.FW.mul fE Fl.FW.tiny (by rw [Int.mul_one]; exact kE.lt (by decide)) (by decide) (by decide)
  have HX := fun W => run_float_arith (P := Try.prog) W .mul 69 .f64 _ _ _ hX
  rw [Int.mul_one, Fl.R_idem, Int.zero_add] at fX
  have fS' := Fl.FW.scale 48 fS
  rw [show (0 : Int) + ((48 : Nat) : Int) = 48 from rfl] at fS'
  have HN := fl_neg wX
  have fN := fX.neg
  obtain ⟨wN, eN⟩ : ∃ n, n = Go.Op.negFloat .f64 wX := ⟨_, rfl⟩
  rw [← eN] at HN fN
  obtain ⟨b1, hb1⟩ : ∃ b, b = decide (Fl.fe px py pz qx qy qz rx ry rz < 2 ^ 48 * Fl.fs px py pz qx qy qz rx ry rz) := ⟨_, rfl⟩
  obtain ⟨b2, hb2⟩ : ∃ b, b = decide (2 ^ 48 * Fl.fs px py pz qx qy qz rx ry rz < - Fl.fe px py pz qx qy qz rx ry rz) := ⟨_, rfl⟩
  have HG := fl_gtr fS' fX b1 hb1
  have HL := fl_lss fS' fN b2 hb2
  have FV := Lib.hid (show Fl.filt px py pz qx qy qz rx ry rz = if b1 = true then 1 else if b2 = true then -1 else 0 by unfold Fl.filt; simp only [hb1, hb2, decide_eq_true_eq])
  clear hb1 hb2 fX fN fS' fS eN hX
  clear hU hV hU2 hV2 hU3 hV3 hD0 hT0 hD1 hT1 hD2 hT2 hS12 hS hW0 hZ0 hW1 hZ1 hW2 hZ2 hE12 hE
  clear kU kV kU2 kV2 kU3 kV3 kD0 kT0 kD1 kT1 kD2 kT2 kS12 kS kW0 kZ0 kW1 kZ1 kW2 kZ2 kE12 kE kpx kpy kpz kqx kqy kqz krx kry krz fU fV fU2 fV2 fU3 fV3 fD0 fT0 fD1 fT1 fD2 fT2 fS12 fW0 fZ0 fW1 fZ1 fW2 fZ2 fE12 fE fpx fpy fpz fqx fqy fqz frx fry frz
  clear kapx fapx eapx kaU faU eaU kaV faV eaV kapy fapy eapy kaU2 faU2 eaU2 kaV2 faV2 eaV2 kapz fapz eapz kaU3 faU3 eaU3 kaV3 faV3 eaV3
  have Vpx := fl_conv px
  have Vpy := fl_conv py
  have Vpz := fl_conv pz
  have Vqx := fl_conv qx
  have Vqy := fl_conv qy
  have Vqz := fl_conv qz
  have Vrx := fl_conv rx
  have Vry := fl_conv ry
  have Vrz := fl_conv rz
  rw [← hpx] at Vpx
  rw [← hpy] at Vpy
  rw [← hpz] at Vpz
  rw [← hqx] at Vqx
  rw [← hqy] at Vqy
  rw [← hqz] at Vqz
  rw [← hrx] at Vrx
  rw [← hry] at Vry
  rw [← hrz] at Vrz
  clear hpx hpy hpz hqx hqy hqz hrx hry hrz bpx bpy bpz bqx bqy bqz brx bry brz
  rw [FV.out]
  go_enter Try.func19, Try.ntmps19
  go_wp2_with fail
  go_quiet (fail)
  go_wp2_with fail
  go_quiet (fail)
  go_wp2_with fail
  go_quiet (fail)
  go_wp2_with (first
      | (go_at_call 35; (with_reducible refine (Aapx.out _).mono ?_); rintro e w1 ⟨rfl, rfl⟩)
      | (go_at_call 35; (with_reducible refine (AaU.out _).mono ?_); rintro e w1 ⟨rfl, rfl⟩)
      | (go_at_call 35; (with_reducible refine (AaV.out _).mono ?_); rintro e w1 ⟨rfl, rfl⟩)
      | (go_at_call 35; (with_reducible refine (Aapy.out _).mono ?_); rintro e w1 ⟨rfl, rfl⟩)
      | (go_at_call 35; (with_reducible refine (AaU2.out _).mono ?_); rintro e w1 ⟨rfl, rfl⟩)
      | (go_at_call 35; (with_reducible refine (AaV2.out _).mono ?_); rintro e w1 ⟨rfl, rfl⟩)
      | (go_at_call 35; (with_reducible refine (Aapz.out _).mono ?_); rintro e w1 ⟨rfl, rfl⟩)
      | (go_at_call 35; (with_reducible refine (AaU3.out _).mono ?_); rintro e w1 ⟨rfl, rfl⟩)
      | (go_at_call 35; (with_reducible refine (AaV3.out _).mono ?_); rintro e w1 ⟨rfl, rfl⟩))
  all_goals
    go_ret
    exact ⟨ret_int (by simp [*]), bl4 (show Below _ _ _ from ⟨rfl, rfl, rfl, Nat.le_refl _, fun _ _ => rfl⟩)⟩

theorem lfilter_any {ax ay az bx b_ bz cx cy cz dx dy dz : Int} (hm : may4 ax ay az bx b_ bz cx cy cz dx dy dz = true) (w : World) :
    Calls Try.prog 19 #[.agg #[.int .i64 ax, .int .i64 ay, .int .i64 az], .agg #[.int .i64 bx, .int .i64 b_, .int .i64 bz], .agg #[.int .i64 cx, .int .i64 cy, .int .i64 cz], .agg #[.int .i64 dx, .int .i64 dy, .int .i64 dz]] w fun e w' =>
      e = .returned (.int .i64 (Fl.filt (ax - dx) (ay - dy) (az - dz) (bx - dx) (b_ - dy) (bz - dz) (cx - dx) (cy - dy) (cz - dz))) ∧ Below w.heap.size w w' := by
  simp only [may4, mayB, Bool.and_eq_true] at hm
  obtain ⟨⟨⟨⟨⟨a1, a2⟩, a3⟩, ⟨⟨b1, b2⟩, b3⟩⟩, ⟨⟨c1, c2⟩, c3⟩⟩, ⟨⟨d1, d2⟩, d3⟩⟩ := hm
  have wr : ∀ x y : Int, inB x = true → inB y = true → IntKind.i64.wrap (x - y) = x - y := fun x y hx hy => by
    have := inB_true hx; have := inB_true hy; rw [IntKind.wrap_i64]; omega
  exact lfilter_raw ax ay az bx b_ bz cx cy cz dx dy dz _ _ _ _ _ _ _ _ _ (wr _ _ a1 d1) (wr _ _ a2 d2) (wr _ _ a3 d3) (wr _ _ b1 d1) (wr _ _ b2 d2) (wr _ _ b3 d3) (wr _ _ c1 d1) (wr _ _ c2 d2) (wr _ _ c3 d3) (wd_diff a1 d1) (wd_diff a2 d2) (wd_diff a3 d3) (wd_diff b1 d1) (wd_diff b2 d2) (wd_diff b3 d3) (wd_diff c1 d1) (wd_diff c2 d2) (wd_diff c3 d3) w
end Go.Proofs.Yteieeclflfbinaa
