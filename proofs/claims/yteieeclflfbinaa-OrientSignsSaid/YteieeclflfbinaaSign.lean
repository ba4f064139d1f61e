/- The contracts of package orient's Filter, sign, Exact. (Printed by mksign.py.) -/
import Derived.Test.YteieeclflfbinaaFilter
import Derived.Test.YteieeclflfbinaaMoved
namespace Go.Proofs.Yteieeclflfbinaa
open Go.RowKit Go.Proofs
set_option linter.unusedVariables false

/-- the filter of four points, or 0 -/
def filt4 (ax ay az bx b_ bz cx cy cz dx dy dz : Int) : Int := Fl.filt (ax - dx) (ay - dy) (az - dz) (bx - dx) (b_ - dy) (bz - dz) (cx - dx) (cy - dy) (cz - dz)
theorem filt_of_pts {ax ay az bx b_ bz cx cy cz dx dy dz : Int} (hm : may4 ax ay az bx b_ bz cx cy cz dx dy dz = true) (W : World) :
    Calls Try.prog 33 #[.agg #[.int .i64 (ax - dx), .int .i64 (ay - dy), .int .i64 (az - dz)], .agg #[.int .i64 (bx - dx), .int .i64 (b_ - dy), .int .i64 (bz - dz)], .agg #[.int .i64 (cx - dx), .int .i64 (cy - dy), .int .i64 (cz - dz)]] W fun e w' =>
      e = .returned (.int .i64 (filt4 ax ay az bx b_ bz cx cy cz dx dy dz)) ∧ Below W.heap.size W w' := by
  simp only [may4, mayB, Bool.and_eq_true] at hm
  obtain ⟨⟨⟨⟨⟨a1, a2⟩, a3⟩, ⟨⟨b1, b2⟩, b3⟩⟩, ⟨⟨c1, c2⟩, c3⟩⟩, ⟨⟨d1, d2⟩, d3⟩⟩ := hm
  exact filter_any _ _ _ _ _ _ _ _ _ (wd_diff a1 d1) (wd_diff a2 d2) (wd_diff a3 d3) (wd_diff b1 d1) (wd_diff b2 d2) (wd_diff b3 d3) (wd_diff c1 d1) (wd_diff c2 d2) (wd_diff c3 d3) W

/-- the sign of the determinant that the filter tells is right -/
theorem filt4_det {ax ay az bx b_ bz cx cy cz dx dy dz : Int} (h : filt4 ax ay az bx b_ bz cx cy cz dx dy dz ≠ 0) : sg (detD ax ay az bx b_ bz cx cy cz dx dy dz) = filt4 ax ay az bx b_ bz cx cy cz dx dy dz := by
  have hr := Fl.filt_right (ax - dx) (ay - dy) (az - dz) (bx - dx) (b_ - dy) (bz - dz) (cx - dx) (cy - dy) (cz - dz)
  have hd : detD ax ay az bx b_ bz cx cy cz dx dy dz = Fl.det3 (ax - dx) (ay - dy) (az - dz) (bx - dx) (b_ - dy) (bz - dz) (cx - dx) (cy - dy) (cz - dz) := rfl
  rcases Fl.filt_cases (ax - dx) (ay - dy) (az - dz) (bx - dx) (b_ - dy) (bz - dz) (cx - dx) (cy - dy) (cz - dz) with hc | hc | hc
  · rw [show filt4 ax ay az bx b_ bz cx cy cz dx dy dz = 1 from hc, hd, So.sg_pos (hr.1 hc)]
  · rw [show filt4 ax ay az bx b_ bz cx cy cz dx dy dz = -1 from hc, hd, So.sg_ng (hr.2 hc)]
  · exact absurd hc h
theorem at4_det (ax ay az bx b_ bz cx cy cz dx dy dz : Int) : So.at4 (So.r4 ⟨ax, ay, az, 1⟩ ⟨bx, b_, bz, 1⟩ ⟨cx, cy, cz, 1⟩ ⟨dx, dy, dz, 1⟩) = detD ax ay az bx b_ bz cx cy cz dx dy dz := by
  simp only [So.at4, So.r4, So.D4, So.d3, detD, det3]
  simp
  grind
theorem CV_zero (ax ay az bx b_ bz cx cy cz dx dy dz : Int) : So.CV 0 (So.r4 ⟨ax, ay, az, 1⟩ ⟨bx, b_, bz, 1⟩ ⟨cx, cy, cz, 1⟩ ⟨dx, dy, dz, 1⟩) = sg (detD ax ay az bx b_ bz cx cy cz dx dy dz) := by
  rw [← at4_det]
  simp [So.CV, So.stt]
theorem detD_small {ax ay az bx b_ bz cx cy cz dx dy dz : Int} (hm : may4 ax ay az bx b_ bz cx cy cz dx dy dz = true) : sv (detD ax ay az bx b_ bz cx cy cz dx dy dz) = detD ax ay az bx b_ bz cx cy cz dx dy dz := by
  rw [← at4_det]
  simp only [may4, mayB, Bool.and_eq_true] at hm
  obtain ⟨⟨⟨⟨⟨a1, a2⟩, a3⟩, ⟨⟨b1, b2⟩, b3⟩⟩, ⟨⟨c1, c2⟩, c3⟩⟩, ⟨⟨d1, d2⟩, d3⟩⟩ := hm
  have wd : ∀ x, inB x = true → Wd x := fun x hx => by have := inB_true hx; unfold Wd; omega
  refine at4_small (fun i hi => ?_) (fun i hi => ?_)
  · have : i = 0 ∨ i = 1 ∨ i = 2 ∨ i = 3 := by omega
    rcases this with rfl | rfl | rfl | rfl
    · exact ⟨wd _ a1, wd _ a2, wd _ a3⟩
    · exact ⟨wd _ b1, wd _ b2, wd _ b3⟩
    · exact ⟨wd _ c1, wd _ c2, wd _ c3⟩
    · exact ⟨wd _ d1, wd _ d2, wd _ d3⟩
  · have : i = 0 ∨ i = 1 ∨ i = 2 ∨ i = 3 := by omega
    rcases this with rfl | rfl | rfl | rfl <;> exact .inr rfl

theorem Filter_no {ax ay az bx b_ bz cx cy cz dx dy dz : Int} (hm : may4 ax ay az bx b_ bz cx cy cz dx dy dz = false) (w : World) :
    Calls Try.prog 17 #[.agg #[.int .i64 ax, .int .i64 ay, .int .i64 az], .agg #[.int .i64 bx, .int .i64 b_, .int .i64 bz], .agg #[.int .i64 cx, .int .i64 cy, .int .i64 cz], .agg #[.int .i64 dx, .int .i64 dy, .int .i64 dz]] w fun e w' => e = .returned (.int .i64 0) ∧ Below w.heap.size w w' := by
  cases hA : mayB ax ay az
  · have MA := Lib.hid (may_is hA)
    clear hA hm
    go_enter Try.func17, Try.ntmps17
    go_wp2_with (first
      | (go_at_call 26; (with_reducible refine (MA.out _).mono ?_); rintro e w1 ⟨rfl, hn⟩; (first | (replace hb := chain hb hn; clear hn hc hf) | (have hb := hn; clear hn)); obtain ⟨hc, hf⟩ := bcell hb))
    go_ret
    exact ⟨rfl, bl4 hb⟩
  · have MA := Lib.hid (may_is hA)
    cases hB : mayB bx b_ bz
    · have MB := Lib.hid (may_is hB)
      clear hA hB hm
      go_enter Try.func17, Try.ntmps17
      go_wp2_with (first
        | (go_at_call 26; (with_reducible refine (MA.out _).mono ?_); rintro e w1 ⟨rfl, hn⟩; (first | (replace hb := chain hb hn; clear hn hc hf) | (have hb := hn; clear hn)); obtain ⟨hc, hf⟩ := bcell hb)
        | (go_at_call 26; (with_reducible refine (MB.out _).mono ?_); rintro e w1 ⟨rfl, hn⟩; (first | (replace hb := chain hb hn; clear hn hc hf) | (have hb := hn; clear hn)); obtain ⟨hc, hf⟩ := bcell hb))
      go_ret
      exact ⟨rfl, bl4 hb⟩
    · have MB := Lib.hid (may_is hB)
      cases hC : mayB cx cy cz
      · have MC := Lib.hid (may_is hC)
        clear hA hB hC hm
        go_enter Try.func17, Try.ntmps17
        go_wp2_with (first
          | (go_at_call 26; (with_reducible refine (MA.out _).mono ?_); rintro e w1 ⟨rfl, hn⟩; (first | (replace hb := chain hb hn; clear hn hc hf) | (have hb := hn; clear hn)); obtain ⟨hc, hf⟩ := bcell hb)
          | (go_at_call 26; (with_reducible refine (MB.out _).mono ?_); rintro e w1 ⟨rfl, hn⟩; (first | (replace hb := chain hb hn; clear hn hc hf) | (have hb := hn; clear hn)); obtain ⟨hc, hf⟩ := bcell hb)
          | (go_at_call 26; (with_reducible refine (MC.out _).mono ?_); rintro e w1 ⟨rfl, hn⟩; (first | (replace hb := chain hb hn; clear hn hc hf) | (have hb := hn; clear hn)); obtain ⟨hc, hf⟩ := bcell hb))
        go_ret
        exact ⟨rfl, bl4 hb⟩
      · have MC := Lib.hid (may_is hC)
        have hD : mayB dx dy dz = false := by simpa [may4, hA, hB, hC] using hm
        have MD := Lib.hid (may_is hD)
        clear hA hB hC hD hm
        go_enter Try.func17, Try.ntmps17
        go_wp2_with (first
          | (go_at_call 26; (with_reducible refine (MA.out _).mono ?_); rintro e w1 ⟨rfl, hn⟩; (first | (replace hb := chain hb hn; clear hn hc hf) | (have hb := hn; clear hn)); obtain ⟨hc, hf⟩ := bcell hb)
          | (go_at_call 26; (with_reducible refine (MB.out _).mono ?_); rintro e w1 ⟨rfl, hn⟩; (first | (replace hb := chain hb hn; clear hn hc hf) | (have hb := hn; clear hn)); obtain ⟨hc, hf⟩ := bcell hb)
          | (go_at_call 26; (with_reducible refine (MC.out _).mono ?_); rintro e w1 ⟨rfl, hn⟩; (first | (replace hb := chain hb hn; clear hn hc hf) | (have hb := hn; clear hn)); obtain ⟨hc, hf⟩ := bcell hb)
          | (go_at_call 26; (with_reducible refine (MD.out _).mono ?_); rintro e w1 ⟨rfl, hn⟩; (first | (replace hb := chain hb hn; clear hn hc hf) | (have hb := hn; clear hn)); obtain ⟨hc, hf⟩ := bcell hb))
        go_ret
        exact ⟨rfl, bl4 hb⟩

theorem Filter_yes {ax ay az bx b_ bz cx cy cz dx dy dz : Int} (hm : may4 ax ay az bx b_ bz cx cy cz dx dy dz = true) (w : World) :
    Calls Try.prog 17 #[.agg #[.int .i64 ax, .int .i64 ay, .int .i64 az], .agg #[.int .i64 bx, .int .i64 b_, .int .i64 bz], .agg #[.int .i64 cx, .int .i64 cy, .int .i64 cz], .agg #[.int .i64 dx, .int .i64 dy, .int .i64 dz]] w fun e w' => e = .returned (.int .i64 (filt4 ax ay az bx b_ bz cx cy cz dx dy dz)) ∧ Below w.heap.size w w' := by
  have FI := Lib.hid (fun W => filt_of_pts hm W)
  simp only [may4, Bool.and_eq_true] at hm
  obtain ⟨⟨⟨hA, hB⟩, hC⟩, hD⟩ := hm
  have MA := Lib.hid (may_is hA)
  have MB := Lib.hid (may_is hB)
  have MC := Lib.hid (may_is hC)
  have MD := Lib.hid (may_is hD)
  simp only [mayB, Bool.and_eq_true] at hA hB hC hD
  obtain ⟨⟨a1, a2⟩, a3⟩ := hA
  obtain ⟨⟨b1, b2⟩, b3⟩ := hB
  obtain ⟨⟨c1, c2⟩, c3⟩ := hC
  obtain ⟨⟨d1, d2⟩, d3⟩ := hD
  have LA := Lib.hid (less_any ax ay az dx dy dz a1 a2 a3 d1 d2 d3)
  have LB := Lib.hid (less_any bx b_ bz dx dy dz b1 b2 b3 d1 d2 d3)
  have LC := Lib.hid (less_any cx cy cz dx dy dz c1 c2 c3 d1 d2 d3)
  clear a1 a2 a3 b1 b2 b3 c1 c2 c3 d1 d2 d3
  go_enter Try.func17, Try.ntmps17
  go_wp2_with (first
    | (go_at_call 26; (with_reducible refine (MA.out _).mono ?_); rintro e w1 ⟨rfl, hn⟩; (first | (replace hb := chain hb hn; clear hn hc hf) | (have hb := hn; clear hn)); obtain ⟨hc, hf⟩ := bcell hb)
    | (go_at_call 26; (with_reducible refine (MB.out _).mono ?_); rintro e w1 ⟨rfl, hn⟩; (first | (replace hb := chain hb hn; clear hn hc hf) | (have hb := hn; clear hn)); obtain ⟨hc, hf⟩ := bcell hb)
    | (go_at_call 26; (with_reducible refine (MC.out _).mono ?_); rintro e w1 ⟨rfl, hn⟩; (first | (replace hb := chain hb hn; clear hn hc hf) | (have hb := hn; clear hn)); obtain ⟨hc, hf⟩ := bcell hb)
    | (go_at_call 26; (with_reducible refine (MD.out _).mono ?_); rintro e w1 ⟨rfl, hn⟩; (first | (replace hb := chain hb hn; clear hn hc hf) | (have hb := hn; clear hn)); obtain ⟨hc, hf⟩ := bcell hb))
  have hz := sz4 hb
  have KC := kin_cell w1
  refine wp_region_kin_flat (by kernel_rfl) (by kernel_rfl) (by kernel_rfl) ?_
  repeat (go_big_quiet_step (first
    | (go_at_call 34; with_reducible refine quiet_kin (LA.out _))
    | (go_at_call 34; with_reducible refine quiet_kin (LB.out _))
    | (go_at_call 34; with_reducible refine quiet_kin (LC.out _))
    | (go_at_call 33; with_reducible refine quiet_kin (FI.out _))))
  refine wpQuiet_nil ?_
  clear KC
  intro _ hu_
  obtain ⟨k_, hu_⟩ := hu_
  have hk := below_kin w1 k_
  rw [← hu_] at hk
  clear hu_ k_
  rename World => u
  go_wp2_with fail
  go_ret
  exact ⟨rfl, bl4 (chain hb hk)⟩

set_option maxHeartbeats 4000000 in
set_option maxRecDepth 20000 in
theorem sign4_any {ax ay az bx b_ bz cx cy cz dx dy dz : Int} (hm : may4 ax ay az bx b_ bz cx cy cz dx dy dz = true) (w : World) :
    Calls Try.prog 38 #[.agg #[.int .i64 ax, .int .i64 ay, .int .i64 az, .int .i64 bx, .int .i64 b_, .int .i64 bz, .int .i64 cx, .int .i64 cy, .int .i64 cz, .int .i64 dx, .int .i64 dy, .int .i64 dz]] w fun e w' => e = .returned (.int .i64 (So.sgn4 ⟨ax, ay, az, 1⟩ ⟨bx, b_, bz, 1⟩ ⟨cx, cy, cz, 1⟩ ⟨dx, dy, dz, 1⟩)) ∧ Below w.heap.size w w' := by
  have FI := Lib.hid (fun W => filt_of_pts hm W)
  have SM := Lib.hid (detD_small hm)
  simp only [may4, Bool.and_eq_true] at hm
  obtain ⟨⟨⟨hA, hB⟩, hC⟩, hD⟩ := hm
  have DE := Lib.hid (det_any ax ay az bx b_ bz cx cy cz dx dy dz hA hB hC hD)
  simp only [mayB, Bool.and_eq_true] at hA hB hC hD
  obtain ⟨⟨a1, a2⟩, a3⟩ := hA
  obtain ⟨⟨b1, b2⟩, b3⟩ := hB
  obtain ⟨⟨c1, c2⟩, c3⟩ := hC
  obtain ⟨⟨d1, d2⟩, d3⟩ := hD
  have LA := Lib.hid (less_any ax ay az dx dy dz a1 a2 a3 d1 d2 d3)
  have LB := Lib.hid (less_any bx b_ bz dx dy dz b1 b2 b3 d1 d2 d3)
  have LC := Lib.hid (less_any cx cy cz dx dy dz c1 c2 c3 d1 d2 d3)
  have wd : ∀ x, inB x = true → Wd x := fun x hx => by have := inB_true hx; unfold Wd; omega
  have hco : ∀ i, i < 4 → Wd ((So.r4 ⟨ax, ay, az, 1⟩ ⟨bx, b_, bz, 1⟩ ⟨cx, cy, cz, 1⟩ ⟨dx, dy, dz, 1⟩) i).x ∧ Wd ((So.r4 ⟨ax, ay, az, 1⟩ ⟨bx, b_, bz, 1⟩ ⟨cx, cy, cz, 1⟩ ⟨dx, dy, dz, 1⟩) i).y ∧ Wd ((So.r4 ⟨ax, ay, az, 1⟩ ⟨bx, b_, bz, 1⟩ ⟨cx, cy, cz, 1⟩ ⟨dx, dy, dz, 1⟩) i).z := by
    intro i hi
    have : i = 0 ∨ i = 1 ∨ i = 2 ∨ i = 3 := by omega
    rcases this with rfl | rfl | rfl | rfl
    · exact ⟨wd _ a1, wd _ a2, wd _ a3⟩
    · exact ⟨wd _ b1, wd _ b2, wd _ b3⟩
    · exact ⟨wd _ c1, wd _ c2, wd _ c3⟩
    · exact ⟨wd _ d1, wd _ d2, wd _ d3⟩
  have MV := Lib.hid (fun m hm W => moved_any ax ay az bx b_ bz cx cy cz dx dy dz m hm hco W)
  obtain ⟨F, hF⟩ : ∃ F, F = filt4 ax ay az bx b_ bz cx cy cz dx dy dz := ⟨_, rfl⟩
  rw [← hF] at FI
  obtain ⟨R, hR⟩ : ∃ R, R = So.r4 ⟨ax, ay, az, 1⟩ ⟨bx, b_, bz, 1⟩ ⟨cx, cy, cz, 1⟩ ⟨dx, dy, dz, 1⟩ := ⟨_, rfl⟩
  have hS : So.sgn4 ⟨ax, ay, az, 1⟩ ⟨bx, b_, bz, 1⟩ ⟨cx, cy, cz, 1⟩ ⟨dx, dy, dz, 1⟩ = So.FN (fun m => So.CV m R) 85 := by rw [hR]; rfl
  have hS0 : So.FN (fun m => So.CV m R) 85 ≠ 0 := by rw [← hS]; exact (So.sgn4_LL _ _ _ _ rfl rfl rfl rfl).2
  have hV0 : So.CV 0 R = sg (detD ax ay az bx b_ bz cx cy cz dx dy dz) := by rw [hR]; exact CV_zero ax ay az bx b_ bz cx cy cz dx dy dz
  have hFD : F ≠ 0 → So.CV 0 R = F := by rw [hV0, hF]; exact filt4_det
  have hfirst : So.CV 0 R ≠ 0 → So.FN (fun m => So.CV m R) 85 = So.CV 0 R := fun h => by
    have e : So.FN (fun m => So.CV m R) 1 = So.CV 0 R := by simp [So.FN]
    have := So.FN_keep (f := fun m => So.CV m R) (n := 1) (by rw [e]; exact h) 84
    rw [show 1 + 84 = 85 from rfl, e] at this
    exact this
  rw [← hR] at MV
  rw [hS]
  have HS0 := Lib.hid hS0
  have HV0 := Lib.hid hV0
  have HFD := Lib.hid hFD
  have HFI := Lib.hid hfirst
  clear a1 a2 a3 b1 b2 b3 c1 c2 c3 d1 d2 d3 wd hco hF hR hS hS0 hV0 hFD hfirst
  go_enter Try.func38, Try.ntmps38
  go_wp2_with fail
  generalize hW : World.alloc _ _ = W
  have hBW : Below w.heap.size w W := by rw [← hW]; exact bl1 (Below.refl _ _)
  have m0 : W.cell? ⟨w.heap.size, 0, none⟩ = some (.int .i64 ax) := by rw [← hW]; simp [go_sem]
  have m1 : W.cell? ⟨w.heap.size, 1, none⟩ = some (.int .i64 ay) := by rw [← hW]; simp [go_sem]
  have m2 : W.cell? ⟨w.heap.size, 2, none⟩ = some (.int .i64 az) := by rw [← hW]; simp [go_sem]
  have m3 : W.cell? ⟨w.heap.size, 3, none⟩ = some (.int .i64 bx) := by rw [← hW]; simp [go_sem]
  have m4 : W.cell? ⟨w.heap.size, 4, none⟩ = some (.int .i64 b_) := by rw [← hW]; simp [go_sem]
  have m5 : W.cell? ⟨w.heap.size, 5, none⟩ = some (.int .i64 bz) := by rw [← hW]; simp [go_sem]
  have m6 : W.cell? ⟨w.heap.size, 6, none⟩ = some (.int .i64 cx) := by rw [← hW]; simp [go_sem]
  have m7 : W.cell? ⟨w.heap.size, 7, none⟩ = some (.int .i64 cy) := by rw [← hW]; simp [go_sem]
  have m8 : W.cell? ⟨w.heap.size, 8, none⟩ = some (.int .i64 cz) := by rw [← hW]; simp [go_sem]
  have m9 : W.cell? ⟨w.heap.size, 9, none⟩ = some (.int .i64 dx) := by rw [← hW]; simp [go_sem]
  have m10 : W.cell? ⟨w.heap.size, 10, none⟩ = some (.int .i64 dy) := by rw [← hW]; simp [go_sem]
  have m11 : W.cell? ⟨w.heap.size, 11, none⟩ = some (.int .i64 dz) := by rw [← hW]; simp [go_sem]
  have zW : w.heap.size < W.heap.size := by rw [← hW]; simp
  clear hW
  have KC := kin_cell W
  refine wp_region_kin_flat (by kernel_rfl) (by kernel_rfl) (by kernel_rfl) ?_
  repeat (go_big_quiet_step (first
    | (go_at_call 34; with_reducible refine quiet_kin (LA.out _))
    | (go_at_call 34; with_reducible refine quiet_kin (LB.out _))
    | (go_at_call 34; with_reducible refine quiet_kin (LC.out _))
    | (go_at_call 33; with_reducible refine quiet_kin (FI.out _))))
  refine wpQuiet_nil ?_
  clear KC
  intro _ hu_
  obtain ⟨k_, hu_⟩ := hu_
  have hk := below_kin W k_
  rw [← hu_] at hk
  clear hu_ k_
  rename World => u
  obtain ⟨hc, hf⟩ := bcell hk
  have HC := Lib.hid hc
  by_cases cF : F = 0
  · subst cF
    go_wp2_with fail
    refine (DE.out _).mono ?_
    rintro e u1 ⟨rfl, hn⟩
    replace hk := chain hk hn
    clear hn hc hf
    obtain ⟨hc, hf⟩ := bcell hk
    go_wp2_with fail
    rw [show det3 (ax - dx) (ay - dy) (az - dz) (bx - dx) (b_ - dy) (bz - dz) (cx - dx) (cy - dy) (cz - dz) = detD ax ay az bx b_ bz cx cy cz dx dy dz from rfl]
    refine (sign_any (detD ax ay az bx b_ bz cx cy cz dx dy dz) (isL _) _).mono ?_
    rintro e u2 ⟨rfl, hn⟩
    rw [SM.out, ← HV0.out]
    replace hk := chain hk hn
    clear hn hc hf
    obtain ⟨hc, hf⟩ := bcell hk
    obtain ⟨G, hG⟩ : ∃ G, G = So.CV 0 R := ⟨_, rfl⟩
    rw [← hG]
    by_cases cG : G = 0
    · subst cG
      clear hG hc hf
      go_wp2_with fail
      go_loopw [40] (fun a wx => ∃ m : Nat, a = .int .i64 m ∧ m ≤ 85 ∧ So.FN (fun j => So.CV j R) m = 0 ∧ Below W.heap.size W wx) (fun a _ => 85 - (intOf a).toNat)
      case atStart => exact ⟨0, rfl, by omega, rfl, hk⟩
      case round =>
        obtain ⟨m, rfl, hm, hFN, hk2⟩ := hrel
        obtain ⟨hc, hf⟩ := bcell hk2
        by_cases cm : m < 85
        · have MM := Lib.hid (MV.out m (by omega))
          have HFN := Lib.hid hFN
          clear hFN
          go_wp2_with fail
          refine (MM.out _).mono ?_
          rintro e u3 ⟨hE, hn⟩
          replace hk2 := chain hk2 hn
          clear hn hc hf MM
          rcases hE with ⟨hst, rfl⟩ | ⟨S, h, hst, rfl⟩
          · have E0 := Lib.hid (show So.CV m R = 0 by simp [So.CV, hst])
            clear hst
            go_wp2_with fail
            exact ⟨⟨m + 1, rfl, by omega, by rw [So.FN, HFN.out]; simp [E0.out], hk2⟩, by simp [intOf]; omega⟩
          · obtain ⟨X, hX⟩ : ∃ X, X = sg (So.at4 S) := ⟨_, rfl⟩
            have E0 := Lib.hid (show So.CV m R = X by rw [hX]; simp [So.CV, hst])
            rw [← hX]
            clear hst hX
            by_cases cX : X = 0
            · subst cX
              go_wp2_with fail
              exact ⟨⟨m + 1, rfl, by omega, by rw [So.FN, HFN.out]; simp [E0.out], hk2⟩, by simp [intOf]; omega⟩
            · have h1 : (X == 0) = false := by simpa using cX
              have h2 : (X != 0) = true := by simpa using cX
              have CX := Lib.hid cX
              clear cX
              go_wp2_with fail
              go_ret
              refine ⟨ret_int ?_, hBW.trans (hk2.mono hBW.size)⟩
              have e1 : So.FN (fun j => So.CV j R) (m + 1) = X := by rw [So.FN, HFN.out]; simp [E0.out]
              have e2 := So.FN_keep (f := fun j => So.CV j R) (n := m + 1) (by rw [e1]; exact CX.out) (85 - (m + 1))
              rw [show m + 1 + (85 - (m + 1)) = 85 by omega, e1] at e2
              exact e2.symm
        · have e : m = 85 := by omega
          subst e
          exact absurd hFN HS0.out
    · have h1 : (G == 0) = false := by simpa using cG
      have h2 : (G != 0) = true := by simpa using cG
      have HG := Lib.hid hG
      have CG := Lib.hid cG
      clear hG cG
      go_wp2_with fail
      go_ret
      exact ⟨ret_int (by rw [HFI.out (by rw [← HG.out]; exact CG.out), HG.out]), hBW.trans (hk.mono hBW.size)⟩
  · have h1 : (F == 0) = false := by simpa using cF
    have h2 : (F != 0) = true := by simpa using cF
    have CF := Lib.hid cF
    clear cF
    go_wp2_with fail
    go_ret
    exact ⟨ret_int (by have e := HFD.out CF.out; rw [HFI.out (by rw [e]; exact CF.out), e]), hBW.trans (hk.mono hBW.size)⟩

theorem exact_no {ax ay az bx b_ bz cx cy cz dx dy dz : Int} (hm : may4 ax ay az bx b_ bz cx cy cz dx dy dz = false) (w : World) :
    Calls Try.prog 11 #[.agg #[.int .i64 ax, .int .i64 ay, .int .i64 az], .agg #[.int .i64 bx, .int .i64 b_, .int .i64 bz], .agg #[.int .i64 cx, .int .i64 cy, .int .i64 cz], .agg #[.int .i64 dx, .int .i64 dy, .int .i64 dz]] w fun e w' => e = .returned (.tuple #[.int .i64 0, .bool false]) ∧ Below w.heap.size w w' := by
  have DE := Lib.hid (fun W => Det_no hm W)
  clear hm
  go_enter Try.func11, Try.ntmps11
  go_wp2_with fail
  refine (DE.out _).mono ?_
  rintro e w1 ⟨rfl, hb⟩
  go_wp2_with fail
  refine (sign_any 0 isL0 _).mono ?_
  rintro e w2 ⟨rfl, hn⟩
  replace hb := chaina hb hn
  go_wp2_with fail
  go_ret2
  exact ⟨rfl, bl4 hb⟩
theorem exact_yes {ax ay az bx b_ bz cx cy cz dx dy dz : Int} (hm : may4 ax ay az bx b_ bz cx cy cz dx dy dz = true) (w : World) :
    Calls Try.prog 11 #[.agg #[.int .i64 ax, .int .i64 ay, .int .i64 az], .agg #[.int .i64 bx, .int .i64 b_, .int .i64 bz], .agg #[.int .i64 cx, .int .i64 cy, .int .i64 cz], .agg #[.int .i64 dx, .int .i64 dy, .int .i64 dz]] w fun e w' => e = .returned (.tuple #[.int .i64 (sg (detD ax ay az bx b_ bz cx cy cz dx dy dz)), .bool true]) ∧ Below w.heap.size w w' := by
  have DE := Lib.hid (fun W => Det_yes hm W)
  have SM := Lib.hid (detD_small hm)
  obtain ⟨D, hD⟩ : ∃ D, D = detD ax ay az bx b_ bz cx cy cz dx dy dz := ⟨_, rfl⟩
  rw [← hD] at DE SM ⊢
  clear hm hD
  go_enter Try.func11, Try.ntmps11
  go_wp2_with fail
  refine (DE.out _).mono ?_
  rintro e w1 ⟨rfl, hb⟩
  go_wp2_with fail
  refine (sign_any D (isL _) _).mono ?_
  rintro e w2 ⟨rfl, hn⟩
  rw [SM.out]
  replace hb := chaina hb hn
  go_wp2_with fail
  go_ret2
  exact ⟨rfl, bl4 hb⟩

theorem minor_eq {a b c d : Int} (h : -9223372036854775808 ≤ a * d - b * c) (h' : a * d - b * c ≤ 9223372036854775807) : (hi (a * d - b * c) = 0 ∧ lo (a * d - b * c) = 0) ↔ a * d = b * c := by
  unfold hi lo; omega
end Go.Proofs.Yteieeclflfbinaa
