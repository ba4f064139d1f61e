/- The contracts of the reference's row, Det and Side. (Printed by mkrdet.py.) -/
import Derived.Test.YteieeclflfbinaaFour
import Derived.Test.YteieeclflfbinaaSign
namespace Go.Proofs.Yteieeclflfbinaa
open Go.RowKit Go.Proofs
set_option linter.unusedVariables false

theorem rrow_any (x y z : Int) (w : World) : Calls Try.prog 32 #[.agg #[.int .i64 x, .int .i64 y, .int .i64 z]] w fun e w' =>
    e = .returned (.agg #[.int .i64 x, .int .i64 y, .int .i64 z, .int .i64 1]) ∧ Below w.heap.size w w' := by
  go_enter Try.func32, Try.ntmps32
  go_wp2
  exact bodyPost_ret (v := .agg #[.int .i64 x, .int .i64 y, .int .i64 z, .int .i64 1]) (by simp [results, Try.results32, go_sem]) rfl ⟨rfl, bl2 (Below.refl _ _)⟩

/-- the cells of four rows with ends of 1 -/
def M16 (ax ay az bx b_ bz cx cy cz dx dy dz : Int) : Nat → Int := fun o => [ax, ay, az, 1, bx, b_, bz, 1, cx, cy, cz, 1, dx, dy, dz, 1].getD o 0

set_option maxHeartbeats 1000000 in
theorem rdet_any {ax ay az bx b_ bz cx cy cz dx dy dz : Int} (hm : may4 ax ay az bx b_ bz cx cy cz dx dy dz = true) (w : World) :
    Calls Try.prog 15 #[.agg #[.int .i64 ax, .int .i64 ay, .int .i64 az], .agg #[.int .i64 bx, .int .i64 b_, .int .i64 bz], .agg #[.int .i64 cx, .int .i64 cy, .int .i64 cz], .agg #[.int .i64 dx, .int .i64 dy, .int .i64 dz]] w fun e w' => e = .returned (.agg #[.int .u64 (rhi (detD ax ay az bx b_ bz cx cy cz dx dy dz)), .int .u64 (lo (detD ax ay az bx b_ bz cx cy cz dx dy dz))]) ∧ Below w.heap.size w w' := by
  have hco : ∀ i, i < 4 → Cd (((So.r4 ⟨ax, ay, az, 1⟩ ⟨bx, b_, bz, 1⟩ ⟨cx, cy, cz, 1⟩ ⟨dx, dy, dz, 1⟩) i).x) ∧ Cd (((So.r4 ⟨ax, ay, az, 1⟩ ⟨bx, b_, bz, 1⟩ ⟨cx, cy, cz, 1⟩ ⟨dx, dy, dz, 1⟩) i).y) ∧ Cd (((So.r4 ⟨ax, ay, az, 1⟩ ⟨bx, b_, bz, 1⟩ ⟨cx, cy, cz, 1⟩ ⟨dx, dy, dz, 1⟩) i).z) := by
    simp only [may4, mayB, Bool.and_eq_true] at hm
    obtain ⟨⟨⟨⟨⟨a1, a2⟩, a3⟩, ⟨⟨b1, b2⟩, b3⟩⟩, ⟨⟨c1, c2⟩, c3⟩⟩, ⟨⟨d1, d2⟩, d3⟩⟩ := hm
    intro i hi
    have : i = 0 ∨ i = 1 ∨ i = 2 ∨ i = 3 := by omega
    rcases this with rfl | rfl | rfl | rfl
    · exact ⟨inB_true a1, inB_true a2, inB_true a3⟩
    · exact ⟨inB_true b1, inB_true b2, inB_true b3⟩
    · exact ⟨inB_true c1, inB_true c2, inB_true c3⟩
    · exact ⟨inB_true d1, inB_true d2, inB_true d3⟩
  have FO := Lib.hid (fun (b : Nat) (W : World) (h1 : b < W.heap.size) (h2 : ∀ o, o < 16 → W.cell? ⟨b, o, none⟩ = some (.int .i64 (M16 ax ay az bx b_ bz cx cy cz dx dy dz o))) =>
    rfour_any (So.r4 ⟨ax, ay, az, 1⟩ ⟨bx, b_, bz, 1⟩ ⟨cx, cy, cz, 1⟩ ⟨dx, dy, dz, 1⟩) (M16 ax ay az bx b_ bz cx cy cz dx dy dz) (fun i hi => by
      have : i = 0 ∨ i = 1 ∨ i = 2 ∨ i = 3 := by omega
      rcases this with rfl | rfl | rfl | rfl <;> exact ⟨rfl, rfl, rfl, rfl⟩) hco (fun i hi => by
      have : i = 0 ∨ i = 1 ∨ i = 2 ∨ i = 3 := by omega
      rcases this with rfl | rfl | rfl | rfl <;> exact .inr rfl) b W h1 h2)
  rw [at4_det ax ay az bx b_ bz cx cy cz dx dy dz] at FO
  generalize detD ax ay az bx b_ bz cx cy cz dx dy dz = D at *
  clear hm hco
  go_enter Try.func15, Try.ntmps15
  go_wp2_with fail
  generalize hW : World.alloc _ _ = W
  have hBW : Below w.heap.size w W := by rw [← hW]; exact bl5 (Below.refl _ _)
  have mW_0_0 : W.cell? ⟨w.heap.size, 0, none⟩ = some (.int .i64 ax) := by rw [← hW]; simp [go_sem]
  have mW_0_1 : W.cell? ⟨w.heap.size, 1, none⟩ = some (.int .i64 ay) := by rw [← hW]; simp [go_sem]
  have mW_0_2 : W.cell? ⟨w.heap.size, 2, none⟩ = some (.int .i64 az) := by rw [← hW]; simp [go_sem]
  have zW_0 : w.heap.size < W.heap.size := by rw [← hW]; simp <;> omega
  have mW_1_0 : W.cell? ⟨w.heap.size + 1, 0, none⟩ = some (.int .i64 bx) := by rw [← hW]; simp [go_sem]
  have mW_1_1 : W.cell? ⟨w.heap.size + 1, 1, none⟩ = some (.int .i64 b_) := by rw [← hW]; simp [go_sem]
  have mW_1_2 : W.cell? ⟨w.heap.size + 1, 2, none⟩ = some (.int .i64 bz) := by rw [← hW]; simp [go_sem]
  have zW_1 : w.heap.size + 1 < W.heap.size := by rw [← hW]; simp <;> omega
  have mW_2_0 : W.cell? ⟨w.heap.size + 1 + 1, 0, none⟩ = some (.int .i64 cx) := by rw [← hW]; simp [go_sem]
  have mW_2_1 : W.cell? ⟨w.heap.size + 1 + 1, 1, none⟩ = some (.int .i64 cy) := by rw [← hW]; simp [go_sem]
  have mW_2_2 : W.cell? ⟨w.heap.size + 1 + 1, 2, none⟩ = some (.int .i64 cz) := by rw [← hW]; simp [go_sem]
  have zW_2 : w.heap.size + 1 + 1 < W.heap.size := by rw [← hW]; simp <;> omega
  have mW_3_0 : W.cell? ⟨w.heap.size + 1 + 1 + 1, 0, none⟩ = some (.int .i64 dx) := by rw [← hW]; simp [go_sem]
  have mW_3_1 : W.cell? ⟨w.heap.size + 1 + 1 + 1, 1, none⟩ = some (.int .i64 dy) := by rw [← hW]; simp [go_sem]
  have mW_3_2 : W.cell? ⟨w.heap.size + 1 + 1 + 1, 2, none⟩ = some (.int .i64 dz) := by rw [← hW]; simp [go_sem]
  have zW_3 : w.heap.size + 1 + 1 + 1 < W.heap.size := by rw [← hW]; simp <;> omega
  have hG : W.cell? ⟨w.heap.size + 1 + 1 + 1 + 1, 0, none⟩ = some (.int .u64 0) ∧ W.cell? ⟨w.heap.size + 1 + 1 + 1 + 1, 1, none⟩ = some (.int .u64 0) ∧ W.frozen? ⟨w.heap.size + 1 + 1 + 1 + 1, 0, none⟩ = false ∧ W.frozen? ⟨w.heap.size + 1 + 1 + 1 + 1, 1, none⟩ = false ∧ w.heap.size + 1 + 1 + 1 + 1 < W.heap.size := by rw [← hW]; refine ⟨by simp [go_sem], by simp [go_sem], by simp [go_sem], by simp [go_sem], by simp <;> omega⟩
  clear hW
  have KC := kin_cell W
  refine wp_region_kin_tail 8 (by kernel_rfl) (by kernel_rfl) ?_
  simp only [List.take_succ_cons, List.take_zero]
  repeat (go_big_quiet_step (first
    | (go_at_call 32; with_reducible refine quiet_kin (rrow_any _ _ _ _))))
  refine wpQuiet_nil ?_
  clear KC
  intro _ hu_
  obtain ⟨k_, hu_⟩ := hu_
  have hk := below_kin W k_
  rw [← hu_] at hk
  clear hu_ k_
  rename World => u
  simp only [List.drop_succ_cons, List.drop_zero]
  go_wp2_with fail
  refine (FO.out u.heap.size _ (by simp) (fun o ho => ?_)).mono ?_
  · have : o = 0 ∨ o = 1 ∨ o = 2 ∨ o = 3 ∨ o = 4 ∨ o = 5 ∨ o = 6 ∨ o = 7 ∨ o = 8 ∨ o = 9 ∨ o = 10 ∨ o = 11 ∨ o = 12 ∨ o = 13 ∨ o = 14 ∨ o = 15 := by omega
    rcases this with rfl | rfl | rfl | rfl | rfl | rfl | rfl | rfl | rfl | rfl | rfl | rfl | rfl | rfl | rfl | rfl <;> simp [go_sem, M16]
  rintro e w1 ⟨rfl, hn⟩
  replace hG := carry2a (carry2 hG hk) hn
  have hb2 := hBW.trans ((chaina hk hn).mono hBW.size)
  clear hn hk
  go_wp2_with fail
  exact bodyPost_ret (v := .agg #[.int .u64 (rhi D), .int .u64 (lo D)]) (by simp [results, Try.results15, go_sem, hG]) rfl ⟨rfl, (hb2.setCell (by simp <;> omega) _).setCell (by simp <;> omega) _⟩

theorem rside_any {ax ay az bx b_ bz cx cy cz dx dy dz : Int} (hm : may4 ax ay az bx b_ bz cx cy cz dx dy dz = true) (w : World) :
    Calls Try.prog 18 #[.agg #[.int .i64 ax, .int .i64 ay, .int .i64 az], .agg #[.int .i64 bx, .int .i64 b_, .int .i64 bz], .agg #[.int .i64 cx, .int .i64 cy, .int .i64 cz], .agg #[.int .i64 dx, .int .i64 dy, .int .i64 dz]] w fun e w' => e = .returned (.int .i64 (sg (detD ax ay az bx b_ bz cx cy cz dx dy dz))) ∧ Below w.heap.size w w' := by
  have DE := Lib.hid (fun W => rdet_any hm W)
  have DS := Lib.hid (detD_small hm)
  obtain ⟨D, hD⟩ : ∃ D, D = detD ax ay az bx b_ bz cx cy cz dx dy dz := ⟨_, rfl⟩
  rw [← hD] at DE DS ⊢
  clear hm hD
  go_enter Try.func18, Try.ntmps18
  go_wp2_with fail
  refine (DE.out _).mono ?_
  rintro e w1 ⟨rfl, hb⟩
  obtain ⟨hc, hf⟩ := bcell hb
  (first | (with_reducible have hz := szW hb) | (with_reducible have hz := sz5 hb) | (with_reducible have hz := sz4 hb) | (with_reducible have hz := sz3 hb) | (with_reducible have hz := sz2 hb) | (with_reducible have hz := sz1 hb) | skip)
  go_wp2_with fail
  refine (rsign_any D (isR _) _).mono ?_
  rintro e w2 ⟨rfl, hn⟩
  replace hb := chain hb hn
  clear hn hc hf
  try clear hz
  obtain ⟨hc, hf⟩ := bcell hb
  (first | (with_reducible have hz := szW hb) | (with_reducible have hz := sz5 hb) | (with_reducible have hz := sz4 hb) | (with_reducible have hz := sz3 hb) | (with_reducible have hz := sz2 hb) | (with_reducible have hz := sz1 hb) | skip)
  go_wp2_with fail
  go_ret
  exact ⟨by rw [DS.out]; rfl, bl4 hb⟩
end Go.Proofs.Yteieeclflfbinaa
