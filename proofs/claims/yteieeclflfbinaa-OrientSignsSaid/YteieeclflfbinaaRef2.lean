/- The contracts of the reference's determinants. -/
import Derived.Test.YteieeclflfbinaaGeo2
namespace Go.Proofs.Yteieeclflfbinaa
open Go.RowKit Go.Proofs
set_option linter.unusedVariables false

/-- a number that a loaded coordinate, or one that a change has laid, may be -/
def Cd (n : Int) : Prop := -1073741824 ≤ n ∧ n ≤ 1073741824

theorem mul_cd {x y : Int} (hx : Cd x) (hy : Cd y) : -1152921504606846976 ≤ x * y ∧ x * y ≤ 1152921504606846976 := by
  have h : (x * y).natAbs ≤ 1073741824 * 1073741824 := by
    rw [Int.natAbs_mul]
    exact Nat.mul_le_mul (by unfold Cd at hx; omega) (by unfold Cd at hy; omega)
  omega

set_option maxHeartbeats 1000000 in
theorem rthree_any (p0 p1 p2 pw q0 q1 q2 qw r0 r1 r2 rw : Int) (a0 : Cd p0) (a1 : Cd p1) (a2 : Cd p2) (b0 : Cd q0) (b1 : Cd q1) (b2 : Cd q2) (c0 : Cd r0) (c1 : Cd r1) (c2 : Cd r2) (w : World) :
    Calls Try.prog 46 #[.agg #[.int .i64 p0, .int .i64 p1, .int .i64 p2, .int .i64 pw], .agg #[.int .i64 q0, .int .i64 q1, .int .i64 q2, .int .i64 qw], .agg #[.int .i64 r0, .int .i64 r1, .int .i64 r2, .int .i64 rw]] w fun e w' =>
      e = .returned (.agg #[.int .u64 (rhi (det3 p0 p1 p2 q0 q1 q2 r0 r1 r2)), .int .u64 (lo (det3 p0 p1 p2 q0 q1 q2 r0 r1 r2))]) ∧ Below w.heap.size w w' := by
  obtain ⟨m1, m1'⟩ := mul_cd b1 c2
  obtain ⟨m2, m2'⟩ := mul_cd b2 c1
  obtain ⟨m3, m3'⟩ := mul_cd b2 c0
  obtain ⟨m4, m4'⟩ := mul_cd b0 c2
  obtain ⟨m5, m5'⟩ := mul_cd b0 c1
  obtain ⟨m6, m6'⟩ := mul_cd b1 c0
  have P1 := Lib.hid (rprod_any p0 (q1 * r2 - q2 * r1) (by unfold Cd at a0; omega) (by unfold Cd at a0; omega) (by omega) (by omega))
  have P2 := Lib.hid (rprod_any p1 (q2 * r0 - q0 * r2) (by unfold Cd at a1; omega) (by unfold Cd at a1; omega) (by omega) (by omega))
  have P3 := Lib.hid (rprod_any p2 (q0 * r1 - q1 * r0) (by unfold Cd at a2; omega) (by unfold Cd at a2; omega) (by omega) (by omega))
  clear a0 a1 a2 b0 b1 b2 c0 c1 c2
  unfold det3
  go_enter Try.func46, Try.ntmps46
  go_wp2_with fail
  generalize hW : World.alloc _ _ = W
  have hBW : Below w.heap.size w W := by rw [← hW]; exact bl4 (Below.refl _ _)
  have mW_0_0 : W.cell? ⟨w.heap.size, 0, none⟩ = some (.int .i64 p0) := by rw [← hW]; simp [go_sem]
  have mW_0_1 : W.cell? ⟨w.heap.size, 1, none⟩ = some (.int .i64 p1) := by rw [← hW]; simp [go_sem]
  have mW_0_2 : W.cell? ⟨w.heap.size, 2, none⟩ = some (.int .i64 p2) := by rw [← hW]; simp [go_sem]
  have mW_0_3 : W.cell? ⟨w.heap.size, 3, none⟩ = some (.int .i64 pw) := by rw [← hW]; simp [go_sem]
  have zW_0 : w.heap.size < W.heap.size := by rw [← hW]; simp <;> omega
  have mW_1_0 : W.cell? ⟨w.heap.size + 1, 0, none⟩ = some (.int .i64 q0) := by rw [← hW]; simp [go_sem]
  have mW_1_1 : W.cell? ⟨w.heap.size + 1, 1, none⟩ = some (.int .i64 q1) := by rw [← hW]; simp [go_sem]
  have mW_1_2 : W.cell? ⟨w.heap.size + 1, 2, none⟩ = some (.int .i64 q2) := by rw [← hW]; simp [go_sem]
  have mW_1_3 : W.cell? ⟨w.heap.size + 1, 3, none⟩ = some (.int .i64 qw) := by rw [← hW]; simp [go_sem]
  have zW_1 : w.heap.size + 1 < W.heap.size := by rw [← hW]; simp <;> omega
  have mW_2_0 : W.cell? ⟨w.heap.size + 1 + 1, 0, none⟩ = some (.int .i64 r0) := by rw [← hW]; simp [go_sem]
  have mW_2_1 : W.cell? ⟨w.heap.size + 1 + 1, 1, none⟩ = some (.int .i64 r1) := by rw [← hW]; simp [go_sem]
  have mW_2_2 : W.cell? ⟨w.heap.size + 1 + 1, 2, none⟩ = some (.int .i64 r2) := by rw [← hW]; simp [go_sem]
  have mW_2_3 : W.cell? ⟨w.heap.size + 1 + 1, 3, none⟩ = some (.int .i64 rw) := by rw [← hW]; simp [go_sem]
  have zW_2 : w.heap.size + 1 + 1 < W.heap.size := by rw [← hW]; simp <;> omega
  have hG : W.cell? ⟨w.heap.size + 1 + 1 + 1, 0, none⟩ = some (.int .u64 0) ∧ W.cell? ⟨w.heap.size + 1 + 1 + 1, 1, none⟩ = some (.int .u64 0) ∧ W.frozen? ⟨w.heap.size + 1 + 1 + 1, 0, none⟩ = false ∧ W.frozen? ⟨w.heap.size + 1 + 1 + 1, 1, none⟩ = false ∧ w.heap.size + 1 + 1 + 1 < W.heap.size := by rw [← hW]; refine ⟨by simp [go_sem], by simp [go_sem], by simp [go_sem], by simp [go_sem], by simp <;> omega⟩
  have szW : ∀ (w1 : World), Below W.heap.size W w1 → w.heap.size < w1.heap.size ∧ w.heap.size + 1 < w1.heap.size ∧ w.heap.size + 1 + 1 < w1.heap.size := fun _ h => by have := h.size; omega
  have SZW := Lib.hid szW
  clear szW
  clear hW
  have HR := Lib.hid (show w.heap.size + 1 + 1 + 1 < W.heap.size from hG.2.2.2.2)
  refine (P1.out _).mono ?_
  rintro e w1 ⟨rfl, hb⟩
  have HZ1 := Lib.hid hb.size
  obtain ⟨hc, hf⟩ := bcell hb
  have hz := SZW.out _ hb
  replace hG := carry2 hG hb
  go_wp2_with fail
  refine (P2.out _).mono ?_
  rintro e w2 ⟨rfl, hn⟩
  have HZ2 := Lib.hid (show w1.heap.size + 1 ≤ w2.heap.size by simpa using hn.size)
  have hG1 := fresh2 hn
  replace hG := carry2a hG hn
  replace hb := chaina hb hn
  clear hn hc hf hz
  obtain ⟨hc, hf⟩ := bcell hb
  have hz := SZW.out _ hb
  go_wp2_with fail
  refine (P3.out _).mono ?_
  rintro e w3 ⟨rfl, hn⟩
  have HZ3 := Lib.hid (show w2.heap.size + 1 ≤ w3.heap.size by simpa using hn.size)
  have hG2 := fresh2 hn
  replace hG1 := carry2a hG1 hn
  replace hG := carry2a hG hn
  replace hb := chaina hb hn
  clear hn hc hf hz
  obtain ⟨hc, hf⟩ := bcell hb
  have hz := SZW.out _ hb
  go_wp2_with fail
  generalize hW4 : World.alloc _ _ = W4
  have hA : Below w3.heap.size w3 W4 := by rw [← hW4]; exact (Below.refl _ _).alloc (Nat.le_refl _) _
  have x0 : W4.cell? ⟨w3.heap.size, 0, none⟩ = some (.int .u64 (rhi (p2 * (q0 * r1 - q1 * r0)))) := by rw [← hW4]; simp [go_sem]
  have x1 : W4.cell? ⟨w3.heap.size, 1, none⟩ = some (.int .u64 (lo (p2 * (q0 * r1 - q1 * r0)))) := by rw [← hW4]; simp [go_sem]
  have x2 : w3.heap.size < W4.heap.size := by rw [← hW4]; simp
  replace hG1 := carry2 hG1 hA
  replace hG2 := carry2 hG2 hA
  replace hG := carry2 hG hA
  have hB4 : Below w.heap.size w W4 := hBW.trans ((chain hb hA).mono hBW.size)
  have q1' := HR.out
  have q2' := HZ1.out
  have q3' := HZ2.out
  have q4' := HZ3.out
  have e4 : w1.heap.size ≠ w.heap.size + 1 + 1 + 1 := by omega
  have e5 : w2.heap.size ≠ w.heap.size + 1 + 1 + 1 := by omega
  have e6 : w3.heap.size ≠ w.heap.size + 1 + 1 + 1 := by omega
  clear hW4 hc hf hz hb hA q1' q2' q3' q4' hBW
  go_region_held3 (fun w' => (w'.cell? ⟨w1.heap.size, 0, none⟩ = some (.int .u64 (rhi (p0 * (q1 * r2 - q2 * r1)))) ∧ w'.cell? ⟨w1.heap.size, 1, none⟩ = some (.int .u64 (lo (p0 * (q1 * r2 - q2 * r1)))) ∧ w'.cell? ⟨w2.heap.size, 0, none⟩ = some (.int .u64 (rhi (p1 * (q2 * r0 - q0 * r2)))) ∧ w'.cell? ⟨w2.heap.size, 1, none⟩ = some (.int .u64 (lo (p1 * (q2 * r0 - q0 * r2)))) ∧
      w'.cell? ⟨w3.heap.size, 0, none⟩ = some (.int .u64 (rhi (p2 * (q0 * r1 - q1 * r0)))) ∧ w'.cell? ⟨w3.heap.size, 1, none⟩ = some (.int .u64 (lo (p2 * (q0 * r1 - q1 * r0)))) ∧ w1.heap.size < w'.heap.size ∧ w2.heap.size < w'.heap.size ∧ w3.heap.size < w'.heap.size) ∧ Below w.heap.size w w')
    (first
      | exact ⟨⟨hG1.1, hG1.2.1, hG2.1, hG2.2.1, x0, x1, hG1.2.2.2.2, hG2.2.2.2.2, x2⟩, hB4.drew⟩
      | exact six_call ‹_› hn
      | exact six_set ‹_› e4 e5 e6 (by omega))
    (first
      | (go_at_call 48; refine (radd_any _ _ (isR _) (isR _) _).mono ?_; rintro e w5 ⟨rfl, hn⟩; first | have hG := carry2 hG hn | have hG := carry2 hG (undrew hn)))
  have hBf : Below w.heap.size w _ := And.right ‹_ ∧ Below w.heap.size w _›
  go_wp2
  exact bodyPost_ret (v := .agg #[.int .u64 (rhi (p0 * (q1 * r2 - q2 * r1) + p1 * (q2 * r0 - q0 * r2) + p2 * (q0 * r1 - q1 * r0))), .int .u64 (lo (p0 * (q1 * r2 - q2 * r1) + p1 * (q2 * r0 - q0 * r2) + p2 * (q0 * r1 - q1 * r0)))])
    (by simp [results, Try.results46, go_sem, hG]) rfl ⟨rfl, hBf⟩

end Go.Proofs.Yteieeclflfbinaa
