/- OrientBonds: the closure, the plain law, the walk. (Printed by mkbonds.py.) -/
import Derived.Test.YteieeclflfbinaaSgv
import Derived.Test.YteieeclflfbinaaAwake2
namespace Go.Proofs.Yteieeclflfbinaa
open Go.RowKit Go.Proofs
set_option linter.unusedVariables false

set_option maxHeartbeats 1000000 in
theorem clo_23 {v : Value} {n L Q : Nat} {X Y Z : Nat → Int} {p0 p1 p2 p3 p4 p5 : Int} {w : World} (hP : Pts w v n X Y Z) (hL : w.cell? ⟨L, 0, none⟩ = some v) (hl : L < w.heap.size) (hq : Q < w.heap.size)
    (q0 : w.cell? ⟨Q, 0, none⟩ = some (.int .i64 p0)) (q1 : w.cell? ⟨Q, 1, none⟩ = some (.int .i64 p1)) (q2 : w.cell? ⟨Q, 2, none⟩ = some (.int .i64 p2)) (q3 : w.cell? ⟨Q, 3, none⟩ = some (.int .i64 p3)) (q4 : w.cell? ⟨Q, 4, none⟩ = some (.int .i64 p4)) (q5 : w.cell? ⟨Q, 5, none⟩ = some (.int .i64 p5)) :
    Calls Try.prog 23 #[.int .i64 2, .int .i64 3, .pointer (some ⟨L, 0, none⟩), .pointer (some ⟨Q, 0, none⟩)] w fun e w' =>
      e = .returned (.int .i64 (sgV n X Y Z p0 p1 p2 p3)) ∧ Below w.heap.size w w' := by
  have SG := Lib.hid (fun (k : More) => signS_det (X := X) (Y := Y) (Z := Z) p0 p1 p2 p3 (hP.mono (below_kin w k)))
  obtain ⟨s, hs⟩ : ∃ s, s = sgV n X Y Z p0 p1 p2 p3 := ⟨_, rfl⟩
  obtain ⟨e, he⟩ : ∃ e, e = sgE n X Y Z p0 p1 p2 p3 := ⟨_, rfl⟩
  rw [← hs, ← he] at SG
  have hE : (e = 0) ∨ (e ≠ 0 ∧ s = 0) := by
    rcases sgE_cases n X Y Z p0 p1 p2 p3 with ⟨h, _⟩ | ⟨h1, h2⟩
    · left; rw [he, h]
    · right; rw [he, hs, h1]; exact ⟨by omega, rfl⟩
  rw [← hs]
  obtain ⟨o, cap, rfl, -⟩ := hP.form
  clear hs he hP
  rcases hE with rfl | ⟨hne, rfl⟩
  · go_enter Try.func23, Try.ntmps23
    go_wp2_with fail
    have KC := kin_cell w
    refine wp_region_kin_flat (by kernel_rfl) (by kernel_rfl) (by kernel_rfl) ?_
    repeat (go_big_quiet_step (first
      | (go_at_call 22; with_reducible refine quiet_kin (SG.out _))))
    refine wpQuiet_nil ?_
    clear KC
    intro _ hu_
    obtain ⟨k_, hu_⟩ := hu_
    have hk := below_kin w k_
    rw [← hu_] at hk
    clear hu_ k_
    rename World => u
    go_wp2_with fail
    go_ret
    exact ⟨rfl, hk⟩
  · have hn' : (e != 0) = true := by simpa using hne
    clear hne
    go_enter Try.func23, Try.ntmps23
    go_wp2_with fail
    have KC := kin_cell w
    refine wp_region_kin_flat (by kernel_rfl) (by kernel_rfl) (by kernel_rfl) ?_
    repeat (go_big_quiet_step (first
      | (go_at_call 22; with_reducible refine quiet_kin (SG.out _))))
    refine wpQuiet_nil ?_
    clear KC
    intro _ hu_
    obtain ⟨k_, hu_⟩ := hu_
    have hk := below_kin w k_
    rw [← hu_] at hk
    clear hu_ k_
    rename World => u
    go_wp2_with fail
    go_ret
    exact ⟨rfl, hk⟩

set_option maxHeartbeats 1000000 in
theorem clo_45 {v : Value} {n L Q : Nat} {X Y Z : Nat → Int} {p0 p1 p2 p3 p4 p5 : Int} {w : World} (hP : Pts w v n X Y Z) (hL : w.cell? ⟨L, 0, none⟩ = some v) (hl : L < w.heap.size) (hq : Q < w.heap.size)
    (q0 : w.cell? ⟨Q, 0, none⟩ = some (.int .i64 p0)) (q1 : w.cell? ⟨Q, 1, none⟩ = some (.int .i64 p1)) (q2 : w.cell? ⟨Q, 2, none⟩ = some (.int .i64 p2)) (q3 : w.cell? ⟨Q, 3, none⟩ = some (.int .i64 p3)) (q4 : w.cell? ⟨Q, 4, none⟩ = some (.int .i64 p4)) (q5 : w.cell? ⟨Q, 5, none⟩ = some (.int .i64 p5)) :
    Calls Try.prog 23 #[.int .i64 4, .int .i64 5, .pointer (some ⟨L, 0, none⟩), .pointer (some ⟨Q, 0, none⟩)] w fun e w' =>
      e = .returned (.int .i64 (sgV n X Y Z p0 p1 p4 p5)) ∧ Below w.heap.size w w' := by
  have SG := Lib.hid (fun (k : More) => signS_det (X := X) (Y := Y) (Z := Z) p0 p1 p4 p5 (hP.mono (below_kin w k)))
  obtain ⟨s, hs⟩ : ∃ s, s = sgV n X Y Z p0 p1 p4 p5 := ⟨_, rfl⟩
  obtain ⟨e, he⟩ : ∃ e, e = sgE n X Y Z p0 p1 p4 p5 := ⟨_, rfl⟩
  rw [← hs, ← he] at SG
  have hE : (e = 0) ∨ (e ≠ 0 ∧ s = 0) := by
    rcases sgE_cases n X Y Z p0 p1 p4 p5 with ⟨h, _⟩ | ⟨h1, h2⟩
    · left; rw [he, h]
    · right; rw [he, hs, h1]; exact ⟨by omega, rfl⟩
  rw [← hs]
  obtain ⟨o, cap, rfl, -⟩ := hP.form
  clear hs he hP
  rcases hE with rfl | ⟨hne, rfl⟩
  · go_enter Try.func23, Try.ntmps23
    go_wp2_with fail
    have KC := kin_cell w
    refine wp_region_kin_flat (by kernel_rfl) (by kernel_rfl) (by kernel_rfl) ?_
    repeat (go_big_quiet_step (first
      | (go_at_call 22; with_reducible refine quiet_kin (SG.out _))))
    refine wpQuiet_nil ?_
    clear KC
    intro _ hu_
    obtain ⟨k_, hu_⟩ := hu_
    have hk := below_kin w k_
    rw [← hu_] at hk
    clear hu_ k_
    rename World => u
    go_wp2_with fail
    go_ret
    exact ⟨rfl, hk⟩
  · have hn' : (e != 0) = true := by simpa using hne
    clear hne
    go_enter Try.func23, Try.ntmps23
    go_wp2_with fail
    have KC := kin_cell w
    refine wp_region_kin_flat (by kernel_rfl) (by kernel_rfl) (by kernel_rfl) ?_
    repeat (go_big_quiet_step (first
      | (go_at_call 22; with_reducible refine quiet_kin (SG.out _))))
    refine wpQuiet_nil ?_
    clear KC
    intro _ hu_
    obtain ⟨k_, hu_⟩ := hu_
    have hk := below_kin w k_
    rw [← hu_] at hk
    clear hu_ k_
    rename World => u
    go_wp2_with fail
    go_ret
    exact ⟨rfl, hk⟩

set_option maxHeartbeats 1000000 in
theorem clo_24 {v : Value} {n L Q : Nat} {X Y Z : Nat → Int} {p0 p1 p2 p3 p4 p5 : Int} {w : World} (hP : Pts w v n X Y Z) (hL : w.cell? ⟨L, 0, none⟩ = some v) (hl : L < w.heap.size) (hq : Q < w.heap.size)
    (q0 : w.cell? ⟨Q, 0, none⟩ = some (.int .i64 p0)) (q1 : w.cell? ⟨Q, 1, none⟩ = some (.int .i64 p1)) (q2 : w.cell? ⟨Q, 2, none⟩ = some (.int .i64 p2)) (q3 : w.cell? ⟨Q, 3, none⟩ = some (.int .i64 p3)) (q4 : w.cell? ⟨Q, 4, none⟩ = some (.int .i64 p4)) (q5 : w.cell? ⟨Q, 5, none⟩ = some (.int .i64 p5)) :
    Calls Try.prog 23 #[.int .i64 2, .int .i64 4, .pointer (some ⟨L, 0, none⟩), .pointer (some ⟨Q, 0, none⟩)] w fun e w' =>
      e = .returned (.int .i64 (sgV n X Y Z p0 p1 p2 p4)) ∧ Below w.heap.size w w' := by
  have SG := Lib.hid (fun (k : More) => signS_det (X := X) (Y := Y) (Z := Z) p0 p1 p2 p4 (hP.mono (below_kin w k)))
  obtain ⟨s, hs⟩ : ∃ s, s = sgV n X Y Z p0 p1 p2 p4 := ⟨_, rfl⟩
  obtain ⟨e, he⟩ : ∃ e, e = sgE n X Y Z p0 p1 p2 p4 := ⟨_, rfl⟩
  rw [← hs, ← he] at SG
  have hE : (e = 0) ∨ (e ≠ 0 ∧ s = 0) := by
    rcases sgE_cases n X Y Z p0 p1 p2 p4 with ⟨h, _⟩ | ⟨h1, h2⟩
    · left; rw [he, h]
    · right; rw [he, hs, h1]; exact ⟨by omega, rfl⟩
  rw [← hs]
  obtain ⟨o, cap, rfl, -⟩ := hP.form
  clear hs he hP
  rcases hE with rfl | ⟨hne, rfl⟩
  · go_enter Try.func23, Try.ntmps23
    go_wp2_with fail
    have KC := kin_cell w
    refine wp_region_kin_flat (by kernel_rfl) (by kernel_rfl) (by kernel_rfl) ?_
    repeat (go_big_quiet_step (first
      | (go_at_call 22; with_reducible refine quiet_kin (SG.out _))))
    refine wpQuiet_nil ?_
    clear KC
    intro _ hu_
    obtain ⟨k_, hu_⟩ := hu_
    have hk := below_kin w k_
    rw [← hu_] at hk
    clear hu_ k_
    rename World => u
    go_wp2_with fail
    go_ret
    exact ⟨rfl, hk⟩
  · have hn' : (e != 0) = true := by simpa using hne
    clear hne
    go_enter Try.func23, Try.ntmps23
    go_wp2_with fail
    have KC := kin_cell w
    refine wp_region_kin_flat (by kernel_rfl) (by kernel_rfl) (by kernel_rfl) ?_
    repeat (go_big_quiet_step (first
      | (go_at_call 22; with_reducible refine quiet_kin (SG.out _))))
    refine wpQuiet_nil ?_
    clear KC
    intro _ hu_
    obtain ⟨k_, hu_⟩ := hu_
    have hk := below_kin w k_
    rw [← hu_] at hk
    clear hu_ k_
    rename World => u
    go_wp2_with fail
    go_ret
    exact ⟨rfl, hk⟩

set_option maxHeartbeats 1000000 in
theorem clo_35 {v : Value} {n L Q : Nat} {X Y Z : Nat → Int} {p0 p1 p2 p3 p4 p5 : Int} {w : World} (hP : Pts w v n X Y Z) (hL : w.cell? ⟨L, 0, none⟩ = some v) (hl : L < w.heap.size) (hq : Q < w.heap.size)
    (q0 : w.cell? ⟨Q, 0, none⟩ = some (.int .i64 p0)) (q1 : w.cell? ⟨Q, 1, none⟩ = some (.int .i64 p1)) (q2 : w.cell? ⟨Q, 2, none⟩ = some (.int .i64 p2)) (q3 : w.cell? ⟨Q, 3, none⟩ = some (.int .i64 p3)) (q4 : w.cell? ⟨Q, 4, none⟩ = some (.int .i64 p4)) (q5 : w.cell? ⟨Q, 5, none⟩ = some (.int .i64 p5)) :
    Calls Try.prog 23 #[.int .i64 3, .int .i64 5, .pointer (some ⟨L, 0, none⟩), .pointer (some ⟨Q, 0, none⟩)] w fun e w' =>
      e = .returned (.int .i64 (sgV n X Y Z p0 p1 p3 p5)) ∧ Below w.heap.size w w' := by
  have SG := Lib.hid (fun (k : More) => signS_det (X := X) (Y := Y) (Z := Z) p0 p1 p3 p5 (hP.mono (below_kin w k)))
  obtain ⟨s, hs⟩ : ∃ s, s = sgV n X Y Z p0 p1 p3 p5 := ⟨_, rfl⟩
  obtain ⟨e, he⟩ : ∃ e, e = sgE n X Y Z p0 p1 p3 p5 := ⟨_, rfl⟩
  rw [← hs, ← he] at SG
  have hE : (e = 0) ∨ (e ≠ 0 ∧ s = 0) := by
    rcases sgE_cases n X Y Z p0 p1 p3 p5 with ⟨h, _⟩ | ⟨h1, h2⟩
    · left; rw [he, h]
    · right; rw [he, hs, h1]; exact ⟨by omega, rfl⟩
  rw [← hs]
  obtain ⟨o, cap, rfl, -⟩ := hP.form
  clear hs he hP
  rcases hE with rfl | ⟨hne, rfl⟩
  · go_enter Try.func23, Try.ntmps23
    go_wp2_with fail
    have KC := kin_cell w
    refine wp_region_kin_flat (by kernel_rfl) (by kernel_rfl) (by kernel_rfl) ?_
    repeat (go_big_quiet_step (first
      | (go_at_call 22; with_reducible refine quiet_kin (SG.out _))))
    refine wpQuiet_nil ?_
    clear KC
    intro _ hu_
    obtain ⟨k_, hu_⟩ := hu_
    have hk := below_kin w k_
    rw [← hu_] at hk
    clear hu_ k_
    rename World => u
    go_wp2_with fail
    go_ret
    exact ⟨rfl, hk⟩
  · have hn' : (e != 0) = true := by simpa using hne
    clear hne
    go_enter Try.func23, Try.ntmps23
    go_wp2_with fail
    have KC := kin_cell w
    refine wp_region_kin_flat (by kernel_rfl) (by kernel_rfl) (by kernel_rfl) ?_
    repeat (go_big_quiet_step (first
      | (go_at_call 22; with_reducible refine quiet_kin (SG.out _))))
    refine wpQuiet_nil ?_
    clear KC
    intro _ hu_
    obtain ⟨k_, hu_⟩ := hu_
    have hk := below_kin w k_
    rw [← hu_] at hk
    clear hu_ k_
    rename World => u
    go_wp2_with fail
    go_ret
    exact ⟨rfl, hk⟩

set_option maxHeartbeats 1000000 in
theorem clo_25 {v : Value} {n L Q : Nat} {X Y Z : Nat → Int} {p0 p1 p2 p3 p4 p5 : Int} {w : World} (hP : Pts w v n X Y Z) (hL : w.cell? ⟨L, 0, none⟩ = some v) (hl : L < w.heap.size) (hq : Q < w.heap.size)
    (q0 : w.cell? ⟨Q, 0, none⟩ = some (.int .i64 p0)) (q1 : w.cell? ⟨Q, 1, none⟩ = some (.int .i64 p1)) (q2 : w.cell? ⟨Q, 2, none⟩ = some (.int .i64 p2)) (q3 : w.cell? ⟨Q, 3, none⟩ = some (.int .i64 p3)) (q4 : w.cell? ⟨Q, 4, none⟩ = some (.int .i64 p4)) (q5 : w.cell? ⟨Q, 5, none⟩ = some (.int .i64 p5)) :
    Calls Try.prog 23 #[.int .i64 2, .int .i64 5, .pointer (some ⟨L, 0, none⟩), .pointer (some ⟨Q, 0, none⟩)] w fun e w' =>
      e = .returned (.int .i64 (sgV n X Y Z p0 p1 p2 p5)) ∧ Below w.heap.size w w' := by
  have SG := Lib.hid (fun (k : More) => signS_det (X := X) (Y := Y) (Z := Z) p0 p1 p2 p5 (hP.mono (below_kin w k)))
  obtain ⟨s, hs⟩ : ∃ s, s = sgV n X Y Z p0 p1 p2 p5 := ⟨_, rfl⟩
  obtain ⟨e, he⟩ : ∃ e, e = sgE n X Y Z p0 p1 p2 p5 := ⟨_, rfl⟩
  rw [← hs, ← he] at SG
  have hE : (e = 0) ∨ (e ≠ 0 ∧ s = 0) := by
    rcases sgE_cases n X Y Z p0 p1 p2 p5 with ⟨h, _⟩ | ⟨h1, h2⟩
    · left; rw [he, h]
    · right; rw [he, hs, h1]; exact ⟨by omega, rfl⟩
  rw [← hs]
  obtain ⟨o, cap, rfl, -⟩ := hP.form
  clear hs he hP
  rcases hE with rfl | ⟨hne, rfl⟩
  · go_enter Try.func23, Try.ntmps23
    go_wp2_with fail
    have KC := kin_cell w
    refine wp_region_kin_flat (by kernel_rfl) (by kernel_rfl) (by kernel_rfl) ?_
    repeat (go_big_quiet_step (first
      | (go_at_call 22; with_reducible refine quiet_kin (SG.out _))))
    refine wpQuiet_nil ?_
    clear KC
    intro _ hu_
    obtain ⟨k_, hu_⟩ := hu_
    have hk := below_kin w k_
    rw [← hu_] at hk
    clear hu_ k_
    rename World => u
    go_wp2_with fail
    go_ret
    exact ⟨rfl, hk⟩
  · have hn' : (e != 0) = true := by simpa using hne
    clear hne
    go_enter Try.func23, Try.ntmps23
    go_wp2_with fail
    have KC := kin_cell w
    refine wp_region_kin_flat (by kernel_rfl) (by kernel_rfl) (by kernel_rfl) ?_
    repeat (go_big_quiet_step (first
      | (go_at_call 22; with_reducible refine quiet_kin (SG.out _))))
    refine wpQuiet_nil ?_
    clear KC
    intro _ hu_
    obtain ⟨k_, hu_⟩ := hu_
    have hk := below_kin w k_
    rw [← hu_] at hk
    clear hu_ k_
    rename World => u
    go_wp2_with fail
    go_ret
    exact ⟨rfl, hk⟩

set_option maxHeartbeats 1000000 in
theorem clo_34 {v : Value} {n L Q : Nat} {X Y Z : Nat → Int} {p0 p1 p2 p3 p4 p5 : Int} {w : World} (hP : Pts w v n X Y Z) (hL : w.cell? ⟨L, 0, none⟩ = some v) (hl : L < w.heap.size) (hq : Q < w.heap.size)
    (q0 : w.cell? ⟨Q, 0, none⟩ = some (.int .i64 p0)) (q1 : w.cell? ⟨Q, 1, none⟩ = some (.int .i64 p1)) (q2 : w.cell? ⟨Q, 2, none⟩ = some (.int .i64 p2)) (q3 : w.cell? ⟨Q, 3, none⟩ = some (.int .i64 p3)) (q4 : w.cell? ⟨Q, 4, none⟩ = some (.int .i64 p4)) (q5 : w.cell? ⟨Q, 5, none⟩ = some (.int .i64 p5)) :
    Calls Try.prog 23 #[.int .i64 3, .int .i64 4, .pointer (some ⟨L, 0, none⟩), .pointer (some ⟨Q, 0, none⟩)] w fun e w' =>
      e = .returned (.int .i64 (sgV n X Y Z p0 p1 p3 p4)) ∧ Below w.heap.size w w' := by
  have SG := Lib.hid (fun (k : More) => signS_det (X := X) (Y := Y) (Z := Z) p0 p1 p3 p4 (hP.mono (below_kin w k)))
  obtain ⟨s, hs⟩ : ∃ s, s = sgV n X Y Z p0 p1 p3 p4 := ⟨_, rfl⟩
  obtain ⟨e, he⟩ : ∃ e, e = sgE n X Y Z p0 p1 p3 p4 := ⟨_, rfl⟩
  rw [← hs, ← he] at SG
  have hE : (e = 0) ∨ (e ≠ 0 ∧ s = 0) := by
    rcases sgE_cases n X Y Z p0 p1 p3 p4 with ⟨h, _⟩ | ⟨h1, h2⟩
    · left; rw [he, h]
    · right; rw [he, hs, h1]; exact ⟨by omega, rfl⟩
  rw [← hs]
  obtain ⟨o, cap, rfl, -⟩ := hP.form
  clear hs he hP
  rcases hE with rfl | ⟨hne, rfl⟩
  · go_enter Try.func23, Try.ntmps23
    go_wp2_with fail
    have KC := kin_cell w
    refine wp_region_kin_flat (by kernel_rfl) (by kernel_rfl) (by kernel_rfl) ?_
    repeat (go_big_quiet_step (first
      | (go_at_call 22; with_reducible refine quiet_kin (SG.out _))))
    refine wpQuiet_nil ?_
    clear KC
    intro _ hu_
    obtain ⟨k_, hu_⟩ := hu_
    have hk := below_kin w k_
    rw [← hu_] at hk
    clear hu_ k_
    rename World => u
    go_wp2_with fail
    go_ret
    exact ⟨rfl, hk⟩
  · have hn' : (e != 0) = true := by simpa using hne
    clear hne
    go_enter Try.func23, Try.ntmps23
    go_wp2_with fail
    have KC := kin_cell w
    refine wp_region_kin_flat (by kernel_rfl) (by kernel_rfl) (by kernel_rfl) ?_
    repeat (go_big_quiet_step (first
      | (go_at_call 22; with_reducible refine quiet_kin (SG.out _))))
    refine wpQuiet_nil ?_
    clear KC
    intro _ hu_
    obtain ⟨k_, hu_⟩ := hu_
    have hk := below_kin w k_
    rw [← hu_] at hk
    clear hu_ k_
    rename World => u
    go_wp2_with fail
    go_ret
    exact ⟨rfl, hk⟩

/-- what the closure finds -/
def BF (u : World) (L Q : Nat) (v : Value) (n : Nat) (X Y Z : Nat → Int) (p0 p1 p2 p3 p4 p5 : Int) : Prop :=
  Pts u v n X Y Z ∧ u.cell? ⟨L, 0, none⟩ = some v ∧ L < u.heap.size ∧ Q < u.heap.size ∧ u.cell? ⟨Q, 0, none⟩ = some (.int .i64 p0) ∧ u.cell? ⟨Q, 1, none⟩ = some (.int .i64 p1) ∧ u.cell? ⟨Q, 2, none⟩ = some (.int .i64 p2) ∧ u.cell? ⟨Q, 3, none⟩ = some (.int .i64 p3) ∧ u.cell? ⟨Q, 4, none⟩ = some (.int .i64 p4) ∧ u.cell? ⟨Q, 5, none⟩ = some (.int .i64 p5)
theorem BF.mono {u u1 : World} {L Q : Nat} {v : Value} {n : Nat} {X Y Z : Nat → Int} {p0 p1 p2 p3 p4 p5 : Int} (h : BF u L Q v n X Y Z p0 p1 p2 p3 p4 p5) (hn : Below u.heap.size u u1) : BF u1 L Q v n X Y Z p0 p1 p2 p3 p4 p5 := by
  obtain ⟨hc, hf, hl⟩ := bcell3 hn
  obtain ⟨h0, h1, h2, h3, a0, a1, a2, a3, a4, a5⟩ := h
  exact ⟨h0.mono hn, (hc _ _ h2).trans h1, hl _ h2, hl _ h3, (hc _ _ h3).trans a0, (hc _ _ h3).trans a1, (hc _ _ h3).trans a2, (hc _ _ h3).trans a3, (hc _ _ h3).trans a4, (hc _ _ h3).trans a5⟩
theorem clb_23 {v : Value} {n L Q : Nat} {X Y Z : Nat → Int} {p0 p1 p2 p3 p4 p5 : Int} {w : World} (h : BF w L Q v n X Y Z p0 p1 p2 p3 p4 p5) {s : Int} (hs : s = sgV n X Y Z p0 p1 p2 p3) :
    Calls Try.prog 23 #[.int .i64 2, .int .i64 3, .pointer (some ⟨L, 0, none⟩), .pointer (some ⟨Q, 0, none⟩)] w fun e w' =>
      e = .returned (.int .i64 s) ∧ Below w.heap.size w w' := by
  obtain ⟨h0, h1, h2, h3, a0, a1, a2, a3, a4, a5⟩ := h
  rw [hs]
  exact clo_23 h0 h1 h2 h3 a0 a1 a2 a3 a4 a5
theorem clb_45 {v : Value} {n L Q : Nat} {X Y Z : Nat → Int} {p0 p1 p2 p3 p4 p5 : Int} {w : World} (h : BF w L Q v n X Y Z p0 p1 p2 p3 p4 p5) {s : Int} (hs : s = sgV n X Y Z p0 p1 p4 p5) :
    Calls Try.prog 23 #[.int .i64 4, .int .i64 5, .pointer (some ⟨L, 0, none⟩), .pointer (some ⟨Q, 0, none⟩)] w fun e w' =>
      e = .returned (.int .i64 s) ∧ Below w.heap.size w w' := by
  obtain ⟨h0, h1, h2, h3, a0, a1, a2, a3, a4, a5⟩ := h
  rw [hs]
  exact clo_45 h0 h1 h2 h3 a0 a1 a2 a3 a4 a5
theorem clb_24 {v : Value} {n L Q : Nat} {X Y Z : Nat → Int} {p0 p1 p2 p3 p4 p5 : Int} {w : World} (h : BF w L Q v n X Y Z p0 p1 p2 p3 p4 p5) {s : Int} (hs : s = sgV n X Y Z p0 p1 p2 p4) :
    Calls Try.prog 23 #[.int .i64 2, .int .i64 4, .pointer (some ⟨L, 0, none⟩), .pointer (some ⟨Q, 0, none⟩)] w fun e w' =>
      e = .returned (.int .i64 s) ∧ Below w.heap.size w w' := by
  obtain ⟨h0, h1, h2, h3, a0, a1, a2, a3, a4, a5⟩ := h
  rw [hs]
  exact clo_24 h0 h1 h2 h3 a0 a1 a2 a3 a4 a5
theorem clb_35 {v : Value} {n L Q : Nat} {X Y Z : Nat → Int} {p0 p1 p2 p3 p4 p5 : Int} {w : World} (h : BF w L Q v n X Y Z p0 p1 p2 p3 p4 p5) {s : Int} (hs : s = sgV n X Y Z p0 p1 p3 p5) :
    Calls Try.prog 23 #[.int .i64 3, .int .i64 5, .pointer (some ⟨L, 0, none⟩), .pointer (some ⟨Q, 0, none⟩)] w fun e w' =>
      e = .returned (.int .i64 s) ∧ Below w.heap.size w w' := by
  obtain ⟨h0, h1, h2, h3, a0, a1, a2, a3, a4, a5⟩ := h
  rw [hs]
  exact clo_35 h0 h1 h2 h3 a0 a1 a2 a3 a4 a5
theorem clb_25 {v : Value} {n L Q : Nat} {X Y Z : Nat → Int} {p0 p1 p2 p3 p4 p5 : Int} {w : World} (h : BF w L Q v n X Y Z p0 p1 p2 p3 p4 p5) {s : Int} (hs : s = sgV n X Y Z p0 p1 p2 p5) :
    Calls Try.prog 23 #[.int .i64 2, .int .i64 5, .pointer (some ⟨L, 0, none⟩), .pointer (some ⟨Q, 0, none⟩)] w fun e w' =>
      e = .returned (.int .i64 s) ∧ Below w.heap.size w w' := by
  obtain ⟨h0, h1, h2, h3, a0, a1, a2, a3, a4, a5⟩ := h
  rw [hs]
  exact clo_25 h0 h1 h2 h3 a0 a1 a2 a3 a4 a5
theorem clb_34 {v : Value} {n L Q : Nat} {X Y Z : Nat → Int} {p0 p1 p2 p3 p4 p5 : Int} {w : World} (h : BF w L Q v n X Y Z p0 p1 p2 p3 p4 p5) {s : Int} (hs : s = sgV n X Y Z p0 p1 p3 p4) :
    Calls Try.prog 23 #[.int .i64 3, .int .i64 4, .pointer (some ⟨L, 0, none⟩), .pointer (some ⟨Q, 0, none⟩)] w fun e w' =>
      e = .returned (.int .i64 s) ∧ Below w.heap.size w w' := by
  obtain ⟨h0, h1, h2, h3, a0, a1, a2, a3, a4, a5⟩ := h
  rw [hs]
  exact clo_34 h0 h1 h2 h3 a0 a1 a2 a3 a4 a5

/-- three numbers whose sum is 0 have not all the same sign -/
theorem three_signs {a b c : Int} (h : a + b + c = 0) (ha : sg a ≠ 0) : ¬ (sg a = sg b ∧ sg b = sg c) := by
  intro ⟨h1, h2⟩
  rcases Int.lt_trichotomy a 0 with k | k | k
  · rw [So.sg_ng k] at h1 ha
    have kb : b < 0 := by
      rcases Int.lt_trichotomy b 0 with j | j | j
      · exact j
      · rw [j, So.sg_0] at h1; omega
      · rw [So.sg_pos j] at h1; omega
    rw [So.sg_ng kb] at h2
    have kc : c < 0 := by
      rcases Int.lt_trichotomy c 0 with j | j | j
      · exact j
      · rw [j, So.sg_0] at h2; omega
      · rw [So.sg_pos j] at h2; omega
    omega
  · rw [k, So.sg_0] at ha; exact ha rfl
  · rw [So.sg_pos k] at h1 ha
    have kb : 0 < b := by
      rcases Int.lt_trichotomy b 0 with j | j | j
      · rw [So.sg_ng j] at h1; omega
      · rw [j, So.sg_0] at h1; omega
      · exact j
    rw [So.sg_pos kb] at h2
    have kc : 0 < c := by
      rcases Int.lt_trichotomy c 0 with j | j | j
      · rw [So.sg_ng j] at h2; omega
      · rw [j, So.sg_0] at h2; omega
      · exact j
    omega
theorem sgV_real {n : Nat} {X Y Z : Nat → Int} {V : Nat → So.Rw} {Qs : List (Nat × Nat × Nat × Nat)} (hV : ∀ i j k m, (i, j, k, m) ∈ Qs → So.Un4 (So.q4 i j k m) → So.signV (rowOf X Y Z) i j k m = sg (So.D4 (V i) (V j) (V k) (V m)) ∧ (So.signV (rowOf X Y Z) i j k m = 1 ∨ So.signV (rowOf X Y Z) i j k m = -1))
    {i j k m : Int} (hq : (i.toNat, j.toNat, k.toNat, m.toNat) ∈ Qs) (hz : sgV n X Y Z i j k m ≠ 0) : sgV n X Y Z i j k m = sg (So.D4 (V i.toNat) (V j.toNat) (V k.toNat) (V m.toNat)) := by
  rcases sgE_cases n X Y Z i j k m with ⟨_, h, _, e⟩ | ⟨e, _⟩
  · rw [e]; exact (hV _ _ _ _ hq (un4_okp h)).1
  · exact absurd e hz
theorem bonds_law (n : Nat) (X Y Z : Nat → Int) (p0 p1 p2 p3 p4 p5 : Int) {A B C : Int} (hA : A = sgV n X Y Z p0 p1 p2 p3 * sgV n X Y Z p0 p1 p4 p5) (hB : B = -sgV n X Y Z p0 p1 p2 p4 * sgV n X Y Z p0 p1 p3 p5) (hC : C = sgV n X Y Z p0 p1 p2 p5 * sgV n X Y Z p0 p1 p3 p4)
    (zA : A ≠ 0) (zB : B ≠ 0) (zC : C ≠ 0) : ¬ (A = B ∧ B = C) := by
  have nz : ∀ {x y : Int}, x * y ≠ 0 → x ≠ 0 ∧ y ≠ 0 := fun h => ⟨fun e => h (by rw [e, Int.zero_mul]), fun e => h (by rw [e, Int.mul_zero])⟩
  obtain ⟨V, hV⟩ := So.sign_real (rowOf X Y Z) (fun _ => rfl) [(p0.toNat, p1.toNat, p2.toNat, p3.toNat), (p0.toNat, p1.toNat, p4.toNat, p5.toNat), (p0.toNat, p1.toNat, p2.toNat, p4.toNat), (p0.toNat, p1.toNat, p3.toNat, p5.toNat), (p0.toNat, p1.toNat, p2.toNat, p5.toNat), (p0.toNat, p1.toNat, p3.toNat, p4.toNat)]
  rw [hA] at zA
  rw [hB] at zB
  rw [hC] at zC
  obtain ⟨n1, n2⟩ := nz zA
  obtain ⟨n3, n4⟩ := nz zB
  obtain ⟨n5, n6⟩ := nz zC
  have e1 := sgV_real hV (.head _) n1
  have e2 := sgV_real hV (.tail _ (.head _)) n2
  have e3 := sgV_real hV (.tail _ (.tail _ (.head _))) (fun e => n3 (by rw [e]; rfl))
  have e4 := sgV_real hV (.tail _ (.tail _ (.tail _ (.head _)))) n4
  have e5 := sgV_real hV (.tail _ (.tail _ (.tail _ (.tail _ (.head _))))) n5
  have e6 := sgV_real hV (.tail _ (.tail _ (.tail _ (.tail _ (.tail _ (.head _)))))) n6
  rw [e1, e2] at hA zA
  rw [e3, e4] at hB
  rw [e5, e6] at hC
  have bd := So.bond (V p0.toNat) (V p1.toNat) (V p2.toNat) (V p3.toNat) (V p4.toNat) (V p5.toNat)
  rw [← So.sg_mul] at hA zA hC
  rw [← So.sg_opp, ← So.sg_mul] at hB
  rw [hA, hB, hC]
  refine three_signs ?_ zA
  rw [← bd, Int.neg_mul]
  omega

theorem one_mul_range {x y : Int} (h1 : -1 ≤ x ∧ x ≤ 1) (h2 : -1 ≤ y ∧ y ≤ 1) : -1 ≤ x * y ∧ x * y ≤ 1 := by
  have : x = -1 ∨ x = 0 ∨ x = 1 := by omega
  rcases this with rfl | rfl | rfl
  · rw [Int.neg_mul, Int.one_mul]; omega
  · rw [Int.zero_mul]; omega
  · rw [Int.one_mul]; omega

set_option maxRecDepth 100000 in
set_option maxHeartbeats 4000000 in
theorem orientBonds_any {v : Value} {n : Nat} {X Y Z : Nat → Int} (p0 p1 p2 p3 p4 p5 : Int) {w : World} (hP : Pts w v n X Y Z) :
    Calls Try.prog 8 #[v, .agg #[.int .i64 p0, .int .i64 p1, .int .i64 p2, .int .i64 p3, .int .i64 p4, .int .i64 p5]] w fun e w' => e = .returned (.bool true) ∧ Below w.heap.size w w' := by
  have HP := Lib.hid hP
  obtain ⟨o, cap, rfl, hn⟩ := hP.form
  unfold maxLen at hn
  clear hP
  by_cases h100 : 100 < n
  · go_enter Try.func8, Try.ntmps8
    go_wp2_with (first
      | (go_at_call 14; (with_reducible refine (awake2_any _).mono ?_); rintro e w1 ⟨rfl, hn⟩; (first | (replace hb := chain hb hn; clear hn hc hf) | (have hb := hn; clear hn)); obtain ⟨hc, hf⟩ := bcell hb))
    go_ret
    exact ⟨rfl, bl2 hb⟩
  · obtain ⟨x1, h1⟩ : ∃ x, x = sgV n X Y Z p0 p1 p2 p3 := ⟨_, rfl⟩
    obtain ⟨x2, h2⟩ : ∃ x, x = sgV n X Y Z p0 p1 p4 p5 := ⟨_, rfl⟩
    obtain ⟨x3, h3⟩ : ∃ x, x = sgV n X Y Z p0 p1 p2 p4 := ⟨_, rfl⟩
    obtain ⟨x4, h4⟩ : ∃ x, x = sgV n X Y Z p0 p1 p3 p5 := ⟨_, rfl⟩
    obtain ⟨x5, h5⟩ : ∃ x, x = sgV n X Y Z p0 p1 p2 p5 := ⟨_, rfl⟩
    obtain ⟨x6, h6⟩ : ∃ x, x = sgV n X Y Z p0 p1 p3 p4 := ⟨_, rfl⟩
    have r1 := sgV_range n X Y Z p0 p1 p2 p3
    have r2 := sgV_range n X Y Z p0 p1 p4 p5
    have r3 := sgV_range n X Y Z p0 p1 p2 p4
    have r4 := sgV_range n X Y Z p0 p1 p3 p5
    have r5 := sgV_range n X Y Z p0 p1 p2 p5
    have r6 := sgV_range n X Y Z p0 p1 p3 p4
    rw [← h1] at r1
    rw [← h2] at r2
    rw [← h3] at r3
    rw [← h4] at r4
    rw [← h5] at r5
    rw [← h6] at r6
    have m1 := one_mul_range r1 r2
    have m2 := one_mul_range (x := -x3) (by omega) r4
    have m3 := one_mul_range r5 r6
    obtain ⟨A, hA⟩ : ∃ A, A = x1 * x2 := ⟨_, rfl⟩
    obtain ⟨B, hB⟩ : ∃ B, B = -x3 * x4 := ⟨_, rfl⟩
    obtain ⟨C, hC⟩ : ∃ C, C = x5 * x6 := ⟨_, rfl⟩
    have LAW := Lib.hid (bonds_law n X Y Z p0 p1 p2 p3 p4 p5 (A := A) (B := B) (C := C) (by rw [hA, h1, h2]) (by rw [hB, h3, h4]) (by rw [hC, h5, h6]))
    rw [← hA] at m1
    rw [← hB] at m2
    rw [← hC] at m3
    have wA : IntKind.i64.wrap (x1 * x2) = A := by rw [← hA, IntKind.wrap_i64]; omega
    have wB : IntKind.i64.wrap (-x3 * x4) = B := by rw [← hB, IntKind.wrap_i64]; omega
    have wC : IntKind.i64.wrap (x5 * x6) = C := by rw [← hC, IntKind.wrap_i64]; omega
    have vA : wrap64 (x1 * x2) = A := by rw [← hA]; unfold wrap64; omega
    have vB : wrap64 (-x3 * x4) = B := by rw [← hB]; unfold wrap64; omega
    have vC : wrap64 (x5 * x6) = C := by rw [← hC]; unfold wrap64; omega
    have H1 := Lib.hid h1
    have H2 := Lib.hid h2
    have H3 := Lib.hid h3
    have H4 := Lib.hid h4
    have H5 := Lib.hid h5
    have H6 := Lib.hid h6
    obtain ⟨r3a, r3b⟩ := r3
    clear h1 h2 h3 h4 h5 h6 hA hB hC r1 r2 r4 r5 r6
    obtain ⟨mA, mA'⟩ := m1
    obtain ⟨mB, mB'⟩ := m2
    obtain ⟨mC, mC'⟩ := m3
    have hlen : ¬ (100 < (n : Int)) := by omega
    clear h100
    go_enter Try.func8, Try.ntmps8
    go_wp2_with fail
    have hF : BF ((w.alloc (.cells #[.slice o n cap] 42)).alloc (.cells #[.int .i64 p0, .int .i64 p1, .int .i64 p2, .int .i64 p3, .int .i64 p4, .int .i64 p5] 47)) w.heap.size (w.heap.size + 1) (.slice o n cap) n X Y Z p0 p1 p2 p3 p4 p5 :=
      ⟨HP.out.mono (bl2 (Below.refl _ _)), by simp [go_sem], by simp <;> omega, by simp <;> omega, by simp [go_sem], by simp [go_sem], by simp [go_sem], by simp [go_sem], by simp [go_sem], by simp [go_sem]⟩
    refine (clb_23 hF H1.out).mono ?_
    rintro e w1 ⟨rfl, hb⟩
    replace hF := hF.mono hb
    replace hb := bl2 hb
    have HF := Lib.hid hF
    have HB := Lib.hid hb
    clear hF hb
    go_wp2_with fail
    have hF := HF.out
    have hB := HB.out
    clear HF HB
    refine (clb_45 hF H2.out).mono ?_
    rintro e w2 ⟨rfl, hn⟩
    have HF := Lib.hid (hF.mono hn)
    have HB := Lib.hid (chain hB hn)
    clear hF hB hn
    go_wp2_with fail
    have hF := HF.out
    have hB := HB.out
    clear HF HB
    refine (clb_24 hF H3.out).mono ?_
    rintro e w3 ⟨rfl, hn⟩
    have HF := Lib.hid (hF.mono hn)
    have HB := Lib.hid (chain hB hn)
    clear hF hB hn
    go_wp2_with fail
    have hF := HF.out
    have hB := HB.out
    clear HF HB
    refine (clb_35 hF H4.out).mono ?_
    rintro e w4 ⟨rfl, hn⟩
    have HF := Lib.hid (hF.mono hn)
    have HB := Lib.hid (chain hB hn)
    clear hF hB hn
    go_wp2_with fail
    have hF := HF.out
    have hB := HB.out
    clear HF HB
    refine (clb_25 hF H5.out).mono ?_
    rintro e w5 ⟨rfl, hn⟩
    have HF := Lib.hid (hF.mono hn)
    have HB := Lib.hid (chain hB hn)
    clear hF hB hn
    go_wp2_with fail
    have hF := HF.out
    have hB := HB.out
    clear HF HB
    refine (clb_34 hF H6.out).mono ?_
    rintro e w6 ⟨rfl, hn⟩
    have HF := Lib.hid (hF.mono hn)
    have HB := Lib.hid (chain hB hn)
    clear hF hB hn
    have KEY : (A == 0) = true ∨ ((A == 0) = false ∧ (B == 0) = true) ∨ ((A == 0) = false ∧ (B == 0) = false ∧ (C == 0) = true) ∨ ((A == 0) = false ∧ (B == 0) = false ∧ (C == 0) = false ∧ (A == B) = false) ∨ ((A == 0) = false ∧ (B == 0) = false ∧ (C == 0) = false ∧ (A == B) = true ∧ (B == C) = false) := by
      have L := LAW.out
      simp only [beq_iff_eq, beq_eq_false_iff_ne]
      by_cases z1 : A = 0
      · exact .inl z1
      · by_cases z2 : B = 0
        · exact .inr (.inl ⟨z1, z2⟩)
        · by_cases z3 : C = 0
          · exact .inr (.inr (.inl ⟨z1, z2, z3⟩))
          · by_cases z4 : A = B
            · exact .inr (.inr (.inr (.inr ⟨z1, z2, z3, z4, fun z5 => L z1 z2 z3 ⟨z4, z5⟩⟩)))
            · exact .inr (.inr (.inr (.inl ⟨z1, z2, z3, z4⟩)))
    clear LAW
    rcases KEY with k1 | ⟨k1, k2⟩ | ⟨k1, k2, k3⟩ | ⟨k1, k2, k3, k4⟩ | ⟨k1, k2, k3, k4, k5⟩
    all_goals go_wp2_with fail
    all_goals refine (awake2_any _).mono ?_
    all_goals rintro e w7 ⟨rfl, hn⟩
    all_goals go_wp2_with fail
    all_goals go_ret
    all_goals exact ⟨rfl, chain HB.out hn⟩
end Go.Proofs.Yteieeclflfbinaa
