/- Law 2's own awake. -/
import Derived.Test.YteieeclflfbinaaLine2
namespace Go.Proofs.Yteieeclflfbinaa
open Go.RowKit Go.Proofs
set_option linter.unusedVariables false

theorem aw2_exact (w : World) : Calls Try.prog 11 #[.agg #[.int .i64 1, .int .i64 0, .int .i64 0], .agg #[.int .i64 0, .int .i64 1, .int .i64 0], .agg #[.int .i64 0, .int .i64 0, .int .i64 1], .agg #[.int .i64 0, .int .i64 0, .int .i64 0]] w fun e w' =>
    e = .returned (.tuple #[.int .i64 1, .bool true]) ∧ Below w.heap.size w w' :=
  exact_yes (ax := 1) (ay := 0) (az := 0) (bx := 0) (b_ := 1) (bz := 0) (cx := 0) (cy := 0) (cz := 1) (dx := 0) (dy := 0) (dz := 0) (by decide) w
theorem aw2_filter (w : World) : Calls Try.prog 17 #[.agg #[.int .i64 1, .int .i64 0, .int .i64 0], .agg #[.int .i64 0, .int .i64 1, .int .i64 0], .agg #[.int .i64 0, .int .i64 0, .int .i64 1], .agg #[.int .i64 0, .int .i64 0, .int .i64 0]] w fun e w' =>
    e = .returned (.int .i64 1) ∧ Below w.heap.size w w' := by
  have h : filt4 1 0 0 0 1 0 0 0 1 0 0 0 = 1 := by kernel_rfl
  have := Filter_yes (ax := 1) (ay := 0) (az := 0) (bx := 0) (b_ := 1) (bz := 0) (cx := 0) (cy := 0) (cz := 1) (dx := 0) (dy := 0) (dz := 0) (by decide) w
  rw [h] at this
  exact this
theorem aw2_line (w : World) : Calls Try.prog 20 #[.agg #[.int .i64 0, .int .i64 0, .int .i64 0], .agg #[.int .i64 1, .int .i64 0, .int .i64 0], .agg #[.int .i64 5, .int .i64 0, .int .i64 0]] w fun e w' =>
    e = .returned (.tuple #[.bool true, .bool true]) ∧ Below w.heap.size w w' :=
  line_yes (ax := 0) (ay := 0) (az := 0) (bx := 1) (b_ := 0) (bz := 0) (cx := 5) (cy := 0) (cz := 0) (by decide) w
theorem aw2_sign {v : Value} {w : World} (h : Pts w v 4 (fun _ => 0) (fun _ => 0) (fun _ => 0)) : Calls Try.prog 22 #[v, .int .i64 1, .int .i64 0, .int .i64 2, .int .i64 3] w fun e w' =>
    e = .returned (.tuple #[.int .i64 (-1), .int .i64 0]) ∧ Below w.heap.size w w' := by
  refine (signS_any 1 0 2 3 h).mono fun e w' ⟨hs, hb⟩ => ⟨?_, hb⟩
  have hv : So.signV (rowOf (fun _ => 0) (fun _ => 0) (fun _ => 0)) (1 : Int).toNat (0 : Int).toNat (2 : Int).toNat (3 : Int).toNat = -1 := by kernel_rfl
  rcases hs with ⟨h1, _⟩ | ⟨_, h1, _⟩ | ⟨_, _, h1⟩
  · exact absurd (by decide) h1
  · exact absurd h1 (by decide)
  · rw [hv] at h1; exact h1

set_option maxRecDepth 100000 in
set_option maxHeartbeats 1000000 in
theorem awake2_any (w : World) : Calls Try.prog 14 #[] w fun e w' => e = .returned (.bool true) ∧ Below w.heap.size w w' := by
  have hmk : ∀ W : World, (Instr.makeSlice 42 (.int .i64 4) (.int .i64 4)).run Try.prog W = .ok (.slice (some ⟨W.heap.size, 0, none⟩) 4 4) (W.alloc (.cells #[.int .i64 0, .int .i64 0, .int .i64 0, .int .i64 0, .int .i64 0, .int .i64 0, .int .i64 0, .int .i64 0, .int .i64 0, .int .i64 0, .int .i64 0, .int .i64 0] 23)) := fun W => by kernel_rfl
  go_enter Try.func14, Try.ntmps14
  go_wp2_with fail
  refine (aw2_exact _).mono ?_
  rintro e w1 ⟨rfl, hb⟩
  obtain ⟨hc, hf⟩ := bcell hb
  have hz := sz4 hb
  go_wp2_with fail
  refine (aw2_sign ?_).mono ?_
  · refine ⟨by unfold maxLen; decide, .inr ⟨⟨w1.heap.size, 0, none⟩, 4, rfl, by simp, fun i hi => ?_⟩⟩
    have : i = 0 ∨ i = 1 ∨ i = 2 ∨ i = 3 := by omega
    rcases this with rfl | rfl | rfl | rfl <;> refine ⟨?_, ?_, ?_⟩ <;> simp [go_sem, Addr.add]
  rintro e w2 ⟨rfl, hn⟩
  have hb2 := chaina hb hn
  clear hn hc hf hz hb
  obtain ⟨hc, hf⟩ := bcell hb2
  have hz := sz4 hb2
  go_wp2_with fail
  refine (aw2_line _).mono ?_
  rintro e w3 ⟨rfl, hn⟩
  have hb := chain hb2 hn
  clear hn hc hf hz hb2
  obtain ⟨hc, hf⟩ := bcell hb
  have hz := sz4 hb
  go_wp2_with fail
  refine (aw2_filter _).mono ?_
  rintro e w4 ⟨rfl, hn⟩
  have hb2 := chain hb hn
  go_wp2_with fail
  go_ret
  exact ⟨rfl, bl4 hb2⟩
end Go.Proofs.Yteieeclflfbinaa
