/- The contracts of the determinant of four points. -/
import Derived.Test.YteieeclflfbinaaGeo
namespace Go.Proofs.Yteieeclflfbinaa
open Go.RowKit Go.Proofs
set_option linter.unusedVariables false

theorem wd_diff {a b : Int} (h : inB a = true) (k : inB b = true) : Wd (a - b) := by
  have := inB_true h; have := inB_true k; unfold Wd; omega

set_option maxHeartbeats 1000000 in
theorem det_any (ax ay az bx b_ bz cx cy cz dx dy dz : Int) (ha : mayB ax ay az = true) (hb : mayB bx b_ bz = true) (hc : mayB cx cy cz = true) (hd : mayB dx dy dz = true) (w : World) :
    Calls Try.prog 27 #[.agg #[.int .i64 ax, .int .i64 ay, .int .i64 az], .agg #[.int .i64 bx, .int .i64 b_, .int .i64 bz], .agg #[.int .i64 cx, .int .i64 cy, .int .i64 cz], .agg #[.int .i64 dx, .int .i64 dy, .int .i64 dz]] w fun e w' =>
      e = .returned (.agg #[.int .i64 (hi (det3 (ax - dx) (ay - dy) (az - dz) (bx - dx) (b_ - dy) (bz - dz) (cx - dx) (cy - dy) (cz - dz))), .int .u64 (lo (det3 (ax - dx) (ay - dy) (az - dz) (bx - dx) (b_ - dy) (bz - dz) (cx - dx) (cy - dy) (cz - dz)))]) ∧ Below w.heap.size w w' := by
  simp only [mayB, Bool.and_eq_true] at ha hb hc hd
  obtain ⟨⟨a1, a2⟩, a3⟩ := ha
  obtain ⟨⟨b1, b2⟩, b3⟩ := hb
  obtain ⟨⟨c1, c2⟩, c3⟩ := hc
  obtain ⟨⟨d1, d2⟩, d3⟩ := hd
  have T := Lib.hid (three_any _ _ _ _ _ _ _ _ _ (wd_diff a1 d1) (wd_diff a2 d2) (wd_diff a3 d3) (wd_diff b1 d1) (wd_diff b2 d2) (wd_diff b3 d3) (wd_diff c1 d1) (wd_diff c2 d2) (wd_diff c3 d3))
  have LA := Lib.hid (less_any ax ay az dx dy dz a1 a2 a3 d1 d2 d3)
  have LB := Lib.hid (less_any bx b_ bz dx dy dz b1 b2 b3 d1 d2 d3)
  have LC := Lib.hid (less_any cx cy cz dx dy dz c1 c2 c3 d1 d2 d3)
  clear a1 a2 a3 b1 b2 b3 c1 c2 c3 d1 d2 d3
  go_enter Try.func27, Try.ntmps27
  go_wp2_with fail
  generalize hW : World.alloc _ _ = W
  have hBW : Below w.heap.size w W := by rw [← hW]; exact bl5 (Below.refl _ _)
  have mW_0_0 : W.cell? ⟨w.heap.size, 0, none⟩ = some (.int .i64 ax) := by rw [← hW]; simp [go_sem]
  have mW_0_1 : W.cell? ⟨w.heap.size, 1, none⟩ = some (.int .i64 ay) := by rw [← hW]; simp [go_sem]
  have mW_0_2 : W.cell? ⟨w.heap.size, 2, none⟩ = some (.int .i64 az) := by rw [← hW]; simp [go_sem]
  have zW_0 : w.heap.size < W.heap.size := by rw [← hW]; simp <;> omega
  have mW_1_0 : W.cell? ⟨w.heap.size + 1, 0, none⟩ = some (.int .i64 bx) := by rw [← hW]; simp [go_sem]
  have mW_1_1 : W.cell? ⟨w.heap.size + 1, 1, none⟩ = some (.int .i64 b_) := by rw [← hW]; simp [go_sem]
  have mW_1_2 : W.cell? ⟨w.heap.size + 1, 2, none⟩ = some (.int .i64 bz) := by rw [← hW]; simp [go_sem]
  have zW_1 : w.heap.size + 1 < W.heap.size := by rw [← hW]; simp <;> omega
  have mW_2_0 : W.cell? ⟨w.heap.size + 1 + 1, 0, none⟩ = some (.int .i64 cx) := by rw [← hW]; simp [go_sem]
  have mW_2_1 : W.cell? ⟨w.heap.size + 1 + 1, 1, none⟩ = some (.int .i64 cy) := by rw [← hW]; simp [go_sem]
  have mW_2_2 : W.cell? ⟨w.heap.size + 1 + 1, 2, none⟩ = some (.int .i64 cz) := by rw [← hW]; simp [go_sem]
  have zW_2 : w.heap.size + 1 + 1 < W.heap.size := by rw [← hW]; simp <;> omega
  have mW_3_0 : W.cell? ⟨w.heap.size + 1 + 1 + 1, 0, none⟩ = some (.int .i64 dx) := by rw [← hW]; simp [go_sem]
  have mW_3_1 : W.cell? ⟨w.heap.size + 1 + 1 + 1, 1, none⟩ = some (.int .i64 dy) := by rw [← hW]; simp [go_sem]
  have mW_3_2 : W.cell? ⟨w.heap.size + 1 + 1 + 1, 2, none⟩ = some (.int .i64 dz) := by rw [← hW]; simp [go_sem]
  have zW_3 : w.heap.size + 1 + 1 + 1 < W.heap.size := by rw [← hW]; simp <;> omega
  have hG : W.cell? ⟨w.heap.size + 1 + 1 + 1 + 1, 0, none⟩ = some (.int .i64 0) ∧ W.cell? ⟨w.heap.size + 1 + 1 + 1 + 1, 1, none⟩ = some (.int .u64 0) ∧ W.frozen? ⟨w.heap.size + 1 + 1 + 1 + 1, 0, none⟩ = false ∧ W.frozen? ⟨w.heap.size + 1 + 1 + 1 + 1, 1, none⟩ = false ∧ w.heap.size + 1 + 1 + 1 + 1 < W.heap.size := by rw [← hW]; refine ⟨by simp [go_sem], by simp [go_sem], by simp [go_sem], by simp [go_sem], by simp <;> omega⟩
  clear hW
  have hne_0 : w.heap.size ≠ w.heap.size + 1 + 1 + 1 + 1 := by omega
  have hne_1 : w.heap.size + 1 ≠ w.heap.size + 1 + 1 + 1 + 1 := by omega
  have hne_2 : w.heap.size + 1 + 1 ≠ w.heap.size + 1 + 1 + 1 + 1 := by omega
  have hne_3 : w.heap.size + 1 + 1 + 1 ≠ w.heap.size + 1 + 1 + 1 + 1 := by omega
  go_region_held3 (fun w' => (∀ b o, b < W.heap.size → b ≠ w.heap.size + 1 + 1 + 1 + 1 → w'.cell? ⟨b, o, none⟩ = W.cell? ⟨b, o, none⟩) ∧ W.heap.size ≤ w'.heap.size ∧ Below w.heap.size w w')
    (first | exact kp0 hBW | exact kp_call ‹_› hn | exact kp_alloc ‹_› | exact kp_re ‹_› (by first | assumption | exact Nat.le_refl _) hBW.size | exact kp_set ‹_› (by first | exact .inl rfl | (exact .inr (by first | assumption | exact Nat.le_refl _))) (by omega) | exact kp_set (kp_set ‹_› (by first | exact .inl rfl | (exact .inr (by first | assumption | exact Nat.le_refl _))) (by omega)) (by first | exact .inl rfl | (exact .inr (by first | assumption | exact Nat.le_refl _))) (by omega) | exact kp_set (kp_set (kp_set ‹_› (by first | exact .inl rfl | (exact .inr (by first | assumption | exact Nat.le_refl _))) (by omega)) (by first | exact .inl rfl | (exact .inr (by first | assumption | exact Nat.le_refl _))) (by omega)) (by first | exact .inl rfl | (exact .inr (by first | assumption | exact Nat.le_refl _))) (by omega))
    (first
      | (go_at_call 34; (with_reducible refine (LA.out _).mono ?_); rintro e w1 ⟨rfl, hn⟩; have hz := kp_sz ‹_› hn; first | have hG := carry2 hG hn | have hG := carry2 hG (undrew hn) | skip)
      | (go_at_call 34; (with_reducible refine (LB.out _).mono ?_); rintro e w1 ⟨rfl, hn⟩; have hz := kp_sz ‹_› hn; first | have hG := carry2 hG hn | have hG := carry2 hG (undrew hn) | skip)
      | (go_at_call 34; (with_reducible refine (LC.out _).mono ?_); rintro e w1 ⟨rfl, hn⟩; have hz := kp_sz ‹_› hn; first | have hG := carry2 hG hn | have hG := carry2 hG (undrew hn) | skip)
      | (go_at_call 43; (with_reducible refine (row_any _ _ _ _).mono ?_); rintro e w1 ⟨rfl, hn⟩; have hz := kp_sz ‹_› hn; first | have hG := carry2 hG hn | have hG := carry2 hG (undrew hn) | skip)
      | (go_at_call 42; (with_reducible refine (T.out _).mono ?_); rintro e w1 ⟨rfl, hn⟩; have hz := kp_sz ‹_› hn; first | have hG := carry2 hG hn | have hG := carry2 hG (undrew hn) | skip))
  have hBf := kp_below ‹_›
  go_wp2
  exact bodyPost_ret (v := .agg #[.int .i64 (hi (det3 (ax - dx) (ay - dy) (az - dz) (bx - dx) (b_ - dy) (bz - dz) (cx - dx) (cy - dy) (cz - dz))), .int .u64 (lo (det3 (ax - dx) (ay - dy) (az - dz) (bx - dx) (b_ - dy) (bz - dz) (cx - dx) (cy - dy) (cz - dz)))])
    (by simp [results, Try.results27, go_sem, hG]) rfl ⟨rfl, hBf⟩


/-- all four may be loaded -/
def may4 (ax ay az bx b_ bz cx cy cz dx dy dz : Int) : Bool := mayB ax ay az && mayB bx b_ bz && mayB cx cy cz && mayB dx dy dz
def detD (ax ay az bx b_ bz cx cy cz dx dy dz : Int) : Int := det3 (ax - dx) (ay - dy) (az - dz) (bx - dx) (b_ - dy) (bz - dz) (cx - dx) (cy - dy) (cz - dz)
/-- the determinant, or 0 -/
def detM (ax ay az bx b_ bz cx cy cz dx dy dz : Int) : Int := if may4 ax ay az bx b_ bz cx cy cz dx dy dz = true then detD ax ay az bx b_ bz cx cy cz dx dy dz else 0

theorem may_is {x y z : Int} {b : Bool} (h : mayB x y z = b) (w : World) :
    Calls Try.prog 26 #[.agg #[.int .i64 x, .int .i64 y, .int .i64 z]] w fun e w' => e = .returned (.bool b) ∧ Below w.heap.size w w' := by
  subst h; exact may_any x y z w

theorem Det_no {ax ay az bx b_ bz cx cy cz dx dy dz : Int} (hm : may4 ax ay az bx b_ bz cx cy cz dx dy dz = false) (w : World) :
    Calls Try.prog 10 #[.agg #[.int .i64 ax, .int .i64 ay, .int .i64 az], .agg #[.int .i64 bx, .int .i64 b_, .int .i64 bz], .agg #[.int .i64 cx, .int .i64 cy, .int .i64 cz], .agg #[.int .i64 dx, .int .i64 dy, .int .i64 dz]] w fun e w' =>
      e = .returned (.tuple #[.agg #[.int .i64 0, .int .u64 0], .bool false]) ∧ Below w.heap.size w w' := by
  cases hA : mayB ax ay az
  · have MA := Lib.hid (may_is hA)
    clear hA hm
    go_enter Try.func10, Try.ntmps10
    go_wp2_with (first
      | (go_at_call 26; (with_reducible refine (MA.out _).mono ?_); rintro e w1 ⟨rfl, hn⟩; (first | (replace hb := chain hb hn; clear hn hc hf) | (have hb := hn; clear hn)); obtain ⟨hc, hf⟩ := bcell hb))
    exact bodyPost_ret (v := .tuple #[.agg #[.int .i64 0, .int .u64 0], .bool false]) (by simp [results, Try.results10, go_sem, hc]) rfl ⟨rfl, ((bl5 hb).setCell (by simp <;> omega) _).setCell (by simp <;> omega) _⟩
  · have MA := Lib.hid (may_is hA)
    cases hB : mayB bx b_ bz
    · have MB := Lib.hid (may_is hB)
      clear hA hB hm
      go_enter Try.func10, Try.ntmps10
      go_wp2_with (first
        | (go_at_call 26; (with_reducible refine (MA.out _).mono ?_); rintro e w1 ⟨rfl, hn⟩; (first | (replace hb := chain hb hn; clear hn hc hf) | (have hb := hn; clear hn)); obtain ⟨hc, hf⟩ := bcell hb)
        | (go_at_call 26; (with_reducible refine (MB.out _).mono ?_); rintro e w1 ⟨rfl, hn⟩; (first | (replace hb := chain hb hn; clear hn hc hf) | (have hb := hn; clear hn)); obtain ⟨hc, hf⟩ := bcell hb))
      exact bodyPost_ret (v := .tuple #[.agg #[.int .i64 0, .int .u64 0], .bool false]) (by simp [results, Try.results10, go_sem, hc]) rfl ⟨rfl, ((bl5 hb).setCell (by simp <;> omega) _).setCell (by simp <;> omega) _⟩
    · have MB := Lib.hid (may_is hB)
      cases hC : mayB cx cy cz
      · have MC := Lib.hid (may_is hC)
        clear hA hB hC hm
        go_enter Try.func10, Try.ntmps10
        go_wp2_with (first
          | (go_at_call 26; (with_reducible refine (MA.out _).mono ?_); rintro e w1 ⟨rfl, hn⟩; (first | (replace hb := chain hb hn; clear hn hc hf) | (have hb := hn; clear hn)); obtain ⟨hc, hf⟩ := bcell hb)
          | (go_at_call 26; (with_reducible refine (MB.out _).mono ?_); rintro e w1 ⟨rfl, hn⟩; (first | (replace hb := chain hb hn; clear hn hc hf) | (have hb := hn; clear hn)); obtain ⟨hc, hf⟩ := bcell hb)
          | (go_at_call 26; (with_reducible refine (MC.out _).mono ?_); rintro e w1 ⟨rfl, hn⟩; (first | (replace hb := chain hb hn; clear hn hc hf) | (have hb := hn; clear hn)); obtain ⟨hc, hf⟩ := bcell hb))
        exact bodyPost_ret (v := .tuple #[.agg #[.int .i64 0, .int .u64 0], .bool false]) (by simp [results, Try.results10, go_sem, hc]) rfl ⟨rfl, ((bl5 hb).setCell (by simp <;> omega) _).setCell (by simp <;> omega) _⟩
      · have MC := Lib.hid (may_is hC)
        have hD : mayB dx dy dz = false := by simpa [may4, hA, hB, hC] using hm
        have MD := Lib.hid (may_is hD)
        clear hA hB hC hD hm
        go_enter Try.func10, Try.ntmps10
        go_wp2_with (first
          | (go_at_call 26; (with_reducible refine (MA.out _).mono ?_); rintro e w1 ⟨rfl, hn⟩; (first | (replace hb := chain hb hn; clear hn hc hf) | (have hb := hn; clear hn)); obtain ⟨hc, hf⟩ := bcell hb)
          | (go_at_call 26; (with_reducible refine (MB.out _).mono ?_); rintro e w1 ⟨rfl, hn⟩; (first | (replace hb := chain hb hn; clear hn hc hf) | (have hb := hn; clear hn)); obtain ⟨hc, hf⟩ := bcell hb)
          | (go_at_call 26; (with_reducible refine (MC.out _).mono ?_); rintro e w1 ⟨rfl, hn⟩; (first | (replace hb := chain hb hn; clear hn hc hf) | (have hb := hn; clear hn)); obtain ⟨hc, hf⟩ := bcell hb)
          | (go_at_call 26; (with_reducible refine (MD.out _).mono ?_); rintro e w1 ⟨rfl, hn⟩; (first | (replace hb := chain hb hn; clear hn hc hf) | (have hb := hn; clear hn)); obtain ⟨hc, hf⟩ := bcell hb))
        exact bodyPost_ret (v := .tuple #[.agg #[.int .i64 0, .int .u64 0], .bool false]) (by simp [results, Try.results10, go_sem, hc]) rfl ⟨rfl, ((bl5 hb).setCell (by simp <;> omega) _).setCell (by simp <;> omega) _⟩

theorem Det_yes {ax ay az bx b_ bz cx cy cz dx dy dz : Int} (hm : may4 ax ay az bx b_ bz cx cy cz dx dy dz = true) (w : World) :
    Calls Try.prog 10 #[.agg #[.int .i64 ax, .int .i64 ay, .int .i64 az], .agg #[.int .i64 bx, .int .i64 b_, .int .i64 bz], .agg #[.int .i64 cx, .int .i64 cy, .int .i64 cz], .agg #[.int .i64 dx, .int .i64 dy, .int .i64 dz]] w fun e w' =>
      e = .returned (.tuple #[.agg #[.int .i64 (hi (detD ax ay az bx b_ bz cx cy cz dx dy dz)), .int .u64 (lo (detD ax ay az bx b_ bz cx cy cz dx dy dz))], .bool true]) ∧ Below w.heap.size w w' := by
  simp only [may4, Bool.and_eq_true] at hm
  obtain ⟨⟨⟨hA, hB⟩, hC⟩, hD⟩ := hm
  have DD := Lib.hid (det_any ax ay az bx b_ bz cx cy cz dx dy dz hA hB hC hD)
  have MA := Lib.hid (may_is hA)
  have MB := Lib.hid (may_is hB)
  have MC := Lib.hid (may_is hC)
  have MD := Lib.hid (may_is hD)
  clear hA hB hC hD
  unfold detD
  go_enter Try.func10, Try.ntmps10
  go_wp2_with (first
    | (go_at_call 26; (with_reducible refine (MA.out _).mono ?_); rintro e w1 ⟨rfl, hn⟩; (first | (replace hb := chain hb hn; clear hn hc hf) | (have hb := hn; clear hn)); obtain ⟨hc, hf⟩ := bcell hb)
    | (go_at_call 26; (with_reducible refine (MB.out _).mono ?_); rintro e w1 ⟨rfl, hn⟩; (first | (replace hb := chain hb hn; clear hn hc hf) | (have hb := hn; clear hn)); obtain ⟨hc, hf⟩ := bcell hb)
    | (go_at_call 26; (with_reducible refine (MC.out _).mono ?_); rintro e w1 ⟨rfl, hn⟩; (first | (replace hb := chain hb hn; clear hn hc hf) | (have hb := hn; clear hn)); obtain ⟨hc, hf⟩ := bcell hb)
    | (go_at_call 26; (with_reducible refine (MD.out _).mono ?_); rintro e w1 ⟨rfl, hn⟩; (first | (replace hb := chain hb hn; clear hn hc hf) | (have hb := hn; clear hn)); obtain ⟨hc, hf⟩ := bcell hb)
    | (go_at_call 27; (with_reducible refine (DD.out _).mono ?_); rintro e w1 ⟨rfl, hn⟩; (first | (replace hb := chain hb hn; clear hn hc hf) | (have hb := hn; clear hn)); obtain ⟨hc, hf⟩ := bcell hb))
  exact bodyPost_ret (v := .tuple #[.agg #[.int .i64 _, .int .u64 _], .bool true]) (by simp [results, Try.results10, go_sem, hc]) rfl ⟨rfl, ((bl5 hb).setCell (by simp <;> omega) _).setCell (by simp <;> omega) _⟩

end Go.Proofs.Yteieeclflfbinaa
