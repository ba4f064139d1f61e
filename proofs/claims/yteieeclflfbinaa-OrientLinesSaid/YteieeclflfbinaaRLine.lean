/- The contracts of the reference's same, Straight and Line. (Printed by mkrline.py.) -/
import Derived.Test.YteieeclflfbinaaLine2
import Derived.Test.YteieeclflfbinaaRef1
namespace Go.Proofs.Yteieeclflfbinaa
open Go.RowKit Go.Proofs
set_option linter.unusedVariables false

theorem pr_eq {x y : Int} (h1 : -9223372036854775808 ≤ x) (h2 : x ≤ 9223372036854775807) (h3 : -9223372036854775808 ≤ y) (h4 : y ≤ 9223372036854775807) : ((rhi x == rhi y) && (lo x == lo y)) = decide (x = y) := by
  have : (rhi x = rhi y ∧ lo x = lo y) ↔ x = y := by unfold rhi lo; omega
  rw [Bool.eq_iff_iff]
  simpa using this
theorem zz2 {x y : Int} {P : Bool} (h : ((rhi x == rhi y) && (lo x == lo y)) = P) : (P = false ∧ (rhi x == rhi y) = false) ∨ (P = false ∧ (rhi x == rhi y) = true ∧ (lo x == lo y) = false) ∨ (P = true ∧ (rhi x == rhi y) = true ∧ (lo x == lo y) = true) := by
  cases h1 : (rhi x == rhi y) <;> cases h2 : (lo x == lo y) <;> simp_all

theorem rsame_any {a b c d : Int} (ha : Wd a) (hb : Wd b) (hc : Wd c) (hd : Wd d) (w : World) :
    Calls Try.prog 53 #[.int .i64 a, .int .i64 b, .int .i64 c, .int .i64 d] w fun e w' => e = .returned (.bool (decide (a * b = c * d))) ∧ Below w.heap.size w w' := by
  have h1 := mul_wd ha hb
  have h2 := mul_wd hc hd
  have P1 := Lib.hid (rprod_any a b (by unfold Wd at ha; omega) (by unfold Wd at ha; omega) (by unfold Wd at hb; omega) (by unfold Wd at hb; omega))
  have P2 := Lib.hid (rprod_any c d (by unfold Wd at hc; omega) (by unfold Wd at hc; omega) (by unfold Wd at hd; omega) (by unfold Wd at hd; omega))
  have Z := pr_eq (x := a * b) (y := c * d) (by omega) (by omega) (by omega) (by omega)
  generalize decide (a * b = c * d) = D at *
  generalize a * b = x at *
  generalize c * d = y at *
  clear ha hb hc hd h1 h2
  rcases zz2 Z with ⟨rfl, e1⟩ | ⟨rfl, e1, e2⟩ | ⟨rfl, e1, e2⟩
  all_goals clear Z
  all_goals go_enter Try.func53, Try.ntmps53
  all_goals go_wp2_with fail
  all_goals refine (P1.out _).mono ?_
  all_goals rintro e w1 ⟨rfl, hb⟩
  all_goals go_wp2_with fail
  all_goals refine (P2.out _).mono ?_
  all_goals rintro e w2 ⟨rfl, hn⟩
  all_goals go_wp2_with fail
  all_goals go_ret
  all_goals exact ⟨rfl, chain hb hn⟩

/-- the reference's word on a line -/
def onR (ax ay az bx b_ bz cx cy cz : Int) : Bool := decide ((bx - ax) * (cy - ay) = (b_ - ay) * (cx - ax)) && decide ((b_ - ay) * (cz - az) = (bz - az) * (cy - ay)) && decide ((bx - ax) * (cz - az) = (bz - az) * (cx - ax))
theorem onR_onL (ax ay az bx b_ bz cx cy cz : Int) : onR ax ay az bx b_ bz cx cy cz = onL (ax - cx) (ay - cy) (az - cz) (bx - cx) (b_ - cy) (bz - cz) := by
  have e1 : ((bx - ax) * (cy - ay) = (b_ - ay) * (cx - ax)) ↔ ((ax - cx) * (b_ - cy) = (ay - cy) * (bx - cx)) := by grind
  have e2 : ((b_ - ay) * (cz - az) = (bz - az) * (cy - ay)) ↔ ((ay - cy) * (bz - cz) = (az - cz) * (b_ - cy)) := by grind
  have e3 : ((bx - ax) * (cz - az) = (bz - az) * (cx - ax)) ↔ ((az - cz) * (bx - cx) = (ax - cx) * (bz - cz)) := by grind
  unfold onR onL
  rw [decide_eq_decide.2 e1, decide_eq_decide.2 e2, decide_eq_decide.2 e3]
  generalize decide ((ax - cx) * (b_ - cy) = (ay - cy) * (bx - cx)) = p
  generalize decide ((ay - cy) * (bz - cz) = (az - cz) * (b_ - cy)) = q
  generalize decide ((az - cz) * (bx - cx) = (ax - cx) * (bz - cz)) = r
  cases p <;> cases q <;> cases r <;> rfl

set_option maxHeartbeats 1000000 in
theorem rstraight_any {ax ay az bx b_ bz cx cy cz : Int} (hm : may3 ax ay az bx b_ bz cx cy cz = true) (w : World) :
    Calls Try.prog 37 #[.agg #[.int .i64 ax, .int .i64 ay, .int .i64 az], .agg #[.int .i64 bx, .int .i64 b_, .int .i64 bz], .agg #[.int .i64 cx, .int .i64 cy, .int .i64 cz]] w fun e w' => e = .returned (.bool (onR ax ay az bx b_ bz cx cy cz)) ∧ Below w.heap.size w w' := by
  simp only [may3, mayB, Bool.and_eq_true] at hm
  obtain ⟨⟨⟨⟨a1, a2⟩, a3⟩, ⟨⟨b1, b2⟩, b3⟩⟩, ⟨⟨c1, c2⟩, c3⟩⟩ := hm
  have S1 := Lib.hid (fun W => rsame_any (wd_diff b1 a1) (wd_diff c2 a2) (wd_diff b2 a2) (wd_diff c1 a1) W)
  have S2 := Lib.hid (fun W => rsame_any (wd_diff b2 a2) (wd_diff c3 a3) (wd_diff b3 a3) (wd_diff c2 a2) W)
  have S3 := Lib.hid (fun W => rsame_any (wd_diff b1 a1) (wd_diff c3 a3) (wd_diff b3 a3) (wd_diff c1 a1) W)
  have a1' := inB_true a1; have a2' := inB_true a2; have a3' := inB_true a3
  have b1' := inB_true b1; have b2' := inB_true b2; have b3' := inB_true b3
  have c1' := inB_true c1; have c2' := inB_true c2; have c3' := inB_true c3
  obtain ⟨a1l, a1h⟩ := a1'; obtain ⟨a2l, a2h⟩ := a2'; obtain ⟨a3l, a3h⟩ := a3'
  obtain ⟨b1l, b1h⟩ := b1'; obtain ⟨b2l, b2h⟩ := b2'; obtain ⟨b3l, b3h⟩ := b3'
  obtain ⟨c1l, c1h⟩ := c1'; obtain ⟨c2l, c2h⟩ := c2'; obtain ⟨c3l, c3h⟩ := c3'
  clear a1 a2 a3 b1 b2 b3 c1 c2 c3
  obtain ⟨Q1, hQ1⟩ : ∃ Q, Q = decide ((bx - ax) * (cy - ay) = (b_ - ay) * (cx - ax)) := ⟨_, rfl⟩
  obtain ⟨Q2, hQ2⟩ : ∃ Q, Q = decide ((b_ - ay) * (cz - az) = (bz - az) * (cy - ay)) := ⟨_, rfl⟩
  obtain ⟨Q3, hQ3⟩ : ∃ Q, Q = decide ((bx - ax) * (cz - az) = (bz - az) * (cx - ax)) := ⟨_, rfl⟩
  have HO := Lib.hid (show (Q1 && Q2 && Q3) = onR ax ay az bx b_ bz cx cy cz by rw [hQ1, hQ2, hQ3]; rfl)
  rw [← hQ1] at S1
  rw [← hQ2] at S2
  rw [← hQ3] at S3
  rw [← HO.out]
  clear hQ1 hQ2 hQ3 HO
  cases Q1
  case' true => cases Q2
  case' true.true => cases Q3
  all_goals
    go_enter Try.func37, Try.ntmps37
    go_wp2_with (first
      | (go_at_call 53; (with_reducible refine (S1.out _).mono ?_); rintro e w1 ⟨rfl, hn⟩; (first | (replace hb := chain hb hn; clear hn hc hf) | (have hb := hn; clear hn)); obtain ⟨hc, hf⟩ := bcell hb)
      | (go_at_call 53; (with_reducible refine (S2.out _).mono ?_); rintro e w1 ⟨rfl, hn⟩; (first | (replace hb := chain hb hn; clear hn hc hf) | (have hb := hn; clear hn)); obtain ⟨hc, hf⟩ := bcell hb)
      | (go_at_call 53; (with_reducible refine (S3.out _).mono ?_); rintro e w1 ⟨rfl, hn⟩; (first | (replace hb := chain hb hn; clear hn hc hf) | (have hb := hn; clear hn)); obtain ⟨hc, hf⟩ := bcell hb))
    go_ret
    exact ⟨by simp, bl3 hb⟩

theorem rline_no {ax ay az bx b_ bz cx cy cz : Int} (hm : may3 ax ay az bx b_ bz cx cy cz = false) (w : World) :
    Calls Try.prog 21 #[.agg #[.int .i64 ax, .int .i64 ay, .int .i64 az], .agg #[.int .i64 bx, .int .i64 b_, .int .i64 bz], .agg #[.int .i64 cx, .int .i64 cy, .int .i64 cz]] w fun e w' => e = .returned (.tuple #[.bool false, .bool false]) ∧ Below w.heap.size w w' := by
  obtain ⟨A, hA⟩ : ∃ A, A = mayB ax ay az := ⟨_, rfl⟩
  obtain ⟨B, hB⟩ : ∃ B, B = mayB bx b_ bz := ⟨_, rfl⟩
  obtain ⟨C, hC⟩ : ∃ C, C = mayB cx cy cz := ⟨_, rfl⟩
  have FA := Lib.hid (rfit_any ax ay az)
  have FB := Lib.hid (rfit_any bx b_ bz)
  have FC := Lib.hid (rfit_any cx cy cz)
  simp only [may3] at hm
  rw [← hA, ← hB, ← hC] at hm
  rw [← hA] at FA
  rw [← hB] at FB
  rw [← hC] at FC
  clear hA hB hC
  cases A
  case' true => cases B
  case' true.true => cases C
  case' true.true.true => exact absurd hm (by decide)
  all_goals
    clear hm
    go_enter Try.func21, Try.ntmps21
    go_wp2_with (first
      | (go_at_call 29; (with_reducible refine (FA.out _).mono ?_); rintro e w1 ⟨rfl, hn⟩; (first | (replace hb := chain hb hn; clear hn hc hf) | (have hb := hn; clear hn)); obtain ⟨hc, hf⟩ := bcell hb)
      | (go_at_call 29; (with_reducible refine (FB.out _).mono ?_); rintro e w1 ⟨rfl, hn⟩; (first | (replace hb := chain hb hn; clear hn hc hf) | (have hb := hn; clear hn)); obtain ⟨hc, hf⟩ := bcell hb)
      | (go_at_call 29; (with_reducible refine (FC.out _).mono ?_); rintro e w1 ⟨rfl, hn⟩; (first | (replace hb := chain hb hn; clear hn hc hf) | (have hb := hn; clear hn)); obtain ⟨hc, hf⟩ := bcell hb))
    go_ret2
    exact ⟨rfl, bl3 hb⟩

theorem rline_yes {ax ay az bx b_ bz cx cy cz : Int} (hm : may3 ax ay az bx b_ bz cx cy cz = true) (w : World) :
    Calls Try.prog 21 #[.agg #[.int .i64 ax, .int .i64 ay, .int .i64 az], .agg #[.int .i64 bx, .int .i64 b_, .int .i64 bz], .agg #[.int .i64 cx, .int .i64 cy, .int .i64 cz]] w fun e w' => e = .returned (.tuple #[.bool (onL (ax - cx) (ay - cy) (az - cz) (bx - cx) (b_ - cy) (bz - cz)), .bool true]) ∧ Below w.heap.size w w' := by
  have ST := Lib.hid (fun W => rstraight_any hm W)
  rw [onR_onL] at ST
  generalize onL (ax - cx) (ay - cy) (az - cz) (bx - cx) (b_ - cy) (bz - cz) = L at *
  simp only [may3, Bool.and_eq_true] at hm
  obtain ⟨⟨hA, hB⟩, hC⟩ := hm
  have FA := Lib.hid (rfit_any ax ay az)
  have FB := Lib.hid (rfit_any bx b_ bz)
  have FC := Lib.hid (rfit_any cx cy cz)
  rw [hA] at FA
  rw [hB] at FB
  rw [hC] at FC
  clear hA hB hC
  go_enter Try.func21, Try.ntmps21
  go_wp2_with (first
    | (go_at_call 29; (with_reducible refine (FA.out _).mono ?_); rintro e w1 ⟨rfl, hn⟩; (first | (replace hb := chain hb hn; clear hn hc hf) | (have hb := hn; clear hn)); obtain ⟨hc, hf⟩ := bcell hb)
    | (go_at_call 29; (with_reducible refine (FB.out _).mono ?_); rintro e w1 ⟨rfl, hn⟩; (first | (replace hb := chain hb hn; clear hn hc hf) | (have hb := hn; clear hn)); obtain ⟨hc, hf⟩ := bcell hb)
    | (go_at_call 29; (with_reducible refine (FC.out _).mono ?_); rintro e w1 ⟨rfl, hn⟩; (first | (replace hb := chain hb hn; clear hn hc hf) | (have hb := hn; clear hn)); obtain ⟨hc, hf⟩ := bcell hb)
    | (go_at_call 37; (with_reducible refine (ST.out _).mono ?_); rintro e w1 ⟨rfl, hn⟩; (first | (replace hb := chain hb hn; clear hn hc hf) | (have hb := hn; clear hn)); obtain ⟨hc, hf⟩ := bcell hb))
  go_ret2
  exact ⟨rfl, bl3 hb⟩
end Go.Proofs.Yteieeclflfbinaa
