/- OrientLines: the walk. (Printed by mkrline.py.) -/
import Derived.Test.YteieeclflfbinaaAwake2
import Derived.Test.YteieeclflfbinaaRLine
namespace Go.Proofs.Yteieeclflfbinaa
open Go.RowKit Go.Proofs
set_option linter.unusedVariables false

set_option maxHeartbeats 1000000 in
theorem orientLines_any (ax ay az bx b_ bz cx cy cz : Int) (w : World) :
    Calls Try.prog 6 #[.agg #[.int .i64 ax, .int .i64 ay, .int .i64 az], .agg #[.int .i64 bx, .int .i64 b_, .int .i64 bz], .agg #[.int .i64 cx, .int .i64 cy, .int .i64 cz]] w fun e w' => e = .returned (.bool true) ∧ Below w.heap.size w w' := by
  cases hm : may3 ax ay az bx b_ bz cx cy cz
  · have L1 := Lib.hid (fun W => line_no hm W)
    have L2 := Lib.hid (fun W => rline_no hm W)
    clear hm
    go_enter Try.func6, Try.ntmps6
    go_wp2_with (first
      | (go_at_call 20; (with_reducible refine (L1.out _).mono ?_); rintro e w1 ⟨rfl, hn⟩; (first | (replace hb := chain hb hn; clear hn hc hf) | (have hb := hn; clear hn)); obtain ⟨hc, hf⟩ := bcell hb)
      | (go_at_call 21; (with_reducible refine (L2.out _).mono ?_); rintro e w1 ⟨rfl, hn⟩; (first | (replace hb := chain hb hn; clear hn hc hf) | (have hb := hn; clear hn)); obtain ⟨hc, hf⟩ := bcell hb)
      | (go_at_call 14; (with_reducible refine (awake2_any _).mono ?_); rintro e w1 ⟨rfl, hn⟩; (first | (replace hb := chain hb hn; clear hn hc hf) | (have hb := hn; clear hn)); obtain ⟨hc, hf⟩ := bcell hb))
    go_ret
    exact ⟨rfl, bl3 hb⟩
  · have L1 := Lib.hid (fun W => line_yes hm W)
    have L2 := Lib.hid (fun W => rline_yes hm W)
    generalize onL (ax - cx) (ay - cy) (az - cz) (bx - cx) (b_ - cy) (bz - cz) = L at *
    clear hm
    cases L
    all_goals
      go_enter Try.func6, Try.ntmps6
      go_wp2_with (first
        | (go_at_call 20; (with_reducible refine (L1.out _).mono ?_); rintro e w1 ⟨rfl, hn⟩; (first | (replace hb := chain hb hn; clear hn hc hf) | (have hb := hn; clear hn)); obtain ⟨hc, hf⟩ := bcell hb)
        | (go_at_call 21; (with_reducible refine (L2.out _).mono ?_); rintro e w1 ⟨rfl, hn⟩; (first | (replace hb := chain hb hn; clear hn hc hf) | (have hb := hn; clear hn)); obtain ⟨hc, hf⟩ := bcell hb)
        | (go_at_call 14; (with_reducible refine (awake2_any _).mono ?_); rintro e w1 ⟨rfl, hn⟩; (first | (replace hb := chain hb hn; clear hn hc hf) | (have hb := hn; clear hn)); obtain ⟨hc, hf⟩ := bcell hb))
      go_ret
      exact ⟨rfl, bl3 hb⟩
end Go.Proofs.Yteieeclflfbinaa
