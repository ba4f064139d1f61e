/- OrientFilters: the walk. (Printed by mklaws4.py.) -/
import Derived.Test.YteieeclflfbinaaAwake2
import Derived.Test.YteieeclflfbinaaRDet
namespace Go.Proofs.Yteieeclflfbinaa
open Go.RowKit Go.Proofs
set_option linter.unusedVariables false

set_option maxRecDepth 100000 in
set_option maxHeartbeats 1000000 in
theorem orientFilters_any (ax ay az bx b_ bz cx cy cz dx dy dz : Int) (w : World) :
    Calls Try.prog 4 #[.agg #[.int .i64 ax, .int .i64 ay, .int .i64 az], .agg #[.int .i64 bx, .int .i64 b_, .int .i64 bz], .agg #[.int .i64 cx, .int .i64 cy, .int .i64 cz], .agg #[.int .i64 dx, .int .i64 dy, .int .i64 dz]] w fun e w' => e = .returned (.bool true) ∧ Below w.heap.size w w' := by
  have FT := Lib.hid (lfit_any ax ay az bx b_ bz cx cy cz dx dy dz)
  cases hm : may4 ax ay az bx b_ bz cx cy cz dx dy dz
  · have FN := Lib.hid (fun W => Filter_no hm W)
    rw [hm] at FT
    clear hm
    go_enter Try.func4, Try.ntmps4
    go_wp2_with (first
      | (go_at_call 12; (with_reducible refine (FT.out _).mono ?_); rintro e w1 ⟨rfl, hn⟩; (first | (replace hb := chain hb hn; clear hn hc hf) | (have hb := hn; clear hn)); obtain ⟨hc, hf⟩ := bcell hb)
      | (go_at_call 17; (with_reducible refine (FN.out _).mono ?_); rintro e w1 ⟨rfl, hn⟩; (first | (replace hb := chain hb hn; clear hn hc hf) | (have hb := hn; clear hn)); obtain ⟨hc, hf⟩ := bcell hb)
      | (go_at_call 14; (with_reducible refine (awake2_any _).mono ?_); rintro e w1 ⟨rfl, hn⟩; (first | (replace hb := chain hb hn; clear hn hc hf) | (have hb := hn; clear hn)); obtain ⟨hc, hf⟩ := bcell hb))
    go_ret
    exact ⟨rfl, bl4 hb⟩
  · have FN := Lib.hid (fun W => Filter_yes hm W)
    have RD := Lib.hid (fun W => rside_any hm W)
    have KK := Lib.hid (fun h => filt4_det (ax := ax) (ay := ay) (az := az) (bx := bx) (b_ := b_) (bz := bz) (cx := cx) (cy := cy) (cz := cz) (dx := dx) (dy := dy) (dz := dz) h)
    obtain ⟨F, hF⟩ : ∃ F, F = filt4 ax ay az bx b_ bz cx cy cz dx dy dz := ⟨_, rfl⟩
    rw [← hF] at FN KK
    rw [hm] at FT
    clear hm hF
    by_cases hz : F = 0
    · subst hz
      clear KK
      go_enter Try.func4, Try.ntmps4
      go_wp2_with (first
        | (go_at_call 12; (with_reducible refine (FT.out _).mono ?_); rintro e w1 ⟨rfl, hn⟩; (first | (replace hb := chain hb hn; clear hn hc hf) | (have hb := hn; clear hn)); obtain ⟨hc, hf⟩ := bcell hb)
        | (go_at_call 17; (with_reducible refine (FN.out _).mono ?_); rintro e w1 ⟨rfl, hn⟩; (first | (replace hb := chain hb hn; clear hn hc hf) | (have hb := hn; clear hn)); obtain ⟨hc, hf⟩ := bcell hb)
        | (go_at_call 14; (with_reducible refine (awake2_any _).mono ?_); rintro e w1 ⟨rfl, hn⟩; (first | (replace hb := chain hb hn; clear hn hc hf) | (have hb := hn; clear hn)); obtain ⟨hc, hf⟩ := bcell hb))
      go_ret
      exact ⟨rfl, bl4 hb⟩
    · rw [KK.out hz] at RD
      have hz' : (F == 0) = false := by simpa using hz
      clear KK hz
      go_enter Try.func4, Try.ntmps4
      go_wp2_with (first
        | (go_at_call 12; (with_reducible refine (FT.out _).mono ?_); rintro e w1 ⟨rfl, hn⟩; (first | (replace hb := chain hb hn; clear hn hc hf) | (have hb := hn; clear hn)); obtain ⟨hc, hf⟩ := bcell hb)
        | (go_at_call 17; (with_reducible refine (FN.out _).mono ?_); rintro e w1 ⟨rfl, hn⟩; (first | (replace hb := chain hb hn; clear hn hc hf) | (have hb := hn; clear hn)); obtain ⟨hc, hf⟩ := bcell hb)
        | (go_at_call 18; (with_reducible refine (RD.out _).mono ?_); rintro e w1 ⟨rfl, hn⟩; (first | (replace hb := chain hb hn; clear hn hc hf) | (have hb := hn; clear hn)); obtain ⟨hc, hf⟩ := bcell hb)
        | (go_at_call 14; (with_reducible refine (awake2_any _).mono ?_); rintro e w1 ⟨rfl, hn⟩; (first | (replace hb := chain hb hn; clear hn hc hf) | (have hb := hn; clear hn)); obtain ⟨hc, hf⟩ := bcell hb))
      go_ret
      exact ⟨rfl, bl4 hb⟩
end Go.Proofs.Yteieeclflfbinaa
