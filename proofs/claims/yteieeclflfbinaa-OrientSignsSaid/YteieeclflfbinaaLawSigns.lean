/- OrientSigns: the walk. (Printed by mkasked.py.) -/
import Derived.Test.YteieeclflfbinaaAsked
import Derived.Test.YteieeclflfbinaaAwake2
namespace Go.Proofs.Yteieeclflfbinaa
open Go.RowKit Go.Proofs
set_option linter.unusedVariables false

set_option maxRecDepth 100000 in
set_option maxHeartbeats 1000000 in
theorem orientSigns_any (i : Int) (_ : -9223372036854775808 ≤ i ∧ i ≤ 9223372036854775807) (j : Int) (_ : -9223372036854775808 ≤ j ∧ j ≤ 9223372036854775807) (k : Int) (_ : -9223372036854775808 ≤ k ∧ k ≤ 9223372036854775807) (m : Int) (_ : -9223372036854775808 ≤ m ∧ m ≤ 9223372036854775807) {v : Value} {n : Nat} {X Y Z : Nat → Int} {w : World} (hP : Pts w v n X Y Z) :
    Calls Try.prog 9 #[v, .int .i64 i, .int .i64 j, .int .i64 k, .int .i64 m] w fun e w' => e = .returned (.bool true) ∧ Below w.heap.size w w' := by
  have SG := Lib.hid (signS_det i j k m hP)
  have AS := Lib.hid (fun (u : World) (h : Below w.heap.size w u) => asked_any i j k m (hP.mono h))
  have SE := Lib.hid (fun (u : World) (h : Below w.heap.size w u) => sees_any i j k m (hP.mono h))
  have h3 := sgV_range n X Y Z i j k m
  obtain ⟨o, cap, rfl, hn⟩ := hP.form
  generalize sgV n X Y Z i j k m = s at *
  generalize sgE n X Y Z i j k m = E at *
  unfold maxLen at hn
  clear hP
  by_cases h1 : 100 < n
  · clear h3
    go_enter Try.func9, Try.ntmps9
    go_wp2_with (first
      | (go_at_call 14; (with_reducible refine (awake2_any _).mono ?_); rintro e w1 ⟨rfl, hn⟩; (first | (replace hb := chain hb hn; clear hn hc hf) | (have hb := hn; clear hn)); obtain ⟨hc, hf⟩ := bcell hb))
    go_ret
    exact ⟨rfl, hb⟩
  · have hs : (s == -1) = true ∨ (s == -1) = false := by cases (s == -1) <;> simp
    clear h3
    rcases hs with hs | hs
    all_goals
      rw [hs] at SE
      go_enter Try.func9, Try.ntmps9
      go_wp2_with fail
      refine (SG.out).mono ?_
      rintro e w1 ⟨rfl, hb⟩
      go_wp2_with fail
      refine (AS.out _ hb).mono ?_
      rintro e w2 ⟨rfl, hn2⟩
      replace hb := chain hb hn2
      clear hn2
      go_wp2_with fail
      refine (SE.out _ hb).mono ?_
      rintro e w3 ⟨rfl, hn3⟩
      replace hb := chain hb hn3
      clear hn3
      go_wp2_with fail
      refine (awake2_any _).mono ?_
      rintro e w4 ⟨rfl, hn4⟩
      go_wp2_with fail
      go_ret
      exact ⟨rfl, chain hb hn4⟩
end Go.Proofs.Yteieeclflfbinaa
