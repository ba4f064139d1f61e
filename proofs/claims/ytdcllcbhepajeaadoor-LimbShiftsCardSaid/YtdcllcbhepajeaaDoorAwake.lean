/- The law's own awake. -/
import Derived.Test.YtdcllcbhepajeaaDoorParse
import Derived.Test.YtdcllcbhepajeaaDoorRef3
namespace Go.Proofs.YtdcllcbhepajeaaDoor
open Go.RowKit Go.Proofs
set_option linter.unusedVariables false

theorem aw_prod (w : World) : Calls Tryd.prog 36 #[.int .i64 4611686018427387904, .int .i64 4] w fun e w' => e = .returned (.agg #[.int .i64 1, .int .u64 0]) ∧ Below w.heap.size w w' :=
  prod_any 4611686018427387904 4 (by decide) (by decide) (by decide) (by decide) w
theorem aw_parse (w : World) (htab : Tab w) : Calls Tryd.prog 32 #[.string ⟨#[45, 55]⟩] w fun e w' => e = .returned (.tuple #[.agg #[.int .i64 (-1), .int .u64 18446744073709551609], .int .i64 0]) ∧ Below w.heap.size w w' := by
  refine (parse_walk [45, 55] w htab).mono ?_
  rintro e w' ⟨h, hb⟩
  refine ⟨?_, hb⟩
  rcases h with ⟨_, rfl⟩ | ⟨h, _⟩
  · rfl
  · exact absurd ⟨by decide, fun c hc => by rw [show Lib.trimPrefix [45, 55] [45] = [55] from rfl] at hc; rw [List.mem_singleton.1 hc]; exact ⟨by decide, by decide⟩, by kernel_rfl⟩ h
theorem aw_fit (w : World) : Calls Tryd.prog 26 #[.agg #[.int .i64 (-1), .int .u64 18446744073709551609]] w fun e w' => e = .returned (.tuple #[.int .i64 (-7), .bool true]) ∧ Below w.heap.size w w' :=
  fit_any (-7) ⟨by decide, by decide⟩ w
theorem aw_text (w : World) (htab : Tab w) : Calls Tryd.prog 34 #[.agg #[.int .i64 1, .int .u64 0]] w fun e w' => e = .returned (.string ⟨#[49, 56, 52, 52, 54, 55, 52, 52, 48, 55, 51, 55, 48, 57, 53, 53, 49, 54, 49, 54]⟩) ∧ Below w.heap.size w w' := by
  have h : (⟨(Lib.itoa (sv 18446744073709551616)).toArray⟩ : ByteArray) = ⟨#[49, 56, 52, 52, 54, 55, 52, 52, 48, 55, 51, 55, 48, 57, 53, 53, 49, 54, 49, 54]⟩ := by kernel_rfl
  rw [← h]
  exact text_any 18446744073709551616 ⟨by decide, by decide⟩ w htab
theorem aw_of (w : World) : Calls Tryd.prog 17 #[.int .i64 (-1)] w fun e w' => e = .returned (.agg #[.int .i64 (-1), .int .u64 18446744073709551615]) ∧ Below w.heap.size w w' :=
  of_any (-1) (by decide) (by decide) w
theorem aw_sign (w : World) : Calls Tryd.prog 30 #[.agg #[.int .i64 (-1), .int .u64 18446744073709551609]] w fun e w' => e = .returned (.int .i64 (-1)) ∧ Below w.heap.size w w' :=
  sign_any (-7) ⟨by decide, by decide⟩ w

theorem awake_any (w : World) (htab : Tab w) : Calls Tryd.prog 25 #[] w fun e w' => e = .returned (.bool true) ∧ Below w.heap.size w w' := by
  go_enter Tryd.func25, Tryd.ntmps25
  go_wp2_with fail
  refine (aw_prod _).mono ?_
  rintro e w1 ⟨rfl, hb⟩
  go_wp2_with fail
  refine (aw_parse _ ((htab.below hb).alloc _)).mono ?_
  rintro e w2 ⟨rfl, hn⟩
  have hG := fresh2 hn
  replace hb := chaina hb hn
  clear hn
  go_wp2_with fail
  refine (aw_fit _).mono ?_
  rintro e w3 ⟨rfl, hn⟩
  have hG1 := fresh2 hn
  replace hG := carry2a hG hn
  replace hb := chaina hb hn
  clear hn
  go_wp2_with fail
  refine (aw_text _ (htab.below hb)).mono ?_
  rintro e w4 ⟨rfl, hn⟩
  replace hG := carry2 hG hn
  replace hG1 := carry2 hG1 hn
  replace hb := chain hb hn
  clear hn
  go_wp2_with fail
  refine (aw_of _).mono ?_
  rintro e w5 ⟨rfl, hn⟩
  replace hG := carry2 hG hn
  replace hG1 := carry2 hG1 hn
  replace hb := chain hb hn
  clear hn
  go_wp2_with fail
  refine (aw_sign _).mono ?_
  rintro e w6 ⟨rfl, hn⟩
  replace hG := carry2 hG hn
  replace hG1 := carry2 hG1 hn
  replace hb := chain hb hn
  clear hn
  go_wp2_with fail
  go_ret
  exact ⟨rfl, hb⟩

end Go.Proofs.YtdcllcbhepajeaaDoor
