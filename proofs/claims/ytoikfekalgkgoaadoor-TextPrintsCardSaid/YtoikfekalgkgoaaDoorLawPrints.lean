/- The walk of the law TextPrints. -/
import Derived.Test.YtoikfekalgkgoaaDoorPrint
import Derived.Test.YtoikfekalgkgoaaDoorTAwake
namespace Go.Proofs.YtoikfekalgkgoaaDoor
open Go.RowKit Go.Proofs
set_option linter.unusedVariables false

theorem pl_len {u : World} {v : Value} {L : List P3} (h : PL u v L) : ∃ o cap, v = .slice o L.length cap := by
  obtain ⟨_, ⟨rfl, rfl⟩ | ⟨a, cap, rfl, _⟩⟩ := h
  · exact ⟨none, 0, rfl⟩
  · exact ⟨some a, cap, rfl⟩
set_option maxRecDepth 100000 in
set_option maxHeartbeats 2000000 in
theorem textPrints_any (x y z : Int) (hx : Ti.inI x) (hy : Ti.inI y) (hz : Ti.inI z) {v : Value} {L : List P3} {w : World} (hP : PL w v L) (hk : ∀ p ∈ L, OkP p) (he : Env w) :
    Calls Tryd.prog 3 #[v, .agg #[.int .i64 x, .int .i64 y, .int .i64 z]] w fun e w' => e = .returned (.bool true) ∧ Below w.heap.size w w' := by
  have AW := Lib.hid (fun W (hw : Below w.heap.size w W) => tawake_any W (he.mono hw))
  obtain ⟨o, cap, rfl⟩ := pl_len hP
  by_cases hl : 300 < L.length
  · have hl' : (300 : Int) < L.length := by omega
    clear hP hk he
    go_enter Tryd.func3, Tryd.ntmps3
    go_wp2_with fail
    refine (AW.out _ ((Below.refl _ _).alloc (Nat.le_refl _) _)).mono ?_
    rintro e w1 ⟨rfl, hn⟩
    go_wp2_with fail
    go_ret
    exact ⟨rfl, bl1 hn⟩
  · have hl' : ¬ (300 : Int) < L.length := by omega
    have HP := Lib.hid hP
    have HK := Lib.hid hk
    have HE := Lib.hid he
    clear hP hk he
    go_enter Tryd.func3, Tryd.ntmps3
    go_upto_region 3 with fail
    have c0 : (w.alloc (.cells #[.int .i64 x, .int .i64 y, .int .i64 z] 24)).cell? ⟨w.heap.size, 0, none⟩ = some (.int .i64 x) := by simp [go_sem]
    have c1 : (w.alloc (.cells #[.int .i64 x, .int .i64 y, .int .i64 z] 24)).cell? ⟨w.heap.size, 1, none⟩ = some (.int .i64 y) := by simp [go_sem]
    have c2 : (w.alloc (.cells #[.int .i64 x, .int .i64 y, .int .i64 z] 24)).cell? ⟨w.heap.size, 2, none⟩ = some (.int .i64 z) := by simp [go_sem]
    have hB : Below w.heap.size w (w.alloc (.cells #[.int .i64 x, .int .i64 y, .int .i64 z] 24)) := (Below.refl _ _).alloc (Nat.le_refl _) _
    have hlt : w.heap.size < (w.alloc (.cells #[.int .i64 x, .int .i64 y, .int .i64 z] 24)).heap.size := by simp
    generalize w.alloc (.cells #[.int .i64 x, .int .i64 y, .int .i64 z] 24) = W at *
    have HB := Lib.hid hB
    have BK := Lib.hid (fun k => (show Below w.heap.size w (kin W k) from hB.trans ((below_kin W k).mono hB.size)))
    have PT := Lib.hid (fun k => (show Calls Tryd.prog 10 #[.agg #[.int .i64 x, .int .i64 y, .int .i64 z]] (kin W k) fun e w' => e = .returned (.string ⟨(Tx.pt x y z).toArray⟩) ∧ Below (kin W k).heap.size (kin W k) w' from point_any x y z hx hy hz _ (HE.out.mono (BK.out k))))
    have RT := Lib.hid (fun k => (show Calls Tryd.prog 11 #[.agg #[.int .i64 x, .int .i64 y, .int .i64 z]] (kin W k) fun e w' => e = .returned (.string ⟨(Tx.pt x y z).toArray⟩) ∧ Below (kin W k).heap.size (kin W k) w' from rpoint_any x y z hx hy hz _))
    have PR := Lib.hid (fun k => tprint_any L _ (kin W k) (HP.out.mono (BK.out k)) HK.out (by omega) (HE.out.mono (BK.out k)))
    have RR := Lib.hid (fun k => rprint_any L _ (kin W k) (HP.out.mono (BK.out k)) HK.out (by omega))
    have AK := Lib.hid (fun k => AW.out (kin W k) (BK.out k))
    generalize Tx.print L = S at *
    generalize Tx.pt x y z = T at *
    clear hB
    have KC := kin_cell W
    refine wp_region_kin_flat (by kernel_rfl) (by kernel_rfl) (by kernel_rfl) ?_
    repeat (go_big_quiet_step (first
      | (go_at_call 8; with_reducible refine quiet_kin (PR.out _))
      | (go_at_call 9; with_reducible refine quiet_kin (RR.out _))
      | (go_at_call 10; with_reducible refine quiet_kin (PT.out _))
      | (go_at_call 11; with_reducible refine quiet_kin (RT.out _))
      | (go_at_call 7; with_reducible refine quiet_kin (AK.out _))))
    refine wpQuiet_nil ?_
    clear KC
    intro _ hu_
    obtain ⟨k_, hu_⟩ := hu_
    have hk := below_kin W k_
    rw [← hu_] at hk
    clear hu_ k_
    rename World => U
    go_wp2_with fail
    go_ret
    exact ⟨rfl, HB.out.trans (hk.mono HB.out.size)⟩
end Go.Proofs.YtoikfekalgkgoaaDoor
