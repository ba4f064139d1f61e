/- LimbSums: the walk. -/
import Derived.Test.YtdcllcbhepajeaaDoorAwake
import Derived.Test.YtdcllcbhepajeaaDoorRowKit
import Derived.Test.YtdcllcbhepajeaaDoorCells
namespace Go.Proofs.YtdcllcbhepajeaaDoor
open Go.RowKit Go.Proofs
set_option linter.unusedVariables false

theorem isL_ws {a b : Int} (h : Ws a b) : IsL a b (a * 18446744073709551616 + b) := isL_pair a b h.1.1 h.1.2 h.2.1 h.2.2

set_option maxHeartbeats 4000000 in
theorem limbSums_any (a0 b0 : Int) (w0 : Ws a0 b0) (a1 b1 : Int) (w1 : Ws a1 b1) (n : Int) (hn : -9223372036854775808 ≤ n ∧ n ≤ 9223372036854775807) (w : World) (htab : Tab w) :
    Calls Tryd.prog 4 #[.agg #[.int .i64 a0, .int .u64 b0], .agg #[.int .i64 a1, .int .u64 b1], .int .i64 n] w fun e w' =>
      e = .returned (.bool true) ∧ Below w.heap.size w w' := by
  obtain ⟨x, hx⟩ : ∃ x, x = a0 * 18446744073709551616 + b0 := ⟨_, rfl⟩
  obtain ⟨y, hy⟩ : ∃ y, y = a1 * 18446744073709551616 + b1 := ⟨_, rfl⟩
  obtain ⟨rfl, rfl⟩ : IsL a0 b0 x := hx ▸ isL_ws w0
  obtain ⟨rfl, rfl⟩ : IsL a1 b1 y := hy ▸ isL_ws w1
  obtain ⟨n1, n2⟩ := hn
  clear hx hy w0 w1
  go_enter Tryd.func4, Tryd.ntmps4
  go_wp2_with fail
  generalize hW : World.alloc _ _ = W
  have hBW : Below w.heap.size w W := by rw [← hW]; exact bl2 (Below.refl _ _)
  have c0 : RCell W w.heap.size (.int .i64 (hi x)) (.int .u64 (lo x)) := by rw [← hW]; exact ⟨by simp [go_sem], by simp [go_sem], by simp [go_sem], by simp [go_sem], by simp; omega⟩
  have c1 : RCell W (w.heap.size + 1) (.int .i64 (hi y)) (.int .u64 (lo y)) := by rw [← hW]; exact ⟨by simp [go_sem], by simp [go_sem], by simp [go_sem], by simp [go_sem], by simp⟩
  unfold RCell at c0 c1
  clear hW
  go_cut [7, 8] (fun s7 s8 wx => ∃ g h : Nat, s7 = .pointer (some ⟨g, 0, none⟩) ∧ s8 = .pointer (some ⟨h, 0, none⟩) ∧ RCell wx g (.int .u64 (rhi x)) (.int .u64 (lo x)) ∧ RCell wx h (.int .u64 (rhi y)) (.int .u64 (lo y)) ∧ Below W.heap.size W wx)
  case first =>
    go_region_held3 (fun w' => Below W.heap.size W w' ∧ ∀ b o, b < W.heap.size → w'.cell? ⟨b, o, none⟩ = W.cell? ⟨b, o, none⟩)
      (((repeat (first | refine keep_drew ?_ | refine keep_alloc ?_ | refine keep_set ?_ (by first | assumption | exact Nat.le_refl _ | simp <;> omega))); (first | exact keep_refl _ | assumption)))
      (first
        | (go_at_call 15; (with_reducible refine (lof_any x (isL _) _).mono ?_); rintro e w1 ⟨rfl, hn⟩; have hz := keep_sz ‹_› hn; have hK := keep_call ‹_› hn; (first | (have hPQ := fresh22 hn; obtain ⟨hP, hQ⟩ := hPQ) | (have hPQ := fresh22 (undrew hn); obtain ⟨hP, hQ⟩ := hPQ) | have hP := fresh2 hn | have hP := fresh2 (undrew hn) | skip); (try simp only [World.size_drew] at hP); (try simp only [World.size_drew] at hQ))
        | (go_at_call 15; (with_reducible refine (lof_any y (isL _) _).mono ?_); rintro e w1 ⟨rfl, hn⟩; have hz := keep_sz ‹_› hn; have hK := keep_call ‹_› hn; (try (have nP := Nat.ne_of_gt hP.2.2.2.2; have nP2 := Nat.ne_of_lt hP.2.2.2.2)); (try (first | replace hP := carry2 hP hn | replace hP := carry2 hP (bl1 hn) | replace hP := carry2 hP (bl2 hn))); (try (first | replace hQ := carry2 hQ hn | replace hQ := carry2 hQ (bl1 hn) | replace hQ := carry2 hQ (bl2 hn))); (first | (have hPQ := fresh22 hn; obtain ⟨hR, hS⟩ := hPQ) | have hR := fresh2 hn | skip)))
    all_goals (go_wp2_with fail; go_meet)
    all_goals refine ⟨_, _, rfl, rfl, ⟨(by first | (simp [go_sem]; done) | (simp [go_sem, *]; done)), (by first | (simp [go_sem]; done) | (simp [go_sem, *]; done)), (by first | (simp [go_sem]; done) | (simp [go_sem, *]; done)), (by first | (simp [go_sem]; done) | (simp [go_sem, *]; done)), (by first | (simp; done) | (simp; omega))⟩, ⟨(by first | (simp [go_sem]; done) | (simp [go_sem, *]; done)), (by first | (simp [go_sem]; done) | (simp [go_sem, *]; done)), (by first | (simp [go_sem]; done) | (simp [go_sem, *]; done)), (by first | (simp [go_sem]; done) | (simp [go_sem, *]; done)), (by first | (simp; done) | (simp; omega))⟩, keep_below ‹_›⟩
  case rest =>
    obtain ⟨g, h, rfl, rfl, hG, hH, hB⟩ := hcut
    replace c0 := carry2 c0 hB
    replace c1 := carry2 c1 hB
    replace hB := hBW.trans (hB.mono hBW.size)
    clear hBW
    unfold RCell at hG hH
    go_wp2_with fail
    obtain ⟨W1, rfl⟩ : ∃ W1 : World, W1 = wc := ⟨_, rfl⟩
    go_region_held3 (fun w' => Below W1.heap.size W1 w' ∧ ∀ b o, b < W1.heap.size → w'.cell? ⟨b, o, none⟩ = W1.cell? ⟨b, o, none⟩)
      (first | exact keep0 _ | exact keep_call ‹_› hn | exact keep_alloc ‹_› | exact keep_re ‹_› (by first | assumption | exact Nat.le_refl _) | exact keep_set (keep_set ‹_› (by first | assumption | exact Nat.le_refl _)) (by first | assumption | exact Nat.le_refl _))
      (first
        | (go_at_call 16; (with_reducible refine (is_any _ _ (isL _) (isR _) rfl _).mono ?_); rintro e w1 ⟨rfl, hn⟩; have hz := keep_sz ‹_› hn; first | have hG := fresh2 hn | have hG := fresh2 (undrew hn) | have hG := carry2 hG hn | skip)
        | (go_at_call 17; (with_reducible refine (of_any n n1 n2 _).mono ?_); rintro e w1 ⟨rfl, hn⟩; have hz := keep_sz ‹_› hn; first | have hG := fresh2 hn | have hG := fresh2 (undrew hn) | have hG := carry2 hG hn | skip)
        | (go_at_call 18; (with_reducible refine (rof_any n n1 n2 _).mono ?_); rintro e w1 ⟨rfl, hn⟩; have hz := keep_sz ‹_› hn; first | have hG := fresh2 hn | have hG := fresh2 (undrew hn) | have hG := carry2 hG hn | skip)
        | (go_at_call 19; (with_reducible refine (add_any x y (isL _) (isL _) _).mono ?_); rintro e w1 ⟨rfl, hn⟩; have hz := keep_sz ‹_› hn; first | have hG := fresh2 hn | have hG := fresh2 (undrew hn) | have hG := carry2 hG hn | skip)
        | (go_at_call 20; (with_reducible refine (radd_any x y (isR _) (isR _) _).mono ?_); rintro e w1 ⟨rfl, hn⟩; have hz := keep_sz ‹_› hn; first | have hG := fresh2 hn | have hG := fresh2 (undrew hn) | have hG := carry2 hG hn | skip)
        | (go_at_call 21; (with_reducible refine (sub_any x y (isL _) (isL _) _).mono ?_); rintro e w1 ⟨rfl, hn⟩; have hz := keep_sz ‹_› hn; first | have hG := fresh2 hn | have hG := fresh2 (undrew hn) | have hG := carry2 hG hn | skip)
        | (go_at_call 22; (with_reducible refine (rsub_any x y (isR _) (isR _) _).mono ?_); rintro e w1 ⟨rfl, hn⟩; have hz := keep_sz ‹_› hn; first | have hG := fresh2 hn | have hG := fresh2 (undrew hn) | have hG := carry2 hG hn | skip)
        | (go_at_call 23; (with_reducible refine (neg_any x (isL _) _).mono ?_); rintro e w1 ⟨rfl, hn⟩; have hz := keep_sz ‹_› hn; first | have hG := fresh2 hn | have hG := fresh2 (undrew hn) | have hG := carry2 hG hn | skip)
        | (go_at_call 24; (with_reducible refine (rneg_any x (isR _) _).mono ?_); rintro e w1 ⟨rfl, hn⟩; have hz := keep_sz ‹_› hn; first | have hG := fresh2 hn | have hG := fresh2 (undrew hn) | have hG := carry2 hG hn | skip)
        | (go_at_call 25; (with_reducible refine (awake_any _ (htab.below (hB.trans ((keep_below ‹_›).mono hB.size)))).mono ?_); rintro e w1 ⟨rfl, hn⟩; have hz := keep_sz ‹_› hn; first | have hG := fresh2 hn | have hG := fresh2 (undrew hn) | have hG := carry2 hG hn | skip))
    have hBf := hB.trans ((keep_below (W := W1) ‹_›).mono hB.size)
    go_wp2_with fail
    go_ret
    exact ⟨rfl, hBf⟩

end Go.Proofs.YtdcllcbhepajeaaDoor
