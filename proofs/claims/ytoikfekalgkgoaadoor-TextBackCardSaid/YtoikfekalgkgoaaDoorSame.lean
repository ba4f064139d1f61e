/- The reference's SamePoints over two lists in memory. -/
import Derived.Test.YtoikfekalgkgoaaDoorPrint
namespace Go.Proofs.YtoikfekalgkgoaaDoor
open Go.RowKit Go.Proofs
set_option linter.unusedVariables false

set_option maxRecDepth 100000 in
set_option maxHeartbeats 2000000 in
theorem same_any (L : List P3) (v v2 : Value) (w : World) (h : PL w v L) (h2 : PL w v2 L) :
    Calls Tryd.prog 13 #[v, v2] w fun e w' => e = .returned (.bool true) ∧ Below w.heap.size w w' := by
  have hm := h.1
  unfold maxLen at hm
  obtain ⟨o, cap, rfl, hc⟩ := pl_cells h
  obtain ⟨o2, cap2, rfl, hc2⟩ := pl_cells h2
  have HC := Lib.hid hc
  have HC2 := Lib.hid hc2
  clear h hc h2 hc2
  go_enter Tryd.func13, Tryd.ntmps13
  go_wp2_with fail
  go_loopw [5] (fun b wr => ∃ (k : Nat), b = .int .i64 k ∧ k ≤ L.length ∧ Below w.heap.size w wr) (fun b _ => L.length - (intOf b).toNat)
  case atStart => exact ⟨0, rfl, by omega, Below.refl _ _⟩
  case round =>
    obtain ⟨k, rfl, hk, hB⟩ := hrel
    have HB := Lib.hid hB
    by_cases hkl : k < L.length
    · obtain ⟨a, rfl, hb, c0, c1, c2⟩ := HC.out k hkl
      obtain ⟨a2, rfl, hb2, e0, e1, e2⟩ := HC2.out k hkl
      have hkI : (k : Int) < L.length := by omega
      have t0 := (hB.cell (p := a.add (k * 3)) (by rw [addr_block]; exact hb)).trans c0
      have t1 := (hB.cell (p := ⟨(a.add (k * 3)).block, (a.add (k * 3)).off + 1, none⟩) (by show (a.add (k * 3)).block < _; rw [addr_block]; exact hb)).trans c1
      have t2 := (hB.cell (p := ⟨(a.add (k * 3)).block, (a.add (k * 3)).off + 2, none⟩) (by show (a.add (k * 3)).block < _; rw [addr_block]; exact hb)).trans c2
      have r0 := (hB.cell (p := a2.add (k * 3)) (by rw [addr_block]; exact hb2)).trans e0
      have r1 := (hB.cell (p := ⟨(a2.add (k * 3)).block, (a2.add (k * 3)).off + 1, none⟩) (by show (a2.add (k * 3)).block < _; rw [addr_block]; exact hb2)).trans e1
      have r2 := (hB.cell (p := ⟨(a2.add (k * 3)).block, (a2.add (k * 3)).off + 2, none⟩) (by show (a2.add (k * 3)).block < _; rw [addr_block]; exact hb2)).trans e2
      generalize L[k].1 = x at *
      generalize L[k].2.1 = y at *
      generalize L[k].2.2 = z at *
      clear hB c0 c1 c2 hb e0 e1 e2 hb2
      go_wp2_with fail
      go_quiet (fail)
      go_wp2_with fail
      go_roundw
      case rel => exact ⟨k + 1, rfl, by omega, HB.out.trans ⟨rfl, rfl, rfl, Nat.le_refl _, fun _ _ => rfl⟩⟩
      case measure => simp [intOf]; omega
    · have hkI : ¬ (k : Int) < L.length := by omega
      clear hB
      go_wp2_with fail
      go_ret
      exact ⟨rfl, HB.out⟩
end Go.Proofs.YtoikfekalgkgoaaDoor
