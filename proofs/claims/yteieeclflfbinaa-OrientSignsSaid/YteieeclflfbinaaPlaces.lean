/- The contract of the reference's Places. (Printed by mkasked.py.) -/
import Derived.Test.YteieeclflfbinaaSgv
namespace Go.Proofs.Yteieeclflfbinaa
open Go.RowKit Go.Proofs
set_option linter.unusedVariables false

/-- what the reference's Places tells -/
def plE (n : Nat) (i j k m : Int) : Int := if okp n i j k m then 0 else 21

set_option maxHeartbeats 2000000 in
set_option maxRecDepth 20000 in
theorem rplaces_any (o : Option Addr) (n cap : Nat) (hn : n ≤ maxLen) (i j k m : Int) (b : Nat) (w : World) (hbl : b < w.heap.size)
    (c0 : w.cell? ⟨b, 0, none⟩ = some (.int .i64 i)) (c1 : w.cell? ⟨b, 1, none⟩ = some (.int .i64 j)) (c2 : w.cell? ⟨b, 2, none⟩ = some (.int .i64 k)) (c3 : w.cell? ⟨b, 3, none⟩ = some (.int .i64 m)) :
    Calls Try.prog 39 #[.slice o n cap, .slice (some ⟨b, 0, none⟩) 4 4] w fun e w' => e = .returned (.int .i64 (plE n i j k m)) ∧ Below w.heap.size w w' := by
  unfold maxLen at hn
  have CC := Lib.hid (show ∀ u, Below w.heap.size w u → u.cell? ⟨b, 0, none⟩ = some (.int .i64 i) ∧ u.cell? ⟨b, 1, none⟩ = some (.int .i64 j) ∧ u.cell? ⟨b, 2, none⟩ = some (.int .i64 k) ∧ u.cell? ⟨b, 3, none⟩ = some (.int .i64 m) from fun u hu =>
    ⟨(hu.cell (p := ⟨b, 0, none⟩) hbl).trans c0, (hu.cell (p := ⟨b, 1, none⟩) hbl).trans c1, (hu.cell (p := ⟨b, 2, none⟩) hbl).trans c2, (hu.cell (p := ⟨b, 3, none⟩) hbl).trans c3⟩)
  have NO := Lib.hid (show ¬ okp n i j k m → (21 : Int) = plE n i j k m from fun h => by unfold plE; rw [if_neg h])
  have YES := Lib.hid (show okp n i j k m → (0 : Int) = plE n i j k m from fun h => by unfold plE; rw [if_pos h])
  clear c0 c1 c2 c3
  go_enter Try.func39, Try.ntmps39
  go_wp2_with fail
  go_loopw [5] (fun s wx => ∃ r : Int, s = .int .i64 r ∧ 0 ≤ r ∧ r ≤ 4 ∧ GP n i j k m r ∧ Below w.heap.size w wx) (fun s _ => 4 - (intOf s).toNat)
  case atStart => exact ⟨0, rfl, by omega, by omega, by unfold GP; omega, Below.refl _ _⟩
  case round =>
    obtain ⟨r, rfl, hr0, hr, hG, hB⟩ := hrel
    have HG := Lib.hid hG
    obtain ⟨c0, c1, c2, c3⟩ := CC.out wr hB
    have : r = 0 ∨ r = 1 ∨ r = 2 ∨ r = 3 ∨ r = 4 := by omega
    clear hr0 hr hG
    rcases this with rfl | rfl | rfl | rfl | rfl
    · by_cases h1 : i < 0
      · go_wp2_with fail
        go_ret
        exact ⟨ret_int (NO.out fun h => by unfold okp at h; omega), hB⟩
      · by_cases h2 : (n : Int) ≤ i
        · have h1' : 0 ≤ i := by omega
          go_wp2_with fail
          go_ret
          exact ⟨ret_int (NO.out fun h => by unfold okp at h; omega), hB⟩
        · have h1' : 0 ≤ i := by omega
          have h2' : i < n := by omega
          go_wp2_with fail
          go_loopw [6] (fun s wx => ∃ b : Int, s = .int .i64 b ∧ 0 ≤ b ∧ b ≤ 0 ∧ Below w.heap.size w wx) (fun s _ => 0 - (intOf s).toNat)
          case atStart => exact ⟨0, rfl, by omega, by omega, hB⟩
          case round =>
            clear c0 c1 c2 c3 hB
            obtain ⟨b, rfl, hb0, hb1, hB⟩ := hrel
            obtain ⟨c0, c1, c2, c3⟩ := CC.out wr hB
            have : b = 0 := by omega
            clear hb0 hb1
            rcases this with rfl
            · go_wp2_with fail
              exact ⟨⟨1, rfl, by omega, by omega, by have := HG.out; unfold GP at *; omega, hB⟩, by simp [intOf]⟩
    · by_cases h1 : j < 0
      · go_wp2_with fail
        go_ret
        exact ⟨ret_int (NO.out fun h => by unfold okp at h; omega), hB⟩
      · by_cases h2 : (n : Int) ≤ j
        · have h1' : 0 ≤ j := by omega
          go_wp2_with fail
          go_ret
          exact ⟨ret_int (NO.out fun h => by unfold okp at h; omega), hB⟩
        · have h1' : 0 ≤ j := by omega
          have h2' : j < n := by omega
          go_wp2_with fail
          go_loopw [6] (fun s wx => ∃ b : Int, s = .int .i64 b ∧ 0 ≤ b ∧ b ≤ 1 ∧ (1 ≤ b → i ≠ j) ∧ Below w.heap.size w wx) (fun s _ => 1 - (intOf s).toNat)
          case atStart => exact ⟨0, rfl, by omega, by omega, by omega, hB⟩
          case round =>
            clear c0 c1 c2 c3 hB
            obtain ⟨b, rfl, hb0, hb1, q0, hB⟩ := hrel
            obtain ⟨c0, c1, c2, c3⟩ := CC.out wr hB
            have Q0 := Lib.hid q0
            have : b = 0 ∨ b = 1 := by omega
            clear hb0 hb1 q0
            rcases this with rfl | rfl
            · by_cases hq : j = i
              · have hq' : (j == i) = true := by simpa using hq
                have HQ := Lib.hid hq
                clear hq
                go_wp2_with fail
                go_quiet (fail)
                go_wp2_with fail
                go_ret
                exact ⟨ret_int (NO.out fun h => by have := HQ.out; unfold okp at h; omega), hB.trans (Below.mono (show Below wr.heap.size wr (wr.drewN nq) from ⟨rfl, rfl, rfl, Nat.le_refl _, fun _ _ => rfl⟩) hB.size)⟩
              · have hq' : (j == i) = false := by simpa using hq
                have HQ := Lib.hid hq
                clear hq
                go_wp2_with fail
                go_quiet (fail)
                go_wp2_with fail
                exact ⟨⟨1, rfl, by omega, by omega, (fun h => by have := HQ.out; have := Q0.out; omega), hB.trans (Below.mono (show Below wr.heap.size wr (wr.drewN nq) from ⟨rfl, rfl, rfl, Nat.le_refl _, fun _ _ => rfl⟩) hB.size)⟩, by simp [intOf]⟩
            · go_wp2_with fail
              exact ⟨⟨2, rfl, by omega, by omega, by have := HG.out; have := Q0.out; unfold GP at *; omega, hB⟩, by simp [intOf]⟩
    · by_cases h1 : k < 0
      · go_wp2_with fail
        go_ret
        exact ⟨ret_int (NO.out fun h => by unfold okp at h; omega), hB⟩
      · by_cases h2 : (n : Int) ≤ k
        · have h1' : 0 ≤ k := by omega
          go_wp2_with fail
          go_ret
          exact ⟨ret_int (NO.out fun h => by unfold okp at h; omega), hB⟩
        · have h1' : 0 ≤ k := by omega
          have h2' : k < n := by omega
          go_wp2_with fail
          go_loopw [6] (fun s wx => ∃ b : Int, s = .int .i64 b ∧ 0 ≤ b ∧ b ≤ 2 ∧ (1 ≤ b → i ≠ k) ∧ (2 ≤ b → j ≠ k) ∧ Below w.heap.size w wx) (fun s _ => 2 - (intOf s).toNat)
          case atStart => exact ⟨0, rfl, by omega, by omega, by omega, by omega, hB⟩
          case round =>
            clear c0 c1 c2 c3 hB
            obtain ⟨b, rfl, hb0, hb1, q0, q1, hB⟩ := hrel
            obtain ⟨c0, c1, c2, c3⟩ := CC.out wr hB
            have Q0 := Lib.hid q0
            have Q1 := Lib.hid q1
            have : b = 0 ∨ b = 1 ∨ b = 2 := by omega
            clear hb0 hb1 q0 q1
            rcases this with rfl | rfl | rfl
            · by_cases hq : k = i
              · have hq' : (k == i) = true := by simpa using hq
                have HQ := Lib.hid hq
                clear hq
                go_wp2_with fail
                go_quiet (fail)
                go_wp2_with fail
                go_ret
                exact ⟨ret_int (NO.out fun h => by have := HQ.out; unfold okp at h; omega), hB.trans (Below.mono (show Below wr.heap.size wr (wr.drewN nq) from ⟨rfl, rfl, rfl, Nat.le_refl _, fun _ _ => rfl⟩) hB.size)⟩
              · have hq' : (k == i) = false := by simpa using hq
                have HQ := Lib.hid hq
                clear hq
                go_wp2_with fail
                go_quiet (fail)
                go_wp2_with fail
                exact ⟨⟨1, rfl, by omega, by omega, (fun h => by have := HQ.out; have := Q0.out; omega), (fun h => by have := HQ.out; have := Q1.out; omega), hB.trans (Below.mono (show Below wr.heap.size wr (wr.drewN nq) from ⟨rfl, rfl, rfl, Nat.le_refl _, fun _ _ => rfl⟩) hB.size)⟩, by simp [intOf]⟩
            · by_cases hq : k = j
              · have hq' : (k == j) = true := by simpa using hq
                have HQ := Lib.hid hq
                clear hq
                go_wp2_with fail
                go_quiet (fail)
                go_wp2_with fail
                go_ret
                exact ⟨ret_int (NO.out fun h => by have := HQ.out; unfold okp at h; omega), hB.trans (Below.mono (show Below wr.heap.size wr (wr.drewN nq) from ⟨rfl, rfl, rfl, Nat.le_refl _, fun _ _ => rfl⟩) hB.size)⟩
              · have hq' : (k == j) = false := by simpa using hq
                have HQ := Lib.hid hq
                clear hq
                go_wp2_with fail
                go_quiet (fail)
                go_wp2_with fail
                exact ⟨⟨2, rfl, by omega, by omega, (fun h => by have := HQ.out; have := Q0.out; omega), (fun h => by have := HQ.out; have := Q1.out; omega), hB.trans (Below.mono (show Below wr.heap.size wr (wr.drewN nq) from ⟨rfl, rfl, rfl, Nat.le_refl _, fun _ _ => rfl⟩) hB.size)⟩, by simp [intOf]⟩
            · go_wp2_with fail
              exact ⟨⟨3, rfl, by omega, by omega, by have := HG.out; have := Q0.out; have := Q1.out; unfold GP at *; omega, hB⟩, by simp [intOf]⟩
    · by_cases h1 : m < 0
      · go_wp2_with fail
        go_ret
        exact ⟨ret_int (NO.out fun h => by unfold okp at h; omega), hB⟩
      · by_cases h2 : (n : Int) ≤ m
        · have h1' : 0 ≤ m := by omega
          go_wp2_with fail
          go_ret
          exact ⟨ret_int (NO.out fun h => by unfold okp at h; omega), hB⟩
        · have h1' : 0 ≤ m := by omega
          have h2' : m < n := by omega
          go_wp2_with fail
          go_loopw [6] (fun s wx => ∃ b : Int, s = .int .i64 b ∧ 0 ≤ b ∧ b ≤ 3 ∧ (1 ≤ b → i ≠ m) ∧ (2 ≤ b → j ≠ m) ∧ (3 ≤ b → k ≠ m) ∧ Below w.heap.size w wx) (fun s _ => 3 - (intOf s).toNat)
          case atStart => exact ⟨0, rfl, by omega, by omega, by omega, by omega, by omega, hB⟩
          case round =>
            clear c0 c1 c2 c3 hB
            obtain ⟨b, rfl, hb0, hb1, q0, q1, q2, hB⟩ := hrel
            obtain ⟨c0, c1, c2, c3⟩ := CC.out wr hB
            have Q0 := Lib.hid q0
            have Q1 := Lib.hid q1
            have Q2 := Lib.hid q2
            have : b = 0 ∨ b = 1 ∨ b = 2 ∨ b = 3 := by omega
            clear hb0 hb1 q0 q1 q2
            rcases this with rfl | rfl | rfl | rfl
            · by_cases hq : m = i
              · have hq' : (m == i) = true := by simpa using hq
                have HQ := Lib.hid hq
                clear hq
                go_wp2_with fail
                go_quiet (fail)
                go_wp2_with fail
                go_ret
                exact ⟨ret_int (NO.out fun h => by have := HQ.out; unfold okp at h; omega), hB.trans (Below.mono (show Below wr.heap.size wr (wr.drewN nq) from ⟨rfl, rfl, rfl, Nat.le_refl _, fun _ _ => rfl⟩) hB.size)⟩
              · have hq' : (m == i) = false := by simpa using hq
                have HQ := Lib.hid hq
                clear hq
                go_wp2_with fail
                go_quiet (fail)
                go_wp2_with fail
                exact ⟨⟨1, rfl, by omega, by omega, (fun h => by have := HQ.out; have := Q0.out; omega), (fun h => by have := HQ.out; have := Q1.out; omega), (fun h => by have := HQ.out; have := Q2.out; omega), hB.trans (Below.mono (show Below wr.heap.size wr (wr.drewN nq) from ⟨rfl, rfl, rfl, Nat.le_refl _, fun _ _ => rfl⟩) hB.size)⟩, by simp [intOf]⟩
            · by_cases hq : m = j
              · have hq' : (m == j) = true := by simpa using hq
                have HQ := Lib.hid hq
                clear hq
                go_wp2_with fail
                go_quiet (fail)
                go_wp2_with fail
                go_ret
                exact ⟨ret_int (NO.out fun h => by have := HQ.out; unfold okp at h; omega), hB.trans (Below.mono (show Below wr.heap.size wr (wr.drewN nq) from ⟨rfl, rfl, rfl, Nat.le_refl _, fun _ _ => rfl⟩) hB.size)⟩
              · have hq' : (m == j) = false := by simpa using hq
                have HQ := Lib.hid hq
                clear hq
                go_wp2_with fail
                go_quiet (fail)
                go_wp2_with fail
                exact ⟨⟨2, rfl, by omega, by omega, (fun h => by have := HQ.out; have := Q0.out; omega), (fun h => by have := HQ.out; have := Q1.out; omega), (fun h => by have := HQ.out; have := Q2.out; omega), hB.trans (Below.mono (show Below wr.heap.size wr (wr.drewN nq) from ⟨rfl, rfl, rfl, Nat.le_refl _, fun _ _ => rfl⟩) hB.size)⟩, by simp [intOf]⟩
            · by_cases hq : m = k
              · have hq' : (m == k) = true := by simpa using hq
                have HQ := Lib.hid hq
                clear hq
                go_wp2_with fail
                go_quiet (fail)
                go_wp2_with fail
                go_ret
                exact ⟨ret_int (NO.out fun h => by have := HQ.out; unfold okp at h; omega), hB.trans (Below.mono (show Below wr.heap.size wr (wr.drewN nq) from ⟨rfl, rfl, rfl, Nat.le_refl _, fun _ _ => rfl⟩) hB.size)⟩
              · have hq' : (m == k) = false := by simpa using hq
                have HQ := Lib.hid hq
                clear hq
                go_wp2_with fail
                go_quiet (fail)
                go_wp2_with fail
                exact ⟨⟨3, rfl, by omega, by omega, (fun h => by have := HQ.out; have := Q0.out; omega), (fun h => by have := HQ.out; have := Q1.out; omega), (fun h => by have := HQ.out; have := Q2.out; omega), hB.trans (Below.mono (show Below wr.heap.size wr (wr.drewN nq) from ⟨rfl, rfl, rfl, Nat.le_refl _, fun _ _ => rfl⟩) hB.size)⟩, by simp [intOf]⟩
            · go_wp2_with fail
              exact ⟨⟨4, rfl, by omega, by omega, by have := HG.out; have := Q0.out; have := Q1.out; have := Q2.out; unfold GP at *; omega, hB⟩, by simp [intOf]⟩
    · have hok : okp n i j k m := by have := HG.out; unfold GP at this; unfold okp; omega
      have HK := Lib.hid hok
      clear hok
      go_wp2_with fail
      go_ret
      exact ⟨ret_int (YES.out HK.out), hB⟩
end Go.Proofs.Yteieeclflfbinaa
