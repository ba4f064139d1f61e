/- The contract of the reference's changed. (Printed by mkchanged.py.) -/
import Derived.Test.YteieeclflfbinaaChg
import Derived.Test.YteieeclflfbinaaKin
namespace Go.Proofs.Yteieeclflfbinaa
open Go.RowKit Go.Proofs
set_option linter.unusedVariables false

/-- what the reference's changed tells of a mask -/
def ChE (m : Nat) (R : Nat → So.Rw) (w' : World) (e : Ending) : Prop :=
  (So.stt m R 12 = none ∧ e = .returned (.tuple #[.slice none 0 0, .bool false])) ∨
  ∃ (S : Nat → So.Rw) (h : Nat → Bool) (g : Nat) (M : Nat → Int), So.stt m R 12 = some (S, h) ∧ (∀ i, i < 4 → M (4 * i) = (S i).x ∧ M (4 * i + 1) = (S i).y ∧ M (4 * i + 2) = (S i).z ∧ M (4 * i + 3) = (S i).w) ∧ (∀ i, S i = R i ∨ ∃ k, k < 3 ∧ S i = So.un k) ∧
    e = .returned (.tuple #[.slice (some ⟨g, 0, none⟩) 4 4, .bool true]) ∧ g < w'.heap.size ∧ ∀ o, o < 16 → w'.cell? ⟨g, o, none⟩ = some (.int .i64 (M o))

set_option maxHeartbeats 4000000 in
set_option maxRecDepth 20000 in
theorem rchanged_any (R : Nat → So.Rw) (M0 : Nat → Int) (hrow : ∀ i, i < 4 → M0 (4 * i) = (R i).x ∧ M0 (4 * i + 1) = (R i).y ∧ M0 (4 * i + 2) = (R i).z ∧ M0 (4 * i + 3) = (R i).w) (hw1 : ∀ i, i < 4 → (R i).w = 1)
    (m : Nat) (hm : m < 128) (b : Nat) (w : World) (hbl : b < w.heap.size) (hcl : ∀ o, o < 16 → w.cell? ⟨b, o, none⟩ = some (.int .i64 (M0 o))) :
    Calls Try.prog 55 #[.slice (some ⟨b, 0, none⟩) 4 4, .int .i64 m] w fun e w' => ChE m R w' e ∧ Below w.heap.size w w' := by
  have q0 : (0 : Int) ≤ m := by omega
  have ST := Lib.hid (So.Cs.start m R M0 hrow)
  have HW1 := Lib.hid hw1
  have HM := Lib.hid hm
  clear hrow hw1 hm
  go_enter Try.func55, Try.ntmps55
  go_wp2_with fail
  have KC := kin_cell w
  refine wp_region_kin_tail 12 (by kernel_rfl) (by kernel_rfl) ?_
  simp only [List.take_succ_cons, List.take_zero]
  repeat (go_big_quiet_step (fail))
  refine wpQuiet_nil ?_
  clear KC
  intro _ hu_
  obtain ⟨k_, hu_⟩ := hu_
  have hk := below_kin w k_
  rw [← hu_] at hk
  clear hu_ k_
  rename World => u
  simp only [List.drop_succ_cons, List.drop_zero]
  go_wp2_with fail
  generalize hW : World.alloc _ _ = W
  have hI : Ints W u.heap.size 16 M0 := by
    rw [← hW]
    refine ⟨by simp, fun o ho => ?_, fun o ho => by simp [go_sem]⟩
    have : o = 0 ∨ o = 1 ∨ o = 2 ∨ o = 3 ∨ o = 4 ∨ o = 5 ∨ o = 6 ∨ o = 7 ∨ o = 8 ∨ o = 9 ∨ o = 10 ∨ o = 11 ∨ o = 12 ∨ o = 13 ∨ o = 14 ∨ o = 15 := by omega
    rcases this with rfl | rfl | rfl | rfl | rfl | rfl | rfl | rfl | rfl | rfl | rfl | rfl | rfl | rfl | rfl | rfl <;> simp [go_sem]
  have hB : Below w.heap.size w W := by rw [← hW]; exact hk.alloc hk.size _
  have HG := Lib.hid hk.size
  generalize u.heap.size = g at *
  clear hW hk hcl hbl
  go_loopw [8, 7] (fun a us wx => ∃ (r U : Int) (M : Nat → Int), a = .int .i64 r ∧ us = .int .i64 U ∧ 0 ≤ r ∧ r ≤ 4 ∧ So.Cs m R (3 * r.toNat) M U ∧ Ints wx g 16 M ∧ Below w.heap.size w wx) (fun a _ _ => 4 - (intOf a).toNat)
  case atStart => exact ⟨0, 0, M0, rfl, rfl, by omega, by omega, ST.out, hI, hB⟩
  case round =>
    clear hI hB
    obtain ⟨r, U, M, rfl, rfl, hr0, hr, hC, hI, hB⟩ := hrel
    have HC := Lib.hid hC
    have : r = 0 ∨ r = 1 ∨ r = 2 ∨ r = 3 ∨ r = 4 := by omega
    clear hr0 hr hC
    rcases this with rfl | rfl | rfl | rfl | rfl
    · go_wp2_with fail
      go_loopw [10, 9, 7] (fun a c us wx => ∃ (k C U : Int) (M : Nat → Int), a = .int .i64 k ∧ c = .int .i64 C ∧ us = .int .i64 U ∧ 0 ≤ k ∧ k ≤ 3 ∧ C = 1 - M 3 ∧ So.Cs m R (0 + k.toNat) M U ∧ Ints wx g 16 M ∧ Below w.heap.size w wx) (fun a _ _ _ => 3 - (intOf a).toNat)
      case atStart => exact ⟨0, 0, U, M, rfl, rfl, rfl, by omega, by omega, by rw [show M 3 = 1 from So.Cs.end1 (r := 0) HC.out (by decide) HW1.out]; rfl, HC.out, hI, hB⟩
      case round =>
        clear hI hB HC
        obtain ⟨k, C, U, M, rfl, rfl, rfl, hk0, hk, hc, hC, hI, hB⟩ := hrel
        have HC := Lib.hid hC
        have HI := Lib.hid hI
        have HB := Lib.hid hB
        have hc01 : M 3 = 0 ∨ M 3 = 1 := So.Cs.end01 (r := 0) hC (by decide) HW1.out
        have hu0 : 0 ≤ U := by obtain ⟨_, _, _, _, ⟨h, _⟩, _⟩ := hC; exact h
        have hu7 : U ≤ 7 := by obtain ⟨_, _, _, _, ⟨_, h, _⟩, _⟩ := hC; exact h
        obtain ⟨zM, cM, fM⟩ := hI
        clear hC hB
        have : k = 0 ∨ k = 1 ∨ k = 2 ∨ k = 3 := by omega
        clear hk0 hk
        rcases this with rfl | rfl | rfl | rfl
        · have hm := HM.out
          have eb : bits .and .i64 (m : Int) 1 = ((m / 2 ^ 0 % 2 : Nat) : Int) := by
            rw [← i64_and1 (m / 2 ^ 0) (Nat.lt_of_le_of_lt (Nat.div_le_self _ _) hm)]; simp
          clear hm
          by_cases hb : m / 2 ^ 0 % 2 = 1
          · rw [hb] at eb
            have HBT := Lib.hid hb
            clear hb
            rcases hc01 with hz | hz
            · have HZ := Lib.hid hz
              obtain rfl : C = 1 := by omega
              clear hc hz
              go_wp2_with fail
              go_ret2
              exact ⟨.inl ⟨So.Cs.stop HC.out 0 (r := 0) (by decide) rfl (by decide) HBT.out (.inl HZ.out), rfl⟩, HB.out⟩
            · have HZ := Lib.hid hz
              obtain rfl : C = 0 := by omega
              clear hc hz
              have eu : bits .and .i64 U 1 = U % 2 := and1_small (by omega) (by omega)
              by_cases hu : U % 2 = 1
              · rw [hu] at eu
                have HU := Lib.hid hu
                clear hu
                go_wp2_with fail
                go_ret2
                exact ⟨.inl ⟨So.Cs.stop HC.out 0 (r := 0) (by decide) rfl (by decide) HBT.out (.inr (by simpa using HU.out)), rfl⟩, HB.out⟩
              · have hu' : U % 2 = 0 := by omega
                rw [hu'] at eu
                have eo : bits .or .i64 U 1 = U + 1 := (or_small hu0 hu7).1 hu'
                have HU := Lib.hid hu'
                clear hu hu'
                go_wp2_with fail
                exact ⟨⟨1, 1, U + 1, _, rfl, rfl, rfl, by omega, by omega, by simp [So.upd], So.Cs.yes HC.out 0 (r := 0) (by decide) rfl (by decide) HBT.out HZ.out (by simpa using HU.out) rfl rfl rfl,
                  (((HI.out.set 0 _ (by decide)).set 1 _ (by decide)).set 2 _ (by decide)).set 3 _ (by decide), (((HB.out.setCell HG.out _).setCell HG.out _).setCell HG.out _).setCell HG.out _⟩, by simp [intOf]⟩
          · have hb0 : m / 2 ^ 0 % 2 = 0 := by omega
            rw [hb0] at eb
            have HBT := Lib.hid hb0
            have HCC := Lib.hid hc
            clear hb hb0 hc hc01
            go_wp2_with fail
            exact ⟨⟨1, C, U, M, rfl, rfl, rfl, by omega, by omega, HCC.out, So.Cs.no HC.out HBT.out, HI.out, HB.out⟩, by simp [intOf]⟩
        · have hm := HM.out
          have eb : bits .and .i64 ((m : Int) / 2) 1 = ((m / 2 ^ 1 % 2 : Nat) : Int) := by
            rw [← i64_and1 (m / 2 ^ 1) (Nat.lt_of_le_of_lt (Nat.div_le_self _ _) hm)]
            simp
          clear hm
          by_cases hb : m / 2 ^ 1 % 2 = 1
          · rw [hb] at eb
            have HBT := Lib.hid hb
            clear hb
            rcases hc01 with hz | hz
            · have HZ := Lib.hid hz
              obtain rfl : C = 1 := by omega
              clear hc hz
              go_wp2_with fail
              go_ret2
              exact ⟨.inl ⟨So.Cs.stop HC.out 1 (r := 0) (by decide) rfl (by decide) HBT.out (.inl HZ.out), rfl⟩, HB.out⟩
            · have HZ := Lib.hid hz
              obtain rfl : C = 0 := by omega
              clear hc hz
              have eu : bits .and .i64 (U / 2) 1 = U / 2 % 2 := and1_small (by omega) (by omega)
              by_cases hu : U / 2 % 2 = 1
              · rw [hu] at eu
                have HU := Lib.hid hu
                clear hu
                go_wp2_with fail
                go_ret2
                exact ⟨.inl ⟨So.Cs.stop HC.out 1 (r := 0) (by decide) rfl (by decide) HBT.out (.inr (by simpa using HU.out)), rfl⟩, HB.out⟩
              · have hu' : U / 2 % 2 = 0 := by omega
                rw [hu'] at eu
                have eo : bits .or .i64 U 2 = U + 2 := (or_small hu0 hu7).2.1 hu'
                have HU := Lib.hid hu'
                clear hu hu'
                go_wp2_with fail
                exact ⟨⟨2, 1, U + 2, _, rfl, rfl, rfl, by omega, by omega, by simp [So.upd], So.Cs.yes HC.out 1 (r := 0) (by decide) rfl (by decide) HBT.out HZ.out (by simpa using HU.out) rfl rfl rfl,
                  (((HI.out.set 0 _ (by decide)).set 1 _ (by decide)).set 2 _ (by decide)).set 3 _ (by decide), (((HB.out.setCell HG.out _).setCell HG.out _).setCell HG.out _).setCell HG.out _⟩, by simp [intOf]⟩
          · have hb0 : m / 2 ^ 1 % 2 = 0 := by omega
            rw [hb0] at eb
            have HBT := Lib.hid hb0
            have HCC := Lib.hid hc
            clear hb hb0 hc hc01
            go_wp2_with fail
            exact ⟨⟨2, C, U, M, rfl, rfl, rfl, by omega, by omega, HCC.out, So.Cs.no HC.out HBT.out, HI.out, HB.out⟩, by simp [intOf]⟩
        · have hm := HM.out
          have eb : bits .and .i64 ((m : Int) / 4) 1 = ((m / 2 ^ 2 % 2 : Nat) : Int) := by
            rw [← i64_and1 (m / 2 ^ 2) (Nat.lt_of_le_of_lt (Nat.div_le_self _ _) hm)]
            simp
          clear hm
          by_cases hb : m / 2 ^ 2 % 2 = 1
          · rw [hb] at eb
            have HBT := Lib.hid hb
            clear hb
            rcases hc01 with hz | hz
            · have HZ := Lib.hid hz
              obtain rfl : C = 1 := by omega
              clear hc hz
              go_wp2_with fail
              go_ret2
              exact ⟨.inl ⟨So.Cs.stop HC.out 2 (r := 0) (by decide) rfl (by decide) HBT.out (.inl HZ.out), rfl⟩, HB.out⟩
            · have HZ := Lib.hid hz
              obtain rfl : C = 0 := by omega
              clear hc hz
              have eu : bits .and .i64 (U / 4) 1 = U / 4 % 2 := and1_small (by omega) (by omega)
              by_cases hu : U / 4 % 2 = 1
              · rw [hu] at eu
                have HU := Lib.hid hu
                clear hu
                go_wp2_with fail
                go_ret2
                exact ⟨.inl ⟨So.Cs.stop HC.out 2 (r := 0) (by decide) rfl (by decide) HBT.out (.inr (by simpa using HU.out)), rfl⟩, HB.out⟩
              · have hu' : U / 4 % 2 = 0 := by omega
                rw [hu'] at eu
                have eo : bits .or .i64 U 4 = U + 4 := (or_small hu0 hu7).2.2 hu'
                have HU := Lib.hid hu'
                clear hu hu'
                go_wp2_with fail
                exact ⟨⟨3, 1, U + 4, _, rfl, rfl, rfl, by omega, by omega, by simp [So.upd], So.Cs.yes HC.out 2 (r := 0) (by decide) rfl (by decide) HBT.out HZ.out (by simpa using HU.out) rfl rfl rfl,
                  (((HI.out.set 0 _ (by decide)).set 1 _ (by decide)).set 2 _ (by decide)).set 3 _ (by decide), (((HB.out.setCell HG.out _).setCell HG.out _).setCell HG.out _).setCell HG.out _⟩, by simp [intOf]⟩
          · have hb0 : m / 2 ^ 2 % 2 = 0 := by omega
            rw [hb0] at eb
            have HBT := Lib.hid hb0
            have HCC := Lib.hid hc
            clear hb hb0 hc hc01
            go_wp2_with fail
            exact ⟨⟨3, C, U, M, rfl, rfl, rfl, by omega, by omega, HCC.out, So.Cs.no HC.out HBT.out, HI.out, HB.out⟩, by simp [intOf]⟩
        · go_wp2_with fail
          exact ⟨⟨1, U, M, rfl, rfl, by omega, by omega, HC.out, HI.out, HB.out⟩, by simp [intOf]⟩
    · go_wp2_with fail
      go_loopw [10, 9, 7] (fun a c us wx => ∃ (k C U : Int) (M : Nat → Int), a = .int .i64 k ∧ c = .int .i64 C ∧ us = .int .i64 U ∧ 0 ≤ k ∧ k ≤ 3 ∧ C = 1 - M 7 ∧ So.Cs m R (3 + k.toNat) M U ∧ Ints wx g 16 M ∧ Below w.heap.size w wx) (fun a _ _ _ => 3 - (intOf a).toNat)
      case atStart => exact ⟨0, 0, U, M, rfl, rfl, rfl, by omega, by omega, by rw [show M 7 = 1 from So.Cs.end1 (r := 1) HC.out (by decide) HW1.out]; rfl, HC.out, hI, hB⟩
      case round =>
        clear hI hB HC
        obtain ⟨k, C, U, M, rfl, rfl, rfl, hk0, hk, hc, hC, hI, hB⟩ := hrel
        have HC := Lib.hid hC
        have HI := Lib.hid hI
        have HB := Lib.hid hB
        have hc01 : M 7 = 0 ∨ M 7 = 1 := So.Cs.end01 (r := 1) hC (by decide) HW1.out
        have hu0 : 0 ≤ U := by obtain ⟨_, _, _, _, ⟨h, _⟩, _⟩ := hC; exact h
        have hu7 : U ≤ 7 := by obtain ⟨_, _, _, _, ⟨_, h, _⟩, _⟩ := hC; exact h
        obtain ⟨zM, cM, fM⟩ := hI
        clear hC hB
        have : k = 0 ∨ k = 1 ∨ k = 2 ∨ k = 3 := by omega
        clear hk0 hk
        rcases this with rfl | rfl | rfl | rfl
        · have hm := HM.out
          have eb : bits .and .i64 ((m : Int) / 8) 1 = ((m / 2 ^ 3 % 2 : Nat) : Int) := by
            rw [← i64_and1 (m / 2 ^ 3) (Nat.lt_of_le_of_lt (Nat.div_le_self _ _) hm)]
            simp
          clear hm
          by_cases hb : m / 2 ^ 3 % 2 = 1
          · rw [hb] at eb
            have HBT := Lib.hid hb
            clear hb
            rcases hc01 with hz | hz
            · have HZ := Lib.hid hz
              obtain rfl : C = 1 := by omega
              clear hc hz
              go_wp2_with fail
              go_ret2
              exact ⟨.inl ⟨So.Cs.stop HC.out 0 (r := 1) (by decide) rfl (by decide) HBT.out (.inl HZ.out), rfl⟩, HB.out⟩
            · have HZ := Lib.hid hz
              obtain rfl : C = 0 := by omega
              clear hc hz
              have eu : bits .and .i64 U 1 = U % 2 := and1_small (by omega) (by omega)
              by_cases hu : U % 2 = 1
              · rw [hu] at eu
                have HU := Lib.hid hu
                clear hu
                go_wp2_with fail
                go_ret2
                exact ⟨.inl ⟨So.Cs.stop HC.out 0 (r := 1) (by decide) rfl (by decide) HBT.out (.inr (by simpa using HU.out)), rfl⟩, HB.out⟩
              · have hu' : U % 2 = 0 := by omega
                rw [hu'] at eu
                have eo : bits .or .i64 U 1 = U + 1 := (or_small hu0 hu7).1 hu'
                have HU := Lib.hid hu'
                clear hu hu'
                go_wp2_with fail
                exact ⟨⟨1, 1, U + 1, _, rfl, rfl, rfl, by omega, by omega, by simp [So.upd], So.Cs.yes HC.out 0 (r := 1) (by decide) rfl (by decide) HBT.out HZ.out (by simpa using HU.out) rfl rfl rfl,
                  (((HI.out.set 4 _ (by decide)).set 5 _ (by decide)).set 6 _ (by decide)).set 7 _ (by decide), (((HB.out.setCell HG.out _).setCell HG.out _).setCell HG.out _).setCell HG.out _⟩, by simp [intOf]⟩
          · have hb0 : m / 2 ^ 3 % 2 = 0 := by omega
            rw [hb0] at eb
            have HBT := Lib.hid hb0
            have HCC := Lib.hid hc
            clear hb hb0 hc hc01
            go_wp2_with fail
            exact ⟨⟨1, C, U, M, rfl, rfl, rfl, by omega, by omega, HCC.out, So.Cs.no HC.out HBT.out, HI.out, HB.out⟩, by simp [intOf]⟩
        · have hm := HM.out
          have eb : bits .and .i64 ((m : Int) / 16) 1 = ((m / 2 ^ 4 % 2 : Nat) : Int) := by
            rw [← i64_and1 (m / 2 ^ 4) (Nat.lt_of_le_of_lt (Nat.div_le_self _ _) hm)]
            simp
          clear hm
          by_cases hb : m / 2 ^ 4 % 2 = 1
          · rw [hb] at eb
            have HBT := Lib.hid hb
            clear hb
            rcases hc01 with hz | hz
            · have HZ := Lib.hid hz
              obtain rfl : C = 1 := by omega
              clear hc hz
              go_wp2_with fail
              go_ret2
              exact ⟨.inl ⟨So.Cs.stop HC.out 1 (r := 1) (by decide) rfl (by decide) HBT.out (.inl HZ.out), rfl⟩, HB.out⟩
            · have HZ := Lib.hid hz
              obtain rfl : C = 0 := by omega
              clear hc hz
              have eu : bits .and .i64 (U / 2) 1 = U / 2 % 2 := and1_small (by omega) (by omega)
              by_cases hu : U / 2 % 2 = 1
              · rw [hu] at eu
                have HU := Lib.hid hu
                clear hu
                go_wp2_with fail
                go_ret2
                exact ⟨.inl ⟨So.Cs.stop HC.out 1 (r := 1) (by decide) rfl (by decide) HBT.out (.inr (by simpa using HU.out)), rfl⟩, HB.out⟩
              · have hu' : U / 2 % 2 = 0 := by omega
                rw [hu'] at eu
                have eo : bits .or .i64 U 2 = U + 2 := (or_small hu0 hu7).2.1 hu'
                have HU := Lib.hid hu'
                clear hu hu'
                go_wp2_with fail
                exact ⟨⟨2, 1, U + 2, _, rfl, rfl, rfl, by omega, by omega, by simp [So.upd], So.Cs.yes HC.out 1 (r := 1) (by decide) rfl (by decide) HBT.out HZ.out (by simpa using HU.out) rfl rfl rfl,
                  (((HI.out.set 4 _ (by decide)).set 5 _ (by decide)).set 6 _ (by decide)).set 7 _ (by decide), (((HB.out.setCell HG.out _).setCell HG.out _).setCell HG.out _).setCell HG.out _⟩, by simp [intOf]⟩
          · have hb0 : m / 2 ^ 4 % 2 = 0 := by omega
            rw [hb0] at eb
            have HBT := Lib.hid hb0
            have HCC := Lib.hid hc
            clear hb hb0 hc hc01
            go_wp2_with fail
            exact ⟨⟨2, C, U, M, rfl, rfl, rfl, by omega, by omega, HCC.out, So.Cs.no HC.out HBT.out, HI.out, HB.out⟩, by simp [intOf]⟩
        · have hm := HM.out
          have eb : bits .and .i64 ((m : Int) / 32) 1 = ((m / 2 ^ 5 % 2 : Nat) : Int) := by
            rw [← i64_and1 (m / 2 ^ 5) (Nat.lt_of_le_of_lt (Nat.div_le_self _ _) hm)]
            simp
          clear hm
          by_cases hb : m / 2 ^ 5 % 2 = 1
          · rw [hb] at eb
            have HBT := Lib.hid hb
            clear hb
            rcases hc01 with hz | hz
            · have HZ := Lib.hid hz
              obtain rfl : C = 1 := by omega
              clear hc hz
              go_wp2_with fail
              go_ret2
              exact ⟨.inl ⟨So.Cs.stop HC.out 2 (r := 1) (by decide) rfl (by decide) HBT.out (.inl HZ.out), rfl⟩, HB.out⟩
            · have HZ := Lib.hid hz
              obtain rfl : C = 0 := by omega
              clear hc hz
              have eu : bits .and .i64 (U / 4) 1 = U / 4 % 2 := and1_small (by omega) (by omega)
              by_cases hu : U / 4 % 2 = 1
              · rw [hu] at eu
                have HU := Lib.hid hu
                clear hu
                go_wp2_with fail
                go_ret2
                exact ⟨.inl ⟨So.Cs.stop HC.out 2 (r := 1) (by decide) rfl (by decide) HBT.out (.inr (by simpa using HU.out)), rfl⟩, HB.out⟩
              · have hu' : U / 4 % 2 = 0 := by omega
                rw [hu'] at eu
                have eo : bits .or .i64 U 4 = U + 4 := (or_small hu0 hu7).2.2 hu'
                have HU := Lib.hid hu'
                clear hu hu'
                go_wp2_with fail
                exact ⟨⟨3, 1, U + 4, _, rfl, rfl, rfl, by omega, by omega, by simp [So.upd], So.Cs.yes HC.out 2 (r := 1) (by decide) rfl (by decide) HBT.out HZ.out (by simpa using HU.out) rfl rfl rfl,
                  (((HI.out.set 4 _ (by decide)).set 5 _ (by decide)).set 6 _ (by decide)).set 7 _ (by decide), (((HB.out.setCell HG.out _).setCell HG.out _).setCell HG.out _).setCell HG.out _⟩, by simp [intOf]⟩
          · have hb0 : m / 2 ^ 5 % 2 = 0 := by omega
            rw [hb0] at eb
            have HBT := Lib.hid hb0
            have HCC := Lib.hid hc
            clear hb hb0 hc hc01
            go_wp2_with fail
            exact ⟨⟨3, C, U, M, rfl, rfl, rfl, by omega, by omega, HCC.out, So.Cs.no HC.out HBT.out, HI.out, HB.out⟩, by simp [intOf]⟩
        · go_wp2_with fail
          exact ⟨⟨2, U, M, rfl, rfl, by omega, by omega, HC.out, HI.out, HB.out⟩, by simp [intOf]⟩
    · go_wp2_with fail
      go_loopw [10, 9, 7] (fun a c us wx => ∃ (k C U : Int) (M : Nat → Int), a = .int .i64 k ∧ c = .int .i64 C ∧ us = .int .i64 U ∧ 0 ≤ k ∧ k ≤ 3 ∧ C = 1 - M 11 ∧ So.Cs m R (6 + k.toNat) M U ∧ Ints wx g 16 M ∧ Below w.heap.size w wx) (fun a _ _ _ => 3 - (intOf a).toNat)
      case atStart => exact ⟨0, 0, U, M, rfl, rfl, rfl, by omega, by omega, by rw [show M 11 = 1 from So.Cs.end1 (r := 2) HC.out (by decide) HW1.out]; rfl, HC.out, hI, hB⟩
      case round =>
        clear hI hB HC
        obtain ⟨k, C, U, M, rfl, rfl, rfl, hk0, hk, hc, hC, hI, hB⟩ := hrel
        have HC := Lib.hid hC
        have HI := Lib.hid hI
        have HB := Lib.hid hB
        have hc01 : M 11 = 0 ∨ M 11 = 1 := So.Cs.end01 (r := 2) hC (by decide) HW1.out
        have hu0 : 0 ≤ U := by obtain ⟨_, _, _, _, ⟨h, _⟩, _⟩ := hC; exact h
        have hu7 : U ≤ 7 := by obtain ⟨_, _, _, _, ⟨_, h, _⟩, _⟩ := hC; exact h
        obtain ⟨zM, cM, fM⟩ := hI
        clear hC hB
        have : k = 0 ∨ k = 1 ∨ k = 2 ∨ k = 3 := by omega
        clear hk0 hk
        rcases this with rfl | rfl | rfl | rfl
        · have hm := HM.out
          have eb : bits .and .i64 ((m : Int) / 64) 1 = ((m / 2 ^ 6 % 2 : Nat) : Int) := by
            rw [← i64_and1 (m / 2 ^ 6) (Nat.lt_of_le_of_lt (Nat.div_le_self _ _) hm)]
            simp
          clear hm
          by_cases hb : m / 2 ^ 6 % 2 = 1
          · rw [hb] at eb
            have HBT := Lib.hid hb
            clear hb
            rcases hc01 with hz | hz
            · have HZ := Lib.hid hz
              obtain rfl : C = 1 := by omega
              clear hc hz
              go_wp2_with fail
              go_ret2
              exact ⟨.inl ⟨So.Cs.stop HC.out 0 (r := 2) (by decide) rfl (by decide) HBT.out (.inl HZ.out), rfl⟩, HB.out⟩
            · have HZ := Lib.hid hz
              obtain rfl : C = 0 := by omega
              clear hc hz
              have eu : bits .and .i64 U 1 = U % 2 := and1_small (by omega) (by omega)
              by_cases hu : U % 2 = 1
              · rw [hu] at eu
                have HU := Lib.hid hu
                clear hu
                go_wp2_with fail
                go_ret2
                exact ⟨.inl ⟨So.Cs.stop HC.out 0 (r := 2) (by decide) rfl (by decide) HBT.out (.inr (by simpa using HU.out)), rfl⟩, HB.out⟩
              · have hu' : U % 2 = 0 := by omega
                rw [hu'] at eu
                have eo : bits .or .i64 U 1 = U + 1 := (or_small hu0 hu7).1 hu'
                have HU := Lib.hid hu'
                clear hu hu'
                go_wp2_with fail
                exact ⟨⟨1, 1, U + 1, _, rfl, rfl, rfl, by omega, by omega, by simp [So.upd], So.Cs.yes HC.out 0 (r := 2) (by decide) rfl (by decide) HBT.out HZ.out (by simpa using HU.out) rfl rfl rfl,
                  (((HI.out.set 8 _ (by decide)).set 9 _ (by decide)).set 10 _ (by decide)).set 11 _ (by decide), (((HB.out.setCell HG.out _).setCell HG.out _).setCell HG.out _).setCell HG.out _⟩, by simp [intOf]⟩
          · have hb0 : m / 2 ^ 6 % 2 = 0 := by omega
            rw [hb0] at eb
            have HBT := Lib.hid hb0
            have HCC := Lib.hid hc
            clear hb hb0 hc hc01
            go_wp2_with fail
            exact ⟨⟨1, C, U, M, rfl, rfl, rfl, by omega, by omega, HCC.out, So.Cs.no HC.out HBT.out, HI.out, HB.out⟩, by simp [intOf]⟩
        · have hm := HM.out
          have eb : bits .and .i64 ((m : Int) / 128) 1 = ((m / 2 ^ 7 % 2 : Nat) : Int) := by
            rw [← i64_and1 (m / 2 ^ 7) (Nat.lt_of_le_of_lt (Nat.div_le_self _ _) hm)]
            simp
          clear hm
          by_cases hb : m / 2 ^ 7 % 2 = 1
          · rw [hb] at eb
            have HBT := Lib.hid hb
            clear hb
            rcases hc01 with hz | hz
            · have HZ := Lib.hid hz
              obtain rfl : C = 1 := by omega
              clear hc hz
              go_wp2_with fail
              go_ret2
              exact ⟨.inl ⟨So.Cs.stop HC.out 1 (r := 2) (by decide) rfl (by decide) HBT.out (.inl HZ.out), rfl⟩, HB.out⟩
            · have HZ := Lib.hid hz
              obtain rfl : C = 0 := by omega
              clear hc hz
              have eu : bits .and .i64 (U / 2) 1 = U / 2 % 2 := and1_small (by omega) (by omega)
              by_cases hu : U / 2 % 2 = 1
              · rw [hu] at eu
                have HU := Lib.hid hu
                clear hu
                go_wp2_with fail
                go_ret2
                exact ⟨.inl ⟨So.Cs.stop HC.out 1 (r := 2) (by decide) rfl (by decide) HBT.out (.inr (by simpa using HU.out)), rfl⟩, HB.out⟩
              · have hu' : U / 2 % 2 = 0 := by omega
                rw [hu'] at eu
                have eo : bits .or .i64 U 2 = U + 2 := (or_small hu0 hu7).2.1 hu'
                have HU := Lib.hid hu'
                clear hu hu'
                go_wp2_with fail
                exact ⟨⟨2, 1, U + 2, _, rfl, rfl, rfl, by omega, by omega, by simp [So.upd], So.Cs.yes HC.out 1 (r := 2) (by decide) rfl (by decide) HBT.out HZ.out (by simpa using HU.out) rfl rfl rfl,
                  (((HI.out.set 8 _ (by decide)).set 9 _ (by decide)).set 10 _ (by decide)).set 11 _ (by decide), (((HB.out.setCell HG.out _).setCell HG.out _).setCell HG.out _).setCell HG.out _⟩, by simp [intOf]⟩
          · have hb0 : m / 2 ^ 7 % 2 = 0 := by omega
            rw [hb0] at eb
            have HBT := Lib.hid hb0
            have HCC := Lib.hid hc
            clear hb hb0 hc hc01
            go_wp2_with fail
            exact ⟨⟨2, C, U, M, rfl, rfl, rfl, by omega, by omega, HCC.out, So.Cs.no HC.out HBT.out, HI.out, HB.out⟩, by simp [intOf]⟩
        · have hm := HM.out
          have eb : bits .and .i64 ((m : Int) / 256) 1 = ((m / 2 ^ 8 % 2 : Nat) : Int) := by
            rw [← i64_and1 (m / 2 ^ 8) (Nat.lt_of_le_of_lt (Nat.div_le_self _ _) hm)]
            simp
          clear hm
          by_cases hb : m / 2 ^ 8 % 2 = 1
          · rw [hb] at eb
            have HBT := Lib.hid hb
            clear hb
            rcases hc01 with hz | hz
            · have HZ := Lib.hid hz
              obtain rfl : C = 1 := by omega
              clear hc hz
              go_wp2_with fail
              go_ret2
              exact ⟨.inl ⟨So.Cs.stop HC.out 2 (r := 2) (by decide) rfl (by decide) HBT.out (.inl HZ.out), rfl⟩, HB.out⟩
            · have HZ := Lib.hid hz
              obtain rfl : C = 0 := by omega
              clear hc hz
              have eu : bits .and .i64 (U / 4) 1 = U / 4 % 2 := and1_small (by omega) (by omega)
              by_cases hu : U / 4 % 2 = 1
              · rw [hu] at eu
                have HU := Lib.hid hu
                clear hu
                go_wp2_with fail
                go_ret2
                exact ⟨.inl ⟨So.Cs.stop HC.out 2 (r := 2) (by decide) rfl (by decide) HBT.out (.inr (by simpa using HU.out)), rfl⟩, HB.out⟩
              · have hu' : U / 4 % 2 = 0 := by omega
                rw [hu'] at eu
                have eo : bits .or .i64 U 4 = U + 4 := (or_small hu0 hu7).2.2 hu'
                have HU := Lib.hid hu'
                clear hu hu'
                go_wp2_with fail
                exact ⟨⟨3, 1, U + 4, _, rfl, rfl, rfl, by omega, by omega, by simp [So.upd], So.Cs.yes HC.out 2 (r := 2) (by decide) rfl (by decide) HBT.out HZ.out (by simpa using HU.out) rfl rfl rfl,
                  (((HI.out.set 8 _ (by decide)).set 9 _ (by decide)).set 10 _ (by decide)).set 11 _ (by decide), (((HB.out.setCell HG.out _).setCell HG.out _).setCell HG.out _).setCell HG.out _⟩, by simp [intOf]⟩
          · have hb0 : m / 2 ^ 8 % 2 = 0 := by omega
            rw [hb0] at eb
            have HBT := Lib.hid hb0
            have HCC := Lib.hid hc
            clear hb hb0 hc hc01
            go_wp2_with fail
            exact ⟨⟨3, C, U, M, rfl, rfl, rfl, by omega, by omega, HCC.out, So.Cs.no HC.out HBT.out, HI.out, HB.out⟩, by simp [intOf]⟩
        · go_wp2_with fail
          exact ⟨⟨3, U, M, rfl, rfl, by omega, by omega, HC.out, HI.out, HB.out⟩, by simp [intOf]⟩
    · go_wp2_with fail
      go_loopw [10, 9, 7] (fun a c us wx => ∃ (k C U : Int) (M : Nat → Int), a = .int .i64 k ∧ c = .int .i64 C ∧ us = .int .i64 U ∧ 0 ≤ k ∧ k ≤ 3 ∧ C = 1 - M 15 ∧ So.Cs m R (9 + k.toNat) M U ∧ Ints wx g 16 M ∧ Below w.heap.size w wx) (fun a _ _ _ => 3 - (intOf a).toNat)
      case atStart => exact ⟨0, 0, U, M, rfl, rfl, rfl, by omega, by omega, by rw [show M 15 = 1 from So.Cs.end1 (r := 3) HC.out (by decide) HW1.out]; rfl, HC.out, hI, hB⟩
      case round =>
        clear hI hB HC
        obtain ⟨k, C, U, M, rfl, rfl, rfl, hk0, hk, hc, hC, hI, hB⟩ := hrel
        have HC := Lib.hid hC
        have HI := Lib.hid hI
        have HB := Lib.hid hB
        have hc01 : M 15 = 0 ∨ M 15 = 1 := So.Cs.end01 (r := 3) hC (by decide) HW1.out
        have hu0 : 0 ≤ U := by obtain ⟨_, _, _, _, ⟨h, _⟩, _⟩ := hC; exact h
        have hu7 : U ≤ 7 := by obtain ⟨_, _, _, _, ⟨_, h, _⟩, _⟩ := hC; exact h
        obtain ⟨zM, cM, fM⟩ := hI
        clear hC hB
        have : k = 0 ∨ k = 1 ∨ k = 2 ∨ k = 3 := by omega
        clear hk0 hk
        rcases this with rfl | rfl | rfl | rfl
        · have hm := HM.out
          have eb : bits .and .i64 ((m : Int) / 512) 1 = ((m / 2 ^ 9 % 2 : Nat) : Int) := by
            rw [← i64_and1 (m / 2 ^ 9) (Nat.lt_of_le_of_lt (Nat.div_le_self _ _) hm)]
            simp
          clear hm
          by_cases hb : m / 2 ^ 9 % 2 = 1
          · rw [hb] at eb
            have HBT := Lib.hid hb
            clear hb
            rcases hc01 with hz | hz
            · have HZ := Lib.hid hz
              obtain rfl : C = 1 := by omega
              clear hc hz
              go_wp2_with fail
              go_ret2
              exact ⟨.inl ⟨So.Cs.stop HC.out 0 (r := 3) (by decide) rfl (by decide) HBT.out (.inl HZ.out), rfl⟩, HB.out⟩
            · have HZ := Lib.hid hz
              obtain rfl : C = 0 := by omega
              clear hc hz
              have eu : bits .and .i64 U 1 = U % 2 := and1_small (by omega) (by omega)
              by_cases hu : U % 2 = 1
              · rw [hu] at eu
                have HU := Lib.hid hu
                clear hu
                go_wp2_with fail
                go_ret2
                exact ⟨.inl ⟨So.Cs.stop HC.out 0 (r := 3) (by decide) rfl (by decide) HBT.out (.inr (by simpa using HU.out)), rfl⟩, HB.out⟩
              · have hu' : U % 2 = 0 := by omega
                rw [hu'] at eu
                have eo : bits .or .i64 U 1 = U + 1 := (or_small hu0 hu7).1 hu'
                have HU := Lib.hid hu'
                clear hu hu'
                go_wp2_with fail
                exact ⟨⟨1, 1, U + 1, _, rfl, rfl, rfl, by omega, by omega, by simp [So.upd], So.Cs.yes HC.out 0 (r := 3) (by decide) rfl (by decide) HBT.out HZ.out (by simpa using HU.out) rfl rfl rfl,
                  (((HI.out.set 12 _ (by decide)).set 13 _ (by decide)).set 14 _ (by decide)).set 15 _ (by decide), (((HB.out.setCell HG.out _).setCell HG.out _).setCell HG.out _).setCell HG.out _⟩, by simp [intOf]⟩
          · have hb0 : m / 2 ^ 9 % 2 = 0 := by omega
            rw [hb0] at eb
            have HBT := Lib.hid hb0
            have HCC := Lib.hid hc
            clear hb hb0 hc hc01
            go_wp2_with fail
            exact ⟨⟨1, C, U, M, rfl, rfl, rfl, by omega, by omega, HCC.out, So.Cs.no HC.out HBT.out, HI.out, HB.out⟩, by simp [intOf]⟩
        · have hm := HM.out
          have eb : bits .and .i64 ((m : Int) / 1024) 1 = ((m / 2 ^ 10 % 2 : Nat) : Int) := by
            rw [← i64_and1 (m / 2 ^ 10) (Nat.lt_of_le_of_lt (Nat.div_le_self _ _) hm)]
            simp
          clear hm
          by_cases hb : m / 2 ^ 10 % 2 = 1
          · rw [hb] at eb
            have HBT := Lib.hid hb
            clear hb
            rcases hc01 with hz | hz
            · have HZ := Lib.hid hz
              obtain rfl : C = 1 := by omega
              clear hc hz
              go_wp2_with fail
              go_ret2
              exact ⟨.inl ⟨So.Cs.stop HC.out 1 (r := 3) (by decide) rfl (by decide) HBT.out (.inl HZ.out), rfl⟩, HB.out⟩
            · have HZ := Lib.hid hz
              obtain rfl : C = 0 := by omega
              clear hc hz
              have eu : bits .and .i64 (U / 2) 1 = U / 2 % 2 := and1_small (by omega) (by omega)
              by_cases hu : U / 2 % 2 = 1
              · rw [hu] at eu
                have HU := Lib.hid hu
                clear hu
                go_wp2_with fail
                go_ret2
                exact ⟨.inl ⟨So.Cs.stop HC.out 1 (r := 3) (by decide) rfl (by decide) HBT.out (.inr (by simpa using HU.out)), rfl⟩, HB.out⟩
              · have hu' : U / 2 % 2 = 0 := by omega
                rw [hu'] at eu
                have eo : bits .or .i64 U 2 = U + 2 := (or_small hu0 hu7).2.1 hu'
                have HU := Lib.hid hu'
                clear hu hu'
                go_wp2_with fail
                exact ⟨⟨2, 1, U + 2, _, rfl, rfl, rfl, by omega, by omega, by simp [So.upd], So.Cs.yes HC.out 1 (r := 3) (by decide) rfl (by decide) HBT.out HZ.out (by simpa using HU.out) rfl rfl rfl,
                  (((HI.out.set 12 _ (by decide)).set 13 _ (by decide)).set 14 _ (by decide)).set 15 _ (by decide), (((HB.out.setCell HG.out _).setCell HG.out _).setCell HG.out _).setCell HG.out _⟩, by simp [intOf]⟩
          · have hb0 : m / 2 ^ 10 % 2 = 0 := by omega
            rw [hb0] at eb
            have HBT := Lib.hid hb0
            have HCC := Lib.hid hc
            clear hb hb0 hc hc01
            go_wp2_with fail
            exact ⟨⟨2, C, U, M, rfl, rfl, rfl, by omega, by omega, HCC.out, So.Cs.no HC.out HBT.out, HI.out, HB.out⟩, by simp [intOf]⟩
        · have hm := HM.out
          have eb : bits .and .i64 ((m : Int) / 2048) 1 = ((m / 2 ^ 11 % 2 : Nat) : Int) := by
            rw [← i64_and1 (m / 2 ^ 11) (Nat.lt_of_le_of_lt (Nat.div_le_self _ _) hm)]
            simp
          clear hm
          by_cases hb : m / 2 ^ 11 % 2 = 1
          · rw [hb] at eb
            have HBT := Lib.hid hb
            clear hb
            rcases hc01 with hz | hz
            · have HZ := Lib.hid hz
              obtain rfl : C = 1 := by omega
              clear hc hz
              go_wp2_with fail
              go_ret2
              exact ⟨.inl ⟨So.Cs.stop HC.out 2 (r := 3) (by decide) rfl (by decide) HBT.out (.inl HZ.out), rfl⟩, HB.out⟩
            · have HZ := Lib.hid hz
              obtain rfl : C = 0 := by omega
              clear hc hz
              have eu : bits .and .i64 (U / 4) 1 = U / 4 % 2 := and1_small (by omega) (by omega)
              by_cases hu : U / 4 % 2 = 1
              · rw [hu] at eu
                have HU := Lib.hid hu
                clear hu
                go_wp2_with fail
                go_ret2
                exact ⟨.inl ⟨So.Cs.stop HC.out 2 (r := 3) (by decide) rfl (by decide) HBT.out (.inr (by simpa using HU.out)), rfl⟩, HB.out⟩
              · have hu' : U / 4 % 2 = 0 := by omega
                rw [hu'] at eu
                have eo : bits .or .i64 U 4 = U + 4 := (or_small hu0 hu7).2.2 hu'
                have HU := Lib.hid hu'
                clear hu hu'
                go_wp2_with fail
                exact ⟨⟨3, 1, U + 4, _, rfl, rfl, rfl, by omega, by omega, by simp [So.upd], So.Cs.yes HC.out 2 (r := 3) (by decide) rfl (by decide) HBT.out HZ.out (by simpa using HU.out) rfl rfl rfl,
                  (((HI.out.set 12 _ (by decide)).set 13 _ (by decide)).set 14 _ (by decide)).set 15 _ (by decide), (((HB.out.setCell HG.out _).setCell HG.out _).setCell HG.out _).setCell HG.out _⟩, by simp [intOf]⟩
          · have hb0 : m / 2 ^ 11 % 2 = 0 := by omega
            rw [hb0] at eb
            have HBT := Lib.hid hb0
            have HCC := Lib.hid hc
            clear hb hb0 hc hc01
            go_wp2_with fail
            exact ⟨⟨3, C, U, M, rfl, rfl, rfl, by omega, by omega, HCC.out, So.Cs.no HC.out HBT.out, HI.out, HB.out⟩, by simp [intOf]⟩
        · go_wp2_with fail
          exact ⟨⟨4, U, M, rfl, rfl, by omega, by omega, HC.out, HI.out, HB.out⟩, by simp [intOf]⟩
    · go_wp2_with fail
      go_ret2
      obtain ⟨S, h, h1, h2, h3, h4, h5⟩ := HC.out
      exact ⟨.inr ⟨S, h, g, M, h1, h2, h5, rfl, hI.1, hI.2.1⟩, hB⟩
end Go.Proofs.Yteieeclflfbinaa
