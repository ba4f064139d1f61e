/- LimbTexts: the walk. -/
import Derived.Test.YtdcllcbhepajeaaDoorLawSums
import Derived.Test.YtdcllcbhepajeaaDoorRParse
namespace Go.Proofs.YtdcllcbhepajeaaDoor
open Go.RowKit Go.Proofs
set_option linter.unusedVariables false

theorem parse_both (s : List UInt8) : (∃ z : Int, (∀ (w : World) (htab : Tab w), Calls Tryd.prog 32 #[.string ⟨s.toArray⟩] w fun e w' => e = .returned (.tuple #[.agg #[.int .i64 (hi z), .int .u64 (lo z)], .int .i64 0]) ∧ Below w.heap.size w w') ∧
      (∀ w : World, Calls Tryd.prog 33 #[.string ⟨s.toArray⟩] w fun e w' => e = .returned (.tuple #[.agg #[.int .u64 (rhi z), .int .u64 (lo z)], .bool true]) ∧ Below w.heap.size w w')) ∨
    ((∀ (w : World) (htab : Tab w), Calls Tryd.prog 32 #[.string ⟨s.toArray⟩] w fun e w' => e = .returned (.tuple #[.agg #[.int .i64 0, .int .u64 0], .int .i64 10]) ∧ Below w.heap.size w w') ∧
      (∀ w : World, Calls Tryd.prog 33 #[.string ⟨s.toArray⟩] w fun e w' => e = .returned (.tuple #[.agg #[.int .u64 0, .int .u64 0], .bool false]) ∧ Below w.heap.size w w')) := by
  by_cases h : pok s (Lib.trimPrefix s [45])
  · refine .inl ⟨pz s (Lib.trimPrefix s [45]), fun w htab => (parse_walk s w htab).mono fun e w' ⟨hp, hb⟩ => ⟨?_, hb⟩, fun w => (rparse_walk s w).mono fun e w' ⟨hp, hb⟩ => ⟨?_, hb⟩⟩
    · rcases hp with ⟨_, hp⟩ | ⟨hp, _⟩
      · exact hp
      · exact absurd h hp
    · rcases hp with ⟨_, hp⟩ | ⟨hp, _⟩
      · exact hp
      · exact absurd h hp
  · refine .inr ⟨fun w htab => (parse_walk s w htab).mono fun e w' ⟨hp, hb⟩ => ⟨?_, hb⟩, fun w => (rparse_walk s w).mono fun e w' ⟨hp, hb⟩ => ⟨?_, hb⟩⟩
    · rcases hp with ⟨hp, _⟩ | ⟨_, hp⟩
      · exact absurd hp h
      · exact hp
    · rcases hp with ⟨hp, _⟩ | ⟨_, hp⟩
      · exact absurd hp h
      · exact hp

set_option maxHeartbeats 4000000 in
theorem limbTexts_any (a0 b0 : Int) (w0 : Ws a0 b0) (s : ByteArray) (hs : s.size ≤ maxLen) (w : World) (htab : Tab w) :
    Calls Tryd.prog 6 #[.agg #[.int .i64 a0, .int .u64 b0], .string s] w fun e w' =>
      e = .returned (.bool true) ∧ Below w.heap.size w w' := by
  obtain ⟨x, hx⟩ : ∃ x, x = a0 * 18446744073709551616 + b0 := ⟨_, rfl⟩
  obtain ⟨rfl, rfl⟩ : IsL a0 b0 x := hx ▸ isL_ws w0
  clear hx w0
  have hb := parse_both s.data.toList
  have es : (⟨s.data.toList.toArray⟩ : ByteArray) = s := by cases s; simp
  rw [es] at hb
  clear es
  rcases hb with ⟨z, P1, P2⟩ | ⟨P1, P2⟩
  · have P1 := Lib.hid P1
    have P2 := Lib.hid P2
    go_enter Tryd.func6, Tryd.ntmps6
    go_wp2_with fail
    refine (P1.out _ (htab.alloc _)).mono ?_
    rintro e u1 ⟨rfl, hn⟩
    have c0 : RCell u1 w.heap.size (.int .i64 (hi x)) (.int .u64 (lo x)) := carry2 (rcell_new _ _ _ _) hn
    have hB := bl1 hn
    clear hn
    go_wp2_with fail
    refine (P2.out _).mono ?_
    rintro e u2 ⟨rfl, hn⟩
    have c1 := fresh2 hn
    replace c0 := carry2a c0 hn
    replace hB := chaina hB hn
    clear hn P1 P2
    go_wp2_with fail
    generalize hW1 : World.alloc _ _ = W1
    have hn : Below u2.heap.size u2 W1 := by rw [← hW1]; exact (Below.refl _ _).alloc (Nat.le_refl _) _
    have c2 : RCell W1 u2.heap.size (.int .u64 (rhi z)) (.int .u64 (lo z)) := by rw [← hW1]; exact rcell_new _ _ _ _
    replace c0 := carry2 c0 hn
    replace c1 := carry2 c1 hn
    replace hB := hB.trans (hn.mono hB.size)
    unfold RCell at c2
    clear hn hW1
    have KC := kin_cell W1
    refine wp_region_kin_flat (by kernel_rfl) (by kernel_rfl) (by kernel_rfl) ?_
    repeat (go_big_quiet_step (first
      | (go_at_call 34; with_reducible refine quiet_kin (text_any x (isL _) _ (htab.below (hB.trans ((below_kin W1 _).mono hB.size)))))
      | (go_at_call 15; with_reducible refine quiet_kin (lof_any x (isL _) _))
      | (go_at_call 35; with_reducible refine quiet_kin (rtext_any x (isR _) _))
      | (go_at_call 16; with_reducible refine quiet_kin (is_any z z (isL _) (isR _) rfl _))
      | (go_at_call 25; with_reducible refine quiet_kin (awake_any _ (htab.below (hB.trans ((below_kin W1 _).mono hB.size)))))))
    refine wpQuiet_nil ?_
    clear KC
    intro _ hu_
    obtain ⟨k_, hu_⟩ := hu_
    have hk := below_kin W1 k_
    rw [← hu_] at hk
    clear hu_ k_
    rename World => u
    replace hB := hB.trans (hk.mono hB.size)
    go_wp2_with fail
    go_ret
    exact ⟨rfl, hB⟩
  · have P1 := Lib.hid P1
    have P2 := Lib.hid P2
    go_enter Tryd.func6, Tryd.ntmps6
    go_wp2_with fail
    refine (P1.out _ (htab.alloc _)).mono ?_
    rintro e u1 ⟨rfl, hn⟩
    have c0 : RCell u1 w.heap.size (.int .i64 (hi x)) (.int .u64 (lo x)) := carry2 (rcell_new _ _ _ _) hn
    have hB := bl1 hn
    clear hn
    go_wp2_with fail
    refine (P2.out _).mono ?_
    rintro e u2 ⟨rfl, hn⟩
    have c1 := fresh2 hn
    replace c0 := carry2a c0 hn
    replace hB := chaina hB hn
    clear hn P1 P2
    go_wp2_with fail
    generalize hW1 : World.alloc _ _ = W1
    have hn : Below u2.heap.size u2 W1 := by rw [← hW1]; exact (Below.refl _ _).alloc (Nat.le_refl _) _
    have c2 : RCell W1 u2.heap.size (.int .u64 0) (.int .u64 0) := by rw [← hW1]; exact rcell_new _ _ _ _
    replace c0 := carry2 c0 hn
    replace c1 := carry2 c1 hn
    replace hB := hB.trans (hn.mono hB.size)
    unfold RCell at c2
    clear hn hW1
    have KC := kin_cell W1
    refine wp_region_kin_flat (by kernel_rfl) (by kernel_rfl) (by kernel_rfl) ?_
    repeat (go_big_quiet_step (first
      | (go_at_call 34; with_reducible refine quiet_kin (text_any x (isL _) _ (htab.below (hB.trans ((below_kin W1 _).mono hB.size)))))
      | (go_at_call 15; with_reducible refine quiet_kin (lof_any x (isL _) _))
      | (go_at_call 35; with_reducible refine quiet_kin (rtext_any x (isR _) _))
      | (go_at_call 16; with_reducible refine quiet_kin (is_any 0 0 isL0 isR0 rfl _))
      | (go_at_call 25; with_reducible refine quiet_kin (awake_any _ (htab.below (hB.trans ((below_kin W1 _).mono hB.size)))))))
    refine wpQuiet_nil ?_
    clear KC
    intro _ hu_
    obtain ⟨k_, hu_⟩ := hu_
    have hk := below_kin W1 k_
    rw [← hu_] at hk
    clear hu_ k_
    rename World => u
    replace hB := hB.trans (hk.mono hB.size)
    go_wp2_with fail
    go_ret
    exact ⟨rfl, hB⟩

end Go.Proofs.YtdcllcbhepajeaaDoor
