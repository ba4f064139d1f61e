/- The contract of package text's formed. (Printed by mkformed.py.) -/
import Derived.Test.YtoikfekalgkgoaaDoorTi
import Derived.Test.YtoikfekalgkgoaaDoorTx
import Derived.WalkMore
import Derived.Scope
import Derived.WalkSpells
import Derived.Lib.Hide
namespace Go.Proofs.YtoikfekalgkgoaaDoor
open Go.RowKit Go.Proofs
set_option linter.unusedVariables false

section
/-- as Q; by a goto to label l: J l -/
def jumps (J : Nat → Act → World → Prop) (Q : Exit → Act → World → Prop) : Exit → Act → World → Prop
  | .goto l, a, w => J l a w
  | e, a, w => Q e a w
variable {P : Program} {a : Act} {w : World} {Q : Exit → Act → World → Prop}
/-- a scope with several labels: what holds at a jump to each, a measure that every pass lowers -/
theorem wp_scope_labels {c : Code} (J : Nat → Act → World → Prop) (m : Nat → Act → World → Nat) (first : c.wp P (jumps J Q) a w)
    (pass : ∀ l a w, J l a w → ∃ rest, findLabel c l = some rest ∧ rest.wp P (jumps (fun l' a' w' => J l' a' w' ∧ m l' a' w' < m l a w) Q) a w) : (Code.scope c).wp P Q a w := by
  intro b k cs
  have key : ∀ n l a w, m l a w = n → J l a w → ∃ rest, findLabel c l = some rest ∧ ∃ e a' w', Q e a' w' ∧ Arrives P (lone (b.at a (.code rest :: .inScope c :: k)) cs w) b k cs e a' w' := by
    intro n
    induction n using Nat.strongRecOn with
    | _ n ih =>
      intro l a w hn hJ
      obtain ⟨rest, hr, hp⟩ := pass l a w hJ
      refine ⟨rest, hr, ?_⟩
      obtain ⟨e, a₁, w₁, hq, harr⟩ := hp b (.inScope c :: k) cs
      cases e with
      | normal => exact ⟨.normal, a₁, w₁, hq, Steps.trans harr (.one step_inScope)⟩
      | exit id => exact ⟨.exit id, a₁, w₁, hq, fun k' hk => harr k' (by simp [exitTo, hk])⟩
      | goto l' =>
        obtain ⟨hJ', hlt⟩ := hq
        obtain ⟨rest', hr', e₂, a₂, w₂, hq₂, harr₂⟩ := ih _ (by omega) l' a₁ w₁ rfl hJ'
        exact ⟨e₂, a₂, w₂, hq₂, .of_steps (harr _ (by simp [gotoIn, hr'])) harr₂⟩
      | ret => exact ⟨_, a₁, w₁, hq, harr⟩
      | panic ch => exact ⟨_, a₁, w₁, hq, harr⟩
      | outgrown => exact ⟨_, a₁, w₁, hq, harr⟩
  obtain ⟨e, a₁, w₁, hq, harr⟩ := first b (.inScope c :: k) cs
  cases e with
  | normal => exact ⟨.normal, a₁, w₁, hq, .head step_scope (Steps.trans harr (.one step_inScope))⟩
  | exit id => exact ⟨.exit id, a₁, w₁, hq, fun k' hk => .head step_scope (harr k' (by simp [exitTo, hk]))⟩
  | goto l' =>
    obtain ⟨rest', hr', e₂, a₂, w₂, hq₂, harr₂⟩ := key _ l' a₁ w₁ rfl hq
    exact ⟨e₂, a₂, w₂, hq₂, .of_steps (.head step_scope (harr _ (by simp [gotoIn, hr']))) harr₂⟩
  | ret => exact ⟨_, a₁, w₁, hq, .of_steps (.one step_scope) harr⟩
  | panic ch => exact ⟨_, a₁, w₁, hq, .of_steps (.one step_scope) harr⟩
  | outgrown => exact ⟨_, a₁, w₁, hq, .of_steps (.one step_scope) harr⟩
end

/-- a frame of formed -/
def FF (a : Act) (x0 x2 x3 : Value) : Prop := ∃ u : Nat → Value, a = ⟨#[x0, u 1, x2, x3, u 4, u 5, u 6, u 7, u 8, u 9, u 10, u 11, u 12, u 13, u 14, u 15, u 16, u 17, u 18, u 19, u 20, u 21, u 22, u 23, u 24, u 25, u 26, u 27, u 28, u 29, u 30, u 31, u 32, u 33, u 34, u 35, u 36, u 37, u 38, u 39, u 40, u 41, u 42, u 43, u 44, u 45, u 46, u 47, u 48, u 49], []⟩
theorem FF.mk (t : Array Value) (h : t = #[t.getD 0 undef, t.getD 1 undef, t.getD 2 undef, t.getD 3 undef, t.getD 4 undef, t.getD 5 undef, t.getD 6 undef, t.getD 7 undef, t.getD 8 undef, t.getD 9 undef, t.getD 10 undef, t.getD 11 undef, t.getD 12 undef, t.getD 13 undef, t.getD 14 undef, t.getD 15 undef, t.getD 16 undef, t.getD 17 undef, t.getD 18 undef, t.getD 19 undef, t.getD 20 undef, t.getD 21 undef, t.getD 22 undef, t.getD 23 undef, t.getD 24 undef, t.getD 25 undef, t.getD 26 undef, t.getD 27 undef, t.getD 28 undef, t.getD 29 undef, t.getD 30 undef, t.getD 31 undef, t.getD 32 undef, t.getD 33 undef, t.getD 34 undef, t.getD 35 undef, t.getD 36 undef, t.getD 37 undef, t.getD 38 undef, t.getD 39 undef, t.getD 40 undef, t.getD 41 undef, t.getD 42 undef, t.getD 43 undef, t.getD 44 undef, t.getD 45 undef, t.getD 46 undef, t.getD 47 undef, t.getD 48 undef, t.getD 49 undef]) : FF ⟨t, []⟩ (t.getD 0 undef) (t.getD 2 undef) (t.getD 3 undef) :=
  ⟨fun i => t.getD i undef, congrArg (fun x => Act.mk x []) h⟩

/-- at label digits, behind k: what is left are digits alone; at label no: no form -/
def FJ (s : List UInt8) (w : World) (l : Nat) (a : Act) (w' : World) : Prop :=
  w' = w ∧ ((l = 1 ∧ ∃ k : Nat, k < s.length ∧ FF a (.string ⟨s.toArray⟩) (.bool false) (.int .i64 k) ∧ Hid (Ti.formed s = (s.drop (k + 1)).all fun x => decide (Ti.dig x))) ∨
    (l = 0 ∧ (∃ v, FF a (.string ⟨s.toArray⟩) (.bool false) v) ∧ Hid (Ti.formed s = false)))

set_option maxRecDepth 100000 in
set_option maxHeartbeats 2000000 in
theorem formed_any (s : List UInt8) (w : World) (hs : s.length ≤ maxLen) :
    Calls Tryd.prog 27 #[.string ⟨s.toArray⟩] w fun e w' => e = .returned (.bool (Ti.formed s)) ∧ w = w' := by
  unfold maxLen at hs
  by_cases h48 : s = [48]
  · subst h48
    go_enter Tryd.func27, Tryd.ntmps27
    go_wp2
    go_step3
    go_wp2
    try rw [Exit.noGoto_ret]
    go_ret
    exact ⟨rfl, rfl⟩
  · have hne : (s == [48]) = false := by simpa using h48
    have HNE := Lib.hid hne
    clear h48
    have FM := Lib.hid (show ∀ c r, Ti.body s = c :: r → Ti.formed s = (decide (49 ≤ c.toNat ∧ c.toNat ≤ 57) && r.all fun x => decide (Ti.dig x)) from fun c r h => by unfold Ti.formed; rw [h, HNE.out]; rfl)
    have F0 := Lib.hid (show Ti.body s = [] → Ti.formed s = false from fun h => by unfold Ti.formed; rw [h, HNE.out]; rfl)
    go_enter Tryd.func27, Tryd.ntmps27
    go_wp2
    refine wp_scope_labels (FJ s w) (fun l a' _ => if l = 0 then 0 else s.length + 1 - (intOf (a'.tmps.getD 3 undef)).toNat) ?_ ?_
    · by_cases l0 : 0 < s.length
      · obtain ⟨C, hC⟩ : ∃ C : Int, (((⟨s.toArray⟩ : ByteArray)[0]'(by simpa [ByteArray.size] using l0)).toNat : Int) = C := ⟨_, rfl⟩
        have hCs : ((s[0]'l0).toNat : Int) = C := hC
        have HCS := Lib.hid hCs
        have C0 : 0 ≤ C := by omega
        clear hCs
        have SD := Lib.hid (show s = s[0]'l0 :: s.drop 1 by rw [← List.drop_eq_getElem_cons l0, List.drop_zero])
        by_cases c45 : C = 45
        · have hc45 : (C == 45) = true := by simpa using c45
          have BD := Lib.hid (show Ti.body s = s.drop 1 by
            have h := HCS.out
            rw [SD.out]
            simp only [Ti.body, List.drop_succ_cons, List.drop_zero]
            rw [if_pos (UInt8.toNat_inj.1 (by rw [show (45 : UInt8).toNat = 45 from rfl]; omega))])
          clear c45
          by_cases l1 : 1 < s.length
          · obtain ⟨E, hE⟩ : ∃ E : Int, (((⟨s.toArray⟩ : ByteArray)[1]'(by simpa [ByteArray.size] using l1)).toNat : Int) = E := ⟨_, rfl⟩
            have hEs : ((s[1]'l1).toNat : Int) = E := hE
            have HES := Lib.hid hEs
            have E0 : 0 ≤ E := by omega
            clear hEs
            have FE := Lib.hid (show Ti.formed s = (decide (49 ≤ (s[1]'l1).toNat ∧ (s[1]'l1).toNat ≤ 57) && (s.drop 2).all fun x => decide (Ti.dig x)) from FM.out _ _ (by rw [BD.out, List.drop_eq_getElem_cons l1]))
            have hl1 : ((1 : Int) == s.length) = false := by
              have : (1 : Int) ≠ s.length := by omega
              simpa using this
            by_cases e1 : E < 49
            · have HN := Lib.hid (show Ti.formed s = false by rw [FE.out, decide_eq_false (by have := HES.out; omega), Bool.false_and])
              go_wp2
              go_step3
              exact ⟨rfl, .inr ⟨rfl, ⟨_, FF.mk _ rfl⟩, HN⟩⟩
            · by_cases e2 : 57 < E
              · have HN := Lib.hid (show Ti.formed s = false by rw [FE.out, decide_eq_false (by have := HES.out; omega), Bool.false_and])
                go_wp2
                go_step3
                exact ⟨rfl, .inr ⟨rfl, ⟨_, FF.mk _ rfl⟩, HN⟩⟩
              · have HQ := Lib.hid (show Ti.formed s = (s.drop 2).all fun x => decide (Ti.dig x) by rw [FE.out, decide_eq_true (by have := HES.out; omega), Bool.true_and])
                go_wp2
                go_step3
                by_cases cl : 2 < s.length
                · obtain ⟨D, hD⟩ : ∃ D : Int, (((⟨s.toArray⟩ : ByteArray)[2]'(by simpa [ByteArray.size] using cl)).toNat : Int) = D := ⟨_, rfl⟩
                  have hDs : ((s[2]'cl).toNat : Int) = D := hD
                  have ED := Lib.hid (show (s.drop (2)).all (fun x => decide (Ti.dig x)) = (decide (Ti.dig (s[2]'cl)) && (s.drop (2 + 1)).all (fun x => decide (Ti.dig x))) by rw [List.drop_eq_getElem_cons cl, List.all_cons])
                  have HDS := Lib.hid hDs
                  have D0 : 0 ≤ D := by omega
                  clear hDs
                  by_cases d1 : D < 48
                  · have HN := Lib.hid (show Ti.formed s = false by
                      rw [HQ.out, ED.out, decide_eq_false (by have := HDS.out; unfold Ti.dig; omega), Bool.false_and])
                    go_wp2
                    go_step3
                    exact ⟨rfl, .inr ⟨rfl, ⟨_, FF.mk _ rfl⟩, HN⟩⟩
                  · by_cases d2 : 57 < D
                    · have HN := Lib.hid (show Ti.formed s = false by
                        rw [HQ.out, ED.out, decide_eq_false (by have := HDS.out; unfold Ti.dig; omega), Bool.false_and])
                      go_wp2
                      go_step3
                      exact ⟨rfl, .inr ⟨rfl, ⟨_, FF.mk _ rfl⟩, HN⟩⟩
                    · have HY := Lib.hid (show Ti.formed s = (s.drop (2 + 1)).all (fun x => decide (Ti.dig x)) by
                        rw [HQ.out, ED.out, decide_eq_true (by have := HDS.out; unfold Ti.dig; omega), Bool.true_and])
                      go_wp2
                      go_step3
                      exact ⟨rfl, .inl ⟨rfl, 2, cl, FF.mk _ rfl, HY⟩⟩
                · have HY := Lib.hid (show (true : Bool) = Ti.formed s by rw [HQ.out, List.drop_eq_nil_of_le (by omega)]; rfl)
                  go_wp2
                  simp only [jumps]
                  go_ret
                  exact ⟨by rw [← HY.out]; rfl, rfl⟩
          · have hl1 : ((1 : Int) == s.length) = true := by
              have : (1 : Int) = s.length := by omega
              simpa using this
            have HN := Lib.hid (show Ti.formed s = false from F0.out (by rw [BD.out, List.drop_eq_nil_of_le (by omega)]))
            go_wp2
            go_step3
            exact ⟨rfl, .inr ⟨rfl, ⟨_, FF.mk _ rfl⟩, HN⟩⟩
        · have hc45 : (C == 45) = false := by simpa using c45
          have BD := Lib.hid (show Ti.body s = s[0]'l0 :: s.drop 1 by
            have h := HCS.out
            rw [show Ti.body s = s by
              rw [SD.out]
              simp only [Ti.body]
              rw [if_neg (fun e => c45 (by rw [← h, e]; rfl))], ← SD.out])
          clear c45
          have FE := Lib.hid (FM.out _ _ BD.out)
          have hl1 : ((0 : Int) == s.length) = false := by
            have : (0 : Int) ≠ s.length := by omega
            simpa using this
          by_cases e1 : C < 49
          · have HN := Lib.hid (show Ti.formed s = false by rw [FE.out, decide_eq_false (by have := HCS.out; omega), Bool.false_and])
            go_wp2
            go_step3
            exact ⟨rfl, .inr ⟨rfl, ⟨_, FF.mk _ rfl⟩, HN⟩⟩
          · by_cases e2 : 57 < C
            · have HN := Lib.hid (show Ti.formed s = false by rw [FE.out, decide_eq_false (by have := HCS.out; omega), Bool.false_and])
              go_wp2
              go_step3
              exact ⟨rfl, .inr ⟨rfl, ⟨_, FF.mk _ rfl⟩, HN⟩⟩
            · have HQ := Lib.hid (show Ti.formed s = (s.drop 1).all fun x => decide (Ti.dig x) by rw [FE.out, decide_eq_true (by have := HCS.out; omega), Bool.true_and])
              go_wp2
              go_step3
              by_cases cl : 1 < s.length
              · obtain ⟨D, hD⟩ : ∃ D : Int, (((⟨s.toArray⟩ : ByteArray)[1]'(by simpa [ByteArray.size] using cl)).toNat : Int) = D := ⟨_, rfl⟩
                have hDs : ((s[1]'cl).toNat : Int) = D := hD
                have ED := Lib.hid (show (s.drop (1)).all (fun x => decide (Ti.dig x)) = (decide (Ti.dig (s[1]'cl)) && (s.drop (1 + 1)).all (fun x => decide (Ti.dig x))) by rw [List.drop_eq_getElem_cons cl, List.all_cons])
                have HDS := Lib.hid hDs
                have D0 : 0 ≤ D := by omega
                clear hDs
                by_cases d1 : D < 48
                · have HN := Lib.hid (show Ti.formed s = false by
                    rw [HQ.out, ED.out, decide_eq_false (by have := HDS.out; unfold Ti.dig; omega), Bool.false_and])
                  go_wp2
                  go_step3
                  exact ⟨rfl, .inr ⟨rfl, ⟨_, FF.mk _ rfl⟩, HN⟩⟩
                · by_cases d2 : 57 < D
                  · have HN := Lib.hid (show Ti.formed s = false by
                      rw [HQ.out, ED.out, decide_eq_false (by have := HDS.out; unfold Ti.dig; omega), Bool.false_and])
                    go_wp2
                    go_step3
                    exact ⟨rfl, .inr ⟨rfl, ⟨_, FF.mk _ rfl⟩, HN⟩⟩
                  · have HY := Lib.hid (show Ti.formed s = (s.drop (1 + 1)).all (fun x => decide (Ti.dig x)) by
                      rw [HQ.out, ED.out, decide_eq_true (by have := HDS.out; unfold Ti.dig; omega), Bool.true_and])
                    go_wp2
                    go_step3
                    exact ⟨rfl, .inl ⟨rfl, 1, cl, FF.mk _ rfl, HY⟩⟩
              · have HY := Lib.hid (show (true : Bool) = Ti.formed s by rw [HQ.out, List.drop_eq_nil_of_le (by omega)]; rfl)
                go_wp2
                simp only [jumps]
                go_ret
                exact ⟨by rw [← HY.out]; rfl, rfl⟩
      · have hl0 : ((0 : Int) == s.length) = true := by
          have : (0 : Int) = s.length := by omega
          simpa using this
        have HN := Lib.hid (show Ti.formed s = false from F0.out (by rw [List.length_eq_zero_iff.1 (show s.length = 0 by omega)]; rfl))
        go_wp2
        go_step3
        exact ⟨rfl, .inr ⟨rfl, ⟨_, FF.mk _ rfl⟩, HN⟩⟩
    · rintro l a' w' ⟨rfl, ⟨rfl, k, hk, ⟨u, rfl⟩, HQ⟩ | ⟨rfl, ⟨v, u, rfl⟩, HN⟩⟩
      · refine ⟨_, rfl, ?_⟩
        by_cases cl : k + 1 < s.length
        · obtain ⟨D, hD⟩ : ∃ D : Int, (((⟨s.toArray⟩ : ByteArray)[k + 1]'(by simpa [ByteArray.size] using cl)).toNat : Int) = D := ⟨_, rfl⟩
          have hDs : ((s[k + 1]'cl).toNat : Int) = D := hD
          have ED := Lib.hid (show (s.drop (k + 1)).all (fun x => decide (Ti.dig x)) = (decide (Ti.dig (s[k + 1]'cl)) && (s.drop (k + 1 + 1)).all (fun x => decide (Ti.dig x))) by rw [List.drop_eq_getElem_cons cl, List.all_cons])
          have HDS := Lib.hid hDs
          have D0 : 0 ≤ D := by omega
          clear hDs
          by_cases d1 : D < 48
          · have HN := Lib.hid (show Ti.formed s = false by
              rw [HQ.out, ED.out, decide_eq_false (by have := HDS.out; unfold Ti.dig; omega), Bool.false_and])
            go_wp2
            go_step3
            exact ⟨⟨rfl, .inr ⟨rfl, ⟨_, FF.mk _ rfl⟩, HN⟩⟩, by simp [intOf]; omega⟩
          · by_cases d2 : 57 < D
            · have HN := Lib.hid (show Ti.formed s = false by
                rw [HQ.out, ED.out, decide_eq_false (by have := HDS.out; unfold Ti.dig; omega), Bool.false_and])
              go_wp2
              go_step3
              exact ⟨⟨rfl, .inr ⟨rfl, ⟨_, FF.mk _ rfl⟩, HN⟩⟩, by simp [intOf]; omega⟩
            · have HY := Lib.hid (show Ti.formed s = (s.drop (k + 1 + 1)).all (fun x => decide (Ti.dig x)) by
                rw [HQ.out, ED.out, decide_eq_true (by have := HDS.out; unfold Ti.dig; omega), Bool.true_and])
              go_wp2
              go_step3
              exact ⟨⟨rfl, .inl ⟨rfl, k + 1, cl, FF.mk _ rfl, HY⟩⟩, by simp [intOf]; omega⟩
        · have HY := Lib.hid (show (true : Bool) = Ti.formed s by rw [HQ.out, List.drop_eq_nil_of_le (by omega)]; rfl)
          go_wp2
          simp only [jumps]
          go_ret
          exact ⟨by rw [← HY.out]; rfl, rfl⟩
      · refine ⟨_, rfl, ?_⟩
        go_wp2
        simp only [jumps]
        go_ret
        exact ⟨by rw [HN.out]; rfl, rfl⟩
end Go.Proofs.YtoikfekalgkgoaaDoor
