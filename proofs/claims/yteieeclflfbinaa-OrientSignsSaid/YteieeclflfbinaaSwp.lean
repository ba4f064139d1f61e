/- The plain law of the swaps: a swap turns the sign; it is the determinant's where that is not 0; places moved on. -/
import Derived.Test.YteieeclflfbinaaSgv
namespace Go.Proofs.Yteieeclflfbinaa
open Go.RowKit Go.Proofs
set_option linter.unusedVariables false

theorem sgn4_det {a b c d : So.Rw} (h : So.D4 a b c d ≠ 0) : So.sgn4 a b c d = sg (So.D4 a b c d) := by
  have e0 : So.CV 0 (So.r4 a b c d) = sg (So.D4 a b c d) := by simp [So.CV, So.stt]; rfl
  have e1 : So.FN (fun m => So.CV m (So.r4 a b c d)) 1 = sg (So.D4 a b c d) := by
    show (if (0 : Int) ≠ 0 then _ else So.CV 0 (So.r4 a b c d)) = _
    rw [if_neg (by decide), e0]
  have hne : So.FN (fun m => So.CV m (So.r4 a b c d)) 1 ≠ 0 := by rw [e1]; exact fun k => h (So.sg_eq0.1 k)
  unfold So.sgn4
  rw [show (85 : Nat) = 1 + 84 from rfl, So.FN_keep hne, e1]
theorem signV_det (row : Nat → So.Rw) (i j k m : Nat) (h : So.D4 (row i) (row j) (row k) (row m) ≠ 0) : So.signV row i j k m = sg (So.D4 (row i) (row j) (row k) (row m)) := by
  obtain ⟨s, hs⟩ : ∃ s, s = So.steps (So.q4 i j k m, 1) 9 := ⟨_, rfl⟩
  have e := So.steps_inv row (So.q4 i j k m, 1) 9
  have t := So.steps_turn (So.q4 i j k m, 1) 9 (.inl rfl)
  rw [← hs] at e t
  have e2 : (So.q4 i j k m, (1 : Int)).2 * sg (So.D4p row (So.q4 i j k m, (1 : Int)).1) = sg (So.D4 (row i) (row j) (row k) (row m)) := by
    show 1 * sg (So.D4 (row i) (row j) (row k) (row m)) = _
    rw [Int.one_mul]
  rw [e2] at e
  have hz : So.D4p row s.1 ≠ 0 := fun k0 => h (So.sg_eq0.1 (by rw [← e, k0, So.sg_0, Int.mul_zero]))
  unfold So.signV
  simp only [← hs]
  rw [sgn4_det hz]
  exact e
theorem sgV_det {n : Nat} {X Y Z : Nat → Int} {i j k m : Int} (h : sgE n X Y Z i j k m = 0) (h2 : So.D4 (rowOf X Y Z i.toNat) (rowOf X Y Z j.toNat) (rowOf X Y Z k.toNat) (rowOf X Y Z m.toNat) ≠ 0) :
    sgV n X Y Z i j k m = sg (So.D4 (rowOf X Y Z i.toNat) (rowOf X Y Z j.toNat) (rowOf X Y Z k.toNat) (rowOf X Y Z m.toNat)) := by
  rcases sgE_cases n X Y Z i j k m with ⟨_, _, _, e⟩ | ⟨_, e | e⟩
  · rw [e]; exact signV_det _ _ _ _ _ h2
  · rw [e] at h; cases h
  · rw [e] at h; cases h
theorem stp_shift (c k : Nat) (q : Nat → Nat) (t : Int) : So.stp k (fun i => q i + c, t) = (fun i => (So.stp k (q, t)).1 i + c, (So.stp k (q, t)).2) := by
  unfold So.stp
  simp only [Nat.add_lt_add_iff_right]
  split
  · refine Prod.ext ?_ rfl
    funext i
    simp only
    split
    · rfl
    · split <;> rfl
  · rfl
theorem steps_shift (c : Nat) (q : Nat → Nat) (t : Int) (n : Nat) : So.steps (fun i => q i + c, t) n = (fun i => (So.steps (q, t) n).1 i + c, (So.steps (q, t) n).2) := by
  induction n with
  | zero => rfl
  | succ n ih =>
    simp only [So.steps]
    rw [ih, stp_shift]
theorem signV_shift (row row' : Nat → So.Rw) (c i j k m : Nat) (h : ∀ p, row' (p + c) = row p) : So.signV row' (i + c) (j + c) (k + c) (m + c) = So.signV row i j k m := by
  have e : So.q4 (i + c) (j + c) (k + c) (m + c) = fun x => So.q4 i j k m x + c := by
    funext x
    unfold So.q4
    split
    · rfl
    · split
      · rfl
      · split <;> rfl
  unfold So.signV
  rw [e, steps_shift]
  simp only [h]
/-- a list behind another one -/
def catF (c : Nat) (F G : Nat → Int) (p : Nat) : Int := if p < c then F p else G (p - c)
theorem catF_add (c : Nat) (F G : Nat → Int) (p : Nat) : catF c F G (p + c) = G p := by unfold catF; rw [if_neg (by omega), Nat.add_sub_cancel]
theorem sgV_shift {n c : Nat} {X Y Z X' Y' Z' : Nat → Int} {i j k m : Int} (h : sgE n X Y Z i j k m = 0) :
    sgV (c + n) (catF c X' X) (catF c Y' Y) (catF c Z' Z) (i + c) (j + c) (k + c) (m + c) = sgV n X Y Z i j k m ∧ sgE (c + n) (catF c X' X) (catF c Y' Y) (catF c Z' Z) (i + c) (j + c) (k + c) (m + c) = 0 := by
  rcases sgE_cases n X Y Z i j k m with ⟨_, hok, hm, e⟩ | ⟨_, e | e⟩
  · have hok2 := hok
    obtain ⟨⟨⟨a0, a1⟩, ⟨b0, b1⟩, ⟨c0, c1⟩, ⟨d0, d1⟩⟩, h1, h2, h3, h4, h5, h6⟩ := hok
    have ho : okp (c + n) (i + c) (j + c) (k + c) (m + c) := by unfold okp; omega
    have t : ∀ x : Int, 0 ≤ x → (x + c).toNat = x.toNat + c := fun x hx => by omega
    have em : ∀ x : Int, 0 ≤ x → mayP (catF c X' X) (catF c Y' Y) (catF c Z' Z) (x + c).toNat = mayP X Y Z x.toNat := fun x hx => by
      rw [t x hx]; unfold mayP; rw [catF_add, catF_add, catF_add]
    unfold sgV sgE
    rw [if_pos ho, if_pos ho, if_pos hok2, em i a0, em j b0, em k c0, em m d0, if_pos hm, if_pos hm, if_pos hm, t i a0, t j b0, t k c0, t m d0]
    exact ⟨signV_shift _ _ c _ _ _ _ (fun p => by unfold rowOf; rw [catF_add, catF_add, catF_add]), rfl⟩
  · rw [e] at h; cases h
  · rw [e] at h; cases h
theorem sgV_swaps {n : Nat} {X Y Z : Nat → Int} {i j k m : Int} (h : sgE n X Y Z i j k m = 0) :
    (sgV n X Y Z i j k m = 1 ∨ sgV n X Y Z i j k m = -1) ∧
    (sgV n X Y Z j i k m = -sgV n X Y Z i j k m ∧ sgE n X Y Z j i k m = 0) ∧ (sgV n X Y Z i k j m = -sgV n X Y Z i j k m ∧ sgE n X Y Z i k j m = 0) ∧
    (sgV n X Y Z i j m k = -sgV n X Y Z i j k m ∧ sgE n X Y Z i j m k = 0) ∧ (sgV n X Y Z j k i m = sgV n X Y Z i j k m ∧ sgE n X Y Z j k i m = 0) := by
  rcases sgE_cases n X Y Z i j k m with ⟨_, hok, hm, e⟩ | ⟨_, e | e⟩
  · have hok' := hok
    obtain ⟨⟨⟨a0, a1⟩, ⟨b0, b1⟩, ⟨c0, c1⟩, ⟨d0, d1⟩⟩, h1, h2, h3, h4, h5, h6⟩ := hok
    have o1 : okp n j i k m := by unfold okp; omega
    have o2 : okp n i k j m := by unfold okp; omega
    have o3 : okp n i j m k := by unfold okp; omega
    have o4 : okp n j k i m := by unfold okp; omega
    simp only [Bool.and_eq_true] at hm
    obtain ⟨⟨⟨g1, g2⟩, g3⟩, g4⟩ := hm
    obtain ⟨V, hV⟩ := So.sign_real (rowOf X Y Z) (fun _ => rfl) [(i.toNat, j.toNat, k.toNat, m.toNat), (j.toNat, i.toNat, k.toNat, m.toNat), (i.toNat, k.toNat, j.toNat, m.toNat), (i.toNat, j.toNat, m.toNat, k.toNat), (j.toNat, k.toNat, i.toNat, m.toNat)]
    have v0 := hV _ _ _ _ (.head _) (un4_okp hok')
    have v1 := hV _ _ _ _ (.tail _ (.head _)) (un4_okp o1)
    have v2 := hV _ _ _ _ (.tail _ (.tail _ (.head _))) (un4_okp o2)
    have v3 := hV _ _ _ _ (.tail _ (.tail _ (.tail _ (.head _)))) (un4_okp o3)
    have v4 := hV _ _ _ _ (.tail _ (.tail _ (.tail _ (.tail _ (.head _))))) (un4_okp o4)
    refine ⟨by rw [e]; exact v0.2, ?_, ?_, ?_, ?_⟩
    · unfold sgV sgE
      simp only [if_pos o1, if_pos hok', g1, g2, g3, g4, Bool.and_self, if_true]
      rw [v1.1, v0.1, So.sw01, So.sg_opp]
      exact ⟨rfl, trivial⟩
    · unfold sgV sgE
      simp only [if_pos o2, if_pos hok', g1, g2, g3, g4, Bool.and_self, if_true]
      rw [v2.1, v0.1, So.sw12, So.sg_opp]
      exact ⟨rfl, trivial⟩
    · unfold sgV sgE
      simp only [if_pos o3, if_pos hok', g1, g2, g3, g4, Bool.and_self, if_true]
      rw [v3.1, v0.1, So.sw23, So.sg_opp]
      exact ⟨rfl, trivial⟩
    · unfold sgV sgE
      simp only [if_pos o4, if_pos hok', g1, g2, g3, g4, Bool.and_self, if_true]
      rw [v4.1, v0.1, So.sw12 (V j.toNat) (V i.toNat) (V k.toNat) (V m.toNat), So.sw01 (V i.toNat) (V j.toNat), Int.neg_neg]
      exact ⟨rfl, trivial⟩
  · rw [e] at h; cases h
  · rw [e] at h; cases h
/-- the four points' determinant, as the sign has it -/
theorem detD_rows (X Y Z : Nat → Int) (i j k m : Nat) : So.D4 (rowOf X Y Z i) (rowOf X Y Z j) (rowOf X Y Z k) (rowOf X Y Z m) = detD (X i) (Y i) (Z i) (X j) (Y j) (Z j) (X k) (Y k) (Z k) (X m) (Y m) (Z m) := at4_det _ _ _ _ _ _ _ _ _ _ _ _
theorem sgV_exact {n : Nat} {X Y Z : Nat → Int} {i j k m : Int} (h : sgE n X Y Z i j k m = 0) :
    may4 (X i.toNat) (Y i.toNat) (Z i.toNat) (X j.toNat) (Y j.toNat) (Z j.toNat) (X k.toNat) (Y k.toNat) (Z k.toNat) (X m.toNat) (Y m.toNat) (Z m.toNat) = true ∧
    (sg (detD (X i.toNat) (Y i.toNat) (Z i.toNat) (X j.toNat) (Y j.toNat) (Z j.toNat) (X k.toNat) (Y k.toNat) (Z k.toNat) (X m.toNat) (Y m.toNat) (Z m.toNat)) = 0 ∨
      sg (detD (X i.toNat) (Y i.toNat) (Z i.toNat) (X j.toNat) (Y j.toNat) (Z j.toNat) (X k.toNat) (Y k.toNat) (Z k.toNat) (X m.toNat) (Y m.toNat) (Z m.toNat)) = sgV n X Y Z i j k m) := by
  rcases sgE_cases n X Y Z i j k m with ⟨_, hok, hm, e⟩ | ⟨_, e | e⟩
  · refine ⟨hm, ?_⟩
    by_cases hz : So.D4 (rowOf X Y Z i.toNat) (rowOf X Y Z j.toNat) (rowOf X Y Z k.toNat) (rowOf X Y Z m.toNat) = 0
    · left; rw [← detD_rows, hz]; rfl
    · right; rw [sgV_det h hz, detD_rows]
  · rw [e] at h; cases h
  · rw [e] at h; cases h
end Go.Proofs.Yteieeclflfbinaa
