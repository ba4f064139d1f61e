/- The plain law of the filter: a float sum that is beyond the float bound has the determinant's sign (whole numbers alone; no program in sight). -/
import Derived.Test.YtdcllcbhepajeaaDoorFlt
namespace Go.Proofs.YtdcllcbhepajeaaDoor.Fl

def ab (n : Int) : Int := (n.natAbs : Int)

theorem ab_cases (n : Int) : (0 ≤ n ∧ ab n = n) ∨ (n < 0 ∧ ab n = -n) := by unfold ab; omega
theorem ab_nonneg (n : Int) : 0 ≤ ab n := by unfold ab; omega
theorem ab_mul (a b : Int) : ab (a * b) = ab a * ab b := by unfold ab; rw [Int.natAbs_mul]; exact Int.natCast_mul _ _
theorem ab_le (n k : Int) : ab n ≤ k ↔ n ≤ k ∧ -k ≤ n := by unfold ab; omega

theorem Rb (n : Int) : 9007199254740992 * ab (R n - n) ≤ ab n := by
  have := R_bounds n
  unfold ab
  omega

theorem R_nonneg (n : Int) (h : 0 ≤ n) : 0 ≤ R n := by
  unfold R sgn
  rw [decide_eq_false (by omega)]
  simp

def fD (a b c d : Int) : Int := R (R (a * b) - R (c * d))
def fT (p D : Int) : Int := R (p * D)
def fW (a b c d : Int) : Int := R (ab (R (a * b)) + ab (R (c * d)))
def fZ (p W : Int) : Int := R (ab p * W)

theorem mul_ab_le {P x y : Int} (hP : 0 ≤ P) (h : 9007199254740992 * x ≤ 3 * y) : 9007199254740992 * (P * x) ≤ 3 * (P * y) := by
  have := Int.mul_le_mul_of_nonneg_left h hP
  have e1 : P * (9007199254740992 * x) = 9007199254740992 * (P * x) := by rw [Int.mul_left_comm]
  have e2 : P * (3 * y) = 3 * (P * y) := by rw [Int.mul_left_comm]
  omega

/-- one of the three terms: how far the float is off, and how large the float bound's term is at least -/
theorem one_term (p a b c d : Int) :
    9007199254740992 * ab (fT p (fD a b c d) - p * (a * b - c * d)) ≤ 5 * (ab p * (ab (a * b) + ab (c * d))) ∧
    11 * (ab p * (ab (a * b) + ab (c * d))) ≤ 16 * fZ p (fW a b c d) := by
  have hP := ab_nonneg p
  have hU := Rb (a * b)
  have hV := Rb (c * d)
  have hD := Rb (R (a * b) - R (c * d))
  have hW := Rb (ab (R (a * b)) + ab (R (c * d)))
  have hT := Rb (p * fD a b c d)
  have hZ := Rb (ab p * fW a b c d)
  have hW0 : 0 ≤ fW a b c d := R_nonneg _ (by have := ab_nonneg (R (a * b)); have := ab_nonneg (R (c * d)); omega)
  rw [ab_mul] at hT hZ
  have habs : ab (ab p) = ab p := by unfold ab; omega
  have habw : ab (fW a b c d) = fW a b c d := by unfold ab; omega
  rw [habs, habw] at hZ
  change 9007199254740992 * ab (fT p (fD a b c d) - p * fD a b c d) ≤ _ at hT
  change 9007199254740992 * ab (fZ p (fW a b c d) - ab p * fW a b c d) ≤ _ at hZ
  change 9007199254740992 * ab (fD a b c d - _) ≤ _ at hD
  change 9007199254740992 * ab (fW a b c d - _) ≤ _ at hW
  generalize fT p (fD a b c d) = T at *
  generalize fZ p (fW a b c d) = Z at *
  generalize fD a b c d = D at *
  generalize fW a b c d = W at *
  generalize R (a * b) = U at *
  generalize R (c * d) = V at *
  generalize a * b = u at *
  generalize c * d = v at *
  -- how far D is off, and how large it is
  have h1 : 9007199254740992 * ab (D - (u - v)) ≤ 3 * (ab u + ab v) := by unfold ab at *; omega
  have h2 : ab D ≤ 2 * (ab u + ab v) := by unfold ab at *; omega
  have h3 : 3 * (ab u + ab v) ≤ 4 * W := by unfold ab at *; omega
  -- times p
  have m1 := mul_ab_le hP h1
  have m2 : ab p * ab D ≤ 2 * (ab p * (ab u + ab v)) := by
    have := Int.mul_le_mul_of_nonneg_left h2 hP
    rw [Int.mul_left_comm] at this; exact this
  have m3 : 3 * (ab p * (ab u + ab v)) ≤ 4 * (ab p * W) := by
    have := Int.mul_le_mul_of_nonneg_left h3 hP
    rw [Int.mul_left_comm, Int.mul_left_comm (ab p) 4] at this; exact this
  rw [← ab_mul, Int.mul_sub] at m1
  have m4 : 0 ≤ ab p * (ab u + ab v) := Int.mul_nonneg hP (by have := ab_nonneg u; have := ab_nonneg v; omega)
  have m5 : 0 ≤ ab p * W := Int.mul_nonneg hP hW0
  clear hP hU hV hD hW h1 h2 h3
  generalize ab p * (ab u + ab v) = Q at *
  generalize ab p * W = PW at *
  generalize ab p * ab D = PD at *
  generalize p * D = pD at *
  generalize p * (u - v) = t at *
  unfold ab at *
  constructor <;> omega

def fs (px py pz qx qy qz rx ry rz : Int) : Int :=
  R (R (fT px (fD qy rz qz ry) + fT py (fD qz rx qx rz)) + fT pz (fD qx ry qy rx))
def fe (px py pz qx qy qz rx ry rz : Int) : Int :=
  R (R (fZ px (fW qy rz qz ry) + fZ py (fW qz rx qx rz)) + fZ pz (fW qx ry qy rx))
def det3 (px py pz qx qy qz rx ry rz : Int) : Int :=
  px * (qy * rz - qz * ry) + py * (qz * rx - qx * rz) + pz * (qx * ry - qy * rx)
def filt (px py pz qx qy qz rx ry rz : Int) : Int :=
  if fe px py pz qx qy qz rx ry rz < 2 ^ 48 * fs px py pz qx qy qz rx ry rz then 1
  else if 2 ^ 48 * fs px py pz qx qy qz rx ry rz < - fe px py pz qx qy qz rx ry rz then -1 else 0

theorem sum_part {T1 T2 T3 t1 t2 t3 Q1 Q2 Q3 S12 S : Int}
    (a1 : 9007199254740992 * ab (T1 - t1) ≤ 5 * Q1) (a2 : 9007199254740992 * ab (T2 - t2) ≤ 5 * Q2) (a3 : 9007199254740992 * ab (T3 - t3) ≤ 5 * Q3)
    (t1b : ab t1 ≤ Q1) (t2b : ab t2 ≤ Q2) (t3b : ab t3 ≤ Q3)
    (s1 : 9007199254740992 * ab (S12 - (T1 + T2)) ≤ ab (T1 + T2)) (s2 : 9007199254740992 * ab (S - (S12 + T3)) ≤ ab (S12 + T3)) :
    9007199254740992 * ab (S - (t1 + t2 + t3)) ≤ 10 * (Q1 + Q2 + Q3) := by
  have x1 : ab T1 ≤ 2 * Q1 := by clear a2 a3 t2b t3b s1 s2; unfold ab at *; omega
  have x2 : ab T2 ≤ 2 * Q2 := by clear a1 a3 t1b t3b s1 s2 x1; unfold ab at *; omega
  have x3 : ab T3 ≤ 2 * Q3 := by clear a1 a2 t1b t2b s1 s2 x1 x2; unfold ab at *; omega
  have y0 : ab (T1 + T2) ≤ 2 * (Q1 + Q2) := by clear a1 a2 a3 t1b t2b t3b s1 s2 x3; unfold ab at *; omega
  have y1 : 9007199254740992 * ab (S12 - (T1 + T2)) ≤ 2 * (Q1 + Q2) := by clear a1 a2 a3 t1b t2b t3b s2 x3; omega
  have y2 : ab S12 ≤ 3 * (Q1 + Q2) := by clear a1 a2 a3 t1b t2b t3b s1 s2 x1 x2 x3; unfold ab at *; omega
  have y4 : ab (S12 + T3) ≤ 3 * (Q1 + Q2 + Q3) := by
    have k3 : 0 ≤ Q3 := by have := ab_nonneg t3; omega
    clear a1 a2 a3 t1b t2b t3b s1 s2 x1 x2 y0 y1; unfold ab at *; omega
  have y3 : 9007199254740992 * ab (S - (S12 + T3)) ≤ 3 * (Q1 + Q2 + Q3) := by clear a1 a2 a3 t1b t2b t3b s1 x1 x2 x3 y0 y1 y2; omega
  have k1 : 0 ≤ Q1 := by have := ab_nonneg t1; omega
  have k2 : 0 ≤ Q2 := by have := ab_nonneg t2; omega
  have k3 : 0 ≤ Q3 := by have := ab_nonneg t3; omega
  clear x1 x2 x3 y0 y2 y4 s1 s2 t1b t2b t3b
  have tri : ab (S - (t1 + t2 + t3)) ≤ ab (S - (S12 + T3)) + ab (S12 - (T1 + T2)) + (ab (T1 - t1) + ab (T2 - t2) + ab (T3 - t3)) := by
    have := ab_cases (S - (t1 + t2 + t3))
    have l : ∀ x : Int, x ≤ ab x ∧ -x ≤ ab x := by intro x; unfold ab; omega
    have l1 := l (S - (S12 + T3)); have l2 := l (S12 - (T1 + T2)); have l3 := l (T1 - t1); have l4 := l (T2 - t2); have l5 := l (T3 - t3)
    omega
  omega

theorem bound_part {Z1 Z2 Z3 Q1 Q2 Q3 E12 E : Int} (b1 : 11 * Q1 ≤ 16 * Z1) (b2 : 11 * Q2 ≤ 16 * Z2) (b3 : 11 * Q3 ≤ 16 * Z3) (k1 : 0 ≤ Q1) (k2 : 0 ≤ Q2) (k3 : 0 ≤ Q3)
    (e1 : 9007199254740992 * ab (E12 - (Z1 + Z2)) ≤ ab (Z1 + Z2)) (e2 : 9007199254740992 * ab (E - (E12 + Z3)) ≤ ab (E12 + Z3)) :
    Q1 + Q2 + Q3 ≤ 2 * E := by
  have l : ∀ x : Int, -x ≤ ab x := by intro x; unfold ab; omega
  have p : ∀ x : Int, 0 ≤ x → ab x = x := by intro x _; unfold ab; omega
  rw [p _ (show 0 ≤ Z1 + Z2 by omega)] at e1
  have l1 := l (E12 - (Z1 + Z2))
  have h12 : 0 ≤ E12 := by omega
  rw [p _ (show 0 ≤ E12 + Z3 by omega)] at e2
  have l2 := l (E - (E12 + Z3))
  omega

theorem fs_fe (px py pz qx qy qz rx ry rz : Int) :
    ∃ Q : Int, 0 ≤ Q ∧ 9007199254740992 * ab (fs px py pz qx qy qz rx ry rz - det3 px py pz qx qy qz rx ry rz) ≤ 10 * Q ∧ Q ≤ 2 * fe px py pz qx qy qz rx ry rz := by
  obtain ⟨a1, b1⟩ := one_term px qy rz qz ry
  obtain ⟨a2, b2⟩ := one_term py qz rx qx rz
  obtain ⟨a3, b3⟩ := one_term pz qx ry qy rx
  have hQ : ∀ x y z : Int, 0 ≤ ab x * (ab y + ab z) := fun x y z => Int.mul_nonneg (ab_nonneg x) (by have := ab_nonneg y; have := ab_nonneg z; omega)
  have ht : ∀ p x y : Int, ab (p * (x - y)) ≤ ab p * (ab x + ab y) := by
    intro p x y
    rw [ab_mul]
    exact Int.mul_le_mul_of_nonneg_left (by unfold ab; omega) (ab_nonneg p)
  refine ⟨ab px * (ab (qy * rz) + ab (qz * ry)) + ab py * (ab (qz * rx) + ab (qx * rz)) + ab pz * (ab (qx * ry) + ab (qy * rx)), ?_, ?_, ?_⟩
  · have := hQ px (qy * rz) (qz * ry)
    have := hQ py (qz * rx) (qx * rz)
    have := hQ pz (qx * ry) (qy * rx)
    omega
  · exact sum_part a1 a2 a3 (ht _ _ _) (ht _ _ _) (ht _ _ _) (Rb _) (Rb _)
  · exact bound_part b1 b2 b3 (hQ _ _ _) (hQ _ _ _) (hQ _ _ _) (Rb _) (Rb _)

/-- the filter is never wrong -/
theorem filt_right (px py pz qx qy qz rx ry rz : Int) :
    (filt px py pz qx qy qz rx ry rz = 1 → 0 < det3 px py pz qx qy qz rx ry rz) ∧
    (filt px py pz qx qy qz rx ry rz = -1 → det3 px py pz qx qy qz rx ry rz < 0) := by
  obtain ⟨Q, h0, h1, h2⟩ := fs_fe px py pz qx qy qz rx ry rz
  unfold filt
  generalize fs px py pz qx qy qz rx ry rz = S at *
  generalize fe px py pz qx qy qz rx ry rz = E at *
  generalize det3 px py pz qx qy qz rx ry rz = D at *
  unfold ab at h1
  by_cases c1 : E < 2 ^ 48 * S
  · rw [if_pos c1]
    exact ⟨fun _ => by omega, fun h => by omega⟩
  · rw [if_neg c1]
    by_cases c2 : 2 ^ 48 * S < -E
    · rw [if_pos c2]
      exact ⟨fun h => by omega, fun _ => by omega⟩
    · rw [if_neg c2]
      exact ⟨fun h => by omega, fun h => by omega⟩

theorem filt_cases (px py pz qx qy qz rx ry rz : Int) :
    filt px py pz qx qy qz rx ry rz = 1 ∨ filt px py pz qx qy qz rx ry rz = -1 ∨ filt px py pz qx qy qz rx ry rz = 0 := by
  unfold filt; split
  · exact .inl rfl
  · split
    · exact .inr (.inl rfl)
    · exact .inr (.inr rfl)

end Go.Proofs.YtdcllcbhepajeaaDoor.Fl
