/- The state of the reference's changed rows, bit by bit (no program in sight). -/
import Derived.Test.YteieeclflfbinaaSos3
import Derived.Test.YteieeclflfbinaaMoved
namespace Go.Proofs.Yteieeclflfbinaa.So
open Go.Proofs.Yteieeclflfbinaa
set_option linter.unusedVariables false

/-- the state behind the first j bits of m: four rows lie in the cells M, U: the columns that are taken -/
def Cs (m : Nat) (R : Nat → Rw) (j : Nat) (M : Nat → Int) (U : Int) : Prop :=
  ∃ (S : Nat → Rw) (h : Nat → Bool), stt m R j = some (S, h) ∧ (∀ i, i < 4 → M (4 * i) = (S i).x ∧ M (4 * i + 1) = (S i).y ∧ M (4 * i + 2) = (S i).z ∧ M (4 * i + 3) = (S i).w) ∧
    (0 ≤ U ∧ U ≤ 7 ∧ U % 2 = (if h 0 = true then 1 else 0) ∧ U / 2 % 2 = (if h 1 = true then 1 else 0) ∧ U / 4 % 2 = (if h 2 = true then 1 else 0)) ∧
    (∀ i, j ≤ 3 * i → S i = R i) ∧ ∀ i, S i = R i ∨ ∃ k, k < 3 ∧ S i = un k
theorem Cs.start (m : Nat) (R : Nat → Rw) (M : Nat → Int) (h : ∀ i, i < 4 → M (4 * i) = (R i).x ∧ M (4 * i + 1) = (R i).y ∧ M (4 * i + 2) = (R i).z ∧ M (4 * i + 3) = (R i).w) : Cs m R 0 M 0 :=
  ⟨R, fun _ => false, rfl, h, ⟨by decide, by decide, by decide, by decide, by decide⟩, fun _ _ => rfl, fun _ => .inl rfl⟩
theorem Cs.no {m : Nat} {R : Nat → Rw} {j : Nat} {M : Nat → Int} {U : Int} (h : Cs m R j M U) (hb : m / 2 ^ j % 2 = 0) : Cs m R (j + 1) M U := by
  obtain ⟨S, hh, h1, h2, h3, h4, h5⟩ := h
  refine ⟨S, hh, ?_, h2, h3, fun i hi => h4 i (by omega), h5⟩
  rw [stt, h1]
  simp [hb]
/-- the end of row r, of a state -/
theorem Cs.end1 {m : Nat} {R : Nat → Rw} {r : Nat} {M : Nat → Int} {U : Int} (h : Cs m R (3 * r) M U) (hr : r < 4) (hw : ∀ i, i < 4 → (R i).w = 1) : M (4 * r + 3) = 1 := by
  obtain ⟨S, hh, h1, h2, h3, h4, h5⟩ := h
  rw [(h2 r hr).2.2.2, h4 r (Nat.le_refl _), hw r hr]
theorem Cs.end01 {m : Nat} {R : Nat → Rw} {j r : Nat} {M : Nat → Int} {U : Int} (h : Cs m R j M U) (hr : r < 4) (hw : ∀ i, i < 4 → (R i).w = 1) : M (4 * r + 3) = 0 ∨ M (4 * r + 3) = 1 := by
  obtain ⟨S, hh, h1, h2, h3, h4, h5⟩ := h
  rw [(h2 r hr).2.2.2]
  rcases h5 r with e | ⟨k, _, e⟩
  · right; rw [e, hw r hr]
  · left; rw [e]; rfl
theorem Cs.stop {m : Nat} {R : Nat → Rw} {j r : Nat} {M : Nat → Int} {U : Int} (h : Cs m R j M U) (k : Nat) (hr : r < 4) (hj : j = 3 * r + k) (hk : k < 3) (hb : m / 2 ^ j % 2 = 1) (hc : M (4 * r + 3) = 0 ∨ U / 2 ^ k % 2 = 1) : stt m R 12 = none := by
  obtain ⟨S, hs, h1, h2, ⟨u0, u1, u2, u3, u4⟩, h4, h5⟩ := h
  have e1 : j / 3 = r := by omega
  have e2 : j % 3 = k := by omega
  have : stt m R (j + 1) = none := by
    rw [stt, h1]
    simp only
    rw [if_pos hb, e1, e2, if_pos]
    rcases hc with hc | hc
    · exact .inl (by rw [← (h2 r hr).2.2.2]; exact hc)
    · refine .inr ?_
      have hk' : k = 0 ∨ k = 1 ∨ k = 2 := by omega
      rcases hk' with rfl | rfl | rfl
      · have hc : U % 2 = 1 := by simpa using hc
        rw [hc] at u2; cases hcc : hs 0
        · rw [hcc] at u2; simp at u2
        · rfl
      · have hc : U / 2 % 2 = 1 := by simpa using hc
        rw [hc] at u3; cases hcc : hs 1
        · rw [hcc] at u3; simp at u3
        · rfl
      · have hc : U / 4 % 2 = 1 := by simpa using hc
        rw [hc] at u4; cases hcc : hs 2
        · rw [hcc] at u4; simp at u4
        · rfl
  have := stt_none this (12 - (j + 1))
  rwa [show j + 1 + (12 - (j + 1)) = 12 by omega] at this
theorem Cs.yes {m : Nat} {R : Nat → Rw} {j r : Nat} {M : Nat → Int} {U : Int} (h : Cs m R j M U) (k : Nat) (hr : r < 4) (hj : j = 3 * r + k) (hk : k < 3) (hb : m / 2 ^ j % 2 = 1) (hw : M (4 * r + 3) = 1) (hu : U / 2 ^ k % 2 = 0) {x y z : Int} (hx : x = (un k).x) (hy : y = (un k).y) (hz : z = (un k).z) :
    Cs m R (j + 1) (upd (upd (upd (upd M (4 * r) x) (4 * r + 1) y) (4 * r + 2) z) (4 * r + 3) 0) (U + 2 ^ k) := by
  obtain ⟨S, hs, h1, h2, ⟨u0, u1, u2, u3, u4⟩, h4, h5⟩ := h
  have e1 : j / 3 = r := by omega
  have e2 : j % 3 = k := by omega
  have k1 : ¬ (S r).w = 0 := by rw [← (h2 r hr).2.2.2, hw]; decide
  have hk' : k = 0 ∨ k = 1 ∨ k = 2 := by omega
  have k2 : hs k = false := by
    rcases hk' with rfl | rfl | rfl
    · have hu : U % 2 = 0 := by simpa using hu
      rw [hu] at u2; cases hcc : hs 0
      · rfl
      · rw [hcc] at u2; simp at u2
    · have hu : U / 2 % 2 = 0 := by simpa using hu
      rw [hu] at u3; cases hcc : hs 1
      · rfl
      · rw [hcc] at u3; simp at u3
    · have hu : U / 4 % 2 = 0 := by simpa using hu
      rw [hu] at u4; cases hcc : hs 2
      · rfl
      · rw [hcc] at u4; simp at u4
  refine ⟨put S r (un k), fun i => if i = k then true else hs i, ?_, fun i hi => ?_, ?_, fun i hi => ?_, fun i => ?_⟩
  · rw [stt, h1]
    simp only
    rw [if_pos hb, e1, e2, if_neg (by simp [k1, k2])]
  · by_cases e : i = r
    · subst e
      simp only [put, if_pos]
      unfold upd
      refine ⟨?_, ?_, ?_, ?_⟩
      · rw [if_neg (by omega), if_neg (by omega), if_neg (by omega), if_pos rfl, hx]
      · rw [if_neg (by omega), if_neg (by omega), if_pos rfl, hy]
      · rw [if_neg (by omega), if_pos rfl, hz]
      · rw [if_pos rfl]; rfl
    · have := h2 i hi
      simp only [put, if_neg e]
      unfold upd
      refine ⟨?_, ?_, ?_, ?_⟩
      · rw [if_neg (by omega), if_neg (by omega), if_neg (by omega), if_neg (by omega)]; exact this.1
      · rw [if_neg (by omega), if_neg (by omega), if_neg (by omega), if_neg (by omega)]; exact this.2.1
      · rw [if_neg (by omega), if_neg (by omega), if_neg (by omega), if_neg (by omega)]; exact this.2.2.1
      · rw [if_neg (by omega), if_neg (by omega), if_neg (by omega), if_neg (by omega)]; exact this.2.2.2
  · rcases hk' with rfl | rfl | rfl
    · have hu : U % 2 = 0 := by simpa using hu
      refine ⟨by omega, ?_, ?_, ?_, ?_⟩
      · show U + 1 ≤ 7; omega
      · show (U + 1) % 2 = 1; omega
      · show (U + 1) / 2 % 2 = if hs 1 = true then 1 else 0; rw [← u3]; omega
      · show (U + 1) / 4 % 2 = if hs 2 = true then 1 else 0; rw [← u4]; omega
    · have hu : U / 2 % 2 = 0 := by simpa using hu
      refine ⟨by omega, ?_, ?_, ?_, ?_⟩
      · show U + 2 ≤ 7; omega
      · show (U + 2) % 2 = if hs 0 = true then 1 else 0; rw [← u2]; omega
      · show (U + 2) / 2 % 2 = 1; omega
      · show (U + 2) / 4 % 2 = if hs 2 = true then 1 else 0; rw [← u4]; omega
    · have hu : U / 4 % 2 = 0 := by simpa using hu
      refine ⟨by omega, ?_, ?_, ?_, ?_⟩
      · show U + 4 ≤ 7; omega
      · show (U + 4) % 2 = if hs 0 = true then 1 else 0; rw [← u2]; omega
      · show (U + 4) / 2 % 2 = if hs 1 = true then 1 else 0; rw [← u3]; omega
      · show (U + 4) / 4 % 2 = 1; omega
  · rw [put, if_neg (by omega)]; exact h4 i (by omega)
  · by_cases e : i = r
    · exact .inr ⟨k, hk, by rw [put, if_pos e]⟩
    · rw [put, if_neg e]; exact h5 i
end Go.Proofs.Yteieeclflfbinaa.So
namespace Go.Proofs.Yteieeclflfbinaa
open Go.Proofs.Yteieeclflfbinaa
theorem and1_small {x : Int} (h0 : 0 ≤ x) (h7 : x ≤ 7) : bits .and .i64 x 1 = x % 2 := by
  have : x = 0 ∨ x = 1 ∨ x = 2 ∨ x = 3 ∨ x = 4 ∨ x = 5 ∨ x = 6 ∨ x = 7 := by omega
  rcases this with rfl | rfl | rfl | rfl | rfl | rfl | rfl | rfl <;> decide
theorem or_small {x : Int} (h0 : 0 ≤ x) (h7 : x ≤ 7) : (x % 2 = 0 → bits .or .i64 x 1 = x + 1) ∧ (x / 2 % 2 = 0 → bits .or .i64 x 2 = x + 2) ∧ (x / 4 % 2 = 0 → bits .or .i64 x 4 = x + 4) := by
  have : x = 0 ∨ x = 1 ∨ x = 2 ∨ x = 3 ∨ x = 4 ∨ x = 5 ∨ x = 6 ∨ x = 7 := by omega
  rcases this with rfl | rfl | rfl | rfl | rfl | rfl | rfl | rfl <;> decide
end Go.Proofs.Yteieeclflfbinaa
