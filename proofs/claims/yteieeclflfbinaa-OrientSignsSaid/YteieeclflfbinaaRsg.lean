/- Plain words for the reference's Sign: four rounds of swaps are as three; the first change whose sign is not 0. -/
import Derived.Test.YteieeclflfbinaaSwp
import Derived.Test.YteieeclflfbinaaRef2
namespace Go.Proofs.Yteieeclflfbinaa
open Go.Proofs.Yteieeclflfbinaa
set_option linter.unusedVariables false

theorem stp_sorted {s : (Nat → Nat) × Int} (h : s.1 0 < s.1 1 ∧ s.1 1 < s.1 2 ∧ s.1 2 < s.1 3) (k : Nat) (hk : k < 3) : So.stp k s = s := by
  unfold So.stp
  rw [if_neg]
  have : k = 0 ∨ k = 1 ∨ k = 2 := by omega
  obtain ⟨h0, h1, h2⟩ := h
  rcases this with rfl | rfl | rfl <;> simp only [Nat.zero_add, Nat.reduceAdd] <;> omega
theorem steps12 {p : Nat → Nat} {t : Int} (h : So.Un4 p) : So.steps (p, t) 12 = So.steps (p, t) 9 := by
  have h9 := So.steps_sorted p t h
  have e1 : So.steps (p, t) 10 = So.steps (p, t) 9 := stp_sorted h9 0 (by decide)
  have e2 : So.steps (p, t) 11 = So.steps (p, t) 9 := by show So.stp 1 (So.steps (p, t) 10) = _; rw [e1]; exact stp_sorted h9 1 (by decide)
  show So.stp 2 (So.steps (p, t) 11) = _
  rw [e2]; exact stp_sorted h9 2 (by decide)
theorem FN_zero {f : Nat → Int} {q : Nat} (h : ∀ p, p < q → f p = 0) : So.FN f q = 0 := by
  induction q with
  | zero => rfl
  | succ q ih =>
    rw [So.FN, ih fun p hp => h p (by omega), if_neg (by decide)]
    exact h q (by omega)
theorem FN_first {f : Nat → Int} {q N : Nat} (h : ∀ p, p < q → f p = 0) (hq : f q ≠ 0) (hN : q < N) : So.FN f N = f q := by
  have e : So.FN f (q + 1) = f q := by rw [So.FN, FN_zero h, if_neg (by decide)]
  have := So.FN_keep (f := f) (n := q + 1) (by rw [e]; exact hq) (N - (q + 1))
  rw [show q + 1 + (N - (q + 1)) = N by omega, e] at this
  exact this
theorem sg_three (x : Int) : sg x = 0 ∨ sg x = 1 ∨ sg x = -1 := by
  rcases Int.lt_trichotomy x 0 with h | h | h
  · exact .inr (.inr (So.sg_ng h))
  · rw [h]; exact .inl rfl
  · exact .inr (.inl (So.sg_pos h))
theorem un_cd (k : Nat) (hk : k < 3) : Cd (So.un k).x ∧ Cd (So.un k).y ∧ Cd (So.un k).z := by
  have : k = 0 ∨ k = 1 ∨ k = 2 := by omega
  unfold Cd
  rcases this with rfl | rfl | rfl <;> exact ⟨⟨by decide, by decide⟩, ⟨by decide, by decide⟩, ⟨by decide, by decide⟩⟩
theorem row_cd {X Y Z : Nat → Int} {p : Nat} (h : mayP X Y Z p = true) : Cd (rowOf X Y Z p).x ∧ Cd (rowOf X Y Z p).y ∧ Cd (rowOf X Y Z p).z := by
  simp only [mayP, mayB, Bool.and_eq_true] at h
  exact ⟨inB_true h.1.1, inB_true h.1.2, inB_true h.2⟩
theorem cd_wd {x : Int} (h : Cd x) : Wd x := by unfold Cd at h; unfold Wd; omega
end Go.Proofs.Yteieeclflfbinaa
