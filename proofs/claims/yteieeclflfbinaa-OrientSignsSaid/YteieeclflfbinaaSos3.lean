/- The plain law of the perturbed sign: the rows behind the first changes of a mask, as cells hold them; the determinant of four rows by their ends (no program in sight). -/
import Derived.Test.YteieeclflfbinaaSos2
namespace Go.Proofs.Yteieeclflfbinaa.So
open Go.Proofs.Yteieeclflfbinaa
set_option linter.unusedVariables false

def upd (M : Nat → Int) (o : Nat) (v : Int) : Nat → Int := fun i => if i = o then v else M i
/-- the state behind the first j bits of m: n rows lie in the cells M, the columns that are taken in H -/
def St (m : Nat) (R : Nat → Rw) (j : Nat) (M H : Nat → Int) (n : Nat) : Prop :=
  ∃ (S : Nat → Rw) (h : Nat → Bool), stt m R j = some (S, h) ∧ (∀ i, i < n → M (4 * i) = (S i).x ∧ M (4 * i + 1) = (S i).y ∧ M (4 * i + 2) = (S i).z ∧ M (4 * i + 3) = (S i).w) ∧
    (∀ i, i < 3 → H i = if h i = true then 1 else 0) ∧ (∀ i, n ≤ i → S i = R i) ∧ ∀ i, S i = R i ∨ ∃ k, k < 3 ∧ S i = un k
theorem St.start (m : Nat) (R : Nat → Rw) (M H : Nat → Int) (hH : ∀ i, i < 3 → H i = 0) : St m R 0 M H 0 :=
  ⟨R, fun _ => false, rfl, fun i hi => by omega, fun i hi => by simpa using hH i hi, fun _ _ => rfl, fun _ => .inl rfl⟩
theorem St.row {m : Nat} {R : Nat → Rw} {j : Nat} {M H : Nat → Int} {n : Nat} (h : St m R j M H n) {x y z w : Int} (hR : R n = ⟨x, y, z, w⟩) :
    St m R j (upd (upd (upd (upd M (4 * n) x) (4 * n + 1) y) (4 * n + 2) z) (4 * n + 3) w) H (n + 1) := by
  obtain ⟨S, hh, h1, h2, h3, h4, h5⟩ := h
  refine ⟨S, hh, h1, fun i hi => ?_, h3, fun i hi => h4 i (by omega), h5⟩
  by_cases e : i = n
  · subst e
    rw [h4 i (Nat.le_refl _), hR]
    unfold upd
    refine ⟨?_, ?_, ?_, ?_⟩
    · rw [if_neg (by omega), if_neg (by omega), if_neg (by omega), if_pos rfl]
    · rw [if_neg (by omega), if_neg (by omega), if_pos rfl]
    · rw [if_neg (by omega), if_pos rfl]
    · rw [if_pos rfl]
  · have := h2 i (by omega)
    unfold upd
    refine ⟨?_, ?_, ?_, ?_⟩
    · rw [if_neg (by omega), if_neg (by omega), if_neg (by omega), if_neg (by omega)]; exact this.1
    · rw [if_neg (by omega), if_neg (by omega), if_neg (by omega), if_neg (by omega)]; exact this.2.1
    · rw [if_neg (by omega), if_neg (by omega), if_neg (by omega), if_neg (by omega)]; exact this.2.2.1
    · rw [if_neg (by omega), if_neg (by omega), if_neg (by omega), if_neg (by omega)]; exact this.2.2.2
theorem St.no {m : Nat} {R : Nat → Rw} {j : Nat} {M H : Nat → Int} {n : Nat} (h : St m R j M H n) (hb : m / 2 ^ j % 2 = 0) : St m R (j + 1) M H n := by
  obtain ⟨S, hh, h1, h2, h3, h4, h5⟩ := h
  refine ⟨S, hh, ?_, h2, h3, h4, h5⟩
  rw [stt, h1]
  simp [hb]
theorem St.yes {m : Nat} {R : Nat → Rw} {j r k : Nat} {M H : Nat → Int} (h : St m R j M H (r + 1)) (hj : j = 3 * r + k) (hk : k < 3) (hb : m / 2 ^ j % 2 = 1) (hw : ¬ M (4 * r + 3) = 0) (hh : ¬ H k = 1) :
    St m R (j + 1) (upd (upd (upd (upd (upd M (4 * r) 0) (4 * r + 1) 0) (4 * r + 2) 0) (4 * r + 3) 0) (4 * r + (2 - k)) 1) (upd H k 1) (r + 1) := by
  obtain ⟨S, hs, h1, h2, h3, h4, h5⟩ := h
  have e1 : j / 3 = r := by omega
  have e2 : j % 3 = k := by omega
  have k1 : ¬ (S r).w = 0 := by rw [← (h2 r (by omega)).2.2.2]; exact hw
  have k2 : hs k = false := by
    have := h3 k hk
    cases hc : hs k
    · rfl
    · rw [hc] at this; exact absurd this hh
  refine ⟨put S r (un k), fun i => if i = k then true else hs i, ?_, fun i hi => ?_, fun i hi => ?_, fun i hi => ?_, fun i => ?_⟩
  · rw [stt, h1]
    simp only
    rw [if_pos hb, e1, e2, if_neg (by simp [k1, k2])]
  · by_cases e : i = r
    · subst e
      have hk' : k = 0 ∨ k = 1 ∨ k = 2 := by omega
      have o : ∀ M' : Nat → Int, M' (4 * i) = 0 → M' (4 * i + 1) = 0 → M' (4 * i + 2) = 0 → M' (4 * i + 3) = 0 →
          (upd M' (4 * i + (2 - k)) 1 (4 * i) = (un k).x ∧ upd M' (4 * i + (2 - k)) 1 (4 * i + 1) = (un k).y ∧ upd M' (4 * i + (2 - k)) 1 (4 * i + 2) = (un k).z ∧ upd M' (4 * i + (2 - k)) 1 (4 * i + 3) = (un k).w) := by
        intro M' m0 m1 m2 m3
        rcases hk' with rfl | rfl | rfl <;> simp [upd, un, m0, m1, m2, m3]
      simp only [put, if_pos]
      refine o _ ?_ ?_ ?_ ?_
      · unfold upd; rw [if_neg (by omega), if_neg (by omega), if_neg (by omega), if_pos rfl]
      · unfold upd; rw [if_neg (by omega), if_neg (by omega), if_pos rfl]
      · unfold upd; rw [if_neg (by omega), if_pos rfl]
      · unfold upd; rw [if_pos rfl]
    · have := h2 i hi
      simp only [put, if_neg e]
      unfold upd
      refine ⟨?_, ?_, ?_, ?_⟩
      · rw [if_neg (by omega), if_neg (by omega), if_neg (by omega), if_neg (by omega), if_neg (by omega)]; exact this.1
      · rw [if_neg (by omega), if_neg (by omega), if_neg (by omega), if_neg (by omega), if_neg (by omega)]; exact this.2.1
      · rw [if_neg (by omega), if_neg (by omega), if_neg (by omega), if_neg (by omega), if_neg (by omega)]; exact this.2.2.1
      · rw [if_neg (by omega), if_neg (by omega), if_neg (by omega), if_neg (by omega), if_neg (by omega)]; exact this.2.2.2
  · unfold upd
    by_cases e : i = k
    · simp [e]
    · rw [if_neg e, h3 i hi]; simp [e]
  · rw [put, if_neg (by omega)]; exact h4 i hi
  · by_cases e : i = r
    · exact .inr ⟨k, hk, by rw [put, if_pos e]⟩
    · rw [put, if_neg e]; exact h5 i
theorem stt_none {m : Nat} {R : Nat → Rw} {j : Nat} (h : stt m R j = none) (n : Nat) : stt m R (j + n) = none := by
  induction n with
  | zero => exact h
  | succ n ih => rw [← Nat.add_assoc, stt, ih]
theorem St.stop {m : Nat} {R : Nat → Rw} {j r k : Nat} {M H : Nat → Int} {n : Nat} (h : St m R j M H n) (hn : r < n) (hj : j = 3 * r + k) (hk : k < 3) (h12 : j < 12) (hb : m / 2 ^ j % 2 = 1) (hc : M (4 * r + 3) = 0 ∨ H k = 1) : stt m R 12 = none := by
  obtain ⟨S, hs, h1, h2, h3, h4, h5⟩ := h
  have e1 : j / 3 = r := by omega
  have e2 : j % 3 = k := by omega
  have : stt m R (j + 1) = none := by
    rw [stt, h1]
    simp only
    rw [if_pos hb, e1, e2, if_pos]
    rcases hc with hc | hc
    · exact .inl (by rw [← (h2 r hn).2.2.2]; exact hc)
    · refine .inr ?_
      have := h3 k hk
      cases hcc : hs k
      · rw [hcc, hc] at this; simp at this
      · rfl
  have := stt_none this (12 - (j + 1))
  rwa [show j + 1 + (12 - (j + 1)) = 12 by omega] at this

/-! ### the determinant of four rows, by their ends -/
def oth (S : Nat → Rw) (r : Nat) : Int := if r = 0 then d3 (S 1) (S 2) (S 3) else if r = 1 then d3 (S 0) (S 2) (S 3) else if r = 2 then d3 (S 0) (S 1) (S 3) else d3 (S 0) (S 1) (S 2)
def cof (S : Nat → Rw) (r : Nat) : Int := if (S r).w = 0 then 0 else if r % 2 = 0 then - oth S r else oth S r
def psum (S : Nat → Rw) : Nat → Int
  | 0 => 0
  | r + 1 => psum S r + cof S r
theorem psum_at4 (S : Nat → Rw) (h : ∀ i, i < 4 → (S i).w = 0 ∨ (S i).w = 1) : psum S 4 = at4 S := by
  have h0 := h 0 (by omega)
  have h1 := h 1 (by omega)
  have h2 := h 2 (by omega)
  have h3 := h 3 (by omega)
  simp only [psum, cof, oth, at4, D4]
  rcases h0 with h0 | h0 <;> rcases h1 with h1 | h1 <;> rcases h2 with h2 | h2 <;> rcases h3 with h3 | h3 <;> simp [h0, h1, h2, h3] <;> omega
end Go.Proofs.Yteieeclflfbinaa.So
