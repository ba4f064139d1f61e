/- Package limb's Parse: the walk. -/
import Derived.Test.YtoikfekalgkgoaaDoorText2
import Derived.Deep.RegionHeld3
namespace Go.Proofs.YtoikfekalgkgoaaDoor
open Go.RowKit Go.Proofs
set_option linter.unusedVariables false

/-- what the digits say -/
def dval : List UInt8 → Int := List.foldl (fun z c => z * 10 + ((c.toNat : Int) - 48)) 0
def isDig (c : UInt8) : Prop := 48 ≤ (c.toNat : Int) ∧ (c.toNat : Int) ≤ 57


/-- the number that a text says, if its digits are D -/
def pz (s D : List UInt8) : Int := if D.length < s.length then -dval D else dval D
def pok (s D : List UInt8) : Prop := D.length ≤ 39 ∧ (∀ c ∈ D, isDig c) ∧ Lib.itoa (sv (pz s D)) = s
def Parsed (s D : List UInt8) (e : Ending) : Prop :=
  (pok s D ∧ e = .returned (.tuple #[.agg #[.int .i64 (hi (pz s D)), .int .u64 (lo (pz s D))], .int .i64 0])) ∨ (¬ pok s D ∧ e = .returned (.tuple #[.agg #[.int .i64 0, .int .u64 0], .int .i64 10]))

theorem dval_snoc (D : List UInt8) (k : Nat) (h : k < D.length) : dval (D.take (k + 1)) = dval (D.take k) * 10 + ((D[k].toNat : Int) - 48) := by
  unfold dval
  rw [List.take_succ_eq_append_getElem h, List.foldl_append]
  rfl
theorem dig_snoc (D : List UInt8) (k : Nat) (h : k < D.length) (hd : ∀ c ∈ D.take k, isDig c) (hc : isDig D[k]) : ∀ c ∈ D.take (k + 1), isDig c := by
  rw [List.take_succ_eq_append_getElem h]
  intro c hm
  rcases List.mem_append.1 hm with hm | hm
  · exact hd c hm
  · rw [List.mem_singleton.1 hm]; exact hc

theorem not_pok {s D : List UInt8} (k : Nat) (h : k < D.length) (hc : ¬ isDig D[k]) : ¬ pok s D := fun hp => hc (hp.2.1 _ (List.getElem_mem h))

theorem rcell_set {w1 : World} {g : Nat} {a b a' b' : Value} (h : RCell w1 g a b) : RCell ((w1.setCell ⟨g, 0, none⟩ a').setCell ⟨g, 1, none⟩ b') g a' b' := by
  obtain ⟨h0, h1, h2, h3, h4⟩ := h
  exact ⟨by simp [go_sem, h0], by simp [go_sem, h1], by simp [go_sem, h2], by simp [go_sem, h3], by simpa using h4⟩
set_option linter.unusedSimpArgs false in
theorem rcell_far {w1 : World} {g r o : Nat} {a b v : Value} (h : RCell w1 g a b) (hne : r ≠ g) : RCell (w1.setCell ⟨r, o, none⟩ v) g a b := by
  obtain ⟨h0, h1, h2, h3, h4⟩ := h
  exact ⟨by simp [go_sem, h0, hne], by simp [go_sem, h1, hne], by simp [go_sem, h2], by simp [go_sem, h3], by simpa using h4⟩
theorem parse_next {w w1 : World} {D : List UInt8} {k : Nat} {d : Int} (hG : RCell w1 (w.heap.size + 1) (.int .i64 (hi (dval (D.take k)))) (.int .u64 (lo (dval (D.take k))))) (hG0 : RCell w1 w.heap.size (.int .i64 0) (.int .u64 0))
    (hB : Below w.heap.size w w1) (hd : dval (D.take (k + 1)) = dval (D.take k) * 10 + d) (hg : ∀ c ∈ D.take (k + 1), isDig c) (hk : k < D.length) :
    (∃ k_1 : Nat, Value.int .i64 ((k : Int) + 1) = .int .i64 k_1 ∧ k_1 ≤ D.length ∧ (∀ c ∈ D.take k_1, isDig c) ∧
      RCell ((w1.setCell ⟨w.heap.size + 1, 0, none⟩ (.int .i64 (hi (dval (D.take k) * 10 + d)))).setCell ⟨w.heap.size + 1, 1, none⟩ (.int .u64 (lo (dval (D.take k) * 10 + d)))) (w.heap.size + 1) (.int .i64 (hi (dval (D.take k_1)))) (.int .u64 (lo (dval (D.take k_1)))) ∧
      RCell ((w1.setCell ⟨w.heap.size + 1, 0, none⟩ (.int .i64 (hi (dval (D.take k) * 10 + d)))).setCell ⟨w.heap.size + 1, 1, none⟩ (.int .u64 (lo (dval (D.take k) * 10 + d)))) w.heap.size (.int .i64 0) (.int .u64 0) ∧
      Below w.heap.size w ((w1.setCell ⟨w.heap.size + 1, 0, none⟩ (.int .i64 (hi (dval (D.take k) * 10 + d)))).setCell ⟨w.heap.size + 1, 1, none⟩ (.int .u64 (lo (dval (D.take k) * 10 + d))))) ∧
    D.length - (intOf (.int .i64 ((k : Int) + 1))).toNat < D.length - (intOf (.int .i64 (k : Int))).toNat := by
  rw [← hd]
  exact ⟨⟨k + 1, rfl, hk, hg, rcell_set hG, rcell_far (rcell_far hG0 (by omega)) (by omega), (hB.setCell (by simp) _).setCell (by simp) _⟩, by simp [intOf]; omega⟩

end Go.Proofs.YtoikfekalgkgoaaDoor
