/- Blocks of two cells: a store into one, and beside one. -/
import Derived.Test.YtdcllcbhepajeaaDoorLimb
namespace Go.Proofs.YtdcllcbhepajeaaDoor
open Go.RowKit Go.Proofs
theorem RCell.put2 {w1 : World} {g : Nat} {a b a' b' : Value} (h : RCell w1 g a b) : RCell ((w1.setCell ⟨g, 0, none⟩ a').setCell ⟨g, 1, none⟩ b') g a' b' := by
  obtain ⟨h0, h1, h2, h3, h4⟩ := h
  exact ⟨by simp [go_sem, h0], by simp [go_sem, h1], by simp [go_sem, h2], by simp [go_sem, h3], by simpa using h4⟩
set_option linter.unusedSimpArgs false in
theorem RCell.far {w1 : World} {g r o : Nat} {a b v : Value} (h : RCell w1 g a b) (hne : r ≠ g) : RCell (w1.setCell ⟨r, o, none⟩ v) g a b := by
  obtain ⟨h0, h1, h2, h3, h4⟩ := h
  exact ⟨by simp [go_sem, h0, hne], by simp [go_sem, h1, hne], by simp [go_sem, h2], by simp [go_sem, h3], by simpa using h4⟩
/-- two blocks of two cells that have just been made, behind a call -/
theorem fresh22 {u w1 : World} {a b c d : Value} {t t' : TypeId} (hn : Below ((u.alloc (.cells #[a, b] t)).alloc (.cells #[c, d] t')).heap.size ((u.alloc (.cells #[a, b] t)).alloc (.cells #[c, d] t')) w1) :
    (w1.cell? ⟨u.heap.size, 0, none⟩ = some a ∧ w1.cell? ⟨u.heap.size, 1, none⟩ = some b ∧ w1.frozen? ⟨u.heap.size, 0, none⟩ = false ∧ w1.frozen? ⟨u.heap.size, 1, none⟩ = false ∧ u.heap.size < w1.heap.size) ∧
    (w1.cell? ⟨u.heap.size + 1, 0, none⟩ = some c ∧ w1.cell? ⟨u.heap.size + 1, 1, none⟩ = some d ∧ w1.frozen? ⟨u.heap.size + 1, 0, none⟩ = false ∧ w1.frozen? ⟨u.heap.size + 1, 1, none⟩ = false ∧ u.heap.size + 1 < w1.heap.size) := by
  have h2 := fresh2 hn
  simp only [World.size_alloc] at h2
  exact ⟨carry2 (rcell_new u a b t) (chain ((Below.refl _ _).alloc (Nat.le_refl _) _) hn), h2⟩

theorem keep_refl (W : World) : Below W.heap.size W W ∧ ∀ b o, b < W.heap.size → W.cell? ⟨b, o, none⟩ = W.cell? ⟨b, o, none⟩ := ⟨Below.refl _ _, fun _ _ _ => rfl⟩
theorem keep_drew {W u : World} (h : Below W.heap.size W u ∧ ∀ b o, b < W.heap.size → u.cell? ⟨b, o, none⟩ = W.cell? ⟨b, o, none⟩) :
    Below W.heap.size W u.drew ∧ ∀ b o, b < W.heap.size → u.drew.cell? ⟨b, o, none⟩ = W.cell? ⟨b, o, none⟩ := ⟨h.1.drew, h.2⟩
theorem keep_re2 {W u : World} {o1 o2 o3 : Obj} (h : Below W.heap.size W ((u.alloc o1).alloc o2) ∧ ∀ b o, b < W.heap.size → ((u.alloc o1).alloc o2).cell? ⟨b, o, none⟩ = W.cell? ⟨b, o, none⟩) (hz : W.heap.size ≤ u.heap.size) :
    Below W.heap.size W ((u.alloc o3).alloc o2) ∧ ∀ b o, b < W.heap.size → ((u.alloc o3).alloc o2).cell? ⟨b, o, none⟩ = W.cell? ⟨b, o, none⟩ :=
  have k0 : Below W.heap.size W u := ⟨h.1.os, h.1.tape, h.1.output, hz, fun b hb => ((Below.heap_alloc u o1 b (by omega)).symm.trans (Below.heap_alloc (u.alloc o1) o2 b (by simp; omega)).symm).trans (h.1.block b hb)⟩
  have k : Below W.heap.size W ((u.alloc o3).alloc o2) := (k0.alloc hz _).alloc (by simp; omega) _
  ⟨k, fun b o hb => k.cell (p := ⟨b, o, none⟩) hb⟩

end Go.Proofs.YtdcllcbhepajeaaDoor
