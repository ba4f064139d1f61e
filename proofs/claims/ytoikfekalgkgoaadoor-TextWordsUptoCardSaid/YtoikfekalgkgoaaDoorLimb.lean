/- The contracts of package limb's and the reference's sums: a pair of words stands for a whole number modulo 2^128. -/
import Derived.Test.YtoikfekalgkgoaaDoorBits
import Derived.WalkSpells
import Derived.WalkLawsBesides
import Derived.Lib.Hide
import Derived.Laws.BitsAllLaws
import Derived.Test.YtoikfekalgkgoaaDoorShelf
namespace Go.Proofs.YtoikfekalgkgoaaDoor
open Go.RowKit Go.Proofs
set_option linter.unusedVariables false

theorem bcell {W w1 : World} (hb : Below W.heap.size W w1) : (∀ b o, b < W.heap.size → w1.cell? ⟨b, o, none⟩ = W.cell? ⟨b, o, none⟩) ∧ (∀ b o, b < W.heap.size → w1.frozen? ⟨b, o, none⟩ = W.frozen? ⟨b, o, none⟩) :=
  ⟨fun b o h => hb.cell (p := ⟨b, o, none⟩) h, fun b o h => hb.frozen (p := ⟨b, o, none⟩) h⟩

theorem bcell3 {W w1 : World} (hb : Below W.heap.size W w1) : (∀ b o, b < W.heap.size → w1.cell? ⟨b, o, none⟩ = W.cell? ⟨b, o, none⟩) ∧ (∀ b o, b < W.heap.size → w1.frozen? ⟨b, o, none⟩ = W.frozen? ⟨b, o, none⟩) ∧ (∀ b, b < W.heap.size → b < w1.heap.size) :=
  ⟨fun b o h => hb.cell (p := ⟨b, o, none⟩) h, fun b o h => hb.frozen (p := ⟨b, o, none⟩) h, fun b h => Nat.lt_of_lt_of_le h hb.size⟩

theorem sz5 {w w1 : World} {a b c d e : Obj} (hb : Below (((((w.alloc a).alloc b).alloc c).alloc d).alloc e).heap.size (((((w.alloc a).alloc b).alloc c).alloc d).alloc e) w1) : w.heap.size < w1.heap.size ∧ w.heap.size + 1 < w1.heap.size ∧ w.heap.size + 1 + 1 < w1.heap.size ∧ w.heap.size + 1 + 1 + 1 < w1.heap.size ∧ w.heap.size + 1 + 1 + 1 + 1 < w1.heap.size := by
  have := hb.size; simp at this; omega
theorem undrew {X w1 : World} (h : Below X.drew.heap.size X.drew w1) : Below X.heap.size X w1 := ⟨h.os, h.tape, h.output, h.size, h.block⟩
/-- a block of two cells that has just been made, behind a call -/
theorem fresh2 {u w1 : World} {a b : Value} {t : TypeId} (hn : Below (u.alloc (.cells #[a, b] t)).heap.size (u.alloc (.cells #[a, b] t)) w1) :
    w1.cell? ⟨u.heap.size, 0, none⟩ = some a ∧ w1.cell? ⟨u.heap.size, 1, none⟩ = some b ∧ w1.frozen? ⟨u.heap.size, 0, none⟩ = false ∧ w1.frozen? ⟨u.heap.size, 1, none⟩ = false ∧ u.heap.size < w1.heap.size := by
  obtain ⟨hc, hf, hl⟩ := bcell3 hn
  have h : u.heap.size < (u.alloc (.cells #[a, b] t)).heap.size := by simp
  exact ⟨(hc _ 0 h).trans (by simp [go_sem]), (hc _ 1 h).trans (by simp [go_sem]), (hf _ 0 h).trans (by simp [go_sem]), (hf _ 1 h).trans (by simp [go_sem]), hl _ h⟩
theorem carry2 {u w1 : World} {g : Nat} {a b : Value} (h : u.cell? ⟨g, 0, none⟩ = some a ∧ u.cell? ⟨g, 1, none⟩ = some b ∧ u.frozen? ⟨g, 0, none⟩ = false ∧ u.frozen? ⟨g, 1, none⟩ = false ∧ g < u.heap.size)
    (hn : Below u.heap.size u w1) : w1.cell? ⟨g, 0, none⟩ = some a ∧ w1.cell? ⟨g, 1, none⟩ = some b ∧ w1.frozen? ⟨g, 0, none⟩ = false ∧ w1.frozen? ⟨g, 1, none⟩ = false ∧ g < w1.heap.size := by
  obtain ⟨hc, hf, hl⟩ := bcell3 hn
  obtain ⟨h0, h1, h2, h3, h4⟩ := h
  exact ⟨(hc _ 0 h4).trans h0, (hc _ 1 h4).trans h1, (hf _ 0 h4).trans h2, (hf _ 1 h4).trans h3, hl _ h4⟩

theorem chaina {A B C : World} {o : Obj} (h : Below A.heap.size A B) (k : Below (B.alloc o).heap.size (B.alloc o) C) : Below A.heap.size A C :=
  (h.alloc h.size _).trans (k.mono (Nat.le_trans h.size (by simp)))
theorem carry2a {u w1 : World} {g : Nat} {a b : Value} {o : Obj} (h : u.cell? ⟨g, 0, none⟩ = some a ∧ u.cell? ⟨g, 1, none⟩ = some b ∧ u.frozen? ⟨g, 0, none⟩ = false ∧ u.frozen? ⟨g, 1, none⟩ = false ∧ g < u.heap.size)
    (hn : Below (u.alloc o).heap.size (u.alloc o) w1) : w1.cell? ⟨g, 0, none⟩ = some a ∧ w1.cell? ⟨g, 1, none⟩ = some b ∧ w1.frozen? ⟨g, 0, none⟩ = false ∧ w1.frozen? ⟨g, 1, none⟩ = false ∧ g < w1.heap.size :=
  carry2 h (chaina (Below.refl _ _) hn)

/-- the result's block of two cells: it may be written -/
def RCell (u : World) (g : Nat) (a b : Value) : Prop := u.cell? ⟨g, 0, none⟩ = some a ∧ u.cell? ⟨g, 1, none⟩ = some b ∧ u.frozen? ⟨g, 0, none⟩ = false ∧ u.frozen? ⟨g, 1, none⟩ = false ∧ g < u.heap.size
theorem rcell_new (w : World) (a b : Value) (t : TypeId) : RCell (w.alloc (.cells #[a, b] t)) w.heap.size a b :=
  ⟨by simp [go_sem], by simp [go_sem], by simp [go_sem], by simp [go_sem], by simp⟩
theorem RCell.mono {u w1 : World} {g : Nat} {a b : Value} (h : RCell u g a b) (hn : Below u.heap.size u w1) : RCell w1 g a b := carry2 h hn

theorem ret_int {k : IntKind} {a b : Int} (h : a = b) : Ending.returned (.int k a) = .returned (.int k b) := by rw [h]
theorem ret_bool {a b : Bool} (h : a = b) : Ending.returned (.bool a) = .returned (.bool b) := by rw [h]

theorem bl1 {w w1 : World} {a : Obj} (hb : Below (w.alloc a).heap.size (w.alloc a) w1) : Below w.heap.size w w1 :=
  ((Below.refl _ _).alloc (Nat.le_refl _) _).trans (hb.mono (by simp))
theorem bl2 {w w1 : World} {a b : Obj} (hb : Below ((w.alloc a).alloc b).heap.size ((w.alloc a).alloc b) w1) : Below w.heap.size w w1 := bl1 ((Below.alloc (Below.refl _ _) (Nat.le_refl _) _).trans (hb.mono (by simp)))
theorem bl3 {w w1 : World} {a b c : Obj} (hb : Below (((w.alloc a).alloc b).alloc c).heap.size (((w.alloc a).alloc b).alloc c) w1) : Below w.heap.size w w1 := bl2 ((Below.alloc (Below.refl _ _) (Nat.le_refl _) _).trans (hb.mono (by simp)))
theorem bl4 {w w1 : World} {a b c d : Obj} (hb : Below ((((w.alloc a).alloc b).alloc c).alloc d).heap.size ((((w.alloc a).alloc b).alloc c).alloc d) w1) : Below w.heap.size w w1 := bl3 ((Below.alloc (Below.refl _ _) (Nat.le_refl _) _).trans (hb.mono (by simp)))
theorem bl5 {w w1 : World} {a b c d e : Obj} (hb : Below (((((w.alloc a).alloc b).alloc c).alloc d).alloc e).heap.size (((((w.alloc a).alloc b).alloc c).alloc d).alloc e) w1) : Below w.heap.size w w1 := bl4 ((Below.alloc (Below.refl _ _) (Nat.le_refl _) _).trans (hb.mono (by simp)))

/-! ### package limb -/

theorem mul_hi_walk (x y : Int) : wrap64 (IntKind.u64.wrap (lo x * lo y / 18446744073709551616 + IntKind.u64.wrap (IntKind.u64.wrap (IntKind.u64.wrap (hi x) * lo y) + IntKind.u64.wrap (lo x * IntKind.u64.wrap (hi y))))) = hi (x * y) := by
  rw [← hi_of_rhi (x * y), rhi_mul, rhi_of_hi, rhi_of_hi]
  simp only [IntKind.wrap_u64]
  congr 1
  omega

theorem sz1 {w w1 : World} {a : Obj} (hb : Below (w.alloc a).heap.size (w.alloc a) w1) : w.heap.size < w1.heap.size := by
  have := hb.size; simp at this; omega
theorem sz2 {w w1 : World} {a b : Obj} (hb : Below ((w.alloc a).alloc b).heap.size ((w.alloc a).alloc b) w1) : w.heap.size < w1.heap.size ∧ w.heap.size + 1 < w1.heap.size := by
  have := hb.size; simp at this; omega
theorem sz3 {w w1 : World} {a b c : Obj} (hb : Below (((w.alloc a).alloc b).alloc c).heap.size (((w.alloc a).alloc b).alloc c) w1) : w.heap.size < w1.heap.size ∧ w.heap.size + 1 < w1.heap.size ∧ w.heap.size + 1 + 1 < w1.heap.size := by
  have := hb.size; simp at this; omega
theorem sz4 {w w1 : World} {a b c d : Obj} (hb : Below ((((w.alloc a).alloc b).alloc c).alloc d).heap.size ((((w.alloc a).alloc b).alloc c).alloc d) w1) : w.heap.size < w1.heap.size ∧ w.heap.size + 1 < w1.heap.size ∧ w.heap.size + 1 + 1 < w1.heap.size ∧ w.heap.size + 1 + 1 + 1 < w1.heap.size := by
  have := hb.size; simp at this; omega
/-! ### regions that draw their order: what stays, whatever has been made since the world W -/
theorem keep0 (W : World) : Below W.heap.size W W.drew ∧ ∀ b o, b < W.heap.size → W.drew.cell? ⟨b, o, none⟩ = W.cell? ⟨b, o, none⟩ := ⟨(Below.refl _ _).drew, fun _ _ _ => rfl⟩
theorem keep_call {W u w1 : World} (h : Below W.heap.size W u ∧ ∀ b o, b < W.heap.size → u.cell? ⟨b, o, none⟩ = W.cell? ⟨b, o, none⟩) (hn : Below u.heap.size u w1) :
    Below W.heap.size W w1 ∧ ∀ b o, b < W.heap.size → w1.cell? ⟨b, o, none⟩ = W.cell? ⟨b, o, none⟩ :=
  have k : Below W.heap.size W w1 := h.1.trans (hn.mono h.1.size)
  ⟨k, fun b o hb => k.cell (p := ⟨b, o, none⟩) hb⟩
theorem keep_sz {W u w1 : World} (h : Below W.heap.size W u ∧ ∀ b o, b < W.heap.size → u.cell? ⟨b, o, none⟩ = W.cell? ⟨b, o, none⟩) (hn : Below u.heap.size u w1) : W.heap.size ≤ w1.heap.size :=
  Nat.le_trans h.1.size hn.size
theorem keep_below {W u : World} (h : Below W.heap.size W u ∧ ∀ b o, b < W.heap.size → u.cell? ⟨b, o, none⟩ = W.cell? ⟨b, o, none⟩) : Below W.heap.size W u := h.1
theorem keep_alloc {W u : World} {o : Obj} (h : Below W.heap.size W u ∧ ∀ b o, b < W.heap.size → u.cell? ⟨b, o, none⟩ = W.cell? ⟨b, o, none⟩) :
    Below W.heap.size W (u.alloc o) ∧ ∀ b o', b < W.heap.size → (u.alloc o).cell? ⟨b, o', none⟩ = W.cell? ⟨b, o', none⟩ :=
  have k : Below W.heap.size W (u.alloc o) := h.1.alloc h.1.size _
  ⟨k, fun b o hb => k.cell (p := ⟨b, o, none⟩) hb⟩
theorem keep_re {W u : World} {o1 o2 : Obj} (h : Below W.heap.size W (u.alloc o1) ∧ ∀ b o, b < W.heap.size → (u.alloc o1).cell? ⟨b, o, none⟩ = W.cell? ⟨b, o, none⟩) (hz : W.heap.size ≤ u.heap.size) :
    Below W.heap.size W (u.alloc o2) ∧ ∀ b o, b < W.heap.size → (u.alloc o2).cell? ⟨b, o, none⟩ = W.cell? ⟨b, o, none⟩ :=
  have k0 : Below W.heap.size W u := ⟨h.1.os, h.1.tape, h.1.output, hz, fun b hb => (Below.heap_alloc u o1 b (by omega)).symm.trans (h.1.block b hb)⟩
  have k : Below W.heap.size W (u.alloc o2) := k0.alloc hz _
  ⟨k, fun b o hb => k.cell (p := ⟨b, o, none⟩) hb⟩
theorem keep_set {W u : World} {p : Addr} {v : Value} (h : Below W.heap.size W u ∧ ∀ b o, b < W.heap.size → u.cell? ⟨b, o, none⟩ = W.cell? ⟨b, o, none⟩) (hp : W.heap.size ≤ p.block) :
    Below W.heap.size W (u.setCell p v) ∧ ∀ b o', b < W.heap.size → (u.setCell p v).cell? ⟨b, o', none⟩ = W.cell? ⟨b, o', none⟩ :=
  have k : Below W.heap.size W (u.setCell p v) := h.1.setCell hp _
  ⟨k, fun b o hb => k.cell (p := ⟨b, o, none⟩) hb⟩
/-! ### the same, but for one block r that the region's last store writes -/
theorem kp0 {w W : World} {r : Nat} (h : Below w.heap.size w W) : (∀ b o, b < W.heap.size → b ≠ r → W.drew.cell? ⟨b, o, none⟩ = W.cell? ⟨b, o, none⟩) ∧ W.heap.size ≤ W.drew.heap.size ∧ Below w.heap.size w W.drew :=
  ⟨fun _ _ _ _ => rfl, Nat.le_refl _, h.drew⟩
theorem kp_of {w W u u' : World} {r : Nat} (h : (∀ b o, b < W.heap.size → b ≠ r → u.cell? ⟨b, o, none⟩ = W.cell? ⟨b, o, none⟩) ∧ W.heap.size ≤ u.heap.size ∧ Below w.heap.size w u)
    (hc : ∀ b, b < W.heap.size → b ≠ r → u'.heap[b]? = u.heap[b]?) (hs : W.heap.size ≤ u'.heap.size) (hB : Below w.heap.size w u') :
    (∀ b o, b < W.heap.size → b ≠ r → u'.cell? ⟨b, o, none⟩ = W.cell? ⟨b, o, none⟩) ∧ W.heap.size ≤ u'.heap.size ∧ Below w.heap.size w u' :=
  ⟨fun b o hb hr => (World.cell?_of_block (hc b hb hr)).trans (h.1 b o hb hr), hs, hB⟩
theorem kp_call {w W u w1 : World} {r : Nat} (h : (∀ b o, b < W.heap.size → b ≠ r → u.cell? ⟨b, o, none⟩ = W.cell? ⟨b, o, none⟩) ∧ W.heap.size ≤ u.heap.size ∧ Below w.heap.size w u) (hn : Below u.heap.size u w1) :
    (∀ b o, b < W.heap.size → b ≠ r → w1.cell? ⟨b, o, none⟩ = W.cell? ⟨b, o, none⟩) ∧ W.heap.size ≤ w1.heap.size ∧ Below w.heap.size w w1 :=
  kp_of h (fun b hb _ => hn.block b (Nat.lt_of_lt_of_le hb h.2.1)) (Nat.le_trans h.2.1 hn.size) (h.2.2.trans (hn.mono h.2.2.size))
theorem kp_sz {w W u w1 : World} {r : Nat} (h : (∀ b o, b < W.heap.size → b ≠ r → u.cell? ⟨b, o, none⟩ = W.cell? ⟨b, o, none⟩) ∧ W.heap.size ≤ u.heap.size ∧ Below w.heap.size w u) (hn : Below u.heap.size u w1) : W.heap.size ≤ w1.heap.size :=
  Nat.le_trans h.2.1 hn.size
theorem kp_szw {w W : World} (h : Below w.heap.size w W) : w.heap.size ≤ W.heap.size := h.size
theorem kp_below {w W u : World} {r : Nat} (h : (∀ b o, b < W.heap.size → b ≠ r → u.cell? ⟨b, o, none⟩ = W.cell? ⟨b, o, none⟩) ∧ W.heap.size ≤ u.heap.size ∧ Below w.heap.size w u) : Below w.heap.size w u := h.2.2
theorem kp_alloc {w W u : World} {r : Nat} {o : Obj} (h : (∀ b o, b < W.heap.size → b ≠ r → u.cell? ⟨b, o, none⟩ = W.cell? ⟨b, o, none⟩) ∧ W.heap.size ≤ u.heap.size ∧ Below w.heap.size w u) :
    (∀ b o', b < W.heap.size → b ≠ r → (u.alloc o).cell? ⟨b, o', none⟩ = W.cell? ⟨b, o', none⟩) ∧ W.heap.size ≤ (u.alloc o).heap.size ∧ Below w.heap.size w (u.alloc o) :=
  kp_of h (fun b hb _ => Below.heap_alloc u o b (Nat.lt_of_lt_of_le hb h.2.1)) (Nat.le_trans h.2.1 (by simp)) (h.2.2.alloc h.2.2.size _)
theorem kp_re {w W u : World} {r : Nat} {o1 o2 : Obj} (h : (∀ b o, b < W.heap.size → b ≠ r → (u.alloc o1).cell? ⟨b, o, none⟩ = W.cell? ⟨b, o, none⟩) ∧ W.heap.size ≤ (u.alloc o1).heap.size ∧ Below w.heap.size w (u.alloc o1)) (hz : W.heap.size ≤ u.heap.size) (hw : w.heap.size ≤ W.heap.size) :
    (∀ b o', b < W.heap.size → b ≠ r → (u.alloc o2).cell? ⟨b, o', none⟩ = W.cell? ⟨b, o', none⟩) ∧ W.heap.size ≤ (u.alloc o2).heap.size ∧ Below w.heap.size w (u.alloc o2) :=
  kp_of h (fun b hb _ => (Below.heap_alloc u o2 b (by omega)).trans (Below.heap_alloc u o1 b (by omega)).symm) (Nat.le_trans hz (by simp))
    ((show Below w.heap.size w u from ⟨h.2.2.os, h.2.2.tape, h.2.2.output, by omega, fun b hb => (Below.heap_alloc u o1 b (by omega)).symm.trans (h.2.2.block b hb)⟩).alloc (by omega) _)
theorem kp_set {w W u : World} {r pb po : Nat} {v : Value} (h : (∀ b o, b < W.heap.size → b ≠ r → u.cell? ⟨b, o, none⟩ = W.cell? ⟨b, o, none⟩) ∧ W.heap.size ≤ u.heap.size ∧ Below w.heap.size w u) (hp : pb = r ∨ W.heap.size ≤ pb) (hw : w.heap.size ≤ pb) :
    (∀ b o', b < W.heap.size → b ≠ r → (u.setCell ⟨pb, po, none⟩ v).cell? ⟨b, o', none⟩ = W.cell? ⟨b, o', none⟩) ∧ W.heap.size ≤ (u.setCell ⟨pb, po, none⟩ v).heap.size ∧ Below w.heap.size w (u.setCell ⟨pb, po, none⟩ v) :=
  kp_of h (fun b hb hr => Below.heap_setCell _ _ _ _ (by rcases hp with hp | hp; · exact fun e => hr (e.trans hp)
                                                         · exact fun e => absurd hb (by rw [e]; exact Nat.not_lt.2 hp))) (by simpa using h.2.1) (h.2.2.setCell hw _)
theorem chain {A B C : World} (h : Below A.heap.size A B) (k : Below B.heap.size B C) : Below A.heap.size A C := h.trans (k.mono h.size)

end Go.Proofs.YtoikfekalgkgoaaDoor
