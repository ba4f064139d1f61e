/- The contract of package orient's moved. (Printed by mkmoved.py.) -/
import Derived.Test.YteieeclflfbinaaGeo2
import Derived.Test.YteieeclflfbinaaKin
import Derived.Test.YteieeclflfbinaaSos3
import Derived.Test.YteieeclflfbinaaCells
import Derived.OwnWalk
namespace Go.Proofs.Yteieeclflfbinaa
open Go.RowKit Go.Proofs
set_option linter.unusedVariables false

/-- a block of n ints that may be written -/
def Ints (u : World) (g n : Nat) (M : Nat → Int) : Prop := g < u.heap.size ∧ (∀ o, o < n → u.cell? ⟨g, o, none⟩ = some (.int .i64 (M o))) ∧ ∀ o, o < n → u.frozen? ⟨g, o, none⟩ = false
theorem Ints.mono {u w1 : World} {g n : Nat} {M : Nat → Int} (h : Ints u g n M) (hn : Below u.heap.size u w1) : Ints w1 g n M := by
  obtain ⟨hc, hf, hl⟩ := bcell3 hn
  exact ⟨hl _ h.1, fun o ho => (hc _ _ h.1).trans (h.2.1 o ho), fun o ho => (hf _ _ h.1).trans (h.2.2 o ho)⟩
theorem Ints.al {u : World} {g n : Nat} {M : Nat → Int} (h : Ints u g n M) (x : Obj) : Ints (u.alloc x) g n M := h.mono ((Below.refl _ _).alloc (Nat.le_refl _) _)
theorem Ints.set {u : World} {g n : Nat} {M : Nat → Int} (h : Ints u g n M) (o : Nat) (v : Int) (ho : o < n) : Ints (u.setCell ⟨g, o, none⟩ (.int .i64 v)) g n (So.upd M o v) := by
  obtain ⟨h0, h1, h2⟩ := h
  refine ⟨by simpa using h0, fun i hi => ?_, fun i hi => by simp [go_sem, h2 i hi]⟩
  by_cases e : i = o
  · subst e; simp [go_sem, So.upd, h1 i hi]
  · simp [go_sem, So.upd, h1 i hi, e]
theorem Ints.far {u : World} {g n r o : Nat} {M : Nat → Int} {v : Value} (h : Ints u g n M) (hne : r ≠ g) : Ints (u.setCell ⟨r, o, none⟩ v) g n M := by
  obtain ⟨h0, h1, h2⟩ := h
  refine ⟨by simpa using h0, fun i hi => ?_, fun i hi => by simp [go_sem, h2 i hi]⟩
  rw [World.cell?_of_block (Below.heap_setCell _ _ _ _ (Ne.symm hne))]
  exact h1 i hi
theorem i64_and1 (n : Nat) (h : n < 128) : bits .and .i64 (n : Int) 1 = ((n % 2 : Nat) : Int) := by
  show IntKind.i64.wrap ((BitVec.ofInt 64 (n : Int) &&& BitVec.ofInt 64 1).toNat : Int) = _
  have e : (BitVec.ofInt 64 (n : Int) &&& BitVec.ofInt 64 1).toNat = n % 2 := by
    rw [BitVec.toNat_and, show (BitVec.ofInt 64 (n : Int)).toNat = n by simp; omega, show (BitVec.ofInt 64 1).toNat = 1 by decide, Nat.and_one_is_mod]
  rw [e, IntKind.wrap_i64]; omega
theorem ixP0 (a0 a1 a2 b0 b1 b2 c0 c1 c2 d0 d1 d2 : Int) (W : World) : (Instr.index 74 (.agg #[.int .i64 a0, .int .i64 a1, .int .i64 a2, .int .i64 b0, .int .i64 b1, .int .i64 b2, .int .i64 c0, .int .i64 c1, .int .i64 c2, .int .i64 d0, .int .i64 d1, .int .i64 d2]) (.int .i64 0)).run Try.prog W = .ok (.agg #[.int .i64 a0, .int .i64 a1, .int .i64 a2]) W := by kernel_rfl
theorem ixP1 (a0 a1 a2 b0 b1 b2 c0 c1 c2 d0 d1 d2 : Int) (W : World) : (Instr.index 74 (.agg #[.int .i64 a0, .int .i64 a1, .int .i64 a2, .int .i64 b0, .int .i64 b1, .int .i64 b2, .int .i64 c0, .int .i64 c1, .int .i64 c2, .int .i64 d0, .int .i64 d1, .int .i64 d2]) (.int .i64 1)).run Try.prog W = .ok (.agg #[.int .i64 b0, .int .i64 b1, .int .i64 b2]) W := by kernel_rfl
theorem ixP2 (a0 a1 a2 b0 b1 b2 c0 c1 c2 d0 d1 d2 : Int) (W : World) : (Instr.index 74 (.agg #[.int .i64 a0, .int .i64 a1, .int .i64 a2, .int .i64 b0, .int .i64 b1, .int .i64 b2, .int .i64 c0, .int .i64 c1, .int .i64 c2, .int .i64 d0, .int .i64 d1, .int .i64 d2]) (.int .i64 2)).run Try.prog W = .ok (.agg #[.int .i64 c0, .int .i64 c1, .int .i64 c2]) W := by kernel_rfl
theorem ixP3 (a0 a1 a2 b0 b1 b2 c0 c1 c2 d0 d1 d2 : Int) (W : World) : (Instr.index 74 (.agg #[.int .i64 a0, .int .i64 a1, .int .i64 a2, .int .i64 b0, .int .i64 b1, .int .i64 b2, .int .i64 c0, .int .i64 c1, .int .i64 c2, .int .i64 d0, .int .i64 d1, .int .i64 d2]) (.int .i64 3)).run Try.prog W = .ok (.agg #[.int .i64 d0, .int .i64 d1, .int .i64 d2]) W := by kernel_rfl

/-- what moved tells of a mask -/
def MvE (m : Nat) (R : Nat → So.Rw) (e : Ending) : Prop :=
  (So.stt m R 12 = none ∧ e = .returned (.tuple #[.int .i64 0, .bool false])) ∨ ∃ S h, So.stt m R 12 = some (S, h) ∧ e = .returned (.tuple #[.int .i64 (sg (So.at4 S)), .bool true])
/-- the world of the first loop -/
def Mv1 (w wr : World) (M H : Nat → Int) : Prop := Ints wr (w.heap.size + 1) 16 M ∧ Ints wr (w.heap.size + 1 + 1) 3 H ∧ Below w.heap.size w wr

theorem mv_row {w wr : World} {M H : Nat → Int} {x : Obj} (h : Mv1 w wr M H) (o0 o1 o2 o3 : Nat) (v0 v1 v2 v3 : Int) (l0 : o0 < 16) (l1 : o1 < 16) (l2 : o2 < 16) (l3 : o3 < 16) :
    Mv1 w (((((wr.setCell ⟨w.heap.size + 1, o0, none⟩ (.int .i64 v0)).setCell ⟨w.heap.size + 1, o1, none⟩ (.int .i64 v1)).setCell ⟨w.heap.size + 1, o2, none⟩ (.int .i64 v2)).setCell ⟨w.heap.size + 1, o3, none⟩ (.int .i64 v3)).alloc x)
      (So.upd (So.upd (So.upd (So.upd M o0 v0) o1 v1) o2 v2) o3 v3) H := by
  obtain ⟨h1, h2, h3⟩ := h
  have hb := (((h3.setCell (p := ⟨w.heap.size + 1, o0, none⟩) (by simp) (.int .i64 v0)).setCell (p := ⟨w.heap.size + 1, o1, none⟩) (by simp) (.int .i64 v1)).setCell (p := ⟨w.heap.size + 1, o2, none⟩) (by simp) (.int .i64 v2)).setCell (p := ⟨w.heap.size + 1, o3, none⟩) (by simp) (.int .i64 v3)
  exact ⟨((((h1.set o0 v0 l0).set o1 v1 l1).set o2 v2 l2).set o3 v3 l3).al _, ((((h2.far (by omega)).far (by omega)).far (by omega)).far (by omega)).al _, hb.alloc hb.size _⟩
theorem mv_bit {w wr : World} {M H : Nat → Int} (h : Mv1 w wr M H) (o0 o1 o2 o3 o4 k : Nat) (l0 : o0 < 16) (l1 : o1 < 16) (l2 : o2 < 16) (l3 : o3 < 16) (l4 : o4 < 16) (lk : k < 3) :
    Mv1 w ((((((wr.setCell ⟨w.heap.size + 1, o0, none⟩ (.int .i64 0)).setCell ⟨w.heap.size + 1, o1, none⟩ (.int .i64 0)).setCell ⟨w.heap.size + 1, o2, none⟩ (.int .i64 0)).setCell ⟨w.heap.size + 1, o3, none⟩ (.int .i64 0)).setCell ⟨w.heap.size + 1, o4, none⟩ (.int .i64 1)).setCell ⟨w.heap.size + 1 + 1, k, none⟩ (.int .i64 1))
      (So.upd (So.upd (So.upd (So.upd (So.upd M o0 0) o1 0) o2 0) o3 0) o4 1) (So.upd H k 1) := by
  obtain ⟨h1, h2, h3⟩ := h
  exact ⟨(((((h1.set o0 0 l0).set o1 0 l1).set o2 0 l2).set o3 0 l3).set o4 1 l4).far (by omega), ((((((h2.far (by omega)).far (by omega)).far (by omega)).far (by omega)).far (by omega)).set k 1 lk),
    (((((h3.setCell (by simp) _).setCell (by simp) _).setCell (by simp) _).setCell (by simp) _).setCell (by simp) _).setCell (by simp; omega) _⟩

theorem mul_wd {x y : Int} (hx : Wd x) (hy : Wd y) : -4611686018427387904 ≤ x * y ∧ x * y ≤ 4611686018427387904 := by
  have h : (x * y).natAbs ≤ 2147483648 * 2147483648 := by
    rw [Int.natAbs_mul]; exact Nat.mul_le_mul (by unfold Wd at hx; omega) (by unfold Wd at hy; omega)
  omega
theorem mul_wd2 {x y : Int} (hx : Wd x) (h1 : -9223372036854775808 ≤ y) (h2 : y ≤ 9223372036854775808) : -19807040628566084398385987584 ≤ x * y ∧ x * y ≤ 19807040628566084398385987584 := by
  have h : (x * y).natAbs ≤ 2147483648 * 9223372036854775808 := by
    rw [Int.natAbs_mul]; exact Nat.mul_le_mul (by unfold Wd at hx; omega) (by omega)
  omega
theorem d3_small {a b c : So.Rw} (ha : Wd a.x ∧ Wd a.y ∧ Wd a.z) (hb : Wd b.x ∧ Wd b.y ∧ Wd b.z) (hc : Wd c.x ∧ Wd c.y ∧ Wd c.z) : -59421121885698253195157962752 ≤ So.d3 a b c ∧ So.d3 a b c ≤ 59421121885698253195157962752 := by
  obtain ⟨a1, a2, a3⟩ := ha
  obtain ⟨b1, b2, b3⟩ := hb
  obtain ⟨c1, c2, c3⟩ := hc
  have p1 := mul_wd b2 c3; have p2 := mul_wd b3 c2; have p3 := mul_wd b3 c1; have p4 := mul_wd b1 c3; have p5 := mul_wd b1 c2; have p6 := mul_wd b2 c1
  have q1 := mul_wd2 a1 (y := b.y * c.z - b.z * c.y) (by omega) (by omega)
  have q2 := mul_wd2 a2 (y := b.z * c.x - b.x * c.z) (by omega) (by omega)
  have q3 := mul_wd2 a3 (y := b.x * c.y - b.y * c.x) (by omega) (by omega)
  unfold So.d3
  omega
theorem at4_small {S : Nat → So.Rw} (h : ∀ i, i < 4 → Wd (S i).x ∧ Wd (S i).y ∧ Wd (S i).z) (hw : ∀ i, i < 4 → (S i).w = 0 ∨ (S i).w = 1) : sv (So.at4 S) = So.at4 S := by
  have e1 := d3_small (h 0 (by decide)) (h 1 (by decide)) (h 2 (by decide))
  have e2 := d3_small (h 0 (by decide)) (h 1 (by decide)) (h 3 (by decide))
  have e3 := d3_small (h 0 (by decide)) (h 2 (by decide)) (h 3 (by decide))
  have e4 := d3_small (h 1 (by decide)) (h 2 (by decide)) (h 3 (by decide))
  have w0 := hw 0 (by decide); have w1 := hw 1 (by decide); have w2 := hw 2 (by decide); have w3 := hw 3 (by decide)
  have m : ∀ w d : Int, (w = 0 ∨ w = 1) → -59421121885698253195157962752 ≤ d → d ≤ 59421121885698253195157962752 → -59421121885698253195157962752 ≤ w * d ∧ w * d ≤ 59421121885698253195157962752 := by
    intro w d hw h1 h2
    rcases hw with rfl | rfl
    · rw [Int.zero_mul]; omega
    · rw [Int.one_mul]; omega
  have f1 := m _ _ w3 e1.1 e1.2
  have f2 := m _ _ w2 e2.1 e2.2
  have f3 := m _ _ w1 e3.1 e3.2
  have f4 := m _ _ w0 e4.1 e4.2
  refine sv_small ?_ ?_ <;> (unfold So.at4 So.D4; omega)

theorem arrayAt3 (b o c : Nat) (W : World) : (Instr.arrayAt 54 (.slice (some ⟨b, o, none⟩) 3 c)).run Try.prog W = .ok (.pointer (some ⟨b, o, none⟩)) W := by kernel_rfl
theorem Try.infoI3 : (Try.prog.info? 54).map (fun i => (i.zero, i.size, i.bytes)) = some (some (.agg #[.int .i64 0, .int .i64 0, .int .i64 0]), 3, 24) := by kernel_rfl
theorem below_grown {A u u' : World} {v : Value} {e : TypeId} {n k : Nat} {xs : List Value} (hB : Below A.heap.size A u) (hown : u.ownsRow A.heap.size e n v k xs) (h : u.grownBy u' v.ownBlock) : Below A.heap.size A u' := by
  refine ⟨h.os.trans hB.os, h.tape.trans hB.tape, h.output.trans hB.output, Nat.le_trans hB.size h.size, fun b hb => ?_⟩
  rw [h.block b (Nat.lt_of_lt_of_le hb hB.size) fun e => ?_]
  · exact hB.block b hb
  · rcases hown.2 with ⟨rfl, _⟩ | ⟨g, cap, cur, rfl, hg, _⟩
    · simp [Value.ownBlock] at e
    · simp only [Value.ownBlock, Option.some.injEq] at e
      omega
theorem nine_row {u : World} {base : Nat} {e : TypeId} {v : Value} {x0 x1 x2 x3 x4 x5 x6 x7 x8 : Int} (h : u.ownsRow base e 3 v 3 [.int .i64 x0, .int .i64 x1, .int .i64 x2, .int .i64 x3, .int .i64 x4, .int .i64 x5, .int .i64 x6, .int .i64 x7, .int .i64 x8]) :
    ∃ g cap, v = .slice (some ⟨g, 0, none⟩) 3 cap ∧ base ≤ g ∧ g < u.heap.size ∧ u.cell? ⟨g, 0, none⟩ = some (.int .i64 x0) ∧ u.cell? ⟨g, 1, none⟩ = some (.int .i64 x1) ∧ u.cell? ⟨g, 2, none⟩ = some (.int .i64 x2) ∧ u.cell? ⟨g, 3, none⟩ = some (.int .i64 x3) ∧ u.cell? ⟨g, 4, none⟩ = some (.int .i64 x4) ∧ u.cell? ⟨g, 5, none⟩ = some (.int .i64 x5) ∧ u.cell? ⟨g, 6, none⟩ = some (.int .i64 x6) ∧ u.cell? ⟨g, 7, none⟩ = some (.int .i64 x7) ∧ u.cell? ⟨g, 8, none⟩ = some (.int .i64 x8) := by
  rcases h.2 with ⟨_, h0⟩ | ⟨g, cap, cur, hv, hg, hh, _⟩
  · omega
  · have hc := h.cells (g := g) (by rw [hv]; rfl)
    exact ⟨g, cap, hv, hg, (Array.getElem?_eq_some_iff.1 hh).1, by have := hc 0 _ rfl; simpa [Addr.add] using this, by have := hc 1 _ rfl; simpa [Addr.add] using this, by have := hc 2 _ rfl; simpa [Addr.add] using this, by have := hc 3 _ rfl; simpa [Addr.add] using this, by have := hc 4 _ rfl; simpa [Addr.add] using this, by have := hc 5 _ rfl; simpa [Addr.add] using this, by have := hc 6 _ rfl; simpa [Addr.add] using this, by have := hc 7 _ rfl; simpa [Addr.add] using this, by have := hc 8 _ rfl; simpa [Addr.add] using this⟩
/-- three cells in a block of their own -/
theorem three_new (u : World) (x y z : Int) (t : TypeId) : ∀ j v, ([.int .i64 x, .int .i64 y, .int .i64 z] : List Value)[j]? = some v → (u.alloc (.cells #[.int .i64 x, .int .i64 y, .int .i64 z] t)).cell? ((⟨u.heap.size, 0, none⟩ : Addr).add j) = some v := by
  intro j v hj
  match j, hj with
  | 0, hj => simp at hj; subst hj; simp [Addr.add]
  | 1, hj => simp at hj; subst hj; simp [Addr.add]
  | 2, hj => simp at hj; subst hj; simp [Addr.add]
/-- the rows that are not the r-th, of the first s -/
def vals (M : Nat → Int) (r s : Nat) : List Value := ((List.range s).filter (fun i => i != r)).flatMap fun i => [.int .i64 (M (4 * i)), .int .i64 (M (4 * i + 1)), .int .i64 (M (4 * i + 2))]
def vcnt (r s : Nat) : Nat := ((List.range s).filter (fun i => i != r)).length

set_option maxHeartbeats 4000000 in
set_option maxRecDepth 20000 in
theorem moved_any (a0 a1 a2 b0 b1 b2 c0 c1 c2 d0 d1 d2 : Int) (m : Nat) (hm : m < 128) (hco : ∀ i, i < 4 → Wd (((So.r4 ⟨a0, a1, a2, 1⟩ ⟨b0, b1, b2, 1⟩ ⟨c0, c1, c2, 1⟩ ⟨d0, d1, d2, 1⟩) i).x) ∧ Wd (((So.r4 ⟨a0, a1, a2, 1⟩ ⟨b0, b1, b2, 1⟩ ⟨c0, c1, c2, 1⟩ ⟨d0, d1, d2, 1⟩) i).y) ∧ Wd (((So.r4 ⟨a0, a1, a2, 1⟩ ⟨b0, b1, b2, 1⟩ ⟨c0, c1, c2, 1⟩ ⟨d0, d1, d2, 1⟩) i).z)) (w : World) :
    Calls Try.prog 54 #[.agg #[.int .i64 a0, .int .i64 a1, .int .i64 a2, .int .i64 b0, .int .i64 b1, .int .i64 b2, .int .i64 c0, .int .i64 c1, .int .i64 c2, .int .i64 d0, .int .i64 d1, .int .i64 d2], .int .i64 m] w fun e w' => MvE m (So.r4 ⟨a0, a1, a2, 1⟩ ⟨b0, b1, b2, 1⟩ ⟨c0, c1, c2, 1⟩ ⟨d0, d1, d2, 1⟩) e ∧ Below w.heap.size w w' := by
  have q0 : (0 : Int) ≤ m := by omega
  have x0 := ixP0 a0 a1 a2 b0 b1 b2 c0 c1 c2 d0 d1 d2
  have x1 := ixP1 a0 a1 a2 b0 b1 b2 c0 c1 c2 d0 d1 d2
  have x2 := ixP2 a0 a1 a2 b0 b1 b2 c0 c1 c2 d0 d1 d2
  have x3 := ixP3 a0 a1 a2 b0 b1 b2 c0 c1 c2 d0 d1 d2
  obtain ⟨R, hR⟩ : ∃ R, R = So.r4 ⟨a0, a1, a2, 1⟩ ⟨b0, b1, b2, 1⟩ ⟨c0, c1, c2, 1⟩ ⟨d0, d1, d2, 1⟩ := ⟨_, rfl⟩
  have HR := Lib.hid hR
  have HM := Lib.hid hm
  rw [← hR] at hco ⊢
  have HCO := Lib.hid hco
  clear hR hm hco
  go_enter Try.func54, Try.ntmps54
  go_wp2_with fail
  go_loopw [17] (fun a wr => ∃ (r : Int) (M H : Nat → Int), a = .int .i64 r ∧ 0 ≤ r ∧ r ≤ 4 ∧ Mv1 w wr M H ∧ So.St m R (3 * r.toNat) M H r.toNat) (fun a _ => 4 - (intOf a).toNat)
  case atStart =>
    refine ⟨0, fun _ => 0, fun _ => 0, rfl, by omega, by omega, ⟨⟨by simp <;> omega, fun o ho => ?_, fun o ho => by simp [go_sem]⟩, ⟨by simp, fun o ho => ?_, fun o ho => by simp [go_sem]⟩, bl3 (Below.refl _ _)⟩, So.St.start m R _ _ fun _ _ => rfl⟩
    · have : o = 0 ∨ o = 1 ∨ o = 2 ∨ o = 3 ∨ o = 4 ∨ o = 5 ∨ o = 6 ∨ o = 7 ∨ o = 8 ∨ o = 9 ∨ o = 10 ∨ o = 11 ∨ o = 12 ∨ o = 13 ∨ o = 14 ∨ o = 15 := by omega
      rcases this with rfl | rfl | rfl | rfl | rfl | rfl | rfl | rfl | rfl | rfl | rfl | rfl | rfl | rfl | rfl | rfl <;> simp [go_sem]
    · have : o = 0 ∨ o = 1 ∨ o = 2 := by omega
      rcases this with rfl | rfl | rfl <;> simp [go_sem]
  case round =>
    obtain ⟨r, M, H, rfl, hr0, hr, hV, hSt⟩ := hrel
    have HV := Lib.hid hV
    have HS := Lib.hid hSt
    obtain ⟨⟨zM, cM, fM⟩, ⟨zH, cH, fH⟩, hB⟩ := hV
    clear hSt
    have : r = 0 ∨ r = 1 ∨ r = 2 ∨ r = 3 ∨ r = 4 := by omega
    clear hr0 hr
    rcases this with rfl | rfl | rfl | rfl | rfl
    · go_wp2_with fail
      go_loopw [30] (fun a wr => ∃ (k : Int) (M H : Nat → Int), a = .int .i64 k ∧ 0 ≤ k ∧ k ≤ 3 ∧ Mv1 w wr M H ∧ So.St m R (0 + k.toNat) M H 1) (fun a _ => 3 - (intOf a).toNat)
      case atStart => exact ⟨0, _, _, rfl, by omega, by omega, mv_row HV.out 0 1 2 3 a0 a1 a2 1 (by decide) (by decide) (by decide) (by decide), So.St.row (n := 0) HS.out (by rw [HR.out]; rfl)⟩
      case round =>
        clear cM fM zM cH fH zH hB HV HS H M
        obtain ⟨k, M, H, rfl, hk0, hk, hV, hSt⟩ := hrel
        have HV := Lib.hid hV
        have HS := Lib.hid hSt
        obtain ⟨⟨zM, cM, fM⟩, ⟨zH, cH, fH⟩, hB⟩ := hV
        clear hSt
        have : k = 0 ∨ k = 1 ∨ k = 2 ∨ k = 3 := by omega
        clear hk0 hk
        rcases this with rfl | rfl | rfl | rfl
        · have hm := HM.out
          have eb : bits .and .i64 (m : Int) 1 = ((m / 2 ^ 0 % 2 : Nat) : Int) := by
            rw [← i64_and1 (m / 2 ^ 0) (Nat.lt_of_le_of_lt (Nat.div_le_self _ _) hm)]; simp
          clear hm
          by_cases hb : m / 2 ^ 0 % 2 = 1
          · rw [hb] at eb
            have HB := Lib.hid hb
            clear hb
            by_cases hc : M 3 = 0 ∨ H 0 = 1
            · have HC := Lib.hid hc
              rcases hc with hc | hc
              · have hc' : (M 3 == 0) = true := by simpa using hc
                clear hc
                go_wp2_with fail
                go_ret2
                exact ⟨.inl ⟨So.St.stop (r := 0) (k := 0) HS.out (by decide) rfl (by decide) (by decide) HB.out HC.out, rfl⟩, hB⟩
              · have hc' : (H 0 == 1) = true := by simpa using hc
                clear hc
                go_wp2_with fail
                all_goals go_ret2
                all_goals exact ⟨.inl ⟨So.St.stop (r := 0) (k := 0) HS.out (by decide) rfl (by decide) (by decide) HB.out HC.out, rfl⟩, hB⟩
            · have hc1 : ¬ M 3 = 0 := fun h => hc (.inl h)
              have hc2 : ¬ H 0 = 1 := fun h => hc (.inr h)
              have h1 : (M 3 == 0) = false := by simpa using hc1
              have h2 : (H 0 == 1) = false := by simpa using hc2
              have C1 := Lib.hid hc1
              have C2 := Lib.hid hc2
              clear hc hc1 hc2
              go_wp2_with fail
              exact ⟨⟨1, _, _, rfl, by omega, by omega, mv_bit HV.out 0 1 2 3 2 0 (by decide) (by decide) (by decide) (by decide) (by decide) (by decide), So.St.yes (r := 0) (k := 0) HS.out rfl (by decide) HB.out C1.out C2.out⟩, by simp [intOf]⟩
          · have hb0 : m / 2 ^ 0 % 2 = 0 := by omega
            rw [hb0] at eb
            have HB := Lib.hid hb0
            clear hb hb0
            go_wp2_with fail
            exact ⟨⟨1, _, _, rfl, by omega, by omega, HV.out, So.St.no HS.out HB.out⟩, by simp [intOf]⟩
        · have hm := HM.out
          have eb : bits .and .i64 ((m : Int) / 2) 1 = ((m / 2 ^ 1 % 2 : Nat) : Int) := by
            rw [← i64_and1 (m / 2 ^ 1) (Nat.lt_of_le_of_lt (Nat.div_le_self _ _) hm)]
            simp
          clear hm
          by_cases hb : m / 2 ^ 1 % 2 = 1
          · rw [hb] at eb
            have HB := Lib.hid hb
            clear hb
            by_cases hc : M 3 = 0 ∨ H 1 = 1
            · have HC := Lib.hid hc
              rcases hc with hc | hc
              · have hc' : (M 3 == 0) = true := by simpa using hc
                clear hc
                go_wp2_with fail
                go_ret2
                exact ⟨.inl ⟨So.St.stop (r := 0) (k := 1) HS.out (by decide) rfl (by decide) (by decide) HB.out HC.out, rfl⟩, hB⟩
              · have hc' : (H 1 == 1) = true := by simpa using hc
                clear hc
                go_wp2_with fail
                all_goals go_ret2
                all_goals exact ⟨.inl ⟨So.St.stop (r := 0) (k := 1) HS.out (by decide) rfl (by decide) (by decide) HB.out HC.out, rfl⟩, hB⟩
            · have hc1 : ¬ M 3 = 0 := fun h => hc (.inl h)
              have hc2 : ¬ H 1 = 1 := fun h => hc (.inr h)
              have h1 : (M 3 == 0) = false := by simpa using hc1
              have h2 : (H 1 == 1) = false := by simpa using hc2
              have C1 := Lib.hid hc1
              have C2 := Lib.hid hc2
              clear hc hc1 hc2
              go_wp2_with fail
              exact ⟨⟨2, _, _, rfl, by omega, by omega, mv_bit HV.out 0 1 2 3 1 1 (by decide) (by decide) (by decide) (by decide) (by decide) (by decide), So.St.yes (r := 0) (k := 1) HS.out rfl (by decide) HB.out C1.out C2.out⟩, by simp [intOf]⟩
          · have hb0 : m / 2 ^ 1 % 2 = 0 := by omega
            rw [hb0] at eb
            have HB := Lib.hid hb0
            clear hb hb0
            go_wp2_with fail
            exact ⟨⟨2, _, _, rfl, by omega, by omega, HV.out, So.St.no HS.out HB.out⟩, by simp [intOf]⟩
        · have hm := HM.out
          have eb : bits .and .i64 ((m : Int) / 4) 1 = ((m / 2 ^ 2 % 2 : Nat) : Int) := by
            rw [← i64_and1 (m / 2 ^ 2) (Nat.lt_of_le_of_lt (Nat.div_le_self _ _) hm)]
            simp
          clear hm
          by_cases hb : m / 2 ^ 2 % 2 = 1
          · rw [hb] at eb
            have HB := Lib.hid hb
            clear hb
            by_cases hc : M 3 = 0 ∨ H 2 = 1
            · have HC := Lib.hid hc
              rcases hc with hc | hc
              · have hc' : (M 3 == 0) = true := by simpa using hc
                clear hc
                go_wp2_with fail
                go_ret2
                exact ⟨.inl ⟨So.St.stop (r := 0) (k := 2) HS.out (by decide) rfl (by decide) (by decide) HB.out HC.out, rfl⟩, hB⟩
              · have hc' : (H 2 == 1) = true := by simpa using hc
                clear hc
                go_wp2_with fail
                all_goals go_ret2
                all_goals exact ⟨.inl ⟨So.St.stop (r := 0) (k := 2) HS.out (by decide) rfl (by decide) (by decide) HB.out HC.out, rfl⟩, hB⟩
            · have hc1 : ¬ M 3 = 0 := fun h => hc (.inl h)
              have hc2 : ¬ H 2 = 1 := fun h => hc (.inr h)
              have h1 : (M 3 == 0) = false := by simpa using hc1
              have h2 : (H 2 == 1) = false := by simpa using hc2
              have C1 := Lib.hid hc1
              have C2 := Lib.hid hc2
              clear hc hc1 hc2
              go_wp2_with fail
              exact ⟨⟨3, _, _, rfl, by omega, by omega, mv_bit HV.out 0 1 2 3 0 2 (by decide) (by decide) (by decide) (by decide) (by decide) (by decide), So.St.yes (r := 0) (k := 2) HS.out rfl (by decide) HB.out C1.out C2.out⟩, by simp [intOf]⟩
          · have hb0 : m / 2 ^ 2 % 2 = 0 := by omega
            rw [hb0] at eb
            have HB := Lib.hid hb0
            clear hb hb0
            go_wp2_with fail
            exact ⟨⟨3, _, _, rfl, by omega, by omega, HV.out, So.St.no HS.out HB.out⟩, by simp [intOf]⟩
        · go_wp2_with fail
          exact ⟨⟨1, _, _, rfl, by omega, by omega, HV.out, HS.out⟩, by simp [intOf]⟩
    · go_wp2_with fail
      go_loopw [30] (fun a wr => ∃ (k : Int) (M H : Nat → Int), a = .int .i64 k ∧ 0 ≤ k ∧ k ≤ 3 ∧ Mv1 w wr M H ∧ So.St m R (3 + k.toNat) M H 2) (fun a _ => 3 - (intOf a).toNat)
      case atStart => exact ⟨0, _, _, rfl, by omega, by omega, mv_row HV.out 4 5 6 7 b0 b1 b2 1 (by decide) (by decide) (by decide) (by decide), So.St.row (n := 1) HS.out (by rw [HR.out]; rfl)⟩
      case round =>
        clear cM fM zM cH fH zH hB HV HS H M
        obtain ⟨k, M, H, rfl, hk0, hk, hV, hSt⟩ := hrel
        have HV := Lib.hid hV
        have HS := Lib.hid hSt
        obtain ⟨⟨zM, cM, fM⟩, ⟨zH, cH, fH⟩, hB⟩ := hV
        clear hSt
        have : k = 0 ∨ k = 1 ∨ k = 2 ∨ k = 3 := by omega
        clear hk0 hk
        rcases this with rfl | rfl | rfl | rfl
        · have hm := HM.out
          have eb : bits .and .i64 ((m : Int) / 8) 1 = ((m / 2 ^ 3 % 2 : Nat) : Int) := by
            rw [← i64_and1 (m / 2 ^ 3) (Nat.lt_of_le_of_lt (Nat.div_le_self _ _) hm)]
            simp
          clear hm
          by_cases hb : m / 2 ^ 3 % 2 = 1
          · rw [hb] at eb
            have HB := Lib.hid hb
            clear hb
            by_cases hc : M 7 = 0 ∨ H 0 = 1
            · have HC := Lib.hid hc
              rcases hc with hc | hc
              · have hc' : (M 7 == 0) = true := by simpa using hc
                clear hc
                go_wp2_with fail
                go_ret2
                exact ⟨.inl ⟨So.St.stop (r := 1) (k := 0) HS.out (by decide) rfl (by decide) (by decide) HB.out HC.out, rfl⟩, hB⟩
              · have hc' : (H 0 == 1) = true := by simpa using hc
                clear hc
                go_wp2_with fail
                all_goals go_ret2
                all_goals exact ⟨.inl ⟨So.St.stop (r := 1) (k := 0) HS.out (by decide) rfl (by decide) (by decide) HB.out HC.out, rfl⟩, hB⟩
            · have hc1 : ¬ M 7 = 0 := fun h => hc (.inl h)
              have hc2 : ¬ H 0 = 1 := fun h => hc (.inr h)
              have h1 : (M 7 == 0) = false := by simpa using hc1
              have h2 : (H 0 == 1) = false := by simpa using hc2
              have C1 := Lib.hid hc1
              have C2 := Lib.hid hc2
              clear hc hc1 hc2
              go_wp2_with fail
              exact ⟨⟨1, _, _, rfl, by omega, by omega, mv_bit HV.out 4 5 6 7 6 0 (by decide) (by decide) (by decide) (by decide) (by decide) (by decide), So.St.yes (r := 1) (k := 0) HS.out rfl (by decide) HB.out C1.out C2.out⟩, by simp [intOf]⟩
          · have hb0 : m / 2 ^ 3 % 2 = 0 := by omega
            rw [hb0] at eb
            have HB := Lib.hid hb0
            clear hb hb0
            go_wp2_with fail
            exact ⟨⟨1, _, _, rfl, by omega, by omega, HV.out, So.St.no HS.out HB.out⟩, by simp [intOf]⟩
        · have hm := HM.out
          have eb : bits .and .i64 ((m : Int) / 16) 1 = ((m / 2 ^ 4 % 2 : Nat) : Int) := by
            rw [← i64_and1 (m / 2 ^ 4) (Nat.lt_of_le_of_lt (Nat.div_le_self _ _) hm)]
            simp
          clear hm
          by_cases hb : m / 2 ^ 4 % 2 = 1
          · rw [hb] at eb
            have HB := Lib.hid hb
            clear hb
            by_cases hc : M 7 = 0 ∨ H 1 = 1
            · have HC := Lib.hid hc
              rcases hc with hc | hc
              · have hc' : (M 7 == 0) = true := by simpa using hc
                clear hc
                go_wp2_with fail
                go_ret2
                exact ⟨.inl ⟨So.St.stop (r := 1) (k := 1) HS.out (by decide) rfl (by decide) (by decide) HB.out HC.out, rfl⟩, hB⟩
              · have hc' : (H 1 == 1) = true := by simpa using hc
                clear hc
                go_wp2_with fail
                all_goals go_ret2
                all_goals exact ⟨.inl ⟨So.St.stop (r := 1) (k := 1) HS.out (by decide) rfl (by decide) (by decide) HB.out HC.out, rfl⟩, hB⟩
            · have hc1 : ¬ M 7 = 0 := fun h => hc (.inl h)
              have hc2 : ¬ H 1 = 1 := fun h => hc (.inr h)
              have h1 : (M 7 == 0) = false := by simpa using hc1
              have h2 : (H 1 == 1) = false := by simpa using hc2
              have C1 := Lib.hid hc1
              have C2 := Lib.hid hc2
              clear hc hc1 hc2
              go_wp2_with fail
              exact ⟨⟨2, _, _, rfl, by omega, by omega, mv_bit HV.out 4 5 6 7 5 1 (by decide) (by decide) (by decide) (by decide) (by decide) (by decide), So.St.yes (r := 1) (k := 1) HS.out rfl (by decide) HB.out C1.out C2.out⟩, by simp [intOf]⟩
          · have hb0 : m / 2 ^ 4 % 2 = 0 := by omega
            rw [hb0] at eb
            have HB := Lib.hid hb0
            clear hb hb0
            go_wp2_with fail
            exact ⟨⟨2, _, _, rfl, by omega, by omega, HV.out, So.St.no HS.out HB.out⟩, by simp [intOf]⟩
        · have hm := HM.out
          have eb : bits .and .i64 ((m : Int) / 32) 1 = ((m / 2 ^ 5 % 2 : Nat) : Int) := by
            rw [← i64_and1 (m / 2 ^ 5) (Nat.lt_of_le_of_lt (Nat.div_le_self _ _) hm)]
            simp
          clear hm
          by_cases hb : m / 2 ^ 5 % 2 = 1
          · rw [hb] at eb
            have HB := Lib.hid hb
            clear hb
            by_cases hc : M 7 = 0 ∨ H 2 = 1
            · have HC := Lib.hid hc
              rcases hc with hc | hc
              · have hc' : (M 7 == 0) = true := by simpa using hc
                clear hc
                go_wp2_with fail
                go_ret2
                exact ⟨.inl ⟨So.St.stop (r := 1) (k := 2) HS.out (by decide) rfl (by decide) (by decide) HB.out HC.out, rfl⟩, hB⟩
              · have hc' : (H 2 == 1) = true := by simpa using hc
                clear hc
                go_wp2_with fail
                all_goals go_ret2
                all_goals exact ⟨.inl ⟨So.St.stop (r := 1) (k := 2) HS.out (by decide) rfl (by decide) (by decide) HB.out HC.out, rfl⟩, hB⟩
            · have hc1 : ¬ M 7 = 0 := fun h => hc (.inl h)
              have hc2 : ¬ H 2 = 1 := fun h => hc (.inr h)
              have h1 : (M 7 == 0) = false := by simpa using hc1
              have h2 : (H 2 == 1) = false := by simpa using hc2
              have C1 := Lib.hid hc1
              have C2 := Lib.hid hc2
              clear hc hc1 hc2
              go_wp2_with fail
              exact ⟨⟨3, _, _, rfl, by omega, by omega, mv_bit HV.out 4 5 6 7 4 2 (by decide) (by decide) (by decide) (by decide) (by decide) (by decide), So.St.yes (r := 1) (k := 2) HS.out rfl (by decide) HB.out C1.out C2.out⟩, by simp [intOf]⟩
          · have hb0 : m / 2 ^ 5 % 2 = 0 := by omega
            rw [hb0] at eb
            have HB := Lib.hid hb0
            clear hb hb0
            go_wp2_with fail
            exact ⟨⟨3, _, _, rfl, by omega, by omega, HV.out, So.St.no HS.out HB.out⟩, by simp [intOf]⟩
        · go_wp2_with fail
          exact ⟨⟨2, _, _, rfl, by omega, by omega, HV.out, HS.out⟩, by simp [intOf]⟩
    · go_wp2_with fail
      go_loopw [30] (fun a wr => ∃ (k : Int) (M H : Nat → Int), a = .int .i64 k ∧ 0 ≤ k ∧ k ≤ 3 ∧ Mv1 w wr M H ∧ So.St m R (6 + k.toNat) M H 3) (fun a _ => 3 - (intOf a).toNat)
      case atStart => exact ⟨0, _, _, rfl, by omega, by omega, mv_row HV.out 8 9 10 11 c0 c1 c2 1 (by decide) (by decide) (by decide) (by decide), So.St.row (n := 2) HS.out (by rw [HR.out]; rfl)⟩
      case round =>
        clear cM fM zM cH fH zH hB HV HS H M
        obtain ⟨k, M, H, rfl, hk0, hk, hV, hSt⟩ := hrel
        have HV := Lib.hid hV
        have HS := Lib.hid hSt
        obtain ⟨⟨zM, cM, fM⟩, ⟨zH, cH, fH⟩, hB⟩ := hV
        clear hSt
        have : k = 0 ∨ k = 1 ∨ k = 2 ∨ k = 3 := by omega
        clear hk0 hk
        rcases this with rfl | rfl | rfl | rfl
        · have hm := HM.out
          have eb : bits .and .i64 ((m : Int) / 64) 1 = ((m / 2 ^ 6 % 2 : Nat) : Int) := by
            rw [← i64_and1 (m / 2 ^ 6) (Nat.lt_of_le_of_lt (Nat.div_le_self _ _) hm)]
            simp
          clear hm
          by_cases hb : m / 2 ^ 6 % 2 = 1
          · rw [hb] at eb
            have HB := Lib.hid hb
            clear hb
            by_cases hc : M 11 = 0 ∨ H 0 = 1
            · have HC := Lib.hid hc
              rcases hc with hc | hc
              · have hc' : (M 11 == 0) = true := by simpa using hc
                clear hc
                go_wp2_with fail
                go_ret2
                exact ⟨.inl ⟨So.St.stop (r := 2) (k := 0) HS.out (by decide) rfl (by decide) (by decide) HB.out HC.out, rfl⟩, hB⟩
              · have hc' : (H 0 == 1) = true := by simpa using hc
                clear hc
                go_wp2_with fail
                all_goals go_ret2
                all_goals exact ⟨.inl ⟨So.St.stop (r := 2) (k := 0) HS.out (by decide) rfl (by decide) (by decide) HB.out HC.out, rfl⟩, hB⟩
            · have hc1 : ¬ M 11 = 0 := fun h => hc (.inl h)
              have hc2 : ¬ H 0 = 1 := fun h => hc (.inr h)
              have h1 : (M 11 == 0) = false := by simpa using hc1
              have h2 : (H 0 == 1) = false := by simpa using hc2
              have C1 := Lib.hid hc1
              have C2 := Lib.hid hc2
              clear hc hc1 hc2
              go_wp2_with fail
              exact ⟨⟨1, _, _, rfl, by omega, by omega, mv_bit HV.out 8 9 10 11 10 0 (by decide) (by decide) (by decide) (by decide) (by decide) (by decide), So.St.yes (r := 2) (k := 0) HS.out rfl (by decide) HB.out C1.out C2.out⟩, by simp [intOf]⟩
          · have hb0 : m / 2 ^ 6 % 2 = 0 := by omega
            rw [hb0] at eb
            have HB := Lib.hid hb0
            clear hb hb0
            go_wp2_with fail
            exact ⟨⟨1, _, _, rfl, by omega, by omega, HV.out, So.St.no HS.out HB.out⟩, by simp [intOf]⟩
        · have hm := HM.out
          have eb : bits .and .i64 ((m : Int) / 128) 1 = ((m / 2 ^ 7 % 2 : Nat) : Int) := by
            rw [← i64_and1 (m / 2 ^ 7) (Nat.lt_of_le_of_lt (Nat.div_le_self _ _) hm)]
            simp
          clear hm
          by_cases hb : m / 2 ^ 7 % 2 = 1
          · rw [hb] at eb
            have HB := Lib.hid hb
            clear hb
            by_cases hc : M 11 = 0 ∨ H 1 = 1
            · have HC := Lib.hid hc
              rcases hc with hc | hc
              · have hc' : (M 11 == 0) = true := by simpa using hc
                clear hc
                go_wp2_with fail
                go_ret2
                exact ⟨.inl ⟨So.St.stop (r := 2) (k := 1) HS.out (by decide) rfl (by decide) (by decide) HB.out HC.out, rfl⟩, hB⟩
              · have hc' : (H 1 == 1) = true := by simpa using hc
                clear hc
                go_wp2_with fail
                all_goals go_ret2
                all_goals exact ⟨.inl ⟨So.St.stop (r := 2) (k := 1) HS.out (by decide) rfl (by decide) (by decide) HB.out HC.out, rfl⟩, hB⟩
            · have hc1 : ¬ M 11 = 0 := fun h => hc (.inl h)
              have hc2 : ¬ H 1 = 1 := fun h => hc (.inr h)
              have h1 : (M 11 == 0) = false := by simpa using hc1
              have h2 : (H 1 == 1) = false := by simpa using hc2
              have C1 := Lib.hid hc1
              have C2 := Lib.hid hc2
              clear hc hc1 hc2
              go_wp2_with fail
              exact ⟨⟨2, _, _, rfl, by omega, by omega, mv_bit HV.out 8 9 10 11 9 1 (by decide) (by decide) (by decide) (by decide) (by decide) (by decide), So.St.yes (r := 2) (k := 1) HS.out rfl (by decide) HB.out C1.out C2.out⟩, by simp [intOf]⟩
          · have hb0 : m / 2 ^ 7 % 2 = 0 := by omega
            rw [hb0] at eb
            have HB := Lib.hid hb0
            clear hb hb0
            go_wp2_with fail
            exact ⟨⟨2, _, _, rfl, by omega, by omega, HV.out, So.St.no HS.out HB.out⟩, by simp [intOf]⟩
        · have hm := HM.out
          have eb : bits .and .i64 ((m : Int) / 256) 1 = ((m / 2 ^ 8 % 2 : Nat) : Int) := by
            rw [← i64_and1 (m / 2 ^ 8) (Nat.lt_of_le_of_lt (Nat.div_le_self _ _) hm)]
            simp
          clear hm
          by_cases hb : m / 2 ^ 8 % 2 = 1
          · rw [hb] at eb
            have HB := Lib.hid hb
            clear hb
            by_cases hc : M 11 = 0 ∨ H 2 = 1
            · have HC := Lib.hid hc
              rcases hc with hc | hc
              · have hc' : (M 11 == 0) = true := by simpa using hc
                clear hc
                go_wp2_with fail
                go_ret2
                exact ⟨.inl ⟨So.St.stop (r := 2) (k := 2) HS.out (by decide) rfl (by decide) (by decide) HB.out HC.out, rfl⟩, hB⟩
              · have hc' : (H 2 == 1) = true := by simpa using hc
                clear hc
                go_wp2_with fail
                all_goals go_ret2
                all_goals exact ⟨.inl ⟨So.St.stop (r := 2) (k := 2) HS.out (by decide) rfl (by decide) (by decide) HB.out HC.out, rfl⟩, hB⟩
            · have hc1 : ¬ M 11 = 0 := fun h => hc (.inl h)
              have hc2 : ¬ H 2 = 1 := fun h => hc (.inr h)
              have h1 : (M 11 == 0) = false := by simpa using hc1
              have h2 : (H 2 == 1) = false := by simpa using hc2
              have C1 := Lib.hid hc1
              have C2 := Lib.hid hc2
              clear hc hc1 hc2
              go_wp2_with fail
              exact ⟨⟨3, _, _, rfl, by omega, by omega, mv_bit HV.out 8 9 10 11 8 2 (by decide) (by decide) (by decide) (by decide) (by decide) (by decide), So.St.yes (r := 2) (k := 2) HS.out rfl (by decide) HB.out C1.out C2.out⟩, by simp [intOf]⟩
          · have hb0 : m / 2 ^ 8 % 2 = 0 := by omega
            rw [hb0] at eb
            have HB := Lib.hid hb0
            clear hb hb0
            go_wp2_with fail
            exact ⟨⟨3, _, _, rfl, by omega, by omega, HV.out, So.St.no HS.out HB.out⟩, by simp [intOf]⟩
        · go_wp2_with fail
          exact ⟨⟨3, _, _, rfl, by omega, by omega, HV.out, HS.out⟩, by simp [intOf]⟩
    · go_wp2_with fail
      go_loopw [30] (fun a wr => ∃ (k : Int) (M H : Nat → Int), a = .int .i64 k ∧ 0 ≤ k ∧ k ≤ 3 ∧ Mv1 w wr M H ∧ So.St m R (9 + k.toNat) M H 4) (fun a _ => 3 - (intOf a).toNat)
      case atStart => exact ⟨0, _, _, rfl, by omega, by omega, mv_row HV.out 12 13 14 15 d0 d1 d2 1 (by decide) (by decide) (by decide) (by decide), So.St.row (n := 3) HS.out (by rw [HR.out]; rfl)⟩
      case round =>
        clear cM fM zM cH fH zH hB HV HS H M
        obtain ⟨k, M, H, rfl, hk0, hk, hV, hSt⟩ := hrel
        have HV := Lib.hid hV
        have HS := Lib.hid hSt
        obtain ⟨⟨zM, cM, fM⟩, ⟨zH, cH, fH⟩, hB⟩ := hV
        clear hSt
        have : k = 0 ∨ k = 1 ∨ k = 2 ∨ k = 3 := by omega
        clear hk0 hk
        rcases this with rfl | rfl | rfl | rfl
        · have hm := HM.out
          have eb : bits .and .i64 ((m : Int) / 512) 1 = ((m / 2 ^ 9 % 2 : Nat) : Int) := by
            rw [← i64_and1 (m / 2 ^ 9) (Nat.lt_of_le_of_lt (Nat.div_le_self _ _) hm)]
            simp
          clear hm
          by_cases hb : m / 2 ^ 9 % 2 = 1
          · rw [hb] at eb
            have HB := Lib.hid hb
            clear hb
            by_cases hc : M 15 = 0 ∨ H 0 = 1
            · have HC := Lib.hid hc
              rcases hc with hc | hc
              · have hc' : (M 15 == 0) = true := by simpa using hc
                clear hc
                go_wp2_with fail
                go_ret2
                exact ⟨.inl ⟨So.St.stop (r := 3) (k := 0) HS.out (by decide) rfl (by decide) (by decide) HB.out HC.out, rfl⟩, hB⟩
              · have hc' : (H 0 == 1) = true := by simpa using hc
                clear hc
                go_wp2_with fail
                all_goals go_ret2
                all_goals exact ⟨.inl ⟨So.St.stop (r := 3) (k := 0) HS.out (by decide) rfl (by decide) (by decide) HB.out HC.out, rfl⟩, hB⟩
            · have hc1 : ¬ M 15 = 0 := fun h => hc (.inl h)
              have hc2 : ¬ H 0 = 1 := fun h => hc (.inr h)
              have h1 : (M 15 == 0) = false := by simpa using hc1
              have h2 : (H 0 == 1) = false := by simpa using hc2
              have C1 := Lib.hid hc1
              have C2 := Lib.hid hc2
              clear hc hc1 hc2
              go_wp2_with fail
              exact ⟨⟨1, _, _, rfl, by omega, by omega, mv_bit HV.out 12 13 14 15 14 0 (by decide) (by decide) (by decide) (by decide) (by decide) (by decide), So.St.yes (r := 3) (k := 0) HS.out rfl (by decide) HB.out C1.out C2.out⟩, by simp [intOf]⟩
          · have hb0 : m / 2 ^ 9 % 2 = 0 := by omega
            rw [hb0] at eb
            have HB := Lib.hid hb0
            clear hb hb0
            go_wp2_with fail
            exact ⟨⟨1, _, _, rfl, by omega, by omega, HV.out, So.St.no HS.out HB.out⟩, by simp [intOf]⟩
        · have hm := HM.out
          have eb : bits .and .i64 ((m : Int) / 1024) 1 = ((m / 2 ^ 10 % 2 : Nat) : Int) := by
            rw [← i64_and1 (m / 2 ^ 10) (Nat.lt_of_le_of_lt (Nat.div_le_self _ _) hm)]
            simp
          clear hm
          by_cases hb : m / 2 ^ 10 % 2 = 1
          · rw [hb] at eb
            have HB := Lib.hid hb
            clear hb
            by_cases hc : M 15 = 0 ∨ H 1 = 1
            · have HC := Lib.hid hc
              rcases hc with hc | hc
              · have hc' : (M 15 == 0) = true := by simpa using hc
                clear hc
                go_wp2_with fail
                go_ret2
                exact ⟨.inl ⟨So.St.stop (r := 3) (k := 1) HS.out (by decide) rfl (by decide) (by decide) HB.out HC.out, rfl⟩, hB⟩
              · have hc' : (H 1 == 1) = true := by simpa using hc
                clear hc
                go_wp2_with fail
                all_goals go_ret2
                all_goals exact ⟨.inl ⟨So.St.stop (r := 3) (k := 1) HS.out (by decide) rfl (by decide) (by decide) HB.out HC.out, rfl⟩, hB⟩
            · have hc1 : ¬ M 15 = 0 := fun h => hc (.inl h)
              have hc2 : ¬ H 1 = 1 := fun h => hc (.inr h)
              have h1 : (M 15 == 0) = false := by simpa using hc1
              have h2 : (H 1 == 1) = false := by simpa using hc2
              have C1 := Lib.hid hc1
              have C2 := Lib.hid hc2
              clear hc hc1 hc2
              go_wp2_with fail
              exact ⟨⟨2, _, _, rfl, by omega, by omega, mv_bit HV.out 12 13 14 15 13 1 (by decide) (by decide) (by decide) (by decide) (by decide) (by decide), So.St.yes (r := 3) (k := 1) HS.out rfl (by decide) HB.out C1.out C2.out⟩, by simp [intOf]⟩
          · have hb0 : m / 2 ^ 10 % 2 = 0 := by omega
            rw [hb0] at eb
            have HB := Lib.hid hb0
            clear hb hb0
            go_wp2_with fail
            exact ⟨⟨2, _, _, rfl, by omega, by omega, HV.out, So.St.no HS.out HB.out⟩, by simp [intOf]⟩
        · have hm := HM.out
          have eb : bits .and .i64 ((m : Int) / 2048) 1 = ((m / 2 ^ 11 % 2 : Nat) : Int) := by
            rw [← i64_and1 (m / 2 ^ 11) (Nat.lt_of_le_of_lt (Nat.div_le_self _ _) hm)]
            simp
          clear hm
          by_cases hb : m / 2 ^ 11 % 2 = 1
          · rw [hb] at eb
            have HB := Lib.hid hb
            clear hb
            by_cases hc : M 15 = 0 ∨ H 2 = 1
            · have HC := Lib.hid hc
              rcases hc with hc | hc
              · have hc' : (M 15 == 0) = true := by simpa using hc
                clear hc
                go_wp2_with fail
                go_ret2
                exact ⟨.inl ⟨So.St.stop (r := 3) (k := 2) HS.out (by decide) rfl (by decide) (by decide) HB.out HC.out, rfl⟩, hB⟩
              · have hc' : (H 2 == 1) = true := by simpa using hc
                clear hc
                go_wp2_with fail
                all_goals go_ret2
                all_goals exact ⟨.inl ⟨So.St.stop (r := 3) (k := 2) HS.out (by decide) rfl (by decide) (by decide) HB.out HC.out, rfl⟩, hB⟩
            · have hc1 : ¬ M 15 = 0 := fun h => hc (.inl h)
              have hc2 : ¬ H 2 = 1 := fun h => hc (.inr h)
              have h1 : (M 15 == 0) = false := by simpa using hc1
              have h2 : (H 2 == 1) = false := by simpa using hc2
              have C1 := Lib.hid hc1
              have C2 := Lib.hid hc2
              clear hc hc1 hc2
              go_wp2_with fail
              exact ⟨⟨3, _, _, rfl, by omega, by omega, mv_bit HV.out 12 13 14 15 12 2 (by decide) (by decide) (by decide) (by decide) (by decide) (by decide), So.St.yes (r := 3) (k := 2) HS.out rfl (by decide) HB.out C1.out C2.out⟩, by simp [intOf]⟩
          · have hb0 : m / 2 ^ 11 % 2 = 0 := by omega
            rw [hb0] at eb
            have HB := Lib.hid hb0
            clear hb hb0
            go_wp2_with fail
            exact ⟨⟨3, _, _, rfl, by omega, by omega, HV.out, So.St.no HS.out HB.out⟩, by simp [intOf]⟩
        · go_wp2_with fail
          exact ⟨⟨4, _, _, rfl, by omega, by omega, HV.out, HS.out⟩, by simp [intOf]⟩
    · have hm := HM.out
      obtain ⟨S, h, hs, hrow, -, -, hun⟩ := HS.out
      have hrow : ∀ i, i < 4 → M (4 * i) = (S i).x ∧ M (4 * i + 1) = (S i).y ∧ M (4 * i + 2) = (S i).z ∧ M (4 * i + 3) = (S i).w := hrow
      have HSS := Lib.hid (show So.stt m R 12 = some (S, h) from hs)
      have hw01 : ∀ i, i < 4 → (S i).w = 0 ∨ (S i).w = 1 := by
        intro i hi
        rcases hun i with e | ⟨k, _, e⟩
        · right; rw [e, HR.out]; have : i = 0 ∨ i = 1 ∨ i = 2 ∨ i = 3 := by omega
          rcases this with rfl | rfl | rfl | rfl <;> rfl
        · left; rw [e]; rfl
      have HAT := Lib.hid (So.psum_at4 S hw01)
      have HW01 := Lib.hid hw01
      have hwd : ∀ i, i < 4 → Wd (M (4 * i)) ∧ Wd (M (4 * i + 1)) ∧ Wd (M (4 * i + 2)) := by
        intro i hi
        obtain ⟨r1, r2, r3, _⟩ := hrow i hi
        rw [r1, r2, r3]
        rcases hun i with e | ⟨k, hk, e⟩
        · rw [e]; exact HCO.out i hi
        · rw [e]
          have : k = 0 ∨ k = 1 ∨ k = 2 := by omega
          rcases this with rfl | rfl | rfl <;> exact ⟨⟨by decide, by decide⟩, ⟨by decide, by decide⟩, ⟨by decide, by decide⟩⟩
      clear hs hun hm
      obtain ⟨i0, hI0, hz0, hz1, hz2⟩ := info_parts Try.infoI3
      have AT3 := arrayAt3
      have HROW := Lib.hid hrow
      have HSM := Lib.hid (at4_small (fun i hi => by obtain ⟨r1, r2, r3, _⟩ := hrow i hi; rw [← r1, ← r2, ← r3]; exact hwd i hi) HW01.out)
      have HWD := Lib.hid hwd
      clear hrow hwd
      obtain ⟨W0, rfl⟩ : ∃ W0 : World, W0 = wr := ⟨_, rfl⟩
      go_wp2_with fail
      go_loopw [65] (fun a wr => ∃ r : Int, a = .int .i64 r ∧ 0 ≤ r ∧ r ≤ 4 ∧ Ints wr (w.heap.size + 1) 16 M ∧ RCell wr W0.heap.size (.int .i64 (hi (So.psum S r.toNat))) (.int .u64 (lo (So.psum S r.toNat))) ∧ W0.heap.size < wr.heap.size ∧ Below w.heap.size w wr) (fun a _ => 4 - (intOf a).toNat)
      case atStart => exact ⟨0, rfl, by omega, by omega, HV.out.1.al _, rcell_new _ _ _ _, by simp, hB.alloc hB.size _⟩
      case round =>
        have hzw := Nat.lt_of_lt_of_le (Nat.lt_succ_self _) (Nat.le_of_lt zM)
        obtain ⟨r, rfl, hr0, hr, hI, hG, hz, hB2⟩ := hrel
        have HI := Lib.hid hI
        have HG := Lib.hid hG
        obtain ⟨zI, cI, fI⟩ := hI
        unfold RCell at hG
        clear hB fM cM fH cH zH HV HS
        have HZM := Lib.hid zM
        clear zM
        have : r = 0 ∨ r = 1 ∨ r = 2 ∨ r = 3 ∨ r = 4 := by omega
        clear hr0 hr
        rcases this with rfl | rfl | rfl | rfl | rfl
        · by_cases hw : M 3 = 0
          · have hw' : (M 3 == 0) = true := by simpa using hw
            have HW := Lib.hid hw
            clear hw
            go_wp2_with fail
            have e : So.psum S (0 + 1) = So.psum S 0 := by
              have := (HROW.out 0 (by decide)).2.2.2
              show So.psum S 0 + So.cof S 0 = _
              unfold So.cof
              rw [if_pos (by rw [← this]; exact HW.out), Int.add_zero]
            exact ⟨⟨1, rfl, by omega, by omega, HI.out, by rw [show (1 : Int).toNat = 0 + 1 from rfl, e]; exact HG.out, hz, hB2⟩, by simp [intOf]⟩
          · have hw' : (M 3 == 0) = false := by simpa using hw
            have HW := Lib.hid hw
            clear hw
            go_wp2_with fail
            obtain ⟨W1, rfl⟩ : ∃ W1 : World, W1 = wr := ⟨_, rfl⟩
            go_loopw [73, 13] (fun a v wx => ∃ s : Int, a = .int .i64 s ∧ 0 ≤ s ∧ s ≤ 4 ∧ wx.ownsRow W1.heap.size 54 3 v (vcnt 0 s.toNat) (vals M 0 s.toNat) ∧ Below W1.heap.size W1 wx) (fun a _ _ => 4 - (intOf a).toNat)
            case atStart => exact ⟨0, rfl, by omega, by omega, ⟨by simp [vals, vcnt], .inl ⟨rfl, by simp [vcnt]⟩⟩, Below.refl _ _⟩
            case round =>
              obtain ⟨s, rfl, hs0, hs1, hown, hBx⟩ := hrel
              have cI := (HI.out.mono hBx).2.1
              have zI := (HI.out.mono hBx).1
              have HOWN := Lib.hid hown
              have HBX := Lib.hid hBx
              clear hown hBx
              have : s = 0 ∨ s = 1 ∨ s = 2 ∨ s = 3 ∨ s = 4 := by omega
              clear hs0 hs1
              rcases this with rfl | rfl | rfl | rfl | rfl
              · go_wp2_with fail
                exact ⟨⟨1, rfl, by omega, by omega, HOWN.out, HBX.out⟩, by simp [intOf]⟩
              · go_wp2_with (at_builtin; refine wpList_append_own _ rfl (.tmp 79) (.tmp 85) 100 rfl W1.heap.size 54 i0 (.agg #[.int .i64 0, .int .i64 0, .int .i64 0]) 3 24 Try.underlying100 hI0 hz0 hz1 hz2 rfl (by decide) _ _ _ rfl (HOWN.out.alloc _) ⟨_, 0, none⟩ 1 1 [.int .i64 (M 4), .int .i64 (M 5), .int .i64 (M 6)] rfl rfl (three_new _ _ _ _ _) (by simp [Value.oneCell']) (by decide) (by decide) (Nat.le_trans HBX.out.size (by simp)) ?_; intro v' w1 hown1 hgrow1 hnil1)
                have hB1 := below_grown (HBX.out.alloc HBX.out.size _) (HOWN.out.alloc _) hgrow1
                clear hgrow1 hnil1
                go_wp2_with fail
                exact ⟨⟨2, rfl, by omega, by omega, hown1, hB1⟩, by simp [intOf]⟩
              · go_wp2_with (at_builtin; refine wpList_append_own _ rfl (.tmp 79) (.tmp 85) 100 rfl W1.heap.size 54 i0 (.agg #[.int .i64 0, .int .i64 0, .int .i64 0]) 3 24 Try.underlying100 hI0 hz0 hz1 hz2 rfl (by decide) _ _ _ rfl (HOWN.out.alloc _) ⟨_, 0, none⟩ 1 1 [.int .i64 (M 8), .int .i64 (M 9), .int .i64 (M 10)] rfl rfl (three_new _ _ _ _ _) (by simp [Value.oneCell']) (by decide) (by decide) (Nat.le_trans HBX.out.size (by simp)) ?_; intro v' w1 hown1 hgrow1 hnil1)
                have hB1 := below_grown (HBX.out.alloc HBX.out.size _) (HOWN.out.alloc _) hgrow1
                clear hgrow1 hnil1
                go_wp2_with fail
                exact ⟨⟨3, rfl, by omega, by omega, hown1, hB1⟩, by simp [intOf]⟩
              · go_wp2_with (at_builtin; refine wpList_append_own _ rfl (.tmp 79) (.tmp 85) 100 rfl W1.heap.size 54 i0 (.agg #[.int .i64 0, .int .i64 0, .int .i64 0]) 3 24 Try.underlying100 hI0 hz0 hz1 hz2 rfl (by decide) _ _ _ rfl (HOWN.out.alloc _) ⟨_, 0, none⟩ 1 1 [.int .i64 (M 12), .int .i64 (M 13), .int .i64 (M 14)] rfl rfl (three_new _ _ _ _ _) (by simp [Value.oneCell']) (by decide) (by decide) (Nat.le_trans HBX.out.size (by simp)) ?_; intro v' w1 hown1 hgrow1 hnil1)
                have hB1 := below_grown (HBX.out.alloc HBX.out.size _) (HOWN.out.alloc _) hgrow1
                clear hgrow1 hnil1
                go_wp2_with fail
                exact ⟨⟨4, rfl, by omega, by omega, hown1, hB1⟩, by simp [intOf]⟩
              · have hown := HOWN.out
                obtain ⟨g, cap, rfl, hg0, hg1, k0, k1, k2, k3, k4, k5, k6, k7, k8⟩ := nine_row (show wr.ownsRow W1.heap.size 54 3 _ 3 [.int .i64 (M 4), .int .i64 (M 5), .int .i64 (M 6), .int .i64 (M 8), .int .i64 (M 9), .int .i64 (M 10), .int .i64 (M 12), .int .i64 (M 13), .int .i64 (M 14)] from hown)
                clear hown
                have TH := Lib.hid (three_any (M 4) (M 5) (M 6) (M 8) (M 9) (M 10) (M 12) (M 13) (M 14) (HWD.out 1 (by decide)).1 (HWD.out 1 (by decide)).2.1 (HWD.out 1 (by decide)).2.2 (HWD.out 2 (by decide)).1 (HWD.out 2 (by decide)).2.1 (HWD.out 2 (by decide)).2.2 (HWD.out 3 (by decide)).1 (HWD.out 3 (by decide)).2.1 (HWD.out 3 (by decide)).2.2)
                rw [show det3 (M 4) (M 5) (M 6) (M 8) (M 9) (M 10) (M 12) (M 13) (M 14) = So.oth S 0 by
                  obtain ⟨p0, p1, p2, _⟩ := HROW.out 1 (by decide)
                  obtain ⟨p3, p4, p5, _⟩ := HROW.out 2 (by decide)
                  obtain ⟨p6, p7, p8, _⟩ := HROW.out 3 (by decide)
                  rw [p0, p1, p2, p3, p4, p5, p6, p7, p8]; rfl] at TH
                go_upto_region 30 with fail
                have hB3 := hB2.trans (HBX.out.mono hB2.size)
                have hS := (show RCell W1 W0.heap.size _ _ from HG.out).mono HBX.out
                have hI := HI.out.mono HBX.out
                have hz3 : W0.heap.size < wr.heap.size := Nat.lt_of_lt_of_le hz HBX.out.size
                have HS := Lib.hid hS
                have HII := Lib.hid hI
                have HB3 := Lib.hid hB3
                clear hS hI hB3 hG cI zI fI HOWN HBX hB2 hg0
                obtain ⟨W2, rfl⟩ : ∃ W2 : World, W2 = wr := ⟨_, rfl⟩
                go_cut [15] (fun s15 wx => ∃ g : Nat, s15 = .pointer (some ⟨g, 0, none⟩) ∧ W2.heap.size ≤ g ∧ RCell wx g (.int .i64 (hi (So.oth S 0))) (.int .u64 (lo (So.oth S 0))) ∧ Below W2.heap.size W2 wx)
                case first =>
                  go_region_held3 (fun w' => Below W2.heap.size W2 w' ∧ ∀ b o, b < W2.heap.size → w'.cell? ⟨b, o, none⟩ = W2.cell? ⟨b, o, none⟩)
                    (first | exact keep0 _ | exact keep_call ‹_› hn | exact keep_alloc ‹_› | exact keep_re ‹_› (by first | assumption | exact Nat.le_refl _) | exact keep_set (keep_set ‹_› (by first | assumption | exact Nat.le_refl _)) (by first | assumption | exact Nat.le_refl _))
                    (first
                      | (go_at_call 42; (with_reducible refine (TH.out _).mono ?_); rintro e w1 ⟨rfl, hn⟩; have hz := keep_sz ‹_› hn; first | have hG := fresh2 hn | have hG := fresh2 (undrew hn) | have hG := carry2 hG hn | skip))
                  all_goals (go_wp2_with fail; go_meet)
                  all_goals refine ⟨_, rfl, (by first | assumption | exact Nat.le_refl _ | (simp <;> omega)), ⟨(by first | (simp [go_sem]; done) | (simp [go_sem, *]; done)), (by first | (simp [go_sem]; done) | (simp [go_sem, *]; done)), (by first | (simp [go_sem]; done) | (simp [go_sem, *]; done)), (by first | (simp [go_sem]; done) | (simp [go_sem, *]; done)), (by first | (simp; done) | (simp; omega))⟩, keep_below ‹_›⟩
                case rest =>
                  obtain ⟨g2, rfl, hg2, hR, hBc⟩ := hcut
                  have hS := HS.out.mono hBc
                  have hI := HII.out.mono hBc
                  have hB4 := HB3.out.trans (hBc.mono HB3.out.size)
                  have ne1 : ¬ g2 = W0.heap.size := by omega
                  have ne2 : ¬ W0.heap.size = g2 := by omega
                  have hsz := hBc.size
                  clear k0 k1 k2 k3 k4 k5 k6 k7 k8 hBc HS HII HB3 TH
                  unfold RCell at hR hS
                  obtain ⟨X, hX⟩ : ∃ X, X = So.oth S 0 := ⟨_, rfl⟩
                  rw [← hX] at hR
                  have HX := Lib.hid hX
                  clear hX
                  have hlt : w.heap.size + 1 < W0.heap.size := HZM.out
                  go_wp2_with fail
                  refine (neg_any X (isL _) _).mono ?_
                  rintro e w5 ⟨rfl, hn⟩
                  replace hR := carry2 hR hn
                  replace hS := carry2 hS hn
                  replace hI := hI.mono hn
                  replace hB4 := hB4.trans (hn.mono hB4.size)
                  clear hn
                  go_wp2_with fail
                  replace hS := RCell.far (r := g2) (o := 1) (v := .int .u64 (lo (-X))) (RCell.far (r := g2) (o := 0) (v := .int .i64 (hi (-X))) hS ne1) ne1
                  replace hI := (hI.far (r := g2) (o := 0) (v := .int .i64 (hi (-X))) (by omega)).far (r := g2) (o := 1) (v := .int .u64 (lo (-X))) (by omega)
                  replace hB4 := (hB4.setCell (p := ⟨g2, 0, none⟩) (by simp; omega) (.int .i64 (hi (-X)))).setCell (p := ⟨g2, 1, none⟩) (by simp; omega) (.int .u64 (lo (-X)))
                  refine (add_any (So.psum S 0) (-X) (isL _) (isL _) _).mono ?_
                  rintro e w6 ⟨rfl, hn⟩
                  replace hS := carry2 hS hn
                  replace hI := hI.mono hn
                  replace hB4 := hB4.trans (hn.mono hB4.size)
                  have hsz2 := hn.size
                  clear hn hR
                  go_wp2_with fail
                  have e : So.psum S (0 + 1) = So.psum S 0 + -X := by
                    have := (HROW.out 0 (by decide)).2.2.2
                    show So.psum S 0 + So.cof S 0 = _
                    unfold So.cof
                    rw [if_neg (by rw [← this]; exact HW.out), HX.out]
                    rfl
                  exact ⟨⟨1, rfl, by omega, by omega, (hI.far (by omega)).far (by omega), by rw [show (1 : Int).toNat = 0 + 1 from rfl, e]; exact RCell.put2 hS, by simp; exact hS.2.2.2.2, (hB4.setCell (by simp; omega) _).setCell (by simp; omega) _⟩, by simp [intOf]⟩
        · by_cases hw : M 7 = 0
          · have hw' : (M 7 == 0) = true := by simpa using hw
            have HW := Lib.hid hw
            clear hw
            go_wp2_with fail
            have e : So.psum S (1 + 1) = So.psum S 1 := by
              have := (HROW.out 1 (by decide)).2.2.2
              show So.psum S 1 + So.cof S 1 = _
              unfold So.cof
              rw [if_pos (by rw [← this]; exact HW.out), Int.add_zero]
            exact ⟨⟨2, rfl, by omega, by omega, HI.out, by rw [show (2 : Int).toNat = 1 + 1 from rfl, e]; exact HG.out, hz, hB2⟩, by simp [intOf]⟩
          · have hw' : (M 7 == 0) = false := by simpa using hw
            have HW := Lib.hid hw
            clear hw
            go_wp2_with fail
            obtain ⟨W1, rfl⟩ : ∃ W1 : World, W1 = wr := ⟨_, rfl⟩
            go_loopw [73, 13] (fun a v wx => ∃ s : Int, a = .int .i64 s ∧ 0 ≤ s ∧ s ≤ 4 ∧ wx.ownsRow W1.heap.size 54 3 v (vcnt 1 s.toNat) (vals M 1 s.toNat) ∧ Below W1.heap.size W1 wx) (fun a _ _ => 4 - (intOf a).toNat)
            case atStart => exact ⟨0, rfl, by omega, by omega, ⟨by simp [vals, vcnt], .inl ⟨rfl, by simp [vcnt]⟩⟩, Below.refl _ _⟩
            case round =>
              obtain ⟨s, rfl, hs0, hs1, hown, hBx⟩ := hrel
              have cI := (HI.out.mono hBx).2.1
              have zI := (HI.out.mono hBx).1
              have HOWN := Lib.hid hown
              have HBX := Lib.hid hBx
              clear hown hBx
              have : s = 0 ∨ s = 1 ∨ s = 2 ∨ s = 3 ∨ s = 4 := by omega
              clear hs0 hs1
              rcases this with rfl | rfl | rfl | rfl | rfl
              · go_wp2_with (at_builtin; refine wpList_append_own _ rfl (.tmp 79) (.tmp 85) 100 rfl W1.heap.size 54 i0 (.agg #[.int .i64 0, .int .i64 0, .int .i64 0]) 3 24 Try.underlying100 hI0 hz0 hz1 hz2 rfl (by decide) _ _ _ rfl (HOWN.out.alloc _) ⟨_, 0, none⟩ 1 1 [.int .i64 (M 0), .int .i64 (M 1), .int .i64 (M 2)] rfl rfl (three_new _ _ _ _ _) (by simp [Value.oneCell']) (by decide) (by decide) (Nat.le_trans HBX.out.size (by simp)) ?_; intro v' w1 hown1 hgrow1 hnil1)
                have hB1 := below_grown (HBX.out.alloc HBX.out.size _) (HOWN.out.alloc _) hgrow1
                clear hgrow1 hnil1
                go_wp2_with fail
                exact ⟨⟨1, rfl, by omega, by omega, hown1, hB1⟩, by simp [intOf]⟩
              · go_wp2_with fail
                exact ⟨⟨2, rfl, by omega, by omega, HOWN.out, HBX.out⟩, by simp [intOf]⟩
              · go_wp2_with (at_builtin; refine wpList_append_own _ rfl (.tmp 79) (.tmp 85) 100 rfl W1.heap.size 54 i0 (.agg #[.int .i64 0, .int .i64 0, .int .i64 0]) 3 24 Try.underlying100 hI0 hz0 hz1 hz2 rfl (by decide) _ _ _ rfl (HOWN.out.alloc _) ⟨_, 0, none⟩ 1 1 [.int .i64 (M 8), .int .i64 (M 9), .int .i64 (M 10)] rfl rfl (three_new _ _ _ _ _) (by simp [Value.oneCell']) (by decide) (by decide) (Nat.le_trans HBX.out.size (by simp)) ?_; intro v' w1 hown1 hgrow1 hnil1)
                have hB1 := below_grown (HBX.out.alloc HBX.out.size _) (HOWN.out.alloc _) hgrow1
                clear hgrow1 hnil1
                go_wp2_with fail
                exact ⟨⟨3, rfl, by omega, by omega, hown1, hB1⟩, by simp [intOf]⟩
              · go_wp2_with (at_builtin; refine wpList_append_own _ rfl (.tmp 79) (.tmp 85) 100 rfl W1.heap.size 54 i0 (.agg #[.int .i64 0, .int .i64 0, .int .i64 0]) 3 24 Try.underlying100 hI0 hz0 hz1 hz2 rfl (by decide) _ _ _ rfl (HOWN.out.alloc _) ⟨_, 0, none⟩ 1 1 [.int .i64 (M 12), .int .i64 (M 13), .int .i64 (M 14)] rfl rfl (three_new _ _ _ _ _) (by simp [Value.oneCell']) (by decide) (by decide) (Nat.le_trans HBX.out.size (by simp)) ?_; intro v' w1 hown1 hgrow1 hnil1)
                have hB1 := below_grown (HBX.out.alloc HBX.out.size _) (HOWN.out.alloc _) hgrow1
                clear hgrow1 hnil1
                go_wp2_with fail
                exact ⟨⟨4, rfl, by omega, by omega, hown1, hB1⟩, by simp [intOf]⟩
              · have hown := HOWN.out
                obtain ⟨g, cap, rfl, hg0, hg1, k0, k1, k2, k3, k4, k5, k6, k7, k8⟩ := nine_row (show wr.ownsRow W1.heap.size 54 3 _ 3 [.int .i64 (M 0), .int .i64 (M 1), .int .i64 (M 2), .int .i64 (M 8), .int .i64 (M 9), .int .i64 (M 10), .int .i64 (M 12), .int .i64 (M 13), .int .i64 (M 14)] from hown)
                clear hown
                have TH := Lib.hid (three_any (M 0) (M 1) (M 2) (M 8) (M 9) (M 10) (M 12) (M 13) (M 14) (HWD.out 0 (by decide)).1 (HWD.out 0 (by decide)).2.1 (HWD.out 0 (by decide)).2.2 (HWD.out 2 (by decide)).1 (HWD.out 2 (by decide)).2.1 (HWD.out 2 (by decide)).2.2 (HWD.out 3 (by decide)).1 (HWD.out 3 (by decide)).2.1 (HWD.out 3 (by decide)).2.2)
                rw [show det3 (M 0) (M 1) (M 2) (M 8) (M 9) (M 10) (M 12) (M 13) (M 14) = So.oth S 1 by
                  obtain ⟨p0, p1, p2, _⟩ := HROW.out 0 (by decide)
                  obtain ⟨p3, p4, p5, _⟩ := HROW.out 2 (by decide)
                  obtain ⟨p6, p7, p8, _⟩ := HROW.out 3 (by decide)
                  rw [p0, p1, p2, p3, p4, p5, p6, p7, p8]; rfl] at TH
                go_upto_region 30 with fail
                have hB3 := hB2.trans (HBX.out.mono hB2.size)
                have hS := (show RCell W1 W0.heap.size _ _ from HG.out).mono HBX.out
                have hI := HI.out.mono HBX.out
                have hz3 : W0.heap.size < wr.heap.size := Nat.lt_of_lt_of_le hz HBX.out.size
                have HS := Lib.hid hS
                have HII := Lib.hid hI
                have HB3 := Lib.hid hB3
                clear hS hI hB3 hG cI zI fI HOWN HBX hB2 hg0
                obtain ⟨W2, rfl⟩ : ∃ W2 : World, W2 = wr := ⟨_, rfl⟩
                go_cut [15] (fun s15 wx => ∃ g : Nat, s15 = .pointer (some ⟨g, 0, none⟩) ∧ W2.heap.size ≤ g ∧ RCell wx g (.int .i64 (hi (So.oth S 1))) (.int .u64 (lo (So.oth S 1))) ∧ Below W2.heap.size W2 wx)
                case first =>
                  go_region_held3 (fun w' => Below W2.heap.size W2 w' ∧ ∀ b o, b < W2.heap.size → w'.cell? ⟨b, o, none⟩ = W2.cell? ⟨b, o, none⟩)
                    (first | exact keep0 _ | exact keep_call ‹_› hn | exact keep_alloc ‹_› | exact keep_re ‹_› (by first | assumption | exact Nat.le_refl _) | exact keep_set (keep_set ‹_› (by first | assumption | exact Nat.le_refl _)) (by first | assumption | exact Nat.le_refl _))
                    (first
                      | (go_at_call 42; (with_reducible refine (TH.out _).mono ?_); rintro e w1 ⟨rfl, hn⟩; have hz := keep_sz ‹_› hn; first | have hG := fresh2 hn | have hG := fresh2 (undrew hn) | have hG := carry2 hG hn | skip))
                  all_goals (go_wp2_with fail; go_meet)
                  all_goals refine ⟨_, rfl, (by first | assumption | exact Nat.le_refl _ | (simp <;> omega)), ⟨(by first | (simp [go_sem]; done) | (simp [go_sem, *]; done)), (by first | (simp [go_sem]; done) | (simp [go_sem, *]; done)), (by first | (simp [go_sem]; done) | (simp [go_sem, *]; done)), (by first | (simp [go_sem]; done) | (simp [go_sem, *]; done)), (by first | (simp; done) | (simp; omega))⟩, keep_below ‹_›⟩
                case rest =>
                  obtain ⟨g2, rfl, hg2, hR, hBc⟩ := hcut
                  have hS := HS.out.mono hBc
                  have hI := HII.out.mono hBc
                  have hB4 := HB3.out.trans (hBc.mono HB3.out.size)
                  have ne1 : ¬ g2 = W0.heap.size := by omega
                  have ne2 : ¬ W0.heap.size = g2 := by omega
                  have hsz := hBc.size
                  clear k0 k1 k2 k3 k4 k5 k6 k7 k8 hBc HS HII HB3 TH
                  unfold RCell at hR hS
                  obtain ⟨X, hX⟩ : ∃ X, X = So.oth S 1 := ⟨_, rfl⟩
                  rw [← hX] at hR
                  have HX := Lib.hid hX
                  clear hX
                  have hlt : w.heap.size + 1 < W0.heap.size := HZM.out
                  go_wp2_with fail
                  refine (add_any (So.psum S 1) (X) (isL _) (isL _) _).mono ?_
                  rintro e w6 ⟨rfl, hn⟩
                  replace hS := carry2 hS hn
                  replace hI := hI.mono hn
                  replace hB4 := hB4.trans (hn.mono hB4.size)
                  have hsz2 := hn.size
                  clear hn hR
                  go_wp2_with fail
                  have e : So.psum S (1 + 1) = So.psum S 1 + X := by
                    have := (HROW.out 1 (by decide)).2.2.2
                    show So.psum S 1 + So.cof S 1 = _
                    unfold So.cof
                    rw [if_neg (by rw [← this]; exact HW.out), HX.out]
                    rfl
                  exact ⟨⟨2, rfl, by omega, by omega, (hI.far (by omega)).far (by omega), by rw [show (2 : Int).toNat = 1 + 1 from rfl, e]; exact RCell.put2 hS, by simp; exact hS.2.2.2.2, (hB4.setCell (by simp; omega) _).setCell (by simp; omega) _⟩, by simp [intOf]⟩
        · by_cases hw : M 11 = 0
          · have hw' : (M 11 == 0) = true := by simpa using hw
            have HW := Lib.hid hw
            clear hw
            go_wp2_with fail
            have e : So.psum S (2 + 1) = So.psum S 2 := by
              have := (HROW.out 2 (by decide)).2.2.2
              show So.psum S 2 + So.cof S 2 = _
              unfold So.cof
              rw [if_pos (by rw [← this]; exact HW.out), Int.add_zero]
            exact ⟨⟨3, rfl, by omega, by omega, HI.out, by rw [show (3 : Int).toNat = 2 + 1 from rfl, e]; exact HG.out, hz, hB2⟩, by simp [intOf]⟩
          · have hw' : (M 11 == 0) = false := by simpa using hw
            have HW := Lib.hid hw
            clear hw
            go_wp2_with fail
            obtain ⟨W1, rfl⟩ : ∃ W1 : World, W1 = wr := ⟨_, rfl⟩
            go_loopw [73, 13] (fun a v wx => ∃ s : Int, a = .int .i64 s ∧ 0 ≤ s ∧ s ≤ 4 ∧ wx.ownsRow W1.heap.size 54 3 v (vcnt 2 s.toNat) (vals M 2 s.toNat) ∧ Below W1.heap.size W1 wx) (fun a _ _ => 4 - (intOf a).toNat)
            case atStart => exact ⟨0, rfl, by omega, by omega, ⟨by simp [vals, vcnt], .inl ⟨rfl, by simp [vcnt]⟩⟩, Below.refl _ _⟩
            case round =>
              obtain ⟨s, rfl, hs0, hs1, hown, hBx⟩ := hrel
              have cI := (HI.out.mono hBx).2.1
              have zI := (HI.out.mono hBx).1
              have HOWN := Lib.hid hown
              have HBX := Lib.hid hBx
              clear hown hBx
              have : s = 0 ∨ s = 1 ∨ s = 2 ∨ s = 3 ∨ s = 4 := by omega
              clear hs0 hs1
              rcases this with rfl | rfl | rfl | rfl | rfl
              · go_wp2_with (at_builtin; refine wpList_append_own _ rfl (.tmp 79) (.tmp 85) 100 rfl W1.heap.size 54 i0 (.agg #[.int .i64 0, .int .i64 0, .int .i64 0]) 3 24 Try.underlying100 hI0 hz0 hz1 hz2 rfl (by decide) _ _ _ rfl (HOWN.out.alloc _) ⟨_, 0, none⟩ 1 1 [.int .i64 (M 0), .int .i64 (M 1), .int .i64 (M 2)] rfl rfl (three_new _ _ _ _ _) (by simp [Value.oneCell']) (by decide) (by decide) (Nat.le_trans HBX.out.size (by simp)) ?_; intro v' w1 hown1 hgrow1 hnil1)
                have hB1 := below_grown (HBX.out.alloc HBX.out.size _) (HOWN.out.alloc _) hgrow1
                clear hgrow1 hnil1
                go_wp2_with fail
                exact ⟨⟨1, rfl, by omega, by omega, hown1, hB1⟩, by simp [intOf]⟩
              · go_wp2_with (at_builtin; refine wpList_append_own _ rfl (.tmp 79) (.tmp 85) 100 rfl W1.heap.size 54 i0 (.agg #[.int .i64 0, .int .i64 0, .int .i64 0]) 3 24 Try.underlying100 hI0 hz0 hz1 hz2 rfl (by decide) _ _ _ rfl (HOWN.out.alloc _) ⟨_, 0, none⟩ 1 1 [.int .i64 (M 4), .int .i64 (M 5), .int .i64 (M 6)] rfl rfl (three_new _ _ _ _ _) (by simp [Value.oneCell']) (by decide) (by decide) (Nat.le_trans HBX.out.size (by simp)) ?_; intro v' w1 hown1 hgrow1 hnil1)
                have hB1 := below_grown (HBX.out.alloc HBX.out.size _) (HOWN.out.alloc _) hgrow1
                clear hgrow1 hnil1
                go_wp2_with fail
                exact ⟨⟨2, rfl, by omega, by omega, hown1, hB1⟩, by simp [intOf]⟩
              · go_wp2_with fail
                exact ⟨⟨3, rfl, by omega, by omega, HOWN.out, HBX.out⟩, by simp [intOf]⟩
              · go_wp2_with (at_builtin; refine wpList_append_own _ rfl (.tmp 79) (.tmp 85) 100 rfl W1.heap.size 54 i0 (.agg #[.int .i64 0, .int .i64 0, .int .i64 0]) 3 24 Try.underlying100 hI0 hz0 hz1 hz2 rfl (by decide) _ _ _ rfl (HOWN.out.alloc _) ⟨_, 0, none⟩ 1 1 [.int .i64 (M 12), .int .i64 (M 13), .int .i64 (M 14)] rfl rfl (three_new _ _ _ _ _) (by simp [Value.oneCell']) (by decide) (by decide) (Nat.le_trans HBX.out.size (by simp)) ?_; intro v' w1 hown1 hgrow1 hnil1)
                have hB1 := below_grown (HBX.out.alloc HBX.out.size _) (HOWN.out.alloc _) hgrow1
                clear hgrow1 hnil1
                go_wp2_with fail
                exact ⟨⟨4, rfl, by omega, by omega, hown1, hB1⟩, by simp [intOf]⟩
              · have hown := HOWN.out
                obtain ⟨g, cap, rfl, hg0, hg1, k0, k1, k2, k3, k4, k5, k6, k7, k8⟩ := nine_row (show wr.ownsRow W1.heap.size 54 3 _ 3 [.int .i64 (M 0), .int .i64 (M 1), .int .i64 (M 2), .int .i64 (M 4), .int .i64 (M 5), .int .i64 (M 6), .int .i64 (M 12), .int .i64 (M 13), .int .i64 (M 14)] from hown)
                clear hown
                have TH := Lib.hid (three_any (M 0) (M 1) (M 2) (M 4) (M 5) (M 6) (M 12) (M 13) (M 14) (HWD.out 0 (by decide)).1 (HWD.out 0 (by decide)).2.1 (HWD.out 0 (by decide)).2.2 (HWD.out 1 (by decide)).1 (HWD.out 1 (by decide)).2.1 (HWD.out 1 (by decide)).2.2 (HWD.out 3 (by decide)).1 (HWD.out 3 (by decide)).2.1 (HWD.out 3 (by decide)).2.2)
                rw [show det3 (M 0) (M 1) (M 2) (M 4) (M 5) (M 6) (M 12) (M 13) (M 14) = So.oth S 2 by
                  obtain ⟨p0, p1, p2, _⟩ := HROW.out 0 (by decide)
                  obtain ⟨p3, p4, p5, _⟩ := HROW.out 1 (by decide)
                  obtain ⟨p6, p7, p8, _⟩ := HROW.out 3 (by decide)
                  rw [p0, p1, p2, p3, p4, p5, p6, p7, p8]; rfl] at TH
                go_upto_region 30 with fail
                have hB3 := hB2.trans (HBX.out.mono hB2.size)
                have hS := (show RCell W1 W0.heap.size _ _ from HG.out).mono HBX.out
                have hI := HI.out.mono HBX.out
                have hz3 : W0.heap.size < wr.heap.size := Nat.lt_of_lt_of_le hz HBX.out.size
                have HS := Lib.hid hS
                have HII := Lib.hid hI
                have HB3 := Lib.hid hB3
                clear hS hI hB3 hG cI zI fI HOWN HBX hB2 hg0
                obtain ⟨W2, rfl⟩ : ∃ W2 : World, W2 = wr := ⟨_, rfl⟩
                go_cut [15] (fun s15 wx => ∃ g : Nat, s15 = .pointer (some ⟨g, 0, none⟩) ∧ W2.heap.size ≤ g ∧ RCell wx g (.int .i64 (hi (So.oth S 2))) (.int .u64 (lo (So.oth S 2))) ∧ Below W2.heap.size W2 wx)
                case first =>
                  go_region_held3 (fun w' => Below W2.heap.size W2 w' ∧ ∀ b o, b < W2.heap.size → w'.cell? ⟨b, o, none⟩ = W2.cell? ⟨b, o, none⟩)
                    (first | exact keep0 _ | exact keep_call ‹_› hn | exact keep_alloc ‹_› | exact keep_re ‹_› (by first | assumption | exact Nat.le_refl _) | exact keep_set (keep_set ‹_› (by first | assumption | exact Nat.le_refl _)) (by first | assumption | exact Nat.le_refl _))
                    (first
                      | (go_at_call 42; (with_reducible refine (TH.out _).mono ?_); rintro e w1 ⟨rfl, hn⟩; have hz := keep_sz ‹_› hn; first | have hG := fresh2 hn | have hG := fresh2 (undrew hn) | have hG := carry2 hG hn | skip))
                  all_goals (go_wp2_with fail; go_meet)
                  all_goals refine ⟨_, rfl, (by first | assumption | exact Nat.le_refl _ | (simp <;> omega)), ⟨(by first | (simp [go_sem]; done) | (simp [go_sem, *]; done)), (by first | (simp [go_sem]; done) | (simp [go_sem, *]; done)), (by first | (simp [go_sem]; done) | (simp [go_sem, *]; done)), (by first | (simp [go_sem]; done) | (simp [go_sem, *]; done)), (by first | (simp; done) | (simp; omega))⟩, keep_below ‹_›⟩
                case rest =>
                  obtain ⟨g2, rfl, hg2, hR, hBc⟩ := hcut
                  have hS := HS.out.mono hBc
                  have hI := HII.out.mono hBc
                  have hB4 := HB3.out.trans (hBc.mono HB3.out.size)
                  have ne1 : ¬ g2 = W0.heap.size := by omega
                  have ne2 : ¬ W0.heap.size = g2 := by omega
                  have hsz := hBc.size
                  clear k0 k1 k2 k3 k4 k5 k6 k7 k8 hBc HS HII HB3 TH
                  unfold RCell at hR hS
                  obtain ⟨X, hX⟩ : ∃ X, X = So.oth S 2 := ⟨_, rfl⟩
                  rw [← hX] at hR
                  have HX := Lib.hid hX
                  clear hX
                  have hlt : w.heap.size + 1 < W0.heap.size := HZM.out
                  go_wp2_with fail
                  refine (neg_any X (isL _) _).mono ?_
                  rintro e w5 ⟨rfl, hn⟩
                  replace hR := carry2 hR hn
                  replace hS := carry2 hS hn
                  replace hI := hI.mono hn
                  replace hB4 := hB4.trans (hn.mono hB4.size)
                  clear hn
                  go_wp2_with fail
                  replace hS := RCell.far (r := g2) (o := 1) (v := .int .u64 (lo (-X))) (RCell.far (r := g2) (o := 0) (v := .int .i64 (hi (-X))) hS ne1) ne1
                  replace hI := (hI.far (r := g2) (o := 0) (v := .int .i64 (hi (-X))) (by omega)).far (r := g2) (o := 1) (v := .int .u64 (lo (-X))) (by omega)
                  replace hB4 := (hB4.setCell (p := ⟨g2, 0, none⟩) (by simp; omega) (.int .i64 (hi (-X)))).setCell (p := ⟨g2, 1, none⟩) (by simp; omega) (.int .u64 (lo (-X)))
                  refine (add_any (So.psum S 2) (-X) (isL _) (isL _) _).mono ?_
                  rintro e w6 ⟨rfl, hn⟩
                  replace hS := carry2 hS hn
                  replace hI := hI.mono hn
                  replace hB4 := hB4.trans (hn.mono hB4.size)
                  have hsz2 := hn.size
                  clear hn hR
                  go_wp2_with fail
                  have e : So.psum S (2 + 1) = So.psum S 2 + -X := by
                    have := (HROW.out 2 (by decide)).2.2.2
                    show So.psum S 2 + So.cof S 2 = _
                    unfold So.cof
                    rw [if_neg (by rw [← this]; exact HW.out), HX.out]
                    rfl
                  exact ⟨⟨3, rfl, by omega, by omega, (hI.far (by omega)).far (by omega), by rw [show (3 : Int).toNat = 2 + 1 from rfl, e]; exact RCell.put2 hS, by simp; exact hS.2.2.2.2, (hB4.setCell (by simp; omega) _).setCell (by simp; omega) _⟩, by simp [intOf]⟩
        · by_cases hw : M 15 = 0
          · have hw' : (M 15 == 0) = true := by simpa using hw
            have HW := Lib.hid hw
            clear hw
            go_wp2_with fail
            have e : So.psum S (3 + 1) = So.psum S 3 := by
              have := (HROW.out 3 (by decide)).2.2.2
              show So.psum S 3 + So.cof S 3 = _
              unfold So.cof
              rw [if_pos (by rw [← this]; exact HW.out), Int.add_zero]
            exact ⟨⟨4, rfl, by omega, by omega, HI.out, by rw [show (4 : Int).toNat = 3 + 1 from rfl, e]; exact HG.out, hz, hB2⟩, by simp [intOf]⟩
          · have hw' : (M 15 == 0) = false := by simpa using hw
            have HW := Lib.hid hw
            clear hw
            go_wp2_with fail
            obtain ⟨W1, rfl⟩ : ∃ W1 : World, W1 = wr := ⟨_, rfl⟩
            go_loopw [73, 13] (fun a v wx => ∃ s : Int, a = .int .i64 s ∧ 0 ≤ s ∧ s ≤ 4 ∧ wx.ownsRow W1.heap.size 54 3 v (vcnt 3 s.toNat) (vals M 3 s.toNat) ∧ Below W1.heap.size W1 wx) (fun a _ _ => 4 - (intOf a).toNat)
            case atStart => exact ⟨0, rfl, by omega, by omega, ⟨by simp [vals, vcnt], .inl ⟨rfl, by simp [vcnt]⟩⟩, Below.refl _ _⟩
            case round =>
              obtain ⟨s, rfl, hs0, hs1, hown, hBx⟩ := hrel
              have cI := (HI.out.mono hBx).2.1
              have zI := (HI.out.mono hBx).1
              have HOWN := Lib.hid hown
              have HBX := Lib.hid hBx
              clear hown hBx
              have : s = 0 ∨ s = 1 ∨ s = 2 ∨ s = 3 ∨ s = 4 := by omega
              clear hs0 hs1
              rcases this with rfl | rfl | rfl | rfl | rfl
              · go_wp2_with (at_builtin; refine wpList_append_own _ rfl (.tmp 79) (.tmp 85) 100 rfl W1.heap.size 54 i0 (.agg #[.int .i64 0, .int .i64 0, .int .i64 0]) 3 24 Try.underlying100 hI0 hz0 hz1 hz2 rfl (by decide) _ _ _ rfl (HOWN.out.alloc _) ⟨_, 0, none⟩ 1 1 [.int .i64 (M 0), .int .i64 (M 1), .int .i64 (M 2)] rfl rfl (three_new _ _ _ _ _) (by simp [Value.oneCell']) (by decide) (by decide) (Nat.le_trans HBX.out.size (by simp)) ?_; intro v' w1 hown1 hgrow1 hnil1)
                have hB1 := below_grown (HBX.out.alloc HBX.out.size _) (HOWN.out.alloc _) hgrow1
                clear hgrow1 hnil1
                go_wp2_with fail
                exact ⟨⟨1, rfl, by omega, by omega, hown1, hB1⟩, by simp [intOf]⟩
              · go_wp2_with (at_builtin; refine wpList_append_own _ rfl (.tmp 79) (.tmp 85) 100 rfl W1.heap.size 54 i0 (.agg #[.int .i64 0, .int .i64 0, .int .i64 0]) 3 24 Try.underlying100 hI0 hz0 hz1 hz2 rfl (by decide) _ _ _ rfl (HOWN.out.alloc _) ⟨_, 0, none⟩ 1 1 [.int .i64 (M 4), .int .i64 (M 5), .int .i64 (M 6)] rfl rfl (three_new _ _ _ _ _) (by simp [Value.oneCell']) (by decide) (by decide) (Nat.le_trans HBX.out.size (by simp)) ?_; intro v' w1 hown1 hgrow1 hnil1)
                have hB1 := below_grown (HBX.out.alloc HBX.out.size _) (HOWN.out.alloc _) hgrow1
                clear hgrow1 hnil1
                go_wp2_with fail
                exact ⟨⟨2, rfl, by omega, by omega, hown1, hB1⟩, by simp [intOf]⟩
              · go_wp2_with (at_builtin; refine wpList_append_own _ rfl (.tmp 79) (.tmp 85) 100 rfl W1.heap.size 54 i0 (.agg #[.int .i64 0, .int .i64 0, .int .i64 0]) 3 24 Try.underlying100 hI0 hz0 hz1 hz2 rfl (by decide) _ _ _ rfl (HOWN.out.alloc _) ⟨_, 0, none⟩ 1 1 [.int .i64 (M 8), .int .i64 (M 9), .int .i64 (M 10)] rfl rfl (three_new _ _ _ _ _) (by simp [Value.oneCell']) (by decide) (by decide) (Nat.le_trans HBX.out.size (by simp)) ?_; intro v' w1 hown1 hgrow1 hnil1)
                have hB1 := below_grown (HBX.out.alloc HBX.out.size _) (HOWN.out.alloc _) hgrow1
                clear hgrow1 hnil1
                go_wp2_with fail
                exact ⟨⟨3, rfl, by omega, by omega, hown1, hB1⟩, by simp [intOf]⟩
              · go_wp2_with fail
                exact ⟨⟨4, rfl, by omega, by omega, HOWN.out, HBX.out⟩, by simp [intOf]⟩
              · have hown := HOWN.out
                obtain ⟨g, cap, rfl, hg0, hg1, k0, k1, k2, k3, k4, k5, k6, k7, k8⟩ := nine_row (show wr.ownsRow W1.heap.size 54 3 _ 3 [.int .i64 (M 0), .int .i64 (M 1), .int .i64 (M 2), .int .i64 (M 4), .int .i64 (M 5), .int .i64 (M 6), .int .i64 (M 8), .int .i64 (M 9), .int .i64 (M 10)] from hown)
                clear hown
                have TH := Lib.hid (three_any (M 0) (M 1) (M 2) (M 4) (M 5) (M 6) (M 8) (M 9) (M 10) (HWD.out 0 (by decide)).1 (HWD.out 0 (by decide)).2.1 (HWD.out 0 (by decide)).2.2 (HWD.out 1 (by decide)).1 (HWD.out 1 (by decide)).2.1 (HWD.out 1 (by decide)).2.2 (HWD.out 2 (by decide)).1 (HWD.out 2 (by decide)).2.1 (HWD.out 2 (by decide)).2.2)
                rw [show det3 (M 0) (M 1) (M 2) (M 4) (M 5) (M 6) (M 8) (M 9) (M 10) = So.oth S 3 by
                  obtain ⟨p0, p1, p2, _⟩ := HROW.out 0 (by decide)
                  obtain ⟨p3, p4, p5, _⟩ := HROW.out 1 (by decide)
                  obtain ⟨p6, p7, p8, _⟩ := HROW.out 2 (by decide)
                  rw [p0, p1, p2, p3, p4, p5, p6, p7, p8]; rfl] at TH
                go_upto_region 30 with fail
                have hB3 := hB2.trans (HBX.out.mono hB2.size)
                have hS := (show RCell W1 W0.heap.size _ _ from HG.out).mono HBX.out
                have hI := HI.out.mono HBX.out
                have hz3 : W0.heap.size < wr.heap.size := Nat.lt_of_lt_of_le hz HBX.out.size
                have HS := Lib.hid hS
                have HII := Lib.hid hI
                have HB3 := Lib.hid hB3
                clear hS hI hB3 hG cI zI fI HOWN HBX hB2 hg0
                obtain ⟨W2, rfl⟩ : ∃ W2 : World, W2 = wr := ⟨_, rfl⟩
                go_cut [15] (fun s15 wx => ∃ g : Nat, s15 = .pointer (some ⟨g, 0, none⟩) ∧ W2.heap.size ≤ g ∧ RCell wx g (.int .i64 (hi (So.oth S 3))) (.int .u64 (lo (So.oth S 3))) ∧ Below W2.heap.size W2 wx)
                case first =>
                  go_region_held3 (fun w' => Below W2.heap.size W2 w' ∧ ∀ b o, b < W2.heap.size → w'.cell? ⟨b, o, none⟩ = W2.cell? ⟨b, o, none⟩)
                    (first | exact keep0 _ | exact keep_call ‹_› hn | exact keep_alloc ‹_› | exact keep_re ‹_› (by first | assumption | exact Nat.le_refl _) | exact keep_set (keep_set ‹_› (by first | assumption | exact Nat.le_refl _)) (by first | assumption | exact Nat.le_refl _))
                    (first
                      | (go_at_call 42; (with_reducible refine (TH.out _).mono ?_); rintro e w1 ⟨rfl, hn⟩; have hz := keep_sz ‹_› hn; first | have hG := fresh2 hn | have hG := fresh2 (undrew hn) | have hG := carry2 hG hn | skip))
                  all_goals (go_wp2_with fail; go_meet)
                  all_goals refine ⟨_, rfl, (by first | assumption | exact Nat.le_refl _ | (simp <;> omega)), ⟨(by first | (simp [go_sem]; done) | (simp [go_sem, *]; done)), (by first | (simp [go_sem]; done) | (simp [go_sem, *]; done)), (by first | (simp [go_sem]; done) | (simp [go_sem, *]; done)), (by first | (simp [go_sem]; done) | (simp [go_sem, *]; done)), (by first | (simp; done) | (simp; omega))⟩, keep_below ‹_›⟩
                case rest =>
                  obtain ⟨g2, rfl, hg2, hR, hBc⟩ := hcut
                  have hS := HS.out.mono hBc
                  have hI := HII.out.mono hBc
                  have hB4 := HB3.out.trans (hBc.mono HB3.out.size)
                  have ne1 : ¬ g2 = W0.heap.size := by omega
                  have ne2 : ¬ W0.heap.size = g2 := by omega
                  have hsz := hBc.size
                  clear k0 k1 k2 k3 k4 k5 k6 k7 k8 hBc HS HII HB3 TH
                  unfold RCell at hR hS
                  obtain ⟨X, hX⟩ : ∃ X, X = So.oth S 3 := ⟨_, rfl⟩
                  rw [← hX] at hR
                  have HX := Lib.hid hX
                  clear hX
                  have hlt : w.heap.size + 1 < W0.heap.size := HZM.out
                  go_wp2_with fail
                  refine (add_any (So.psum S 3) (X) (isL _) (isL _) _).mono ?_
                  rintro e w6 ⟨rfl, hn⟩
                  replace hS := carry2 hS hn
                  replace hI := hI.mono hn
                  replace hB4 := hB4.trans (hn.mono hB4.size)
                  have hsz2 := hn.size
                  clear hn hR
                  go_wp2_with fail
                  have e : So.psum S (3 + 1) = So.psum S 3 + X := by
                    have := (HROW.out 3 (by decide)).2.2.2
                    show So.psum S 3 + So.cof S 3 = _
                    unfold So.cof
                    rw [if_neg (by rw [← this]; exact HW.out), HX.out]
                    rfl
                  exact ⟨⟨4, rfl, by omega, by omega, (hI.far (by omega)).far (by omega), by rw [show (4 : Int).toNat = 3 + 1 from rfl, e]; exact RCell.put2 hS, by simp; exact hS.2.2.2.2, (hB4.setCell (by simp; omega) _).setCell (by simp; omega) _⟩, by simp [intOf]⟩
        · go_wp2_with fail
          refine (sign_any (So.psum S 4) (isL _) _).mono ?_
          rintro e w6 ⟨rfl, hn⟩
          go_wp2_with fail
          go_ret2
          exact ⟨.inr ⟨S, h, HSS.out, by rw [HAT.out, HSM.out]; rfl⟩, hB2.trans (hn.mono hB2.size)⟩
end Go.Proofs.Yteieeclflfbinaa
