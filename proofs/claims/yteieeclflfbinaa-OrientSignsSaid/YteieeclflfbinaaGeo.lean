/- The contracts of the points' parts: which may be loaded, differences, determinants. -/
import Derived.Test.YteieeclflfbinaaRef1
import Derived.Deep.RegionHeld3
import Derived.Deep.DeepCutAuto
namespace Go.Proofs.Yteieeclflfbinaa
open Go.RowKit Go.Proofs
set_option linter.unusedVariables false

def inB (n : Int) : Bool := decide (-1073741824 ≤ n ∧ n ≤ 1073741824)
theorem inB_true {n : Int} (h : inB n = true) : -1073741824 ≤ n ∧ n ≤ 1073741824 := by simpa [inB] using h

theorem in_any (n : Int) (w : World) :
    Calls Try.prog 41 #[.int .i64 n] w fun e w' => e = .returned (.bool (inB n)) ∧ w = w' := by
  by_cases h1 : -1073741824 ≤ n
  · have H := Lib.hid (show decide (n ≤ 1073741824) = inB n by unfold inB; simp [h1])
    go_enter Try.func41, Try.ntmps41
    go_wp2
    go_ret
    exact ⟨ret_bool H.out, rfl⟩
  · have H := Lib.hid (show false = inB n by unfold inB; simp; omega)
    go_enter Try.func41, Try.ntmps41
    go_wp2
    go_ret
    exact ⟨ret_bool H.out, rfl⟩

def mayB (x y z : Int) : Bool := inB x && inB y && inB z

theorem may_any (x y z : Int) (w : World) :
    Calls Try.prog 26 #[.agg #[.int .i64 x, .int .i64 y, .int .i64 z]] w fun e w' => e = .returned (.bool (mayB x y z)) ∧ Below w.heap.size w w' := by
  go_enter Try.func26, Try.ntmps26
  go_wp2_with (go_at_call 41; refine (in_any _ _).mono ?_; rintro e w1 ⟨rfl, rfl⟩)
  all_goals (go_ret; exact ⟨ret_bool (by simp [mayB, *]), bl1 (Below.refl _ _)⟩)

theorem rfit1_any (n : Int) (w : World) :
    Calls Try.prog 45 #[.int .i64 n] w fun e w' => e = .returned (.bool (inB n)) ∧ w = w' := by
  by_cases h1 : -1073741824 ≤ n
  · have H := Lib.hid (show decide (n ≤ 1073741824) = inB n by unfold inB; simp [h1])
    go_enter Try.func45, Try.ntmps45
    go_wp2
    go_ret
    exact ⟨ret_bool H.out, rfl⟩
  · have H := Lib.hid (show false = inB n by unfold inB; simp; omega)
    go_enter Try.func45, Try.ntmps45
    go_wp2
    go_ret
    exact ⟨ret_bool H.out, rfl⟩

theorem rfit_any (x y z : Int) (w : World) :
    Calls Try.prog 29 #[.agg #[.int .i64 x, .int .i64 y, .int .i64 z]] w fun e w' => e = .returned (.bool (mayB x y z)) ∧ Below w.heap.size w w' := by
  go_enter Try.func29, Try.ntmps29
  go_wp2_with (go_at_call 45; refine (rfit1_any _ _).mono ?_; rintro e w1 ⟨rfl, rfl⟩)
  all_goals (go_ret; exact ⟨ret_bool (by simp [mayB, *]), bl1 (Below.refl _ _)⟩)

theorem minor_any (a b c d : Int) (h1 : -2147483648 ≤ a) (h1' : a ≤ 2147483648) (h2 : -2147483648 ≤ b) (h2' : b ≤ 2147483648) (h3 : -2147483648 ≤ c) (h3' : c ≤ 2147483648) (h4 : -2147483648 ≤ d) (h4' : d ≤ 2147483648) (w : World) :
    Calls Try.prog 36 #[.int .i64 a, .int .i64 b, .int .i64 c, .int .i64 d] w fun e w' => e = .returned (.agg #[.int .i64 (hi (a * d - b * c)), .int .u64 (lo (a * d - b * c))]) ∧ Below w.heap.size w w' := by
  go_enter Try.func36, Try.ntmps36
  go_wp2_with fail
  refine (prod_any a d (by omega) (by omega) (by omega) (by omega) _).mono ?_
  rintro e w1 ⟨rfl, hb⟩
  obtain ⟨hc, hf⟩ := bcell hb
  (first | (with_reducible have hz := szW hb) | (with_reducible have hz := sz5 hb) | (with_reducible have hz := sz4 hb) | (with_reducible have hz := sz3 hb) | (with_reducible have hz := sz2 hb) | (with_reducible have hz := sz1 hb) | skip)
  go_wp2_with fail
  refine (prod_any b c (by omega) (by omega) (by omega) (by omega) _).mono ?_
  rintro e w2 ⟨rfl, hn⟩
  replace hb := chain hb hn
  clear hn hc hf
  try clear hz
  obtain ⟨hc, hf⟩ := bcell hb
  (first | (with_reducible have hz := szW hb) | (with_reducible have hz := sz5 hb) | (with_reducible have hz := sz4 hb) | (with_reducible have hz := sz3 hb) | (with_reducible have hz := sz2 hb) | (with_reducible have hz := sz1 hb) | skip)
  go_wp2_with fail
  refine (sub_any (a * d) (b * c) (isL _) (isL _) _).mono ?_
  rintro e w3 ⟨rfl, hn⟩
  replace hb := chain hb hn
  clear hn hc hf
  try clear hz
  obtain ⟨hc, hf⟩ := bcell hb
  (first | (with_reducible have hz := szW hb) | (with_reducible have hz := sz5 hb) | (with_reducible have hz := sz4 hb) | (with_reducible have hz := sz3 hb) | (with_reducible have hz := sz2 hb) | (with_reducible have hz := sz1 hb) | skip)
  go_wp2
  exact bodyPost_ret (v := .agg #[.int .i64 (hi (a * d - b * c)), .int .u64 (lo (a * d - b * c))]) (by simp [results, Try.results36, go_sem, hc]) rfl
    ⟨rfl, ((bl1 hb).setCell (by simp) _).setCell (by simp) _⟩

def det3 (px py pz qx qy qz rx ry rz : Int) : Int :=
  px * (qy * rz - qz * ry) + py * (qz * rx - qx * rz) + pz * (qx * ry - qy * rx)

/-- a number that a difference of two loaded coordinates may be -/
def Wd (n : Int) : Prop := -2147483648 ≤ n ∧ n ≤ 2147483648

/-- nine cells of three blocks -/
def Nine (W : World) (B : Nat) (p0 p1 p2 q0 q1 q2 r0 r1 r2 : Int) : Prop :=
  W.cell? ⟨B, 0, none⟩ = some (.int .i64 p0) ∧ W.cell? ⟨B, 1, none⟩ = some (.int .i64 p1) ∧ W.cell? ⟨B, 2, none⟩ = some (.int .i64 p2) ∧
  W.cell? ⟨B + 1, 0, none⟩ = some (.int .i64 q0) ∧ W.cell? ⟨B + 1, 1, none⟩ = some (.int .i64 q1) ∧ W.cell? ⟨B + 1, 2, none⟩ = some (.int .i64 q2) ∧
  W.cell? ⟨B + 1 + 1, 0, none⟩ = some (.int .i64 r0) ∧ W.cell? ⟨B + 1 + 1, 1, none⟩ = some (.int .i64 r1) ∧ W.cell? ⟨B + 1 + 1, 2, none⟩ = some (.int .i64 r2) ∧
  B < W.heap.size ∧ B + 1 < W.heap.size ∧ B + 1 + 1 < W.heap.size
theorem Nine.mono {W w1 : World} {B : Nat} {p0 p1 p2 q0 q1 q2 r0 r1 r2 : Int} (h : Nine W B p0 p1 p2 q0 q1 q2 r0 r1 r2) (hb : Below W.heap.size W w1) : Nine w1 B p0 p1 p2 q0 q1 q2 r0 r1 r2 := by
  obtain ⟨m0, m1, m2, n0, n1, n2, o0, o1, o2, z0, z1, z2⟩ := h
  obtain ⟨hc, hf, hl⟩ := bcell3 hb
  exact ⟨(hc _ _ z0).trans m0, (hc _ _ z0).trans m1, (hc _ _ z0).trans m2, (hc _ _ z1).trans n0, (hc _ _ z1).trans n1, (hc _ _ z1).trans n2, (hc _ _ z2).trans o0, (hc _ _ z2).trans o1, (hc _ _ z2).trans o2, hl _ z0, hl _ z1, hl _ z2⟩
theorem nine_new (w : World) (t : TypeId) (p0 p1 p2 q0 q1 q2 r0 r1 r2 : Int) (o : Obj) : Nine ((((w.alloc (.cells #[.int .i64 p0, .int .i64 p1, .int .i64 p2] t)).alloc (.cells #[.int .i64 q0, .int .i64 q1, .int .i64 q2] t)).alloc (.cells #[.int .i64 r0, .int .i64 r1, .int .i64 r2] t)).alloc o) w.heap.size p0 p1 p2 q0 q1 q2 r0 r1 r2 := by
  unfold Nine
  refine ⟨by simp [go_sem], by simp [go_sem], by simp [go_sem], by simp [go_sem], by simp [go_sem], by simp [go_sem], by simp [go_sem], by simp [go_sem], by simp [go_sem], by simp <;> omega, by simp <;> omega, by simp <;> omega⟩

/-- a block of two cells that was made behind W and stands at u -/
def Two (W u : World) (g : Nat) (a b : Value) : Prop := W.heap.size ≤ g ∧ g < u.heap.size ∧ u.cell? ⟨g, 0, none⟩ = some a ∧ u.cell? ⟨g, 1, none⟩ = some b
theorem Two.mono {W u w1 : World} {g : Nat} {a b : Value} (h : Two W u g a b) (hb : Below u.heap.size u w1) : Two W w1 g a b := by
  obtain ⟨z, l, c0, c1⟩ := h
  obtain ⟨hc, hf, hl⟩ := bcell3 hb
  exact ⟨z, hl _ l, (hc _ _ l).trans c0, (hc _ _ l).trans c1⟩

theorem six_call {w u w1 : World} {g1 g2 g3 : Nat} {a1 b1 a2 b2 a3 b3 : Value} (h : (u.cell? ⟨g1, 0, none⟩ = some a1 ∧ u.cell? ⟨g1, 1, none⟩ = some b1 ∧ u.cell? ⟨g2, 0, none⟩ = some a2 ∧ u.cell? ⟨g2, 1, none⟩ = some b2 ∧
    u.cell? ⟨g3, 0, none⟩ = some a3 ∧ u.cell? ⟨g3, 1, none⟩ = some b3 ∧ g1 < u.heap.size ∧ g2 < u.heap.size ∧ g3 < u.heap.size) ∧ Below w.heap.size w u) (hn : Below u.heap.size u w1) :
    (w1.cell? ⟨g1, 0, none⟩ = some a1 ∧ w1.cell? ⟨g1, 1, none⟩ = some b1 ∧ w1.cell? ⟨g2, 0, none⟩ = some a2 ∧ w1.cell? ⟨g2, 1, none⟩ = some b2 ∧
    w1.cell? ⟨g3, 0, none⟩ = some a3 ∧ w1.cell? ⟨g3, 1, none⟩ = some b3 ∧ g1 < w1.heap.size ∧ g2 < w1.heap.size ∧ g3 < w1.heap.size) ∧ Below w.heap.size w w1 := by
  obtain ⟨⟨c0, c1, c2, c3, c4, c5, l1, l2, l3⟩, hB⟩ := h
  obtain ⟨hc, hf, hl⟩ := bcell3 hn
  exact ⟨⟨(hc _ _ l1).trans c0, (hc _ _ l1).trans c1, (hc _ _ l2).trans c2, (hc _ _ l2).trans c3, (hc _ _ l3).trans c4, (hc _ _ l3).trans c5, hl _ l1, hl _ l2, hl _ l3⟩, chain hB hn⟩
theorem six_set {w u : World} {g1 g2 g3 r : Nat} {a1 b1 a2 b2 a3 b3 x y : Value} (h : (u.cell? ⟨g1, 0, none⟩ = some a1 ∧ u.cell? ⟨g1, 1, none⟩ = some b1 ∧ u.cell? ⟨g2, 0, none⟩ = some a2 ∧ u.cell? ⟨g2, 1, none⟩ = some b2 ∧
    u.cell? ⟨g3, 0, none⟩ = some a3 ∧ u.cell? ⟨g3, 1, none⟩ = some b3 ∧ g1 < u.heap.size ∧ g2 < u.heap.size ∧ g3 < u.heap.size) ∧ Below w.heap.size w u) (n1 : g1 ≠ r) (n2 : g2 ≠ r) (n3 : g3 ≠ r) (hr : w.heap.size ≤ r) :
    (((u.setCell ⟨r, 0, none⟩ x).setCell ⟨r, 1, none⟩ y).cell? ⟨g1, 0, none⟩ = some a1 ∧ ((u.setCell ⟨r, 0, none⟩ x).setCell ⟨r, 1, none⟩ y).cell? ⟨g1, 1, none⟩ = some b1 ∧
    ((u.setCell ⟨r, 0, none⟩ x).setCell ⟨r, 1, none⟩ y).cell? ⟨g2, 0, none⟩ = some a2 ∧ ((u.setCell ⟨r, 0, none⟩ x).setCell ⟨r, 1, none⟩ y).cell? ⟨g2, 1, none⟩ = some b2 ∧
    ((u.setCell ⟨r, 0, none⟩ x).setCell ⟨r, 1, none⟩ y).cell? ⟨g3, 0, none⟩ = some a3 ∧ ((u.setCell ⟨r, 0, none⟩ x).setCell ⟨r, 1, none⟩ y).cell? ⟨g3, 1, none⟩ = some b3 ∧
    g1 < ((u.setCell ⟨r, 0, none⟩ x).setCell ⟨r, 1, none⟩ y).heap.size ∧ g2 < ((u.setCell ⟨r, 0, none⟩ x).setCell ⟨r, 1, none⟩ y).heap.size ∧ g3 < ((u.setCell ⟨r, 0, none⟩ x).setCell ⟨r, 1, none⟩ y).heap.size) ∧
    Below w.heap.size w ((u.setCell ⟨r, 0, none⟩ x).setCell ⟨r, 1, none⟩ y) := by
  obtain ⟨⟨c0, c1, c2, c3, c4, c5, l1, l2, l3⟩, hB⟩ := h
  have e : ∀ g o, g ≠ r → ((u.setCell ⟨r, 0, none⟩ x).setCell ⟨r, 1, none⟩ y).cell? ⟨g, o, none⟩ = u.cell? ⟨g, o, none⟩ := fun g o hg =>
    World.cell?_of_block ((Below.heap_setCell _ _ _ _ hg).trans (Below.heap_setCell _ _ _ _ hg))
  exact ⟨⟨(e _ _ n1).trans c0, (e _ _ n1).trans c1, (e _ _ n2).trans c2, (e _ _ n2).trans c3, (e _ _ n3).trans c4, (e _ _ n3).trans c5, by simpa using l1, by simpa using l2, by simpa using l3⟩, (hB.setCell hr _).setCell hr _⟩

set_option maxHeartbeats 1000000 in
theorem three_any (p0 p1 p2 q0 q1 q2 r0 r1 r2 : Int) (a0 : Wd p0) (a1 : Wd p1) (a2 : Wd p2) (b0 : Wd q0) (b1 : Wd q1) (b2 : Wd q2) (c0 : Wd r0) (c1 : Wd r1) (c2 : Wd r2) (w : World) :
    Calls Try.prog 42 #[.agg #[.int .i64 p0, .int .i64 p1, .int .i64 p2], .agg #[.int .i64 q0, .int .i64 q1, .int .i64 q2], .agg #[.int .i64 r0, .int .i64 r1, .int .i64 r2]] w fun e w' =>
      e = .returned (.agg #[.int .i64 (hi (det3 p0 p1 p2 q0 q1 q2 r0 r1 r2)), .int .u64 (lo (det3 p0 p1 p2 q0 q1 q2 r0 r1 r2))]) ∧ Below w.heap.size w w' := by
  obtain ⟨a0, a0'⟩ := a0
  obtain ⟨a1, a1'⟩ := a1
  obtain ⟨a2, a2'⟩ := a2
  obtain ⟨b0, b0'⟩ := b0
  obtain ⟨b1, b1'⟩ := b1
  obtain ⟨b2, b2'⟩ := b2
  obtain ⟨c0, c0'⟩ := c0
  obtain ⟨c1, c1'⟩ := c1
  obtain ⟨c2, c2'⟩ := c2
  unfold det3
  go_enter Try.func42, Try.ntmps42
  go_upto_region 1 with fail
  have hN := nine_new w 54 p0 p1 p2 q0 q1 q2 r0 r1 r2 (Obj.cells #[Value.int IntKind.i64 0, Value.int IntKind.u64 0] 26)
  have hB0 : ∀ w1, Below ((((w.alloc (.cells #[.int .i64 p0, .int .i64 p1, .int .i64 p2] 54)).alloc (.cells #[.int .i64 q0, .int .i64 q1, .int .i64 q2] 54)).alloc (.cells #[.int .i64 r0, .int .i64 r1, .int .i64 r2] 54)).alloc (Obj.cells #[Value.int IntKind.i64 0, Value.int IntKind.u64 0] 26)).heap.size
    ((((w.alloc (.cells #[.int .i64 p0, .int .i64 p1, .int .i64 p2] 54)).alloc (.cells #[.int .i64 q0, .int .i64 q1, .int .i64 q2] 54)).alloc (.cells #[.int .i64 r0, .int .i64 r1, .int .i64 r2] 54)).alloc (Obj.cells #[Value.int IntKind.i64 0, Value.int IntKind.u64 0] 26)) w1 → Below w.heap.size w w1 := fun _ h => bl4 h
  have hR := rcell_new ((((w.alloc (.cells #[.int .i64 p0, .int .i64 p1, .int .i64 p2] 54)).alloc (.cells #[.int .i64 q0, .int .i64 q1, .int .i64 q2] 54)).alloc (.cells #[.int .i64 r0, .int .i64 r1, .int .i64 r2] 54))) (.int .i64 0) (.int .u64 0) 26
  simp only [World.size_alloc] at hR
  generalize ((((w.alloc (.cells #[.int .i64 p0, .int .i64 p1, .int .i64 p2] 54)).alloc (.cells #[.int .i64 q0, .int .i64 q1, .int .i64 q2] 54)).alloc (.cells #[.int .i64 r0, .int .i64 r1, .int .i64 r2] 54)).alloc (Obj.cells #[Value.int IntKind.i64 0, Value.int IntKind.u64 0] 26)) = W at *
  have HB := Lib.hid hB0
  have HZ := Lib.hid (show w.heap.size + 1 + 1 + 1 < W.heap.size from hR.2.2.2.2)
  have HN := Lib.hid hN
  have HR := Lib.hid hR
  clear hB0 hR
  obtain ⟨m0, m1, m2, n0, n1, n2, o0, o1, o2, z0, z1, z2⟩ := hN
  go_cut [7] (fun s7 wx => ∃ g : Nat, s7 = .pointer (some ⟨g, 0, none⟩) ∧ W.heap.size ≤ g ∧ g < wx.heap.size ∧ wx.cell? ⟨g, 0, none⟩ = some (.int .i64 (hi (p0 * (q1 * r2 - q2 * r1)))) ∧ wx.cell? ⟨g, 1, none⟩ = some (.int .u64 (lo (p0 * (q1 * r2 - q2 * r1)))) ∧
    Below W.heap.size W wx)
  case first =>
    go_region_held3 (fun w' => Below W.heap.size W w' ∧ ∀ b o, b < W.heap.size → w'.cell? ⟨b, o, none⟩ = W.cell? ⟨b, o, none⟩)
      (first | exact keep0 _ | exact keep_call ‹_› hn | exact keep_alloc ‹_› | exact keep_re ‹_› (by first | assumption | exact Nat.le_refl _) | exact keep_set (keep_set ‹_› (by first | assumption | exact Nat.le_refl _)) (by first | assumption | exact Nat.le_refl _))
      (first
        | (go_at_call 57; (with_reducible refine (of_any p0 (by omega) (by omega) _).mono ?_); rintro e w1 ⟨rfl, hn⟩; have hz := keep_sz ‹_› hn; first | have hG := fresh2 hn | have hG := fresh2 (undrew hn) | have hG := carry2 hG hn | skip)
        | (go_at_call 36; (with_reducible refine (minor_any q1 q2 r1 r2 b1 b1' b2 b2' c1 c1' c2 c2' _).mono ?_); rintro e w1 ⟨rfl, hn⟩; have hz := keep_sz ‹_› hn; first | have hG := fresh2 hn | have hG := fresh2 (undrew hn) | have hG := carry2 hG hn | skip)
        | (go_at_call 56; (with_reducible refine (mul_any p0 (q1 * r2 - q2 * r1) (isL _) (isL _) _).mono ?_); rintro e w1 ⟨rfl, hn⟩; have hz := keep_sz ‹_› hn; first | have hG := fresh2 hn | have hG := fresh2 (undrew hn) | have hG := carry2 hG hn | skip))
    all_goals (go_wp2_with fail; go_meet)
    all_goals refine ⟨_, rfl, (by first | assumption | exact Nat.le_refl _), (by first | (simp; done) | (simp [hG]; done)), (by first | (simp [go_sem]; done) | (simp [go_sem, hG]; done)), (by first | (simp [go_sem]; done) | (simp [go_sem, hG]; done)), keep_below ‹_›⟩
  case rest =>
    obtain ⟨g, rfl, t1, t2, t3, t4, hB⟩ := hcut
    have HG := Lib.hid (show Two W wc g _ _ from ⟨t1, t2, t3, t4⟩)
    have HB1 := Lib.hid hB
    have HZ1 := Lib.hid (show W.heap.size ≤ wc.heap.size from hB.size)
    have hN := HN.out.mono hB
    clear t1 t2 t3 t4 hB m0 m1 m2 n0 n1 n2 o0 o1 o2 z0 z1 z2 HN
    have HN := Lib.hid hN
    obtain ⟨m0, m1, m2, n0, n1, n2, o0, o1, o2, z0, z1, z2⟩ := hN
    obtain ⟨W1, rfl⟩ : ∃ W1 : World, W1 = wc := ⟨_, rfl⟩
    go_upto_region 2 with fail
    go_cut [8] (fun s8 wx => ∃ g : Nat, s8 = .pointer (some ⟨g, 0, none⟩) ∧ W1.heap.size ≤ g ∧ g < wx.heap.size ∧ wx.cell? ⟨g, 0, none⟩ = some (.int .i64 (hi (p1 * (q2 * r0 - q0 * r2)))) ∧ wx.cell? ⟨g, 1, none⟩ = some (.int .u64 (lo (p1 * (q2 * r0 - q0 * r2)))) ∧
      Below W1.heap.size W1 wx)
    case first =>
      go_region_held3 (fun w' => Below W1.heap.size W1 w' ∧ ∀ b o, b < W1.heap.size → w'.cell? ⟨b, o, none⟩ = W1.cell? ⟨b, o, none⟩)
        (first | exact keep0 _ | exact keep_call ‹_› hn | exact keep_alloc ‹_› | exact keep_re ‹_› (by first | assumption | exact Nat.le_refl _) | exact keep_set (keep_set ‹_› (by first | assumption | exact Nat.le_refl _)) (by first | assumption | exact Nat.le_refl _))
        (first
          | (go_at_call 57; (with_reducible refine (of_any p1 (by omega) (by omega) _).mono ?_); rintro e w1 ⟨rfl, hn⟩; have hz := keep_sz ‹_› hn; first | have hG := fresh2 hn | have hG := fresh2 (undrew hn) | have hG := carry2 hG hn | skip)
          | (go_at_call 36; (with_reducible refine (minor_any q2 q0 r2 r0 b2 b2' b0 b0' c2 c2' c0 c0' _).mono ?_); rintro e w1 ⟨rfl, hn⟩; have hz := keep_sz ‹_› hn; first | have hG := fresh2 hn | have hG := fresh2 (undrew hn) | have hG := carry2 hG hn | skip)
          | (go_at_call 56; (with_reducible refine (mul_any p1 (q2 * r0 - q0 * r2) (isL _) (isL _) _).mono ?_); rintro e w1 ⟨rfl, hn⟩; have hz := keep_sz ‹_› hn; first | have hG := fresh2 hn | have hG := fresh2 (undrew hn) | have hG := carry2 hG hn | skip))
      all_goals (go_wp2_with fail; go_meet)
      all_goals refine ⟨_, rfl, (by first | assumption | exact Nat.le_refl _), (by first | (simp; done) | (simp [hG]; done)), (by first | (simp [go_sem]; done) | (simp [go_sem, hG]; done)), (by first | (simp [go_sem]; done) | (simp [go_sem, hG]; done)), keep_below ‹_›⟩
    case rest =>
      obtain ⟨g2, rfl, t1, t2, t3, t4, hB⟩ := hcut
      have HG2 := Lib.hid (show Two W1 wc g2 _ _ from ⟨t1, t2, t3, t4⟩)
      have HG1 := Lib.hid (HG.out.mono hB)
      have HB2 := Lib.hid (chain HB1.out hB)
      have HZ2 := Lib.hid (show W1.heap.size ≤ wc.heap.size from hB.size)
      have hN := HN.out.mono hB
      clear t1 t2 t3 t4 hB m0 m1 m2 n0 n1 n2 o0 o1 o2 z0 z1 z2 HN HG HB1
      have HN := Lib.hid hN
      obtain ⟨m0, m1, m2, n0, n1, n2, o0, o1, o2, z0, z1, z2⟩ := hN
      obtain ⟨W2, rfl⟩ : ∃ W2 : World, W2 = wc := ⟨_, rfl⟩
      go_upto_region 3 with fail
      go_cut [9] (fun s9 wx => ∃ g : Nat, s9 = .pointer (some ⟨g, 0, none⟩) ∧ W2.heap.size ≤ g ∧ g < wx.heap.size ∧ wx.cell? ⟨g, 0, none⟩ = some (.int .i64 (hi (p2 * (q0 * r1 - q1 * r0)))) ∧ wx.cell? ⟨g, 1, none⟩ = some (.int .u64 (lo (p2 * (q0 * r1 - q1 * r0)))) ∧
        Below W2.heap.size W2 wx)
      case first =>
        go_region_held3 (fun w' => Below W2.heap.size W2 w' ∧ ∀ b o, b < W2.heap.size → w'.cell? ⟨b, o, none⟩ = W2.cell? ⟨b, o, none⟩)
          (first | exact keep0 _ | exact keep_call ‹_› hn | exact keep_alloc ‹_› | exact keep_re ‹_› (by first | assumption | exact Nat.le_refl _) | exact keep_set (keep_set ‹_› (by first | assumption | exact Nat.le_refl _)) (by first | assumption | exact Nat.le_refl _))
          (first
            | (go_at_call 57; (with_reducible refine (of_any p2 (by omega) (by omega) _).mono ?_); rintro e w1 ⟨rfl, hn⟩; have hz := keep_sz ‹_› hn; first | have hG := fresh2 hn | have hG := fresh2 (undrew hn) | have hG := carry2 hG hn | skip)
            | (go_at_call 36; (with_reducible refine (minor_any q0 q1 r0 r1 b0 b0' b1 b1' c0 c0' c1 c1' _).mono ?_); rintro e w1 ⟨rfl, hn⟩; have hz := keep_sz ‹_› hn; first | have hG := fresh2 hn | have hG := fresh2 (undrew hn) | have hG := carry2 hG hn | skip)
            | (go_at_call 56; (with_reducible refine (mul_any p2 (q0 * r1 - q1 * r0) (isL _) (isL _) _).mono ?_); rintro e w1 ⟨rfl, hn⟩; have hz := keep_sz ‹_› hn; first | have hG := fresh2 hn | have hG := fresh2 (undrew hn) | have hG := carry2 hG hn | skip))
        all_goals (go_wp2_with fail; go_meet)
        all_goals refine ⟨_, rfl, (by first | assumption | exact Nat.le_refl _), (by first | (simp; done) | (simp [hG]; done)), (by first | (simp [go_sem]; done) | (simp [go_sem, hG]; done)), (by first | (simp [go_sem]; done) | (simp [go_sem, hG]; done)), keep_below ‹_›⟩
      case rest =>
        obtain ⟨g3, rfl, t1, t2, t3, t4, hB⟩ := hcut
        have h3 : Two W2 wc g3 _ _ := ⟨t1, t2, t3, t4⟩
        have h2 := HG2.out.mono hB
        have h1 := HG1.out.mono hB
        have hB3 := chain HB2.out hB
        have HB3 := Lib.hid hB3
        have hR := HR.out.mono hB3
        clear t1 t2 t3 t4 hB m0 m1 m2 n0 n1 n2 o0 o1 o2 z0 z1 z2 HN HG1 HG2 HB2
        obtain ⟨x0, x1, x2, x3⟩ := h1
        obtain ⟨y0, y1, y2, y3⟩ := h2
        obtain ⟨v0, v1, v2, v3⟩ := h3
        obtain ⟨W3, rfl⟩ : ∃ W3 : World, W3 = wc := ⟨_, rfl⟩
        have hG := hR
        have q1' := HZ.out
        have q2' := HZ1.out
        have q3' := HZ2.out
        have e4 : g ≠ w.heap.size + 1 + 1 + 1 := by omega
        have e5 : g2 ≠ w.heap.size + 1 + 1 + 1 := by omega
        have e6 : g3 ≠ w.heap.size + 1 + 1 + 1 := by omega
        clear q1' q2' q3'
        go_wp2_with fail
        go_region_held3 (fun w' => (w'.cell? ⟨g, 0, none⟩ = some (.int .i64 (hi (p0 * (q1 * r2 - q2 * r1)))) ∧ w'.cell? ⟨g, 1, none⟩ = some (.int .u64 (lo (p0 * (q1 * r2 - q2 * r1)))) ∧ w'.cell? ⟨g2, 0, none⟩ = some (.int .i64 (hi (p1 * (q2 * r0 - q0 * r2)))) ∧ w'.cell? ⟨g2, 1, none⟩ = some (.int .u64 (lo (p1 * (q2 * r0 - q0 * r2)))) ∧
            w'.cell? ⟨g3, 0, none⟩ = some (.int .i64 (hi (p2 * (q0 * r1 - q1 * r0)))) ∧ w'.cell? ⟨g3, 1, none⟩ = some (.int .u64 (lo (p2 * (q0 * r1 - q1 * r0)))) ∧ g < w'.heap.size ∧ g2 < w'.heap.size ∧ g3 < w'.heap.size) ∧ Below w.heap.size w w')
          (first
            | exact ⟨⟨x2, x3, y2, y3, v2, v3, x1, y1, v1⟩, (HB.out _ HB3.out).drew⟩
            | exact six_call ‹_› hn
            | exact six_set ‹_› e4 e5 e6 (by omega))
          (first
            | (go_at_call 58; refine (add_any _ _ (isL _) (isL _) _).mono ?_; rintro e w1 ⟨rfl, hn⟩; first | have hG := carry2 hG hn | have hG := carry2 hG (undrew hn)))
        have hBf : Below w.heap.size w _ := And.right ‹_ ∧ Below w.heap.size w _›
        go_wp2
        exact bodyPost_ret (v := .agg #[.int .i64 (hi (p0 * (q1 * r2 - q2 * r1) + p1 * (q2 * r0 - q0 * r2) + p2 * (q0 * r1 - q1 * r0))), .int .u64 (lo (p0 * (q1 * r2 - q2 * r1) + p1 * (q2 * r0 - q0 * r2) + p2 * (q0 * r1 - q1 * r0)))])
          (by simp [results, Try.results42, go_sem, hG]) rfl ⟨rfl, hBf⟩

theorem less_any (ax ay az bx b_ bz : Int) (h1 : inB ax = true) (h2 : inB ay = true) (h3 : inB az = true) (h4 : inB bx = true) (h5 : inB b_ = true) (h6 : inB bz = true) (w : World) :
    Calls Try.prog 34 #[.agg #[.int .i64 ax, .int .i64 ay, .int .i64 az], .agg #[.int .i64 bx, .int .i64 b_, .int .i64 bz]] w fun e w' =>
      e = .returned (.agg #[.int .i64 (ax - bx), .int .i64 (ay - b_), .int .i64 (az - bz)]) ∧ Below w.heap.size w w' := by
  obtain ⟨l1, u1⟩ := inB_true h1
  obtain ⟨l2, u2⟩ := inB_true h2
  obtain ⟨l3, u3⟩ := inB_true h3
  obtain ⟨l4, u4⟩ := inB_true h4
  obtain ⟨l5, u5⟩ := inB_true h5
  obtain ⟨l6, u6⟩ := inB_true h6
  clear h1 h2 h3 h4 h5 h6
  go_enter Try.func34, Try.ntmps34
  go_wp2
  exact bodyPost_ret (v := .agg #[.int .i64 (ax - bx), .int .i64 (ay - b_), .int .i64 (az - bz)]) (by simp [results, Try.results34, go_sem]) rfl
    ⟨rfl, (((Below.refl _ _).alloc (Nat.le_refl _) _).alloc (by simp) _).alloc (by simp <;> omega) _⟩

theorem row_any (x y z : Int) (w : World) :
    Calls Try.prog 43 #[.agg #[.int .i64 x, .int .i64 y, .int .i64 z]] w fun e w' => e = .returned (.agg #[.int .i64 x, .int .i64 y, .int .i64 z]) ∧ Below w.heap.size w w' := by
  go_enter Try.func43, Try.ntmps43
  go_wp2
  exact bodyPost_ret (v := .agg #[.int .i64 x, .int .i64 y, .int .i64 z]) (by simp [results, Try.results43, go_sem]) rfl
    ⟨rfl, (((Below.refl _ _).alloc (Nat.le_refl _) _).alloc (by simp) _)⟩

end Go.Proofs.Yteieeclflfbinaa
