/- The contract of package orient's Line where it answers. -/
import Derived.Test.YteieeclflfbinaaLine
import Derived.Test.YteieeclflfbinaaFlow
import Derived.RegionTactic
namespace Go.Proofs.Yteieeclflfbinaa
open Go.RowKit Go.Proofs
set_option linter.unusedVariables false

/-- a block of three cells that the call has made; their values where d says so -/
def B3 (W u : World) (g : Nat) (d : Bool) (x y z : Int) : Prop :=
  W.heap.size ≤ g ∧ g < u.heap.size ∧ (∃ c0 c1 c2 : Value, u.cell? ⟨g, 0, none⟩ = some c0 ∧ u.cell? ⟨g, 1, none⟩ = some c1 ∧ u.cell? ⟨g, 2, none⟩ = some c2 ∧ (d = true → c0 = .int .i64 x ∧ c1 = .int .i64 y ∧ c2 = .int .i64 z)) ∧
    u.frozen? ⟨g, 0, none⟩ = false ∧ u.frozen? ⟨g, 1, none⟩ = false ∧ u.frozen? ⟨g, 2, none⟩ = false
theorem B3.mono {W u u1 : World} {g : Nat} {d : Bool} {x y z : Int} (h : B3 W u g d x y z) (hn : Below u.heap.size u u1) : B3 W u1 g d x y z := by
  obtain ⟨hc, hf, hl⟩ := bcell3 hn
  obtain ⟨h0, h1, ⟨c0, c1, c2, k0, k1, k2, k3⟩, f0, f1, f2⟩ := h
  exact ⟨h0, hl _ h1, ⟨c0, c1, c2, (hc _ _ h1).trans k0, (hc _ _ h1).trans k1, (hc _ _ h1).trans k2, k3⟩, (hf _ _ h1).trans f0, (hf _ _ h1).trans f1, (hf _ _ h1).trans f2⟩
theorem B3.new {W u : World} (hB : Below W.heap.size W u) (a b c : Value) (t : TypeId) (x y z : Int) : B3 W (u.alloc (.cells #[a, b, c] t)) u.heap.size false x y z :=
  ⟨hB.size, by simp, ⟨a, b, c, by simp [go_sem], by simp [go_sem], by simp [go_sem], fun h => by cases h⟩, by simp [go_sem], by simp [go_sem], by simp [go_sem]⟩
theorem B3.store {W u : World} {g : Nat} {d : Bool} {x y z : Int} (h : B3 W u g d x y z) : B3 W (((u.setCell ⟨g, 0, none⟩ (.int .i64 x)).setCell ⟨g, 1, none⟩ (.int .i64 y)).setCell ⟨g, 2, none⟩ (.int .i64 z)) g true x y z := by
  obtain ⟨h0, h1, ⟨c0, c1, c2, k0, k1, k2, k3⟩, f0, f1, f2⟩ := h
  refine ⟨h0, by simpa using h1, ⟨.int .i64 x, .int .i64 y, .int .i64 z, ?_, ?_, ?_, fun _ => ⟨rfl, rfl, rfl⟩⟩, ?_, ?_, ?_⟩ <;> simp [go_sem, *]
theorem B3.other {W u : World} {g k : Nat} {d : Bool} {x y z : Int} (h : B3 W u g d x y z) (hne : g ≠ k) (a b c : Value) : B3 W (((u.setCell ⟨k, 0, none⟩ a).setCell ⟨k, 1, none⟩ b).setCell ⟨k, 2, none⟩ c) g d x y z := by
  obtain ⟨h0, h1, ⟨c0, c1, c2, k0, k1, k2, k3⟩, f0, f1, f2⟩ := h
  have hne' : k ≠ g := fun e => hne e.symm
  refine ⟨h0, by simpa using h1, ⟨c0, c1, c2, ?_, ?_, ?_, k3⟩, ?_, ?_, ?_⟩ <;> simp [go_sem, *]
theorem B3.r3 {W u : World} {g : Nat} {x y z : Int} (h : B3 W u g true x y z) : R3 u g x y z := by
  obtain ⟨h0, h1, ⟨c0, c1, c2, k0, k1, k2, k3⟩, _⟩ := h
  obtain ⟨rfl, rfl, rfl⟩ := k3 rfl
  exact ⟨k0, k1, k2, h1⟩

theorem ptr_ne {g h : Nat} (hne : g ≠ h) : Value.pointer (some ⟨g, 0, none⟩) ≠ .pointer (some ⟨h, 0, none⟩) := by
  intro e; injection e with e; injection e with e; injection e with e; exact hne e
theorem ptr_of_ne {g h : Nat} (k : Value.pointer (some ⟨g, 0, none⟩) ≠ .pointer (some ⟨h, 0, none⟩)) : g ≠ h := fun e => k (by rw [e])
/-- the region 'p, q := less(a, c), less(b, c)': what holds in its midst -/
def LI (W : World) (ax ay az bx b_ bz cx cy cz px py pz qx qy qz : Int) (a0 : Act) (listed : Array Bool) (a : Act) (u : World) : Prop :=
  ∃ (b0 b1 b2 b3 b4 b5 b6 b7 b8 b9 : Bool) (v24 v25 v26 v27 v28 v29 v8 v9 : Value), listed = #[b0, b1, b2, b3, b4, b5, b6, b7, b8, b9] ∧
    a = (((((((a0.put (some 24) v24).put (some 25) v25).put (some 26) v26).put (some 27) v27).put (some 28) v28).put (some 29) v29).put (some 8) v8).put (some 9) v9 ∧
    (b0 = true → v24 = .agg #[.int .i64 ax, .int .i64 ay, .int .i64 az]) ∧ (b1 = true → v25 = .agg #[.int .i64 cx, .int .i64 cy, .int .i64 cz]) ∧ (b2 = true → v26 = .agg #[.int .i64 px, .int .i64 py, .int .i64 pz]) ∧
    (b3 = true → v27 = .agg #[.int .i64 bx, .int .i64 b_, .int .i64 bz]) ∧ (b4 = true → v28 = .agg #[.int .i64 cx, .int .i64 cy, .int .i64 cz]) ∧ (b5 = true → v29 = .agg #[.int .i64 qx, .int .i64 qy, .int .i64 qz]) ∧
    (b6 = true → ∃ g, v8 = .pointer (some ⟨g, 0, none⟩) ∧ B3 W u g b8 px py pz) ∧ (b7 = true → ∃ h, v9 = .pointer (some ⟨h, 0, none⟩) ∧ B3 W u h b9 qx qy qz) ∧
    (b6 = true → b7 = true → v8 ≠ v9) ∧ ((b8 = true → b6 = true) ∧ (b9 = true → b7 = true)) ∧ Below W.heap.size W u

theorem zz {m : Int} {P : Bool} (h : ((hi m == 0) && (lo m == 0)) = P) : (P = false ∧ (hi m == 0) = false) ∨ (P = false ∧ (hi m == 0) = true ∧ (lo m == 0) = false) ∨ (P = true ∧ (hi m == 0) = true ∧ (lo m == 0) = true) := by
  cases h1 : (hi m == 0) <;> cases h2 : (lo m == 0) <;> simp_all

set_option maxHeartbeats 4000000 in
theorem line_yes {ax ay az bx b_ bz cx cy cz : Int} (hm : may3 ax ay az bx b_ bz cx cy cz = true) (w : World) :
    Calls Try.prog 20 #[.agg #[.int .i64 ax, .int .i64 ay, .int .i64 az], .agg #[.int .i64 bx, .int .i64 b_, .int .i64 bz], .agg #[.int .i64 cx, .int .i64 cy, .int .i64 cz]] w fun e w' =>
      e = .returned (.tuple #[.bool (onL (ax - cx) (ay - cy) (az - cz) (bx - cx) (b_ - cy) (bz - cz)), .bool true]) ∧ Below w.heap.size w w' := by
  simp only [may3, Bool.and_eq_true] at hm
  obtain ⟨⟨hA, hB⟩, hC⟩ := hm
  have MA := Lib.hid (may_is hA)
  have MB := Lib.hid (may_is hB)
  have MC := Lib.hid (may_is hC)
  simp only [mayB, Bool.and_eq_true] at hA hB hC
  obtain ⟨⟨a1, a2⟩, a3⟩ := hA
  obtain ⟨⟨b1, b2⟩, b3⟩ := hB
  obtain ⟨⟨c1, c2⟩, c3⟩ := hC
  have LA := Lib.hid (less_any ax ay az cx cy cz a1 a2 a3 c1 c2 c3)
  have LB := Lib.hid (less_any bx b_ bz cx cy cz b1 b2 b3 c1 c2 c3)
  have p1 := wd_diff a1 c1
  have p2 := wd_diff a2 c2
  have p3 := wd_diff a3 c3
  have q1 := wd_diff b1 c1
  have q2 := wd_diff b2 c2
  have q3 := wd_diff b3 c3
  clear a1 a2 a3 b1 b2 b3 c1 c2 c3
  generalize ax - cx = px at *
  generalize ay - cy = py at *
  generalize az - cz = pz at *
  generalize bx - cx = qx at *
  generalize b_ - cy = qy at *
  generalize bz - cz = qz at *
  have N1 := Lib.hid (fun W => minor_wd p2 p3 q2 q3 W)
  have N2 := Lib.hid (fun W => minor_wd p3 p1 q3 q1 W)
  have N3 := Lib.hid (fun W => minor_wd p1 p2 q1 q2 W)
  obtain ⟨P1, hP1⟩ : ∃ P, P = decide (py * qz = pz * qy) := ⟨_, rfl⟩
  obtain ⟨P2, hP2⟩ : ∃ P, P = decide (pz * qx = px * qz) := ⟨_, rfl⟩
  obtain ⟨P3, hP3⟩ : ∃ P, P = decide (px * qy = py * qx) := ⟨_, rfl⟩
  have Z1 := Lib.hid (wd_prod p2 p3 q2 q3 P1 hP1)
  have Z2 := Lib.hid (wd_prod p3 p1 q3 q1 P2 hP2)
  have Z3 := Lib.hid (wd_prod p1 p2 q1 q2 P3 hP3)
  have HO := Lib.hid (show (P1 && P2 && P3) = onL px py pz qx qy qz by rw [hP1, hP2, hP3]; rfl)
  clear hP1 hP2 hP3 p1 p2 p3 q1 q2 q3
  rw [← HO.out]
  go_enter Try.func20, Try.ntmps20
  go_wp2_with (first
    | (go_at_call 26; (with_reducible refine (MA.out _).mono ?_); rintro e w1 ⟨rfl, hn⟩; (first | (replace hb := chain hb hn; clear hn hc hf) | (have hb := hn; clear hn)); obtain ⟨hc, hf⟩ := bcell hb)
    | (go_at_call 26; (with_reducible refine (MB.out _).mono ?_); rintro e w1 ⟨rfl, hn⟩; (first | (replace hb := chain hb hn; clear hn hc hf) | (have hb := hn; clear hn)); obtain ⟨hc, hf⟩ := bcell hb)
    | (go_at_call 26; (with_reducible refine (MC.out _).mono ?_); rintro e w1 ⟨rfl, hn⟩; (first | (replace hb := chain hb hn; clear hn hc hf) | (have hb := hn; clear hn)); obtain ⟨hc, hf⟩ := bcell hb))
  have hz0 := sz3 hb
  have HB := Lib.hid (show Below w.heap.size w w1 from bl3 hb)
  have m00 : w1.cell? ⟨w.heap.size, 0, none⟩ = some (.int .i64 ax) := by simp [go_sem, hc]
  have m01 : w1.cell? ⟨w.heap.size, 1, none⟩ = some (.int .i64 ay) := by simp [go_sem, hc]
  have m02 : w1.cell? ⟨w.heap.size, 2, none⟩ = some (.int .i64 az) := by simp [go_sem, hc]
  have m10 : w1.cell? ⟨w.heap.size + 1, 0, none⟩ = some (.int .i64 bx) := by simp [go_sem, hc]
  have m11 : w1.cell? ⟨w.heap.size + 1, 1, none⟩ = some (.int .i64 b_) := by simp [go_sem, hc]
  have m12 : w1.cell? ⟨w.heap.size + 1, 2, none⟩ = some (.int .i64 bz) := by simp [go_sem, hc]
  have m20 : w1.cell? ⟨w.heap.size + 1 + 1, 0, none⟩ = some (.int .i64 cx) := by simp [go_sem, hc]
  have m21 : w1.cell? ⟨w.heap.size + 1 + 1, 1, none⟩ = some (.int .i64 cy) := by simp [go_sem, hc]
  have m22 : w1.cell? ⟨w.heap.size + 1 + 1, 2, none⟩ = some (.int .i64 cz) := by simp [go_sem, hc]
  obtain ⟨z0, z1, z2⟩ := hz0
  clear hb hc hf MA MB MC
  obtain ⟨W, rfl⟩ : ∃ W : World, W = w1 := ⟨_, rfl⟩
  go_cut [8, 9] (fun s8 s9 wx => ∃ g h : Nat, s8 = .pointer (some ⟨g, 0, none⟩) ∧ s9 = .pointer (some ⟨h, 0, none⟩) ∧ R3 wx g px py pz ∧ R3 wx h qx qy qz ∧ Below W.heap.size W wx)
  case first =>
    clear N1 N2 N3 Z1 Z2 Z3 HB
    try clear HO
    refine wp_region_flow (LI W ax ay az bx b_ bz cx cy cz px py pz qx qy qz) (by kernel_rfl) (by kernel_rfl) ?hs ?h0 ?hst ?hf
    case hs =>
      rintro listed a' u ⟨_, _, _, _, _, _, _, _, _, _, _, _, _, _, _, _, _, _, rfl, _⟩
      rfl
    case h0 =>
      refine ⟨false, false, false, false, false, false, false, false, false, false, _, _, _, _, _, _, _, _, rfl, rfl, nofun, nofun, nofun, nofun, nofun, nofun, nofun, nofun, nofun, ⟨nofun, nofun⟩, (Below.refl _ _).drew⟩
    case hf =>
      rintro listed a' u ⟨b0, b1, b2, b3, b4, b5, b6, b7, b8, b9, v24, v25, v26, v27, v28, v29, v8, v9, rfl, rfl, k0, k1, k2, k3, k4, k5, k6, k7, k8, k9, hB⟩ hall
      obtain rfl : b6 = true := hall 6 (by decide)
      obtain rfl : b7 = true := hall 7 (by decide)
      obtain rfl : b8 = true := hall 8 (by decide)
      obtain rfl : b9 = true := hall 9 (by decide)
      obtain ⟨g, rfl, hg⟩ := k6 rfl
      obtain ⟨h, rfl, hh⟩ := k7 rfl
      clear k0 k1 k2 k3 k4 k5 k6 k7 k8 k9 hall
      have r1 := hg.r3
      have r2 := hh.r3
      go_wp2_with fail
      go_meet
      exact ⟨g, h, rfl, rfl, r1, r2, hB⟩
    case hst =>
      rintro listed a' u i o ⟨b0, b1, b2, b3, b4, b5, b6, b7, b8, b9, v24, v25, v26, v27, v28, v29, v8, v9, rfl, rfl, k0, k1, k2, k3, k4, k5, k6, k7, k8, k9, hB⟩ hl ho hd
      have hi : i = 0 ∨ i = 1 ∨ i = 2 ∨ i = 3 ∨ i = 4 ∨ i = 5 ∨ i = 6 ∨ i = 7 ∨ i = 8 ∨ i = 9 := by
        have := (List.getElem?_eq_some_iff.1 ho).1
        simp only [List.length_cons, List.length_nil] at this
        omega
      have hcu : ∀ b o, b < W.heap.size → u.cell? ⟨b, o, none⟩ = W.cell? ⟨b, o, none⟩ := fun b o h => hB.cell (p := ⟨b, o, none⟩) h
      rcases hi with rfl | rfl | rfl | rfl | rfl | rfl | rfl | rfl | rfl | rfl
      all_goals obtain rfl := Option.some.inj ho
      · have x0 := (hcu _ 0 z0).trans m00
        have x1 := (hcu _ 1 z0).trans m01
        have x2 := (hcu _ 2 z0).trans m02
        refine wpOp_step rfl (fun K hK => ?_)
        have KK := Lib.hid (And.intro k0 (And.intro k1 (And.intro k2 (And.intro k3 (And.intro k4 (And.intro k5 (And.intro k6 (And.intro k7 (And.intro k8 k9)))))))))
        clear k0 k1 k2 k3 k4 k5 k6 k7 k8 k9 hcu hd
        go_simp
        refine hK _ _ ?_
        obtain ⟨k0, k1, k2, k3, k4, k5, k6, k7, k8, k9⟩ := KK.out
        exact ⟨true, b1, b2, b3, b4, b5, b6, b7, b8, b9, .agg #[.int .i64 ax, .int .i64 ay, .int .i64 az], v25, v26, v27, v28, v29, v8, v9, rfl, by kernel_rfl, fun _ => rfl, k1, k2, k3, k4, k5, k6, k7, k8, k9, hB⟩
      · have x0 := (hcu _ 0 z2).trans m20
        have x1 := (hcu _ 1 z2).trans m21
        have x2 := (hcu _ 2 z2).trans m22
        refine wpOp_step rfl (fun K hK => ?_)
        have KK := Lib.hid (And.intro k0 (And.intro k1 (And.intro k2 (And.intro k3 (And.intro k4 (And.intro k5 (And.intro k6 (And.intro k7 (And.intro k8 k9)))))))))
        clear k0 k1 k2 k3 k4 k5 k6 k7 k8 k9 hcu hd
        go_simp
        refine hK _ _ ?_
        obtain ⟨k0, k1, k2, k3, k4, k5, k6, k7, k8, k9⟩ := KK.out
        exact ⟨b0, true, b2, b3, b4, b5, b6, b7, b8, b9, v24, .agg #[.int .i64 cx, .int .i64 cy, .int .i64 cz], v26, v27, v28, v29, v8, v9, rfl, by kernel_rfl, k0, fun _ => rfl, k2, k3, k4, k5, k6, k7, k8, k9, hB⟩
      · obtain rfl : b0 = true := hd ⟨0, .data⟩ (by simp) rfl
        obtain rfl : b1 = true := hd ⟨1, .data⟩ (by simp) rfl
        obtain rfl := k0 rfl
        obtain rfl := k1 rfl
        refine wpOp_step rfl (fun K hK => ?_)
        have KK := Lib.hid (And.intro k0 (And.intro k1 (And.intro k2 (And.intro k3 (And.intro k4 (And.intro k5 (And.intro k6 (And.intro k7 (And.intro k8 k9)))))))))
        clear k0 k1 k2 k3 k4 k5 k6 k7 k8 k9 hcu hd
        go_simp
        go_at_call 34
        (with_reducible refine (LA.out _).mono ?_)
        rintro e w2 ⟨rfl, hn⟩
        go_simp
        refine hK _ _ ?_
        obtain ⟨k0, k1, k2, k3, k4, k5, k6, k7, k8, k9⟩ := KK.out
        exact ⟨true, true, true, b3, b4, b5, b6, b7, b8, b9, .agg #[.int .i64 ax, .int .i64 ay, .int .i64 az], .agg #[.int .i64 cx, .int .i64 cy, .int .i64 cz], .agg #[.int .i64 px, .int .i64 py, .int .i64 pz], v27, v28, v29, v8, v9, rfl, by kernel_rfl, k0, k1, fun _ => rfl, k3, k4, k5, fun h => let ⟨g, h1, h2⟩ := k6 h; ⟨g, h1, h2.mono hn⟩, fun h => let ⟨g, h1, h2⟩ := k7 h; ⟨g, h1, h2.mono hn⟩, k8, k9, hB.trans (hn.mono hB.size)⟩
      · have x0 := (hcu _ 0 z1).trans m10
        have x1 := (hcu _ 1 z1).trans m11
        have x2 := (hcu _ 2 z1).trans m12
        refine wpOp_step rfl (fun K hK => ?_)
        have KK := Lib.hid (And.intro k0 (And.intro k1 (And.intro k2 (And.intro k3 (And.intro k4 (And.intro k5 (And.intro k6 (And.intro k7 (And.intro k8 k9)))))))))
        clear k0 k1 k2 k3 k4 k5 k6 k7 k8 k9 hcu hd
        go_simp
        refine hK _ _ ?_
        obtain ⟨k0, k1, k2, k3, k4, k5, k6, k7, k8, k9⟩ := KK.out
        exact ⟨b0, b1, b2, true, b4, b5, b6, b7, b8, b9, v24, v25, v26, .agg #[.int .i64 bx, .int .i64 b_, .int .i64 bz], v28, v29, v8, v9, rfl, by kernel_rfl, k0, k1, k2, fun _ => rfl, k4, k5, k6, k7, k8, k9, hB⟩
      · have x0 := (hcu _ 0 z2).trans m20
        have x1 := (hcu _ 1 z2).trans m21
        have x2 := (hcu _ 2 z2).trans m22
        refine wpOp_step rfl (fun K hK => ?_)
        have KK := Lib.hid (And.intro k0 (And.intro k1 (And.intro k2 (And.intro k3 (And.intro k4 (And.intro k5 (And.intro k6 (And.intro k7 (And.intro k8 k9)))))))))
        clear k0 k1 k2 k3 k4 k5 k6 k7 k8 k9 hcu hd
        go_simp
        refine hK _ _ ?_
        obtain ⟨k0, k1, k2, k3, k4, k5, k6, k7, k8, k9⟩ := KK.out
        exact ⟨b0, b1, b2, b3, true, b5, b6, b7, b8, b9, v24, v25, v26, v27, .agg #[.int .i64 cx, .int .i64 cy, .int .i64 cz], v29, v8, v9, rfl, by kernel_rfl, k0, k1, k2, k3, fun _ => rfl, k5, k6, k7, k8, k9, hB⟩
      · obtain rfl : b3 = true := hd ⟨3, .data⟩ (by simp) rfl
        obtain rfl : b4 = true := hd ⟨4, .data⟩ (by simp) rfl
        obtain rfl := k3 rfl
        obtain rfl := k4 rfl
        refine wpOp_step rfl (fun K hK => ?_)
        have KK := Lib.hid (And.intro k0 (And.intro k1 (And.intro k2 (And.intro k3 (And.intro k4 (And.intro k5 (And.intro k6 (And.intro k7 (And.intro k8 k9)))))))))
        clear k0 k1 k2 k3 k4 k5 k6 k7 k8 k9 hcu hd
        go_simp
        go_at_call 34
        (with_reducible refine (LB.out _).mono ?_)
        rintro e w2 ⟨rfl, hn⟩
        go_simp
        refine hK _ _ ?_
        obtain ⟨k0, k1, k2, k3, k4, k5, k6, k7, k8, k9⟩ := KK.out
        exact ⟨b0, b1, b2, true, true, true, b6, b7, b8, b9, v24, v25, v26, .agg #[.int .i64 bx, .int .i64 b_, .int .i64 bz], .agg #[.int .i64 cx, .int .i64 cy, .int .i64 cz], .agg #[.int .i64 qx, .int .i64 qy, .int .i64 qz], v8, v9, rfl, by kernel_rfl, k0, k1, k2, k3, k4, fun _ => rfl, fun h => let ⟨g, h1, h2⟩ := k6 h; ⟨g, h1, h2.mono hn⟩, fun h => let ⟨g, h1, h2⟩ := k7 h; ⟨g, h1, h2.mono hn⟩, k8, k9, hB.trans (hn.mono hB.size)⟩
      · obtain rfl : b8 = false := by
          have e : b6 = false := hl
          cases b8 with
          | false => rfl
          | true => have := k9.1 rfl; rw [e] at this; cases this
        have AA : ∀ x : Obj, Below u.heap.size u (u.alloc x) := fun x => (Below.refl _ _).alloc (Nat.le_refl _) _
        refine wpOp_step rfl (fun K hK => ?_)
        have KK := Lib.hid (And.intro k0 (And.intro k1 (And.intro k2 (And.intro k3 (And.intro k4 (And.intro k5 (And.intro k6 (And.intro k7 (And.intro k8 (And.intro k9 AA))))))))))
        clear k0 k1 k2 k3 k4 k5 k6 k7 k8 k9 hcu hd
        go_simp
        refine hK _ _ ?_
        obtain ⟨k0, k1, k2, k3, k4, k5, k6, k7, k8, k9, AA⟩ := KK.out
        exact ⟨b0, b1, b2, b3, b4, b5, true, b7, false, b9, v24, v25, v26, v27, v28, v29, .pointer (some ⟨u.heap.size, 0, none⟩), v9, rfl, by kernel_rfl, k0, k1, k2, k3, k4, k5, fun _ => ⟨_, rfl, B3.new hB _ _ _ _ _ _ _⟩, fun h => let ⟨g, h1, h2⟩ := k7 h; ⟨g, h1, h2.mono (AA _)⟩, fun _ h => by obtain ⟨g, h1, h2⟩ := k7 h; have := h2.2.1; subst h1; exact ptr_ne (by omega), ⟨nofun, k9.2⟩, hB.alloc hB.size _⟩
      · obtain rfl : b9 = false := by
          have e : b7 = false := hl
          cases b9 with
          | false => rfl
          | true => have := k9.2 rfl; rw [e] at this; cases this
        have AA : ∀ x : Obj, Below u.heap.size u (u.alloc x) := fun x => (Below.refl _ _).alloc (Nat.le_refl _) _
        refine wpOp_step rfl (fun K hK => ?_)
        have KK := Lib.hid (And.intro k0 (And.intro k1 (And.intro k2 (And.intro k3 (And.intro k4 (And.intro k5 (And.intro k6 (And.intro k7 (And.intro k8 (And.intro k9 AA))))))))))
        clear k0 k1 k2 k3 k4 k5 k6 k7 k8 k9 hcu hd
        go_simp
        refine hK _ _ ?_
        obtain ⟨k0, k1, k2, k3, k4, k5, k6, k7, k8, k9, AA⟩ := KK.out
        exact ⟨b0, b1, b2, b3, b4, b5, b6, true, b8, false, v24, v25, v26, v27, v28, v29, v8, .pointer (some ⟨u.heap.size, 0, none⟩), rfl, by kernel_rfl, k0, k1, k2, k3, k4, k5, fun h => let ⟨g, h1, h2⟩ := k6 h; ⟨g, h1, h2.mono (AA _)⟩, fun _ => ⟨_, rfl, B3.new hB _ _ _ _ _ _ _⟩, fun h _ => by obtain ⟨g, h1, h2⟩ := k6 h; have := h2.2.1; subst h1; exact ptr_ne (by omega), ⟨k9.1, nofun⟩, hB.alloc hB.size _⟩
      · obtain rfl : b6 = true := hd ⟨6, .data⟩ (by simp) rfl
        obtain rfl : b2 = true := hd ⟨2, .data⟩ (by simp) rfl
        obtain ⟨g, rfl, hg⟩ := k6 rfl
        obtain rfl := k2 rfl
        obtain ⟨g0, g1, ⟨c0, c1, c2, x0, x1, x2, x3⟩, f0, f1, f2⟩ := id hg
        refine wpOp_step rfl (fun K hK => ?_)
        have KK := Lib.hid (And.intro k0 (And.intro k1 (And.intro k2 (And.intro k3 (And.intro k4 (And.intro k5 (And.intro k6 (And.intro k7 (And.intro k8 (And.intro k9 hg))))))))))
        clear k0 k1 k2 k3 k4 k5 k6 k7 k8 k9 hcu hd hg x3
        go_simp
        refine hK _ _ ?_
        obtain ⟨k0, k1, k2, k3, k4, k5, k6, k7, k8, k9, hg⟩ := KK.out
        exact ⟨b0, b1, true, b3, b4, b5, true, b7, true, b9, v24, v25, .agg #[.int .i64 px, .int .i64 py, .int .i64 pz], v27, v28, v29, .pointer (some ⟨g, 0, none⟩), v9, rfl, by kernel_rfl, k0, k1, k2, k3, k4, k5, fun _ => ⟨g, rfl, hg.store⟩, fun h => by obtain ⟨k, h1, h2⟩ := k7 h; subst h1; exact ⟨k, rfl, h2.other (ptr_of_ne (k8 rfl h)).symm _ _ _⟩, k8, ⟨fun _ => rfl, k9.2⟩, ((hB.setCell g0 _).setCell g0 _).setCell g0 _⟩
      · obtain rfl : b7 = true := hd ⟨7, .data⟩ (by simp) rfl
        obtain rfl : b5 = true := hd ⟨5, .data⟩ (by simp) rfl
        obtain ⟨g, rfl, hg⟩ := k7 rfl
        obtain rfl := k5 rfl
        obtain ⟨g0, g1, ⟨c0, c1, c2, x0, x1, x2, x3⟩, f0, f1, f2⟩ := id hg
        refine wpOp_step rfl (fun K hK => ?_)
        have KK := Lib.hid (And.intro k0 (And.intro k1 (And.intro k2 (And.intro k3 (And.intro k4 (And.intro k5 (And.intro k6 (And.intro k7 (And.intro k8 (And.intro k9 hg))))))))))
        clear k0 k1 k2 k3 k4 k5 k6 k7 k8 k9 hcu hd hg x3
        go_simp
        refine hK _ _ ?_
        obtain ⟨k0, k1, k2, k3, k4, k5, k6, k7, k8, k9, hg⟩ := KK.out
        exact ⟨b0, b1, b2, b3, b4, true, b6, true, b8, true, v24, v25, v26, v27, v28, .agg #[.int .i64 qx, .int .i64 qy, .int .i64 qz], v8, .pointer (some ⟨g, 0, none⟩), rfl, by kernel_rfl, k0, k1, k2, k3, k4, k5, fun h => by obtain ⟨k, h1, h2⟩ := k6 h; subst h1; exact ⟨k, rfl, h2.other (ptr_of_ne (k8 h rfl)) _ _ _⟩, fun _ => ⟨g, rfl, hg.store⟩, k8, ⟨k9.1, fun _ => rfl⟩, ((hB.setCell g0 _).setCell g0 _).setCell g0 _⟩
  case rest =>
    obtain ⟨g, h, rfl, rfl, hG, hH, hBx⟩ := hcut
    have hb2 := HB.out.trans (hBx.mono HB.out.size)
    clear hBx m00 m01 m02 m10 m11 m12 m20 m21 m22 z0 z1 z2
    go_wp2_with fail
    generalize hW3 : World.alloc _ _ = W3
    have hn : Below wc.heap.size wc W3 := by rw [← hW3]; exact (Below.refl _ _).alloc (Nat.le_refl _) _
    have hz0 : RCell W3 wc.heap.size (.int .i64 0) (.int .u64 0) := by rw [← hW3]; exact rcell_new _ _ _ _
    replace hG := hG.mono hn
    replace hH := hH.mono hn
    replace hb2 := hb2.trans (hn.mono hb2.size)
    clear hn hW3
    obtain ⟨g0, g1, g2, g3⟩ := hG
    obtain ⟨h0, h1, h2, h3⟩ := hH
    obtain ⟨y0, y1, _, _, y2⟩ := hz0
    rcases zz Z1.out with ⟨rfl, e1⟩ | ⟨rfl, e1, d1⟩ | ⟨rfl, e1, d1⟩
    · skip
      clear HO Z1 Z2 Z3 HB LA LB
      have KC := kin_cell W3
      refine wp_region_kin_flat (by kernel_rfl) (by kernel_rfl) (by kernel_rfl) ?_
      repeat (go_big_quiet_step (first
        | (go_at_call 36; with_reducible refine quiet_kin (N1.out _))
        | (go_at_call 36; with_reducible refine quiet_kin (N2.out _))
        | (go_at_call 36; with_reducible refine quiet_kin (N3.out _))))
      refine wpQuiet_nil ?_
      clear KC
      intro _ hu_
      obtain ⟨k_, hu_⟩ := hu_
      have hk := below_kin W3 k_
      rw [← hu_] at hk
      clear hu_ k_
      rename World => u
      go_wp2_with fail
      go_ret2
      exact ⟨by simp, hb2.trans (hk.mono hb2.size)⟩
    · skip
      clear HO Z1 Z2 Z3 HB LA LB
      have KC := kin_cell W3
      refine wp_region_kin_flat (by kernel_rfl) (by kernel_rfl) (by kernel_rfl) ?_
      repeat (go_big_quiet_step (first
        | (go_at_call 36; with_reducible refine quiet_kin (N1.out _))
        | (go_at_call 36; with_reducible refine quiet_kin (N2.out _))
        | (go_at_call 36; with_reducible refine quiet_kin (N3.out _))))
      refine wpQuiet_nil ?_
      clear KC
      intro _ hu_
      obtain ⟨k_, hu_⟩ := hu_
      have hk := below_kin W3 k_
      rw [← hu_] at hk
      clear hu_ k_
      rename World => u
      go_wp2_with fail
      go_ret2
      exact ⟨by simp, hb2.trans (hk.mono hb2.size)⟩
    · skip
      rcases zz Z2.out with ⟨rfl, e2⟩ | ⟨rfl, e2, d2⟩ | ⟨rfl, e2, d2⟩
      · skip
        clear HO Z1 Z2 Z3 HB LA LB
        have KC := kin_cell W3
        refine wp_region_kin_flat (by kernel_rfl) (by kernel_rfl) (by kernel_rfl) ?_
        repeat (go_big_quiet_step (first
          | (go_at_call 36; with_reducible refine quiet_kin (N1.out _))
          | (go_at_call 36; with_reducible refine quiet_kin (N2.out _))
          | (go_at_call 36; with_reducible refine quiet_kin (N3.out _))))
        refine wpQuiet_nil ?_
        clear KC
        intro _ hu_
        obtain ⟨k_, hu_⟩ := hu_
        have hk := below_kin W3 k_
        rw [← hu_] at hk
        clear hu_ k_
        rename World => u
        go_wp2_with fail
        go_ret2
        exact ⟨by simp, hb2.trans (hk.mono hb2.size)⟩
      · skip
        clear HO Z1 Z2 Z3 HB LA LB
        have KC := kin_cell W3
        refine wp_region_kin_flat (by kernel_rfl) (by kernel_rfl) (by kernel_rfl) ?_
        repeat (go_big_quiet_step (first
          | (go_at_call 36; with_reducible refine quiet_kin (N1.out _))
          | (go_at_call 36; with_reducible refine quiet_kin (N2.out _))
          | (go_at_call 36; with_reducible refine quiet_kin (N3.out _))))
        refine wpQuiet_nil ?_
        clear KC
        intro _ hu_
        obtain ⟨k_, hu_⟩ := hu_
        have hk := below_kin W3 k_
        rw [← hu_] at hk
        clear hu_ k_
        rename World => u
        go_wp2_with fail
        go_ret2
        exact ⟨by simp, hb2.trans (hk.mono hb2.size)⟩
      · skip
        rcases zz Z3.out with ⟨rfl, e3⟩ | ⟨rfl, e3, d3⟩ | ⟨rfl, e3, d3⟩
        · skip
          clear HO Z1 Z2 Z3 HB LA LB
          have KC := kin_cell W3
          refine wp_region_kin_flat (by kernel_rfl) (by kernel_rfl) (by kernel_rfl) ?_
          repeat (go_big_quiet_step (first
            | (go_at_call 36; with_reducible refine quiet_kin (N1.out _))
            | (go_at_call 36; with_reducible refine quiet_kin (N2.out _))
            | (go_at_call 36; with_reducible refine quiet_kin (N3.out _))))
          refine wpQuiet_nil ?_
          clear KC
          intro _ hu_
          obtain ⟨k_, hu_⟩ := hu_
          have hk := below_kin W3 k_
          rw [← hu_] at hk
          clear hu_ k_
          rename World => u
          go_wp2_with fail
          go_ret2
          exact ⟨by simp, hb2.trans (hk.mono hb2.size)⟩
        · skip
          clear HO Z1 Z2 Z3 HB LA LB
          have KC := kin_cell W3
          refine wp_region_kin_flat (by kernel_rfl) (by kernel_rfl) (by kernel_rfl) ?_
          repeat (go_big_quiet_step (first
            | (go_at_call 36; with_reducible refine quiet_kin (N1.out _))
            | (go_at_call 36; with_reducible refine quiet_kin (N2.out _))
            | (go_at_call 36; with_reducible refine quiet_kin (N3.out _))))
          refine wpQuiet_nil ?_
          clear KC
          intro _ hu_
          obtain ⟨k_, hu_⟩ := hu_
          have hk := below_kin W3 k_
          rw [← hu_] at hk
          clear hu_ k_
          rename World => u
          go_wp2_with fail
          go_ret2
          exact ⟨by simp, hb2.trans (hk.mono hb2.size)⟩
        · skip
          clear HO Z1 Z2 Z3 HB LA LB
          have KC := kin_cell W3
          refine wp_region_kin_flat (by kernel_rfl) (by kernel_rfl) (by kernel_rfl) ?_
          repeat (go_big_quiet_step (first
            | (go_at_call 36; with_reducible refine quiet_kin (N1.out _))
            | (go_at_call 36; with_reducible refine quiet_kin (N2.out _))
            | (go_at_call 36; with_reducible refine quiet_kin (N3.out _))))
          refine wpQuiet_nil ?_
          clear KC
          intro _ hu_
          obtain ⟨k_, hu_⟩ := hu_
          have hk := below_kin W3 k_
          rw [← hu_] at hk
          clear hu_ k_
          rename World => u
          go_wp2_with fail
          go_ret2
          exact ⟨by simp, hb2.trans (hk.mono hb2.size)⟩
end Go.Proofs.Yteieeclflfbinaa
