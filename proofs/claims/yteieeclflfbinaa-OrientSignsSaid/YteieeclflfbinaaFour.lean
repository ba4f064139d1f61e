/- The contract of the reference's determinant of four rows. (Printed by mkfour.py.) -/
import Derived.Test.YteieeclflfbinaaRef2
import Derived.Test.YteieeclflfbinaaMoved
namespace Go.Proofs.Yteieeclflfbinaa
open Go.RowKit Go.Proofs
set_option linter.unusedVariables false

theorem Try.infoRow : (Try.prog.info? 63).map (fun i => (i.zero, i.size, i.bytes)) = some (some (.agg #[.int .i64 0, .int .i64 0, .int .i64 0, .int .i64 0]), 4, 32) := by kernel_rfl
/-- four cells in a block of their own -/
theorem four_new (u : World) (x y z k : Int) (t : TypeId) : ∀ j v, ([.int .i64 x, .int .i64 y, .int .i64 z, .int .i64 k] : List Value)[j]? = some v → (u.alloc (.cells #[.int .i64 x, .int .i64 y, .int .i64 z, .int .i64 k] t)).cell? ((⟨u.heap.size, 0, none⟩ : Addr).add j) = some v := by
  intro j v hj
  match j, hj with
  | 0, hj => simp at hj; subst hj; simp [Addr.add]
  | 1, hj => simp at hj; subst hj; simp [Addr.add]
  | 2, hj => simp at hj; subst hj; simp [Addr.add]
  | 3, hj => simp at hj; subst hj; simp [Addr.add]
theorem twelve_row {u : World} {base : Nat} {e : TypeId} {v : Value} {x0 x1 x2 x3 x4 x5 x6 x7 x8 x9 x10 x11 : Int} (h : u.ownsRow base e 4 v 3 [.int .i64 x0, .int .i64 x1, .int .i64 x2, .int .i64 x3, .int .i64 x4, .int .i64 x5, .int .i64 x6, .int .i64 x7, .int .i64 x8, .int .i64 x9, .int .i64 x10, .int .i64 x11]) :
    ∃ g cap, v = .slice (some ⟨g, 0, none⟩) 3 cap ∧ base ≤ g ∧ g < u.heap.size ∧ u.cell? ⟨g, 0, none⟩ = some (.int .i64 x0) ∧ u.cell? ⟨g, 1, none⟩ = some (.int .i64 x1) ∧ u.cell? ⟨g, 2, none⟩ = some (.int .i64 x2) ∧ u.cell? ⟨g, 3, none⟩ = some (.int .i64 x3) ∧ u.cell? ⟨g, 4, none⟩ = some (.int .i64 x4) ∧ u.cell? ⟨g, 5, none⟩ = some (.int .i64 x5) ∧ u.cell? ⟨g, 6, none⟩ = some (.int .i64 x6) ∧ u.cell? ⟨g, 7, none⟩ = some (.int .i64 x7) ∧ u.cell? ⟨g, 8, none⟩ = some (.int .i64 x8) ∧ u.cell? ⟨g, 9, none⟩ = some (.int .i64 x9) ∧ u.cell? ⟨g, 10, none⟩ = some (.int .i64 x10) ∧ u.cell? ⟨g, 11, none⟩ = some (.int .i64 x11) := by
  rcases h.2 with ⟨_, h0⟩ | ⟨g, cap, cur, hv, hg, hh, _⟩
  · omega
  · have hc := h.cells (g := g) (by rw [hv]; rfl)
    exact ⟨g, cap, hv, hg, (Array.getElem?_eq_some_iff.1 hh).1, by have := hc 0 _ rfl; simpa [Addr.add] using this, by have := hc 1 _ rfl; simpa [Addr.add] using this, by have := hc 2 _ rfl; simpa [Addr.add] using this, by have := hc 3 _ rfl; simpa [Addr.add] using this, by have := hc 4 _ rfl; simpa [Addr.add] using this, by have := hc 5 _ rfl; simpa [Addr.add] using this, by have := hc 6 _ rfl; simpa [Addr.add] using this, by have := hc 7 _ rfl; simpa [Addr.add] using this, by have := hc 8 _ rfl; simpa [Addr.add] using this, by have := hc 9 _ rfl; simpa [Addr.add] using this, by have := hc 10 _ rfl; simpa [Addr.add] using this, by have := hc 11 _ rfl; simpa [Addr.add] using this⟩
/-- the rows that are not the r-th, of the first s, with their ends -/
def vals4 (M : Nat → Int) (r s : Nat) : List Value := ((List.range s).filter (fun i => i != r)).flatMap fun i => [.int .i64 (M (4 * i)), .int .i64 (M (4 * i + 1)), .int .i64 (M (4 * i + 2)), .int .i64 (M (4 * i + 3))]

set_option maxHeartbeats 4000000 in
set_option maxRecDepth 20000 in
theorem rfour_any (S : Nat → So.Rw) (M : Nat → Int) (hrow : ∀ i, i < 4 → M (4 * i) = (S i).x ∧ M (4 * i + 1) = (S i).y ∧ M (4 * i + 2) = (S i).z ∧ M (4 * i + 3) = (S i).w)
    (hco : ∀ i, i < 4 → Cd (S i).x ∧ Cd (S i).y ∧ Cd (S i).z) (hw01 : ∀ i, i < 4 → (S i).w = 0 ∨ (S i).w = 1) (b : Nat) (w : World) (hbl : b < w.heap.size)
    (hcl : ∀ o, o < 16 → w.cell? ⟨b, o, none⟩ = some (.int .i64 (M o))) :
    Calls Try.prog 31 #[.slice (some ⟨b, 0, none⟩) 4 4] w fun e w' => e = .returned (.agg #[.int .u64 (rhi (So.at4 S)), .int .u64 (lo (So.at4 S))]) ∧ Below w.heap.size w w' := by
  have HAT := Lib.hid (So.psum_at4 S hw01)
  have hwd : ∀ i, i < 4 → Cd (M (4 * i)) ∧ Cd (M (4 * i + 1)) ∧ Cd (M (4 * i + 2)) := by
    intro i hi
    obtain ⟨r1, r2, r3, _⟩ := hrow i hi
    rw [r1, r2, r3]
    exact hco i hi
  have HROW := Lib.hid hrow
  have HWD := Lib.hid hwd
  have HCL := Lib.hid hcl
  have HBL := Lib.hid hbl
  obtain ⟨i0, hI0, hz0, hz1, hz2⟩ := info_parts Try.infoRow
  clear hrow hwd hw01 hco hcl hbl
  go_enter Try.func31, Try.ntmps31
  go_wp2_with fail
  go_loopw [4] (fun a wr => ∃ r : Int, a = .int .i64 r ∧ 0 ≤ r ∧ r ≤ 4 ∧ RCell wr (w.heap.size + 1) (.int .u64 (rhi (So.psum S r.toNat))) (.int .u64 (lo (So.psum S r.toNat))) ∧ RCell wr w.heap.size (.int .u64 0) (.int .u64 0) ∧ Below w.heap.size w wr) (fun a _ => 4 - (intOf a).toNat)
  case atStart =>
    refine ⟨0, rfl, by omega, by omega, ?_, ?_, bl2 (Below.refl _ _)⟩
    · have := rcell_new (w.alloc (.cells #[.int .u64 0, .int .u64 0] 34)) (.int .u64 0) (.int .u64 0) 34
      simp only [World.size_alloc] at this
      exact this
    · exact (rcell_new _ _ _ _).mono ((Below.refl _ _).alloc (Nat.le_refl _) _)
  case round =>
    obtain ⟨r, rfl, hr0, hr, hG, hG0, hB2⟩ := hrel
    have hI : ∀ o, o < 16 → wr.cell? ⟨b, o, none⟩ = some (.int .i64 (M o)) := fun o ho => (hB2.cell (p := ⟨b, o, none⟩) HBL.out).trans (HCL.out o ho)
    have HI := Lib.hid hI
    have HG := Lib.hid hG
    have HG0 := Lib.hid hG0
    have HBZ := Lib.hid (Nat.lt_of_lt_of_le HBL.out hB2.size)
    unfold RCell at hG hG0
    have : r = 0 ∨ r = 1 ∨ r = 2 ∨ r = 3 ∨ r = 4 := by omega
    clear hr0 hr
    rcases this with rfl | rfl | rfl | rfl | rfl
    · by_cases hw : M 3 = 0
      · have hw' : (M 3 == 0) = true := by simpa using hw
        have HW := Lib.hid hw
        clear hw
        go_wp2_with fail
        have e : So.psum S (0 + 1) = So.psum S 0 := by
          have := (HROW.out 0 (by decide)).2.2.2
          show So.psum S 0 + So.cof S 0 = _
          unfold So.cof
          rw [if_pos (by rw [← this]; exact HW.out), Int.add_zero]
        exact ⟨⟨1, rfl, by omega, by omega, by rw [show (1 : Int).toNat = 0 + 1 from rfl, e]; exact HG.out, HG0.out, hB2⟩, by simp [intOf]⟩
      · have hw' : (M 3 == 0) = false := by simpa using hw
        have HW := Lib.hid hw
        clear hw
        go_wp2_with fail
        obtain ⟨W1, rfl⟩ : ∃ W1 : World, W1 = wr := ⟨_, rfl⟩
        go_loopw [6, 5] (fun a v wx => ∃ s : Int, a = .int .i64 s ∧ 0 ≤ s ∧ s ≤ 4 ∧ wx.ownsRow W1.heap.size 63 4 v (vcnt 0 s.toNat) (vals4 M 0 s.toNat) ∧ Below W1.heap.size W1 wx) (fun a _ _ => 4 - (intOf a).toNat)
        case atStart => exact ⟨0, rfl, by omega, by omega, ⟨by simp [vals4, vcnt], .inl ⟨rfl, by simp [vcnt]⟩⟩, Below.refl _ _⟩
        case round =>
          obtain ⟨s, rfl, hs0, hs1, hown, hBx⟩ := hrel
          have cI : ∀ o, o < 16 → wr.cell? ⟨b, o, none⟩ = some (.int .i64 (M o)) := fun o ho => (hBx.cell (p := ⟨b, o, none⟩) HBZ.out).trans (HI.out o ho)
          have HOWN := Lib.hid hown
          have HBX := Lib.hid hBx
          clear hown hBx hI
          have : s = 0 ∨ s = 1 ∨ s = 2 ∨ s = 3 ∨ s = 4 := by omega
          clear hs0 hs1
          rcases this with rfl | rfl | rfl | rfl | rfl
          · go_wp2_with fail
            exact ⟨⟨1, rfl, by omega, by omega, HOWN.out, HBX.out⟩, by simp [intOf]⟩
          · go_wp2_with (at_builtin; refine wpList_append_own _ rfl (.tmp 25) (.tmp 30) 65 rfl W1.heap.size 63 i0 (.agg #[.int .i64 0, .int .i64 0, .int .i64 0, .int .i64 0]) 4 32 Try.underlying65 hI0 hz0 hz1 hz2 rfl (by decide) _ _ _ rfl (HOWN.out.alloc _) ⟨_, 0, none⟩ 1 1 [.int .i64 (M 4), .int .i64 (M 5), .int .i64 (M 6), .int .i64 (M 7)] rfl rfl (four_new _ _ _ _ _ _) (by simp [Value.oneCell']) (by decide) (by decide) (Nat.le_trans HBX.out.size (by simp)) ?_; intro v' w1 hown1 hgrow1 hnil1)
            have hB1 := below_grown (HBX.out.alloc HBX.out.size _) (HOWN.out.alloc _) hgrow1
            clear hgrow1 hnil1
            go_wp2_with fail
            exact ⟨⟨2, rfl, by omega, by omega, hown1, hB1⟩, by simp [intOf]⟩
          · go_wp2_with (at_builtin; refine wpList_append_own _ rfl (.tmp 25) (.tmp 30) 65 rfl W1.heap.size 63 i0 (.agg #[.int .i64 0, .int .i64 0, .int .i64 0, .int .i64 0]) 4 32 Try.underlying65 hI0 hz0 hz1 hz2 rfl (by decide) _ _ _ rfl (HOWN.out.alloc _) ⟨_, 0, none⟩ 1 1 [.int .i64 (M 8), .int .i64 (M 9), .int .i64 (M 10), .int .i64 (M 11)] rfl rfl (four_new _ _ _ _ _ _) (by simp [Value.oneCell']) (by decide) (by decide) (Nat.le_trans HBX.out.size (by simp)) ?_; intro v' w1 hown1 hgrow1 hnil1)
            have hB1 := below_grown (HBX.out.alloc HBX.out.size _) (HOWN.out.alloc _) hgrow1
            clear hgrow1 hnil1
            go_wp2_with fail
            exact ⟨⟨3, rfl, by omega, by omega, hown1, hB1⟩, by simp [intOf]⟩
          · go_wp2_with (at_builtin; refine wpList_append_own _ rfl (.tmp 25) (.tmp 30) 65 rfl W1.heap.size 63 i0 (.agg #[.int .i64 0, .int .i64 0, .int .i64 0, .int .i64 0]) 4 32 Try.underlying65 hI0 hz0 hz1 hz2 rfl (by decide) _ _ _ rfl (HOWN.out.alloc _) ⟨_, 0, none⟩ 1 1 [.int .i64 (M 12), .int .i64 (M 13), .int .i64 (M 14), .int .i64 (M 15)] rfl rfl (four_new _ _ _ _ _ _) (by simp [Value.oneCell']) (by decide) (by decide) (Nat.le_trans HBX.out.size (by simp)) ?_; intro v' w1 hown1 hgrow1 hnil1)
            have hB1 := below_grown (HBX.out.alloc HBX.out.size _) (HOWN.out.alloc _) hgrow1
            clear hgrow1 hnil1
            go_wp2_with fail
            exact ⟨⟨4, rfl, by omega, by omega, hown1, hB1⟩, by simp [intOf]⟩
          · have hown := HOWN.out
            obtain ⟨g, cap, rfl, hg0, hg1, k0, k1, k2, k3, k4, k5, k6, k7, k8, k9, k10, k11⟩ := twelve_row (show wr.ownsRow W1.heap.size 63 4 _ 3 [.int .i64 (M 4), .int .i64 (M 5), .int .i64 (M 6), .int .i64 (M 7), .int .i64 (M 8), .int .i64 (M 9), .int .i64 (M 10), .int .i64 (M 11), .int .i64 (M 12), .int .i64 (M 13), .int .i64 (M 14), .int .i64 (M 15)] from hown)
            clear hown
            have TH := Lib.hid (rthree_any (M 4) (M 5) (M 6) (M 7) (M 8) (M 9) (M 10) (M 11) (M 12) (M 13) (M 14) (M 15) (HWD.out 1 (by decide)).1 (HWD.out 1 (by decide)).2.1 (HWD.out 1 (by decide)).2.2 (HWD.out 2 (by decide)).1 (HWD.out 2 (by decide)).2.1 (HWD.out 2 (by decide)).2.2 (HWD.out 3 (by decide)).1 (HWD.out 3 (by decide)).2.1 (HWD.out 3 (by decide)).2.2)
            rw [show det3 (M 4) (M 5) (M 6) (M 8) (M 9) (M 10) (M 12) (M 13) (M 14) = So.oth S 0 by
              obtain ⟨p0, p1, p2, _⟩ := HROW.out 1 (by decide)
              obtain ⟨p3, p4, p5, _⟩ := HROW.out 2 (by decide)
              obtain ⟨p6, p7, p8, _⟩ := HROW.out 3 (by decide)
              rw [p0, p1, p2, p3, p4, p5, p6, p7, p8]; rfl] at TH
            go_upto_region 12 with fail
            have hB3 := hB2.trans (HBX.out.mono hB2.size)
            have HS := Lib.hid ((show RCell W1 (w.heap.size + 1) _ _ from HG.out).mono HBX.out)
            have HS0 := Lib.hid ((show RCell W1 w.heap.size _ _ from HG0.out).mono HBX.out)
            have hgb : w.heap.size + 1 < W1.heap.size := HG.out.2.2.2.2
            have hgb2 : w.heap.size + 1 < wr.heap.size := HS.out.2.2.2.2
            have HB3 := Lib.hid hB3
            clear hB3 hG hG0 HOWN HBX hB2 hg0 cI
            obtain ⟨W2, rfl⟩ : ∃ W2 : World, W2 = wr := ⟨_, rfl⟩
            go_cut [7] (fun s7 wx => ∃ g : Nat, s7 = .pointer (some ⟨g, 0, none⟩) ∧ W2.heap.size ≤ g ∧ RCell wx g (.int .u64 (rhi (So.oth S 0))) (.int .u64 (lo (So.oth S 0))) ∧ Below W2.heap.size W2 wx)
            case first =>
              go_region_held3 (fun w' => Below W2.heap.size W2 w' ∧ ∀ b o, b < W2.heap.size → w'.cell? ⟨b, o, none⟩ = W2.cell? ⟨b, o, none⟩)
                (first | exact keep0 _ | exact keep_call ‹_› hn | exact keep_alloc ‹_› | exact keep_re ‹_› (by first | assumption | exact Nat.le_refl _) | exact keep_set (keep_set ‹_› (by first | assumption | exact Nat.le_refl _)) (by first | assumption | exact Nat.le_refl _))
                (first
                  | (go_at_call 46; (with_reducible refine (TH.out _).mono ?_); rintro e w1 ⟨rfl, hn⟩; have hz := keep_sz ‹_› hn; first | have hG := fresh2 hn | have hG := fresh2 (undrew hn) | have hG := carry2 hG hn | skip))
              all_goals (go_wp2_with fail; go_meet)
              all_goals refine ⟨_, rfl, (by first | assumption | exact Nat.le_refl _ | (simp <;> omega)), ⟨(by first | (simp [go_sem]; done) | (simp [go_sem, *]; done)), (by first | (simp [go_sem]; done) | (simp [go_sem, *]; done)), (by first | (simp [go_sem]; done) | (simp [go_sem, *]; done)), (by first | (simp [go_sem]; done) | (simp [go_sem, *]; done)), (by first | (simp; done) | (simp; omega))⟩, keep_below ‹_›⟩
            case rest =>
              obtain ⟨g2, rfl, hg2, hR, hBc⟩ := hcut
              have hS := HS.out.mono hBc
              have hS0 := HS0.out.mono hBc
              have hB4 := HB3.out.trans (hBc.mono HB3.out.size)
              have ne1 : ¬ g2 = w.heap.size + 1 := by omega
              have ne2 : ¬ w.heap.size + 1 = g2 := by omega
              have ne3 : ¬ g2 = w.heap.size := by omega
              have ne4 : ¬ w.heap.size = g2 := by omega
              clear k0 k1 k2 k3 k4 k5 k6 k7 k8 k9 k10 k11 hBc HS HS0 HB3 TH
              unfold RCell at hR hS hS0
              obtain ⟨X, hX⟩ : ∃ X, X = So.oth S 0 := ⟨_, rfl⟩
              rw [← hX] at hR
              have HX := Lib.hid hX
              clear hX
              go_wp2_with fail
              refine (rneg_any X (isR _) _).mono ?_
              rintro e w5 ⟨rfl, hn⟩
              replace hR := carry2 hR hn
              replace hS := carry2 hS hn
              replace hS0 := carry2 hS0 hn
              replace hB4 := hB4.trans (hn.mono hB4.size)
              clear hn
              go_wp2_with fail
              replace hS := RCell.far (r := g2) (o := 1) (v := .int .u64 (lo (-X))) (RCell.far (r := g2) (o := 0) (v := .int .u64 (rhi (-X))) hS ne1) ne1
              replace hS0 := RCell.far (r := g2) (o := 1) (v := .int .u64 (lo (-X))) (RCell.far (r := g2) (o := 0) (v := .int .u64 (rhi (-X))) hS0 ne3) ne3
              replace hB4 := (hB4.setCell (p := ⟨g2, 0, none⟩) (by simp; omega) (.int .u64 (rhi (-X)))).setCell (p := ⟨g2, 1, none⟩) (by simp; omega) (.int .u64 (lo (-X)))
              refine (radd_any (So.psum S 0) (-X) (isR _) (isR _) _).mono ?_
              rintro e w6 ⟨rfl, hn⟩
              replace hS := carry2 hS hn
              replace hS0 := carry2 hS0 hn
              replace hB4 := hB4.trans (hn.mono hB4.size)
              clear hn hR
              go_wp2_with fail
              have e : So.psum S (0 + 1) = So.psum S 0 + -X := by
                have := (HROW.out 0 (by decide)).2.2.2
                show So.psum S 0 + So.cof S 0 = _
                unfold So.cof
                rw [if_neg (by rw [← this]; exact HW.out), HX.out]
                rfl
              exact ⟨⟨1, rfl, by omega, by omega, by rw [show (1 : Int).toNat = 0 + 1 from rfl, e]; exact RCell.put2 hS, (RCell.far (RCell.far hS0 (by omega)) (by omega)), (hB4.setCell (by simp) _).setCell (by simp) _⟩, by simp [intOf]⟩
    · by_cases hw : M 7 = 0
      · have hw' : (M 7 == 0) = true := by simpa using hw
        have HW := Lib.hid hw
        clear hw
        go_wp2_with fail
        have e : So.psum S (1 + 1) = So.psum S 1 := by
          have := (HROW.out 1 (by decide)).2.2.2
          show So.psum S 1 + So.cof S 1 = _
          unfold So.cof
          rw [if_pos (by rw [← this]; exact HW.out), Int.add_zero]
        exact ⟨⟨2, rfl, by omega, by omega, by rw [show (2 : Int).toNat = 1 + 1 from rfl, e]; exact HG.out, HG0.out, hB2⟩, by simp [intOf]⟩
      · have hw' : (M 7 == 0) = false := by simpa using hw
        have HW := Lib.hid hw
        clear hw
        go_wp2_with fail
        obtain ⟨W1, rfl⟩ : ∃ W1 : World, W1 = wr := ⟨_, rfl⟩
        go_loopw [6, 5] (fun a v wx => ∃ s : Int, a = .int .i64 s ∧ 0 ≤ s ∧ s ≤ 4 ∧ wx.ownsRow W1.heap.size 63 4 v (vcnt 1 s.toNat) (vals4 M 1 s.toNat) ∧ Below W1.heap.size W1 wx) (fun a _ _ => 4 - (intOf a).toNat)
        case atStart => exact ⟨0, rfl, by omega, by omega, ⟨by simp [vals4, vcnt], .inl ⟨rfl, by simp [vcnt]⟩⟩, Below.refl _ _⟩
        case round =>
          obtain ⟨s, rfl, hs0, hs1, hown, hBx⟩ := hrel
          have cI : ∀ o, o < 16 → wr.cell? ⟨b, o, none⟩ = some (.int .i64 (M o)) := fun o ho => (hBx.cell (p := ⟨b, o, none⟩) HBZ.out).trans (HI.out o ho)
          have HOWN := Lib.hid hown
          have HBX := Lib.hid hBx
          clear hown hBx hI
          have : s = 0 ∨ s = 1 ∨ s = 2 ∨ s = 3 ∨ s = 4 := by omega
          clear hs0 hs1
          rcases this with rfl | rfl | rfl | rfl | rfl
          · go_wp2_with (at_builtin; refine wpList_append_own _ rfl (.tmp 25) (.tmp 30) 65 rfl W1.heap.size 63 i0 (.agg #[.int .i64 0, .int .i64 0, .int .i64 0, .int .i64 0]) 4 32 Try.underlying65 hI0 hz0 hz1 hz2 rfl (by decide) _ _ _ rfl (HOWN.out.alloc _) ⟨_, 0, none⟩ 1 1 [.int .i64 (M 0), .int .i64 (M 1), .int .i64 (M 2), .int .i64 (M 3)] rfl rfl (four_new _ _ _ _ _ _) (by simp [Value.oneCell']) (by decide) (by decide) (Nat.le_trans HBX.out.size (by simp)) ?_; intro v' w1 hown1 hgrow1 hnil1)
            have hB1 := below_grown (HBX.out.alloc HBX.out.size _) (HOWN.out.alloc _) hgrow1
            clear hgrow1 hnil1
            go_wp2_with fail
            exact ⟨⟨1, rfl, by omega, by omega, hown1, hB1⟩, by simp [intOf]⟩
          · go_wp2_with fail
            exact ⟨⟨2, rfl, by omega, by omega, HOWN.out, HBX.out⟩, by simp [intOf]⟩
          · go_wp2_with (at_builtin; refine wpList_append_own _ rfl (.tmp 25) (.tmp 30) 65 rfl W1.heap.size 63 i0 (.agg #[.int .i64 0, .int .i64 0, .int .i64 0, .int .i64 0]) 4 32 Try.underlying65 hI0 hz0 hz1 hz2 rfl (by decide) _ _ _ rfl (HOWN.out.alloc _) ⟨_, 0, none⟩ 1 1 [.int .i64 (M 8), .int .i64 (M 9), .int .i64 (M 10), .int .i64 (M 11)] rfl rfl (four_new _ _ _ _ _ _) (by simp [Value.oneCell']) (by decide) (by decide) (Nat.le_trans HBX.out.size (by simp)) ?_; intro v' w1 hown1 hgrow1 hnil1)
            have hB1 := below_grown (HBX.out.alloc HBX.out.size _) (HOWN.out.alloc _) hgrow1
            clear hgrow1 hnil1
            go_wp2_with fail
            exact ⟨⟨3, rfl, by omega, by omega, hown1, hB1⟩, by simp [intOf]⟩
          · go_wp2_with (at_builtin; refine wpList_append_own _ rfl (.tmp 25) (.tmp 30) 65 rfl W1.heap.size 63 i0 (.agg #[.int .i64 0, .int .i64 0, .int .i64 0, .int .i64 0]) 4 32 Try.underlying65 hI0 hz0 hz1 hz2 rfl (by decide) _ _ _ rfl (HOWN.out.alloc _) ⟨_, 0, none⟩ 1 1 [.int .i64 (M 12), .int .i64 (M 13), .int .i64 (M 14), .int .i64 (M 15)] rfl rfl (four_new _ _ _ _ _ _) (by simp [Value.oneCell']) (by decide) (by decide) (Nat.le_trans HBX.out.size (by simp)) ?_; intro v' w1 hown1 hgrow1 hnil1)
            have hB1 := below_grown (HBX.out.alloc HBX.out.size _) (HOWN.out.alloc _) hgrow1
            clear hgrow1 hnil1
            go_wp2_with fail
            exact ⟨⟨4, rfl, by omega, by omega, hown1, hB1⟩, by simp [intOf]⟩
          · have hown := HOWN.out
            obtain ⟨g, cap, rfl, hg0, hg1, k0, k1, k2, k3, k4, k5, k6, k7, k8, k9, k10, k11⟩ := twelve_row (show wr.ownsRow W1.heap.size 63 4 _ 3 [.int .i64 (M 0), .int .i64 (M 1), .int .i64 (M 2), .int .i64 (M 3), .int .i64 (M 8), .int .i64 (M 9), .int .i64 (M 10), .int .i64 (M 11), .int .i64 (M 12), .int .i64 (M 13), .int .i64 (M 14), .int .i64 (M 15)] from hown)
            clear hown
            have TH := Lib.hid (rthree_any (M 0) (M 1) (M 2) (M 3) (M 8) (M 9) (M 10) (M 11) (M 12) (M 13) (M 14) (M 15) (HWD.out 0 (by decide)).1 (HWD.out 0 (by decide)).2.1 (HWD.out 0 (by decide)).2.2 (HWD.out 2 (by decide)).1 (HWD.out 2 (by decide)).2.1 (HWD.out 2 (by decide)).2.2 (HWD.out 3 (by decide)).1 (HWD.out 3 (by decide)).2.1 (HWD.out 3 (by decide)).2.2)
            rw [show det3 (M 0) (M 1) (M 2) (M 8) (M 9) (M 10) (M 12) (M 13) (M 14) = So.oth S 1 by
              obtain ⟨p0, p1, p2, _⟩ := HROW.out 0 (by decide)
              obtain ⟨p3, p4, p5, _⟩ := HROW.out 2 (by decide)
              obtain ⟨p6, p7, p8, _⟩ := HROW.out 3 (by decide)
              rw [p0, p1, p2, p3, p4, p5, p6, p7, p8]; rfl] at TH
            go_upto_region 12 with fail
            have hB3 := hB2.trans (HBX.out.mono hB2.size)
            have HS := Lib.hid ((show RCell W1 (w.heap.size + 1) _ _ from HG.out).mono HBX.out)
            have HS0 := Lib.hid ((show RCell W1 w.heap.size _ _ from HG0.out).mono HBX.out)
            have hgb : w.heap.size + 1 < W1.heap.size := HG.out.2.2.2.2
            have hgb2 : w.heap.size + 1 < wr.heap.size := HS.out.2.2.2.2
            have HB3 := Lib.hid hB3
            clear hB3 hG hG0 HOWN HBX hB2 hg0 cI
            obtain ⟨W2, rfl⟩ : ∃ W2 : World, W2 = wr := ⟨_, rfl⟩
            go_cut [7] (fun s7 wx => ∃ g : Nat, s7 = .pointer (some ⟨g, 0, none⟩) ∧ W2.heap.size ≤ g ∧ RCell wx g (.int .u64 (rhi (So.oth S 1))) (.int .u64 (lo (So.oth S 1))) ∧ Below W2.heap.size W2 wx)
            case first =>
              go_region_held3 (fun w' => Below W2.heap.size W2 w' ∧ ∀ b o, b < W2.heap.size → w'.cell? ⟨b, o, none⟩ = W2.cell? ⟨b, o, none⟩)
                (first | exact keep0 _ | exact keep_call ‹_› hn | exact keep_alloc ‹_› | exact keep_re ‹_› (by first | assumption | exact Nat.le_refl _) | exact keep_set (keep_set ‹_› (by first | assumption | exact Nat.le_refl _)) (by first | assumption | exact Nat.le_refl _))
                (first
                  | (go_at_call 46; (with_reducible refine (TH.out _).mono ?_); rintro e w1 ⟨rfl, hn⟩; have hz := keep_sz ‹_› hn; first | have hG := fresh2 hn | have hG := fresh2 (undrew hn) | have hG := carry2 hG hn | skip))
              all_goals (go_wp2_with fail; go_meet)
              all_goals refine ⟨_, rfl, (by first | assumption | exact Nat.le_refl _ | (simp <;> omega)), ⟨(by first | (simp [go_sem]; done) | (simp [go_sem, *]; done)), (by first | (simp [go_sem]; done) | (simp [go_sem, *]; done)), (by first | (simp [go_sem]; done) | (simp [go_sem, *]; done)), (by first | (simp [go_sem]; done) | (simp [go_sem, *]; done)), (by first | (simp; done) | (simp; omega))⟩, keep_below ‹_›⟩
            case rest =>
              obtain ⟨g2, rfl, hg2, hR, hBc⟩ := hcut
              have hS := HS.out.mono hBc
              have hS0 := HS0.out.mono hBc
              have hB4 := HB3.out.trans (hBc.mono HB3.out.size)
              have ne1 : ¬ g2 = w.heap.size + 1 := by omega
              have ne2 : ¬ w.heap.size + 1 = g2 := by omega
              have ne3 : ¬ g2 = w.heap.size := by omega
              have ne4 : ¬ w.heap.size = g2 := by omega
              clear k0 k1 k2 k3 k4 k5 k6 k7 k8 k9 k10 k11 hBc HS HS0 HB3 TH
              unfold RCell at hR hS hS0
              obtain ⟨X, hX⟩ : ∃ X, X = So.oth S 1 := ⟨_, rfl⟩
              rw [← hX] at hR
              have HX := Lib.hid hX
              clear hX
              go_wp2_with fail
              refine (radd_any (So.psum S 1) (X) (isR _) (isR _) _).mono ?_
              rintro e w6 ⟨rfl, hn⟩
              replace hS := carry2 hS hn
              replace hS0 := carry2 hS0 hn
              replace hB4 := hB4.trans (hn.mono hB4.size)
              clear hn hR
              go_wp2_with fail
              have e : So.psum S (1 + 1) = So.psum S 1 + X := by
                have := (HROW.out 1 (by decide)).2.2.2
                show So.psum S 1 + So.cof S 1 = _
                unfold So.cof
                rw [if_neg (by rw [← this]; exact HW.out), HX.out]
                rfl
              exact ⟨⟨2, rfl, by omega, by omega, by rw [show (2 : Int).toNat = 1 + 1 from rfl, e]; exact RCell.put2 hS, (RCell.far (RCell.far hS0 (by omega)) (by omega)), (hB4.setCell (by simp) _).setCell (by simp) _⟩, by simp [intOf]⟩
    · by_cases hw : M 11 = 0
      · have hw' : (M 11 == 0) = true := by simpa using hw
        have HW := Lib.hid hw
        clear hw
        go_wp2_with fail
        have e : So.psum S (2 + 1) = So.psum S 2 := by
          have := (HROW.out 2 (by decide)).2.2.2
          show So.psum S 2 + So.cof S 2 = _
          unfold So.cof
          rw [if_pos (by rw [← this]; exact HW.out), Int.add_zero]
        exact ⟨⟨3, rfl, by omega, by omega, by rw [show (3 : Int).toNat = 2 + 1 from rfl, e]; exact HG.out, HG0.out, hB2⟩, by simp [intOf]⟩
      · have hw' : (M 11 == 0) = false := by simpa using hw
        have HW := Lib.hid hw
        clear hw
        go_wp2_with fail
        obtain ⟨W1, rfl⟩ : ∃ W1 : World, W1 = wr := ⟨_, rfl⟩
        go_loopw [6, 5] (fun a v wx => ∃ s : Int, a = .int .i64 s ∧ 0 ≤ s ∧ s ≤ 4 ∧ wx.ownsRow W1.heap.size 63 4 v (vcnt 2 s.toNat) (vals4 M 2 s.toNat) ∧ Below W1.heap.size W1 wx) (fun a _ _ => 4 - (intOf a).toNat)
        case atStart => exact ⟨0, rfl, by omega, by omega, ⟨by simp [vals4, vcnt], .inl ⟨rfl, by simp [vcnt]⟩⟩, Below.refl _ _⟩
        case round =>
          obtain ⟨s, rfl, hs0, hs1, hown, hBx⟩ := hrel
          have cI : ∀ o, o < 16 → wr.cell? ⟨b, o, none⟩ = some (.int .i64 (M o)) := fun o ho => (hBx.cell (p := ⟨b, o, none⟩) HBZ.out).trans (HI.out o ho)
          have HOWN := Lib.hid hown
          have HBX := Lib.hid hBx
          clear hown hBx hI
          have : s = 0 ∨ s = 1 ∨ s = 2 ∨ s = 3 ∨ s = 4 := by omega
          clear hs0 hs1
          rcases this with rfl | rfl | rfl | rfl | rfl
          · go_wp2_with (at_builtin; refine wpList_append_own _ rfl (.tmp 25) (.tmp 30) 65 rfl W1.heap.size 63 i0 (.agg #[.int .i64 0, .int .i64 0, .int .i64 0, .int .i64 0]) 4 32 Try.underlying65 hI0 hz0 hz1 hz2 rfl (by decide) _ _ _ rfl (HOWN.out.alloc _) ⟨_, 0, none⟩ 1 1 [.int .i64 (M 0), .int .i64 (M 1), .int .i64 (M 2), .int .i64 (M 3)] rfl rfl (four_new _ _ _ _ _ _) (by simp [Value.oneCell']) (by decide) (by decide) (Nat.le_trans HBX.out.size (by simp)) ?_; intro v' w1 hown1 hgrow1 hnil1)
            have hB1 := below_grown (HBX.out.alloc HBX.out.size _) (HOWN.out.alloc _) hgrow1
            clear hgrow1 hnil1
            go_wp2_with fail
            exact ⟨⟨1, rfl, by omega, by omega, hown1, hB1⟩, by simp [intOf]⟩
          · go_wp2_with (at_builtin; refine wpList_append_own _ rfl (.tmp 25) (.tmp 30) 65 rfl W1.heap.size 63 i0 (.agg #[.int .i64 0, .int .i64 0, .int .i64 0, .int .i64 0]) 4 32 Try.underlying65 hI0 hz0 hz1 hz2 rfl (by decide) _ _ _ rfl (HOWN.out.alloc _) ⟨_, 0, none⟩ 1 1 [.int .i64 (M 4), .int .i64 (M 5), .int .i64 (M 6), .int .i64 (M 7)] rfl rfl (four_new _ _ _ _ _ _) (by simp [Value.oneCell']) (by decide) (by decide) (Nat.le_trans HBX.out.size (by simp)) ?_; intro v' w1 hown1 hgrow1 hnil1)
            have hB1 := below_grown (HBX.out.alloc HBX.out.size _) (HOWN.out.alloc _) hgrow1
            clear hgrow1 hnil1
            go_wp2_with fail
            exact ⟨⟨2, rfl, by omega, by omega, hown1, hB1⟩, by simp [intOf]⟩
          · go_wp2_with fail
            exact ⟨⟨3, rfl, by omega, by omega, HOWN.out, HBX.out⟩, by simp [intOf]⟩
          · go_wp2_with (at_builtin; refine wpList_append_own _ rfl (.tmp 25) (.tmp 30) 65 rfl W1.heap.size 63 i0 (.agg #[.int .i64 0, .int .i64 0, .int .i64 0, .int .i64 0]) 4 32 Try.underlying65 hI0 hz0 hz1 hz2 rfl (by decide) _ _ _ rfl (HOWN.out.alloc _) ⟨_, 0, none⟩ 1 1 [.int .i64 (M 12), .int .i64 (M 13), .int .i64 (M 14), .int .i64 (M 15)] rfl rfl (four_new _ _ _ _ _ _) (by simp [Value.oneCell']) (by decide) (by decide) (Nat.le_trans HBX.out.size (by simp)) ?_; intro v' w1 hown1 hgrow1 hnil1)
            have hB1 := below_grown (HBX.out.alloc HBX.out.size _) (HOWN.out.alloc _) hgrow1
            clear hgrow1 hnil1
            go_wp2_with fail
            exact ⟨⟨4, rfl, by omega, by omega, hown1, hB1⟩, by simp [intOf]⟩
          · have hown := HOWN.out
            obtain ⟨g, cap, rfl, hg0, hg1, k0, k1, k2, k3, k4, k5, k6, k7, k8, k9, k10, k11⟩ := twelve_row (show wr.ownsRow W1.heap.size 63 4 _ 3 [.int .i64 (M 0), .int .i64 (M 1), .int .i64 (M 2), .int .i64 (M 3), .int .i64 (M 4), .int .i64 (M 5), .int .i64 (M 6), .int .i64 (M 7), .int .i64 (M 12), .int .i64 (M 13), .int .i64 (M 14), .int .i64 (M 15)] from hown)
            clear hown
            have TH := Lib.hid (rthree_any (M 0) (M 1) (M 2) (M 3) (M 4) (M 5) (M 6) (M 7) (M 12) (M 13) (M 14) (M 15) (HWD.out 0 (by decide)).1 (HWD.out 0 (by decide)).2.1 (HWD.out 0 (by decide)).2.2 (HWD.out 1 (by decide)).1 (HWD.out 1 (by decide)).2.1 (HWD.out 1 (by decide)).2.2 (HWD.out 3 (by decide)).1 (HWD.out 3 (by decide)).2.1 (HWD.out 3 (by decide)).2.2)
            rw [show det3 (M 0) (M 1) (M 2) (M 4) (M 5) (M 6) (M 12) (M 13) (M 14) = So.oth S 2 by
              obtain ⟨p0, p1, p2, _⟩ := HROW.out 0 (by decide)
              obtain ⟨p3, p4, p5, _⟩ := HROW.out 1 (by decide)
              obtain ⟨p6, p7, p8, _⟩ := HROW.out 3 (by decide)
              rw [p0, p1, p2, p3, p4, p5, p6, p7, p8]; rfl] at TH
            go_upto_region 12 with fail
            have hB3 := hB2.trans (HBX.out.mono hB2.size)
            have HS := Lib.hid ((show RCell W1 (w.heap.size + 1) _ _ from HG.out).mono HBX.out)
            have HS0 := Lib.hid ((show RCell W1 w.heap.size _ _ from HG0.out).mono HBX.out)
            have hgb : w.heap.size + 1 < W1.heap.size := HG.out.2.2.2.2
            have hgb2 : w.heap.size + 1 < wr.heap.size := HS.out.2.2.2.2
            have HB3 := Lib.hid hB3
            clear hB3 hG hG0 HOWN HBX hB2 hg0 cI
            obtain ⟨W2, rfl⟩ : ∃ W2 : World, W2 = wr := ⟨_, rfl⟩
            go_cut [7] (fun s7 wx => ∃ g : Nat, s7 = .pointer (some ⟨g, 0, none⟩) ∧ W2.heap.size ≤ g ∧ RCell wx g (.int .u64 (rhi (So.oth S 2))) (.int .u64 (lo (So.oth S 2))) ∧ Below W2.heap.size W2 wx)
            case first =>
              go_region_held3 (fun w' => Below W2.heap.size W2 w' ∧ ∀ b o, b < W2.heap.size → w'.cell? ⟨b, o, none⟩ = W2.cell? ⟨b, o, none⟩)
                (first | exact keep0 _ | exact keep_call ‹_› hn | exact keep_alloc ‹_› | exact keep_re ‹_› (by first | assumption | exact Nat.le_refl _) | exact keep_set (keep_set ‹_› (by first | assumption | exact Nat.le_refl _)) (by first | assumption | exact Nat.le_refl _))
                (first
                  | (go_at_call 46; (with_reducible refine (TH.out _).mono ?_); rintro e w1 ⟨rfl, hn⟩; have hz := keep_sz ‹_› hn; first | have hG := fresh2 hn | have hG := fresh2 (undrew hn) | have hG := carry2 hG hn | skip))
              all_goals (go_wp2_with fail; go_meet)
              all_goals refine ⟨_, rfl, (by first | assumption | exact Nat.le_refl _ | (simp <;> omega)), ⟨(by first | (simp [go_sem]; done) | (simp [go_sem, *]; done)), (by first | (simp [go_sem]; done) | (simp [go_sem, *]; done)), (by first | (simp [go_sem]; done) | (simp [go_sem, *]; done)), (by first | (simp [go_sem]; done) | (simp [go_sem, *]; done)), (by first | (simp; done) | (simp; omega))⟩, keep_below ‹_›⟩
            case rest =>
              obtain ⟨g2, rfl, hg2, hR, hBc⟩ := hcut
              have hS := HS.out.mono hBc
              have hS0 := HS0.out.mono hBc
              have hB4 := HB3.out.trans (hBc.mono HB3.out.size)
              have ne1 : ¬ g2 = w.heap.size + 1 := by omega
              have ne2 : ¬ w.heap.size + 1 = g2 := by omega
              have ne3 : ¬ g2 = w.heap.size := by omega
              have ne4 : ¬ w.heap.size = g2 := by omega
              clear k0 k1 k2 k3 k4 k5 k6 k7 k8 k9 k10 k11 hBc HS HS0 HB3 TH
              unfold RCell at hR hS hS0
              obtain ⟨X, hX⟩ : ∃ X, X = So.oth S 2 := ⟨_, rfl⟩
              rw [← hX] at hR
              have HX := Lib.hid hX
              clear hX
              go_wp2_with fail
              refine (rneg_any X (isR _) _).mono ?_
              rintro e w5 ⟨rfl, hn⟩
              replace hR := carry2 hR hn
              replace hS := carry2 hS hn
              replace hS0 := carry2 hS0 hn
              replace hB4 := hB4.trans (hn.mono hB4.size)
              clear hn
              go_wp2_with fail
              replace hS := RCell.far (r := g2) (o := 1) (v := .int .u64 (lo (-X))) (RCell.far (r := g2) (o := 0) (v := .int .u64 (rhi (-X))) hS ne1) ne1
              replace hS0 := RCell.far (r := g2) (o := 1) (v := .int .u64 (lo (-X))) (RCell.far (r := g2) (o := 0) (v := .int .u64 (rhi (-X))) hS0 ne3) ne3
              replace hB4 := (hB4.setCell (p := ⟨g2, 0, none⟩) (by simp; omega) (.int .u64 (rhi (-X)))).setCell (p := ⟨g2, 1, none⟩) (by simp; omega) (.int .u64 (lo (-X)))
              refine (radd_any (So.psum S 2) (-X) (isR _) (isR _) _).mono ?_
              rintro e w6 ⟨rfl, hn⟩
              replace hS := carry2 hS hn
              replace hS0 := carry2 hS0 hn
              replace hB4 := hB4.trans (hn.mono hB4.size)
              clear hn hR
              go_wp2_with fail
              have e : So.psum S (2 + 1) = So.psum S 2 + -X := by
                have := (HROW.out 2 (by decide)).2.2.2
                show So.psum S 2 + So.cof S 2 = _
                unfold So.cof
                rw [if_neg (by rw [← this]; exact HW.out), HX.out]
                rfl
              exact ⟨⟨3, rfl, by omega, by omega, by rw [show (3 : Int).toNat = 2 + 1 from rfl, e]; exact RCell.put2 hS, (RCell.far (RCell.far hS0 (by omega)) (by omega)), (hB4.setCell (by simp) _).setCell (by simp) _⟩, by simp [intOf]⟩
    · by_cases hw : M 15 = 0
      · have hw' : (M 15 == 0) = true := by simpa using hw
        have HW := Lib.hid hw
        clear hw
        go_wp2_with fail
        have e : So.psum S (3 + 1) = So.psum S 3 := by
          have := (HROW.out 3 (by decide)).2.2.2
          show So.psum S 3 + So.cof S 3 = _
          unfold So.cof
          rw [if_pos (by rw [← this]; exact HW.out), Int.add_zero]
        exact ⟨⟨4, rfl, by omega, by omega, by rw [show (4 : Int).toNat = 3 + 1 from rfl, e]; exact HG.out, HG0.out, hB2⟩, by simp [intOf]⟩
      · have hw' : (M 15 == 0) = false := by simpa using hw
        have HW := Lib.hid hw
        clear hw
        go_wp2_with fail
        obtain ⟨W1, rfl⟩ : ∃ W1 : World, W1 = wr := ⟨_, rfl⟩
        go_loopw [6, 5] (fun a v wx => ∃ s : Int, a = .int .i64 s ∧ 0 ≤ s ∧ s ≤ 4 ∧ wx.ownsRow W1.heap.size 63 4 v (vcnt 3 s.toNat) (vals4 M 3 s.toNat) ∧ Below W1.heap.size W1 wx) (fun a _ _ => 4 - (intOf a).toNat)
        case atStart => exact ⟨0, rfl, by omega, by omega, ⟨by simp [vals4, vcnt], .inl ⟨rfl, by simp [vcnt]⟩⟩, Below.refl _ _⟩
        case round =>
          obtain ⟨s, rfl, hs0, hs1, hown, hBx⟩ := hrel
          have cI : ∀ o, o < 16 → wr.cell? ⟨b, o, none⟩ = some (.int .i64 (M o)) := fun o ho => (hBx.cell (p := ⟨b, o, none⟩) HBZ.out).trans (HI.out o ho)
          have HOWN := Lib.hid hown
          have HBX := Lib.hid hBx
          clear hown hBx hI
          have : s = 0 ∨ s = 1 ∨ s = 2 ∨ s = 3 ∨ s = 4 := by omega
          clear hs0 hs1
          rcases this with rfl | rfl | rfl | rfl | rfl
          · go_wp2_with (at_builtin; refine wpList_append_own _ rfl (.tmp 25) (.tmp 30) 65 rfl W1.heap.size 63 i0 (.agg #[.int .i64 0, .int .i64 0, .int .i64 0, .int .i64 0]) 4 32 Try.underlying65 hI0 hz0 hz1 hz2 rfl (by decide) _ _ _ rfl (HOWN.out.alloc _) ⟨_, 0, none⟩ 1 1 [.int .i64 (M 0), .int .i64 (M 1), .int .i64 (M 2), .int .i64 (M 3)] rfl rfl (four_new _ _ _ _ _ _) (by simp [Value.oneCell']) (by decide) (by decide) (Nat.le_trans HBX.out.size (by simp)) ?_; intro v' w1 hown1 hgrow1 hnil1)
            have hB1 := below_grown (HBX.out.alloc HBX.out.size _) (HOWN.out.alloc _) hgrow1
            clear hgrow1 hnil1
            go_wp2_with fail
            exact ⟨⟨1, rfl, by omega, by omega, hown1, hB1⟩, by simp [intOf]⟩
          · go_wp2_with (at_builtin; refine wpList_append_own _ rfl (.tmp 25) (.tmp 30) 65 rfl W1.heap.size 63 i0 (.agg #[.int .i64 0, .int .i64 0, .int .i64 0, .int .i64 0]) 4 32 Try.underlying65 hI0 hz0 hz1 hz2 rfl (by decide) _ _ _ rfl (HOWN.out.alloc _) ⟨_, 0, none⟩ 1 1 [.int .i64 (M 4), .int .i64 (M 5), .int .i64 (M 6), .int .i64 (M 7)] rfl rfl (four_new _ _ _ _ _ _) (by simp [Value.oneCell']) (by decide) (by decide) (Nat.le_trans HBX.out.size (by simp)) ?_; intro v' w1 hown1 hgrow1 hnil1)
            have hB1 := below_grown (HBX.out.alloc HBX.out.size _) (HOWN.out.alloc _) hgrow1
            clear hgrow1 hnil1
            go_wp2_with fail
            exact ⟨⟨2, rfl, by omega, by omega, hown1, hB1⟩, by simp [intOf]⟩
          · go_wp2_with (at_builtin; refine wpList_append_own _ rfl (.tmp 25) (.tmp 30) 65 rfl W1.heap.size 63 i0 (.agg #[.int .i64 0, .int .i64 0, .int .i64 0, .int .i64 0]) 4 32 Try.underlying65 hI0 hz0 hz1 hz2 rfl (by decide) _ _ _ rfl (HOWN.out.alloc _) ⟨_, 0, none⟩ 1 1 [.int .i64 (M 8), .int .i64 (M 9), .int .i64 (M 10), .int .i64 (M 11)] rfl rfl (four_new _ _ _ _ _ _) (by simp [Value.oneCell']) (by decide) (by decide) (Nat.le_trans HBX.out.size (by simp)) ?_; intro v' w1 hown1 hgrow1 hnil1)
            have hB1 := below_grown (HBX.out.alloc HBX.out.size _) (HOWN.out.alloc _) hgrow1
            clear hgrow1 hnil1
            go_wp2_with fail
            exact ⟨⟨3, rfl, by omega, by omega, hown1, hB1⟩, by simp [intOf]⟩
          · go_wp2_with fail
            exact ⟨⟨4, rfl, by omega, by omega, HOWN.out, HBX.out⟩, by simp [intOf]⟩
          · have hown := HOWN.out
            obtain ⟨g, cap, rfl, hg0, hg1, k0, k1, k2, k3, k4, k5, k6, k7, k8, k9, k10, k11⟩ := twelve_row (show wr.ownsRow W1.heap.size 63 4 _ 3 [.int .i64 (M 0), .int .i64 (M 1), .int .i64 (M 2), .int .i64 (M 3), .int .i64 (M 4), .int .i64 (M 5), .int .i64 (M 6), .int .i64 (M 7), .int .i64 (M 8), .int .i64 (M 9), .int .i64 (M 10), .int .i64 (M 11)] from hown)
            clear hown
            have TH := Lib.hid (rthree_any (M 0) (M 1) (M 2) (M 3) (M 4) (M 5) (M 6) (M 7) (M 8) (M 9) (M 10) (M 11) (HWD.out 0 (by decide)).1 (HWD.out 0 (by decide)).2.1 (HWD.out 0 (by decide)).2.2 (HWD.out 1 (by decide)).1 (HWD.out 1 (by decide)).2.1 (HWD.out 1 (by decide)).2.2 (HWD.out 2 (by decide)).1 (HWD.out 2 (by decide)).2.1 (HWD.out 2 (by decide)).2.2)
            rw [show det3 (M 0) (M 1) (M 2) (M 4) (M 5) (M 6) (M 8) (M 9) (M 10) = So.oth S 3 by
              obtain ⟨p0, p1, p2, _⟩ := HROW.out 0 (by decide)
              obtain ⟨p3, p4, p5, _⟩ := HROW.out 1 (by decide)
              obtain ⟨p6, p7, p8, _⟩ := HROW.out 2 (by decide)
              rw [p0, p1, p2, p3, p4, p5, p6, p7, p8]; rfl] at TH
            go_upto_region 12 with fail
            have hB3 := hB2.trans (HBX.out.mono hB2.size)
            have HS := Lib.hid ((show RCell W1 (w.heap.size + 1) _ _ from HG.out).mono HBX.out)
            have HS0 := Lib.hid ((show RCell W1 w.heap.size _ _ from HG0.out).mono HBX.out)
            have hgb : w.heap.size + 1 < W1.heap.size := HG.out.2.2.2.2
            have hgb2 : w.heap.size + 1 < wr.heap.size := HS.out.2.2.2.2
            have HB3 := Lib.hid hB3
            clear hB3 hG hG0 HOWN HBX hB2 hg0 cI
            obtain ⟨W2, rfl⟩ : ∃ W2 : World, W2 = wr := ⟨_, rfl⟩
            go_cut [7] (fun s7 wx => ∃ g : Nat, s7 = .pointer (some ⟨g, 0, none⟩) ∧ W2.heap.size ≤ g ∧ RCell wx g (.int .u64 (rhi (So.oth S 3))) (.int .u64 (lo (So.oth S 3))) ∧ Below W2.heap.size W2 wx)
            case first =>
              go_region_held3 (fun w' => Below W2.heap.size W2 w' ∧ ∀ b o, b < W2.heap.size → w'.cell? ⟨b, o, none⟩ = W2.cell? ⟨b, o, none⟩)
                (first | exact keep0 _ | exact keep_call ‹_› hn | exact keep_alloc ‹_› | exact keep_re ‹_› (by first | assumption | exact Nat.le_refl _) | exact keep_set (keep_set ‹_› (by first | assumption | exact Nat.le_refl _)) (by first | assumption | exact Nat.le_refl _))
                (first
                  | (go_at_call 46; (with_reducible refine (TH.out _).mono ?_); rintro e w1 ⟨rfl, hn⟩; have hz := keep_sz ‹_› hn; first | have hG := fresh2 hn | have hG := fresh2 (undrew hn) | have hG := carry2 hG hn | skip))
              all_goals (go_wp2_with fail; go_meet)
              all_goals refine ⟨_, rfl, (by first | assumption | exact Nat.le_refl _ | (simp <;> omega)), ⟨(by first | (simp [go_sem]; done) | (simp [go_sem, *]; done)), (by first | (simp [go_sem]; done) | (simp [go_sem, *]; done)), (by first | (simp [go_sem]; done) | (simp [go_sem, *]; done)), (by first | (simp [go_sem]; done) | (simp [go_sem, *]; done)), (by first | (simp; done) | (simp; omega))⟩, keep_below ‹_›⟩
            case rest =>
              obtain ⟨g2, rfl, hg2, hR, hBc⟩ := hcut
              have hS := HS.out.mono hBc
              have hS0 := HS0.out.mono hBc
              have hB4 := HB3.out.trans (hBc.mono HB3.out.size)
              have ne1 : ¬ g2 = w.heap.size + 1 := by omega
              have ne2 : ¬ w.heap.size + 1 = g2 := by omega
              have ne3 : ¬ g2 = w.heap.size := by omega
              have ne4 : ¬ w.heap.size = g2 := by omega
              clear k0 k1 k2 k3 k4 k5 k6 k7 k8 k9 k10 k11 hBc HS HS0 HB3 TH
              unfold RCell at hR hS hS0
              obtain ⟨X, hX⟩ : ∃ X, X = So.oth S 3 := ⟨_, rfl⟩
              rw [← hX] at hR
              have HX := Lib.hid hX
              clear hX
              go_wp2_with fail
              refine (radd_any (So.psum S 3) (X) (isR _) (isR _) _).mono ?_
              rintro e w6 ⟨rfl, hn⟩
              replace hS := carry2 hS hn
              replace hS0 := carry2 hS0 hn
              replace hB4 := hB4.trans (hn.mono hB4.size)
              clear hn hR
              go_wp2_with fail
              have e : So.psum S (3 + 1) = So.psum S 3 + X := by
                have := (HROW.out 3 (by decide)).2.2.2
                show So.psum S 3 + So.cof S 3 = _
                unfold So.cof
                rw [if_neg (by rw [← this]; exact HW.out), HX.out]
                rfl
              exact ⟨⟨4, rfl, by omega, by omega, by rw [show (4 : Int).toNat = 3 + 1 from rfl, e]; exact RCell.put2 hS, (RCell.far (RCell.far hS0 (by omega)) (by omega)), (hB4.setCell (by simp) _).setCell (by simp) _⟩, by simp [intOf]⟩
    · go_wp2_with fail
      have e4 := HAT.out
      exact bodyPost_ret (v := .agg #[.int .u64 (rhi (So.at4 S)), .int .u64 (lo (So.at4 S))]) (by simp [results, Try.results31, go_sem, hG0, e4]) rfl ⟨rfl, (hB2.setCell (by simp) _).setCell (by simp) _⟩
end Go.Proofs.Yteieeclflfbinaa
