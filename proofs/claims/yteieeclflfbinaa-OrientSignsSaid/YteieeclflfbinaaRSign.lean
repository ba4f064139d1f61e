/- The contract of the reference's Sign. (Printed by mkrsg.py.) -/
import Derived.Test.YteieeclflfbinaaRsg
import Derived.Test.YteieeclflfbinaaChanged
import Derived.Test.YteieeclflfbinaaRDet
namespace Go.Proofs.Yteieeclflfbinaa
open Go.RowKit Go.Proofs
set_option linter.unusedVariables false

/-- four rows, as their cells hold them -/
def MR (R : Nat → So.Rw) (o : Nat) : Int := if o % 4 = 0 then (R (o / 4)).x else if o % 4 = 1 then (R (o / 4)).y else if o % 4 = 2 then (R (o / 4)).z else (R (o / 4)).w
theorem MR_row (R : Nat → So.Rw) (i : Nat) (hi : i < 4) : MR R (4 * i) = (R i).x ∧ MR R (4 * i + 1) = (R i).y ∧ MR R (4 * i + 2) = (R i).z ∧ MR R (4 * i + 3) = (R i).w := by
  unfold MR
  refine ⟨?_, ?_, ?_, ?_⟩
  · rw [if_pos (by omega), show 4 * i / 4 = i by omega]
  · rw [if_neg (by omega), if_pos (by omega), show (4 * i + 1) / 4 = i by omega]
  · rw [if_neg (by omega), if_neg (by omega), if_pos (by omega), show (4 * i + 2) / 4 = i by omega]
  · rw [if_neg (by omega), if_neg (by omega), if_neg (by omega), show (4 * i + 3) / 4 = i by omega]

set_option maxHeartbeats 4000000 in
set_option maxRecDepth 100000 in
theorem rsign2_any (n cap : Nat) (a : Addr) (hn : n ≤ maxLen) (X Y Z : Nat → Int) (i j k m : Int) (w : World) (hab : a.block < w.heap.size)
    (hP : ∀ i, i < n → w.cell? (a.add (3 * i)) = some (.int .i64 (X i)) ∧ w.cell? (a.add (3 * i + 1)) = some (.int .i64 (Y i)) ∧ w.cell? (a.add (3 * i + 2)) = some (.int .i64 (Z i)))
    (hok : okp n i j k m) (hmy : (mayP X Y Z i.toNat && mayP X Y Z j.toNat && mayP X Y Z k.toNat && mayP X Y Z m.toNat) = true) :
    Calls Try.prog 40 #[.slice (some a) n cap, .int .i64 i, .int .i64 j, .int .i64 k, .int .i64 m] w fun e w' => e = .returned (.int .i64 (So.signV (rowOf X Y Z) i.toNat j.toNat k.toNat m.toNat)) ∧ Below w.heap.size w w' := by
  have HP := Lib.hid hP
  have HAB := Lib.hid hab
  unfold maxLen at hn
  have HNL := Lib.hid hn
  have HOK := Lib.hid hok
  have HMY := Lib.hid hmy
  obtain ⟨S, hS⟩ : ∃ S : Nat → (Nat → Nat) × Int, ∀ q, S q = So.steps (So.q4 i.toNat j.toNat k.toNat m.toNat, 1) q := ⟨_, fun _ => rfl⟩
  have ST := Lib.hid (show ∀ q, (S q).2 = 1 ∨ (S q).2 = -1 from fun q => by rw [hS]; exact So.steps_turn _ q (.inl rfl))
  have SN := Lib.hid (show ∀ q, S (q + 1) = So.stp (q % 3) (S q) from fun q => by rw [hS, hS]; rfl)
  have L0 := Lib.hid (show Lk (S 0) (fun o => if o = 0 then i else if o = 1 then j else if o = 2 then k else m) 1 by
    rw [hS]
    refine ⟨fun o ho => ?_, rfl⟩
    have : o = 0 ∨ o = 1 ∨ o = 2 ∨ o = 3 := by omega
    have := hok.1
    rcases ‹o = 0 ∨ _› with rfl | rfl | rfl | rfl <;> simp [So.steps, So.q4] <;> omega)
  have S12 := Lib.hid (show S 12 = S 9 by rw [hS, hS]; exact steps12 (un4_okp hok))
  have SV := Lib.hid (show So.signV (rowOf X Y Z) i.toNat j.toNat k.toNat m.toNat = (S 9).2 * So.sgn4 (rowOf X Y Z ((S 9).1 0)) (rowOf X Y Z ((S 9).1 1)) (rowOf X Y Z ((S 9).1 2)) (rowOf X Y Z ((S 9).1 3)) by rw [hS]; rfl)
  have hin : ∀ o, o < 4 → (S 9).1 o = i.toNat ∨ (S 9).1 o = j.toNat ∨ (S 9).1 o = k.toNat ∨ (S 9).1 o = m.toNat := by
    rw [hS]
    refine So.steps_from _ 9 (fun q => q = i.toNat ∨ q = j.toNat ∨ q = k.toNat ∨ q = m.toNat) ?_
    intro o ho
    have : o = 0 ∨ o = 1 ∨ o = 2 ∨ o = 3 := by omega
    rcases this with rfl | rfl | rfl | rfl <;> simp [So.q4]
  have HPL := Lib.hid (show ∀ o, o < 4 → (S 9).1 o < n from fun o ho => by
    have := hok.1
    rcases hin o ho with h | h | h | h <;> rw [h] <;> omega)
  have HCD := Lib.hid (show ∀ o, o < 4 → Cd (rowOf X Y Z ((S 9).1 o)).x ∧ Cd (rowOf X Y Z ((S 9).1 o)).y ∧ Cd (rowOf X Y Z ((S 9).1 o)).z from fun o ho => by
    simp only [Bool.and_eq_true] at hmy
    rcases hin o ho with h | h | h | h <;> rw [h]
    · exact row_cd hmy.1.1.1
    · exact row_cd hmy.1.1.2
    · exact row_cd hmy.1.2
    · exact row_cd hmy.2)
  rw [SV.out]
  clear hS hin hP hab hok hmy hn
  go_enter Try.func40, Try.ntmps40
  go_wp2_with fail
  generalize hW : World.alloc _ _ = W
  have hI : Ints W w.heap.size 4 (fun o => if o = 0 then i else if o = 1 then j else if o = 2 then k else m) := by
    rw [← hW]
    refine ⟨by simp, fun o ho => ?_, fun o ho => by simp [go_sem]⟩
    have : o = 0 ∨ o = 1 ∨ o = 2 ∨ o = 3 := by omega
    rcases this with rfl | rfl | rfl | rfl <;> simp [go_sem]
  have hB : Below w.heap.size w W := by rw [← hW]; exact bl1 (Below.refl _ _)
  clear hW
  go_loopw [13, 12] (fun c t wx => ∃ (r T : Int) (M : Nat → Int), c = .int .i64 r ∧ t = .int .i64 T ∧ 0 ≤ r ∧ r ≤ 4 ∧ Lk (S (3 * r.toNat)) M T ∧ Ints wx w.heap.size 4 M ∧ Below w.heap.size w wx) (fun c _ _ => 4 - (intOf c).toNat)
  case atStart => exact ⟨0, 1, _, rfl, rfl, by omega, by omega, L0.out, hI, hB⟩
  case round =>
    clear hI hB
    obtain ⟨r, T, M, rfl, rfl, hr0, hr, hL, hI, hB⟩ := hrel
    have HL := Lib.hid hL
    clear hL
    by_cases cr : r < 4
    · go_wp2_with fail
      go_loopw [14, 12] (fun c t wx => ∃ (b T : Int) (M : Nat → Int), c = .int .i64 b ∧ t = .int .i64 T ∧ 0 ≤ b ∧ b ≤ 3 ∧ Lk (S (3 * r.toNat + b.toNat)) M T ∧ Ints wx w.heap.size 4 M ∧ Below w.heap.size w wx) (fun c _ _ => 3 - (intOf c).toNat)
      case atStart => exact ⟨0, T, M, rfl, rfl, by omega, by omega, HL.out, hI, hB⟩
      case round =>
        clear hI hB HL
        obtain ⟨b, T1, M1, rfl, rfl, hb0, hb, hL, hI, hB⟩ := hrel
        have HL := Lib.hid hL
        have HI := Lib.hid hI
        obtain ⟨zI, cI, fI⟩ := hI
        have hT : -1 ≤ T1 ∧ T1 ≤ 1 := by have := ST.out (3 * r.toNat + b.toNat); have := hL.2; omega
        obtain ⟨hT0, hT1⟩ := hT
        have hTn : IntKind.i64.wrap (-T1) = -T1 := by rw [IntKind.wrap_i64]; omega
        have : b = 0 ∨ b = 1 ∨ b = 2 ∨ b = 3 := by omega
        clear hb0 hb hL
        rcases this with rfl | rfl | rfl | rfl
        · by_cases hl : M1 1 < M1 0
          · have hl' : decide (M1 1 < M1 0) = true := by simpa using hl
            go_wp2_with fail
            go_quiet (fail)
            have hI2 : Ints (wr.drewN nq) w.heap.size 4 M1 := HI.out.drewN
            have hB2 : Below w.heap.size w (wr.drewN nq) := hB.trans (Below.mono (show Below wr.heap.size wr (wr.drewN nq) from ⟨rfl, rfl, rfl, Nat.le_refl _, fun _ _ => rfl⟩) hB.size)
            clear cI fI zI hB
            generalize wr.drewN nq = W2 at hI2 hB2 ⊢
            have HI2 := Lib.hid hI2
            obtain ⟨zI, cI, fI⟩ := hI2
            go_wp2_with fail
            go_region
            go_wp2_with fail
            exact ⟨⟨1, -T1, _, rfl, rfl, by omega, by omega, by
              have e := SN.out (3 * r.toNat + 0)
              rw [show (3 * r.toNat + 0) % 3 = 0 by omega] at e
              show Lk (S (3 * r.toNat + 0 + 1)) _ _
              rw [e]; exact Lk.swap HL.out 0 (by decide) hl, ((HI2.out.set 0 _ (by decide)).set 1 _ (by decide)).drew, ((hB2.setCell (by simp) _).setCell (by simp) _).drew⟩, by simp [intOf]⟩
          · have hl' : decide (M1 1 < M1 0) = false := by simpa using hl
            have HLL := Lib.hid hl
            clear hl
            go_wp2_with fail
            go_quiet (fail)
            go_wp2_with fail
            exact ⟨⟨1, T1, M1, rfl, rfl, by omega, by omega, by
              have e := SN.out (3 * r.toNat + 0)
              rw [show (3 * r.toNat + 0) % 3 = 0 by omega] at e
              show Lk (S (3 * r.toNat + 0 + 1)) _ _
              rw [e]; exact Lk.keep HL.out 0 (by decide) (Int.not_lt.2 HLL.out), HI.out.drewN, hB.trans (Below.mono (show Below wr.heap.size wr (wr.drewN nq) from ⟨rfl, rfl, rfl, Nat.le_refl _, fun _ _ => rfl⟩) hB.size)⟩, by simp [intOf]⟩
        · by_cases hl : M1 2 < M1 1
          · have hl' : decide (M1 2 < M1 1) = true := by simpa using hl
            go_wp2_with fail
            go_quiet (fail)
            have hI2 : Ints (wr.drewN nq) w.heap.size 4 M1 := HI.out.drewN
            have hB2 : Below w.heap.size w (wr.drewN nq) := hB.trans (Below.mono (show Below wr.heap.size wr (wr.drewN nq) from ⟨rfl, rfl, rfl, Nat.le_refl _, fun _ _ => rfl⟩) hB.size)
            clear cI fI zI hB
            generalize wr.drewN nq = W2 at hI2 hB2 ⊢
            have HI2 := Lib.hid hI2
            obtain ⟨zI, cI, fI⟩ := hI2
            go_wp2_with fail
            go_region
            go_wp2_with fail
            exact ⟨⟨2, -T1, _, rfl, rfl, by omega, by omega, by
              have e := SN.out (3 * r.toNat + 1)
              rw [show (3 * r.toNat + 1) % 3 = 1 by omega] at e
              show Lk (S (3 * r.toNat + 1 + 1)) _ _
              rw [e]; exact Lk.swap HL.out 1 (by decide) hl, ((HI2.out.set 1 _ (by decide)).set 2 _ (by decide)).drew, ((hB2.setCell (by simp) _).setCell (by simp) _).drew⟩, by simp [intOf]⟩
          · have hl' : decide (M1 2 < M1 1) = false := by simpa using hl
            have HLL := Lib.hid hl
            clear hl
            go_wp2_with fail
            go_quiet (fail)
            go_wp2_with fail
            exact ⟨⟨2, T1, M1, rfl, rfl, by omega, by omega, by
              have e := SN.out (3 * r.toNat + 1)
              rw [show (3 * r.toNat + 1) % 3 = 1 by omega] at e
              show Lk (S (3 * r.toNat + 1 + 1)) _ _
              rw [e]; exact Lk.keep HL.out 1 (by decide) (Int.not_lt.2 HLL.out), HI.out.drewN, hB.trans (Below.mono (show Below wr.heap.size wr (wr.drewN nq) from ⟨rfl, rfl, rfl, Nat.le_refl _, fun _ _ => rfl⟩) hB.size)⟩, by simp [intOf]⟩
        · by_cases hl : M1 3 < M1 2
          · have hl' : decide (M1 3 < M1 2) = true := by simpa using hl
            go_wp2_with fail
            go_quiet (fail)
            have hI2 : Ints (wr.drewN nq) w.heap.size 4 M1 := HI.out.drewN
            have hB2 : Below w.heap.size w (wr.drewN nq) := hB.trans (Below.mono (show Below wr.heap.size wr (wr.drewN nq) from ⟨rfl, rfl, rfl, Nat.le_refl _, fun _ _ => rfl⟩) hB.size)
            clear cI fI zI hB
            generalize wr.drewN nq = W2 at hI2 hB2 ⊢
            have HI2 := Lib.hid hI2
            obtain ⟨zI, cI, fI⟩ := hI2
            go_wp2_with fail
            go_region
            go_wp2_with fail
            exact ⟨⟨3, -T1, _, rfl, rfl, by omega, by omega, by
              have e := SN.out (3 * r.toNat + 2)
              rw [show (3 * r.toNat + 2) % 3 = 2 by omega] at e
              show Lk (S (3 * r.toNat + 2 + 1)) _ _
              rw [e]; exact Lk.swap HL.out 2 (by decide) hl, ((HI2.out.set 2 _ (by decide)).set 3 _ (by decide)).drew, ((hB2.setCell (by simp) _).setCell (by simp) _).drew⟩, by simp [intOf]⟩
          · have hl' : decide (M1 3 < M1 2) = false := by simpa using hl
            have HLL := Lib.hid hl
            clear hl
            go_wp2_with fail
            go_quiet (fail)
            go_wp2_with fail
            exact ⟨⟨3, T1, M1, rfl, rfl, by omega, by omega, by
              have e := SN.out (3 * r.toNat + 2)
              rw [show (3 * r.toNat + 2) % 3 = 2 by omega] at e
              show Lk (S (3 * r.toNat + 2 + 1)) _ _
              rw [e]; exact Lk.keep HL.out 2 (by decide) (Int.not_lt.2 HLL.out), HI.out.drewN, hB.trans (Below.mono (show Below wr.heap.size wr (wr.drewN nq) from ⟨rfl, rfl, rfl, Nat.le_refl _, fun _ _ => rfl⟩) hB.size)⟩, by simp [intOf]⟩
        · go_wp2_with fail
          exact ⟨⟨r + 1, T1, M1, rfl, rfl, by omega, by omega, by rw [show 3 * (r + 1).toNat = 3 * r.toNat + (3 : Int).toNat by omega]; exact HL.out, HI.out, hB⟩, by simp [intOf]; omega⟩
    · have e : r = 4 := by omega
      subst e
      have hL9 : Lk (S 9) M T := by rw [← S12.out]; exact HL.out
      have hT2 : T = 1 ∨ T = -1 := by rw [hL9.2]; exact ST.out 9
      obtain ⟨zI, cI, fI⟩ := hI
      obtain ⟨b0, b0'⟩ : 0 ≤ M 0 ∧ M 0 < n := by have := hL9.1 0 (by decide); have := HPL.out 0 (by decide); omega
      obtain ⟨b1, b1'⟩ : 0 ≤ M 1 ∧ M 1 < n := by have := hL9.1 1 (by decide); have := HPL.out 1 (by decide); omega
      obtain ⟨b2, b2'⟩ : 0 ≤ M 2 ∧ M 2 < n := by have := hL9.1 2 (by decide); have := HPL.out 2 (by decide); omega
      obtain ⟨b3, b3'⟩ : 0 ≤ M 3 ∧ M 3 < n := by have := hL9.1 3 (by decide); have := HPL.out 3 (by decide); omega
      obtain ⟨R, hR⟩ : ∃ R, R = So.r4 (rowOf X Y Z ((S 9).1 0)) (rowOf X Y Z ((S 9).1 1)) (rowOf X Y Z ((S 9).1 2)) (rowOf X Y Z ((S 9).1 3)) := ⟨_, rfl⟩
      have HR := Lib.hid hR
      have rowq : ∀ o, o < 4 → (R o).x = X (M o).toNat ∧ (R o).y = Y (M o).toNat ∧ (R o).z = Z (M o).toNat ∧ (R o).w = 1 := by
        intro o ho
        have e := hL9.1 o ho
        have : (M o).toNat = (S 9).1 o := by omega
        rw [this, hR]
        have : o = 0 ∨ o = 1 ∨ o = 2 ∨ o = 3 := by omega
        rcases this with rfl | rfl | rfl | rfl <;> exact ⟨rfl, rfl, rfl, rfl⟩
      have HRQ := Lib.hid rowq
      have HL9 := Lib.hid hL9
      have HT2 := Lib.hid hT2
      clear hR rowq hL9 hT2 HL hr hr0 cr
      obtain ⟨W0, rfl⟩ : ∃ W0 : World, W0 = wr := ⟨_, rfl⟩
      have HB := Lib.hid hB
      obtain ⟨k00, k01, k02⟩ := pt_cells HP.out HAB.out hB (show (M 0).toNat < n by omega)
      obtain ⟨k10, k11, k12⟩ := pt_cells HP.out HAB.out hB (show (M 1).toNat < n by omega)
      obtain ⟨k20, k21, k22⟩ := pt_cells HP.out HAB.out hB (show (M 2).toNat < n by omega)
      obtain ⟨k30, k31, k32⟩ := pt_cells HP.out HAB.out hB (show (M 3).toNat < n by omega)
      have kz : ∀ q, (a.add q).block < W0.heap.size := fun q => by rw [add_block]; exact Nat.lt_of_lt_of_le HAB.out hB.size
      have KA : ∀ (k : More) (q : Nat), (kin W0 k).cell? (a.add q) = W0.cell? (a.add q) := fun k q => (below_kin W0 k).cell (p := a.add q) (kz q)
      have kz0 := kz ((M 0).toNat * 3)
      have kz1 := kz ((M 1).toNat * 3)
      have kz2 := kz ((M 2).toNat * 3)
      have kz3 := kz ((M 3).toNat * 3)
      clear kz hB
      go_wp2_with fail
      have KC := kin_cell W0
      refine wp_region_kin_tail 28 (by kernel_rfl) (by kernel_rfl) ?_
      simp only [List.take_succ_cons, List.take_zero]
      repeat (go_big_quiet_step (first
        | (go_at_call 32; with_reducible refine quiet_kin (rrow_any _ _ _ _))))
      refine wpQuiet_nil ?_
      clear KC
      intro _ hu_
      obtain ⟨k_, hu_⟩ := hu_
      have hk := below_kin W0 k_
      rw [← hu_] at hk
      clear hu_ k_
      rename World => u
      simp only [List.drop_succ_cons, List.drop_zero]
      go_wp2_with fail
      generalize hW : World.alloc _ _ = W
      have hI : Ints W u.heap.size 16 (MR R) := by
        rw [← hW]
        clear hW
        obtain ⟨p0, p1, p2, p3⟩ := HRQ.out 0 (by decide)
        obtain ⟨p4, p5, p6, p7⟩ := HRQ.out 1 (by decide)
        obtain ⟨p8, p9, p10, p11⟩ := HRQ.out 2 (by decide)
        obtain ⟨p12, p13, p14, p15⟩ := HRQ.out 3 (by decide)
        refine ⟨by simp, fun o ho => ?_, fun o ho => by simp [go_sem]⟩
        have : o = 0 ∨ o = 1 ∨ o = 2 ∨ o = 3 ∨ o = 4 ∨ o = 5 ∨ o = 6 ∨ o = 7 ∨ o = 8 ∨ o = 9 ∨ o = 10 ∨ o = 11 ∨ o = 12 ∨ o = 13 ∨ o = 14 ∨ o = 15 := by omega
        rcases this with rfl | rfl | rfl | rfl | rfl | rfl | rfl | rfl | rfl | rfl | rfl | rfl | rfl | rfl | rfl | rfl <;> simp [go_sem, MR, *]
      have hB : Below w.heap.size w W := by rw [← hW]; exact (HB.out.trans (hk.mono HB.out.size)).alloc (Nat.le_trans HB.out.size hk.size) _
      clear hW hk cI fI zI KA kz0 kz1 kz2 kz3 k00 k01 k02 k10 k11 k12 k20 k21 k22 k30 k31 k32 b0 b0' b1 b1' b2 b2' b3 b3' HB
      generalize u.heap.size = g0 at *
      go_loopw [16] (fun c wx => ∃ q : Int, c = .int .i64 q ∧ 0 ≤ q ∧ q ≤ 84 ∧ Hid (∀ p : Nat, p < q.toNat → So.CV p R = 0) ∧ Ints wx g0 16 (MR R) ∧ Below w.heap.size w wx) (fun c _ => 84 - (intOf c).toNat)
      case atStart => exact ⟨0, rfl, by omega, by omega, Lib.hid (fun p hp => absurd hp (by omega)), hI, hB⟩
      case round =>
        clear hI hB
        obtain ⟨q, rfl, hq0, hq, HZ, hI, hB⟩ := hrel
        obtain ⟨Q, rfl⟩ := Int.eq_ofNat_of_zero_le hq0
        clear hq0
        have hw1 : ∀ o, o < 4 → (R o).w = 1 := fun o ho => (HRQ.out o ho).2.2.2
        have h84 : So.CV 84 R = 1 := by rw [HR.out]; exact So.CV84 _ _ _ _ rfl rfl rfl rfl
        have H84 := Lib.hid h84
        have HCH := Lib.hid (rchanged_any R (MR R) (MR_row R) hw1 Q (by omega) g0 wr hI.1 hI.2.1)
        have HI := Lib.hid hI
        have HB := Lib.hid hB
        clear h84 hw1 hI hB
        go_wp2_with fail
        refine (HCH.out).mono ?_
        rintro e w1 ⟨hch, hn⟩
        have hI := HI.out.mono hn
        have hB := HB.out.trans (hn.mono HB.out.size)
        have HI := Lib.hid hI
        have HB := Lib.hid hB
        clear hI hB hn HCH
        rcases hch with ⟨hs, rfl⟩ | ⟨S', h', g, M', hs, hrow, hun, rfl, hg, hcl⟩
        · have hv : So.CV Q R = 0 := by unfold So.CV; rw [hs]
          have hne : Q ≠ 84 := by rintro rfl; rw [H84.out] at hv; cases hv
          have HV := Lib.hid hv
          clear hs hv
          go_wp2_with fail
          exact ⟨⟨(Q : Int) + 1, rfl, by omega, by omega, Lib.hid (fun p hp => by
            rcases Nat.lt_or_ge p Q with h | h
            · exact HZ.out p (by simpa using h)
            · have : p = Q := by omega
              rw [this]; exact HV.out), HI.out, HB.out⟩, by simp [intOf]; omega⟩
        · have hv : So.CV Q R = sg (So.at4 S') := by unfold So.CV; rw [hs]
          have hco : ∀ o, o < 4 → Cd (S' o).x ∧ Cd (S' o).y ∧ Cd (S' o).z := by
            intro o ho
            rcases hun o with e | ⟨k', hk', e⟩
            · rw [e, HR.out]
              have : o = 0 ∨ o = 1 ∨ o = 2 ∨ o = 3 := by omega
              rcases this with rfl | rfl | rfl | rfl <;> exact HCD.out _ (by decide)
            · rw [e]; exact un_cd k' hk'
          have hw01 : ∀ o, o < 4 → (S' o).w = 0 ∨ (S' o).w = 1 := by
            intro o ho
            rcases hun o with e | ⟨k', hk', e⟩
            · right; rw [e]; exact (HRQ.out o ho).2.2.2
            · left; rw [e]; rfl
          have hsm : sv (So.at4 S') = So.at4 S' := at4_small (fun o ho => ⟨cd_wd (hco o ho).1, cd_wd (hco o ho).2.1, cd_wd (hco o ho).2.2⟩) hw01
          have HF := Lib.hid (rfour_any S' M' hrow hco hw01 g w1 hg hcl)
          generalize So.at4 S' = d at *
          have HSG := Lib.hid (fun W => rsign_any d (isR d) W)
          rw [hsm] at HSG
          have h3 := sg_three d
          have HV := Lib.hid hv
          generalize sg d = x at *
          clear hs hv hrow hun hg hcl hco hw01 hsm
          go_wp2_with fail
          refine (HF.out).mono ?_
          rintro e w2 ⟨rfl, hn⟩
          have hI := HI.out.mono hn
          have hB := HB.out.trans (hn.mono HB.out.size)
          clear HI HB hn HF
          go_wp2_with fail
          refine (HSG.out _).mono ?_
          rintro e w3 ⟨rfl, hn⟩
          have HI := Lib.hid (hI.mono hn)
          have HB := Lib.hid (hB.trans (hn.mono hB.size))
          clear hI hB hn HSG
          rcases h3 with rfl | h3
          · have hne : Q ≠ 84 := by rintro rfl; have := HV.out; rw [H84.out] at this; cases this
            go_wp2_with fail
            exact ⟨⟨(Q : Int) + 1, rfl, by omega, by omega, Lib.hid (fun p hp => by
              rcases Nat.lt_or_ge p Q with h | h
              · exact HZ.out p (by simpa using h)
              · have : p = Q := by omega
                rw [this]; exact HV.out), HI.out, HB.out⟩, by simp [intOf]; omega⟩
          · have hx0 : x ≠ 0 := by rcases h3 with h | h <;> rw [h] <;> decide
            have hfin : So.sgn4 (rowOf X Y Z ((S 9).1 0)) (rowOf X Y Z ((S 9).1 1)) (rowOf X Y Z ((S 9).1 2)) (rowOf X Y Z ((S 9).1 3)) = x := by
              unfold So.sgn4
              rw [← HR.out, FN_first (q := Q) (fun p hp => HZ.out p (by simpa using hp)) (by rw [HV.out]; exact hx0) (by omega), HV.out]
            have HFIN := Lib.hid (show (S 9).2 * So.sgn4 (rowOf X Y Z ((S 9).1 0)) (rowOf X Y Z ((S 9).1 1)) (rowOf X Y Z ((S 9).1 2)) (rowOf X Y Z ((S 9).1 3)) = T * x by rw [hfin, HL9.out.2])
            have hT := HT2.out
            clear hfin hx0 HV H84 HT2 HZ
            have HL9' := HL9
            clear HL9
            have htx : (T = 1 ∧ x = 1) ∨ (T = 1 ∧ x = -1) ∨ (T = -1 ∧ x = 1) ∨ (T = -1 ∧ x = -1) := by omega
            clear hT h3
            rcases htx with ⟨rfl, rfl⟩ | ⟨rfl, rfl⟩ | ⟨rfl, rfl⟩ | ⟨rfl, rfl⟩
            all_goals go_wp2_with fail
            all_goals go_ret
            all_goals exact ⟨by rw [HFIN.out]; rfl, HB.out⟩
end Go.Proofs.Yteieeclflfbinaa
