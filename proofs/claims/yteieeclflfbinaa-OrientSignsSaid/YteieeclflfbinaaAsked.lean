/- The contracts of the reference's Asked and of orient's Sees. (Printed by mkasked.py.) -/
import Derived.Test.YteieeclflfbinaaPlaces
import Derived.Test.YteieeclflfbinaaRSign
namespace Go.Proofs.Yteieeclflfbinaa
open Go.RowKit Go.Proofs
set_option linter.unusedVariables false

set_option maxHeartbeats 2000000 in
set_option maxRecDepth 20000 in
theorem asked_bad {v : Value} {n : Nat} {X Y Z : Nat → Int} (i j k m : Int) {w : World} (hP : Pts w v n X Y Z) (hok : ¬ okp n i j k m) :
    Calls Try.prog 24 #[v, .int .i64 i, .int .i64 j, .int .i64 k, .int .i64 m] w fun e w' => e = .returned (.tuple #[.int .i64 0, .int .i64 21]) ∧ Below w.heap.size w w' := by
  obtain ⟨o, cap, rfl, hn⟩ := hP.form
  have HP := Lib.hid (fun (u : World) (hbl : w.heap.size < u.heap.size) (c0 : u.cell? ⟨w.heap.size, 0, none⟩ = some (.int .i64 i)) (c1 : u.cell? ⟨w.heap.size, 1, none⟩ = some (.int .i64 j)) (c2 : u.cell? ⟨w.heap.size, 2, none⟩ = some (.int .i64 k)) (c3 : u.cell? ⟨w.heap.size, 3, none⟩ = some (.int .i64 m)) =>
    rplaces_any o n cap hn i j k m w.heap.size u hbl c0 c1 c2 c3)
  rw [show plE n i j k m = 21 from if_neg hok] at HP
  clear hP hok hn
  go_enter Try.func24, Try.ntmps24
  go_wp2_with fail
  refine (HP.out _ (by simp) (by simp [go_sem]) (by simp [go_sem]) (by simp [go_sem]) (by simp [go_sem])).mono ?_
  rintro e w1 ⟨rfl, hb⟩
  go_wp2_with fail
  go_ret2
  exact ⟨rfl, bl1 hb⟩

set_option maxHeartbeats 4000000 in
set_option maxRecDepth 20000 in
theorem asked_ok {v : Value} {n : Nat} {X Y Z : Nat → Int} (i j k m : Int) {w : World} (hP : Pts w v n X Y Z) (hok : okp n i j k m) :
    Calls Try.prog 24 #[v, .int .i64 i, .int .i64 j, .int .i64 k, .int .i64 m] w fun e w' => e = .returned (.tuple #[.int .i64 (sgV n X Y Z i j k m), .int .i64 (sgE n X Y Z i j k m)]) ∧ Below w.heap.size w w' := by
  have HPO := Lib.hid hP
  obtain ⟨hn, ⟨rfl, rfl⟩ | ⟨a, cap, rfl, hab, hPc⟩⟩ := hP
  · have := hok.1.1; omega
  have PL := Lib.hid (fun (u : World) (hbl : w.heap.size < u.heap.size) (c0 : u.cell? ⟨w.heap.size, 0, none⟩ = some (.int .i64 i)) (c1 : u.cell? ⟨w.heap.size, 1, none⟩ = some (.int .i64 j)) (c2 : u.cell? ⟨w.heap.size, 2, none⟩ = some (.int .i64 k)) (c3 : u.cell? ⟨w.heap.size, 3, none⟩ = some (.int .i64 m)) =>
    rplaces_any (some a) n cap hn i j k m w.heap.size u hbl c0 c1 c2 c3)
  rw [show plE n i j k m = 0 from if_pos hok] at PL
  have HPC := Lib.hid hPc
  have HAB := Lib.hid hab
  have RS := Lib.hid (show ∀ (u : World), Below w.heap.size w u → (mayP X Y Z i.toNat && mayP X Y Z j.toNat && mayP X Y Z k.toNat && mayP X Y Z m.toNat) = true →
      Calls Try.prog 40 #[.slice (some a) n cap, .int .i64 i, .int .i64 j, .int .i64 k, .int .i64 m] u fun e w' => e = .returned (.int .i64 (So.signV (rowOf X Y Z) i.toNat j.toNat k.toNat m.toNat)) ∧ Below u.heap.size u w' from fun u hb hm => by
    obtain ⟨_, ⟨h, _⟩ | ⟨a', cap', h, hab', hPc'⟩⟩ := HPO.out.mono hb
    · cases h
    · injection h with h1 h2 h3
      obtain rfl := Option.some.inj h1
      exact rsign2_any n cap a hn X Y Z i j k m u hab' hPc' hok hm)
  have SVV := Lib.hid (show (mayP X Y Z i.toNat && mayP X Y Z j.toNat && mayP X Y Z k.toNat && mayP X Y Z m.toNat) = true → sgV n X Y Z i j k m = So.signV (rowOf X Y Z) i.toNat j.toNat k.toNat m.toNat ∧ sgE n X Y Z i j k m = 0 from fun h => by
    unfold sgV sgE; rw [if_pos hok, if_pos hok, if_pos h, if_pos h]; exact ⟨rfl, rfl⟩)
  have SVN := Lib.hid (show (mayP X Y Z i.toNat && mayP X Y Z j.toNat && mayP X Y Z k.toNat && mayP X Y Z m.toNat) = false → sgV n X Y Z i j k m = 0 ∧ sgE n X Y Z i j k m = 20 from fun h => by
    unfold sgV sgE; rw [if_pos hok, if_pos hok, if_neg (by rw [h]; decide), if_neg (by rw [h]; decide)]; exact ⟨rfl, rfl⟩)
  obtain ⟨⟨⟨a0, a1⟩, ⟨b0, b1⟩, ⟨c0, c1⟩, ⟨d0, d1⟩⟩, -⟩ := hok
  unfold maxLen at hn
  have CC := Lib.hid (show ∀ u u', Below w.heap.size w u → Below u.heap.size u u' → w.heap.size < u.heap.size → (u.cell? ⟨w.heap.size, 0, none⟩ = some (.int .i64 i) ∧ u.cell? ⟨w.heap.size, 1, none⟩ = some (.int .i64 j) ∧ u.cell? ⟨w.heap.size, 2, none⟩ = some (.int .i64 k) ∧ u.cell? ⟨w.heap.size, 3, none⟩ = some (.int .i64 m)) →
      (u'.cell? ⟨w.heap.size, 0, none⟩ = some (.int .i64 i) ∧ u'.cell? ⟨w.heap.size, 1, none⟩ = some (.int .i64 j) ∧ u'.cell? ⟨w.heap.size, 2, none⟩ = some (.int .i64 k) ∧ u'.cell? ⟨w.heap.size, 3, none⟩ = some (.int .i64 m)) from fun u u' _ hu hl ⟨e0, e1, e2, e3⟩ =>
    ⟨(hu.cell (p := ⟨w.heap.size, 0, none⟩) hl).trans e0, (hu.cell (p := ⟨w.heap.size, 1, none⟩) hl).trans e1, (hu.cell (p := ⟨w.heap.size, 2, none⟩) hl).trans e2, (hu.cell (p := ⟨w.heap.size, 3, none⟩) hl).trans e3⟩)
  clear hPc hab
  go_enter Try.func24, Try.ntmps24
  go_wp2_with fail
  generalize hW : World.alloc _ _ = W
  have hc : W.cell? ⟨w.heap.size, 0, none⟩ = some (.int .i64 i) ∧ W.cell? ⟨w.heap.size, 1, none⟩ = some (.int .i64 j) ∧ W.cell? ⟨w.heap.size, 2, none⟩ = some (.int .i64 k) ∧ W.cell? ⟨w.heap.size, 3, none⟩ = some (.int .i64 m) := by
    rw [← hW]; exact ⟨by simp [go_sem], by simp [go_sem], by simp [go_sem], by simp [go_sem]⟩
  have hlt : w.heap.size < W.heap.size := by rw [← hW]; simp
  have hB : Below w.heap.size w W := by rw [← hW]; exact bl1 (Below.refl _ _)
  clear hW
  have HC := Lib.hid hc
  refine (PL.out _ hlt hc.1 hc.2.1 hc.2.2.1 hc.2.2.2).mono ?_
  rintro e W1 ⟨rfl, hn1⟩
  replace hc := CC.out _ _ hB hn1 hlt hc
  replace hB := hB.trans (hn1.mono hB.size)
  replace hlt := Nat.lt_of_lt_of_le hlt hn1.size
  clear hn1 HC
  have HC := Lib.hid hc
  have HB := Lib.hid hB
  have HLT := Lib.hid hlt
  clear hc hB hlt
  go_wp2_with fail
  go_loopw [14] (fun s wx => ∃ r : Int, s = .int .i64 r ∧ 0 ≤ r ∧ r ≤ 4 ∧ Hid ((1 ≤ r → mayP X Y Z i.toNat = true) ∧ (2 ≤ r → mayP X Y Z j.toNat = true) ∧ (3 ≤ r → mayP X Y Z k.toNat = true) ∧ (4 ≤ r → mayP X Y Z m.toNat = true)) ∧ Below W1.heap.size W1 wx) (fun s _ => 4 - (intOf s).toNat)
  case atStart => exact ⟨0, rfl, by omega, by omega, Lib.hid ⟨fun h => by omega, fun h => by omega, fun h => by omega, fun h => by omega⟩, Below.refl _ _⟩
  case round =>
    obtain ⟨r, rfl, hr0, hr, HM, hBx⟩ := hrel
    obtain ⟨e0, e1, e2, e3⟩ := CC.out _ _ HB.out hBx HLT.out HC.out
    have hBw := HB.out.trans (hBx.mono HB.out.size)
    have HBW := Lib.hid hBw
    have : r = 0 ∨ r = 1 ∨ r = 2 ∨ r = 3 ∨ r = 4 := by omega
    clear hr0 hr
    rcases this with rfl | rfl | rfl | rfl | rfl
    · obtain ⟨p0, p1, p2⟩ := pt_cells HPC.out HAB.out hBw (show i.toNat < n by omega)
      clear hBw
      have FT := Lib.hid (rfit_any (X i.toNat) (Y i.toNat) (Z i.toNat))
      cases hm : mayP X Y Z i.toNat
      · rw [show mayB (X i.toNat) (Y i.toNat) (Z i.toNat) = false from hm] at FT
        have HMM := Lib.hid hm
        clear hm
        go_wp2_with fail
        refine (FT.out _).mono ?_
        rintro e w2 ⟨rfl, hn2⟩
        go_wp2_with fail
        go_ret2
        obtain ⟨v1, v2⟩ := SVN.out (by rw [HMM.out]; simp)
        exact ⟨by rw [v1, v2]; rfl, HBW.out.trans (hn2.mono HBW.out.size)⟩
      · rw [show mayB (X i.toNat) (Y i.toNat) (Z i.toNat) = true from hm] at FT
        have HMM := Lib.hid hm
        clear hm
        go_wp2_with fail
        refine (FT.out _).mono ?_
        rintro e w2 ⟨rfl, hn2⟩
        have hBy := hBx.trans (hn2.mono hBx.size)
        go_wp2_with fail
        exact ⟨⟨1, rfl, by omega, by omega, Lib.hid ⟨fun _ => by first | exact HMM.out | trivial, fun h => by omega, fun h => by omega, fun h => by omega⟩, hBy⟩, by simp [intOf]⟩
    · obtain ⟨p0, p1, p2⟩ := pt_cells HPC.out HAB.out hBw (show j.toNat < n by omega)
      clear hBw
      have FT := Lib.hid (rfit_any (X j.toNat) (Y j.toNat) (Z j.toNat))
      cases hm : mayP X Y Z j.toNat
      · rw [show mayB (X j.toNat) (Y j.toNat) (Z j.toNat) = false from hm] at FT
        have HMM := Lib.hid hm
        clear hm
        go_wp2_with fail
        refine (FT.out _).mono ?_
        rintro e w2 ⟨rfl, hn2⟩
        go_wp2_with fail
        go_ret2
        obtain ⟨v1, v2⟩ := SVN.out (by rw [HMM.out]; simp)
        exact ⟨by rw [v1, v2]; rfl, HBW.out.trans (hn2.mono HBW.out.size)⟩
      · rw [show mayB (X j.toNat) (Y j.toNat) (Z j.toNat) = true from hm] at FT
        have HMM := Lib.hid hm
        clear hm
        go_wp2_with fail
        refine (FT.out _).mono ?_
        rintro e w2 ⟨rfl, hn2⟩
        have hBy := hBx.trans (hn2.mono hBx.size)
        go_wp2_with fail
        exact ⟨⟨2, rfl, by omega, by omega, Lib.hid ⟨fun _ => HM.out.1 (by decide), fun _ => by first | exact HMM.out | trivial, fun h => by omega, fun h => by omega⟩, hBy⟩, by simp [intOf]⟩
    · obtain ⟨p0, p1, p2⟩ := pt_cells HPC.out HAB.out hBw (show k.toNat < n by omega)
      clear hBw
      have FT := Lib.hid (rfit_any (X k.toNat) (Y k.toNat) (Z k.toNat))
      cases hm : mayP X Y Z k.toNat
      · rw [show mayB (X k.toNat) (Y k.toNat) (Z k.toNat) = false from hm] at FT
        have HMM := Lib.hid hm
        clear hm
        go_wp2_with fail
        refine (FT.out _).mono ?_
        rintro e w2 ⟨rfl, hn2⟩
        go_wp2_with fail
        go_ret2
        obtain ⟨v1, v2⟩ := SVN.out (by rw [HMM.out]; simp)
        exact ⟨by rw [v1, v2]; rfl, HBW.out.trans (hn2.mono HBW.out.size)⟩
      · rw [show mayB (X k.toNat) (Y k.toNat) (Z k.toNat) = true from hm] at FT
        have HMM := Lib.hid hm
        clear hm
        go_wp2_with fail
        refine (FT.out _).mono ?_
        rintro e w2 ⟨rfl, hn2⟩
        have hBy := hBx.trans (hn2.mono hBx.size)
        go_wp2_with fail
        exact ⟨⟨3, rfl, by omega, by omega, Lib.hid ⟨fun _ => HM.out.1 (by decide), fun _ => HM.out.2.1 (by decide), fun _ => by first | exact HMM.out | trivial, fun h => by omega⟩, hBy⟩, by simp [intOf]⟩
    · obtain ⟨p0, p1, p2⟩ := pt_cells HPC.out HAB.out hBw (show m.toNat < n by omega)
      clear hBw
      have FT := Lib.hid (rfit_any (X m.toNat) (Y m.toNat) (Z m.toNat))
      cases hm : mayP X Y Z m.toNat
      · rw [show mayB (X m.toNat) (Y m.toNat) (Z m.toNat) = false from hm] at FT
        have HMM := Lib.hid hm
        clear hm
        go_wp2_with fail
        refine (FT.out _).mono ?_
        rintro e w2 ⟨rfl, hn2⟩
        go_wp2_with fail
        go_ret2
        obtain ⟨v1, v2⟩ := SVN.out (by rw [HMM.out]; simp)
        exact ⟨by rw [v1, v2]; rfl, HBW.out.trans (hn2.mono HBW.out.size)⟩
      · rw [show mayB (X m.toNat) (Y m.toNat) (Z m.toNat) = true from hm] at FT
        have HMM := Lib.hid hm
        clear hm
        go_wp2_with fail
        refine (FT.out _).mono ?_
        rintro e w2 ⟨rfl, hn2⟩
        have hBy := hBx.trans (hn2.mono hBx.size)
        go_wp2_with fail
        exact ⟨⟨4, rfl, by omega, by omega, Lib.hid ⟨fun _ => HM.out.1 (by decide), fun _ => HM.out.2.1 (by decide), fun _ => HM.out.2.2.1 (by decide), fun _ => by first | exact HMM.out | trivial⟩, hBy⟩, by simp [intOf]⟩
    · clear hBw
      have hmay : (mayP X Y Z i.toNat && mayP X Y Z j.toNat && mayP X Y Z k.toNat && mayP X Y Z m.toNat) = true := by
        obtain ⟨h0, h1, h2, h3⟩ := HM.out
        rw [h0 (by decide), h1 (by decide), h2 (by decide), h3 (by decide)]; rfl
      have RSS := Lib.hid (RS.out _ HBW.out hmay)
      have VV := Lib.hid (SVV.out hmay)
      clear hmay
      go_wp2_with fail
      refine (RSS.out).mono ?_
      rintro e w2 ⟨rfl, hn2⟩
      go_wp2_with fail
      go_ret2
      obtain ⟨v1, v2⟩ := VV.out
      exact ⟨by rw [v1, v2]; rfl, HBW.out.trans (hn2.mono HBW.out.size)⟩

theorem asked_any {v : Value} {n : Nat} {X Y Z : Nat → Int} (i j k m : Int) {w : World} (hP : Pts w v n X Y Z) :
    Calls Try.prog 24 #[v, .int .i64 i, .int .i64 j, .int .i64 k, .int .i64 m] w fun e w' => e = .returned (.tuple #[.int .i64 (sgV n X Y Z i j k m), .int .i64 (sgE n X Y Z i j k m)]) ∧ Below w.heap.size w w' := by
  by_cases hok : okp n i j k m
  · exact asked_ok i j k m hP hok
  · refine (asked_bad i j k m hP hok).mono fun e w' ⟨he, hb⟩ => ⟨?_, hb⟩
    rw [he]; unfold sgV sgE; rw [if_neg hok, if_neg hok]

set_option maxHeartbeats 1000000 in
theorem sees_any {v : Value} {n : Nat} {X Y Z : Nat → Int} (i j k m : Int) {w : World} (hP : Pts w v n X Y Z) :
    Calls Try.prog 25 #[v, .agg #[.int .i64 i, .int .i64 j, .int .i64 k], .int .i64 m] w fun e w' => e = .returned (.tuple #[.bool (sgV n X Y Z i j k m == -1), .int .i64 (sgE n X Y Z i j k m)]) ∧ Below w.heap.size w w' := by
  have SG := Lib.hid (fun (u : World) (h : Below w.heap.size w u) => signS_det i j k m (hP.mono h))
  obtain ⟨o, cap, rfl, hn⟩ := hP.form
  generalize sgV n X Y Z i j k m = s at *
  generalize sgE n X Y Z i j k m = E at *
  clear hP hn
  go_enter Try.func25, Try.ntmps25
  go_wp2_with fail
  refine (SG.out _ (bl1 (Below.refl _ _))).mono ?_
  rintro e w1 ⟨rfl, hb⟩
  go_wp2_with fail
  go_ret2
  exact ⟨rfl, bl1 hb⟩
end Go.Proofs.Yteieeclflfbinaa
