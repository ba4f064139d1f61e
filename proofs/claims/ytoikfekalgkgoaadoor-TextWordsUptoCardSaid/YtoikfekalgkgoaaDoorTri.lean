/- The point of three words: package text's point, the reference's Triple. -/
import Derived.Test.YtoikfekalgkgoaaDoorCut
namespace Go.Proofs.YtoikfekalgkgoaaDoor
open Go.RowKit Go.Proofs
set_option linter.unusedVariables false

theorem sl_three {u : World} {v : Value} {a b c : List UInt8} (h : Tx.SL u v [a, b, c]) : ∃ g cap, v = .slice (some ⟨g, 0, none⟩) 3 cap ∧ g < u.heap.size ∧ u.cell? ⟨g, 0, none⟩ = some (.string ⟨a.toArray⟩) ∧ u.cell? ⟨g, 1, none⟩ = some (.string ⟨b.toArray⟩) ∧ u.cell? ⟨g, 2, none⟩ = some (.string ⟨c.toArray⟩) := by
  obtain ⟨_, o, cap, hv, hc⟩ := h
  obtain ⟨g, rfl, hg, hcl⟩ := hc (by simp)
  exact ⟨g, cap, hv, hg, hcl 0 (by simp), hcl 1 (by simp), hcl 2 (by simp)⟩
theorem three_of {l : List (List UInt8)} (h : l.length = 3) : ∃ a b c, l = [a, b, c] := by
  match l, h with
  | [a, b, c], _ => exact ⟨a, b, c, rfl⟩
theorem trip_not {l : List (List UInt8)} (h : l.length ≠ 3) : Tx.tripR l = .tuple #[.agg #[.int .i64 0, .int .i64 0, .int .i64 0], .bool false] := by
  unfold Tx.tripR
  have : Tx.trip l = none := by
    unfold Tx.trip
    split
    · simp at h
    · rfl
  rw [this]
theorem sl_slice {u : World} {v : Value} {l : List (List UInt8)} (h : Tx.SL u v l) : ∃ o cap, v = .slice o l.length cap := by
  obtain ⟨_, o, cap, hv, _⟩ := h
  exact ⟨o, cap, hv⟩

theorem tripR_three (a b c : List UInt8) : Tx.tripR [a, b, c] = if (Tx.ib a && Tx.ib b && Tx.ib c) = true then .tuple #[.agg #[.int .i64 (Tx.iv a), .int .i64 (Tx.iv b), .int .i64 (Tx.iv c)], .bool true] else .tuple #[.agg #[.int .i64 0, .int .i64 0, .int .i64 0], .bool false] := by
  unfold Tx.tripR Tx.trip
  dsimp only
  by_cases h : (Tx.ib a && Tx.ib b && Tx.ib c) = true
  · rw [if_pos h, if_pos h]
  · rw [if_neg h, if_neg h]

set_option maxRecDepth 100000 in
set_option maxHeartbeats 2000000 in
theorem triple_any (l : List (List UInt8)) (v : Value) (w : World) (h : Tx.SL w v l) : Calls Tryd.prog 26 #[v] w fun e w' => e = .returned (Tx.tripR l) ∧ Below w.heap.size w w' := by
  by_cases h3 : l.length = 3
  · obtain ⟨a, b, c, rfl⟩ := three_of h3
    obtain ⟨g, cap, rfl, hg, c0, c1, c2⟩ := sl_three h
    have A := Lib.hid (fun W => rint_iv a W)
    have B := Lib.hid (fun W => rint_iv b W)
    have C := Lib.hid (fun W => rint_iv c W)
    have R : Hid (Tx.tripR [a, b, c] = if (Tx.ib a && Tx.ib b && Tx.ib c) = true then .tuple #[.agg #[.int .i64 (Tx.iv a), .int .i64 (Tx.iv b), .int .i64 (Tx.iv c)], .bool true] else .tuple #[.agg #[.int .i64 0, .int .i64 0, .int .i64 0], .bool false]) := Lib.hid (tripR_three a b c)
    rw [R.out]
    clear h h3 R
    generalize Tx.iv a = x at *
    generalize Tx.iv b = y at *
    generalize Tx.iv c = z at *
    generalize Tx.ib a = p at *
    generalize Tx.ib b = q at *
    generalize Tx.ib c = r at *
    go_enter Tryd.func26, Tryd.ntmps26
    go_wp2_with fail
    refine (A.out _).mono ?_
    rintro e w1 ⟨rfl, hn⟩
    have hR := (r3_new w 0 0 0 24).mono hn
    have hB := bl1 hn
    have c1' := (hB.cell (p := ⟨g, 1, none⟩) hg).trans c1
    have c2' := (hB.cell (p := ⟨g, 2, none⟩) hg).trans c2
    clear hn
    go_wp2_with fail
    refine (B.out _).mono ?_
    rintro e w2 ⟨rfl, hn⟩
    replace hR := hR.mono hn
    have hg1 := Nat.lt_of_lt_of_le hg hB.size
    have c2'' := (hn.cell (p := ⟨g, 2, none⟩) hg1).trans c2'
    replace hB := hB.trans (hn.mono hB.size)
    clear hn
    go_wp2_with fail
    refine (C.out _).mono ?_
    rintro e w3 ⟨rfl, hn⟩
    replace hR := hR.mono hn
    replace hB := hB.trans (hn.mono hB.size)
    clear hn hg1
    have HR := Lib.hid hR
    have HB := Lib.hid hB
    obtain ⟨r0, r1, r2, f0, f1, f2, rl⟩ := hR
    cases p <;> cases q <;> cases r
    all_goals
      go_wp2_with fail
      first
      | go_ret2
        exact ⟨rfl, HB.out⟩
      | exact bodyPost_ret (v := .tuple #[.agg #[.int .i64 0, .int .i64 0, .int .i64 0], .bool false]) (by simp [results, Tryd.results26, go_sem, *]) rfl ⟨rfl, by first | exact HB.out | exact ((HB.out.setCell (p := ⟨w.heap.size, 0, none⟩) (Nat.le_refl _) _).setCell (p := ⟨w.heap.size, 1, none⟩) (Nat.le_refl _) _).setCell (p := ⟨w.heap.size, 2, none⟩) (Nat.le_refl _) _⟩
      | exact bodyPost_ret (v := .tuple #[.agg #[.int .i64 x, .int .i64 y, .int .i64 z], .bool true]) (by simp [results, Tryd.results26, go_sem, *]) rfl ⟨rfl, by first | exact HB.out | exact ((HB.out.setCell (p := ⟨w.heap.size, 0, none⟩) (Nat.le_refl _) _).setCell (p := ⟨w.heap.size, 1, none⟩) (Nat.le_refl _) _).setCell (p := ⟨w.heap.size, 2, none⟩) (Nat.le_refl _) _⟩
  · rw [trip_not h3]
    obtain ⟨o, cap, rfl⟩ := sl_slice h
    have hn : ((l.length : Int) == 3) = false := by
      have : (l.length : Int) ≠ 3 := by omega
      simpa using this
    clear h3 h
    go_enter Tryd.func26, Tryd.ntmps26
    go_wp2_with fail
    have hB : Below w.heap.size w (w.alloc (.cells #[.int .i64 0, .int .i64 0, .int .i64 0] 24)) := (Below.refl _ _).alloc (Nat.le_refl _) _
    exact bodyPost_ret (v := .tuple #[.agg #[.int .i64 0, .int .i64 0, .int .i64 0], .bool false]) (by simp [results, Tryd.results26, go_sem]) rfl ⟨rfl, hB⟩

set_option maxRecDepth 100000 in
set_option maxHeartbeats 2000000 in
theorem tpoint_any (l : List (List UInt8)) (v : Value) (w : World) (h : Tx.SL w v l) (hs : ∀ x ∈ l, x.length ≤ 140737488355328) (he : Env w) :
    Calls Tryd.prog 24 #[v] w fun e w' => e = .returned (Tx.tripR l) ∧ Below w.heap.size w w' := by
  by_cases h3 : l.length = 3
  · obtain ⟨a, b, c, rfl⟩ := three_of h3
    obtain ⟨g, cap, rfl, hg, c0, c1, c2⟩ := sl_three h
    have A := Lib.hid (fun W (hw : Below w.heap.size w W) => tint_iv a W (hs a (by simp)) (he.mono hw))
    have B := Lib.hid (fun W (hw : Below w.heap.size w W) => tint_iv b W (hs b (by simp)) (he.mono hw))
    have C := Lib.hid (fun W (hw : Below w.heap.size w W) => tint_iv c W (hs c (by simp)) (he.mono hw))
    have R : Hid (Tx.tripR [a, b, c] = if (Tx.ib a && Tx.ib b && Tx.ib c) = true then .tuple #[.agg #[.int .i64 (Tx.iv a), .int .i64 (Tx.iv b), .int .i64 (Tx.iv c)], .bool true] else .tuple #[.agg #[.int .i64 0, .int .i64 0, .int .i64 0], .bool false]) := Lib.hid (tripR_three a b c)
    rw [R.out]
    have CC := Lib.hid (And.intro c0 (And.intro c1 c2))
    have HG := Lib.hid hg
    clear h h3 R hs he c0 c1 c2
    generalize Tx.iv a = x at *
    generalize Tx.iv b = y at *
    generalize Tx.iv c = z at *
    generalize Tx.ib a = p at *
    generalize Tx.ib b = q at *
    generalize Tx.ib c = r at *
    go_enter Tryd.func24, Tryd.ntmps24
    go_wp2_with fail
    go_loopw [15] (fun a wr => ∃ i : Int, a = .int .i64 i ∧ 0 ≤ i ∧ i ≤ 3 ∧ R3 wr w.heap.size 0 0 0 ∧ R3 wr (w.heap.size + 1) (if 0 < i then x else 0) (if 1 < i then y else 0) (if 2 < i then z else 0) ∧ Below w.heap.size w wr ∧ Hid ((0 < i → p = true) ∧ (1 < i → q = true) ∧ (2 < i → r = true))) (fun a _ => 3 - (intOf a).toNat)
    case atStart =>
      refine ⟨0, rfl, by omega, by omega, (r3_new w 0 0 0 _).mono ((Below.refl _ _).alloc (Nat.le_refl _) _), ?_, bl2 (Below.refl _ _), Lib.hid ⟨by omega, by omega, by omega⟩⟩
      have := r3_new (w.alloc (.cells #[.int .i64 0, .int .i64 0, .int .i64 0] 24)) 0 0 0 62
      simp only [World.size_alloc] at this
      exact this
    case round =>
      obtain ⟨i, rfl, hi0, hi3, hR0, hR1, hB, HP⟩ := hrel
      have : i = 0 ∨ i = 1 ∨ i = 2 ∨ i = 3 := by omega
      have c0 := (hB.cell (p := ⟨g, 0, none⟩) HG.out).trans CC.out.1
      have c1 := (hB.cell (p := ⟨g, 1, none⟩) HG.out).trans CC.out.2.1
      have c2 := (hB.cell (p := ⟨g, 2, none⟩) HG.out).trans CC.out.2.2
      have HR0 := Lib.hid hR0
      have HR1 := Lib.hid hR1
      have HB := Lib.hid hB
      clear hi0 hi3 hR0 hR1 hB
      rcases this with rfl | rfl | rfl | rfl
      · clear c1 c2
        go_wp2_with fail
        refine (A.out _ HB.out).mono ?_
        rintro e w1 ⟨rfl, hn⟩
        have hR0 := HR0.out.mono hn
        have hR1 := HR1.out.mono hn
        have hB := HB.out.trans (hn.mono HB.out.size)
        clear HR0 HR1 HB hn c0
        have HR0 := Lib.hid hR0
        have HR1 := Lib.hid hR1
        have HB := Lib.hid hB
        obtain ⟨r0, r1, r2, f0, f1, f2, rl⟩ := hR0
        obtain ⟨s0, s1, s2, k0, k1, k2, kl⟩ := hR1
        cases p
        · go_wp2_with fail
          exact bodyPost_ret (v := .tuple #[.agg #[.int .i64 0, .int .i64 0, .int .i64 0], .bool false]) (by simp [results, Tryd.results24, go_sem, *]) rfl ⟨by simp, by first | exact HB.out | exact ((HB.out.setCell (p := ⟨w.heap.size, 0, none⟩) (Nat.le_refl _) _).setCell (p := ⟨w.heap.size, 1, none⟩) (Nat.le_refl _) _).setCell (p := ⟨w.heap.size, 2, none⟩) (Nat.le_refl _) _⟩
        · go_wp2_with fail
          go_roundw
          case rel => exact ⟨1, rfl, by omega, by omega, HR0.out.other _ _ (by simp), HR1.out.set0 _, HB.out.setCell (p := ⟨w.heap.size + 1, 0, none⟩) (Nat.le_succ _) _, Lib.hid ⟨fun _ => (by first | rfl | trivial), by omega, by omega⟩⟩
          case measure => simp [intOf]
      · clear c0 c2
        have hp : p = true := HP.out.1 (by omega)
        subst hp
        go_wp2_with fail
        refine (B.out _ HB.out).mono ?_
        rintro e w1 ⟨rfl, hn⟩
        have hR0 := HR0.out.mono hn
        have hR1 := HR1.out.mono hn
        have hB := HB.out.trans (hn.mono HB.out.size)
        clear HR0 HR1 HB hn c1
        have HR0 := Lib.hid hR0
        have HR1 := Lib.hid hR1
        have HB := Lib.hid hB
        obtain ⟨r0, r1, r2, f0, f1, f2, rl⟩ := hR0
        obtain ⟨s0, s1, s2, k0, k1, k2, kl⟩ := hR1
        cases q
        · go_wp2_with fail
          exact bodyPost_ret (v := .tuple #[.agg #[.int .i64 0, .int .i64 0, .int .i64 0], .bool false]) (by simp [results, Tryd.results24, go_sem, *]) rfl ⟨by simp, by first | exact HB.out | exact ((HB.out.setCell (p := ⟨w.heap.size, 0, none⟩) (Nat.le_refl _) _).setCell (p := ⟨w.heap.size, 1, none⟩) (Nat.le_refl _) _).setCell (p := ⟨w.heap.size, 2, none⟩) (Nat.le_refl _) _⟩
        · go_wp2_with fail
          go_roundw
          case rel => exact ⟨2, rfl, by omega, by omega, HR0.out.other _ _ (by simp), HR1.out.set1 _, HB.out.setCell (p := ⟨w.heap.size + 1, 1, none⟩) (Nat.le_succ _) _, Lib.hid ⟨fun _ => HP.out.1 (by omega), fun _ => (by first | rfl | trivial), by omega⟩⟩
          case measure => simp [intOf]
      · clear c0 c1
        have hp : p = true := HP.out.1 (by omega)
        have hq : q = true := HP.out.2.1 (by omega)
        subst hp
        subst hq
        go_wp2_with fail
        refine (C.out _ HB.out).mono ?_
        rintro e w1 ⟨rfl, hn⟩
        have hR0 := HR0.out.mono hn
        have hR1 := HR1.out.mono hn
        have hB := HB.out.trans (hn.mono HB.out.size)
        clear HR0 HR1 HB hn c2
        have HR0 := Lib.hid hR0
        have HR1 := Lib.hid hR1
        have HB := Lib.hid hB
        obtain ⟨r0, r1, r2, f0, f1, f2, rl⟩ := hR0
        obtain ⟨s0, s1, s2, k0, k1, k2, kl⟩ := hR1
        cases r
        · go_wp2_with fail
          exact bodyPost_ret (v := .tuple #[.agg #[.int .i64 0, .int .i64 0, .int .i64 0], .bool false]) (by simp [results, Tryd.results24, go_sem, *]) rfl ⟨by simp, by first | exact HB.out | exact ((HB.out.setCell (p := ⟨w.heap.size, 0, none⟩) (Nat.le_refl _) _).setCell (p := ⟨w.heap.size, 1, none⟩) (Nat.le_refl _) _).setCell (p := ⟨w.heap.size, 2, none⟩) (Nat.le_refl _) _⟩
        · go_wp2_with fail
          go_roundw
          case rel => exact ⟨3, rfl, by omega, by omega, HR0.out.other _ _ (by simp), HR1.out.set2 _, HB.out.setCell (p := ⟨w.heap.size + 1, 2, none⟩) (Nat.le_succ _) _, Lib.hid ⟨fun _ => HP.out.1 (by omega), fun _ => HP.out.2.1 (by omega), fun _ => (by first | rfl | trivial)⟩⟩
          case measure => simp [intOf]
      · have hp : p = true := HP.out.1 (by omega)
        have hq : q = true := HP.out.2.1 (by omega)
        have hr : r = true := HP.out.2.2 (by omega)
        subst hp
        subst hq
        subst hr
        clear c0 c1 c2
        obtain ⟨r0, r1, r2, f0, f1, f2, rl⟩ := HR0.out
        obtain ⟨s0, s1, s2, k0, k1, k2, kl⟩ := HR1.out
        go_wp2_with fail
        exact bodyPost_ret (v := .tuple #[.agg #[.int .i64 x, .int .i64 y, .int .i64 z], .bool true]) (by simp [results, Tryd.results24, go_sem, *]) rfl ⟨by simp, ((HB.out.setCell (p := ⟨w.heap.size, 0, none⟩) (Nat.le_refl _) _).setCell (p := ⟨w.heap.size, 1, none⟩) (Nat.le_refl _) _).setCell (p := ⟨w.heap.size, 2, none⟩) (Nat.le_refl _) _⟩
  · rw [trip_not h3]
    obtain ⟨o, cap, rfl⟩ := sl_slice h
    have hn : ((l.length : Int) == 3) = false := by
      have : (l.length : Int) ≠ 3 := by omega
      simpa using this
    clear h3 h
    go_enter Tryd.func24, Tryd.ntmps24
    go_wp2_with fail
    have hB : Below w.heap.size w (w.alloc (.cells #[.int .i64 0, .int .i64 0, .int .i64 0] 24)) := (Below.refl _ _).alloc (Nat.le_refl _) _
    exact bodyPost_ret (v := .tuple #[.agg #[.int .i64 0, .int .i64 0, .int .i64 0], .bool false]) (by simp [results, Tryd.results24, go_sem]) rfl ⟨rfl, hB.alloc (by simp) _⟩
end Go.Proofs.YtoikfekalgkgoaaDoor
