/- The walk of the reference's Near. -/
import Derived.Test.YtdcllcbhepajeaaDoorRNear
namespace Go.Proofs.YtdcllcbhepajeaaDoor
open Go.RowKit Go.Proofs
set_option linter.unusedVariables false

set_option maxRecDepth 100000 in
set_option maxHeartbeats 2000000 in
theorem rnear_any {ah al : Int} (x : Int) (ha : IsR ah al x) (w : World) :
    Calls Tryd.prog 44 #[.agg #[.int .u64 ah, .int .u64 al]] w fun e w' => e = .returned (.int .u64 (nearV x)) ∧ Below w.heap.size w w' := by
  obtain ⟨rfl, rfl⟩ := ha
  obtain ⟨M, hM⟩ : ∃ M, M = mg x := ⟨_, rfl⟩
  have r := mg_range x
  rw [← hM] at r
  obtain ⟨N, hN⟩ : ∃ N : Nat, M = (N : Int) := ⟨M.toNat, by omega⟩
  have SG := Lib.hid (fun W => rsign_any x (isR _) W)
  have SZ := Lib.hid (fun W => rsize_any x (isR _) W)
  rw [← hM] at SZ
  have BT := Lib.hid (fun (i : Int) (h1 : 0 ≤ i) (h2 : i ≤ 127) W => (show Calls Tryd.prog 60 #[.agg #[.int .u64 (rhi M), .int .u64 (lo M)], .int .i64 i] W fun e w' => e = .returned (.int .u64 (Fl.tb N i.toNat)) ∧ Below W.heap.size W w' by
    have := rbit_any M i (isR _) h1 h2 W
    rw [show bitV M i = (Fl.tb N i.toNat : Int) by rw [hN]; have := bit_nat N i.toNat; rwa [show ((i.toNat : Nat) : Int) = i by omega] at this] at this
    exact this))
  obtain ⟨S, hS⟩ : ∃ S : Int, S = if sv x < 0 then 9223372036854775808 else 0 := ⟨_, rfl⟩
  have NV := Lib.hid (show nearV x = if N = 0 then 0 else S + (Fl.rg N : Int) by
    unfold nearV
    rw [← hM, ← hS, hN, Int.toNat_natCast]
    by_cases h : N = 0
    · rw [if_pos h, if_pos (by omega)]
    · rw [if_neg h, if_neg (by omega)])
  have p128 : (2 : Nat) ^ (127 + 1) = 340282366920938463463374607431768211456 := by decide
  have n128 : N < 2 ^ (127 + 1) := by rw [p128]; omega
  have N128 := Lib.hid n128
  clear p128 n128
  have SV := Lib.hid (sg_neg_iff (sv x))
  generalize sg (sv x) = G at *
  have HS := Lib.hid hS
  rw [NV.out]
  generalize rhi M = MH at *
  generalize lo M = ML at *
  clear hM hN r hS
  go_enter Tryd.func44, Tryd.ntmps44
  go_wp2_with fail
  refine (SG.out _).mono ?_
  rintro e w1 ⟨rfl, hn⟩
  have hx : RCell w1 w.heap.size (.int .u64 (rhi x)) (.int .u64 (lo x)) := carry2 (rcell_new _ _ _ _) hn
  have hB := bl1 hn
  clear hn
  have HB := Lib.hid hB
  clear hB
  generalize rhi x = XH at *
  generalize lo x = XL at *
  have hcase : (G < 0 ∧ S = 9223372036854775808) ∨ (¬ G < 0 ∧ S = 0) := by
    by_cases hG : G < 0
    · exact .inl ⟨hG, by rw [HS.out, if_pos (SV.out.1 hG)]⟩
    · exact .inr ⟨hG, by rw [HS.out, if_neg (fun h => hG (SV.out.2 h))]⟩
  clear HS SV NV
  rcases hcase with ⟨hG, rfl⟩ | ⟨hG, rfl⟩
  all_goals
    obtain ⟨hx0, hx1, _, _, hxl⟩ := hx
    go_wp2_with fail
    refine (SZ.out _).mono ?_
    rintro e w2 ⟨rfl, hn⟩
    have HB := Lib.hid (HB.out.trans (hn.mono HB.out.size))
    clear hn hx0 hx1 hxl
    go_wp2_with fail
    go_loopw [5] (fun a wr => ∃ t : Int, a = .int .i64 t ∧ -1 ≤ t ∧ t ≤ 127 ∧ RCell wr w2.heap.size (.int .u64 MH) (.int .u64 ML) ∧ Below w.heap.size w wr ∧ Hid (N < 2 ^ (t + 1).toNat)) (fun a _ => (intOf a + 1).toNat)
    case atStart => exact ⟨127, rfl, by omega, by omega, rcell_new _ _ _ _, HB.out.alloc HB.out.size _, N128⟩
    case round =>
      obtain ⟨t, rfl, t0, t1, hC, hB, HN⟩ := hrel
      have HC := Lib.hid hC
      clear HB
      have HB := Lib.hid hB
      clear hB
      obtain ⟨m0, m1, _, _, ml⟩ := hC
      by_cases ht : t < 0
      · obtain rfl : t = -1 := by omega
        have HN0 := Lib.hid (show N = 0 by have := HN.out; simp at this; omega)
        clear m0 m1 ml
        go_wp2_with fail
        go_ret
        exact ⟨by first | rfl | (rw [if_pos HN0.out]; rfl) | (rw [if_pos HN0.out]), HB.out⟩
      · have tp : 0 ≤ t := by omega
        have BTt := Lib.hid (fun W => BT.out t tp t1 W)
        have DN := Lib.hid (fun h => Fl.top_down (N := N) (t := t.toNat) (by rw [show t.toNat + 1 = (t + 1).toNat by omega]; exact HN.out) h)
        have UP := Lib.hid (fun h => Fl.top_found (N := N) (t := t.toNat) (by rw [show t.toNat + 1 = (t + 1).toNat by omega]; exact HN.out) h)
        have tb2 := Fl.tb_lt N t.toNat
        generalize Fl.tb N t.toNat = b at *
        obtain ⟨B, hBb⟩ : ∃ B : Int, (b : Int) = B := ⟨_, rfl⟩
        rw [hBb] at BTt
        have HBB := Lib.hid hBb
        have hB01 : B = 0 ∨ B = 1 := by omega
        clear hBb tb2
        rcases hB01 with rfl | rfl
        · go_wp2_with fail
          refine (BTt.out _).mono ?_
          rintro e w3 ⟨rfl, hn⟩
          go_wp2_with fail
          go_roundw
          case rel => exact ⟨t - 1, rfl, by omega, by omega, HC.out.mono hn, HB.out.trans (hn.mono HB.out.size), Lib.hid (by rw [show (t - 1 + 1).toNat = t.toNat by omega]; exact DN.out (by have := HBB.out; omega))⟩
          case measure => simp [intOf]; omega
        · obtain ⟨n0, nl⟩ := UP.out (by have := HBB.out; omega)
          have N0 := Lib.hid n0
          have NLg := Lib.hid nl
          clear n0 nl
          go_wp2_with fail
          refine (BTt.out _).mono ?_
          rintro e w3 ⟨rfl, hn⟩
          have HC := Lib.hid (HC.out.mono hn)
          have HB := Lib.hid (HB.out.trans (hn.mono HB.out.size))
          clear hn m0 m1 ml
          have tk := Lib.hid (show ((t.toNat : Nat) : Int) = t by omega)
          go_wp2_with fail
          go_loopw [6, 7] (fun a c wr => ∃ F I : Int, a = .int .u64 F ∧ c = .int .i64 I ∧ RCell wr w2.heap.size (.int .u64 MH) (.int .u64 ML) ∧ Below w.heap.size w wr ∧ Hid (S2 N t.toNat F I)) (fun _ c _ => (intOf c - t + 53).toNat)
          case atStart => exact ⟨0, t - 1, rfl, rfl, HC.out, HB.out, Lib.hid (by have := S2.start N0.out NLg.out; rwa [tk.out] at this)⟩
          case round =>
            obtain ⟨F, I, rfl, rfl, hC, hB, H2⟩ := hrel
            obtain ⟨f0, f1, i1, i0⟩ := H2.out.range N0.out NLg.out
            rw [tk.out] at i1 i0
            have HC := Lib.hid hC
            clear HB
            have HB := Lib.hid hB
            clear hB
            obtain ⟨m0, m1, _, _, ml⟩ := hC
            by_cases hi : t - 52 ≤ I
            · by_cases h0 : 0 ≤ I
              · have BTi := Lib.hid (fun W => BT.out I h0 (by omega) W)
                have MO := Lib.hid (H2.out.more (by rw [tk.out]; exact hi) h0)
                have tb2 := Fl.tb_lt N I.toNat
                generalize Fl.tb N I.toNat = b at *
                obtain ⟨B, hBb⟩ : ∃ B : Int, (b : Int) = B := ⟨_, rfl⟩
                rw [hBb] at BTi MO
                have B0 : 0 ≤ B := by omega
                have B1 : B ≤ 1 := by omega
                clear hBb tb2
                go_wp2_with fail
                refine (BTi.out _).mono ?_
                rintro e w4 ⟨rfl, hn⟩
                go_wp2_with fail
                go_roundw
                case rel => exact ⟨2 * F + B, I - 1, rfl, rfl, HC.out.mono hn, HB.out.trans (hn.mono HB.out.size), MO⟩
                case measure => simp [intOf]; omega
              · have MO := Lib.hid (H2.out.zero (by rw [tk.out]; exact hi) (by omega))
                go_wp2_with fail
                go_roundw
                case rel => exact ⟨2 * F, I - 1, rfl, rfl, HC.out, HB.out, MO⟩
                case measure => simp [intOf]; omega
            · have FQ := Lib.hid (H2.out.done (by rw [tk.out]; exact hi))
              clear m0 m1 ml
              go_wp2_with fail
              go_loopw [8, 9] (fun a c wr => ∃ (r : Bool) (J : Int), a = .bool r ∧ c = .int .i64 J ∧ RCell wr w2.heap.size (.int .u64 MH) (.int .u64 ML) ∧ Below w.heap.size w wr ∧ Hid (S3 N t.toNat r J)) (fun _ c _ => (intOf c + 1).toNat)
              case atStart => exact ⟨false, t - 54, rfl, rfl, HC.out, HB.out, Lib.hid (by have := S3.start N t.toNat; rwa [tk.out] at this)⟩
              case round =>
                obtain ⟨r, J, rfl, rfl, hC, hB, H3⟩ := hrel
                clear HC
                have HC := Lib.hid hC
                clear HB
                have HB := Lib.hid hB
                clear hB
                obtain ⟨m0, m1, _, _, ml⟩ := hC
                by_cases h0 : 0 ≤ J
                · have j1 := H3.out.top (by omega)
                  have BTi := Lib.hid (fun W => BT.out J h0 j1 W)
                  have MO := Lib.hid (H3.out.more h0)
                  have tb2 := Fl.tb_lt N J.toNat
                  generalize Fl.tb N J.toNat = b at *
                  have hb2 : b = 0 ∨ b = 1 := by omega
                  clear tb2
                  cases r
                  · rcases hb2 with rfl | rfl
                    all_goals
                      go_wp2_with fail
                      refine (BTi.out _).mono ?_
                      rintro e w4 ⟨rfl, hn⟩
                      go_wp2_with fail
                      go_roundw
                      case rel => exact ⟨_, J - 1, rfl, rfl, HC.out.mono hn, HB.out.trans (hn.mono HB.out.size), MO⟩
                      case measure => simp [intOf]; omega
                  · go_wp2_with fail
                    go_roundw
                    case rel => exact ⟨true, J - 1, rfl, rfl, HC.out, HB.out, Lib.hid (by have := MO.out; simpa using this)⟩
                    case measure => simp [intOf]; omega
                · have RG := Lib.hid (show ((Fl.rg N : Nat) : Int) = (1023 + t) * 4503599627370496 + F + ((Fl.up N t.toNat).toNat : Int) by
                    rw [Fl.rg_ref N0.out NLg.out, FQ.out]
                    have q := (Fl.Q_range N0.out NLg.out 52 (by omega)).1
                    have := tk.out
                    omega)
                  by_cases h53 : 53 ≤ t
                  · have BTi := Lib.hid (fun W => BT.out (t - 53) (by omega) (by omega) W)
                    have R3 := Lib.hid (H3.out.done h0 (by omega))
                    have FE := Lib.hid (show decide ((Fl.Q N t.toNat 52 - 2 ^ 52) % 2 = 1) = decide (F % 2 = 1) by
                      have q := (Fl.Q_range N0.out NLg.out 52 (by omega)).1
                      have := FQ.out
                      rw [decide_eq_decide]; omega)
                    have UE := Lib.hid (show Fl.up N t.toNat = (decide (Fl.tb N (t - 53).toNat = 1) && (r || decide (F % 2 = 1))) by
                      unfold Fl.up
                      rw [decide_eq_true (by omega), Bool.true_and, ← R3.out, FE.out, show t.toNat - 53 = (t - 53).toNat by omega])
                    have tb2 := Fl.tb_lt N (t - 53).toNat
                    generalize Fl.tb N (t - 53).toNat = b at *
                    have hb2 : b = 0 ∨ b = 1 := by omega
                    clear tb2
                    obtain ⟨B, hBb⟩ : ∃ B : Int, (b : Int) = B := ⟨_, rfl⟩
                    rw [hBb] at BTi
                    rcases hb2 with rfl | rfl
                    · obtain rfl : B = 0 := by omega
                      clear hBb
                      have E := Lib.hid (show (Fl.rg N : Int) = (1023 + t) * 4503599627370496 + F by rw [RG.out, UE.out]; simp)
                      go_wp2_with fail
                      refine (BTi.out _).mono ?_
                      rintro e w4 ⟨rfl, hn⟩
                      obtain ⟨U, hU⟩ : ∃ U, (1023 + t) * 4503599627370496 + F = U := ⟨_, rfl⟩
                      have u0 : 0 ≤ U := by omega
                      have u1 : U ≤ 9223372036854775806 := by omega
                      rw [hU]
                      have E2 := Lib.hid (show (Fl.rg N : Int) = U by rw [E.out, hU])
                      have HBf := Lib.hid (HB.out.trans (hn.mono HB.out.size))
                      clear hU hn h53 hi h0 i1 i0 t0 t1 tp ht m0 m1 ml hG
                      clear BTi UE RG E R3 FE H3 FQ BT
                      clear f0 f1
                      simp only []
                      go_wp2
                      go_ret
                      exact ⟨by first | (rw [E2.out]; rfl) | (rw [if_neg N0.out, E2.out]; rfl) | (rw [E2.out]; simp [Int.add_assoc]; done) | (rw [if_neg N0.out, E2.out]; simp [Int.add_assoc]; done), HBf.out⟩
                    · obtain rfl : B = 1 := by omega
                      clear hBb
                      cases r
                      · have : F % 2 = 0 ∨ F % 2 = 1 := by omega
                        rcases this with hF | hF
                        · have hF2 : F.tmod 2 = 0 := by rw [Int.tmod_eq_emod_of_nonneg f0]; exact hF
                          have E := Lib.hid (show (Fl.rg N : Int) = (1023 + t) * 4503599627370496 + F by rw [RG.out, UE.out]; rw [hF]; simp)
                          go_wp2_with fail
                          refine (BTi.out _).mono ?_
                          rintro e w4 ⟨rfl, hn⟩
                          obtain ⟨U, hU⟩ : ∃ U, (1023 + t) * 4503599627370496 + F = U := ⟨_, rfl⟩
                          have u0 : 0 ≤ U := by omega
                          have u1 : U ≤ 9223372036854775806 := by omega
                          rw [hU]
                          have E2 := Lib.hid (show (Fl.rg N : Int) = U by rw [E.out, hU])
                          have HBf := Lib.hid (HB.out.trans (hn.mono HB.out.size))
                          clear hU hn h53 hi h0 i1 i0 t0 t1 tp ht m0 m1 ml hG
                          clear BTi UE RG E R3 FE H3 FQ BT
                          simp only []
                          go_wp2
                          go_ret
                          exact ⟨by first | (rw [E2.out]; rfl) | (rw [if_neg N0.out, E2.out]; rfl) | (rw [E2.out]; simp [Int.add_assoc]; done) | (rw [if_neg N0.out, E2.out]; simp [Int.add_assoc]; done), HBf.out⟩
                        · have hF2 : F.tmod 2 = 1 := by rw [Int.tmod_eq_emod_of_nonneg f0]; exact hF
                          have E := Lib.hid (show (Fl.rg N : Int) = (1023 + t) * 4503599627370496 + F + 1 by rw [RG.out, UE.out]; rw [hF]; simp)
                          go_wp2_with fail
                          refine (BTi.out _).mono ?_
                          rintro e w4 ⟨rfl, hn⟩
                          obtain ⟨U, hU⟩ : ∃ U, (1023 + t) * 4503599627370496 + F = U := ⟨_, rfl⟩
                          have u0 : 0 ≤ U := by omega
                          have u1 : U ≤ 9223372036854775806 := by omega
                          rw [hU]
                          have E2 := Lib.hid (show (Fl.rg N : Int) = U + 1 by rw [E.out, hU])
                          have HBf := Lib.hid (HB.out.trans (hn.mono HB.out.size))
                          clear hU hn h53 hi h0 i1 i0 t0 t1 tp ht m0 m1 ml hG
                          clear BTi UE RG E R3 FE H3 FQ BT
                          simp only []
                          go_wp2
                          go_ret
                          exact ⟨by first | (rw [E2.out]; rfl) | (rw [if_neg N0.out, E2.out]; rfl) | (rw [E2.out]; simp [Int.add_assoc]; done) | (rw [if_neg N0.out, E2.out]; simp [Int.add_assoc]; done), HBf.out⟩
                      · skip
                        have E := Lib.hid (show (Fl.rg N : Int) = (1023 + t) * 4503599627370496 + F + 1 by rw [RG.out, UE.out]; simp)
                        go_wp2_with fail
                        refine (BTi.out _).mono ?_
                        rintro e w4 ⟨rfl, hn⟩
                        obtain ⟨U, hU⟩ : ∃ U, (1023 + t) * 4503599627370496 + F = U := ⟨_, rfl⟩
                        have u0 : 0 ≤ U := by omega
                        have u1 : U ≤ 9223372036854775806 := by omega
                        rw [hU]
                        have E2 := Lib.hid (show (Fl.rg N : Int) = U + 1 by rw [E.out, hU])
                        have HBf := Lib.hid (HB.out.trans (hn.mono HB.out.size))
                        clear hU hn h53 hi h0 i1 i0 t0 t1 tp ht m0 m1 ml hG
                        clear BTi UE RG E R3 FE H3 FQ BT
                        simp only []
                        go_wp2
                        go_ret
                        exact ⟨by first | (rw [E2.out]; rfl) | (rw [if_neg N0.out, E2.out]; rfl) | (rw [E2.out]; simp [Int.add_assoc]; done) | (rw [if_neg N0.out, E2.out]; simp [Int.add_assoc]; done), HBf.out⟩
                  · skip
                    have UE := Lib.hid (show Fl.up N t.toNat = false by unfold Fl.up; rw [decide_eq_false (by omega)]; rfl)
                    have E := Lib.hid (show (Fl.rg N : Int) = (1023 + t) * 4503599627370496 + F by rw [RG.out, UE.out]; simp)
                    go_upto_region 23 with fail
                    obtain ⟨U, hU⟩ : ∃ U, (1023 + t) * 4503599627370496 + F = U := ⟨_, rfl⟩
                    have u0 : 0 ≤ U := by omega
                    have u1 : U ≤ 9223372036854775806 := by omega
                    rw [hU]
                    have E2 := Lib.hid (show (Fl.rg N : Int) = U by rw [E.out, hU])
                    clear hU
                    go_wp2_with fail
                    go_ret
                    exact ⟨by first | (rw [E2.out]; rfl) | (rw [if_neg N0.out, E2.out]; rfl) | (rw [E2.out]; simp [Int.add_assoc]; done) | (rw [if_neg N0.out, E2.out]; simp [Int.add_assoc]; done), HB.out⟩
end Go.Proofs.YtdcllcbhepajeaaDoor
