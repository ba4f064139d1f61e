/- The walk of the law TextWords. -/
import Derived.Test.YtoikfekalgkgoaaDoorRWords
import Derived.Test.YtoikfekalgkgoaaDoorTAwake
namespace Go.Proofs.YtoikfekalgkgoaaDoor
open Go.RowKit Go.Proofs
set_option linter.unusedVariables false

set_option maxRecDepth 100000 in
set_option maxHeartbeats 4000000 in
theorem textWords_any (b : ByteArray) (hb : b.size ≤ 1099511627776) {w : World} (he : Env w) :
    Calls Tryd.prog 6 #[.string b] w fun e w' => e = .returned (.bool true) ∧ Below w.heap.size w w' := by
  obtain ⟨s, rfl⟩ : ∃ s : List UInt8, b = ⟨s.toArray⟩ := ⟨b.data.toList, by simp⟩
  have hs : s.length ≤ 1099511627776 := by simpa [ByteArray.size] using hb
  have TI := Lib.hid (tint_iv s w (by omega) he)
  have RI := Lib.hid (fun W => rint_iv s W)
  have TW := Lib.hid (fun W => words_any s W hs)
  have RW := Lib.hid (fun W => rwds_any s W hs)
  have AW := Lib.hid (fun W (hw : Below w.heap.size w W) => tawake_any W (he.mono hw))
  generalize Tx.iv s = x at *
  generalize Tx.ib s = p at *
  generalize Tx.words s = ws at *
  clear he hb hs
  go_enter Tryd.func6, Tryd.ntmps6
  go_wp2_with fail
  refine (TI.out).mono ?_
  rintro e w1 ⟨rfl, hB⟩
  have HB := Lib.hid hB
  clear hB
  go_wp2_with fail
  refine (RI.out _).mono ?_
  rintro e w2 ⟨rfl, hn⟩
  have HB := Lib.hid (HB.out.trans (hn.mono HB.out.size))
  clear hn
  go_wp2_with fail
  refine (TW.out _).mono ?_
  rintro e w3 ⟨⟨v1, rfl, h1⟩, hn⟩
  have HB := Lib.hid (HB.out.trans (hn.mono HB.out.size))
  have H1 := Lib.hid h1
  clear hn h1
  go_wp2_with fail
  refine (RW.out _).mono ?_
  rintro e w4 ⟨⟨v2, rfl, h2⟩, hn⟩
  have HB := Lib.hid (HB.out.trans (hn.mono HB.out.size))
  obtain ⟨hm, o1, cap1, rfl, hc1⟩ := H1.out.mono hn
  obtain ⟨_, o2, cap2, rfl, hc2⟩ := h2
  unfold maxLen at hm
  have HC1 := Lib.hid hc1
  have HC2 := Lib.hid hc2
  clear hn H1 hc1 hc2
  cases p
  all_goals
    go_wp2_with fail
    go_loopw [9] (fun a wr => ∃ k : Nat, a = .int .i64 k ∧ k ≤ ws.length ∧ Below w4.heap.size w4 wr) (fun a _ => ws.length - (intOf a).toNat)
    case atStart => exact ⟨0, rfl, by omega, Below.refl _ _⟩
    case round =>
      obtain ⟨k, rfl, hk, hB⟩ := hrel
      have HBr := Lib.hid hB
      by_cases hkl : k < ws.length
      · obtain ⟨g1, rfl, hg1, hl1⟩ := HC1.out (by omega)
        obtain ⟨g2, rfl, hg2, hl2⟩ := HC2.out (by omega)
        have c1 : wr.cell? ⟨g1, k, none⟩ = some (.string ⟨(ws[k]).toArray⟩) := (hB.cell (p := ⟨g1, k, none⟩) hg1).trans (hl1 k hkl)
        have c2 : wr.cell? ⟨g2, k, none⟩ = some (.string ⟨(ws[k]).toArray⟩) := (hB.cell (p := ⟨g2, k, none⟩) hg2).trans (hl2 k hkl)
        have hkI : (k : Int) < ws.length := by omega
        generalize ws[k] = y at *
        clear hB hl1 hl2
        go_wp2_with fail
        go_quiet (fail)
        go_wp2_with fail
        go_roundw
        case rel => exact ⟨k + 1, rfl, by omega, HBr.out.trans ⟨rfl, rfl, rfl, Nat.le_refl _, fun _ _ => rfl⟩⟩
        case measure => simp [intOf]; omega
      · have hkI : ¬ (k : Int) < ws.length := by omega
        have HBf := Lib.hid (HB.out.trans (hB.mono HB.out.size))
        clear hB
        go_wp2_with fail
        refine (AW.out _ HBf.out).mono ?_
        rintro e w5 ⟨rfl, hn⟩
        go_wp2_with fail
        go_ret
        exact ⟨rfl, HBf.out.trans (hn.mono HBf.out.size)⟩
end Go.Proofs.YtoikfekalgkgoaaDoor
