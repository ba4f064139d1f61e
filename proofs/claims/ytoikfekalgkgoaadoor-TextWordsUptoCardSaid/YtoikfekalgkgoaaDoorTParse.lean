/- The contract of package text's Parse. -/
import Derived.Test.YtoikfekalgkgoaaDoorPl
namespace Go.Proofs.YtoikfekalgkgoaaDoor
open Go.RowKit Go.Proofs
set_option linter.unusedVariables false

set_option maxRecDepth 100000 in
set_option maxHeartbeats 4000000 in
theorem tparse_any (s : List UInt8) (w : World) (hm : s.length ≤ maxLen) (he : Env w) :
    Calls Tryd.prog 12 #[.string ⟨s.toArray⟩] w fun e w' => ParseE s e w' ∧ Below w.heap.size w w' := by
  unfold maxLen at hm
  by_cases hl : 65536 < s.length
  · have PE := Lib.hid (fun (u : World) => (show ParseE s (.returned (.tuple #[.slice none 0 0, .int .i64 2, .int .i64 0])) u by unfold ParseE; rw [if_pos hl]))
    have hl' : (65536 : Int) < s.length := by omega
    go_enter Tryd.func12, Tryd.ntmps12
    go_wp2_with fail
    go_ret3
    exact ⟨PE.out _, Below.refl _ _⟩
  · have hl' : ¬ (65536 : Int) < s.length := by omega
    obtain ⟨i0, hI0, hz0, hz1, hz2⟩ := info_parts Tryd.infoPoint
    have HE := Lib.hid he
    have NL := Lib.hid hl
    have CU := Lib.hid (fun (r : List UInt8) (h : r.length ≤ 1099511627776) W => cut_any r W h)
    have WO := Lib.hid (fun (r : List UInt8) (h : r.length ≤ 1099511627776) W => words_any r W h)
    have TP := Lib.hid (fun (l : List (List UInt8)) (v : Value) W (h : Tx.SL W v l) (hs : ∀ x ∈ l, x.length ≤ 140737488355328) (hw : Env W) => tpoint_any l v W h hs hw)
    have hs6 : s.length ≤ 65536 := by omega
    clear he hl
    go_enter Tryd.func12, Tryd.ntmps12
    go_wp2_with fail
    go_loopw [0, 5, 6] (fun a v n wr => ∃ (r : List UInt8) (L : List P3) (k : Nat), a = .string ⟨r.toArray⟩ ∧ n = .int .i64 k ∧ wr.ownsRow w.heap.size 24 3 v L.length (ptsC L) ∧ Below w.heap.size w wr ∧ Hid (PS s r L k)) (fun a _ _ _ => strLen a)
    case atStart => exact ⟨s, [], 0, rfl, rfl, ⟨rfl, .inl ⟨rfl, rfl⟩⟩, Below.refl _ _, Lib.hid (PS.start s)⟩
    case round =>
      obtain ⟨r, L, k, rfl, rfl, hown, hB, HPS⟩ := hrel
      have HOWN := Lib.hid hown
      have HB := Lib.hid hB
      have hk : k + r.length ≤ s.length := HPS.out.2.1
      have hL : L.length ≤ k := HPS.out.2.2
      clear hown hB
      by_cases hr : r = []
      · subst hr
        have PE := Lib.hid (fun (u : World) (h : PL u (cutCap u5) L) => (show ParseE s (.returned (.tuple #[cutCap u5, .int .i64 0, .int .i64 0])) u by unfold ParseE; rw [if_neg NL.out]; rw [HPS.out.done]; exact ⟨_, h, rfl⟩))
        have P := PE.out _ (PL.cutCap (PL.of_own HOWN.out (by unfold maxLen; omega)))
        have HP := Lib.hid P
        clear PE P
        rcases HOWN.out.2 with ⟨hv, h2⟩ | ⟨g, cap, cur, hv, hg, hh, hcc⟩
        · subst hv
          go_wp2_with fail
          go_ret3
          exact ⟨HP.out, HB.out⟩
        · have hcap := HOWN.out.1
          subst hv
          go_wp2_with fail
          go_ret3
          exact ⟨HP.out, HB.out⟩
      · have hrb : (r == []) = false := by simpa using hr
        have hx : (Tx.upto 10 r).length ≤ 1099511627776 := by have := Tx.upto_le 10 r; omega
        have HX := Lib.hid hx
        have HR := Lib.hid hr
        have hdr := drop_lt hr
        generalize hrest : r.drop ((Tx.upto 10 r).length + 1) = q at *
        have HQ := Lib.hid hrest
        have CUr := Lib.hid (fun W => hrest ▸ CU.out r (by omega) W)
        clear hr hx hrest
        go_wp2_with fail
        refine (CUr.out _).mono ?_
        rintro e w1 ⟨⟨b, rfl⟩, hb⟩
        have hB := HB.out.trans (hb.mono HB.out.size)
        have hown := own_below HOWN.out hb
        clear HB HOWN hb
        have HB := Lib.hid hB
        have HOWN := Lib.hid hown
        clear hB hown
        go_wp2_with fail
        refine (WO.out _ HX.out _).mono ?_
        rintro e w2 ⟨⟨v2, rfl, hSL⟩, hb⟩
        have hB := HB.out.trans (hb.mono HB.out.size)
        have hown := own_below HOWN.out hb
        clear HB HOWN hb
        have HB := Lib.hid hB
        have HOWN := Lib.hid hown
        have HSL := Lib.hid hSL
        clear hB hown
        by_cases hw0 : Tx.words (Tx.upto 10 r) = []
        · obtain ⟨o, cap, rfl⟩ := sl_slice hSL
          have HS := Lib.hid (show Tx.skip (Tx.upto 10 r) = true from skip_nil hw0)
          rw [hw0] at *
          clear hSL hw0
          go_wp2_with fail
          go_roundw
          case rel => exact ⟨q, L, k + 1, rfl, rfl, HOWN.out, HB.out, Lib.hid (HQ.out ▸ HPS.out.skip HR.out HS.out)⟩
          case measure => simp [strLen, ByteArray.size]; omega
        · obtain ⟨c, y, rr, hw⟩ := words_head hw0
          have HW := Lib.hid hw
          have HC := Lib.hid (skip_cons hw)
          rw [hw] at hSL
          obtain ⟨hSm, o, cap, rfl, hSc⟩ := hSL
          obtain ⟨g, rfl, hg, hcl⟩ := hSc (by simp)
          have c0 : w2.cell? ⟨g, 0, none⟩ = some (.string ⟨(c :: y).toArray⟩) := hcl 0 (by simp)
          have hln : (((c :: y) :: rr).length : Int) = rr.length + 1 := by simp
          have hl0 : (((rr.length : Int) + 1) == 0) = false := by
            have : ((rr.length : Int) + 1) ≠ 0 := by omega
            simpa using this
          have hi0 : 0 < (⟨(c :: y).toArray⟩ : ByteArray).size := by rw [size_str]; simp
          have hgc : (⟨(c :: y).toArray⟩ : ByteArray)[0]'hi0 = c := rfl
          clear hw hw0 hSc hcl
          by_cases hc : c = 35
          · subst hc
            have HS := Lib.hid (show Tx.skip (Tx.upto 10 r) = true from HC.out)
            go_wp2_with fail
            go_roundw
            case rel => exact ⟨q, L, k + 1, rfl, rfl, HOWN.out, HB.out, Lib.hid (HQ.out ▸ HPS.out.skip HR.out HS.out)⟩
            case measure => simp [strLen, ByteArray.size]; omega
          · have hc' : ((c.toNat : Int) == 35) = false := by
              have : (c.toNat : Int) ≠ 35 := fun e => hc (UInt8.toNat_inj.1 (by show c.toNat = 35; omega))
              simpa using this
            have HS := Lib.hid (show ¬ Tx.skip (Tx.upto 10 r) = true by rw [HC.out]; simpa using hc)
            have hwl : ∀ x ∈ Tx.words (Tx.upto 10 r), x.length ≤ 140737488355328 := fun x hx => by
              have := wf_len (Tx.upto 10 r) [] x hx
              have := HX.out
              simp at *; omega
            have HWL := Lib.hid hwl
            clear hc hwl
            go_wp2_with fail
            refine (TP.out (Tx.words (Tx.upto 10 r)) _ _ (show Tx.SL w2 _ (Tx.words (Tx.upto 10 r)) from HSL.out) HWL.out (HE.out.mono HB.out)).mono ?_
            rintro e w3 ⟨rfl, hb⟩
            have hB := HB.out.trans (hb.mono HB.out.size)
            have hown := own_below HOWN.out hb
            clear HB HOWN hb c0 hg
            have HB := Lib.hid hB
            have HOWN := Lib.hid hown
            clear hB hown
            cases htr : Tx.trip (Tx.words (Tx.upto 10 r)) with
            | none =>
              have PE := Lib.hid (fun (u : World) => (show ParseE s (.returned (.tuple #[.slice none 0 0, .int .i64 190, .int .i64 k])) u by unfold ParseE; rw [if_neg NL.out, HPS.out.fault HR.out HS.out htr]; rfl))
              have hT : Tx.tripR (Tx.words (Tx.upto 10 r)) = .tuple #[.agg #[.int .i64 0, .int .i64 0, .int .i64 0], .bool false] := by unfold Tx.tripR; rw [htr]
              rw [hT]
              clear hT htr
              go_wp2_with fail
              go_ret3
              exact ⟨PE.out _, HB.out.alloc HB.out.size _⟩
            | some p =>
              have hT : Tx.tripR (Tx.words (Tx.upto 10 r)) = .tuple #[.agg #[.int .i64 p.1, .int .i64 p.2.1, .int .i64 p.2.2], .bool true] := by unfold Tx.tripR; rw [htr]
              rw [hT]
              have HPN := Lib.hid (HPS.out.point HR.out HS.out htr)
              clear hT htr
              go_wp2_with (at_builtin; go_loud (refine wpList_append_own _ rfl (.tmp 47) (.tmp 49) 22 rfl w.heap.size 24 i0 (.agg #[.int .i64 0, .int .i64 0, .int .i64 0]) 3 24 Tryd.underlying22 hI0 hz0 hz1 hz2 rfl (by decide) _ _ _ rfl ((HOWN.out.alloc _).alloc _) ⟨_, 0, none⟩ 1 1 [.int .i64 p.1, .int .i64 p.2.1, .int .i64 p.2.2] rfl rfl (three_new2 _ _ _ _ _ _) (by simp [Value.oneCell']) (by unfold maxLen; omega) (by omega) (Nat.le_trans HB.out.size (by simp; omega)) ?_; intro v' w4 hown1 hgrow1 hnil1))
              have hB3 := own_grown ((HB.out.alloc HB.out.size _).alloc (Nat.le_trans HB.out.size (by simp)) _) ((HOWN.out.alloc _).alloc _) hgrow1 (Nat.le_refl _)
              have hown3 : w4.ownsRow w.heap.size 24 3 v' (L ++ [p]).length (ptsC (L ++ [p])) := by
                rw [ptsC_snoc]
                simpa using hown1
              clear hgrow1 hnil1 hown1
              have HO3 := Lib.hid hown3
              have HB3 := Lib.hid hB3
              clear hown3 hB3
              go_wp2_with fail
              go_roundw
              case rel => exact ⟨q, L ++ [p], k + 1, rfl, rfl, HO3.out, HB3.out, Lib.hid (HQ.out ▸ HPN.out)⟩
              case measure => simp [strLen, ByteArray.size]; omega
end Go.Proofs.YtoikfekalgkgoaaDoor
