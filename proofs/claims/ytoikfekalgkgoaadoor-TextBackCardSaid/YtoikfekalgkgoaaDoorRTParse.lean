/- The contract of the reference's Parse. -/
import Derived.Test.YtoikfekalgkgoaaDoorRWords
namespace Go.Proofs.YtoikfekalgkgoaaDoor
open Go.RowKit Go.Proofs
set_option linter.unusedVariables false

/-- the state of the reference's Parse: k lines are done -/
def QS (s : List UInt8) (k : Nat) (L : List P3) : Prop := Tx.pl 0 [] (Tx.lines s) = Tx.pl k L ((Tx.lines s).drop k) ∧ k ≤ (Tx.lines s).length ∧ L.length ≤ k
theorem QS.start (s : List UInt8) : QS s 0 [] := ⟨rfl, by omega, by simp⟩
theorem QS.done {s : List UInt8} {k : Nat} {L : List P3} (h : QS s k L) (hk : ¬ k < (Tx.lines s).length) : Tx.pl 0 [] (Tx.lines s) = .inl L := by
  rw [h.1, List.drop_eq_nil_of_le (by omega)]; rfl
theorem QS.skip {s : List UInt8} {k : Nat} {L : List P3} (h : QS s k L) (hk : k < (Tx.lines s).length) (hs : Tx.skip (Tx.lines s)[k] = true) : QS s (k + 1) L := by
  obtain ⟨h1, h2, h3⟩ := h
  refine ⟨?_, by omega, by omega⟩
  rw [h1, List.drop_eq_getElem_cons hk, Tx.pl, if_pos hs]
theorem QS.point {s : List UInt8} {k : Nat} {L : List P3} {p : P3} (h : QS s k L) (hk : k < (Tx.lines s).length) (hs : ¬ Tx.skip (Tx.lines s)[k] = true) (ht : Tx.trip (Tx.words (Tx.lines s)[k]) = some p) : QS s (k + 1) (L ++ [p]) := by
  obtain ⟨h1, h2, h3⟩ := h
  refine ⟨?_, by omega, by simp; omega⟩
  rw [h1, List.drop_eq_getElem_cons hk, Tx.pl, if_neg hs, ht]
theorem QS.fault {s : List UInt8} {k : Nat} {L : List P3} (h : QS s k L) (hk : k < (Tx.lines s).length) (hs : ¬ Tx.skip (Tx.lines s)[k] = true) (ht : Tx.trip (Tx.words (Tx.lines s)[k]) = none) : Tx.pl 0 [] (Tx.lines s) = .inr k := by
  rw [h.1, List.drop_eq_getElem_cons hk, Tx.pl, if_neg hs, ht]
theorem lines_len : ∀ (n : Nat) (s : List UInt8), s.length ≤ n → (Tx.lines s).length ≤ s.length ∧ ∀ x ∈ Tx.lines s, x.length ≤ s.length := by
  intro n
  induction n with
  | zero =>
    intro s h
    obtain rfl : s = [] := List.length_eq_zero_iff.1 (by omega)
    rw [Tx.lines_nil]; simp
  | succ n ih =>
    intro s h
    by_cases hs : s = []
    · subst hs; rw [Tx.lines_nil]; simp
    · have hd := drop_lt hs
      obtain ⟨h1, h2⟩ := ih (s.drop ((Tx.upto 10 s).length + 1)) (by omega)
      rw [Tx.lines_ne hs]
      refine ⟨by simp only [List.length_cons]; omega, fun x hx => ?_⟩
      rcases List.mem_cons.1 hx with rfl | hx
      · exact Tx.upto_le 10 s
      · have := h2 x hx; omega

set_option maxRecDepth 100000 in
set_option maxHeartbeats 4000000 in
theorem rtparse_any (s : List UInt8) (w : World) (hm : s.length ≤ maxLen) :
    Calls Tryd.prog 14 #[.string ⟨s.toArray⟩] w fun e w' => ParseE s e w' ∧ Below w.heap.size w w' := by
  unfold maxLen at hm
  by_cases hl : 65536 < s.length
  · have PE := Lib.hid (fun (u : World) => (show ParseE s (.returned (.tuple #[.slice none 0 0, .int .i64 2, .int .i64 0])) u by unfold ParseE; rw [if_pos hl]))
    have hl' : (65536 : Int) < s.length := by omega
    go_enter Tryd.func14, Tryd.ntmps14
    go_wp2_with fail
    go_ret3
    exact ⟨PE.out _, Below.refl _ _⟩
  · have hl' : ¬ (65536 : Int) < s.length := by omega
    obtain ⟨i0, hI0, hz0, hz1, hz2⟩ := info_parts Tryd.infoPoint
    have NL := Lib.hid hl
    have LI := Lib.hid (fun W => rlines_any s W (by omega))
    have WO := Lib.hid (fun (r : List UInt8) (h : r.length ≤ 1099511627776) W => rwds_any r W h)
    have TP := Lib.hid (fun (l : List (List UInt8)) (v : Value) W (h : Tx.SL W v l) => triple_any l v W h)
    obtain ⟨ll1, ll2⟩ := lines_len s.length s (Nat.le_refl _)
    have LL := Lib.hid ll2
    have hs6 : (Tx.lines s).length ≤ 65536 := by omega
    clear hl ll2 ll1
    go_enter Tryd.func14, Tryd.ntmps14
    go_wp2_with fail
    refine (LI.out _).mono ?_
    rintro e w1 ⟨⟨vl, rfl, hSL⟩, hB⟩
    obtain ⟨_, o, cap, rfl, hSc⟩ := hSL
    have HSC := Lib.hid hSc
    have HBl := Lib.hid hB
    clear hSc hB
    go_wp2_with fail
    go_loopw [5, 7] (fun v n wr => ∃ (L : List P3) (k : Nat), n = .int .i64 k ∧ wr.ownsRow w1.heap.size 24 3 v L.length (ptsC L) ∧ Below w1.heap.size w1 wr ∧ Hid (QS s k L)) (fun _ n _ => (Tx.lines s).length - (intOf n).toNat)
    case atStart => exact ⟨[], 0, rfl, ⟨rfl, .inl ⟨rfl, rfl⟩⟩, Below.refl _ _, Lib.hid (QS.start s)⟩
    case round =>
      obtain ⟨L, k, rfl, hown, hB, HPS⟩ := hrel
      have HOWN := Lib.hid hown
      have HB := Lib.hid hB
      have hk : k ≤ (Tx.lines s).length := HPS.out.2.1
      have hL : L.length ≤ k := HPS.out.2.2
      clear hown hB
      by_cases hkl : k < (Tx.lines s).length
      · obtain ⟨g, rfl, hg, hcl⟩ := HSC.out (by omega)
        have c0 : wr.cell? ⟨g, k, none⟩ = some (.string ⟨((Tx.lines s)[k]).toArray⟩) := (HB.out.cell (p := ⟨g, k, none⟩) hg).trans (hcl k hkl)
        have hkI : (k : Int) < (Tx.lines s).length := by omega
        have hx : ((Tx.lines s)[k]).length ≤ 1099511627776 := by have := LL.out _ (List.getElem_mem hkl); omega
        have PSK := Lib.hid (fun h => HPS.out.skip hkl h)
        have PFA := Lib.hid (fun h h2 => HPS.out.fault hkl h h2)
        have PPT := Lib.hid (fun h p h2 => HPS.out.point (p := p) hkl h h2)
        generalize (Tx.lines s)[k] = X at *
        have HX := Lib.hid hx
        clear hcl hx
        go_wp2_with fail
        refine (WO.out X HX.out _).mono ?_
        rintro e w2 ⟨⟨v2, rfl, hSL⟩, hb⟩
        have hB := HB.out.trans (hb.mono HB.out.size)
        have hown := own_below HOWN.out hb
        clear HB HOWN hb c0
        have HB := Lib.hid hB
        have HOWN := Lib.hid hown
        have HSL := Lib.hid hSL
        clear hB hown
        by_cases hw0 : Tx.words X = []
        · obtain ⟨o, cap, rfl⟩ := sl_slice hSL
          have HS := Lib.hid (show Tx.skip X = true from skip_nil hw0)
          rw [hw0] at *
          clear hSL hw0
          go_wp2_with fail
          go_roundw
          case rel => exact ⟨L, k + 1, rfl, HOWN.out, HB.out, Lib.hid (PSK.out HS.out)⟩
          case measure => simp [intOf]; omega
        · obtain ⟨c, y, rr, hw⟩ := words_head hw0
          have HW := Lib.hid hw
          have HC := Lib.hid (skip_cons hw)
          rw [hw] at hSL
          obtain ⟨hSm, o, cap, rfl, hSc⟩ := hSL
          obtain ⟨g, rfl, hg, hcl⟩ := hSc (by simp)
          have c0 : w2.cell? ⟨g, 0, none⟩ = some (.string ⟨(c :: y).toArray⟩) := hcl 0 (by simp)
          have hln : (((c :: y) :: rr).length : Int) = rr.length + 1 := by simp
          have hl0 : (((rr.length : Int) + 1) == 0) = false := by
            have : ((rr.length : Int) + 1) ≠ 0 := by omega
            simpa using this
          have hi0 : 0 < (⟨(c :: y).toArray⟩ : ByteArray).size := by rw [size_str]; simp
          have hgc : (⟨(c :: y).toArray⟩ : ByteArray)[0]'hi0 = c := rfl
          clear hw hw0 hSc hcl
          by_cases hc : c = 35
          · subst hc
            have HS := Lib.hid (show Tx.skip X = true from HC.out)
            go_wp2_with fail
            go_roundw
            case rel => exact ⟨L, k + 1, rfl, HOWN.out, HB.out, Lib.hid (PSK.out HS.out)⟩
            case measure => simp [intOf]; omega
          · have hc' : ((c.toNat : Int) == 35) = false := by
              have : (c.toNat : Int) ≠ 35 := fun e => hc (UInt8.toNat_inj.1 (by show c.toNat = 35; omega))
              simpa using this
            have HS := Lib.hid (show ¬ Tx.skip X = true by rw [HC.out]; simpa using hc)
            clear hc
            go_wp2_with fail
            refine (TP.out (Tx.words X) _ _ (show Tx.SL w2 _ (Tx.words X) from HSL.out)).mono ?_
            rintro e w3 ⟨rfl, hb⟩
            have hB := HB.out.trans (hb.mono HB.out.size)
            have hown := own_below HOWN.out hb
            clear HB HOWN hb c0 hg
            have HB := Lib.hid hB
            have HOWN := Lib.hid hown
            clear hB hown
            cases htr : Tx.trip (Tx.words X) with
            | none =>
              have PE := Lib.hid (fun (u : World) => (show ParseE s (.returned (.tuple #[.slice none 0 0, .int .i64 190, .int .i64 k])) u by unfold ParseE; rw [if_neg NL.out, PFA.out HS.out htr]; rfl))
              have hT : Tx.tripR (Tx.words X) = .tuple #[.agg #[.int .i64 0, .int .i64 0, .int .i64 0], .bool false] := by unfold Tx.tripR; rw [htr]
              rw [hT]
              clear hT htr
              go_wp2_with fail
              go_ret3
              exact ⟨PE.out _, HBl.out.trans ((HB.out.alloc HB.out.size _).mono HBl.out.size)⟩
            | some p =>
              have hT : Tx.tripR (Tx.words X) = .tuple #[.agg #[.int .i64 p.1, .int .i64 p.2.1, .int .i64 p.2.2], .bool true] := by unfold Tx.tripR; rw [htr]
              rw [hT]
              have HPN := Lib.hid (PPT.out HS.out p htr)
              clear hT htr
              go_wp2_with (at_builtin; refine wpList_append_own _ rfl (.tmp 45) (.tmp 47) 22 rfl w1.heap.size 24 i0 (.agg #[.int .i64 0, .int .i64 0, .int .i64 0]) 3 24 Tryd.underlying22 hI0 hz0 hz1 hz2 rfl (by decide) _ _ _ rfl ((HOWN.out.alloc _).alloc _) ⟨_, 0, none⟩ 1 1 [.int .i64 p.1, .int .i64 p.2.1, .int .i64 p.2.2] rfl rfl (three_new2 _ _ _ _ _ _) (by simp [Value.oneCell']) (by unfold maxLen; omega) (by omega) (Nat.le_trans HB.out.size (by simp; omega)) ?_; intro v' w4 hown1 hgrow1 hnil1)
              have hB3 := own_grown ((HB.out.alloc HB.out.size _).alloc (Nat.le_trans HB.out.size (by simp)) _) ((HOWN.out.alloc _).alloc _) hgrow1 (Nat.le_refl _)
              have hown3 : w4.ownsRow w1.heap.size 24 3 v' (L ++ [p]).length (ptsC (L ++ [p])) := by
                rw [ptsC_snoc]
                simpa using hown1
              clear hgrow1 hnil1 hown1
              have HO3 := Lib.hid hown3
              have HB3 := Lib.hid hB3
              clear hown3 hB3
              go_wp2_with fail
              go_roundw
              case rel => exact ⟨L ++ [p], k + 1, rfl, HO3.out, HB3.out, HPN⟩
              case measure => simp [intOf]; omega
      · have PE := Lib.hid (fun (u : World) (h : PL u u5 L) => (show ParseE s (.returned (.tuple #[u5, .int .i64 0, .int .i64 0])) u by unfold ParseE; rw [if_neg NL.out]; rw [HPS.out.done hkl]; exact ⟨_, h, rfl⟩))
        have P := PE.out _ (PL.of_own HOWN.out (by unfold maxLen; omega))
        have HP := Lib.hid P
        have hkI : ¬ (k : Int) < (Tx.lines s).length := by omega
        clear PE P
        go_wp2_with fail
        go_ret3
        exact ⟨HP.out, HBl.out.trans (HB.out.mono HBl.out.size)⟩
end Go.Proofs.YtoikfekalgkgoaaDoor
