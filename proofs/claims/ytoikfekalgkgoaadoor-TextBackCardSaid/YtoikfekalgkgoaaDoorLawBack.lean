/- The walk of the law TextBack. -/
import Derived.Test.YtoikfekalgkgoaaDoorBackPl
import Derived.Test.YtoikfekalgkgoaaDoorLawParses
namespace Go.Proofs.YtoikfekalgkgoaaDoor
open Go.RowKit Go.Proofs
set_option linter.unusedVariables false

theorem read_back {s : List UInt8} {L : List P3} (h : Tx.pl 0 [] (Tx.lines s) = .inl L) (hl : s.length ≤ 65536) {e : Ending} {u : World} (hp : ParseE s e u) : PR3 s L 0 0 e u := by
  unfold ParseE at hp
  rw [if_neg (by omega), h] at hp
  exact hp
/-- what Parse hands back: points of ints, or an error and none -/
theorem parse_two (s : List UInt8) (hs : s.length ≤ maxLen) : (∃ c n : Int, c ≠ 0 ∧ ∀ e u, ParseE s e u → e = .returned (.tuple #[.slice none 0 0, .int .i64 c, .int .i64 n])) ∨ ∃ L : List P3, (∀ p ∈ L, OkP p) ∧ L.length ≤ 65536 ∧ ∀ e u, ParseE s e u → PR3 s L 0 0 e u := by
  by_cases hl : 65536 < s.length
  · exact .inl ⟨2, 0, by decide, fun e u h => by unfold ParseE at h; rw [if_pos hl] at h; exact h⟩
  · cases hp : Tx.pl 0 [] (Tx.lines s) with
    | inr n => exact .inl ⟨190, n, by decide, fun e u h => by unfold ParseE at h; rw [if_neg hl, hp] at h; exact h⟩
    | inl L =>
      obtain ⟨h1, h2⟩ := pl_ok _ _ _ _ hp (by simp)
      have h3 := (lines_len s.length s (Nat.le_refl _)).1
      exact .inr ⟨L, h1, by simp at h2; omega, fun e u h => by unfold ParseE at h; rw [if_neg hl, hp] at h; exact h⟩

set_option maxRecDepth 100000 in
set_option maxHeartbeats 4000000 in
theorem textBack_any (b : ByteArray) (hb : b.size ≤ maxLen) {v : Value} {L : List P3} {w : World} (hP : PL w v L) (hk : ∀ p ∈ L, OkP p) (he : Env w) :
    Calls Tryd.prog 4 #[v, .string b] w fun e w' => e = .returned (.bool true) ∧ Below w.heap.size w w' := by
  obtain ⟨s, rfl⟩ : ∃ s : List UInt8, b = ⟨s.toArray⟩ := ⟨b.data.toList, by simp⟩
  have hs : s.length ≤ maxLen := by simpa [ByteArray.size] using hb
  have AW := Lib.hid (fun W (hw : Below w.heap.size w W) => tawake_any W (he.mono hw))
  by_cases hl : 300 < L.length
  · obtain ⟨o, cap, rfl⟩ := pl_slice hP
    have hl' : (300 : Int) < L.length := by omega
    clear hP hk he hb hs
    go_enter Tryd.func4, Tryd.ntmps4
    go_wp2_with fail
    refine (AW.out _ (Below.refl _ _)).mono ?_
    rintro e w1 ⟨rfl, hn⟩
    go_wp2_with fail
    go_ret
    exact ⟨rfl, hn⟩
  · have hl' : ¬ (300 : Int) < L.length := by omega
    have hl3 : L.length ≤ 300 := by omega
    have HP := Lib.hid hP
    have PR := Lib.hid (fun (L : List P3) (hk : ∀ p ∈ L, OkP p) (hl : L.length ≤ 1000000) v W (hw : Below w.heap.size w W) (h : PL W v L) => tprint_any L v W h hk hl (he.mono hw))
    have PA := Lib.hid (fun (s : List UInt8) (hs : s.length ≤ maxLen) W (hw : Below w.heap.size w W) => tparse_any s W hs (he.mono hw))
    have SP := Lib.hid (fun (L : List P3) v v2 W h h2 => same_any L v v2 W h h2)
    have PT := Lib.hid (fun (p : P3) (hp : OkP p) W (hw : Below w.heap.size w W) => (show Calls Tryd.prog 10 #[.agg #[.int .i64 p.1, .int .i64 p.2.1, .int .i64 p.2.2]] W fun e w' => e = .returned (.string ⟨(Tx.pt p.1 p.2.1 p.2.2).toArray⟩) ∧ Below W.heap.size W w' from point_any _ _ _ hp.1 hp.2.1 hp.2.2 W (he.mono hw)))
    have HK := Lib.hid hk
    have HS := Lib.hid hs
    have plen := print_len hk
    obtain ⟨o, cap, rfl, hc⟩ := pl_cells hP
    have HC := Lib.hid hc
    clear hP hk he hb hs hl hc
    go_enter Tryd.func4, Tryd.ntmps4
    go_wp2_with fail
    refine (PR.out L HK.out (by omega) _ _ (Below.refl _ _) HP.out).mono ?_
    rintro e w1 ⟨rfl, hB⟩
    have HB := Lib.hid hB
    clear hB
    go_wp2_with fail
    refine (PA.out _ (by unfold maxLen; omega) _ HB.out).mono ?_
    rintro e w2 ⟨hpe, hn⟩
    obtain ⟨v1, h1, rfl⟩ := read_back (by simpa using back_lines L 0 [] HK.out) (by omega) hpe
    have H1 := Lib.hid h1
    have HB := Lib.hid (HB.out.trans (hn.mono HB.out.size))
    clear hn hpe h1
    go_wp2_with fail
    refine (SP.out L _ _ _ H1.out (HP.out.mono HB.out)).mono ?_
    rintro e w3 ⟨rfl, hn⟩
    have HB := Lib.hid (HB.out.trans (hn.mono HB.out.size))
    clear hn H1
    go_wp2_with fail
    go_loopw [8, 9] (fun a b wr => ∃ (k : Nat) (T : List UInt8), b = .int .i64 k ∧ a = .string ⟨T.toArray⟩ ∧ k ≤ L.length ∧ Hid (T = Tx.headT ++ Tx.body (L.take k)) ∧ T.length ≤ 8 + 72 * k ∧ Below w.heap.size w wr) (fun _ b _ => L.length - (intOf b).toNat)
    case atStart => exact ⟨0, Tx.headT, rfl, rfl, by omega, Lib.hid (by simp [Tx.body]), by simp [Tx.headT], HB.out⟩
    case round =>
      obtain ⟨k, T, rfl, rfl, hk, HT, hTl, hB⟩ := hrel
      clear HB
      have HB := Lib.hid hB
      by_cases hkl : k < L.length
      · obtain ⟨a, rfl, hb, c0, c1, c2⟩ := HC.out k hkl
        have hkI : (k : Int) < L.length := by omega
        have t0 := (hB.cell (p := a.add (k * 3)) (by rw [addr_block]; exact hb)).trans c0
        have t1 := (hB.cell (p := ⟨(a.add (k * 3)).block, (a.add (k * 3)).off + 1, none⟩) (by show (a.add (k * 3)).block < _; rw [addr_block]; exact hb)).trans c1
        have t2 := (hB.cell (p := ⟨(a.add (k * 3)).block, (a.add (k * 3)).off + 2, none⟩) (by show (a.add (k * 3)).block < _; rw [addr_block]; exact hb)).trans c2
        have OK := HK.out L[k] (List.getElem_mem hkl)
        have PTk := Lib.hid (fun W hw => PT.out L[k] OK W hw)
        have hpl := pt_len OK
        have HS2 := Lib.hid (show Tx.headT ++ Tx.body (L.take (k + 1)) = T ++ ([9] ++ Tx.pt L[k].1 L[k].2.1 L[k].2.2 ++ [32, 32, 10, 32, 35] ++ [10]) by rw [take_snoc L k hkl, body_snoc, HT.out]; simp only [List.append_assoc])
        generalize L[k].1 = x at *
        generalize L[k].2.1 = y at *
        generalize L[k].2.2 = z at *
        generalize Tx.pt x y z = P at *
        clear hB c0 c1 c2 hb OK plen
        go_wp2_with fail
        refine (PTk.out _ HB.out).mono ?_
        rintro e w4 ⟨rfl, hn⟩
        go_wp2_with fail
        go_roundw
        case rel => exact ⟨k + 1, T ++ ([9] ++ P ++ [32, 32, 10, 32, 35] ++ [10]), rfl, by simp [ByteArray.mk_append_mk], by omega, Lib.hid HS2.out.symm, by simp; omega, HB.out.trans (hn.mono HB.out.size)⟩
        case measure => simp [intOf]; omega
      · have e : L.take k = L := List.take_of_length_le (by omega)
        have HT2 := Lib.hid (HT.out.trans (by rw [e]))
        have hkI : ¬ (k : Int) < L.length := by omega
        have hT6 : T.length ≤ 65536 := by omega
        clear e hB HT
        go_wp2_with fail
        refine (PA.out T (by unfold maxLen; omega) _ HB.out).mono ?_
        rintro e w4 ⟨hpe, hn⟩
        obtain ⟨v2, h2, rfl⟩ := read_back (by rw [HT2.out]; exact back_text L HK.out) hT6 hpe
        have H2 := Lib.hid h2
        have HB := Lib.hid (HB.out.trans (hn.mono HB.out.size))
        clear hn hpe h2
        go_wp2_with fail
        refine (SP.out L _ _ _ H2.out (HP.out.mono HB.out)).mono ?_
        rintro e w5 ⟨rfl, hn⟩
        have HB := Lib.hid (HB.out.trans (hn.mono HB.out.size))
        clear hn H2
        go_wp2_with fail
        refine (PA.out s HS.out _ HB.out).mono ?_
        rintro e w6 ⟨hpe, hn⟩
        have HB := Lib.hid (HB.out.trans (hn.mono HB.out.size))
        clear hn
        rcases parse_two s HS.out with ⟨c, n, hc0, hpp⟩ | ⟨M, hM1, hM2, hpp⟩
        · obtain rfl := hpp _ _ hpe
          have hcb : (c == 0) = false := by simpa using hc0
          have hcn : (c != 0) = true := by simpa using hc0
          clear hpe hpp
          go_wp2_with fail
          refine (AW.out _ HB.out).mono ?_
          rintro e w7 ⟨rfl, hn⟩
          go_wp2_with fail
          go_ret
          exact ⟨rfl, HB.out.trans (hn.mono HB.out.size)⟩
        · obtain ⟨v3, h3, rfl⟩ := hpp _ _ hpe
          have H3 := Lib.hid h3
          have M1 := Lib.hid hM1
          have pm := print_len hM1
          have PB := Lib.hid (fun (h : (Tx.print M).length ≤ 65536) e u hp => read_back (e := e) (u := u) (by simpa using back_lines M 0 [] hM1) h hp)
          have PB2 := Lib.hid (fun (h : 65536 < (Tx.print M).length) e u (hp : ParseE (Tx.print M) e u) => (show e = .returned (.tuple #[.slice none 0 0, .int .i64 2, .int .i64 0]) by unfold ParseE at hp; rw [if_pos h] at hp; exact hp))
          clear hpe hpp h3 hM1
          go_wp2_with fail
          refine (PR.out M M1.out (by omega) _ _ HB.out H3.out).mono ?_
          rintro e w7 ⟨rfl, hn⟩
          have H3 := Lib.hid (H3.out.mono hn)
          have HB := Lib.hid (HB.out.trans (hn.mono HB.out.size))
          clear hn
          generalize Tx.print M = S at *
          go_wp2_with fail
          refine (PA.out S (by unfold maxLen; omega) _ HB.out).mono ?_
          rintro e w8 ⟨hpe, hn⟩
          have H3 := Lib.hid (H3.out.mono hn)
          have HB := Lib.hid (HB.out.trans (hn.mono HB.out.size))
          clear hn
          by_cases hS : 65536 < S.length
          · obtain rfl := PB2.out hS _ _ hpe
            have hSI : (65536 : Int) < S.length := by omega
            clear hpe
            go_wp2_with fail
            refine (AW.out _ HB.out).mono ?_
            rintro e w9 ⟨rfl, hn⟩
            go_wp2_with fail
            go_ret
            exact ⟨rfl, HB.out.trans (hn.mono HB.out.size)⟩
          · obtain ⟨v4, h4, rfl⟩ := PB.out (by omega) _ _ hpe
            have hSI : ¬ (65536 : Int) < S.length := by omega
            have H4 := Lib.hid h4
            clear hpe h4
            go_wp2_with fail
            refine (SP.out M _ _ _ H3.out H4.out).mono ?_
            rintro e w9 ⟨rfl, hn⟩
            have HB := Lib.hid (HB.out.trans (hn.mono HB.out.size))
            clear hn
            go_wp2_with fail
            refine (AW.out _ HB.out).mono ?_
            rintro e w10 ⟨rfl, hn⟩
            go_wp2_with fail
            go_ret
            exact ⟨rfl, HB.out.trans (hn.mono HB.out.size)⟩
end Go.Proofs.YtoikfekalgkgoaaDoor
