/- Package limb's Text: the walk. -/
import Derived.Test.YtdcllcbhepajeaaDoorText
import Derived.Test.YtdcllcbhepajeaaDoorDigits
import Derived.OwnWalk
namespace Go.Proofs.YtdcllcbhepajeaaDoor
open Go.RowKit Go.Proofs
set_option linter.unusedVariables false

theorem fmtu_any (n : Int) (h : 0 ≤ n) (h' : n ≤ 18446744073709551615) (w : World) (htab : Tab w) :
    Calls Tryd.prog 51 #[.int .u64 n, .int .i64 10] w fun e w' => e = .returned (.string ⟨(Lib.decDigits n.toNat).toArray⟩) ∧ Below w.heap.size w w' := by
  obtain ⟨M, rfl⟩ := Int.eq_ofNat_of_zero_le h
  exact fmtuint_any M (by omega) w htab

theorem itoa_neg' {x : Int} (h : hi x < 0) : Lib.itoa (sv x) = 45 :: Lib.decDigits (mg x).toNat := by
  obtain ⟨e, h1⟩ := mg_neg h
  rw [Lib.itoa, if_pos h1, e, show (-sv x).toNat = (sv x).natAbs by omega]
theorem itoa_pos' {x : Int} (h : 0 ≤ hi x) : Lib.itoa (sv x) = Lib.decDigits (mg x).toNat := by
  obtain ⟨e, h1⟩ := mg_pos h
  rw [Lib.itoa, if_neg (by omega), e]

theorem text_small {ah al : Int} (x : Int) (ha : IsL ah al x) (hm : mg x < 10000000000000000000) (w : World) (htab : Tab w) :
    Calls Tryd.prog 34 #[.agg #[.int .i64 ah, .int .u64 al]] w fun e w' =>
      e = .returned (.string ⟨(Lib.itoa (sv x)).toArray⟩) ∧ Below w.heap.size w w' := by
  have r := mg_range x
  have e1 : mg x / 18446744073709551616 = 0 := by omega
  have e2 : mg x % 18446744073709551616 = mg x := by omega
  go_enter Tryd.func34, Tryd.ntmps34
  go_wp2_with fail
  refine (size_any x ha _).mono ?_
  rintro e w1 ⟨rfl, hb⟩
  obtain ⟨hc, hf⟩ := bcell hb
  have hz := sz1 hb
  go_wp2_with fail
  go_loopw [3, 4, 5] (fun a b v wr => a = .int .u64 0 ∧ b = .int .u64 (mg x) ∧ v = .slice none 0 0 ∧ wr = w1) (fun _ _ _ _ => 0)
  case atStart => exact ⟨rfl, rfl, rfl, rfl⟩
  case round =>
    obtain ⟨rfl, rfl, rfl, rfl⟩ := hrel
    go_wp2_with fail
    refine (fmtu_any (mg x) r.1 (by omega) _ (htab.below (bl1 hb))).mono ?_
    rintro e w2 ⟨rfl, hn⟩
    replace hb := chain hb hn
    clear hn hc hf hz
    obtain ⟨hc, hf⟩ := bcell hb
    have hz := sz1 hb
    go_wp2_with fail
    go_loopw [13, 11] (fun a b wr => a = .int .i64 (-1) ∧ b = .string ⟨(Lib.decDigits (mg x).toNat).toArray⟩ ∧ wr = w2) (fun _ _ _ => 0)
    case atStart => exact ⟨rfl, rfl, rfl⟩
    case round =>
      obtain ⟨rfl, rfl, rfl⟩ := hrel
      obtain ⟨rfl, rfl⟩ := ha
      have hl : ¬ 9223372036854775807 < 1 + (Lib.decDigits (mg x).toNat).length := by
        rw [Lib.decDigits_length]
        have := nDigits_le (r := (mg x).toNat) 19 (by decide) (by simp; omega)
        omega
      go_wp2
      · have h : hi x < 0 := by assumption
        go_ret
        exact ⟨by rw [itoa_neg' h]; simp [ByteArray.mk_append_mk], bl1 hb⟩
      · have h : 0 ≤ hi x := by assumption
        go_ret
        exact ⟨by rw [itoa_pos' h]; rfl, bl1 hb⟩

theorem one_row {w' : World} {base : Nat} {e : TypeId} {v x : Value} (h : w'.ownsRow base e 1 v 1 [x]) :
    ∃ g cap, v = .slice (some ⟨g, 0, none⟩) 1 cap ∧ base ≤ g ∧ w'.cell? ⟨g, 0, none⟩ = some x ∧ g < w'.heap.size := by
  obtain ⟨_, h⟩ := h
  rcases h with ⟨_, h⟩ | ⟨g, cap, cur, rfl, hg, hh, hn, hm, hs, ht⟩
  · omega
  · refine ⟨g, cap, rfl, hg, ?_, (Array.getElem?_eq_some_iff.1 hh).1⟩
    have : cur.toList[0]? = some x := by
      have := congrArg (·[0]?) ht
      simpa [List.getElem?_take] using this
    simp [World.cell?, hh]
    simpa using this
/-- one cell and its block -/
def C1 (u : World) (g : Nat) (a : Value) : Prop := u.cell? ⟨g, 0, none⟩ = some a ∧ g < u.heap.size
theorem carry1 {u : World} {g : Nat} {a : Value} (h1 : g < u.heap.size) (h : u.cell? ⟨g, 0, none⟩ = some a) : C1 u g a := ⟨h, h1⟩
theorem C1.mono {u w1 : World} {g : Nat} {a : Value} (h : C1 u g a) (hn : Below u.heap.size u w1) : C1 w1 g a := ⟨((bcell hn).1 g 0 h.2).trans h.1, Nat.lt_of_lt_of_le h.2 hn.size⟩
theorem grown_below {w w' : World} (h : w.grownBy w' none) : Below w.heap.size w w' :=
  ⟨h.os, h.tape, h.output, h.size, fun b hb => h.block b hb (by simp)⟩

theorem rep_zero (D : List UInt8) (h : D.length ≤ 19) (w : World) :
    Calls Tryd.prog 52 #[.string ⟨#[48]⟩, .int .i64 (19 - (D.length : Int))] w fun e w' => e = .returned (.string ⟨(Lib.repeatL [48] (19 - D.length)).toArray⟩) ∧ Below w.heap.size w w' := by
  have e : (19 : Int) - (D.length : Int) = ((19 - D.length : Nat) : Int) := by omega
  rw [e]
  exact Tryd.strings_Repeat ⟨#[48]⟩ (19 - D.length) w (by omega) (by simp [ByteArray.size]; omega)

theorem div_first (H : Int) (h1 : 0 ≤ H) (h2 : H < 10000000000000000000) (w : World) :
    Calls Tryd.prog 50 #[.int .u64 0, .int .u64 H, .int .u64 10000000000000000000] w fun e w' => e = .returned (.tuple #[.int .u64 0, .int .u64 H]) ∧ Below w.heap.size w w' := by
  have := div_zero H h1 (by omega) w
  rw [show H / 10000000000000000000 = 0 by omega, show H % 10000000000000000000 = H by omega] at this
  exact this
theorem div_next (H L Q R : Int) (h1 : 0 ≤ H) (h2 : H < 10000000000000000000) (h3 : 0 ≤ L) (h4 : L ≤ 18446744073709551615) (hQ : (H * 18446744073709551616 + L) / 10000000000000000000 = Q) (hR : (H * 18446744073709551616 + L) % 10000000000000000000 = R) (w : World) :
    Calls Tryd.prog 50 #[.int .u64 H, .int .u64 L, .int .u64 10000000000000000000] w fun e w' => e = .returned (.tuple #[.int .u64 Q, .int .u64 R]) ∧ Below w.heap.size w w' := by
  subst hQ hR
  by_cases h : H = 0
  · subst h
    have := div_zero L h3 h4 w
    rw [Int.zero_mul, Int.zero_add]
    exact this
  · have e : L = L / 4294967296 * 4294967296 + L % 4294967296 := by omega
    refine (show Calls Tryd.prog 50 #[.int .u64 H, .int .u64 L, .int .u64 10000000000000000000] w fun e w' => e = .returned (.tuple #[.int .u64 ((H * 18446744073709551616 + L) / 10000000000000000000), .int .u64 ((H * 18446744073709551616 + L) % 10000000000000000000)]) ∧ w = w' by
      have := div_ten H (L / 4294967296) (L % 4294967296) (by omega) h2 (by omega) (by omega) (by omega) (by omega) w
      rw [← e] at this
      exact this).mono ?_
    rintro e w' ⟨rfl, rfl⟩
    exact ⟨rfl, Below.refl _ _⟩

theorem Tryd.infoString : (Tryd.prog.info? 9).map (fun i => (i.zero, i.size, i.bytes)) = some (some (.string ⟨#[]⟩), 1, 16) := by kernel_rfl

set_option maxRecDepth 100000 in
theorem text_big {ah al : Int} (x : Int) (ha : IsL ah al x) (hm : 10000000000000000000 ≤ mg x) (w : World) (htab : Tab w) :
    Calls Tryd.prog 34 #[.agg #[.int .i64 ah, .int .u64 al]] w fun e w' =>
      e = .returned (.string ⟨(Lib.itoa (sv x)).toArray⟩) ∧ Below w.heap.size w w' := by
  have r := mg_range x
  obtain ⟨M, hM⟩ := Int.eq_ofNat_of_zero_le r.1
  obtain ⟨Q, hQ⟩ : ∃ Q : Nat, Q = M / 10000000000000000000 := ⟨_, rfl⟩
  obtain ⟨R, hR⟩ : ∃ R : Nat, R = M % 10000000000000000000 := ⟨_, rfl⟩
  have q1 : 1 ≤ Q := by omega
  have q2 : Q ≤ 17014118346046923173 := by omega
  have r2 : R < 10000000000000000000 := by omega
  obtain ⟨H, hH⟩ : ∃ H : Int, H = mg x / 18446744073709551616 := ⟨_, rfl⟩
  obtain ⟨L, hL⟩ : ∃ L : Int, L = mg x % 18446744073709551616 := ⟨_, rfl⟩
  have l1 : 0 ≤ H := by omega
  have l2 : H ≤ 9223372036854775808 := by omega
  have l3 : 0 ≤ L := by omega
  have l4 : L ≤ 18446744073709551615 := by omega
  have DV1 := Lib.hid (div_first H l1 (by omega))
  obtain ⟨q, hqQ⟩ : ∃ q : Int, q = (Q : Int) := ⟨_, rfl⟩
  have hq0 : 0 ≤ q := by omega
  have hq1 : q ≤ 17014118346046923173 := by omega
  have HQ := Lib.hid hqQ
  have DV2 := Lib.hid (div_next H L q R l1 (by omega) l3 l4 (by omega) (by omega))
  obtain ⟨D, hD⟩ : ∃ D, D = Lib.decDigits R := ⟨_, rfl⟩
  have hDl : D.length ≤ 19 := by rw [hD, Lib.decDigits_length]; exact nDigits_le 19 (by decide) (by simpa using r2)
  obtain ⟨Z, hZ⟩ : ∃ Z, Z = Lib.repeatL [48] (19 - D.length) := ⟨_, rfl⟩
  have hZl : Z.length ≤ 19 := by rw [hZ, Lib.repeatL_length]; simp
  have RP := Lib.hid (rep_zero D hDl)
  rw [← hZ] at RP
  have F1 := Lib.hid (fmtuint_any R (by omega))
  rw [← hD] at F1
  have hE : Lib.decDigits M = Lib.decDigits Q ++ (Z ++ D) := by
    rw [hZ, hD, Lib.decDigits_length, ← dec_piece Q R q1 r2]; congr 1; omega
  have HE := Lib.hid hE
  have HM := Lib.hid hM
  have SZ : ∀ W, Calls Tryd.prog 49 #[.agg #[.int .i64 ah, .int .u64 al]] W fun e w' =>
      e = .returned (.tuple #[.int .u64 H, .int .u64 L]) ∧ Below W.heap.size W w' := by rw [hH, hL]; exact size_any x ha
  have hgo : H ≠ 0 ∨ 10000000000000000000 ≤ L := by omega
  obtain ⟨i0, hI0, hz0, hz1, hz2⟩ := info_parts Tryd.infoString
  have hll : ¬ 9223372036854775807 < Z.length + D.length := by omega
  clear hH hL hM hE hZ hD hQ hR q1 q2 hqQ
  go_enter Tryd.func34, Tryd.ntmps34
  go_wp2_with fail
  refine (SZ _).mono ?_
  rintro e w1 ⟨rfl, hb⟩
  obtain ⟨hc, hf⟩ := bcell hb
  have hz := sz1 hb
  go_wp2_with fail
  go_loopw [3, 4, 5] (fun a b v wr => (a = .int .u64 H ∧ b = .int .u64 L ∧ v = .slice none 0 0 ∧ wr = w1) ∨ (a = .int .u64 0 ∧ b = .int .u64 q ∧ ∃ g cap, v = .slice (some ⟨g, 0, none⟩) 1 cap ∧ g < wr.heap.size ∧ wr.cell? ⟨g, 0, none⟩ = some (.string (⟨Z.toArray⟩ ++ ⟨D.toArray⟩)) ∧ Below (w.alloc (.cells #[.int .i64 ah, .int .u64 al] 31)).heap.size (w.alloc (.cells #[.int .i64 ah, .int .u64 al] 31)) wr)) (fun _ _ v _ => match v with | .slice none _ _ => 1 | _ => 0)
  case atStart => exact .inl ⟨rfl, rfl, rfl, rfl⟩
  case round =>
    rcases hrel with ⟨rfl, rfl, rfl, rfl⟩ | ⟨rfl, rfl, g, cap, rfl, hg1, hg2, hb2⟩
    · by_cases h0 : H = 0
      · subst h0
        have h1 : 10000000000000000000 ≤ L := by omega
        go_wp2_with (first
        | (go_at_call 50; (with_reducible refine (DV1.out _).mono ?_); rintro e w1 ⟨rfl, hn⟩; replace hb := chain hb hn; clear hn)
        | (go_at_call 50; (with_reducible refine (DV2.out _).mono ?_); rintro e w1 ⟨rfl, hn⟩; replace hb := chain hb hn; clear hn)
        | (go_at_call 51; (with_reducible refine (F1.out _ (htab.below (bl1 hb))).mono ?_); rintro e w1 ⟨rfl, hn⟩; replace hb := chain hb hn; clear hn)
        | (go_at_call 52; (with_reducible refine (RP.out _).mono ?_); rintro e w1 ⟨rfl, hn⟩; replace hb := chain hb hn; clear hn))
        go_roundw
        case rel => exact .inr ⟨rfl, rfl, _, _, rfl, by simp, by simp [go_sem, Array.getElem?_append], hb.trans (Below.mono (by first | exact bl2 (Below.refl _ _) | exact (bl2 (Below.refl _ _)).drew) hb.size)⟩
        case measure => simp
      · go_wp2_with (first
        | (go_at_call 50; (with_reducible refine (DV1.out _).mono ?_); rintro e w1 ⟨rfl, hn⟩; replace hb := chain hb hn; clear hn)
        | (go_at_call 50; (with_reducible refine (DV2.out _).mono ?_); rintro e w1 ⟨rfl, hn⟩; replace hb := chain hb hn; clear hn)
        | (go_at_call 51; (with_reducible refine (F1.out _ (htab.below (bl1 hb))).mono ?_); rintro e w1 ⟨rfl, hn⟩; replace hb := chain hb hn; clear hn)
        | (go_at_call 52; (with_reducible refine (RP.out _).mono ?_); rintro e w1 ⟨rfl, hn⟩; replace hb := chain hb hn; clear hn))
        go_roundw
        case rel => exact .inr ⟨rfl, rfl, _, _, rfl, by simp, by simp [go_sem, Array.getElem?_append], hb.trans (Below.mono (by first | exact bl2 (Below.refl _ _) | exact (bl2 (Below.refl _ _)).drew) hb.size)⟩
        case measure => simp
    · have hg3 := carry1 hg1 hg2
      have hc2 := bcell hb2
      by_cases hq : q < 10000000000000000000
      · have F2 := Lib.hid (fmtu_any q hq0 (by omega))
        obtain ⟨E, hE⟩ : ∃ E, E = Lib.decDigits q.toNat := ⟨_, rfl⟩
        rw [← hE] at F2
        have hE1 : Lib.decDigits Q = E := by rw [hE, HQ.out]; rfl
        rw [hE1] at HE
        have hEl : E.length ≤ 19 := by rw [hE, Lib.decDigits_length]; exact nDigits_le 19 (by decide) (by simp; omega)
        have hn1 : ¬ 9223372036854775807 < E.length + (Z.length + D.length) := by omega
        have hn2 : ¬ 9223372036854775807 < 1 + (E.length + (Z.length + D.length)) := by omega
        clear hE hE1
        go_wp2_with fail
        refine (F2.out _ (htab.below (bl1 hb2))).mono ?_
        rintro e w1 ⟨rfl, hn⟩
        replace hb2 := chain hb2 hn
        replace hg3 := hg3.mono hn
        have hg4 := hg3.1
        obtain ⟨hc, hf⟩ := bcell hb2
        clear hn hc2 hg1 hg2
        go_wp2_with fail
        go_loopw [13, 11] (fun a b wr => (a = .int .i64 0 ∧ b = .string ⟨E.toArray⟩ ∧ wr = w1) ∨ (a = .int .i64 (-1) ∧ b = .string (⟨E.toArray⟩ ++ (⟨Z.toArray⟩ ++ ⟨D.toArray⟩)) ∧ wr = w1)) (fun a _ _ => (intOf a + 1).toNat)
        case atStart => exact .inl ⟨rfl, rfl, rfl⟩
        case round =>
          rcases hrel with ⟨rfl, rfl, rfl⟩ | ⟨rfl, rfl, rfl⟩
          · go_wp2_with fail
            go_roundw
            case rel => exact .inr ⟨rfl, rfl, by trivial⟩
            case measure => simp [intOf]
          · obtain ⟨rfl, rfl⟩ := ha
            go_wp2_with fail
            · have h : hi x < 0 := by assumption
              go_ret
              exact ⟨by rw [itoa_neg' h, HM.out, Int.toNat_natCast, HE.out]; simp [ByteArray.mk_append_mk], bl1 hb2⟩
            · have h : 0 ≤ hi x := by assumption
              go_ret
              exact ⟨by rw [itoa_pos' h, HM.out, Int.toNat_natCast, HE.out]; simp [ByteArray.mk_append_mk], bl1 hb2⟩
      · have hqT : q / 10000000000000000000 = 1 := by omega
        have F2 := Lib.hid (fmtu_any (q % 10000000000000000000) (by omega) (by omega))
        have F0 := Lib.hid (fmtu_any q hq0 (by omega))
        have F3 := Lib.hid (fmtu_any (q / 10000000000000000000) (by omega) (by omega))
        obtain ⟨E, hE⟩ : ∃ E, E = Lib.decDigits (q / 10000000000000000000).toNat := ⟨_, rfl⟩
        obtain ⟨D2, hD2⟩ : ∃ E, E = Lib.decDigits (q % 10000000000000000000).toNat := ⟨_, rfl⟩
        rw [← hE] at F3
        rw [← hD2] at F2
        have hDl2 : D2.length ≤ 19 := by rw [hD2, Lib.decDigits_length]; exact nDigits_le 19 (by decide) (by simp; omega)
        obtain ⟨Z2, hZ2⟩ : ∃ Z, Z = Lib.repeatL [48] (19 - D2.length) := ⟨_, rfl⟩
        have hZl2 : Z2.length ≤ 19 := by rw [hZ2, Lib.repeatL_length]; simp
        have RP2 := Lib.hid (rep_zero D2 hDl2)
        rw [← hZ2] at RP2
        have hE1 : Lib.decDigits Q = E ++ (Z2 ++ D2) := by
          have hQ' := HQ.out
          rw [hE, hZ2, hD2, Lib.decDigits_length, ← dec_piece _ _ (by omega) (by omega)]; congr 1; omega
        rw [hE1] at HE
        have hEl : E.length ≤ 19 := by rw [hE, Lib.decDigits_length]; exact nDigits_le 19 (by decide) (by simp; omega)
        have hn0 : ¬ 9223372036854775807 < E.length + Z2.length := by omega
        have hn3 : ¬ 9223372036854775807 < E.length + Z2.length + D2.length := by omega
        have hn1 : ¬ 9223372036854775807 < E.length + Z2.length + D2.length + (Z.length + D.length) := by omega
        have hn2 : ¬ 9223372036854775807 < 1 + (E.length + Z2.length + D2.length + (Z.length + D.length)) := by omega
        have hd1 : decide (10000000000000000000 ≤ q) = true := by simp; omega
        clear hE hE1 hD2 hZ2 hqT
        go_wp2_with (first
          | (go_at_call 51; (with_reducible refine (F2.out _ (htab.below (bl1 hb2))).mono ?_); rintro e w1 ⟨rfl, hn⟩; replace hb2 := chain hb2 hn; replace hg3 := hg3.mono hn; have hg4 := hg3.1; obtain ⟨hc, hf⟩ := bcell hb2)
          | (go_at_call 51; (with_reducible refine (F0.out _ (htab.below (bl1 hb2))).mono ?_); rintro e w1 ⟨rfl, hn⟩; replace hb2 := chain hb2 hn; replace hg3 := hg3.mono hn; have hg4 := hg3.1; obtain ⟨hc, hf⟩ := bcell hb2)
          | (go_at_call 51; (with_reducible refine (F3.out _ (htab.below (bl1 hb2))).mono ?_); rintro e w1 ⟨rfl, hn⟩; replace hb2 := chain hb2 hn; replace hg3 := hg3.mono hn; have hg4 := hg3.1; obtain ⟨hc, hf⟩ := bcell hb2)
          | (go_at_call 52; (with_reducible refine (RP2.out _).mono ?_); rintro e w1 ⟨rfl, hn⟩; replace hb2 := chain hb2 hn; replace hg3 := hg3.mono hn; have hg4 := hg3.1; obtain ⟨hc, hf⟩ := bcell hb2))
        go_loopw [13, 11] (fun a b wr => (a = .int .i64 0 ∧ b = .string (⟨E.toArray⟩ ++ ⟨Z2.toArray⟩ ++ ⟨D2.toArray⟩) ∧ wr = w1) ∨ (a = .int .i64 (-1) ∧ b = .string ((⟨E.toArray⟩ ++ ⟨Z2.toArray⟩ ++ ⟨D2.toArray⟩) ++ (⟨Z.toArray⟩ ++ ⟨D.toArray⟩)) ∧ wr = w1)) (fun a _ _ => (intOf a + 1).toNat)
        case atStart => exact .inl ⟨rfl, rfl, rfl⟩
        case round =>
          rcases hrel with ⟨rfl, rfl, rfl⟩ | ⟨rfl, rfl, rfl⟩
          · go_wp2_with fail
            go_roundw
            case rel => exact .inr ⟨rfl, rfl, by trivial⟩
            case measure => simp [intOf]
          · obtain ⟨rfl, rfl⟩ := ha
            go_wp2_with fail
            · have h : hi x < 0 := by assumption
              go_ret
              exact ⟨by rw [itoa_neg' h, HM.out, Int.toNat_natCast, HE.out]; simp [ByteArray.mk_append_mk], bl1 hb2⟩
            · have h : 0 ≤ hi x := by assumption
              go_ret
              exact ⟨by rw [itoa_pos' h, HM.out, Int.toNat_natCast, HE.out]; simp [ByteArray.mk_append_mk], bl1 hb2⟩

theorem text_any {ah al : Int} (x : Int) (ha : IsL ah al x) (w : World) (htab : Tab w) :
    Calls Tryd.prog 34 #[.agg #[.int .i64 ah, .int .u64 al]] w fun e w' =>
      e = .returned (.string ⟨(Lib.itoa (sv x)).toArray⟩) ∧ Below w.heap.size w w' := by
  by_cases h : mg x < 10000000000000000000
  · exact text_small x ha h w htab
  · exact text_big x ha (by omega) w htab

end Go.Proofs.YtdcllcbhepajeaaDoor
