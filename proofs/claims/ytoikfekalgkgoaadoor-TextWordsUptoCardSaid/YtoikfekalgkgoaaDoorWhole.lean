/- The reference's Whole and Point. -/
import Derived.Test.YtoikfekalgkgoaaDoorPnt
import Derived.Test.YtoikfekalgkgoaaDoorRText
namespace Go.Proofs.YtoikfekalgkgoaaDoor
open Go.RowKit Go.Proofs
set_option linter.unusedVariables false

theorem dec_len19 {M : Int} (h0 : 0 ≤ M) (h : M ≤ 9223372036854775807) : (Lib.decDigits M.toNat).length ≤ 19 := by
  rw [Lib.decDigits_length]
  refine nDigits_le 19 (by decide) ?_
  have : (10 : Nat) ^ 19 = 10000000000000000000 := by decide
  omega

/-- one byte as a string -/
theorem one_byte1 (d : Int) (d0 : 0 ≤ d) (d1 : d ≤ 9) (u : World) :
    (convert 42 9 (.slice (some ⟨u.heap.size, 0, none⟩) 1 1)).run Tryd.prog (u.alloc (.cells #[.int .u8 (48 + d)] 5)) = .ok (.string ⟨#[UInt8.ofNat (48 + d.toNat)]⟩) (u.alloc (.cells #[.int .u8 (48 + d)] 5)) := by
  have h := run_convert_bytes_back (P := Tryd.prog) (u.alloc (.cells #[.int .u8 (48 + d)] 5)) 42 9 5 ⟨u.heap.size, 0, none⟩ 1 [UInt8.ofNat (48 + d.toNat)] Tryd.underlying42 Tryd.underlying5 Tryd.underlying9 (fun j hj => by
    have hj0 : j = 0 := by simpa using hj
    subst hj0
    have e : ((UInt8.ofNat (48 + d.toNat)).toNat : Int) = 48 + d := by
      simp; omega
    simp only [List.getElem_cons_zero]
    rw [e]
    simp [go_sem, Addr.add])
  exact h

set_option maxRecDepth 8000 in
set_option maxHeartbeats 2000000 in
theorem whole_pos (n : Int) (n0 : 0 ≤ n) (n1 : n ≤ 9223372036854775807) (w : World) :
    Calls Tryd.prog 22 #[.int .i64 n] w fun e w' => e = .returned (.string ⟨(Lib.decDigits n.toNat).toArray⟩) ∧ Below w.heap.size w w' := by
  have L19 := Lib.hid (dec_len19 n0 n1)
  go_enter Tryd.func22, Tryd.ntmps22
  go_wp2_with fail
  go_loopw [0, 3] (fun a b wr => ∃ (c : Int) (T : List UInt8), a = .int .i64 c ∧ b = .string ⟨T.toArray⟩ ∧ 0 ≤ c ∧ c ≤ 9223372036854775807 ∧ Hid (Lib.decDigits n.toNat = Lib.decDigits c.toNat ++ T) ∧ T.length ≤ 19 ∧ Below w.heap.size w wr) (fun a _ _ => (intOf a).toNat)
  case atStart => exact ⟨n, [], rfl, rfl, n0, n1, Lib.hid (by simp), by simp, Below.refl _ _⟩
  case round =>
    obtain ⟨c, T, rfl, rfl, c0, c1, HE, hT, hB⟩ := hrel
    obtain ⟨q, hq⟩ : ∃ q, q = c / 10 := ⟨_, rfl⟩
    obtain ⟨d, hd⟩ : ∃ d, d = c % 10 := ⟨_, rfl⟩
    have d0 : 0 ≤ d := by omega
    have d1 : d ≤ 9 := by omega
    have q0 : 0 ≤ q := by omega
    have q1 : q ≤ 9223372036854775807 := by omega
    have hqc : 9 < c → q < c := by omega
    have HQC := Lib.hid hqc
    have tq : c.tdiv 10 = q := by rw [hq]; exact Int.tdiv_eq_ediv_of_nonneg c0
    have td : c.tmod 10 = d := by rw [hd]; exact Int.tmod_eq_emod_of_nonneg c0
    have HQ := Lib.hid hq
    have HD := Lib.hid hd
    have HB := Lib.hid hB
    clear hq hd hqc hB
    have hl : ¬ 9223372036854775807 < 1 + T.length := by omega
    have hcv := one_byte1 d d0 d1
    obtain ⟨ch, hch⟩ : ∃ ch, ch = UInt8.ofNat (48 + d.toNat) := ⟨_, rfl⟩
    rw [← hch] at hcv
    have HCH := Lib.hid hch
    clear hch
    by_cases h9 : 9 < c
    · go_wp2_with fail
      go_roundw
      case rel =>
        have e : Lib.decDigits n.toNat = Lib.decDigits q.toNat ++ (ch :: T) := by rw [HE.out, dec_more c0 HQ.out HD.out (by have := HQ.out; omega), ← HCH.out, List.append_assoc]; rfl
        have l := L19.out
        rw [e, List.length_append] at l
        exact ⟨q, ch :: T, rfl, by simp [ByteArray.mk_append_mk], q0, q1, Lib.hid e, by omega, HB.out.alloc HB.out.size _⟩
      case measure => have := HQC.out h9; simp [intOf]; omega
    · obtain rfl : c = d := by have := HD.out; omega
      go_wp2_with fail
      go_ret
      exact ⟨by rw [HE.out, dec_last c0 HQ.out HD.out (by have := HQ.out; omega), ← HCH.out]; simp [ByteArray.mk_append_mk], HB.out.alloc HB.out.size _⟩

theorem itoa_pos {n : Int} (h : 0 ≤ n) : Lib.itoa n = Lib.decDigits n.toNat := by unfold Lib.itoa; rw [if_neg (by omega)]
theorem itoa_negd {n : Int} (h : n < 0) : Lib.itoa n = 45 :: Lib.decDigits (-n).toNat := by
  unfold Lib.itoa
  rw [if_pos h, show n.natAbs = (-n).toNat by omega]
theorem itoa_min : Lib.itoa (-9223372036854775808) = [45, 57, 50, 50, 51, 51, 55, 50, 48, 51, 54, 56, 53, 52, 55, 55, 53, 56, 48, 56] := by
  rw [itoa_negd (by decide)]
  rw [show (-(-9223372036854775808 : Int)).toNat = 9223372036854775808 from rfl]
  simp [Ti.dec_big, Ti.dec_small]

set_option maxRecDepth 8000 in
set_option maxHeartbeats 2000000 in
theorem whole_any (n : Int) (hn : Ti.inI n) (w : World) :
    Calls Tryd.prog 22 #[.int .i64 n] w fun e w' => e = .returned (.string ⟨(Lib.itoa n).toArray⟩) ∧ Below w.heap.size w w' := by
  obtain ⟨n0, n1⟩ := hn
  by_cases hneg : n < 0
  · by_cases hmin : n = -9223372036854775808
    · subst hmin
      rw [itoa_min]
      have hwr : ((-9223372036854775808 : Int) == wrap64 9223372036854775808) = true := by
        have e : wrap64 9223372036854775808 = -9223372036854775808 := by first | rfl | (unfold wrap64; decide) | simp [wrap64] | (simp [wrap64, IntKind.wrap]; done)
        rw [e]; rfl
      go_enter Tryd.func22, Tryd.ntmps22
      go_wp2_with fail
      go_ret
      exact ⟨rfl, Below.refl _ _⟩
    · have WP := Lib.hid (fun W => whole_pos (-n) (by omega) (by omega) W)
      have L19 := dec_len19 (M := -n) (by omega) (by omega)
      have hne : (n == -n) = false := by
        have : n ≠ -n := by omega
        simpa using this
      rw [itoa_negd hneg]
      generalize Lib.decDigits (-n).toNat = D at *
      have n0' : -9223372036854775807 ≤ n := by omega
      clear hmin
      go_enter Tryd.func22, Tryd.ntmps22
      go_wp2_with fail
      refine (WP.out _).mono ?_
      rintro e w1 ⟨rfl, hb⟩
      go_wp2_with fail
      go_ret
      exact ⟨by simp [ByteArray.mk_append_mk], hb⟩
  · rw [itoa_pos (by omega)]
    exact whole_pos n (by omega) n1 w

set_option maxHeartbeats 1000000 in
theorem rpoint_any (x y z : Int) (hx : Ti.inI x) (hy : Ti.inI y) (hz : Ti.inI z) (w : World) :
    Calls Tryd.prog 11 #[.agg #[.int .i64 x, .int .i64 y, .int .i64 z]] w fun e w' => e = .returned (Tx.str (Tx.pt x y z)) ∧ Below w.heap.size w w' := by
  go_enter Tryd.func11, Tryd.ntmps11
  go_upto_region 1 with fail
  have c0 : (w.alloc (.cells #[.int .i64 x, .int .i64 y, .int .i64 z] 24)).cell? ⟨w.heap.size, 0, none⟩ = some (.int .i64 x) := by simp [go_sem]
  have c1 : (w.alloc (.cells #[.int .i64 x, .int .i64 y, .int .i64 z] 24)).cell? ⟨w.heap.size, 1, none⟩ = some (.int .i64 y) := by simp [go_sem]
  have c2 : (w.alloc (.cells #[.int .i64 x, .int .i64 y, .int .i64 z] 24)).cell? ⟨w.heap.size, 2, none⟩ = some (.int .i64 z) := by simp [go_sem]
  have hB : Below w.heap.size w (w.alloc (.cells #[.int .i64 x, .int .i64 y, .int .i64 z] 24)) := (Below.refl _ _).alloc (Nat.le_refl _) _
  have hlt : w.heap.size < (w.alloc (.cells #[.int .i64 x, .int .i64 y, .int .i64 z] 24)).heap.size := by simp
  generalize w.alloc (.cells #[.int .i64 x, .int .i64 y, .int .i64 z] 24) = W at *
  have HB := Lib.hid hB
  clear hB
  have lx := Lib.itoa_length_le x hx.1 hx.2
  have ly := Lib.itoa_length_le y hy.1 hy.2
  have lz := Lib.itoa_length_le z hz.1 hz.2
  have KC := kin_cell W
  refine wp_region_kin_flat (by kernel_rfl) (by kernel_rfl) (by kernel_rfl) ?_
  repeat (go_big_quiet_step (first
    | (go_at_call 22; with_reducible refine quiet_kin (whole_any x hx _))
    | (go_at_call 22; with_reducible refine quiet_kin (whole_any y hy _))
    | (go_at_call 22; with_reducible refine quiet_kin (whole_any z hz _))))
  refine wpQuiet_nil ?_
  clear KC
  intro _ hu_
  obtain ⟨k_, hu_⟩ := hu_
  have hk := below_kin W k_
  rw [← hu_] at hk
  clear hu_ k_
  rename World => U
  go_wp2_with fail
  go_ret
  exact ⟨congrArg Ending.returned (pt_cat x y z), HB.out.trans (hk.mono HB.out.size)⟩
end Go.Proofs.YtoikfekalgkgoaaDoor
