/- The reference's Text. -/
import Derived.Test.YtoikfekalgkgoaaDoorTen
import Derived.Test.YtoikfekalgkgoaaDoorText2
namespace Go.Proofs.YtoikfekalgkgoaaDoor
open Go.RowKit Go.Proofs
set_option linter.unusedVariables false

/-- one byte as a string -/
theorem one_byte (d : Int) (d0 : 0 ≤ d) (d1 : d ≤ 9) (u : World) (o : Obj) :
    (convert 42 9 (.slice (some ⟨u.heap.size + 1, 0, none⟩) 1 1)).run Tryd.prog ((u.alloc o).alloc (.cells #[.int .u8 (48 + d)] 5)) = .ok (.string ⟨#[UInt8.ofNat (48 + d.toNat)]⟩) ((u.alloc o).alloc (.cells #[.int .u8 (48 + d)] 5)) := by
  have h := run_convert_bytes_back (P := Tryd.prog) ((u.alloc o).alloc (.cells #[.int .u8 (48 + d)] 5)) 42 9 5 ⟨u.heap.size + 1, 0, none⟩ 1 [UInt8.ofNat (48 + d.toNat)] Tryd.underlying42 Tryd.underlying5 Tryd.underlying9 (fun j hj => by
    have hj0 : j = 0 := by simpa using hj
    subst hj0
    have e : ((UInt8.ofNat (48 + d.toNat)).toNat : Int) = 48 + d := by
      simp; omega
    simp only [List.getElem_cons_zero]
    rw [e]
    simp [go_sem, Addr.add])
  exact h

theorem RCell.al {u : World} {g : Nat} {a b : Value} (h : RCell u g a b) (o : Obj) : RCell (u.alloc o) g a b := h.mono ((Below.refl _ _).alloc (Nat.le_refl _) _)
theorem dec_last {c q d : Int} (c0 : 0 ≤ c) (hq : q = c / 10) (hd : d = c % 10) (h : q = 0) : Lib.decDigits c.toNat = [UInt8.ofNat (48 + d.toNat)] := by
  rw [Lib.decDigits_one (by omega), show d.toNat = c.toNat by omega]
theorem dec_more {c q d : Int} (c0 : 0 ≤ c) (hq : q = c / 10) (hd : d = c % 10) (h : ¬ q = 0) : Lib.decDigits c.toNat = Lib.decDigits q.toNat ++ [UInt8.ofNat (48 + d.toNat)] := by
  rw [Lib.decDigits, dif_neg (by omega), show c.toNat / 10 = q.toNat by omega, show c.toNat % 10 = d.toNat by omega]
theorem dec_len39 {M : Int} (h0 : 0 ≤ M) (h : M ≤ 170141183460469231731687303715884105728) : (Lib.decDigits M.toNat).length ≤ 39 := by
  rw [Lib.decDigits_length]
  refine nDigits_le 39 (by decide) ?_
  have : (10 : Nat) ^ 39 = 1000000000000000000000000000000000000000 := by decide
  omega

theorem rt_next {w w1 w2 : World} {x M c q d : Int} {T : List UInt8} {ch : UInt8} {o1 o2 : Obj} (c0 : 0 ≤ c) (c1 : c ≤ 170141183460469231731687303715884105728) (m0 : 0 ≤ M) (m1 : M ≤ 170141183460469231731687303715884105728)
    (hq : q = c / 10) (hd : d = c % 10) (hch : ch = UInt8.ofNat (48 + d.toNat)) (hn : ¬ q = 0) (hE : Lib.decDigits M.toNat = Lib.decDigits c.toNat ++ T)
    (hG : RCell w2 w1.heap.size (.int .u64 (rhi c)) (.int .u64 (lo c))) (hX : RCell w2 w.heap.size (.int .u64 (rhi x)) (.int .u64 (lo x))) (hlt : w.heap.size < w1.heap.size) (hB : Below w.heap.size w w2) :
    ∃ (c' : Int) (T' : List UInt8), Value.string (⟨#[ch]⟩ ++ ⟨T.toArray⟩) = .string ⟨T'.toArray⟩ ∧ 0 ≤ c' ∧ c' ≤ 170141183460469231731687303715884105728 ∧ Lib.decDigits M.toNat = Lib.decDigits c'.toNat ++ T' ∧ T'.length ≤ 39 ∧
      RCell ((((w2.setCell ⟨w1.heap.size, 0, none⟩ (.int .u64 (rhi q))).setCell ⟨w1.heap.size, 1, none⟩ (.int .u64 (lo q))).alloc o1).alloc o2) w1.heap.size (.int .u64 (rhi c')) (.int .u64 (lo c')) ∧
      RCell ((((w2.setCell ⟨w1.heap.size, 0, none⟩ (.int .u64 (rhi q))).setCell ⟨w1.heap.size, 1, none⟩ (.int .u64 (lo q))).alloc o1).alloc o2) w.heap.size (.int .u64 (rhi x)) (.int .u64 (lo x)) ∧
      Below w.heap.size w ((((w2.setCell ⟨w1.heap.size, 0, none⟩ (.int .u64 (rhi q))).setCell ⟨w1.heap.size, 1, none⟩ (.int .u64 (lo q))).alloc o1).alloc o2) := by
  have e : Lib.decDigits M.toNat = Lib.decDigits q.toNat ++ (ch :: T) := by rw [hE, dec_more c0 hq hd hn, ← hch, List.append_assoc]; rfl
  have l := dec_len39 m0 m1
  rw [e, List.length_append] at l
  have hb := (hB.setCell (p := ⟨w1.heap.size, 0, none⟩) (Nat.le_of_lt hlt) (.int .u64 (rhi q))).setCell (p := ⟨w1.heap.size, 1, none⟩) (Nat.le_of_lt hlt) (.int .u64 (lo q))
  exact ⟨q, ch :: T, by simp [ByteArray.mk_append_mk], by omega, by omega, e, by omega, ((RCell.put2 hG).al _).al _, (((hX.far (by omega)).far (by omega)).al _).al _, (hb.alloc hb.size _).alloc (Nat.le_trans hb.size (by simp)) _⟩

set_option maxRecDepth 8000 in
set_option maxHeartbeats 2000000 in
theorem rtext_any {ah al : Int} (x : Int) (ha : IsR ah al x) (w : World) :
    Calls Tryd.prog 40 #[.agg #[.int .u64 ah, .int .u64 al]] w fun e w' =>
      e = .returned (.string ⟨(Lib.itoa (sv x)).toArray⟩) ∧ Below w.heap.size w w' := by
  obtain ⟨rfl, rfl⟩ := ha
  go_enter Tryd.func40, Tryd.ntmps40
  go_wp2_with fail
  refine (rsize_any x (isR _) _).mono ?_
  rintro e w1 ⟨rfl, hn⟩
  have hx : RCell w1 w.heap.size (.int .u64 (rhi x)) (.int .u64 (lo x)) := carry2 (rcell_new _ _ _ _) hn
  have hB := bl1 hn
  clear hn
  obtain ⟨M, hM⟩ : ∃ M, M = mg x := ⟨_, rfl⟩
  have r := mg_range x
  rw [← hM] at r ⊢
  have HM := Lib.hid hM
  clear hM
  go_wp2_with fail
  go_loopw [4] (fun s4 wr => ∃ (c : Int) (T : List UInt8), s4 = .string ⟨T.toArray⟩ ∧ 0 ≤ c ∧ c ≤ 170141183460469231731687303715884105728 ∧ Lib.decDigits M.toNat = Lib.decDigits c.toNat ++ T ∧ T.length ≤ 39 ∧
    RCell wr w1.heap.size (.int .u64 (rhi c)) (.int .u64 (lo c)) ∧ RCell wr w.heap.size (.int .u64 (rhi x)) (.int .u64 (lo x)) ∧ Below w.heap.size w wr) (fun s4 _ => match s4 with | .string b => 100 - b.size | _ => 0)
  case atStart =>
    exact ⟨M, [], rfl, r.1, r.2, by simp, by simp, rcell_new _ _ _ _, hx.mono ((Below.refl _ _).alloc (Nat.le_refl _) _), hB.alloc hB.size _⟩
  case round =>
    obtain ⟨c, T, rfl, c0, c1, hE, hT, hG, hX, hB2⟩ := hrel
    have HE := Lib.hid hE
    clear hE
    unfold RCell at hG hX
    have TN := Lib.hid (rten_any c c0 (by omega) (isR _))
    obtain ⟨q, hq⟩ : ∃ q, q = c / 10 := ⟨_, rfl⟩
    obtain ⟨d, hd⟩ : ∃ d, d = c % 10 := ⟨_, rfl⟩
    have d0 : 0 ≤ d := by omega
    have d1 : d ≤ 9 := by omega
    rw [← hq, ← hd] at TN
    have HQ := Lib.hid hq
    have HD := Lib.hid hd
    clear hq hd
    have hl : ¬ 9223372036854775807 < 1 + T.length := by omega
    have hcv := one_byte d d0 d1
    obtain ⟨ch, hch⟩ : ∃ ch, ch = UInt8.ofNat (48 + d.toNat) := ⟨_, rfl⟩
    rw [← hch] at hcv
    have HCH := Lib.hid hch
    clear hch
    have hne := Nat.ne_of_gt hx.2.2.2.2
    have hne' := Nat.ne_of_lt hx.2.2.2.2
    obtain ⟨G, hGe⟩ : ∃ G, G = sg (sv x) := ⟨_, rfl⟩
    have SG := Lib.hid (rsign_any x (isR _))
    rw [← hGe] at SG
    have HGE := Lib.hid hGe
    clear hGe
    by_cases cq : q = 0
    · have CQ := Lib.hid cq
      have r0 : rhi q = 0 := by rw [cq]; rfl
      have l0 : lo q = 0 := by rw [cq]; rfl
      clear cq
      go_wp2_with (go_at_call 51; (with_reducible refine (TN.out _).mono ?_); rintro e w2 ⟨rfl, hn⟩; (first | replace hG := carry2 hG hn | replace hG := carry2a hG hn); (first | replace hX := carry2 hX hn | replace hX := carry2a hX hn); (first | replace hB2 := hB2.trans (hn.mono hB2.size) | replace hB2 := hB2.trans ((bl1 hn).mono hB2.size)); clear hn)
      refine (SG.out _).mono ?_
      rintro e w3 ⟨rfl, hn⟩
      have hBs := (hB2.setCell (p := ⟨w1.heap.size, 0, none⟩) (by simpa using Nat.le_of_lt hx.2.2.2.2) (.int .u64 0)).setCell (p := ⟨w1.heap.size, 1, none⟩) (by simpa using Nat.le_of_lt hx.2.2.2.2) (.int .u64 0)
      have hBf : Below w.heap.size w w3 := hBs.trans ((bl2 hn).mono hBs.size)
      clear hBs hn
      by_cases cx : G < 0
      · have hx0 : hi x < 0 := by
          by_cases h : hi x < 0
          · exact h
          · exfalso
            have e := HGE.out
            have := sv_eq x
            have := lo_range x
            unfold sg cmp3 at e
            rw [if_neg (by omega)] at e
            split at e <;> omega
        have HH := Lib.hid hx0
        clear hx0
        go_wp2_with fail
        go_ret
        exact ⟨by rw [itoa_neg' HH.out, ← HM.out, HE.out, dec_last c0 HQ.out HD.out CQ.out, ← HCH.out]; simp [ByteArray.mk_append_mk], hBf⟩
      · have hx0 : ¬ hi x < 0 := fun h => cx (by have := sg_neg h; rw [← HGE.out] at this; omega)
        have HH := Lib.hid (show 0 ≤ hi x by omega)
        clear hx0
        go_wp2_with fail
        go_ret
        exact ⟨by rw [itoa_pos' HH.out, ← HM.out, HE.out, dec_last c0 HQ.out HD.out CQ.out, ← HCH.out]; simp [ByteArray.mk_append_mk], hBf⟩
    · have qn : (rhi q == 0 && lo q == 0) = false := by
        have := HQ.out
        simp only [Bool.and_eq_false_iff, beq_eq_false_iff_ne]
        unfold rhi lo; omega
      have QN := Lib.hid (show ¬ (rhi q = 0 ∧ lo q = 0) by
        have := HQ.out
        unfold rhi lo; omega)
      have CQ := Lib.hid cq
      clear cq
      go_wp2_with (go_at_call 51; (with_reducible refine (TN.out _).mono ?_); rintro e w2 ⟨rfl, hn⟩; (first | replace hG := carry2 hG hn | replace hG := carry2a hG hn); (first | replace hX := carry2 hX hn | replace hX := carry2a hX hn); (first | replace hB2 := hB2.trans (hn.mono hB2.size) | replace hB2 := hB2.trans ((bl1 hn).mono hB2.size)); clear hn)
      · exact absurd ⟨‹rhi q = 0›, ‹lo q = 0›⟩ QN.out
      · have nx := rt_next (o1 := .cells #[.int .u64 (rhi q), .int .u64 (lo q)] 57) (o2 := .cells #[.int .u8 (48 + d)] 5) c0 c1 r.1 r.2 HQ.out HD.out HCH.out CQ.out HE.out hG hX hx.2.2.2.2 hB2
        rw [show rhi q = 0 from ‹_›] at nx
        exact ⟨nx, by simp [ByteArray.size]; omega⟩
      · have nx := rt_next (o1 := .cells #[.int .u64 (rhi q), .int .u64 (lo q)] 57) (o2 := .cells #[.int .u8 (48 + d)] 5) c0 c1 r.1 r.2 HQ.out HD.out HCH.out CQ.out HE.out hG hX hx.2.2.2.2 hB2
        skip
        exact ⟨nx, by simp [ByteArray.size]; omega⟩

end Go.Proofs.YtoikfekalgkgoaaDoor
