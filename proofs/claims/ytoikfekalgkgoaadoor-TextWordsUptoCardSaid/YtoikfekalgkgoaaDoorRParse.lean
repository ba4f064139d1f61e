/- The reference's Parse. -/
import Derived.Test.YtoikfekalgkgoaaDoorRText
import Derived.Test.YtoikfekalgkgoaaDoorParse
import Derived.Test.YtoikfekalgkgoaaDoorKin
namespace Go.Proofs.YtoikfekalgkgoaaDoor
open Go.RowKit Go.Proofs
set_option linter.unusedVariables false

def RParsed (s D : List UInt8) (e : Ending) : Prop :=
  (pok s D ∧ e = .returned (.tuple #[.agg #[.int .u64 (rhi (pz s D)), .int .u64 (lo (pz s D))], .bool true])) ∨ (¬ pok s D ∧ e = .returned (.tuple #[.agg #[.int .u64 0, .int .u64 0], .bool false]))

theorem trim_minus (t : List UInt8) : Lib.trimPrefix (45 :: t) [45] = t := by simp [Lib.trimPrefix, Lib.hasPrefix]
theorem trim_other {c : UInt8} (t : List UInt8) (h : c ≠ 45) : Lib.trimPrefix (c :: t) [45] = c :: t := by
  have h' : ¬ (45 : UInt8) = c := fun e => h e.symm
  simp [Lib.trimPrefix, Lib.hasPrefix, h']
theorem trim_len (s : List UInt8) : (Lib.trimPrefix s [45]).length ≤ s.length ∧ s.length ≤ (Lib.trimPrefix s [45]).length + 1 := by
  unfold Lib.trimPrefix
  split
  · simp; omega
  · omega
theorem itoa_len39 {s : List UInt8} (z : Int) (h : Lib.itoa (sv z) = s) : (Lib.trimPrefix s [45]).length ≤ 39 := by
  subst h
  have hr := mg_range z
  by_cases hz : hi z < 0
  · rw [itoa_neg' hz, trim_minus]; exact dec_len39 hr.1 hr.2
  · rw [itoa_pos' (by omega)]
    have := dec_len39 hr.1 hr.2
    have := (trim_len (Lib.decDigits (mg z).toNat)).1
    omega
theorem pok_of {s D : List UInt8} (hD : D = Lib.trimPrefix s [45]) (hd : ∀ c ∈ D, isDig c) (hi : Lib.itoa (sv (pz s D)) = s) : pok s D := ⟨by rw [hD]; exact itoa_len39 _ hi, hd, hi⟩
theorem not_pok_nil : ¬ pok [] [] := fun h => by
  have h1 := h.2.2
  have h2 : Lib.itoa (sv (pz [] [])) = [48] := by kernel_rfl
  rw [h2] at h1
  cases h1
theorem not_pok_long {s : List UInt8} (h : 40 < s.length) : ¬ pok s (Lib.trimPrefix s [45]) := fun hp => by
  have := hp.1
  have := (trim_len s).2
  omega

/-- the digits before the i-th sign, from the i0-th on -/
def seen (s : List UInt8) (i0 i : Nat) : List UInt8 := (s.take i).drop i0
theorem seen_step (s : List UInt8) (i0 i : Nat) (h0 : i0 ≤ i) (h : i < s.length) : seen s i0 (i + 1) = seen s i0 i ++ [s[i]] := by
  unfold seen
  rw [List.take_succ_eq_append_getElem h, List.drop_append_of_le_length (by simp; omega)]
theorem seen_val (s : List UInt8) (i0 i : Nat) (h0 : i0 ≤ i) (h : i < s.length) : dval (seen s i0 (i + 1)) = dval (seen s i0 i) * 10 + ((s[i].toNat : Int) - 48) := by
  rw [seen_step s i0 i h0 h, dval, List.foldl_append]
  rfl
theorem seen_dig (s : List UInt8) (i0 i : Nat) (h0 : i0 ≤ i) (h : i < s.length) (hd : ∀ c ∈ seen s i0 i, isDig c) (hc : isDig s[i]) : ∀ c ∈ seen s i0 (i + 1), isDig c := by
  rw [seen_step s i0 i h0 h]
  intro c hm
  rcases List.mem_append.1 hm with hm | hm
  · exact hd c hm
  · rw [List.mem_singleton.1 hm]; exact hc
theorem seen_not {s : List UInt8} {i0 i : Nat} (h0 : i0 ≤ i) (h : i < s.length) (hc : ¬ isDig s[i]) : ¬ pok s (s.drop i0) := fun hp => hc (hp.2.1 _ (by
  rw [List.mem_iff_getElem]
  exact ⟨i - i0, by simp; omega, by simp [show i0 + (i - i0) = i by omega]⟩))
theorem rparse_next {w w1 : World} {s : List UInt8} {i0 i : Nat} {d : Int} (hG : RCell w1 (w.heap.size + 1) (.int .u64 (rhi (dval (seen s i0 i)))) (.int .u64 (lo (dval (seen s i0 i))))) (hG0 : RCell w1 w.heap.size (.int .u64 0) (.int .u64 0))
    (hB : Below w.heap.size w w1) (hd : dval (seen s i0 (i + 1)) = dval (seen s i0 i) * 10 + d) (hg : ∀ c ∈ seen s i0 (i + 1), isDig c) (h0 : i0 ≤ i) (hk : i < s.length) :
    (∃ i_1 : Nat, Value.int .i64 ((i : Int) + 1) = .int .i64 i_1 ∧ i0 ≤ i_1 ∧ i_1 ≤ s.length ∧ (∀ c ∈ seen s i0 i_1, isDig c) ∧
      RCell ((w1.setCell ⟨w.heap.size + 1, 0, none⟩ (.int .u64 (rhi (dval (seen s i0 i) * 10 + d)))).setCell ⟨w.heap.size + 1, 1, none⟩ (.int .u64 (lo (dval (seen s i0 i) * 10 + d)))) (w.heap.size + 1) (.int .u64 (rhi (dval (seen s i0 i_1)))) (.int .u64 (lo (dval (seen s i0 i_1)))) ∧
      RCell ((w1.setCell ⟨w.heap.size + 1, 0, none⟩ (.int .u64 (rhi (dval (seen s i0 i) * 10 + d)))).setCell ⟨w.heap.size + 1, 1, none⟩ (.int .u64 (lo (dval (seen s i0 i) * 10 + d)))) w.heap.size (.int .u64 0) (.int .u64 0) ∧
      Below w.heap.size w ((w1.setCell ⟨w.heap.size + 1, 0, none⟩ (.int .u64 (rhi (dval (seen s i0 i) * 10 + d)))).setCell ⟨w.heap.size + 1, 1, none⟩ (.int .u64 (lo (dval (seen s i0 i) * 10 + d))))) ∧
    s.length - (intOf (.int .i64 ((i : Int) + 1))).toNat < s.length - (intOf (.int .i64 (i : Int))).toNat := by
  rw [← hd]
  exact ⟨⟨i + 1, rfl, by omega, hk, hg, rcell_set hG, rcell_far (rcell_far hG0 (by omega)) (by omega), (hB.setCell (by simp) _).setCell (by simp) _⟩, by simp [intOf]; omega⟩

set_option maxHeartbeats 4000000 in
theorem rparse_some (s D : List UInt8) (i0 : Nat) (b : Bool) (hs : 0 < s.length) (hl : s.length ≤ 40) (hi : i0 ≤ s.length) (hD : s.drop i0 = D) (hT : D = Lib.trimPrefix s [45])
    (hb : (((s[0]'hs).toNat : Int) == 45) = b) (hi0 : i0 = if b then 1 else 0) (w : World) :
    Calls Tryd.prog 29 #[.string ⟨s.toArray⟩] w fun e w' => RParsed s D e ∧ Below w.heap.size w w' := by
  obtain ⟨c, hc⟩ : ∃ c : Int, (((⟨s.toArray⟩ : ByteArray)[0]'(by simpa [ByteArray.size] using hs)).toNat : Int) = c := ⟨_, rfl⟩
  have hcb : (c == 45) = b := by rw [← hb, ← hc]; rfl
  have hl' : (s.length : Int) ≤ 40 := by omega
  have hn0 : ((s.length : Int) == 0) = false := by
    have : (s.length : Int) ≠ 0 := by omega
    simpa using this
  have hn1 : (0 : Int) < s.length := by omega
  have HT := Lib.hid hT
  have HD := Lib.hid hD
  have HI := Lib.hid hi0
  have HP : Hid (pz s D = if b then -dval D else dval D) := Lib.hid (by
    have hDl : D.length = s.length - i0 := by rw [← hD]; simp
    unfold pz
    cases b
    · rw [if_neg (by simp at hi0; omega)]; rfl
    · rw [if_pos (by simp at hi0; omega)]; rfl)
  clear hT hD hi0 hb
  cases b
  · have hi0 := HI.out
    simp only [Bool.false_eq_true, if_false] at hi0
    subst hi0
    simp only [Bool.false_eq_true, if_false] at HP
    go_enter Tryd.func29, Tryd.ntmps29
    go_wp2_with fail
    go_loopw [4] (fun a wr => ∃ i : Nat, a = .int .i64 i ∧ 0 ≤ i ∧ i ≤ s.length ∧ (∀ c ∈ seen s 0 i, isDig c) ∧ RCell wr (w.heap.size + 1) (.int .u64 (rhi (dval (seen s 0 i)))) (.int .u64 (lo (dval (seen s 0 i)))) ∧ RCell wr w.heap.size (.int .u64 0) (.int .u64 0) ∧ Below w.heap.size w wr) (fun a _ => s.length - (intOf a).toNat)
    case atStart => exact ⟨0, rfl, Nat.le_refl _, hi, by simp [seen], ⟨by simp [go_sem, seen]; rfl, by simp [go_sem, seen]; rfl, by simp [go_sem], by simp [go_sem], by simp⟩, ⟨by simp [go_sem], by simp [go_sem], by simp [go_sem], by simp [go_sem], by simp; omega⟩, bl2 (Below.refl _ _)⟩
    case round =>
      obtain ⟨k, rfl, hk0, hk, hdig, hG, hG0, hBwr⟩ := hrel
      unfold RCell at hG hG0
      by_cases ck : k < s.length
      · obtain ⟨cc, hcc⟩ : ∃ cc : Int, (((⟨s.toArray⟩ : ByteArray)[k]'(by simpa [ByteArray.size] using ck)).toNat : Int) = cc := ⟨_, rfl⟩
        have hcD : (s[k].toNat : Int) = cc := by rw [← hcc]; rfl
        have hc0 : 0 ≤ cc := by omega
        have hc255 : cc ≤ 255 := by have := s[k].toNat_lt; omega
        have HC := Lib.hid hcD
        have DG := Lib.hid hdig
        clear hcD hdig
        by_cases ca : cc < 48
        · go_wp2_with fail
          exact bodyPost_ret (v := .tuple #[.agg #[.int .u64 0, .int .u64 0], .bool false]) (by simp [results, Tryd.results29, go_sem, hG0]) rfl ⟨.inr ⟨by rw [← HD.out]; exact seen_not hk0 ck (by rw [isDig, HC.out]; omega), rfl⟩, (hBwr.setCell (by simp) _).setCell (by simp) _⟩
        · by_cases cb : 57 < cc
          · go_wp2_with fail
            exact bodyPost_ret (v := .tuple #[.agg #[.int .u64 0, .int .u64 0], .bool false]) (by simp [results, Tryd.results29, go_sem, hG0]) rfl ⟨.inr ⟨by rw [← HD.out]; exact seen_not hk0 ck (by rw [isDig, HC.out]; omega), rfl⟩, (hBwr.setCell (by simp) _).setCell (by simp) _⟩
          · go_wp2_with fail
            obtain ⟨d, hd⟩ : ∃ d, d = cc - 48 := ⟨_, rfl⟩
            have d0 : -9223372036854775808 ≤ d := by omega
            have d1 : d ≤ 9223372036854775807 := by omega
            have HDD := Lib.hid (show dval (seen s 0 (k + 1)) = dval (seen s 0 k) * 10 + d by rw [seen_val s 0 k hk0 ck, HC.out, hd])
            have HDG := Lib.hid (seen_dig s 0 k hk0 ck DG.out (by rw [isDig, HC.out]; omega))
            have hw1 : IntKind.u8.wrap (cc - 48) = d := by rw [IntKind.wrap_u8]; omega
            have hw2 : IntKind.i64.wrap d = d := by rw [IntKind.wrap_i64]; omega
            clear hd DG HC HP HD HI HT hcb hn0 hn1 hl hl' hc0 hc255 ca cb hk
            have KC := kin_cell wr
            refine wp_region_kin_tail 10 (by kernel_rfl) (by kernel_rfl) ?_
            simp only [List.take_succ_cons, List.take_zero]
            repeat (go_big_quiet_step (first
              | (go_at_call 38; with_reducible refine quiet_kin (rof_any 10 (by decide) (by decide) _))
              | (go_at_call 38; with_reducible refine quiet_kin (rof_any d d0 d1 _))
              | (go_at_call 37; with_reducible refine quiet_kin (rmul_any (dval (seen s 0 k)) 10 (isR _) (isR _) _))
              | (go_at_call 36; with_reducible refine quiet_kin (radd_any (dval (seen s 0 k) * 10) d (isR _) (isR _) _))))
            refine wpQuiet_nil ?_
            clear KC
            intro _ hu_
            obtain ⟨k_, hu_⟩ := hu_
            have hk := below_kin wr k_
            rw [← hu_] at hk
            clear hu_ k_
            rename World => u
            simp only [List.drop_succ_cons, List.drop_zero]
            replace hG := carry2 hG hk
            replace hG0 := carry2 hG0 hk
            replace hBwr := hBwr.trans (hk.mono hBwr.size)
            go_wp2_with fail
            exact rparse_next hG hG0 hBwr HDD.out HDG.out hk0 ck
      · have e : k = s.length := by omega
        subst e
        have eD : seen s 0 s.length = D := by rw [seen, List.take_length]; exact HD.out
        rw [eD] at hdig hG
        have DG := Lib.hid hdig
        clear hdig hk ck eD
        obtain ⟨z, hz⟩ : ∃ z, z = dval D := ⟨_, rfl⟩
        rw [← hz] at HP
        have HZ := Lib.hid hz
        by_cases cs : Lib.itoa (sv z) = s
        · have CS := Lib.hid cs
          rw [hz] at cs
          have HS := Lib.hid cs
          clear hz cs
          have TX := Lib.hid (fun W => rtext_any z (isR z) W)
          rw [CS.out] at TX
          rw [← HZ.out] at hG
          go_wp2_with (go_at_call 40; (with_reducible refine (TX.out _).mono ?_); rintro e w2 ⟨rfl, hn⟩; replace hG := carry2 hG hn; replace hG0 := carry2 hG0 hn; replace hBwr := hBwr.trans (hn.mono hBwr.size); clear hn)
          exact bodyPost_ret (v := .tuple #[.agg #[.int .u64 (rhi z), .int .u64 (lo z)], .bool true]) (by simp [results, Tryd.results29, go_sem, hG0]) rfl ⟨.inl ⟨pok_of HT.out DG.out (by rw [HP.out]; exact CS.out), by rw [HP.out]⟩, (hBwr.setCell (by simp) _).setCell (by simp) _⟩
        · have CS := Lib.hid cs
          have cb : (Lib.itoa (sv z) == s) = false := by simpa using cs
          clear cs hz
          have TX := Lib.hid (fun W => rtext_any z (isR z) W)
          rw [← HZ.out] at hG
          go_wp2_with (go_at_call 40; (with_reducible refine (TX.out _).mono ?_); rintro e w2 ⟨rfl, hn⟩; replace hG := carry2 hG hn; replace hG0 := carry2 hG0 hn; replace hBwr := hBwr.trans (hn.mono hBwr.size); clear hn)
          exact bodyPost_ret (v := .tuple #[.agg #[.int .u64 0, .int .u64 0], .bool false]) (by simp [results, Tryd.results29, go_sem, hG0]) rfl ⟨.inr ⟨fun hp => CS.out (by have := hp.2.2; rw [HP.out] at this; exact this), rfl⟩, (hBwr.setCell (by simp) _).setCell (by simp) _⟩
  · have hi0 := HI.out
    simp only [if_true] at hi0
    subst hi0
    simp only [if_true] at HP
    go_enter Tryd.func29, Tryd.ntmps29
    go_wp2_with fail
    go_loopw [4] (fun a wr => ∃ i : Nat, a = .int .i64 i ∧ 1 ≤ i ∧ i ≤ s.length ∧ (∀ c ∈ seen s 1 i, isDig c) ∧ RCell wr (w.heap.size + 1) (.int .u64 (rhi (dval (seen s 1 i)))) (.int .u64 (lo (dval (seen s 1 i)))) ∧ RCell wr w.heap.size (.int .u64 0) (.int .u64 0) ∧ Below w.heap.size w wr) (fun a _ => s.length - (intOf a).toNat)
    case atStart => exact ⟨1, rfl, Nat.le_refl _, hi, by simp [seen], ⟨by simp [go_sem, seen]; rfl, by simp [go_sem, seen]; rfl, by simp [go_sem], by simp [go_sem], by simp⟩, ⟨by simp [go_sem], by simp [go_sem], by simp [go_sem], by simp [go_sem], by simp; omega⟩, bl2 (Below.refl _ _)⟩
    case round =>
      obtain ⟨k, rfl, hk0, hk, hdig, hG, hG0, hBwr⟩ := hrel
      unfold RCell at hG hG0
      by_cases ck : k < s.length
      · obtain ⟨cc, hcc⟩ : ∃ cc : Int, (((⟨s.toArray⟩ : ByteArray)[k]'(by simpa [ByteArray.size] using ck)).toNat : Int) = cc := ⟨_, rfl⟩
        have hcD : (s[k].toNat : Int) = cc := by rw [← hcc]; rfl
        have hc0 : 0 ≤ cc := by omega
        have hc255 : cc ≤ 255 := by have := s[k].toNat_lt; omega
        have HC := Lib.hid hcD
        have DG := Lib.hid hdig
        clear hcD hdig
        by_cases ca : cc < 48
        · go_wp2_with fail
          exact bodyPost_ret (v := .tuple #[.agg #[.int .u64 0, .int .u64 0], .bool false]) (by simp [results, Tryd.results29, go_sem, hG0]) rfl ⟨.inr ⟨by rw [← HD.out]; exact seen_not hk0 ck (by rw [isDig, HC.out]; omega), rfl⟩, (hBwr.setCell (by simp) _).setCell (by simp) _⟩
        · by_cases cb : 57 < cc
          · go_wp2_with fail
            exact bodyPost_ret (v := .tuple #[.agg #[.int .u64 0, .int .u64 0], .bool false]) (by simp [results, Tryd.results29, go_sem, hG0]) rfl ⟨.inr ⟨by rw [← HD.out]; exact seen_not hk0 ck (by rw [isDig, HC.out]; omega), rfl⟩, (hBwr.setCell (by simp) _).setCell (by simp) _⟩
          · go_wp2_with fail
            obtain ⟨d, hd⟩ : ∃ d, d = cc - 48 := ⟨_, rfl⟩
            have d0 : -9223372036854775808 ≤ d := by omega
            have d1 : d ≤ 9223372036854775807 := by omega
            have HDD := Lib.hid (show dval (seen s 1 (k + 1)) = dval (seen s 1 k) * 10 + d by rw [seen_val s 1 k hk0 ck, HC.out, hd])
            have HDG := Lib.hid (seen_dig s 1 k hk0 ck DG.out (by rw [isDig, HC.out]; omega))
            have hw1 : IntKind.u8.wrap (cc - 48) = d := by rw [IntKind.wrap_u8]; omega
            have hw2 : IntKind.i64.wrap d = d := by rw [IntKind.wrap_i64]; omega
            clear hd DG HC HP HD HI HT hcb hn0 hn1 hl hl' hc0 hc255 ca cb hk
            have KC := kin_cell wr
            refine wp_region_kin_tail 10 (by kernel_rfl) (by kernel_rfl) ?_
            simp only [List.take_succ_cons, List.take_zero]
            repeat (go_big_quiet_step (first
              | (go_at_call 38; with_reducible refine quiet_kin (rof_any 10 (by decide) (by decide) _))
              | (go_at_call 38; with_reducible refine quiet_kin (rof_any d d0 d1 _))
              | (go_at_call 37; with_reducible refine quiet_kin (rmul_any (dval (seen s 1 k)) 10 (isR _) (isR _) _))
              | (go_at_call 36; with_reducible refine quiet_kin (radd_any (dval (seen s 1 k) * 10) d (isR _) (isR _) _))))
            refine wpQuiet_nil ?_
            clear KC
            intro _ hu_
            obtain ⟨k_, hu_⟩ := hu_
            have hk := below_kin wr k_
            rw [← hu_] at hk
            clear hu_ k_
            rename World => u
            simp only [List.drop_succ_cons, List.drop_zero]
            replace hG := carry2 hG hk
            replace hG0 := carry2 hG0 hk
            replace hBwr := hBwr.trans (hk.mono hBwr.size)
            go_wp2_with fail
            exact rparse_next hG hG0 hBwr HDD.out HDG.out hk0 ck
      · have e : k = s.length := by omega
        subst e
        have eD : seen s 1 s.length = D := by rw [seen, List.take_length]; exact HD.out
        rw [eD] at hdig hG
        have DG := Lib.hid hdig
        clear hdig hk ck eD
        obtain ⟨z, hz⟩ : ∃ z, z = -dval D := ⟨_, rfl⟩
        rw [← hz] at HP
        have HZ := Lib.hid hz
        by_cases cs : Lib.itoa (sv z) = s
        · have CS := Lib.hid cs
          rw [hz] at cs
          have HS := Lib.hid cs
          clear hz cs
          have TX := Lib.hid (fun W => rtext_any z (isR z) W)
          rw [CS.out] at TX
          have NG := Lib.hid (fun W => rneg_any (dval D) (isR _) W)
          rw [← HZ.out] at NG
          go_wp2_with (first
            | (go_at_call 39; (with_reducible refine (NG.out _).mono ?_); rintro e w1 ⟨rfl, hn⟩; replace hG := carry2 hG hn; replace hG0 := carry2 hG0 hn; replace hBwr := hBwr.trans (hn.mono hBwr.size); clear hn)
            | (go_at_call 40; (with_reducible refine (TX.out _).mono ?_); rintro e w2 ⟨rfl, hn⟩; replace hG := carry2 (rcell_set hG) hn; replace hG0 := carry2 (rcell_far (rcell_far hG0 (by omega)) (by omega)) hn; replace hBwr := ((hBwr.setCell (by simp) _).setCell (by simp) _).trans (hn.mono ((hBwr.setCell (by simp) _).setCell (by simp) _).size); clear hn))
          exact bodyPost_ret (v := .tuple #[.agg #[.int .u64 (rhi z), .int .u64 (lo z)], .bool true]) (by simp [results, Tryd.results29, go_sem, hG0]) rfl ⟨.inl ⟨pok_of HT.out DG.out (by rw [HP.out]; exact CS.out), by rw [HP.out]⟩, (hBwr.setCell (by simp) _).setCell (by simp) _⟩
        · have CS := Lib.hid cs
          have cb : (Lib.itoa (sv z) == s) = false := by simpa using cs
          clear cs hz
          have TX := Lib.hid (fun W => rtext_any z (isR z) W)
          have NG := Lib.hid (fun W => rneg_any (dval D) (isR _) W)
          rw [← HZ.out] at NG
          go_wp2_with (first
            | (go_at_call 39; (with_reducible refine (NG.out _).mono ?_); rintro e w1 ⟨rfl, hn⟩; replace hG := carry2 hG hn; replace hG0 := carry2 hG0 hn; replace hBwr := hBwr.trans (hn.mono hBwr.size); clear hn)
            | (go_at_call 40; (with_reducible refine (TX.out _).mono ?_); rintro e w2 ⟨rfl, hn⟩; replace hG := carry2 (rcell_set hG) hn; replace hG0 := carry2 (rcell_far (rcell_far hG0 (by omega)) (by omega)) hn; replace hBwr := ((hBwr.setCell (by simp) _).setCell (by simp) _).trans (hn.mono ((hBwr.setCell (by simp) _).setCell (by simp) _).size); clear hn))
          exact bodyPost_ret (v := .tuple #[.agg #[.int .u64 0, .int .u64 0], .bool false]) (by simp [results, Tryd.results29, go_sem, hG0]) rfl ⟨.inr ⟨fun hp => CS.out (by have := hp.2.2; rw [HP.out] at this; exact this), rfl⟩, (hBwr.setCell (by simp) _).setCell (by simp) _⟩

theorem rparse_walk (s : List UInt8) (w : World) :
    Calls Tryd.prog 29 #[.string ⟨s.toArray⟩] w fun e w' => RParsed s (Lib.trimPrefix s [45]) e ∧ Below w.heap.size w w' := by
  by_cases h1 : s.length ≤ 40
  · cases s with
    | nil =>
      go_enter Tryd.func29, Tryd.ntmps29
      go_wp2_with fail
      exact bodyPost_ret (v := .tuple #[.agg #[.int .u64 0, .int .u64 0], .bool false]) (by simp [results, Tryd.results29, go_sem]) rfl ⟨.inr ⟨not_pok_nil, rfl⟩, bl1 (Below.refl _ _)⟩
    | cons c t =>
      by_cases h45 : c = 45
      · subst h45
        rw [trim_minus]
        exact rparse_some (45 :: t) t 1 true (by simp) h1 (by simp) rfl (trim_minus t).symm rfl rfl w
      · rw [trim_other t h45]
        refine rparse_some (c :: t) (c :: t) 0 false (by simp) h1 (by simp) rfl (trim_other t h45).symm ?_ rfl w
        simp only [List.getElem_cons_zero, beq_eq_false_iff_ne]
        intro h
        exact h45 (UInt8.toNat_inj.1 (by rw [show (45 : UInt8).toNat = 45 from rfl]; omega))
  · have h2 : (40 : Int) < s.length := by omega
    have h3 : ((s.length : Int) == 0) = false := by
      have : (s.length : Int) ≠ 0 := by omega
      simpa using this
    have H := Lib.hid (not_pok_long (s := s) (by omega))
    clear h1
    go_enter Tryd.func29, Tryd.ntmps29
    go_wp2_with fail
    exact bodyPost_ret (v := .tuple #[.agg #[.int .u64 0, .int .u64 0], .bool false]) (by simp [results, Tryd.results29, go_sem]) rfl ⟨.inr ⟨H.out, rfl⟩, bl1 (Below.refl _ _)⟩

end Go.Proofs.YtoikfekalgkgoaaDoor
