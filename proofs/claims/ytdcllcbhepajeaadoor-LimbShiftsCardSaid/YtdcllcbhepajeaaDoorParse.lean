/- Package limb's Parse: the walk. -/
import Derived.Test.YtdcllcbhepajeaaDoorText2
import Derived.Deep.RegionHeld3
namespace Go.Proofs.YtdcllcbhepajeaaDoor
open Go.RowKit Go.Proofs
set_option linter.unusedVariables false

/-- what the digits say -/
def dval : List UInt8 → Int := List.foldl (fun z c => z * 10 + ((c.toNat : Int) - 48)) 0
def isDig (c : UInt8) : Prop := 48 ≤ (c.toNat : Int) ∧ (c.toNat : Int) ≤ 57


/-- the number that a text says, if its digits are D -/
def pz (s D : List UInt8) : Int := if D.length < s.length then -dval D else dval D
def pok (s D : List UInt8) : Prop := D.length ≤ 39 ∧ (∀ c ∈ D, isDig c) ∧ Lib.itoa (sv (pz s D)) = s
def Parsed (s D : List UInt8) (e : Ending) : Prop :=
  (pok s D ∧ e = .returned (.tuple #[.agg #[.int .i64 (hi (pz s D)), .int .u64 (lo (pz s D))], .int .i64 0])) ∨ (¬ pok s D ∧ e = .returned (.tuple #[.agg #[.int .i64 0, .int .u64 0], .int .i64 10]))

theorem dval_snoc (D : List UInt8) (k : Nat) (h : k < D.length) : dval (D.take (k + 1)) = dval (D.take k) * 10 + ((D[k].toNat : Int) - 48) := by
  unfold dval
  rw [List.take_succ_eq_append_getElem h, List.foldl_append]
  rfl
theorem dig_snoc (D : List UInt8) (k : Nat) (h : k < D.length) (hd : ∀ c ∈ D.take k, isDig c) (hc : isDig D[k]) : ∀ c ∈ D.take (k + 1), isDig c := by
  rw [List.take_succ_eq_append_getElem h]
  intro c hm
  rcases List.mem_append.1 hm with hm | hm
  · exact hd c hm
  · rw [List.mem_singleton.1 hm]; exact hc

theorem not_pok {s D : List UInt8} (k : Nat) (h : k < D.length) (hc : ¬ isDig D[k]) : ¬ pok s D := fun hp => hc (hp.2.1 _ (List.getElem_mem h))

theorem rcell_set {w1 : World} {g : Nat} {a b a' b' : Value} (h : RCell w1 g a b) : RCell ((w1.setCell ⟨g, 0, none⟩ a').setCell ⟨g, 1, none⟩ b') g a' b' := by
  obtain ⟨h0, h1, h2, h3, h4⟩ := h
  exact ⟨by simp [go_sem, h0], by simp [go_sem, h1], by simp [go_sem, h2], by simp [go_sem, h3], by simpa using h4⟩
set_option linter.unusedSimpArgs false in
theorem rcell_far {w1 : World} {g r o : Nat} {a b v : Value} (h : RCell w1 g a b) (hne : r ≠ g) : RCell (w1.setCell ⟨r, o, none⟩ v) g a b := by
  obtain ⟨h0, h1, h2, h3, h4⟩ := h
  exact ⟨by simp [go_sem, h0, hne], by simp [go_sem, h1, hne], by simp [go_sem, h2], by simp [go_sem, h3], by simpa using h4⟩
theorem parse_next {w w1 : World} {D : List UInt8} {k : Nat} {d : Int} (hG : RCell w1 (w.heap.size + 1) (.int .i64 (hi (dval (D.take k)))) (.int .u64 (lo (dval (D.take k))))) (hG0 : RCell w1 w.heap.size (.int .i64 0) (.int .u64 0))
    (hB : Below w.heap.size w w1) (hd : dval (D.take (k + 1)) = dval (D.take k) * 10 + d) (hg : ∀ c ∈ D.take (k + 1), isDig c) (hk : k < D.length) :
    (∃ k_1 : Nat, Value.int .i64 ((k : Int) + 1) = .int .i64 k_1 ∧ k_1 ≤ D.length ∧ (∀ c ∈ D.take k_1, isDig c) ∧
      RCell ((w1.setCell ⟨w.heap.size + 1, 0, none⟩ (.int .i64 (hi (dval (D.take k) * 10 + d)))).setCell ⟨w.heap.size + 1, 1, none⟩ (.int .u64 (lo (dval (D.take k) * 10 + d)))) (w.heap.size + 1) (.int .i64 (hi (dval (D.take k_1)))) (.int .u64 (lo (dval (D.take k_1)))) ∧
      RCell ((w1.setCell ⟨w.heap.size + 1, 0, none⟩ (.int .i64 (hi (dval (D.take k) * 10 + d)))).setCell ⟨w.heap.size + 1, 1, none⟩ (.int .u64 (lo (dval (D.take k) * 10 + d)))) w.heap.size (.int .i64 0) (.int .u64 0) ∧
      Below w.heap.size w ((w1.setCell ⟨w.heap.size + 1, 0, none⟩ (.int .i64 (hi (dval (D.take k) * 10 + d)))).setCell ⟨w.heap.size + 1, 1, none⟩ (.int .u64 (lo (dval (D.take k) * 10 + d))))) ∧
    D.length - (intOf (.int .i64 ((k : Int) + 1))).toNat < D.length - (intOf (.int .i64 (k : Int))).toNat := by
  rw [← hd]
  exact ⟨⟨k + 1, rfl, hk, hg, rcell_set hG, rcell_far (rcell_far hG0 (by omega)) (by omega), (hB.setCell (by simp) _).setCell (by simp) _⟩, by simp [intOf]; omega⟩

set_option maxHeartbeats 16000000 in
theorem parse_walk (s : List UInt8) (w : World) (htab : Tab w) :
    Calls Tryd.prog 32 #[.string ⟨s.toArray⟩] w fun e w' =>
      Parsed s (Lib.trimPrefix s [45]) e ∧ Below w.heap.size w w' := by
  obtain ⟨D, hD⟩ : ∃ D, D = Lib.trimPrefix s [45] := ⟨_, rfl⟩
  have TP := Lib.hid (fun W => Tryd.strings_TrimPrefix ⟨s.toArray⟩ ⟨#[45]⟩ W)
  simp only [← hD] at TP
  rw [← hD]
  clear hD
  by_cases c1 : D.length ≤ 39
  · have c1i : (D.length : Int) ≤ 39 := by omega
    have C1 := Lib.hid c1
    go_enter Tryd.func32, Tryd.ntmps32
    go_wp2_with fail
    refine (TP.out _).mono ?_
    rintro e w1 ⟨rfl, rfl⟩
    go_wp2_with fail
    go_loopw [15] (fun a wr => ∃ k : Nat, a = .int .i64 k ∧ k ≤ D.length ∧ (∀ c ∈ D.take k, isDig c) ∧ RCell wr (w.heap.size + 1) (.int .i64 (hi (dval (D.take k)))) (.int .u64 (lo (dval (D.take k)))) ∧ RCell wr w.heap.size (.int .i64 0) (.int .u64 0) ∧ Below w.heap.size w wr) (fun a _ => D.length - (intOf a).toNat)
    case atStart => exact ⟨0, rfl, Nat.zero_le _, by simp, ⟨by simp [go_sem]; rfl, by simp [go_sem]; rfl, by simp [go_sem], by simp [go_sem], by simp⟩, ⟨by simp [go_sem], by simp [go_sem], by simp [go_sem], by simp [go_sem], by simp; omega⟩, bl2 (Below.refl _ _)⟩
    case round =>
      obtain ⟨k, rfl, hk, hdig, hG, hG0, hBwr⟩ := hrel
      unfold RCell at hG hG0
      by_cases ck : k < D.length
      · obtain ⟨cc, hcc⟩ : ∃ cc : Int, (((⟨D.toArray⟩ : ByteArray)[k]'(by simpa [ByteArray.size] using ck)).toNat : Int) = cc := ⟨_, rfl⟩
        have hcD : (D[k].toNat : Int) = cc := by rw [← hcc]; rfl
        have hc0 : 0 ≤ cc := by omega
        have hc255 : cc ≤ 255 := by have := D[k].toNat_lt; omega
        have HC := Lib.hid hcD
        have DG := Lib.hid hdig
        clear hcD hdig
        by_cases ca : cc < 48
        · go_wp2_with fail
          exact bodyPost_ret (v := .tuple #[.agg #[.int .i64 0, .int .u64 0], .int .i64 10]) (by simp [results, Tryd.results32, go_sem, hG0]) rfl ⟨.inr ⟨not_pok k ck (by rw [isDig, HC.out]; omega), rfl⟩, (hBwr.setCell (by simp) _).setCell (by simp) _⟩
        · by_cases cb : 57 < cc
          · go_wp2_with fail
            exact bodyPost_ret (v := .tuple #[.agg #[.int .i64 0, .int .u64 0], .int .i64 10]) (by simp [results, Tryd.results32, go_sem, hG0]) rfl ⟨.inr ⟨not_pok k ck (by rw [isDig, HC.out]; omega), rfl⟩, (hBwr.setCell (by simp) _).setCell (by simp) _⟩
          · go_wp2_with fail
            obtain ⟨d, hd⟩ : ∃ d, d = cc - 48 := ⟨_, rfl⟩
            have d0 : -9223372036854775808 ≤ d := by omega
            have d1 : d ≤ 9223372036854775807 := by omega
            have HDD := Lib.hid (show dval (D.take (k + 1)) = dval (D.take k) * 10 + d by rw [dval_snoc D k ck, HC.out, hd])
            have HDG := Lib.hid (dig_snoc D k ck DG.out (by rw [isDig, HC.out]; omega))
            have hw1 : IntKind.u8.wrap (cc - 48) = d := by rw [IntKind.wrap_u8]; omega
            have hw2 : IntKind.i64.wrap d = d := by rw [IntKind.wrap_i64]; omega
            clear hd TP htab C1 DG HC c1 c1i hc0 hc255 ca cb hk
            go_region_with (first
              | (go_at_call 17; (with_reducible refine (of_any 10 (by decide) (by decide) _).mono ?_); rintro e w1 ⟨rfl, hn⟩; (first | replace hG := carry2 hG hn | replace hG := carry2 hG (undrew hn)); (first | replace hG0 := carry2 hG0 hn | replace hG0 := carry2 hG0 (undrew hn)); (first | replace hBwr := hBwr.trans (hn.mono hBwr.size) | replace hBwr := hBwr.trans ((undrew hn).mono hBwr.size)); clear hn)
              | (go_at_call 17; (with_reducible refine (of_any d d0 d1 _).mono ?_); rintro e w1 ⟨rfl, hn⟩; (first | replace hG := carry2 hG hn | replace hG := carry2 hG (undrew hn)); (first | replace hG0 := carry2 hG0 hn | replace hG0 := carry2 hG0 (undrew hn)); (first | replace hBwr := hBwr.trans (hn.mono hBwr.size) | replace hBwr := hBwr.trans ((undrew hn).mono hBwr.size)); clear hn)
              | (go_at_call 37; (with_reducible refine (mul_any (dval (D.take k)) 10 (isL _) (isL _) _).mono ?_); rintro e w1 ⟨rfl, hn⟩; replace hG := carry2 hG hn; replace hG0 := carry2 hG0 hn; replace hBwr := hBwr.trans (hn.mono hBwr.size); clear hn)
              | (go_at_call 19; (with_reducible refine (add_any (dval (D.take k) * 10) d (isL _) (isL _) _).mono ?_); rintro e w1 ⟨rfl, hn⟩; replace hG := carry2 hG hn; replace hG0 := carry2 hG0 hn; replace hBwr := hBwr.trans (hn.mono hBwr.size); clear hn))
            all_goals go_wp2_with fail
            all_goals exact parse_next hG hG0 hBwr HDD.out HDG.out ck
      · have e : k = D.length := by omega
        subst e
        rw [List.take_length] at hdig hG
        have DG := Lib.hid hdig
        clear hdig hk c1 ck
        by_cases cn : D.length < s.length
        · skip
          have HP := Lib.hid (show pz s D = -dval D by rw [pz, if_pos cn])
          by_cases cs : Lib.itoa (sv (-dval D)) = s
          · have CS := Lib.hid cs
            go_wp2_with (first
              | (go_at_call 23; (with_reducible refine (neg_any (dval D) (isL _) _).mono ?_); rintro e w1 ⟨rfl, hn⟩; replace hG := carry2 hG hn; replace hG0 := carry2 hG0 hn; replace hBwr := hBwr.trans (hn.mono hBwr.size); clear hn)
              | (go_at_call 34; (with_reducible refine (text_any (-dval D) (isL _) _ (htab.below ((hBwr.setCell (by simp) _).setCell (by simp) _))).mono ?_); rintro e w2 ⟨rfl, hn⟩; replace hG := carry2 (rcell_set hG) hn; replace hG0 := carry2 (rcell_far (rcell_far hG0 (by omega)) (by omega)) hn; replace hBwr := ((hBwr.setCell (by simp) _).setCell (by simp) _).trans (hn.mono ((hBwr.setCell (by simp) _).setCell (by simp) _).size); clear hn))
            exact bodyPost_ret (v := .tuple #[.agg #[.int .i64 (hi (-dval D)), .int .u64 (lo (-dval D))], .int .i64 0]) (by simp [results, Tryd.results32, go_sem, hG0]) rfl ⟨.inl ⟨⟨C1.out, DG.out, by rw [HP.out]; exact CS.out⟩, by rw [HP.out]⟩, (hBwr.setCell (by simp) _).setCell (by simp) _⟩
          · have CS := Lib.hid cs
            have cb : (Lib.itoa (sv (-dval D)) == s) = false := by simpa using cs
            clear cs
            go_wp2_with (first
              | (go_at_call 23; (with_reducible refine (neg_any (dval D) (isL _) _).mono ?_); rintro e w1 ⟨rfl, hn⟩; replace hG := carry2 hG hn; replace hG0 := carry2 hG0 hn; replace hBwr := hBwr.trans (hn.mono hBwr.size); clear hn)
              | (go_at_call 34; (with_reducible refine (text_any (-dval D) (isL _) _ (htab.below ((hBwr.setCell (by simp) _).setCell (by simp) _))).mono ?_); rintro e w2 ⟨rfl, hn⟩; replace hG := carry2 (rcell_set hG) hn; replace hG0 := carry2 (rcell_far (rcell_far hG0 (by omega)) (by omega)) hn; replace hBwr := ((hBwr.setCell (by simp) _).setCell (by simp) _).trans (hn.mono ((hBwr.setCell (by simp) _).setCell (by simp) _).size); clear hn))
            exact bodyPost_ret (v := .tuple #[.agg #[.int .i64 0, .int .u64 0], .int .i64 10]) (by simp [results, Tryd.results32, go_sem, hG0]) rfl ⟨.inr ⟨fun hp => CS.out (by have := hp.2.2; rw [HP.out] at this; exact this), rfl⟩, (hBwr.setCell (by simp) _).setCell (by simp) _⟩
        · skip
          have HP := Lib.hid (show pz s D = dval D by rw [pz, if_neg cn])
          by_cases cs : Lib.itoa (sv (dval D)) = s
          · have CS := Lib.hid cs
            go_wp2_with (first
              | (go_at_call 23; (with_reducible refine (neg_any (dval D) (isL _) _).mono ?_); rintro e w1 ⟨rfl, hn⟩; replace hG := carry2 hG hn; replace hG0 := carry2 hG0 hn; replace hBwr := hBwr.trans (hn.mono hBwr.size); clear hn)
              | (go_at_call 34; (with_reducible refine (text_any (dval D) (isL _) _ (htab.below hBwr)).mono ?_); rintro e w2 ⟨rfl, hn⟩; replace hG := carry2 hG hn; replace hG0 := carry2 hG0 hn; replace hBwr := hBwr.trans (hn.mono hBwr.size); clear hn))
            exact bodyPost_ret (v := .tuple #[.agg #[.int .i64 (hi (dval D)), .int .u64 (lo (dval D))], .int .i64 0]) (by simp [results, Tryd.results32, go_sem, hG0]) rfl ⟨.inl ⟨⟨C1.out, DG.out, by rw [HP.out]; exact CS.out⟩, by rw [HP.out]⟩, (hBwr.setCell (by simp) _).setCell (by simp) _⟩
          · have CS := Lib.hid cs
            have cb : (Lib.itoa (sv (dval D)) == s) = false := by simpa using cs
            clear cs
            go_wp2_with (first
              | (go_at_call 23; (with_reducible refine (neg_any (dval D) (isL _) _).mono ?_); rintro e w1 ⟨rfl, hn⟩; replace hG := carry2 hG hn; replace hG0 := carry2 hG0 hn; replace hBwr := hBwr.trans (hn.mono hBwr.size); clear hn)
              | (go_at_call 34; (with_reducible refine (text_any (dval D) (isL _) _ (htab.below hBwr)).mono ?_); rintro e w2 ⟨rfl, hn⟩; replace hG := carry2 hG hn; replace hG0 := carry2 hG0 hn; replace hBwr := hBwr.trans (hn.mono hBwr.size); clear hn))
            exact bodyPost_ret (v := .tuple #[.agg #[.int .i64 0, .int .u64 0], .int .i64 10]) (by simp [results, Tryd.results32, go_sem, hG0]) rfl ⟨.inr ⟨fun hp => CS.out (by have := hp.2.2; rw [HP.out] at this; exact this), rfl⟩, (hBwr.setCell (by simp) _).setCell (by simp) _⟩
  · have c1i : (39 : Int) < D.length := by omega
    have C1 := Lib.hid c1
    clear c1
    go_enter Tryd.func32, Tryd.ntmps32
    go_wp2_with fail
    refine (TP.out _).mono ?_
    rintro e w1 ⟨rfl, rfl⟩
    go_wp2_with fail
    exact bodyPost_ret (v := .tuple #[.agg #[.int .i64 0, .int .u64 0], .int .i64 10]) (by simp [results, Tryd.results32, go_sem]) rfl ⟨.inr ⟨fun hp => C1.out hp.1, rfl⟩, bl1 (Below.refl _ _)⟩

end Go.Proofs.YtdcllcbhepajeaaDoor
