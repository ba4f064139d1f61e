/- The reference's Words and Lines. -/
import Derived.Test.YtoikfekalgkgoaaDoorWords
import Derived.Test.YtoikfekalgkgoaaDoorPl
namespace Go.Proofs.YtoikfekalgkgoaaDoor
open Go.RowKit Go.Proofs
set_option linter.unusedVariables false

/-- the state of the reference's Lines: from p on; L so far -/
def LS (s : List UInt8) (p : Nat) (L : List (List UInt8)) : Prop := p ≤ s.length + 1 ∧ Tx.lines s = L ++ Tx.lines (s.drop p) ∧ L.length ≤ p
theorem LS.start (s : List UInt8) : LS s 0 [] := ⟨by omega, by simp, by simp⟩
theorem LS.done {s : List UInt8} {p : Nat} {L : List (List UInt8)} (h : LS s p L) (hp : ¬ p < s.length) : L = Tx.lines s := by
  rw [h.2.1, List.drop_eq_nil_of_le (by omega), Tx.lines_nil, List.append_nil]
theorem upto_run {x : UInt8} : ∀ (t r : List UInt8), (∀ c ∈ t, c ≠ x) → (r = [] ∨ ∃ r', r = x :: r') → Tx.upto x (t ++ r) = t
  | [], r, _, hr => by
    rcases hr with rfl | ⟨r', rfl⟩
    · rfl
    · simp [Tx.upto]
  | c :: t, r, h, hr => by
    rw [List.cons_append, Tx.upto, if_neg (h c (by simp)), upto_run t r (fun y hy => h y (by simp [hy])) hr]
theorem cut_at (s : List UInt8) (p e : Nat) (h : p ≤ e) (he : e ≤ s.length) : s.drop p = (s.take e).drop p ++ s.drop e := by
  have h1 : (s.take e).drop p = (s.drop p).take (e - p) := by rw [List.drop_take]
  rw [h1, show s.drop e = (s.drop p).drop (e - p) by rw [List.drop_drop]; congr 1; omega, List.take_append_drop]
theorem mem_cut {s : List UInt8} {p e : Nat} {c : UInt8} (h : c ∈ (s.take e).drop p) : ∃ j, ∃ hj : j < s.length, p ≤ j ∧ j < e ∧ s[j] = c := by
  obtain ⟨i, hi, rfl⟩ := List.mem_iff_getElem.1 h
  simp only [List.length_drop, List.length_take] at hi
  exact ⟨p + i, by omega, by omega, by omega, by simp [List.getElem_drop, List.getElem_take]⟩
theorem LS.more {s : List UInt8} {p e : Nat} {L : List (List UInt8)} (h : LS s p L) (hp : p < s.length) (he : p ≤ e) (hel : e ≤ s.length) (hn : ∀ j (hj : j < s.length), p ≤ j → j < e → s[j] ≠ 10) (hend : e = s.length ∨ ∃ hj : e < s.length, s[e] = 10) :
    LS s (e + 1) (L ++ [(s.take e).drop p]) := by
  obtain ⟨h1, h2, h3⟩ := h
  have hu : Tx.upto 10 (s.drop p) = (s.take e).drop p := by
    rw [cut_at s p e he hel]
    refine upto_run _ _ (fun c hc => ?_) ?_
    · obtain ⟨j, hj, h5, h6, rfl⟩ := mem_cut hc
      exact hn j hj h5 h6
    · rcases hend with rfl | ⟨hj, h10⟩
      · left; simp
      · right; exact ⟨_, by rw [List.drop_eq_getElem_cons hj, h10]⟩
  have hlen : ((s.take e).drop p).length = e - p := by simp; omega
  refine ⟨by omega, ?_, by simp; omega⟩
  rw [h2, Tx.lines_ne (s := s.drop p) (by intro h0; have := congrArg List.length h0; simp at this; omega), hu, hlen, List.drop_drop, show p + (e - p + 1) = e + 1 by omega]
  simp

/-- the state of the reference's Words -/
def RS (s : List UInt8) (p : Nat) (L : List (List UInt8)) : Prop := p ≤ s.length ∧ Tx.words s = L ++ Tx.wf [] (s.drop p) ∧ L.length ≤ p
theorem RS.start (s : List UInt8) : RS s 0 [] := ⟨by omega, by simp [Tx.words], by simp⟩
theorem RS.done {s : List UInt8} {p : Nat} {L : List (List UInt8)} (h : RS s p L) (hp : ¬ p < s.length) : L = Tx.words s := by
  rw [h.2.1, List.drop_eq_nil_of_le (by omega)]; simp [Tx.wf]
theorem RS.blank {s : List UInt8} {p : Nat} {L : List (List UInt8)} (h : RS s p L) (hp : p < s.length) (hb : Tx.blank s[p] = true) : RS s (p + 1) L := by
  obtain ⟨h1, h2, h3⟩ := h
  refine ⟨by omega, ?_, by omega⟩
  rw [h2, List.drop_eq_getElem_cons hp, Tx.wf_blank0 _ _ hb]
theorem RS.more {s : List UInt8} {p e : Nat} {L : List (List UInt8)} (h : RS s p L) (he : p < e) (hel : e ≤ s.length) (hn : ∀ j (hj : j < s.length), p ≤ j → j < e → Tx.blank s[j] = false) (hend : e = s.length ∨ ∃ hj : e < s.length, Tx.blank s[e] = true) :
    RS s e (L ++ [(s.take e).drop p]) := by
  obtain ⟨h1, h2, h3⟩ := h
  have hne : (s.take e).drop p ≠ [] := by
    intro h0
    have := congrArg List.length h0
    simp at this; omega
  refine ⟨hel, ?_, by simp; omega⟩
  rw [h2, cut_at s p e (by omega) hel, Tx.wf_run _ [] _ (fun c hc => by
    obtain ⟨j, hj, h5, h6, rfl⟩ := mem_cut hc
    exact hn j hj h5 h6), List.nil_append]
  rcases hend with rfl | ⟨hj, hb⟩
  · rw [List.drop_length]
    simp only [Tx.wf, if_neg hne, if_true, List.append_nil]
  · rw [List.drop_eq_getElem_cons hj, Tx.wf_blank1 _ _ _ hb hne, Tx.wf_blank0 _ _ hb]
    simp

set_option maxRecDepth 100000 in
set_option maxHeartbeats 4000000 in
theorem rlines_any (s : List UInt8) (w : World) (hs : s.length ≤ 1099511627776) :
    Calls Tryd.prog 25 #[.string ⟨s.toArray⟩] w fun e w' => (∃ v, e = .returned v ∧ Tx.SL w' v (Tx.lines s)) ∧ Below w.heap.size w w' := by
  obtain ⟨i0, hI0, hz0, hz1, hz2⟩ := info_parts Tryd.infoString
  go_enter Tryd.func25, Tryd.ntmps25
  go_wp2_with fail
  go_loopw [3, 4] (fun v a wr => ∃ (p : Nat) (L : List (List UInt8)), a = .int .i64 p ∧ wr.ownsRow w.heap.size 9 1 v L.length (L.map Tx.str) ∧ Below w.heap.size w wr ∧ Hid (LS s p L)) (fun _ a _ => s.length + 1 - (intOf a).toNat)
  case atStart => exact ⟨0, [], rfl, ⟨rfl, .inl ⟨rfl, rfl⟩⟩, Below.refl _ _, Lib.hid (LS.start s)⟩
  case round =>
    obtain ⟨p, L, rfl, hown, hB, HLS⟩ := hrel
    have HOWN := Lib.hid hown
    have HB := Lib.hid hB
    have hp1 : p ≤ s.length + 1 := HLS.out.1
    have hL : L.length ≤ p := HLS.out.2.2
    clear hown hB
    by_cases hp : p < s.length
    · have hpI : (p : Int) < s.length := by omega
      obtain ⟨W1, rfl⟩ : ∃ W1 : World, W1 = wr := ⟨_, rfl⟩
      go_wp2_with fail
      go_loopw [5] (fun a wx => ∃ e : Nat, a = .int .i64 e ∧ p ≤ e ∧ e ≤ s.length ∧ wx = W1 ∧ Hid (∀ j (hj : j < s.length), p ≤ j → j < e → s[j] ≠ 10)) (fun a _ => s.length - (intOf a).toNat)
      case atStart => exact ⟨p, rfl, by omega, by omega, rfl, Lib.hid (fun j hj h1 h2 => by omega)⟩
      case round =>
        obtain ⟨e, rfl, he, hel, rfl, HN⟩ := hrel
        by_cases hee : e < s.length
        · have heI : (e : Int) < s.length := by omega
          obtain ⟨C, hC⟩ : ∃ C : Int, (((⟨s.toArray⟩ : ByteArray)[e]'(by simpa [ByteArray.size] using hee)).toNat : Int) = C := ⟨_, rfl⟩
          have hCs : ((s[e]'hee).toNat : Int) = C := hC
          have HCS := Lib.hid hCs
          clear hCs
          by_cases h10 : C = 10
          · have hb : (C == 10) = true := by simpa using h10
            have HEND := Lib.hid (show e = s.length ∨ ∃ hj : e < s.length, s[e] = 10 from .inr ⟨hee, UInt8.toNat_inj.1 (by have := HCS.out; show (s[e]'hee).toNat = 10; omega)⟩)
            clear h10
            go_wp2_with (at_builtin; refine wpList_append_own _ rfl (.tmp 23) (.tmp 28) 39 rfl w.heap.size 9 i0 (.string ⟨#[]⟩) 1 16 Tryd.underlying39 hI0 hz0 hz1 hz2 rfl (by decide) _ _ _ rfl (HOWN.out.alloc _) ⟨_, 0, none⟩ 1 1 [.string ((⟨s.toArray⟩ : ByteArray).extract p e)] rfl rfl (one_new _ _ _) (by simp [Value.oneCell']) (by unfold maxLen; omega) (by omega) (Nat.le_trans HB.out.size (by simp)) ?_; intro v' w2 hown1 hgrow1 hnil1)
            have hB3 := own_grown (HB.out.alloc HB.out.size _) (HOWN.out.alloc _) hgrow1 (Nat.le_refl _)
            have hown3 : w2.ownsRow w.heap.size 9 1 v' (L ++ [(s.take e).drop p]).length ((L ++ [(s.take e).drop p]).map Tx.str) := by
              rw [ext_str] at hown1
              simpa [Tx.str] using hown1
            clear hgrow1 hnil1 hown1
            have HO3 := Lib.hid hown3
            have HB3 := Lib.hid hB3
            clear hown3 hB3
            go_wp2_with fail
            go_roundw
            case rel => exact ⟨e + 1, L ++ [(s.take e).drop p], rfl, HO3.out, HB3.out, Lib.hid (HLS.out.more hp he hel HN.out HEND.out)⟩
            case measure => simp [intOf]; omega
          · have hb : (C == 10) = false := by simpa using h10
            have HN2 := Lib.hid (show ∀ j (hj : j < s.length), p ≤ j → j < e + 1 → s[j] ≠ 10 from fun j hj h1 h2 => by
              rcases Nat.lt_or_ge j e with h | h
              · exact HN.out j hj h1 h
              · obtain rfl : j = e := by omega
                intro h0
                have := HCS.out
                rw [h0] at this
                exact h10 this.symm)
            clear h10
            go_wp2_with fail
            go_roundw
            case rel => exact ⟨e + 1, rfl, by omega, by omega, (by first | rfl | trivial), HN2⟩
            case measure => simp [intOf]; omega
        · obtain rfl : e = s.length := by omega
          have HEND := Lib.hid (show s.length = s.length ∨ ∃ hj : s.length < s.length, s[s.length] = 10 from .inl rfl)
          have heI : ¬ (s.length : Int) < s.length := by omega
          go_wp2_with (at_builtin; refine wpList_append_own _ rfl (.tmp 23) (.tmp 28) 39 rfl w.heap.size 9 i0 (.string ⟨#[]⟩) 1 16 Tryd.underlying39 hI0 hz0 hz1 hz2 rfl (by decide) _ _ _ rfl (HOWN.out.alloc _) ⟨_, 0, none⟩ 1 1 [.string ((⟨s.toArray⟩ : ByteArray).extract p s.length)] rfl rfl (one_new _ _ _) (by simp [Value.oneCell']) (by unfold maxLen; omega) (by omega) (Nat.le_trans HB.out.size (by simp)) ?_; intro v' w2 hown1 hgrow1 hnil1)
          have hB3 := own_grown (HB.out.alloc HB.out.size _) (HOWN.out.alloc _) hgrow1 (Nat.le_refl _)
          have hown3 : w2.ownsRow w.heap.size 9 1 v' (L ++ [(s.take s.length).drop p]).length ((L ++ [(s.take s.length).drop p]).map Tx.str) := by
            rw [ext_str] at hown1
            simpa [Tx.str] using hown1
          clear hgrow1 hnil1 hown1
          have HO3 := Lib.hid hown3
          have HB3 := Lib.hid hB3
          clear hown3 hB3
          go_wp2_with fail
          go_roundw
          case rel => exact ⟨s.length + 1, L ++ [(s.take s.length).drop p], rfl, HO3.out, HB3.out, Lib.hid (HLS.out.more hp he hel HN.out HEND.out)⟩
          case measure => simp [intOf]; omega
    · have HE := Lib.hid (HLS.out.done hp)
      have hpI : ¬ (p : Int) < s.length := by omega
      have HL := Lib.hid hL
      clear hL
      go_wp2_with fail
      go_ret
      exact ⟨⟨_, rfl, by rw [← HE.out]; exact Tx.SL.of_own HOWN.out (by have := HL.out; unfold maxLen; omega)⟩, HB.out⟩

set_option maxRecDepth 100000 in
set_option maxHeartbeats 4000000 in
theorem rwds_any (s : List UInt8) (w : World) (hs : s.length ≤ 1099511627776) :
    Calls Tryd.prog 18 #[.string ⟨s.toArray⟩] w fun e w' => (∃ v, e = .returned v ∧ Tx.SL w' v (Tx.words s)) ∧ Below w.heap.size w w' := by
  obtain ⟨i0, hI0, hz0, hz1, hz2⟩ := info_parts Tryd.infoString
  go_enter Tryd.func18, Tryd.ntmps18
  go_wp2_with fail
  go_loopw [3, 4] (fun v a wr => ∃ (p : Nat) (L : List (List UInt8)), a = .int .i64 p ∧ wr.ownsRow w.heap.size 9 1 v L.length (L.map Tx.str) ∧ Below w.heap.size w wr ∧ Hid (RS s p L)) (fun _ a _ => s.length + 1 - (intOf a).toNat)
  case atStart => exact ⟨0, [], rfl, ⟨rfl, .inl ⟨rfl, rfl⟩⟩, Below.refl _ _, Lib.hid (RS.start s)⟩
  case round =>
    obtain ⟨p, L, rfl, hown, hB, HLS⟩ := hrel
    have HOWN := Lib.hid hown
    have HB := Lib.hid hB
    have hp1 : p ≤ s.length := HLS.out.1
    clear hown hB
    by_cases hp : p < s.length
    · have hpI : (p : Int) < s.length := by omega
      obtain ⟨W1, rfl⟩ : ∃ W1 : World, W1 = wr := ⟨_, rfl⟩
      go_wp2_with fail
      go_loopw [4] (fun a wx => ∃ q : Nat, a = .int .i64 q ∧ p ≤ q ∧ q ≤ s.length ∧ wx = W1 ∧ Hid (RS s q L)) (fun a _ => s.length - (intOf a).toNat)
      case atStart => exact ⟨p, rfl, by omega, by omega, rfl, HLS⟩
      case round =>
        obtain ⟨q, rfl, hq, hql, rfl, HQS⟩ := hrel
        obtain ⟨W2, hW2⟩ : ∃ W2 : World, W2 = wr := ⟨_, rfl⟩
        subst hW2
        have hL : L.length ≤ q := HQS.out.2.2
        by_cases hqq : q < s.length
        · have hqI : (q : Int) < s.length := by omega
          obtain ⟨C, hC⟩ : ∃ C : Int, (((⟨s.toArray⟩ : ByteArray)[q]'(by simpa [ByteArray.size] using hqq)).toNat : Int) = C := ⟨_, rfl⟩
          have hCs : ((s[q]'hqq).toNat : Int) = C := hC
          have HCS := Lib.hid hCs
          clear hCs
          by_cases hb32 : C = 32
          · have hb : (C == 32) = true := by simpa using hb32
            have HN := Lib.hid (HQS.out.blank hqq (by have e : s[q] = 32 := UInt8.toNat_inj.1 (by have := HCS.out; show (s[q]'hqq).toNat = 32; omega); rw [e]; decide))
            clear hb32
            go_wp2_with fail
            go_roundw
            case rel => exact ⟨q + 1, rfl, by omega, by omega, (by first | rfl | trivial), HN⟩
            case measure => simp [intOf]; omega
          · by_cases hb9 : C = 9
            · have hb : (C == 32) = false := by simpa using hb32
              have hb' : (C == 9) = true := by simpa using hb9
              have HN := Lib.hid (HQS.out.blank hqq (by have e : s[q] = 9 := UInt8.toNat_inj.1 (by have := HCS.out; show (s[q]'hqq).toNat = 9; omega); rw [e]; decide))
              clear hb32 hb9
              go_wp2_with fail
              go_roundw
              case rel => exact ⟨q + 1, rfl, by omega, by omega, (by first | rfl | trivial), HN⟩
              case measure => simp [intOf]; omega
            · have hb : (C == 32) = false := by simpa using hb32
              have hb' : (C == 9) = false := by simpa using hb9
              have hnb : Tx.blank s[q] = false := by
                cases h0 : Tx.blank s[q]
                · rfl
                · have : s[q] = 32 ∨ s[q] = 9 := by simpa [Tx.blank] using h0
                  rcases this with e | e
                  · exfalso; have := HCS.out; rw [e] at this; exact hb32 this.symm
                  · exfalso; have := HCS.out; rw [e] at this; exact hb9 this.symm
              have HNB := Lib.hid hnb
              clear hb32 hb9 hnb
              go_wp2_with fail
              go_loopw [5] (fun a wx => ∃ e : Nat, a = .int .i64 e ∧ q ≤ e ∧ e ≤ s.length ∧ wx = W2 ∧ Hid (∀ j (hj : j < s.length), q ≤ j → j < e → Tx.blank s[j] = false)) (fun a _ => s.length - (intOf a).toNat)
              case atStart => exact ⟨q, rfl, by omega, by omega, rfl, Lib.hid (fun j hj h1 h2 => by omega)⟩
              case round =>
                obtain ⟨e, rfl, he, hel, rfl, HN⟩ := hrel
                by_cases hee : e < s.length
                · have heI : (e : Int) < s.length := by omega
                  obtain ⟨D, hD⟩ : ∃ D : Int, (((⟨s.toArray⟩ : ByteArray)[e]'(by simpa [ByteArray.size] using hee)).toNat : Int) = D := ⟨_, rfl⟩
                  have hDs : ((s[e]'hee).toNat : Int) = D := hD
                  have HCS2 := Lib.hid hDs
                  clear hDs
                  by_cases d32 : D = 32
                  · have hd : (D == 32) = true := by simpa using d32
                    have heb : Tx.blank s[e] = true := by
                      have e1 : s[e] = 32 := UInt8.toNat_inj.1 (by have := HCS2.out; show (s[e]'hee).toNat = 32; omega)
                      rw [e1]; decide
                    have hqe : q < e := by
                      rcases Nat.lt_or_ge q e with h | h
                      · exact h
                      · exfalso
                        obtain rfl : q = e := by omega
                        have := HNB.out
                        rw [heb] at this
                        cases this
                    have hqeI : (q : Int) < e := by omega
                    have HEND := Lib.hid (show e = s.length ∨ ∃ hj : e < s.length, Tx.blank s[e] = true from .inr ⟨hee, heb⟩)
                    have HBS := HB.out.size
                    go_wp2_with (at_builtin; refine wpList_append_own _ rfl (.tmp 50) (.tmp 55) 39 rfl w.heap.size 9 i0 (.string ⟨#[]⟩) 1 16 Tryd.underlying39 hI0 hz0 hz1 hz2 rfl (by decide) _ _ _ rfl (HOWN.out.alloc _) ⟨_, 0, none⟩ 1 1 [.string ((⟨s.toArray⟩ : ByteArray).extract q e)] rfl rfl (one_new _ _ _) (by simp [Value.oneCell']) (by unfold maxLen; omega) (by omega) (Nat.le_trans HBS (by simp)) ?_; intro v' w2 hown1 hgrow1 hnil1)
                    have hB3 := own_grown (HB.out.alloc HBS _) (HOWN.out.alloc _) hgrow1 (Nat.le_refl _)
                    have hown3 : w2.ownsRow w.heap.size 9 1 v' (L ++ [(s.take e).drop q]).length ((L ++ [(s.take e).drop q]).map Tx.str) := by
                      rw [ext_str] at hown1
                      simpa [Tx.str] using hown1
                    clear hgrow1 hnil1 hown1
                    have HO3 := Lib.hid hown3
                    have HB3 := Lib.hid hB3
                    clear hown3 hB3
                    go_wp2_with fail
                    go_roundw
                    case rel => exact ⟨e, L ++ [(s.take e).drop q], rfl, HO3.out, HB3.out, Lib.hid (HQS.out.more hqe hel HN.out HEND.out)⟩
                    case measure => simp [intOf]; omega
                  · by_cases d9 : D = 9
                    · have hd : (D == 32) = false := by simpa using d32
                      have hd' : (D == 9) = true := by simpa using d9
                      have heb : Tx.blank s[e] = true := by
                        have e1 : s[e] = 9 := UInt8.toNat_inj.1 (by have := HCS2.out; show (s[e]'hee).toNat = 9; omega)
                        rw [e1]; decide
                      have hqe : q < e := by
                        rcases Nat.lt_or_ge q e with h | h
                        · exact h
                        · exfalso
                          obtain rfl : q = e := by omega
                          have := HNB.out
                          rw [heb] at this
                          cases this
                      have hqeI : (q : Int) < e := by omega
                      have HEND := Lib.hid (show e = s.length ∨ ∃ hj : e < s.length, Tx.blank s[e] = true from .inr ⟨hee, heb⟩)
                      have HBS := HB.out.size
                      go_wp2_with (at_builtin; refine wpList_append_own _ rfl (.tmp 50) (.tmp 55) 39 rfl w.heap.size 9 i0 (.string ⟨#[]⟩) 1 16 Tryd.underlying39 hI0 hz0 hz1 hz2 rfl (by decide) _ _ _ rfl (HOWN.out.alloc _) ⟨_, 0, none⟩ 1 1 [.string ((⟨s.toArray⟩ : ByteArray).extract q e)] rfl rfl (one_new _ _ _) (by simp [Value.oneCell']) (by unfold maxLen; omega) (by omega) (Nat.le_trans HBS (by simp)) ?_; intro v' w2 hown1 hgrow1 hnil1)
                      have hB3 := own_grown (HB.out.alloc HBS _) (HOWN.out.alloc _) hgrow1 (Nat.le_refl _)
                      have hown3 : w2.ownsRow w.heap.size 9 1 v' (L ++ [(s.take e).drop q]).length ((L ++ [(s.take e).drop q]).map Tx.str) := by
                        rw [ext_str] at hown1
                        simpa [Tx.str] using hown1
                      clear hgrow1 hnil1 hown1
                      have HO3 := Lib.hid hown3
                      have HB3 := Lib.hid hB3
                      clear hown3 hB3
                      go_wp2_with fail
                      go_roundw
                      case rel => exact ⟨e, L ++ [(s.take e).drop q], rfl, HO3.out, HB3.out, Lib.hid (HQS.out.more hqe hel HN.out HEND.out)⟩
                      case measure => simp [intOf]; omega
                    · have hd : (D == 32) = false := by simpa using d32
                      have hd' : (D == 9) = false := by simpa using d9
                      have hdn : (D != 32) = true := by simpa using d32
                      have hdn' : (D != 9) = true := by simpa using d9
                      have HN2 := Lib.hid (show ∀ j (hj : j < s.length), q ≤ j → j < e + 1 → Tx.blank s[j] = false from fun j hj h1 h2 => by
                        rcases Nat.lt_or_ge j e with h | h
                        · exact HN.out j hj h1 h
                        · obtain rfl : j = e := by omega
                          cases h0 : Tx.blank s[j]
                          · rfl
                          · have : s[j] = 32 ∨ s[j] = 9 := by simpa [Tx.blank] using h0
                            rcases this with e1 | e1
                            · exfalso; have := HCS2.out; rw [e1] at this; exact d32 this.symm
                            · exfalso; have := HCS2.out; rw [e1] at this; exact d9 this.symm)
                      go_wp2_with fail
                      go_roundw
                      case rel => exact ⟨e + 1, rfl, by omega, by omega, (by first | rfl | trivial), HN2⟩
                      case measure => simp [intOf]; omega
                · obtain rfl : e = s.length := by omega
                  have heI : ¬ (s.length : Int) < s.length := by omega
                  have hqe : q < s.length := hqq
                  have hqeI : (q : Int) < s.length := by omega
                  have HEND := Lib.hid (show s.length = s.length ∨ ∃ hj : s.length < s.length, Tx.blank s[s.length] = true from .inl rfl)
                  have HBS := HB.out.size
                  go_wp2_with (at_builtin; refine wpList_append_own _ rfl (.tmp 50) (.tmp 55) 39 rfl w.heap.size 9 i0 (.string ⟨#[]⟩) 1 16 Tryd.underlying39 hI0 hz0 hz1 hz2 rfl (by decide) _ _ _ rfl (HOWN.out.alloc _) ⟨_, 0, none⟩ 1 1 [.string ((⟨s.toArray⟩ : ByteArray).extract q s.length)] rfl rfl (one_new _ _ _) (by simp [Value.oneCell']) (by unfold maxLen; omega) (by omega) (Nat.le_trans HBS (by simp)) ?_; intro v' w2 hown1 hgrow1 hnil1)
                  have hB3 := own_grown (HB.out.alloc HBS _) (HOWN.out.alloc _) hgrow1 (Nat.le_refl _)
                  have hown3 : w2.ownsRow w.heap.size 9 1 v' (L ++ [(s.take s.length).drop q]).length ((L ++ [(s.take s.length).drop q]).map Tx.str) := by
                    rw [ext_str] at hown1
                    simpa [Tx.str] using hown1
                  clear hgrow1 hnil1 hown1
                  have HO3 := Lib.hid hown3
                  have HB3 := Lib.hid hB3
                  clear hown3 hB3
                  go_wp2_with fail
                  go_roundw
                  case rel => exact ⟨s.length, L ++ [(s.take s.length).drop q], rfl, HO3.out, HB3.out, Lib.hid (HQS.out.more hqe hel HN.out HEND.out)⟩
                  case measure => simp [intOf]; omega
        · obtain rfl : q = s.length := by omega
          have hqI : ¬ (s.length : Int) < s.length := by omega
          go_wp2_with fail
          go_loopw [5] (fun a wx => a = .int .i64 (s.length : Nat) ∧ wx = W2) (fun a _ => 0)
          case atStart => exact ⟨rfl, rfl⟩
          case round =>
            obtain ⟨rfl, rfl⟩ := hrel
            go_wp2_with fail
            go_roundw
            case rel => exact ⟨s.length, L, rfl, HOWN.out, HB.out, HQS⟩
            case measure => simp [intOf]; omega
    · have HE := Lib.hid (HLS.out.done hp)
      have hpI : ¬ (p : Int) < s.length := by omega
      have HL := Lib.hid HLS.out.2.2
      go_wp2_with fail
      go_ret
      exact ⟨⟨_, rfl, by rw [← HE.out]; exact Tx.SL.of_own HOWN.out (by have := HL.out; unfold maxLen; omega)⟩, HB.out⟩
end Go.Proofs.YtoikfekalgkgoaaDoor
