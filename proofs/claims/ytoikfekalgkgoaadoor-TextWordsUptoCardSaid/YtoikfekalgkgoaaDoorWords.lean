/- The contract of package text's Words. -/
import Derived.Test.YtoikfekalgkgoaaDoorTx
import Derived.Test.YtoikfekalgkgoaaDoorShelf
import Derived.Test.YtoikfekalgkgoaaDoorText2
import Derived.WalkSpells
import Derived.OwnWalk
import Derived.Lib.OthersKept
import Derived.Lib.Hide
namespace Go.Proofs.YtoikfekalgkgoaaDoor
open Go.RowKit Go.Proofs
set_option linter.unusedVariables false

theorem ext_str (s : List UInt8) (a b : Nat) : (⟨s.toArray⟩ : ByteArray).extract a b = ⟨((s.take b).drop a).toArray⟩ := by
  apply ByteArray.ext
  rw [ByteArray.data_extract]
  simp only [List.extract_toArray, List.extract_eq_take_drop, List.drop_take]
theorem cat_str (a b : List UInt8) : (⟨a.toArray⟩ ++ ⟨b.toArray⟩ : ByteArray) = ⟨(a ++ b).toArray⟩ := by
  apply ByteArray.ext
  simp
theorem size_str (s : List UInt8) : (⟨s.toArray⟩ : ByteArray).size = s.length := by simp [ByteArray.size]
theorem get_str (s : List UInt8) (i : Nat) (h : i < s.length) : (⟨s.toArray⟩ : ByteArray).get! i = s[i] := by
  show s.toArray[i]! = _
  simp [h]
theorem one_new (u : World) (x : Value) (t : TypeId) : ∀ j v, ([x] : List Value)[j]? = some v → (u.alloc (.cells #[x] t)).cell? ((⟨u.heap.size, 0, none⟩ : Addr).add j) = some v := by
  intro j v hj
  match j, hj with
  | 0, hj => simp at hj; subst hj; simp [Addr.add]
theorem own_not_iter {w : World} {base : Nat} {e : TypeId} {size n k : Nat} {v : Value} {xs : List Value} {t : ByteArray} {p : Nat} (h : w.ownsRow base e size v n xs) (hk : w.heap[k]? = some (.stringIter t p)) : v.ownBlock ≠ some k := by
  rcases h.2 with ⟨rfl, _⟩ | ⟨g, cap, cur, rfl, _, hh, _⟩
  · simp [Value.ownBlock]
  · intro e1
    have : g = k := by simpa [Value.ownBlock] using e1
    subst this
    rw [hh] at hk; cases hk
theorem own_iter {w : World} {base : Nat} {e : TypeId} {size n k : Nat} {v : Value} {xs : List Value} {t : ByteArray} {p p' : Nat} (h : w.ownsRow base e size v n xs) (hk : w.heap[k]? = some (.stringIter t p)) : (w.iterAt k t p').ownsRow base e size v n xs := by
  obtain ⟨h1, h2⟩ := h
  refine ⟨h1, h2.imp id ?_⟩
  rintro ⟨g, cap, cur, hv, hg, hh, hr⟩
  refine ⟨g, cap, cur, hv, hg, ?_, hr⟩
  rw [Lib.iterAt_other w k g t p' (by rintro rfl; rw [hh] at hk; cases hk)]
  exact hh
theorem own_grown {w u u' : World} {v : Value} {e : TypeId} {n k base : Nat} {xs : List Value} (hB : Below w.heap.size w u) (hown : u.ownsRow base e n v k xs) (h : u.grownBy u' v.ownBlock) (hw : w.heap.size ≤ base) : Below w.heap.size w u' :=
  hB.grown h hB.size fun g hg => by
    rcases hown.2 with ⟨rfl, _⟩ | ⟨g', cap, cur, rfl, hg', _⟩
    · simp [Value.ownBlock] at hg
    · simp only [Value.ownBlock, Option.some.injEq] at hg
      omega
/-- behind an append the iterator stands as it stood -/
theorem iter_grown {u u' : World} {v : Value} {e : TypeId} {n k base q : Nat} {xs : List Value} {t : ByteArray} {p : Nat} (hown : u.ownsRow base e n v k xs) (h : u.grownBy u' v.ownBlock) (hk : u.heap[q]? = some (.stringIter t p)) : u'.heap[q]? = some (.stringIter t p) := by
  rw [h.block q (Array.getElem?_eq_some_iff.1 hk).1 (fun e => own_not_iter hown hk e.symm)]; exact hk

/-- the state of Words at place p of T = s and a blank: L words, behind them the piece cur, from F on -/
def WS (s : List UInt8) (p : Nat) (L : List (List UInt8)) (cur : List UInt8) (F : Int) : Prop :=
  p ≤ s.length + 1 ∧ ((cur = [] ∧ F = -1) ∨ (cur ≠ [] ∧ 0 ≤ F ∧ F.toNat ≤ p ∧ p ≤ s.length ∧ cur = (s.take p).drop F.toNat)) ∧ Tx.words s = L ++ Tx.wf cur ((s ++ [32]).drop p) ∧ L.length ≤ p
theorem WS.start (s : List UInt8) : WS s 0 [] [] (-1) :=
  ⟨by omega, .inl ⟨rfl, rfl⟩, by rw [List.drop_zero, List.nil_append, Tx.wf_end]; rfl, by simp⟩
theorem WS.done {s : List UInt8} {p : Nat} {L : List (List UInt8)} {cur : List UInt8} {F : Int} (h : WS s p L cur F) (hp : ¬ p < s.length + 1) : L = Tx.words s := by
  obtain ⟨h1, h2, h3, _⟩ := h
  rcases h2 with ⟨rfl, _⟩ | ⟨_, _, _, h4, _⟩
  · rw [List.drop_eq_nil_of_le (by simp; omega)] at h3
    rw [h3]; simp [Tx.wf]
  · omega
theorem drop_one {s : List UInt8} {p : Nat} (hp : p < s.length + 1) : ∃ c, (s ++ [32])[p]? = some c ∧ (s ++ [32]).drop p = c :: (s ++ [32]).drop (p + 1) ∧ (p < s.length → s[p]? = some c) ∧ (p = s.length → c = 32) := by
  have hl : p < (s ++ [32]).length := by simp; omega
  refine ⟨(s ++ [32])[p], List.getElem?_eq_getElem hl, List.drop_eq_getElem_cons hl, fun h => ?_, fun h => ?_⟩
  · rw [List.getElem_append_left h]; exact List.getElem?_eq_getElem h
  · subst h; simp
theorem WS.blank0 {s : List UInt8} {p : Nat} {L : List (List UInt8)} {F : Int} (h : WS s p L [] F) {c : UInt8} (hp : p < s.length + 1) (hc : (s ++ [32])[p]? = some c) (hb : Tx.blank c = true) : WS s (p + 1) L [] F := by
  obtain ⟨h1, h2, h3, h4⟩ := h
  obtain ⟨c', e1, e2, _, _⟩ := drop_one hp
  obtain rfl : c = c' := Option.some.inj (hc.symm.trans e1)
  refine ⟨by omega, ?_, by rw [h3, e2, Tx.wf_blank0 _ _ hb], by omega⟩
  rcases h2 with ⟨_, h⟩ | ⟨h, _⟩
  · exact .inl ⟨rfl, h⟩
  · exact absurd rfl h
theorem WS.blank1 {s : List UInt8} {p : Nat} {L : List (List UInt8)} {cur : List UInt8} {F : Int} (h : WS s p L cur F) {c : UInt8} (hp : p < s.length + 1) (hc : (s ++ [32])[p]? = some c) (hb : Tx.blank c = true) (hn : cur ≠ []) : WS s (p + 1) (L ++ [cur]) [] (-1) := by
  obtain ⟨h1, h2, h3, h4⟩ := h
  obtain ⟨c', e1, e2, _, _⟩ := drop_one hp
  obtain rfl : c = c' := Option.some.inj (hc.symm.trans e1)
  refine ⟨by omega, .inl ⟨rfl, rfl⟩, by rw [h3, e2, Tx.wf_blank1 _ _ _ hb hn]; simp, by simp; omega⟩
theorem WS.more {s : List UInt8} {p wd : Nat} {L : List (List UInt8)} {cur : List UInt8} {F F' : Int} (h : WS s p L cur F) (hwd : 1 ≤ wd) (hp : p + wd ≤ s.length) (hb : ∀ c ∈ (s.take (p + wd)).drop p, Tx.blank c = false) (hF : (cur = [] ∧ F' = p) ∨ (cur ≠ [] ∧ F' = F)) :
    WS s (p + wd) L (cur ++ (s.take (p + wd)).drop p) F' := by
  obtain ⟨h1, h2, h3, h4⟩ := h
  have hne : (s.take (p + wd)).drop p ≠ [] := by
    intro e
    have := congrArg List.length e
    simp at this; omega
  have hd : (s ++ [32]).drop p = (s.take (p + wd)).drop p ++ (s ++ [32]).drop (p + wd) := by
    rw [List.drop_append_of_le_length (by omega), List.drop_append_of_le_length (by omega), ← List.append_assoc]
    congr 1
    have : (s.take (p + wd)).drop p = (s.drop p).take wd := by rw [List.drop_take]; congr 1; omega
    rw [this, show s.drop (p + wd) = (s.drop p).drop wd by rw [List.drop_drop], List.take_append_drop]
  refine ⟨by omega, .inr ⟨fun e => hne (List.append_eq_nil_iff.1 e).2, ?_⟩, by rw [h3, hd, Tx.wf_run _ _ _ hb], by omega⟩
  rcases hF with ⟨rfl, rfl⟩ | ⟨hc, rfl⟩
  · exact ⟨by omega, by omega, hp, by simp⟩
  · rcases h2 with ⟨h2, _⟩ | ⟨_, h5, h6, h7, h8⟩
    · exact absurd h2 hc
    · refine ⟨h5, by omega, hp, ?_⟩
      rw [h8]
      have e1 : (s.take (p + wd)).drop F'.toNat = (s.drop F'.toNat).take (p + wd - F'.toNat) := by rw [List.drop_take]
      have e2 : (s.take p).drop F'.toNat = (s.drop F'.toNat).take (p - F'.toNat) := by rw [List.drop_take]
      have e3 : (s.take (p + wd)).drop p = (s.drop p).take wd := by rw [List.drop_take]; congr 1; omega
      rw [e1, e2, e3, show p + wd - F'.toNat = (p - F'.toNat) + wd by omega, List.take_add, List.drop_drop, show F'.toNat + (p - F'.toNat) = p by omega]

theorem blank_of {c : UInt8} (h : ¬ Tx.blank c = true) : c.toNat ≠ 32 ∧ c.toNat ≠ 9 := by
  simp only [Tx.blank, Bool.or_eq_true, beq_iff_eq, not_or] at h
  exact ⟨fun e => h.1 (UInt8.toNat_inj.1 e), fun e => h.2 (UInt8.toNat_inj.1 e)⟩
theorem high_not_blank {c : UInt8} (h : 128 ≤ c.toNat) : Tx.blank c = false := by
  cases hb : Tx.blank c
  · rfl
  · have : c = 32 ∨ c = 9 := by simpa [Tx.blank] using hb
    rcases this with rfl | rfl <;> revert h <;> decide
/-- a rune that begins with no blank: no byte of it is one -/
theorem decode_word (s : List UInt8) (p : Nat) (hp : p < s.length) (hb : ¬ Tx.blank s[p] = true) :
    ∃ C wd : Nat, Utf8.decode ⟨(s ++ [32]).toArray⟩ p = (C, wd) ∧ C ≠ 32 ∧ C ≠ 9 ∧ 1 ≤ wd ∧ p + wd ≤ s.length ∧ ∀ c ∈ (s.take (p + wd)).drop p, Tx.blank c = false := by
  have hpz : p < (⟨(s ++ [32]).toArray⟩ : ByteArray).size := by rw [size_str]; simp; omega
  have hTp : (⟨(s ++ [32]).toArray⟩ : ByteArray)[p]'hpz = s[p] := by
    have : (s ++ [32])[p]'(by simp; omega) = s[p] := List.getElem_append_left hp
    rw [← this]; rfl
  have mem : ∀ wd, p + wd ≤ s.length → (∀ j, p ≤ j → j < p + wd → ∀ h : j < s.length, Tx.blank s[j] = false) → ∀ c ∈ (s.take (p + wd)).drop p, Tx.blank c = false := by
    intro wd hw h c hc
    obtain ⟨i, hi, rfl⟩ := List.mem_iff_getElem.1 hc
    simp only [List.length_drop, List.length_take] at hi
    rw [List.getElem_drop, List.getElem_take]
    exact h (p + i) (by omega) (by omega) (by omega)
  by_cases ha : s[p].toNat < 128
  · refine ⟨s[p].toNat, 1, by rw [decode_ascii _ _ hpz (by rw [hTp]; exact ha), hTp], (blank_of hb).1, (blank_of hb).2, Nat.le_refl _, by omega, mem 1 (by omega) ?_⟩
    intro j h1 h2 h3
    obtain rfl : j = p := by omega
    simpa using hb
  · have h12 := decode_high _ _ hpz (by rw [hTp]; omega)
    have hbody := Tx.decode_body ⟨(s ++ [32]).toArray⟩ p
    generalize hd : Utf8.decode ⟨(s ++ [32]).toArray⟩ p = q at h12 hbody
    obtain ⟨C, wd⟩ := q
    obtain ⟨h1, h2⟩ := h12
    dsimp only at h1 h2 hbody
    have hle : p + wd ≤ s.length := by
      rcases Nat.lt_or_ge s.length (p + wd) with h | h
      · exfalso
        obtain ⟨_, h4⟩ := hbody s.length hp h
        rw [get_str _ _ (by simp)] at h4
        simp at h4
      · exact h
    refine ⟨C, wd, rfl, by omega, by omega, h2, hle, mem _ hle ?_⟩
    intro j h3 h4 h5
    rcases Nat.eq_or_lt_of_le h3 with rfl | h6
    · exact high_not_blank (by omega)
    · obtain ⟨_, h7⟩ := hbody j h6 h4
      rw [get_str _ _ (by simp; omega), List.getElem_append_left h5] at h7
      exact high_not_blank h7

set_option maxRecDepth 100000 in
set_option maxHeartbeats 4000000 in
theorem words_any (s : List UInt8) (w : World) (hs : s.length ≤ 1099511627776) :
    Calls Tryd.prog 17 #[.string ⟨s.toArray⟩] w fun e w' => (∃ v, e = .returned v ∧ Tx.SL w' v (Tx.words s)) ∧ Below w.heap.size w w' := by
  obtain ⟨i0, hI0, hz0, hz1, hz2⟩ := info_parts Tryd.infoString
  have hcat := cat_str s [32]
  go_enter Tryd.func17, Tryd.ntmps17
  go_wp2_with fail
  clear hcat
  go_loopw [3, 4] (fun v f wr => ∃ (p : Nat) (L : List (List UInt8)) (cur : List UInt8) (F : Int), f = .int .i64 F ∧ wr.ownsRow w.heap.size 9 1 v L.length (L.map Tx.str) ∧ wr.heap[w.heap.size]? = some (.stringIter ⟨(s ++ [32]).toArray⟩ p) ∧ Below w.heap.size w wr ∧ Hid (WS s p L cur F)) (fun _ _ wr => s.length + 2 - wr.iterPos w.heap.size)
  case atStart => exact ⟨0, [], [], -1, rfl, ⟨rfl, .inl ⟨rfl, rfl⟩⟩, World.iter_heap w _ 0, (Below.refl _ _).alloc (Nat.le_refl _) _, Lib.hid (WS.start s)⟩
  case round =>
    obtain ⟨p, L, cur, F, rfl, hown, hit, hB, HWS⟩ := hrel
    have HOWN := Lib.hid hown
    have HIT := Lib.hid hit
    have HB := Lib.hid hB
    have hsz : w.heap.size < wr.heap.size := (Array.getElem?_eq_some_iff.1 hit).1
    clear hown hit hB
    by_cases hp : p < s.length + 1
    · have hpz : p < (⟨(s ++ [32]).toArray⟩ : ByteArray).size := by rw [size_str]; simp; omega
      obtain ⟨c, hc1, _, hc3, hc4⟩ := drop_one hp
      have hTp : (⟨(s ++ [32]).toArray⟩ : ByteArray)[p]'hpz = c := by
        have : (s ++ [32])[p]'(by simp; omega) = c := by rw [List.getElem?_eq_getElem (by simp; omega)] at hc1; exact Option.some.inj hc1
        rw [← this]; rfl
      by_cases hb : Tx.blank c = true
      · have hb2 : c = 32 ∨ c = 9 := by simpa [Tx.blank] using hb
        have hdec : Utf8.decode ⟨(s ++ [32]).toArray⟩ p = (c.toNat, 1) := by
          rw [decode_ascii _ _ hpz (by rw [hTp]; rcases hb2 with rfl | rfl <;> decide), hTp]
        have hnx : ∀ ty, (Instr.next (.pointer (some ⟨w.heap.size, 0, none⟩)) true ty).run Tryd.prog wr = .ok (.tuple #[.bool true, .int .i64 p, .int .i32 c.toNat]) (wr.iterAt w.heap.size ⟨(s ++ [32]).toArray⟩ (p + 1)) := fun ty => by
          have := Lib.run_next_any_at (P := Tryd.prog) wr w.heap.size ⟨(s ++ [32]).toArray⟩ p ty HIT.out hpz
          rw [hdec] at this; exact this
        have hit2 := Lib.iterAt_heap wr w.heap.size ⟨(s ++ [32]).toArray⟩ p (p + 1) HIT.out
        have hown2 := own_iter (p' := p + 1) HOWN.out HIT.out
        have hB2 := Lib.below_iterAt HB.out (Nat.le_refl _) ⟨(s ++ [32]).toArray⟩ (p + 1)
        have HOWN2 := Lib.hid hown2
        have HIT2 := Lib.hid hit2
        have HB2 := Lib.hid hB2
        have HB1 := Lib.hid hb
        have HC1 := Lib.hid hc1
        clear hdec hTp hb hc1 hc3 hc4 hpz hit2 hown2 hB2
        by_cases hcur : cur = []
        · subst hcur
          obtain rfl : F = -1 := by
            rcases HWS.out.2.1 with ⟨_, h⟩ | ⟨h, _⟩
            · exact h
            · exact absurd rfl h
          rcases hb2 with rfl | rfl
          all_goals
            go_wp2_with fail
            go_roundw
            case rel => exact ⟨p + 1, L, [], -1, rfl, HOWN2.out, HIT2.out, HB2.out, Lib.hid (WS.blank0 HWS.out hp HC1.out HB1.out)⟩
            case measure => simp only [World.iterPos, HIT2.out, HIT.out]; omega
        · obtain ⟨F0, F1, F2, F3⟩ : 0 ≤ F ∧ F.toNat ≤ p ∧ p ≤ s.length ∧ cur = (s.take p).drop F.toNat := by
            rcases HWS.out.2.1 with ⟨h, _⟩ | ⟨_, h⟩
            · exact absurd h hcur
            · exact h
          have hcnt : L.length ≤ p := HWS.out.2.2.2
          have HX := Lib.hid (show Value.string ((⟨s.toArray⟩ : ByteArray).extract F.toNat p) = Tx.str cur by rw [ext_str, ← F3]; rfl)
          have HCUR := Lib.hid hcur
          have HCNT := Lib.hid hcnt
          have hFp : F ≤ p := by omega
          have hps : (p : Int) ≤ s.length := by omega
          clear F3 hcur hcnt
          rcases hb2 with rfl | rfl
          all_goals
            have hbase : w.heap.size ≤ (wr.iterAt w.heap.size ⟨(s ++ [32]).toArray⟩ (p + 1)).heap.size := by rw [Lib.iterAt_size]; omega
            have HBS := Lib.hid hbase
            clear hbase
            go_wp2_with (at_builtin; refine wpList_append_own _ rfl (.tmp 27) (.tmp 32) 39 rfl w.heap.size 9 i0 (.string ⟨#[]⟩) 1 16 Tryd.underlying39 hI0 hz0 hz1 hz2 rfl (by decide) _ _ _ rfl (HOWN2.out.alloc _) ⟨_, 0, none⟩ 1 1 [.string ((⟨s.toArray⟩ : ByteArray).extract F.toNat p)] rfl rfl (one_new _ _ _) (by simp [Value.oneCell']) (by have := HCNT.out; unfold maxLen; omega) (by have := HCNT.out; omega) (Nat.le_trans HBS.out (by simp)) ?_; intro v' w1 hown1 hgrow1 hnil1)
            have hB3 := own_grown (HB2.out.alloc HBS.out _) (HOWN2.out.alloc _) hgrow1 (Nat.le_refl _)
            have hit3 := iter_grown (HOWN2.out.alloc _) hgrow1 (show ((wr.iterAt w.heap.size ⟨(s ++ [32]).toArray⟩ (p + 1)).alloc _).heap[w.heap.size]? = _ from (Below.heap_alloc _ _ _ (Array.getElem?_eq_some_iff.1 HIT2.out).1).trans HIT2.out)
            have hown3 : w1.ownsRow w.heap.size 9 1 v' (L ++ [cur]).length ((L ++ [cur]).map Tx.str) := by
              rw [HX.out] at hown1
              simpa using hown1
            clear hgrow1 hnil1 hown1
            have HO3 := Lib.hid hown3
            have HI3 := Lib.hid hit3
            have HB3 := Lib.hid hB3
            clear hown3 hit3 hB3
            go_wp2_with fail
            go_roundw
            case rel => exact ⟨p + 1, L ++ [cur], [], -1, rfl, HO3.out, HI3.out, HB3.out, Lib.hid (WS.blank1 HWS.out hp HC1.out HB1.out HCUR.out)⟩
            case measure => simp only [World.iterPos, HI3.out, HIT.out]; omega
      · have hlt : p < s.length := by
          rcases Nat.lt_or_ge p s.length with h | h
          · exact h
          · exact absurd (by rw [hc4 (by omega)]; decide) hb
        have hsp : s[p]'hlt = c := by have := hc3 hlt; rw [List.getElem?_eq_getElem hlt] at this; exact Option.some.inj this
        obtain ⟨C, wd, hdec, n32, n9, hw1, hw2, hbl⟩ := decode_word s p hlt (by rw [hsp]; exact hb)
        have hnx : ∀ ty, (Instr.next (.pointer (some ⟨w.heap.size, 0, none⟩)) true ty).run Tryd.prog wr = .ok (.tuple #[.bool true, .int .i64 p, .int .i32 C]) (wr.iterAt w.heap.size ⟨(s ++ [32]).toArray⟩ (p + wd)) := fun ty => by
          have := Lib.run_next_any_at (P := Tryd.prog) wr w.heap.size ⟨(s ++ [32]).toArray⟩ p ty HIT.out hpz
          rw [hdec] at this; exact this
        have hit2 := Lib.iterAt_heap wr w.heap.size ⟨(s ++ [32]).toArray⟩ p (p + wd) HIT.out
        have hown2 := own_iter (p' := p + wd) HOWN.out HIT.out
        have hB2 := Lib.below_iterAt HB.out (Nat.le_refl _) ⟨(s ++ [32]).toArray⟩ (p + wd)
        have HOWN2 := Lib.hid hown2
        have HIT2 := Lib.hid hit2
        have HB2 := Lib.hid hB2
        have HBL := Lib.hid hbl
        have HW1 := Lib.hid hw1
        have HW2 := Lib.hid hw2
        have c32 : ((C : Int) == 32) = false := by
          have : (C : Int) ≠ 32 := by omega
          simpa using this
        have c9 : ((C : Int) == 9) = false := by
          have : (C : Int) ≠ 9 := by omega
          simpa using this
        clear hdec hTp hb hc1 hc3 hc4 hpz hit2 hown2 hB2 hbl hsp n32 n9 hw1 hw2
        by_cases hcur : cur = []
        · obtain rfl : F = -1 := by
            rcases HWS.out.2.1 with ⟨_, h⟩ | ⟨h, _⟩
            · exact h
            · exact absurd hcur h
          have HCUR := Lib.hid hcur
          clear hcur
          go_wp2_with fail
          go_roundw
          case rel => exact ⟨p + wd, L, cur ++ (s.take (p + wd)).drop p, p, rfl, HOWN2.out, HIT2.out, HB2.out, Lib.hid (WS.more HWS.out HW1.out HW2.out HBL.out (.inl ⟨HCUR.out, rfl⟩))⟩
          case measure => have := HW1.out; simp only [World.iterPos, HIT2.out, HIT.out]; omega
        · have F0 : 0 ≤ F := by
            rcases HWS.out.2.1 with ⟨h, _⟩ | ⟨_, h, _⟩
            · exact absurd h hcur
            · exact h
          have HCUR := Lib.hid hcur
          clear hcur
          go_wp2_with fail
          go_roundw
          case rel => exact ⟨p + wd, L, cur ++ (s.take (p + wd)).drop p, F, rfl, HOWN2.out, HIT2.out, HB2.out, Lib.hid (WS.more HWS.out HW1.out HW2.out HBL.out (.inr ⟨HCUR.out, rfl⟩))⟩
          case measure => have := HW1.out; simp only [World.iterPos, HIT2.out, HIT.out]; omega
    · have hpz : ¬ p < (⟨(s ++ [32]).toArray⟩ : ByteArray).size := by rw [size_str]; simp; omega
      have hnx : ∀ ty, (Instr.next (.pointer (some ⟨w.heap.size, 0, none⟩)) true ty).run Tryd.prog wr = .ok (.tuple #[.bool false]) wr := fun ty => Lib.run_next_end_at wr w.heap.size ⟨(s ++ [32]).toArray⟩ p ty HIT.out hpz
      have e := HWS.out.done hp
      have hl : L.length ≤ s.length + 1 := by have := HWS.out.2.2.2; have := HWS.out.1; omega
      have HE := Lib.hid e
      have HL := Lib.hid hl
      clear hpz e hl
      go_wp2_with fail
      go_ret
      exact ⟨⟨_, rfl, by rw [← HE.out]; exact Tx.SL.of_own HOWN.out (by have := HL.out; unfold maxLen; omega)⟩, HB.out⟩
end Go.Proofs.YtoikfekalgkgoaaDoor
