/- A list of points, printed and read again (plain). -/
import Derived.Test.YtoikfekalgkgoaaDoorPrint
import Derived.Test.YtoikfekalgkgoaaDoorTAwake
import Derived.Test.YtoikfekalgkgoaaDoorRWords
namespace Go.Proofs.YtoikfekalgkgoaaDoor
open Go.RowKit Go.Proofs
set_option linter.unusedVariables false

theorem itoa_chars (z : Int) : ∀ c ∈ Lib.itoa z, c = 45 ∨ Ti.dig c := by
  intro c hc
  unfold Lib.itoa at hc
  split at hc
  · rcases List.mem_cons.1 hc with rfl | hc
    · exact .inl rfl
    · exact .inr ((Ti.dec_is _).2.1 c hc)
  · exact .inr ((Ti.dec_is _).2.1 c hc)
theorem itoa_ne (z : Int) : Lib.itoa z ≠ [] := by
  unfold Lib.itoa
  split
  · simp
  · obtain ⟨_, _, c, r, e, _⟩ := Ti.dec_is z.toNat
    rw [e]; simp
theorem char_not {c : UInt8} (h : c = 45 ∨ Ti.dig c) : c ≠ 10 ∧ c ≠ 35 ∧ Tx.blank c = false := by
  rcases h with rfl | h
  · decide
  · unfold Ti.dig at h
    refine ⟨by rintro rfl; revert h; decide, by rintro rfl; revert h; decide, ?_⟩
    cases hb : Tx.blank c
    · rfl
    · have : c = 32 ∨ c = 9 := by simpa [Tx.blank] using hb
      rcases this with rfl | rfl <;> revert h <;> decide
theorem itoa_nb (z : Int) : ∀ c ∈ Lib.itoa z, Tx.blank c = false := fun c hc => (char_not (itoa_chars z c hc)).2.2
theorem wf_word_blank (A : List UInt8) (hA : A ≠ []) (hb : ∀ c ∈ A, Tx.blank c = false) (r : List UInt8) : Tx.wf [] (A ++ 32 :: r) = A :: Tx.wf [] r := by
  rw [Tx.wf_run A [] _ hb, List.nil_append, Tx.wf_blank1 _ _ _ (by decide) hA]
theorem words_pt (x y z : Int) (suf : List UInt8) (hs : suf = [] ∨ suf = [32, 32]) : Tx.wf [] (Tx.pt x y z ++ suf) = [Lib.itoa x, Lib.itoa y, Lib.itoa z] := by
  have e : Tx.pt x y z ++ suf = Lib.itoa x ++ 32 :: (Lib.itoa y ++ 32 :: (Lib.itoa z ++ suf)) := by unfold Tx.pt; simp
  rw [e, wf_word_blank _ (itoa_ne x) (itoa_nb x), wf_word_blank _ (itoa_ne y) (itoa_nb y)]
  rcases hs with rfl | rfl
  · rw [Tx.wf_run _ [] _ (itoa_nb z), List.nil_append]
    simp only [Tx.wf, if_neg (itoa_ne z)]
  · rw [wf_word_blank _ (itoa_ne z) (itoa_nb z)]
    simp only [Tx.wf, show Tx.blank 32 = true by decide, if_true]
theorem skip_words {l : List UInt8} {x : Int} {r : List (List UInt8)} (h : Tx.words l = Lib.itoa x :: r) : ¬ Tx.skip l = true := by
  cases hx : Lib.itoa x with
  | nil => exact absurd hx (itoa_ne x)
  | cons c y =>
    rw [hx] at h
    rw [skip_cons h]
    have := (char_not (itoa_chars x c (by rw [hx]; simp))).2.1
    simpa using this
theorem trip_pt {p : P3} (h : OkP p) : Tx.trip [Lib.itoa p.1, Lib.itoa p.2.1, Lib.itoa p.2.2] = some p := by
  obtain ⟨h1, h2, h3⟩ := h
  obtain ⟨a1, b1⟩ := int_of_itoa rfl h1
  obtain ⟨a2, b2⟩ := int_of_itoa rfl h2
  obtain ⟨a3, b3⟩ := int_of_itoa rfl h3
  unfold Tx.trip
  simp only [a1, b1, a2, b2, a3, b3, Bool.and_self, if_true]
theorem lines_cons (A r : List UInt8) (h : ∀ c ∈ A, c ≠ 10) : Tx.lines (A ++ 10 :: r) = A :: Tx.lines r := by
  rw [Tx.lines_ne (by simp), upto_run A (10 :: r) h (.inr ⟨r, rfl⟩)]
  congr 2
  simp [List.drop_append]
theorem pt_no10 (x y z : Int) : ∀ c ∈ Tx.pt x y z, c ≠ 10 := by
  intro c hc
  unfold Tx.pt at hc
  simp only [List.mem_append, List.mem_singleton] at hc
  rcases hc with (((hc | rfl) | hc) | rfl) | hc
  · exact (char_not (itoa_chars x c hc)).1
  · decide
  · exact (char_not (itoa_chars y c hc)).1
  · decide
  · exact (char_not (itoa_chars z c hc)).1
theorem back_lines : ∀ (L : List P3) (n : Nat) (acc : List P3), (∀ p ∈ L, OkP p) → Tx.pl n acc (Tx.lines (Tx.print L)) = .inl (acc ++ L)
  | [], n, acc, _ => by
    show Tx.pl n acc (Tx.lines []) = _
    rw [Tx.lines_nil]; simp [Tx.pl]
  | p :: L, n, acc, h => by
    have e : Tx.print (p :: L) = Tx.pt p.1 p.2.1 p.2.2 ++ 10 :: Tx.print L := by simp [Tx.print]
    have hw : Tx.words (Tx.pt p.1 p.2.1 p.2.2) = [Lib.itoa p.1, Lib.itoa p.2.1, Lib.itoa p.2.2] := by
      have := words_pt p.1 p.2.1 p.2.2 [] (.inl rfl)
      rwa [List.append_nil] at this
    rw [e, lines_cons _ _ (pt_no10 _ _ _), Tx.pl, if_neg (skip_words hw), hw, trip_pt (h p (by simp))]
    show Tx.pl (n + 1) (acc ++ [p]) _ = _
    rw [back_lines L (n + 1) (acc ++ [p]) (fun q hq => h q (by simp [hq]))]
    simp
/-- the points with remarks between -/
def Tx.body (L : List P3) : List UInt8 := L.flatMap fun p => [9] ++ Tx.pt p.1 p.2.1 p.2.2 ++ [32, 32, 10, 32, 35] ++ [10]
def Tx.headT : List UInt8 := [35, 32, 104, 101, 97, 100, 10, 10]
theorem body_snoc (L : List P3) (p : P3) : Tx.body (L ++ [p]) = Tx.body L ++ ([9] ++ Tx.pt p.1 p.2.1 p.2.2 ++ [32, 32, 10, 32, 35] ++ [10]) := by simp [Tx.body]
theorem back_body : ∀ (L : List P3) (n : Nat) (acc : List P3), (∀ p ∈ L, OkP p) → Tx.pl n acc (Tx.lines (Tx.body L)) = .inl (acc ++ L)
  | [], n, acc, _ => by
    show Tx.pl n acc (Tx.lines []) = _
    rw [Tx.lines_nil]; simp [Tx.pl]
  | p :: L, n, acc, h => by
    have e : Tx.body (p :: L) = (9 :: (Tx.pt p.1 p.2.1 p.2.2 ++ [32, 32])) ++ 10 :: ([32, 35] ++ 10 :: Tx.body L) := by simp [Tx.body]
    have hw : Tx.words (9 :: (Tx.pt p.1 p.2.1 p.2.2 ++ [32, 32])) = [Lib.itoa p.1, Lib.itoa p.2.1, Lib.itoa p.2.2] := by
      unfold Tx.words
      rw [Tx.wf_blank0 _ _ (by decide)]
      exact words_pt p.1 p.2.1 p.2.2 [32, 32] (.inr rfl)
    have h10 : ∀ c ∈ (9 :: (Tx.pt p.1 p.2.1 p.2.2 ++ [32, 32]) : List UInt8), c ≠ 10 := by
      intro c hc
      simp only [List.mem_cons, List.mem_append, List.not_mem_nil, or_false] at hc
      rcases hc with rfl | hc | rfl | rfl
      · decide
      · exact pt_no10 _ _ _ c hc
      · decide
      · decide
    rw [e, lines_cons _ _ h10, lines_cons _ _ (by decide), Tx.pl, if_neg (skip_words hw), hw, trip_pt (h p (by simp))]
    show Tx.pl (n + 1) (acc ++ [p]) _ = _
    rw [Tx.pl, if_pos (by decide)]
    rw [back_body L (n + 1 + 1) (acc ++ [p]) (fun q hq => h q (by simp [hq]))]
    simp
theorem back_text (L : List P3) (h : ∀ p ∈ L, OkP p) : Tx.pl 0 [] (Tx.lines (Tx.headT ++ Tx.body L)) = .inl L := by
  have e : Tx.headT ++ Tx.body L = [35, 32, 104, 101, 97, 100] ++ 10 :: ([] ++ 10 :: Tx.body L) := rfl
  rw [e, lines_cons _ _ (by decide), lines_cons _ _ (by decide), Tx.pl, if_pos (by decide), Tx.pl, if_pos (by decide), back_body L _ _ h]
  simp
theorem body_len {L : List P3} (h : ∀ p ∈ L, OkP p) : (Tx.body L).length ≤ 72 * L.length := by
  induction L with
  | nil => simp [Tx.body]
  | cons p L ih =>
    have h1 := pt_len (h p (by simp))
    have h2 := ih (fun q hq => h q (by simp [hq]))
    have e : Tx.body (p :: L) = ([9] ++ Tx.pt p.1 p.2.1 p.2.2 ++ [32, 32, 10, 32, 35] ++ [10]) ++ Tx.body L := by simp [Tx.body]
    rw [e]
    simp only [List.length_append, List.length_cons, List.length_nil] at *
    omega
/-- what is read are ints -/
theorem iv_in {s : List UInt8} (h : Tx.ib s = true) : Ti.inI (Tx.iv s) := by
  unfold Tx.ib Tx.iv at *
  cases hi : Ti.intL s with
  | none => rw [hi] at h; cases h
  | some z => exact (Ti.intL_some.1 hi).2
theorem trip_ok {l : List (List UInt8)} {p : P3} (h : Tx.trip l = some p) : OkP p := by
  unfold Tx.trip at h
  split at h
  · split at h
    · rename_i hb
      simp only [Bool.and_eq_true] at hb
      obtain rfl := Option.some.inj h
      exact ⟨iv_in hb.1.1, iv_in hb.1.2, iv_in hb.2⟩
    · cases h
  · cases h
theorem pl_ok : ∀ (ls : List (List UInt8)) (n : Nat) (acc L : List P3), Tx.pl n acc ls = .inl L → (∀ p ∈ acc, OkP p) → (∀ p ∈ L, OkP p) ∧ L.length ≤ acc.length + ls.length
  | [], n, acc, L, h, ha => by
    simp only [Tx.pl, Sum.inl.injEq] at h
    subst h
    exact ⟨ha, by simp⟩
  | x :: r, n, acc, L, h, ha => by
    rw [Tx.pl] at h
    split at h
    · obtain ⟨h1, h2⟩ := pl_ok r _ _ _ h ha
      exact ⟨h1, by simp only [List.length_cons]; omega⟩
    · split at h
      · cases h
      · rename_i p hp
        obtain ⟨h1, h2⟩ := pl_ok r _ _ _ h (fun q hq => by
          rcases List.mem_append.1 hq with hq | hq
          · exact ha q hq
          · rw [List.mem_singleton.1 hq]; exact trip_ok hp)
        exact ⟨h1, by simp only [List.length_cons, List.length_append, List.length_nil] at *; omega⟩
end Go.Proofs.YtoikfekalgkgoaaDoor
