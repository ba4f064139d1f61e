/- The walk of the law TextParses. -/
import Derived.Test.YtoikfekalgkgoaaDoorRTParse
import Derived.Test.YtoikfekalgkgoaaDoorSame
import Derived.Test.YtoikfekalgkgoaaDoorTAwake
namespace Go.Proofs.YtoikfekalgkgoaaDoor
open Go.RowKit Go.Proofs
set_option linter.unusedVariables false

theorem nil_pl (u : World) : PL u (.slice none 0 0) [] := ⟨by decide, .inl ⟨rfl, rfl⟩⟩
/-- what both hand back of one text -/
def PR3 (s : List UInt8) (L : List P3) (c : Int) (n : Int) (e : Ending) (u : World) : Prop := ∃ v, PL u v L ∧ e = .returned (.tuple #[v, .int .i64 c, .int .i64 n])
theorem parse_one (s : List UInt8) : ∃ L c n, ∀ e u, ParseE s e u → PR3 s L c n e u := by
  by_cases hl : 65536 < s.length
  · exact ⟨[], 2, 0, fun e u h => ⟨_, nil_pl u, by unfold ParseE at h; rw [if_pos hl] at h; exact h⟩⟩
  · cases hp : Tx.pl 0 [] (Tx.lines s) with
    | inr n => exact ⟨[], 190, n, fun e u h => ⟨_, nil_pl u, by unfold ParseE at h; rw [if_neg hl, hp] at h; exact h⟩⟩
    | inl L => exact ⟨L, 0, 0, fun e u h => by unfold ParseE at h; rw [if_neg hl, hp] at h; exact h⟩
theorem pl_slice {u : World} {v : Value} {L : List P3} (h : PL u v L) : ∃ o cap, v = .slice o L.length cap := by
  obtain ⟨_, ⟨rfl, rfl⟩ | ⟨a, cap, rfl, _⟩⟩ := h
  · exact ⟨none, 0, rfl⟩
  · exact ⟨some a, cap, rfl⟩
set_option maxRecDepth 100000 in
set_option maxHeartbeats 2000000 in
theorem textParses_any (b : ByteArray) (hb : b.size ≤ maxLen) {w : World} (he : Env w) :
    Calls Tryd.prog 5 #[.string b] w fun e w' => e = .returned (.bool true) ∧ Below w.heap.size w w' := by
  obtain ⟨s, rfl⟩ : ∃ s : List UInt8, b = ⟨s.toArray⟩ := ⟨b.data.toList, by simp⟩
  have hs : s.length ≤ maxLen := by simpa [ByteArray.size] using hb
  obtain ⟨L, c, n, hL⟩ := parse_one s
  have P1 := Lib.hid ((tparse_any s w hs he).mono fun e w' h => (show PR3 s L c n e w' ∧ Below w.heap.size w w' from ⟨hL _ _ h.1, h.2⟩))
  have P2 := Lib.hid (fun W => (rtparse_any s W hs).mono fun e w' h => (show PR3 s L c n e w' ∧ Below W.heap.size W w' from ⟨hL _ _ h.1, h.2⟩))
  have SP := Lib.hid (fun v v2 W h h2 => same_any L v v2 W h h2)
  have AW := Lib.hid (fun W (hw : Below w.heap.size w W) => tawake_any W (he.mono hw))
  clear hL he hb hs
  go_enter Tryd.func5, Tryd.ntmps5
  go_wp2_with fail
  refine (P1.out).mono ?_
  rintro e w1 ⟨⟨v1, h1, rfl⟩, hB⟩
  have H1 := Lib.hid h1
  have HB := Lib.hid hB
  clear h1 hB
  go_wp2_with fail
  refine (P2.out _).mono ?_
  rintro e w2 ⟨⟨v2, h2, rfl⟩, hn⟩
  have H1 := Lib.hid (H1.out.mono hn)
  have H2 := Lib.hid h2
  have HB := Lib.hid (HB.out.trans (hn.mono HB.out.size))
  clear h2 hn
  go_wp2_with fail
  refine (SP.out _ _ _ H1.out H2.out).mono ?_
  rintro e w3 ⟨rfl, hn⟩
  have HB := Lib.hid (HB.out.trans (hn.mono HB.out.size))
  clear hn
  go_wp2_with fail
  refine (AW.out _ HB.out).mono ?_
  rintro e w4 ⟨rfl, hn⟩
  go_wp2_with fail
  go_ret
  exact ⟨rfl, HB.out.trans (hn.mono HB.out.size)⟩
end Go.Proofs.YtoikfekalgkgoaaDoor
