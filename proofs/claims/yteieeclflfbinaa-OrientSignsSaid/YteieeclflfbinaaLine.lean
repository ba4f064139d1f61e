/- The contracts of the law's fit and of package orient's Line. -/
import Derived.Test.YteieeclflfbinaaSigns
namespace Go.Proofs.Yteieeclflfbinaa
open Go.RowKit Go.Proofs
set_option linter.unusedVariables false

theorem lfit_any (ax ay az bx b_ bz cx cy cz dx dy dz : Int) (w : World) :
    Calls Try.prog 12 #[.agg #[.int .i64 ax, .int .i64 ay, .int .i64 az], .agg #[.int .i64 bx, .int .i64 b_, .int .i64 bz], .agg #[.int .i64 cx, .int .i64 cy, .int .i64 cz], .agg #[.int .i64 dx, .int .i64 dy, .int .i64 dz]] w fun e w' =>
      e = .returned (.bool (may4 ax ay az bx b_ bz cx cy cz dx dy dz)) ∧ Below w.heap.size w w' := by
  obtain ⟨A, hA⟩ : ∃ A, A = mayB ax ay az := ⟨_, rfl⟩
  obtain ⟨B, hB⟩ : ∃ B, B = mayB bx b_ bz := ⟨_, rfl⟩
  obtain ⟨C, hC⟩ : ∃ C, C = mayB cx cy cz := ⟨_, rfl⟩
  obtain ⟨D, hD⟩ : ∃ D, D = mayB dx dy dz := ⟨_, rfl⟩
  have FA := Lib.hid (rfit_any ax ay az)
  have FB := Lib.hid (rfit_any bx b_ bz)
  have FC := Lib.hid (rfit_any cx cy cz)
  have FD := Lib.hid (rfit_any dx dy dz)
  rw [← hA] at FA
  rw [← hB] at FB
  rw [← hC] at FC
  rw [← hD] at FD
  have H := Lib.hid (show (A && B && C && D) = may4 ax ay az bx b_ bz cx cy cz dx dy dz by rw [hA, hB, hC, hD]; rfl)
  rw [← H.out]
  clear hA hB hC hD H
  go_enter Try.func12, Try.ntmps12
  go_wp2_with (first
    | (go_at_call 29; (with_reducible refine (FA.out _).mono ?_); rintro e w1 ⟨rfl, hn⟩; (first | (replace hb := chain hb hn; clear hn hc hf) | (have hb := hn; clear hn)); obtain ⟨hc, hf⟩ := bcell hb)
    | (go_at_call 29; (with_reducible refine (FB.out _).mono ?_); rintro e w1 ⟨rfl, hn⟩; (first | (replace hb := chain hb hn; clear hn hc hf) | (have hb := hn; clear hn)); obtain ⟨hc, hf⟩ := bcell hb)
    | (go_at_call 29; (with_reducible refine (FC.out _).mono ?_); rintro e w1 ⟨rfl, hn⟩; (first | (replace hb := chain hb hn; clear hn hc hf) | (have hb := hn; clear hn)); obtain ⟨hc, hf⟩ := bcell hb)
    | (go_at_call 29; (with_reducible refine (FD.out _).mono ?_); rintro e w1 ⟨rfl, hn⟩; (first | (replace hb := chain hb hn; clear hn hc hf) | (have hb := hn; clear hn)); obtain ⟨hc, hf⟩ := bcell hb))
  all_goals (go_ret; exact ⟨ret_bool (by simp [*]), bl4 hb⟩)

/-- do three points lie on one line? p, q: two of them from the third -/
def onL (px py pz qx qy qz : Int) : Bool := decide (py * qz = pz * qy) && decide (pz * qx = px * qz) && decide (px * qy = py * qx)
def may3 (ax ay az bx b_ bz cx cy cz : Int) : Bool := mayB ax ay az && mayB bx b_ bz && mayB cx cy cz

theorem minor_wd {a b c d : Int} (ha : Wd a) (hb : Wd b) (hc : Wd c) (hd : Wd d) (W : World) :
    Calls Try.prog 36 #[.int .i64 a, .int .i64 b, .int .i64 c, .int .i64 d] W fun e w' => e = .returned (.agg #[.int .i64 (hi (a * d - b * c)), .int .u64 (lo (a * d - b * c))]) ∧ Below W.heap.size W w' :=
  minor_any a b c d ha.1 ha.2 hb.1 hb.2 hc.1 hc.2 hd.1 hd.2 W
theorem wd_prod {a b c d : Int} (ha : Wd a) (hb : Wd b) (hc : Wd c) (hd : Wd d) (P : Bool) (hP : P = decide (a * d = b * c)) : ((hi (a * d - b * c) == 0) && (lo (a * d - b * c) == 0)) = P := by
  have h1 := mul_wd ha hd
  have h2 := mul_wd hb hc
  have : (hi (a * d - b * c) = 0 ∧ lo (a * d - b * c) = 0) ↔ a * d = b * c := by unfold hi lo; omega
  rw [hP, Bool.eq_iff_iff]
  simpa using this

theorem line_no {ax ay az bx b_ bz cx cy cz : Int} (hm : may3 ax ay az bx b_ bz cx cy cz = false) (w : World) :
    Calls Try.prog 20 #[.agg #[.int .i64 ax, .int .i64 ay, .int .i64 az], .agg #[.int .i64 bx, .int .i64 b_, .int .i64 bz], .agg #[.int .i64 cx, .int .i64 cy, .int .i64 cz]] w fun e w' =>
      e = .returned (.tuple #[.bool false, .bool false]) ∧ Below w.heap.size w w' := by
  cases hA : mayB ax ay az
  · have MA := Lib.hid (may_is hA)
    clear hA hm
    go_enter Try.func20, Try.ntmps20
    go_wp2_with (first
      | (go_at_call 26; (with_reducible refine (MA.out _).mono ?_); rintro e w1 ⟨rfl, hn⟩; (first | (replace hb := chain hb hn; clear hn hc hf) | (have hb := hn; clear hn)); obtain ⟨hc, hf⟩ := bcell hb))
    go_ret2
    exact ⟨rfl, bl3 hb⟩
  · have MA := Lib.hid (may_is hA)
    cases hB : mayB bx b_ bz
    · have MB := Lib.hid (may_is hB)
      clear hA hB hm
      go_enter Try.func20, Try.ntmps20
      go_wp2_with (first
        | (go_at_call 26; (with_reducible refine (MA.out _).mono ?_); rintro e w1 ⟨rfl, hn⟩; (first | (replace hb := chain hb hn; clear hn hc hf) | (have hb := hn; clear hn)); obtain ⟨hc, hf⟩ := bcell hb)
        | (go_at_call 26; (with_reducible refine (MB.out _).mono ?_); rintro e w1 ⟨rfl, hn⟩; (first | (replace hb := chain hb hn; clear hn hc hf) | (have hb := hn; clear hn)); obtain ⟨hc, hf⟩ := bcell hb))
      go_ret2
      exact ⟨rfl, bl3 hb⟩
    · have MB := Lib.hid (may_is hB)
      have hC : mayB cx cy cz = false := by simpa [may3, hA, hB] using hm
      have MC := Lib.hid (may_is hC)
      clear hA hB hC hm
      go_enter Try.func20, Try.ntmps20
      go_wp2_with (first
        | (go_at_call 26; (with_reducible refine (MA.out _).mono ?_); rintro e w1 ⟨rfl, hn⟩; (first | (replace hb := chain hb hn; clear hn hc hf) | (have hb := hn; clear hn)); obtain ⟨hc, hf⟩ := bcell hb)
        | (go_at_call 26; (with_reducible refine (MB.out _).mono ?_); rintro e w1 ⟨rfl, hn⟩; (first | (replace hb := chain hb hn; clear hn hc hf) | (have hb := hn; clear hn)); obtain ⟨hc, hf⟩ := bcell hb)
        | (go_at_call 26; (with_reducible refine (MC.out _).mono ?_); rintro e w1 ⟨rfl, hn⟩; (first | (replace hb := chain hb hn; clear hn hc hf) | (have hb := hn; clear hn)); obtain ⟨hc, hf⟩ := bcell hb))
      go_ret2
      exact ⟨rfl, bl3 hb⟩

/-- a block of three cells -/
def R3 (u : World) (g : Nat) (x y z : Int) : Prop := u.cell? ⟨g, 0, none⟩ = some (.int .i64 x) ∧ u.cell? ⟨g, 1, none⟩ = some (.int .i64 y) ∧ u.cell? ⟨g, 2, none⟩ = some (.int .i64 z) ∧ g < u.heap.size
theorem R3.mono {u w1 : World} {g : Nat} {x y z : Int} (h : R3 u g x y z) (hn : Below u.heap.size u w1) : R3 w1 g x y z := by
  obtain ⟨hc, hf, hl⟩ := bcell3 hn
  obtain ⟨h0, h1, h2, h3⟩ := h
  exact ⟨(hc _ _ h3).trans h0, (hc _ _ h3).trans h1, (hc _ _ h3).trans h2, hl _ h3⟩
end Go.Proofs.Yteieeclflfbinaa
