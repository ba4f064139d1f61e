/- What the text laws try at every call. -/
import Derived.Test.YtoikfekalgkgoaaDoorTParse
import Derived.Test.YtoikfekalgkgoaaDoorPnt
namespace Go.Proofs.YtoikfekalgkgoaaDoor
open Go.RowKit Go.Proofs
set_option linter.unusedVariables false

theorem dec_all : Lib.decDigits 0 = [48] ∧ Lib.decDigits 1 = [49] ∧ Lib.decDigits 2 = [50] ∧ Lib.decDigits 3 = [51] ∧ Lib.decDigits 7 = [55] := by
  refine ⟨?_, ?_, ?_, ?_, ?_⟩ <;> (rw [Ti.dec_small (by decide)]; rfl)
theorem itoas : Lib.itoa 0 = [48] ∧ Lib.itoa 1 = [49] ∧ Lib.itoa 2 = [50] ∧ Lib.itoa (-3) = [45, 51] ∧ Lib.itoa (-7) = [45, 55] := by
  obtain ⟨h0, h1, h2, h3, h7⟩ := dec_all
  refine ⟨?_, ?_, ?_, ?_, ?_⟩ <;> unfold Lib.itoa
  · rw [if_neg (by decide)]; exact h0
  · rw [if_neg (by decide)]; exact h1
  · rw [if_neg (by decide)]; exact h2
  · rw [if_pos (by decide)]; exact congrArg _ h3
  · rw [if_pos (by decide)]; exact congrArg _ h7
theorem int_of_itoa {z : Int} {s : List UInt8} (h : Lib.itoa z = s) (hz : Ti.inI z) : Tx.iv s = z ∧ Tx.ib s = true := by
  have := Ti.intL_some.2 ⟨h, hz⟩
  unfold Tx.iv Tx.ib
  rw [this]
  exact ⟨rfl, rfl⟩
theorem ints : (Tx.iv [48] = 0 ∧ Tx.ib [48] = true) ∧ (Tx.iv [49] = 1 ∧ Tx.ib [49] = true) ∧ (Tx.iv [50] = 2 ∧ Tx.ib [50] = true) ∧ (Tx.iv [45, 51] = -3 ∧ Tx.ib [45, 51] = true) ∧ (Tx.iv [45, 55] = -7 ∧ Tx.ib [45, 55] = true) := by
  obtain ⟨h0, h1, h2, h3, h7⟩ := itoas
  exact ⟨int_of_itoa h0 (by unfold Ti.inI; omega), int_of_itoa h1 (by unfold Ti.inI; omega), int_of_itoa h2 (by unfold Ti.inI; omega), int_of_itoa h3 (by unfold Ti.inI; omega), int_of_itoa h7 (by unfold Ti.inI; omega)⟩
def awS : List UInt8 := [49, 32, 50, 32, 45, 51, 10, 35, 32, 120, 10, 48, 32, 48, 32, 48]
theorem aw_lines : Tx.lines awS = [[49, 32, 50, 32, 45, 51], [35, 32, 120], [48, 32, 48, 32, 48]] := by
  unfold awS
  rw [Tx.lines_ne (by simp)]
  rw [show Tx.upto 10 [49, 32, 50, 32, 45, 51, 10, 35, 32, 120, 10, 48, 32, 48, 32, 48] = [49, 32, 50, 32, 45, 51] by decide]
  rw [show ([49, 32, 50, 32, 45, 51, 10, 35, 32, 120, 10, 48, 32, 48, 32, 48] : List UInt8).drop (([49, 32, 50, 32, 45, 51] : List UInt8).length + 1) = [35, 32, 120, 10, 48, 32, 48, 32, 48] by decide]
  rw [Tx.lines_ne (by simp)]
  rw [show Tx.upto 10 [35, 32, 120, 10, 48, 32, 48, 32, 48] = [35, 32, 120] by decide]
  rw [show ([35, 32, 120, 10, 48, 32, 48, 32, 48] : List UInt8).drop (([35, 32, 120] : List UInt8).length + 1) = [48, 32, 48, 32, 48] by decide]
  rw [Tx.lines_ne (by simp)]
  rw [show Tx.upto 10 [48, 32, 48, 32, 48] = [48, 32, 48, 32, 48] by decide]
  rw [show ([48, 32, 48, 32, 48] : List UInt8).drop (([48, 32, 48, 32, 48] : List UInt8).length + 1) = [] by decide]
  rw [Tx.lines_nil]
theorem aw_pl : Tx.pl 0 [] (Tx.lines awS) = .inl [(1, 2, -3), (0, 0, 0)] := by
  obtain ⟨⟨a0, b0⟩, ⟨a1, b1⟩, ⟨a2, b2⟩, ⟨a3, b3⟩, _⟩ := ints
  rw [aw_lines]
  have k1 : Tx.skip [49, 32, 50, 32, 45, 51] = false := by decide
  have k2 : Tx.skip [35, 32, 120] = true := by decide
  have k3 : Tx.skip [48, 32, 48, 32, 48] = false := by decide
  have t1 : Tx.trip (Tx.words [49, 32, 50, 32, 45, 51]) = some (1, 2, -3) := by
    rw [show Tx.words [49, 32, 50, 32, 45, 51] = [[49], [50], [45, 51]] by decide]
    unfold Tx.trip
    simp only [a1, b1, a2, b2, a3, b3, Bool.and_self, if_true]
  have t3 : Tx.trip (Tx.words [48, 32, 48, 32, 48]) = some (0, 0, 0) := by
    rw [show Tx.words [48, 32, 48, 32, 48] = [[48], [48], [48]] by decide]
    unfold Tx.trip
    simp only [a0, b0, Bool.and_self, if_true]
  simp only [Tx.pl, k1, k2, k3, t1, t3, if_true, List.nil_append, List.cons_append, Bool.false_eq_true, if_false]
theorem aw_pl2 : Tx.pl 0 [] (Tx.lines [49, 32, 50]) = .inr 0 := by
  have hl : Tx.lines [49, 32, 50] = [[49, 32, 50]] := by
    rw [Tx.lines_ne (by simp)]
    rw [show Tx.upto 10 [49, 32, 50] = [49, 32, 50] by decide]
    rw [show ([49, 32, 50] : List UInt8).drop (([49, 32, 50] : List UInt8).length + 1) = [] by decide]
    rw [Tx.lines_nil]
  rw [hl]
  have k1 : Tx.skip [49, 32, 50] = false := by decide
  have t1 : Tx.trip (Tx.words [49, 32, 50]) = none := by
    rw [show Tx.words [49, 32, 50] = [[49], [50]] by decide]
    rfl
  simp only [Tx.pl, k1, t1, Bool.false_eq_true, if_false]
theorem aw_pt : Value.string ⟨(Tx.pt 1 2 (-3)).toArray⟩ = .string ⟨#[49, 32, 50, 32, 45, 51]⟩ := by
  obtain ⟨h0, h1, h2, h3, _⟩ := itoas
  unfold Tx.pt
  rw [h1, h2, h3]; rfl

set_option maxRecDepth 100000 in
set_option maxHeartbeats 2000000 in
theorem tawake_any (w : World) (he : Env w) : Calls Tryd.prog 7 #[] w fun e w' => e = .returned (.bool true) ∧ Below w.heap.size w w' := by
  have P1 := Lib.hid ((tparse_any awS w (by decide) he).mono fun e w' h => (show (∃ v, PL w' v [(1, 2, -3), (0, 0, 0)] ∧ e = .returned (.tuple #[v, .int .i64 0, .int .i64 0])) ∧ Below w.heap.size w w' from ⟨by
    have := h.1
    unfold ParseE at this
    rw [if_neg (by decide), aw_pl] at this
    exact this, h.2⟩))
  have P2 := Lib.hid (fun W (hw : Below w.heap.size w W) => (tparse_any [49, 32, 50] W (by decide) (he.mono hw)).mono fun e w' h => (show e = .returned (.tuple #[.slice none 0 0, .int .i64 190, .int .i64 0]) ∧ Below W.heap.size W w' from ⟨by
    have := h.1
    unfold ParseE at this
    rw [if_neg (by decide), aw_pl2] at this
    exact this, h.2⟩))
  have P3 := Lib.hid (fun W (hw : Below w.heap.size w W) => (show Calls Tryd.prog 15 #[.string ⟨#[45, 55]⟩] W fun e w' => e = .returned (.tuple #[.int .i64 (-7), .bool true]) ∧ Below W.heap.size W w' by
    have := tint_iv [45, 55] W (by decide) (he.mono hw)
    rw [ints.2.2.2.2.1, ints.2.2.2.2.2] at this
    exact this))
  have P4 := Lib.hid (fun W (hw : Below w.heap.size w W) => (show Calls Tryd.prog 10 #[.agg #[.int .i64 1, .int .i64 2, .int .i64 (-3)]] W fun e w' => e = .returned (.string ⟨#[49, 32, 50, 32, 45, 51]⟩) ∧ Below W.heap.size W w' by
    have := point_any 1 2 (-3) (by unfold Ti.inI; omega) (by unfold Ti.inI; omega) (by unfold Ti.inI; omega) W (he.mono hw)
    rw [show Tx.str (Tx.pt 1 2 (-3)) = Value.string ⟨(Tx.pt 1 2 (-3)).toArray⟩ from rfl, aw_pt] at this
    exact this))
  go_enter Tryd.func7, Tryd.ntmps7
  go_wp2_with fail
  refine (P1.out).mono ?_
  rintro e w1 ⟨⟨v, hPL, rfl⟩, hB⟩
  obtain ⟨_, ⟨_, h0⟩ | ⟨a, cap, rfl, hab, hc⟩⟩ := hPL
  · simp at h0
  obtain ⟨c0, c1, c2⟩ := hc 0 (by decide)
  simp only [List.getElem_cons_zero, Nat.mul_zero, Nat.zero_add] at c0 c1 c2
  have e0 : a.add 0 = a := by unfold Addr.add; simp
  have e1 : a.add 1 = ⟨a.block, a.off + 1, none⟩ := by unfold Addr.add; simp
  have e2 : a.add 2 = ⟨a.block, a.off + 2, none⟩ := by unfold Addr.add; simp
  rw [e0] at c0
  rw [e1] at c1
  rw [e2] at c2
  clear hc e0 e1 e2
  go_wp2_with fail
  refine (P2.out _ hB).mono ?_
  rintro e w2 ⟨rfl, hn⟩
  have d0 := (hn.cell (p := a) hab).trans c0
  have d1 := (hn.cell (p := ⟨a.block, a.off + 1, none⟩) hab).trans c1
  have d2 := (hn.cell (p := ⟨a.block, a.off + 2, none⟩) hab).trans c2
  have hab2 := Nat.lt_of_lt_of_le hab hn.size
  have hB2 := hB.trans (hn.mono hB.size)
  clear hn c0 c1 c2 hab hB
  go_wp2_with fail
  refine (P3.out _ hB2).mono ?_
  rintro e w3 ⟨rfl, hn⟩
  have c0 := (hn.cell (p := a) hab2).trans d0
  have c1 := (hn.cell (p := ⟨a.block, a.off + 1, none⟩) hab2).trans d1
  have c2 := (hn.cell (p := ⟨a.block, a.off + 2, none⟩) hab2).trans d2
  have hB3 := hB2.trans (hn.mono hB2.size)
  clear hn d0 d1 d2 hab2 hB2
  go_wp2_with fail
  refine (P4.out _ hB3).mono ?_
  rintro e w4 ⟨rfl, hn⟩
  go_wp2_with fail
  go_ret
  exact ⟨rfl, hB3.trans (hn.mono hB3.size)⟩
end Go.Proofs.YtoikfekalgkgoaaDoor
