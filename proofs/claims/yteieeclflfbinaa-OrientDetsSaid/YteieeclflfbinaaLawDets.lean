/- OrientDets: the walk. (Printed by mklaws4.py.) -/
import Derived.Test.YteieeclflfbinaaAwake2
import Derived.Test.YteieeclflfbinaaRDet
namespace Go.Proofs.Yteieeclflfbinaa
open Go.RowKit Go.Proofs
set_option linter.unusedVariables false

set_option maxRecDepth 100000 in
set_option maxHeartbeats 1000000 in
theorem orientDets_any (ax ay az bx b_ bz cx cy cz dx dy dz : Int) (w : World) :
    Calls Try.prog 3 #[.agg #[.int .i64 ax, .int .i64 ay, .int .i64 az], .agg #[.int .i64 bx, .int .i64 b_, .int .i64 bz], .agg #[.int .i64 cx, .int .i64 cy, .int .i64 cz], .agg #[.int .i64 dx, .int .i64 dy, .int .i64 dz]] w fun e w' => e = .returned (.bool true) ∧ Below w.heap.size w w' := by
  have FT := Lib.hid (lfit_any ax ay az bx b_ bz cx cy cz dx dy dz)
  cases hm : may4 ax ay az bx b_ bz cx cy cz dx dy dz
  · have DE := Lib.hid (fun W => Det_no hm W)
    have EX := Lib.hid (fun W => exact_no hm W)
    rw [hm] at FT
    clear hm
    go_enter Try.func3, Try.ntmps3
    go_wp2_with fail
    refine (DE.out _).mono ?_
    rintro e w1 ⟨rfl, hb⟩
    obtain ⟨hc, hf⟩ := bcell hb
    (first | (with_reducible have hz := szW hb) | (with_reducible have hz := sz5 hb) | (with_reducible have hz := sz4 hb) | (with_reducible have hz := sz3 hb) | (with_reducible have hz := sz2 hb) | (with_reducible have hz := sz1 hb) | skip)
    go_wp2_with fail
    refine (EX.out _).mono ?_
    rintro e w2 ⟨rfl, hn⟩
    replace hb := chaina hb hn
    have G := fresh2 hn
    clear hn hc hf
    try clear hz
    obtain ⟨hc, hf⟩ := bcell hb
    (first | (with_reducible have hz := szW hb) | (with_reducible have hz := sz5 hb) | (with_reducible have hz := sz4 hb) | (with_reducible have hz := sz3 hb) | (with_reducible have hz := sz2 hb) | (with_reducible have hz := sz1 hb) | skip)
    go_wp2_with fail
    refine (FT.out _).mono ?_
    rintro e w3 ⟨rfl, hn⟩
    replace hb := chain hb hn
    replace G := carry2 G hn
    clear hn hc hf
    try clear hz
    obtain ⟨hc, hf⟩ := bcell hb
    (first | (with_reducible have hz := szW hb) | (with_reducible have hz := sz5 hb) | (with_reducible have hz := sz4 hb) | (with_reducible have hz := sz3 hb) | (with_reducible have hz := sz2 hb) | (with_reducible have hz := sz1 hb) | skip)
    go_wp2_with fail
    refine (is_any (ah := 0) (al := 0) (bh := 0) (bl := 0) 0 0 ⟨by decide, by decide⟩ ⟨by decide, by decide⟩ rfl _).mono ?_
    rintro e w4 ⟨rfl, hn⟩
    replace hb := chain hb hn
    replace G := carry2 G hn
    clear hn hc hf
    try clear hz
    obtain ⟨hc, hf⟩ := bcell hb
    (first | (with_reducible have hz := szW hb) | (with_reducible have hz := sz5 hb) | (with_reducible have hz := sz4 hb) | (with_reducible have hz := sz3 hb) | (with_reducible have hz := sz2 hb) | (with_reducible have hz := sz1 hb) | skip)
    go_wp2_with fail
    refine (awake2_any _).mono ?_
    rintro e w5 ⟨rfl, hn⟩
    replace hb := chain hb hn
    replace G := carry2 G hn
    clear hn hc hf
    try clear hz
    obtain ⟨hc, hf⟩ := bcell hb
    (first | (with_reducible have hz := szW hb) | (with_reducible have hz := sz5 hb) | (with_reducible have hz := sz4 hb) | (with_reducible have hz := sz3 hb) | (with_reducible have hz := sz2 hb) | (with_reducible have hz := sz1 hb) | skip)
    go_wp2_with fail
    go_ret
    exact ⟨rfl, bl4 hb⟩
  · have DE := Lib.hid (fun W => Det_yes hm W)
    have EX := Lib.hid (fun W => exact_yes hm W)
    have RD := Lib.hid (fun W => rdet_any hm W)
    have SM := Lib.hid (detD_small hm)
    obtain ⟨D, hD⟩ : ∃ D, D = detD ax ay az bx b_ bz cx cy cz dx dy dz := ⟨_, rfl⟩
    rw [← hD] at DE EX RD SM
    rw [hm] at FT
    have RS := Lib.hid (fun W => rsign_any D (isR D) W)
    rw [SM.out] at RS
    clear hm hD SM
    go_enter Try.func3, Try.ntmps3
    go_wp2_with fail
    refine (DE.out _).mono ?_
    rintro e w6 ⟨rfl, hb⟩
    obtain ⟨hc, hf⟩ := bcell hb
    (first | (with_reducible have hz := szW hb) | (with_reducible have hz := sz5 hb) | (with_reducible have hz := sz4 hb) | (with_reducible have hz := sz3 hb) | (with_reducible have hz := sz2 hb) | (with_reducible have hz := sz1 hb) | skip)
    go_wp2_with fail
    refine (EX.out _).mono ?_
    rintro e w7 ⟨rfl, hn⟩
    replace hb := chaina hb hn
    have G := fresh2 hn
    clear hn hc hf
    try clear hz
    obtain ⟨hc, hf⟩ := bcell hb
    (first | (with_reducible have hz := szW hb) | (with_reducible have hz := sz5 hb) | (with_reducible have hz := sz4 hb) | (with_reducible have hz := sz3 hb) | (with_reducible have hz := sz2 hb) | (with_reducible have hz := sz1 hb) | skip)
    go_wp2_with fail
    refine (FT.out _).mono ?_
    rintro e w8 ⟨rfl, hn⟩
    replace hb := chain hb hn
    replace G := carry2 G hn
    clear hn hc hf
    try clear hz
    obtain ⟨hc, hf⟩ := bcell hb
    (first | (with_reducible have hz := szW hb) | (with_reducible have hz := sz5 hb) | (with_reducible have hz := sz4 hb) | (with_reducible have hz := sz3 hb) | (with_reducible have hz := sz2 hb) | (with_reducible have hz := sz1 hb) | skip)
    go_wp2_with fail
    refine (RD.out _).mono ?_
    rintro e w9 ⟨rfl, hn⟩
    replace hb := chain hb hn
    replace G := carry2 G hn
    clear hn hc hf
    try clear hz
    obtain ⟨hc, hf⟩ := bcell hb
    (first | (with_reducible have hz := szW hb) | (with_reducible have hz := sz5 hb) | (with_reducible have hz := sz4 hb) | (with_reducible have hz := sz3 hb) | (with_reducible have hz := sz2 hb) | (with_reducible have hz := sz1 hb) | skip)
    go_wp2_with fail
    refine (is_any D D (isL _) (isR _) rfl _).mono ?_
    rintro e w10 ⟨rfl, hn⟩
    replace hb := chaina hb hn
    have G2 := fresh2 hn
    replace G := carry2a G hn
    clear hn hc hf
    try clear hz
    obtain ⟨hc, hf⟩ := bcell hb
    (first | (with_reducible have hz := szW hb) | (with_reducible have hz := sz5 hb) | (with_reducible have hz := sz4 hb) | (with_reducible have hz := sz3 hb) | (with_reducible have hz := sz2 hb) | (with_reducible have hz := sz1 hb) | skip)
    go_wp2_with fail
    refine (RS.out _).mono ?_
    rintro e w11 ⟨rfl, hn⟩
    replace hb := chain hb hn
    replace G := carry2 G hn
    replace G2 := carry2 G2 hn
    clear hn hc hf
    try clear hz
    obtain ⟨hc, hf⟩ := bcell hb
    (first | (with_reducible have hz := szW hb) | (with_reducible have hz := sz5 hb) | (with_reducible have hz := sz4 hb) | (with_reducible have hz := sz3 hb) | (with_reducible have hz := sz2 hb) | (with_reducible have hz := sz1 hb) | skip)
    go_wp2_with fail
    refine (awake2_any _).mono ?_
    rintro e w12 ⟨rfl, hn⟩
    replace hb := chain hb hn
    replace G := carry2 G hn
    clear hn hc hf
    try clear hz
    obtain ⟨hc, hf⟩ := bcell hb
    (first | (with_reducible have hz := szW hb) | (with_reducible have hz := sz5 hb) | (with_reducible have hz := sz4 hb) | (with_reducible have hz := sz3 hb) | (with_reducible have hz := sz2 hb) | (with_reducible have hz := sz1 hb) | skip)
    go_wp2_with fail
    go_ret
    exact ⟨rfl, bl4 hb⟩
end Go.Proofs.Yteieeclflfbinaa
