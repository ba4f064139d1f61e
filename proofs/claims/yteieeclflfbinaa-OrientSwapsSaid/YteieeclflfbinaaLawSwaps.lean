/- OrientSwaps: the walk. -/
import Derived.Test.YteieeclflfbinaaSwp
import Derived.Test.YteieeclflfbinaaAwake2
import Derived.Laws.AppendOwnNone
import Derived.OwnWalk
namespace Go.Proofs.Yteieeclflfbinaa
open Go.RowKit Go.Proofs
set_option linter.unusedVariables false

/-- the cells of a list of points -/
def cellF (X Y Z : Nat → Int) (j : Nat) : Int := if j % 3 = 0 then X (j / 3) else if j % 3 = 1 then Y (j / 3) else Z (j / 3)
def ptsV (X Y Z : Nat → Int) (n : Nat) : List Value := (List.range (3 * n)).map fun j => .int .i64 (cellF X Y Z j)
theorem ptsV_len (X Y Z : Nat → Int) (n : Nat) : (ptsV X Y Z n).length = n * 3 := by simp [ptsV]; omega
theorem ptsV_get {X Y Z : Nat → Int} {n j : Nat} (h : j < 3 * n) : (ptsV X Y Z n)[j]? = some (.int .i64 (cellF X Y Z j)) := by simp [ptsV, h]
theorem ptsV_one (X Y Z : Nat → Int) (n : Nat) : ∀ u ∈ ptsV X Y Z n, u.oneCell' = true := by
  intro u hu
  simp only [ptsV, List.mem_map] at hu
  obtain ⟨j, _, rfl⟩ := hu
  rfl
theorem ptsV_cells {w : World} {a : Addr} {n : Nat} {X Y Z : Nat → Int} (hP : ∀ i, i < n → w.cell? (a.add (3 * i)) = some (.int .i64 (X i)) ∧ w.cell? (a.add (3 * i + 1)) = some (.int .i64 (Y i)) ∧ w.cell? (a.add (3 * i + 2)) = some (.int .i64 (Z i))) :
    ∀ j u, (ptsV X Y Z n)[j]? = some u → w.cell? (a.add j) = some u := by
  intro j u hj
  have hl : j < 3 * n := by
    have := (List.getElem?_eq_some_iff.1 hj).1
    rw [ptsV_len] at this; omega
  rw [ptsV_get hl] at hj
  obtain rfl := Option.some.inj hj
  obtain ⟨h0, h1, h2⟩ := hP (j / 3) (by omega)
  unfold cellF
  have : j % 3 = 0 ∨ j % 3 = 1 ∨ j % 3 = 2 := by omega
  rcases this with h | h | h
  · rw [if_pos h]; rw [show 3 * (j / 3) = j by omega] at h0; exact h0
  · rw [if_neg (by omega), if_pos h]; rw [show 3 * (j / 3) + 1 = j by omega] at h1; exact h1
  · rw [if_neg (by omega), if_neg (by omega)]; rw [show 3 * (j / 3) + 2 = j by omega] at h2; exact h2
theorem pts_own {u : World} {base : Nat} {e : TypeId} {v : Value} {c n : Nat} {X Y Z X' Y' Z' : Nat → Int} (h : u.ownsRow base e 3 v (c + n) (ptsV X' Y' Z' c ++ ptsV X Y Z n)) (hm : c + n ≤ maxLen) :
    Pts u v (c + n) (catF c X' X) (catF c Y' Y) (catF c Z' Z) := by
  refine ⟨hm, ?_⟩
  rcases h.2 with ⟨h1, h2⟩ | ⟨g, cap, cur, hv, hg, hh, _⟩
  · exact .inl ⟨h1, h2⟩
  · right
    have hc := h.cells (g := g) (by rw [hv]; rfl)
    refine ⟨⟨g, 0, none⟩, cap, hv, (Array.getElem?_eq_some_iff.1 hh).1, fun i hi => ?_⟩
    have key : ∀ r, r < 3 → u.cell? ((⟨g, 0, none⟩ : Addr).add (3 * i + r)) = some (.int .i64 (if r = 0 then catF c X' X i else if r = 1 then catF c Y' Y i else catF c Z' Z i)) := by
      intro r hr
      refine hc _ _ ?_
      have d1 : (3 * i + r) / 3 = i := by omega
      have d2 : (3 * i + r) % 3 = r := by omega
      by_cases hic : i < c
      · rw [List.getElem?_append_left (by rw [ptsV_len]; omega), ptsV_get (by omega)]
        unfold cellF catF
        rw [d1, d2]
        simp only [if_pos hic]
      · rw [List.getElem?_append_right (by rw [ptsV_len]; omega), ptsV_len, show 3 * i + r - c * 3 = 3 * (i - c) + r by omega, ptsV_get (by omega)]
        unfold cellF catF
        rw [show (3 * (i - c) + r) / 3 = i - c by omega, show (3 * (i - c) + r) % 3 = r by omega]
        simp only [if_neg hic]
    exact ⟨key 0 (by decide), key 1 (by decide), key 2 (by decide)⟩
theorem pts_news {w u : World} {a : Addr} {n cap : Nat} {X Y Z : Nat → Int} (hP : Pts w (.slice (some a) n cap) n X Y Z) (hb : Below w.heap.size w u) : ∀ j x, (ptsV X Y Z n)[j]? = some x → u.cell? (a.add j) = some x := by
  obtain ⟨_, ⟨h, _⟩ | ⟨a', cap', h, _, hc⟩⟩ := hP.mono hb
  · cases h
  · injection h with h1 h2 h3
    obtain rfl := Option.some.inj h1
    exact ptsV_cells hc
theorem own_start (u : World) (e : TypeId) (X Y Z : Nat → Int) : (u.alloc (.cells #[] e)).ownsRow u.heap.size e 3 (.slice (some ⟨u.heap.size, 0, none⟩) 0 0) 0 (ptsV X Y Z 0) :=
  ⟨rfl, .inr ⟨u.heap.size, 0, #[], rfl, Nat.le_refl _, heap_alloc_new u _, Nat.le_refl _, Nat.zero_le _, rfl, rfl⟩⟩
theorem Try.infoPoint : (Try.prog.info? 23).map (fun i => (i.zero, i.size, i.bytes)) = some (some (.agg #[.int .i64 0, .int .i64 0, .int .i64 0]), 3, 24) := by kernel_rfl

set_option maxRecDepth 100000 in
set_option maxHeartbeats 1000000 in
theorem swaps_early {v vm : Value} {n nm : Nat} {X Y Z Xm Ym Zm : Nat → Int} (i j k m : Int) {w : World} (hP : Pts w v n X Y Z) (hM : Pts w vm nm Xm Ym Zm) (h : 100 < n ∨ 20 < nm ∨ sgE n X Y Z i j k m ≠ 0) :
    Calls Try.prog 7 #[v, .int .i64 i, .int .i64 j, .int .i64 k, .int .i64 m, vm] w fun e w' => e = .returned (.bool true) ∧ Below w.heap.size w w' := by
  have SG := Lib.hid (signS_det i j k m hP)
  obtain ⟨o, cap, rfl, hn⟩ := hP.form
  obtain ⟨om, capm, rfl, hnm⟩ := hM.form
  unfold maxLen at hn hnm
  generalize sgV n X Y Z i j k m = s at *
  generalize sgE n X Y Z i j k m = E at *
  clear hP hM
  by_cases h1 : 100 < n
  · clear h
    go_enter Try.func7, Try.ntmps7
    go_wp2_with (first
      | (go_at_call 22; (with_reducible refine (SG.out).mono ?_); rintro e w1 ⟨rfl, hn⟩; (first | (replace hb := chain hb hn; clear hn hc hf) | (have hb := hn; clear hn)); obtain ⟨hc, hf⟩ := bcell hb)
      | (go_at_call 14; (with_reducible refine (awake2_any _).mono ?_); rintro e w1 ⟨rfl, hn⟩; (first | (replace hb := chain hb hn; clear hn hc hf) | (have hb := hn; clear hn)); obtain ⟨hc, hf⟩ := bcell hb))
    go_ret
    exact ⟨rfl, hb⟩
  · by_cases h2 : 20 < nm
    · clear h
      go_enter Try.func7, Try.ntmps7
      go_wp2_with (first
        | (go_at_call 22; (with_reducible refine (SG.out).mono ?_); rintro e w1 ⟨rfl, hn⟩; (first | (replace hb := chain hb hn; clear hn hc hf) | (have hb := hn; clear hn)); obtain ⟨hc, hf⟩ := bcell hb)
        | (go_at_call 14; (with_reducible refine (awake2_any _).mono ?_); rintro e w1 ⟨rfl, hn⟩; (first | (replace hb := chain hb hn; clear hn hc hf) | (have hb := hn; clear hn)); obtain ⟨hc, hf⟩ := bcell hb))
      go_ret
      exact ⟨rfl, hb⟩
    · have h3 : (E != 0) = true := by
        rcases h with h | h | h
        · exact absurd h h1
        · exact absurd h h2
        · simpa using h
      clear h
      go_enter Try.func7, Try.ntmps7
      go_wp2_with (first
        | (go_at_call 22; (with_reducible refine (SG.out).mono ?_); rintro e w1 ⟨rfl, hn⟩; (first | (replace hb := chain hb hn; clear hn hc hf) | (have hb := hn; clear hn)); obtain ⟨hc, hf⟩ := bcell hb)
        | (go_at_call 14; (with_reducible refine (awake2_any _).mono ?_); rintro e w1 ⟨rfl, hn⟩; (first | (replace hb := chain hb hn; clear hn hc hf) | (have hb := hn; clear hn)); obtain ⟨hc, hf⟩ := bcell hb))
      go_ret
      exact ⟨rfl, hb⟩

theorem below_own {w u u' : World} {v : Value} {e : TypeId} {n k base : Nat} {xs : List Value} (hB : Below w.heap.size w u) (hown : u.ownsRow base e n v k xs) (h : u.grownBy u' v.ownBlock) (hb : base ≤ u.heap.size) (hw : w.heap.size ≤ base) : Below w.heap.size w u' :=
  hB.grown h hB.size fun g hg => by
    rcases hown.2 with ⟨rfl, _⟩ | ⟨g', cap, cur, rfl, hg', _⟩
    · simp [Value.ownBlock] at hg
    · simp only [Value.ownBlock, Option.some.injEq] at hg
      omega
set_option maxRecDepth 100000 in
set_option maxHeartbeats 8000000 in
theorem swaps_main {v vm : Value} {n nm : Nat} {X Y Z Xm Ym Zm : Nat → Int} (i j k m : Int) {w : World} (hP : Pts w v n X Y Z) (hM : Pts w vm nm Xm Ym Zm) (h1 : n ≤ 100) (h2 : nm ≤ 20) (h3 : sgE n X Y Z i j k m = 0) :
    Calls Try.prog 7 #[v, .int .i64 i, .int .i64 j, .int .i64 k, .int .i64 m, vm] w fun e w' => e = .returned (.bool true) ∧ Below w.heap.size w w' := by
  have HP := Lib.hid hP
  have HM := Lib.hid hM
  obtain ⟨hs, ⟨t1, u1⟩, ⟨t2, u2⟩, ⟨t3, u3⟩, ⟨t4, u4⟩⟩ := sgV_swaps h3
  obtain ⟨m4, hx⟩ := sgV_exact h3
  obtain ⟨sh, she⟩ := sgV_shift (c := nm) (X' := Xm) (Y' := Ym) (Z' := Zm) h3
  have hok : okp n i j k m := by
    rcases sgE_cases n X Y Z i j k m with ⟨_, hok, _⟩ | ⟨_, e | e⟩
    · exact hok
    · rw [e] at h3; cases h3
    · rw [e] at h3; cases h3
  obtain ⟨⟨⟨a0, a1⟩, ⟨b0, b1⟩, ⟨c0, c1⟩, ⟨d0, d1⟩⟩, -⟩ := hok
  have hnpos : 0 < n := by omega
  have S0 := signS_det i j k m hP
  have S1 := Lib.hid (fun (u : World) (h : Below w.heap.size w u) => signS_det j i k m (hP.mono h))
  have S2 := Lib.hid (fun (u : World) (h : Below w.heap.size w u) => signS_det i k j m (hP.mono h))
  have S3 := Lib.hid (fun (u : World) (h : Below w.heap.size w u) => signS_det i j m k (hP.mono h))
  have S4 := Lib.hid (fun (u : World) (h : Below w.heap.size w u) => signS_det j k i m (hP.mono h))
  have S5 := Lib.hid (fun (u : World) (v' : Value) (h : Pts u v' (nm + n) (catF nm Xm X) (catF nm Ym Y) (catF nm Zm Z)) => signS_det (i + nm) (j + nm) (k + nm) (m + nm) h)
  have EX := Lib.hid (fun W => exact_yes m4 W)
  rw [h3] at S0
  rw [t1, u1] at S1
  rw [t2, u2] at S2
  rw [t3, u3] at S3
  rw [t4, u4] at S4
  rw [sh, she] at S5
  clear t1 u1 t2 u2 t3 u3 t4 u4 sh she m4 h3
  generalize sgV n X Y Z i j k m = s at *
  have S0 := Lib.hid S0
  generalize sg (detD (X i.toNat) (Y i.toNat) (Z i.toNat) (X j.toNat) (Y j.toNat) (Z j.toNat) (X k.toNat) (Y k.toNat) (Z k.toNat) (X m.toNat) (Y m.toNat) (Z m.toNat)) = x at *
  obtain ⟨hn0, ⟨rfl, rfl⟩ | ⟨a, cap, rfl, hab, hPc⟩⟩ := hP
  · omega
  have HPC := Lib.hid hPc
  have HAB := Lib.hid hab
  have hd : (decide (100 < (n : Int))) = false := by simp; omega
  have hd2 : (decide (20 < (nm : Int))) = false := by simp; omega
  clear hM hPc hab hn0
  have hsx : (s = 1 ∧ x = 0) ∨ (s = 1 ∧ x = 1) ∨ (s = -1 ∧ x = 0) ∨ (s = -1 ∧ x = -1) := by omega
  clear hs hx
  obtain ⟨i0, hI0, hz0, hz1, hz2⟩ := info_parts Try.infoPoint
  obtain ⟨-, ⟨rfl, rfl⟩ | ⟨am, capm, rfl, -, -⟩⟩ := HM.out
  · have S5b := S5.out
    rw [show ((0 : Nat) : Int) = 0 from rfl, Int.add_zero, Int.add_zero, Int.add_zero, Int.add_zero] at S5b
    have S5 := Lib.hid S5b
    clear S5b
    rcases hsx with ⟨rfl, rfl⟩ | ⟨rfl, rfl⟩ | ⟨rfl, rfl⟩ | ⟨rfl, rfl⟩
    all_goals
      go_enter Try.func7, Try.ntmps7
      go_wp2_with fail
      refine (S0.out).mono ?_
      rintro e w1 ⟨rfl, hb1⟩
      go_wp2_with fail
      refine (S1.out _ hb1).mono ?_
      rintro e w2 ⟨rfl, hn⟩
      replace hb1 := chain hb1 hn
      clear hn
      go_wp2_with fail
      refine (S2.out _ hb1).mono ?_
      rintro e w3 ⟨rfl, hn⟩
      replace hb1 := chain hb1 hn
      clear hn
      go_wp2_with fail
      refine (S3.out _ hb1).mono ?_
      rintro e w4 ⟨rfl, hn⟩
      replace hb1 := chain hb1 hn
      clear hn
      go_wp2_with fail
      refine (S4.out _ hb1).mono ?_
      rintro e W ⟨rfl, hn⟩
      replace hb1 := chain hb1 hn
      have HB := Lib.hid hb1
      clear hn
      obtain ⟨ki0, ki1, ki2⟩ := pt_cells HPC.out HAB.out hb1 (show i.toNat < n by omega)
      obtain ⟨kj0, kj1, kj2⟩ := pt_cells HPC.out HAB.out hb1 (show j.toNat < n by omega)
      obtain ⟨kk0, kk1, kk2⟩ := pt_cells HPC.out HAB.out hb1 (show k.toNat < n by omega)
      obtain ⟨km0, km1, km2⟩ := pt_cells HPC.out HAB.out hb1 (show m.toNat < n by omega)
      have kz : ∀ q, (a.add q).block < W.heap.size := fun q => by rw [add_block]; exact Nat.lt_of_lt_of_le HAB.out hb1.size
      have ki3 := kz (i.toNat * 3)
      have kj3 := kz (j.toNat * 3)
      have kk3 := kz (k.toNat * 3)
      have km3 := kz (m.toNat * 3)
      have KA : ∀ (k : More) (q : Nat), (kin W k).cell? (a.add q) = W.cell? (a.add q) := fun k q => (below_kin W k).cell (p := a.add q) (kz q)
      clear kz hb1
      go_wp2_with fail
      have KC := kin_cell W
      refine wp_region_kin_flat (by kernel_rfl) (by kernel_rfl) (by kernel_rfl) ?_
      repeat (go_big_quiet_step (first
        | (go_at_call 11; with_reducible refine quiet_kin (EX.out _))))
      refine wpQuiet_nil ?_
      clear KC
      intro _ hu_
      obtain ⟨k_, hu_⟩ := hu_
      have hk := below_kin W k_
      rw [← hu_] at hk
      clear hu_ k_
      rename World => u
      have HBU := Lib.hid (show w.heap.size ≤ u.heap.size from Nat.le_trans HB.out.size hk.size)
      have HA := Lib.hid (show Below w.heap.size w (u.alloc (.cells #[] 23)) from (HB.out.trans (hk.mono HB.out.size)).alloc HBU.out _)
      clear hk KA ki0 ki1 ki2 ki3 kj0 kj1 kj2 kj3 kk0 kk1 kk2 kk3 km0 km1 km2 km3
      go_wp2_with (first
        | (at_builtin; refine wpList_append_own_none rfl (.tmp 147) (.tmp 148) 42 rfl u.heap.size 23 i0 3 Try.underlying42 hI0 _ 0 (ptsV Xm Ym Zm 0) rfl (own_start u _ _ _ _) rfl ?_; have hown1 := own_start u 23 Xm Ym Zm; have hb2 := HA.out; have hbs : u.heap.size ≤ (u.alloc (.cells #[] 23)).heap.size := by simp)
        | (at_builtin; refine wpList_append_own _ rfl (.tmp 149) (.tmp 150) 42 rfl u.heap.size 23 i0 (.agg #[.int .i64 0, .int .i64 0, .int .i64 0]) 3 24 Try.underlying42 hI0 hz0 hz1 hz2 rfl (by decide) _ _ _ rfl hown1 a n cap (ptsV X Y Z n) rfl (ptsV_len _ _ _ _) (pts_news HP.out hb2) (ptsV_one _ _ _ _) (by unfold maxLen; omega) (by omega) hbs ?_; intro v2 w2 hown2 hgrow2 hnil2; have hb3 := below_own hb2 hown1 hgrow2 hbs HBU.out; clear hnil2 hgrow2))
      refine (S5.out _ _ (pts_own hown2 (by unfold maxLen; omega))).mono ?_
      rintro e w3 ⟨rfl, hn⟩
      have hb4 := chain hb3 hn
      clear hn hown2 hb3
      go_wp2_with fail
      refine (awake2_any _).mono ?_
      rintro e w4 ⟨rfl, hn⟩
      go_wp2_with fail
      go_ret
      exact ⟨rfl, chain hb4 hn⟩
  · rcases hsx with ⟨rfl, rfl⟩ | ⟨rfl, rfl⟩ | ⟨rfl, rfl⟩ | ⟨rfl, rfl⟩
    all_goals
      go_enter Try.func7, Try.ntmps7
      go_wp2_with fail
      refine (S0.out).mono ?_
      rintro e w1 ⟨rfl, hb1⟩
      go_wp2_with fail
      refine (S1.out _ hb1).mono ?_
      rintro e w2 ⟨rfl, hn⟩
      replace hb1 := chain hb1 hn
      clear hn
      go_wp2_with fail
      refine (S2.out _ hb1).mono ?_
      rintro e w3 ⟨rfl, hn⟩
      replace hb1 := chain hb1 hn
      clear hn
      go_wp2_with fail
      refine (S3.out _ hb1).mono ?_
      rintro e w4 ⟨rfl, hn⟩
      replace hb1 := chain hb1 hn
      clear hn
      go_wp2_with fail
      refine (S4.out _ hb1).mono ?_
      rintro e W ⟨rfl, hn⟩
      replace hb1 := chain hb1 hn
      have HB := Lib.hid hb1
      clear hn
      obtain ⟨ki0, ki1, ki2⟩ := pt_cells HPC.out HAB.out hb1 (show i.toNat < n by omega)
      obtain ⟨kj0, kj1, kj2⟩ := pt_cells HPC.out HAB.out hb1 (show j.toNat < n by omega)
      obtain ⟨kk0, kk1, kk2⟩ := pt_cells HPC.out HAB.out hb1 (show k.toNat < n by omega)
      obtain ⟨km0, km1, km2⟩ := pt_cells HPC.out HAB.out hb1 (show m.toNat < n by omega)
      have kz : ∀ q, (a.add q).block < W.heap.size := fun q => by rw [add_block]; exact Nat.lt_of_lt_of_le HAB.out hb1.size
      have ki3 := kz (i.toNat * 3)
      have kj3 := kz (j.toNat * 3)
      have kk3 := kz (k.toNat * 3)
      have km3 := kz (m.toNat * 3)
      have KA : ∀ (k : More) (q : Nat), (kin W k).cell? (a.add q) = W.cell? (a.add q) := fun k q => (below_kin W k).cell (p := a.add q) (kz q)
      clear kz hb1
      go_wp2_with fail
      have KC := kin_cell W
      refine wp_region_kin_flat (by kernel_rfl) (by kernel_rfl) (by kernel_rfl) ?_
      repeat (go_big_quiet_step (first
        | (go_at_call 11; with_reducible refine quiet_kin (EX.out _))))
      refine wpQuiet_nil ?_
      clear KC
      intro _ hu_
      obtain ⟨k_, hu_⟩ := hu_
      have hk := below_kin W k_
      rw [← hu_] at hk
      clear hu_ k_
      rename World => u
      have HBU := Lib.hid (show w.heap.size ≤ u.heap.size from Nat.le_trans HB.out.size hk.size)
      have HA := Lib.hid (show Below w.heap.size w (u.alloc (.cells #[] 23)) from (HB.out.trans (hk.mono HB.out.size)).alloc HBU.out _)
      clear hk KA ki0 ki1 ki2 ki3 kj0 kj1 kj2 kj3 kk0 kk1 kk2 kk3 km0 km1 km2 km3
      go_wp2_with (first
        | (at_builtin; refine wpList_append_own _ rfl (.tmp 147) (.tmp 148) 42 rfl u.heap.size 23 i0 (.agg #[.int .i64 0, .int .i64 0, .int .i64 0]) 3 24 Try.underlying42 hI0 hz0 hz1 hz2 rfl (by decide) _ 0 (ptsV Xm Ym Zm 0) rfl (own_start u _ _ _ _) am nm capm (ptsV Xm Ym Zm nm) rfl (ptsV_len _ _ _ _) (pts_news HM.out HA.out) (ptsV_one _ _ _ _) (by unfold maxLen; omega) (by omega) (by simp) ?_; intro v1 w1 hown1 hgrow1 hnil1; have hb2 := below_own HA.out (own_start u _ Xm Ym Zm) hgrow1 (by simp) HBU.out; have hbs := hgrow1.size; simp only [World.size_alloc] at hbs; replace hbs := Nat.le_of_succ_le hbs; rw [Nat.zero_add] at hown1; replace hown1 : w1.ownsRow u.heap.size 23 3 v1 nm (ptsV Xm Ym Zm nm) := hown1; clear hnil1 hgrow1)
        | (at_builtin; refine wpList_append_own _ rfl (.tmp 149) (.tmp 150) 42 rfl u.heap.size 23 i0 (.agg #[.int .i64 0, .int .i64 0, .int .i64 0]) 3 24 Try.underlying42 hI0 hz0 hz1 hz2 rfl (by decide) _ _ _ rfl hown1 a n cap (ptsV X Y Z n) rfl (ptsV_len _ _ _ _) (pts_news HP.out hb2) (ptsV_one _ _ _ _) (by unfold maxLen; omega) (by omega) hbs ?_; intro v2 w2 hown2 hgrow2 hnil2; have hb3 := below_own hb2 hown1 hgrow2 hbs HBU.out; clear hnil2 hgrow2))
      refine (S5.out _ _ (pts_own hown2 (by unfold maxLen; omega))).mono ?_
      rintro e w3 ⟨rfl, hn⟩
      have hb4 := chain hb3 hn
      clear hn hown2 hb3
      go_wp2_with fail
      refine (awake2_any _).mono ?_
      rintro e w4 ⟨rfl, hn⟩
      go_wp2_with fail
      go_ret
      exact ⟨rfl, chain hb4 hn⟩

theorem orientSwaps_any (i : Int) (_ : -9223372036854775808 ≤ i ∧ i ≤ 9223372036854775807) (j : Int) (_ : -9223372036854775808 ≤ j ∧ j ≤ 9223372036854775807) (k : Int) (_ : -9223372036854775808 ≤ k ∧ k ≤ 9223372036854775807) (m : Int) (_ : -9223372036854775808 ≤ m ∧ m ≤ 9223372036854775807) {v vm : Value} {n nm : Nat} {X Y Z Xm Ym Zm : Nat → Int} {w : World} (hP : Pts w v n X Y Z) (hM : Pts w vm nm Xm Ym Zm) :
    Calls Try.prog 7 #[v, .int .i64 i, .int .i64 j, .int .i64 k, .int .i64 m, vm] w fun e w' => e = .returned (.bool true) ∧ Below w.heap.size w w' := by
  by_cases h : 100 < n ∨ 20 < nm ∨ sgE n X Y Z i j k m ≠ 0
  · exact swaps_early i j k m hP hM h
  · exact swaps_main i j k m hP hM (by omega) (by omega) (by omega)
end Go.Proofs.Yteieeclflfbinaa
