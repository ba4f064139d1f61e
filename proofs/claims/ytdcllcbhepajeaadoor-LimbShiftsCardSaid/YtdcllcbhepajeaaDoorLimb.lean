/- The contracts of package limb's and the reference's sums: a pair of words stands for a whole number modulo 2^128. -/
import Derived.Test.YtdcllcbhepajeaaDoorBits
import Derived.WalkSpells
import Derived.WalkLawsBesides
import Derived.Lib.Hide
import Derived.Laws.BitsAllLaws
import Derived.Test.YtdcllcbhepajeaaDoorShelf
namespace Go.Proofs.YtdcllcbhepajeaaDoor
open Go.RowKit Go.Proofs
set_option linter.unusedVariables false

theorem bcell {W w1 : World} (hb : Below W.heap.size W w1) : (∀ b o, b < W.heap.size → w1.cell? ⟨b, o, none⟩ = W.cell? ⟨b, o, none⟩) ∧ (∀ b o, b < W.heap.size → w1.frozen? ⟨b, o, none⟩ = W.frozen? ⟨b, o, none⟩) :=
  ⟨fun b o h => hb.cell (p := ⟨b, o, none⟩) h, fun b o h => hb.frozen (p := ⟨b, o, none⟩) h⟩

theorem bcell3 {W w1 : World} (hb : Below W.heap.size W w1) : (∀ b o, b < W.heap.size → w1.cell? ⟨b, o, none⟩ = W.cell? ⟨b, o, none⟩) ∧ (∀ b o, b < W.heap.size → w1.frozen? ⟨b, o, none⟩ = W.frozen? ⟨b, o, none⟩) ∧ (∀ b, b < W.heap.size → b < w1.heap.size) :=
  ⟨fun b o h => hb.cell (p := ⟨b, o, none⟩) h, fun b o h => hb.frozen (p := ⟨b, o, none⟩) h, fun b h => Nat.lt_of_lt_of_le h hb.size⟩

theorem sz5 {w w1 : World} {a b c d e : Obj} (hb : Below (((((w.alloc a).alloc b).alloc c).alloc d).alloc e).heap.size (((((w.alloc a).alloc b).alloc c).alloc d).alloc e) w1) : w.heap.size < w1.heap.size ∧ w.heap.size + 1 < w1.heap.size ∧ w.heap.size + 1 + 1 < w1.heap.size ∧ w.heap.size + 1 + 1 + 1 < w1.heap.size ∧ w.heap.size + 1 + 1 + 1 + 1 < w1.heap.size := by
  have := hb.size; simp at this; omega
theorem undrew {X w1 : World} (h : Below X.drew.heap.size X.drew w1) : Below X.heap.size X w1 := ⟨h.os, h.tape, h.output, h.size, h.block⟩
/-- a block of two cells that has just been made, behind a call -/
theorem fresh2 {u w1 : World} {a b : Value} {t : TypeId} (hn : Below (u.alloc (.cells #[a, b] t)).heap.size (u.alloc (.cells #[a, b] t)) w1) :
    w1.cell? ⟨u.heap.size, 0, none⟩ = some a ∧ w1.cell? ⟨u.heap.size, 1, none⟩ = some b ∧ w1.frozen? ⟨u.heap.size, 0, none⟩ = false ∧ w1.frozen? ⟨u.heap.size, 1, none⟩ = false ∧ u.heap.size < w1.heap.size := by
  obtain ⟨hc, hf, hl⟩ := bcell3 hn
  have h : u.heap.size < (u.alloc (.cells #[a, b] t)).heap.size := by simp
  exact ⟨(hc _ 0 h).trans (by simp [go_sem]), (hc _ 1 h).trans (by simp [go_sem]), (hf _ 0 h).trans (by simp [go_sem]), (hf _ 1 h).trans (by simp [go_sem]), hl _ h⟩
theorem carry2 {u w1 : World} {g : Nat} {a b : Value} (h : u.cell? ⟨g, 0, none⟩ = some a ∧ u.cell? ⟨g, 1, none⟩ = some b ∧ u.frozen? ⟨g, 0, none⟩ = false ∧ u.frozen? ⟨g, 1, none⟩ = false ∧ g < u.heap.size)
    (hn : Below u.heap.size u w1) : w1.cell? ⟨g, 0, none⟩ = some a ∧ w1.cell? ⟨g, 1, none⟩ = some b ∧ w1.frozen? ⟨g, 0, none⟩ = false ∧ w1.frozen? ⟨g, 1, none⟩ = false ∧ g < w1.heap.size := by
  obtain ⟨hc, hf, hl⟩ := bcell3 hn
  obtain ⟨h0, h1, h2, h3, h4⟩ := h
  exact ⟨(hc _ 0 h4).trans h0, (hc _ 1 h4).trans h1, (hf _ 0 h4).trans h2, (hf _ 1 h4).trans h3, hl _ h4⟩

theorem chaina {A B C : World} {o : Obj} (h : Below A.heap.size A B) (k : Below (B.alloc o).heap.size (B.alloc o) C) : Below A.heap.size A C :=
  (h.alloc h.size _).trans (k.mono (Nat.le_trans h.size (by simp)))
theorem carry2a {u w1 : World} {g : Nat} {a b : Value} {o : Obj} (h : u.cell? ⟨g, 0, none⟩ = some a ∧ u.cell? ⟨g, 1, none⟩ = some b ∧ u.frozen? ⟨g, 0, none⟩ = false ∧ u.frozen? ⟨g, 1, none⟩ = false ∧ g < u.heap.size)
    (hn : Below (u.alloc o).heap.size (u.alloc o) w1) : w1.cell? ⟨g, 0, none⟩ = some a ∧ w1.cell? ⟨g, 1, none⟩ = some b ∧ w1.frozen? ⟨g, 0, none⟩ = false ∧ w1.frozen? ⟨g, 1, none⟩ = false ∧ g < w1.heap.size :=
  carry2 h (chaina (Below.refl _ _) hn)

/-- the result's block of two cells: it may be written -/
def RCell (u : World) (g : Nat) (a b : Value) : Prop := u.cell? ⟨g, 0, none⟩ = some a ∧ u.cell? ⟨g, 1, none⟩ = some b ∧ u.frozen? ⟨g, 0, none⟩ = false ∧ u.frozen? ⟨g, 1, none⟩ = false ∧ g < u.heap.size
theorem rcell_new (w : World) (a b : Value) (t : TypeId) : RCell (w.alloc (.cells #[a, b] t)) w.heap.size a b :=
  ⟨by simp [go_sem], by simp [go_sem], by simp [go_sem], by simp [go_sem], by simp⟩
theorem RCell.mono {u w1 : World} {g : Nat} {a b : Value} (h : RCell u g a b) (hn : Below u.heap.size u w1) : RCell w1 g a b := carry2 h hn

theorem ret_int {k : IntKind} {a b : Int} (h : a = b) : Ending.returned (.int k a) = .returned (.int k b) := by rw [h]
theorem ret_bool {a b : Bool} (h : a = b) : Ending.returned (.bool a) = .returned (.bool b) := by rw [h]

theorem bl1 {w w1 : World} {a : Obj} (hb : Below (w.alloc a).heap.size (w.alloc a) w1) : Below w.heap.size w w1 :=
  ((Below.refl _ _).alloc (Nat.le_refl _) _).trans (hb.mono (by simp))
theorem bl2 {w w1 : World} {a b : Obj} (hb : Below ((w.alloc a).alloc b).heap.size ((w.alloc a).alloc b) w1) : Below w.heap.size w w1 := bl1 ((Below.alloc (Below.refl _ _) (Nat.le_refl _) _).trans (hb.mono (by simp)))
theorem bl3 {w w1 : World} {a b c : Obj} (hb : Below (((w.alloc a).alloc b).alloc c).heap.size (((w.alloc a).alloc b).alloc c) w1) : Below w.heap.size w w1 := bl2 ((Below.alloc (Below.refl _ _) (Nat.le_refl _) _).trans (hb.mono (by simp)))
theorem bl4 {w w1 : World} {a b c d : Obj} (hb : Below ((((w.alloc a).alloc b).alloc c).alloc d).heap.size ((((w.alloc a).alloc b).alloc c).alloc d) w1) : Below w.heap.size w w1 := bl3 ((Below.alloc (Below.refl _ _) (Nat.le_refl _) _).trans (hb.mono (by simp)))
theorem bl5 {w w1 : World} {a b c d e : Obj} (hb : Below (((((w.alloc a).alloc b).alloc c).alloc d).alloc e).heap.size (((((w.alloc a).alloc b).alloc c).alloc d).alloc e) w1) : Below w.heap.size w w1 := bl4 ((Below.alloc (Below.refl _ _) (Nat.le_refl _) _).trans (hb.mono (by simp)))

/-! ### package limb -/

theorem of_any (n : Int) (h1 : -9223372036854775808 ≤ n) (h2 : n ≤ 9223372036854775807) (w : World) :
    Calls Tryd.prog 17 #[.int .i64 n] w fun e w' => e = .returned (.agg #[.int .i64 (hi n), .int .u64 (lo n)]) ∧ Below w.heap.size w w' := by
  have e1 : n / 9223372036854775808 = hi n := by unfold hi; omega
  have e2 : IntKind.u64.wrap n = lo n := by rw [IntKind.wrap_u64]; unfold lo; omega
  have E1 := Lib.hid e1
  have E2 := Lib.hid e2
  clear e1 e2
  go_enter Tryd.func17, Tryd.ntmps17
  go_wp2
  simp only [E1.out, E2.out]
  exact bodyPost_ret (v := .agg #[.int .i64 (hi n), .int .u64 (lo n)]) (by simp [results, Tryd.results17, go_sem]) rfl ⟨rfl, (Below.refl _ _).alloc (Nat.le_refl _) _⟩

theorem add_any {ah al bh bl : Int} (x y : Int) (ha : IsL ah al x) (hb : IsL bh bl y) (w : World) :
    Calls Tryd.prog 19 #[.agg #[.int .i64 ah, .int .u64 al], .agg #[.int .i64 bh, .int .u64 bl]] w fun e w' =>
      e = .returned (.agg #[.int .i64 (hi (x + y)), .int .u64 (lo (x + y))]) ∧ Below w.heap.size w w' := by
  obtain ⟨rfl, rfl⟩ := ha
  obtain ⟨rfl, rfl⟩ := hb
  obtain ⟨h1, h1'⟩ := hi_range x
  obtain ⟨h2, h2'⟩ := hi_range y
  obtain ⟨h3, h3'⟩ := lo_range x
  obtain ⟨h4, h4'⟩ := lo_range y
  have k0 : 0 ≤ (lo x + lo y) / 18446744073709551616 := by omega
  have k1 : (lo x + lo y) / 18446744073709551616 ≤ 1 := by omega
  have k2 : 0 ≤ IntKind.u64.wrap (hi x) := by rw [IntKind.wrap_u64]; omega
  have k3 : 0 ≤ IntKind.u64.wrap (hi y) := by rw [IntKind.wrap_u64]; omega
  go_enter Tryd.func19, Tryd.ntmps19
  go_wp2_with (first | simp only [add64_0 _ _ h3 h4] | simp only [add64 _ _ _ k2 k3 k0 k1])
  rw [hi_add, lo_add]
  exact bodyPost_ret (v := .agg #[.int .i64 (hi (x + y)), .int .u64 (lo (x + y))]) (by simp [results, Tryd.results19, go_sem]) rfl
    ⟨rfl, (((Below.refl _ _).alloc (Nat.le_refl _) _).alloc (by simp) _).alloc (by simp <;> omega) _⟩

theorem sub_any {ah al bh bl : Int} (x y : Int) (ha : IsL ah al x) (hb : IsL bh bl y) (w : World) :
    Calls Tryd.prog 21 #[.agg #[.int .i64 ah, .int .u64 al], .agg #[.int .i64 bh, .int .u64 bl]] w fun e w' =>
      e = .returned (.agg #[.int .i64 (hi (x - y)), .int .u64 (lo (x - y))]) ∧ Below w.heap.size w w' := by
  obtain ⟨rfl, rfl⟩ := ha
  obtain ⟨rfl, rfl⟩ := hb
  obtain ⟨h1, h1'⟩ := hi_range x
  obtain ⟨h2, h2'⟩ := hi_range y
  obtain ⟨h3, h3'⟩ := lo_range x
  obtain ⟨h4, h4'⟩ := lo_range y
  obtain ⟨k0, k1⟩ := bor_01 (lo x) (lo y)
  have h4'' : lo y < 18446744073709551616 := by omega
  have k2 : 0 ≤ IntKind.u64.wrap (hi x) := by rw [IntKind.wrap_u64]; omega
  have k3 : 0 ≤ IntKind.u64.wrap (hi y) := by rw [IntKind.wrap_u64]; omega
  have k4 : IntKind.u64.wrap (hi y) < 18446744073709551616 := by rw [IntKind.wrap_u64]; omega
  go_enter Tryd.func21, Tryd.ntmps21
  go_wp2_with (first | simp only [sub64_0 _ _ h3 h4 h4''] | simp only [sub64 _ _ _ k2 k3 k4 k0 k1])
  rw [hi_sub, lo_sub]
  exact bodyPost_ret (v := .agg #[.int .i64 (hi (x - y)), .int .u64 (lo (x - y))]) (by simp [results, Tryd.results21, go_sem]) rfl
    ⟨rfl, (((Below.refl _ _).alloc (Nat.le_refl _) _).alloc (by simp) _).alloc (by simp <;> omega) _⟩

theorem neg_any {ah al : Int} (x : Int) (ha : IsL ah al x) (w : World) :
    Calls Tryd.prog 23 #[.agg #[.int .i64 ah, .int .u64 al]] w fun e w' =>
      e = .returned (.agg #[.int .i64 (hi (-x)), .int .u64 (lo (-x))]) ∧ Below w.heap.size w w' := by
  go_enter Tryd.func23, Tryd.ntmps23
  go_wp2_with (go_at_call 21; refine (sub_any 0 x ⟨by decide, by decide⟩ ha _).mono ?_; rintro e w1 ⟨rfl, hb⟩; obtain ⟨hc, hf⟩ := bcell hb)
  exact bodyPost_ret (v := .agg #[.int .i64 (hi (-x)), .int .u64 (lo (-x))]) (by simp [results, Tryd.results23, go_sem, hc]) rfl
    ⟨rfl, ((bl2 hb).setCell (by simp) _).setCell (by simp) _⟩

theorem mul_hi_walk (x y : Int) : wrap64 (IntKind.u64.wrap (lo x * lo y / 18446744073709551616 + IntKind.u64.wrap (IntKind.u64.wrap (IntKind.u64.wrap (hi x) * lo y) + IntKind.u64.wrap (lo x * IntKind.u64.wrap (hi y))))) = hi (x * y) := by
  rw [← hi_of_rhi (x * y), rhi_mul, rhi_of_hi, rhi_of_hi]
  simp only [IntKind.wrap_u64]
  congr 1
  omega

theorem mul64 (x y : Int) (hx : 0 ≤ x) (hx' : x ≤ 18446744073709551615) (hy : 0 ≤ y) (hy' : y ≤ 18446744073709551615) (w : World) :
    Calls Tryd.prog 55 #[.int .u64 x, .int .u64 y] w fun e w' => e = .returned (.tuple #[.int .u64 (x * y / 18446744073709551616), .int .u64 (x * y % 18446744073709551616)]) ∧ w = w' := by
  obtain ⟨x, rfl⟩ := Int.eq_ofNat_of_zero_le hx
  obtain ⟨y, rfl⟩ := Int.eq_ofNat_of_zero_le hy
  refine (Tryd.bits_Mul64 x y (by omega) (by omega) w).mono ?_
  rintro e w' ⟨rfl, rfl⟩
  exact ⟨by simp, rfl⟩

theorem mul_any {ah al bh bl : Int} (x y : Int) (ha : IsL ah al x) (hb : IsL bh bl y) (w : World) :
    Calls Tryd.prog 37 #[.agg #[.int .i64 ah, .int .u64 al], .agg #[.int .i64 bh, .int .u64 bl]] w fun e w' =>
      e = .returned (.agg #[.int .i64 (hi (x * y)), .int .u64 (lo (x * y))]) ∧ Below w.heap.size w w' := by
  obtain ⟨rfl, rfl⟩ := ha
  obtain ⟨rfl, rfl⟩ := hb
  obtain ⟨h1, h1'⟩ := hi_range x
  obtain ⟨h2, h2'⟩ := hi_range y
  obtain ⟨h3, h3'⟩ := lo_range x
  obtain ⟨h4, h4'⟩ := lo_range y
  go_enter Tryd.func37, Tryd.ntmps37
  go_wp2_with (go_at_call 55; refine (mul64 _ _ h3 h3' h4 h4' _).mono ?_; rintro e w1 ⟨rfl, rfl⟩)
  rw [mul_hi_walk, lo_mul]
  exact bodyPost_ret (v := .agg #[.int .i64 (hi (x * y)), .int .u64 (lo (x * y))]) (by simp [results, Tryd.results37, go_sem]) rfl
    ⟨rfl, (((Below.refl _ _).alloc (Nat.le_refl _) _).alloc (by simp) _).alloc (by simp <;> omega) _⟩

theorem sz1 {w w1 : World} {a : Obj} (hb : Below (w.alloc a).heap.size (w.alloc a) w1) : w.heap.size < w1.heap.size := by
  have := hb.size; simp at this; omega
theorem sz2 {w w1 : World} {a b : Obj} (hb : Below ((w.alloc a).alloc b).heap.size ((w.alloc a).alloc b) w1) : w.heap.size < w1.heap.size ∧ w.heap.size + 1 < w1.heap.size := by
  have := hb.size; simp at this; omega
theorem sz3 {w w1 : World} {a b c : Obj} (hb : Below (((w.alloc a).alloc b).alloc c).heap.size (((w.alloc a).alloc b).alloc c) w1) : w.heap.size < w1.heap.size ∧ w.heap.size + 1 < w1.heap.size ∧ w.heap.size + 1 + 1 < w1.heap.size := by
  have := hb.size; simp at this; omega
theorem sz4 {w w1 : World} {a b c d : Obj} (hb : Below ((((w.alloc a).alloc b).alloc c).alloc d).heap.size ((((w.alloc a).alloc b).alloc c).alloc d) w1) : w.heap.size < w1.heap.size ∧ w.heap.size + 1 < w1.heap.size ∧ w.heap.size + 1 + 1 < w1.heap.size ∧ w.heap.size + 1 + 1 + 1 < w1.heap.size := by
  have := hb.size; simp at this; omega
/-! ### regions that draw their order: what stays, whatever has been made since the world W -/
theorem keep0 (W : World) : Below W.heap.size W W.drew ∧ ∀ b o, b < W.heap.size → W.drew.cell? ⟨b, o, none⟩ = W.cell? ⟨b, o, none⟩ := ⟨(Below.refl _ _).drew, fun _ _ _ => rfl⟩
theorem keep_call {W u w1 : World} (h : Below W.heap.size W u ∧ ∀ b o, b < W.heap.size → u.cell? ⟨b, o, none⟩ = W.cell? ⟨b, o, none⟩) (hn : Below u.heap.size u w1) :
    Below W.heap.size W w1 ∧ ∀ b o, b < W.heap.size → w1.cell? ⟨b, o, none⟩ = W.cell? ⟨b, o, none⟩ :=
  have k : Below W.heap.size W w1 := h.1.trans (hn.mono h.1.size)
  ⟨k, fun b o hb => k.cell (p := ⟨b, o, none⟩) hb⟩
theorem keep_sz {W u w1 : World} (h : Below W.heap.size W u ∧ ∀ b o, b < W.heap.size → u.cell? ⟨b, o, none⟩ = W.cell? ⟨b, o, none⟩) (hn : Below u.heap.size u w1) : W.heap.size ≤ w1.heap.size :=
  Nat.le_trans h.1.size hn.size
theorem keep_below {W u : World} (h : Below W.heap.size W u ∧ ∀ b o, b < W.heap.size → u.cell? ⟨b, o, none⟩ = W.cell? ⟨b, o, none⟩) : Below W.heap.size W u := h.1
theorem keep_alloc {W u : World} {o : Obj} (h : Below W.heap.size W u ∧ ∀ b o, b < W.heap.size → u.cell? ⟨b, o, none⟩ = W.cell? ⟨b, o, none⟩) :
    Below W.heap.size W (u.alloc o) ∧ ∀ b o', b < W.heap.size → (u.alloc o).cell? ⟨b, o', none⟩ = W.cell? ⟨b, o', none⟩ :=
  have k : Below W.heap.size W (u.alloc o) := h.1.alloc h.1.size _
  ⟨k, fun b o hb => k.cell (p := ⟨b, o, none⟩) hb⟩
theorem keep_re {W u : World} {o1 o2 : Obj} (h : Below W.heap.size W (u.alloc o1) ∧ ∀ b o, b < W.heap.size → (u.alloc o1).cell? ⟨b, o, none⟩ = W.cell? ⟨b, o, none⟩) (hz : W.heap.size ≤ u.heap.size) :
    Below W.heap.size W (u.alloc o2) ∧ ∀ b o, b < W.heap.size → (u.alloc o2).cell? ⟨b, o, none⟩ = W.cell? ⟨b, o, none⟩ :=
  have k0 : Below W.heap.size W u := ⟨h.1.os, h.1.tape, h.1.output, hz, fun b hb => (Below.heap_alloc u o1 b (by omega)).symm.trans (h.1.block b hb)⟩
  have k : Below W.heap.size W (u.alloc o2) := k0.alloc hz _
  ⟨k, fun b o hb => k.cell (p := ⟨b, o, none⟩) hb⟩
theorem keep_set {W u : World} {p : Addr} {v : Value} (h : Below W.heap.size W u ∧ ∀ b o, b < W.heap.size → u.cell? ⟨b, o, none⟩ = W.cell? ⟨b, o, none⟩) (hp : W.heap.size ≤ p.block) :
    Below W.heap.size W (u.setCell p v) ∧ ∀ b o', b < W.heap.size → (u.setCell p v).cell? ⟨b, o', none⟩ = W.cell? ⟨b, o', none⟩ :=
  have k : Below W.heap.size W (u.setCell p v) := h.1.setCell hp _
  ⟨k, fun b o hb => k.cell (p := ⟨b, o, none⟩) hb⟩
/-! ### the same, but for one block r that the region's last store writes -/
theorem kp0 {w W : World} {r : Nat} (h : Below w.heap.size w W) : (∀ b o, b < W.heap.size → b ≠ r → W.drew.cell? ⟨b, o, none⟩ = W.cell? ⟨b, o, none⟩) ∧ W.heap.size ≤ W.drew.heap.size ∧ Below w.heap.size w W.drew :=
  ⟨fun _ _ _ _ => rfl, Nat.le_refl _, h.drew⟩
theorem kp_of {w W u u' : World} {r : Nat} (h : (∀ b o, b < W.heap.size → b ≠ r → u.cell? ⟨b, o, none⟩ = W.cell? ⟨b, o, none⟩) ∧ W.heap.size ≤ u.heap.size ∧ Below w.heap.size w u)
    (hc : ∀ b, b < W.heap.size → b ≠ r → u'.heap[b]? = u.heap[b]?) (hs : W.heap.size ≤ u'.heap.size) (hB : Below w.heap.size w u') :
    (∀ b o, b < W.heap.size → b ≠ r → u'.cell? ⟨b, o, none⟩ = W.cell? ⟨b, o, none⟩) ∧ W.heap.size ≤ u'.heap.size ∧ Below w.heap.size w u' :=
  ⟨fun b o hb hr => (World.cell?_of_block (hc b hb hr)).trans (h.1 b o hb hr), hs, hB⟩
theorem kp_call {w W u w1 : World} {r : Nat} (h : (∀ b o, b < W.heap.size → b ≠ r → u.cell? ⟨b, o, none⟩ = W.cell? ⟨b, o, none⟩) ∧ W.heap.size ≤ u.heap.size ∧ Below w.heap.size w u) (hn : Below u.heap.size u w1) :
    (∀ b o, b < W.heap.size → b ≠ r → w1.cell? ⟨b, o, none⟩ = W.cell? ⟨b, o, none⟩) ∧ W.heap.size ≤ w1.heap.size ∧ Below w.heap.size w w1 :=
  kp_of h (fun b hb _ => hn.block b (Nat.lt_of_lt_of_le hb h.2.1)) (Nat.le_trans h.2.1 hn.size) (h.2.2.trans (hn.mono h.2.2.size))
theorem kp_sz {w W u w1 : World} {r : Nat} (h : (∀ b o, b < W.heap.size → b ≠ r → u.cell? ⟨b, o, none⟩ = W.cell? ⟨b, o, none⟩) ∧ W.heap.size ≤ u.heap.size ∧ Below w.heap.size w u) (hn : Below u.heap.size u w1) : W.heap.size ≤ w1.heap.size :=
  Nat.le_trans h.2.1 hn.size
theorem kp_szw {w W : World} (h : Below w.heap.size w W) : w.heap.size ≤ W.heap.size := h.size
theorem kp_below {w W u : World} {r : Nat} (h : (∀ b o, b < W.heap.size → b ≠ r → u.cell? ⟨b, o, none⟩ = W.cell? ⟨b, o, none⟩) ∧ W.heap.size ≤ u.heap.size ∧ Below w.heap.size w u) : Below w.heap.size w u := h.2.2
theorem kp_alloc {w W u : World} {r : Nat} {o : Obj} (h : (∀ b o, b < W.heap.size → b ≠ r → u.cell? ⟨b, o, none⟩ = W.cell? ⟨b, o, none⟩) ∧ W.heap.size ≤ u.heap.size ∧ Below w.heap.size w u) :
    (∀ b o', b < W.heap.size → b ≠ r → (u.alloc o).cell? ⟨b, o', none⟩ = W.cell? ⟨b, o', none⟩) ∧ W.heap.size ≤ (u.alloc o).heap.size ∧ Below w.heap.size w (u.alloc o) :=
  kp_of h (fun b hb _ => Below.heap_alloc u o b (Nat.lt_of_lt_of_le hb h.2.1)) (Nat.le_trans h.2.1 (by simp)) (h.2.2.alloc h.2.2.size _)
theorem kp_re {w W u : World} {r : Nat} {o1 o2 : Obj} (h : (∀ b o, b < W.heap.size → b ≠ r → (u.alloc o1).cell? ⟨b, o, none⟩ = W.cell? ⟨b, o, none⟩) ∧ W.heap.size ≤ (u.alloc o1).heap.size ∧ Below w.heap.size w (u.alloc o1)) (hz : W.heap.size ≤ u.heap.size) (hw : w.heap.size ≤ W.heap.size) :
    (∀ b o', b < W.heap.size → b ≠ r → (u.alloc o2).cell? ⟨b, o', none⟩ = W.cell? ⟨b, o', none⟩) ∧ W.heap.size ≤ (u.alloc o2).heap.size ∧ Below w.heap.size w (u.alloc o2) :=
  kp_of h (fun b hb _ => (Below.heap_alloc u o2 b (by omega)).trans (Below.heap_alloc u o1 b (by omega)).symm) (Nat.le_trans hz (by simp))
    ((show Below w.heap.size w u from ⟨h.2.2.os, h.2.2.tape, h.2.2.output, by omega, fun b hb => (Below.heap_alloc u o1 b (by omega)).symm.trans (h.2.2.block b hb)⟩).alloc (by omega) _)
theorem kp_set {w W u : World} {r pb po : Nat} {v : Value} (h : (∀ b o, b < W.heap.size → b ≠ r → u.cell? ⟨b, o, none⟩ = W.cell? ⟨b, o, none⟩) ∧ W.heap.size ≤ u.heap.size ∧ Below w.heap.size w u) (hp : pb = r ∨ W.heap.size ≤ pb) (hw : w.heap.size ≤ pb) :
    (∀ b o', b < W.heap.size → b ≠ r → (u.setCell ⟨pb, po, none⟩ v).cell? ⟨b, o', none⟩ = W.cell? ⟨b, o', none⟩) ∧ W.heap.size ≤ (u.setCell ⟨pb, po, none⟩ v).heap.size ∧ Below w.heap.size w (u.setCell ⟨pb, po, none⟩ v) :=
  kp_of h (fun b hb hr => Below.heap_setCell _ _ _ _ (by rcases hp with hp | hp; · exact fun e => hr (e.trans hp)
                                                         · exact fun e => absurd hb (by rw [e]; exact Nat.not_lt.2 hp))) (by simpa using h.2.1) (h.2.2.setCell hw _)
theorem chain {A B C : World} (h : Below A.heap.size A B) (k : Below B.heap.size B C) : Below A.heap.size A C := h.trans (k.mono h.size)

theorem prod_any (a b : Int) (h1 : -9223372036854775808 ≤ a) (h2 : a ≤ 9223372036854775807) (h3 : -9223372036854775808 ≤ b) (h4 : b ≤ 9223372036854775807) (w : World) :
    Calls Tryd.prog 36 #[.int .i64 a, .int .i64 b] w fun e w' =>
      e = .returned (.agg #[.int .i64 (hi (a * b)), .int .u64 (lo (a * b))]) ∧ Below w.heap.size w w' := by
  go_enter Tryd.func36, Tryd.ntmps36
  go_wp2_with fail
  refine (of_any a h1 h2 _).mono ?_
  rintro e w1 ⟨rfl, hb1⟩
  go_wp2_with fail
  refine (of_any b h3 h4 _).mono ?_
  rintro e w2 ⟨rfl, hb2⟩
  replace hb1 := chain hb1 hb2
  clear hb2
  go_wp2_with fail
  refine (mul_any a b ⟨rfl, rfl⟩ ⟨rfl, rfl⟩ _).mono ?_
  rintro e w3 ⟨rfl, hb3⟩
  replace hb1 := chain hb1 hb3
  clear hb3
  obtain ⟨hc, hf⟩ := bcell hb1
  go_wp2
  exact bodyPost_ret (v := .agg #[.int .i64 (hi (a * b)), .int .u64 (lo (a * b))]) (by simp [results, Tryd.results36, go_sem, hc]) rfl
    ⟨rfl, ((bl1 hb1).setCell (by simp) _).setCell (by simp) _⟩

theorem cmp_any {ah al bh bl : Int} (x y : Int) (ha : IsL ah al x) (hb : IsL bh bl y) (w : World) :
    Calls Tryd.prog 28 #[.agg #[.int .i64 ah, .int .u64 al], .agg #[.int .i64 bh, .int .u64 bl]] w fun e w' =>
      e = .returned (.int .i64 (cmp3 (sv x) (sv y))) ∧ Below w.heap.size w w' := by
  obtain ⟨rfl, rfl⟩ := ha
  obtain ⟨rfl, rfl⟩ := hb
  have B2 : ∀ a b : Obj, Below w.heap.size w ((w.alloc a).alloc b) := fun a b => bl2 (Below.refl _ _)
  by_cases h1 : hi x < hi y
  · have H := Lib.hid (cmp_lt h1)
    go_enter Tryd.func28, Tryd.ntmps28
    go_wp2
    go_ret
    exact ⟨ret_int H.out, B2 _ _⟩
  · have h4 : decide (hi x < hi y) = false := by simp; omega
    by_cases h2 : hi x = hi y
    · have h5 : (hi x == hi y) = true := by simp [h2]
      by_cases h3 : lo x < lo y
      · have H := Lib.hid (cmp_elt h2 h3)
        clear h2
        go_enter Tryd.func28, Tryd.ntmps28
        go_wp2
        go_ret
        exact ⟨ret_int H.out, B2 _ _⟩
      · have h6 : decide (lo x < lo y) = false := by simp; omega
        by_cases h7 : lo x = lo y
        · have H := Lib.hid (cmp_eq h2 h7)
          rw [h2, h7] at *
          clear h2 h7 h1 h3 
          go_enter Tryd.func28, Tryd.ntmps28
          go_wp2
          go_ret
          exact ⟨ret_int H.out, B2 _ _⟩
        · have H := Lib.hid (cmp_gt (x := x) (y := y) (.inr ⟨h2, by omega⟩))
          have h8 : (lo x == lo y) = false := by simp [h7]
          clear h2
          go_enter Tryd.func28, Tryd.ntmps28
          go_wp2
          go_ret
          exact ⟨ret_int H.out, B2 _ _⟩
    · have H := Lib.hid (cmp_gt (x := x) (y := y) (.inl (by omega)))
      have h5 : (hi x == hi y) = false := by simp [h2]
      go_enter Tryd.func28, Tryd.ntmps28
      go_wp2
      go_ret
      exact ⟨ret_int H.out, B2 _ _⟩

theorem sign_any {ah al : Int} (x : Int) (ha : IsL ah al x) (w : World) :
    Calls Tryd.prog 30 #[.agg #[.int .i64 ah, .int .u64 al]] w fun e w' =>
      e = .returned (.int .i64 (sg (sv x))) ∧ Below w.heap.size w w' := by
  go_enter Tryd.func30, Tryd.ntmps30
  go_wp2_with fail
  refine (cmp_any x 0 ha ⟨by decide, by decide⟩ _).mono ?_
  rintro e w1 ⟨rfl, hb1⟩
  obtain ⟨hc, hf⟩ := bcell hb1
  go_wp2
  go_ret
  exact ⟨rfl, bl1 hb1⟩

end Go.Proofs.YtdcllcbhepajeaaDoor
