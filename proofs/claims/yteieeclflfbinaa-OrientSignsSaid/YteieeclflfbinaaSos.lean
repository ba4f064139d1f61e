/- The plain law of the perturbed sign: the signs of the sorted quadruples of any list of places are those of points in space (whole numbers alone; no program in sight). -/
import Derived.Test.YteieeclflfbinaaLp
namespace Go.Proofs.Yteieeclflfbinaa.So
open Go.Proofs.Yteieeclflfbinaa
set_option linter.unusedVariables false

/-- a row of a determinant of four -/
structure Rw where
  x : Int
  y : Int
  z : Int
  w : Int
deriving DecidableEq

def d3 (a b c : Rw) : Int := a.x * (b.y * c.z - b.z * c.y) + a.y * (b.z * c.x - b.x * c.z) + a.z * (b.x * c.y - b.y * c.x)
def D4 (a b c d : Rw) : Int := d.w * d3 a b c - c.w * d3 a b d + b.w * d3 a c d - a.w * d3 b c d
/-- the row that a change lays -/
def un (k : Nat) : Rw := ⟨if k = 2 then 1 else 0, if k = 1 then 1 else 0, if k = 0 then 1 else 0, 0⟩
def lin (t : Int) (a u : Rw) : Rw := ⟨t * a.x + u.x, t * a.y + u.y, t * a.z + u.z, t * a.w + u.w⟩

theorem lin0 (t : Int) (u a b c d : Rw) : D4 (lin t a u) b c d = t * D4 a b c d + D4 u b c d := by unfold D4 d3 lin; grind
theorem lin1 (t : Int) (u a b c d : Rw) : D4 a (lin t b u) c d = t * D4 a b c d + D4 a u c d := by unfold D4 d3 lin; grind
theorem lin2 (t : Int) (u a b c d : Rw) : D4 a b (lin t c u) d = t * D4 a b c d + D4 a b u d := by unfold D4 d3 lin; grind
theorem lin3 (t : Int) (u a b c d : Rw) : D4 a b c (lin t d u) = t * D4 a b c d + D4 a b c u := by unfold D4 d3 lin; grind
theorem sw01 (a b c d : Rw) : D4 b a c d = - D4 a b c d := by unfold D4 d3; grind
theorem sw12 (a b c d : Rw) : D4 a c b d = - D4 a b c d := by unfold D4 d3; grind
theorem sw23 (a b c d : Rw) : D4 a b d c = - D4 a b c d := by unfold D4 d3; grind
theorem eq01 (a c d : Rw) : D4 a a c d = 0 := by unfold D4 d3; grind
theorem eq02 (a b d : Rw) : D4 a b a d = 0 := by unfold D4 d3; grind
theorem eq03 (a b c : Rw) : D4 a b c a = 0 := by unfold D4 d3; grind
theorem eq12 (a b d : Rw) : D4 a b b d = 0 := by unfold D4 d3; grind
theorem eq13 (a b c : Rw) : D4 a b c b = 0 := by unfold D4 d3; grind
theorem eq23 (a b c : Rw) : D4 a b c c = 0 := by unfold D4 d3; grind

/-! ### signs -/
theorem sg_pos {x : Int} (h : 0 < x) : sg x = 1 := by unfold sg cmp3; rw [if_neg (by omega), if_neg (by omega)]
theorem sg_ng {x : Int} (h : x < 0) : sg x = -1 := by unfold sg cmp3; rw [if_pos h]
theorem sg_0 : sg 0 = 0 := by decide
theorem sg_eq0 {x : Int} : sg x = 0 ↔ x = 0 := by
  rcases Int.lt_trichotomy x 0 with h | h | h
  · rw [sg_ng h]; omega
  · rw [h]; decide
  · rw [sg_pos h]; omega
theorem sg_opp (x : Int) : sg (-x) = - sg x := by
  rcases Int.lt_trichotomy x 0 with h | h | h
  · rw [sg_ng h, sg_pos (by omega)]; rfl
  · rw [h]; decide
  · rw [sg_pos h, sg_ng (by omega)]
theorem sg_mul (x y : Int) : sg (x * y) = sg x * sg y := by
  rcases Int.lt_trichotomy x 0 with h | h | h <;> rcases Int.lt_trichotomy y 0 with k | k | k
  · rw [sg_ng h, sg_ng k, sg_pos (Int.mul_pos_of_neg_of_neg h k)]; rfl
  · rw [k, Int.mul_zero]; simp [sg_0]
  · rw [sg_ng h, sg_pos k, sg_ng (Int.mul_neg_of_neg_of_pos h k)]; rfl
  · rw [h, Int.zero_mul]; simp [sg_0]
  · rw [h, Int.zero_mul]; simp [sg_0]
  · rw [h, Int.zero_mul]; simp [sg_0]
  · rw [sg_pos h, sg_ng k, sg_ng (Int.mul_neg_of_pos_of_neg h k)]; rfl
  · rw [k, Int.mul_zero]; simp [sg_0]
  · rw [sg_pos h, sg_pos k, sg_pos (Int.mul_pos h k)]; rfl
/-- a great number of one sign decides -/
theorem sg_great (M x y : Int) (hx : x ≠ 0) (hM : y.natAbs < M) : sg (M * x + y) = sg x := by
  rcases Int.lt_trichotomy x 0 with h | h | h
  · have : M * x ≤ M * (-1) := Int.mul_le_mul_of_nonneg_left (by omega) (by omega)
    rw [sg_ng h, sg_ng (by omega)]
  · exact absurd h hx
  · have : M * 1 ≤ M * x := Int.mul_le_mul_of_nonneg_left (by omega) (by omega)
    rw [sg_pos h, sg_pos (by omega)]

/-! ### rows by their numbers -/
def at4 (R : Nat → Rw) : Int := D4 (R 0) (R 1) (R 2) (R 3)
def put (R : Nat → Rw) (r : Nat) (u : Rw) : Nat → Rw := fun i => if i = r then u else R i
/-- the sign by the changes of the first b bits: the first one that is not 0 -/
def LL : Nat → (Nat → Rw) → Int
  | 0, R => sg (at4 R)
  | b + 1, R => if LL b R ≠ 0 then LL b R else if (R (b / 3)).w ≠ 0 then LL b (put R (b / 3) (un (b % 3))) else 0

/-! ### places in space -/
def pe (T : Nat → Int) : Nat → Nat → Rw → Rw
  | 0, _, a => a
  | n + 1, g, a => if n / 3 = g ∧ a.w ≠ 0 then lin (T n) (pe T n g a) (un (n % 3)) else pe T n g a
theorem pe_un (T : Nat → Int) (n g k : Nat) : pe T n g (un k) = un k := by
  induction n with
  | zero => rfl
  | succ n ih => unfold pe; rw [if_neg (fun h => h.2 rfl)]; exact ih
theorem pe_congr {T T' : Nat → Int} {n : Nat} (h : ∀ j, j < n → T j = T' j) (g : Nat) (a : Rw) : pe T n g a = pe T' n g a := by
  induction n with
  | zero => rfl
  | succ n ih => unfold pe; rw [ih fun j hj => h j (by omega), h n (by omega)]
def va (T : Nat → Int) (n : Nat) (g : Nat → Nat) (R : Nat → Rw) : Int := at4 fun i => pe T n (g i) (R i)
theorem va_congr {T T' : Nat → Int} {n : Nat} (h : ∀ j, j < n → T j = T' j) (g : Nat → Nat) (R : Nat → Rw) : va T n g R = va T' n g R := by
  unfold va at4
  simp only [pe_congr h]
theorem va_same (T : Nat → Int) (n : Nat) (g : Nat → Nat) (R : Nat → Rw) (h : ∀ r, r < 4 → ¬ (n / 3 = g r ∧ (R r).w ≠ 0)) : va T (n + 1) g R = va T n g R := by
  unfold va at4
  simp only [pe]
  rw [if_neg (h 0 (by omega)), if_neg (h 1 (by omega)), if_neg (h 2 (by omega)), if_neg (h 3 (by omega))]
/-- the places rise -/
def Up (g : Nat → Nat) : Prop := g 0 < g 1 ∧ g 1 < g 2 ∧ g 2 < g 3
theorem va_step (T : Nat → Int) (n : Nat) (g : Nat → Nat) (R : Nat → Rw) (hg : Up g) (r : Nat) (hr : r < 4) (h : n / 3 = g r) (hw : (R r).w ≠ 0) :
    va T (n + 1) g R = T n * va T n g R + va T n g (put R r (un (n % 3))) := by
  obtain ⟨h0, h1, h2⟩ := hg
  have k : ∀ i, i ≠ r → i < 4 → ¬ (n / 3 = g i ∧ (R i).w ≠ 0) := by
    intro i hi hi4 hh
    have e := h.symm.trans hh.1
    have q1 : r = 0 ∨ r = 1 ∨ r = 2 ∨ r = 3 := by omega
    have q2 : i = 0 ∨ i = 1 ∨ i = 2 ∨ i = 3 := by omega
    rcases q1 with rfl | rfl | rfl | rfl <;> rcases q2 with rfl | rfl | rfl | rfl <;> omega
  have : r = 0 ∨ r = 1 ∨ r = 2 ∨ r = 3 := by omega
  unfold va at4
  simp only [pe]
  rcases this with rfl | rfl | rfl | rfl
  · have hh : n / 3 = g 0 ∧ (R 0).w ≠ 0 := ⟨h, hw⟩
    rw [if_pos hh, if_neg (k 1 (by omega) (by omega)), if_neg (k 2 (by omega) (by omega)), if_neg (k 3 (by omega) (by omega)), lin0]
    simp [put, pe_un]
  · have hh : n / 3 = g 1 ∧ (R 1).w ≠ 0 := ⟨h, hw⟩
    rw [if_pos hh, if_neg (k 0 (by omega) (by omega)), if_neg (k 2 (by omega) (by omega)), if_neg (k 3 (by omega) (by omega)), lin1]
    simp [put, pe_un]
  · have hh : n / 3 = g 2 ∧ (R 2).w ≠ 0 := ⟨h, hw⟩
    rw [if_pos hh, if_neg (k 0 (by omega) (by omega)), if_neg (k 1 (by omega) (by omega)), if_neg (k 3 (by omega) (by omega)), lin2]
    simp [put, pe_un]
  · have hh : n / 3 = g 3 ∧ (R 3).w ≠ 0 := ⟨h, hw⟩
    rw [if_pos hh, if_neg (k 0 (by omega) (by omega)), if_neg (k 1 (by omega) (by omega)), if_neg (k 2 (by omega) (by omega)), lin3]
    simp [put, pe_un]

/-- how many of the bits before n are a row's own -/
def own (n g : Nat) : Nat := min 3 (n - 3 * g)
def bb (g : Nat → Nat) (n : Nat) : Nat := own n (g 0) + own n (g 1) + own n (g 2) + own n (g 3)
theorem bb_zero (g : Nat → Nat) : bb g 0 = 0 := by simp [bb, own]
theorem bb_end (g : Nat → Nat) (N : Nat) (hg : Up g) (h : g 3 < N) : bb g (3 * N) = 12 := by obtain ⟨h0, h1, h2⟩ := hg; unfold bb own; omega
theorem own_same (n g : Nat) (h : n / 3 ≠ g) : own (n + 1) g = own n g := by unfold own; omega
theorem bb_same (g : Nat → Nat) (n : Nat) (h : ∀ r, r < 4 → n / 3 ≠ g r) : bb g (n + 1) = bb g n := by
  unfold bb
  rw [own_same n _ (h 0 (by omega)), own_same n _ (h 1 (by omega)), own_same n _ (h 2 (by omega)), own_same n _ (h 3 (by omega))]
theorem bb_step (g : Nat → Nat) (n : Nat) (hg : Up g) (r : Nat) (hr : r < 4) (h : n / 3 = g r) : bb g (n + 1) = bb g n + 1 ∧ bb g n / 3 = r ∧ bb g n % 3 = n % 3 := by
  obtain ⟨h0, h1, h2⟩ := hg
  have : r = 0 ∨ r = 1 ∨ r = 2 ∨ r = 3 := by omega
  have e1 : ∀ a b c d r : Nat, a + b + c + d = 3 * r + n % 3 → r < 4 → (a + b + c + d) / 3 = r ∧ (a + b + c + d) % 3 = n % 3 := by intro a b c d r _ _; omega
  unfold bb own
  rcases this with rfl | rfl | rfl | rfl
  · exact ⟨by omega, e1 _ _ _ _ _ (by omega) hr⟩
  · exact ⟨by omega, e1 _ _ _ _ _ (by omega) hr⟩
  · exact ⟨by omega, e1 _ _ _ _ _ (by omega) hr⟩
  · exact ⟨by omega, e1 _ _ _ _ _ (by omega) hr⟩

theorem great (L : List Int) : ∃ M : Int, ∀ y ∈ L, y.natAbs < M := by
  induction L with
  | nil => exact ⟨0, fun y h => by cases h⟩
  | cons x L ih =>
    obtain ⟨M, hM⟩ := ih
    refine ⟨max M (x.natAbs + 1), fun y h => ?_⟩
    rcases List.mem_cons.1 h with rfl | h
    · omega
    · have := hM y h; omega

/-- there are scales under which every sign of a finite list of rows is the lexical one -/
theorem scales (n : Nat) : ∀ Cs : List ((Nat → Nat) × (Nat → Rw)), (∀ c ∈ Cs, Up c.1) → ∃ T : Nat → Int, ∀ c ∈ Cs, sg (va T n c.1 c.2) = LL (bb c.1 n) c.2 := by
  induction n with
  | zero => exact fun Cs _ => ⟨fun _ => 1, fun c _ => by rw [bb_zero]; rfl⟩
  | succ n ih =>
    intro Cs hup
    obtain ⟨T, hT⟩ := ih (Cs ++ Cs.map fun c => (c.1, put c.2 (bb c.1 n / 3) (un (bb c.1 n % 3)))) (fun c hc => by
      rcases List.mem_append.1 hc with hc | hc
      · exact hup c hc
      · obtain ⟨c', hc', rfl⟩ := List.mem_map.1 hc; exact hup c' hc')
    obtain ⟨M, hM⟩ := great (Cs.map fun c => va T n c.1 (put c.2 (bb c.1 n / 3) (un (bb c.1 n % 3))))
    refine ⟨fun j => if j = n then M else T j, fun c hc => ?_⟩
    have e : ∀ R, va (fun j => if j = n then M else T j) n c.1 R = va T n c.1 R := fun R => va_congr (fun j hj => if_neg (by omega)) _ _
    have h1 := hT c (List.mem_append.2 (.inl hc))
    have h2 := hT _ (List.mem_append.2 (.inr (List.mem_map.2 ⟨c, hc, rfl⟩)))
    have h3 := hM _ (List.mem_map.2 ⟨c, hc, rfl⟩)
    simp only at h2
    by_cases hr : ∃ r, r < 4 ∧ n / 3 = c.1 r
    · obtain ⟨r, hr, hn⟩ := hr
      obtain ⟨b1, b2, b3⟩ := bb_step c.1 n (hup c hc) r hr hn
      rw [b1, LL]
      rw [b2, b3] at h2 h3 ⊢
      by_cases hw : (c.2 r).w ≠ 0
      · rw [if_pos hw, va_step _ n c.1 c.2 (hup c hc) r hr hn hw, e, e, if_pos rfl, ← h1, ← h2]
        by_cases hv : va T n c.1 c.2 = 0
        · rw [hv, Int.mul_zero, Int.zero_add, if_neg (by simp [sg_0])]
        · rw [sg_great _ _ _ hv h3, if_pos (by rw [ne_eq, sg_eq0]; exact hv)]
      · rw [if_neg hw, va_same _ n c.1 c.2 (fun i hi hh => hw (by
          have ei := hn.symm.trans hh.1
          obtain ⟨u0, u1, u2⟩ := hup c hc
          have q1 : r = 0 ∨ r = 1 ∨ r = 2 ∨ r = 3 := by omega
          have q2 : i = 0 ∨ i = 1 ∨ i = 2 ∨ i = 3 := by omega
          have : r = i := by rcases q1 with rfl | rfl | rfl | rfl <;> rcases q2 with rfl | rfl | rfl | rfl <;> omega
          rw [this]; exact hh.2)), e, h1]
        split
        · rfl
        · rename_i h0; simpa using h0
    · have hr' : ∀ r, r < 4 → n / 3 ≠ c.1 r := fun r h1 h2 => hr ⟨r, h1, h2⟩
      rw [bb_same c.1 n hr', va_same _ n c.1 c.2 (fun r h hh => hr' r h hh.1), e, h1]

/-! ### there is always a change that decides -/
theorem LL_more {b : Nat} {R : Nat → Rw} (h : LL b R ≠ 0) : LL (b + 1) R = LL b R := by rw [LL, if_pos h]
theorem LL_take {b : Nat} {R : Nat → Rw} (h : LL b R ≠ 0 ∨ ((R (b / 3)).w ≠ 0 ∧ LL b (put R (b / 3) (un (b % 3))) ≠ 0)) : LL (b + 1) R ≠ 0 := by
  rw [LL]
  split
  · assumption
  · rename_i h0
    rcases h with h | ⟨h1, h2⟩
    · exact absurd h h0
    · rw [if_pos h1]; exact h2
theorem LL7 (R : Nat → Rw) (h : ∀ i, i < 4 → (R i).w = 1) : LL 7 R ≠ 0 := by
  refine LL_take (.inr ⟨by rw [h _ (by decide)]; decide, ?_⟩)
  refine LL_take (.inl ?_)
  refine LL_take (.inr ⟨by simp [put]; rw [h _ (by decide)]; decide, ?_⟩)
  refine LL_take (.inl ?_)
  refine LL_take (.inr ⟨by simp [put]; rw [h _ (by decide)]; decide, ?_⟩)
  refine LL_take (.inl ?_)
  refine LL_take (.inl ?_)
  rw [LL, ne_eq, sg_eq0]
  simp [at4, put, un, D4, d3]
  rw [h 3 (by decide)]
  decide
theorem LL12 (R : Nat → Rw) (h : ∀ i, i < 4 → (R i).w = 1) : LL 12 R = LL 7 R := by
  have h7 := LL7 R h
  rw [LL_more (b := 11), LL_more (b := 10), LL_more (b := 9), LL_more (b := 8), LL_more h7]
  · rw [LL_more h7]; exact h7
  · rw [LL_more (b := 8), LL_more h7]; exact h7
    rw [LL_more h7]; exact h7
  · rw [LL_more (b := 9), LL_more (b := 8), LL_more h7]; exact h7
    rw [LL_more h7]; exact h7
    rw [LL_more (b := 8), LL_more h7]; exact h7
    rw [LL_more h7]; exact h7
  · rw [LL_more (b := 10), LL_more (b := 9), LL_more (b := 8), LL_more h7]; exact h7
    rw [LL_more h7]; exact h7
    rw [LL_more (b := 8), LL_more h7]; exact h7
    rw [LL_more h7]; exact h7
    rw [LL_more (b := 9), LL_more (b := 8), LL_more h7]; exact h7
    rw [LL_more h7]; exact h7
    rw [LL_more (b := 8), LL_more h7]; exact h7
    rw [LL_more h7]; exact h7

/-- rows at four places -/
def q4 (a b c d : Nat) : Nat → Nat := fun i => if i = 0 then a else if i = 1 then b else if i = 2 then c else d
def r4 (a b c d : Rw) : Nat → Rw := fun i => if i = 0 then a else if i = 1 then b else if i = 2 then c else d

/-- THE LAW: there are points in space whose signs are those of the places -/
theorem real (row : Nat → Rw) (hw : ∀ i, (row i).w = 1) (Qs : List (Nat × Nat × Nat × Nat)) : ∃ V : Nat → Rw,
    ∀ q ∈ Qs, q.1 < q.2.1 → q.2.1 < q.2.2.1 → q.2.2.1 < q.2.2.2 →
      LL 7 (r4 (row q.1) (row q.2.1) (row q.2.2.1) (row q.2.2.2)) = sg (D4 (V q.1) (V q.2.1) (V q.2.2.1) (V q.2.2.2)) := by
  obtain ⟨N, hN⟩ : ∃ N, ∀ q ∈ Qs, q.2.2.2 < N := by
    induction Qs with
    | nil => exact ⟨0, fun q h => by cases h⟩
    | cons x L ih =>
      obtain ⟨N, hN⟩ := ih
      refine ⟨max N (x.2.2.2 + 1), fun q h => ?_⟩
      rcases List.mem_cons.1 h with rfl | h
      · omega
      · have := hN q h; omega
  obtain ⟨T, hT⟩ := scales (3 * N) ((Qs.filter fun q : Nat × Nat × Nat × Nat => decide (q.1 < q.2.1 ∧ q.2.1 < q.2.2.1 ∧ q.2.2.1 < q.2.2.2)).map fun q : Nat × Nat × Nat × Nat => (q4 q.1 q.2.1 q.2.2.1 q.2.2.2, r4 (row q.1) (row q.2.1) (row q.2.2.1) (row q.2.2.2))) (fun c hc => by
    obtain ⟨q, hq, rfl⟩ := List.mem_map.1 hc
    have := (List.mem_filter.1 hq).2
    simpa [Up, q4] using this)
  refine ⟨fun i => pe T (3 * N) i (row i), fun q hq h1 h2 h3 => ?_⟩
  have h := hT _ (List.mem_map.2 ⟨q, List.mem_filter.2 ⟨hq, by simpa using ⟨h1, h2, h3⟩⟩, rfl⟩)
  have hup : Up (q4 q.1 q.2.1 q.2.2.1 q.2.2.2) := by simpa [Up, q4] using ⟨h1, h2, h3⟩
  have h1' : ∀ i, i < 4 → (r4 (row q.1) (row q.2.1) (row q.2.2.1) (row q.2.2.2) i).w = 1 := by
    intro i hi
    unfold r4
    split
    · exact hw _
    · split
      · exact hw _
      · split <;> exact hw _
  rw [bb_end _ N hup (by simpa [q4] using hN q hq), LL12 _ h1'] at h
  rw [← h]
  rfl

/-- the relation of six points in space -/
theorem bond (a b c d e f : Rw) : D4 a b c d * D4 a b e f - D4 a b c e * D4 a b d f + D4 a b c f * D4 a b d e = 0 := by
  have key : ∀ u v : Rw, D4 a b u v =
      (a.x * b.y - a.y * b.x) * (u.z * v.w - u.w * v.z) - (a.x * b.z - a.z * b.x) * (u.y * v.w - u.w * v.y) + (a.x * b.w - a.w * b.x) * (u.y * v.z - u.z * v.y) +
      (a.y * b.z - a.z * b.y) * (u.x * v.w - u.w * v.x) - (a.y * b.w - a.w * b.y) * (u.x * v.z - u.z * v.x) + (a.z * b.w - a.w * b.z) * (u.x * v.y - u.y * v.x) := by
    intro u v; unfold D4 d3; grind
  have pl : (a.x * b.y - a.y * b.x) * (a.z * b.w - a.w * b.z) - (a.x * b.z - a.z * b.x) * (a.y * b.w - a.w * b.y) + (a.x * b.w - a.w * b.x) * (a.y * b.z - a.z * b.y) = 0 := by grind
  simp only [key]
  generalize a.x * b.y - a.y * b.x = p1 at *
  generalize a.z * b.w - a.w * b.z = p6 at *
  generalize a.x * b.z - a.z * b.x = p2 at *
  generalize a.y * b.w - a.w * b.y = p5 at *
  generalize a.x * b.w - a.w * b.x = p3 at *
  generalize a.y * b.z - a.z * b.y = p4 at *
  clear key
  have e : (p1 * (c.z * d.w - c.w * d.z) - p2 * (c.y * d.w - c.w * d.y) + p3 * (c.y * d.z - c.z * d.y) + p4 * (c.x * d.w - c.w * d.x) - p5 * (c.x * d.z - c.z * d.x) + p6 * (c.x * d.y - c.y * d.x)) *
        (p1 * (e.z * f.w - e.w * f.z) - p2 * (e.y * f.w - e.w * f.y) + p3 * (e.y * f.z - e.z * f.y) + p4 * (e.x * f.w - e.w * f.x) - p5 * (e.x * f.z - e.z * f.x) + p6 * (e.x * f.y - e.y * f.x)) -
      (p1 * (c.z * e.w - c.w * e.z) - p2 * (c.y * e.w - c.w * e.y) + p3 * (c.y * e.z - c.z * e.y) + p4 * (c.x * e.w - c.w * e.x) - p5 * (c.x * e.z - c.z * e.x) + p6 * (c.x * e.y - c.y * e.x)) *
        (p1 * (d.z * f.w - d.w * f.z) - p2 * (d.y * f.w - d.w * f.y) + p3 * (d.y * f.z - d.z * f.y) + p4 * (d.x * f.w - d.w * f.x) - p5 * (d.x * f.z - d.z * f.x) + p6 * (d.x * f.y - d.y * f.x)) +
      (p1 * (c.z * f.w - c.w * f.z) - p2 * (c.y * f.w - c.w * f.y) + p3 * (c.y * f.z - c.z * f.y) + p4 * (c.x * f.w - c.w * f.x) - p5 * (c.x * f.z - c.z * f.x) + p6 * (c.x * f.y - c.y * f.x)) *
        (p1 * (d.z * e.w - d.w * e.z) - p2 * (d.y * e.w - d.w * e.y) + p3 * (d.y * e.z - d.z * e.y) + p4 * (d.x * e.w - d.w * e.x) - p5 * (d.x * e.z - d.z * e.x) + p6 * (d.x * e.y - d.y * e.x)) =
      (p1 * p6 - p2 * p5 + p3 * p4) * D4 c d e f := by
    clear pl
    unfold D4 d3
    grind
  rw [e, pl, Int.zero_mul]
end Go.Proofs.Yteieeclflfbinaa.So
