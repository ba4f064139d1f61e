/- The plain law of the perturbed sign: the places sorted by swaps, the changes mask by mask (whole numbers alone; no program in sight). -/
import Derived.Test.YteieeclflfbinaaSos
namespace Go.Proofs.Yteieeclflfbinaa.So
open Go.Proofs.Yteieeclflfbinaa
set_option linter.unusedVariables false

/-! ### the first one that is not 0 -/
def FN (f : Nat → Int) : Nat → Int
  | 0 => 0
  | n + 1 => if FN f n ≠ 0 then FN f n else f n
theorem FN_keep {f : Nat → Int} {n : Nat} (h : FN f n ≠ 0) (k : Nat) : FN f (n + k) = FN f n := by
  induction k with
  | zero => rfl
  | succ k ih => rw [← Nat.add_assoc, FN, ih, if_pos h]
theorem FN_add (f : Nat → Int) (n k : Nat) : FN f (n + k) = if FN f n ≠ 0 then FN f n else FN (fun m => f (m + n)) k := by
  induction k with
  | zero => simp only [Nat.add_zero, FN]; split <;> simp_all
  | succ k ih =>
    rw [← Nat.add_assoc, FN, ih]
    by_cases h : FN f n ≠ 0
    · simp only [if_pos h]
    · simp only [if_neg h, FN, Nat.add_comm n k]
theorem FN_take {f : Nat → Int} {n : Nat} (h : f n ≠ 0) : FN f (n + 1) ≠ 0 := by
  rw [FN]; split <;> assumption
theorem FN_congr {f g : Nat → Int} {n : Nat} (h : ∀ m, m < n → f m = g m) : FN f n = FN g n := by
  induction n with
  | zero => rfl
  | succ n ih => rw [FN, FN, ih fun m hm => h m (by omega), h n (by omega)]

/-! ### a mask's sign, by its bits from the uppermost one -/
def Cc : Nat → Nat → (Nat → Rw) → Int
  | 0, _, R => sg (at4 R)
  | b + 1, m, R => if m / 2 ^ b % 2 = 1 then (if (R (b / 3)).w ≠ 0 then Cc b m (put R (b / 3) (un (b % 3))) else 0) else Cc b m R
theorem Cc_mod (b : Nat) : ∀ (m m' : Nat) (R : Nat → Rw), m % 2 ^ b = m' % 2 ^ b → Cc b m R = Cc b m' R := by
  induction b with
  | zero => intro m m' R _; rfl
  | succ b ih =>
    intro m m' R h
    have h1 : m % 2 ^ b = m' % 2 ^ b := by
      have e : ∀ x : Nat, x % 2 ^ b = x % 2 ^ (b + 1) % 2 ^ b := fun x => (Nat.mod_mod_of_dvd x (Nat.pow_dvd_pow 2 (Nat.le_succ b))).symm
      rw [e m, e m', h]
    have h2 : m / 2 ^ b % 2 = m' / 2 ^ b % 2 := by
      have e : ∀ x : Nat, x / 2 ^ b % 2 = x % 2 ^ (b + 1) / 2 ^ b := fun x => by rw [Nat.pow_succ, Nat.mod_mul_right_div_self]
      rw [e m, e m', h]
    rw [Cc, Cc, h2, ih m m' R h1, ih m m' _ h1]
theorem FN_Cc (b : Nat) : ∀ R, FN (fun m => Cc b m R) (2 ^ b) = LL b R := by
  induction b with
  | zero => intro R; show FN _ 1 = _; simp [FN, Cc, LL]
  | succ b ih =>
    intro R
    rw [show 2 ^ (b + 1) = 2 ^ b + 2 ^ b by omega, FN_add, LL]
    have e1 : FN (fun m => Cc (b + 1) m R) (2 ^ b) = LL b R := by
      rw [← ih R]
      refine FN_congr fun m hm => ?_
      simp only [Cc]
      rw [Nat.div_eq_of_lt hm]
      rfl
    have e2 : FN (fun m => Cc (b + 1) (m + 2 ^ b) R) (2 ^ b) = if (R (b / 3)).w ≠ 0 then LL b (put R (b / 3) (un (b % 3))) else 0 := by
      have hp : 0 < 2 ^ b := Nat.two_pow_pos b
      split
      · rename_i hw
        rw [← ih]
        refine FN_congr fun m hm => ?_
        simp only [Cc]
        rw [Nat.add_div_right _ hp, Nat.div_eq_of_lt hm, if_pos rfl, if_pos hw]
        exact Cc_mod b _ _ _ (by simp)
      · rename_i hw
        rw [FN_congr (g := fun _ => 0) fun m hm => by simp only [Cc]; rw [Nat.add_div_right _ hp, Nat.div_eq_of_lt hm, if_pos rfl, if_neg hw]]
        generalize 2 ^ b = k
        induction k with
        | zero => rfl
        | succ k ih => rw [FN, ih]; simp
    rw [e1, e2]

/-! ### a mask's rows, by its bits from the least one on, as the text has them; none: the mask is passed over -/
def stt (m : Nat) (R : Nat → Rw) : Nat → Option ((Nat → Rw) × (Nat → Bool))
  | 0 => some (R, fun _ => false)
  | j + 1 => match stt m R j with
    | none => none
    | some (S, has) => if m / 2 ^ j % 2 = 1 then (if (S (j / 3)).w = 0 ∨ has (j % 3) = true then none else some (put S (j / 3) (un (j % 3)), fun i => if i = j % 3 then true else has i)) else some (S, has)
def CV (m : Nat) (R : Nat → Rw) : Int := match stt m R 12 with
  | none => 0
  | some (S, _) => sg (at4 S)

theorem lt128 {m : Nat} (h : m < 128) : ∃ b0 b1 b2 b3 b4 b5 b6 : Nat, b0 < 2 ∧ b1 < 2 ∧ b2 < 2 ∧ b3 < 2 ∧ b4 < 2 ∧ b5 < 2 ∧ b6 < 2 ∧ m = b0 + 2 * b1 + 4 * b2 + 8 * b3 + 16 * b4 + 32 * b5 + 64 * b6 :=
  ⟨m % 2, m / 2 % 2, m / 4 % 2, m / 8 % 2, m / 16 % 2, m / 32 % 2, m / 64 % 2, by omega, by omega, by omega, by omega, by omega, by omega, by omega, by omega⟩

set_option maxHeartbeats 4000000 in
theorem CV_Cc (m : Nat) (h : m < 128) (a b c d : Rw) (ha : a.w = 1) (hb : b.w = 1) (hc : c.w = 1) (hd : d.w = 1) : CV m (r4 a b c d) = Cc 7 m (r4 a b c d) := by
  obtain ⟨b0, b1, b2, b3, b4, b5, b6, h0, h1, h2, h3, h4, h5, h6, rfl⟩ := lt128 h
  have t : ∀ x : Nat, x < 2 → x = 0 ∨ x = 1 := by omega
  rcases t b0 h0 with rfl | rfl <;> rcases t b1 h1 with rfl | rfl <;> rcases t b2 h2 with rfl | rfl <;> rcases t b3 h3 with rfl | rfl <;> rcases t b4 h4 with rfl | rfl <;> rcases t b5 h5 with rfl | rfl <;> rcases t b6 h6 with rfl | rfl
  all_goals simp [CV, stt, Cc, r4, put, un, at4, ha, hb, hc, eq01, eq02, eq12, sg_0]

theorem CV84 (a b c d : Rw) (ha : a.w = 1) (hb : b.w = 1) (hc : c.w = 1) (hd : d.w = 1) : CV 84 (r4 a b c d) = 1 := by
  rw [CV_Cc 84 (by decide) a b c d ha hb hc hd]
  simp [Cc, r4, put, un, at4, ha, hb, hc]
  simp [D4, d3, hd]
  decide

/-- the sign of four places that rise: the first change of 85 that decides -/
def sgn4 (a b c d : Rw) : Int := FN (fun m => CV m (r4 a b c d)) 85
theorem sgn4_LL (a b c d : Rw) (ha : a.w = 1) (hb : b.w = 1) (hc : c.w = 1) (hd : d.w = 1) : sgn4 a b c d = LL 7 (r4 a b c d) ∧ sgn4 a b c d ≠ 0 := by
  have h : sgn4 a b c d ≠ 0 := FN_take (by rw [CV84 a b c d ha hb hc hd]; decide)
  refine ⟨?_, h⟩
  have e : FN (fun m => CV m (r4 a b c d)) 128 = LL 7 (r4 a b c d) := by
    rw [← FN_Cc 7]
    exact FN_congr fun m hm => CV_Cc m hm a b c d ha hb hc hd
  rw [← e]
  exact (FN_keep h 43).symm

/-! ### the places sorted -/
/-- what a place and the next one come to, and the sign -/
def stp (k : Nat) (s : (Nat → Nat) × Int) : (Nat → Nat) × Int :=
  if s.1 (k + 1) < s.1 k then (fun i => if i = k then s.1 (k + 1) else if i = k + 1 then s.1 k else s.1 i, - s.2) else s
def steps (s : (Nat → Nat) × Int) : Nat → (Nat → Nat) × Int
  | 0 => s
  | n + 1 => stp (n % 3) (steps s n)
def D4p (V : Nat → Rw) (p : Nat → Nat) : Int := D4 (V (p 0)) (V (p 1)) (V (p 2)) (V (p 3))

theorem stp_inv (V : Nat → Rw) (k : Nat) (hk : k < 3) (s : (Nat → Nat) × Int) : (stp k s).2 * sg (D4p V (stp k s).1) = s.2 * sg (D4p V s.1) := by
  unfold stp
  split
  · have : k = 0 ∨ k = 1 ∨ k = 2 := by omega
    rcases this with rfl | rfl | rfl
    · simp [D4p, sw01 (V (s.1 0)) (V (s.1 1)) (V (s.1 2)) (V (s.1 3)), sg_opp, Int.neg_mul_neg]
    · simp [D4p, sw12 (V (s.1 0)) (V (s.1 1)) (V (s.1 2)) (V (s.1 3)), sg_opp, Int.neg_mul_neg]
    · simp [D4p, sw23 (V (s.1 0)) (V (s.1 1)) (V (s.1 2)) (V (s.1 3)), sg_opp, Int.neg_mul_neg]
  · rfl
theorem steps_inv (V : Nat → Rw) (s : (Nat → Nat) × Int) (n : Nat) : (steps s n).2 * sg (D4p V (steps s n).1) = s.2 * sg (D4p V s.1) := by
  induction n with
  | zero => rfl
  | succ n ih => rw [steps, stp_inv V _ (by omega), ih]

theorem stp_vals (k : Nat) (s : (Nat → Nat) × Int) : ∀ i, (stp k s).1 i = if i = k then min (s.1 k) (s.1 (k + 1)) else if i = k + 1 then max (s.1 k) (s.1 (k + 1)) else s.1 i := by
  intro i
  unfold stp
  split
  · simp only; split
    · omega
    · split <;> omega
  · split
    · subst ‹i = k›; omega
    · split
      · subst ‹i = k + 1›; omega
      · rfl
/-- the four places are unlike -/
def Un4 (p : Nat → Nat) : Prop := p 0 ≠ p 1 ∧ p 0 ≠ p 2 ∧ p 0 ≠ p 3 ∧ p 1 ≠ p 2 ∧ p 1 ≠ p 3 ∧ p 2 ≠ p 3
/-- one round of three swaps -/
theorem round_vals (s : (Nat → Nat) × Int) (n m : Nat) (hn : n % 3 = 0) (hm : m = n + 3) :
    ∃ x y : Nat, x = max ((steps s n).1 0) ((steps s n).1 1) ∧ y = max x ((steps s n).1 2) ∧
    (steps s m).1 0 = min ((steps s n).1 0) ((steps s n).1 1) ∧ (steps s m).1 1 = min x ((steps s n).1 2) ∧ (steps s m).1 2 = min y ((steps s n).1 3) ∧ (steps s m).1 3 = max y ((steps s n).1 3) := by
  subst hm
  refine ⟨_, _, rfl, rfl, ?_⟩
  have e0 : n % 3 = 0 := hn
  have e1 : (n + 1) % 3 = 1 := by omega
  have e2 : (n + 1 + 1) % 3 = 2 := by omega
  rw [show n + 3 = n + 1 + 1 + 1 from rfl]
  simp only [steps, e0, e1, e2, stp_vals]
  simp
theorem stp_un (k : Nat) (hk : k < 3) (s : (Nat → Nat) × Int) (h : Un4 s.1) : Un4 (stp k s).1 := by
  obtain ⟨u1, u2, u3, u4, u5, u6⟩ := h
  have : k = 0 ∨ k = 1 ∨ k = 2 := by omega
  unfold stp
  split
  · rcases this with rfl | rfl | rfl <;> simp only [Un4] <;> simp <;> omega
  · exact ⟨u1, u2, u3, u4, u5, u6⟩
theorem steps_un (s : (Nat → Nat) × Int) (n : Nat) (h : Un4 s.1) : Un4 (steps s n).1 := by
  induction n with
  | zero => exact h
  | succ n ih => exact stp_un _ (by omega) _ ih
theorem round1 {a b c d a' b' c' d' x y : Nat} (hx : x = max a b) (hy : y = max x c) (h0 : a' = min a b) (h1 : b' = min x c) (h2 : c' = min y d) (h3 : d' = max y d) : a' ≤ d' ∧ b' ≤ d' ∧ c' ≤ d' := by omega
theorem round2 {a b c d a' b' c' d' x y : Nat} (hx : x = max a b) (hy : y = max x c) (h0 : a' = min a b) (h1 : b' = min x c) (h2 : c' = min y d) (h3 : d' = max y d) (k1 : a ≤ d) (k2 : b ≤ d) (k3 : c ≤ d) : a' ≤ c' ∧ b' ≤ c' ∧ c' ≤ d' := by omega
theorem round3 {a b c d a' b' c' d' x y : Nat} (hx : x = max a b) (hy : y = max x c) (h0 : a' = min a b) (h1 : b' = min x c) (h2 : c' = min y d) (h3 : d' = max y d) (k1 : a ≤ c) (k2 : b ≤ c) (k3 : c ≤ d) : a' ≤ b' ∧ b' ≤ c' ∧ c' ≤ d' := by omega
theorem steps_sorted (p : Nat → Nat) (t : Int) (h : Un4 p) : (steps (p, t) 9).1 0 < (steps (p, t) 9).1 1 ∧ (steps (p, t) 9).1 1 < (steps (p, t) 9).1 2 ∧ (steps (p, t) 9).1 2 < (steps (p, t) 9).1 3 := by
  obtain ⟨x, y, hx, hy, a0, a1, a2, a3⟩ := round_vals (p, t) 0 3 rfl rfl
  obtain ⟨x', y', hx', hy', b0, b1, b2, b3⟩ := round_vals (p, t) 3 6 rfl rfl
  obtain ⟨x'', y'', hx'', hy'', c0, c1, c2, c3⟩ := round_vals (p, t) 6 9 rfl rfl
  obtain ⟨m1, m2, m3⟩ := round1 hx hy a0 a1 a2 a3
  obtain ⟨n1, n2, n3⟩ := round2 hx' hy' b0 b1 b2 b3 m1 m2 m3
  obtain ⟨o1, o2, o3⟩ := round3 hx'' hy'' c0 c1 c2 c3 n1 n2 n3
  obtain ⟨u1, u2, u3, u4, u5, u6⟩ := steps_un (p, t) 9 h
  exact ⟨Nat.lt_of_le_of_ne o1 u1, Nat.lt_of_le_of_ne o2 u4, Nat.lt_of_le_of_ne o3 u6⟩
theorem stp_from (k : Nat) (hk : k < 3) (s : (Nat → Nat) × Int) (C : Nat → Prop) (h : ∀ i, i < 4 → C (s.1 i)) : ∀ i, i < 4 → C ((stp k s).1 i) := by
  intro i hi
  unfold stp
  split
  · simp only
    split
    · exact h _ (by omega)
    · split
      · exact h _ (by omega)
      · exact h _ hi
  · exact h _ hi
/-- the sorted places are places that were given -/
theorem steps_from (s : (Nat → Nat) × Int) (n : Nat) (C : Nat → Prop) (h : ∀ i, i < 4 → C (s.1 i)) : ∀ i, i < 4 → C ((steps s n).1 i) := by
  induction n with
  | zero => exact h
  | succ n ih => exact stp_from _ (by omega) _ C ih
theorem steps_turn (s : (Nat → Nat) × Int) (n : Nat) (h : s.2 = 1 ∨ s.2 = -1) : (steps s n).2 = 1 ∨ (steps s n).2 = -1 := by
  induction n with
  | zero => exact h
  | succ n ih =>
    rw [steps, stp]
    split
    · simp only; omega
    · exact ih

/-- the sign of four unlike places of a list of rows -/
def signV (row : Nat → Rw) (i j k m : Nat) : Int :=
  let s := steps (q4 i j k m, 1) 9
  s.2 * sgn4 (row (s.1 0)) (row (s.1 1)) (row (s.1 2)) (row (s.1 3))

theorem sign_real (row : Nat → Rw) (hw : ∀ i, (row i).w = 1) (Qs : List (Nat × Nat × Nat × Nat)) : ∃ V : Nat → Rw,
    ∀ i j k m, (i, j, k, m) ∈ Qs → Un4 (q4 i j k m) → signV row i j k m = sg (D4 (V i) (V j) (V k) (V m)) ∧ (signV row i j k m = 1 ∨ signV row i j k m = -1) := by
  obtain ⟨S, hS⟩ : ∃ S : Nat → Nat → Nat → Nat → (Nat → Nat) × Int, ∀ i j k m, S i j k m = steps (q4 i j k m, 1) 9 := ⟨_, fun _ _ _ _ => rfl⟩
  have F1 : ∀ i j k m, Un4 (q4 i j k m) → (S i j k m).1 0 < (S i j k m).1 1 ∧ (S i j k m).1 1 < (S i j k m).1 2 ∧ (S i j k m).1 2 < (S i j k m).1 3 := fun i j k m h => by
    rw [hS]; exact steps_sorted _ 1 h
  have F2 : ∀ V i j k m, (S i j k m).2 * sg (D4p V (S i j k m).1) = sg (D4 (V i) (V j) (V k) (V m)) := fun V i j k m => by
    rw [hS, steps_inv]; simp [D4p, q4]
  have F3 : ∀ i j k m, (S i j k m).2 = 1 ∨ (S i j k m).2 = -1 := fun i j k m => by rw [hS]; exact steps_turn _ 9 (.inl rfl)
  have F4 : ∀ i j k m, signV row i j k m = (S i j k m).2 * sgn4 (row ((S i j k m).1 0)) (row ((S i j k m).1 1)) (row ((S i j k m).1 2)) (row ((S i j k m).1 3)) := fun i j k m => by
    rw [hS]; rfl
  clear hS
  obtain ⟨V, hV⟩ := real row hw (Qs.map fun q => ((S q.1 q.2.1 q.2.2.1 q.2.2.2).1 0, (S q.1 q.2.1 q.2.2.1 q.2.2.2).1 1, (S q.1 q.2.1 q.2.2.1 q.2.2.2).1 2, (S q.1 q.2.1 q.2.2.1 q.2.2.2).1 3))
  refine ⟨V, fun i j k m hq hu => ?_⟩
  obtain ⟨s0, s1, s2⟩ := F1 i j k m hu
  have h := hV _ (List.mem_map.2 ⟨_, hq, rfl⟩) s0 s1 s2
  have e := F2 V i j k m
  obtain ⟨l1, l2⟩ := sgn4_LL (row ((S i j k m).1 0)) (row ((S i j k m).1 1)) (row ((S i j k m).1 2)) (row ((S i j k m).1 3)) (hw _) (hw _) (hw _) (hw _)
  have et := F3 i j k m
  have eV : signV row i j k m = sg (D4 (V i) (V j) (V k) (V m)) := by
    rw [F4, l1, h]
    exact e
  refine ⟨eV, ?_⟩
  have hs : ∀ x : Int, sg x = 1 ∨ sg x = 0 ∨ sg x = -1 := by
    intro x
    rcases Int.lt_trichotomy x 0 with h | h | h
    · exact .inr (.inr (sg_ng h))
    · rw [h]; exact .inr (.inl rfl)
    · exact .inl (sg_pos h)
  have hn : signV row i j k m ≠ 0 := by
    rw [F4]
    intro h0
    rcases Int.mul_eq_zero.1 h0 with h0 | h0
    · omega
    · exact l2 h0
  rcases hs (D4 (V i) (V j) (V k) (V m)) with h | h | h
  · exact .inl (eV.trans h)
  · exact absurd (eV.trans h) hn
  · exact .inr (eV.trans h)
end Go.Proofs.Yteieeclflfbinaa.So
