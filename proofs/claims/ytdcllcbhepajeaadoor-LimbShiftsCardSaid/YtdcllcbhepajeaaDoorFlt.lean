/- Plain facts on binary64 data (no program in sight): what a datum is worth as a whole number over a power of two; sums, products, order; rounding. -/
import Ieee.Arith
namespace Go.Proofs.YtdcllcbhepajeaaDoor.Fl
open Ieee

/-! ### rounding a natural number to 53 bits -/

def rne (n k : Nat) : Nat := n / 2 ^ k + (decide (2 ^ k < 2 * (n % 2 ^ k)) || (2 ^ k == 2 * (n % 2 ^ k) && n / 2 ^ k % 2 == 1)).toNat

theorem two_pos (k : Nat) : 0 < 2 ^ k := Nat.two_pow_pos k

theorem cut_eq (neg : Bool) (n k : Nat) : Toward.even.cut neg n k = rne n k := by
  unfold Toward.cut rne
  by_cases h : k ≤ n.log2 + 2
  · rw [Nat.min_eq_left h, Nat.one_shiftLeft]
  · have hlt : n < 2 ^ (n.log2 + 1) := Nat.lt_log2_self
    have hm : min k (n.log2 + 2) = n.log2 + 2 := by omega
    have hk : 2 ^ (n.log2 + 2) ≤ 2 ^ k := Nat.pow_le_pow_right (by omega) (by omega)
    have h2 : 2 ^ (n.log2 + 2) = 2 * 2 ^ (n.log2 + 1) := by rw [Nat.pow_succ (m := n.log2 + 1)]; omega
    rw [hm, Nat.one_shiftLeft]
    have a1 : n / 2 ^ (n.log2 + 2) = 0 := Nat.div_eq_of_lt (by omega)
    have a2 : n % 2 ^ (n.log2 + 2) = n := Nat.mod_eq_of_lt (by omega)
    have a3 : n / 2 ^ k = 0 := Nat.div_eq_of_lt (by omega)
    have a4 : n % 2 ^ k = n := Nat.mod_eq_of_lt (by omega)
    simp only [a1, a2, a3, a4]
    have b1 : decide (2 ^ k < 2 * n) = false := by simp; omega
    have b2 : decide (2 ^ (n.log2 + 2) < 2 * n) = false := by simp; omega
    simp [b1, b2]

theorem rne_bounds (n k : Nat) : 2 * (rne n k * 2 ^ k) ≤ 2 * n + 2 ^ k ∧ 2 * n ≤ 2 * (rne n k * 2 ^ k) + 2 ^ k := by
  have hd := Nat.div_add_mod n (2 ^ k)
  have hr := Nat.mod_lt n (two_pos k)
  unfold rne
  generalize hq : n / 2 ^ k = q at *
  generalize hm : n % 2 ^ k = r at *
  generalize 2 ^ k = P at *
  have hc : P * q = q * P := Nat.mul_comm _ _
  by_cases c : P < 2 * r
  · simp only [c, decide_true, Bool.true_or, Bool.toNat_true]
    rw [Nat.add_mul]; omega
  · by_cases e : P = 2 * r ∧ q % 2 = 1
    · have : (decide (P < 2 * r) || (P == 2 * r && q % 2 == 1)) = true := by simp [e.1, e.2]
      rw [this]; simp only [Bool.toNat_true]; rw [Nat.add_mul]; omega
    · have : (decide (P < 2 * r) || (P == 2 * r && q % 2 == 1)) = false := by
        simp only [Bool.or_eq_false_iff, decide_eq_false_iff_not, Bool.and_eq_false_iff, beq_eq_false_iff_ne]
        refine ⟨c, ?_⟩
        by_cases h1 : P = 2 * r
        · right; intro h2; exact e ⟨h1, h2⟩
        · left; exact h1
      rw [this]; simp only [Bool.toNat_false, Nat.add_zero]; omega

theorem rne_le (n k : Nat) (h : n < 2 ^ (k + 53)) : rne n k ≤ 2 ^ 53 := by
  have h1 : n / 2 ^ k < 2 ^ 53 := by
    rw [Nat.div_lt_iff_lt_mul (two_pos k), ← Nat.pow_add, Nat.add_comm 53 k]; exact h
  unfold rne
  have : ∀ b : Bool, b.toNat ≤ 1 := by intro b; cases b <;> simp
  have := this (decide (2 ^ k < 2 * (n % 2 ^ k)) || (2 ^ k == 2 * (n % 2 ^ k) && n / 2 ^ k % 2 == 1))
  omega

theorem le_rne (n k : Nat) (h : 2 ^ (k + 52) ≤ n) : 2 ^ 52 ≤ rne n k := by
  have h1 : 2 ^ 52 ≤ n / 2 ^ k := by
    rw [Nat.le_div_iff_mul_le (two_pos k), ← Nat.pow_add, Nat.add_comm 52 k]; exact h
  unfold rne; omega

theorem rne_scale (n k a : Nat) : rne (n * 2 ^ a) (k + a) = rne n k := by
  unfold rne
  rw [Nat.pow_add, Nat.mul_div_mul_right _ _ (two_pos a), Nat.mul_mod_mul_right]
  have ha := two_pos a
  have e1 : (decide (2 ^ k * 2 ^ a < 2 * (n % 2 ^ k * 2 ^ a))) = decide (2 ^ k < 2 * (n % 2 ^ k)) := by
    rw [← Nat.mul_assoc]
    exact decide_eq_decide.2 (Nat.mul_lt_mul_right ha)
  have e2 : (2 ^ k * 2 ^ a == 2 * (n % 2 ^ k * 2 ^ a)) = (2 ^ k == 2 * (n % 2 ^ k)) := by
    rw [← Nat.mul_assoc, Bool.eq_iff_iff]
    simp only [beq_iff_eq]
    exact Nat.mul_right_cancel_iff ha
  rw [e1, e2]

theorem rne_zero (n : Nat) : rne n 0 = n := by
  unfold rne; simp [Nat.mod_one]

theorem rne_exact (m k : Nat) : rne (m * 2 ^ k) k = m := by
  have := rne_scale m 0 k
  rw [Nat.zero_add, rne_zero] at this
  exact this

def Rn (n : Nat) : Nat := if n.log2 ≤ 52 then n else rne n (n.log2 - 52) * 2 ^ (n.log2 - 52)

theorem log2_scale (n a : Nat) (h : n ≠ 0) : (n * 2 ^ a).log2 = n.log2 + a := by
  have hp := two_pos a
  have h0 : n * 2 ^ a ≠ 0 := Nat.mul_ne_zero h (by omega)
  rw [Nat.log2_eq_iff h0]
  have h1 := Nat.log2_self_le h
  have h2 : n < 2 ^ (n.log2 + 1) := Nat.lt_log2_self
  constructor
  · rw [Nat.pow_add]; exact Nat.mul_le_mul_right _ h1
  · rw [show n.log2 + a + 1 = (n.log2 + 1) + a by omega, Nat.pow_add]; exact (Nat.mul_lt_mul_right hp).2 h2

theorem Rn_zero : Rn 0 = 0 := by unfold Rn; simp

theorem Rn_scale (n a : Nat) : Rn (n * 2 ^ a) = Rn n * 2 ^ a := by
  by_cases h : n = 0
  · subst h; simp [Rn_zero]
  · unfold Rn
    rw [log2_scale n a h]
    by_cases c : n.log2 ≤ 52
    · rw [if_pos c]
      by_cases d : n.log2 + a ≤ 52
      · rw [if_pos d]
      · rw [if_neg d]
        have e : a = (a - (n.log2 + a - 52)) + (n.log2 + a - 52) := by omega
        have e2 : n * 2 ^ a = (n * 2 ^ (a - (n.log2 + a - 52))) * 2 ^ (n.log2 + a - 52) := by
          rw [Nat.mul_assoc, ← Nat.pow_add, ← e]
        rw [e2, rne_exact]
    · rw [if_neg c, if_neg (by omega)]
      rw [show n.log2 + a - 52 = (n.log2 - 52) + a by omega, rne_scale, Nat.pow_add, Nat.mul_assoc]

/-- half of the last place: at most 2^-53 of the number -/
theorem Rn_bounds (n : Nat) : 2 ^ 53 * Rn n ≤ 2 ^ 53 * n + n ∧ 2 ^ 53 * n ≤ 2 ^ 53 * Rn n + n := by
  unfold Rn
  by_cases c : n.log2 ≤ 52
  · rw [if_pos c]; omega
  · rw [if_neg c]
    have hb := rne_bounds n (n.log2 - 52)
    have h0 : n ≠ 0 := by intro h; subst h; simp at c
    have h1 := Nat.log2_self_le h0
    have h2 : 2 ^ n.log2 = 2 ^ 52 * 2 ^ (n.log2 - 52) := by rw [← Nat.pow_add]; congr 1; omega
    rw [h2] at h1
    generalize rne n (n.log2 - 52) * 2 ^ (n.log2 - 52) = x at *
    generalize 2 ^ (n.log2 - 52) = P at *
    omega

theorem Rn_small (n : Nat) (h : n < 2 ^ 53) : Rn n = n := by
  unfold Rn
  by_cases h0 : n = 0
  · subst h0; simp
  · have : n.log2 < 53 := (Nat.log2_lt h0).2 h
    rw [if_pos (by omega)]

theorem Rn_eq_zero (n : Nat) (h : Rn n = 0) : n = 0 := by
  have := Rn_bounds n
  rw [h] at this
  omega

/-! ### reading what 'nearest' writes -/

theorem double_sign : double.signWeight = 2 ^ 63 := by decide
theorem double_binade : double.binade = 2 ^ 52 := by decide
theorem double_inf : double.infRung = 2047 * 2 ^ 52 := by decide
theorem double_least : double.leastPlace = -1074 := by decide
theorem double_frac : double.fractionBits = 52 := rfl

theorem read_word (neg : Bool) (rung : Nat) (h : rung < 2047 * 2 ^ 52) (h1 : 2 ^ 52 ≤ rung) :
    double.read (double.word neg rung) = .number neg (2 ^ 52 + rung % 2 ^ 52) (-1074 + (rung / 2 ^ 52 - 1 : Nat)) := by
  unfold Format.read Format.word
  rw [double_sign, double_binade, double_inf, double_least]
  have hs : (if neg = true then 2 ^ 63 + rung else rung) / 2 ^ 63 % 2 = neg.toNat := by
    cases neg
    · simp only [Bool.false_eq_true, if_false, Bool.toNat_false]; omega
    · simp only [if_true, Bool.toNat_true]; omega
  have hr : (if neg = true then 2 ^ 63 + rung else rung) % 2 ^ 63 = rung := by
    cases neg
    · simp only [Bool.false_eq_true, if_false]; omega
    · simp only [if_true]; omega
  rw [hs, hr]
  have hb : (neg.toNat == 1) = neg := by cases neg <;> rfl
  rw [hb]
  simp only
  rw [if_neg (by omega), if_pos h]

theorem read_word_zero (neg : Bool) : double.read (double.word neg 0) = .number neg 0 (-1074) := by
  cases neg <;> decide

/-- the rung of a number that is neither too great nor too small -/
theorem nearest_word (neg : Bool) (mag : Nat) (place : Int) (h0 : mag ≠ 0) (hlo : -1022 ≤ place + mag.log2) (hhi : place + mag.log2 ≤ 1022) :
    ∃ kept : Nat, ∃ last : Int, last = place + mag.log2 - 52 ∧ double.nearest neg mag place = double.word neg ((last + 1074).toNat * 2 ^ 52 + kept) ∧
      2 ^ 52 ≤ kept ∧ kept ≤ 2 ^ 53 ∧ kept * 2 ^ (mag.log2 - 52) = Rn mag * 2 ^ (52 - mag.log2) ∧ kept = rne (mag * 2 ^ (52 - mag.log2)) (mag.log2 - 52) := by
  refine ⟨rne (mag * 2 ^ (52 - mag.log2)) (mag.log2 - 52), place + mag.log2 - 52, rfl, ?_⟩
  have hl1 := Nat.log2_self_le h0
  have hl2 : mag < 2 ^ (mag.log2 + 1) := Nat.lt_log2_self
  have hk1 : 2 ^ 52 ≤ rne (mag * 2 ^ (52 - mag.log2)) (mag.log2 - 52) := by
    apply le_rne
    have : 2 ^ (mag.log2 - 52 + 52) = 2 ^ mag.log2 * 2 ^ (52 - mag.log2) := by
      rw [← Nat.pow_add]; congr 1; omega
    rw [this]
    exact Nat.mul_le_mul_right _ hl1
  have hk2 : rne (mag * 2 ^ (52 - mag.log2)) (mag.log2 - 52) ≤ 2 ^ 53 := by
    apply rne_le
    have : 2 ^ (mag.log2 - 52 + 53) = 2 ^ (mag.log2 + 1) * 2 ^ (52 - mag.log2) := by
      rw [← Nat.pow_add]; congr 1; omega
    rw [this]
    exact (Nat.mul_lt_mul_right (two_pos _)).2 hl2
  refine ⟨?_, hk1, hk2, ?_, rfl⟩
  · unfold Format.nearest
    rw [if_neg h0]
    simp only [double_frac, double_least, double_binade, double_inf]
    have hmax : max (place + (mag.log2 : Int) - ((52 : Nat) : Int)) (-1074) = place + mag.log2 - 52 := by omega
    rw [hmax, cut_eq, Nat.shiftLeft_eq]
    have e1 : (place - (place + (mag.log2 : Int) - 52)).toNat = 52 - mag.log2 := by omega
    have e2 : (place + (mag.log2 : Int) - 52 - place).toNat = mag.log2 - 52 := by omega
    have e3 : (place + (mag.log2 : Int) - 52 - -1074) = place + (mag.log2 : Int) - 52 + 1074 := by omega
    rw [e1, e2, e3]
    congr 1
    apply Nat.min_eq_left
    generalize rne (mag * 2 ^ (52 - mag.log2)) (mag.log2 - 52) = x at *
    have : (place + (mag.log2 : Int) - 52 + 1074).toNat ≤ 2044 := by omega
    generalize (place + (mag.log2 : Int) - 52 + 1074).toNat = y at *
    omega
  · unfold Rn
    by_cases c : mag.log2 ≤ 52
    · rw [if_pos c, show mag.log2 - 52 = 0 by omega, rne_zero, Nat.pow_zero, Nat.mul_one]
    · rw [if_neg c, show 52 - mag.log2 = 0 by omega, Nat.pow_zero, Nat.mul_one, Nat.mul_one]

theorem read_nearest (neg : Bool) (mag : Nat) (place : Int) (h0 : mag ≠ 0) (hlo : -1022 ≤ place + mag.log2) (hhi : place + mag.log2 ≤ 1022) :
    ∃ (m : Nat) (e : Int) (a b : Nat), double.read (double.nearest neg mag place) = .number neg m e ∧ (a : Int) - b = e - place ∧ m * 2 ^ a = Rn mag * 2 ^ b := by
  obtain ⟨kept, last, hlast, hw, hk1, hk2, hv, _⟩ := nearest_word neg mag place h0 hlo hhi
  rw [hw]
  have hq : (last + 1074).toNat ≤ 2044 := by omega
  have hq' : ((last + 1074).toNat : Int) = last + 1074 := by omega
  rw [read_word neg _ (by omega) (by omega)]
  by_cases c : kept = 2 ^ 53
  · have e1 : ((last + 1074).toNat * 2 ^ 52 + kept) % 2 ^ 52 = 0 := by omega
    have e2 : ((last + 1074).toNat * 2 ^ 52 + kept) / 2 ^ 52 - 1 = (last + 1074).toNat + 1 := by omega
    rw [e1, e2]
    refine ⟨2 ^ 52 + 0, _, mag.log2 - 52 + 1, 52 - mag.log2, rfl, ?_, ?_⟩
    · omega
    · rw [← hv, c, Nat.pow_succ 2 (mag.log2 - 52)]
      generalize 2 ^ (mag.log2 - 52) = P
      omega
  · have e1 : 2 ^ 52 + ((last + 1074).toNat * 2 ^ 52 + kept) % 2 ^ 52 = kept := by omega
    have e2 : ((last + 1074).toNat * 2 ^ 52 + kept) / 2 ^ 52 - 1 = (last + 1074).toNat := by omega
    rw [e1, e2]
    exact ⟨kept, _, mag.log2 - 52, 52 - mag.log2, rfl, by omega, hv⟩

/-! ### the worth of a datum -/

def sgn (s : Bool) (m : Nat) : Int := if s then -(m : Int) else m

theorem signed_eq (s : Bool) (m u : Nat) : signed s m u = sgn s m * 2 ^ u := by
  unfold signed sgn
  rw [Nat.shiftLeft_eq]
  cases s <;> simp [Int.neg_mul]

/-- 'd' is the number 'n / 2^j' -/
def Val (d : Datum) (n : Int) (j : Int) : Prop :=
  ∃ s m e, d = .number s m e ∧ ∃ a b : Nat, (a : Int) - b = e + j ∧ sgn s m * 2 ^ a = n * 2 ^ b

theorem ipow_pos (k : Nat) : (0 : Int) < 2 ^ k := Int.pow_pos (by omega)

theorem rescale {x n : Int} {a b a' b' : Nat} (h : x * 2 ^ a = n * 2 ^ b) (e : (a : Int) - b = (a' : Int) - b') : x * 2 ^ a' = n * 2 ^ b' := by
  have hab : a + b' = a' + b := by omega
  have h1 : (x * 2 ^ a') * 2 ^ b = (n * 2 ^ b') * 2 ^ b := by
    rw [Int.mul_assoc, ← Int.pow_add, ← hab, Int.pow_add, ← Int.mul_assoc, h, Int.mul_assoc, Int.mul_assoc, Int.mul_comm (2 ^ b)]
  exact Int.eq_of_mul_eq_mul_right (by have := ipow_pos b; omega) h1

theorem Val.sum {x y : Datum} {p q j : Int} (hx : Val x p j) (hy : Val y q j) : ∃ d, x.sum y = some d ∧ Val d (p + q) j := by
  obtain ⟨s, m, i, rfl, a, b, hab, h⟩ := hx
  obtain ⟨t, n, k, rfl, c, d, hcd, g⟩ := hy
  refine ⟨_, rfl, _, _, _, rfl, (min i k + j).toNat, (-(min i k + j)).toNat, by omega, ?_⟩
  have e1 : sgn s m * 2 ^ ((i - min i k).toNat + (min i k + j).toNat) = p * 2 ^ (-(min i k + j)).toNat := rescale h (by omega)
  have e2 : sgn t n * 2 ^ ((k - min i k).toNat + (min i k + j).toNat) = q * 2 ^ (-(min i k + j)).toNat := rescale g (by omega)
  rw [signed_eq, signed_eq]
  have key : ∀ T : Int, sgn (if T = 0 then s && t else decide (T < 0)) T.natAbs = T := by
    intro T
    unfold sgn
    by_cases h0 : T = 0
    · subst h0; simp
    · rw [if_neg h0]
      by_cases h1 : T < 0
      · simp [h1]; omega
      · simp [h1]; omega
  have hk := key (sgn s m * 2 ^ (i - min i k).toNat + sgn t n * 2 ^ (k - min i k).toNat)
  rw [hk, Int.add_mul, Int.mul_assoc, Int.mul_assoc, ← Int.pow_add, ← Int.pow_add, e1, e2, Int.add_mul]

theorem Val.opposite {x : Datum} {p j : Int} (hx : Val x p j) : Val x.opposite (-p) j := by
  obtain ⟨s, m, i, rfl, a, b, hab, h⟩ := hx
  refine ⟨_, _, _, rfl, a, b, hab, ?_⟩
  have : sgn (!s) m = - sgn s m := by unfold sgn; cases s <;> simp
  rw [this, Int.neg_mul, h, Int.neg_mul]

theorem Val.product {x y : Datum} {p q j k : Int} (hx : Val x p j) (hy : Val y q k) : ∃ d, x.product y = some d ∧ Val d (p * q) (j + k) := by
  obtain ⟨s, m, i, rfl, a, b, hab, h⟩ := hx
  obtain ⟨t, n, l, rfl, c, d, hcd, g⟩ := hy
  refine ⟨_, rfl, _, _, _, rfl, a + c, b + d, by omega, ?_⟩
  have : sgn (s ^^ t) (m * n) = sgn s m * sgn t n := by
    unfold sgn
    cases s <;> cases t <;> simp [Int.natCast_mul, Int.neg_mul, Int.mul_neg]
  have e : ∀ A B C D : Int, A * B * (C * D) = (A * C) * (B * D) := by intro A B C D; ac_rfl
  rw [this, Int.pow_add, Int.pow_add, e, h, g]
  ac_rfl

theorem compare_scale {x y p q c d : Int} (hc : 0 < c) (hd : 0 < d) (h : x * c = p * d) (g : y * c = q * d) : compare x y = compare p q := by
  have l : x < y ↔ p < q := by
    constructor
    · intro hh; have := Int.mul_lt_mul_of_pos_right hh hc; rw [h, g] at this; exact Int.lt_of_mul_lt_mul_right this (by omega)
    · intro hh; have := Int.mul_lt_mul_of_pos_right hh hd; rw [← h, ← g] at this; exact Int.lt_of_mul_lt_mul_right this (by omega)
  have e : x = y ↔ p = q := by
    constructor
    · intro hh; subst hh; exact Int.eq_of_mul_eq_mul_right (by omega) (h.symm.trans g)
    · intro hh; subst hh; exact Int.eq_of_mul_eq_mul_right (by omega) (h.trans g.symm)
  show compareOfLessAndEq x y = compareOfLessAndEq p q
  unfold compareOfLessAndEq
  simp only [l, e]

theorem Val.order {x y : Datum} {p q j : Int} (hx : Val x p j) (hy : Val y q j) : x.order y = some (compare p q) := by
  obtain ⟨s, m, i, rfl, a, b, hab, h⟩ := hx
  obtain ⟨t, n, k, rfl, c, d, hcd, g⟩ := hy
  have e1 : sgn s m * 2 ^ ((i - min i k).toNat + (min i k + j).toNat) = p * 2 ^ (-(min i k + j)).toNat := rescale h (by omega)
  have e2 : sgn t n * 2 ^ ((k - min i k).toNat + (min i k + j).toNat) = q * 2 ^ (-(min i k + j)).toNat := rescale g (by omega)
  rw [Int.pow_add, ← Int.mul_assoc] at e1 e2
  show some (compare (signed s m (i - min i k).toNat) (signed t n (k - min i k).toNat)) = _
  rw [signed_eq, signed_eq, compare_scale (ipow_pos _) (ipow_pos _) e1 e2]

/-- the whole number that a sum, a product or a conversion comes to -/
def R (n : Int) : Int := sgn (decide (n < 0)) (Rn n.natAbs)

theorem R_neg (n : Int) : R (-n) = - R n := by
  unfold R sgn
  by_cases h : n = 0
  · subst h; simp [Rn_zero]
  · rw [Int.natAbs_neg]
    by_cases h1 : n < 0
    · rw [decide_eq_false (show ¬ (-n < 0) by omega), decide_eq_true h1]; simp
    · rw [decide_eq_true (show -n < 0 by omega), decide_eq_false h1]; simp

theorem R_bounds (n : Int) : 2 ^ 53 * (R n - n) ≤ n.natAbs ∧ -(n.natAbs : Int) ≤ 2 ^ 53 * (R n - n) := by
  have hb := Rn_bounds n.natAbs
  unfold R sgn
  by_cases h1 : n < 0
  · simp only [h1, decide_true, if_true]; omega
  · simp only [h1, decide_false, Bool.false_eq_true, if_false]; omega

theorem R_small (n : Int) (h : n.natAbs < 2 ^ 53) : R n = n := by
  unfold R sgn
  rw [Rn_small _ h]
  by_cases h1 : n < 0
  · simp [h1]; omega
  · simp [h1]; omega

theorem Val.write {x : Datum} {n j : Int} (hx : Val x n j) (hn : n.natAbs < 2 ^ 1000) (h0 : 0 ≤ j) (h1 : j ≤ 1000) : Val (double.read (double.write x)) (R n) j := by
  obtain ⟨s, m, e, rfl, a, b, hab, h⟩ := hx
  show Val (double.read (double.nearest s m e)) (R n) j
  have habs : m * 2 ^ a = n.natAbs * 2 ^ b := by
    have := congrArg Int.natAbs h
    rw [Int.natAbs_mul, Int.natAbs_mul, Int.natAbs_pow, Int.natAbs_pow] at this
    have hs : (sgn s m).natAbs = m := by unfold sgn; cases s <;> simp
    rw [hs] at this
    exact this
  by_cases hz : n = 0
  · subst hz
    have hm : m = 0 := by
      simp only [Int.natAbs_zero, Nat.zero_mul] at habs
      have := two_pos a
      rcases Nat.mul_eq_zero.1 habs with h | h
      · exact h
      · omega
    subst hm
    unfold Format.nearest
    rw [if_pos rfl, read_word_zero]
    refine ⟨_, _, _, rfl, (-1074 + j).toNat, (-(-1074 + j)).toNat, by omega, ?_⟩
    have : R 0 = 0 := by unfold R sgn; simp [Rn_zero]
    rw [this]; cases s <;> simp [sgn]
  · have hna : n.natAbs ≠ 0 := by omega
    have hm : m ≠ 0 := by
      intro hm; subst hm
      rw [Nat.zero_mul] at habs
      rcases Nat.mul_eq_zero.1 habs.symm with h | h
      · omega
      · have := two_pos b; omega
    have hl : m.log2 + a = n.natAbs.log2 + b := by
      rw [← log2_scale m a hm, habs, log2_scale _ _ hna]
    have hlt : n.natAbs.log2 < 1000 := (Nat.log2_lt hna).2 hn
    obtain ⟨m', e', a', b', hr, hd, hv⟩ := read_nearest s m e hm (by omega) (by omega)
    rw [hr]
    refine ⟨_, _, _, rfl, a' + a, b' + b, by omega, ?_⟩
    have hnat : m' * 2 ^ (a' + a) = Rn n.natAbs * 2 ^ (b' + b) := by
      rw [Nat.pow_add, ← Nat.mul_assoc, hv, Nat.mul_assoc, Nat.mul_comm (2 ^ b'), ← Nat.mul_assoc, ← Rn_scale, habs, Rn_scale, Nat.mul_assoc, ← Nat.pow_add, Nat.add_comm b]
    have hs : s = decide (n < 0) := by
      have p1 := ipow_pos a
      have p2 := ipow_pos b
      have hmp : (0 : Int) < m := by omega
      unfold sgn at h
      cases s
      · simp only [Bool.false_eq_true, if_false] at h
        have : 0 < n * 2 ^ b := by rw [← h]; exact Int.mul_pos hmp p1
        have : 0 < n := Int.pos_of_mul_pos_left this p2
        simp; omega
      · simp only [if_true] at h
        have : 0 < (-n) * 2 ^ b := by rw [Int.neg_mul, ← h, Int.neg_mul, Int.neg_neg]; exact Int.mul_pos hmp p1
        have : 0 < -n := Int.pos_of_mul_pos_left this p2
        simp; omega
    have hz : ((m' * 2 ^ (a' + a) : Nat) : Int) = ((Rn n.natAbs * 2 ^ (b' + b) : Nat) : Int) := by rw [hnat]
    simp only [Int.natCast_mul, Int.natCast_pow, Int.cast_ofNat_Int] at hz
    unfold R
    rw [← hs]
    unfold sgn
    cases s
    · simpa using hz
    · simp only [if_true, Int.neg_mul]
      exact congrArg Neg.neg hz

end Go.Proofs.YtdcllcbhepajeaaDoor.Fl
