/- Whole numbers as texts (plain): the form, the value, there and back. -/
import Derived.Test.YtoikfekalgkgoaaDoorParse
import Derived.Test.YtoikfekalgkgoaaDoorRef3
import Derived.Lib.AtoiAll
import Derived.Lib.AtoiAllCases
import Derived.Lib.ItoaNum
import Derived.Lib.ItoaMem
namespace Go.Proofs.YtoikfekalgkgoaaDoor.Ti
open Go.Proofs.YtoikfekalgkgoaaDoor Go.Lib
set_option linter.unusedVariables false

def dig (c : UInt8) : Prop := 48 ≤ c.toNat ∧ c.toNat ≤ 57
instance (c : UInt8) : Decidable (dig c) := inferInstanceAs (Decidable (_ ∧ _))
def nv (a : Nat) (D : List UInt8) : Nat := D.foldl (fun a c => a * 10 + (c.toNat - 48)) a
theorem nv_cons (a : Nat) (c : UInt8) (D : List UInt8) : nv a (c :: D) = nv (a * 10 + (c.toNat - 48)) D := by unfold nv; rw [List.foldl_cons]
theorem nv_snoc (a : Nat) (D : List UInt8) (c : UInt8) : nv a (D ++ [c]) = nv a D * 10 + (c.toNat - 48) := by unfold nv; rw [List.foldl_append, List.foldl_cons, List.foldl_nil]
theorem nv_ge (D : List UInt8) : ∀ a, a ≤ nv a D := by
  induction D with
  | nil => intro a; exact Nat.le_refl _
  | cons c D ih => intro a; rw [nv_cons]; have := ih (a * 10 + (c.toNat - 48)); omega
theorem u8_of (c : UInt8) (h : dig c) : UInt8.ofNat (48 + (c.toNat - 48)) = c := by
  have : 48 + (c.toNat - 48) = c.toNat := by unfold dig at h; omega
  rw [this]; exact UInt8.ofNat_toNat
theorem dec_small {u : Nat} (h : u < 10) : decDigits u = [UInt8.ofNat (48 + u)] := by rw [decDigits, dif_pos h]
theorem dec_big {u : Nat} (h : ¬ u < 10) : decDigits u = decDigits (u / 10) ++ [UInt8.ofNat (48 + u % 10)] := by rw [decDigits, dif_neg h]
/-- digits whose first is not 0 are those of their number -/
theorem dec_nv : ∀ (n : Nat) (D : List UInt8), D.length = n → ∀ c r, D = c :: r → (∀ x ∈ D, dig x) → 49 ≤ c.toNat → decDigits (nv 0 D) = D ∧ 1 ≤ nv 0 D := by
  intro n
  induction n using Nat.strongRecOn with
  | _ n ih =>
    intro D hn c r hD hd hc
    rcases List.eq_nil_or_concat r with hr | ⟨r', x, hr⟩
    · subst hr
      have h1 := hd c (by rw [hD]; simp)
      have e : nv 0 D = c.toNat - 48 := by rw [hD]; simp [nv]
      rw [e]
      unfold dig at h1
      exact ⟨by rw [dec_small (by omega), u8_of c h1, hD], by omega⟩
    · have hr : r = r' ++ [x] := by simpa using hr
      subst hr
      have hD' : D = (c :: r') ++ [x] := by rw [hD]; rfl
      obtain ⟨e1, e2⟩ := ih (c :: r').length (by rw [← hn, hD']; simp) (c :: r') rfl c r' rfl (fun y hy => hd y (by rw [hD']; exact List.mem_append_left _ hy)) hc
      have hx := hd x (by rw [hD']; simp)
      have hx' := hx
      unfold dig at hx'
      rw [hD', nv_snoc]
      refine ⟨?_, by omega⟩
      rw [dec_big (by omega), show (nv 0 (c :: r') * 10 + (x.toNat - 48)) / 10 = nv 0 (c :: r') by omega, show (nv 0 (c :: r') * 10 + (x.toNat - 48)) % 10 = x.toNat - 48 by omega, e1, u8_of x hx]
theorem toNat_ofNat48 {d : Nat} (h : d < 10) : (UInt8.ofNat (48 + d)).toNat = 48 + d := by
  rw [UInt8.toNat_ofNat']; omega
/-- the digits of a number: digits, the first one not 0 -/
theorem dec_is : ∀ (u : Nat), nv 0 (decDigits u) = u ∧ (∀ x ∈ decDigits u, dig x) ∧ ∃ c r, decDigits u = c :: r ∧ (1 ≤ u → 49 ≤ c.toNat) := by
  intro u
  induction u using Nat.strongRecOn with
  | _ u ih =>
    by_cases h : u < 10
    · rw [dec_small h]
      have e := toNat_ofNat48 h
      refine ⟨?_, ?_, _, _, rfl, ?_⟩
      · show 0 * 10 + ((UInt8.ofNat (48 + u)).toNat - 48) = u
        rw [e]; omega
      · intro x hx; rw [List.mem_singleton.1 hx]; unfold dig; rw [e]; omega
      · intro h1; rw [e]; omega
    · obtain ⟨e1, e2, c, r, e3, e4⟩ := ih (u / 10) (by omega)
      rw [dec_big h]
      have e := toNat_ofNat48 (d := u % 10) (by omega)
      refine ⟨?_, ?_, c, r ++ [UInt8.ofNat (48 + u % 10)], by rw [e3]; rfl, fun _ => e4 (by omega)⟩
      · rw [nv_snoc, e1, e]; omega
      · intro x hx
        rcases List.mem_append.1 hx with hx | hx
        · exact e2 x hx
        · rw [List.mem_singleton.1 hx]; unfold dig; rw [e]; omega
theorem pu_digits (D : List UInt8) : ∀ a, a < 18446744073709551616 → (∀ x ∈ D, dig x) → parseUint10 a D = if nv a D < 18446744073709551616 then .ok (nv a D) else .range := by
  induction D with
  | nil => intro a ha _; show NumEnd.ok a = _; rw [if_pos (show nv a [] < _ from ha)]; rfl
  | cons c D ih =>
    intro a ha hd
    have hc := hd c (by simp)
    have hc' := hc
    unfold dig at hc'
    rw [nv_cons]
    unfold parseUint10
    rw [if_pos hc']
    have hg := nv_ge D (a * 10 + (c.toNat - 48))
    split
    · rw [if_neg (by omega)]
    · split
      · rw [if_neg (by omega)]
      · exact ih _ (by omega) (fun x hx => hd x (by simp [hx]))

/-! ### the form -/
/-- behind the sign -/
def body (s : List UInt8) : List UInt8 := match s with
  | [] => []
  | c :: r => if c = 45 then r else s
def formed (s : List UInt8) : Bool := s == [48] || (match body s with
  | [] => false
  | c :: r => decide (49 ≤ c.toNat ∧ c.toNat ≤ 57) && r.all fun x => decide (dig x))
def inI (z : Int) : Prop := -9223372036854775808 ≤ z ∧ z ≤ 9223372036854775807
instance (z : Int) : Decidable (inI z) := inferInstanceAs (Decidable (_ ∧ _))
theorem formed_itoa (z : Int) : formed (itoa z) = true := by
  unfold itoa
  split
  · rename_i h
    obtain ⟨_, e2, c, r, e3, e4⟩ := dec_is z.natAbs
    unfold formed
    rw [e3]
    have h1 := e4 (by omega)
    have h2 := e2 c (by rw [e3]; simp)
    unfold dig at h2
    simp only [body, if_true, Bool.or_eq_true, Bool.and_eq_true, decide_eq_true_eq, List.all_eq_true]
    right
    exact ⟨⟨h1, h2.2⟩, fun x hx => e2 x (by rw [e3]; simp [hx])⟩
  · rename_i h
    by_cases h0 : z.toNat = 0
    · rw [h0, dec_small (by decide)]; rfl
    · obtain ⟨_, e2, c, r, e3, e4⟩ := dec_is z.toNat
      unfold formed
      rw [e3]
      have h1 := e4 (by omega)
      have h2 := e2 c (by rw [e3]; simp)
      unfold dig at h2
      have hc : ¬ c = 45 := by rintro rfl; revert h1; decide
      simp only [body, if_neg hc, Bool.or_eq_true, Bool.and_eq_true, decide_eq_true_eq, List.all_eq_true]
      right
      exact ⟨⟨h1, h2.2⟩, fun x hx => e2 x (by rw [e3]; simp [hx])⟩
theorem itoa_formed {s : List UInt8} (h : formed s = true) : ∃ z, itoa z = s ∧ (atoiAll s = if inI z then .ok z else .range) := by
  unfold formed at h
  simp only [Bool.or_eq_true, beq_iff_eq] at h
  rcases h with h | h
  · exact ⟨0, by rw [h]; kernel_rfl, by rw [h]; decide⟩
  · cases s with
    | nil => simp [body] at h
    | cons c r =>
      by_cases hc : c = 45
      · subst hc
        simp only [body, if_true] at h
        cases r with
        | nil => simp at h
        | cons d r =>
          simp only [Bool.and_eq_true, decide_eq_true_eq, List.all_eq_true] at h
          have hd : ∀ x ∈ d :: r, dig x := by
            intro x hx
            rcases List.mem_cons.1 hx with rfl | hx
            · unfold dig; omega
            · exact h.2 x hx
          obtain ⟨e1, e2⟩ := dec_nv _ (d :: r) rfl d r rfl hd h.1.1
          refine ⟨-(nv 0 (d :: r) : Int), by rw [itoa_neg _ e2, e1], ?_⟩
          rw [atoiAll_minus]
          unfold parseMag
          rw [if_neg (by simp), pu_digits _ 0 (by decide) hd]
          generalize nv 0 (d :: r) = u at *
          unfold signed
          by_cases h1 : u < 18446744073709551616
          · rw [if_pos h1]
            simp only
            by_cases h2 : 9223372036854775808 < u
            · rw [if_pos h2, if_neg (by unfold inI; omega)]
            · rw [if_neg h2, if_pos (by unfold inI; omega)]
          · rw [if_neg h1]
            simp only
            rw [if_neg (by unfold inI; omega)]
      · simp only [body, if_neg hc] at h
        simp only [Bool.and_eq_true, decide_eq_true_eq, List.all_eq_true] at h
        have hd : ∀ x ∈ c :: r, dig x := by
          intro x hx
          rcases List.mem_cons.1 hx with rfl | hx
          · unfold dig; omega
          · exact h.2 x hx
        obtain ⟨e1, e2⟩ := dec_nv _ (c :: r) rfl c r rfl hd h.1.1
        refine ⟨(nv 0 (c :: r) : Int), by rw [itoa_nonneg, e1], ?_⟩
        rw [atoiAll_plain c r (by omega) (by omega)]
        unfold parseMag
        rw [if_neg (by simp), pu_digits _ 0 (by decide) hd]
        generalize nv 0 (c :: r) = u at *
        unfold signless
        by_cases h1 : u < 18446744073709551616
        · rw [if_pos h1]
          simp only
          by_cases h2 : 9223372036854775808 ≤ u
          · rw [if_pos h2, if_neg (by unfold inI; omega)]
          · rw [if_neg h2, if_pos (by unfold inI; omega)]
        · rw [if_neg h1]
          simp only
          rw [if_neg (by unfold inI; omega)]
/-- what a text of an int says -/
def intL (s : List UInt8) : Option Int := if formed s = true then (match atoiAll s with
  | .ok v => some v
  | _ => none) else none
theorem itoa_inj {y z : Int} (h : itoa y = itoa z) : y = z := by
  have k : ∀ z : Int, z = if (itoa z).head? = some 45 then -(nv 0 ((itoa z).tail) : Int) else (nv 0 (itoa z) : Int) := by
    intro z
    unfold itoa
    split
    · obtain ⟨e1, _⟩ := dec_is z.natAbs
      simp only [List.head?_cons, if_true, List.tail_cons, e1]; omega
    · obtain ⟨e1, e2, c, r, e3, _⟩ := dec_is z.toNat
      have hc := e2 c (by rw [e3]; simp)
      rw [if_neg (by rw [e3]; intro hh; simp only [List.head?_cons, Option.some.injEq] at hh; subst hh; exact absurd hc (by decide)), e1]
      omega
  rw [k y, k z, h]
theorem intL_some {s : List UInt8} {z : Int} : intL s = some z ↔ itoa z = s ∧ inI z := by
  unfold intL
  constructor
  · intro h
    split at h
    · rename_i hf
      obtain ⟨y, e1, e2⟩ := itoa_formed hf
      rw [e2] at h
      by_cases hi : inI y
      · rw [if_pos hi] at h
        obtain rfl := Option.some.inj h
        exact ⟨e1, hi⟩
      · rw [if_neg hi] at h; cases h
    · cases h
  · rintro ⟨rfl, hi⟩
    have hf := formed_itoa z
    rw [if_pos hf]
    obtain ⟨y, e1, e2⟩ := itoa_formed hf
    obtain rfl := itoa_inj e1
    rw [e2, if_pos hi]
end Go.Proofs.YtoikfekalgkgoaaDoor.Ti
