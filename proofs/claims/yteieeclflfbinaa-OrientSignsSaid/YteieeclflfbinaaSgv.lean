/- The perturbed sign as two numbers: the sign, the error. -/
import Derived.Test.YteieeclflfbinaaSigns
namespace Go.Proofs.Yteieeclflfbinaa
open Go.RowKit Go.Proofs
set_option linter.unusedVariables false

/-- the sign that Sign tells, or 0 -/
def sgV (n : Nat) (X Y Z : Nat → Int) (i j k m : Int) : Int :=
  if okp n i j k m then (if (mayP X Y Z i.toNat && mayP X Y Z j.toNat && mayP X Y Z k.toNat && mayP X Y Z m.toNat) = true then So.signV (rowOf X Y Z) i.toNat j.toNat k.toNat m.toNat else 0) else 0
/-- the error that Sign tells -/
def sgE (n : Nat) (X Y Z : Nat → Int) (i j k m : Int) : Int :=
  if okp n i j k m then (if (mayP X Y Z i.toNat && mayP X Y Z j.toNat && mayP X Y Z k.toNat && mayP X Y Z m.toNat) = true then 0 else 20) else 21
theorem sgE_cases (n : Nat) (X Y Z : Nat → Int) (i j k m : Int) : (sgE n X Y Z i j k m = 0 ∧ okp n i j k m ∧ (mayP X Y Z i.toNat && mayP X Y Z j.toNat && mayP X Y Z k.toNat && mayP X Y Z m.toNat) = true ∧ sgV n X Y Z i j k m = So.signV (rowOf X Y Z) i.toNat j.toNat k.toNat m.toNat) ∨
    (sgV n X Y Z i j k m = 0 ∧ (sgE n X Y Z i j k m = 20 ∨ sgE n X Y Z i j k m = 21)) := by
  unfold sgE sgV
  by_cases h : okp n i j k m
  · by_cases h2 : (mayP X Y Z i.toNat && mayP X Y Z j.toNat && mayP X Y Z k.toNat && mayP X Y Z m.toNat) = true
    · left; simp only [if_pos h, if_pos h2]; exact ⟨trivial, h, h2, trivial⟩
    · right; simp only [if_pos h, if_neg h2]; exact ⟨trivial, .inl trivial⟩
  · right; simp only [if_neg h]; exact ⟨trivial, .inr trivial⟩
theorem signS_det {v : Value} {n : Nat} {X Y Z : Nat → Int} (i j k m : Int) {w : World} (h : Pts w v n X Y Z) :
    Calls Try.prog 22 #[v, .int .i64 i, .int .i64 j, .int .i64 k, .int .i64 m] w fun e w' => e = .returned (.tuple #[.int .i64 (sgV n X Y Z i j k m), .int .i64 (sgE n X Y Z i j k m)]) ∧ Below w.heap.size w w' := by
  refine (signS_any i j k m h).mono fun e w' ⟨hs, hb⟩ => ⟨?_, hb⟩
  rcases hs with ⟨h1, rfl⟩ | ⟨h1, h2, rfl⟩ | ⟨h1, h2, rfl⟩
  · unfold sgV sgE; rw [if_neg h1, if_neg h1]
  · unfold sgV sgE; rw [if_pos h1, if_pos h1, if_neg (by rw [h2]; decide), if_neg (by rw [h2]; decide)]
  · unfold sgV sgE; rw [if_pos h1, if_pos h1, if_pos h2, if_pos h2]
theorem Pts.mono {u u1 : World} {v : Value} {n : Nat} {X Y Z : Nat → Int} (h : Pts u v n X Y Z) (hn : Below u.heap.size u u1) : Pts u1 v n X Y Z := by
  obtain ⟨h0, h1⟩ := h
  refine ⟨h0, h1.imp id ?_⟩
  rintro ⟨a, cap, hv, ha, hc⟩
  refine ⟨a, cap, hv, Nat.lt_of_lt_of_le ha hn.size, fun i hi => ?_⟩
  obtain ⟨c0, c1, c2⟩ := hc i hi
  exact ⟨(hn.cell (by rw [add_block]; exact ha)).trans c0, (hn.cell (by rw [add_block]; exact ha)).trans c1, (hn.cell (by rw [add_block]; exact ha)).trans c2⟩
theorem Pts.form {u : World} {v : Value} {n : Nat} {X Y Z : Nat → Int} (h : Pts u v n X Y Z) : ∃ (o : Option Addr) (cap : Nat), v = .slice o n cap ∧ n ≤ maxLen := by
  obtain ⟨h0, ⟨rfl, rfl⟩ | ⟨a, cap, rfl, _⟩⟩ := h
  · exact ⟨none, 0, rfl, h0⟩
  · exact ⟨some a, cap, rfl, h0⟩

/-! ### the plain law of a real sign -/
theorem un4_okp {n : Nat} {i j k m : Int} (h : okp n i j k m) : So.Un4 (So.q4 i.toNat j.toNat k.toNat m.toNat) := by
  obtain ⟨⟨⟨a0, a1⟩, ⟨b0, b1⟩, ⟨c0, c1⟩, ⟨d0, d1⟩⟩, h1, h2, h3, h4, h5, h6⟩ := h
  unfold So.Un4 So.q4
  simp
  omega
theorem sign_1 (X Y Z : Nat → Int) {n : Nat} {i j k m : Int} (h : okp n i j k m) : So.signV (rowOf X Y Z) i.toNat j.toNat k.toNat m.toNat = 1 ∨ So.signV (rowOf X Y Z) i.toNat j.toNat k.toNat m.toNat = -1 := by
  obtain ⟨V, hV⟩ := So.sign_real (rowOf X Y Z) (fun _ => rfl) [(i.toNat, j.toNat, k.toNat, m.toNat)]
  exact (hV _ _ _ _ (by simp) (un4_okp h)).2
theorem sgV_range (n : Nat) (X Y Z : Nat → Int) (i j k m : Int) : -1 ≤ sgV n X Y Z i j k m ∧ sgV n X Y Z i j k m ≤ 1 := by
  rcases sgE_cases n X Y Z i j k m with ⟨_, h, _, e⟩ | ⟨e, _⟩
  · rw [e]; rcases sign_1 X Y Z h with h | h <;> rw [h] <;> decide
  · rw [e]; decide
end Go.Proofs.Yteieeclflfbinaa
