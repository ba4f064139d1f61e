/- A limb.Int that a row is handed: opened, shut again; the rows' frame. -/
import Derived.Test.YtdcllcbhepajeaaDoorFrame
import Derived.Lib.SmallJoins
import Derived.Test.YtdcllcbhepajeaaDoorFmt
import Derived.WalkArith
namespace Go.Proofs.YtdcllcbhepajeaaDoor
open Go.ChangeShapes Go.WideShapes Go.ChangeAt Go.RowKit Go.Joins Go.ChangeMaps Go.Maps Go.Deep Go.WideElems
set_option linter.unusedVariables false

/-- the words of a limb.Int -/
def Ws (a b : Int) : Prop := (-9223372036854775808 ≤ a ∧ a ≤ 9223372036854775807) ∧ (0 ≤ b ∧ b ≤ 18446744073709551615)

theorem cellsLimb : Tryd.prog.cellsOf 31 = 2 := by kernel_rfl
theorem structLimb : ∃ f0 f1 : Field, Tryd.prog.underlying 31 = some (.struct #[f0, f1]) ∧ f0.type = 2 ∧ f1.type = 29 ∧ oneCellFields Tryd.prog #[f0, f1] = true := ⟨_, _, Tryd.underlying31, rfl, rfl, by kernel_rfl⟩

section
variable {H : Type} {enc : TypeId × Value → H}
set_option maxRecDepth 100000 in
theorem open_limb {W : World} {b0 base : Nat} {spare : Nat → Bool} {held : Bool} {v : Value} {d : DataW H} {p : List MemPlace} (hv : Value.okWide Tryd.prog W .any b0 31 v) (h : DataW.Trod enc Tryd.prog W base spare held 31 v d p) :
    ∃ a b : Int, v = .agg #[.int .i64 a, .int .u64 b] ∧ d = .agg [.lit (.int .i64 a), .lit (.int .u64 b)] ∧ p = [] ∧ Ws a b := by
  obtain ⟨f0, f1, hs, t0, t1, hone⟩ := structLimb
  obtain ⟨v0, v1, y0, y1, n, rfl, rfl, rfl, h0, h1⟩ := open_agg2 hs hone cellsLimb hv h
  rw [t0] at h0
  rw [t1] at h1
  obtain ⟨a, e0, rfl, w0⟩ := DataW.trod_int Tryd.underlying2 h0
  obtain ⟨b, e1, rfl, w1⟩ := DataW.trod_int Tryd.underlying29 h1
  simp only [List.cons.injEq, and_true] at e0 e1
  subst e0 e1
  exact ⟨a, b, rfl, rfl, rfl, bounds_i64 w0, bounds_u64 w1⟩
theorem wf_u64' {n : Int} (h : 0 ≤ n ∧ n ≤ 18446744073709551615) : (Lit.int .u64 n).wf = true := by
  simp [Lit.wf, IntKind.min, IntKind.max, IntKind.signed, IntKind.bits]; omega
theorem shut_limb {W : World} {base : Nat} {spare : Nat → Bool} {held : Bool} {a b : Int} (h : Ws a b) : DataW.Trod enc Tryd.prog W base spare held 31 (.agg #[.int .i64 a, .int .u64 b]) (.agg [.lit (.int .i64 a), .lit (.int .u64 b)]) [] := by
  obtain ⟨f0, f1, hs, t0, t1, hone⟩ := structLimb
  exact shut_agg2 (y0 := (.lit (.int .i64 a), [])) (y1 := (.lit (.int .u64 b), [])) hs hone cellsLimb
    ⟨1, by rw [t0]; exact trod_int_mk 0 Tryd.underlying2 (Go.WalkArith.wf_i64 h.1)⟩ ⟨1, by rw [t1]; exact trod_int_mk 0 Tryd.underlying29 (wf_u64' h.2)⟩
end

end Go.Proofs.YtdcllcbhepajeaaDoor
