/- Package limb's Text: the walk. -/
import Derived.Test.YtoikfekalgkgoaaDoorText
import Derived.Test.YtoikfekalgkgoaaDoorDigits
import Derived.OwnWalk
namespace Go.Proofs.YtoikfekalgkgoaaDoor
open Go.RowKit Go.Proofs
set_option linter.unusedVariables false

theorem itoa_neg' {x : Int} (h : hi x < 0) : Lib.itoa (sv x) = 45 :: Lib.decDigits (mg x).toNat := by
  obtain ⟨e, h1⟩ := mg_neg h
  rw [Lib.itoa, if_pos h1, e, show (-sv x).toNat = (sv x).natAbs by omega]
theorem itoa_pos' {x : Int} (h : 0 ≤ hi x) : Lib.itoa (sv x) = Lib.decDigits (mg x).toNat := by
  obtain ⟨e, h1⟩ := mg_pos h
  rw [Lib.itoa, if_neg (by omega), e]

theorem one_row {w' : World} {base : Nat} {e : TypeId} {v x : Value} (h : w'.ownsRow base e 1 v 1 [x]) :
    ∃ g cap, v = .slice (some ⟨g, 0, none⟩) 1 cap ∧ base ≤ g ∧ w'.cell? ⟨g, 0, none⟩ = some x ∧ g < w'.heap.size := by
  obtain ⟨_, h⟩ := h
  rcases h with ⟨_, h⟩ | ⟨g, cap, cur, rfl, hg, hh, hn, hm, hs, ht⟩
  · omega
  · refine ⟨g, cap, rfl, hg, ?_, (Array.getElem?_eq_some_iff.1 hh).1⟩
    have : cur.toList[0]? = some x := by
      have := congrArg (·[0]?) ht
      simpa [List.getElem?_take] using this
    simp [World.cell?, hh]
    simpa using this
/-- one cell and its block -/
def C1 (u : World) (g : Nat) (a : Value) : Prop := u.cell? ⟨g, 0, none⟩ = some a ∧ g < u.heap.size
theorem carry1 {u : World} {g : Nat} {a : Value} (h1 : g < u.heap.size) (h : u.cell? ⟨g, 0, none⟩ = some a) : C1 u g a := ⟨h, h1⟩
theorem C1.mono {u w1 : World} {g : Nat} {a : Value} (h : C1 u g a) (hn : Below u.heap.size u w1) : C1 w1 g a := ⟨((bcell hn).1 g 0 h.2).trans h.1, Nat.lt_of_lt_of_le h.2 hn.size⟩
theorem grown_below {w w' : World} (h : w.grownBy w' none) : Below w.heap.size w w' :=
  ⟨h.os, h.tape, h.output, h.size, fun b hb => h.block b hb (by simp)⟩

theorem Tryd.infoString : (Tryd.prog.info? 9).map (fun i => (i.zero, i.size, i.bytes)) = some (some (.string ⟨#[]⟩), 1, 16) := by kernel_rfl

end Go.Proofs.YtoikfekalgkgoaaDoor
