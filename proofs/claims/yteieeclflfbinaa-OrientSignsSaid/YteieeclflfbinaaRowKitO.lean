/- The rows' kit of the orient seat: a point opened and shut; a world for the witness; the last step where the call has made memory. -/
import Derived.Test.YteieeclflfbinaaRows
import Derived.WalkKit
import Derived.ProofKit
import Derived.OpenShut
import Derived.Deep.DeepHandedRow
import Derived.Lib.SmallJoins
import Derived.Below
import Derived.ChangeSame
import Derived.WalkArith
namespace Go.Proofs.Yteieeclflfbinaa
open Go.ChangeShapes Go.WideShapes Go.ChangeAt Go.RowKit Go.Joins Go.ChangeMaps Go.Maps Go.Deep Go.WideElems
set_option linter.unusedVariables false

section
variable {H : Type} {enc : TypeId × Value → H} {P : Program}
theorem post_of_below {f : Func} {s : ChangeSpec} {apart fresh handsOn again : Bool} {W W' : World} {args : Array Value} {v : Value} {ds gs : List (DataW H)} {before pa pv : List MemPlace}
    (hW : DataW.Whole enc P f.params.toList s.vars apart W args.toList ds gs before)
    (hres : ∀ (b : Nat) (sp : Nat → Bool) (hd : Bool), DataW.TrodAll enc P W' b sp hd f.resultTypes.toList (v.resultList f.resultTypes.size) (s.fn H (ds ++ gs)).results [])
    (hargs : ∀ sp : Nat → Bool, (∀ p ∈ before, sp p.block = true) → DataW.TrodAll enc P W' 0 sp true f.params.toList args.toList (s.fn H (ds ++ gs)).args pa)
    (hvars : ∀ sp : Nat → Bool, (∀ p ∈ before, sp p.block = true) → DataW.TrodVars enc P W' sp s.vars (s.fn H (ds ++ gs)).vars pv)
    (hps : before = pa ++ pv) (hb : Below W.heap.size W W')
    (hok : ∀ (j : Nat) (t : TypeId) (r : Value), f.resultTypes[j]? = some t → (v.resultList f.resultTypes.size)[j]? = some r → Value.okWide P W' .any 0 t r) :
    s.post enc P f apart fresh handsOn again W args v W' := by
  have hlt : ∀ p ∈ before, p.block < W.heap.size := fun p hp => hW.lt p hp
  have hold : ∀ p ∈ before, (fun b => decide (b < W.heap.size)) p.block = true := fun p hp => by simpa using hlt p hp
  refine ⟨ds, gs, before, [], pa, pv, hW, hres _ _ _, hargs _ hold, hvars _ hold, World.keptBut_mono (fun p hp => ⟨hp, ?_⟩) (hb.frame (· ∈ before)), fun _ => ?_⟩
  · rw [hps, List.mem_append] at hp
    exact Or.inr hp
  · obtain ⟨_, _, _, _, _, hz, hn⟩ := hW
    refine ⟨hok, _, _, ([] ++ pa) ++ pv, ⟨[] ++ pa, pv, trodAll_append (hargs _ (fun _ _ => rfl)) (hres _ _ _), hvars _ (fun _ _ => rfl), rfl, ?_, ?_⟩, ?_⟩
    · intro b off hp
      have hin : MemPlace.cell b off ∈ before := by rw [hps]; simpa using hp
      rw [hb.frozen (hlt _ hin)]
      exact hz b off hin
    · intro ha
      have := hn ha
      rw [hps] at this
      simpa using this
    · intro p hp _
      rw [hps]
      simpa using hp
end


theorem own : ownKnob Try.prog.godebug = none := by kernel_rfl
/-- a world for the witness -/
noncomputable def world0 (os : Os) : World := World.holding Try.prog os ⟨#[], #[], []⟩

/-- an int -/
def I6 (n : Int) : Prop := -9223372036854775808 ≤ n ∧ n ≤ 9223372036854775807
theorem cellsPoint : Try.prog.cellsOf 23 = 3 := by kernel_rfl
theorem structPoint : ∃ f0 f1 f2 : Field, Try.prog.underlying 23 = some (.struct #[f0, f1, f2]) ∧ f0.type = 3 ∧ f1.type = 3 ∧ f2.type = 3 ∧ oneCellFields Try.prog #[f0, f1, f2] = true := ⟨_, _, _, Try.underlying23, rfl, rfl, rfl, by kernel_rfl⟩

section
variable {H : Type} {enc : TypeId × Value → H}
set_option maxRecDepth 100000 in
theorem open_point {W : World} {b0 base : Nat} {spare : Nat → Bool} {held : Bool} {v : Value} {d : DataW H} {p : List MemPlace} (hv : Value.okWide Try.prog W .any b0 23 v) (h : DataW.Trod enc Try.prog W base spare held 23 v d p) :
    ∃ x y z : Int, v = .agg #[.int .i64 x, .int .i64 y, .int .i64 z] ∧ d = .agg [.lit (.int .i64 x), .lit (.int .i64 y), .lit (.int .i64 z)] ∧ p = [] ∧ I6 x ∧ I6 y ∧ I6 z := by
  obtain ⟨f0, f1, f2, hs, t0, t1, t2, hone⟩ := structPoint
  obtain ⟨v0, v1, v2, y0, y1, y2, n, rfl, rfl, rfl, h0, h1, h2⟩ := open_agg3 hs hone cellsPoint hv h
  rw [t0] at h0
  rw [t1] at h1
  rw [t2] at h2
  obtain ⟨x, e0, rfl, w0⟩ := DataW.trod_int Try.underlying3 h0
  obtain ⟨y, e1, rfl, w1⟩ := DataW.trod_int Try.underlying3 h1
  obtain ⟨z, e2, rfl, w2⟩ := DataW.trod_int Try.underlying3 h2
  simp only [List.cons.injEq, and_true] at e0 e1 e2
  subst e0 e1 e2
  exact ⟨x, y, z, rfl, rfl, rfl, bounds_i64 w0, bounds_i64 w1, bounds_i64 w2⟩
theorem shut_point {W : World} {base : Nat} {spare : Nat → Bool} {held : Bool} {x y z : Int} (hx : I6 x) (hy : I6 y) (hz : I6 z) : DataW.Trod enc Try.prog W base spare held 23 (.agg #[.int .i64 x, .int .i64 y, .int .i64 z]) (.agg [.lit (.int .i64 x), .lit (.int .i64 y), .lit (.int .i64 z)]) [] := by
  obtain ⟨f0, f1, f2, hs, t0, t1, t2, hone⟩ := structPoint
  exact shut_agg3 (y0 := (.lit (.int .i64 x), [])) (y1 := (.lit (.int .i64 y), [])) (y2 := (.lit (.int .i64 z), [])) hs hone cellsPoint
    ⟨1, by rw [t0]; exact trod_int_mk 0 Try.underlying3 (Go.WalkArith.wf_i64 hx)⟩ ⟨1, by rw [t1]; exact trod_int_mk 0 Try.underlying3 (Go.WalkArith.wf_i64 hy)⟩ ⟨1, by rw [t2]; exact trod_int_mk 0 Try.underlying3 (Go.WalkArith.wf_i64 hz)⟩
end
end Go.Proofs.Yteieeclflfbinaa
