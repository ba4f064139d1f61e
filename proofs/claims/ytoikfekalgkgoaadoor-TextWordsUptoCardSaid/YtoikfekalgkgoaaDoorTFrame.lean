/- The text rows' frame: what the rows' list of variables gives, a world for the witness, the last step where the call has made memory; points and lists of points opened. (Printed by mktframe.py.) -/
import Derived.Test.YtoikfekalgkgoaaDoorCards
import Derived.Test.YtoikfekalgkgoaaDoorTie
import Derived.Test.YtoikfekalgkgoaaDoorPl
import Derived.Test.YtoikfekalgkgoaaDoorPrint
import Derived.WalkKit
import Derived.ProofKit
import Derived.OpenShut
import Derived.Deep.DeepHandedRow
import Derived.Deep.Slices
import Derived.Deep.Fields
import Derived.Lib.SmallJoins
import Derived.Lib.LaidTab
import Derived.Lib.LaidU8
import Derived.Below
import Derived.Carry
import Derived.ChangeSame
import Derived.Stop.LaidErr
import Derived.LaidLaws
import Derived.WalkArith
import Derived.ShutString
namespace Go.Proofs.YtoikfekalgkgoaaDoor
open Go.ChangeShapes Go.WideShapes Go.ChangeAt Go.RowKit Go.Joins Go.ChangeMaps Go.Maps Go.Deep Go.WideElems Go.Extern.Stop Go.Stop Go.Extern
set_option linter.unusedVariables false

section
variable {H : Type} {enc : TypeId × Value → H} {P : Program}
theorem post_of_below {f : Func} {s : ChangeSpec} {apart fresh handsOn again : Bool} {W W' : World} {args : Array Value} {v : Value} {ds gs : List (DataW H)} {before pa pv : List MemPlace}
    (hW : DataW.Whole enc P f.params.toList s.vars apart W args.toList ds gs before)
    (hres : ∀ (b : Nat) (sp : Nat → Bool) (hd : Bool), DataW.TrodAll enc P W' b sp hd f.resultTypes.toList (v.resultList f.resultTypes.size) (s.fn H (ds ++ gs)).results [])
    (hargs : ∀ sp : Nat → Bool, (∀ p ∈ before, sp p.block = true) → DataW.TrodAll enc P W' 0 sp true f.params.toList args.toList (s.fn H (ds ++ gs)).args pa)
    (hvars : ∀ sp : Nat → Bool, (∀ p ∈ before, sp p.block = true) → DataW.TrodVars enc P W' sp s.vars (s.fn H (ds ++ gs)).vars pv)
    (hps : before = pa ++ pv) (hb : Below W.heap.size W W')
    (hok : ∀ (j : Nat) (t : TypeId) (r : Value), f.resultTypes[j]? = some t → (v.resultList f.resultTypes.size)[j]? = some r → Value.okWide P W' .any 0 t r) :
    s.post enc P f apart fresh handsOn again W args v W' := by
  have hlt : ∀ p ∈ before, p.block < W.heap.size := fun p hp => hW.lt p hp
  have hold : ∀ p ∈ before, (fun b => decide (b < W.heap.size)) p.block = true := fun p hp => by simpa using hlt p hp
  refine ⟨ds, gs, before, [], pa, pv, hW, hres _ _ _, hargs _ hold, hvars _ hold, World.keptBut_mono (fun p hp => ⟨hp, ?_⟩) (hb.frame (· ∈ before)), fun _ => ?_⟩
  · rw [hps, List.mem_append] at hp
    exact Or.inr hp
  · obtain ⟨_, _, _, _, _, hz, hn⟩ := hW
    refine ⟨hok, _, _, ([] ++ pa) ++ pv, ⟨[] ++ pa, pv, trodAll_append (hargs _ (fun _ _ => rfl)) (hres _ _ _), hvars _ (fun _ _ => rfl), rfl, ?_, ?_⟩, ?_⟩
    · intro b off hp
      have hin : MemPlace.cell b off ∈ before := by rw [hps]; simpa using hp
      rw [hb.frozen (hlt _ hin)]
      exact hz b off hin
    · intro ha
      have := hn ha
      rw [hps] at this
      simpa using this
    · intro p hp _
      rw [hps]
      simpa using hp
end

section
variable {H : Type} {enc : TypeId × Value → H} {P : Program} {w : World} {base : Nat} {spare : Nat → Bool} {held : Bool}
theorem args_stay (hl : laidOutB P = true) {W W' : World} {sp : Nat → Bool} : ∀ {ts : List TypeId} {vs : List Value} {ds : List (DataW H)} {ps : List MemPlace}, (∀ t ∈ ts, P.readableRec t = true ∧ t < P.types.size) →
    DataW.TrodAll enc P W 0 (fun _ => true) true ts vs ds ps → (∀ x ∈ ps, W.sameAt W' x) → (∀ x ∈ ps, sp x.block = true) → DataW.TrodAll enc P W' 0 sp true ts vs ds ps
  | [], [], [], _, _, h, _, _ => h
  | _ :: _, _ :: _, _ :: _, _, hT, ⟨p, q, h1, h2, e⟩, hs, hp =>
    ⟨p, q, Trod_stays hl (hT _ (List.mem_cons.2 (Or.inl rfl))).1 (hT _ (List.mem_cons.2 (Or.inl rfl))).2 h1 (fun x hx => hs x (by rw [e]; exact List.mem_append_left _ hx)) (fun x hx => hp x (by rw [e]; exact List.mem_append_left _ hx)),
      args_stay hl (fun t ht => hT t (List.mem_cons.2 (Or.inr ht))) h2 (fun x hx => hs x (by rw [e]; exact List.mem_append_right _ hx)) (fun x hx => hp x (by rw [e]; exact List.mem_append_right _ hx)), e⟩
theorem types_readable (l : List TypeId) (h : (l.all fun t => P.readableRec t && decide (t < P.types.size)) = true) : ∀ t ∈ l, P.readableRec t = true ∧ t < P.types.size := by
  intro t ht
  have := List.all_eq_true.1 h t ht
  simpa using this

theorem open_slice_fields {t e : TypeId} {fs : Array Field} {fuel : Nat} {cs : List Value} {x : DataW H × List MemPlace} (ht : P.underlying t = some (.slice e)) (he : P.underlying e = some (.struct fs))
    (hone : oneCellFields P fs = true) (hC : P.cellsOf e = fs.size) (h : DataW.trod enc P w base spare held fuel t cs = some x) :
    (cs = [.slice none 0 0] ∧ x = (.nil, [])) ∨
    ∃ (a : Addr) (len cap m : Nat) (D : Nat → DataW H) (Pl : Nat → List MemPlace), cs = [.slice (some a) len cap] ∧ base ≤ a.block ∧ len ≤ cap ∧ cap ≤ maxLen ∧ m = (if spare a.block then cap else len) ∧
      x = (.slice ((List.range len).map D) ((List.range (m - len)).map fun j => D (len + j)), MemPlace.row a (m * fs.size) ++ (List.range m).flatMap Pl) ∧
      ∀ i, i < m → ∃ (ys : List (DataW H × List MemPlace)) (n : Nat), D i = .agg (ys.map (·.1)) ∧ Pl i = ys.flatMap (·.2) ∧ ys.length = fs.size ∧
        ∀ (j : Nat) (f : Field), fs[j]? = some f → ∃ (v : Value) (y : DataW H × List MemPlace), w.cell? (a.add (i * fs.size + j)) = some v ∧ ys[j]? = some y ∧ DataW.trod enc P w base spare held n f.type [v] = some y := by
  rcases open_slice ht h with h0 | ⟨a, len, cap, m, n, D, Pl, hcs, hb, hl, hm, hmm, hx, hi⟩
  · exact .inl h0
  · refine .inr ⟨a, len, cap, m, D, Pl, hcs, hb, hl, hm, hmm, by rw [hC] at hx; exact hx, fun i him => ?_⟩
    obtain ⟨cs', hc, ht'⟩ := hi i him
    rw [hC] at hc
    obtain ⟨ys, n', hn', hy, hlen, hyl, hf⟩ := DataW.trod_struct he ht'
    obtain ⟨_, hcl, hat⟩ := World.cells?_some hc
    simp only [Prod.mk.injEq] at hy
    refine ⟨ys, n', hy.1, hy.2, hyl, fun j f hj => ?_⟩
    obtain ⟨ho, hk⟩ := hone_of hone j f hj
    have hjl : j < fs.size := (Array.getElem?_eq_some_iff.1 hj).1
    have hcell := hat j hjl
    have hv : cs'[j]? = some (cs'[j]'(by omega)) := List.getElem?_eq_getElem (by omega)
    have h1 := hf j f hj
    rw [ho, hk] at h1
    have hone' : (cs'.drop j).take 1 = [cs'[j]'(by omega)] := by
      rw [List.drop_eq_getElem_cons (by omega)]
      rfl
    rw [hone'] at h1
    have hys : ys[j]? = some (ys[j]'(by omega)) := List.getElem?_eq_getElem (by omega)
    refine ⟨_, _, ?_, hys, h1.trans hys⟩
    rw [← Go.Deep.add_add, hcell, hv]
end

theorem block_of_has {P : Program} {w : World} {r : Reach} {base : Nat} {a : Addr} {e : TypeId} {n : Nat} (h : w.has P r base a e n) : a.block < w.heap.size := by
  obtain ⟨_, _, row, cells, hs, _⟩ := h
  unfold World.shape? at hs
  rcases Nat.lt_or_ge a.block w.heap.size with h1 | h1
  · exact h1
  · simp [Array.getElem?_eq_none h1] at hs
theorem laidT : laidOutB Tryd.prog = true := by kernel_rfl


theorem own : ownKnob Tryd.prog.godebug = none := by kernel_rfl
def lays : List (String × DataW Unit) := [("math/bits.deBruijn32tab", Rows.laid_math_bits_deBruijn32tab), ("math/bits.deBruijn64tab", Rows.laid_math_bits_deBruijn64tab), ("internal/strconv.uint64pow10", Rows.laid_internal_strconv_uint64pow10), ("strconv.ErrRange", Rows.laid_strconv_ErrRange), ("strconv.ErrSyntax", Rows.laid_strconv_ErrSyntax)]
theorem gTabType : (Tryd.prog.globals[3]?).map (·.type) = some 98 := by kernel_rfl
theorem cellsTab : Tryd.prog.cellsOf 98 = 20 := by kernel_rfl
theorem cellsU64 : Tryd.prog.cellsOf 55 = 1 := by kernel_rfl
theorem gErrType : (Tryd.prog.globals[2]?).map (·.type) = some 46 := by kernel_rfl
theorem starE : "*" ++ "errors.errorString" = "*errors.errorString" := by decide
theorem rowE (u : TypeId) (h : Tryd.prog.typeName? 3 u = some "*errors.errorString") : u = 106 :=
  typeName_ptr_named (nm := "errors.errorString") (by rw [starE]; kernel_rfl) (by kernel_rfl) (by decide) u (by rw [starE]; exact h)
theorem cellsErr : Tryd.prog.cellsOf 108 = 1 := by kernel_rfl
theorem cellsStr : Tryd.prog.cellsOf 9 = 1 := by kernel_rfl
theorem isEnv {W : World} (h : laidMetH Tryd.prog lays W) : Env W := by
  have h' : laidMet Tryd.prog lays W := h
  refine ⟨?_, ?_⟩
  · obtain ⟨g, t, cs, fuel, p, hg, ht, hv, hd⟩ := Lib.laidMet.reads h' (.tail _ (.tail _ (.head _)))
    obtain rfl := Option.some.inj (gTab.symm.trans hg)
    obtain rfl := Option.some.inj (gTabType.symm.trans ht)
    unfold Lib.TabIs
    rw [hv, ← Lib.cells_of_tab (zs := Lib.pow10Tab) Tryd.underlying98 Tryd.underlying55 cellsU64 cellsTab hd]
  · obtain ⟨a, s, hv, _⟩ := laid_sentinel h'.tail.tail.tail gErr gErrType Tryd.underlying46 rowE Tryd.underlying106 Tryd.underlying108 rfl rfl Tryd.underlying9 cellsErr cellsStr
    exact ⟨_, _, hv⟩

def layCells (vs : List Value) : Obj → Obj
  | .cells _ t frozen => .cells vs.toArray t frozen
  | o => o
noncomputable def low : Nat := (World.holding Tryd.prog default ⟨#[], #[], []⟩).heap.size
/-- a world for the witness: the settled one, the tables and the two errors holding what their initialisers lay -/
noncomputable def laidWorld (os : Os) : World :=
  let w0 := World.holding Tryd.prog os ⟨#[.cells #[.string ⟨#[118, 97, 108, 117, 101, 32, 111, 117, 116, 32, 111, 102, 32, 114, 97, 110, 103, 101]⟩] 108, .cells #[.string ⟨#[105, 110, 118, 97, 108, 105, 100, 32, 115, 121, 110, 116, 97, 120]⟩] 108], #[], []⟩
  let h1 := w0.heap.modify 3 (layCells (Lib.pow10Tab.map fun n => Value.int .u64 n))
  let h2 := h1.modify 4 (layCells ([0, 1, 28, 2, 29, 14, 24, 3, 30, 22, 20, 15, 25, 17, 4, 8, 31, 27, 13, 23, 21, 19, 16, 7, 26, 12, 18, 6, 11, 5, 10, 9].map fun n => Value.int .u8 n))
  let h3 := h2.modify 5 (layCells ([0, 1, 56, 2, 57, 49, 28, 3, 61, 58, 42, 50, 38, 29, 17, 4, 62, 47, 59, 36, 45, 43, 51, 22, 53, 39, 33, 30, 24, 18, 12, 5, 63, 55, 48, 27, 60, 41, 37, 16, 46, 35, 44, 21, 52, 32, 23, 11, 54, 26, 40, 15, 34, 20, 31, 10, 25, 14, 19, 9, 13, 8, 7, 6].map fun n => Value.int .u8 n))
  let h4 := h3.modify 2 (layCells [.iface 106 (.pointer (some ⟨low, 0, none⟩))])
  let h5 := h4.modify 1 (layCells [.iface 106 (.pointer (some ⟨low + 1, 0, none⟩))])
  { w0 with heap := h5 }

theorem laid_met (os : Os) (args : Array Value) : laidMet Tryd.prog lays ((laidWorld os).forCall (fun _ _ => 0) ⟨#[], args, []⟩).memory :=
  laidMet_of_run' 8 (by kernel_rfl) (by kernel_rfl)

/-- an int -/
def I6 (n : Int) : Prop := -9223372036854775808 ≤ n ∧ n ≤ 9223372036854775807
theorem cellsPoint : Tryd.prog.cellsOf 24 = 3 := by kernel_rfl
theorem structPoint : ∃ f0 f1 f2 : Field, Tryd.prog.underlying 24 = some (.struct #[f0, f1, f2]) ∧ f0.type = 3 ∧ f1.type = 3 ∧ f2.type = 3 ∧ oneCellFields Tryd.prog #[f0, f1, f2] = true := ⟨_, _, _, Tryd.underlying24, rfl, rfl, rfl, by kernel_rfl⟩

section
variable {H : Type} {enc : TypeId × Value → H}
set_option maxRecDepth 100000 in
theorem open_point {W : World} {b0 base : Nat} {spare : Nat → Bool} {held : Bool} {v : Value} {d : DataW H} {p : List MemPlace} (hv : Value.okWide Tryd.prog W .any b0 24 v) (h : DataW.Trod enc Tryd.prog W base spare held 24 v d p) :
    ∃ x y z : Int, v = .agg #[.int .i64 x, .int .i64 y, .int .i64 z] ∧ d = .agg [.lit (.int .i64 x), .lit (.int .i64 y), .lit (.int .i64 z)] ∧ p = [] ∧ I6 x ∧ I6 y ∧ I6 z := by
  obtain ⟨f0, f1, f2, hs, t0, t1, t2, hone⟩ := structPoint
  obtain ⟨v0, v1, v2, y0, y1, y2, n, rfl, rfl, rfl, h0, h1, h2⟩ := open_agg3 hs hone cellsPoint hv h
  rw [t0] at h0
  rw [t1] at h1
  rw [t2] at h2
  obtain ⟨x, e0, rfl, w0⟩ := DataW.trod_int Tryd.underlying3 h0
  obtain ⟨y, e1, rfl, w1⟩ := DataW.trod_int Tryd.underlying3 h1
  obtain ⟨z, e2, rfl, w2⟩ := DataW.trod_int Tryd.underlying3 h2
  simp only [List.cons.injEq, and_true] at e0 e1 e2
  subst e0 e1 e2
  exact ⟨x, y, z, rfl, rfl, rfl, bounds_i64 w0, bounds_i64 w1, bounds_i64 w2⟩
theorem shut_point {W : World} {base : Nat} {spare : Nat → Bool} {held : Bool} {x y z : Int} (hx : I6 x) (hy : I6 y) (hz : I6 z) : DataW.Trod enc Tryd.prog W base spare held 24 (.agg #[.int .i64 x, .int .i64 y, .int .i64 z]) (.agg [.lit (.int .i64 x), .lit (.int .i64 y), .lit (.int .i64 z)]) [] := by
  obtain ⟨f0, f1, f2, hs, t0, t1, t2, hone⟩ := structPoint
  exact shut_agg3 (y0 := (.lit (.int .i64 x), [])) (y1 := (.lit (.int .i64 y), [])) (y2 := (.lit (.int .i64 z), [])) hs hone cellsPoint
    ⟨1, by rw [t0]; exact trod_int_mk 0 Tryd.underlying3 (Go.WalkArith.wf_i64 hx)⟩ ⟨1, by rw [t1]; exact trod_int_mk 0 Tryd.underlying3 (Go.WalkArith.wf_i64 hy)⟩ ⟨1, by rw [t2]; exact trod_int_mk 0 Tryd.underlying3 (Go.WalkArith.wf_i64 hz)⟩
end
/-- the number in a cell -/
def numAt (u : World) (a : Addr) : Int := match u.cell? a with
  | some (.int .i64 x) => x
  | _ => 0
section
variable {H : Type} {enc : TypeId × Value → H}
set_option maxRecDepth 100000 in
theorem open_points {W : World} {b0 base : Nat} {spare : Nat → Bool} {held : Bool} {v : Value} {d : DataW H} {p : List MemPlace} (hv : Value.okWide Tryd.prog W .any b0 22 v) (h : DataW.Trod enc Tryd.prog W base spare held 22 v d p) :
    ∃ L : List P3, PL W v L ∧ ∀ q ∈ L, OkP q := by
  obtain ⟨fuel, hf⟩ := h
  obtain ⟨a0, len, cap, rfl⟩ := okWide_slice Tryd.underlying22 hv
  obtain ⟨f0, f1, f2, hs, t0, t1, t2, hone⟩ := structPoint
  rcases open_slice_fields Tryd.underlying22 hs hone cellsPoint hf with ⟨hcs, _⟩ | ⟨a, len', cap', m, D, Pl, hcs, hb, hl, hm, hmm, hx, hc⟩
  · simp only [Value.cells, List.cons.injEq, Value.slice.injEq, and_true] at hcs
    obtain ⟨rfl, rfl, rfl⟩ := hcs
    exact ⟨[], ⟨by decide, .inl ⟨rfl, rfl⟩⟩, fun q hq => by simp at hq⟩
  · simp only [Value.cells, List.cons.injEq, Value.slice.injEq, and_true] at hcs
    obtain ⟨rfl, rfl, rfl⟩ := hcs
    have hbl : a.block < W.heap.size := by
      have hv2 : Cell.okWide Tryd.prog W .any b0 22 (.slice (some a) len cap) := by
        unfold Value.okWide at hv
        rw [Tryd.underlying22] at hv
        exact hv
      unfold Cell.okWide at hv2
      rw [Tryd.underlying22] at hv2
      simp only at hv2
      unfold Cell.ok at hv2
      rw [Tryd.underlying22] at hv2
      exact block_of_has hv2.2.2
    have hlm : len ≤ m := by rw [hmm]; split <;> omega
    have key : ∀ i, i < len → ∀ (j : Nat) (f : Field), (#[f0, f1, f2] : Array Field)[j]? = some f → f.type = 3 → W.cell? (a.add (3 * i + j)) = some (.int .i64 (numAt W (a.add (3 * i + j)))) ∧ Ti.inI (numAt W (a.add (3 * i + j))) := by
      intro i hi j f hj ht
      obtain ⟨ys, n, _, _, _, hfl⟩ := hc i (by omega)
      obtain ⟨c, y, hcell, _, hy⟩ := hfl j f hj
      rw [ht] at hy
      obtain ⟨x, hx1, _, hwf⟩ := DataW.trod_int Tryd.underlying3 hy
      simp only [List.cons.injEq, and_true] at hx1
      subst hx1
      rw [show i * (#[f0, f1, f2] : Array Field).size + j = 3 * i + j by simp; omega] at hcell
      unfold numAt
      rw [hcell]
      exact ⟨rfl, bounds_i64 hwf⟩
    have hlen : ((List.range len).map fun i => ((numAt W (a.add (3 * i)), numAt W (a.add (3 * i + 1)), numAt W (a.add (3 * i + 2))) : P3)).length = len := by simp
    refine ⟨(List.range len).map fun i => (numAt W (a.add (3 * i)), numAt W (a.add (3 * i + 1)), numAt W (a.add (3 * i + 2))), ⟨by rw [hlen]; exact Nat.le_trans hl hm, .inr ⟨a, cap, by rw [hlen], hbl, fun i hi => ?_⟩⟩, fun q hq => ?_⟩
    · have hi' : i < len := by simpa using hi
      simp only [List.getElem_map, List.getElem_range]
      exact ⟨(key i hi' 0 f0 rfl t0).1, (key i hi' 1 f1 rfl t1).1, (key i hi' 2 f2 rfl t2).1⟩
    · obtain ⟨i, hi, rfl⟩ := List.mem_map.1 hq
      have hi' : i < len := by simpa using hi
      exact ⟨(key i hi' 0 f0 rfl t0).2, (key i hi' 1 f1 rfl t1).2, (key i hi' 2 f2 rfl t2).2⟩
end
end Go.Proofs.YtoikfekalgkgoaaDoor
