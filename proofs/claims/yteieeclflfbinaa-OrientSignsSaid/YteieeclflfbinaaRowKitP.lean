/- The rows' kit, more: lists of points and six ints as arguments; arguments that read as before. -/
import Derived.Test.YteieeclflfbinaaRowKitO
import Derived.Test.YteieeclflfbinaaSigns
import Derived.Deep.Slices
import Derived.Deep.Fields
import Derived.ChangeSame
import Derived.Carry
namespace Go.Proofs.Yteieeclflfbinaa
open Go.ChangeShapes Go.WideShapes Go.ChangeAt Go.RowKit Go.Joins Go.ChangeMaps Go.Maps Go.Deep Go.WideElems
set_option linter.unusedVariables false

section
variable {H : Type} {enc : TypeId × Value → H} {P : Program} {w : World} {base : Nat} {spare : Nat → Bool} {held : Bool}
theorem args_stay (hl : laidOutB P = true) {W W' : World} {sp : Nat → Bool} : ∀ {ts : List TypeId} {vs : List Value} {ds : List (DataW H)} {ps : List MemPlace}, (∀ t ∈ ts, P.readableRec t = true ∧ t < P.types.size) →
    DataW.TrodAll enc P W 0 (fun _ => true) true ts vs ds ps → (∀ x ∈ ps, W.sameAt W' x) → (∀ x ∈ ps, sp x.block = true) → DataW.TrodAll enc P W' 0 sp true ts vs ds ps
  | [], [], [], _, _, h, _, _ => h
  | _ :: _, _ :: _, _ :: _, _, hT, ⟨p, q, h1, h2, e⟩, hs, hp =>
    ⟨p, q, Trod_stays hl (hT _ (List.mem_cons.2 (Or.inl rfl))).1 (hT _ (List.mem_cons.2 (Or.inl rfl))).2 h1 (fun x hx => hs x (by rw [e]; exact List.mem_append_left _ hx)) (fun x hx => hp x (by rw [e]; exact List.mem_append_left _ hx)),
      args_stay hl (fun t ht => hT t (List.mem_cons.2 (Or.inr ht))) h2 (fun x hx => hs x (by rw [e]; exact List.mem_append_right _ hx)) (fun x hx => hp x (by rw [e]; exact List.mem_append_right _ hx)), e⟩
theorem types_readable (l : List TypeId) (h : (l.all fun t => P.readableRec t && decide (t < P.types.size)) = true) : ∀ t ∈ l, P.readableRec t = true ∧ t < P.types.size := by
  intro t ht
  have := List.all_eq_true.1 h t ht
  simpa using this

theorem open_slice_fields {t e : TypeId} {fs : Array Field} {fuel : Nat} {cs : List Value} {x : DataW H × List MemPlace} (ht : P.underlying t = some (.slice e)) (he : P.underlying e = some (.struct fs))
    (hone : oneCellFields P fs = true) (hC : P.cellsOf e = fs.size) (h : DataW.trod enc P w base spare held fuel t cs = some x) :
    (cs = [.slice none 0 0] ∧ x = (.nil, [])) ∨
    ∃ (a : Addr) (len cap m : Nat) (D : Nat → DataW H) (Pl : Nat → List MemPlace), cs = [.slice (some a) len cap] ∧ base ≤ a.block ∧ len ≤ cap ∧ cap ≤ maxLen ∧ m = (if spare a.block then cap else len) ∧
      x = (.slice ((List.range len).map D) ((List.range (m - len)).map fun j => D (len + j)), MemPlace.row a (m * fs.size) ++ (List.range m).flatMap Pl) ∧
      ∀ i, i < m → ∃ (ys : List (DataW H × List MemPlace)) (n : Nat), D i = .agg (ys.map (·.1)) ∧ Pl i = ys.flatMap (·.2) ∧ ys.length = fs.size ∧
        ∀ (j : Nat) (f : Field), fs[j]? = some f → ∃ (v : Value) (y : DataW H × List MemPlace), w.cell? (a.add (i * fs.size + j)) = some v ∧ ys[j]? = some y ∧ DataW.trod enc P w base spare held n f.type [v] = some y := by
  rcases open_slice ht h with h0 | ⟨a, len, cap, m, n, D, Pl, hcs, hb, hl, hm, hmm, hx, hi⟩
  · exact .inl h0
  · refine .inr ⟨a, len, cap, m, D, Pl, hcs, hb, hl, hm, hmm, by rw [hC] at hx; exact hx, fun i him => ?_⟩
    obtain ⟨cs', hc, ht'⟩ := hi i him
    rw [hC] at hc
    obtain ⟨ys, n', hn', hy, hlen, hyl, hf⟩ := DataW.trod_struct he ht'
    obtain ⟨_, hcl, hat⟩ := World.cells?_some hc
    simp only [Prod.mk.injEq] at hy
    refine ⟨ys, n', hy.1, hy.2, hyl, fun j f hj => ?_⟩
    obtain ⟨ho, hk⟩ := hone_of hone j f hj
    have hjl : j < fs.size := (Array.getElem?_eq_some_iff.1 hj).1
    have hcell := hat j hjl
    have hv : cs'[j]? = some (cs'[j]'(by omega)) := List.getElem?_eq_getElem (by omega)
    have h1 := hf j f hj
    rw [ho, hk] at h1
    have hone' : (cs'.drop j).take 1 = [cs'[j]'(by omega)] := by
      rw [List.drop_eq_getElem_cons (by omega)]
      rfl
    rw [hone'] at h1
    have hys : ys[j]? = some (ys[j]'(by omega)) := List.getElem?_eq_getElem (by omega)
    refine ⟨_, _, ?_, hys, h1.trans hys⟩
    rw [← Go.Deep.add_add, hcell, hv]
end

theorem block_of_has {P : Program} {w : World} {r : Reach} {base : Nat} {a : Addr} {e : TypeId} {n : Nat} (h : w.has P r base a e n) : a.block < w.heap.size := by
  obtain ⟨_, _, row, cells, hs, _⟩ := h
  unfold World.shape? at hs
  rcases Nat.lt_or_ge a.block w.heap.size with h1 | h1
  · exact h1
  · simp [Array.getElem?_eq_none h1] at hs
theorem laidO : laidOutB Try.prog = true := by kernel_rfl

/-- the number in a cell -/
def numAt (u : World) (a : Addr) : Int := match u.cell? a with
  | some (.int .i64 x) => x
  | _ => 0
section
variable {H : Type} {enc : TypeId × Value → H}
set_option maxRecDepth 100000 in
theorem open_points {W : World} {b0 base : Nat} {spare : Nat → Bool} {held : Bool} {v : Value} {d : DataW H} {p : List MemPlace} (hv : Value.okWide Try.prog W .any b0 42 v) (h : DataW.Trod enc Try.prog W base spare held 42 v d p) :
    ∃ (n : Nat) (X Y Z : Nat → Int), Pts W v n X Y Z := by
  obtain ⟨fuel, hf⟩ := h
  obtain ⟨a0, len, cap, rfl⟩ := okWide_slice Try.underlying42 hv
  obtain ⟨f0, f1, f2, hs, t0, t1, t2, hone⟩ := structPoint
  rcases open_slice_fields Try.underlying42 hs hone cellsPoint hf with ⟨hcs, _⟩ | ⟨a, len', cap', m, D, Pl, hcs, hb, hl, hm, hmm, hx, hc⟩
  · simp only [Value.cells, List.cons.injEq, Value.slice.injEq, and_true] at hcs
    obtain ⟨rfl, rfl, rfl⟩ := hcs
    exact ⟨0, fun _ => 0, fun _ => 0, fun _ => 0, by decide, .inl ⟨rfl, rfl⟩⟩
  · simp only [Value.cells, List.cons.injEq, Value.slice.injEq, and_true] at hcs
    obtain ⟨rfl, rfl, rfl⟩ := hcs
    have hbl : a.block < W.heap.size := by
      have hv2 : Cell.okWide Try.prog W .any b0 42 (.slice (some a) len cap) := by
        unfold Value.okWide at hv
        rw [Try.underlying42] at hv
        exact hv
      unfold Cell.okWide at hv2
      rw [Try.underlying42] at hv2
      simp only at hv2
      unfold Cell.ok at hv2
      rw [Try.underlying42] at hv2
      exact block_of_has hv2.2.2
    have hlm : len ≤ m := by rw [hmm]; split <;> omega
    refine ⟨len, fun i => numAt W (a.add (3 * i)), fun i => numAt W (a.add (3 * i + 1)), fun i => numAt W (a.add (3 * i + 2)), Nat.le_trans hl hm, .inr ⟨a, cap, rfl, hbl, fun i hi => ?_⟩⟩
    obtain ⟨ys, n, _, _, _, hfl⟩ := hc i (by omega)
    have key : ∀ (j : Nat) (f : Field), (#[f0, f1, f2] : Array Field)[j]? = some f → f.type = 3 → W.cell? (a.add (3 * i + j)) = some (.int .i64 (numAt W (a.add (3 * i + j)))) := by
      intro j f hj ht
      obtain ⟨c, y, hcell, _, hy⟩ := hfl j f hj
      rw [ht] at hy
      obtain ⟨x, hx1, _⟩ := DataW.trod_int Try.underlying3 hy
      simp only [List.cons.injEq, and_true] at hx1
      subst hx1
      rw [show i * (#[f0, f1, f2] : Array Field).size + j = 3 * i + j by simp; omega] at hcell
      unfold numAt
      rw [hcell]
    exact ⟨key 0 f0 rfl t0, key 1 f1 rfl t1, key 2 f2 rfl t2⟩
set_option maxRecDepth 100000 in
theorem open_six {W : World} {b0 base : Nat} {spare : Nat → Bool} {held : Bool} {v : Value} {d : DataW H} {p : List MemPlace} (hv : Value.okWide Try.prog W .any b0 47 v) (h : DataW.Trod enc Try.prog W base spare held 47 v d p) :
    ∃ x0 x1 x2 x3 x4 x5 : Int, v = .agg #[.int .i64 x0, .int .i64 x1, .int .i64 x2, .int .i64 x3, .int .i64 x4, .int .i64 x5] := by
  unfold Value.okWide at hv
  rw [Try.underlying47] at hv
  obtain ⟨cs, rfl, hsz, _⟩ := hv
  have hC : Try.prog.cellsOf 47 = 6 := by kernel_rfl
  rw [hC] at hsz
  obtain ⟨fuel, hf⟩ := h
  obtain ⟨xs, m, _, hx, _, hlen, hg⟩ := DataW.trod_array Try.underlying47 hf
  have hCi : Try.prog.cellsOf 3 = 1 := by kernel_rfl
  rw [hCi] at hg
  obtain ⟨l⟩ := cs
  match l, hsz with
  | [c0, c1, c2, c3, c4, c5], _ =>
    have key : ∀ (i : Nat) (c : Value), i < 6 → (([c0, c1, c2, c3, c4, c5] : List Value).drop (i * 1)).take 1 = [c] → ∃ x : Int, c = .int .i64 x := by
      intro i c hi hcc
      have h1 := hg i hi
      rw [List.getElem?_eq_getElem (by omega)] at h1
      have h2 : (((Value.agg #[c0, c1, c2, c3, c4, c5]).cells.toList.drop (i * 1)).take 1) = [c] := hcc
      rw [h2] at h1
      obtain ⟨x, hx1, _⟩ := DataW.trod_int Try.underlying3 h1
      simp only [List.cons.injEq, and_true] at hx1
      exact ⟨x, hx1⟩
    obtain ⟨x0, rfl⟩ := key 0 c0 (by decide) rfl
    obtain ⟨x1, rfl⟩ := key 1 c1 (by decide) rfl
    obtain ⟨x2, rfl⟩ := key 2 c2 (by decide) rfl
    obtain ⟨x3, rfl⟩ := key 3 c3 (by decide) rfl
    obtain ⟨x4, rfl⟩ := key 4 c4 (by decide) rfl
    obtain ⟨x5, rfl⟩ := key 5 c5 (by decide) rfl
    exact ⟨x0, x1, x2, x3, x4, x5, rfl⟩
end
end Go.Proofs.Yteieeclflfbinaa
