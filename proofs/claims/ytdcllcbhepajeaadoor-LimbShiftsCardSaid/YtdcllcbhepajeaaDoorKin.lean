/- A region that draws its order, whose operations read and whose callees only make new blocks: one walk in the order of the text; also where its last operations write. -/
import Derived.Deep.Quiet
import Derived.Deep.QuietTactic
import Derived.BigQuiet
import Derived.StillTail
import Derived.Below
import Derived.WalkKit
import Derived.Test.YtdcllcbhepajeaaDoorLimb
namespace Go.Proofs.YtdcllcbhepajeaaDoor
open Go.RowKit Go.Proofs
set_option linter.unusedVariables false

/-- how a later world differs: draws, new blocks -/
structure More where
  d : Nat
  os : Array Obj
instance : Inhabited More := ⟨⟨0, #[]⟩⟩
/-- the world W, later: other draws, more blocks -/
def kin (W : World) (k : More) : World := { W with drawn := k.d, heap := W.heap ++ k.os }
theorem kin_size (W : World) (k : More) : W.heap.size ≤ (kin W k).heap.size := by simp [kin]
theorem below_kin (W : World) (k : More) : Below W.heap.size W (kin W k) :=
  ⟨rfl, rfl, rfl, kin_size W k, fun b hb => by simp [kin, Array.getElem?_append, hb]⟩
theorem kin_of_below {W u : World} (h : Below W.heap.size W u) : ∃ k, u = kin W k := by
  refine ⟨⟨u.drawn, u.heap.extract W.heap.size u.heap.size⟩, ?_⟩
  have e : W.heap ++ u.heap.extract W.heap.size u.heap.size = u.heap := by
    apply Array.ext_getElem?
    intro i
    rw [Array.getElem?_append]
    split
    · rename_i hi; exact (h.block i hi).symm
    · rename_i hi
      have hs := h.size
      rw [Array.getElem?_extract]
      by_cases hi2 : i < u.heap.size
      · rw [if_pos (by omega), show W.heap.size + (i - W.heap.size) = i by omega]
      · rw [if_neg (by omega)]; exact (Array.getElem?_eq_none (by omega)).symm
  unfold kin
  rw [e]
  cases u
  obtain ⟨h1, h2, h3, _, _⟩ := h
  simp_all
theorem kin_cell (W : World) : ∀ (k : More) (b o : Nat), b < W.heap.size → (kin W k).cell? ⟨b, o, none⟩ = W.cell? ⟨b, o, none⟩ := fun k b o h => (below_kin W k).cell (p := ⟨b, o, none⟩) h
theorem quiet_kin {P : Program} {f : FuncId} {args : Array Value} {W : World} {k : More} {v : Value}
    (h : Calls P f args (kin W k) fun e w' => e = .returned v ∧ Below (kin W k).heap.size (kin W k) w') : Calls P f args (kin W k) fun e w'' => e = .returned v ∧ ∃ m, w'' = kin W m :=
  h.mono fun _ _ ⟨he, hb⟩ => ⟨he, kin_of_below ((below_kin W k).trans (hb.mono (kin_size W k)))⟩
/-- the law, for a region whose operations are written out -/
theorem wp_region_kin {P : Program} {id : Nat} {Q : Exit → Act → World → Prop} {a : Act} {W : World} {l : List Oper} (hm : P.follows .mixedOrders = true) (hB : Region.lexB .any l.toArray = true)
    (h : wpQuiet P l.toArray (fun u => ∃ k, u = kin W k) (fun a' => ∀ u, (∃ k, u = kin W k) → Q .normal a' u) l a) : (Code.region id l.toArray true).wp P Q a W :=
  wp_region_quiet (C := fun u => ∃ k, u = kin W k) hm hB (kin_of_below (Below.refl _ _).drew) (by simpa using h)

/-! ### a cheap look at a region's order: each operation once, then pairs of short lists -/
/-- what an operation writes, looks at, waits for -/
def smr (ops : Array Oper) (o : Oper) : Option Tmp × List Tmp × List Nat := (o.dst, o.looksAt ops, (o.after.toList.filter (Region.binds .any)).map (·.on))
def farB (x y : Option Tmp × List Tmp × List Nat) : Bool :=
  (match x.1 with
   | some d => !y.2.1.contains d && y.1 != some d
   | none => true) &&
  (match y.1 with
   | some d => !x.2.1.contains d
   | none => true)
def flatQ : Nat → List (Option Tmp × List Tmp × List Nat) → Bool
  | _, [] => true
  | k, x :: rest => x.2.2.all (fun i => Nat.blt i k) && (rest.all fun y => y.2.2.contains k || farB x y) && flatQ (k + 1) rest
theorem flat_spec : ∀ (l : List (Option Tmp × List Tmp × List Nat)) (k i : Nat) (x : Option Tmp × List Tmp × List Nat), flatQ k l = true → l[i]? = some x →
    (∀ e ∈ x.2.2, e < k + i) ∧ ∀ j y, i < j → l[j]? = some y → (k + i ∈ y.2.2 ∨ farB x y = true)
  | [], _, i, x, _, hi => by simp at hi
  | z :: l, k, 0, x, h, hi => by
    obtain rfl : z = x := by simpa using hi
    simp only [flatQ, Bool.and_eq_true, List.all_eq_true] at h
    refine ⟨fun e he => by have := h.1.1 e he; simp [Nat.blt] at this; omega, fun j y hj hy => ?_⟩
    obtain ⟨j, rfl⟩ : ∃ j', j = j' + 1 := ⟨j - 1, by omega⟩
    have := h.1.2 y (List.mem_of_getElem? (by simpa using hy))
    simpa using this
  | z :: l, k, i + 1, x, h, hi => by
    simp only [flatQ, Bool.and_eq_true] at h
    obtain ⟨h1, h2⟩ := flat_spec l (k + 1) i x h.2 (by simpa using hi)
    refine ⟨fun e he => by have := h1 e he; omega, fun j y hj hy => ?_⟩
    obtain ⟨j, rfl⟩ : ∃ j', j = j' + 1 := ⟨j - 1, by omega⟩
    have := h2 j y (by omega) (by simpa using hy)
    rw [show k + (i + 1) = k + 1 + i by omega]
    exact this
theorem lexFrom_of_flat (l : List Oper) (h : flatQ 0 (l.map (smr l.toArray)) = true) : ∀ (f k : Nat) (listed : Array Bool), k + f = l.length → listed.size = l.length → (∀ j, j < l.length → listed[j]? = some (decide (j < k))) →
    Region.lexFrom .any l.toArray f k listed = true
  | 0, k, listed, hk, hs, hl => by
    simp only [Region.lexFrom, List.isEmpty_iff, Region.ready, List.filter_eq_nil_iff, List.mem_range, List.size_toArray]
    intro j hj
    simp [Array.getD_eq_getD_getElem?, hl j hj, show j < k by omega]
  | f + 1, k, listed, hk, hs, hl => by
    have hkl : k < l.length := by omega
    obtain ⟨o, ho⟩ : ∃ o, l[k]? = some o := ⟨l[k], List.getElem?_eq_getElem hkl⟩
    obtain ⟨h1, h2⟩ := flat_spec _ 0 k (smr l.toArray o) h (by simp [ho])
    simp only [Nat.zero_add] at h1 h2
    simp only [Region.lexFrom, Bool.and_eq_true]
    refine ⟨⟨?_, ?_⟩, ?_⟩
    · simp only [List.contains_iff_mem, Region.ready, List.mem_filter, List.mem_range, List.size_toArray, Bool.and_eq_true]
      refine ⟨hkl, by simp [Array.getD_eq_getD_getElem?, hl k hkl], ?_⟩
      simp only [List.getElem?_toArray, ho, Option.map_some, Option.getD_some, Array.all_eq_true_iff_forall_mem, Bool.or_eq_true, Bool.not_eq_true']
      intro e he
      cases hb : Region.binds .any e with
      | false => exact .inl rfl
      | true =>
        have := h1 e.on (by simp only [smr, List.mem_map, List.mem_filter]; exact ⟨e, ⟨by simpa using he, hb⟩, rfl⟩)
        right
        simp [Array.getD_eq_getD_getElem?, hl e.on (by omega), this]
    · simp only [Region.free, List.getElem?_toArray, ho, List.all_eq_true, List.mem_range, List.size_toArray, Bool.or_eq_true]
      intro j hj
      rcases Nat.lt_trichotomy j k with hjk | hjk | hjk
      · left; right; simp [Array.getD_eq_getD_getElem?, hl j hj, hjk]
      · left; left; simp [hjk]
      · right
        obtain ⟨oj, hoj⟩ : ∃ o, l[j]? = some o := ⟨l[j], List.getElem?_eq_getElem hj⟩
        simp only [hoj]
        rcases h2 j (smr l.toArray oj) hjk (by simp [hoj]) with h3 | h3
        · simp only [smr, List.mem_map, List.mem_filter] at h3
          obtain ⟨e, ⟨he, hb⟩, hon⟩ := h3
          simp only [Bool.or_eq_true]
          left
          rw [Array.any_eq_true']
          exact ⟨e, by simpa using he, by simp [hb, hon]⟩
        · simp only [Bool.or_eq_true]
          right
          exact h3
    · refine lexFrom_of_flat l h f (k + 1) _ (by omega) (by simp [hs]) fun j hj => ?_
      rw [Array.getElem?_setIfInBounds]
      split
      · subst ‹k = j›; rw [if_pos (by omega)]; simp
      · rw [hl j hj]; congr 1; simp only [decide_eq_decide]; omega
theorem lexB_of_flat {l : List Oper} (hs : Region.noSelect l.toArray = true) (h : flatQ 0 (l.map (smr l.toArray)) = true) : Region.lexB .any l.toArray = true := by
  simp only [Region.lexB, Bool.and_eq_true]
  exact ⟨hs, lexFrom_of_flat l h _ 0 _ (by simp) (by simp) fun j hj => by simp [hj]⟩
/-- the law, for a great region -/
theorem wp_region_kin_flat {P : Program} {id : Nat} {Q : Exit → Act → World → Prop} {a : Act} {W : World} {l : List Oper} (hm : P.follows .mixedOrders = true) (hs : Region.noSelect l.toArray = true) (hB : flatQ 0 (l.map (smr l.toArray)) = true)
    (h : wpQuiet P l.toArray (fun u => ∃ k, u = kin W k) (fun a' => ∀ u, (∃ k, u = kin W k) → Q .normal a' u) l a) : (Code.region id l.toArray true).wp P Q a W :=
  wp_region_kin hm (lexB_of_flat hs hB) h

/-! ### the same with a tail of operations that come one behind the other -/
section
variable {P : Program} {ops : Array Oper} {md : Region.Mode} {C : World → Prop}
/-- whatever order the operations before the n-th come in; L behind them -/
def anyHead (P : Program) (md : Region.Mode) (ops : Array Oper) (C : World → Prop) (n : Nat) (L : Array Bool → Act → Prop) : Nat → Array Bool → Act → Prop
  | 0, listed, a => L listed a
  | f + 1, listed, a => Region.ready md ops listed ≠ [] ∧ ∀ i ∈ Region.ready md ops listed, i < n ∧ qOp P ops C i (anyHead P md ops C n L f (listed.setIfInBounds i true)) a

theorem any_of_head {n g : Nat} {L : Array Bool → Act → Prop} {Q : Exit → Act → World → Prop} (hL : ∀ listed a u, C u → L listed a → wpAny P md ops Q g listed a u) :
    ∀ (f : Nat) (listed : Array Bool) (a : Act) (u : World), C u → anyHead P md ops C n L f listed a → wpAny P md ops Q (f + g) listed a u
  | 0, listed, a, u, hu, h => by rw [Nat.zero_add]; exact hL _ _ _ hu h
  | f + 1, listed, a, u, hu, h => by
    rw [show f + 1 + g = (f + g) + 1 by omega]
    exact ⟨fun h0 => absurd h0 h.1, fun i hi => wpOp_of_qOp hu (fun a' u' hu' h' => any_of_head hL f _ a' u' hu' h') (h.2 i hi).2⟩

theorem head_first {n i : Nat} {oi : Oper} {v : Value} {L : Array Bool → Act → Prop} (hi : ops[i]? = some oi) (hsel : ∀ (j : Nat) (o : Oper) cs b, ops[j]? = some o → o.op ≠ .select cs b)
    (hs : Region.sinkB md ops n = true) (hc : Region.chainB md ops n = true) (hn : n < ops.size) (hin : i < n) (hdone : ∀ listed a, L listed a → ∀ j ∈ Region.ready md ops listed, n ≤ j) :
    ∀ (f : Nat) (listed : Array Bool) (a : Act), HeadInv md ops n listed →
      (∀ j oj, ops[j]? = some oj → j ≠ i → listed.getD j true = false → (∀ e ∈ oj.after, Region.binds md e = true → e.on ≠ i) → oi.apart ops oj = true) →
      i ∈ Region.ready md ops listed → YieldsIn P ops C oi v a →
      anyHead P md ops C n L f (listed.setIfInBounds i true) (a.put oi.dst v) → anyHead P md ops C n L (f + 1) listed a := by
  intro f
  induction f with
  | zero =>
    intro listed a inv _ hr hy H
    have hun := (mem_ready.1 hr).1
    refine ⟨fun h => by simp [h] at hr, fun j hj => ?_⟩
    have hjn : j < n := Nat.lt_of_not_le fun h => tail_waits hs hc hn inv _ i rfl hin hun j h hj
    refine ⟨hjn, ?_⟩
    rcases Nat.decEq j i with hji | rfl
    · exact absurd (hdone _ _ H j (ready_mono hj hji)) (by omega)
    · exact hy.qOp hi H
  | succ f ih =>
    intro listed a inv hfree hr hy H
    have hun := (mem_ready.1 hr).1
    refine ⟨fun h => by simp [h] at hr, fun j hj => ?_⟩
    have hjn : j < n := Nat.lt_of_not_le fun h => tail_waits hs hc hn inv _ i rfl hin hun j h hj
    refine ⟨hjn, ?_⟩
    rcases Nat.decEq j i with hji | rfl
    · have h1 := (H.2 j (ready_mono hj hji)).2
      obtain ⟨hjun, oj, hoj, hall⟩ := mem_ready.1 hj
      have h2 := qOp_put hoj (hfree j oj hoj hji hjun fun e he hb heq => by
        have h0 := hall e he hb
        rw [heq, getD_both hun] at h0
        cases h0) (fun cs b => hsel i oi cs b hi) (fun cs b => hsel j oj cs b hoj) hy h1
      refine qOp_mono (fun a' h3 => ih (listed.setIfInBounds j true) a' (inv.set hj hjn) (fun k ok hk hki hlk hno => hfree k ok hk hki ?_ hno) (ready_mono hr (Ne.symm hji)) h3.1 ?_) h2
      · rcases Nat.decEq j k with hjk | rfl
        · rwa [getD_set_ne true hjk] at hlk
        · exact hjun
      · rw [Array.setIfInBounds_comm _ _ hji]; exact h3.2
    · exact hy.qOp hi H

theorem head_lex {n g : Nat} {Lq : Act → Prop} (hsel : Region.noSelect ops = true) (hs : Region.sinkB md ops n = true) (hc : Region.chainB md ops n = true) (hn : n < ops.size) :
    ∀ (l : List Oper) (k : Nat) (listed : Array Bool) (a : Act), (∀ j, j < l.length → l[j]? = ops[k + j]?) → k + l.length = n → HeadInv md ops n listed →
    Region.lexHead md ops g l.length k listed = true → wpQuiet P ops C Lq l a →
    anyHead P md ops C n (fun listed' a' => Region.seqB md ops g n listed' = true ∧ Lq a') l.length listed a
  | [], k, listed, a, _, hk, _, hB, h => by
    obtain rfl : k = n := by simpa using hk
    exact ⟨by simpa [Region.lexHead] using hB, h⟩
  | o :: l, k, listed, a, hl, hk, inv, hB, h => by
    have h0 : ops[k]? = some o := by simpa using (hl 0 (by simp)).symm
    simp only [List.length_cons, Region.lexHead, Bool.and_eq_true] at hB
    obtain ⟨⟨hr, hf⟩, hB'⟩ := hB
    have hkn : k < n := by simp only [List.length_cons] at hk; omega
    have hr' : k ∈ Region.ready md ops listed := by simpa using hr
    obtain ⟨v, hy, hK⟩ := yieldsIn_of_qOp (C := C) h0 (show qOp P ops C k (wpQuiet P ops C Lq l) a by unfold qOp; simp only [h0]; exact h)
    exact head_first h0 (Region.noSelect_spec hsel) hs hc hn hkn (fun listed' a' hL => seqB_ready hL.1) l.length listed a inv (Region.free_spec h0 hf) hr' hy
      (head_lex hsel hs hc hn l (k + 1) _ _ (fun j hj => by have := hl (j + 1) (by simp; omega); simpa [Nat.add_assoc, Nat.add_comm 1 j] using this) (by simp only [List.length_cons] at hk; omega) (inv.set hr' hkn) hB' hK)

theorem wp_region_tail {id : Nat} {Q : Exit → Act → World → Prop} {a : Act} {w : World} {l : List Oper} (n : Nat) (hm : P.follows .mixedOrders = true) (hB : Region.lexTailB .any l.toArray n = true) (hC : C { w with drawn := w.drawn + 1 })
    (h : wpQuiet P l.toArray C (fun a' => ∀ u, C u → wpList P l.toArray Q (l.drop n) a' u) (l.take n) a) : (Code.region id l.toArray true).wp P Q a w := by
  simp only [Region.lexTailB, Bool.and_eq_true, decide_eq_true_eq] at hB
  obtain ⟨⟨⟨⟨hsel, hn⟩, hs⟩, hc⟩, hlex⟩ := hB
  have hn' : n < l.length := by simpa using hn
  have htl : (l.take n).length = n := by simp; omega
  have hdl : (l.drop n).length = l.toArray.size - n := by simp
  have inv : HeadInv .any l.toArray n (Array.replicate l.toArray.size false) :=
    ⟨by simp, fun j oj _ hl => (by rw [getD_replicate_false] at hl; cases hl), fun t _ ht => getD_in (by simpa using ht) (getD_replicate_false _ _)⟩
  have H := head_lex (C := C) (md := .any) (g := l.toArray.size - n) hsel hs hc hn (l.take n) 0 _ a (fun j hj => by
    rw [htl] at hj
    simp [hj]) (by simpa using htl) inv (by rw [htl]; exact hlex) h
  refine wp_region_any hm ?_
  have := any_of_head (Q := Q) (g := l.toArray.size - n) (fun listed a' u hu hL => by
    have := wpAny_of_seq (md := .any) (Q' := Q) (l.drop n) n listed a' u (fun j => by simp [List.getElem?_drop]) (by rw [hdl]; exact hL.1) (hL.2 u hu)
    rwa [hdl] at this) _ _ _ _ hC H
  rwa [htl, show n + (l.toArray.size - n) = l.toArray.size by omega] at this
end
/-- a region whose operations from the n-th on come one behind the other, behind all others -/
theorem wp_region_kin_tail {P : Program} {id : Nat} {Q : Exit → Act → World → Prop} {a : Act} {W : World} {l : List Oper} (n : Nat) (hm : P.follows .mixedOrders = true) (hB : Region.lexTailB .any l.toArray n = true)
    (h : wpQuiet P l.toArray (fun u => ∃ k, u = kin W k) (fun a' => ∀ u, (∃ k, u = kin W k) → wpList P l.toArray Q (l.drop n) a' u) (l.take n) a) : (Code.region id l.toArray true).wp P Q a W :=
  wp_region_tail (C := fun u => ∃ k, u = kin W k) n hm hB (kin_of_below (Below.refl _ _).drew) h
end Go.Proofs.YtdcllcbhepajeaaDoor
