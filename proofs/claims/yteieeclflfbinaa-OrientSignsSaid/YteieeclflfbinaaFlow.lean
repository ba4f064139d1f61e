/- A region that draws its order, by an invariant that every operation keeps whenever it comes. -/
import Derived.Still
import Derived.StillTail
namespace Go.Proofs.Yteieeclflfbinaa
set_option linter.unusedVariables false

section
variable {P : Program} {ops : Array Oper} {md : Region.Mode} {Q : Exit → Act → World → Prop}
/-- how many have not come yet -/
def left (listed : Array Bool) : Nat := listed.toList.count false
theorem count_set : ∀ (l : List Bool) (i : Nat), l[i]? = some false → (l.set i true).count false + 1 = l.count false
  | [], i, h => by simp at h
  | b :: l, 0, h => by
    have hb : b = false := by simpa using h
    subst hb
    simp
  | b :: l, i + 1, h => by
    have := count_set l i (by simpa using h)
    simp only [List.set_cons_succ, List.count_cons]
    omega
theorem left_set {listed : Array Bool} {i : Nat} (h : listed.getD i true = false) : left (listed.setIfInBounds i true) + 1 = left listed := by
  have hi : i < listed.size := by
    rcases Nat.lt_or_ge i listed.size with h' | h'
    · exact h'
    · simp [Array.getElem?_eq_none h'] at h
  have he : listed.toList[i]? = some false := by simp [hi] at h; simp [hi, h]
  unfold left
  rw [Array.toList_setIfInBounds]
  exact count_set _ i he
theorem any_inv {I : Array Bool → Act → World → Prop}
    (hstep : ∀ listed a u i, I listed a u → i ∈ Region.ready md ops listed → wpOp P ops Q i (I (listed.setIfInBounds i true)) a u)
    (hfin : ∀ listed a u, I listed a u → Region.ready md ops listed = [] → Q .normal a u) :
    ∀ (f : Nat) (listed : Array Bool) (a : Act) (u : World), left listed ≤ f → I listed a u → wpAny P md ops Q f listed a u
  | 0, listed, a, u, hf, h => by
    have hr : Region.ready md ops listed = [] := by
      rw [List.eq_nil_iff_forall_not_mem]
      intro i hi
      have := left_set (mem_ready.1 hi).1
      omega
    exact ⟨hr, hfin _ _ _ h hr⟩
  | f + 1, listed, a, u, hf, h => ⟨fun hr => hfin _ _ _ h hr, fun i hi => wpOp_mono (fun a' u' h' => any_inv hstep hfin f _ a' u' (by have := left_set (mem_ready.1 hi).1; omega) h') (hstep _ _ _ _ h hi)⟩
theorem wp_region_inv {id : Nat} {a : Act} {w : World} (I : Array Bool → Act → World → Prop) (hm : P.follows .mixedOrders = true) (h0 : I (Array.replicate ops.size false) a { w with drawn := w.drawn + 1 })
    (hstep : ∀ listed a u i, I listed a u → i ∈ Region.ready .any ops listed → wpOp P ops Q i (I (listed.setIfInBounds i true)) a u)
    (hfin : ∀ listed a u, I listed a u → Region.ready .any ops listed = [] → Q .normal a u) : (Code.region id ops true).wp P Q a w :=
  wp_region_any hm (any_inv hstep hfin _ _ _ _ (by unfold left; simp) h0)
end
/-- each operation waits for earlier ones alone -/
def backB (md : Region.Mode) : Nat → List Oper → Bool
  | _, [] => true
  | k, o :: l => o.after.all (fun e => !Region.binds md e || Nat.blt e.on k) && backB md (k + 1) l
theorem back_spec {md : Region.Mode} : ∀ (l : List Oper) (k i : Nat) (o : Oper), backB md k l = true → l[i]? = some o → ∀ e ∈ o.after, Region.binds md e = true → e.on < k + i
  | [], _, _, _, _, h => by simp at h
  | z :: l, k, 0, o, h, hi => by
    obtain rfl : z = o := by simpa using hi
    simp only [backB, Bool.and_eq_true] at h
    intro e he hb
    have := Array.all_eq_true_iff_forall_mem.1 h.1 e he
    simp [hb, Nat.blt] at this
    omega
  | z :: l, k, i + 1, o, h, hi => by
    simp only [backB, Bool.and_eq_true] at h
    intro e he hb
    have := back_spec l (k + 1) i o h.2 (by simpa using hi) e he hb
    omega
/-- where nothing is ready all have come -/
theorem all_listed {md : Region.Mode} {l : List Oper} {listed : Array Bool} (hB : backB md 0 l = true) (hs : listed.size = l.length) (hr : Region.ready md l.toArray listed = []) : ∀ i, i < l.length → listed.getD i true = true := by
  intro i
  induction i using Nat.strongRecOn with
  | _ i ih =>
    intro hi
    cases hc : listed.getD i true with
    | true => rfl
    | false =>
      exfalso
      have ho : l[i]? = some l[i] := List.getElem?_eq_getElem hi
      have : i ∈ Region.ready md l.toArray listed := by
        refine mem_ready.2 ⟨hc, l[i], by simp, fun e he hb => ?_⟩
        have hlt := back_spec l 0 i l[i] hB ho e he hb
        have := ih e.on (by omega) (by omega)
        simp only [Array.getD_eq_getD_getElem?] at this ⊢
        rw [Array.getElem?_eq_getElem (by omega)] at this ⊢
        simpa using this
      rw [hr] at this
      cases this
/-- the law, its invariant over the frame at the region's head -/
theorem wp_region_flow {P : Program} {l : List Oper} {Q : Exit → Act → World → Prop} {id : Nat} {a : Act} {w : World} (I : Act → Array Bool → Act → World → Prop) (hm : P.follows .mixedOrders = true) (hB : backB .any 0 l = true)
    (hsz : ∀ listed a' u, I a listed a' u → listed.size = l.length)
    (h0 : I a (Array.replicate l.length false) a { w with drawn := w.drawn + 1 })
    (hstep : ∀ listed a' u i o, I a listed a' u → listed.getD i true = false → l[i]? = some o → (∀ e ∈ o.after, Region.binds .any e = true → listed.getD e.on false = true) → wpOp P l.toArray Q i (I a (listed.setIfInBounds i true)) a' u)
    (hfin : ∀ listed a' u, I a listed a' u → (∀ i, i < l.length → listed.getD i true = true) → Q .normal a' u) : (Code.region id l.toArray true).wp P Q a w := by
  refine wp_region_inv (I a) hm (by simpa using h0) (fun listed a' u i hI hi => ?_) (fun listed a' u hI hr => hfin listed a' u hI (all_listed hB (hsz _ _ _ hI) hr))
  obtain ⟨hl, o, ho, hd⟩ := mem_ready.1 hi
  exact hstep listed a' u i o hI hl (by simpa using ho) hd
end Go.Proofs.Yteieeclflfbinaa
