/- Proved: 'carapace/carapacelaw19.TextWords' returns true for every input of the row, which is of bulk at most 1048576. No condition beyond the row's own (the listed library variables, tied by the card). -/
import Derived.Test.YtoikfekalgkgoaaDoorLawWords
import Derived.Test.YtoikfekalgkgoaaDoorTFrame
namespace Go.Proofs.YtoikfekalgkgoaaDoor.textWordsUpto
open Go.ChangeShapes Go.WideShapes Go.ChangeAt Go.RowKit Go.Joins Go.ChangeMaps
set_option linter.unusedVariables false

set_option maxRecDepth 100000 in
theorem small_str {H : Type} {a : ByteArray} (h : Rows.uptoSmall H ([.lit (.string a.data.toList)] ++ []) = true) : a.size ≤ 1099511627776 := by
  have h' : Rows.uptoBulkAll ([.lit (.string a.data.toList)] ++ [] : List (DataW H)) ≤ 1048576 := of_decide_eq_true h
  have e : Rows.uptoBulkAll ([.lit (.string a.data.toList)] ++ [] : List (DataW H)) = a.data.toList.length + 1 + 0 := by first | rfl | (rw [List.append_nil, Rows.uptoBulkAll, Rows.uptoBulkAll, Rows.uptoBulk])
  rw [e] at h'
  have : a.data.toList.length = a.size := by rw [Array.length_toList]; rfl
  omega

set_option maxRecDepth 100000 in
theorem contract (H : Type) (enc : TypeId × Value → H) (W : World) (base : Nat) (args : Array Value) (ds gs : List (DataW H)) (before : List MemPlace)
    (hval : ∀ (j : Nat) t v, Tryd.f6.params[j]? = some t → args[j]? = some v → Value.okWide Tryd.prog W .any base t v)
    (hW : DataW.Whole enc Tryd.prog Tryd.f6.params.toList Rows.textWordsSpec.vars false W args.toList ds gs before) (hsm : Rows.uptoSmall H (ds ++ gs) = true) (hL : laidMetH Tryd.prog Rows.textWordsUptoRow.laid W) :
    Calls Tryd.prog 6 args W fun e W' => ∃ v, e = .returned v ∧ Rows.textWordsSpec.post enc Tryd.prog Tryd.f6 false true false false W args v W' := by
  have hW' := hW
  obtain ⟨p, q, hA0, hV, rfl, hfz, hnd⟩ := hW
  have hA : DataW.TrodAll enc Tryd.prog W 0 (fun _ => true) true Tryd.f6.params.toList args.toList ds p := hA0
  rw [Tryd.params6] at hA hval
  obtain ⟨v0, vs0, d0, ds0, p0, q0, hargs, rfl, rfl, h0, r0⟩ := trodAll_cons hA
  obtain ⟨rfl, rfl, rfl⟩ := trodAll_nil r0
  obtain rfl : args = #[v0] := by cases args; simp_all
  obtain ⟨rfl, rfl⟩ := trodVars_none hV
  have hlt : ∀ x ∈ (p0 ++ []), x.block < W.heap.size := fun x hx => hW'.lt x (by simpa using hx)
  have hpost : ∀ W', Below W.heap.size W W' → Rows.textWordsSpec.post enc Tryd.prog Tryd.f6 false true false false W #[v0] (.bool true) W' := fun W' hg =>
    post_of_below (pa := p0 ++ []) (pv := []) hW' (fun _ _ _ => trodAll_cons_mk (shut_bool Tryd.underlying4 _) trodAll_mk0)
      (fun sp hsp => args_stay laidT (types_readable _ (by kernel_rfl)) hA0 (fun x hx => hg.same (hlt x hx)) (fun x hx => hsp x (by simpa using hx))) (fun _ _ => rfl) rfl
      hg (ok_one (by kernel_rfl) rfl (okWide_bool_mk Tryd.underlying4 _))
  obtain ⟨a0, rfl, rfl, rfl, w0⟩ := open_string Tryd.underlying9 (hval 0 9 v0 rfl rfl) h0
  have hE : Rows.textWordsUptoRow.laid = lays := by kernel_rfl
  rw [hE] at hL
  refine (textWords_any a0 (small_str hsm)  (isEnv hL)).mono fun e W' ⟨he, hg⟩ => ?_
  subst he
  exact ⟨_, rfl, hpost W' hg⟩

theorem reads (os : Os) {H : Type} (enc : TypeId × Value → H) : ∃ places, DataW.whole enc Tryd.prog ((laidWorld os).forCall (fun _ _ => 0) ⟨#[], (#[.string ⟨#[]⟩] : Array Value), []⟩).memory Tryd.f6.params.toList Rows.textWordsSpec.vars false (#[.string ⟨#[]⟩] : Array Value).toList 8 = some ([.lit (.string [])], [], places) :=
  ⟨[], by kernel_rfl⟩

set_option maxRecDepth 100000 in
theorem lifted (os : Os) (started : os.Started) (H : Type) (enc : TypeId × Value → H) (F : Stop.Interp) :
    ReturnsInHanded {} Tryd.checked os 6 .any ((Rows.OpenSpec.upto Rows.textWordsSpec).preRow enc Tryd.prog Tryd.f6 Rows.textWordsUptoRow.domain false Rows.textWordsUptoRow.laid) (((Rows.OpenSpec.upto Rows.textWordsSpec).at F).post enc Tryd.prog Tryd.f6 false true false false) := by
  obtain ⟨places, hx⟩ := reads os enc
  refine returnsInHanded_of_row (C := Tryd.checked) (s := Rows.OpenSpec.upto Rows.textWordsSpec) own started (by kernel_rfl) Tryd.func6
    (witness_row_at (enc := enc) (C := Tryd.checked) false (laidWorld os) #[.string ⟨#[]⟩] rfl (by kernel_rfl) (by kernel_rfl) (by kernel_rfl)
      (OpenSpec.preRow_of_cond 8 hx (by kernel_rfl) (fun k hk => by obtain rfl := (Option.some.inj hk).symm; rfl) (by kernel_rfl) (laid_met os _))) ?_
  intro W base args ds gs before hval hW _ hc _ hL _ _
  exact contract H enc W base args ds gs before hval hW (hc _ rfl) hL

theorem said : Rows.TextWordsUptoSaid :=
  OpenClaim.holds_of_cond 6 Tryd.f6 rfl rfl rfl rfl rfl rfl rfl ⟨rfl, rfl, rfl, rfl, rfl⟩ rfl rfl rfl rfl rfl (by kernel_rfl) Tryd.func6 (by kernel_rfl)
    (of_decide_eq_true (by kernel_rfl)) (by unfold Func.isWrapper; first | (rw [if_pos (by decide +kernel)]; kernel_rfl) | (rw [if_neg (by decide +kernel)]; exact ⟨rfl, rfl⟩))
    (fun os started H enc _ F => by rw [OpenClaim.pre_eq_preRow]; exact lifted os started H enc F)

theorem plain (f : FuncId) (fn : Func) (hf : Tryd.pinned.checked.prog.funcNamed "carapace/carapacelaw19.TextWords" = some f) (hfn : Tryd.pinned.checked.prog.funcs[f]? = some fn) :
    true = Tryd.pinned.checked.prog.looks [] ∧ ∀ (j : Nat) t, fn.params[j]? = some t → Tryd.pinned.checked.prog.wantsStandIn t = false := by
  obtain rfl : f = 6 := Option.some.inj ((show Tryd.prog.funcNamed "carapace/carapacelaw19.TextWords" = some 6 by kernel_rfl).symm.trans hf) |>.symm
  obtain rfl : fn = Tryd.f6 := (Option.some.inj (Tryd.func6.symm.trans hfn)).symm
  refine ⟨by kernel_rfl, fun j t ht => ?_⟩
  rw [Tryd.params6] at ht
  match j, ht with
  | 0, ht =>
    have e : t = 9 := (Option.some.inj ht).symm
    rw [e]
    show Tryd.prog.wantsStandIn 9 = false
    kernel_rfl
  | j + 1, ht => simp at ht

theorem card : Rows.TextWordsUptoCardSaid :=
  Claim7.holds_tied_plain_at .later [] _ _ _ _ said (fun _ h => by cases h) (by kernel_rfl) (fun _ h => by cases h) textWordsUpto_row_tie rfl ⟨rfl, rfl⟩ (by kernel_rfl) rfl plain (by kernel_rfl)
#print axioms card
end Go.Proofs.YtoikfekalgkgoaaDoor.textWordsUpto
