/- What the text laws' calls ask of the library's variables; Itoa and Atoi with the world told by 'Below'; package text's Int, the reference's Int. -/
import Derived.Test.YtoikfekalgkgoaaDoorFormed
import Derived.Test.YtoikfekalgkgoaaDoorRParse
import Derived.Test.YtoikfekalgkgoaaDoorShelf
namespace Go.Proofs.YtoikfekalgkgoaaDoor
open Go.RowKit Go.Proofs
set_option linter.unusedVariables false

theorem gTab : Tryd.prog.globalNamed "internal/strconv.uint64pow10" = some 3 := by kernel_rfl
theorem gErr : Tryd.prog.globalNamed "strconv.ErrRange" = some 2 := by kernel_rfl
theorem var_lt {w : World} {n : String} {g : Nat} {cs : Array Value} (hg : Tryd.prog.globalNamed n = some g) (h : w.var? Tryd.prog n = some cs) : g < w.heap.size := by
  unfold World.var? at h
  rw [hg] at h
  rcases Nat.lt_or_ge g w.heap.size with h1 | h1
  · exact h1
  · simp [Array.getElem?_eq_none h1] at h
/-- the variables of the library, as they are laid -/
def Env (w : World) : Prop := Lib.TabIs Tryd.prog w "internal/strconv.uint64pow10" .u64 Lib.pow10Tab ∧ ∃ (tp : TypeId) (p : Value), w.var? Tryd.prog "strconv.ErrRange" = some #[.iface tp p]
theorem Env.mono {w w' : World} (h : Env w) (hb : Below w.heap.size w w') : Env w' := by
  obtain ⟨h1, tp, p, h2⟩ := h
  exact ⟨var?_below hb gTab (var_lt gTab h1) h1, tp, p, var?_below hb gErr (var_lt gErr h2) h2⟩
theorem grow_below (w : World) (k : Nat) (os : Array Obj) : Below w.heap.size w (Go.Sort.grow (w.drewN k) os) :=
  ⟨rfl, rfl, rfl, by simp [Go.Sort.grow], fun b hb => by simp [Go.Sort.grow, Array.getElem?_append, hb]⟩
theorem itoa_any (n : Int) (hn : Ti.inI n) (w : World) (he : Env w) : Calls Tryd.prog 21 #[.int .i64 n] w fun e w' => e = .returned (Tx.str (Lib.itoa n)) ∧ Below w.heap.size w w' :=
  (Tryd.strconv_Itoa n hn.1 hn.2 w he.1).mono fun e w' ⟨h1, k, os, h2⟩ => ⟨h1, by rw [h2]; exact grow_below w k os⟩
theorem bytes_below (w : World) (e : TypeId) (s : ByteArray) : Below w.heap.size w (Lib.bytesWorld w e s) := by
  unfold Lib.bytesWorld
  have h1 : Below w.heap.size w (w.drew.alloc (.cells (Lib.bytesCells w e s) e)) := (Below.refl _ _).drew.alloc (Nat.le_refl _) _
  refine h1.trans ?_
  unfold World.freeze
  split
  · exact Below.refl _ _
  · refine ⟨rfl, rfl, rfl, by simp, fun b hb => ?_⟩
    simp only [Array.getElem?_modify]
    rw [if_neg (by omega)]

/-- how Atoi ends at a text that has the form -/
theorem atoi_ok {s : List UInt8} {v : Int} (h : Lib.atoiAll s = .ok v) (hs : s.length ≤ 140737488355328) (w : World) : Calls Tryd.prog 28 #[.string ⟨s.toArray⟩] w fun e w' => e = .returned (.tuple #[.int .i64 v, .nilIface]) ∧ Below w.heap.size w w' :=
  (Tryd.strconv_Atoi_ok ⟨s.toArray⟩ (by show s.toArray.size ≤ _; simp; omega) v h w).mono fun e w' ⟨h1, h2⟩ => ⟨h1, by
    rcases h2 with rfl | ⟨t, rfl⟩
    · exact Below.refl _ _
    · exact bytes_below _ _ _⟩
def RangeE (e : Ending) : Prop := ∃ (n : Int) (T N : Nat), e = .returned (.tuple #[.int .i64 n, .iface T (.pointer (some ⟨N, 0, none⟩))])
theorem atoi_range {s : List UInt8} (h : Lib.atoiAll s = .range) (hs : s.length ≤ 140737488355328) (w : World) (he : Env w) : Calls Tryd.prog 28 #[.string ⟨s.toArray⟩] w fun e w' => RangeE e ∧ Below w.heap.size w w' := by
  obtain ⟨_, tp, p, hv⟩ := he
  exact (Tryd.strconv_Atoi_range_var ⟨s.toArray⟩ (by show s.toArray.size ≤ _; simp; omega) h tp p w hv).mono fun e w' ⟨N, h1, _, _, h2⟩ => ⟨⟨_, _, N, h1⟩, h2⟩

/-- an int and whether it is one, of a text -/
def intR (s : List UInt8) : Value := match Ti.intL s with
  | some z => .tuple #[.int .i64 z, .bool true]
  | none => .tuple #[.int .i64 0, .bool false]
theorem intR_some {s : List UInt8} {z : Int} (h : Ti.intL s = some z) : intR s = .tuple #[.int .i64 z, .bool true] := by unfold intR; rw [h]
theorem intR_none {s : List UInt8} (h : Ti.intL s = none) : intR s = .tuple #[.int .i64 0, .bool false] := by unfold intR; rw [h]

set_option maxHeartbeats 1000000 in
theorem tint_any (s : List UInt8) (w : World) (hs : s.length ≤ 140737488355328) (he : Env w) :
    Calls Tryd.prog 15 #[.string ⟨s.toArray⟩] w fun e w' => e = .returned (intR s) ∧ Below w.heap.size w w' := by
  have FO := Lib.hid (formed_any s w (by unfold maxLen; omega))
  cases hf : Ti.formed s
  · rw [hf] at FO
    have R := Lib.hid (intR_none (show Ti.intL s = none by unfold Ti.intL; rw [hf]; rfl))
    rw [R.out]
    clear hf he
    go_enter Tryd.func15, Tryd.ntmps15
    go_wp2_with fail
    refine (FO.out).mono ?_
    rintro e w1 ⟨rfl, rfl⟩
    go_wp2_with fail
    go_ret2
    exact ⟨rfl, Below.refl _ _⟩
  · rw [hf] at FO
    obtain ⟨z, hz, ha⟩ := Ti.itoa_formed hf
    by_cases hi : Ti.inI z
    · rw [if_pos hi] at ha
      have R := Lib.hid (intR_some (Ti.intL_some.2 ⟨hz, hi⟩))
      have AT := Lib.hid (fun W => atoi_ok ha hs W)
      rw [R.out]
      clear hf he ha hz hi
      go_enter Tryd.func15, Tryd.ntmps15
      go_wp2_with fail
      refine (FO.out).mono ?_
      rintro e w1 ⟨rfl, rfl⟩
      go_wp2_with fail
      refine (AT.out _).mono ?_
      rintro e w2 ⟨rfl, hb⟩
      go_wp2_with fail
      go_ret2
      exact ⟨rfl, hb⟩
    · rw [if_neg hi] at ha
      have R := Lib.hid (intR_none (show Ti.intL s = none by unfold Ti.intL; rw [hf, ha]; rfl))
      have AT := Lib.hid (atoi_range ha hs w he)
      rw [R.out]
      clear hf he ha hz hi
      go_enter Tryd.func15, Tryd.ntmps15
      go_wp2_with fail
      refine (FO.out).mono ?_
      rintro e w1 ⟨rfl, rfl⟩
      go_wp2_with fail
      refine (AT.out).mono ?_
      rintro e w2 ⟨⟨n, T, N, rfl⟩, hb⟩
      go_wp2_with fail
      go_ret2
      exact ⟨rfl, hb⟩

/-! ### the reference's Int -/
theorem dval_nv (D : List UInt8) (hd : ∀ c ∈ D, Ti.dig c) : ∀ (a : Nat), D.foldl (fun z c => z * 10 + ((c.toNat : Int) - 48)) (a : Int) = (Ti.nv a D : Int) := by
  induction D with
  | nil => intro a; rfl
  | cons c D ih =>
    intro a
    have hc := hd c (by simp)
    unfold Ti.dig at hc
    rw [Ti.nv_cons, List.foldl_cons, ← ih (fun x hx => hd x (by simp [hx])) (a * 10 + (c.toNat - 48))]
    congr 1
    omega
theorem ref_int (s : List UInt8) : (pok s (Lib.trimPrefix s [45]) ∧ isInt (pz s (Lib.trimPrefix s [45])) → Ti.intL s = some (sv (pz s (Lib.trimPrefix s [45])))) ∧ (¬ (pok s (Lib.trimPrefix s [45]) ∧ isInt (pz s (Lib.trimPrefix s [45]))) → Ti.intL s = none) := by
  refine ⟨fun ⟨h1, h2⟩ => Ti.intL_some.2 ⟨h1.2.2, h2⟩, fun h => ?_⟩
  cases hi : Ti.intL s with
  | none => rfl
  | some z =>
    exfalso
    obtain ⟨rfl, hz⟩ := Ti.intL_some.1 hi
    refine h ?_
    have key : pz (Lib.itoa z) (Lib.trimPrefix (Lib.itoa z) [45]) = z ∧ (Lib.trimPrefix (Lib.itoa z) [45]).length ≤ 39 ∧ ∀ c ∈ Lib.trimPrefix (Lib.itoa z) [45], isDig c := by
      unfold Lib.itoa
      split
      · rename_i hneg
        obtain ⟨e1, e2, _⟩ := Ti.dec_is z.natAbs
        rw [trim_minus]
        refine ⟨?_, ?_, fun c hc => by have := e2 c hc; unfold Ti.dig at this; unfold isDig; omega⟩
        · unfold pz
          rw [if_pos (by simp), show dval (Lib.decDigits z.natAbs) = (Ti.nv 0 (Lib.decDigits z.natAbs) : Int) from dval_nv _ e2 0, e1]
          omega
        · exact dec_len39 (M := (z.natAbs : Int)) (by omega) (by unfold Ti.inI at hz; omega)
      · rename_i hpos
        obtain ⟨e1, e2, c, r, e3, _⟩ := Ti.dec_is z.toNat
        have hc := e2 c (by rw [e3]; simp)
        have ht : Lib.trimPrefix (Lib.decDigits z.toNat) [45] = Lib.decDigits z.toNat := by
          rw [e3]; exact trim_other r (by rintro rfl; revert hc; decide)
        rw [ht]
        refine ⟨?_, ?_, fun c hc => by have := e2 c hc; unfold Ti.dig at this; unfold isDig; omega⟩
        · unfold pz
          rw [if_neg (by simp), show dval (Lib.decDigits z.toNat) = (Ti.nv 0 (Lib.decDigits z.toNat) : Int) from dval_nv _ e2 0, e1]
          omega
        · exact dec_len39 (M := z) (by omega) (by unfold Ti.inI at hz; omega)
    have hsv : sv z = z := by unfold Ti.inI at hz; unfold sv; omega
    refine ⟨⟨key.2.1, key.2.2, by rw [key.1, hsv]⟩, ?_⟩
    rw [key.1]; unfold isInt; rw [hsv]; exact hz

set_option maxHeartbeats 1000000 in
theorem rint_any (s : List UInt8) (w : World) : Calls Tryd.prog 16 #[.string ⟨s.toArray⟩] w fun e w' => e = .returned (intR s) ∧ Below w.heap.size w w' := by
  have PA := Lib.hid (rparse_walk s w)
  obtain ⟨r1, r2⟩ := ref_int s
  have R1 := Lib.hid r1
  have R2 := Lib.hid r2
  clear r1 r2
  generalize Lib.trimPrefix s [45] = D at *
  go_enter Tryd.func16, Tryd.ntmps16
  go_wp2_with fail
  refine (PA.out).mono ?_
  rintro e w1 ⟨hp, hb⟩
  rcases hp with ⟨hp, rfl⟩ | ⟨hp, rfl⟩
  · have HP := Lib.hid hp
    clear hp
    have FT := Lib.hid (fun W => rfits_any (pz s D) (isR _) W)
    by_cases hi : isInt (pz s D)
    · have E := Lib.hid (intR_some (R1.out ⟨HP.out, hi⟩))
      rw [show fitV (pz s D) = sv (pz s D) from if_pos hi, show decide (isInt (pz s D)) = true from decide_eq_true hi] at FT
      clear hi
      go_wp2_with fail
      refine (FT.out _).mono ?_
      rintro e w2 ⟨rfl, hn⟩
      go_wp2_with fail
      go_ret2
      exact ⟨by rw [E.out]; rfl, chaina hb hn⟩
    · have E := Lib.hid (intR_none (R2.out (fun h => hi h.2)))
      rw [show fitV (pz s D) = 0 from if_neg hi, show decide (isInt (pz s D)) = false from decide_eq_false hi] at FT
      clear hi
      go_wp2_with fail
      refine (FT.out _).mono ?_
      rintro e w2 ⟨rfl, hn⟩
      go_wp2_with fail
      go_ret2
      exact ⟨by rw [E.out]; rfl, chaina hb hn⟩
  · have E := Lib.hid (intR_none (R2.out (fun h => hp h.1)))
    clear hp
    go_wp2_with fail
    go_ret2
    exact ⟨by rw [E.out]; rfl, hb.alloc hb.size _⟩
end Go.Proofs.YtoikfekalgkgoaaDoor
