/- strings.Cut at a line feed; what a text of points says (plain). -/
import Derived.Test.YtoikfekalgkgoaaDoorTEnv
namespace Go.Proofs.YtoikfekalgkgoaaDoor
open Go.RowKit Go.Proofs
set_option linter.unusedVariables false

theorem upto_index (s : List UInt8) : (Lib.indexByte s 10 = -1 ∧ Tx.upto 10 s = s) ∨ (Lib.indexByte s 10 = ((Tx.upto 10 s).length : Int) ∧ (Tx.upto 10 s).length < s.length ∧ s.take (Tx.upto 10 s).length = Tx.upto 10 s) := by
  induction s with
  | nil => exact .inl ⟨rfl, rfl⟩
  | cons c r ih =>
    unfold Lib.indexByte Tx.upto
    by_cases hc : c = 10
    · subst hc
      right
      simp
    · rw [if_neg (by simpa using hc), if_neg hc]
      rcases ih with ⟨h1, h2⟩ | ⟨h1, h2, h3⟩
      · left
        rw [h1, h2]
        simp
      · right
        rw [h1]
        refine ⟨?_, by simp only [List.length_cons]; omega, by simp [h3]⟩
        rw [if_neg (by simp only [beq_iff_eq]; omega)]
        simp

set_option maxHeartbeats 1000000 in
theorem scut_any (s : List UInt8) (w : World) (hs : s.length ≤ 1099511627776) : Calls Tryd.prog 33 #[.string ⟨s.toArray⟩, .string ⟨#[10]⟩] w fun e w' =>
    (∃ b : Bool, e = .returned (.tuple #[.string ⟨(Tx.upto 10 s).toArray⟩, .string ⟨(s.drop ((Tx.upto 10 s).length + 1)).toArray⟩, .bool b])) ∧ Below w.heap.size w w' := by
  have IX := Lib.hid (fun W => Tryd.stringslite_Index_one ⟨s.toArray⟩ 10 W)
  rcases upto_index s with ⟨h1, h2⟩ | ⟨h1, h2, h3⟩
  · have e : Lib.indexByte ((⟨s.toArray⟩ : ByteArray).data.toList) 10 = -1 := h1
    rw [e] at IX
    have R := Lib.hid (show Value.tuple #[.string ⟨s.toArray⟩, .string ⟨#[]⟩, .bool false] = .tuple #[.string ⟨(Tx.upto 10 s).toArray⟩, .string ⟨(s.drop ((Tx.upto 10 s).length + 1)).toArray⟩, .bool false] by
      rw [h2, List.drop_eq_nil_of_le (by omega)])
    clear h1 h2 e
    go_enter Tryd.func33, Tryd.ntmps33
    go_wp2_with fail
    refine (IX.out _).mono ?_
    rintro e w1 ⟨rfl, rfl⟩
    go_wp2_with fail
    go_ret3
    exact ⟨⟨false, congrArg Ending.returned R.out⟩, ⟨rfl, rfl, rfl, Nat.le_refl _, fun _ _ => rfl⟩⟩
  · have e : Lib.indexByte ((⟨s.toArray⟩ : ByteArray).data.toList) 10 = ((Tx.upto 10 s).length : Int) := h1
    rw [e] at IX
    generalize hK : (Tx.upto 10 s).length = K at *
    have R := Lib.hid (show Value.tuple #[.string ((⟨s.toArray⟩ : ByteArray).extract 0 K), .string ((⟨s.toArray⟩ : ByteArray).extract (K + 1) s.length), .bool true] = .tuple #[.string ⟨(Tx.upto 10 s).toArray⟩, .string ⟨(s.drop (K + 1)).toArray⟩, .bool true] by
      rw [show (⟨s.toArray⟩ : ByteArray).extract 0 K = ⟨((s.take K).drop 0).toArray⟩ by apply ByteArray.ext; rw [ByteArray.data_extract]; simp only [List.extract_toArray, List.extract_eq_take_drop, List.drop_take],
        show (⟨s.toArray⟩ : ByteArray).extract (K + 1) s.length = ⟨((s.take s.length).drop (K + 1)).toArray⟩ by apply ByteArray.ext; rw [ByteArray.data_extract]; simp only [List.extract_toArray, List.extract_eq_take_drop, List.drop_take], h3, List.take_length]
      rfl)
    have k0 : (0 : Int) ≤ K := by omega
    have k1 : (K : Int) ≤ s.length := by omega
    have k2 : (K : Int) + 1 ≤ s.length := by omega
    have k4 : K ≤ s.length := by omega
    have k5 : K + 1 ≤ s.length := by omega
    clear h1 e h3 hK
    go_enter Tryd.func33, Tryd.ntmps33
    go_wp2_with fail
    refine (IX.out _).mono ?_
    rintro e w1 ⟨rfl, rfl⟩
    go_wp2_with fail
    go_quiet (fail)
    go_wp2_with fail
    go_ret3
    exact ⟨⟨true, congrArg Ending.returned R.out⟩, ⟨rfl, rfl, rfl, Nat.le_refl _, fun _ _ => rfl⟩⟩
theorem cut_any (s : List UInt8) (w : World) (hs : s.length ≤ 1099511627776) : Calls Tryd.prog 23 #[.string ⟨s.toArray⟩, .string ⟨#[10]⟩] w fun e w' =>
    (∃ b : Bool, e = .returned (.tuple #[.string ⟨(Tx.upto 10 s).toArray⟩, .string ⟨(s.drop ((Tx.upto 10 s).length + 1)).toArray⟩, .bool b])) ∧ Below w.heap.size w w' := by
  have SC := Lib.hid (fun W => scut_any s W hs)
  go_enter Tryd.func23, Tryd.ntmps23
  go_wp2_with fail
  refine (SC.out _).mono ?_
  rintro e w1 ⟨⟨b, rfl⟩, hb⟩
  go_wp2_with fail
  go_ret3
  exact ⟨⟨b, rfl⟩, hb⟩

/-! ### a text of points (plain) -/
abbrev P3 := Int × Int × Int
namespace Tx
def iv (s : List UInt8) : Int := (Ti.intL s).getD 0
def ib (s : List UInt8) : Bool := (Ti.intL s).isSome
def trip : List (List UInt8) → Option P3
  | [a, b, c] => if (ib a && ib b && ib c) = true then some (iv a, iv b, iv c) else none
  | _ => none
def skip (x : List UInt8) : Bool := match words x with
  | [] => true
  | y :: _ => y.head? == some 35
def pl : Nat → List P3 → List (List UInt8) → Sum (List P3) Nat
  | _, acc, [] => .inl acc
  | n, acc, x :: r => if skip x = true then pl (n + 1) acc r else match trip (words x) with
    | none => .inr n
    | some p => pl (n + 1) (acc ++ [p]) r
def tripR (l : List (List UInt8)) : Value := match trip l with
  | some p => .tuple #[.agg #[.int .i64 p.1, .int .i64 p.2.1, .int .i64 p.2.2], .bool true]
  | none => .tuple #[.agg #[.int .i64 0, .int .i64 0, .int .i64 0], .bool false]
end Tx
theorem intR_eq (s : List UInt8) : intR s = .tuple #[.int .i64 (Tx.iv s), .bool (Tx.ib s)] := by
  unfold intR Tx.iv Tx.ib
  cases Ti.intL s <;> rfl
theorem tint_iv (s : List UInt8) (w : World) (hs : s.length ≤ 140737488355328) (he : Env w) :
    Calls Tryd.prog 15 #[.string ⟨s.toArray⟩] w fun e w' => e = .returned (.tuple #[.int .i64 (Tx.iv s), .bool (Tx.ib s)]) ∧ Below w.heap.size w w' := by rw [← intR_eq]; exact tint_any s w hs he
theorem rint_iv (s : List UInt8) (w : World) :
    Calls Tryd.prog 16 #[.string ⟨s.toArray⟩] w fun e w' => e = .returned (.tuple #[.int .i64 (Tx.iv s), .bool (Tx.ib s)]) ∧ Below w.heap.size w w' := by rw [← intR_eq]; exact rint_any s w
/-- three cells in a block -/
def R3 (u : World) (g : Nat) (x y z : Int) : Prop := u.cell? ⟨g, 0, none⟩ = some (.int .i64 x) ∧ u.cell? ⟨g, 1, none⟩ = some (.int .i64 y) ∧ u.cell? ⟨g, 2, none⟩ = some (.int .i64 z) ∧
  u.frozen? ⟨g, 0, none⟩ = false ∧ u.frozen? ⟨g, 1, none⟩ = false ∧ u.frozen? ⟨g, 2, none⟩ = false ∧ g < u.heap.size
theorem R3.mono {u u1 : World} {g : Nat} {x y z : Int} (h : R3 u g x y z) (hn : Below u.heap.size u u1) : R3 u1 g x y z := by
  obtain ⟨h0, h1, h2, f0, f1, f2, hg⟩ := h
  have hb := hn.block g hg
  have fr : ∀ o, u1.frozen? ⟨g, o, none⟩ = u.frozen? ⟨g, o, none⟩ := fun o => by unfold World.frozen?; simp only [hb]
  exact ⟨(hn.cell (p := ⟨g, 0, none⟩) hg).trans h0, (hn.cell (p := ⟨g, 1, none⟩) hg).trans h1, (hn.cell (p := ⟨g, 2, none⟩) hg).trans h2, (fr 0).trans f0, (fr 1).trans f1, (fr 2).trans f2, Nat.lt_of_lt_of_le hg hn.size⟩
theorem r3_new (u : World) (x y z : Int) (t : TypeId) : R3 (u.alloc (.cells #[.int .i64 x, .int .i64 y, .int .i64 z] t)) u.heap.size x y z := by
  refine ⟨by simp [go_sem], by simp [go_sem], by simp [go_sem], by simp [go_sem], by simp [go_sem], by simp [go_sem], by simp⟩
theorem R3.other {u : World} {g : Nat} {x y z : Int} (h : R3 u g x y z) (q : Addr) (v : Value) (hq : g ≠ q.block) : R3 (u.setCell q v) g x y z := by
  obtain ⟨h0, h1, h2, f0, f1, f2, hg⟩ := h
  have hb := Below.heap_setCell u q v g hq
  have e : ∀ o, (u.setCell q v).cell? ⟨g, o, none⟩ = u.cell? ⟨g, o, none⟩ := fun o => World.cell?_of_block hb
  have fr : ∀ o, (u.setCell q v).frozen? ⟨g, o, none⟩ = u.frozen? ⟨g, o, none⟩ := fun o => by unfold World.frozen?; simp only [hb]
  exact ⟨(e 0).trans h0, (e 1).trans h1, (e 2).trans h2, (fr 0).trans f0, (fr 1).trans f1, (fr 2).trans f2, by simpa using hg⟩
theorem R3.set0 {u : World} {g : Nat} {x y z : Int} (h : R3 u g x y z) (v : Int) : R3 (u.setCell ⟨g, 0, none⟩ (.int .i64 v)) g v y z := by
  obtain ⟨h0, h1, h2, f0, f1, f2, hg⟩ := h
  refine ⟨by simp [go_sem, *], by simp [go_sem, *], by simp [go_sem, *], by simp [go_sem, *], by simp [go_sem, *], by simp [go_sem, *], by simpa using hg⟩
theorem R3.set1 {u : World} {g : Nat} {x y z : Int} (h : R3 u g x y z) (v : Int) : R3 (u.setCell ⟨g, 1, none⟩ (.int .i64 v)) g x v z := by
  obtain ⟨h0, h1, h2, f0, f1, f2, hg⟩ := h
  refine ⟨by simp [go_sem, *], by simp [go_sem, *], by simp [go_sem, *], by simp [go_sem, *], by simp [go_sem, *], by simp [go_sem, *], by simpa using hg⟩
theorem R3.set2 {u : World} {g : Nat} {x y z : Int} (h : R3 u g x y z) (v : Int) : R3 (u.setCell ⟨g, 2, none⟩ (.int .i64 v)) g x y v := by
  obtain ⟨h0, h1, h2, f0, f1, f2, hg⟩ := h
  refine ⟨by simp [go_sem, *], by simp [go_sem, *], by simp [go_sem, *], by simp [go_sem, *], by simp [go_sem, *], by simp [go_sem, *], by simpa using hg⟩
end Go.Proofs.YtoikfekalgkgoaaDoor
