/- A list of points as a text: package text's Print, the reference's Print. -/
import Derived.Test.YtoikfekalgkgoaaDoorWhole
import Derived.Test.YtoikfekalgkgoaaDoorPl
import Derived.Test.YtoikfekalgkgoaaDoorBld
namespace Go.Proofs.YtoikfekalgkgoaaDoor
open Go.RowKit Go.Proofs
set_option linter.unusedVariables false

def Tx.print (L : List P3) : List UInt8 := L.flatMap fun p => Tx.pt p.1 p.2.1 p.2.2 ++ [10]
theorem print_snoc (L : List P3) (p : P3) : Tx.print (L ++ [p]) = Tx.print L ++ (Tx.pt p.1 p.2.1 p.2.2 ++ [10]) := by simp [Tx.print]
/-- the numbers are ints -/
def OkP (p : P3) : Prop := Ti.inI p.1 ∧ Ti.inI p.2.1 ∧ Ti.inI p.2.2
theorem pt_len {p : P3} (h : OkP p) : (Tx.pt p.1 p.2.1 p.2.2).length ≤ 65 := by
  obtain ⟨h1, h2, h3⟩ := h
  have l1 := Lib.itoa_length_le _ h1.1 h1.2
  have l2 := Lib.itoa_length_le _ h2.1 h2.2
  have l3 := Lib.itoa_length_le _ h3.1 h3.2
  unfold Tx.pt
  simp only [List.length_append, List.length_cons, List.length_nil]
  omega
theorem print_len {L : List P3} (h : ∀ p ∈ L, OkP p) : (Tx.print L).length ≤ 66 * L.length := by
  induction L with
  | nil => simp [Tx.print]
  | cons p L ih =>
    have h1 := pt_len (h p (by simp))
    have h2 := ih (fun q hq => h q (by simp [hq]))
    have e : Tx.print (p :: L) = (Tx.pt p.1 p.2.1 p.2.2 ++ [10]) ++ Tx.print L := by simp [Tx.print]
    rw [e]
    simp only [List.length_append, List.length_cons, List.length_nil] at *
    omega
theorem take_snoc {α : Type} (L : List α) (k : Nat) (h : k < L.length) : L.take (k + 1) = L.take k ++ [L[k]] := by
  rw [List.take_add_one, List.getElem?_eq_getElem h]; rfl
theorem pl_cells {u : World} {v : Value} {L : List P3} (h : PL u v L) : ∃ (o : Option Addr) (cap : Nat), v = .slice o L.length cap ∧ ∀ k (hk : k < L.length), ∃ a, o = some a ∧ a.block < u.heap.size ∧
    u.cell? (a.add (k * 3)) = some (.int .i64 L[k].1) ∧ u.cell? ⟨(a.add (k * 3)).block, (a.add (k * 3)).off + 1, none⟩ = some (.int .i64 L[k].2.1) ∧ u.cell? ⟨(a.add (k * 3)).block, (a.add (k * 3)).off + 2, none⟩ = some (.int .i64 L[k].2.2) := by
  obtain ⟨_, ⟨rfl, rfl⟩ | ⟨a, cap, rfl, hb, hc⟩⟩ := h
  · exact ⟨none, 0, rfl, fun k hk => by simp at hk⟩
  · refine ⟨some a, cap, rfl, fun k hk => ⟨a, rfl, hb, ?_⟩⟩
    obtain ⟨c0, c1, c2⟩ := hc k hk
    rw [Nat.mul_comm 3 k] at c0 c1 c2
    have e : ∀ x j, 0 < j → a.add (x + j) = ⟨(a.add x).block, (a.add x).off + j, none⟩ := by
      intro x j hj
      unfold Addr.add
      rw [if_neg (by omega)]
      split
      · subst_vars; simp
      · simp; omega
    rw [e _ _ (by decide)] at c1 c2
    exact ⟨c0, c1, c2⟩

theorem isb_below {T e : TypeId} {B b : Nat} {bs : List Value} {u u1 : World} (h : Lib.IsBuilder T e B b bs u) (hb : Below u.heap.size u u1) : Lib.IsBuilder T e B b bs u1 := by
  have key : ∀ p, Lib.BuilderAt T e B b p bs u → Lib.BuilderAt T e B b p bs u1 := by
    rintro p ⟨h1, v, h2, h3, h4⟩
    exact ⟨h1, v, by rw [hb.block b (Array.getElem?_eq_some_iff.1 h2).1]; exact h2, own_below h3 hb, h4⟩
  exact h.imp (key _) (key _)

set_option maxRecDepth 100000 in
set_option maxHeartbeats 2000000 in
theorem rprint_any (L : List P3) (v : Value) (w : World) (h : PL w v L) (hk : ∀ p ∈ L, OkP p) (hl : L.length ≤ 1000000) :
    Calls Tryd.prog 9 #[v] w fun e w' => e = .returned (.string ⟨(Tx.print L).toArray⟩) ∧ Below w.heap.size w w' := by
  obtain ⟨o, cap, rfl, hc⟩ := pl_cells h
  have HC := Lib.hid hc
  have HK := Lib.hid hk
  have RP := Lib.hid (fun (p : P3) (hp : OkP p) W => (show Calls Tryd.prog 11 #[.agg #[.int .i64 p.1, .int .i64 p.2.1, .int .i64 p.2.2]] W fun e w' => e = .returned (.string ⟨(Tx.pt p.1 p.2.1 p.2.2).toArray⟩) ∧ Below W.heap.size W w' from rpoint_any _ _ _ hp.1 hp.2.1 hp.2.2 W))
  clear h hc hk
  go_enter Tryd.func9, Tryd.ntmps9
  go_wp2_with fail
  go_loopw [3, 4] (fun a b wr => ∃ (k : Nat) (T : List UInt8), b = .int .i64 k ∧ a = .string ⟨T.toArray⟩ ∧ k ≤ L.length ∧ Hid (T = Tx.print (L.take k)) ∧ T.length ≤ 66 * k ∧ Below w.heap.size w wr) (fun _ b _ => L.length - (intOf b).toNat)
  case atStart => exact ⟨0, [], rfl, rfl, by omega, Lib.hid (by simp [Tx.print]), by simp, Below.refl _ _⟩
  case round =>
    obtain ⟨k, T, rfl, rfl, hk, HT, hTl, hB⟩ := hrel
    have HB := Lib.hid hB
    by_cases hkl : k < L.length
    · obtain ⟨a, rfl, hb, c0, c1, c2⟩ := HC.out k hkl
      have hkI : (k : Int) < L.length := by omega
      have t0 := (hB.cell (p := a.add (k * 3)) (by rw [addr_block]; exact hb)).trans c0
      have t1 := (hB.cell (p := ⟨(a.add (k * 3)).block, (a.add (k * 3)).off + 1, none⟩) (by show (a.add (k * 3)).block < _; rw [addr_block]; exact hb)).trans c1
      have t2 := (hB.cell (p := ⟨(a.add (k * 3)).block, (a.add (k * 3)).off + 2, none⟩) (by show (a.add (k * 3)).block < _; rw [addr_block]; exact hb)).trans c2
      have OK := HK.out L[k] (List.getElem_mem hkl)
      have RPk := Lib.hid (fun W => RP.out L[k] OK W)
      have hpl := pt_len OK
      have HS := Lib.hid (show Tx.print (L.take (k + 1)) = T ++ (Tx.pt L[k].1 L[k].2.1 L[k].2.2 ++ [10]) by rw [take_snoc L k hkl, print_snoc, HT.out])
      generalize L[k].1 = x at *
      generalize L[k].2.1 = y at *
      generalize L[k].2.2 = z at *
      generalize Tx.pt x y z = P at *
      clear hB c0 c1 c2 hb OK
      go_wp2_with fail
      refine (RPk.out _).mono ?_
      rintro e w1 ⟨rfl, hn⟩
      go_wp2_with fail
      go_roundw
      case rel => exact ⟨k + 1, T ++ (P ++ [10]), rfl, by simp [ByteArray.mk_append_mk], by omega, Lib.hid HS.out.symm, by simp; omega, HB.out.trans (hn.mono HB.out.size)⟩
      case measure => simp [intOf]; omega
    · have e : L.take k = L := List.take_of_length_le (by omega)
      have HE := Lib.hid e
      have hkI : ¬ (k : Int) < L.length := by omega
      clear e hB
      go_wp2_with fail
      go_ret
      exact ⟨congrArg (fun T : List UInt8 => Ending.returned (.string ⟨T.toArray⟩)) (HT.out.trans (by rw [HE.out])), HB.out⟩

set_option maxRecDepth 100000 in
set_option maxHeartbeats 2000000 in
theorem tprint_any (L : List P3) (v : Value) (w : World) (h : PL w v L) (hk : ∀ p ∈ L, OkP p) (hl : L.length ≤ 1000000) (he : Env w) :
    Calls Tryd.prog 8 #[v] w fun e w' => e = .returned (.string ⟨(Tx.print L).toArray⟩) ∧ Below w.heap.size w w' := by
  obtain ⟨o, cap, rfl, hc⟩ := pl_cells h
  have HC := Lib.hid hc
  have HK := Lib.hid hk
  have TP := Lib.hid (fun (p : P3) (hp : OkP p) W (hw : Below w.heap.size w W) => (show Calls Tryd.prog 10 #[.agg #[.int .i64 p.1, .int .i64 p.2.1, .int .i64 p.2.2]] W fun e w' => e = .returned (.string ⟨(Tx.pt p.1 p.2.1 p.2.2).toArray⟩) ∧ Below W.heap.size W w' from point_any _ _ _ hp.1 hp.2.1 hp.2.2 W (he.mono hw)))
  clear h hc hk he
  go_enter Tryd.func8, Tryd.ntmps8
  go_wp2_with fail
  go_loopw [8] (fun b wr => ∃ (k : Nat) (T : List UInt8), b = .int .i64 k ∧ Lib.IsBuilder 44 5 w.heap.size w.heap.size (Lib.byteCells T) wr ∧ k ≤ L.length ∧ Hid (T = Tx.print (L.take k)) ∧ T.length ≤ 66 * k ∧ Below w.heap.size w wr) (fun b _ => L.length - (intOf b).toNat)
  case atStart =>
    refine ⟨0, [], rfl, .inl ⟨Nat.le_refl _, .slice none 0 0, ?_, ⟨rfl, .inl ⟨rfl, rfl⟩⟩, by simp [Value.ownBlock]⟩, by omega, Lib.hid (by simp [Tx.print]), by simp, (Below.refl _ _).alloc (Nat.le_refl _) _⟩
    first | exact Array.getElem?_push_size | exact Array.getElem?_push_size .. | (show (w.heap.push _)[w.heap.size]? = some _; exact Array.getElem?_push_size)
  case round =>
    obtain ⟨k, T, rfl, hBu, hk, HT, hTl, hB⟩ := hrel
    have HB := Lib.hid hB
    have HBU := Lib.hid hBu
    by_cases hkl : k < L.length
    · obtain ⟨a, rfl, hb, c0, c1, c2⟩ := HC.out k hkl
      have hkI : (k : Int) < L.length := by omega
      have t0 := (hB.cell (p := a.add (k * 3)) (by rw [addr_block]; exact hb)).trans c0
      have t1 := (hB.cell (p := ⟨(a.add (k * 3)).block, (a.add (k * 3)).off + 1, none⟩) (by show (a.add (k * 3)).block < _; rw [addr_block]; exact hb)).trans c1
      have t2 := (hB.cell (p := ⟨(a.add (k * 3)).block, (a.add (k * 3)).off + 2, none⟩) (by show (a.add (k * 3)).block < _; rw [addr_block]; exact hb)).trans c2
      have OK := HK.out L[k] (List.getElem_mem hkl)
      have TPk := Lib.hid (fun W hw => TP.out L[k] OK W hw)
      have hpl := pt_len OK
      have HS := Lib.hid (show Tx.print (L.take (k + 1)) = T ++ (Tx.pt L[k].1 L[k].2.1 L[k].2.2 ++ [10]) by rw [take_snoc L k hkl, print_snoc, HT.out])
      generalize L[k].1 = x at *
      generalize L[k].2.1 = y at *
      generalize L[k].2.2 = z at *
      generalize Tx.pt x y z = P at *
      clear hB c0 c1 c2 hb OK hBu
      go_wp2_with fail
      refine (TPk.out _ (HB.out.alloc HB.out.size _)).mono ?_
      rintro e w1 ⟨rfl, hn⟩
      have hB1 := (HB.out.alloc HB.out.size (.cells #[.int .i64 x, .int .i64 y, .int .i64 z] 24)).trans (hn.mono (HB.out.alloc HB.out.size _).size)
      have hBu1 := isb_below HBU.out (((Below.refl wr.heap.size wr).alloc (Nat.le_refl _) (.cells #[.int .i64 x, .int .i64 y, .int .i64 z] 24)).trans (hn.mono (by simp)))
      have HB1 := Lib.hid hB1
      have HBU1 := Lib.hid hBu1
      clear hn hB1 hBu1 HB HBU
      go_wp2_with fail
      refine (wrstr_any w.heap.size w.heap.size _ _ _ HBU1.out (by rw [Lib.byteCells_length]; simp [ByteArray.size]; omega) HB1.out.size).mono ?_
      rintro e w2 ⟨rfl, hb2, hn⟩
      go_wp2_with fail
      go_roundw
      case rel =>
        refine ⟨k + 1, T ++ (P ++ [10]), rfl, .inr ?_, by omega, Lib.hid HS.out.symm, by simp; omega, HB1.out.trans hn⟩
        have e : Lib.byteCells (T ++ (P ++ [10])) = Lib.byteCells T ++ Lib.strCells (⟨P.toArray⟩ ++ ⟨#[10]⟩) := by
          simp [Lib.byteCells, Lib.strCells]
        rw [e]; exact hb2
      case measure => simp [intOf]; omega
    · have e : L.take k = L := List.take_of_length_le (by omega)
      have HE := Lib.hid e
      have hkI : ¬ (k : Int) < L.length := by omega
      clear e hB hBu
      go_wp2_with fail
      refine (Tryd.Builder_String_any w.heap.size w.heap.size T _ HBU.out HB.out.size).mono ?_
      rintro e w1 ⟨rfl, hn⟩
      go_wp2_with fail
      go_ret
      exact ⟨congrArg (fun T : List UInt8 => Ending.returned (.string ⟨T.toArray⟩)) (HT.out.trans (by rw [HE.out])), HB.out.trans hn⟩
end Go.Proofs.YtoikfekalgkgoaaDoor
