/- The walk of the names' law. -/
import Derived.Test.YtdcllcbhepajeaaDoorRows
import Derived.Test.YtdcllcbhepajeaaDoorShelf
import Derived.WalkKit
import Derived.WalkSpells
import Derived.WalkLawsBesides
import Derived.Lib.Hide
import Derived.Lib.ItoaLen
import Derived.Deep.QuietTactic
import Derived.BigQuiet
namespace Go.Proofs.YtdcllcbhepajeaaDoor
open Go.RowKit Go.Proofs
set_option linter.unusedVariables false

/-- a list of numbers as a row of pairs of equal numbers -/
def dbl : List Int → List Value
  | [] => []
  | v :: r => .int .i64 v :: .int .i64 v :: dbl r
def errsL : List Int := [0, 1, 2, 10, 20, 21, 90, 100, 101, 102, 110, 120, 121, 160, 170, 190]
def restL : List Int := [1073741824, 512, 16, 8, 100000, 65536, 65536, 65536, 1, 2, 3, 1, 2, 3, 4, 5, 6, 7, 8, 9, 10]

def Made (w : World) (l : List Int) (e : Ending) (w' : World) : Prop :=
  ∃ g c, e = .returned (.slice (some ⟨g, 0, none⟩) l.length c) ∧ w'.ownsRow w.heap.size 25 2 (.slice (some ⟨g, 0, none⟩) l.length c) l.length (dbl l) ∧ Below w.heap.size w w'

theorem made_of (w : World) (l : List Int) (cur : Array Value) (n : Nat) (hn : l.length = n) (hm : n ≤ maxLen) (hc : cur.toList = dbl l) (hd : (dbl l).length = n * 2) :
    Made w l (.returned (.slice (some ⟨w.heap.size, 0, none⟩) n n)) (w.alloc (.cells cur 25)) := by
  subst hn
  refine ⟨w.heap.size, l.length, rfl, ⟨hd, .inr ⟨w.heap.size, l.length, cur, rfl, Nat.le_refl _, heap_alloc_new w _, Nat.le_refl _, hm, ?_, ?_⟩⟩, (Below.refl _ _).alloc (Nat.le_refl _) _⟩
  · rw [← Array.length_toList, hc, hd]
  · rw [hc, List.take_of_length_le (by omega)]

theorem errs_any (w : World) : Calls Tryd.prog 12 #[] w (Made w errsL) := by
  go_enter Tryd.func12, Tryd.ntmps12
  go_wp2
  refine bodyPost_ret (v := .slice (some ⟨w.heap.size, 0, none⟩) 16 16) (by simp [results, Tryd.results12, go_sem]) rfl ?_
  (with_reducible refine made_of w errsL _ 16 ?_ ?_ ?_ ?_) <;> first | rfl | decide

set_option maxHeartbeats 1000000 in
theorem rest_any (w : World) : Calls Tryd.prog 13 #[] w (Made w restL) := by
  go_enter Tryd.func13, Tryd.ntmps13
  go_wp2
  refine bodyPost_ret (v := .slice (some ⟨w.heap.size, 0, none⟩) 21 21) (by simp [results, Tryd.results13, go_sem]) rfl ?_
  (with_reducible refine made_of w restL _ 21 ?_ ?_ ?_ ?_) <;> first | rfl | decide

theorem grow_below (w : World) (k : Nat) (os : Array Obj) : Below w.heap.size w (Go.Sort.grow (w.drewN k) os) :=
  ⟨rfl, rfl, rfl, by simp [Go.Sort.grow], fun b hb => by simp [Go.Sort.grow, Array.getElem?_append, hb]⟩

theorem err_text (n : Int) (h0 : -9223372036854775808 ≤ n) (h1 : n ≤ 9223372036854775807) (w : World) (htab : Lib.TabIs Tryd.prog w "internal/strconv.uint64pow10" .u64 Lib.pow10Tab) :
    Calls Tryd.prog 14 #[.int .i64 n] w fun e w' => e = .returned (.string ({ data := #[101, 114, 114, 111, 114, 32] } ++ ⟨(Lib.itoa n).toArray⟩)) ∧ Below w.heap.size w w' := by
  have hl := Lib.itoa_length_le n h0 h1
  have hl' : 6 + (Lib.itoa n).length ≤ 9223372036854775807 := by omega
  go_enter Tryd.func14, Tryd.ntmps14
  go_wp2_with fail
  refine (Tryd.strconv_Itoa n h0 h1 _ htab).mono ?_
  rintro e w1 ⟨rfl, k, os, rfl⟩
  go_wp2
  go_ret
  exact ⟨rfl, grow_below w k os⟩

theorem err_lit (n : Int) (s : ByteArray) (h0 : -9223372036854775808 ≤ n) (h1 : n ≤ 9223372036854775807) (h : ({ data := #[101, 114, 114, 111, 114, 32] } ++ ⟨(Lib.itoa n).toArray⟩ : ByteArray) = s) (w : World) (htab : Lib.TabIs Tryd.prog w "internal/strconv.uint64pow10" .u64 Lib.pow10Tab) :
    Calls Tryd.prog 14 #[.int .i64 n] w fun e w' => e = .returned (.string s) ∧ Below w.heap.size w w' := by
  subst h; exact err_text n h0 h1 w htab

theorem gTab : Tryd.prog.globalNamed "internal/strconv.uint64pow10" = some 3 := by kernel_rfl
theorem tab_lt {w : World} (h : Lib.TabIs Tryd.prog w "internal/strconv.uint64pow10" .u64 Lib.pow10Tab) : 3 < w.heap.size :=
  World.block_lt_of_cell? w ⟨3, 0, none⟩ (h.cell gTab 0 (by decide))
theorem tab_below {w w' : World} (h : Lib.TabIs Tryd.prog w "internal/strconv.uint64pow10" .u64 Lib.pow10Tab) (hb : Below w.heap.size w w') : Lib.TabIs Tryd.prog w' "internal/strconv.uint64pow10" .u64 Lib.pow10Tab :=
  var?_below hb gTab (tab_lt h) h

theorem tab_drewN {w : World} {n : Nat} (h : Lib.TabIs Tryd.prog w "internal/strconv.uint64pow10" .u64 Lib.pow10Tab) : Lib.TabIs Tryd.prog (w.drewN n) "internal/strconv.uint64pow10" .u64 Lib.pow10Tab := h
theorem dbl_at : ∀ (l : List Int) (k : Nat), k < l.length → (dbl l)[k * 2]? = some (.int .i64 (l.getD k 0)) ∧ (dbl l)[k * 2 + 1]? = some (.int .i64 (l.getD k 0))
  | [], k, h => by simp at h
  | v :: r, 0, _ => by simp [dbl]
  | v :: r, k + 1, h => by
    have := dbl_at r k (by simpa using h)
    rw [show (k + 1) * 2 = k * 2 + 1 + 1 by omega, show k * 2 + 1 + 1 + 1 = (k * 2 + 1) + 1 + 1 by omega]
    simpa [dbl] using this
theorem dbl_append : ∀ (a b : List Int), dbl (a ++ b) = dbl a ++ dbl b
  | [], b => rfl
  | v :: r, b => by simp [dbl, dbl_append r b]

theorem owns_below {w w' : World} {base : Nat} {e : TypeId} {size : Nat} {v : Value} {n : Nat} {xs : List Value} (h : w.ownsRow base e size v n xs) (hb : Below w.heap.size w w') : w'.ownsRow base e size v n xs := by
  obtain ⟨hl, h | ⟨g, cap, cur, h1, h2, h3, h4⟩⟩ := h
  · exact ⟨hl, .inl h⟩
  · have hg : g < w.heap.size := by
      rcases Nat.lt_or_ge g w.heap.size with h | h
      · exact h
      · rw [Array.getElem?_eq_none h] at h3; cases h3
    exact ⟨hl, .inr ⟨g, cap, cur, h1, h2, (hb.block g hg).trans h3, h4⟩⟩
theorem owns_shape {w : World} {base : Nat} {e : TypeId} {size : Nat} {v : Value} {n : Nat} {xs : List Value} (h : w.ownsRow base e size v n xs) (hn : 0 < n) : ∃ g cap, v = .slice (some ⟨g, 0, none⟩) n cap := by
  obtain ⟨_, ⟨_, h0⟩ | ⟨g, cap, _, h1, _⟩⟩ := h
  · omega
  · exact ⟨g, cap, h1⟩
theorem dbl_one : ∀ (l : List Int), ∀ u ∈ dbl l, u.oneCell' = true
  | [], u, h => by simp [dbl] at h
  | v :: r, u, h => by
    simp only [dbl, List.mem_cons] at h
    rcases h with rfl | rfl | h
    · rfl
    · rfl
    · exact dbl_one r u h
theorem names_cells {w : World} {base : Nat} {e : TypeId} {g cap n : Nat} {l : List Int} (h : w.ownsRow base e 2 (.slice (some ⟨g, 0, none⟩) n cap) n (dbl l)) (k : Nat) (hk : k < l.length) (hn : l.length = n) :
    w.cell? ⟨g, k * 2, none⟩ = some (.int .i64 (l.getD k 0)) ∧ w.cell? ⟨g, k * 2 + 1, none⟩ = some (.int .i64 (l.getD k 0)) := by
  have hd := dbl_at l k hk
  exact ⟨(h.cellAt (k * 2) (by omega)).trans hd.1, (h.cellAt (k * 2 + 1) (by omega)).trans hd.2⟩
theorem infoPair : (Tryd.prog.info? 25).map (fun i => (i.zero, i.size, i.bytes)) = some (some (.agg #[.int .i64 0, .int .i64 0]), 2, 16) := by kernel_rfl

set_option maxRecDepth 100000 in
theorem names_any (w : World) (htab : Lib.TabIs Tryd.prog w "internal/strconv.uint64pow10" .u64 Lib.pow10Tab) :
    Calls Tryd.prog 3 #[] w fun e w' => e = .returned (.bool true) ∧ Below w.heap.size w w' := by
  obtain ⟨i0, hi, hz0, hz1, hz2⟩ := info_parts infoPair
  have HT := Lib.hid htab
  clear htab
  go_enter Tryd.func3, Tryd.ntmps3
  go_wp2_with fail
  refine (errs_any _).mono ?_
  rintro e w1 ⟨g1, c1, rfl, ho1, hb1⟩
  have HO1 := Lib.hid ho1
  have HB1 := Lib.hid hb1
  clear ho1 hb1
  go_wp2_with fail
  refine (rest_any _).mono ?_
  rintro e w2 ⟨g2, c2, rfl, ho2, hb2⟩
  have ho1 := owns_below HO1.out hb2
  have hb := HB1.out.trans (hb2.mono HB1.out.size)
  have HB := Lib.hid hb
  have hsz := hb.size
  have HO := Lib.hid ho1
  have HO2 := Lib.hid ho2
  clear ho1 ho2 hb HO1 HB1 hb2
  go_wp2_with (at_builtin; refine wpList_append_own _ rfl (.tmp 3) (.tmp 4) 22 rfl w.heap.size 25 i0 (.agg #[.int .i64 0, .int .i64 0]) 2 16 Tryd.underlying22 hi hz0 hz1 hz2 rfl (by decide) _ errsL.length (dbl errsL) rfl HO.out ⟨g2, 0, none⟩ restL.length c2 (dbl restL) rfl ?c1 ?c2 ?c3 ?c4 ?c5 ?c6 ?_)
  case c1 => rfl
  case c2 => exact HO2.out.cells rfl
  case c3 => exact dbl_one _
  case c4 => decide
  case c5 => decide
  case c6 => exact hsz
  intro v' w3 hown hgrow hnn
  obtain ⟨g, cap, rfl⟩ := owns_shape hown (by decide)
  have hB3 : Below w.heap.size w w3 := HB.out.grown hgrow hsz (fun k hk => (HO.out.lt k hk).1)
  have HB3 := Lib.hid hB3
  have HT3 := Lib.hid (tab_below HT.out hB3)
  rw [← dbl_append] at hown
  have HC := Lib.hid (fun k (hk : k < (errsL ++ restL).length) => names_cells hown k hk rfl)
  have hf := fun j => hown.frozenAt j
  clear hown hgrow hnn hB3 HO HO2 HB hf
  have hlen : errsL.length + restL.length = 37 := rfl
  rw [hlen]
  clear hlen
  go_wp2_with fail
  go_loopw [2] (fun i wr => ∃ k n : Nat, k ≤ 37 ∧ i = .int .i64 k ∧ wr = w3.drewN n) (fun i _ => 37 - (intOf i).toNat)
  case atStart => exact ⟨0, 0, by omega, rfl, rfl⟩
  case round =>
    obtain ⟨k, n, hk, rfl, rfl⟩ := hrel
    by_cases hlt : k < 37
    · obtain ⟨c0, c1⟩ := HC.out k hlt
      have l1 : (k : Int) < 37 := by omega
      go_wp2_with fail
      go_quiet (fail)
      go_wp2_with fail
      go_roundw
      case rel => exact ⟨k + 1, _, by omega, by go_num, rfl⟩
      case measure => simp [intOf]; omega
    · have l1 : ¬ (k : Int) < 37 := by omega
      go_wp2_with fail
      refine (err_lit 190 ⟨#[101, 114, 114, 111, 114, 32, 49, 57, 48]⟩ (by omega) (by omega) (by kernel_rfl) _ (tab_drewN (n := n) HT3.out)).mono ?_
      rintro e w4 ⟨rfl, hb4⟩
      have HB4 := Lib.hid (show Below w3.heap.size w3 w4 from ⟨hb4.os, hb4.tape, hb4.output, hb4.size, hb4.block⟩)
      clear hb4
      go_wp2_with fail
      refine (err_lit 0 ⟨#[101, 114, 114, 111, 114, 32, 48]⟩ (by omega) (by omega) (by kernel_rfl) _ (tab_below HT3.out HB4.out)).mono ?_
      rintro e w5 ⟨rfl, hb5⟩
      have HB5 := Lib.hid hb5
      clear hb5
      go_wp2
      go_ret
      exact ⟨rfl, HB3.out.trans ((HB4.out.trans (HB5.out.mono HB4.out.size)).mono HB3.out.size)⟩

end Go.Proofs.YtdcllcbhepajeaaDoor
