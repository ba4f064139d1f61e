/- Lists of points in memory, with their values as a list; what Parse hands back. -/
import Derived.Test.YtoikfekalgkgoaaDoorTri
import Derived.Test.YtoikfekalgkgoaaDoorWords
namespace Go.Proofs.YtoikfekalgkgoaaDoor
open Go.RowKit Go.Proofs
set_option linter.unusedVariables false

/-- the cells of a list of points -/
def ptsC (L : List P3) : List Value := L.flatMap fun p => [.int .i64 p.1, .int .i64 p.2.1, .int .i64 p.2.2]
theorem ptsC_len (L : List P3) : (ptsC L).length = 3 * L.length := by
  induction L with
  | nil => rfl
  | cons p L ih => simp only [ptsC, List.flatMap_cons, List.length_append, List.length_cons, List.length_nil] at *; omega
theorem ptsC_get (L : List P3) : ∀ i (h : i < L.length), (ptsC L)[3 * i]? = some (.int .i64 L[i].1) ∧ (ptsC L)[3 * i + 1]? = some (.int .i64 L[i].2.1) ∧ (ptsC L)[3 * i + 2]? = some (.int .i64 L[i].2.2) := by
  induction L with
  | nil => intro i h; simp at h
  | cons p L ih =>
    intro i h
    match i with
    | 0 => exact ⟨rfl, rfl, rfl⟩
    | i + 1 =>
      obtain ⟨h1, h2, h3⟩ := ih i (by simpa using h)
      have e : ∀ k, (ptsC (p :: L))[3 * (i + 1) + k]? = (ptsC L)[3 * i + k]? := fun k => by
        rw [show 3 * (i + 1) + k = 3 + (3 * i + k) by omega]
        show ([Value.int .i64 p.1, .int .i64 p.2.1, .int .i64 p.2.2] ++ ptsC L)[3 + (3 * i + k)]? = _
        rw [List.getElem?_append_right (by simp)]
        simp
      exact ⟨(e 0).trans h1, (e 1).trans h2, (e 2).trans h3⟩
/-- a list of points that lies in memory -/
def PL (u : World) (v : Value) (L : List P3) : Prop :=
  L.length ≤ maxLen ∧ ((v = .slice none 0 0 ∧ L = []) ∨ ∃ (a : Addr) (cap : Nat), v = .slice (some a) L.length cap ∧ a.block < u.heap.size ∧
    ∀ i (h : i < L.length), u.cell? (a.add (3 * i)) = some (.int .i64 L[i].1) ∧ u.cell? (a.add (3 * i + 1)) = some (.int .i64 L[i].2.1) ∧ u.cell? (a.add (3 * i + 2)) = some (.int .i64 L[i].2.2))
theorem addr_block (a : Addr) (x : Nat) : (a.add x).block = a.block := by unfold Addr.add; split <;> rfl
theorem PL.mono {u u1 : World} {v : Value} {L : List P3} (h : PL u v L) (hn : Below u.heap.size u u1) : PL u1 v L := by
  obtain ⟨h0, h1 | ⟨a, cap, hv, hb, hc⟩⟩ := h
  · exact ⟨h0, .inl h1⟩
  · refine ⟨h0, .inr ⟨a, cap, hv, Nat.lt_of_lt_of_le hb hn.size, fun i hi => ?_⟩⟩
    obtain ⟨c0, c1, c2⟩ := hc i hi
    have e : ∀ k, u1.cell? (a.add k) = u.cell? (a.add k) := fun k => hn.cell (p := a.add k) (by rw [addr_block]; exact hb)
    exact ⟨(e _).trans c0, (e _).trans c1, (e _).trans c2⟩
theorem PL.of_own {u : World} {base : Nat} {e : TypeId} {v : Value} {L : List P3} (h : u.ownsRow base e 3 v L.length (ptsC L)) (hm : L.length ≤ maxLen) : PL u v L := by
  refine ⟨hm, ?_⟩
  rcases h.2 with ⟨rfl, h2⟩ | ⟨g, cap, cur, hv, hg, hh, _⟩
  · exact .inl ⟨rfl, List.length_eq_zero_iff.1 h2⟩
  · refine .inr ⟨⟨g, 0, none⟩, cap, hv, (Array.getElem?_eq_some_iff.1 hh).1, fun i hi => ?_⟩
    have hc := h.cells (g := g) (by rw [hv]; rfl)
    obtain ⟨c0, c1, c2⟩ := ptsC_get L i hi
    exact ⟨hc _ _ c0, hc _ _ c1, hc _ _ c2⟩
/-- the same list, cut at its length -/
def cutCap : Value → Value
  | .slice (some a) n _ => .slice (some a) n n
  | v => v
theorem PL.cutCap {u : World} {v : Value} {L : List P3} (h : PL u v L) : PL u (cutCap v) L := by
  obtain ⟨h0, ⟨rfl, h1⟩ | ⟨a, cap, rfl, hb, hc⟩⟩ := h
  · exact ⟨h0, .inl ⟨rfl, h1⟩⟩
  · exact ⟨h0, .inr ⟨a, _, rfl, hb, hc⟩⟩
/-- what Parse hands back of a text that is not too long -/
def ParseR (x : Sum (List P3) Nat) (e : Ending) (u : World) : Prop := match x with
  | .inr n => e = .returned (.tuple #[.slice none 0 0, .int .i64 190, .int .i64 n])
  | .inl L => ∃ v, PL u v L ∧ e = .returned (.tuple #[v, .int .i64 0, .int .i64 0])
theorem ParseR.mono {x : Sum (List P3) Nat} {e : Ending} {u u1 : World} (h : ParseR x e u) (hn : Below u.heap.size u u1) : ParseR x e u1 := by
  cases x with
  | inr n => exact h
  | inl L =>
    obtain ⟨v, h1, h2⟩ := h
    exact ⟨v, h1.mono hn, h2⟩
/-- what Parse hands back of a text -/
def ParseE (s : List UInt8) (e : Ending) (u : World) : Prop :=
  if 65536 < s.length then e = .returned (.tuple #[.slice none 0 0, .int .i64 2, .int .i64 0]) else ParseR (Tx.pl 0 [] (Tx.lines s)) e u
theorem ParseE.mono {s : List UInt8} {e : Ending} {u u1 : World} (h : ParseE s e u) (hn : Below u.heap.size u u1) : ParseE s e u1 := by
  unfold ParseE at *
  split
  · rename_i h0; rw [if_pos h0] at h; exact h
  · rename_i h0; rw [if_neg h0] at h; exact h.mono hn
/-- the state of Parse: r is left, L the points so far, k the line's number -/
def PS (s r : List UInt8) (L : List P3) (k : Nat) : Prop := Tx.pl 0 [] (Tx.lines s) = Tx.pl k L (Tx.lines r) ∧ k + r.length ≤ s.length ∧ L.length ≤ k
theorem PS.start (s : List UInt8) : PS s s [] 0 := ⟨rfl, by omega, by simp⟩
theorem drop_lt {r : List UInt8} (h : r ≠ []) : (r.drop ((Tx.upto 10 r).length + 1)).length + 1 ≤ r.length := by
  have : 0 < r.length := List.length_pos_iff.2 h
  simp; omega
theorem PS.done {s : List UInt8} {L : List P3} {k : Nat} (h : PS s [] L k) : Tx.pl 0 [] (Tx.lines s) = .inl L := by
  rw [h.1, Tx.lines_nil]; rfl
theorem PS.skip {s r : List UInt8} {L : List P3} {k : Nat} (h : PS s r L k) (hr : r ≠ []) (hs : Tx.skip (Tx.upto 10 r) = true) : PS s (r.drop ((Tx.upto 10 r).length + 1)) L (k + 1) := by
  obtain ⟨h1, h2, h3⟩ := h
  refine ⟨?_, by have := drop_lt hr; omega, by omega⟩
  rw [h1, Tx.lines_ne hr, Tx.pl, if_pos hs]
theorem PS.point {s r : List UInt8} {L : List P3} {k : Nat} {p : P3} (h : PS s r L k) (hr : r ≠ []) (hs : ¬ Tx.skip (Tx.upto 10 r) = true) (ht : Tx.trip (Tx.words (Tx.upto 10 r)) = some p) : PS s (r.drop ((Tx.upto 10 r).length + 1)) (L ++ [p]) (k + 1) := by
  obtain ⟨h1, h2, h3⟩ := h
  refine ⟨?_, by have := drop_lt hr; omega, by simp; omega⟩
  rw [h1, Tx.lines_ne hr, Tx.pl, if_neg hs, ht]
theorem PS.fault {s r : List UInt8} {L : List P3} {k : Nat} (h : PS s r L k) (hr : r ≠ []) (hs : ¬ Tx.skip (Tx.upto 10 r) = true) (ht : Tx.trip (Tx.words (Tx.upto 10 r)) = none) : Tx.pl 0 [] (Tx.lines s) = .inr k := by
  rw [h.1, Tx.lines_ne hr, Tx.pl, if_neg hs, ht]
theorem skip_nil {x : List UInt8} (h : Tx.words x = []) : Tx.skip x = true := by unfold Tx.skip; rw [h]
theorem skip_cons {x : List UInt8} {c : UInt8} {y : List UInt8} {r : List (List UInt8)} (h : Tx.words x = (c :: y) :: r) : Tx.skip x = (c == 35) := by
  unfold Tx.skip
  rw [h]
  simp
theorem words_head {x : List UInt8} (h : Tx.words x ≠ []) : ∃ c y r, Tx.words x = (c :: y) :: r := by
  cases hw : Tx.words x with
  | nil => exact absurd hw h
  | cons a r =>
    cases a with
    | nil => exact absurd rfl (Tx.words_ne (s := x) (x := []) (by rw [hw]; simp))
    | cons c y => exact ⟨c, y, r, rfl⟩
theorem wf_len (s : List UInt8) : ∀ cur, ∀ x ∈ Tx.wf cur s, x.length ≤ cur.length + s.length := by
  induction s with
  | nil =>
    intro cur x hx
    unfold Tx.wf at hx
    split at hx
    · cases hx
    · rw [List.mem_singleton.1 hx]; simp
  | cons c r ih =>
    intro cur x hx
    unfold Tx.wf at hx
    split at hx
    · split at hx
      · have := ih [] x hx; simp at *; omega
      · rcases List.mem_cons.1 hx with rfl | hx
        · simp
        · have := ih [] x hx; simp at *; omega
    · have := ih (cur ++ [c]) x hx; simp at *; omega
theorem own_below {w w' : World} {B e size n : Nat} {v : Value} {xs : List Value} (h : w.ownsRow B e size v n xs) (hb : Below w.heap.size w w') : w'.ownsRow B e size v n xs := by
  obtain ⟨h1, h2⟩ := h
  refine ⟨h1, h2.imp id ?_⟩
  rintro ⟨g, cap, cur, hv, hg, hh, hr⟩
  exact ⟨g, cap, cur, hv, hg, by rw [hb.block g (Array.getElem?_eq_some_iff.1 hh).1]; exact hh, hr⟩

theorem three_new (u : World) (x y z : Int) (t : TypeId) : ∀ j v, ([.int .i64 x, .int .i64 y, .int .i64 z] : List Value)[j]? = some v → (u.alloc (.cells #[.int .i64 x, .int .i64 y, .int .i64 z] t)).cell? ((⟨u.heap.size, 0, none⟩ : Addr).add j) = some v := by
  intro j v hj
  match j, hj with
  | 0, hj => simp at hj; subst hj; simp [Addr.add]
  | 1, hj => simp at hj; subst hj; simp [Addr.add]
  | 2, hj => simp at hj; subst hj; simp [Addr.add]
theorem three_new2 (u : World) (o : Obj) (x y z : Int) (t : TypeId) : ∀ j v, ([.int .i64 x, .int .i64 y, .int .i64 z] : List Value)[j]? = some v → ((u.alloc o).alloc (.cells #[.int .i64 x, .int .i64 y, .int .i64 z] t)).cell? ((⟨u.heap.size + 1, 0, none⟩ : Addr).add j) = some v := by
  have := three_new (u.alloc o) x y z t
  simpa using this
theorem Tryd.infoPoint : (Tryd.prog.info? 24).map (fun i => (i.zero, i.size, i.bytes)) = some (some (.agg #[.int .i64 0, .int .i64 0, .int .i64 0]), 3, 24) := by kernel_rfl
theorem ptsC_snoc (L : List P3) (p : P3) : ptsC (L ++ [p]) = ptsC L ++ [.int .i64 p.1, .int .i64 p.2.1, .int .i64 p.2.2] := by simp [ptsC]
def strLen : Value → Nat
  | .string b => b.size
  | _ => 0
end Go.Proofs.YtoikfekalgkgoaaDoor
