/- Words and lines of texts (plain lists of bytes), and how a list of texts lies in memory. -/
import Derived.Test.YtoikfekalgkgoaaDoorLp
import Derived.WalkKit
import Derived.Below
import Derived.Laws.RangeAny
import Derived.Laws.AppendOwn
import Derived.Laws.OwnMore
import Derived.Deep.AppendLies
namespace Go.Proofs.YtoikfekalgkgoaaDoor.Tx
open Go.RowKit
set_option linter.unusedVariables false

/-- a text as a value -/
def str (l : List UInt8) : Value := .string ⟨l.toArray⟩
def blank (c : UInt8) : Bool := c == 32 || c == 9
/-- the words of a text behind the piece of a word cur -/
def wf : List UInt8 → List UInt8 → List (List UInt8)
  | cur, [] => if cur = [] then [] else [cur]
  | cur, c :: r => if blank c = true then (if cur = [] then wf [] r else cur :: wf [] r) else wf (cur ++ [c]) r
def words (s : List UInt8) : List (List UInt8) := wf [] s
theorem wf_end (s : List UInt8) : ∀ cur, wf cur (s ++ [32]) = wf cur s := by
  induction s with
  | nil => intro cur; simp only [List.nil_append, wf]; rw [if_pos (by decide)]; split <;> rfl
  | cons c r ih =>
    intro cur
    simp only [List.cons_append, wf, ih]
theorem wf_word (c : UInt8) (r cur : List UInt8) (h : blank c = false) : wf cur (c :: r) = wf (cur ++ [c]) r := by rw [wf, if_neg (by rw [h]; decide)]
theorem wf_blank0 (c : UInt8) (r : List UInt8) (h : blank c = true) : wf [] (c :: r) = wf [] r := by rw [wf, if_pos h, if_pos rfl]
theorem wf_blank1 (c : UInt8) (r cur : List UInt8) (h : blank c = true) (hc : cur ≠ []) : wf cur (c :: r) = cur :: wf [] r := by rw [wf, if_pos h, if_neg hc]
/-- a run of signs that are no blanks -/
theorem wf_run (t : List UInt8) : ∀ (cur r : List UInt8), (∀ c ∈ t, blank c = false) → wf cur (t ++ r) = wf (cur ++ t) r := by
  induction t with
  | nil => intro cur r _; simp
  | cons c t ih =>
    intro cur r h
    rw [List.cons_append, wf_word _ _ _ (h c (by simp)), ih _ _ (fun x hx => h x (by simp [hx]))]
    simp
theorem wf_count (s : List UInt8) : ∀ cur, (wf cur s).length ≤ s.length + 1 := by
  induction s with
  | nil => intro cur; unfold wf; split <;> simp
  | cons c r ih =>
    intro cur
    unfold wf
    split
    · split
      · have := ih []; simp only [List.length_cons]; omega
      · have := ih []; simp only [List.length_cons]; omega
    · have := ih (cur ++ [c]); simp only [List.length_cons]; omega
/-- no word is empty, none holds a blank -/
theorem wf_ok (s : List UInt8) : ∀ cur, (∀ c ∈ cur, blank c = false) → ∀ x ∈ wf cur s, x ≠ [] ∧ ∀ c ∈ x, blank c = false := by
  induction s with
  | nil =>
    intro cur hc x hx
    unfold wf at hx
    split at hx
    · cases hx
    · rename_i hne
      rw [List.mem_singleton.1 hx]
      exact ⟨hne, hc⟩
  | cons c r ih =>
    intro cur hc x hx
    unfold wf at hx
    split at hx
    · split at hx
      · exact ih [] (by simp) x hx
      · rename_i hne
        rcases List.mem_cons.1 hx with rfl | hx
        · exact ⟨hne, hc⟩
        · exact ih [] (by simp) x hx
    · rename_i hb
      refine ih (cur ++ [c]) (fun y hy => ?_) x hx
      rcases List.mem_append.1 hy with hy | hy
      · exact hc y hy
      · rw [List.mem_singleton.1 hy]; simpa using hb
theorem words_ne {s x : List UInt8} (h : x ∈ words s) : x ≠ [] := (wf_ok s [] (by simp) x h).1

/-! ### a rune's own bytes -/
theorem decode_body (s : ByteArray) (pos : Nat) : ∀ j, pos < j → j < pos + (Utf8.decode s pos).2 → j < s.size ∧ 128 ≤ (s.get! j).toNat := by
  intro j h1 h2
  unfold Utf8.decode at h2
  simp only at h2
  split at h2
  · omega
  · split at h2
    · rename_i hc
      simp only [Bool.and_eq_true, decide_eq_true_eq, beq_iff_eq] at hc
      split at h2
      · obtain rfl : j = pos + 1 := by simp only at h2; omega
        exact ⟨hc.2.1, by have := hc.2.2; omega⟩
      · simp only at h2; omega
    · split at h2
      · rename_i hc
        simp only [Bool.and_eq_true, decide_eq_true_eq, beq_iff_eq] at hc
        split at h2
        · have : j = pos + 1 ∨ j = pos + 2 := by simp only at h2; omega
          rcases this with rfl | rfl
          · exact ⟨hc.1.2.1, by have := hc.1.2.2; omega⟩
          · exact ⟨hc.2.1, by have := hc.2.2; omega⟩
        · simp only at h2; omega
      · split at h2
        · rename_i hc
          simp only [Bool.and_eq_true, decide_eq_true_eq, beq_iff_eq] at hc
          split at h2
          · have : j = pos + 1 ∨ j = pos + 2 ∨ j = pos + 3 := by simp only at h2; omega
            rcases this with rfl | rfl | rfl
            · exact ⟨hc.1.1.2.1, by have := hc.1.1.2.2; omega⟩
            · exact ⟨hc.1.2.1, by have := hc.1.2.2; omega⟩
            · exact ⟨hc.2.1, by have := hc.2.2; omega⟩
          · simp only at h2; omega
        · simp only at h2; omega

/-! ### lines -/
def upto (x : UInt8) : List UInt8 → List UInt8
  | [] => []
  | c :: r => if c = x then [] else c :: upto x r
theorem upto_le (x : UInt8) (s : List UInt8) : (upto x s).length ≤ s.length := by
  induction s with
  | nil => simp [upto]
  | cons c r ih => unfold upto; split <;> simp <;> omega
def lines (s : List UInt8) : List (List UInt8) := if h : s = [] then [] else upto 10 s :: lines (s.drop ((upto 10 s).length + 1))
termination_by s.length
decreasing_by
  have : 0 < s.length := List.length_pos_iff.2 h
  simp only [List.length_drop]; omega
theorem lines_nil : lines [] = [] := by rw [lines]; simp
theorem lines_ne {s : List UInt8} (h : s ≠ []) : lines s = upto 10 s :: lines (s.drop ((upto 10 s).length + 1)) := by rw [lines, dif_neg h]

/-! ### a list of texts in memory -/
def SL (u : World) (v : Value) (ws : List (List UInt8)) : Prop :=
  ws.length ≤ maxLen ∧ ∃ (o : Option Addr) (cap : Nat), v = .slice o ws.length cap ∧ (0 < ws.length → ∃ g, o = some ⟨g, 0, none⟩ ∧ g < u.heap.size ∧ ∀ i (h : i < ws.length), u.cell? ⟨g, i, none⟩ = some (str ws[i]))
theorem SL.mono {u u1 : World} {v : Value} {ws : List (List UInt8)} (h : SL u v ws) (hn : Below u.heap.size u u1) : SL u1 v ws := by
  obtain ⟨h0, o, cap, hv, hc⟩ := h
  refine ⟨h0, o, cap, hv, fun hl => ?_⟩
  obtain ⟨g, ho, hg, hcl⟩ := hc hl
  exact ⟨g, ho, Nat.lt_of_lt_of_le hg hn.size, fun i hi => (hn.cell (p := ⟨g, i, none⟩) hg).trans (hcl i hi)⟩
theorem SL.of_own {u : World} {base : Nat} {e : TypeId} {v : Value} {ws : List (List UInt8)} (h : u.ownsRow base e 1 v ws.length (ws.map str)) (hm : ws.length ≤ maxLen) : SL u v ws := by
  refine ⟨hm, ?_⟩
  rcases h.2 with ⟨rfl, h2⟩ | ⟨g, cap, cur, hv, hg, hh, _⟩
  · exact ⟨none, 0, by rw [h2], fun hl => by omega⟩
  · refine ⟨some ⟨g, 0, none⟩, cap, hv, fun _ => ⟨g, rfl, (Array.getElem?_eq_some_iff.1 hh).1, fun i hi => ?_⟩⟩
    have hc := h.cells (g := g) (by rw [hv]; rfl)
    have := hc i (str ws[i]) (by simp [hi])
    have e : (⟨g, 0, none⟩ : Addr).add i = ⟨g, i, none⟩ := by
      unfold Addr.add
      by_cases h0 : i = 0
      · subst h0; rfl
      · rw [if_neg h0]; simp
    rw [e] at this
    exact this
end Go.Proofs.YtoikfekalgkgoaaDoor.Tx
