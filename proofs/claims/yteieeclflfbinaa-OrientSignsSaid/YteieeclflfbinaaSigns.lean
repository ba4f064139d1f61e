/- The contract of package orient's Sign over a list of points. (Printed by mksigns.py.) -/
import Derived.Test.YteieeclflfbinaaSign
namespace Go.Proofs.Yteieeclflfbinaa
open Go.RowKit Go.Proofs
set_option linter.unusedVariables false

/-- a list of n points that lies in memory -/
def Pts (u : World) (v : Value) (n : Nat) (X Y Z : Nat → Int) : Prop :=
  n ≤ maxLen ∧ ((v = .slice none 0 0 ∧ n = 0) ∨ ∃ (a : Addr) (cap : Nat), v = .slice (some a) n cap ∧ a.block < u.heap.size ∧
    ∀ i, i < n → u.cell? (a.add (3 * i)) = some (.int .i64 (X i)) ∧ u.cell? (a.add (3 * i + 1)) = some (.int .i64 (Y i)) ∧ u.cell? (a.add (3 * i + 2)) = some (.int .i64 (Z i)))
theorem ixI0 (a b c d : Int) (W : World) : (Instr.index 72 (.agg #[.int .i64 a, .int .i64 b, .int .i64 c, .int .i64 d]) (.int .i64 0)).run Try.prog W = .ok (.int .i64 a) W := by kernel_rfl
theorem ixI1 (a b c d : Int) (W : World) : (Instr.index 72 (.agg #[.int .i64 a, .int .i64 b, .int .i64 c, .int .i64 d]) (.int .i64 1)).run Try.prog W = .ok (.int .i64 b) W := by kernel_rfl
theorem ixI2 (a b c d : Int) (W : World) : (Instr.index 72 (.agg #[.int .i64 a, .int .i64 b, .int .i64 c, .int .i64 d]) (.int .i64 2)).run Try.prog W = .ok (.int .i64 c) W := by kernel_rfl
theorem ixI3 (a b c d : Int) (W : World) : (Instr.index 72 (.agg #[.int .i64 a, .int .i64 b, .int .i64 c, .int .i64 d]) (.int .i64 3)).run Try.prog W = .ok (.int .i64 d) W := by kernel_rfl

/-- four unlike places of a list of n -/
def okp (n : Nat) (i j k m : Int) : Prop := ((0 ≤ i ∧ i < n) ∧ (0 ≤ j ∧ j < n) ∧ (0 ≤ k ∧ k < n) ∧ (0 ≤ m ∧ m < n)) ∧ i ≠ j ∧ i ≠ k ∧ i ≠ m ∧ j ≠ k ∧ j ≠ m ∧ k ≠ m
instance (n : Nat) (i j k m : Int) : Decidable (okp n i j k m) := inferInstanceAs (Decidable (_ ∧ _))
/-- the first a of them are well -/
def GP (n : Nat) (i j k m a : Int) : Prop := (1 ≤ a → 0 ≤ i ∧ i < n) ∧ (2 ≤ a → 0 ≤ j ∧ j < n ∧ i ≠ j) ∧ (3 ≤ a → 0 ≤ k ∧ k < n ∧ i ≠ k ∧ j ≠ k) ∧ (4 ≤ a → 0 ≤ m ∧ m < n ∧ i ≠ m ∧ j ≠ m ∧ k ≠ m)
/-- a state of the sort, as the cells hold it -/
def Lk (s : (Nat → Nat) × Int) (M : Nat → Int) (t : Int) : Prop := (∀ o, o < 4 → M o = (s.1 o : Int)) ∧ t = s.2
theorem Lk.swap {s : (Nat → Nat) × Int} {M : Nat → Int} {t : Int} (h : Lk s M t) (b : Nat) (hb : b < 3) (hl : M (b + 1) < M b) : Lk (So.stp b s) (So.upd (So.upd M b (M (b + 1))) (b + 1) (M b)) (-t) := by
  obtain ⟨h1, h2⟩ := h
  have e0 := h1 b (by omega)
  have e1 := h1 (b + 1) (by omega)
  have hs : s.1 (b + 1) < s.1 b := by omega
  unfold Lk So.stp
  rw [if_pos hs]
  refine ⟨fun o ho => ?_, by rw [h2]⟩
  have eo := h1 o ho
  unfold So.upd
  by_cases c : o = b + 1
  · subst c; simp [e0]
  · by_cases c2 : o = b
    · subst c2; simp [e1]
    · simp [c, c2, eo]
theorem Lk.keep {s : (Nat → Nat) × Int} {M : Nat → Int} {t : Int} (h : Lk s M t) (b : Nat) (hb : b < 3) (hl : ¬ M (b + 1) < M b) : Lk (So.stp b s) M t := by
  obtain ⟨h1, h2⟩ := h
  have e0 := h1 b (by omega)
  have e1 := h1 (b + 1) (by omega)
  unfold So.stp
  rw [if_neg (by omega)]
  exact ⟨h1, h2⟩
theorem Ints.drewN {u : World} {g n q : Nat} {M : Nat → Int} (h : Ints u g n M) : Ints (u.drewN q) g n M := h.mono ⟨rfl, rfl, rfl, Nat.le_refl _, fun _ _ => rfl⟩
theorem Ints.drew {u : World} {g n : Nat} {M : Nat → Int} (h : Ints u g n M) : Ints u.drew g n M := h.mono ⟨rfl, rfl, rfl, Nat.le_refl _, fun _ _ => rfl⟩
/-- the points that have been laid, of r places -/
def PP (p : Nat → Nat) (X Y Z Q : Nat → Int) (r : Int) : Prop := ∀ b : Nat, b < 4 → (b : Int) < r → Q (3 * b) = X (p b) ∧ Q (3 * b + 1) = Y (p b) ∧ Q (3 * b + 2) = Z (p b) ∧ mayB (X (p b)) (Y (p b)) (Z (p b)) = true
theorem add_next (a : Addr) (x k : Nat) (hk : 0 < k) : a.add (x + k) = ⟨(a.add x).block, (a.add x).off + k, none⟩ := by
  unfold Addr.add
  rw [if_neg (by omega)]
  by_cases h : x = 0
  · subst h; simp
  · rw [if_neg h]; simp [Nat.add_assoc]
theorem add_block (a : Addr) (x : Nat) : (a.add x).block = a.block := by unfold Addr.add; split <;> rfl
/-- one point of a list, as a load of its three cells asks for it -/
theorem pt_cells {w u : World} {a : Addr} {n q : Nat} {X Y Z : Nat → Int} (hP : ∀ i, i < n → w.cell? (a.add (3 * i)) = some (.int .i64 (X i)) ∧ w.cell? (a.add (3 * i + 1)) = some (.int .i64 (Y i)) ∧ w.cell? (a.add (3 * i + 2)) = some (.int .i64 (Z i)))
    (hab : a.block < w.heap.size) (hB : Below w.heap.size w u) (hq : q < n) :
    u.cell? (a.add (q * 3)) = some (.int .i64 (X q)) ∧ u.cell? ⟨(a.add (q * 3)).block, (a.add (q * 3)).off + 1, none⟩ = some (.int .i64 (Y q)) ∧ u.cell? ⟨(a.add (q * 3)).block, (a.add (q * 3)).off + 2, none⟩ = some (.int .i64 (Z q)) := by
  obtain ⟨h0, h1, h2⟩ := hP q hq
  rw [Nat.mul_comm 3 q] at h0 h1 h2
  rw [add_next _ _ _ (by decide)] at h1 h2
  exact ⟨(hB.cell (by rw [add_block]; exact hab)).trans h0, (hB.cell (p := ⟨(a.add (q * 3)).block, _, none⟩) (by rw [add_block]; exact hab)).trans h1, (hB.cell (p := ⟨(a.add (q * 3)).block, _, none⟩) (by rw [add_block]; exact hab)).trans h2⟩
theorem stp_back (k : Nat) (hk : k < 3) (s : (Nat → Nat) × Int) (C : Nat → Prop) (h : ∀ i, i < 4 → C ((So.stp k s).1 i)) : ∀ i, i < 4 → C (s.1 i) := by
  unfold So.stp at h
  split at h
  · intro i hi
    simp only at h
    by_cases c : i = k
    · subst c; have := h (i + 1) (by omega); simpa using this
    · by_cases c2 : i = k + 1
      · subst c2; have := h k (by omega); simpa using this
      · have := h i hi; simpa [c, c2] using this
  · exact h
theorem steps_back (s : (Nat → Nat) × Int) (n : Nat) (C : Nat → Prop) (h : ∀ i, i < 4 → C ((So.steps s n).1 i)) : ∀ i, i < 4 → C (s.1 i) := by
  induction n with
  | zero => exact h
  | succ n ih => exact ih (stp_back _ (by omega) _ C h)
theorem PP.more {p : Nat → Nat} {X Y Z Q : Nat → Int} {r : Nat} (h : PP p X Y Z Q r) (hr : r < 4) {x y z : Int} (hx : x = X (p r)) (hy : y = Y (p r)) (hz : z = Z (p r)) (hm : mayB x y z = true) :
    PP p X Y Z (So.upd (So.upd (So.upd Q (3 * r) x) (3 * r + 1) y) (3 * r + 2) z) (r + 1) := by
  intro b hb hb2
  by_cases c : b = r
  · subst c
    subst hx hy hz
    unfold So.upd
    refine ⟨?_, ?_, ?_, hm⟩
    · rw [if_neg (by omega), if_neg (by omega), if_pos rfl]
    · rw [if_neg (by omega), if_pos rfl]
    · rw [if_pos rfl]
  · have := h b hb (by omega)
    unfold So.upd
    refine ⟨?_, ?_, ?_, this.2.2.2⟩
    · rw [if_neg (by omega), if_neg (by omega), if_neg (by omega)]; exact this.1
    · rw [if_neg (by omega), if_neg (by omega), if_neg (by omega)]; exact this.2.1
    · rw [if_neg (by omega), if_neg (by omega), if_neg (by omega)]; exact this.2.2.1
def rowOf (X Y Z : Nat → Int) (p : Nat) : So.Rw := ⟨X p, Y p, Z p, 1⟩
def mayP (X Y Z : Nat → Int) (p : Nat) : Bool := mayB (X p) (Y p) (Z p)
/-- what Sign tells -/
def SignE (n : Nat) (X Y Z : Nat → Int) (i j k m : Int) (e : Ending) : Prop :=
  (¬ okp n i j k m ∧ e = .returned (.tuple #[.int .i64 0, .int .i64 21])) ∨
  (okp n i j k m ∧ ((mayP X Y Z i.toNat && mayP X Y Z j.toNat && mayP X Y Z k.toNat && mayP X Y Z m.toNat) = false) ∧ e = .returned (.tuple #[.int .i64 0, .int .i64 20])) ∨
  (okp n i j k m ∧ ((mayP X Y Z i.toNat && mayP X Y Z j.toNat && mayP X Y Z k.toNat && mayP X Y Z m.toNat) = true) ∧ e = .returned (.tuple #[.int .i64 (So.signV (rowOf X Y Z) i.toNat j.toNat k.toNat m.toNat), .int .i64 0]))

theorem signS_nil (i j k m : Int) (X Y Z : Nat → Int) (w : World) :
    Calls Try.prog 22 #[.slice none 0 0, .int .i64 i, .int .i64 j, .int .i64 k, .int .i64 m] w fun e w' => SignE 0 X Y Z i j k m e ∧ Below w.heap.size w w' := by
  have x0 := ixI0 i j k m
  have N := Lib.hid (show ¬ okp 0 i j k m from fun h => by have := h.1.1; omega)
  go_enter Try.func22, Try.ntmps22
  go_wp2_with fail
  go_loop [28] (fun a => a = .int .i64 0) (fun _ => 0)
  case atStart => rfl
  case round =>
    subst hrel
    by_cases h : i < 0
    · go_wp2_with fail
      go_ret2
      exact ⟨.inl ⟨N.out, rfl⟩, bl1 (Below.refl _ _)⟩
    · have h1 : 0 ≤ i := by omega
      go_wp2_with fail
      go_ret2
      exact ⟨.inl ⟨N.out, rfl⟩, bl1 (Below.refl _ _)⟩

set_option maxHeartbeats 1000000 in
set_option maxRecDepth 20000 in
theorem signS_some (n cap : Nat) (a : Addr) (hn : n ≤ maxLen) (X Y Z : Nat → Int) (i j k m : Int) (w : World) (hab : a.block < w.heap.size)
    (hP : ∀ i, i < n → w.cell? (a.add (3 * i)) = some (.int .i64 (X i)) ∧ w.cell? (a.add (3 * i + 1)) = some (.int .i64 (Y i)) ∧ w.cell? (a.add (3 * i + 2)) = some (.int .i64 (Z i))) :
    Calls Try.prog 22 #[.slice (some a) n cap, .int .i64 i, .int .i64 j, .int .i64 k, .int .i64 m] w fun e w' => SignE n X Y Z i j k m e ∧ Below w.heap.size w w' := by
  have x0 := ixI0 i j k m
  have x1 := ixI1 i j k m
  have x2 := ixI2 i j k m
  have x3 := ixI3 i j k m
  have HP := Lib.hid hP
  unfold maxLen at hn
  have HN := Lib.hid hn
  clear hP hn
  go_enter Try.func22, Try.ntmps22
  go_wp2_with fail
  go_loop [28] (fun s => ∃ r : Int, s = .int .i64 r ∧ 0 ≤ r ∧ r ≤ 4 ∧ GP n i j k m r) (fun s => 4 - (intOf s).toNat)
  case atStart => exact ⟨0, rfl, by omega, by omega, by unfold GP; omega⟩
  case round =>
    obtain ⟨r, rfl, hr0, hr, hG⟩ := hrel
    have HG := Lib.hid hG
    have : r = 0 ∨ r = 1 ∨ r = 2 ∨ r = 3 ∨ r = 4 := by omega
    clear hr0 hr hG
    rcases this with rfl | rfl | rfl | rfl | rfl
    · by_cases h1 : i < 0
      · go_wp2_with fail
        go_ret2
        exact ⟨.inl ⟨fun h => by unfold okp at h; omega, rfl⟩, bl1 (Below.refl _ _)⟩
      · by_cases h2 : (n : Int) ≤ i
        · have h1' : 0 ≤ i := by omega
          go_wp2_with fail
          go_ret2
          exact ⟨.inl ⟨fun h => by unfold okp at h; omega, rfl⟩, bl1 (Below.refl _ _)⟩
        · have h1' : 0 ≤ i := by omega
          have h2' : i < n := by omega
          go_wp2_with fail
          go_loop [43] (fun s => ∃ b : Int, s = .int .i64 b ∧ 0 ≤ b ∧ b ≤ 0) (fun s => 0 - (intOf s).toNat)
          case atStart => exact ⟨0, rfl, by omega, by omega⟩
          case round =>
            obtain ⟨b, rfl, hb0, hb1⟩ := hrel
            have : b = 0 := by omega
            clear hb0 hb1
            rcases this with rfl
            · go_wp2_with fail
              exact ⟨⟨1, rfl, by omega, by omega, by have := HG.out; unfold GP at *; omega⟩, by simp [intOf]⟩
    · by_cases h1 : j < 0
      · go_wp2_with fail
        go_ret2
        exact ⟨.inl ⟨fun h => by unfold okp at h; omega, rfl⟩, bl1 (Below.refl _ _)⟩
      · by_cases h2 : (n : Int) ≤ j
        · have h1' : 0 ≤ j := by omega
          go_wp2_with fail
          go_ret2
          exact ⟨.inl ⟨fun h => by unfold okp at h; omega, rfl⟩, bl1 (Below.refl _ _)⟩
        · have h1' : 0 ≤ j := by omega
          have h2' : j < n := by omega
          go_wp2_with fail
          go_loop [43] (fun s => ∃ b : Int, s = .int .i64 b ∧ 0 ≤ b ∧ b ≤ 1 ∧ (1 ≤ b → i ≠ j)) (fun s => 1 - (intOf s).toNat)
          case atStart => exact ⟨0, rfl, by omega, by omega, by omega⟩
          case round =>
            obtain ⟨b, rfl, hb0, hb1, q0⟩ := hrel
            have Q0 := Lib.hid q0
            have : b = 0 ∨ b = 1 := by omega
            clear hb0 hb1 q0
            rcases this with rfl | rfl
            · by_cases hq : j = i
              · have hq' : (j == i) = true := by simpa using hq
                have HQ := Lib.hid hq
                clear hq
                go_wp2_with fail
                go_ret2
                exact ⟨.inl ⟨fun h => by have := HQ.out; unfold okp at h; omega, rfl⟩, bl1 (Below.refl _ _)⟩
              · have hq' : (j == i) = false := by simpa using hq
                have HQ := Lib.hid hq
                clear hq
                go_wp2_with fail
                exact ⟨⟨1, rfl, by omega, by omega, (fun h => by have := HQ.out; have := Q0.out; omega)⟩, by simp [intOf]⟩
            · go_wp2_with fail
              exact ⟨⟨2, rfl, by omega, by omega, by have := HG.out; have := Q0.out; unfold GP at *; omega⟩, by simp [intOf]⟩
    · by_cases h1 : k < 0
      · go_wp2_with fail
        go_ret2
        exact ⟨.inl ⟨fun h => by unfold okp at h; omega, rfl⟩, bl1 (Below.refl _ _)⟩
      · by_cases h2 : (n : Int) ≤ k
        · have h1' : 0 ≤ k := by omega
          go_wp2_with fail
          go_ret2
          exact ⟨.inl ⟨fun h => by unfold okp at h; omega, rfl⟩, bl1 (Below.refl _ _)⟩
        · have h1' : 0 ≤ k := by omega
          have h2' : k < n := by omega
          go_wp2_with fail
          go_loop [43] (fun s => ∃ b : Int, s = .int .i64 b ∧ 0 ≤ b ∧ b ≤ 2 ∧ (1 ≤ b → i ≠ k) ∧ (2 ≤ b → j ≠ k)) (fun s => 2 - (intOf s).toNat)
          case atStart => exact ⟨0, rfl, by omega, by omega, by omega, by omega⟩
          case round =>
            obtain ⟨b, rfl, hb0, hb1, q0, q1⟩ := hrel
            have Q0 := Lib.hid q0
            have Q1 := Lib.hid q1
            have : b = 0 ∨ b = 1 ∨ b = 2 := by omega
            clear hb0 hb1 q0 q1
            rcases this with rfl | rfl | rfl
            · by_cases hq : k = i
              · have hq' : (k == i) = true := by simpa using hq
                have HQ := Lib.hid hq
                clear hq
                go_wp2_with fail
                go_ret2
                exact ⟨.inl ⟨fun h => by have := HQ.out; unfold okp at h; omega, rfl⟩, bl1 (Below.refl _ _)⟩
              · have hq' : (k == i) = false := by simpa using hq
                have HQ := Lib.hid hq
                clear hq
                go_wp2_with fail
                exact ⟨⟨1, rfl, by omega, by omega, (fun h => by have := HQ.out; have := Q0.out; omega), (fun h => by have := HQ.out; have := Q1.out; omega)⟩, by simp [intOf]⟩
            · by_cases hq : k = j
              · have hq' : (k == j) = true := by simpa using hq
                have HQ := Lib.hid hq
                clear hq
                go_wp2_with fail
                go_ret2
                exact ⟨.inl ⟨fun h => by have := HQ.out; unfold okp at h; omega, rfl⟩, bl1 (Below.refl _ _)⟩
              · have hq' : (k == j) = false := by simpa using hq
                have HQ := Lib.hid hq
                clear hq
                go_wp2_with fail
                exact ⟨⟨2, rfl, by omega, by omega, (fun h => by have := HQ.out; have := Q0.out; omega), (fun h => by have := HQ.out; have := Q1.out; omega)⟩, by simp [intOf]⟩
            · go_wp2_with fail
              exact ⟨⟨3, rfl, by omega, by omega, by have := HG.out; have := Q0.out; have := Q1.out; unfold GP at *; omega⟩, by simp [intOf]⟩
    · by_cases h1 : m < 0
      · go_wp2_with fail
        go_ret2
        exact ⟨.inl ⟨fun h => by unfold okp at h; omega, rfl⟩, bl1 (Below.refl _ _)⟩
      · by_cases h2 : (n : Int) ≤ m
        · have h1' : 0 ≤ m := by omega
          go_wp2_with fail
          go_ret2
          exact ⟨.inl ⟨fun h => by unfold okp at h; omega, rfl⟩, bl1 (Below.refl _ _)⟩
        · have h1' : 0 ≤ m := by omega
          have h2' : m < n := by omega
          go_wp2_with fail
          go_loop [43] (fun s => ∃ b : Int, s = .int .i64 b ∧ 0 ≤ b ∧ b ≤ 3 ∧ (1 ≤ b → i ≠ m) ∧ (2 ≤ b → j ≠ m) ∧ (3 ≤ b → k ≠ m)) (fun s => 3 - (intOf s).toNat)
          case atStart => exact ⟨0, rfl, by omega, by omega, by omega, by omega, by omega⟩
          case round =>
            obtain ⟨b, rfl, hb0, hb1, q0, q1, q2⟩ := hrel
            have Q0 := Lib.hid q0
            have Q1 := Lib.hid q1
            have Q2 := Lib.hid q2
            have : b = 0 ∨ b = 1 ∨ b = 2 ∨ b = 3 := by omega
            clear hb0 hb1 q0 q1 q2
            rcases this with rfl | rfl | rfl | rfl
            · by_cases hq : m = i
              · have hq' : (m == i) = true := by simpa using hq
                have HQ := Lib.hid hq
                clear hq
                go_wp2_with fail
                go_ret2
                exact ⟨.inl ⟨fun h => by have := HQ.out; unfold okp at h; omega, rfl⟩, bl1 (Below.refl _ _)⟩
              · have hq' : (m == i) = false := by simpa using hq
                have HQ := Lib.hid hq
                clear hq
                go_wp2_with fail
                exact ⟨⟨1, rfl, by omega, by omega, (fun h => by have := HQ.out; have := Q0.out; omega), (fun h => by have := HQ.out; have := Q1.out; omega), (fun h => by have := HQ.out; have := Q2.out; omega)⟩, by simp [intOf]⟩
            · by_cases hq : m = j
              · have hq' : (m == j) = true := by simpa using hq
                have HQ := Lib.hid hq
                clear hq
                go_wp2_with fail
                go_ret2
                exact ⟨.inl ⟨fun h => by have := HQ.out; unfold okp at h; omega, rfl⟩, bl1 (Below.refl _ _)⟩
              · have hq' : (m == j) = false := by simpa using hq
                have HQ := Lib.hid hq
                clear hq
                go_wp2_with fail
                exact ⟨⟨2, rfl, by omega, by omega, (fun h => by have := HQ.out; have := Q0.out; omega), (fun h => by have := HQ.out; have := Q1.out; omega), (fun h => by have := HQ.out; have := Q2.out; omega)⟩, by simp [intOf]⟩
            · by_cases hq : m = k
              · have hq' : (m == k) = true := by simpa using hq
                have HQ := Lib.hid hq
                clear hq
                go_wp2_with fail
                go_ret2
                exact ⟨.inl ⟨fun h => by have := HQ.out; unfold okp at h; omega, rfl⟩, bl1 (Below.refl _ _)⟩
              · have hq' : (m == k) = false := by simpa using hq
                have HQ := Lib.hid hq
                clear hq
                go_wp2_with fail
                exact ⟨⟨3, rfl, by omega, by omega, (fun h => by have := HQ.out; have := Q0.out; omega), (fun h => by have := HQ.out; have := Q1.out; omega), (fun h => by have := HQ.out; have := Q2.out; omega)⟩, by simp [intOf]⟩
            · go_wp2_with fail
              exact ⟨⟨4, rfl, by omega, by omega, by have := HG.out; have := Q0.out; have := Q1.out; have := Q2.out; unfold GP at *; omega⟩, by simp [intOf]⟩
    · have hok : okp n i j k m := by have := HG.out; unfold GP at this; unfold okp; omega
      have HOK := Lib.hid hok
      clear HG
      obtain ⟨S, hS⟩ : ∃ S : Nat → (Nat → Nat) × Int, ∀ q, S q = So.steps (So.q4 i.toNat j.toNat k.toNat m.toNat, 1) q := ⟨_, fun _ => rfl⟩
      have ST := Lib.hid (show ∀ q, (S q).2 = 1 ∨ (S q).2 = -1 from fun q => by rw [hS]; exact So.steps_turn _ q (.inl rfl))
      have SN := Lib.hid (show ∀ q, S (q + 1) = So.stp (q % 3) (S q) from fun q => by rw [hS, hS]; rfl)
      have L0 := Lib.hid (show Lk (S 0) (fun o => if o = 0 then i else if o = 1 then j else if o = 2 then k else m) 1 by
        rw [hS]
        refine ⟨fun o ho => ?_, rfl⟩
        have : o = 0 ∨ o = 1 ∨ o = 2 ∨ o = 3 := by omega
        have := hok.1
        rcases ‹o = 0 ∨ _› with rfl | rfl | rfl | rfl <;> simp [So.steps, So.q4] <;> omega)
      have HS := Lib.hid hS
      clear hS hok
      go_wp2_with fail
      generalize hW : World.alloc _ _ = W
      have hI : Ints W w.heap.size 4 (fun o => if o = 0 then i else if o = 1 then j else if o = 2 then k else m) := by
        rw [← hW]
        refine ⟨by simp, fun o ho => ?_, fun o ho => by simp [go_sem]⟩
        have : o = 0 ∨ o = 1 ∨ o = 2 ∨ o = 3 := by omega
        rcases this with rfl | rfl | rfl | rfl <;> simp [go_sem]
      have hB : Below w.heap.size w W := by rw [← hW]; exact bl1 (Below.refl _ _)
      clear hW
      go_loopw [52, 17] (fun c t wx => ∃ (r T : Int) (M : Nat → Int), c = .int .i64 r ∧ t = .int .i64 T ∧ 0 ≤ r ∧ r ≤ 3 ∧ Lk (S (3 * r.toNat)) M T ∧ Ints wx w.heap.size 4 M ∧ Below w.heap.size w wx) (fun c _ _ => 3 - (intOf c).toNat)
      case atStart => exact ⟨0, 1, _, rfl, rfl, by omega, by omega, L0.out, hI, hB⟩
      case round =>
        clear hI hB
        obtain ⟨r, T, M, rfl, rfl, hr0, hr, hL, hI, hB⟩ := hrel
        have HL := Lib.hid hL
        clear hL
        by_cases cr : r < 3
        · go_wp2_with fail
          go_loopw [54, 17] (fun c t wx => ∃ (b T : Int) (M : Nat → Int), c = .int .i64 b ∧ t = .int .i64 T ∧ 0 ≤ b ∧ b ≤ 3 ∧ Lk (S (3 * r.toNat + b.toNat)) M T ∧ Ints wx w.heap.size 4 M ∧ Below w.heap.size w wx) (fun c _ _ => 3 - (intOf c).toNat)
          case atStart => exact ⟨0, T, M, rfl, rfl, by omega, by omega, HL.out, hI, hB⟩
          case round =>
            clear hI hB HL
            obtain ⟨b, T1, M1, rfl, rfl, hb0, hb, hL, hI, hB⟩ := hrel
            have HL := Lib.hid hL
            have HI := Lib.hid hI
            obtain ⟨zI, cI, fI⟩ := hI
            have hT : -1 ≤ T1 ∧ T1 ≤ 1 := by have := ST.out (3 * r.toNat + b.toNat); have := hL.2; omega
            obtain ⟨hT0, hT1⟩ := hT
            have hTn : IntKind.i64.wrap (-T1) = -T1 := by rw [IntKind.wrap_i64]; omega
            have : b = 0 ∨ b = 1 ∨ b = 2 ∨ b = 3 := by omega
            clear hb0 hb hL
            rcases this with rfl | rfl | rfl | rfl
            · by_cases hl : M1 1 < M1 0
              · have hl' : decide (M1 1 < M1 0) = true := by simpa using hl
                go_wp2_with fail
                go_quiet (fail)
                have hI2 : Ints (wr.drewN nq) w.heap.size 4 M1 := HI.out.drewN
                have hB2 : Below w.heap.size w (wr.drewN nq) := hB.trans (Below.mono (show Below wr.heap.size wr (wr.drewN nq) from ⟨rfl, rfl, rfl, Nat.le_refl _, fun _ _ => rfl⟩) hB.size)
                clear cI fI zI hB
                generalize wr.drewN nq = W2 at hI2 hB2 ⊢
                have HI2 := Lib.hid hI2
                obtain ⟨zI, cI, fI⟩ := hI2
                go_wp2_with fail
                go_region
                go_wp2_with fail
                exact ⟨⟨1, -T1, _, rfl, rfl, by omega, by omega, by
                  have e := SN.out (3 * r.toNat + 0)
                  rw [show (3 * r.toNat + 0) % 3 = 0 by omega] at e
                  show Lk (S (3 * r.toNat + 0 + 1)) _ _
                  rw [e]; exact Lk.swap HL.out 0 (by decide) hl, ((HI2.out.set 0 _ (by decide)).set 1 _ (by decide)).drew, ((hB2.setCell (by simp) _).setCell (by simp) _).drew⟩, by simp [intOf]⟩
              · have hl' : decide (M1 1 < M1 0) = false := by simpa using hl
                have HLL := Lib.hid hl
                clear hl
                go_wp2_with fail
                go_quiet (fail)
                go_wp2_with fail
                exact ⟨⟨1, T1, M1, rfl, rfl, by omega, by omega, by
                  have e := SN.out (3 * r.toNat + 0)
                  rw [show (3 * r.toNat + 0) % 3 = 0 by omega] at e
                  show Lk (S (3 * r.toNat + 0 + 1)) _ _
                  rw [e]; exact Lk.keep HL.out 0 (by decide) (Int.not_lt.2 HLL.out), HI.out.drewN, hB.trans (Below.mono (show Below wr.heap.size wr (wr.drewN nq) from ⟨rfl, rfl, rfl, Nat.le_refl _, fun _ _ => rfl⟩) hB.size)⟩, by simp [intOf]⟩
            · by_cases hl : M1 2 < M1 1
              · have hl' : decide (M1 2 < M1 1) = true := by simpa using hl
                go_wp2_with fail
                go_quiet (fail)
                have hI2 : Ints (wr.drewN nq) w.heap.size 4 M1 := HI.out.drewN
                have hB2 : Below w.heap.size w (wr.drewN nq) := hB.trans (Below.mono (show Below wr.heap.size wr (wr.drewN nq) from ⟨rfl, rfl, rfl, Nat.le_refl _, fun _ _ => rfl⟩) hB.size)
                clear cI fI zI hB
                generalize wr.drewN nq = W2 at hI2 hB2 ⊢
                have HI2 := Lib.hid hI2
                obtain ⟨zI, cI, fI⟩ := hI2
                go_wp2_with fail
                go_region
                go_wp2_with fail
                exact ⟨⟨2, -T1, _, rfl, rfl, by omega, by omega, by
                  have e := SN.out (3 * r.toNat + 1)
                  rw [show (3 * r.toNat + 1) % 3 = 1 by omega] at e
                  show Lk (S (3 * r.toNat + 1 + 1)) _ _
                  rw [e]; exact Lk.swap HL.out 1 (by decide) hl, ((HI2.out.set 1 _ (by decide)).set 2 _ (by decide)).drew, ((hB2.setCell (by simp) _).setCell (by simp) _).drew⟩, by simp [intOf]⟩
              · have hl' : decide (M1 2 < M1 1) = false := by simpa using hl
                have HLL := Lib.hid hl
                clear hl
                go_wp2_with fail
                go_quiet (fail)
                go_wp2_with fail
                exact ⟨⟨2, T1, M1, rfl, rfl, by omega, by omega, by
                  have e := SN.out (3 * r.toNat + 1)
                  rw [show (3 * r.toNat + 1) % 3 = 1 by omega] at e
                  show Lk (S (3 * r.toNat + 1 + 1)) _ _
                  rw [e]; exact Lk.keep HL.out 1 (by decide) (Int.not_lt.2 HLL.out), HI.out.drewN, hB.trans (Below.mono (show Below wr.heap.size wr (wr.drewN nq) from ⟨rfl, rfl, rfl, Nat.le_refl _, fun _ _ => rfl⟩) hB.size)⟩, by simp [intOf]⟩
            · by_cases hl : M1 3 < M1 2
              · have hl' : decide (M1 3 < M1 2) = true := by simpa using hl
                go_wp2_with fail
                go_quiet (fail)
                have hI2 : Ints (wr.drewN nq) w.heap.size 4 M1 := HI.out.drewN
                have hB2 : Below w.heap.size w (wr.drewN nq) := hB.trans (Below.mono (show Below wr.heap.size wr (wr.drewN nq) from ⟨rfl, rfl, rfl, Nat.le_refl _, fun _ _ => rfl⟩) hB.size)
                clear cI fI zI hB
                generalize wr.drewN nq = W2 at hI2 hB2 ⊢
                have HI2 := Lib.hid hI2
                obtain ⟨zI, cI, fI⟩ := hI2
                go_wp2_with fail
                go_region
                go_wp2_with fail
                exact ⟨⟨3, -T1, _, rfl, rfl, by omega, by omega, by
                  have e := SN.out (3 * r.toNat + 2)
                  rw [show (3 * r.toNat + 2) % 3 = 2 by omega] at e
                  show Lk (S (3 * r.toNat + 2 + 1)) _ _
                  rw [e]; exact Lk.swap HL.out 2 (by decide) hl, ((HI2.out.set 2 _ (by decide)).set 3 _ (by decide)).drew, ((hB2.setCell (by simp) _).setCell (by simp) _).drew⟩, by simp [intOf]⟩
              · have hl' : decide (M1 3 < M1 2) = false := by simpa using hl
                have HLL := Lib.hid hl
                clear hl
                go_wp2_with fail
                go_quiet (fail)
                go_wp2_with fail
                exact ⟨⟨3, T1, M1, rfl, rfl, by omega, by omega, by
                  have e := SN.out (3 * r.toNat + 2)
                  rw [show (3 * r.toNat + 2) % 3 = 2 by omega] at e
                  show Lk (S (3 * r.toNat + 2 + 1)) _ _
                  rw [e]; exact Lk.keep HL.out 2 (by decide) (Int.not_lt.2 HLL.out), HI.out.drewN, hB.trans (Below.mono (show Below wr.heap.size wr (wr.drewN nq) from ⟨rfl, rfl, rfl, Nat.le_refl _, fun _ _ => rfl⟩) hB.size)⟩, by simp [intOf]⟩
            · go_wp2_with fail
              exact ⟨⟨r + 1, T1, M1, rfl, rfl, by omega, by omega, by rw [show 3 * (r + 1).toNat = 3 * r.toNat + (3 : Int).toNat by omega]; exact HL.out, HI.out, hB⟩, by simp [intOf]; omega⟩
        · have e : r = 3 := by omega
          subst e
          have HI := Lib.hid hI
          obtain ⟨zI, cI, fI⟩ := hI
          have hL9 : Lk (S 9) M T := HL.out
          have hpl : ∀ o, o < 4 → (S 9).1 o < n := by
            rw [HS.out]
            have := HOK.out.1
            refine So.steps_from _ 9 (fun q => q < n) ?_
            intro o ho
            have : o = 0 ∨ o = 1 ∨ o = 2 ∨ o = 3 := by omega
            rcases this with rfl | rfl | rfl | rfl <;> simp [So.q4] <;> omega
          have y0 := ixI0 (M 0) (M 1) (M 2) (M 3)
          have y1 := ixI1 (M 0) (M 1) (M 2) (M 3)
          have y2 := ixI2 (M 0) (M 1) (M 2) (M 3)
          have y3 := ixI3 (M 0) (M 1) (M 2) (M 3)
          have b0 : 0 ≤ M 0 ∧ M 0 < n := by have := hL9.1 0 (by decide); have := hpl 0 (by decide); omega
          have b1 : 0 ≤ M 1 ∧ M 1 < n := by have := hL9.1 1 (by decide); have := hpl 1 (by decide); omega
          have b2 : 0 ≤ M 2 ∧ M 2 < n := by have := hL9.1 2 (by decide); have := hpl 2 (by decide); omega
          have b3 : 0 ≤ M 3 ∧ M 3 < n := by have := hL9.1 3 (by decide); have := hpl 3 (by decide); omega
          have HL9 := Lib.hid hL9
          have HPL := Lib.hid hpl
          clear hL9 hpl HL
          obtain ⟨W0, rfl⟩ : ∃ W0 : World, W0 = wr := ⟨_, rfl⟩
          have HB := Lib.hid hB
          go_wp2_with fail
          go_loopw [82] (fun c wx => ∃ (r : Int) (Q : Nat → Int), c = .int .i64 r ∧ 0 ≤ r ∧ r ≤ 4 ∧ PP (S 9).1 X Y Z Q r ∧ Ints wx W0.heap.size 12 Q ∧ Below W0.heap.size W0 wx) (fun c _ => 4 - (intOf c).toNat)
          case atStart =>
            refine ⟨0, fun _ => 0, rfl, by omega, by omega, fun b _ h => by omega, ⟨by simp, fun o ho => ?_, fun o ho => by simp [go_sem]⟩, bl1 (Below.refl _ _)⟩
            have : o = 0 ∨ o = 1 ∨ o = 2 ∨ o = 3 ∨ o = 4 ∨ o = 5 ∨ o = 6 ∨ o = 7 ∨ o = 8 ∨ o = 9 ∨ o = 10 ∨ o = 11 := by omega
            rcases this with rfl | rfl | rfl | rfl | rfl | rfl | rfl | rfl | rfl | rfl | rfl | rfl <;> simp [go_sem]
          case round =>
            clear cI fI zI hB
            obtain ⟨r, Q, rfl, hr0, hr, hPP, hQ, hBx⟩ := hrel
            have HPP := Lib.hid hPP
            have HQ := Lib.hid hQ
            obtain ⟨zQ, cQ, fQ⟩ := hQ
            have : r = 0 ∨ r = 1 ∨ r = 2 ∨ r = 3 ∨ r = 4 := by omega
            clear hr0 hr hPP
            rcases this with rfl | rfl | rfl | rfl | rfl
            · obtain ⟨g0, g1⟩ := b0
              obtain ⟨q, hq⟩ : ∃ q, q = (M 0).toNat := ⟨_, rfl⟩
              have hqp : q = (S 9).1 0 := by have := HL9.out.1 0 (by decide); omega
              have hqn : q < n := by omega
              obtain ⟨k0, k1, k2⟩ := pt_cells HP.out hab (HB.out.trans (hBx.mono HB.out.size)) hqn
              obtain ⟨xv, hx⟩ : ∃ x, x = X q := ⟨_, rfl⟩
              obtain ⟨yv, hy⟩ : ∃ x, x = Y q := ⟨_, rfl⟩
              obtain ⟨zv, hz⟩ : ∃ x, x = Z q := ⟨_, rfl⟩
              rw [← hx, hq] at k0
              rw [← hy, hq] at k1
              rw [← hz, hq] at k2
              have HX := Lib.hid hx
              have HY := Lib.hid hy
              have HZ := Lib.hid hz
              have HQP := Lib.hid hqp
              have HQQ := Lib.hid hq
              have HQN := Lib.hid hqn
              clear hx hy hz hqp hqn hq
              cases hm : mayB xv yv zv
              · have MV := Lib.hid (may_is hm)
                have HM := Lib.hid hm
                clear hm
                go_wp2_with fail
                refine (MV.out _).mono ?_
                rintro e u1 ⟨rfl, hn⟩
                go_wp2_with fail
                go_ret2
                refine ⟨.inr (.inl ⟨HOK.out, ?_, rfl⟩), HB.out.trans ((hBx.trans (hn.mono hBx.size)).mono HB.out.size)⟩
                have hf : mayP X Y Z ((S 9).1 0) = false := by rw [← HQP.out]; unfold mayP; rw [← HX.out, ← HY.out, ← HZ.out]; exact HM.out
                have hin : (S 9).1 0 = i.toNat ∨ (S 9).1 0 = j.toNat ∨ (S 9).1 0 = k.toNat ∨ (S 9).1 0 = m.toNat := by
                  rw [HS.out]
                  refine So.steps_from _ 9 (fun q => q = i.toNat ∨ q = j.toNat ∨ q = k.toNat ∨ q = m.toNat) ?_ 0 (by decide)
                  intro o ho
                  have : o = 0 ∨ o = 1 ∨ o = 2 ∨ o = 3 := by omega
                  rcases this with rfl | rfl | rfl | rfl <;> simp [So.q4]
                rcases hin with h | h | h | h <;> rw [h] at hf <;> simp [hf]
              · have MV := Lib.hid (may_is hm)
                have HM := Lib.hid hm
                clear hm
                go_wp2_with fail
                refine (MV.out _).mono ?_
                rintro e u1 ⟨rfl, hn⟩
                have hBy := hBx.trans (hn.mono hBx.size)
                have hQ2 := HQ.out.mono hn
                clear k0 k1 k2 cQ fQ zQ hn hBx
                obtain ⟨k0, k1, k2⟩ := pt_cells HP.out hab (HB.out.trans (hBy.mono HB.out.size)) HQN.out
                rw [← HX.out, HQQ.out] at k0
                rw [← HY.out, HQQ.out] at k1
                rw [← HZ.out, HQQ.out] at k2
                have HQ2 := Lib.hid hQ2
                obtain ⟨zQ, cQ, fQ⟩ := hQ2
                go_wp2_with fail
                exact ⟨⟨1, _, rfl, by omega, by omega, PP.more (r := 0) HPP.out (by decide) (by rw [← HQP.out]; exact HX.out) (by rw [← HQP.out]; exact HY.out) (by rw [← HQP.out]; exact HZ.out) HM.out,
                  ((HQ2.out.set 0 _ (by decide)).set 1 _ (by decide)).set 2 _ (by decide), ((hBy.setCell (by simp) _).setCell (by simp) _).setCell (by simp) _⟩, by simp [intOf]⟩
            · obtain ⟨g0, g1⟩ := b1
              obtain ⟨q, hq⟩ : ∃ q, q = (M 1).toNat := ⟨_, rfl⟩
              have hqp : q = (S 9).1 1 := by have := HL9.out.1 1 (by decide); omega
              have hqn : q < n := by omega
              obtain ⟨k0, k1, k2⟩ := pt_cells HP.out hab (HB.out.trans (hBx.mono HB.out.size)) hqn
              obtain ⟨xv, hx⟩ : ∃ x, x = X q := ⟨_, rfl⟩
              obtain ⟨yv, hy⟩ : ∃ x, x = Y q := ⟨_, rfl⟩
              obtain ⟨zv, hz⟩ : ∃ x, x = Z q := ⟨_, rfl⟩
              rw [← hx, hq] at k0
              rw [← hy, hq] at k1
              rw [← hz, hq] at k2
              have HX := Lib.hid hx
              have HY := Lib.hid hy
              have HZ := Lib.hid hz
              have HQP := Lib.hid hqp
              have HQQ := Lib.hid hq
              have HQN := Lib.hid hqn
              clear hx hy hz hqp hqn hq
              cases hm : mayB xv yv zv
              · have MV := Lib.hid (may_is hm)
                have HM := Lib.hid hm
                clear hm
                go_wp2_with fail
                refine (MV.out _).mono ?_
                rintro e u1 ⟨rfl, hn⟩
                go_wp2_with fail
                go_ret2
                refine ⟨.inr (.inl ⟨HOK.out, ?_, rfl⟩), HB.out.trans ((hBx.trans (hn.mono hBx.size)).mono HB.out.size)⟩
                have hf : mayP X Y Z ((S 9).1 1) = false := by rw [← HQP.out]; unfold mayP; rw [← HX.out, ← HY.out, ← HZ.out]; exact HM.out
                have hin : (S 9).1 1 = i.toNat ∨ (S 9).1 1 = j.toNat ∨ (S 9).1 1 = k.toNat ∨ (S 9).1 1 = m.toNat := by
                  rw [HS.out]
                  refine So.steps_from _ 9 (fun q => q = i.toNat ∨ q = j.toNat ∨ q = k.toNat ∨ q = m.toNat) ?_ 1 (by decide)
                  intro o ho
                  have : o = 0 ∨ o = 1 ∨ o = 2 ∨ o = 3 := by omega
                  rcases this with rfl | rfl | rfl | rfl <;> simp [So.q4]
                rcases hin with h | h | h | h <;> rw [h] at hf <;> simp [hf]
              · have MV := Lib.hid (may_is hm)
                have HM := Lib.hid hm
                clear hm
                go_wp2_with fail
                refine (MV.out _).mono ?_
                rintro e u1 ⟨rfl, hn⟩
                have hBy := hBx.trans (hn.mono hBx.size)
                have hQ2 := HQ.out.mono hn
                clear k0 k1 k2 cQ fQ zQ hn hBx
                obtain ⟨k0, k1, k2⟩ := pt_cells HP.out hab (HB.out.trans (hBy.mono HB.out.size)) HQN.out
                rw [← HX.out, HQQ.out] at k0
                rw [← HY.out, HQQ.out] at k1
                rw [← HZ.out, HQQ.out] at k2
                have HQ2 := Lib.hid hQ2
                obtain ⟨zQ, cQ, fQ⟩ := hQ2
                go_wp2_with fail
                exact ⟨⟨2, _, rfl, by omega, by omega, PP.more (r := 1) HPP.out (by decide) (by rw [← HQP.out]; exact HX.out) (by rw [← HQP.out]; exact HY.out) (by rw [← HQP.out]; exact HZ.out) HM.out,
                  ((HQ2.out.set 3 _ (by decide)).set 4 _ (by decide)).set 5 _ (by decide), ((hBy.setCell (by simp) _).setCell (by simp) _).setCell (by simp) _⟩, by simp [intOf]⟩
            · obtain ⟨g0, g1⟩ := b2
              obtain ⟨q, hq⟩ : ∃ q, q = (M 2).toNat := ⟨_, rfl⟩
              have hqp : q = (S 9).1 2 := by have := HL9.out.1 2 (by decide); omega
              have hqn : q < n := by omega
              obtain ⟨k0, k1, k2⟩ := pt_cells HP.out hab (HB.out.trans (hBx.mono HB.out.size)) hqn
              obtain ⟨xv, hx⟩ : ∃ x, x = X q := ⟨_, rfl⟩
              obtain ⟨yv, hy⟩ : ∃ x, x = Y q := ⟨_, rfl⟩
              obtain ⟨zv, hz⟩ : ∃ x, x = Z q := ⟨_, rfl⟩
              rw [← hx, hq] at k0
              rw [← hy, hq] at k1
              rw [← hz, hq] at k2
              have HX := Lib.hid hx
              have HY := Lib.hid hy
              have HZ := Lib.hid hz
              have HQP := Lib.hid hqp
              have HQQ := Lib.hid hq
              have HQN := Lib.hid hqn
              clear hx hy hz hqp hqn hq
              cases hm : mayB xv yv zv
              · have MV := Lib.hid (may_is hm)
                have HM := Lib.hid hm
                clear hm
                go_wp2_with fail
                refine (MV.out _).mono ?_
                rintro e u1 ⟨rfl, hn⟩
                go_wp2_with fail
                go_ret2
                refine ⟨.inr (.inl ⟨HOK.out, ?_, rfl⟩), HB.out.trans ((hBx.trans (hn.mono hBx.size)).mono HB.out.size)⟩
                have hf : mayP X Y Z ((S 9).1 2) = false := by rw [← HQP.out]; unfold mayP; rw [← HX.out, ← HY.out, ← HZ.out]; exact HM.out
                have hin : (S 9).1 2 = i.toNat ∨ (S 9).1 2 = j.toNat ∨ (S 9).1 2 = k.toNat ∨ (S 9).1 2 = m.toNat := by
                  rw [HS.out]
                  refine So.steps_from _ 9 (fun q => q = i.toNat ∨ q = j.toNat ∨ q = k.toNat ∨ q = m.toNat) ?_ 2 (by decide)
                  intro o ho
                  have : o = 0 ∨ o = 1 ∨ o = 2 ∨ o = 3 := by omega
                  rcases this with rfl | rfl | rfl | rfl <;> simp [So.q4]
                rcases hin with h | h | h | h <;> rw [h] at hf <;> simp [hf]
              · have MV := Lib.hid (may_is hm)
                have HM := Lib.hid hm
                clear hm
                go_wp2_with fail
                refine (MV.out _).mono ?_
                rintro e u1 ⟨rfl, hn⟩
                have hBy := hBx.trans (hn.mono hBx.size)
                have hQ2 := HQ.out.mono hn
                clear k0 k1 k2 cQ fQ zQ hn hBx
                obtain ⟨k0, k1, k2⟩ := pt_cells HP.out hab (HB.out.trans (hBy.mono HB.out.size)) HQN.out
                rw [← HX.out, HQQ.out] at k0
                rw [← HY.out, HQQ.out] at k1
                rw [← HZ.out, HQQ.out] at k2
                have HQ2 := Lib.hid hQ2
                obtain ⟨zQ, cQ, fQ⟩ := hQ2
                go_wp2_with fail
                exact ⟨⟨3, _, rfl, by omega, by omega, PP.more (r := 2) HPP.out (by decide) (by rw [← HQP.out]; exact HX.out) (by rw [← HQP.out]; exact HY.out) (by rw [← HQP.out]; exact HZ.out) HM.out,
                  ((HQ2.out.set 6 _ (by decide)).set 7 _ (by decide)).set 8 _ (by decide), ((hBy.setCell (by simp) _).setCell (by simp) _).setCell (by simp) _⟩, by simp [intOf]⟩
            · obtain ⟨g0, g1⟩ := b3
              obtain ⟨q, hq⟩ : ∃ q, q = (M 3).toNat := ⟨_, rfl⟩
              have hqp : q = (S 9).1 3 := by have := HL9.out.1 3 (by decide); omega
              have hqn : q < n := by omega
              obtain ⟨k0, k1, k2⟩ := pt_cells HP.out hab (HB.out.trans (hBx.mono HB.out.size)) hqn
              obtain ⟨xv, hx⟩ : ∃ x, x = X q := ⟨_, rfl⟩
              obtain ⟨yv, hy⟩ : ∃ x, x = Y q := ⟨_, rfl⟩
              obtain ⟨zv, hz⟩ : ∃ x, x = Z q := ⟨_, rfl⟩
              rw [← hx, hq] at k0
              rw [← hy, hq] at k1
              rw [← hz, hq] at k2
              have HX := Lib.hid hx
              have HY := Lib.hid hy
              have HZ := Lib.hid hz
              have HQP := Lib.hid hqp
              have HQQ := Lib.hid hq
              have HQN := Lib.hid hqn
              clear hx hy hz hqp hqn hq
              cases hm : mayB xv yv zv
              · have MV := Lib.hid (may_is hm)
                have HM := Lib.hid hm
                clear hm
                go_wp2_with fail
                refine (MV.out _).mono ?_
                rintro e u1 ⟨rfl, hn⟩
                go_wp2_with fail
                go_ret2
                refine ⟨.inr (.inl ⟨HOK.out, ?_, rfl⟩), HB.out.trans ((hBx.trans (hn.mono hBx.size)).mono HB.out.size)⟩
                have hf : mayP X Y Z ((S 9).1 3) = false := by rw [← HQP.out]; unfold mayP; rw [← HX.out, ← HY.out, ← HZ.out]; exact HM.out
                have hin : (S 9).1 3 = i.toNat ∨ (S 9).1 3 = j.toNat ∨ (S 9).1 3 = k.toNat ∨ (S 9).1 3 = m.toNat := by
                  rw [HS.out]
                  refine So.steps_from _ 9 (fun q => q = i.toNat ∨ q = j.toNat ∨ q = k.toNat ∨ q = m.toNat) ?_ 3 (by decide)
                  intro o ho
                  have : o = 0 ∨ o = 1 ∨ o = 2 ∨ o = 3 := by omega
                  rcases this with rfl | rfl | rfl | rfl <;> simp [So.q4]
                rcases hin with h | h | h | h <;> rw [h] at hf <;> simp [hf]
              · have MV := Lib.hid (may_is hm)
                have HM := Lib.hid hm
                clear hm
                go_wp2_with fail
                refine (MV.out _).mono ?_
                rintro e u1 ⟨rfl, hn⟩
                have hBy := hBx.trans (hn.mono hBx.size)
                have hQ2 := HQ.out.mono hn
                clear k0 k1 k2 cQ fQ zQ hn hBx
                obtain ⟨k0, k1, k2⟩ := pt_cells HP.out hab (HB.out.trans (hBy.mono HB.out.size)) HQN.out
                rw [← HX.out, HQQ.out] at k0
                rw [← HY.out, HQQ.out] at k1
                rw [← HZ.out, HQQ.out] at k2
                have HQ2 := Lib.hid hQ2
                obtain ⟨zQ, cQ, fQ⟩ := hQ2
                go_wp2_with fail
                exact ⟨⟨4, _, rfl, by omega, by omega, PP.more (r := 3) HPP.out (by decide) (by rw [← HQP.out]; exact HX.out) (by rw [← HQP.out]; exact HY.out) (by rw [← HQP.out]; exact HZ.out) HM.out,
                  ((HQ2.out.set 9 _ (by decide)).set 10 _ (by decide)).set 11 _ (by decide), ((hBy.setCell (by simp) _).setCell (by simp) _).setCell (by simp) _⟩, by simp [intOf]⟩
            · have hall := HPP.out
              have hp : ∀ b, b < 4 → mayP X Y Z ((S 9).1 b) = true := fun b hb => (hall b hb (by omega)).2.2.2
              have hm4 : may4 (Q 0) (Q 1) (Q 2) (Q 3) (Q 4) (Q 5) (Q 6) (Q 7) (Q 8) (Q 9) (Q 10) (Q 11) = true := by
                obtain ⟨a0, a1, a2, a3⟩ := hall 0 (by decide) (by decide)
                obtain ⟨b0, b1, b2, b3⟩ := hall 1 (by decide) (by decide)
                obtain ⟨c0, c1, c2, c3⟩ := hall 2 (by decide) (by decide)
                obtain ⟨d0, d1, d2, d3⟩ := hall 3 (by decide) (by decide)
                unfold may4
                rw [show Q 0 = _ from a0, show Q 1 = _ from a1, show Q 2 = _ from a2, show Q 3 = _ from b0, show Q 4 = _ from b1, show Q 5 = _ from b2, show Q 6 = _ from c0, show Q 7 = _ from c1, show Q 8 = _ from c2, show Q 9 = _ from d0, show Q 10 = _ from d1, show Q 11 = _ from d2, a3, b3, c3, d3]
                rfl
              have SG := Lib.hid (fun W => sign4_any hm4 W)
              have hmi : (mayP X Y Z i.toNat && mayP X Y Z j.toNat && mayP X Y Z k.toNat && mayP X Y Z m.toNat) = true := by
                have h := steps_back (So.q4 i.toNat j.toNat k.toNat m.toNat, 1) 9 (fun q => mayP X Y Z q = true) (by rw [← HS.out 9]; exact hp)
                have h0 := h 0 (by decide)
                have h1 := h 1 (by decide)
                have h2 := h 2 (by decide)
                have h3 := h 3 (by decide)
                simp only [So.q4] at h0 h1 h2 h3
                simp at h0 h1 h2 h3
                simp [h0, h1, h2, h3]
              obtain ⟨G, hG⟩ : ∃ G, G = So.sgn4 ⟨Q 0, Q 1, Q 2, 1⟩ ⟨Q 3, Q 4, Q 5, 1⟩ ⟨Q 6, Q 7, Q 8, 1⟩ ⟨Q 9, Q 10, Q 11, 1⟩ := ⟨_, rfl⟩
              rw [← hG] at SG
              have hV : T * G = So.signV (rowOf X Y Z) i.toNat j.toNat k.toNat m.toNat := by
                obtain ⟨a0, a1, a2, _⟩ := hall 0 (by decide) (by decide)
                obtain ⟨b0, b1, b2, _⟩ := hall 1 (by decide) (by decide)
                obtain ⟨c0, c1, c2, _⟩ := hall 2 (by decide) (by decide)
                obtain ⟨d0, d1, d2, _⟩ := hall 3 (by decide) (by decide)
                rw [hG, show Q 0 = _ from a0, show Q 1 = _ from a1, show Q 2 = _ from a2, show Q 3 = _ from b0, show Q 4 = _ from b1, show Q 5 = _ from b2, show Q 6 = _ from c0, show Q 7 = _ from c1, show Q 8 = _ from c2, show Q 9 = _ from d0, show Q 10 = _ from d1, show Q 11 = _ from d2, HL9.out.2, HS.out 9]
                rfl
              have hbd : -1 ≤ T * G ∧ T * G ≤ 1 := by
                rw [hV]
                have := (So.sign_real (rowOf X Y Z) (fun _ => rfl) [(i.toNat, j.toNat, k.toNat, m.toNat)])
                obtain ⟨V, hVV⟩ := this
                have := (hVV i.toNat j.toNat k.toNat m.toNat (by simp) (by have := HOK.out; unfold okp at this; simp [So.Un4, So.q4]; omega)).2
                omega
              have hwr : IntKind.i64.wrap (T * G) = T * G := by rw [IntKind.wrap_i64]; omega
              have HV := Lib.hid hV
              have HMI := Lib.hid hmi
              clear hall hp hm4 hmi hG hV hbd
              go_wp2_with fail
              refine (SG.out _).mono ?_
              rintro e u1 ⟨rfl, hn⟩
              go_wp2_with fail
              go_ret2
              exact ⟨.inr (.inr ⟨HOK.out, HMI.out, by rw [← HV.out]; rfl⟩), HB.out.trans ((hBx.trans (hn.mono hBx.size)).mono HB.out.size)⟩

theorem signS_any {v : Value} {n : Nat} {X Y Z : Nat → Int} (i j k m : Int) {w : World} (h : Pts w v n X Y Z) :
    Calls Try.prog 22 #[v, .int .i64 i, .int .i64 j, .int .i64 k, .int .i64 m] w fun e w' => SignE n X Y Z i j k m e ∧ Below w.heap.size w w' := by
  obtain ⟨hn, ⟨rfl, rfl⟩ | ⟨a, cap, rfl, hab, hP⟩⟩ := h
  · exact signS_nil i j k m X Y Z w
  · exact signS_some n cap a hn X Y Z i j k m w hab hP
end Go.Proofs.Yteieeclflfbinaa
