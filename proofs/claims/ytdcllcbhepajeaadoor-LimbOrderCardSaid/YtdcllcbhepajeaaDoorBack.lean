/- What limb.Text writes is read back by limb.Parse. -/
import Derived.Test.YtdcllcbhepajeaaDoorParse
namespace Go.Proofs.YtdcllcbhepajeaaDoor
open Go.RowKit Go.Proofs
set_option linter.unusedVariables false

theorem dig_val (d : Nat) (h : d < 10) : ((UInt8.ofNat (48 + d)).toNat : Int) = 48 + d := by
  simp; omega
theorem dec_val (u : Nat) : dval (Lib.decDigits u) = u ∧ ∀ c ∈ Lib.decDigits u, isDig c := by
  induction u using Nat.strongRecOn with
  | _ u ih =>
    by_cases h : u < 10
    · rw [Lib.decDigits_one h]
      refine ⟨?_, fun c hc => ?_⟩
      · show 0 * 10 + (((UInt8.ofNat (48 + u)).toNat : Int) - 48) = u
        rw [dig_val u h]; omega
      · rw [List.mem_singleton.1 hc]
        unfold isDig
        rw [dig_val u h]; omega
    · obtain ⟨h1, h2⟩ := ih (u / 10) (by omega)
      rw [Lib.decDigits, dif_neg h]
      refine ⟨?_, fun c hc => ?_⟩
      · rw [dval, List.foldl_append]
        show dval (Lib.decDigits (u / 10)) * 10 + (((UInt8.ofNat (48 + u % 10)).toNat : Int) - 48) = u
        rw [h1, dig_val (u % 10) (by omega)]; omega
      · rcases List.mem_append.1 hc with hc | hc
        · exact h2 c hc
        · rw [List.mem_singleton.1 hc]
          unfold isDig
          rw [dig_val (u % 10) (by omega)]; omega
theorem dec_trim (u : Nat) : Lib.trimPrefix (Lib.decDigits u) [45] = Lib.decDigits u := by
  have h := (dec_val u).2
  cases hd : Lib.decDigits u with
  | nil => rfl
  | cons c t =>
    have hc := h c (by rw [hd]; exact List.mem_cons_self)
    have h' : ¬ (45 : UInt8) = c := fun e => by
      unfold isDig at hc
      rw [← e, show (45 : UInt8).toNat = 45 from rfl] at hc
      omega
    simp [Lib.trimPrefix, Lib.hasPrefix, h']
theorem itoa_trim (n : Int) : Lib.trimPrefix (Lib.itoa n) [45] = Lib.decDigits n.natAbs ∧ pz (Lib.itoa n) (Lib.decDigits n.natAbs) = n := by
  unfold Lib.itoa
  split
  · refine ⟨by simp [Lib.trimPrefix, Lib.hasPrefix], ?_⟩
    rw [pz, if_pos (by simp), (dec_val _).1]; omega
  · rw [show n.toNat = n.natAbs by omega]
    refine ⟨dec_trim _, ?_⟩
    rw [pz, if_neg (by omega), (dec_val _).1]; omega
theorem sv_back (z : Int) : sv (sv z) = sv z ∧ hi (sv z) = hi z ∧ lo (sv z) = lo z := by unfold sv hi lo; omega
theorem itoa_pok (z : Int) : pok (Lib.itoa (sv z)) (Lib.decDigits (sv z).natAbs) := by
  refine ⟨?_, (dec_val _).2, by rw [(itoa_trim (sv z)).2, (sv_back z).1]⟩
  rw [Lib.decDigits_length]
  refine nDigits_le 39 (by decide) ?_
  have : (10 : Nat) ^ 39 = 1000000000000000000000000000000000000000 := by decide
  have : -170141183460469231731687303715884105728 ≤ sv z ∧ sv z < 170141183460469231731687303715884105728 := by unfold sv; omega
  omega
theorem parse_text (z : Int) (w : World) (htab : Tab w) :
    Calls Tryd.prog 32 #[.string ⟨(Lib.itoa (sv z)).toArray⟩] w fun e w' => e = .returned (.tuple #[.agg #[.int .i64 (hi z), .int .u64 (lo z)], .int .i64 0]) ∧ Below w.heap.size w w' := by
  refine (parse_walk _ w htab).mono fun e w' ⟨hp, hb⟩ => ⟨?_, hb⟩
  rw [(itoa_trim _).1] at hp
  rcases hp with ⟨_, hp⟩ | ⟨hp, _⟩
  · rw [(itoa_trim _).2, (sv_back z).2.1, (sv_back z).2.2] at hp
    exact hp
  · exact absurd (itoa_pok z) hp
end Go.Proofs.YtdcllcbhepajeaaDoor
