/- A point as a text: package text's Point, the reference's Whole and Point. -/
import Derived.Test.YtoikfekalgkgoaaDoorTEnv
import Derived.Test.YtoikfekalgkgoaaDoorKin
import Derived.Lib.ItoaLen
namespace Go.Proofs.YtoikfekalgkgoaaDoor
open Go.RowKit Go.Proofs
set_option linter.unusedVariables false

theorem Env.kin {W : World} (h : Env W) (k : More) : Env (kin W k) := h.mono (below_kin W k)
theorem cat_s (a b : List UInt8) : (⟨a.toArray⟩ ++ ⟨b.toArray⟩ : ByteArray) = ⟨(a ++ b).toArray⟩ := by
  apply ByteArray.ext
  simp
/-- a point as a text -/
def Tx.pt (x y z : Int) : List UInt8 := Lib.itoa x ++ [32] ++ Lib.itoa y ++ [32] ++ Lib.itoa z
theorem pt_cat (x y z : Int) : Value.string (⟨(Lib.itoa x).toArray⟩ ++ ⟨#[32]⟩ ++ ⟨(Lib.itoa y).toArray⟩ ++ ⟨#[32]⟩ ++ ⟨(Lib.itoa z).toArray⟩) = Tx.str (Tx.pt x y z) := by
  have e : (⟨#[32]⟩ : ByteArray) = ⟨[(32 : UInt8)].toArray⟩ := rfl
  rw [e, cat_s, cat_s, cat_s, cat_s]; rfl

theorem itoa_s (n : Int) (hn : Ti.inI n) (w : World) (he : Env w) : Calls Tryd.prog 21 #[.int .i64 n] w fun e w' => e = .returned (.string ⟨(Lib.itoa n).toArray⟩) ∧ Below w.heap.size w w' := itoa_any n hn w he

set_option maxHeartbeats 1000000 in
theorem point_any (x y z : Int) (hx : Ti.inI x) (hy : Ti.inI y) (hz : Ti.inI z) (w : World) (he : Env w) :
    Calls Tryd.prog 10 #[.agg #[.int .i64 x, .int .i64 y, .int .i64 z]] w fun e w' => e = .returned (Tx.str (Tx.pt x y z)) ∧ Below w.heap.size w w' := by
  have HE := Lib.hid he
  clear he
  go_enter Tryd.func10, Tryd.ntmps10
  go_upto_region 1 with fail
  have c0 : (w.alloc (.cells #[.int .i64 x, .int .i64 y, .int .i64 z] 24)).cell? ⟨w.heap.size, 0, none⟩ = some (.int .i64 x) := by simp [go_sem]
  have c1 : (w.alloc (.cells #[.int .i64 x, .int .i64 y, .int .i64 z] 24)).cell? ⟨w.heap.size, 1, none⟩ = some (.int .i64 y) := by simp [go_sem]
  have c2 : (w.alloc (.cells #[.int .i64 x, .int .i64 y, .int .i64 z] 24)).cell? ⟨w.heap.size, 2, none⟩ = some (.int .i64 z) := by simp [go_sem]
  have hB : Below w.heap.size w (w.alloc (.cells #[.int .i64 x, .int .i64 y, .int .i64 z] 24)) := (Below.refl _ _).alloc (Nat.le_refl _) _
  have hlt : w.heap.size < (w.alloc (.cells #[.int .i64 x, .int .i64 y, .int .i64 z] 24)).heap.size := by simp
  generalize w.alloc (.cells #[.int .i64 x, .int .i64 y, .int .i64 z] 24) = W at *
  have HB := Lib.hid hB
  have EW := Lib.hid (fun k => (HE.out.mono hB).kin k)
  clear hB
  have lx := Lib.itoa_length_le x hx.1 hx.2
  have ly := Lib.itoa_length_le y hy.1 hy.2
  have lz := Lib.itoa_length_le z hz.1 hz.2
  have KC := kin_cell W
  refine wp_region_kin_flat (by kernel_rfl) (by kernel_rfl) (by kernel_rfl) ?_
  repeat (go_big_quiet_step (first
    | (go_at_call 21; with_reducible refine quiet_kin (itoa_s x hx _ (EW.out _)))
    | (go_at_call 21; with_reducible refine quiet_kin (itoa_s y hy _ (EW.out _)))
    | (go_at_call 21; with_reducible refine quiet_kin (itoa_s z hz _ (EW.out _)))))
  refine wpQuiet_nil ?_
  clear KC
  intro _ hu_
  obtain ⟨k_, hu_⟩ := hu_
  have hk := below_kin W k_
  rw [← hu_] at hk
  clear hu_ k_
  rename World => U
  go_wp2_with fail
  go_ret
  exact ⟨congrArg Ending.returned (pt_cat x y z), HB.out.trans (hk.mono HB.out.size)⟩
end Go.Proofs.YtoikfekalgkgoaaDoor
