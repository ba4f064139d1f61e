/-
  NARROWER THAN 'FOR EVERY INPUT', by the rows' own cells (each row's printed sentence says how): NamesNumbers: laid · LimbSums: laid · LimbCompares: laid · LimbTexts: laid · LimbOrder: laid · LimbProducts: laid · LimbRing: laid · LimbNears: laid · LimbShifts: laid.
  DERIVED. THE GIVEN ROWS OF THIS SEAT. 9 by the template 'for every input the law returns true; each argument reads behind the call as it read before'; 0 by the template 'total and deterministic' (their statements: YtdcllcbhepajeaaDoorTotals.lean).
  GIVEN WITH THE SEED: the statements are not yours to turn. If you find one false, say at which input.
  Laid BY PROGRAM, IN A SANDBOX (cutbox-rows.mjs): the forced cells as the released guide's own fill.sh prints them over the translation eb3b4fa2a275b00f… (all of the seat's roots in one cut). By AI agents, Wed Nov 11 2026. No macro, syntax, notation, axiom, sorry.
-/
import Derived.Test.YtdcllcbhepajeaaDoorChecked
import GoSem.Claim
import GoSem.ClaimJoined
import GoSem.ClaimMapViews
import Derived.JoinedTies
import Derived.KernelRfl
namespace Go.Proofs.YtdcllcbhepajeaaDoor
/- THE CELL 'sum', in the pinned program and in every row, IS THE sha256 OF THE DUMP (.gsa) THAT YtdcllcbhepajeaaDoorProg.lean LOADS. Nothing in Lean hashes anything: it is a label: what it is worth is what the hold of that sum in a sandbox is worth. -/
noncomputable def Tryd.pinned : Pinned := { name := "ytdcllcbhepajeaadoor", sum := "eb3b4fa2a275b00f18f60e176a52c79736f35dc9bfb53dff87ffbec8edb0e886", checked := Tryd.checked }
namespace Rows
def none {H : Type} : Left H := { results := [], args := [] }

/- WHAT THE LISTED PACKAGE-LEVEL VARIABLES READ AS WHEN THE CALL BEGINS. Each datum BY PROGRAM (the guide's laid-datum.mjs) off the statement by which the dump's own 'gosem.cut.vars' lays the variable. In a bare row this is a premise. The card (YtdcllcbhepajeaaDoorCards.lean) ties it to the program's text. -/
def laid_math_bits_deBruijn32tab {H : Type} : DataW H := .agg [.lit (.int .u8 0), .lit (.int .u8 1), .lit (.int .u8 28), .lit (.int .u8 2), .lit (.int .u8 29), .lit (.int .u8 14), .lit (.int .u8 24), .lit (.int .u8 3), .lit (.int .u8 30), .lit (.int .u8 22), .lit (.int .u8 20), .lit (.int .u8 15), .lit (.int .u8 25), .lit (.int .u8 17), .lit (.int .u8 4), .lit (.int .u8 8), .lit (.int .u8 31), .lit (.int .u8 27), .lit (.int .u8 13), .lit (.int .u8 23), .lit (.int .u8 21), .lit (.int .u8 19), .lit (.int .u8 16), .lit (.int .u8 7), .lit (.int .u8 26), .lit (.int .u8 12), .lit (.int .u8 18), .lit (.int .u8 6), .lit (.int .u8 11), .lit (.int .u8 5), .lit (.int .u8 10), .lit (.int .u8 9)]
def laid_math_bits_deBruijn64tab {H : Type} : DataW H := .agg [.lit (.int .u8 0), .lit (.int .u8 1), .lit (.int .u8 56), .lit (.int .u8 2), .lit (.int .u8 57), .lit (.int .u8 49), .lit (.int .u8 28), .lit (.int .u8 3), .lit (.int .u8 61), .lit (.int .u8 58), .lit (.int .u8 42), .lit (.int .u8 50), .lit (.int .u8 38), .lit (.int .u8 29), .lit (.int .u8 17), .lit (.int .u8 4), .lit (.int .u8 62), .lit (.int .u8 47), .lit (.int .u8 59), .lit (.int .u8 36), .lit (.int .u8 45), .lit (.int .u8 43), .lit (.int .u8 51), .lit (.int .u8 22), .lit (.int .u8 53), .lit (.int .u8 39), .lit (.int .u8 33), .lit (.int .u8 30), .lit (.int .u8 24), .lit (.int .u8 18), .lit (.int .u8 12), .lit (.int .u8 5), .lit (.int .u8 63), .lit (.int .u8 55), .lit (.int .u8 48), .lit (.int .u8 27), .lit (.int .u8 60), .lit (.int .u8 41), .lit (.int .u8 37), .lit (.int .u8 16), .lit (.int .u8 46), .lit (.int .u8 35), .lit (.int .u8 44), .lit (.int .u8 21), .lit (.int .u8 52), .lit (.int .u8 32), .lit (.int .u8 23), .lit (.int .u8 11), .lit (.int .u8 54), .lit (.int .u8 26), .lit (.int .u8 40), .lit (.int .u8 15), .lit (.int .u8 34), .lit (.int .u8 20), .lit (.int .u8 31), .lit (.int .u8 10), .lit (.int .u8 25), .lit (.int .u8 14), .lit (.int .u8 19), .lit (.int .u8 9), .lit (.int .u8 13), .lit (.int .u8 8), .lit (.int .u8 7), .lit (.int .u8 6)]
def laid_internal_strconv_uint64pow10 {H : Type} : DataW H := .agg [.lit (.int .u64 1), .lit (.int .u64 10), .lit (.int .u64 100), .lit (.int .u64 1000), .lit (.int .u64 10000), .lit (.int .u64 100000), .lit (.int .u64 1000000), .lit (.int .u64 10000000), .lit (.int .u64 100000000), .lit (.int .u64 1000000000), .lit (.int .u64 10000000000), .lit (.int .u64 100000000000), .lit (.int .u64 1000000000000), .lit (.int .u64 10000000000000), .lit (.int .u64 100000000000000), .lit (.int .u64 1000000000000000), .lit (.int .u64 10000000000000000), .lit (.int .u64 100000000000000000), .lit (.int .u64 1000000000000000000), .lit (.int .u64 10000000000000000000)]

/-- 'carapacelaw0.NamesNumbers': WHATEVER THE INPUT: true; the input reads as it did. -/
def namesNumbersSpec : ChangeSpec := { name := "namesNumbers", fn := fun _ => fun
  | [] => { results := [.lit (.bool true)], args := [] }
  | _ => none }
def namesNumbersRow : OpenClaim := { program := "ytdcllcbhepajeaadoor", sum := "eb3b4fa2a275b00f18f60e176a52c79736f35dc9bfb53dff87ffbec8edb0e886", func := "carapace/carapacelaw0.NamesNumbers", spec := "namesNumbers", named := ["internal/strconv.uint64pow10", "math/bits.deBruijn32tab", "math/bits.deBruijn64tab"], apart := false, laid := [("math/bits.deBruijn32tab", laid_math_bits_deBruijn32tab), ("math/bits.deBruijn64tab", laid_math_bits_deBruijn64tab), ("internal/strconv.uint64pow10", laid_internal_strconv_uint64pow10)] }
def NamesNumbersSaid : Prop := namesNumbersRow.holds Tryd.pinned (OpenSpec.ofChange namesNumbersSpec)

/-- ITS FALSE NEIGHBOUR: 'it returns false'. Refute it at one input. -/
def namesNumbersWrong : ChangeSpec := { name := "namesNumbers", fn := fun _ => fun
  | [] => { results := [.lit (.bool false)], args := [] }
  | _ => none }
def NamesNumbersWrongFalsely : Prop := namesNumbersRow.holds Tryd.pinned (OpenSpec.ofChange namesNumbersWrong)

/-- 'carapacelaw1.LimbSums': WHATEVER THE INPUT: true; the input reads as it did. -/
def limbSumsSpec : ChangeSpec := { name := "limbSums", fn := fun _ => fun
  | [d1, d2, d3] => { results := [.lit (.bool true)], args := [d1, d2, d3] }
  | _ => none }
def limbSumsRow : OpenClaim := { program := "ytdcllcbhepajeaadoor", sum := "eb3b4fa2a275b00f18f60e176a52c79736f35dc9bfb53dff87ffbec8edb0e886", func := "carapace/carapacelaw1.LimbSums", spec := "limbSums", inPlace := ["math/bits.Add64", "math/bits.Sub64", "internal/abi.NoEscape", "internal/bytealg.MakeNoZero"], named := ["math/bits.divideError", "math/bits.overflowError", "internal/strconv.uint64pow10", "math/bits.deBruijn32tab", "math/bits.deBruijn64tab"], apart := false, laid := [("math/bits.deBruijn32tab", laid_math_bits_deBruijn32tab), ("math/bits.deBruijn64tab", laid_math_bits_deBruijn64tab), ("internal/strconv.uint64pow10", laid_internal_strconv_uint64pow10)] }
def LimbSumsSaid : Prop := limbSumsRow.holds Tryd.pinned (OpenSpec.ofChange limbSumsSpec)

/-- ITS FALSE NEIGHBOUR: 'it returns false'. Refute it at one input. -/
def limbSumsWrong : ChangeSpec := { name := "limbSums", fn := fun _ => fun
  | [d1, d2, d3] => { results := [.lit (.bool false)], args := [d1, d2, d3] }
  | _ => none }
def LimbSumsWrongFalsely : Prop := limbSumsRow.holds Tryd.pinned (OpenSpec.ofChange limbSumsWrong)

/-- 'carapacelaw1.LimbCompares': WHATEVER THE INPUT: true; the input reads as it did. -/
def limbComparesSpec : ChangeSpec := { name := "limbCompares", fn := fun _ => fun
  | [d1, d2] => { results := [.lit (.bool true)], args := [d1, d2] }
  | _ => none }
def limbComparesRow : OpenClaim := { program := "ytdcllcbhepajeaadoor", sum := "eb3b4fa2a275b00f18f60e176a52c79736f35dc9bfb53dff87ffbec8edb0e886", func := "carapace/carapacelaw1.LimbCompares", spec := "limbCompares", inPlace := ["math/bits.Add64", "math/bits.Sub64", "internal/abi.NoEscape", "internal/bytealg.MakeNoZero"], named := ["math/bits.divideError", "math/bits.overflowError", "internal/strconv.uint64pow10", "math/bits.deBruijn32tab", "math/bits.deBruijn64tab"], apart := false, laid := [("math/bits.deBruijn32tab", laid_math_bits_deBruijn32tab), ("math/bits.deBruijn64tab", laid_math_bits_deBruijn64tab), ("internal/strconv.uint64pow10", laid_internal_strconv_uint64pow10)] }
def LimbComparesSaid : Prop := limbComparesRow.holds Tryd.pinned (OpenSpec.ofChange limbComparesSpec)

/-- ITS FALSE NEIGHBOUR: 'it returns false'. Refute it at one input. -/
def limbComparesWrong : ChangeSpec := { name := "limbCompares", fn := fun _ => fun
  | [d1, d2] => { results := [.lit (.bool false)], args := [d1, d2] }
  | _ => none }
def LimbComparesWrongFalsely : Prop := limbComparesRow.holds Tryd.pinned (OpenSpec.ofChange limbComparesWrong)

/-- 'carapacelaw1.LimbTexts': WHATEVER THE INPUT: true; the input reads as it did. -/
def limbTextsSpec : ChangeSpec := { name := "limbTexts", fn := fun _ => fun
  | [d1, d2] => { results := [.lit (.bool true)], args := [d1, d2] }
  | _ => none }
def limbTextsRow : OpenClaim := { program := "ytdcllcbhepajeaadoor", sum := "eb3b4fa2a275b00f18f60e176a52c79736f35dc9bfb53dff87ffbec8edb0e886", func := "carapace/carapacelaw1.LimbTexts", spec := "limbTexts", inPlace := ["math/bits.Add64", "math/bits.Sub64", "internal/abi.NoEscape", "internal/bytealg.MakeNoZero"], named := ["math/bits.divideError", "math/bits.overflowError", "internal/strconv.uint64pow10", "math/bits.deBruijn32tab", "math/bits.deBruijn64tab"], apart := false, laid := [("math/bits.deBruijn32tab", laid_math_bits_deBruijn32tab), ("math/bits.deBruijn64tab", laid_math_bits_deBruijn64tab), ("internal/strconv.uint64pow10", laid_internal_strconv_uint64pow10)] }
def LimbTextsSaid : Prop := limbTextsRow.holds Tryd.pinned (OpenSpec.ofChange limbTextsSpec)

/-- ITS FALSE NEIGHBOUR: 'it returns false'. Refute it at one input. -/
def limbTextsWrong : ChangeSpec := { name := "limbTexts", fn := fun _ => fun
  | [d1, d2] => { results := [.lit (.bool false)], args := [d1, d2] }
  | _ => none }
def LimbTextsWrongFalsely : Prop := limbTextsRow.holds Tryd.pinned (OpenSpec.ofChange limbTextsWrong)

/-- 'carapacelaw1.LimbOrder': WHATEVER THE INPUT: true; the input reads as it did. -/
def limbOrderSpec : ChangeSpec := { name := "limbOrder", fn := fun _ => fun
  | [d1, d2, d3, d4] => { results := [.lit (.bool true)], args := [d1, d2, d3, d4] }
  | _ => none }
def limbOrderRow : OpenClaim := { program := "ytdcllcbhepajeaadoor", sum := "eb3b4fa2a275b00f18f60e176a52c79736f35dc9bfb53dff87ffbec8edb0e886", func := "carapace/carapacelaw1.LimbOrder", spec := "limbOrder", inPlace := ["math/bits.Sub64", "internal/abi.NoEscape", "internal/bytealg.MakeNoZero", "math/bits.Add64"], named := ["math/bits.divideError", "math/bits.overflowError", "internal/strconv.uint64pow10", "math/bits.deBruijn32tab", "math/bits.deBruijn64tab"], apart := false, laid := [("math/bits.deBruijn32tab", laid_math_bits_deBruijn32tab), ("math/bits.deBruijn64tab", laid_math_bits_deBruijn64tab), ("internal/strconv.uint64pow10", laid_internal_strconv_uint64pow10)] }
def LimbOrderSaid : Prop := limbOrderRow.holds Tryd.pinned (OpenSpec.ofChange limbOrderSpec)

/-- ITS FALSE NEIGHBOUR: 'it returns false'. Refute it at one input. -/
def limbOrderWrong : ChangeSpec := { name := "limbOrder", fn := fun _ => fun
  | [d1, d2, d3, d4] => { results := [.lit (.bool false)], args := [d1, d2, d3, d4] }
  | _ => none }
def LimbOrderWrongFalsely : Prop := limbOrderRow.holds Tryd.pinned (OpenSpec.ofChange limbOrderWrong)

/-- 'carapacelaw1.LimbProducts': WHATEVER THE INPUT: true; the input reads as it did. -/
def limbProductsSpec : ChangeSpec := { name := "limbProducts", fn := fun _ => fun
  | [d1, d2, d3, d4] => { results := [.lit (.bool true)], args := [d1, d2, d3, d4] }
  | _ => none }
def limbProductsRow : OpenClaim := { program := "ytdcllcbhepajeaadoor", sum := "eb3b4fa2a275b00f18f60e176a52c79736f35dc9bfb53dff87ffbec8edb0e886", func := "carapace/carapacelaw1.LimbProducts", spec := "limbProducts", inPlace := ["math/bits.Add64", "math/bits.Sub64", "internal/abi.NoEscape", "internal/bytealg.MakeNoZero"], named := ["math/bits.divideError", "math/bits.overflowError", "internal/strconv.uint64pow10", "math/bits.deBruijn32tab", "math/bits.deBruijn64tab"], apart := false, laid := [("math/bits.deBruijn32tab", laid_math_bits_deBruijn32tab), ("math/bits.deBruijn64tab", laid_math_bits_deBruijn64tab), ("internal/strconv.uint64pow10", laid_internal_strconv_uint64pow10)] }
def LimbProductsSaid : Prop := limbProductsRow.holds Tryd.pinned (OpenSpec.ofChange limbProductsSpec)

/-- ITS FALSE NEIGHBOUR: 'it returns false'. Refute it at one input. -/
def limbProductsWrong : ChangeSpec := { name := "limbProducts", fn := fun _ => fun
  | [d1, d2, d3, d4] => { results := [.lit (.bool false)], args := [d1, d2, d3, d4] }
  | _ => none }
def LimbProductsWrongFalsely : Prop := limbProductsRow.holds Tryd.pinned (OpenSpec.ofChange limbProductsWrong)

/-- 'carapacelaw1.LimbRing': WHATEVER THE INPUT: true; the input reads as it did. -/
def limbRingSpec : ChangeSpec := { name := "limbRing", fn := fun _ => fun
  | [d1, d2, d3, d4] => { results := [.lit (.bool true)], args := [d1, d2, d3, d4] }
  | _ => none }
def limbRingRow : OpenClaim := { program := "ytdcllcbhepajeaadoor", sum := "eb3b4fa2a275b00f18f60e176a52c79736f35dc9bfb53dff87ffbec8edb0e886", func := "carapace/carapacelaw1.LimbRing", spec := "limbRing", inPlace := ["math/bits.Add64", "math/bits.Sub64", "internal/abi.NoEscape", "internal/bytealg.MakeNoZero"], named := ["math/bits.divideError", "math/bits.overflowError", "internal/strconv.uint64pow10", "math/bits.deBruijn32tab", "math/bits.deBruijn64tab"], apart := false, laid := [("math/bits.deBruijn32tab", laid_math_bits_deBruijn32tab), ("math/bits.deBruijn64tab", laid_math_bits_deBruijn64tab), ("internal/strconv.uint64pow10", laid_internal_strconv_uint64pow10)] }
def LimbRingSaid : Prop := limbRingRow.holds Tryd.pinned (OpenSpec.ofChange limbRingSpec)

/-- ITS FALSE NEIGHBOUR: 'it returns false'. Refute it at one input. -/
def limbRingWrong : ChangeSpec := { name := "limbRing", fn := fun _ => fun
  | [d1, d2, d3, d4] => { results := [.lit (.bool false)], args := [d1, d2, d3, d4] }
  | _ => none }
def LimbRingWrongFalsely : Prop := limbRingRow.holds Tryd.pinned (OpenSpec.ofChange limbRingWrong)

/-- 'carapacelaw1.LimbNears': WHATEVER THE INPUT: true; the input reads as it did. -/
def limbNearsSpec : ChangeSpec := { name := "limbNears", fn := fun _ => fun
  | [d] => { results := [.lit (.bool true)], args := [d] }
  | _ => none }
def limbNearsRow : OpenClaim := { program := "ytdcllcbhepajeaadoor", sum := "eb3b4fa2a275b00f18f60e176a52c79736f35dc9bfb53dff87ffbec8edb0e886", func := "carapace/carapacelaw1.LimbNears", spec := "limbNears", inPlace := ["math/bits.Sub64", "math.Float64bits", "math.Float64frombits", "math/bits.Add64", "internal/abi.NoEscape", "internal/bytealg.MakeNoZero"], named := ["math/bits.divideError", "math/bits.overflowError", "internal/strconv.uint64pow10", "math/bits.deBruijn32tab", "math/bits.deBruijn64tab"], apart := false, laid := [("math/bits.deBruijn32tab", laid_math_bits_deBruijn32tab), ("math/bits.deBruijn64tab", laid_math_bits_deBruijn64tab), ("internal/strconv.uint64pow10", laid_internal_strconv_uint64pow10)] }
def LimbNearsSaid : Prop := limbNearsRow.holds Tryd.pinned (OpenSpec.ofChange limbNearsSpec)

/-- ITS FALSE NEIGHBOUR: 'it returns false'. Refute it at one input. -/
def limbNearsWrong : ChangeSpec := { name := "limbNears", fn := fun _ => fun
  | [d] => { results := [.lit (.bool false)], args := [d] }
  | _ => none }
def LimbNearsWrongFalsely : Prop := limbNearsRow.holds Tryd.pinned (OpenSpec.ofChange limbNearsWrong)

/-- 'carapacelaw1.LimbShifts': WHATEVER THE INPUT: true; the input reads as it did. -/
def limbShiftsSpec : ChangeSpec := { name := "limbShifts", fn := fun _ => fun
  | [d1, d2, d3, d4] => { results := [.lit (.bool true)], args := [d1, d2, d3, d4] }
  | _ => none }
def limbShiftsRow : OpenClaim := { program := "ytdcllcbhepajeaadoor", sum := "eb3b4fa2a275b00f18f60e176a52c79736f35dc9bfb53dff87ffbec8edb0e886", func := "carapace/carapacelaw1.LimbShifts", spec := "limbShifts", inPlace := ["math/bits.Sub64", "math.Float64bits", "math.Float64frombits", "math/bits.Add64", "internal/abi.NoEscape", "internal/bytealg.MakeNoZero"], named := ["math/bits.divideError", "math/bits.overflowError", "internal/strconv.uint64pow10", "math/bits.deBruijn32tab", "math/bits.deBruijn64tab"], apart := false, laid := [("math/bits.deBruijn32tab", laid_math_bits_deBruijn32tab), ("math/bits.deBruijn64tab", laid_math_bits_deBruijn64tab), ("internal/strconv.uint64pow10", laid_internal_strconv_uint64pow10)] }
def LimbShiftsSaid : Prop := limbShiftsRow.holds Tryd.pinned (OpenSpec.ofChange limbShiftsSpec)

/-- ITS FALSE NEIGHBOUR: 'it returns false'. Refute it at one input. -/
def limbShiftsWrong : ChangeSpec := { name := "limbShifts", fn := fun _ => fun
  | [d1, d2, d3, d4] => { results := [.lit (.bool false)], args := [d1, d2, d3, d4] }
  | _ => none }
def LimbShiftsWrongFalsely : Prop := limbShiftsRow.holds Tryd.pinned (OpenSpec.ofChange limbShiftsWrong)

/- THE SECOND FORM. 'bulk': how many values and letters a reading holds, each counted each time it is reached (what is shared counts as often as it is met; a slice's spare places count too). A statement '..UptoSaid' is the law's where the arguments, and the package variables that the reading takes, are together of bulk at most 1048576: NARROWER than '..Said'. Prove '..Said' where nothing that the law and all that it calls make is longer than what came in: it says more and counts as full. Else prove '..UptoSaid'. A law counts once. -/
mutual
def uptoBulk {H : Type} : DataW H → Nat
  | .lit (.string bytes) => bytes.length + 1
  | .lit _ => 1
  | .nil => 1
  | .ptr d => uptoBulk d + 1
  | .slice elems spare => uptoBulkAll elems + uptoBulkAll spare + 1
  | .agg parts => uptoBulkAll parts + 1
  | .iface _ d => uptoBulk d + 1
  | .map entries => uptoBulkEntries entries + 1
  | .held _ => 1
def uptoBulkAll {H : Type} : List (DataW H) → Nat
  | [] => 0
  | d :: r => uptoBulk d + uptoBulkAll r
def uptoBulkEntries {H : Type} : List (Lit × DataW H) → Nat
  | [] => 0
  | x :: r => uptoBulkEntry x + uptoBulkEntries r
def uptoBulkEntry {H : Type} : Lit × DataW H → Nat
  | (.string bytes, d) => bytes.length + uptoBulk d + 1
  | (_, d) => uptoBulk d + 1
 end
def uptoSmall : (H : Type) → List (DataW H) → Bool := fun _ ds => decide (uptoBulkAll ds ≤ 1048576)
def OpenSpec.upto (s : _root_.Go.ChangeSpec) : _root_.Go.OpenSpec := { _root_.Go.OpenSpec.ofChange s with cond := some uptoSmall }

/-- 'carapacelaw0.NamesNumbers', WHERE WHAT IT READS IS OF BULK AT MOST 1048576: true; the input reads as it did. -/
def namesNumbersUptoRow : OpenClaim := { program := "ytdcllcbhepajeaadoor", sum := "eb3b4fa2a275b00f18f60e176a52c79736f35dc9bfb53dff87ffbec8edb0e886", func := "carapace/carapacelaw0.NamesNumbers", spec := "namesNumbers", named := ["internal/strconv.uint64pow10", "math/bits.deBruijn32tab", "math/bits.deBruijn64tab"], apart := false, laid := [("math/bits.deBruijn32tab", laid_math_bits_deBruijn32tab), ("math/bits.deBruijn64tab", laid_math_bits_deBruijn64tab), ("internal/strconv.uint64pow10", laid_internal_strconv_uint64pow10)], narrowed := true }
def NamesNumbersUptoSaid : Prop := namesNumbersUptoRow.holds Tryd.pinned (OpenSpec.upto namesNumbersSpec)

/-- 'carapacelaw1.LimbSums', WHERE WHAT IT READS IS OF BULK AT MOST 1048576: true; the input reads as it did. -/
def limbSumsUptoRow : OpenClaim := { program := "ytdcllcbhepajeaadoor", sum := "eb3b4fa2a275b00f18f60e176a52c79736f35dc9bfb53dff87ffbec8edb0e886", func := "carapace/carapacelaw1.LimbSums", spec := "limbSums", inPlace := ["math/bits.Add64", "math/bits.Sub64", "internal/abi.NoEscape", "internal/bytealg.MakeNoZero"], named := ["math/bits.divideError", "math/bits.overflowError", "internal/strconv.uint64pow10", "math/bits.deBruijn32tab", "math/bits.deBruijn64tab"], apart := false, laid := [("math/bits.deBruijn32tab", laid_math_bits_deBruijn32tab), ("math/bits.deBruijn64tab", laid_math_bits_deBruijn64tab), ("internal/strconv.uint64pow10", laid_internal_strconv_uint64pow10)], narrowed := true }
def LimbSumsUptoSaid : Prop := limbSumsUptoRow.holds Tryd.pinned (OpenSpec.upto limbSumsSpec)

/-- 'carapacelaw1.LimbCompares', WHERE WHAT IT READS IS OF BULK AT MOST 1048576: true; the input reads as it did. -/
def limbComparesUptoRow : OpenClaim := { program := "ytdcllcbhepajeaadoor", sum := "eb3b4fa2a275b00f18f60e176a52c79736f35dc9bfb53dff87ffbec8edb0e886", func := "carapace/carapacelaw1.LimbCompares", spec := "limbCompares", inPlace := ["math/bits.Add64", "math/bits.Sub64", "internal/abi.NoEscape", "internal/bytealg.MakeNoZero"], named := ["math/bits.divideError", "math/bits.overflowError", "internal/strconv.uint64pow10", "math/bits.deBruijn32tab", "math/bits.deBruijn64tab"], apart := false, laid := [("math/bits.deBruijn32tab", laid_math_bits_deBruijn32tab), ("math/bits.deBruijn64tab", laid_math_bits_deBruijn64tab), ("internal/strconv.uint64pow10", laid_internal_strconv_uint64pow10)], narrowed := true }
def LimbComparesUptoSaid : Prop := limbComparesUptoRow.holds Tryd.pinned (OpenSpec.upto limbComparesSpec)

/-- 'carapacelaw1.LimbTexts', WHERE WHAT IT READS IS OF BULK AT MOST 1048576: true; the input reads as it did. -/
def limbTextsUptoRow : OpenClaim := { program := "ytdcllcbhepajeaadoor", sum := "eb3b4fa2a275b00f18f60e176a52c79736f35dc9bfb53dff87ffbec8edb0e886", func := "carapace/carapacelaw1.LimbTexts", spec := "limbTexts", inPlace := ["math/bits.Add64", "math/bits.Sub64", "internal/abi.NoEscape", "internal/bytealg.MakeNoZero"], named := ["math/bits.divideError", "math/bits.overflowError", "internal/strconv.uint64pow10", "math/bits.deBruijn32tab", "math/bits.deBruijn64tab"], apart := false, laid := [("math/bits.deBruijn32tab", laid_math_bits_deBruijn32tab), ("math/bits.deBruijn64tab", laid_math_bits_deBruijn64tab), ("internal/strconv.uint64pow10", laid_internal_strconv_uint64pow10)], narrowed := true }
def LimbTextsUptoSaid : Prop := limbTextsUptoRow.holds Tryd.pinned (OpenSpec.upto limbTextsSpec)

/-- 'carapacelaw1.LimbOrder', WHERE WHAT IT READS IS OF BULK AT MOST 1048576: true; the input reads as it did. -/
def limbOrderUptoRow : OpenClaim := { program := "ytdcllcbhepajeaadoor", sum := "eb3b4fa2a275b00f18f60e176a52c79736f35dc9bfb53dff87ffbec8edb0e886", func := "carapace/carapacelaw1.LimbOrder", spec := "limbOrder", inPlace := ["math/bits.Sub64", "internal/abi.NoEscape", "internal/bytealg.MakeNoZero", "math/bits.Add64"], named := ["math/bits.divideError", "math/bits.overflowError", "internal/strconv.uint64pow10", "math/bits.deBruijn32tab", "math/bits.deBruijn64tab"], apart := false, laid := [("math/bits.deBruijn32tab", laid_math_bits_deBruijn32tab), ("math/bits.deBruijn64tab", laid_math_bits_deBruijn64tab), ("internal/strconv.uint64pow10", laid_internal_strconv_uint64pow10)], narrowed := true }
def LimbOrderUptoSaid : Prop := limbOrderUptoRow.holds Tryd.pinned (OpenSpec.upto limbOrderSpec)

/-- 'carapacelaw1.LimbProducts', WHERE WHAT IT READS IS OF BULK AT MOST 1048576: true; the input reads as it did. -/
def limbProductsUptoRow : OpenClaim := { program := "ytdcllcbhepajeaadoor", sum := "eb3b4fa2a275b00f18f60e176a52c79736f35dc9bfb53dff87ffbec8edb0e886", func := "carapace/carapacelaw1.LimbProducts", spec := "limbProducts", inPlace := ["math/bits.Add64", "math/bits.Sub64", "internal/abi.NoEscape", "internal/bytealg.MakeNoZero"], named := ["math/bits.divideError", "math/bits.overflowError", "internal/strconv.uint64pow10", "math/bits.deBruijn32tab", "math/bits.deBruijn64tab"], apart := false, laid := [("math/bits.deBruijn32tab", laid_math_bits_deBruijn32tab), ("math/bits.deBruijn64tab", laid_math_bits_deBruijn64tab), ("internal/strconv.uint64pow10", laid_internal_strconv_uint64pow10)], narrowed := true }
def LimbProductsUptoSaid : Prop := limbProductsUptoRow.holds Tryd.pinned (OpenSpec.upto limbProductsSpec)

/-- 'carapacelaw1.LimbRing', WHERE WHAT IT READS IS OF BULK AT MOST 1048576: true; the input reads as it did. -/
def limbRingUptoRow : OpenClaim := { program := "ytdcllcbhepajeaadoor", sum := "eb3b4fa2a275b00f18f60e176a52c79736f35dc9bfb53dff87ffbec8edb0e886", func := "carapace/carapacelaw1.LimbRing", spec := "limbRing", inPlace := ["math/bits.Add64", "math/bits.Sub64", "internal/abi.NoEscape", "internal/bytealg.MakeNoZero"], named := ["math/bits.divideError", "math/bits.overflowError", "internal/strconv.uint64pow10", "math/bits.deBruijn32tab", "math/bits.deBruijn64tab"], apart := false, laid := [("math/bits.deBruijn32tab", laid_math_bits_deBruijn32tab), ("math/bits.deBruijn64tab", laid_math_bits_deBruijn64tab), ("internal/strconv.uint64pow10", laid_internal_strconv_uint64pow10)], narrowed := true }
def LimbRingUptoSaid : Prop := limbRingUptoRow.holds Tryd.pinned (OpenSpec.upto limbRingSpec)

/-- 'carapacelaw1.LimbNears', WHERE WHAT IT READS IS OF BULK AT MOST 1048576: true; the input reads as it did. -/
def limbNearsUptoRow : OpenClaim := { program := "ytdcllcbhepajeaadoor", sum := "eb3b4fa2a275b00f18f60e176a52c79736f35dc9bfb53dff87ffbec8edb0e886", func := "carapace/carapacelaw1.LimbNears", spec := "limbNears", inPlace := ["math/bits.Sub64", "math.Float64bits", "math.Float64frombits", "math/bits.Add64", "internal/abi.NoEscape", "internal/bytealg.MakeNoZero"], named := ["math/bits.divideError", "math/bits.overflowError", "internal/strconv.uint64pow10", "math/bits.deBruijn32tab", "math/bits.deBruijn64tab"], apart := false, laid := [("math/bits.deBruijn32tab", laid_math_bits_deBruijn32tab), ("math/bits.deBruijn64tab", laid_math_bits_deBruijn64tab), ("internal/strconv.uint64pow10", laid_internal_strconv_uint64pow10)], narrowed := true }
def LimbNearsUptoSaid : Prop := limbNearsUptoRow.holds Tryd.pinned (OpenSpec.upto limbNearsSpec)

/-- 'carapacelaw1.LimbShifts', WHERE WHAT IT READS IS OF BULK AT MOST 1048576: true; the input reads as it did. -/
def limbShiftsUptoRow : OpenClaim := { program := "ytdcllcbhepajeaadoor", sum := "eb3b4fa2a275b00f18f60e176a52c79736f35dc9bfb53dff87ffbec8edb0e886", func := "carapace/carapacelaw1.LimbShifts", spec := "limbShifts", inPlace := ["math/bits.Sub64", "math.Float64bits", "math.Float64frombits", "math/bits.Add64", "internal/abi.NoEscape", "internal/bytealg.MakeNoZero"], named := ["math/bits.divideError", "math/bits.overflowError", "internal/strconv.uint64pow10", "math/bits.deBruijn32tab", "math/bits.deBruijn64tab"], apart := false, laid := [("math/bits.deBruijn32tab", laid_math_bits_deBruijn32tab), ("math/bits.deBruijn64tab", laid_math_bits_deBruijn64tab), ("internal/strconv.uint64pow10", laid_internal_strconv_uint64pow10)], narrowed := true }
def LimbShiftsUptoSaid : Prop := limbShiftsUptoRow.holds Tryd.pinned (OpenSpec.upto limbShiftsSpec)

end Rows
end Go.Proofs.YtdcllcbhepajeaaDoor
