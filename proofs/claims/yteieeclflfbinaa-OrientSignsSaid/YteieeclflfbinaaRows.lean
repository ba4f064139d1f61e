/-
  No cell of these rows narrows 'for every input' (looked for: loops, veiled, ifaces, maps, wideKeys, modest, calm, conditions, laid).
  DERIVED. THE GIVEN ROWS OF THIS SEAT. 7 by the template 'for every input the law returns true; each argument reads behind the call as it read before'; 0 by the template 'total and deterministic' (their statements: YteieeclflfbinaaTotals.lean).
  GIVEN WITH THE SEED: the statements are not yours to turn. If you find one false, say at which input.
  Laid BY PROGRAM, IN A SANDBOX (cutbox-rows.mjs): the forced cells as the released guide's own fill.sh prints them over the translation 3e8f58b8a3caa47e… (all of the seat's roots in one cut). By AI agents, Wed Nov 11 2026. No macro, syntax, notation, axiom, sorry.
-/
import Derived.Test.YteieeclflfbinaaChecked
import GoSem.Claim
import GoSem.ClaimJoined
import GoSem.ClaimMapViews
import Derived.JoinedTies
import Derived.KernelRfl
namespace Go.Proofs.Yteieeclflfbinaa
/- THE CELL 'sum', in the pinned program and in every row, IS THE sha256 OF THE DUMP (.gsa) THAT YteieeclflfbinaaProg.lean LOADS. Nothing in Lean hashes anything: it is a label: what it is worth is what the hold of that sum in a sandbox is worth. -/
noncomputable def Try.pinned : Pinned := { name := "yteieeclflfbinaa", sum := "3e8f58b8a3caa47ee386a2ad122882f98ad4b4271f5a86a8018e41d2927a2ff6", checked := Try.checked }
namespace Rows
def none {H : Type} : Left H := { results := [], args := [] }

/-- 'carapacelaw2.OrientDets': WHATEVER THE INPUT: true; the input reads as it did. -/
def orientDetsSpec : ChangeSpec := { name := "orientDets", fn := fun _ => fun
  | [d1, d2, d3, d4] => { results := [.lit (.bool true)], args := [d1, d2, d3, d4] }
  | _ => none }
def orientDetsRow : OpenClaim := { program := "yteieeclflfbinaa", sum := "3e8f58b8a3caa47ee386a2ad122882f98ad4b4271f5a86a8018e41d2927a2ff6", func := "carapace/carapacelaw2.OrientDets", spec := "orientDets", inPlace := ["math/bits.Sub64", "math/bits.Add64", "math.Float64bits", "math.Float64frombits"], unfollowed := true, recurses := true, apart := false }
def OrientDetsSaid : Prop := orientDetsRow.holds Try.pinned (OpenSpec.ofChange orientDetsSpec)

/-- ITS FALSE NEIGHBOUR: 'it returns false'. Refute it at one input. -/
def orientDetsWrong : ChangeSpec := { name := "orientDets", fn := fun _ => fun
  | [d1, d2, d3, d4] => { results := [.lit (.bool false)], args := [d1, d2, d3, d4] }
  | _ => none }
def OrientDetsWrongFalsely : Prop := orientDetsRow.holds Try.pinned (OpenSpec.ofChange orientDetsWrong)

/-- 'carapacelaw2.OrientFilters': WHATEVER THE INPUT: true; the input reads as it did. -/
def orientFiltersSpec : ChangeSpec := { name := "orientFilters", fn := fun _ => fun
  | [d1, d2, d3, d4] => { results := [.lit (.bool true)], args := [d1, d2, d3, d4] }
  | _ => none }
def orientFiltersRow : OpenClaim := { program := "yteieeclflfbinaa", sum := "3e8f58b8a3caa47ee386a2ad122882f98ad4b4271f5a86a8018e41d2927a2ff6", func := "carapace/carapacelaw2.OrientFilters", spec := "orientFilters", inPlace := ["math.Float64bits", "math.Float64frombits", "math/bits.Sub64", "math/bits.Add64"], unfollowed := true, recurses := true, apart := false }
def OrientFiltersSaid : Prop := orientFiltersRow.holds Try.pinned (OpenSpec.ofChange orientFiltersSpec)

/-- ITS FALSE NEIGHBOUR: 'it returns false'. Refute it at one input. -/
def orientFiltersWrong : ChangeSpec := { name := "orientFilters", fn := fun _ => fun
  | [d1, d2, d3, d4] => { results := [.lit (.bool false)], args := [d1, d2, d3, d4] }
  | _ => none }
def OrientFiltersWrongFalsely : Prop := orientFiltersRow.holds Try.pinned (OpenSpec.ofChange orientFiltersWrong)

/-- 'carapacelaw2.OrientSteps': WHATEVER THE INPUT: true; the input reads as it did. -/
def orientStepsSpec : ChangeSpec := { name := "orientSteps", fn := fun _ => fun
  | [d1, d2, d3, d4] => { results := [.lit (.bool true)], args := [d1, d2, d3, d4] }
  | _ => none }
def orientStepsRow : OpenClaim := { program := "yteieeclflfbinaa", sum := "3e8f58b8a3caa47ee386a2ad122882f98ad4b4271f5a86a8018e41d2927a2ff6", func := "carapace/carapacelaw2.OrientSteps", spec := "orientSteps", inPlace := ["math.Float64bits", "math.Float64frombits", "math/bits.Sub64", "math/bits.Add64"], unfollowed := true, recurses := true, apart := false }
def OrientStepsSaid : Prop := orientStepsRow.holds Try.pinned (OpenSpec.ofChange orientStepsSpec)

/-- ITS FALSE NEIGHBOUR: 'it returns false'. Refute it at one input. -/
def orientStepsWrong : ChangeSpec := { name := "orientSteps", fn := fun _ => fun
  | [d1, d2, d3, d4] => { results := [.lit (.bool false)], args := [d1, d2, d3, d4] }
  | _ => none }
def OrientStepsWrongFalsely : Prop := orientStepsRow.holds Try.pinned (OpenSpec.ofChange orientStepsWrong)

/-- 'carapacelaw2.OrientLines': WHATEVER THE INPUT: true; the input reads as it did. -/
def orientLinesSpec : ChangeSpec := { name := "orientLines", fn := fun _ => fun
  | [d1, d2, d3] => { results := [.lit (.bool true)], args := [d1, d2, d3] }
  | _ => none }
def orientLinesRow : OpenClaim := { program := "yteieeclflfbinaa", sum := "3e8f58b8a3caa47ee386a2ad122882f98ad4b4271f5a86a8018e41d2927a2ff6", func := "carapace/carapacelaw2.OrientLines", spec := "orientLines", inPlace := ["math/bits.Sub64", "math/bits.Add64", "math.Float64bits", "math.Float64frombits"], unfollowed := true, recurses := true, apart := false }
def OrientLinesSaid : Prop := orientLinesRow.holds Try.pinned (OpenSpec.ofChange orientLinesSpec)

/-- ITS FALSE NEIGHBOUR: 'it returns false'. Refute it at one input. -/
def orientLinesWrong : ChangeSpec := { name := "orientLines", fn := fun _ => fun
  | [d1, d2, d3] => { results := [.lit (.bool false)], args := [d1, d2, d3] }
  | _ => none }
def OrientLinesWrongFalsely : Prop := orientLinesRow.holds Try.pinned (OpenSpec.ofChange orientLinesWrong)

/-- 'carapacelaw2.OrientSwaps': WHATEVER THE INPUT: true; the input reads as it did. -/
def orientSwapsSpec : ChangeSpec := { name := "orientSwaps", fn := fun _ => fun
  | [d1, d2, d3, d4, d5, d6] => { results := [.lit (.bool true)], args := [d1, d2, d3, d4, d5, d6] }
  | _ => none }
def orientSwapsRow : OpenClaim := { program := "yteieeclflfbinaa", sum := "3e8f58b8a3caa47ee386a2ad122882f98ad4b4271f5a86a8018e41d2927a2ff6", func := "carapace/carapacelaw2.OrientSwaps", spec := "orientSwaps", inPlace := ["math.Float64bits", "math.Float64frombits", "math/bits.Sub64", "math/bits.Add64"], unfollowed := true, recurses := true, apart := false }
def OrientSwapsSaid : Prop := orientSwapsRow.holds Try.pinned (OpenSpec.ofChange orientSwapsSpec)

/-- ITS FALSE NEIGHBOUR: 'it returns false'. Refute it at one input. -/
def orientSwapsWrong : ChangeSpec := { name := "orientSwaps", fn := fun _ => fun
  | [d1, d2, d3, d4, d5, d6] => { results := [.lit (.bool false)], args := [d1, d2, d3, d4, d5, d6] }
  | _ => none }
def OrientSwapsWrongFalsely : Prop := orientSwapsRow.holds Try.pinned (OpenSpec.ofChange orientSwapsWrong)

/-- 'carapacelaw2.OrientBonds': WHATEVER THE INPUT: true; the input reads as it did. -/
def orientBondsSpec : ChangeSpec := { name := "orientBonds", fn := fun _ => fun
  | [d1, d2] => { results := [.lit (.bool true)], args := [d1, d2] }
  | _ => none }
def orientBondsRow : OpenClaim := { program := "yteieeclflfbinaa", sum := "3e8f58b8a3caa47ee386a2ad122882f98ad4b4271f5a86a8018e41d2927a2ff6", func := "carapace/carapacelaw2.OrientBonds", spec := "orientBonds", inPlace := ["math/bits.Sub64", "math/bits.Add64", "math.Float64bits", "math.Float64frombits"], unfollowed := true, recurses := true, apart := false }
def OrientBondsSaid : Prop := orientBondsRow.holds Try.pinned (OpenSpec.ofChange orientBondsSpec)

/-- ITS FALSE NEIGHBOUR: 'it returns false'. Refute it at one input. -/
def orientBondsWrong : ChangeSpec := { name := "orientBonds", fn := fun _ => fun
  | [d1, d2] => { results := [.lit (.bool false)], args := [d1, d2] }
  | _ => none }
def OrientBondsWrongFalsely : Prop := orientBondsRow.holds Try.pinned (OpenSpec.ofChange orientBondsWrong)

/-- 'carapacelaw2.OrientSigns': WHATEVER THE INPUT: true; the input reads as it did. -/
def orientSignsSpec : ChangeSpec := { name := "orientSigns", fn := fun _ => fun
  | [d1, d2, d3, d4, d5] => { results := [.lit (.bool true)], args := [d1, d2, d3, d4, d5] }
  | _ => none }
def orientSignsRow : OpenClaim := { program := "yteieeclflfbinaa", sum := "3e8f58b8a3caa47ee386a2ad122882f98ad4b4271f5a86a8018e41d2927a2ff6", func := "carapace/carapacelaw2.OrientSigns", spec := "orientSigns", inPlace := ["math/bits.Sub64", "math/bits.Add64", "math.Float64bits", "math.Float64frombits"], unfollowed := true, recurses := true, apart := false }
def OrientSignsSaid : Prop := orientSignsRow.holds Try.pinned (OpenSpec.ofChange orientSignsSpec)

/-- ITS FALSE NEIGHBOUR: 'it returns false'. Refute it at one input. -/
def orientSignsWrong : ChangeSpec := { name := "orientSigns", fn := fun _ => fun
  | [d1, d2, d3, d4, d5] => { results := [.lit (.bool false)], args := [d1, d2, d3, d4, d5] }
  | _ => none }
def OrientSignsWrongFalsely : Prop := orientSignsRow.holds Try.pinned (OpenSpec.ofChange orientSignsWrong)

/- THE SECOND FORM. 'bulk': how many values and letters a reading holds, each counted each time it is reached (what is shared counts as often as it is met; a slice's spare places count too). A statement '..UptoSaid' is the law's where the arguments, and the package variables that the reading takes, are together of bulk at most 1048576: NARROWER than '..Said'. Prove '..Said' where nothing that the law and all that it calls make is longer than what came in: it says more and counts as full. Else prove '..UptoSaid'. A law counts once. -/
mutual
def uptoBulk {H : Type} : DataW H → Nat
  | .lit (.string bytes) => bytes.length + 1
  | .lit _ => 1
  | .nil => 1
  | .ptr d => uptoBulk d + 1
  | .slice elems spare => uptoBulkAll elems + uptoBulkAll spare + 1
  | .agg parts => uptoBulkAll parts + 1
  | .iface _ d => uptoBulk d + 1
  | .map entries => uptoBulkEntries entries + 1
  | .held _ => 1
def uptoBulkAll {H : Type} : List (DataW H) → Nat
  | [] => 0
  | d :: r => uptoBulk d + uptoBulkAll r
def uptoBulkEntries {H : Type} : List (Lit × DataW H) → Nat
  | [] => 0
  | x :: r => uptoBulkEntry x + uptoBulkEntries r
def uptoBulkEntry {H : Type} : Lit × DataW H → Nat
  | (.string bytes, d) => bytes.length + uptoBulk d + 1
  | (_, d) => uptoBulk d + 1
 end
def uptoSmall : (H : Type) → List (DataW H) → Bool := fun _ ds => decide (uptoBulkAll ds ≤ 1048576)
def OpenSpec.upto (s : _root_.Go.ChangeSpec) : _root_.Go.OpenSpec := { _root_.Go.OpenSpec.ofChange s with cond := some uptoSmall }

/-- 'carapacelaw2.OrientDets', WHERE WHAT IT READS IS OF BULK AT MOST 1048576: true; the input reads as it did. -/
def orientDetsUptoRow : OpenClaim := { program := "yteieeclflfbinaa", sum := "3e8f58b8a3caa47ee386a2ad122882f98ad4b4271f5a86a8018e41d2927a2ff6", func := "carapace/carapacelaw2.OrientDets", spec := "orientDets", inPlace := ["math/bits.Sub64", "math/bits.Add64", "math.Float64bits", "math.Float64frombits"], unfollowed := true, recurses := true, apart := false, narrowed := true }
def OrientDetsUptoSaid : Prop := orientDetsUptoRow.holds Try.pinned (OpenSpec.upto orientDetsSpec)

/-- 'carapacelaw2.OrientFilters', WHERE WHAT IT READS IS OF BULK AT MOST 1048576: true; the input reads as it did. -/
def orientFiltersUptoRow : OpenClaim := { program := "yteieeclflfbinaa", sum := "3e8f58b8a3caa47ee386a2ad122882f98ad4b4271f5a86a8018e41d2927a2ff6", func := "carapace/carapacelaw2.OrientFilters", spec := "orientFilters", inPlace := ["math.Float64bits", "math.Float64frombits", "math/bits.Sub64", "math/bits.Add64"], unfollowed := true, recurses := true, apart := false, narrowed := true }
def OrientFiltersUptoSaid : Prop := orientFiltersUptoRow.holds Try.pinned (OpenSpec.upto orientFiltersSpec)

/-- 'carapacelaw2.OrientSteps', WHERE WHAT IT READS IS OF BULK AT MOST 1048576: true; the input reads as it did. -/
def orientStepsUptoRow : OpenClaim := { program := "yteieeclflfbinaa", sum := "3e8f58b8a3caa47ee386a2ad122882f98ad4b4271f5a86a8018e41d2927a2ff6", func := "carapace/carapacelaw2.OrientSteps", spec := "orientSteps", inPlace := ["math.Float64bits", "math.Float64frombits", "math/bits.Sub64", "math/bits.Add64"], unfollowed := true, recurses := true, apart := false, narrowed := true }
def OrientStepsUptoSaid : Prop := orientStepsUptoRow.holds Try.pinned (OpenSpec.upto orientStepsSpec)

/-- 'carapacelaw2.OrientLines', WHERE WHAT IT READS IS OF BULK AT MOST 1048576: true; the input reads as it did. -/
def orientLinesUptoRow : OpenClaim := { program := "yteieeclflfbinaa", sum := "3e8f58b8a3caa47ee386a2ad122882f98ad4b4271f5a86a8018e41d2927a2ff6", func := "carapace/carapacelaw2.OrientLines", spec := "orientLines", inPlace := ["math/bits.Sub64", "math/bits.Add64", "math.Float64bits", "math.Float64frombits"], unfollowed := true, recurses := true, apart := false, narrowed := true }
def OrientLinesUptoSaid : Prop := orientLinesUptoRow.holds Try.pinned (OpenSpec.upto orientLinesSpec)

/-- 'carapacelaw2.OrientSwaps', WHERE WHAT IT READS IS OF BULK AT MOST 1048576: true; the input reads as it did. -/
def orientSwapsUptoRow : OpenClaim := { program := "yteieeclflfbinaa", sum := "3e8f58b8a3caa47ee386a2ad122882f98ad4b4271f5a86a8018e41d2927a2ff6", func := "carapace/carapacelaw2.OrientSwaps", spec := "orientSwaps", inPlace := ["math.Float64bits", "math.Float64frombits", "math/bits.Sub64", "math/bits.Add64"], unfollowed := true, recurses := true, apart := false, narrowed := true }
def OrientSwapsUptoSaid : Prop := orientSwapsUptoRow.holds Try.pinned (OpenSpec.upto orientSwapsSpec)

/-- 'carapacelaw2.OrientBonds', WHERE WHAT IT READS IS OF BULK AT MOST 1048576: true; the input reads as it did. -/
def orientBondsUptoRow : OpenClaim := { program := "yteieeclflfbinaa", sum := "3e8f58b8a3caa47ee386a2ad122882f98ad4b4271f5a86a8018e41d2927a2ff6", func := "carapace/carapacelaw2.OrientBonds", spec := "orientBonds", inPlace := ["math/bits.Sub64", "math/bits.Add64", "math.Float64bits", "math.Float64frombits"], unfollowed := true, recurses := true, apart := false, narrowed := true }
def OrientBondsUptoSaid : Prop := orientBondsUptoRow.holds Try.pinned (OpenSpec.upto orientBondsSpec)

/-- 'carapacelaw2.OrientSigns', WHERE WHAT IT READS IS OF BULK AT MOST 1048576: true; the input reads as it did. -/
def orientSignsUptoRow : OpenClaim := { program := "yteieeclflfbinaa", sum := "3e8f58b8a3caa47ee386a2ad122882f98ad4b4271f5a86a8018e41d2927a2ff6", func := "carapace/carapacelaw2.OrientSigns", spec := "orientSigns", inPlace := ["math/bits.Sub64", "math/bits.Add64", "math.Float64bits", "math.Float64frombits"], unfollowed := true, recurses := true, apart := false, narrowed := true }
def OrientSignsUptoSaid : Prop := orientSignsUptoRow.holds Try.pinned (OpenSpec.upto orientSignsSpec)

end Rows
end Go.Proofs.Yteieeclflfbinaa
