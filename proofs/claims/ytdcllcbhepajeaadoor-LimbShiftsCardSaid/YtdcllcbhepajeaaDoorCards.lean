/-
  DERIVED. GIVEN WITH THE SEED: THE CARDS: each row of YtdcllcbhepajeaaDoorRows.lean that lists a variable, with what it lists TIED to the program's text (the seventh form; the later family's looks); each row that meets fmt, with fmt's text TOLD by the authors' own Lean function (tested against real Go, not proved from fmt's source: count such statements apart). THE CARD IS WHAT COUNTS. Prove the row's statement (the work); the ties are given (YtdcllcbhepajeaaDoorTie.lean); close each card by the builder's one call (the guide's Derived/Test/ToyasCard.lean, 'card_holds'). Laid BY PROGRAM, IN A SANDBOX (cutbox-door.mjs). By AI agents, Wed Nov 11 2026. No macro, syntax, notation, axiom, sorry.
-/
import Derived.Test.YtdcllcbhepajeaaDoorRows
import GoSem.ClaimSeven
namespace Go.Proofs.YtdcllcbhepajeaaDoor
namespace Rows

/-- THE TIED CARD OF 'carapacelaw0.NamesNumbers'. -/
def namesNumbersCard : Claim7 := { stood := { row := namesNumbersRow, standIns := [], harness := (true, "97f27264d588b199c82ecea28e0eba3128f8aa8b05fcffbb94d6d6db94810404"), looks := false }, kinds := [], alts := [], laidByText := true, laidKinds := [.data, .data, .data], laidTests := true, laidLooks := .later }
def NamesNumbersCardSaid : Prop := Claim7.holds Tryd.pinned (.plain (OpenSpec.ofChange namesNumbersSpec)) namesNumbersCard

/-- THE TIED CARD OF 'carapacelaw1.LimbSums'. -/
def limbSumsCard : Claim7 := { stood := { row := limbSumsRow, standIns := [], harness := (true, "97f27264d588b199c82ecea28e0eba3128f8aa8b05fcffbb94d6d6db94810404"), looks := false }, kinds := [], alts := [], laidByText := true, laidKinds := [.data, .data, .data], laidTests := true, laidLooks := .later }
def LimbSumsCardSaid : Prop := Claim7.holds Tryd.pinned (.plain (OpenSpec.ofChange limbSumsSpec)) limbSumsCard

/-- THE TIED CARD OF 'carapacelaw1.LimbCompares'. -/
def limbComparesCard : Claim7 := { stood := { row := limbComparesRow, standIns := [], harness := (true, "97f27264d588b199c82ecea28e0eba3128f8aa8b05fcffbb94d6d6db94810404"), looks := false }, kinds := [], alts := [], laidByText := true, laidKinds := [.data, .data, .data], laidTests := true, laidLooks := .later }
def LimbComparesCardSaid : Prop := Claim7.holds Tryd.pinned (.plain (OpenSpec.ofChange limbComparesSpec)) limbComparesCard

/-- THE TIED CARD OF 'carapacelaw1.LimbTexts'. -/
def limbTextsCard : Claim7 := { stood := { row := limbTextsRow, standIns := [], harness := (true, "97f27264d588b199c82ecea28e0eba3128f8aa8b05fcffbb94d6d6db94810404"), looks := false }, kinds := [], alts := [], laidByText := true, laidKinds := [.data, .data, .data], laidTests := true, laidLooks := .later }
def LimbTextsCardSaid : Prop := Claim7.holds Tryd.pinned (.plain (OpenSpec.ofChange limbTextsSpec)) limbTextsCard

/-- THE TIED CARD OF 'carapacelaw1.LimbOrder'. -/
def limbOrderCard : Claim7 := { stood := { row := limbOrderRow, standIns := [], harness := (true, "97f27264d588b199c82ecea28e0eba3128f8aa8b05fcffbb94d6d6db94810404"), looks := false }, kinds := [], alts := [], laidByText := true, laidKinds := [.data, .data, .data], laidTests := true, laidLooks := .later }
def LimbOrderCardSaid : Prop := Claim7.holds Tryd.pinned (.plain (OpenSpec.ofChange limbOrderSpec)) limbOrderCard

/-- THE TIED CARD OF 'carapacelaw1.LimbProducts'. -/
def limbProductsCard : Claim7 := { stood := { row := limbProductsRow, standIns := [], harness := (true, "97f27264d588b199c82ecea28e0eba3128f8aa8b05fcffbb94d6d6db94810404"), looks := false }, kinds := [], alts := [], laidByText := true, laidKinds := [.data, .data, .data], laidTests := true, laidLooks := .later }
def LimbProductsCardSaid : Prop := Claim7.holds Tryd.pinned (.plain (OpenSpec.ofChange limbProductsSpec)) limbProductsCard

/-- THE TIED CARD OF 'carapacelaw1.LimbRing'. -/
def limbRingCard : Claim7 := { stood := { row := limbRingRow, standIns := [], harness := (true, "97f27264d588b199c82ecea28e0eba3128f8aa8b05fcffbb94d6d6db94810404"), looks := false }, kinds := [], alts := [], laidByText := true, laidKinds := [.data, .data, .data], laidTests := true, laidLooks := .later }
def LimbRingCardSaid : Prop := Claim7.holds Tryd.pinned (.plain (OpenSpec.ofChange limbRingSpec)) limbRingCard

/-- THE TIED CARD OF 'carapacelaw1.LimbNears'. -/
def limbNearsCard : Claim7 := { stood := { row := limbNearsRow, standIns := [], harness := (true, "97f27264d588b199c82ecea28e0eba3128f8aa8b05fcffbb94d6d6db94810404"), looks := false }, kinds := [], alts := [], laidByText := true, laidKinds := [.data, .data, .data], laidTests := true, laidLooks := .later }
def LimbNearsCardSaid : Prop := Claim7.holds Tryd.pinned (.plain (OpenSpec.ofChange limbNearsSpec)) limbNearsCard

/-- THE TIED CARD OF 'carapacelaw1.LimbShifts'. -/
def limbShiftsCard : Claim7 := { stood := { row := limbShiftsRow, standIns := [], harness := (true, "97f27264d588b199c82ecea28e0eba3128f8aa8b05fcffbb94d6d6db94810404"), looks := false }, kinds := [], alts := [], laidByText := true, laidKinds := [.data, .data, .data], laidTests := true, laidLooks := .later }
def LimbShiftsCardSaid : Prop := Claim7.holds Tryd.pinned (.plain (OpenSpec.ofChange limbShiftsSpec)) limbShiftsCard

/-- THE SECOND FORM's CARD OF 'carapacelaw0.NamesNumbers'. -/
def namesNumbersUptoCard : Claim7 := { stood := { row := namesNumbersUptoRow, standIns := [], harness := (true, "97f27264d588b199c82ecea28e0eba3128f8aa8b05fcffbb94d6d6db94810404"), looks := false }, kinds := [], alts := [], laidByText := true, laidKinds := [.data, .data, .data], laidTests := true, laidLooks := .later }
def NamesNumbersUptoCardSaid : Prop := Claim7.holds Tryd.pinned (.plain (OpenSpec.upto namesNumbersSpec)) namesNumbersUptoCard

/-- THE SECOND FORM's CARD OF 'carapacelaw1.LimbSums'. -/
def limbSumsUptoCard : Claim7 := { stood := { row := limbSumsUptoRow, standIns := [], harness := (true, "97f27264d588b199c82ecea28e0eba3128f8aa8b05fcffbb94d6d6db94810404"), looks := false }, kinds := [], alts := [], laidByText := true, laidKinds := [.data, .data, .data], laidTests := true, laidLooks := .later }
def LimbSumsUptoCardSaid : Prop := Claim7.holds Tryd.pinned (.plain (OpenSpec.upto limbSumsSpec)) limbSumsUptoCard

/-- THE SECOND FORM's CARD OF 'carapacelaw1.LimbCompares'. -/
def limbComparesUptoCard : Claim7 := { stood := { row := limbComparesUptoRow, standIns := [], harness := (true, "97f27264d588b199c82ecea28e0eba3128f8aa8b05fcffbb94d6d6db94810404"), looks := false }, kinds := [], alts := [], laidByText := true, laidKinds := [.data, .data, .data], laidTests := true, laidLooks := .later }
def LimbComparesUptoCardSaid : Prop := Claim7.holds Tryd.pinned (.plain (OpenSpec.upto limbComparesSpec)) limbComparesUptoCard

/-- THE SECOND FORM's CARD OF 'carapacelaw1.LimbTexts'. -/
def limbTextsUptoCard : Claim7 := { stood := { row := limbTextsUptoRow, standIns := [], harness := (true, "97f27264d588b199c82ecea28e0eba3128f8aa8b05fcffbb94d6d6db94810404"), looks := false }, kinds := [], alts := [], laidByText := true, laidKinds := [.data, .data, .data], laidTests := true, laidLooks := .later }
def LimbTextsUptoCardSaid : Prop := Claim7.holds Tryd.pinned (.plain (OpenSpec.upto limbTextsSpec)) limbTextsUptoCard

/-- THE SECOND FORM's CARD OF 'carapacelaw1.LimbOrder'. -/
def limbOrderUptoCard : Claim7 := { stood := { row := limbOrderUptoRow, standIns := [], harness := (true, "97f27264d588b199c82ecea28e0eba3128f8aa8b05fcffbb94d6d6db94810404"), looks := false }, kinds := [], alts := [], laidByText := true, laidKinds := [.data, .data, .data], laidTests := true, laidLooks := .later }
def LimbOrderUptoCardSaid : Prop := Claim7.holds Tryd.pinned (.plain (OpenSpec.upto limbOrderSpec)) limbOrderUptoCard

/-- THE SECOND FORM's CARD OF 'carapacelaw1.LimbProducts'. -/
def limbProductsUptoCard : Claim7 := { stood := { row := limbProductsUptoRow, standIns := [], harness := (true, "97f27264d588b199c82ecea28e0eba3128f8aa8b05fcffbb94d6d6db94810404"), looks := false }, kinds := [], alts := [], laidByText := true, laidKinds := [.data, .data, .data], laidTests := true, laidLooks := .later }
def LimbProductsUptoCardSaid : Prop := Claim7.holds Tryd.pinned (.plain (OpenSpec.upto limbProductsSpec)) limbProductsUptoCard

/-- THE SECOND FORM's CARD OF 'carapacelaw1.LimbRing'. -/
def limbRingUptoCard : Claim7 := { stood := { row := limbRingUptoRow, standIns := [], harness := (true, "97f27264d588b199c82ecea28e0eba3128f8aa8b05fcffbb94d6d6db94810404"), looks := false }, kinds := [], alts := [], laidByText := true, laidKinds := [.data, .data, .data], laidTests := true, laidLooks := .later }
def LimbRingUptoCardSaid : Prop := Claim7.holds Tryd.pinned (.plain (OpenSpec.upto limbRingSpec)) limbRingUptoCard

/-- THE SECOND FORM's CARD OF 'carapacelaw1.LimbNears'. -/
def limbNearsUptoCard : Claim7 := { stood := { row := limbNearsUptoRow, standIns := [], harness := (true, "97f27264d588b199c82ecea28e0eba3128f8aa8b05fcffbb94d6d6db94810404"), looks := false }, kinds := [], alts := [], laidByText := true, laidKinds := [.data, .data, .data], laidTests := true, laidLooks := .later }
def LimbNearsUptoCardSaid : Prop := Claim7.holds Tryd.pinned (.plain (OpenSpec.upto limbNearsSpec)) limbNearsUptoCard

/-- THE SECOND FORM's CARD OF 'carapacelaw1.LimbShifts'. -/
def limbShiftsUptoCard : Claim7 := { stood := { row := limbShiftsUptoRow, standIns := [], harness := (true, "97f27264d588b199c82ecea28e0eba3128f8aa8b05fcffbb94d6d6db94810404"), looks := false }, kinds := [], alts := [], laidByText := true, laidKinds := [.data, .data, .data], laidTests := true, laidLooks := .later }
def LimbShiftsUptoCardSaid : Prop := Claim7.holds Tryd.pinned (.plain (OpenSpec.upto limbShiftsSpec)) limbShiftsUptoCard
end Rows
end Go.Proofs.YtdcllcbhepajeaaDoor
