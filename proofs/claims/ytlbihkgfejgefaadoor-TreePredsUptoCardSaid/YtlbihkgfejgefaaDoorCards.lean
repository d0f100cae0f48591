/-
  DERIVED. GIVEN WITH THE SEED: THE CARDS: each row of YtlbihkgfejgefaaDoorRows.lean that lists a variable, with what it lists TIED to the program's text (the seventh form; the later family's looks); each row that meets fmt, with fmt's text TOLD by the authors' own Lean function (tested against real Go, not proved from fmt's source: count such statements apart). THE CARD IS WHAT COUNTS. Prove the row's statement (the work); the ties are given (YtlbihkgfejgefaaDoorTie.lean); close each card by the builder's one call (the guide's Derived/Test/ToyasCard.lean, 'card_holds'). Laid BY PROGRAM, IN A SANDBOX (cutbox-door.mjs). By AI agents, Wed Nov 11 2026. No macro, syntax, notation, axiom, sorry.
-/
import Derived.Test.YtlbihkgfejgefaaDoorRows
import GoSem.ClaimSeven
namespace Go.Proofs.YtlbihkgfejgefaaDoor
namespace Rows

/-- THE TIED CARD OF 'trommellaw04.TreePreds'. -/
def treePredsCard : Claim7 := { stood := { row := treePredsRow, standIns := [], harness := (true, "6ff50af9218b838bf25f59b4b3b0b4ec8c642256e432b7b3a244b93196857277"), looks := true }, kinds := [], alts := [], laidByText := true, laidKinds := [.data, .data, .data], laidTests := true, laidLooks := .later }
def TreePredsCardSaid : Prop := Claim7.holds Tryd.pinned (.plain (OpenSpec.ofChange treePredsSpec)) treePredsCard

/-- THE TIED CARD OF 'trommellaw04.TreeSame'. -/
def treeSameCard : Claim7 := { stood := { row := treeSameRow, standIns := [], harness := (true, "6ff50af9218b838bf25f59b4b3b0b4ec8c642256e432b7b3a244b93196857277"), looks := true }, kinds := [], alts := [], laidByText := true, laidKinds := [.data, .data, .data], laidTests := true, laidLooks := .later }
def TreeSameCardSaid : Prop := Claim7.holds Tryd.pinned (.plain (OpenSpec.ofChange treeSameSpec)) treeSameCard

/-- THE TIED CARD OF 'trommellaw04.TreeLeaves'. -/
def treeLeavesCard : Claim7 := { stood := { row := treeLeavesRow, standIns := [], harness := (true, "6ff50af9218b838bf25f59b4b3b0b4ec8c642256e432b7b3a244b93196857277"), looks := true }, kinds := [], alts := [], laidByText := true, laidKinds := [.data, .data, .data], laidTests := true, laidLooks := .later }
def TreeLeavesCardSaid : Prop := Claim7.holds Tryd.pinned (.plain (OpenSpec.ofChange treeLeavesSpec)) treeLeavesCard

/-- THE TIED CARD OF 'trommellaw04.TreeBuilds'. -/
def treeBuildsCard : Claim7 := { stood := { row := treeBuildsRow, standIns := [], harness := (true, "6ff50af9218b838bf25f59b4b3b0b4ec8c642256e432b7b3a244b93196857277"), looks := true }, kinds := [], alts := [], laidByText := true, laidKinds := [.data, .data, .data], laidTests := true, laidLooks := .later }
def TreeBuildsCardSaid : Prop := Claim7.holds Tryd.pinned (.plain (OpenSpec.ofChange treeBuildsSpec)) treeBuildsCard

/-- THE TIED CARD OF 'trommellaw04.TreeOwns'. -/
def treeOwnsCard : Claim7 := { stood := { row := treeOwnsRow, standIns := [], harness := (true, "6ff50af9218b838bf25f59b4b3b0b4ec8c642256e432b7b3a244b93196857277"), looks := true }, kinds := [], alts := [], laidByText := true, laidKinds := [.data, .data, .data], laidTests := true, laidLooks := .later }
def TreeOwnsCardSaid : Prop := Claim7.holds Tryd.pinned (.plain (OpenSpec.ofChange treeOwnsSpec)) treeOwnsCard

/-- THE TIED CARD OF 'trommellaw04.TreeDepths'. -/
def treeDepthsCard : Claim7 := { stood := { row := treeDepthsRow, standIns := [], harness := (true, "6ff50af9218b838bf25f59b4b3b0b4ec8c642256e432b7b3a244b93196857277"), looks := true }, kinds := [], alts := [], laidByText := true, laidKinds := [.data, .data, .data], laidTests := true, laidLooks := .later }
def TreeDepthsCardSaid : Prop := Claim7.holds Tryd.pinned (.plain (OpenSpec.ofChange treeDepthsSpec)) treeDepthsCard

/-- THE TIED CARD OF 'trommellaw03.LexPlays'. -/
def lexPlaysCard : Claim7 := { stood := { row := lexPlaysRow, standIns := [], harness := (true, "6ff50af9218b838bf25f59b4b3b0b4ec8c642256e432b7b3a244b93196857277"), looks := true }, kinds := [], alts := [], laidByText := true, laidKinds := [.data, .data, .data, .sentinel, .sentinel], laidTests := true, laidLooks := .later }
def LexPlaysCardSaid : Prop := Claim7.holds Tryd.pinned (.plain (OpenSpec.ofChange lexPlaysSpec)) lexPlaysCard

/-- THE TIED CARD OF 'trommellaw03.LexBlanks'. -/
def lexBlanksCard : Claim7 := { stood := { row := lexBlanksRow, standIns := [], harness := (true, "6ff50af9218b838bf25f59b4b3b0b4ec8c642256e432b7b3a244b93196857277"), looks := true }, kinds := [], alts := [], laidByText := true, laidKinds := [.data, .data, .data, .sentinel, .sentinel], laidTests := true, laidLooks := .later }
def LexBlanksCardSaid : Prop := Claim7.holds Tryd.pinned (.plain (OpenSpec.ofChange lexBlanksSpec)) lexBlanksCard

/-- THE TIED CARD OF 'trommellaw03.LexAhead'. -/
def lexAheadCard : Claim7 := { stood := { row := lexAheadRow, standIns := [], harness := (true, "6ff50af9218b838bf25f59b4b3b0b4ec8c642256e432b7b3a244b93196857277"), looks := true }, kinds := [], alts := [], laidByText := true, laidKinds := [.data, .data, .data, .sentinel, .sentinel], laidTests := true, laidLooks := .later }
def LexAheadCardSaid : Prop := Claim7.holds Tryd.pinned (.plain (OpenSpec.ofChange lexAheadSpec)) lexAheadCard

/-- THE TIED CARD OF 'trommellaw01.ValueQuotes'. -/
def valueQuotesCard : Claim7 := { stood := { row := valueQuotesRow, standIns := [], harness := (true, "6ff50af9218b838bf25f59b4b3b0b4ec8c642256e432b7b3a244b93196857277"), looks := true }, kinds := [], alts := [], laidByText := true, laidKinds := [.data, .data, .data, .sentinel, .sentinel], laidTests := true, laidLooks := .later }
def ValueQuotesCardSaid : Prop := Claim7.holds Tryd.pinned (.plain (OpenSpec.ofChange valueQuotesSpec)) valueQuotesCard

/-- THE TIED CARD OF 'trommellaw01.ValueReads'. -/
def valueReadsCard : Claim7 := { stood := { row := valueReadsRow, standIns := [], harness := (true, "6ff50af9218b838bf25f59b4b3b0b4ec8c642256e432b7b3a244b93196857277"), looks := true }, kinds := [], alts := [], laidByText := true, laidKinds := [.data, .data, .data, .sentinel, .sentinel], laidTests := true, laidLooks := .later }
def ValueReadsCardSaid : Prop := Claim7.holds Tryd.pinned (.plain (OpenSpec.ofChange valueReadsSpec)) valueReadsCard

/-- THE TIED CARD OF 'trommellaw01.ValueBack'. -/
def valueBackCard : Claim7 := { stood := { row := valueBackRow, standIns := [], harness := (true, "6ff50af9218b838bf25f59b4b3b0b4ec8c642256e432b7b3a244b93196857277"), looks := true }, kinds := [], alts := [], laidByText := true, laidKinds := [.data, .data, .data, .sentinel, .sentinel], laidTests := true, laidLooks := .later }
def ValueBackCardSaid : Prop := Claim7.holds Tryd.pinned (.plain (OpenSpec.ofChange valueBackSpec)) valueBackCard

/-- THE TIED CARD OF 'trommellaw01.ValueLeast'. -/
def valueLeastCard : Claim7 := { stood := { row := valueLeastRow, standIns := [], harness := (true, "6ff50af9218b838bf25f59b4b3b0b4ec8c642256e432b7b3a244b93196857277"), looks := true }, kinds := [], alts := [], laidByText := true, laidKinds := [.data, .data, .data, .sentinel, .sentinel], laidTests := true, laidLooks := .later }
def ValueLeastCardSaid : Prop := Claim7.holds Tryd.pinned (.plain (OpenSpec.ofChange valueLeastSpec)) valueLeastCard

/-- THE TIED CARD OF 'trommellaw01.ValuePlays'. -/
def valuePlaysCard : Claim7 := { stood := { row := valuePlaysRow, standIns := [], harness := (true, "6ff50af9218b838bf25f59b4b3b0b4ec8c642256e432b7b3a244b93196857277"), looks := true }, kinds := [], alts := [], laidByText := true, laidKinds := [.data, .data, .data, .sentinel, .sentinel], laidTests := true, laidLooks := .later }
def ValuePlaysCardSaid : Prop := Claim7.holds Tryd.pinned (.plain (OpenSpec.ofChange valuePlaysSpec)) valuePlaysCard

/-- THE TIED CARD OF 'trommellaw01.ValueOrder'. -/
def valueOrderCard : Claim7 := { stood := { row := valueOrderRow, standIns := [], harness := (true, "6ff50af9218b838bf25f59b4b3b0b4ec8c642256e432b7b3a244b93196857277"), looks := true }, kinds := [], alts := [], laidByText := true, laidKinds := [.data, .data, .data, .sentinel, .sentinel], laidTests := true, laidLooks := .later }
def ValueOrderCardSaid : Prop := Claim7.holds Tryd.pinned (.plain (OpenSpec.ofChange valueOrderSpec)) valueOrderCard

/-- THE TIED CARD OF 'trommellaw03.LexCovers'. -/
def lexCoversCard : Claim7 := { stood := { row := lexCoversRow, standIns := [], harness := (true, "6ff50af9218b838bf25f59b4b3b0b4ec8c642256e432b7b3a244b93196857277"), looks := true }, kinds := [], alts := [], laidByText := true, laidKinds := [.data, .data, .data, .sentinel, .sentinel], laidTests := true, laidLooks := .later }
def LexCoversCardSaid : Prop := Claim7.holds Tryd.pinned (.plain (OpenSpec.ofChange lexCoversSpec)) lexCoversCard

/-- THE TIED CARD OF 'trommellaw03.LexSpaced'. -/
def lexSpacedCard : Claim7 := { stood := { row := lexSpacedRow, standIns := [], harness := (true, "6ff50af9218b838bf25f59b4b3b0b4ec8c642256e432b7b3a244b93196857277"), looks := true }, kinds := [], alts := [], laidByText := true, laidKinds := [.data, .data, .data, .sentinel, .sentinel], laidTests := true, laidLooks := .later }
def LexSpacedCardSaid : Prop := Claim7.holds Tryd.pinned (.plain (OpenSpec.ofChange lexSpacedSpec)) lexSpacedCard

/-- THE SECOND FORM's CARD OF 'trommellaw04.TreePreds'. -/
def treePredsUptoCard : Claim7 := { stood := { row := treePredsUptoRow, standIns := [], harness := (true, "6ff50af9218b838bf25f59b4b3b0b4ec8c642256e432b7b3a244b93196857277"), looks := true }, kinds := [], alts := [], laidByText := true, laidKinds := [.data, .data, .data], laidTests := true, laidLooks := .later }
def TreePredsUptoCardSaid : Prop := Claim7.holds Tryd.pinned (.plain (OpenSpec.upto treePredsSpec)) treePredsUptoCard

/-- THE SECOND FORM's CARD OF 'trommellaw04.TreeSame'. -/
def treeSameUptoCard : Claim7 := { stood := { row := treeSameUptoRow, standIns := [], harness := (true, "6ff50af9218b838bf25f59b4b3b0b4ec8c642256e432b7b3a244b93196857277"), looks := true }, kinds := [], alts := [], laidByText := true, laidKinds := [.data, .data, .data], laidTests := true, laidLooks := .later }
def TreeSameUptoCardSaid : Prop := Claim7.holds Tryd.pinned (.plain (OpenSpec.upto treeSameSpec)) treeSameUptoCard

/-- THE SECOND FORM's CARD OF 'trommellaw04.TreeLeaves'. -/
def treeLeavesUptoCard : Claim7 := { stood := { row := treeLeavesUptoRow, standIns := [], harness := (true, "6ff50af9218b838bf25f59b4b3b0b4ec8c642256e432b7b3a244b93196857277"), looks := true }, kinds := [], alts := [], laidByText := true, laidKinds := [.data, .data, .data], laidTests := true, laidLooks := .later }
def TreeLeavesUptoCardSaid : Prop := Claim7.holds Tryd.pinned (.plain (OpenSpec.upto treeLeavesSpec)) treeLeavesUptoCard

/-- THE SECOND FORM's CARD OF 'trommellaw04.TreeBuilds'. -/
def treeBuildsUptoCard : Claim7 := { stood := { row := treeBuildsUptoRow, standIns := [], harness := (true, "6ff50af9218b838bf25f59b4b3b0b4ec8c642256e432b7b3a244b93196857277"), looks := true }, kinds := [], alts := [], laidByText := true, laidKinds := [.data, .data, .data], laidTests := true, laidLooks := .later }
def TreeBuildsUptoCardSaid : Prop := Claim7.holds Tryd.pinned (.plain (OpenSpec.upto treeBuildsSpec)) treeBuildsUptoCard

/-- THE SECOND FORM's CARD OF 'trommellaw04.TreeOwns'. -/
def treeOwnsUptoCard : Claim7 := { stood := { row := treeOwnsUptoRow, standIns := [], harness := (true, "6ff50af9218b838bf25f59b4b3b0b4ec8c642256e432b7b3a244b93196857277"), looks := true }, kinds := [], alts := [], laidByText := true, laidKinds := [.data, .data, .data], laidTests := true, laidLooks := .later }
def TreeOwnsUptoCardSaid : Prop := Claim7.holds Tryd.pinned (.plain (OpenSpec.upto treeOwnsSpec)) treeOwnsUptoCard

/-- THE SECOND FORM's CARD OF 'trommellaw04.TreeDepths'. -/
def treeDepthsUptoCard : Claim7 := { stood := { row := treeDepthsUptoRow, standIns := [], harness := (true, "6ff50af9218b838bf25f59b4b3b0b4ec8c642256e432b7b3a244b93196857277"), looks := true }, kinds := [], alts := [], laidByText := true, laidKinds := [.data, .data, .data], laidTests := true, laidLooks := .later }
def TreeDepthsUptoCardSaid : Prop := Claim7.holds Tryd.pinned (.plain (OpenSpec.upto treeDepthsSpec)) treeDepthsUptoCard

/-- THE SECOND FORM's CARD OF 'trommellaw03.LexPlays'. -/
def lexPlaysUptoCard : Claim7 := { stood := { row := lexPlaysUptoRow, standIns := [], harness := (true, "6ff50af9218b838bf25f59b4b3b0b4ec8c642256e432b7b3a244b93196857277"), looks := true }, kinds := [], alts := [], laidByText := true, laidKinds := [.data, .data, .data, .sentinel, .sentinel], laidTests := true, laidLooks := .later }
def LexPlaysUptoCardSaid : Prop := Claim7.holds Tryd.pinned (.plain (OpenSpec.upto lexPlaysSpec)) lexPlaysUptoCard

/-- THE SECOND FORM's CARD OF 'trommellaw03.LexBlanks'. -/
def lexBlanksUptoCard : Claim7 := { stood := { row := lexBlanksUptoRow, standIns := [], harness := (true, "6ff50af9218b838bf25f59b4b3b0b4ec8c642256e432b7b3a244b93196857277"), looks := true }, kinds := [], alts := [], laidByText := true, laidKinds := [.data, .data, .data, .sentinel, .sentinel], laidTests := true, laidLooks := .later }
def LexBlanksUptoCardSaid : Prop := Claim7.holds Tryd.pinned (.plain (OpenSpec.upto lexBlanksSpec)) lexBlanksUptoCard

/-- THE SECOND FORM's CARD OF 'trommellaw03.LexAhead'. -/
def lexAheadUptoCard : Claim7 := { stood := { row := lexAheadUptoRow, standIns := [], harness := (true, "6ff50af9218b838bf25f59b4b3b0b4ec8c642256e432b7b3a244b93196857277"), looks := true }, kinds := [], alts := [], laidByText := true, laidKinds := [.data, .data, .data, .sentinel, .sentinel], laidTests := true, laidLooks := .later }
def LexAheadUptoCardSaid : Prop := Claim7.holds Tryd.pinned (.plain (OpenSpec.upto lexAheadSpec)) lexAheadUptoCard

/-- THE SECOND FORM's CARD OF 'trommellaw01.ValueQuotes'. -/
def valueQuotesUptoCard : Claim7 := { stood := { row := valueQuotesUptoRow, standIns := [], harness := (true, "6ff50af9218b838bf25f59b4b3b0b4ec8c642256e432b7b3a244b93196857277"), looks := true }, kinds := [], alts := [], laidByText := true, laidKinds := [.data, .data, .data, .sentinel, .sentinel], laidTests := true, laidLooks := .later }
def ValueQuotesUptoCardSaid : Prop := Claim7.holds Tryd.pinned (.plain (OpenSpec.upto valueQuotesSpec)) valueQuotesUptoCard

/-- THE SECOND FORM's CARD OF 'trommellaw01.ValueReads'. -/
def valueReadsUptoCard : Claim7 := { stood := { row := valueReadsUptoRow, standIns := [], harness := (true, "6ff50af9218b838bf25f59b4b3b0b4ec8c642256e432b7b3a244b93196857277"), looks := true }, kinds := [], alts := [], laidByText := true, laidKinds := [.data, .data, .data, .sentinel, .sentinel], laidTests := true, laidLooks := .later }
def ValueReadsUptoCardSaid : Prop := Claim7.holds Tryd.pinned (.plain (OpenSpec.upto valueReadsSpec)) valueReadsUptoCard

/-- THE SECOND FORM's CARD OF 'trommellaw01.ValueBack'. -/
def valueBackUptoCard : Claim7 := { stood := { row := valueBackUptoRow, standIns := [], harness := (true, "6ff50af9218b838bf25f59b4b3b0b4ec8c642256e432b7b3a244b93196857277"), looks := true }, kinds := [], alts := [], laidByText := true, laidKinds := [.data, .data, .data, .sentinel, .sentinel], laidTests := true, laidLooks := .later }
def ValueBackUptoCardSaid : Prop := Claim7.holds Tryd.pinned (.plain (OpenSpec.upto valueBackSpec)) valueBackUptoCard

/-- THE SECOND FORM's CARD OF 'trommellaw01.ValueLeast'. -/
def valueLeastUptoCard : Claim7 := { stood := { row := valueLeastUptoRow, standIns := [], harness := (true, "6ff50af9218b838bf25f59b4b3b0b4ec8c642256e432b7b3a244b93196857277"), looks := true }, kinds := [], alts := [], laidByText := true, laidKinds := [.data, .data, .data, .sentinel, .sentinel], laidTests := true, laidLooks := .later }
def ValueLeastUptoCardSaid : Prop := Claim7.holds Tryd.pinned (.plain (OpenSpec.upto valueLeastSpec)) valueLeastUptoCard

/-- THE SECOND FORM's CARD OF 'trommellaw01.ValuePlays'. -/
def valuePlaysUptoCard : Claim7 := { stood := { row := valuePlaysUptoRow, standIns := [], harness := (true, "6ff50af9218b838bf25f59b4b3b0b4ec8c642256e432b7b3a244b93196857277"), looks := true }, kinds := [], alts := [], laidByText := true, laidKinds := [.data, .data, .data, .sentinel, .sentinel], laidTests := true, laidLooks := .later }
def ValuePlaysUptoCardSaid : Prop := Claim7.holds Tryd.pinned (.plain (OpenSpec.upto valuePlaysSpec)) valuePlaysUptoCard

/-- THE SECOND FORM's CARD OF 'trommellaw01.ValueOrder'. -/
def valueOrderUptoCard : Claim7 := { stood := { row := valueOrderUptoRow, standIns := [], harness := (true, "6ff50af9218b838bf25f59b4b3b0b4ec8c642256e432b7b3a244b93196857277"), looks := true }, kinds := [], alts := [], laidByText := true, laidKinds := [.data, .data, .data, .sentinel, .sentinel], laidTests := true, laidLooks := .later }
def ValueOrderUptoCardSaid : Prop := Claim7.holds Tryd.pinned (.plain (OpenSpec.upto valueOrderSpec)) valueOrderUptoCard

/-- THE SECOND FORM's CARD OF 'trommellaw03.LexCovers'. -/
def lexCoversUptoCard : Claim7 := { stood := { row := lexCoversUptoRow, standIns := [], harness := (true, "6ff50af9218b838bf25f59b4b3b0b4ec8c642256e432b7b3a244b93196857277"), looks := true }, kinds := [], alts := [], laidByText := true, laidKinds := [.data, .data, .data, .sentinel, .sentinel], laidTests := true, laidLooks := .later }
def LexCoversUptoCardSaid : Prop := Claim7.holds Tryd.pinned (.plain (OpenSpec.upto lexCoversSpec)) lexCoversUptoCard

/-- THE SECOND FORM's CARD OF 'trommellaw03.LexSpaced'. -/
def lexSpacedUptoCard : Claim7 := { stood := { row := lexSpacedUptoRow, standIns := [], harness := (true, "6ff50af9218b838bf25f59b4b3b0b4ec8c642256e432b7b3a244b93196857277"), looks := true }, kinds := [], alts := [], laidByText := true, laidKinds := [.data, .data, .data, .sentinel, .sentinel], laidTests := true, laidLooks := .later }
def LexSpacedUptoCardSaid : Prop := Claim7.holds Tryd.pinned (.plain (OpenSpec.upto lexSpacedSpec)) lexSpacedUptoCard
end Rows
end Go.Proofs.YtlbihkgfejgefaaDoor
