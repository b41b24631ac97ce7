/-
  DERIVED. GIVEN WITH THE SEED: THE CARDS: each row of YtoajianddmobaaaDoorRows.lean that lists a variable, with what it lists TIED to the program's text (the seventh form; the later family's looks); each row that meets fmt, with fmt's text TOLD by the authors' own Lean function (tested against real Go, not proved from fmt's source: count such statements apart). THE CARD IS WHAT COUNTS. Prove the row's statement (the work); the ties are given (YtoajianddmobaaaDoorTie.lean); close each card by the builder's one call (the guide's Derived/Test/ToyasCard.lean, 'card_holds'). Laid BY PROGRAM, IN A SANDBOX (cutbox-door.mjs). By AI agents, Wed Nov 11 2026. No macro, syntax, notation, axiom, sorry.
-/
import Derived.Test.YtoajianddmobaaaDoorRows
import GoSem.ClaimSeven
namespace Go.Proofs.YtoajianddmobaaaDoor
namespace Rows

/-- THE TIED CARD OF 'estreatlaw08.EntryReads'. -/
def entryReadsCard : Claim7 := { stood := { row := entryReadsRow, standIns := [], harness := (true, "c058fd7b6c5f5cbf79ab0615789b8e6175d9b3cb885be046a2eeefe8f369e017"), looks := false }, kinds := [], alts := [], laidByText := true, laidKinds := [.data], laidTests := true, laidLooks := .later }
def EntryReadsCardSaid : Prop := Claim7.holds Tryd.pinned (.plain (OpenSpec.ofChange entryReadsSpec)) entryReadsCard

/-- THE TIED CARD OF 'estreatlaw08.EntryApart'. -/
def entryApartCard : Claim7 := { stood := { row := entryApartRow, standIns := [], harness := (true, "c058fd7b6c5f5cbf79ab0615789b8e6175d9b3cb885be046a2eeefe8f369e017"), looks := false }, kinds := [], alts := [], laidByText := true, laidKinds := [.data], laidTests := true, laidLooks := .later }
def EntryApartCardSaid : Prop := Claim7.holds Tryd.pinned (.plain (OpenSpec.ofChange entryApartSpec)) entryApartCard

/-- THE TIED CARD OF 'estreatlaw08.EntryKinds'. -/
def entryKindsCard : Claim7 := { stood := { row := entryKindsRow, standIns := [], harness := (true, "c058fd7b6c5f5cbf79ab0615789b8e6175d9b3cb885be046a2eeefe8f369e017"), looks := false }, kinds := [], alts := [], laidByText := true, laidKinds := [.data], laidTests := true, laidLooks := .later }
def EntryKindsCardSaid : Prop := Claim7.holds Tryd.pinned (.plain (OpenSpec.ofChange entryKindsSpec)) entryKindsCard

/-- THE TIED CARD OF 'estreatlaw13.AnchorsNext'. -/
def anchorsNextCard : Claim7 := { stood := { row := anchorsNextRow, standIns := [], harness := (true, "c058fd7b6c5f5cbf79ab0615789b8e6175d9b3cb885be046a2eeefe8f369e017"), looks := false }, kinds := [], alts := [], laidByText := true, laidKinds := [.data], laidTests := true, laidLooks := .later }
def AnchorsNextCardSaid : Prop := Claim7.holds Tryd.pinned (.plain (OpenSpec.ofChange anchorsNextSpec)) anchorsNextCard

/-- THE TIED CARD OF 'estreatlaw11.HistoryRoots'. -/
def historyRootsCard : Claim7 := { stood := { row := historyRootsRow, standIns := [], harness := (true, "c058fd7b6c5f5cbf79ab0615789b8e6175d9b3cb885be046a2eeefe8f369e017"), looks := false }, kinds := [], alts := [], laidByText := true, laidKinds := [.data, .data, .data, .data], laidTests := true, laidLooks := .later }
def HistoryRootsCardSaid : Prop := Claim7.holds Tryd.pinned (.plain (OpenSpec.ofChange historyRootsSpec)) historyRootsCard

/-- THE TIED CARD OF 'estreatlaw11.HistoryProofs'. -/
def historyProofsCard : Claim7 := { stood := { row := historyProofsRow, standIns := [], harness := (true, "c058fd7b6c5f5cbf79ab0615789b8e6175d9b3cb885be046a2eeefe8f369e017"), looks := false }, kinds := [], alts := [], laidByText := true, laidKinds := [.data, .data, .data, .data], laidTests := true, laidLooks := .later }
def HistoryProofsCardSaid : Prop := Claim7.holds Tryd.pinned (.plain (OpenSpec.ofChange historyProofsSpec)) historyProofsCard

/-- THE TIED CARD OF 'estreatlaw11.HistoryHeads'. -/
def historyHeadsCard : Claim7 := { stood := { row := historyHeadsRow, standIns := [], harness := (true, "c058fd7b6c5f5cbf79ab0615789b8e6175d9b3cb885be046a2eeefe8f369e017"), looks := false }, kinds := [], alts := [], laidByText := true, laidKinds := [.data, .data, .data], laidTests := true, laidLooks := .later }
def HistoryHeadsCardSaid : Prop := Claim7.holds Tryd.pinned (.plain (OpenSpec.ofChange historyHeadsSpec)) historyHeadsCard

/-- THE TIED CARD OF 'estreatlaw11.HistoryFirst'. -/
def historyFirstCard : Claim7 := { stood := { row := historyFirstRow, standIns := [], harness := (true, "c058fd7b6c5f5cbf79ab0615789b8e6175d9b3cb885be046a2eeefe8f369e017"), looks := false }, kinds := [], alts := [], laidByText := true, laidKinds := [.data, .data, .data], laidTests := true, laidLooks := .later }
def HistoryFirstCardSaid : Prop := Claim7.holds Tryd.pinned (.plain (OpenSpec.ofChange historyFirstSpec)) historyFirstCard

/-- THE TIED CARD OF 'estreatlaw11.HistoryGrows'. -/
def historyGrowsCard : Claim7 := { stood := { row := historyGrowsRow, standIns := [], harness := (true, "c058fd7b6c5f5cbf79ab0615789b8e6175d9b3cb885be046a2eeefe8f369e017"), looks := false }, kinds := [], alts := [], laidByText := true, laidKinds := [.data, .data, .data], laidTests := true, laidLooks := .later }
def HistoryGrowsCardSaid : Prop := Claim7.holds Tryd.pinned (.plain (OpenSpec.ofChange historyGrowsSpec)) historyGrowsCard

/-- THE TIED CARD OF 'estreatlaw11.HistoryFinds'. -/
def historyFindsCard : Claim7 := { stood := { row := historyFindsRow, standIns := [], harness := (true, "c058fd7b6c5f5cbf79ab0615789b8e6175d9b3cb885be046a2eeefe8f369e017"), looks := false }, kinds := [], alts := [], laidByText := true, laidKinds := [.data, .data, .data], laidTests := true, laidLooks := .later }
def HistoryFindsCardSaid : Prop := Claim7.holds Tryd.pinned (.plain (OpenSpec.ofChange historyFindsSpec)) historyFindsCard

/-- THE SECOND FORM's CARD OF 'estreatlaw08.EntryReads'. -/
def entryReadsUptoCard : Claim7 := { stood := { row := entryReadsUptoRow, standIns := [], harness := (true, "c058fd7b6c5f5cbf79ab0615789b8e6175d9b3cb885be046a2eeefe8f369e017"), looks := false }, kinds := [], alts := [], laidByText := true, laidKinds := [.data], laidTests := true, laidLooks := .later }
def EntryReadsUptoCardSaid : Prop := Claim7.holds Tryd.pinned (.plain (OpenSpec.upto entryReadsSpec)) entryReadsUptoCard

/-- THE SECOND FORM's CARD OF 'estreatlaw08.EntryApart'. -/
def entryApartUptoCard : Claim7 := { stood := { row := entryApartUptoRow, standIns := [], harness := (true, "c058fd7b6c5f5cbf79ab0615789b8e6175d9b3cb885be046a2eeefe8f369e017"), looks := false }, kinds := [], alts := [], laidByText := true, laidKinds := [.data], laidTests := true, laidLooks := .later }
def EntryApartUptoCardSaid : Prop := Claim7.holds Tryd.pinned (.plain (OpenSpec.upto entryApartSpec)) entryApartUptoCard

/-- THE SECOND FORM's CARD OF 'estreatlaw08.EntryKinds'. -/
def entryKindsUptoCard : Claim7 := { stood := { row := entryKindsUptoRow, standIns := [], harness := (true, "c058fd7b6c5f5cbf79ab0615789b8e6175d9b3cb885be046a2eeefe8f369e017"), looks := false }, kinds := [], alts := [], laidByText := true, laidKinds := [.data], laidTests := true, laidLooks := .later }
def EntryKindsUptoCardSaid : Prop := Claim7.holds Tryd.pinned (.plain (OpenSpec.upto entryKindsSpec)) entryKindsUptoCard

/-- THE SECOND FORM's CARD OF 'estreatlaw13.AnchorsNext'. -/
def anchorsNextUptoCard : Claim7 := { stood := { row := anchorsNextUptoRow, standIns := [], harness := (true, "c058fd7b6c5f5cbf79ab0615789b8e6175d9b3cb885be046a2eeefe8f369e017"), looks := false }, kinds := [], alts := [], laidByText := true, laidKinds := [.data], laidTests := true, laidLooks := .later }
def AnchorsNextUptoCardSaid : Prop := Claim7.holds Tryd.pinned (.plain (OpenSpec.upto anchorsNextSpec)) anchorsNextUptoCard

/-- THE SECOND FORM's CARD OF 'estreatlaw11.HistoryRoots'. -/
def historyRootsUptoCard : Claim7 := { stood := { row := historyRootsUptoRow, standIns := [], harness := (true, "c058fd7b6c5f5cbf79ab0615789b8e6175d9b3cb885be046a2eeefe8f369e017"), looks := false }, kinds := [], alts := [], laidByText := true, laidKinds := [.data, .data, .data, .data], laidTests := true, laidLooks := .later }
def HistoryRootsUptoCardSaid : Prop := Claim7.holds Tryd.pinned (.plain (OpenSpec.upto historyRootsSpec)) historyRootsUptoCard

/-- THE SECOND FORM's CARD OF 'estreatlaw11.HistoryProofs'. -/
def historyProofsUptoCard : Claim7 := { stood := { row := historyProofsUptoRow, standIns := [], harness := (true, "c058fd7b6c5f5cbf79ab0615789b8e6175d9b3cb885be046a2eeefe8f369e017"), looks := false }, kinds := [], alts := [], laidByText := true, laidKinds := [.data, .data, .data, .data], laidTests := true, laidLooks := .later }
def HistoryProofsUptoCardSaid : Prop := Claim7.holds Tryd.pinned (.plain (OpenSpec.upto historyProofsSpec)) historyProofsUptoCard

/-- THE SECOND FORM's CARD OF 'estreatlaw11.HistoryHeads'. -/
def historyHeadsUptoCard : Claim7 := { stood := { row := historyHeadsUptoRow, standIns := [], harness := (true, "c058fd7b6c5f5cbf79ab0615789b8e6175d9b3cb885be046a2eeefe8f369e017"), looks := false }, kinds := [], alts := [], laidByText := true, laidKinds := [.data, .data, .data], laidTests := true, laidLooks := .later }
def HistoryHeadsUptoCardSaid : Prop := Claim7.holds Tryd.pinned (.plain (OpenSpec.upto historyHeadsSpec)) historyHeadsUptoCard

/-- THE SECOND FORM's CARD OF 'estreatlaw11.HistoryFirst'. -/
def historyFirstUptoCard : Claim7 := { stood := { row := historyFirstUptoRow, standIns := [], harness := (true, "c058fd7b6c5f5cbf79ab0615789b8e6175d9b3cb885be046a2eeefe8f369e017"), looks := false }, kinds := [], alts := [], laidByText := true, laidKinds := [.data, .data, .data], laidTests := true, laidLooks := .later }
def HistoryFirstUptoCardSaid : Prop := Claim7.holds Tryd.pinned (.plain (OpenSpec.upto historyFirstSpec)) historyFirstUptoCard

/-- THE SECOND FORM's CARD OF 'estreatlaw11.HistoryGrows'. -/
def historyGrowsUptoCard : Claim7 := { stood := { row := historyGrowsUptoRow, standIns := [], harness := (true, "c058fd7b6c5f5cbf79ab0615789b8e6175d9b3cb885be046a2eeefe8f369e017"), looks := false }, kinds := [], alts := [], laidByText := true, laidKinds := [.data, .data, .data], laidTests := true, laidLooks := .later }
def HistoryGrowsUptoCardSaid : Prop := Claim7.holds Tryd.pinned (.plain (OpenSpec.upto historyGrowsSpec)) historyGrowsUptoCard

/-- THE SECOND FORM's CARD OF 'estreatlaw11.HistoryFinds'. -/
def historyFindsUptoCard : Claim7 := { stood := { row := historyFindsUptoRow, standIns := [], harness := (true, "c058fd7b6c5f5cbf79ab0615789b8e6175d9b3cb885be046a2eeefe8f369e017"), looks := false }, kinds := [], alts := [], laidByText := true, laidKinds := [.data, .data, .data], laidTests := true, laidLooks := .later }
def HistoryFindsUptoCardSaid : Prop := Claim7.holds Tryd.pinned (.plain (OpenSpec.upto historyFindsSpec)) historyFindsUptoCard
end Rows
end Go.Proofs.YtoajianddmobaaaDoor
