/-
  DERIVED. GIVEN WITH THE SEED: THE CARDS: each row of YtcedfapcpmedfaaGreatDoorRows.lean that lists a variable, with what it lists TIED to the program's text (the seventh form; the later family's looks); each row that meets fmt, with fmt's text TOLD by the authors' own Lean function (tested against real Go, not proved from fmt's source: count such statements apart). THE CARD IS WHAT COUNTS. Prove the row's statement (the work); the ties are given (YtcedfapcpmedfaaGreatDoorTie.lean); close each card by the builder's one call (the guide's Derived/Test/ToyasCard.lean, 'card_holds'). Laid BY PROGRAM, IN A SANDBOX (cutbox-door.mjs). By AI agents, Wed Nov 11 2026. No macro, syntax, notation, axiom, sorry.
-/
import Derived.Test.YtcedfapcpmedfaaGreatDoorRows
import GoSem.ClaimSeven
namespace Go.Proofs.YtcedfapcpmedfaaGreatDoor
namespace Rows

/-- THE TIED CARD OF 'trovelaw12.ObjectNames'. -/
def objectNamesCard : Claim7 := { stood := { row := objectNamesRow, standIns := [], harness := (true, "2cde4a0a0e4a715ae9e542208d818dfa4d30e2a1aed9851457fe33f0214743ed"), looks := false }, kinds := [], alts := [], laidByText := true, laidKinds := [.data, .data, .data, .data, .pinned], laidTests := true, laidLooks := .later }
def ObjectNamesCardSaid : Prop := Claim7.holds Tryz.pinned (.plain (OpenSpec.ofChange objectNamesSpec)) objectNamesCard

/-- THE TIED CARD OF 'trovelaw12.ObjectOrder'. -/
def objectOrderCard : Claim7 := { stood := { row := objectOrderRow, standIns := [], harness := (true, "2cde4a0a0e4a715ae9e542208d818dfa4d30e2a1aed9851457fe33f0214743ed"), looks := false }, kinds := [], alts := [], laidByText := true, laidKinds := [.data, .data, .data, .data, .pinned], laidTests := true, laidLooks := .later }
def ObjectOrderCardSaid : Prop := Claim7.holds Tryz.pinned (.plain (OpenSpec.ofChange objectOrderSpec)) objectOrderCard

/-- THE TIED CARD OF 'trovelaw12.ObjectCommits'. -/
def objectCommitsCard : Claim7 := { stood := { row := objectCommitsRow, standIns := [], harness := (true, "2cde4a0a0e4a715ae9e542208d818dfa4d30e2a1aed9851457fe33f0214743ed"), looks := false }, kinds := [], alts := [], laidByText := true, laidKinds := [.data, .data, .data, .data, .pinned], laidTests := true, laidLooks := .later }
def ObjectCommitsCardSaid : Prop := Claim7.holds Tryz.pinned (.plain (OpenSpec.ofChange objectCommitsSpec)) objectCommitsCard

/-- THE TIED CARD OF 'trovelaw12.ObjectBytes'. -/
def objectBytesCard : Claim7 := { stood := { row := objectBytesRow, standIns := [], harness := (true, "2cde4a0a0e4a715ae9e542208d818dfa4d30e2a1aed9851457fe33f0214743ed"), looks := false }, kinds := [], alts := [], laidByText := true, laidKinds := [.data, .data, .data, .data, .pinned], laidTests := true, laidLooks := .later }
def ObjectBytesCardSaid : Prop := Claim7.holds Tryz.pinned (.plain (OpenSpec.ofChange objectBytesSpec)) objectBytesCard

/-- THE TIED CARD OF 'trovelaw12.ObjectBlobs'. -/
def objectBlobsCard : Claim7 := { stood := { row := objectBlobsRow, standIns := [], harness := (true, "2cde4a0a0e4a715ae9e542208d818dfa4d30e2a1aed9851457fe33f0214743ed"), looks := false }, kinds := [], alts := [], laidByText := true, laidKinds := [.data, .data, .data, .data, .pinned], laidTests := true, laidLooks := .later }
def ObjectBlobsCardSaid : Prop := Claim7.holds Tryz.pinned (.plain (OpenSpec.ofChange objectBlobsSpec)) objectBlobsCard

/-- THE TIED CARD OF 'trovelaw12.ObjectTrees'. -/
def objectTreesCard : Claim7 := { stood := { row := objectTreesRow, standIns := [], harness := (true, "2cde4a0a0e4a715ae9e542208d818dfa4d30e2a1aed9851457fe33f0214743ed"), looks := false }, kinds := [], alts := [], laidByText := true, laidKinds := [.data, .data, .data, .data, .pinned], laidTests := true, laidLooks := .later }
def ObjectTreesCardSaid : Prop := Claim7.holds Tryz.pinned (.plain (OpenSpec.ofChange objectTreesSpec)) objectTreesCard

/-- THE TIED CARD OF 'trovelaw12.ObjectEdges'. -/
def objectEdgesCard : Claim7 := { stood := { row := objectEdgesRow, standIns := [], harness := (true, "2cde4a0a0e4a715ae9e542208d818dfa4d30e2a1aed9851457fe33f0214743ed"), looks := false }, kinds := [], alts := [], laidByText := true, laidKinds := [.data, .data, .data, .data, .pinned], laidTests := true, laidLooks := .later }
def ObjectEdgesCardSaid : Prop := Claim7.holds Tryz.pinned (.plain (OpenSpec.ofChange objectEdgesSpec)) objectEdgesCard

/-- THE SECOND FORM's CARD OF 'trovelaw12.ObjectNames'. -/
def objectNamesUptoCard : Claim7 := { stood := { row := objectNamesUptoRow, standIns := [], harness := (true, "2cde4a0a0e4a715ae9e542208d818dfa4d30e2a1aed9851457fe33f0214743ed"), looks := false }, kinds := [], alts := [], laidByText := true, laidKinds := [.data, .data, .data, .data, .pinned], laidTests := true, laidLooks := .later }
def ObjectNamesUptoCardSaid : Prop := Claim7.holds Tryz.pinned (.plain (OpenSpec.upto objectNamesSpec)) objectNamesUptoCard

/-- THE SECOND FORM's CARD OF 'trovelaw12.ObjectOrder'. -/
def objectOrderUptoCard : Claim7 := { stood := { row := objectOrderUptoRow, standIns := [], harness := (true, "2cde4a0a0e4a715ae9e542208d818dfa4d30e2a1aed9851457fe33f0214743ed"), looks := false }, kinds := [], alts := [], laidByText := true, laidKinds := [.data, .data, .data, .data, .pinned], laidTests := true, laidLooks := .later }
def ObjectOrderUptoCardSaid : Prop := Claim7.holds Tryz.pinned (.plain (OpenSpec.upto objectOrderSpec)) objectOrderUptoCard

/-- THE SECOND FORM's CARD OF 'trovelaw12.ObjectCommits'. -/
def objectCommitsUptoCard : Claim7 := { stood := { row := objectCommitsUptoRow, standIns := [], harness := (true, "2cde4a0a0e4a715ae9e542208d818dfa4d30e2a1aed9851457fe33f0214743ed"), looks := false }, kinds := [], alts := [], laidByText := true, laidKinds := [.data, .data, .data, .data, .pinned], laidTests := true, laidLooks := .later }
def ObjectCommitsUptoCardSaid : Prop := Claim7.holds Tryz.pinned (.plain (OpenSpec.upto objectCommitsSpec)) objectCommitsUptoCard

/-- THE SECOND FORM's CARD OF 'trovelaw12.ObjectBytes'. -/
def objectBytesUptoCard : Claim7 := { stood := { row := objectBytesUptoRow, standIns := [], harness := (true, "2cde4a0a0e4a715ae9e542208d818dfa4d30e2a1aed9851457fe33f0214743ed"), looks := false }, kinds := [], alts := [], laidByText := true, laidKinds := [.data, .data, .data, .data, .pinned], laidTests := true, laidLooks := .later }
def ObjectBytesUptoCardSaid : Prop := Claim7.holds Tryz.pinned (.plain (OpenSpec.upto objectBytesSpec)) objectBytesUptoCard

/-- THE SECOND FORM's CARD OF 'trovelaw12.ObjectBlobs'. -/
def objectBlobsUptoCard : Claim7 := { stood := { row := objectBlobsUptoRow, standIns := [], harness := (true, "2cde4a0a0e4a715ae9e542208d818dfa4d30e2a1aed9851457fe33f0214743ed"), looks := false }, kinds := [], alts := [], laidByText := true, laidKinds := [.data, .data, .data, .data, .pinned], laidTests := true, laidLooks := .later }
def ObjectBlobsUptoCardSaid : Prop := Claim7.holds Tryz.pinned (.plain (OpenSpec.upto objectBlobsSpec)) objectBlobsUptoCard

/-- THE SECOND FORM's CARD OF 'trovelaw12.ObjectTrees'. -/
def objectTreesUptoCard : Claim7 := { stood := { row := objectTreesUptoRow, standIns := [], harness := (true, "2cde4a0a0e4a715ae9e542208d818dfa4d30e2a1aed9851457fe33f0214743ed"), looks := false }, kinds := [], alts := [], laidByText := true, laidKinds := [.data, .data, .data, .data, .pinned], laidTests := true, laidLooks := .later }
def ObjectTreesUptoCardSaid : Prop := Claim7.holds Tryz.pinned (.plain (OpenSpec.upto objectTreesSpec)) objectTreesUptoCard

/-- THE SECOND FORM's CARD OF 'trovelaw12.ObjectEdges'. -/
def objectEdgesUptoCard : Claim7 := { stood := { row := objectEdgesUptoRow, standIns := [], harness := (true, "2cde4a0a0e4a715ae9e542208d818dfa4d30e2a1aed9851457fe33f0214743ed"), looks := false }, kinds := [], alts := [], laidByText := true, laidKinds := [.data, .data, .data, .data, .pinned], laidTests := true, laidLooks := .later }
def ObjectEdgesUptoCardSaid : Prop := Claim7.holds Tryz.pinned (.plain (OpenSpec.upto objectEdgesSpec)) objectEdgesUptoCard
end Rows
end Go.Proofs.YtcedfapcpmedfaaGreatDoor
