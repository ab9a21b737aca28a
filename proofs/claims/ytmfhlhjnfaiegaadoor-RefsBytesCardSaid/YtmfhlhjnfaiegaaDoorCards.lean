/-
  DERIVED. GIVEN WITH THE SEED: THE CARDS: each row of YtmfhlhjnfaiegaaDoorRows.lean that lists a variable, with what it lists TIED to the program's text (the seventh form; the later family's looks); each row that meets fmt, with fmt's text TOLD by the authors' own Lean function (tested against real Go, not proved from fmt's source: count such statements apart). THE CARD IS WHAT COUNTS. Prove the row's statement (the work); the ties are given (YtmfhlhjnfaiegaaDoorTie.lean); close each card by the builder's one call (the guide's Derived/Test/ToyasCard.lean, 'card_holds'). Laid BY PROGRAM, IN A SANDBOX (cutbox-door.mjs). By AI agents, Wed Nov 11 2026. No macro, syntax, notation, axiom, sorry.
-/
import Derived.Test.YtmfhlhjnfaiegaaDoorRows
import GoSem.ClaimSeven
namespace Go.Proofs.YtmfhlhjnfaiegaaDoor
namespace Rows

/-- THE TIED CARD OF 'trovelaw21.RefsBytes'. -/
def refsBytesCard : Claim7 := { stood := { row := refsBytesRow, standIns := [], harness := (true, "7a3f9465401da954a068a5d86d5c476000626817467b7e54c3296dbb84795b60"), looks := false }, kinds := [], alts := [], laidByText := true, laidKinds := [.data, .pinned], laidTests := true, laidLooks := .later }
def RefsBytesCardSaid : Prop := Claim7.holds Tryd.pinned (.plain (OpenSpec.ofChange refsBytesSpec)) refsBytesCard

/-- THE TIED CARD OF 'trovelaw21.RefsSets'. -/
def refsSetsCard : Claim7 := { stood := { row := refsSetsRow, standIns := [], harness := (true, "7a3f9465401da954a068a5d86d5c476000626817467b7e54c3296dbb84795b60"), looks := false }, kinds := [], alts := [], laidByText := true, laidKinds := [.data, .pinned], laidTests := true, laidLooks := .later }
def RefsSetsCardSaid : Prop := Claim7.holds Tryd.pinned (.plain (OpenSpec.ofChange refsSetsSpec)) refsSetsCard

/-- THE SECOND FORM's CARD OF 'trovelaw21.RefsBytes'. -/
def refsBytesUptoCard : Claim7 := { stood := { row := refsBytesUptoRow, standIns := [], harness := (true, "7a3f9465401da954a068a5d86d5c476000626817467b7e54c3296dbb84795b60"), looks := false }, kinds := [], alts := [], laidByText := true, laidKinds := [.data, .pinned], laidTests := true, laidLooks := .later }
def RefsBytesUptoCardSaid : Prop := Claim7.holds Tryd.pinned (.plain (OpenSpec.upto refsBytesSpec)) refsBytesUptoCard

/-- THE SECOND FORM's CARD OF 'trovelaw21.RefsSets'. -/
def refsSetsUptoCard : Claim7 := { stood := { row := refsSetsUptoRow, standIns := [], harness := (true, "7a3f9465401da954a068a5d86d5c476000626817467b7e54c3296dbb84795b60"), looks := false }, kinds := [], alts := [], laidByText := true, laidKinds := [.data, .pinned], laidTests := true, laidLooks := .later }
def RefsSetsUptoCardSaid : Prop := Claim7.holds Tryd.pinned (.plain (OpenSpec.upto refsSetsSpec)) refsSetsUptoCard
end Rows
end Go.Proofs.YtmfhlhjnfaiegaaDoor
