/-
  No cell of these rows narrows 'for every input' (looked for: loops, veiled, ifaces, maps, wideKeys, modest, calm, conditions, laid).
  DERIVED. THE GIVEN ROWS OF THIS SEAT. 12 by the template 'for every input the law returns true; each argument reads behind the call as it read before'; 0 by the template 'total and deterministic' (their statements: YtpfjkappgdpfbaaTotals.lean).
  GIVEN WITH THE SEED: the statements are not yours to turn. If you find one false, say at which input.
  Laid BY PROGRAM, IN A SANDBOX (cutbox-rows.mjs): the forced cells as the released guide's own fill.sh prints them over the translation faf5f37ebe581582… (all of the seat's roots in one cut). By AI agents, Wed Nov 11 2026. No macro, syntax, notation, axiom, sorry.
-/
import Derived.Test.YtpfjkappgdpfbaaChecked
import GoSem.Claim
import GoSem.ClaimJoined
import GoSem.ClaimMapViews
import Derived.JoinedTies
import Derived.KernelRfl
namespace Go.Proofs.Ytpfjkappgdpfbaa
/- THE CELL 'sum', in the pinned program and in every row, IS THE sha256 OF THE DUMP (.gsa) THAT YtpfjkappgdpfbaaProg.lean LOADS. Nothing in Lean hashes anything: it is a label: what it is worth is what the hold of that sum in a sandbox is worth. -/
noncomputable def Try.pinned : Pinned := { name := "ytpfjkappgdpfbaa", sum := "faf5f37ebe5815822c1ae9a545a88411c8d7138e8d0a35b0a3852c1b95028216", checked := Try.checked }
namespace Rows
def none {H : Type} : Left H := { results := [], args := [] }

/-- 'trovelaw4.SumFlips': WHATEVER THE INPUT: true; the input reads as it did. -/
def sumFlipsSpec : ChangeSpec := { name := "sumFlips", fn := fun _ => fun
  | [d1, d2, d3, d4] => { results := [.lit (.bool true)], args := [d1, d2, d3, d4] }
  | _ => none }
def sumFlipsRow : OpenClaim := { program := "ytpfjkappgdpfbaa", sum := "faf5f37ebe5815822c1ae9a545a88411c8d7138e8d0a35b0a3852c1b95028216", func := "trove/trovelaw4.SumFlips", spec := "sumFlips", apart := false }
def SumFlipsSaid : Prop := sumFlipsRow.holds Try.pinned (OpenSpec.ofChange sumFlipsSpec)

/-- ITS FALSE NEIGHBOUR: 'it returns false'. Refute it at one input. -/
def sumFlipsWrong : ChangeSpec := { name := "sumFlips", fn := fun _ => fun
  | [d1, d2, d3, d4] => { results := [.lit (.bool false)], args := [d1, d2, d3, d4] }
  | _ => none }
def SumFlipsWrongFalsely : Prop := sumFlipsRow.holds Try.pinned (OpenSpec.ofChange sumFlipsWrong)

/-- 'trovelaw4.SumOnes': WHATEVER THE INPUT: true; the input reads as it did. -/
def sumOnesSpec : ChangeSpec := { name := "sumOnes", fn := fun _ => fun
  | [d1, d2] => { results := [.lit (.bool true)], args := [d1, d2] }
  | _ => none }
def sumOnesRow : OpenClaim := { program := "ytpfjkappgdpfbaa", sum := "faf5f37ebe5815822c1ae9a545a88411c8d7138e8d0a35b0a3852c1b95028216", func := "trove/trovelaw4.SumOnes", spec := "sumOnes", apart := false }
def SumOnesSaid : Prop := sumOnesRow.holds Try.pinned (OpenSpec.ofChange sumOnesSpec)

/-- ITS FALSE NEIGHBOUR: 'it returns false'. Refute it at one input. -/
def sumOnesWrong : ChangeSpec := { name := "sumOnes", fn := fun _ => fun
  | [d1, d2] => { results := [.lit (.bool false)], args := [d1, d2] }
  | _ => none }
def SumOnesWrongFalsely : Prop := sumOnesRow.holds Try.pinned (OpenSpec.ofChange sumOnesWrong)

/-- 'trovelaw4.SumBytes': WHATEVER THE INPUT: true; the input reads as it did. -/
def sumBytesSpec : ChangeSpec := { name := "sumBytes", fn := fun _ => fun
  | [d1, d2] => { results := [.lit (.bool true)], args := [d1, d2] }
  | _ => none }
def sumBytesRow : OpenClaim := { program := "ytpfjkappgdpfbaa", sum := "faf5f37ebe5815822c1ae9a545a88411c8d7138e8d0a35b0a3852c1b95028216", func := "trove/trovelaw4.SumBytes", spec := "sumBytes", apart := false }
def SumBytesSaid : Prop := sumBytesRow.holds Try.pinned (OpenSpec.ofChange sumBytesSpec)

/-- ITS FALSE NEIGHBOUR: 'it returns false'. Refute it at one input. -/
def sumBytesWrong : ChangeSpec := { name := "sumBytes", fn := fun _ => fun
  | [d1, d2] => { results := [.lit (.bool false)], args := [d1, d2] }
  | _ => none }
def SumBytesWrongFalsely : Prop := sumBytesRow.holds Try.pinned (OpenSpec.ofChange sumBytesWrong)

/-- 'trovelaw4.SumJoins': WHATEVER THE INPUT: true; the input reads as it did. -/
def sumJoinsSpec : ChangeSpec := { name := "sumJoins", fn := fun _ => fun
  | [d1, d2, d3] => { results := [.lit (.bool true)], args := [d1, d2, d3] }
  | _ => none }
def sumJoinsRow : OpenClaim := { program := "ytpfjkappgdpfbaa", sum := "faf5f37ebe5815822c1ae9a545a88411c8d7138e8d0a35b0a3852c1b95028216", func := "trove/trovelaw4.SumJoins", spec := "sumJoins", apart := false }
def SumJoinsSaid : Prop := sumJoinsRow.holds Try.pinned (OpenSpec.ofChange sumJoinsSpec)

/-- ITS FALSE NEIGHBOUR: 'it returns false'. Refute it at one input. -/
def sumJoinsWrong : ChangeSpec := { name := "sumJoins", fn := fun _ => fun
  | [d1, d2, d3] => { results := [.lit (.bool false)], args := [d1, d2, d3] }
  | _ => none }
def SumJoinsWrongFalsely : Prop := sumJoinsRow.holds Try.pinned (OpenSpec.ofChange sumJoinsWrong)

/-- 'trovelaw4.SumRows': WHATEVER THE INPUT: true; the input reads as it did. -/
def sumRowsSpec : ChangeSpec := { name := "sumRows", fn := fun _ => fun
  | [d] => { results := [.lit (.bool true)], args := [d] }
  | _ => none }
def sumRowsRow : OpenClaim := { program := "ytpfjkappgdpfbaa", sum := "faf5f37ebe5815822c1ae9a545a88411c8d7138e8d0a35b0a3852c1b95028216", func := "trove/trovelaw4.SumRows", spec := "sumRows", apart := false }
def SumRowsSaid : Prop := sumRowsRow.holds Try.pinned (OpenSpec.ofChange sumRowsSpec)

/-- ITS FALSE NEIGHBOUR: 'it returns false'. Refute it at one input. -/
def sumRowsWrong : ChangeSpec := { name := "sumRows", fn := fun _ => fun
  | [d] => { results := [.lit (.bool false)], args := [d] }
  | _ => none }
def SumRowsWrongFalsely : Prop := sumRowsRow.holds Try.pinned (OpenSpec.ofChange sumRowsWrong)

/-- 'trovelaw13.DeltaSteps': WHATEVER THE INPUT: true; the input reads as it did. -/
def deltaStepsSpec : ChangeSpec := { name := "deltaSteps", fn := fun _ => fun
  | [d1, d2, d3] => { results := [.lit (.bool true)], args := [d1, d2, d3] }
  | _ => none }
def deltaStepsRow : OpenClaim := { program := "ytpfjkappgdpfbaa", sum := "faf5f37ebe5815822c1ae9a545a88411c8d7138e8d0a35b0a3852c1b95028216", func := "trove/trovelaw13.DeltaSteps", spec := "deltaSteps", unfollowed := true, recurses := true, apart := false }
def DeltaStepsSaid : Prop := deltaStepsRow.holds Try.pinned (OpenSpec.ofChange deltaStepsSpec)

/-- ITS FALSE NEIGHBOUR: 'it returns false'. Refute it at one input. -/
def deltaStepsWrong : ChangeSpec := { name := "deltaSteps", fn := fun _ => fun
  | [d1, d2, d3] => { results := [.lit (.bool false)], args := [d1, d2, d3] }
  | _ => none }
def DeltaStepsWrongFalsely : Prop := deltaStepsRow.holds Try.pinned (OpenSpec.ofChange deltaStepsWrong)

/-- 'trovelaw13.DeltaMade': WHATEVER THE INPUT: true; the input reads as it did. -/
def deltaMadeSpec : ChangeSpec := { name := "deltaMade", fn := fun _ => fun
  | [d1, d2, d3] => { results := [.lit (.bool true)], args := [d1, d2, d3] }
  | _ => none }
def deltaMadeRow : OpenClaim := { program := "ytpfjkappgdpfbaa", sum := "faf5f37ebe5815822c1ae9a545a88411c8d7138e8d0a35b0a3852c1b95028216", func := "trove/trovelaw13.DeltaMade", spec := "deltaMade", unfollowed := true, recurses := true, apart := false }
def DeltaMadeSaid : Prop := deltaMadeRow.holds Try.pinned (OpenSpec.ofChange deltaMadeSpec)

/-- ITS FALSE NEIGHBOUR: 'it returns false'. Refute it at one input. -/
def deltaMadeWrong : ChangeSpec := { name := "deltaMade", fn := fun _ => fun
  | [d1, d2, d3] => { results := [.lit (.bool false)], args := [d1, d2, d3] }
  | _ => none }
def DeltaMadeWrongFalsely : Prop := deltaMadeRow.holds Try.pinned (OpenSpec.ofChange deltaMadeWrong)

/-- 'trovelaw13.DeltaSmall': WHATEVER THE INPUT: true; the input reads as it did. -/
def deltaSmallSpec : ChangeSpec := { name := "deltaSmall", fn := fun _ => fun
  | [d1, d2, d3, d4] => { results := [.lit (.bool true)], args := [d1, d2, d3, d4] }
  | _ => none }
def deltaSmallRow : OpenClaim := { program := "ytpfjkappgdpfbaa", sum := "faf5f37ebe5815822c1ae9a545a88411c8d7138e8d0a35b0a3852c1b95028216", func := "trove/trovelaw13.DeltaSmall", spec := "deltaSmall", unfollowed := true, recurses := true, apart := false }
def DeltaSmallSaid : Prop := deltaSmallRow.holds Try.pinned (OpenSpec.ofChange deltaSmallSpec)

/-- ITS FALSE NEIGHBOUR: 'it returns false'. Refute it at one input. -/
def deltaSmallWrong : ChangeSpec := { name := "deltaSmall", fn := fun _ => fun
  | [d1, d2, d3, d4] => { results := [.lit (.bool false)], args := [d1, d2, d3, d4] }
  | _ => none }
def DeltaSmallWrongFalsely : Prop := deltaSmallRow.holds Try.pinned (OpenSpec.ofChange deltaSmallWrong)

/-- 'trovelaw13.DeltaCopies': WHATEVER THE INPUT: true; the input reads as it did. -/
def deltaCopiesSpec : ChangeSpec := { name := "deltaCopies", fn := fun _ => fun
  | [d1, d2] => { results := [.lit (.bool true)], args := [d1, d2] }
  | _ => none }
def deltaCopiesRow : OpenClaim := { program := "ytpfjkappgdpfbaa", sum := "faf5f37ebe5815822c1ae9a545a88411c8d7138e8d0a35b0a3852c1b95028216", func := "trove/trovelaw13.DeltaCopies", spec := "deltaCopies", unfollowed := true, recurses := true, apart := false }
def DeltaCopiesSaid : Prop := deltaCopiesRow.holds Try.pinned (OpenSpec.ofChange deltaCopiesSpec)

/-- ITS FALSE NEIGHBOUR: 'it returns false'. Refute it at one input. -/
def deltaCopiesWrong : ChangeSpec := { name := "deltaCopies", fn := fun _ => fun
  | [d1, d2] => { results := [.lit (.bool false)], args := [d1, d2] }
  | _ => none }
def DeltaCopiesWrongFalsely : Prop := deltaCopiesRow.holds Try.pinned (OpenSpec.ofChange deltaCopiesWrong)

/-- 'trovelaw13.DeltaInserts': WHATEVER THE INPUT: true; the input reads as it did. -/
def deltaInsertsSpec : ChangeSpec := { name := "deltaInserts", fn := fun _ => fun
  | [d1, d2] => { results := [.lit (.bool true)], args := [d1, d2] }
  | _ => none }
def deltaInsertsRow : OpenClaim := { program := "ytpfjkappgdpfbaa", sum := "faf5f37ebe5815822c1ae9a545a88411c8d7138e8d0a35b0a3852c1b95028216", func := "trove/trovelaw13.DeltaInserts", spec := "deltaInserts", unfollowed := true, recurses := true, apart := false }
def DeltaInsertsSaid : Prop := deltaInsertsRow.holds Try.pinned (OpenSpec.ofChange deltaInsertsSpec)

/-- ITS FALSE NEIGHBOUR: 'it returns false'. Refute it at one input. -/
def deltaInsertsWrong : ChangeSpec := { name := "deltaInserts", fn := fun _ => fun
  | [d1, d2] => { results := [.lit (.bool false)], args := [d1, d2] }
  | _ => none }
def DeltaInsertsWrongFalsely : Prop := deltaInsertsRow.holds Try.pinned (OpenSpec.ofChange deltaInsertsWrong)

/-- 'trovelaw13.DeltaBytes': WHATEVER THE INPUT: true; the input reads as it did. -/
def deltaBytesSpec : ChangeSpec := { name := "deltaBytes", fn := fun _ => fun
  | [d1, d2, d3] => { results := [.lit (.bool true)], args := [d1, d2, d3] }
  | _ => none }
def deltaBytesRow : OpenClaim := { program := "ytpfjkappgdpfbaa", sum := "faf5f37ebe5815822c1ae9a545a88411c8d7138e8d0a35b0a3852c1b95028216", func := "trove/trovelaw13.DeltaBytes", spec := "deltaBytes", unfollowed := true, recurses := true, apart := false }
def DeltaBytesSaid : Prop := deltaBytesRow.holds Try.pinned (OpenSpec.ofChange deltaBytesSpec)

/-- ITS FALSE NEIGHBOUR: 'it returns false'. Refute it at one input. -/
def deltaBytesWrong : ChangeSpec := { name := "deltaBytes", fn := fun _ => fun
  | [d1, d2, d3] => { results := [.lit (.bool false)], args := [d1, d2, d3] }
  | _ => none }
def DeltaBytesWrongFalsely : Prop := deltaBytesRow.holds Try.pinned (OpenSpec.ofChange deltaBytesWrong)

/-- 'trovelaw13.DeltaChains': WHATEVER THE INPUT: true; the input reads as it did. -/
def deltaChainsSpec : ChangeSpec := { name := "deltaChains", fn := fun _ => fun
  | [d1, d2] => { results := [.lit (.bool true)], args := [d1, d2] }
  | _ => none }
def deltaChainsRow : OpenClaim := { program := "ytpfjkappgdpfbaa", sum := "faf5f37ebe5815822c1ae9a545a88411c8d7138e8d0a35b0a3852c1b95028216", func := "trove/trovelaw13.DeltaChains", spec := "deltaChains", unfollowed := true, recurses := true, apart := false }
def DeltaChainsSaid : Prop := deltaChainsRow.holds Try.pinned (OpenSpec.ofChange deltaChainsSpec)

/-- ITS FALSE NEIGHBOUR: 'it returns false'. Refute it at one input. -/
def deltaChainsWrong : ChangeSpec := { name := "deltaChains", fn := fun _ => fun
  | [d1, d2] => { results := [.lit (.bool false)], args := [d1, d2] }
  | _ => none }
def DeltaChainsWrongFalsely : Prop := deltaChainsRow.holds Try.pinned (OpenSpec.ofChange deltaChainsWrong)

/- THE SECOND FORM. 'bulk': how many values and letters a reading holds, each counted each time it is reached (what is shared counts as often as it is met; a slice's spare places count too). A statement '..UptoSaid' is the law's where the arguments, and the package variables that the reading takes, are together of bulk at most 1048576: NARROWER than '..Said'. Prove '..Said' where nothing that the law and all that it calls make is longer than what came in: it says more and counts as full. Else prove '..UptoSaid'. A law counts once. -/
mutual
def uptoBulk {H : Type} : DataW H → Nat
  | .lit (.string bytes) => bytes.length + 1
  | .lit _ => 1
  | .nil => 1
  | .ptr d => uptoBulk d + 1
  | .slice elems spare => uptoBulkAll elems + uptoBulkAll spare + 1
  | .agg parts => uptoBulkAll parts + 1
  | .iface _ d => uptoBulk d + 1
  | .map entries => uptoBulkEntries entries + 1
  | .held _ => 1
def uptoBulkAll {H : Type} : List (DataW H) → Nat
  | [] => 0
  | d :: r => uptoBulk d + uptoBulkAll r
def uptoBulkEntries {H : Type} : List (Lit × DataW H) → Nat
  | [] => 0
  | x :: r => uptoBulkEntry x + uptoBulkEntries r
def uptoBulkEntry {H : Type} : Lit × DataW H → Nat
  | (.string bytes, d) => bytes.length + uptoBulk d + 1
  | (_, d) => uptoBulk d + 1
 end
def uptoSmall : (H : Type) → List (DataW H) → Bool := fun _ ds => decide (uptoBulkAll ds ≤ 1048576)
def OpenSpec.upto (s : _root_.Go.ChangeSpec) : _root_.Go.OpenSpec := { _root_.Go.OpenSpec.ofChange s with cond := some uptoSmall }

/-- 'trovelaw4.SumFlips', WHERE WHAT IT READS IS OF BULK AT MOST 1048576: true; the input reads as it did. -/
def sumFlipsUptoRow : OpenClaim := { program := "ytpfjkappgdpfbaa", sum := "faf5f37ebe5815822c1ae9a545a88411c8d7138e8d0a35b0a3852c1b95028216", func := "trove/trovelaw4.SumFlips", spec := "sumFlips", apart := false, narrowed := true }
def SumFlipsUptoSaid : Prop := sumFlipsUptoRow.holds Try.pinned (OpenSpec.upto sumFlipsSpec)

/-- 'trovelaw4.SumOnes', WHERE WHAT IT READS IS OF BULK AT MOST 1048576: true; the input reads as it did. -/
def sumOnesUptoRow : OpenClaim := { program := "ytpfjkappgdpfbaa", sum := "faf5f37ebe5815822c1ae9a545a88411c8d7138e8d0a35b0a3852c1b95028216", func := "trove/trovelaw4.SumOnes", spec := "sumOnes", apart := false, narrowed := true }
def SumOnesUptoSaid : Prop := sumOnesUptoRow.holds Try.pinned (OpenSpec.upto sumOnesSpec)

/-- 'trovelaw4.SumBytes', WHERE WHAT IT READS IS OF BULK AT MOST 1048576: true; the input reads as it did. -/
def sumBytesUptoRow : OpenClaim := { program := "ytpfjkappgdpfbaa", sum := "faf5f37ebe5815822c1ae9a545a88411c8d7138e8d0a35b0a3852c1b95028216", func := "trove/trovelaw4.SumBytes", spec := "sumBytes", apart := false, narrowed := true }
def SumBytesUptoSaid : Prop := sumBytesUptoRow.holds Try.pinned (OpenSpec.upto sumBytesSpec)

/-- 'trovelaw4.SumJoins', WHERE WHAT IT READS IS OF BULK AT MOST 1048576: true; the input reads as it did. -/
def sumJoinsUptoRow : OpenClaim := { program := "ytpfjkappgdpfbaa", sum := "faf5f37ebe5815822c1ae9a545a88411c8d7138e8d0a35b0a3852c1b95028216", func := "trove/trovelaw4.SumJoins", spec := "sumJoins", apart := false, narrowed := true }
def SumJoinsUptoSaid : Prop := sumJoinsUptoRow.holds Try.pinned (OpenSpec.upto sumJoinsSpec)

/-- 'trovelaw4.SumRows', WHERE WHAT IT READS IS OF BULK AT MOST 1048576: true; the input reads as it did. -/
def sumRowsUptoRow : OpenClaim := { program := "ytpfjkappgdpfbaa", sum := "faf5f37ebe5815822c1ae9a545a88411c8d7138e8d0a35b0a3852c1b95028216", func := "trove/trovelaw4.SumRows", spec := "sumRows", apart := false, narrowed := true }
def SumRowsUptoSaid : Prop := sumRowsUptoRow.holds Try.pinned (OpenSpec.upto sumRowsSpec)

/-- 'trovelaw13.DeltaSteps', WHERE WHAT IT READS IS OF BULK AT MOST 1048576: true; the input reads as it did. -/
def deltaStepsUptoRow : OpenClaim := { program := "ytpfjkappgdpfbaa", sum := "faf5f37ebe5815822c1ae9a545a88411c8d7138e8d0a35b0a3852c1b95028216", func := "trove/trovelaw13.DeltaSteps", spec := "deltaSteps", unfollowed := true, recurses := true, apart := false, narrowed := true }
def DeltaStepsUptoSaid : Prop := deltaStepsUptoRow.holds Try.pinned (OpenSpec.upto deltaStepsSpec)

/-- 'trovelaw13.DeltaMade', WHERE WHAT IT READS IS OF BULK AT MOST 1048576: true; the input reads as it did. -/
def deltaMadeUptoRow : OpenClaim := { program := "ytpfjkappgdpfbaa", sum := "faf5f37ebe5815822c1ae9a545a88411c8d7138e8d0a35b0a3852c1b95028216", func := "trove/trovelaw13.DeltaMade", spec := "deltaMade", unfollowed := true, recurses := true, apart := false, narrowed := true }
def DeltaMadeUptoSaid : Prop := deltaMadeUptoRow.holds Try.pinned (OpenSpec.upto deltaMadeSpec)

/-- 'trovelaw13.DeltaSmall', WHERE WHAT IT READS IS OF BULK AT MOST 1048576: true; the input reads as it did. -/
def deltaSmallUptoRow : OpenClaim := { program := "ytpfjkappgdpfbaa", sum := "faf5f37ebe5815822c1ae9a545a88411c8d7138e8d0a35b0a3852c1b95028216", func := "trove/trovelaw13.DeltaSmall", spec := "deltaSmall", unfollowed := true, recurses := true, apart := false, narrowed := true }
def DeltaSmallUptoSaid : Prop := deltaSmallUptoRow.holds Try.pinned (OpenSpec.upto deltaSmallSpec)

/-- 'trovelaw13.DeltaCopies', WHERE WHAT IT READS IS OF BULK AT MOST 1048576: true; the input reads as it did. -/
def deltaCopiesUptoRow : OpenClaim := { program := "ytpfjkappgdpfbaa", sum := "faf5f37ebe5815822c1ae9a545a88411c8d7138e8d0a35b0a3852c1b95028216", func := "trove/trovelaw13.DeltaCopies", spec := "deltaCopies", unfollowed := true, recurses := true, apart := false, narrowed := true }
def DeltaCopiesUptoSaid : Prop := deltaCopiesUptoRow.holds Try.pinned (OpenSpec.upto deltaCopiesSpec)

/-- 'trovelaw13.DeltaInserts', WHERE WHAT IT READS IS OF BULK AT MOST 1048576: true; the input reads as it did. -/
def deltaInsertsUptoRow : OpenClaim := { program := "ytpfjkappgdpfbaa", sum := "faf5f37ebe5815822c1ae9a545a88411c8d7138e8d0a35b0a3852c1b95028216", func := "trove/trovelaw13.DeltaInserts", spec := "deltaInserts", unfollowed := true, recurses := true, apart := false, narrowed := true }
def DeltaInsertsUptoSaid : Prop := deltaInsertsUptoRow.holds Try.pinned (OpenSpec.upto deltaInsertsSpec)

/-- 'trovelaw13.DeltaBytes', WHERE WHAT IT READS IS OF BULK AT MOST 1048576: true; the input reads as it did. -/
def deltaBytesUptoRow : OpenClaim := { program := "ytpfjkappgdpfbaa", sum := "faf5f37ebe5815822c1ae9a545a88411c8d7138e8d0a35b0a3852c1b95028216", func := "trove/trovelaw13.DeltaBytes", spec := "deltaBytes", unfollowed := true, recurses := true, apart := false, narrowed := true }
def DeltaBytesUptoSaid : Prop := deltaBytesUptoRow.holds Try.pinned (OpenSpec.upto deltaBytesSpec)

/-- 'trovelaw13.DeltaChains', WHERE WHAT IT READS IS OF BULK AT MOST 1048576: true; the input reads as it did. -/
def deltaChainsUptoRow : OpenClaim := { program := "ytpfjkappgdpfbaa", sum := "faf5f37ebe5815822c1ae9a545a88411c8d7138e8d0a35b0a3852c1b95028216", func := "trove/trovelaw13.DeltaChains", spec := "deltaChains", unfollowed := true, recurses := true, apart := false, narrowed := true }
def DeltaChainsUptoSaid : Prop := deltaChainsUptoRow.holds Try.pinned (OpenSpec.upto deltaChainsSpec)

end Rows
end Go.Proofs.Ytpfjkappgdpfbaa
