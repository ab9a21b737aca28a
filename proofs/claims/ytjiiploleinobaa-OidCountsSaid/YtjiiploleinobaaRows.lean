/-
  No cell of these rows narrows 'for every input' (looked for: loops, veiled, ifaces, maps, wideKeys, modest, calm, conditions, laid).
  DERIVED. THE GIVEN ROWS OF THIS SEAT. 5 by the template 'for every input the law returns true; each argument reads behind the call as it read before'; 0 by the template 'total and deterministic' (their statements: YtjiiploleinobaaTotals.lean).
  GIVEN WITH THE SEED: the statements are not yours to turn. If you find one false, say at which input.
  Laid BY PROGRAM, IN A SANDBOX (cutbox-rows.mjs): the forced cells as the released guide's own fill.sh prints them over the translation 5731062c01451623… (all of the seat's roots in one cut). By AI agents, Wed Nov 11 2026. No macro, syntax, notation, axiom, sorry.
-/
import Derived.Test.YtjiiploleinobaaChecked
import GoSem.Claim
import GoSem.ClaimJoined
import GoSem.ClaimMapViews
import Derived.JoinedTies
import Derived.KernelRfl
namespace Go.Proofs.Ytjiiploleinobaa
/- THE CELL 'sum', in the pinned program and in every row, IS THE sha256 OF THE DUMP (.gsa) THAT YtjiiploleinobaaProg.lean LOADS. Nothing in Lean hashes anything: it is a label: what it is worth is what the hold of that sum in a sandbox is worth. -/
noncomputable def Try.pinned : Pinned := { name := "ytjiiploleinobaa", sum := "5731062c01451623f66bde4acb8c05999c748c5e77cbe0fedaa9feed0eea738c", checked := Try.checked }
namespace Rows
def none {H : Type} : Left H := { results := [], args := [] }

/-- 'trovelaw11.OidTexts': WHATEVER THE INPUT: true; the input reads as it did. -/
def oidTextsSpec : ChangeSpec := { name := "oidTexts", fn := fun _ => fun
  | [d1, d2] => { results := [.lit (.bool true)], args := [d1, d2] }
  | _ => none }
def oidTextsRow : OpenClaim := { program := "ytjiiploleinobaa", sum := "5731062c01451623f66bde4acb8c05999c748c5e77cbe0fedaa9feed0eea738c", func := "trove/trovelaw11.OidTexts", spec := "oidTexts", inPlace := ["internal/bytealg.IndexByteString", "internal/bytealg.Compare"], unfollowed := true, recurses := true, apart := false }
def OidTextsSaid : Prop := oidTextsRow.holds Try.pinned (OpenSpec.ofChange oidTextsSpec)

/-- ITS FALSE NEIGHBOUR: 'it returns false'. Refute it at one input. -/
def oidTextsWrong : ChangeSpec := { name := "oidTexts", fn := fun _ => fun
  | [d1, d2] => { results := [.lit (.bool false)], args := [d1, d2] }
  | _ => none }
def OidTextsWrongFalsely : Prop := oidTextsRow.holds Try.pinned (OpenSpec.ofChange oidTextsWrong)

/-- 'trovelaw11.OidOrder': WHATEVER THE INPUT: true; the input reads as it did. -/
def oidOrderSpec : ChangeSpec := { name := "oidOrder", fn := fun _ => fun
  | [d1, d2, d3, d4] => { results := [.lit (.bool true)], args := [d1, d2, d3, d4] }
  | _ => none }
def oidOrderRow : OpenClaim := { program := "ytjiiploleinobaa", sum := "5731062c01451623f66bde4acb8c05999c748c5e77cbe0fedaa9feed0eea738c", func := "trove/trovelaw11.OidOrder", spec := "oidOrder", inPlace := ["internal/bytealg.IndexByteString", "internal/bytealg.Compare"], unfollowed := true, recurses := true, apart := false }
def OidOrderSaid : Prop := oidOrderRow.holds Try.pinned (OpenSpec.ofChange oidOrderSpec)

/-- ITS FALSE NEIGHBOUR: 'it returns false'. Refute it at one input. -/
def oidOrderWrong : ChangeSpec := { name := "oidOrder", fn := fun _ => fun
  | [d1, d2, d3, d4] => { results := [.lit (.bool false)], args := [d1, d2, d3, d4] }
  | _ => none }
def OidOrderWrongFalsely : Prop := oidOrderRow.holds Try.pinned (OpenSpec.ofChange oidOrderWrong)

/-- 'trovelaw11.OidRows': WHATEVER THE INPUT: true; the input reads as it did. -/
def oidRowsSpec : ChangeSpec := { name := "oidRows", fn := fun _ => fun
  | [d1, d2] => { results := [.lit (.bool true)], args := [d1, d2] }
  | _ => none }
def oidRowsRow : OpenClaim := { program := "ytjiiploleinobaa", sum := "5731062c01451623f66bde4acb8c05999c748c5e77cbe0fedaa9feed0eea738c", func := "trove/trovelaw11.OidRows", spec := "oidRows", inPlace := ["internal/bytealg.IndexByteString", "internal/bytealg.Compare"], unfollowed := true, recurses := true, apart := false }
def OidRowsSaid : Prop := oidRowsRow.holds Try.pinned (OpenSpec.ofChange oidRowsSpec)

/-- ITS FALSE NEIGHBOUR: 'it returns false'. Refute it at one input. -/
def oidRowsWrong : ChangeSpec := { name := "oidRows", fn := fun _ => fun
  | [d1, d2] => { results := [.lit (.bool false)], args := [d1, d2] }
  | _ => none }
def OidRowsWrongFalsely : Prop := oidRowsRow.holds Try.pinned (OpenSpec.ofChange oidRowsWrong)

/-- 'trovelaw11.OidShorts': WHATEVER THE INPUT: true; the input reads as it did. -/
def oidShortsSpec : ChangeSpec := { name := "oidShorts", fn := fun _ => fun
  | [d1, d2, d3] => { results := [.lit (.bool true)], args := [d1, d2, d3] }
  | _ => none }
def oidShortsRow : OpenClaim := { program := "ytjiiploleinobaa", sum := "5731062c01451623f66bde4acb8c05999c748c5e77cbe0fedaa9feed0eea738c", func := "trove/trovelaw11.OidShorts", spec := "oidShorts", inPlace := ["internal/bytealg.IndexByteString", "internal/bytealg.Compare"], unfollowed := true, recurses := true, apart := false }
def OidShortsSaid : Prop := oidShortsRow.holds Try.pinned (OpenSpec.ofChange oidShortsSpec)

/-- ITS FALSE NEIGHBOUR: 'it returns false'. Refute it at one input. -/
def oidShortsWrong : ChangeSpec := { name := "oidShorts", fn := fun _ => fun
  | [d1, d2, d3] => { results := [.lit (.bool false)], args := [d1, d2, d3] }
  | _ => none }
def OidShortsWrongFalsely : Prop := oidShortsRow.holds Try.pinned (OpenSpec.ofChange oidShortsWrong)

/-- 'trovelaw11.OidCounts': WHATEVER THE INPUT: true; the input reads as it did. -/
def oidCountsSpec : ChangeSpec := { name := "oidCounts", fn := fun _ => fun
  | [d] => { results := [.lit (.bool true)], args := [d] }
  | _ => none }
def oidCountsRow : OpenClaim := { program := "ytjiiploleinobaa", sum := "5731062c01451623f66bde4acb8c05999c748c5e77cbe0fedaa9feed0eea738c", func := "trove/trovelaw11.OidCounts", spec := "oidCounts", inPlace := ["internal/bytealg.IndexByteString", "internal/bytealg.Compare"], unfollowed := true, recurses := true, apart := false }
def OidCountsSaid : Prop := oidCountsRow.holds Try.pinned (OpenSpec.ofChange oidCountsSpec)

/-- ITS FALSE NEIGHBOUR: 'it returns false'. Refute it at one input. -/
def oidCountsWrong : ChangeSpec := { name := "oidCounts", fn := fun _ => fun
  | [d] => { results := [.lit (.bool false)], args := [d] }
  | _ => none }
def OidCountsWrongFalsely : Prop := oidCountsRow.holds Try.pinned (OpenSpec.ofChange oidCountsWrong)

/- THE SECOND FORM. 'bulk': how many values and letters a reading holds, each counted each time it is reached (what is shared counts as often as it is met; a slice's spare places count too). A statement '..UptoSaid' is the law's where the arguments, and the package variables that the reading takes, are together of bulk at most 1048576: NARROWER than '..Said'. Prove '..Said' where nothing that the law and all that it calls make is longer than what came in: it says more and counts as full. Else prove '..UptoSaid'. A law counts once. -/
mutual
def uptoBulk {H : Type} : DataW H → Nat
  | .lit (.string bytes) => bytes.length + 1
  | .lit _ => 1
  | .nil => 1
  | .ptr d => uptoBulk d + 1
  | .slice elems spare => uptoBulkAll elems + uptoBulkAll spare + 1
  | .agg parts => uptoBulkAll parts + 1
  | .iface _ d => uptoBulk d + 1
  | .map entries => uptoBulkEntries entries + 1
  | .held _ => 1
def uptoBulkAll {H : Type} : List (DataW H) → Nat
  | [] => 0
  | d :: r => uptoBulk d + uptoBulkAll r
def uptoBulkEntries {H : Type} : List (Lit × DataW H) → Nat
  | [] => 0
  | x :: r => uptoBulkEntry x + uptoBulkEntries r
def uptoBulkEntry {H : Type} : Lit × DataW H → Nat
  | (.string bytes, d) => bytes.length + uptoBulk d + 1
  | (_, d) => uptoBulk d + 1
 end
def uptoSmall : (H : Type) → List (DataW H) → Bool := fun _ ds => decide (uptoBulkAll ds ≤ 1048576)
def OpenSpec.upto (s : _root_.Go.ChangeSpec) : _root_.Go.OpenSpec := { _root_.Go.OpenSpec.ofChange s with cond := some uptoSmall }

/-- 'trovelaw11.OidTexts', WHERE WHAT IT READS IS OF BULK AT MOST 1048576: true; the input reads as it did. -/
def oidTextsUptoRow : OpenClaim := { program := "ytjiiploleinobaa", sum := "5731062c01451623f66bde4acb8c05999c748c5e77cbe0fedaa9feed0eea738c", func := "trove/trovelaw11.OidTexts", spec := "oidTexts", inPlace := ["internal/bytealg.IndexByteString", "internal/bytealg.Compare"], unfollowed := true, recurses := true, apart := false, narrowed := true }
def OidTextsUptoSaid : Prop := oidTextsUptoRow.holds Try.pinned (OpenSpec.upto oidTextsSpec)

/-- 'trovelaw11.OidOrder', WHERE WHAT IT READS IS OF BULK AT MOST 1048576: true; the input reads as it did. -/
def oidOrderUptoRow : OpenClaim := { program := "ytjiiploleinobaa", sum := "5731062c01451623f66bde4acb8c05999c748c5e77cbe0fedaa9feed0eea738c", func := "trove/trovelaw11.OidOrder", spec := "oidOrder", inPlace := ["internal/bytealg.IndexByteString", "internal/bytealg.Compare"], unfollowed := true, recurses := true, apart := false, narrowed := true }
def OidOrderUptoSaid : Prop := oidOrderUptoRow.holds Try.pinned (OpenSpec.upto oidOrderSpec)

/-- 'trovelaw11.OidRows', WHERE WHAT IT READS IS OF BULK AT MOST 1048576: true; the input reads as it did. -/
def oidRowsUptoRow : OpenClaim := { program := "ytjiiploleinobaa", sum := "5731062c01451623f66bde4acb8c05999c748c5e77cbe0fedaa9feed0eea738c", func := "trove/trovelaw11.OidRows", spec := "oidRows", inPlace := ["internal/bytealg.IndexByteString", "internal/bytealg.Compare"], unfollowed := true, recurses := true, apart := false, narrowed := true }
def OidRowsUptoSaid : Prop := oidRowsUptoRow.holds Try.pinned (OpenSpec.upto oidRowsSpec)

/-- 'trovelaw11.OidShorts', WHERE WHAT IT READS IS OF BULK AT MOST 1048576: true; the input reads as it did. -/
def oidShortsUptoRow : OpenClaim := { program := "ytjiiploleinobaa", sum := "5731062c01451623f66bde4acb8c05999c748c5e77cbe0fedaa9feed0eea738c", func := "trove/trovelaw11.OidShorts", spec := "oidShorts", inPlace := ["internal/bytealg.IndexByteString", "internal/bytealg.Compare"], unfollowed := true, recurses := true, apart := false, narrowed := true }
def OidShortsUptoSaid : Prop := oidShortsUptoRow.holds Try.pinned (OpenSpec.upto oidShortsSpec)

/-- 'trovelaw11.OidCounts', WHERE WHAT IT READS IS OF BULK AT MOST 1048576: true; the input reads as it did. -/
def oidCountsUptoRow : OpenClaim := { program := "ytjiiploleinobaa", sum := "5731062c01451623f66bde4acb8c05999c748c5e77cbe0fedaa9feed0eea738c", func := "trove/trovelaw11.OidCounts", spec := "oidCounts", inPlace := ["internal/bytealg.IndexByteString", "internal/bytealg.Compare"], unfollowed := true, recurses := true, apart := false, narrowed := true }
def OidCountsUptoSaid : Prop := oidCountsUptoRow.holds Try.pinned (OpenSpec.upto oidCountsSpec)

end Rows
end Go.Proofs.Ytjiiploleinobaa
