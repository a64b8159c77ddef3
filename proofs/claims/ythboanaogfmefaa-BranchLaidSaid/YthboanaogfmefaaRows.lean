/-
  No cell of these rows narrows 'for every input' (looked for: loops, veiled, ifaces, maps, wideKeys, modest, calm, conditions, laid).
  DERIVED. THE GIVEN ROWS OF THIS SEAT. 9 by the template 'for every input the law returns true; each argument reads behind the call as it read before'; 0 by the template 'total and deterministic' (their statements: YthboanaogfmefaaTotals.lean).
  GIVEN WITH THE SEED: the statements are not yours to turn. If you find one false, say at which input.
  Laid BY PROGRAM, IN A SANDBOX (cutbox-rows.mjs): the forced cells as the released guide's own fill.sh prints them over the translation 5ac77b37bc6b524f… (all of the seat's roots in one cut). By AI agents, Wed Nov 11 2026. No macro, syntax, notation, axiom, sorry.
-/
import Derived.Test.YthboanaogfmefaaChecked
import GoSem.Claim
import GoSem.ClaimJoined
import GoSem.ClaimMapViews
import Derived.JoinedTies
import Derived.KernelRfl
namespace Go.Proofs.Ythboanaogfmefaa
/- THE CELL 'sum', in the pinned program and in every row, IS THE sha256 OF THE DUMP (.gsa) THAT YthboanaogfmefaaProg.lean LOADS. Nothing in Lean hashes anything: it is a label: what it is worth is what the hold of that sum in a sandbox is worth. -/
noncomputable def Try.pinned : Pinned := { name := "ythboanaogfmefaa", sum := "5ac77b37bc6b524f25fa6eaf6c7216315b89a25b9a556d7f9bd5a8969f951eb2", checked := Try.checked }
namespace Rows
def none {H : Type} : Left H := { results := [], args := [] }

/-- 'coppicelaw5.BranchSizes': WHATEVER THE INPUT: true; the input reads as it did. -/
def branchSizesSpec : ChangeSpec := { name := "branchSizes", fn := fun _ => fun
  | [d1, d2, d3, d4] => { results := [.lit (.bool true)], args := [d1, d2, d3, d4] }
  | _ => none }
def branchSizesRow : OpenClaim := { program := "ythboanaogfmefaa", sum := "5ac77b37bc6b524f25fa6eaf6c7216315b89a25b9a556d7f9bd5a8969f951eb2", func := "coppice/coppicelaw5.BranchSizes", spec := "branchSizes", inPlace := ["internal/bytealg.Compare"], unfollowed := true, recurses := true, apart := false }
def BranchSizesSaid : Prop := branchSizesRow.holds Try.pinned (OpenSpec.ofChange branchSizesSpec)

/-- ITS FALSE NEIGHBOUR: 'it returns false'. Refute it at one input. -/
def branchSizesWrong : ChangeSpec := { name := "branchSizes", fn := fun _ => fun
  | [d1, d2, d3, d4] => { results := [.lit (.bool false)], args := [d1, d2, d3, d4] }
  | _ => none }
def BranchSizesWrongFalsely : Prop := branchSizesRow.holds Try.pinned (OpenSpec.ofChange branchSizesWrong)

/-- 'coppicelaw5.BranchEncodes': WHATEVER THE INPUT: true; the input reads as it did. -/
def branchEncodesSpec : ChangeSpec := { name := "branchEncodes", fn := fun _ => fun
  | [d1, d2, d3] => { results := [.lit (.bool true)], args := [d1, d2, d3] }
  | _ => none }
def branchEncodesRow : OpenClaim := { program := "ythboanaogfmefaa", sum := "5ac77b37bc6b524f25fa6eaf6c7216315b89a25b9a556d7f9bd5a8969f951eb2", func := "coppice/coppicelaw5.BranchEncodes", spec := "branchEncodes", inPlace := ["internal/bytealg.Compare"], unfollowed := true, recurses := true, apart := false }
def BranchEncodesSaid : Prop := branchEncodesRow.holds Try.pinned (OpenSpec.ofChange branchEncodesSpec)

/-- ITS FALSE NEIGHBOUR: 'it returns false'. Refute it at one input. -/
def branchEncodesWrong : ChangeSpec := { name := "branchEncodes", fn := fun _ => fun
  | [d1, d2, d3] => { results := [.lit (.bool false)], args := [d1, d2, d3] }
  | _ => none }
def BranchEncodesWrongFalsely : Prop := branchEncodesRow.holds Try.pinned (OpenSpec.ofChange branchEncodesWrong)

/-- 'coppicelaw5.BranchPlace': WHATEVER THE INPUT: true; the input reads as it did. -/
def branchPlaceSpec : ChangeSpec := { name := "branchPlace", fn := fun _ => fun
  | [d1, d2, d3, d4, d5, d6] => { results := [.lit (.bool true)], args := [d1, d2, d3, d4, d5, d6] }
  | _ => none }
def branchPlaceRow : OpenClaim := { program := "ythboanaogfmefaa", sum := "5ac77b37bc6b524f25fa6eaf6c7216315b89a25b9a556d7f9bd5a8969f951eb2", func := "coppice/coppicelaw5.BranchPlace", spec := "branchPlace", inPlace := ["internal/bytealg.Compare"], unfollowed := true, recurses := true, apart := false }
def BranchPlaceSaid : Prop := branchPlaceRow.holds Try.pinned (OpenSpec.ofChange branchPlaceSpec)

/-- ITS FALSE NEIGHBOUR: 'it returns false'. Refute it at one input. -/
def branchPlaceWrong : ChangeSpec := { name := "branchPlace", fn := fun _ => fun
  | [d1, d2, d3, d4, d5, d6] => { results := [.lit (.bool false)], args := [d1, d2, d3, d4, d5, d6] }
  | _ => none }
def BranchPlaceWrongFalsely : Prop := branchPlaceRow.holds Try.pinned (OpenSpec.ofChange branchPlaceWrong)

/-- 'coppicelaw5.BranchDecodes': WHATEVER THE INPUT: true; the input reads as it did. -/
def branchDecodesSpec : ChangeSpec := { name := "branchDecodes", fn := fun _ => fun
  | [d1, d2, d3, d4, d5] => { results := [.lit (.bool true)], args := [d1, d2, d3, d4, d5] }
  | _ => none }
def branchDecodesRow : OpenClaim := { program := "ythboanaogfmefaa", sum := "5ac77b37bc6b524f25fa6eaf6c7216315b89a25b9a556d7f9bd5a8969f951eb2", func := "coppice/coppicelaw5.BranchDecodes", spec := "branchDecodes", inPlace := ["internal/bytealg.Compare"], unfollowed := true, recurses := true, apart := false }
def BranchDecodesSaid : Prop := branchDecodesRow.holds Try.pinned (OpenSpec.ofChange branchDecodesSpec)

/-- ITS FALSE NEIGHBOUR: 'it returns false'. Refute it at one input. -/
def branchDecodesWrong : ChangeSpec := { name := "branchDecodes", fn := fun _ => fun
  | [d1, d2, d3, d4, d5] => { results := [.lit (.bool false)], args := [d1, d2, d3, d4, d5] }
  | _ => none }
def BranchDecodesWrongFalsely : Prop := branchDecodesRow.holds Try.pinned (OpenSpec.ofChange branchDecodesWrong)

/-- 'coppicelaw5.BranchBack': WHATEVER THE INPUT: true; the input reads as it did. -/
def branchBackSpec : ChangeSpec := { name := "branchBack", fn := fun _ => fun
  | [d1, d2, d3] => { results := [.lit (.bool true)], args := [d1, d2, d3] }
  | _ => none }
def branchBackRow : OpenClaim := { program := "ythboanaogfmefaa", sum := "5ac77b37bc6b524f25fa6eaf6c7216315b89a25b9a556d7f9bd5a8969f951eb2", func := "coppice/coppicelaw5.BranchBack", spec := "branchBack", inPlace := ["internal/bytealg.Compare"], unfollowed := true, recurses := true, apart := false }
def BranchBackSaid : Prop := branchBackRow.holds Try.pinned (OpenSpec.ofChange branchBackSpec)

/-- ITS FALSE NEIGHBOUR: 'it returns false'. Refute it at one input. -/
def branchBackWrong : ChangeSpec := { name := "branchBack", fn := fun _ => fun
  | [d1, d2, d3] => { results := [.lit (.bool false)], args := [d1, d2, d3] }
  | _ => none }
def BranchBackWrongFalsely : Prop := branchBackRow.holds Try.pinned (OpenSpec.ofChange branchBackWrong)

/-- 'coppicelaw5.BranchOneForm': WHATEVER THE INPUT: true; the input reads as it did. -/
def branchOneFormSpec : ChangeSpec := { name := "branchOneForm", fn := fun _ => fun
  | [d1, d2, d3, d4, d5, d6] => { results := [.lit (.bool true)], args := [d1, d2, d3, d4, d5, d6] }
  | _ => none }
def branchOneFormRow : OpenClaim := { program := "ythboanaogfmefaa", sum := "5ac77b37bc6b524f25fa6eaf6c7216315b89a25b9a556d7f9bd5a8969f951eb2", func := "coppice/coppicelaw5.BranchOneForm", spec := "branchOneForm", inPlace := ["internal/bytealg.Compare"], unfollowed := true, recurses := true, apart := false }
def BranchOneFormSaid : Prop := branchOneFormRow.holds Try.pinned (OpenSpec.ofChange branchOneFormSpec)

/-- ITS FALSE NEIGHBOUR: 'it returns false'. Refute it at one input. -/
def branchOneFormWrong : ChangeSpec := { name := "branchOneForm", fn := fun _ => fun
  | [d1, d2, d3, d4, d5, d6] => { results := [.lit (.bool false)], args := [d1, d2, d3, d4, d5, d6] }
  | _ => none }
def BranchOneFormWrongFalsely : Prop := branchOneFormRow.holds Try.pinned (OpenSpec.ofChange branchOneFormWrong)

/-- 'coppicelaw5.BranchKinds': WHATEVER THE INPUT: true; the input reads as it did. -/
def branchKindsSpec : ChangeSpec := { name := "branchKinds", fn := fun _ => fun
  | [d1, d2, d3, d4] => { results := [.lit (.bool true)], args := [d1, d2, d3, d4] }
  | _ => none }
def branchKindsRow : OpenClaim := { program := "ythboanaogfmefaa", sum := "5ac77b37bc6b524f25fa6eaf6c7216315b89a25b9a556d7f9bd5a8969f951eb2", func := "coppice/coppicelaw5.BranchKinds", spec := "branchKinds", inPlace := ["internal/bytealg.Compare"], unfollowed := true, recurses := true, apart := false }
def BranchKindsSaid : Prop := branchKindsRow.holds Try.pinned (OpenSpec.ofChange branchKindsSpec)

/-- ITS FALSE NEIGHBOUR: 'it returns false'. Refute it at one input. -/
def branchKindsWrong : ChangeSpec := { name := "branchKinds", fn := fun _ => fun
  | [d1, d2, d3, d4] => { results := [.lit (.bool false)], args := [d1, d2, d3, d4] }
  | _ => none }
def BranchKindsWrongFalsely : Prop := branchKindsRow.holds Try.pinned (OpenSpec.ofChange branchKindsWrong)

/-- 'coppicelaw5.BranchFewer': WHATEVER THE INPUT: true; the input reads as it did. -/
def branchFewerSpec : ChangeSpec := { name := "branchFewer", fn := fun _ => fun
  | [d1, d2] => { results := [.lit (.bool true)], args := [d1, d2] }
  | _ => none }
def branchFewerRow : OpenClaim := { program := "ythboanaogfmefaa", sum := "5ac77b37bc6b524f25fa6eaf6c7216315b89a25b9a556d7f9bd5a8969f951eb2", func := "coppice/coppicelaw5.BranchFewer", spec := "branchFewer", inPlace := ["internal/bytealg.Compare"], unfollowed := true, recurses := true, apart := false }
def BranchFewerSaid : Prop := branchFewerRow.holds Try.pinned (OpenSpec.ofChange branchFewerSpec)

/-- ITS FALSE NEIGHBOUR: 'it returns false'. Refute it at one input. -/
def branchFewerWrong : ChangeSpec := { name := "branchFewer", fn := fun _ => fun
  | [d1, d2] => { results := [.lit (.bool false)], args := [d1, d2] }
  | _ => none }
def BranchFewerWrongFalsely : Prop := branchFewerRow.holds Try.pinned (OpenSpec.ofChange branchFewerWrong)

/-- 'coppicelaw5.BranchLaid': WHATEVER THE INPUT: true; the input reads as it did. -/
def branchLaidSpec : ChangeSpec := { name := "branchLaid", fn := fun _ => fun
  | [d1, d2] => { results := [.lit (.bool true)], args := [d1, d2] }
  | _ => none }
def branchLaidRow : OpenClaim := { program := "ythboanaogfmefaa", sum := "5ac77b37bc6b524f25fa6eaf6c7216315b89a25b9a556d7f9bd5a8969f951eb2", func := "coppice/coppicelaw5.BranchLaid", spec := "branchLaid", inPlace := ["internal/bytealg.Compare"], unfollowed := true, recurses := true, apart := false }
def BranchLaidSaid : Prop := branchLaidRow.holds Try.pinned (OpenSpec.ofChange branchLaidSpec)

/-- ITS FALSE NEIGHBOUR: 'it returns false'. Refute it at one input. -/
def branchLaidWrong : ChangeSpec := { name := "branchLaid", fn := fun _ => fun
  | [d1, d2] => { results := [.lit (.bool false)], args := [d1, d2] }
  | _ => none }
def BranchLaidWrongFalsely : Prop := branchLaidRow.holds Try.pinned (OpenSpec.ofChange branchLaidWrong)

/- THE SECOND FORM. 'bulk': how many values and letters a reading holds, each counted each time it is reached (what is shared counts as often as it is met; a slice's spare places count too). A statement '..UptoSaid' is the law's where the arguments, and the package variables that the reading takes, are together of bulk at most 1048576: NARROWER than '..Said'. Prove '..Said' where nothing that the law and all that it calls make is longer than what came in: it says more and counts as full. Else prove '..UptoSaid'. A law counts once. -/
mutual
def uptoBulk {H : Type} : DataW H → Nat
  | .lit (.string bytes) => bytes.length + 1
  | .lit _ => 1
  | .nil => 1
  | .ptr d => uptoBulk d + 1
  | .slice elems spare => uptoBulkAll elems + uptoBulkAll spare + 1
  | .agg parts => uptoBulkAll parts + 1
  | .iface _ d => uptoBulk d + 1
  | .map entries => uptoBulkEntries entries + 1
  | .held _ => 1
def uptoBulkAll {H : Type} : List (DataW H) → Nat
  | [] => 0
  | d :: r => uptoBulk d + uptoBulkAll r
def uptoBulkEntries {H : Type} : List (Lit × DataW H) → Nat
  | [] => 0
  | x :: r => uptoBulkEntry x + uptoBulkEntries r
def uptoBulkEntry {H : Type} : Lit × DataW H → Nat
  | (.string bytes, d) => bytes.length + uptoBulk d + 1
  | (_, d) => uptoBulk d + 1
 end
def uptoSmall : (H : Type) → List (DataW H) → Bool := fun _ ds => decide (uptoBulkAll ds ≤ 1048576)
def OpenSpec.upto (s : _root_.Go.ChangeSpec) : _root_.Go.OpenSpec := { _root_.Go.OpenSpec.ofChange s with cond := some uptoSmall }

/-- 'coppicelaw5.BranchSizes', WHERE WHAT IT READS IS OF BULK AT MOST 1048576: true; the input reads as it did. -/
def branchSizesUptoRow : OpenClaim := { program := "ythboanaogfmefaa", sum := "5ac77b37bc6b524f25fa6eaf6c7216315b89a25b9a556d7f9bd5a8969f951eb2", func := "coppice/coppicelaw5.BranchSizes", spec := "branchSizes", inPlace := ["internal/bytealg.Compare"], unfollowed := true, recurses := true, apart := false, narrowed := true }
def BranchSizesUptoSaid : Prop := branchSizesUptoRow.holds Try.pinned (OpenSpec.upto branchSizesSpec)

/-- 'coppicelaw5.BranchEncodes', WHERE WHAT IT READS IS OF BULK AT MOST 1048576: true; the input reads as it did. -/
def branchEncodesUptoRow : OpenClaim := { program := "ythboanaogfmefaa", sum := "5ac77b37bc6b524f25fa6eaf6c7216315b89a25b9a556d7f9bd5a8969f951eb2", func := "coppice/coppicelaw5.BranchEncodes", spec := "branchEncodes", inPlace := ["internal/bytealg.Compare"], unfollowed := true, recurses := true, apart := false, narrowed := true }
def BranchEncodesUptoSaid : Prop := branchEncodesUptoRow.holds Try.pinned (OpenSpec.upto branchEncodesSpec)

/-- 'coppicelaw5.BranchPlace', WHERE WHAT IT READS IS OF BULK AT MOST 1048576: true; the input reads as it did. -/
def branchPlaceUptoRow : OpenClaim := { program := "ythboanaogfmefaa", sum := "5ac77b37bc6b524f25fa6eaf6c7216315b89a25b9a556d7f9bd5a8969f951eb2", func := "coppice/coppicelaw5.BranchPlace", spec := "branchPlace", inPlace := ["internal/bytealg.Compare"], unfollowed := true, recurses := true, apart := false, narrowed := true }
def BranchPlaceUptoSaid : Prop := branchPlaceUptoRow.holds Try.pinned (OpenSpec.upto branchPlaceSpec)

/-- 'coppicelaw5.BranchDecodes', WHERE WHAT IT READS IS OF BULK AT MOST 1048576: true; the input reads as it did. -/
def branchDecodesUptoRow : OpenClaim := { program := "ythboanaogfmefaa", sum := "5ac77b37bc6b524f25fa6eaf6c7216315b89a25b9a556d7f9bd5a8969f951eb2", func := "coppice/coppicelaw5.BranchDecodes", spec := "branchDecodes", inPlace := ["internal/bytealg.Compare"], unfollowed := true, recurses := true, apart := false, narrowed := true }
def BranchDecodesUptoSaid : Prop := branchDecodesUptoRow.holds Try.pinned (OpenSpec.upto branchDecodesSpec)

/-- 'coppicelaw5.BranchBack', WHERE WHAT IT READS IS OF BULK AT MOST 1048576: true; the input reads as it did. -/
def branchBackUptoRow : OpenClaim := { program := "ythboanaogfmefaa", sum := "5ac77b37bc6b524f25fa6eaf6c7216315b89a25b9a556d7f9bd5a8969f951eb2", func := "coppice/coppicelaw5.BranchBack", spec := "branchBack", inPlace := ["internal/bytealg.Compare"], unfollowed := true, recurses := true, apart := false, narrowed := true }
def BranchBackUptoSaid : Prop := branchBackUptoRow.holds Try.pinned (OpenSpec.upto branchBackSpec)

/-- 'coppicelaw5.BranchOneForm', WHERE WHAT IT READS IS OF BULK AT MOST 1048576: true; the input reads as it did. -/
def branchOneFormUptoRow : OpenClaim := { program := "ythboanaogfmefaa", sum := "5ac77b37bc6b524f25fa6eaf6c7216315b89a25b9a556d7f9bd5a8969f951eb2", func := "coppice/coppicelaw5.BranchOneForm", spec := "branchOneForm", inPlace := ["internal/bytealg.Compare"], unfollowed := true, recurses := true, apart := false, narrowed := true }
def BranchOneFormUptoSaid : Prop := branchOneFormUptoRow.holds Try.pinned (OpenSpec.upto branchOneFormSpec)

/-- 'coppicelaw5.BranchKinds', WHERE WHAT IT READS IS OF BULK AT MOST 1048576: true; the input reads as it did. -/
def branchKindsUptoRow : OpenClaim := { program := "ythboanaogfmefaa", sum := "5ac77b37bc6b524f25fa6eaf6c7216315b89a25b9a556d7f9bd5a8969f951eb2", func := "coppice/coppicelaw5.BranchKinds", spec := "branchKinds", inPlace := ["internal/bytealg.Compare"], unfollowed := true, recurses := true, apart := false, narrowed := true }
def BranchKindsUptoSaid : Prop := branchKindsUptoRow.holds Try.pinned (OpenSpec.upto branchKindsSpec)

/-- 'coppicelaw5.BranchFewer', WHERE WHAT IT READS IS OF BULK AT MOST 1048576: true; the input reads as it did. -/
def branchFewerUptoRow : OpenClaim := { program := "ythboanaogfmefaa", sum := "5ac77b37bc6b524f25fa6eaf6c7216315b89a25b9a556d7f9bd5a8969f951eb2", func := "coppice/coppicelaw5.BranchFewer", spec := "branchFewer", inPlace := ["internal/bytealg.Compare"], unfollowed := true, recurses := true, apart := false, narrowed := true }
def BranchFewerUptoSaid : Prop := branchFewerUptoRow.holds Try.pinned (OpenSpec.upto branchFewerSpec)

/-- 'coppicelaw5.BranchLaid', WHERE WHAT IT READS IS OF BULK AT MOST 1048576: true; the input reads as it did. -/
def branchLaidUptoRow : OpenClaim := { program := "ythboanaogfmefaa", sum := "5ac77b37bc6b524f25fa6eaf6c7216315b89a25b9a556d7f9bd5a8969f951eb2", func := "coppice/coppicelaw5.BranchLaid", spec := "branchLaid", inPlace := ["internal/bytealg.Compare"], unfollowed := true, recurses := true, apart := false, narrowed := true }
def BranchLaidUptoSaid : Prop := branchLaidUptoRow.holds Try.pinned (OpenSpec.upto branchLaidSpec)

end Rows
end Go.Proofs.Ythboanaogfmefaa
