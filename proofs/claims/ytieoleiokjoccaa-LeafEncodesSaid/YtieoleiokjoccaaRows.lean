/-
  No cell of these rows narrows 'for every input' (looked for: loops, veiled, ifaces, maps, wideKeys, modest, calm, conditions, laid).
  DERIVED. THE GIVEN ROWS OF THIS SEAT. 8 by the template 'for every input the law returns true; each argument reads behind the call as it read before'; 0 by the template 'total and deterministic' (their statements: YtieoleiokjoccaaTotals.lean).
  GIVEN WITH THE SEED: the statements are not yours to turn. If you find one false, say at which input.
  Laid BY PROGRAM, IN A SANDBOX (cutbox-rows.mjs): the forced cells as the released guide's own fill.sh prints them over the translation e7a26c237a80c732… (all of the seat's roots in one cut). By AI agents, Wed Nov 11 2026. No macro, syntax, notation, axiom, sorry.
-/
import Derived.Test.YtieoleiokjoccaaChecked
import GoSem.Claim
import GoSem.ClaimJoined
import GoSem.ClaimMapViews
import Derived.JoinedTies
import Derived.KernelRfl
namespace Go.Proofs.Ytieoleiokjoccaa
/- THE CELL 'sum', in the pinned program and in every row, IS THE sha256 OF THE DUMP (.gsa) THAT YtieoleiokjoccaaProg.lean LOADS. Nothing in Lean hashes anything: it is a label: what it is worth is what the hold of that sum in a sandbox is worth. -/
noncomputable def Try.pinned : Pinned := { name := "ytieoleiokjoccaa", sum := "e7a26c237a80c7329694232de723d303382f2c0e667bd25b0ca64ba8defbeb38", checked := Try.checked }
namespace Rows
def none {H : Type} : Left H := { results := [], args := [] }

/-- 'coppicelaw4.LeafSizes': WHATEVER THE INPUT: true; the input reads as it did. -/
def leafSizesSpec : ChangeSpec := { name := "leafSizes", fn := fun _ => fun
  | [d1, d2] => { results := [.lit (.bool true)], args := [d1, d2] }
  | _ => none }
def leafSizesRow : OpenClaim := { program := "ytieoleiokjoccaa", sum := "e7a26c237a80c7329694232de723d303382f2c0e667bd25b0ca64ba8defbeb38", func := "coppice/coppicelaw4.LeafSizes", spec := "leafSizes", inPlace := ["internal/bytealg.Compare"], unfollowed := true, recurses := true, apart := false }
def LeafSizesSaid : Prop := leafSizesRow.holds Try.pinned (OpenSpec.ofChange leafSizesSpec)

/-- ITS FALSE NEIGHBOUR: 'it returns false'. Refute it at one input. -/
def leafSizesWrong : ChangeSpec := { name := "leafSizes", fn := fun _ => fun
  | [d1, d2] => { results := [.lit (.bool false)], args := [d1, d2] }
  | _ => none }
def LeafSizesWrongFalsely : Prop := leafSizesRow.holds Try.pinned (OpenSpec.ofChange leafSizesWrong)

/-- 'coppicelaw4.LeafEncodes': WHATEVER THE INPUT: true; the input reads as it did. -/
def leafEncodesSpec : ChangeSpec := { name := "leafEncodes", fn := fun _ => fun
  | [d1, d2] => { results := [.lit (.bool true)], args := [d1, d2] }
  | _ => none }
def leafEncodesRow : OpenClaim := { program := "ytieoleiokjoccaa", sum := "e7a26c237a80c7329694232de723d303382f2c0e667bd25b0ca64ba8defbeb38", func := "coppice/coppicelaw4.LeafEncodes", spec := "leafEncodes", inPlace := ["internal/bytealg.Compare"], unfollowed := true, recurses := true, apart := false }
def LeafEncodesSaid : Prop := leafEncodesRow.holds Try.pinned (OpenSpec.ofChange leafEncodesSpec)

/-- ITS FALSE NEIGHBOUR: 'it returns false'. Refute it at one input. -/
def leafEncodesWrong : ChangeSpec := { name := "leafEncodes", fn := fun _ => fun
  | [d1, d2] => { results := [.lit (.bool false)], args := [d1, d2] }
  | _ => none }
def LeafEncodesWrongFalsely : Prop := leafEncodesRow.holds Try.pinned (OpenSpec.ofChange leafEncodesWrong)

/-- 'coppicelaw4.LeafDecodes': WHATEVER THE INPUT: true; the input reads as it did. -/
def leafDecodesSpec : ChangeSpec := { name := "leafDecodes", fn := fun _ => fun
  | [d1, d2, d3] => { results := [.lit (.bool true)], args := [d1, d2, d3] }
  | _ => none }
def leafDecodesRow : OpenClaim := { program := "ytieoleiokjoccaa", sum := "e7a26c237a80c7329694232de723d303382f2c0e667bd25b0ca64ba8defbeb38", func := "coppice/coppicelaw4.LeafDecodes", spec := "leafDecodes", inPlace := ["internal/bytealg.Compare"], unfollowed := true, recurses := true, apart := false }
def LeafDecodesSaid : Prop := leafDecodesRow.holds Try.pinned (OpenSpec.ofChange leafDecodesSpec)

/-- ITS FALSE NEIGHBOUR: 'it returns false'. Refute it at one input. -/
def leafDecodesWrong : ChangeSpec := { name := "leafDecodes", fn := fun _ => fun
  | [d1, d2, d3] => { results := [.lit (.bool false)], args := [d1, d2, d3] }
  | _ => none }
def LeafDecodesWrongFalsely : Prop := leafDecodesRow.holds Try.pinned (OpenSpec.ofChange leafDecodesWrong)

/-- 'coppicelaw4.LeafBack': WHATEVER THE INPUT: true; the input reads as it did. -/
def leafBackSpec : ChangeSpec := { name := "leafBack", fn := fun _ => fun
  | [d1, d2] => { results := [.lit (.bool true)], args := [d1, d2] }
  | _ => none }
def leafBackRow : OpenClaim := { program := "ytieoleiokjoccaa", sum := "e7a26c237a80c7329694232de723d303382f2c0e667bd25b0ca64ba8defbeb38", func := "coppice/coppicelaw4.LeafBack", spec := "leafBack", inPlace := ["internal/bytealg.Compare"], unfollowed := true, recurses := true, apart := false }
def LeafBackSaid : Prop := leafBackRow.holds Try.pinned (OpenSpec.ofChange leafBackSpec)

/-- ITS FALSE NEIGHBOUR: 'it returns false'. Refute it at one input. -/
def leafBackWrong : ChangeSpec := { name := "leafBack", fn := fun _ => fun
  | [d1, d2] => { results := [.lit (.bool false)], args := [d1, d2] }
  | _ => none }
def LeafBackWrongFalsely : Prop := leafBackRow.holds Try.pinned (OpenSpec.ofChange leafBackWrong)

/-- 'coppicelaw4.LeafUnlike': WHATEVER THE INPUT: true; the input reads as it did. -/
def leafUnlikeSpec : ChangeSpec := { name := "leafUnlike", fn := fun _ => fun
  | [d1, d2] => { results := [.lit (.bool true)], args := [d1, d2] }
  | _ => none }
def leafUnlikeRow : OpenClaim := { program := "ytieoleiokjoccaa", sum := "e7a26c237a80c7329694232de723d303382f2c0e667bd25b0ca64ba8defbeb38", func := "coppice/coppicelaw4.LeafUnlike", spec := "leafUnlike", inPlace := ["internal/bytealg.Compare"], unfollowed := true, recurses := true, apart := false }
def LeafUnlikeSaid : Prop := leafUnlikeRow.holds Try.pinned (OpenSpec.ofChange leafUnlikeSpec)

/-- ITS FALSE NEIGHBOUR: 'it returns false'. Refute it at one input. -/
def leafUnlikeWrong : ChangeSpec := { name := "leafUnlike", fn := fun _ => fun
  | [d1, d2] => { results := [.lit (.bool false)], args := [d1, d2] }
  | _ => none }
def LeafUnlikeWrongFalsely : Prop := leafUnlikeRow.holds Try.pinned (OpenSpec.ofChange leafUnlikeWrong)

/-- 'coppicelaw4.LeafGrows': WHATEVER THE INPUT: true; the input reads as it did. -/
def leafGrowsSpec : ChangeSpec := { name := "leafGrows", fn := fun _ => fun
  | [d1, d2] => { results := [.lit (.bool true)], args := [d1, d2] }
  | _ => none }
def leafGrowsRow : OpenClaim := { program := "ytieoleiokjoccaa", sum := "e7a26c237a80c7329694232de723d303382f2c0e667bd25b0ca64ba8defbeb38", func := "coppice/coppicelaw4.LeafGrows", spec := "leafGrows", inPlace := ["internal/bytealg.Compare"], unfollowed := true, recurses := true, apart := false }
def LeafGrowsSaid : Prop := leafGrowsRow.holds Try.pinned (OpenSpec.ofChange leafGrowsSpec)

/-- ITS FALSE NEIGHBOUR: 'it returns false'. Refute it at one input. -/
def leafGrowsWrong : ChangeSpec := { name := "leafGrows", fn := fun _ => fun
  | [d1, d2] => { results := [.lit (.bool false)], args := [d1, d2] }
  | _ => none }
def LeafGrowsWrongFalsely : Prop := leafGrowsRow.holds Try.pinned (OpenSpec.ofChange leafGrowsWrong)

/-- 'coppicelaw4.LeafLaid': WHATEVER THE INPUT: true; the input reads as it did. -/
def leafLaidSpec : ChangeSpec := { name := "leafLaid", fn := fun _ => fun
  | [d] => { results := [.lit (.bool true)], args := [d] }
  | _ => none }
def leafLaidRow : OpenClaim := { program := "ytieoleiokjoccaa", sum := "e7a26c237a80c7329694232de723d303382f2c0e667bd25b0ca64ba8defbeb38", func := "coppice/coppicelaw4.LeafLaid", spec := "leafLaid", inPlace := ["internal/bytealg.Compare"], unfollowed := true, recurses := true, apart := false }
def LeafLaidSaid : Prop := leafLaidRow.holds Try.pinned (OpenSpec.ofChange leafLaidSpec)

/-- ITS FALSE NEIGHBOUR: 'it returns false'. Refute it at one input. -/
def leafLaidWrong : ChangeSpec := { name := "leafLaid", fn := fun _ => fun
  | [d] => { results := [.lit (.bool false)], args := [d] }
  | _ => none }
def LeafLaidWrongFalsely : Prop := leafLaidRow.holds Try.pinned (OpenSpec.ofChange leafLaidWrong)

/-- 'coppicelaw4.LeafByte': WHATEVER THE INPUT: true; the input reads as it did. -/
def leafByteSpec : ChangeSpec := { name := "leafByte", fn := fun _ => fun
  | [d1, d2, d3] => { results := [.lit (.bool true)], args := [d1, d2, d3] }
  | _ => none }
def leafByteRow : OpenClaim := { program := "ytieoleiokjoccaa", sum := "e7a26c237a80c7329694232de723d303382f2c0e667bd25b0ca64ba8defbeb38", func := "coppice/coppicelaw4.LeafByte", spec := "leafByte", inPlace := ["internal/bytealg.Compare"], unfollowed := true, recurses := true, apart := false }
def LeafByteSaid : Prop := leafByteRow.holds Try.pinned (OpenSpec.ofChange leafByteSpec)

/-- ITS FALSE NEIGHBOUR: 'it returns false'. Refute it at one input. -/
def leafByteWrong : ChangeSpec := { name := "leafByte", fn := fun _ => fun
  | [d1, d2, d3] => { results := [.lit (.bool false)], args := [d1, d2, d3] }
  | _ => none }
def LeafByteWrongFalsely : Prop := leafByteRow.holds Try.pinned (OpenSpec.ofChange leafByteWrong)

/- THE SECOND FORM. 'bulk': how many values and letters a reading holds, each counted each time it is reached (what is shared counts as often as it is met; a slice's spare places count too). A statement '..UptoSaid' is the law's where the arguments, and the package variables that the reading takes, are together of bulk at most 1048576: NARROWER than '..Said'. Prove '..Said' where nothing that the law and all that it calls make is longer than what came in: it says more and counts as full. Else prove '..UptoSaid'. A law counts once. -/
mutual
def uptoBulk {H : Type} : DataW H → Nat
  | .lit (.string bytes) => bytes.length + 1
  | .lit _ => 1
  | .nil => 1
  | .ptr d => uptoBulk d + 1
  | .slice elems spare => uptoBulkAll elems + uptoBulkAll spare + 1
  | .agg parts => uptoBulkAll parts + 1
  | .iface _ d => uptoBulk d + 1
  | .map entries => uptoBulkEntries entries + 1
  | .held _ => 1
def uptoBulkAll {H : Type} : List (DataW H) → Nat
  | [] => 0
  | d :: r => uptoBulk d + uptoBulkAll r
def uptoBulkEntries {H : Type} : List (Lit × DataW H) → Nat
  | [] => 0
  | x :: r => uptoBulkEntry x + uptoBulkEntries r
def uptoBulkEntry {H : Type} : Lit × DataW H → Nat
  | (.string bytes, d) => bytes.length + uptoBulk d + 1
  | (_, d) => uptoBulk d + 1
 end
def uptoSmall : (H : Type) → List (DataW H) → Bool := fun _ ds => decide (uptoBulkAll ds ≤ 1048576)
def OpenSpec.upto (s : _root_.Go.ChangeSpec) : _root_.Go.OpenSpec := { _root_.Go.OpenSpec.ofChange s with cond := some uptoSmall }

/-- 'coppicelaw4.LeafSizes', WHERE WHAT IT READS IS OF BULK AT MOST 1048576: true; the input reads as it did. -/
def leafSizesUptoRow : OpenClaim := { program := "ytieoleiokjoccaa", sum := "e7a26c237a80c7329694232de723d303382f2c0e667bd25b0ca64ba8defbeb38", func := "coppice/coppicelaw4.LeafSizes", spec := "leafSizes", inPlace := ["internal/bytealg.Compare"], unfollowed := true, recurses := true, apart := false, narrowed := true }
def LeafSizesUptoSaid : Prop := leafSizesUptoRow.holds Try.pinned (OpenSpec.upto leafSizesSpec)

/-- 'coppicelaw4.LeafEncodes', WHERE WHAT IT READS IS OF BULK AT MOST 1048576: true; the input reads as it did. -/
def leafEncodesUptoRow : OpenClaim := { program := "ytieoleiokjoccaa", sum := "e7a26c237a80c7329694232de723d303382f2c0e667bd25b0ca64ba8defbeb38", func := "coppice/coppicelaw4.LeafEncodes", spec := "leafEncodes", inPlace := ["internal/bytealg.Compare"], unfollowed := true, recurses := true, apart := false, narrowed := true }
def LeafEncodesUptoSaid : Prop := leafEncodesUptoRow.holds Try.pinned (OpenSpec.upto leafEncodesSpec)

/-- 'coppicelaw4.LeafDecodes', WHERE WHAT IT READS IS OF BULK AT MOST 1048576: true; the input reads as it did. -/
def leafDecodesUptoRow : OpenClaim := { program := "ytieoleiokjoccaa", sum := "e7a26c237a80c7329694232de723d303382f2c0e667bd25b0ca64ba8defbeb38", func := "coppice/coppicelaw4.LeafDecodes", spec := "leafDecodes", inPlace := ["internal/bytealg.Compare"], unfollowed := true, recurses := true, apart := false, narrowed := true }
def LeafDecodesUptoSaid : Prop := leafDecodesUptoRow.holds Try.pinned (OpenSpec.upto leafDecodesSpec)

/-- 'coppicelaw4.LeafBack', WHERE WHAT IT READS IS OF BULK AT MOST 1048576: true; the input reads as it did. -/
def leafBackUptoRow : OpenClaim := { program := "ytieoleiokjoccaa", sum := "e7a26c237a80c7329694232de723d303382f2c0e667bd25b0ca64ba8defbeb38", func := "coppice/coppicelaw4.LeafBack", spec := "leafBack", inPlace := ["internal/bytealg.Compare"], unfollowed := true, recurses := true, apart := false, narrowed := true }
def LeafBackUptoSaid : Prop := leafBackUptoRow.holds Try.pinned (OpenSpec.upto leafBackSpec)

/-- 'coppicelaw4.LeafUnlike', WHERE WHAT IT READS IS OF BULK AT MOST 1048576: true; the input reads as it did. -/
def leafUnlikeUptoRow : OpenClaim := { program := "ytieoleiokjoccaa", sum := "e7a26c237a80c7329694232de723d303382f2c0e667bd25b0ca64ba8defbeb38", func := "coppice/coppicelaw4.LeafUnlike", spec := "leafUnlike", inPlace := ["internal/bytealg.Compare"], unfollowed := true, recurses := true, apart := false, narrowed := true }
def LeafUnlikeUptoSaid : Prop := leafUnlikeUptoRow.holds Try.pinned (OpenSpec.upto leafUnlikeSpec)

/-- 'coppicelaw4.LeafGrows', WHERE WHAT IT READS IS OF BULK AT MOST 1048576: true; the input reads as it did. -/
def leafGrowsUptoRow : OpenClaim := { program := "ytieoleiokjoccaa", sum := "e7a26c237a80c7329694232de723d303382f2c0e667bd25b0ca64ba8defbeb38", func := "coppice/coppicelaw4.LeafGrows", spec := "leafGrows", inPlace := ["internal/bytealg.Compare"], unfollowed := true, recurses := true, apart := false, narrowed := true }
def LeafGrowsUptoSaid : Prop := leafGrowsUptoRow.holds Try.pinned (OpenSpec.upto leafGrowsSpec)

/-- 'coppicelaw4.LeafLaid', WHERE WHAT IT READS IS OF BULK AT MOST 1048576: true; the input reads as it did. -/
def leafLaidUptoRow : OpenClaim := { program := "ytieoleiokjoccaa", sum := "e7a26c237a80c7329694232de723d303382f2c0e667bd25b0ca64ba8defbeb38", func := "coppice/coppicelaw4.LeafLaid", spec := "leafLaid", inPlace := ["internal/bytealg.Compare"], unfollowed := true, recurses := true, apart := false, narrowed := true }
def LeafLaidUptoSaid : Prop := leafLaidUptoRow.holds Try.pinned (OpenSpec.upto leafLaidSpec)

/-- 'coppicelaw4.LeafByte', WHERE WHAT IT READS IS OF BULK AT MOST 1048576: true; the input reads as it did. -/
def leafByteUptoRow : OpenClaim := { program := "ytieoleiokjoccaa", sum := "e7a26c237a80c7329694232de723d303382f2c0e667bd25b0ca64ba8defbeb38", func := "coppice/coppicelaw4.LeafByte", spec := "leafByte", inPlace := ["internal/bytealg.Compare"], unfollowed := true, recurses := true, apart := false, narrowed := true }
def LeafByteUptoSaid : Prop := leafByteUptoRow.holds Try.pinned (OpenSpec.upto leafByteSpec)

end Rows
end Go.Proofs.Ytieoleiokjoccaa
