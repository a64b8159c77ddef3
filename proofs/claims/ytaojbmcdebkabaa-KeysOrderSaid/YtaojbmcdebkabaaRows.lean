/-
  No cell of these rows narrows 'for every input' (looked for: loops, veiled, ifaces, maps, wideKeys, modest, calm, conditions, laid).
  DERIVED. THE GIVEN ROWS OF THIS SEAT. 7 by the template 'for every input the law returns true; each argument reads behind the call as it read before'; 0 by the template 'total and deterministic' (their statements: YtaojbmcdebkabaaTotals.lean).
  GIVEN WITH THE SEED: the statements are not yours to turn. If you find one false, say at which input.
  Laid BY PROGRAM, IN A SANDBOX (cutbox-rows.mjs): the forced cells as the released guide's own fill.sh prints them over the translation f7a03bb7efa9c5c5… (all of the seat's roots in one cut). By AI agents, Wed Nov 11 2026. No macro, syntax, notation, axiom, sorry.
-/
import Derived.Test.YtaojbmcdebkabaaChecked
import GoSem.Claim
import GoSem.ClaimJoined
import GoSem.ClaimMapViews
import Derived.JoinedTies
import Derived.KernelRfl
namespace Go.Proofs.Ytaojbmcdebkabaa
/- THE CELL 'sum', in the pinned program and in every row, IS THE sha256 OF THE DUMP (.gsa) THAT YtaojbmcdebkabaaProg.lean LOADS. Nothing in Lean hashes anything: it is a label: what it is worth is what the hold of that sum in a sandbox is worth. -/
noncomputable def Try.pinned : Pinned := { name := "ytaojbmcdebkabaa", sum := "f7a03bb7efa9c5c554e104d18d8a996200bfb2f15e95cd088664de2bc6fc271b", checked := Try.checked }
namespace Rows
def none {H : Type} : Left H := { results := [], args := [] }

/-- 'coppicelaw3.KeysCompares': WHATEVER THE INPUT: true; the input reads as it did. -/
def keysComparesSpec : ChangeSpec := { name := "keysCompares", fn := fun _ => fun
  | [d1, d2] => { results := [.lit (.bool true)], args := [d1, d2] }
  | _ => none }
def keysComparesRow : OpenClaim := { program := "ytaojbmcdebkabaa", sum := "f7a03bb7efa9c5c554e104d18d8a996200bfb2f15e95cd088664de2bc6fc271b", func := "coppice/coppicelaw3.KeysCompares", spec := "keysCompares", inPlace := ["internal/bytealg.Compare"], unfollowed := true, recurses := true, apart := false }
def KeysComparesSaid : Prop := keysComparesRow.holds Try.pinned (OpenSpec.ofChange keysComparesSpec)

/-- ITS FALSE NEIGHBOUR: 'it returns false'. Refute it at one input. -/
def keysComparesWrong : ChangeSpec := { name := "keysCompares", fn := fun _ => fun
  | [d1, d2] => { results := [.lit (.bool false)], args := [d1, d2] }
  | _ => none }
def KeysComparesWrongFalsely : Prop := keysComparesRow.holds Try.pinned (OpenSpec.ofChange keysComparesWrong)

/-- 'coppicelaw3.KeysCommon': WHATEVER THE INPUT: true; the input reads as it did. -/
def keysCommonSpec : ChangeSpec := { name := "keysCommon", fn := fun _ => fun
  | [d1, d2, d3] => { results := [.lit (.bool true)], args := [d1, d2, d3] }
  | _ => none }
def keysCommonRow : OpenClaim := { program := "ytaojbmcdebkabaa", sum := "f7a03bb7efa9c5c554e104d18d8a996200bfb2f15e95cd088664de2bc6fc271b", func := "coppice/coppicelaw3.KeysCommon", spec := "keysCommon", inPlace := ["internal/bytealg.Compare"], unfollowed := true, recurses := true, apart := false }
def KeysCommonSaid : Prop := keysCommonRow.holds Try.pinned (OpenSpec.ofChange keysCommonSpec)

/-- ITS FALSE NEIGHBOUR: 'it returns false'. Refute it at one input. -/
def keysCommonWrong : ChangeSpec := { name := "keysCommon", fn := fun _ => fun
  | [d1, d2, d3] => { results := [.lit (.bool false)], args := [d1, d2, d3] }
  | _ => none }
def KeysCommonWrongFalsely : Prop := keysCommonRow.holds Try.pinned (OpenSpec.ofChange keysCommonWrong)

/-- 'coppicelaw3.KeysSeparates': WHATEVER THE INPUT: true; the input reads as it did. -/
def keysSeparatesSpec : ChangeSpec := { name := "keysSeparates", fn := fun _ => fun
  | [d1, d2] => { results := [.lit (.bool true)], args := [d1, d2] }
  | _ => none }
def keysSeparatesRow : OpenClaim := { program := "ytaojbmcdebkabaa", sum := "f7a03bb7efa9c5c554e104d18d8a996200bfb2f15e95cd088664de2bc6fc271b", func := "coppice/coppicelaw3.KeysSeparates", spec := "keysSeparates", inPlace := ["internal/bytealg.Compare"], unfollowed := true, recurses := true, apart := false }
def KeysSeparatesSaid : Prop := keysSeparatesRow.holds Try.pinned (OpenSpec.ofChange keysSeparatesSpec)

/-- ITS FALSE NEIGHBOUR: 'it returns false'. Refute it at one input. -/
def keysSeparatesWrong : ChangeSpec := { name := "keysSeparates", fn := fun _ => fun
  | [d1, d2] => { results := [.lit (.bool false)], args := [d1, d2] }
  | _ => none }
def KeysSeparatesWrongFalsely : Prop := keysSeparatesRow.holds Try.pinned (OpenSpec.ofChange keysSeparatesWrong)

/-- 'coppicelaw3.KeysWithin': WHATEVER THE INPUT: true; the input reads as it did. -/
def keysWithinSpec : ChangeSpec := { name := "keysWithin", fn := fun _ => fun
  | [d1, d2, d3] => { results := [.lit (.bool true)], args := [d1, d2, d3] }
  | _ => none }
def keysWithinRow : OpenClaim := { program := "ytaojbmcdebkabaa", sum := "f7a03bb7efa9c5c554e104d18d8a996200bfb2f15e95cd088664de2bc6fc271b", func := "coppice/coppicelaw3.KeysWithin", spec := "keysWithin", inPlace := ["internal/bytealg.Compare"], unfollowed := true, recurses := true, apart := false }
def KeysWithinSaid : Prop := keysWithinRow.holds Try.pinned (OpenSpec.ofChange keysWithinSpec)

/-- ITS FALSE NEIGHBOUR: 'it returns false'. Refute it at one input. -/
def keysWithinWrong : ChangeSpec := { name := "keysWithin", fn := fun _ => fun
  | [d1, d2, d3] => { results := [.lit (.bool false)], args := [d1, d2, d3] }
  | _ => none }
def KeysWithinWrongFalsely : Prop := keysWithinRow.holds Try.pinned (OpenSpec.ofChange keysWithinWrong)

/-- 'coppicelaw3.KeysOrder': WHATEVER THE INPUT: true; the input reads as it did. -/
def keysOrderSpec : ChangeSpec := { name := "keysOrder", fn := fun _ => fun
  | [d1, d2, d3, d4] => { results := [.lit (.bool true)], args := [d1, d2, d3, d4] }
  | _ => none }
def keysOrderRow : OpenClaim := { program := "ytaojbmcdebkabaa", sum := "f7a03bb7efa9c5c554e104d18d8a996200bfb2f15e95cd088664de2bc6fc271b", func := "coppice/coppicelaw3.KeysOrder", spec := "keysOrder", inPlace := ["internal/bytealg.Compare"], unfollowed := true, recurses := true, apart := false }
def KeysOrderSaid : Prop := keysOrderRow.holds Try.pinned (OpenSpec.ofChange keysOrderSpec)

/-- ITS FALSE NEIGHBOUR: 'it returns false'. Refute it at one input. -/
def keysOrderWrong : ChangeSpec := { name := "keysOrder", fn := fun _ => fun
  | [d1, d2, d3, d4] => { results := [.lit (.bool false)], args := [d1, d2, d3, d4] }
  | _ => none }
def KeysOrderWrongFalsely : Prop := keysOrderRow.holds Try.pinned (OpenSpec.ofChange keysOrderWrong)

/-- 'coppicelaw3.KeysBetween': WHATEVER THE INPUT: true; the input reads as it did. -/
def keysBetweenSpec : ChangeSpec := { name := "keysBetween", fn := fun _ => fun
  | [d1, d2, d3] => { results := [.lit (.bool true)], args := [d1, d2, d3] }
  | _ => none }
def keysBetweenRow : OpenClaim := { program := "ytaojbmcdebkabaa", sum := "f7a03bb7efa9c5c554e104d18d8a996200bfb2f15e95cd088664de2bc6fc271b", func := "coppice/coppicelaw3.KeysBetween", spec := "keysBetween", inPlace := ["internal/bytealg.Compare"], unfollowed := true, recurses := true, apart := false }
def KeysBetweenSaid : Prop := keysBetweenRow.holds Try.pinned (OpenSpec.ofChange keysBetweenSpec)

/-- ITS FALSE NEIGHBOUR: 'it returns false'. Refute it at one input. -/
def keysBetweenWrong : ChangeSpec := { name := "keysBetween", fn := fun _ => fun
  | [d1, d2, d3] => { results := [.lit (.bool false)], args := [d1, d2, d3] }
  | _ => none }
def KeysBetweenWrongFalsely : Prop := keysBetweenRow.holds Try.pinned (OpenSpec.ofChange keysBetweenWrong)

/-- 'coppicelaw3.KeysPrefix': WHATEVER THE INPUT: true; the input reads as it did. -/
def keysPrefixSpec : ChangeSpec := { name := "keysPrefix", fn := fun _ => fun
  | [d1, d2, d3] => { results := [.lit (.bool true)], args := [d1, d2, d3] }
  | _ => none }
def keysPrefixRow : OpenClaim := { program := "ytaojbmcdebkabaa", sum := "f7a03bb7efa9c5c554e104d18d8a996200bfb2f15e95cd088664de2bc6fc271b", func := "coppice/coppicelaw3.KeysPrefix", spec := "keysPrefix", inPlace := ["internal/bytealg.Compare"], unfollowed := true, recurses := true, apart := false }
def KeysPrefixSaid : Prop := keysPrefixRow.holds Try.pinned (OpenSpec.ofChange keysPrefixSpec)

/-- ITS FALSE NEIGHBOUR: 'it returns false'. Refute it at one input. -/
def keysPrefixWrong : ChangeSpec := { name := "keysPrefix", fn := fun _ => fun
  | [d1, d2, d3] => { results := [.lit (.bool false)], args := [d1, d2, d3] }
  | _ => none }
def KeysPrefixWrongFalsely : Prop := keysPrefixRow.holds Try.pinned (OpenSpec.ofChange keysPrefixWrong)

/- THE SECOND FORM. 'bulk': how many values and letters a reading holds, each counted each time it is reached (what is shared counts as often as it is met; a slice's spare places count too). A statement '..UptoSaid' is the law's where the arguments, and the package variables that the reading takes, are together of bulk at most 1048576: NARROWER than '..Said'. Prove '..Said' where nothing that the law and all that it calls make is longer than what came in: it says more and counts as full. Else prove '..UptoSaid'. A law counts once. -/
mutual
def uptoBulk {H : Type} : DataW H → Nat
  | .lit (.string bytes) => bytes.length + 1
  | .lit _ => 1
  | .nil => 1
  | .ptr d => uptoBulk d + 1
  | .slice elems spare => uptoBulkAll elems + uptoBulkAll spare + 1
  | .agg parts => uptoBulkAll parts + 1
  | .iface _ d => uptoBulk d + 1
  | .map entries => uptoBulkEntries entries + 1
  | .held _ => 1
def uptoBulkAll {H : Type} : List (DataW H) → Nat
  | [] => 0
  | d :: r => uptoBulk d + uptoBulkAll r
def uptoBulkEntries {H : Type} : List (Lit × DataW H) → Nat
  | [] => 0
  | x :: r => uptoBulkEntry x + uptoBulkEntries r
def uptoBulkEntry {H : Type} : Lit × DataW H → Nat
  | (.string bytes, d) => bytes.length + uptoBulk d + 1
  | (_, d) => uptoBulk d + 1
 end
def uptoSmall : (H : Type) → List (DataW H) → Bool := fun _ ds => decide (uptoBulkAll ds ≤ 1048576)
def OpenSpec.upto (s : _root_.Go.ChangeSpec) : _root_.Go.OpenSpec := { _root_.Go.OpenSpec.ofChange s with cond := some uptoSmall }

/-- 'coppicelaw3.KeysCompares', WHERE WHAT IT READS IS OF BULK AT MOST 1048576: true; the input reads as it did. -/
def keysComparesUptoRow : OpenClaim := { program := "ytaojbmcdebkabaa", sum := "f7a03bb7efa9c5c554e104d18d8a996200bfb2f15e95cd088664de2bc6fc271b", func := "coppice/coppicelaw3.KeysCompares", spec := "keysCompares", inPlace := ["internal/bytealg.Compare"], unfollowed := true, recurses := true, apart := false, narrowed := true }
def KeysComparesUptoSaid : Prop := keysComparesUptoRow.holds Try.pinned (OpenSpec.upto keysComparesSpec)

/-- 'coppicelaw3.KeysCommon', WHERE WHAT IT READS IS OF BULK AT MOST 1048576: true; the input reads as it did. -/
def keysCommonUptoRow : OpenClaim := { program := "ytaojbmcdebkabaa", sum := "f7a03bb7efa9c5c554e104d18d8a996200bfb2f15e95cd088664de2bc6fc271b", func := "coppice/coppicelaw3.KeysCommon", spec := "keysCommon", inPlace := ["internal/bytealg.Compare"], unfollowed := true, recurses := true, apart := false, narrowed := true }
def KeysCommonUptoSaid : Prop := keysCommonUptoRow.holds Try.pinned (OpenSpec.upto keysCommonSpec)

/-- 'coppicelaw3.KeysSeparates', WHERE WHAT IT READS IS OF BULK AT MOST 1048576: true; the input reads as it did. -/
def keysSeparatesUptoRow : OpenClaim := { program := "ytaojbmcdebkabaa", sum := "f7a03bb7efa9c5c554e104d18d8a996200bfb2f15e95cd088664de2bc6fc271b", func := "coppice/coppicelaw3.KeysSeparates", spec := "keysSeparates", inPlace := ["internal/bytealg.Compare"], unfollowed := true, recurses := true, apart := false, narrowed := true }
def KeysSeparatesUptoSaid : Prop := keysSeparatesUptoRow.holds Try.pinned (OpenSpec.upto keysSeparatesSpec)

/-- 'coppicelaw3.KeysWithin', WHERE WHAT IT READS IS OF BULK AT MOST 1048576: true; the input reads as it did. -/
def keysWithinUptoRow : OpenClaim := { program := "ytaojbmcdebkabaa", sum := "f7a03bb7efa9c5c554e104d18d8a996200bfb2f15e95cd088664de2bc6fc271b", func := "coppice/coppicelaw3.KeysWithin", spec := "keysWithin", inPlace := ["internal/bytealg.Compare"], unfollowed := true, recurses := true, apart := false, narrowed := true }
def KeysWithinUptoSaid : Prop := keysWithinUptoRow.holds Try.pinned (OpenSpec.upto keysWithinSpec)

/-- 'coppicelaw3.KeysOrder', WHERE WHAT IT READS IS OF BULK AT MOST 1048576: true; the input reads as it did. -/
def keysOrderUptoRow : OpenClaim := { program := "ytaojbmcdebkabaa", sum := "f7a03bb7efa9c5c554e104d18d8a996200bfb2f15e95cd088664de2bc6fc271b", func := "coppice/coppicelaw3.KeysOrder", spec := "keysOrder", inPlace := ["internal/bytealg.Compare"], unfollowed := true, recurses := true, apart := false, narrowed := true }
def KeysOrderUptoSaid : Prop := keysOrderUptoRow.holds Try.pinned (OpenSpec.upto keysOrderSpec)

/-- 'coppicelaw3.KeysBetween', WHERE WHAT IT READS IS OF BULK AT MOST 1048576: true; the input reads as it did. -/
def keysBetweenUptoRow : OpenClaim := { program := "ytaojbmcdebkabaa", sum := "f7a03bb7efa9c5c554e104d18d8a996200bfb2f15e95cd088664de2bc6fc271b", func := "coppice/coppicelaw3.KeysBetween", spec := "keysBetween", inPlace := ["internal/bytealg.Compare"], unfollowed := true, recurses := true, apart := false, narrowed := true }
def KeysBetweenUptoSaid : Prop := keysBetweenUptoRow.holds Try.pinned (OpenSpec.upto keysBetweenSpec)

/-- 'coppicelaw3.KeysPrefix', WHERE WHAT IT READS IS OF BULK AT MOST 1048576: true; the input reads as it did. -/
def keysPrefixUptoRow : OpenClaim := { program := "ytaojbmcdebkabaa", sum := "f7a03bb7efa9c5c554e104d18d8a996200bfb2f15e95cd088664de2bc6fc271b", func := "coppice/coppicelaw3.KeysPrefix", spec := "keysPrefix", inPlace := ["internal/bytealg.Compare"], unfollowed := true, recurses := true, apart := false, narrowed := true }
def KeysPrefixUptoSaid : Prop := keysPrefixUptoRow.holds Try.pinned (OpenSpec.upto keysPrefixSpec)

end Rows
end Go.Proofs.Ytaojbmcdebkabaa
