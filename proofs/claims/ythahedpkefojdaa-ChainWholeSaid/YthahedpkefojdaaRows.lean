/-
  No cell of these rows narrows 'for every input' (looked for: loops, veiled, ifaces, maps, wideKeys, modest, calm, conditions, laid).
  DERIVED. THE GIVEN ROWS OF THIS SEAT. 6 by the template 'for every input the law returns true; each argument reads behind the call as it read before'; 0 by the template 'total and deterministic' (their statements: YthahedpkefojdaaTotals.lean).
  GIVEN WITH THE SEED: the statements are not yours to turn. If you find one false, say at which input.
  Laid BY PROGRAM, IN A SANDBOX (cutbox-rows.mjs): the forced cells as the released guide's own fill.sh prints them over the translation 87b12e0aede72623… (all of the seat's roots in one cut). By AI agents, Wed Nov 11 2026. No macro, syntax, notation, axiom, sorry.
-/
import Derived.Test.YthahedpkefojdaaChecked
import GoSem.Claim
import GoSem.ClaimJoined
import GoSem.ClaimMapViews
import Derived.JoinedTies
import Derived.KernelRfl
namespace Go.Proofs.Ythahedpkefojdaa
/- THE CELL 'sum', in the pinned program and in every row, IS THE sha256 OF THE DUMP (.gsa) THAT YthahedpkefojdaaProg.lean LOADS. Nothing in Lean hashes anything: it is a label: what it is worth is what the hold of that sum in a sandbox is worth. -/
noncomputable def Try.pinned : Pinned := { name := "ythahedpkefojdaa", sum := "87b12e0aede72623be23ec686a9dbd15b2b534ad935039eb5a84442b6cec3144", checked := Try.checked }
namespace Rows
def none {H : Type} : Left H := { results := [], args := [] }

/-- 'coppicelaw6.ChainData': WHATEVER THE INPUT: true; the input reads as it did. -/
def chainDataSpec : ChangeSpec := { name := "chainData", fn := fun _ => fun
  | [d1, d2] => { results := [.lit (.bool true)], args := [d1, d2] }
  | _ => none }
def chainDataRow : OpenClaim := { program := "ythahedpkefojdaa", sum := "87b12e0aede72623be23ec686a9dbd15b2b534ad935039eb5a84442b6cec3144", func := "coppice/coppicelaw6.ChainData", spec := "chainData", apart := false }
def ChainDataSaid : Prop := chainDataRow.holds Try.pinned (OpenSpec.ofChange chainDataSpec)

/-- ITS FALSE NEIGHBOUR: 'it returns false'. Refute it at one input. -/
def chainDataWrong : ChangeSpec := { name := "chainData", fn := fun _ => fun
  | [d1, d2] => { results := [.lit (.bool false)], args := [d1, d2] }
  | _ => none }
def ChainDataWrongFalsely : Prop := chainDataRow.holds Try.pinned (OpenSpec.ofChange chainDataWrong)

/-- 'coppicelaw6.ChainList': WHATEVER THE INPUT: true; the input reads as it did. -/
def chainListSpec : ChangeSpec := { name := "chainList", fn := fun _ => fun
  | [d1, d2] => { results := [.lit (.bool true)], args := [d1, d2] }
  | _ => none }
def chainListRow : OpenClaim := { program := "ythahedpkefojdaa", sum := "87b12e0aede72623be23ec686a9dbd15b2b534ad935039eb5a84442b6cec3144", func := "coppice/coppicelaw6.ChainList", spec := "chainList", apart := false }
def ChainListSaid : Prop := chainListRow.holds Try.pinned (OpenSpec.ofChange chainListSpec)

/-- ITS FALSE NEIGHBOUR: 'it returns false'. Refute it at one input. -/
def chainListWrong : ChangeSpec := { name := "chainList", fn := fun _ => fun
  | [d1, d2] => { results := [.lit (.bool false)], args := [d1, d2] }
  | _ => none }
def ChainListWrongFalsely : Prop := chainListRow.holds Try.pinned (OpenSpec.ofChange chainListWrong)

/-- 'coppicelaw6.ChainPages': WHATEVER THE INPUT: true; the input reads as it did. -/
def chainPagesSpec : ChangeSpec := { name := "chainPages", fn := fun _ => fun
  | [d1, d2] => { results := [.lit (.bool true)], args := [d1, d2] }
  | _ => none }
def chainPagesRow : OpenClaim := { program := "ythahedpkefojdaa", sum := "87b12e0aede72623be23ec686a9dbd15b2b534ad935039eb5a84442b6cec3144", func := "coppice/coppicelaw6.ChainPages", spec := "chainPages", apart := false }
def ChainPagesSaid : Prop := chainPagesRow.holds Try.pinned (OpenSpec.ofChange chainPagesSpec)

/-- ITS FALSE NEIGHBOUR: 'it returns false'. Refute it at one input. -/
def chainPagesWrong : ChangeSpec := { name := "chainPages", fn := fun _ => fun
  | [d1, d2] => { results := [.lit (.bool false)], args := [d1, d2] }
  | _ => none }
def ChainPagesWrongFalsely : Prop := chainPagesRow.holds Try.pinned (OpenSpec.ofChange chainPagesWrong)

/-- 'coppicelaw6.ChainWhole': WHATEVER THE INPUT: true; the input reads as it did. -/
def chainWholeSpec : ChangeSpec := { name := "chainWhole", fn := fun _ => fun
  | [d1, d2] => { results := [.lit (.bool true)], args := [d1, d2] }
  | _ => none }
def chainWholeRow : OpenClaim := { program := "ythahedpkefojdaa", sum := "87b12e0aede72623be23ec686a9dbd15b2b534ad935039eb5a84442b6cec3144", func := "coppice/coppicelaw6.ChainWhole", spec := "chainWhole", apart := false }
def ChainWholeSaid : Prop := chainWholeRow.holds Try.pinned (OpenSpec.ofChange chainWholeSpec)

/-- ITS FALSE NEIGHBOUR: 'it returns false'. Refute it at one input. -/
def chainWholeWrong : ChangeSpec := { name := "chainWhole", fn := fun _ => fun
  | [d1, d2] => { results := [.lit (.bool false)], args := [d1, d2] }
  | _ => none }
def ChainWholeWrongFalsely : Prop := chainWholeRow.holds Try.pinned (OpenSpec.ofChange chainWholeWrong)

/-- 'coppicelaw6.ChainReads': WHATEVER THE INPUT: true; the input reads as it did. -/
def chainReadsSpec : ChangeSpec := { name := "chainReads", fn := fun _ => fun
  | [d] => { results := [.lit (.bool true)], args := [d] }
  | _ => none }
def chainReadsRow : OpenClaim := { program := "ythahedpkefojdaa", sum := "87b12e0aede72623be23ec686a9dbd15b2b534ad935039eb5a84442b6cec3144", func := "coppice/coppicelaw6.ChainReads", spec := "chainReads", apart := false }
def ChainReadsSaid : Prop := chainReadsRow.holds Try.pinned (OpenSpec.ofChange chainReadsSpec)

/-- ITS FALSE NEIGHBOUR: 'it returns false'. Refute it at one input. -/
def chainReadsWrong : ChangeSpec := { name := "chainReads", fn := fun _ => fun
  | [d] => { results := [.lit (.bool false)], args := [d] }
  | _ => none }
def ChainReadsWrongFalsely : Prop := chainReadsRow.holds Try.pinned (OpenSpec.ofChange chainReadsWrong)

/-- 'coppicelaw6.ChainBack': WHATEVER THE INPUT: true; the input reads as it did. -/
def chainBackSpec : ChangeSpec := { name := "chainBack", fn := fun _ => fun
  | [d1, d2, d3, d4] => { results := [.lit (.bool true)], args := [d1, d2, d3, d4] }
  | _ => none }
def chainBackRow : OpenClaim := { program := "ythahedpkefojdaa", sum := "87b12e0aede72623be23ec686a9dbd15b2b534ad935039eb5a84442b6cec3144", func := "coppice/coppicelaw6.ChainBack", spec := "chainBack", apart := false }
def ChainBackSaid : Prop := chainBackRow.holds Try.pinned (OpenSpec.ofChange chainBackSpec)

/-- ITS FALSE NEIGHBOUR: 'it returns false'. Refute it at one input. -/
def chainBackWrong : ChangeSpec := { name := "chainBack", fn := fun _ => fun
  | [d1, d2, d3, d4] => { results := [.lit (.bool false)], args := [d1, d2, d3, d4] }
  | _ => none }
def ChainBackWrongFalsely : Prop := chainBackRow.holds Try.pinned (OpenSpec.ofChange chainBackWrong)

/- THE SECOND FORM. 'bulk': how many values and letters a reading holds, each counted each time it is reached (what is shared counts as often as it is met; a slice's spare places count too). A statement '..UptoSaid' is the law's where the arguments, and the package variables that the reading takes, are together of bulk at most 1048576: NARROWER than '..Said'. Prove '..Said' where nothing that the law and all that it calls make is longer than what came in: it says more and counts as full. Else prove '..UptoSaid'. A law counts once. -/
mutual
def uptoBulk {H : Type} : DataW H → Nat
  | .lit (.string bytes) => bytes.length + 1
  | .lit _ => 1
  | .nil => 1
  | .ptr d => uptoBulk d + 1
  | .slice elems spare => uptoBulkAll elems + uptoBulkAll spare + 1
  | .agg parts => uptoBulkAll parts + 1
  | .iface _ d => uptoBulk d + 1
  | .map entries => uptoBulkEntries entries + 1
  | .held _ => 1
def uptoBulkAll {H : Type} : List (DataW H) → Nat
  | [] => 0
  | d :: r => uptoBulk d + uptoBulkAll r
def uptoBulkEntries {H : Type} : List (Lit × DataW H) → Nat
  | [] => 0
  | x :: r => uptoBulkEntry x + uptoBulkEntries r
def uptoBulkEntry {H : Type} : Lit × DataW H → Nat
  | (.string bytes, d) => bytes.length + uptoBulk d + 1
  | (_, d) => uptoBulk d + 1
 end
def uptoSmall : (H : Type) → List (DataW H) → Bool := fun _ ds => decide (uptoBulkAll ds ≤ 1048576)
def OpenSpec.upto (s : _root_.Go.ChangeSpec) : _root_.Go.OpenSpec := { _root_.Go.OpenSpec.ofChange s with cond := some uptoSmall }

/-- 'coppicelaw6.ChainData', WHERE WHAT IT READS IS OF BULK AT MOST 1048576: true; the input reads as it did. -/
def chainDataUptoRow : OpenClaim := { program := "ythahedpkefojdaa", sum := "87b12e0aede72623be23ec686a9dbd15b2b534ad935039eb5a84442b6cec3144", func := "coppice/coppicelaw6.ChainData", spec := "chainData", apart := false, narrowed := true }
def ChainDataUptoSaid : Prop := chainDataUptoRow.holds Try.pinned (OpenSpec.upto chainDataSpec)

/-- 'coppicelaw6.ChainList', WHERE WHAT IT READS IS OF BULK AT MOST 1048576: true; the input reads as it did. -/
def chainListUptoRow : OpenClaim := { program := "ythahedpkefojdaa", sum := "87b12e0aede72623be23ec686a9dbd15b2b534ad935039eb5a84442b6cec3144", func := "coppice/coppicelaw6.ChainList", spec := "chainList", apart := false, narrowed := true }
def ChainListUptoSaid : Prop := chainListUptoRow.holds Try.pinned (OpenSpec.upto chainListSpec)

/-- 'coppicelaw6.ChainPages', WHERE WHAT IT READS IS OF BULK AT MOST 1048576: true; the input reads as it did. -/
def chainPagesUptoRow : OpenClaim := { program := "ythahedpkefojdaa", sum := "87b12e0aede72623be23ec686a9dbd15b2b534ad935039eb5a84442b6cec3144", func := "coppice/coppicelaw6.ChainPages", spec := "chainPages", apart := false, narrowed := true }
def ChainPagesUptoSaid : Prop := chainPagesUptoRow.holds Try.pinned (OpenSpec.upto chainPagesSpec)

/-- 'coppicelaw6.ChainWhole', WHERE WHAT IT READS IS OF BULK AT MOST 1048576: true; the input reads as it did. -/
def chainWholeUptoRow : OpenClaim := { program := "ythahedpkefojdaa", sum := "87b12e0aede72623be23ec686a9dbd15b2b534ad935039eb5a84442b6cec3144", func := "coppice/coppicelaw6.ChainWhole", spec := "chainWhole", apart := false, narrowed := true }
def ChainWholeUptoSaid : Prop := chainWholeUptoRow.holds Try.pinned (OpenSpec.upto chainWholeSpec)

/-- 'coppicelaw6.ChainReads', WHERE WHAT IT READS IS OF BULK AT MOST 1048576: true; the input reads as it did. -/
def chainReadsUptoRow : OpenClaim := { program := "ythahedpkefojdaa", sum := "87b12e0aede72623be23ec686a9dbd15b2b534ad935039eb5a84442b6cec3144", func := "coppice/coppicelaw6.ChainReads", spec := "chainReads", apart := false, narrowed := true }
def ChainReadsUptoSaid : Prop := chainReadsUptoRow.holds Try.pinned (OpenSpec.upto chainReadsSpec)

/-- 'coppicelaw6.ChainBack', WHERE WHAT IT READS IS OF BULK AT MOST 1048576: true; the input reads as it did. -/
def chainBackUptoRow : OpenClaim := { program := "ythahedpkefojdaa", sum := "87b12e0aede72623be23ec686a9dbd15b2b534ad935039eb5a84442b6cec3144", func := "coppice/coppicelaw6.ChainBack", spec := "chainBack", apart := false, narrowed := true }
def ChainBackUptoSaid : Prop := chainBackUptoRow.holds Try.pinned (OpenSpec.upto chainBackSpec)

end Rows
end Go.Proofs.Ythahedpkefojdaa
