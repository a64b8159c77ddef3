/-
  No cell of these rows narrows 'for every input' (looked for: loops, veiled, ifaces, maps, wideKeys, modest, calm, conditions, laid).
  DERIVED. THE GIVEN ROWS OF THIS SEAT. 7 by the template 'for every input the law returns true; each argument reads behind the call as it read before'; 0 by the template 'total and deterministic' (their statements: YtnhmilpnekfhmaaTotals.lean).
  GIVEN WITH THE SEED: the statements are not yours to turn. If you find one false, say at which input.
  Laid BY PROGRAM, IN A SANDBOX (cutbox-rows.mjs): the forced cells as the released guide's own fill.sh prints them over the translation 1c9fecce6347a81e… (all of the seat's roots in one cut). By AI agents, Wed Nov 11 2026. No macro, syntax, notation, axiom, sorry.
-/
import Derived.Test.YtnhmilpnekfhmaaChecked
import GoSem.Claim
import GoSem.ClaimJoined
import GoSem.ClaimMapViews
import Derived.JoinedTies
import Derived.KernelRfl
namespace Go.Proofs.Ytnhmilpnekfhmaa
/- THE CELL 'sum', in the pinned program and in every row, IS THE sha256 OF THE DUMP (.gsa) THAT YtnhmilpnekfhmaaProg.lean LOADS. Nothing in Lean hashes anything: it is a label: what it is worth is what the hold of that sum in a sandbox is worth. -/
noncomputable def Try.pinned : Pinned := { name := "ytnhmilpnekfhmaa", sum := "1c9fecce6347a81e8f786c4b988d45337d773a11532920fceaebaaeecd9e43e2", checked := Try.checked }
namespace Rows
def none {H : Type} : Left H := { results := [], args := [] }

/-- 'coppicelaw1.WirePuts': WHATEVER THE INPUT: true; the input reads as it did. -/
def wirePutsSpec : ChangeSpec := { name := "wirePuts", fn := fun _ => fun
  | [d1, d2] => { results := [.lit (.bool true)], args := [d1, d2] }
  | _ => none }
def wirePutsRow : OpenClaim := { program := "ytnhmilpnekfhmaa", sum := "1c9fecce6347a81e8f786c4b988d45337d773a11532920fceaebaaeecd9e43e2", func := "coppice/coppicelaw1.WirePuts", spec := "wirePuts", apart := false }
def WirePutsSaid : Prop := wirePutsRow.holds Try.pinned (OpenSpec.ofChange wirePutsSpec)

/-- ITS FALSE NEIGHBOUR: 'it returns false'. Refute it at one input. -/
def wirePutsWrong : ChangeSpec := { name := "wirePuts", fn := fun _ => fun
  | [d1, d2] => { results := [.lit (.bool false)], args := [d1, d2] }
  | _ => none }
def WirePutsWrongFalsely : Prop := wirePutsRow.holds Try.pinned (OpenSpec.ofChange wirePutsWrong)

/-- 'coppicelaw1.WireReads': WHATEVER THE INPUT: true; the input reads as it did. -/
def wireReadsSpec : ChangeSpec := { name := "wireReads", fn := fun _ => fun
  | [d1, d2, d3] => { results := [.lit (.bool true)], args := [d1, d2, d3] }
  | _ => none }
def wireReadsRow : OpenClaim := { program := "ytnhmilpnekfhmaa", sum := "1c9fecce6347a81e8f786c4b988d45337d773a11532920fceaebaaeecd9e43e2", func := "coppice/coppicelaw1.WireReads", spec := "wireReads", apart := false }
def WireReadsSaid : Prop := wireReadsRow.holds Try.pinned (OpenSpec.ofChange wireReadsSpec)

/-- ITS FALSE NEIGHBOUR: 'it returns false'. Refute it at one input. -/
def wireReadsWrong : ChangeSpec := { name := "wireReads", fn := fun _ => fun
  | [d1, d2, d3] => { results := [.lit (.bool false)], args := [d1, d2, d3] }
  | _ => none }
def WireReadsWrongFalsely : Prop := wireReadsRow.holds Try.pinned (OpenSpec.ofChange wireReadsWrong)

/-- 'coppicelaw1.WireLens': WHATEVER THE INPUT: true; the input reads as it did. -/
def wireLensSpec : ChangeSpec := { name := "wireLens", fn := fun _ => fun
  | [d] => { results := [.lit (.bool true)], args := [d] }
  | _ => none }
def wireLensRow : OpenClaim := { program := "ytnhmilpnekfhmaa", sum := "1c9fecce6347a81e8f786c4b988d45337d773a11532920fceaebaaeecd9e43e2", func := "coppice/coppicelaw1.WireLens", spec := "wireLens", apart := false }
def WireLensSaid : Prop := wireLensRow.holds Try.pinned (OpenSpec.ofChange wireLensSpec)

/-- ITS FALSE NEIGHBOUR: 'it returns false'. Refute it at one input. -/
def wireLensWrong : ChangeSpec := { name := "wireLens", fn := fun _ => fun
  | [d] => { results := [.lit (.bool false)], args := [d] }
  | _ => none }
def WireLensWrongFalsely : Prop := wireLensRow.holds Try.pinned (OpenSpec.ofChange wireLensWrong)

/-- 'coppicelaw1.WireBack': WHATEVER THE INPUT: true; the input reads as it did. -/
def wireBackSpec : ChangeSpec := { name := "wireBack", fn := fun _ => fun
  | [d1, d2] => { results := [.lit (.bool true)], args := [d1, d2] }
  | _ => none }
def wireBackRow : OpenClaim := { program := "ytnhmilpnekfhmaa", sum := "1c9fecce6347a81e8f786c4b988d45337d773a11532920fceaebaaeecd9e43e2", func := "coppice/coppicelaw1.WireBack", spec := "wireBack", apart := false }
def WireBackSaid : Prop := wireBackRow.holds Try.pinned (OpenSpec.ofChange wireBackSpec)

/-- ITS FALSE NEIGHBOUR: 'it returns false'. Refute it at one input. -/
def wireBackWrong : ChangeSpec := { name := "wireBack", fn := fun _ => fun
  | [d1, d2] => { results := [.lit (.bool false)], args := [d1, d2] }
  | _ => none }
def WireBackWrongFalsely : Prop := wireBackRow.holds Try.pinned (OpenSpec.ofChange wireBackWrong)

/-- 'coppicelaw1.WireOneForm': WHATEVER THE INPUT: true; the input reads as it did. -/
def wireOneFormSpec : ChangeSpec := { name := "wireOneForm", fn := fun _ => fun
  | [d] => { results := [.lit (.bool true)], args := [d] }
  | _ => none }
def wireOneFormRow : OpenClaim := { program := "ytnhmilpnekfhmaa", sum := "1c9fecce6347a81e8f786c4b988d45337d773a11532920fceaebaaeecd9e43e2", func := "coppice/coppicelaw1.WireOneForm", spec := "wireOneForm", apart := false }
def WireOneFormSaid : Prop := wireOneFormRow.holds Try.pinned (OpenSpec.ofChange wireOneFormSpec)

/-- ITS FALSE NEIGHBOUR: 'it returns false'. Refute it at one input. -/
def wireOneFormWrong : ChangeSpec := { name := "wireOneForm", fn := fun _ => fun
  | [d] => { results := [.lit (.bool false)], args := [d] }
  | _ => none }
def WireOneFormWrongFalsely : Prop := wireOneFormRow.holds Try.pinned (OpenSpec.ofChange wireOneFormWrong)

/-- 'coppicelaw1.WireApart': WHATEVER THE INPUT: true; the input reads as it did. -/
def wireApartSpec : ChangeSpec := { name := "wireApart", fn := fun _ => fun
  | [d1, d2, d3] => { results := [.lit (.bool true)], args := [d1, d2, d3] }
  | _ => none }
def wireApartRow : OpenClaim := { program := "ytnhmilpnekfhmaa", sum := "1c9fecce6347a81e8f786c4b988d45337d773a11532920fceaebaaeecd9e43e2", func := "coppice/coppicelaw1.WireApart", spec := "wireApart", apart := false }
def WireApartSaid : Prop := wireApartRow.holds Try.pinned (OpenSpec.ofChange wireApartSpec)

/-- ITS FALSE NEIGHBOUR: 'it returns false'. Refute it at one input. -/
def wireApartWrong : ChangeSpec := { name := "wireApart", fn := fun _ => fun
  | [d1, d2, d3] => { results := [.lit (.bool false)], args := [d1, d2, d3] }
  | _ => none }
def WireApartWrongFalsely : Prop := wireApartRow.holds Try.pinned (OpenSpec.ofChange wireApartWrong)

/-- 'coppicelaw1.WireBroken': WHATEVER THE INPUT: true; the input reads as it did. -/
def wireBrokenSpec : ChangeSpec := { name := "wireBroken", fn := fun _ => fun
  | [d1, d2, d3] => { results := [.lit (.bool true)], args := [d1, d2, d3] }
  | _ => none }
def wireBrokenRow : OpenClaim := { program := "ytnhmilpnekfhmaa", sum := "1c9fecce6347a81e8f786c4b988d45337d773a11532920fceaebaaeecd9e43e2", func := "coppice/coppicelaw1.WireBroken", spec := "wireBroken", apart := false }
def WireBrokenSaid : Prop := wireBrokenRow.holds Try.pinned (OpenSpec.ofChange wireBrokenSpec)

/-- ITS FALSE NEIGHBOUR: 'it returns false'. Refute it at one input. -/
def wireBrokenWrong : ChangeSpec := { name := "wireBroken", fn := fun _ => fun
  | [d1, d2, d3] => { results := [.lit (.bool false)], args := [d1, d2, d3] }
  | _ => none }
def WireBrokenWrongFalsely : Prop := wireBrokenRow.holds Try.pinned (OpenSpec.ofChange wireBrokenWrong)

/- THE SECOND FORM. 'bulk': how many values and letters a reading holds, each counted each time it is reached (what is shared counts as often as it is met; a slice's spare places count too). A statement '..UptoSaid' is the law's where the arguments, and the package variables that the reading takes, are together of bulk at most 1048576: NARROWER than '..Said'. Prove '..Said' where nothing that the law and all that it calls make is longer than what came in: it says more and counts as full. Else prove '..UptoSaid'. A law counts once. -/
mutual
def uptoBulk {H : Type} : DataW H → Nat
  | .lit (.string bytes) => bytes.length + 1
  | .lit _ => 1
  | .nil => 1
  | .ptr d => uptoBulk d + 1
  | .slice elems spare => uptoBulkAll elems + uptoBulkAll spare + 1
  | .agg parts => uptoBulkAll parts + 1
  | .iface _ d => uptoBulk d + 1
  | .map entries => uptoBulkEntries entries + 1
  | .held _ => 1
def uptoBulkAll {H : Type} : List (DataW H) → Nat
  | [] => 0
  | d :: r => uptoBulk d + uptoBulkAll r
def uptoBulkEntries {H : Type} : List (Lit × DataW H) → Nat
  | [] => 0
  | x :: r => uptoBulkEntry x + uptoBulkEntries r
def uptoBulkEntry {H : Type} : Lit × DataW H → Nat
  | (.string bytes, d) => bytes.length + uptoBulk d + 1
  | (_, d) => uptoBulk d + 1
 end
def uptoSmall : (H : Type) → List (DataW H) → Bool := fun _ ds => decide (uptoBulkAll ds ≤ 1048576)
def OpenSpec.upto (s : _root_.Go.ChangeSpec) : _root_.Go.OpenSpec := { _root_.Go.OpenSpec.ofChange s with cond := some uptoSmall }

/-- 'coppicelaw1.WirePuts', WHERE WHAT IT READS IS OF BULK AT MOST 1048576: true; the input reads as it did. -/
def wirePutsUptoRow : OpenClaim := { program := "ytnhmilpnekfhmaa", sum := "1c9fecce6347a81e8f786c4b988d45337d773a11532920fceaebaaeecd9e43e2", func := "coppice/coppicelaw1.WirePuts", spec := "wirePuts", apart := false, narrowed := true }
def WirePutsUptoSaid : Prop := wirePutsUptoRow.holds Try.pinned (OpenSpec.upto wirePutsSpec)

/-- 'coppicelaw1.WireReads', WHERE WHAT IT READS IS OF BULK AT MOST 1048576: true; the input reads as it did. -/
def wireReadsUptoRow : OpenClaim := { program := "ytnhmilpnekfhmaa", sum := "1c9fecce6347a81e8f786c4b988d45337d773a11532920fceaebaaeecd9e43e2", func := "coppice/coppicelaw1.WireReads", spec := "wireReads", apart := false, narrowed := true }
def WireReadsUptoSaid : Prop := wireReadsUptoRow.holds Try.pinned (OpenSpec.upto wireReadsSpec)

/-- 'coppicelaw1.WireLens', WHERE WHAT IT READS IS OF BULK AT MOST 1048576: true; the input reads as it did. -/
def wireLensUptoRow : OpenClaim := { program := "ytnhmilpnekfhmaa", sum := "1c9fecce6347a81e8f786c4b988d45337d773a11532920fceaebaaeecd9e43e2", func := "coppice/coppicelaw1.WireLens", spec := "wireLens", apart := false, narrowed := true }
def WireLensUptoSaid : Prop := wireLensUptoRow.holds Try.pinned (OpenSpec.upto wireLensSpec)

/-- 'coppicelaw1.WireBack', WHERE WHAT IT READS IS OF BULK AT MOST 1048576: true; the input reads as it did. -/
def wireBackUptoRow : OpenClaim := { program := "ytnhmilpnekfhmaa", sum := "1c9fecce6347a81e8f786c4b988d45337d773a11532920fceaebaaeecd9e43e2", func := "coppice/coppicelaw1.WireBack", spec := "wireBack", apart := false, narrowed := true }
def WireBackUptoSaid : Prop := wireBackUptoRow.holds Try.pinned (OpenSpec.upto wireBackSpec)

/-- 'coppicelaw1.WireOneForm', WHERE WHAT IT READS IS OF BULK AT MOST 1048576: true; the input reads as it did. -/
def wireOneFormUptoRow : OpenClaim := { program := "ytnhmilpnekfhmaa", sum := "1c9fecce6347a81e8f786c4b988d45337d773a11532920fceaebaaeecd9e43e2", func := "coppice/coppicelaw1.WireOneForm", spec := "wireOneForm", apart := false, narrowed := true }
def WireOneFormUptoSaid : Prop := wireOneFormUptoRow.holds Try.pinned (OpenSpec.upto wireOneFormSpec)

/-- 'coppicelaw1.WireApart', WHERE WHAT IT READS IS OF BULK AT MOST 1048576: true; the input reads as it did. -/
def wireApartUptoRow : OpenClaim := { program := "ytnhmilpnekfhmaa", sum := "1c9fecce6347a81e8f786c4b988d45337d773a11532920fceaebaaeecd9e43e2", func := "coppice/coppicelaw1.WireApart", spec := "wireApart", apart := false, narrowed := true }
def WireApartUptoSaid : Prop := wireApartUptoRow.holds Try.pinned (OpenSpec.upto wireApartSpec)

/-- 'coppicelaw1.WireBroken', WHERE WHAT IT READS IS OF BULK AT MOST 1048576: true; the input reads as it did. -/
def wireBrokenUptoRow : OpenClaim := { program := "ytnhmilpnekfhmaa", sum := "1c9fecce6347a81e8f786c4b988d45337d773a11532920fceaebaaeecd9e43e2", func := "coppice/coppicelaw1.WireBroken", spec := "wireBroken", apart := false, narrowed := true }
def WireBrokenUptoSaid : Prop := wireBrokenUptoRow.holds Try.pinned (OpenSpec.upto wireBrokenSpec)

end Rows
end Go.Proofs.Ytnhmilpnekfhmaa
