/-
  NARROWER THAN 'FOR EVERY INPUT', by the rows' own cells (each row's printed sentence says how): MetaEncodes: laid · MetaDecodes: laid · MetaNewers: laid · MetaCounts: laid · MetaBack: laid · MetaTorn: laid · MetaPlaces: laid.
  DERIVED. THE GIVEN ROWS OF THIS SEAT. 7 by the template 'for every input the law returns true; each argument reads behind the call as it read before'; 0 by the template 'total and deterministic' (their statements: YtgajlippppebpaaDoorTotals.lean).
  GIVEN WITH THE SEED: the statements are not yours to turn. If you find one false, say at which input.
  Laid BY PROGRAM, IN A SANDBOX (cutbox-rows.mjs): the forced cells as the released guide's own fill.sh prints them over the translation b6c3219a7b12cb79… (all of the seat's roots in one cut). By AI agents, Wed Nov 11 2026. No macro, syntax, notation, axiom, sorry.
-/
import Derived.Test.YtgajlippppebpaaDoorChecked
import GoSem.Claim
import GoSem.ClaimJoined
import GoSem.ClaimMapViews
import Derived.JoinedTies
import Derived.KernelRfl
namespace Go.Proofs.YtgajlippppebpaaDoor
/- THE CELL 'sum', in the pinned program and in every row, IS THE sha256 OF THE DUMP (.gsa) THAT YtgajlippppebpaaDoorProg.lean LOADS. Nothing in Lean hashes anything: it is a label: what it is worth is what the hold of that sum in a sandbox is worth. -/
noncomputable def Tryd.pinned : Pinned := { name := "ytgajlippppebpaadoor", sum := "b6c3219a7b12cb793e14556d3cdd51a7353928e51d34ab81ff6d7feb91e33b8c", checked := Tryd.checked }
namespace Rows
def none {H : Type} : Left H := { results := [], args := [] }

/- WHAT THE LISTED PACKAGE-LEVEL VARIABLES READ AS WHEN THE CALL BEGINS. Each datum BY PROGRAM (the guide's laid-datum.mjs) off the statement by which the dump's own 'gosem.cut.vars' lays the variable. In a bare row this is a premise. The card (YtgajlippppebpaaDoorCards.lean) ties it to the program's text. -/
def laid_coppice_meta_begin {H : Type} : DataW H := .agg [.lit (.int .u8 5), .lit (.int .u8 99), .lit (.int .u8 111), .lit (.int .u8 112)]
def laid_coppice_meta_end {H : Type} : DataW H := .agg [.lit (.int .u8 101), .lit (.int .u8 110), .lit (.int .u8 100), .lit (.int .u8 46)]

/-- 'coppicelaw7.MetaEncodes': WHATEVER THE INPUT: true; the input reads as it did. -/
def metaEncodesSpec : ChangeSpec := { name := "metaEncodes", fn := fun _ => fun
  | [d] => { results := [.lit (.bool true)], args := [d] }
  | _ => none }
def metaEncodesRow : OpenClaim := { program := "ytgajlippppebpaadoor", sum := "b6c3219a7b12cb793e14556d3cdd51a7353928e51d34ab81ff6d7feb91e33b8c", func := "coppice/coppicelaw7.MetaEncodes", spec := "metaEncodes", named := ["coppice/meta.begin", "coppice/meta.end"], apart := false, laid := [("coppice/meta.begin", laid_coppice_meta_begin), ("coppice/meta.end", laid_coppice_meta_end)] }
def MetaEncodesSaid : Prop := metaEncodesRow.holds Tryd.pinned (OpenSpec.ofChange metaEncodesSpec)

/-- ITS FALSE NEIGHBOUR: 'it returns false'. Refute it at one input. -/
def metaEncodesWrong : ChangeSpec := { name := "metaEncodes", fn := fun _ => fun
  | [d] => { results := [.lit (.bool false)], args := [d] }
  | _ => none }
def MetaEncodesWrongFalsely : Prop := metaEncodesRow.holds Tryd.pinned (OpenSpec.ofChange metaEncodesWrong)

/-- 'coppicelaw7.MetaDecodes': WHATEVER THE INPUT: true; the input reads as it did. -/
def metaDecodesSpec : ChangeSpec := { name := "metaDecodes", fn := fun _ => fun
  | [d1, d2, d3] => { results := [.lit (.bool true)], args := [d1, d2, d3] }
  | _ => none }
def metaDecodesRow : OpenClaim := { program := "ytgajlippppebpaadoor", sum := "b6c3219a7b12cb793e14556d3cdd51a7353928e51d34ab81ff6d7feb91e33b8c", func := "coppice/coppicelaw7.MetaDecodes", spec := "metaDecodes", named := ["coppice/meta.begin", "coppice/meta.end"], apart := false, laid := [("coppice/meta.begin", laid_coppice_meta_begin), ("coppice/meta.end", laid_coppice_meta_end)] }
def MetaDecodesSaid : Prop := metaDecodesRow.holds Tryd.pinned (OpenSpec.ofChange metaDecodesSpec)

/-- ITS FALSE NEIGHBOUR: 'it returns false'. Refute it at one input. -/
def metaDecodesWrong : ChangeSpec := { name := "metaDecodes", fn := fun _ => fun
  | [d1, d2, d3] => { results := [.lit (.bool false)], args := [d1, d2, d3] }
  | _ => none }
def MetaDecodesWrongFalsely : Prop := metaDecodesRow.holds Tryd.pinned (OpenSpec.ofChange metaDecodesWrong)

/-- 'coppicelaw7.MetaNewers': WHATEVER THE INPUT: true; the input reads as it did. -/
def metaNewersSpec : ChangeSpec := { name := "metaNewers", fn := fun _ => fun
  | [d1, d2, d3, d4] => { results := [.lit (.bool true)], args := [d1, d2, d3, d4] }
  | _ => none }
def metaNewersRow : OpenClaim := { program := "ytgajlippppebpaadoor", sum := "b6c3219a7b12cb793e14556d3cdd51a7353928e51d34ab81ff6d7feb91e33b8c", func := "coppice/coppicelaw7.MetaNewers", spec := "metaNewers", named := ["coppice/meta.begin", "coppice/meta.end"], apart := false, laid := [("coppice/meta.begin", laid_coppice_meta_begin), ("coppice/meta.end", laid_coppice_meta_end)] }
def MetaNewersSaid : Prop := metaNewersRow.holds Tryd.pinned (OpenSpec.ofChange metaNewersSpec)

/-- ITS FALSE NEIGHBOUR: 'it returns false'. Refute it at one input. -/
def metaNewersWrong : ChangeSpec := { name := "metaNewers", fn := fun _ => fun
  | [d1, d2, d3, d4] => { results := [.lit (.bool false)], args := [d1, d2, d3, d4] }
  | _ => none }
def MetaNewersWrongFalsely : Prop := metaNewersRow.holds Tryd.pinned (OpenSpec.ofChange metaNewersWrong)

/-- 'coppicelaw7.MetaCounts': WHATEVER THE INPUT: true; the input reads as it did. -/
def metaCountsSpec : ChangeSpec := { name := "metaCounts", fn := fun _ => fun
  | [d1, d2, d3, d4] => { results := [.lit (.bool true)], args := [d1, d2, d3, d4] }
  | _ => none }
def metaCountsRow : OpenClaim := { program := "ytgajlippppebpaadoor", sum := "b6c3219a7b12cb793e14556d3cdd51a7353928e51d34ab81ff6d7feb91e33b8c", func := "coppice/coppicelaw7.MetaCounts", spec := "metaCounts", named := ["coppice/meta.begin", "coppice/meta.end"], apart := false, laid := [("coppice/meta.begin", laid_coppice_meta_begin), ("coppice/meta.end", laid_coppice_meta_end)] }
def MetaCountsSaid : Prop := metaCountsRow.holds Tryd.pinned (OpenSpec.ofChange metaCountsSpec)

/-- ITS FALSE NEIGHBOUR: 'it returns false'. Refute it at one input. -/
def metaCountsWrong : ChangeSpec := { name := "metaCounts", fn := fun _ => fun
  | [d1, d2, d3, d4] => { results := [.lit (.bool false)], args := [d1, d2, d3, d4] }
  | _ => none }
def MetaCountsWrongFalsely : Prop := metaCountsRow.holds Tryd.pinned (OpenSpec.ofChange metaCountsWrong)

/-- 'coppicelaw7.MetaBack': WHATEVER THE INPUT: true; the input reads as it did. -/
def metaBackSpec : ChangeSpec := { name := "metaBack", fn := fun _ => fun
  | [d1, d2] => { results := [.lit (.bool true)], args := [d1, d2] }
  | _ => none }
def metaBackRow : OpenClaim := { program := "ytgajlippppebpaadoor", sum := "b6c3219a7b12cb793e14556d3cdd51a7353928e51d34ab81ff6d7feb91e33b8c", func := "coppice/coppicelaw7.MetaBack", spec := "metaBack", named := ["coppice/meta.begin", "coppice/meta.end"], apart := false, laid := [("coppice/meta.begin", laid_coppice_meta_begin), ("coppice/meta.end", laid_coppice_meta_end)] }
def MetaBackSaid : Prop := metaBackRow.holds Tryd.pinned (OpenSpec.ofChange metaBackSpec)

/-- ITS FALSE NEIGHBOUR: 'it returns false'. Refute it at one input. -/
def metaBackWrong : ChangeSpec := { name := "metaBack", fn := fun _ => fun
  | [d1, d2] => { results := [.lit (.bool false)], args := [d1, d2] }
  | _ => none }
def MetaBackWrongFalsely : Prop := metaBackRow.holds Tryd.pinned (OpenSpec.ofChange metaBackWrong)

/-- 'coppicelaw7.MetaTorn': WHATEVER THE INPUT: true; the input reads as it did. -/
def metaTornSpec : ChangeSpec := { name := "metaTorn", fn := fun _ => fun
  | [d1, d2] => { results := [.lit (.bool true)], args := [d1, d2] }
  | _ => none }
def metaTornRow : OpenClaim := { program := "ytgajlippppebpaadoor", sum := "b6c3219a7b12cb793e14556d3cdd51a7353928e51d34ab81ff6d7feb91e33b8c", func := "coppice/coppicelaw7.MetaTorn", spec := "metaTorn", named := ["coppice/meta.begin", "coppice/meta.end"], apart := false, laid := [("coppice/meta.begin", laid_coppice_meta_begin), ("coppice/meta.end", laid_coppice_meta_end)] }
def MetaTornSaid : Prop := metaTornRow.holds Tryd.pinned (OpenSpec.ofChange metaTornSpec)

/-- ITS FALSE NEIGHBOUR: 'it returns false'. Refute it at one input. -/
def metaTornWrong : ChangeSpec := { name := "metaTorn", fn := fun _ => fun
  | [d1, d2] => { results := [.lit (.bool false)], args := [d1, d2] }
  | _ => none }
def MetaTornWrongFalsely : Prop := metaTornRow.holds Tryd.pinned (OpenSpec.ofChange metaTornWrong)

/-- 'coppicelaw7.MetaPlaces': WHATEVER THE INPUT: true; the input reads as it did. -/
def metaPlacesSpec : ChangeSpec := { name := "metaPlaces", fn := fun _ => fun
  | [d] => { results := [.lit (.bool true)], args := [d] }
  | _ => none }
def metaPlacesRow : OpenClaim := { program := "ytgajlippppebpaadoor", sum := "b6c3219a7b12cb793e14556d3cdd51a7353928e51d34ab81ff6d7feb91e33b8c", func := "coppice/coppicelaw7.MetaPlaces", spec := "metaPlaces", named := ["coppice/meta.begin", "coppice/meta.end"], apart := false, laid := [("coppice/meta.begin", laid_coppice_meta_begin), ("coppice/meta.end", laid_coppice_meta_end)] }
def MetaPlacesSaid : Prop := metaPlacesRow.holds Tryd.pinned (OpenSpec.ofChange metaPlacesSpec)

/-- ITS FALSE NEIGHBOUR: 'it returns false'. Refute it at one input. -/
def metaPlacesWrong : ChangeSpec := { name := "metaPlaces", fn := fun _ => fun
  | [d] => { results := [.lit (.bool false)], args := [d] }
  | _ => none }
def MetaPlacesWrongFalsely : Prop := metaPlacesRow.holds Tryd.pinned (OpenSpec.ofChange metaPlacesWrong)

/- THE SECOND FORM. 'bulk': how many values and letters a reading holds, each counted each time it is reached (what is shared counts as often as it is met; a slice's spare places count too). A statement '..UptoSaid' is the law's where the arguments, and the package variables that the reading takes, are together of bulk at most 1048576: NARROWER than '..Said'. Prove '..Said' where nothing that the law and all that it calls make is longer than what came in: it says more and counts as full. Else prove '..UptoSaid'. A law counts once. -/
mutual
def uptoBulk {H : Type} : DataW H → Nat
  | .lit (.string bytes) => bytes.length + 1
  | .lit _ => 1
  | .nil => 1
  | .ptr d => uptoBulk d + 1
  | .slice elems spare => uptoBulkAll elems + uptoBulkAll spare + 1
  | .agg parts => uptoBulkAll parts + 1
  | .iface _ d => uptoBulk d + 1
  | .map entries => uptoBulkEntries entries + 1
  | .held _ => 1
def uptoBulkAll {H : Type} : List (DataW H) → Nat
  | [] => 0
  | d :: r => uptoBulk d + uptoBulkAll r
def uptoBulkEntries {H : Type} : List (Lit × DataW H) → Nat
  | [] => 0
  | x :: r => uptoBulkEntry x + uptoBulkEntries r
def uptoBulkEntry {H : Type} : Lit × DataW H → Nat
  | (.string bytes, d) => bytes.length + uptoBulk d + 1
  | (_, d) => uptoBulk d + 1
 end
def uptoSmall : (H : Type) → List (DataW H) → Bool := fun _ ds => decide (uptoBulkAll ds ≤ 1048576)
def OpenSpec.upto (s : _root_.Go.ChangeSpec) : _root_.Go.OpenSpec := { _root_.Go.OpenSpec.ofChange s with cond := some uptoSmall }

/-- 'coppicelaw7.MetaEncodes', WHERE WHAT IT READS IS OF BULK AT MOST 1048576: true; the input reads as it did. -/
def metaEncodesUptoRow : OpenClaim := { program := "ytgajlippppebpaadoor", sum := "b6c3219a7b12cb793e14556d3cdd51a7353928e51d34ab81ff6d7feb91e33b8c", func := "coppice/coppicelaw7.MetaEncodes", spec := "metaEncodes", named := ["coppice/meta.begin", "coppice/meta.end"], apart := false, laid := [("coppice/meta.begin", laid_coppice_meta_begin), ("coppice/meta.end", laid_coppice_meta_end)], narrowed := true }
def MetaEncodesUptoSaid : Prop := metaEncodesUptoRow.holds Tryd.pinned (OpenSpec.upto metaEncodesSpec)

/-- 'coppicelaw7.MetaDecodes', WHERE WHAT IT READS IS OF BULK AT MOST 1048576: true; the input reads as it did. -/
def metaDecodesUptoRow : OpenClaim := { program := "ytgajlippppebpaadoor", sum := "b6c3219a7b12cb793e14556d3cdd51a7353928e51d34ab81ff6d7feb91e33b8c", func := "coppice/coppicelaw7.MetaDecodes", spec := "metaDecodes", named := ["coppice/meta.begin", "coppice/meta.end"], apart := false, laid := [("coppice/meta.begin", laid_coppice_meta_begin), ("coppice/meta.end", laid_coppice_meta_end)], narrowed := true }
def MetaDecodesUptoSaid : Prop := metaDecodesUptoRow.holds Tryd.pinned (OpenSpec.upto metaDecodesSpec)

/-- 'coppicelaw7.MetaNewers', WHERE WHAT IT READS IS OF BULK AT MOST 1048576: true; the input reads as it did. -/
def metaNewersUptoRow : OpenClaim := { program := "ytgajlippppebpaadoor", sum := "b6c3219a7b12cb793e14556d3cdd51a7353928e51d34ab81ff6d7feb91e33b8c", func := "coppice/coppicelaw7.MetaNewers", spec := "metaNewers", named := ["coppice/meta.begin", "coppice/meta.end"], apart := false, laid := [("coppice/meta.begin", laid_coppice_meta_begin), ("coppice/meta.end", laid_coppice_meta_end)], narrowed := true }
def MetaNewersUptoSaid : Prop := metaNewersUptoRow.holds Tryd.pinned (OpenSpec.upto metaNewersSpec)

/-- 'coppicelaw7.MetaCounts', WHERE WHAT IT READS IS OF BULK AT MOST 1048576: true; the input reads as it did. -/
def metaCountsUptoRow : OpenClaim := { program := "ytgajlippppebpaadoor", sum := "b6c3219a7b12cb793e14556d3cdd51a7353928e51d34ab81ff6d7feb91e33b8c", func := "coppice/coppicelaw7.MetaCounts", spec := "metaCounts", named := ["coppice/meta.begin", "coppice/meta.end"], apart := false, laid := [("coppice/meta.begin", laid_coppice_meta_begin), ("coppice/meta.end", laid_coppice_meta_end)], narrowed := true }
def MetaCountsUptoSaid : Prop := metaCountsUptoRow.holds Tryd.pinned (OpenSpec.upto metaCountsSpec)

/-- 'coppicelaw7.MetaBack', WHERE WHAT IT READS IS OF BULK AT MOST 1048576: true; the input reads as it did. -/
def metaBackUptoRow : OpenClaim := { program := "ytgajlippppebpaadoor", sum := "b6c3219a7b12cb793e14556d3cdd51a7353928e51d34ab81ff6d7feb91e33b8c", func := "coppice/coppicelaw7.MetaBack", spec := "metaBack", named := ["coppice/meta.begin", "coppice/meta.end"], apart := false, laid := [("coppice/meta.begin", laid_coppice_meta_begin), ("coppice/meta.end", laid_coppice_meta_end)], narrowed := true }
def MetaBackUptoSaid : Prop := metaBackUptoRow.holds Tryd.pinned (OpenSpec.upto metaBackSpec)

/-- 'coppicelaw7.MetaTorn', WHERE WHAT IT READS IS OF BULK AT MOST 1048576: true; the input reads as it did. -/
def metaTornUptoRow : OpenClaim := { program := "ytgajlippppebpaadoor", sum := "b6c3219a7b12cb793e14556d3cdd51a7353928e51d34ab81ff6d7feb91e33b8c", func := "coppice/coppicelaw7.MetaTorn", spec := "metaTorn", named := ["coppice/meta.begin", "coppice/meta.end"], apart := false, laid := [("coppice/meta.begin", laid_coppice_meta_begin), ("coppice/meta.end", laid_coppice_meta_end)], narrowed := true }
def MetaTornUptoSaid : Prop := metaTornUptoRow.holds Tryd.pinned (OpenSpec.upto metaTornSpec)

/-- 'coppicelaw7.MetaPlaces', WHERE WHAT IT READS IS OF BULK AT MOST 1048576: true; the input reads as it did. -/
def metaPlacesUptoRow : OpenClaim := { program := "ytgajlippppebpaadoor", sum := "b6c3219a7b12cb793e14556d3cdd51a7353928e51d34ab81ff6d7feb91e33b8c", func := "coppice/coppicelaw7.MetaPlaces", spec := "metaPlaces", named := ["coppice/meta.begin", "coppice/meta.end"], apart := false, laid := [("coppice/meta.begin", laid_coppice_meta_begin), ("coppice/meta.end", laid_coppice_meta_end)], narrowed := true }
def MetaPlacesUptoSaid : Prop := metaPlacesUptoRow.holds Tryd.pinned (OpenSpec.upto metaPlacesSpec)

end Rows
end Go.Proofs.YtgajlippppebpaaDoor
