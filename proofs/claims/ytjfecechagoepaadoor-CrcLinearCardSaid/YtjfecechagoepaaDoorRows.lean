/-
  NARROWER THAN 'FOR EVERY INPUT', by the rows' own cells (each row's printed sentence says how): CrcSums: laid · CrcUpdates: laid · CrcSeals: laid · CrcOpens: laid · CrcJoins: laid · CrcBehind: laid · CrcBack: laid · CrcBurst: laid · CrcTwo: laid · CrcLinear: laid.
  DERIVED. THE GIVEN ROWS OF THIS SEAT. 10 by the template 'for every input the law returns true; each argument reads behind the call as it read before'; 0 by the template 'total and deterministic' (their statements: YtjfecechagoepaaDoorTotals.lean).
  GIVEN WITH THE SEED: the statements are not yours to turn. If you find one false, say at which input.
  Laid BY PROGRAM, IN A SANDBOX (cutbox-rows.mjs): the forced cells as the released guide's own fill.sh prints them over the translation 7632a4c63c8c38c6… (all of the seat's roots in one cut). By AI agents, Wed Nov 11 2026. No macro, syntax, notation, axiom, sorry.
-/
import Derived.Test.YtjfecechagoepaaDoorChecked
import GoSem.Claim
import GoSem.ClaimJoined
import GoSem.ClaimMapViews
import Derived.JoinedTies
import Derived.KernelRfl
namespace Go.Proofs.YtjfecechagoepaaDoor
/- THE CELL 'sum', in the pinned program and in every row, IS THE sha256 OF THE DUMP (.gsa) THAT YtjfecechagoepaaDoorProg.lean LOADS. Nothing in Lean hashes anything: it is a label: what it is worth is what the hold of that sum in a sandbox is worth. -/
noncomputable def Tryd.pinned : Pinned := { name := "ytjfecechagoepaadoor", sum := "7632a4c63c8c38c6ddc4a4007aac65233dd71fe416fbadc40dc7000633bc7c13", checked := Tryd.checked }
namespace Rows
def none {H : Type} : Left H := { results := [], args := [] }

/- WHAT THE LISTED PACKAGE-LEVEL VARIABLES READ AS WHEN THE CALL BEGINS. Each datum BY PROGRAM (the guide's laid-datum.mjs) off the statement by which the dump's own 'gosem.cut.vars' lays the variable. In a bare row this is a premise. The card (YtjfecechagoepaaDoorCards.lean) ties it to the program's text. -/
def laid_coppice_crc_left {H : Type} : DataW H := .agg [.lit (.int .u32 0), .lit (.int .u32 498536548), .lit (.int .u32 997073096), .lit (.int .u32 651767980), .lit (.int .u32 1994146192), .lit (.int .u32 1802195444), .lit (.int .u32 1303535960), .lit (.int .u32 1342533948), .lit (.int .u32 3988292384), .lit (.int .u32 4027552580), .lit (.int .u32 3604390888), .lit (.int .u32 3412177804), .lit (.int .u32 2607071920), .lit (.int .u32 2262029012), .lit (.int .u32 2685067896), .lit (.int .u32 3183342108)]

/-- 'coppicelaw2.CrcSums': WHATEVER THE INPUT: true; the input reads as it did. -/
def crcSumsSpec : ChangeSpec := { name := "crcSums", fn := fun _ => fun
  | [d1, d2, d3] => { results := [.lit (.bool true)], args := [d1, d2, d3] }
  | _ => none }
def crcSumsRow : OpenClaim := { program := "ytjfecechagoepaadoor", sum := "7632a4c63c8c38c6ddc4a4007aac65233dd71fe416fbadc40dc7000633bc7c13", func := "coppice/coppicelaw2.CrcSums", spec := "crcSums", named := ["coppice/crc.left"], apart := false, laid := [("coppice/crc.left", laid_coppice_crc_left)] }
def CrcSumsSaid : Prop := crcSumsRow.holds Tryd.pinned (OpenSpec.ofChange crcSumsSpec)

/-- ITS FALSE NEIGHBOUR: 'it returns false'. Refute it at one input. -/
def crcSumsWrong : ChangeSpec := { name := "crcSums", fn := fun _ => fun
  | [d1, d2, d3] => { results := [.lit (.bool false)], args := [d1, d2, d3] }
  | _ => none }
def CrcSumsWrongFalsely : Prop := crcSumsRow.holds Tryd.pinned (OpenSpec.ofChange crcSumsWrong)

/-- 'coppicelaw2.CrcUpdates': WHATEVER THE INPUT: true; the input reads as it did. -/
def crcUpdatesSpec : ChangeSpec := { name := "crcUpdates", fn := fun _ => fun
  | [d1, d2, d3, d4] => { results := [.lit (.bool true)], args := [d1, d2, d3, d4] }
  | _ => none }
def crcUpdatesRow : OpenClaim := { program := "ytjfecechagoepaadoor", sum := "7632a4c63c8c38c6ddc4a4007aac65233dd71fe416fbadc40dc7000633bc7c13", func := "coppice/coppicelaw2.CrcUpdates", spec := "crcUpdates", named := ["coppice/crc.left"], apart := false, laid := [("coppice/crc.left", laid_coppice_crc_left)] }
def CrcUpdatesSaid : Prop := crcUpdatesRow.holds Tryd.pinned (OpenSpec.ofChange crcUpdatesSpec)

/-- ITS FALSE NEIGHBOUR: 'it returns false'. Refute it at one input. -/
def crcUpdatesWrong : ChangeSpec := { name := "crcUpdates", fn := fun _ => fun
  | [d1, d2, d3, d4] => { results := [.lit (.bool false)], args := [d1, d2, d3, d4] }
  | _ => none }
def CrcUpdatesWrongFalsely : Prop := crcUpdatesRow.holds Tryd.pinned (OpenSpec.ofChange crcUpdatesWrong)

/-- 'coppicelaw2.CrcSeals': WHATEVER THE INPUT: true; the input reads as it did. -/
def crcSealsSpec : ChangeSpec := { name := "crcSeals", fn := fun _ => fun
  | [d1, d2, d3] => { results := [.lit (.bool true)], args := [d1, d2, d3] }
  | _ => none }
def crcSealsRow : OpenClaim := { program := "ytjfecechagoepaadoor", sum := "7632a4c63c8c38c6ddc4a4007aac65233dd71fe416fbadc40dc7000633bc7c13", func := "coppice/coppicelaw2.CrcSeals", spec := "crcSeals", named := ["coppice/crc.left"], apart := false, laid := [("coppice/crc.left", laid_coppice_crc_left)] }
def CrcSealsSaid : Prop := crcSealsRow.holds Tryd.pinned (OpenSpec.ofChange crcSealsSpec)

/-- ITS FALSE NEIGHBOUR: 'it returns false'. Refute it at one input. -/
def crcSealsWrong : ChangeSpec := { name := "crcSeals", fn := fun _ => fun
  | [d1, d2, d3] => { results := [.lit (.bool false)], args := [d1, d2, d3] }
  | _ => none }
def CrcSealsWrongFalsely : Prop := crcSealsRow.holds Tryd.pinned (OpenSpec.ofChange crcSealsWrong)

/-- 'coppicelaw2.CrcOpens': WHATEVER THE INPUT: true; the input reads as it did. -/
def crcOpensSpec : ChangeSpec := { name := "crcOpens", fn := fun _ => fun
  | [d1, d2, d3] => { results := [.lit (.bool true)], args := [d1, d2, d3] }
  | _ => none }
def crcOpensRow : OpenClaim := { program := "ytjfecechagoepaadoor", sum := "7632a4c63c8c38c6ddc4a4007aac65233dd71fe416fbadc40dc7000633bc7c13", func := "coppice/coppicelaw2.CrcOpens", spec := "crcOpens", named := ["coppice/crc.left"], apart := false, laid := [("coppice/crc.left", laid_coppice_crc_left)] }
def CrcOpensSaid : Prop := crcOpensRow.holds Tryd.pinned (OpenSpec.ofChange crcOpensSpec)

/-- ITS FALSE NEIGHBOUR: 'it returns false'. Refute it at one input. -/
def crcOpensWrong : ChangeSpec := { name := "crcOpens", fn := fun _ => fun
  | [d1, d2, d3] => { results := [.lit (.bool false)], args := [d1, d2, d3] }
  | _ => none }
def CrcOpensWrongFalsely : Prop := crcOpensRow.holds Tryd.pinned (OpenSpec.ofChange crcOpensWrong)

/-- 'coppicelaw2.CrcJoins': WHATEVER THE INPUT: true; the input reads as it did. -/
def crcJoinsSpec : ChangeSpec := { name := "crcJoins", fn := fun _ => fun
  | [d1, d2, d3, d4] => { results := [.lit (.bool true)], args := [d1, d2, d3, d4] }
  | _ => none }
def crcJoinsRow : OpenClaim := { program := "ytjfecechagoepaadoor", sum := "7632a4c63c8c38c6ddc4a4007aac65233dd71fe416fbadc40dc7000633bc7c13", func := "coppice/coppicelaw2.CrcJoins", spec := "crcJoins", named := ["coppice/crc.left"], apart := false, laid := [("coppice/crc.left", laid_coppice_crc_left)] }
def CrcJoinsSaid : Prop := crcJoinsRow.holds Tryd.pinned (OpenSpec.ofChange crcJoinsSpec)

/-- ITS FALSE NEIGHBOUR: 'it returns false'. Refute it at one input. -/
def crcJoinsWrong : ChangeSpec := { name := "crcJoins", fn := fun _ => fun
  | [d1, d2, d3, d4] => { results := [.lit (.bool false)], args := [d1, d2, d3, d4] }
  | _ => none }
def CrcJoinsWrongFalsely : Prop := crcJoinsRow.holds Tryd.pinned (OpenSpec.ofChange crcJoinsWrong)

/-- 'coppicelaw2.CrcBehind': WHATEVER THE INPUT: true; the input reads as it did. -/
def crcBehindSpec : ChangeSpec := { name := "crcBehind", fn := fun _ => fun
  | [d] => { results := [.lit (.bool true)], args := [d] }
  | _ => none }
def crcBehindRow : OpenClaim := { program := "ytjfecechagoepaadoor", sum := "7632a4c63c8c38c6ddc4a4007aac65233dd71fe416fbadc40dc7000633bc7c13", func := "coppice/coppicelaw2.CrcBehind", spec := "crcBehind", named := ["coppice/crc.left"], apart := false, laid := [("coppice/crc.left", laid_coppice_crc_left)] }
def CrcBehindSaid : Prop := crcBehindRow.holds Tryd.pinned (OpenSpec.ofChange crcBehindSpec)

/-- ITS FALSE NEIGHBOUR: 'it returns false'. Refute it at one input. -/
def crcBehindWrong : ChangeSpec := { name := "crcBehind", fn := fun _ => fun
  | [d] => { results := [.lit (.bool false)], args := [d] }
  | _ => none }
def CrcBehindWrongFalsely : Prop := crcBehindRow.holds Tryd.pinned (OpenSpec.ofChange crcBehindWrong)

/-- 'coppicelaw2.CrcBack': WHATEVER THE INPUT: true; the input reads as it did. -/
def crcBackSpec : ChangeSpec := { name := "crcBack", fn := fun _ => fun
  | [d1, d2] => { results := [.lit (.bool true)], args := [d1, d2] }
  | _ => none }
def crcBackRow : OpenClaim := { program := "ytjfecechagoepaadoor", sum := "7632a4c63c8c38c6ddc4a4007aac65233dd71fe416fbadc40dc7000633bc7c13", func := "coppice/coppicelaw2.CrcBack", spec := "crcBack", named := ["coppice/crc.left"], apart := false, laid := [("coppice/crc.left", laid_coppice_crc_left)] }
def CrcBackSaid : Prop := crcBackRow.holds Tryd.pinned (OpenSpec.ofChange crcBackSpec)

/-- ITS FALSE NEIGHBOUR: 'it returns false'. Refute it at one input. -/
def crcBackWrong : ChangeSpec := { name := "crcBack", fn := fun _ => fun
  | [d1, d2] => { results := [.lit (.bool false)], args := [d1, d2] }
  | _ => none }
def CrcBackWrongFalsely : Prop := crcBackRow.holds Tryd.pinned (OpenSpec.ofChange crcBackWrong)

/-- 'coppicelaw2.CrcBurst': WHATEVER THE INPUT: true; the input reads as it did. -/
def crcBurstSpec : ChangeSpec := { name := "crcBurst", fn := fun _ => fun
  | [d1, d2, d3] => { results := [.lit (.bool true)], args := [d1, d2, d3] }
  | _ => none }
def crcBurstRow : OpenClaim := { program := "ytjfecechagoepaadoor", sum := "7632a4c63c8c38c6ddc4a4007aac65233dd71fe416fbadc40dc7000633bc7c13", func := "coppice/coppicelaw2.CrcBurst", spec := "crcBurst", named := ["coppice/crc.left"], apart := false, laid := [("coppice/crc.left", laid_coppice_crc_left)] }
def CrcBurstSaid : Prop := crcBurstRow.holds Tryd.pinned (OpenSpec.ofChange crcBurstSpec)

/-- ITS FALSE NEIGHBOUR: 'it returns false'. Refute it at one input. -/
def crcBurstWrong : ChangeSpec := { name := "crcBurst", fn := fun _ => fun
  | [d1, d2, d3] => { results := [.lit (.bool false)], args := [d1, d2, d3] }
  | _ => none }
def CrcBurstWrongFalsely : Prop := crcBurstRow.holds Tryd.pinned (OpenSpec.ofChange crcBurstWrong)

/-- 'coppicelaw2.CrcTwo': WHATEVER THE INPUT: true; the input reads as it did. -/
def crcTwoSpec : ChangeSpec := { name := "crcTwo", fn := fun _ => fun
  | [d1, d2, d3] => { results := [.lit (.bool true)], args := [d1, d2, d3] }
  | _ => none }
def crcTwoRow : OpenClaim := { program := "ytjfecechagoepaadoor", sum := "7632a4c63c8c38c6ddc4a4007aac65233dd71fe416fbadc40dc7000633bc7c13", func := "coppice/coppicelaw2.CrcTwo", spec := "crcTwo", named := ["coppice/crc.left"], apart := false, laid := [("coppice/crc.left", laid_coppice_crc_left)] }
def CrcTwoSaid : Prop := crcTwoRow.holds Tryd.pinned (OpenSpec.ofChange crcTwoSpec)

/-- ITS FALSE NEIGHBOUR: 'it returns false'. Refute it at one input. -/
def crcTwoWrong : ChangeSpec := { name := "crcTwo", fn := fun _ => fun
  | [d1, d2, d3] => { results := [.lit (.bool false)], args := [d1, d2, d3] }
  | _ => none }
def CrcTwoWrongFalsely : Prop := crcTwoRow.holds Tryd.pinned (OpenSpec.ofChange crcTwoWrong)

/-- 'coppicelaw2.CrcLinear': WHATEVER THE INPUT: true; the input reads as it did. -/
def crcLinearSpec : ChangeSpec := { name := "crcLinear", fn := fun _ => fun
  | [d1, d2, d3] => { results := [.lit (.bool true)], args := [d1, d2, d3] }
  | _ => none }
def crcLinearRow : OpenClaim := { program := "ytjfecechagoepaadoor", sum := "7632a4c63c8c38c6ddc4a4007aac65233dd71fe416fbadc40dc7000633bc7c13", func := "coppice/coppicelaw2.CrcLinear", spec := "crcLinear", named := ["coppice/crc.left"], apart := false, laid := [("coppice/crc.left", laid_coppice_crc_left)] }
def CrcLinearSaid : Prop := crcLinearRow.holds Tryd.pinned (OpenSpec.ofChange crcLinearSpec)

/-- ITS FALSE NEIGHBOUR: 'it returns false'. Refute it at one input. -/
def crcLinearWrong : ChangeSpec := { name := "crcLinear", fn := fun _ => fun
  | [d1, d2, d3] => { results := [.lit (.bool false)], args := [d1, d2, d3] }
  | _ => none }
def CrcLinearWrongFalsely : Prop := crcLinearRow.holds Tryd.pinned (OpenSpec.ofChange crcLinearWrong)

/- THE SECOND FORM. 'bulk': how many values and letters a reading holds, each counted each time it is reached (what is shared counts as often as it is met; a slice's spare places count too). A statement '..UptoSaid' is the law's where the arguments, and the package variables that the reading takes, are together of bulk at most 1048576: NARROWER than '..Said'. Prove '..Said' where nothing that the law and all that it calls make is longer than what came in: it says more and counts as full. Else prove '..UptoSaid'. A law counts once. -/
mutual
def uptoBulk {H : Type} : DataW H → Nat
  | .lit (.string bytes) => bytes.length + 1
  | .lit _ => 1
  | .nil => 1
  | .ptr d => uptoBulk d + 1
  | .slice elems spare => uptoBulkAll elems + uptoBulkAll spare + 1
  | .agg parts => uptoBulkAll parts + 1
  | .iface _ d => uptoBulk d + 1
  | .map entries => uptoBulkEntries entries + 1
  | .held _ => 1
def uptoBulkAll {H : Type} : List (DataW H) → Nat
  | [] => 0
  | d :: r => uptoBulk d + uptoBulkAll r
def uptoBulkEntries {H : Type} : List (Lit × DataW H) → Nat
  | [] => 0
  | x :: r => uptoBulkEntry x + uptoBulkEntries r
def uptoBulkEntry {H : Type} : Lit × DataW H → Nat
  | (.string bytes, d) => bytes.length + uptoBulk d + 1
  | (_, d) => uptoBulk d + 1
 end
def uptoSmall : (H : Type) → List (DataW H) → Bool := fun _ ds => decide (uptoBulkAll ds ≤ 1048576)
def OpenSpec.upto (s : _root_.Go.ChangeSpec) : _root_.Go.OpenSpec := { _root_.Go.OpenSpec.ofChange s with cond := some uptoSmall }

/-- 'coppicelaw2.CrcSums', WHERE WHAT IT READS IS OF BULK AT MOST 1048576: true; the input reads as it did. -/
def crcSumsUptoRow : OpenClaim := { program := "ytjfecechagoepaadoor", sum := "7632a4c63c8c38c6ddc4a4007aac65233dd71fe416fbadc40dc7000633bc7c13", func := "coppice/coppicelaw2.CrcSums", spec := "crcSums", named := ["coppice/crc.left"], apart := false, laid := [("coppice/crc.left", laid_coppice_crc_left)], narrowed := true }
def CrcSumsUptoSaid : Prop := crcSumsUptoRow.holds Tryd.pinned (OpenSpec.upto crcSumsSpec)

/-- 'coppicelaw2.CrcUpdates', WHERE WHAT IT READS IS OF BULK AT MOST 1048576: true; the input reads as it did. -/
def crcUpdatesUptoRow : OpenClaim := { program := "ytjfecechagoepaadoor", sum := "7632a4c63c8c38c6ddc4a4007aac65233dd71fe416fbadc40dc7000633bc7c13", func := "coppice/coppicelaw2.CrcUpdates", spec := "crcUpdates", named := ["coppice/crc.left"], apart := false, laid := [("coppice/crc.left", laid_coppice_crc_left)], narrowed := true }
def CrcUpdatesUptoSaid : Prop := crcUpdatesUptoRow.holds Tryd.pinned (OpenSpec.upto crcUpdatesSpec)

/-- 'coppicelaw2.CrcSeals', WHERE WHAT IT READS IS OF BULK AT MOST 1048576: true; the input reads as it did. -/
def crcSealsUptoRow : OpenClaim := { program := "ytjfecechagoepaadoor", sum := "7632a4c63c8c38c6ddc4a4007aac65233dd71fe416fbadc40dc7000633bc7c13", func := "coppice/coppicelaw2.CrcSeals", spec := "crcSeals", named := ["coppice/crc.left"], apart := false, laid := [("coppice/crc.left", laid_coppice_crc_left)], narrowed := true }
def CrcSealsUptoSaid : Prop := crcSealsUptoRow.holds Tryd.pinned (OpenSpec.upto crcSealsSpec)

/-- 'coppicelaw2.CrcOpens', WHERE WHAT IT READS IS OF BULK AT MOST 1048576: true; the input reads as it did. -/
def crcOpensUptoRow : OpenClaim := { program := "ytjfecechagoepaadoor", sum := "7632a4c63c8c38c6ddc4a4007aac65233dd71fe416fbadc40dc7000633bc7c13", func := "coppice/coppicelaw2.CrcOpens", spec := "crcOpens", named := ["coppice/crc.left"], apart := false, laid := [("coppice/crc.left", laid_coppice_crc_left)], narrowed := true }
def CrcOpensUptoSaid : Prop := crcOpensUptoRow.holds Tryd.pinned (OpenSpec.upto crcOpensSpec)

/-- 'coppicelaw2.CrcJoins', WHERE WHAT IT READS IS OF BULK AT MOST 1048576: true; the input reads as it did. -/
def crcJoinsUptoRow : OpenClaim := { program := "ytjfecechagoepaadoor", sum := "7632a4c63c8c38c6ddc4a4007aac65233dd71fe416fbadc40dc7000633bc7c13", func := "coppice/coppicelaw2.CrcJoins", spec := "crcJoins", named := ["coppice/crc.left"], apart := false, laid := [("coppice/crc.left", laid_coppice_crc_left)], narrowed := true }
def CrcJoinsUptoSaid : Prop := crcJoinsUptoRow.holds Tryd.pinned (OpenSpec.upto crcJoinsSpec)

/-- 'coppicelaw2.CrcBehind', WHERE WHAT IT READS IS OF BULK AT MOST 1048576: true; the input reads as it did. -/
def crcBehindUptoRow : OpenClaim := { program := "ytjfecechagoepaadoor", sum := "7632a4c63c8c38c6ddc4a4007aac65233dd71fe416fbadc40dc7000633bc7c13", func := "coppice/coppicelaw2.CrcBehind", spec := "crcBehind", named := ["coppice/crc.left"], apart := false, laid := [("coppice/crc.left", laid_coppice_crc_left)], narrowed := true }
def CrcBehindUptoSaid : Prop := crcBehindUptoRow.holds Tryd.pinned (OpenSpec.upto crcBehindSpec)

/-- 'coppicelaw2.CrcBack', WHERE WHAT IT READS IS OF BULK AT MOST 1048576: true; the input reads as it did. -/
def crcBackUptoRow : OpenClaim := { program := "ytjfecechagoepaadoor", sum := "7632a4c63c8c38c6ddc4a4007aac65233dd71fe416fbadc40dc7000633bc7c13", func := "coppice/coppicelaw2.CrcBack", spec := "crcBack", named := ["coppice/crc.left"], apart := false, laid := [("coppice/crc.left", laid_coppice_crc_left)], narrowed := true }
def CrcBackUptoSaid : Prop := crcBackUptoRow.holds Tryd.pinned (OpenSpec.upto crcBackSpec)

/-- 'coppicelaw2.CrcBurst', WHERE WHAT IT READS IS OF BULK AT MOST 1048576: true; the input reads as it did. -/
def crcBurstUptoRow : OpenClaim := { program := "ytjfecechagoepaadoor", sum := "7632a4c63c8c38c6ddc4a4007aac65233dd71fe416fbadc40dc7000633bc7c13", func := "coppice/coppicelaw2.CrcBurst", spec := "crcBurst", named := ["coppice/crc.left"], apart := false, laid := [("coppice/crc.left", laid_coppice_crc_left)], narrowed := true }
def CrcBurstUptoSaid : Prop := crcBurstUptoRow.holds Tryd.pinned (OpenSpec.upto crcBurstSpec)

/-- 'coppicelaw2.CrcTwo', WHERE WHAT IT READS IS OF BULK AT MOST 1048576: true; the input reads as it did. -/
def crcTwoUptoRow : OpenClaim := { program := "ytjfecechagoepaadoor", sum := "7632a4c63c8c38c6ddc4a4007aac65233dd71fe416fbadc40dc7000633bc7c13", func := "coppice/coppicelaw2.CrcTwo", spec := "crcTwo", named := ["coppice/crc.left"], apart := false, laid := [("coppice/crc.left", laid_coppice_crc_left)], narrowed := true }
def CrcTwoUptoSaid : Prop := crcTwoUptoRow.holds Tryd.pinned (OpenSpec.upto crcTwoSpec)

/-- 'coppicelaw2.CrcLinear', WHERE WHAT IT READS IS OF BULK AT MOST 1048576: true; the input reads as it did. -/
def crcLinearUptoRow : OpenClaim := { program := "ytjfecechagoepaadoor", sum := "7632a4c63c8c38c6ddc4a4007aac65233dd71fe416fbadc40dc7000633bc7c13", func := "coppice/coppicelaw2.CrcLinear", spec := "crcLinear", named := ["coppice/crc.left"], apart := false, laid := [("coppice/crc.left", laid_coppice_crc_left)], narrowed := true }
def CrcLinearUptoSaid : Prop := crcLinearUptoRow.holds Tryd.pinned (OpenSpec.upto crcLinearSpec)

end Rows
end Go.Proofs.YtjfecechagoepaaDoor
