/-
  NARROWER THAN 'FOR EVERY INPUT', by the rows' own cells (each row's printed sentence says how): LeafOwn: laid · CrcOwns: laid · KeysOwn: laid · MetaOwn: laid.
  DERIVED. THE GIVEN ROWS OF THIS SEAT. 4 by the template 'for every input the law returns true; each argument reads behind the call as it read before'; 0 by the template 'total and deterministic' (their statements: YtenalocpmigppaaGreatDoorTotals.lean).
  GIVEN WITH THE SEED: the statements are not yours to turn. If you find one false, say at which input.
  Laid BY PROGRAM, IN A SANDBOX (cutbox-rows.mjs): the forced cells as the released guide's own fill.sh prints them over the translation 3c109383e910647c… (all of the seat's roots in one cut). By AI agents, Wed Nov 11 2026. No macro, syntax, notation, axiom, sorry.
-/
import Derived.Test.YtenalocpmigppaaGreatDoorChecked
import GoSem.Claim
import GoSem.ClaimJoined
import GoSem.ClaimMapViews
import Derived.JoinedTies
import Derived.KernelRfl
namespace Go.Proofs.YtenalocpmigppaaGreatDoor
/- THE CELL 'sum', in the pinned program and in every row, IS THE sha256 OF THE DUMP (.gsa) THAT YtenalocpmigppaaGreatDoorProg.lean LOADS. Nothing in Lean hashes anything: it is a label: what it is worth is what the hold of that sum in a sandbox is worth. -/
noncomputable def Tryz.pinned : Pinned := { name := "ytenalocpmigppaagreatdoor", sum := "3c109383e910647c97e87fe224ae64157d61192563adec24b54fe42e18b6888d", checked := Tryz.checked }
namespace Rows
def none {H : Type} : Left H := { results := [], args := [] }

/- WHAT THE LISTED PACKAGE-LEVEL VARIABLES READ AS WHEN THE CALL BEGINS. Each datum BY PROGRAM (the guide's laid-datum.mjs) off the statement by which the dump's own 'gosem.cut.vars' lays the variable. In a bare row this is a premise. The card (YtenalocpmigppaaGreatDoorCards.lean) ties it to the program's text. -/
def laid_math_bits_deBruijn32tab {H : Type} : DataW H := .agg [.lit (.int .u8 0), .lit (.int .u8 1), .lit (.int .u8 28), .lit (.int .u8 2), .lit (.int .u8 29), .lit (.int .u8 14), .lit (.int .u8 24), .lit (.int .u8 3), .lit (.int .u8 30), .lit (.int .u8 22), .lit (.int .u8 20), .lit (.int .u8 15), .lit (.int .u8 25), .lit (.int .u8 17), .lit (.int .u8 4), .lit (.int .u8 8), .lit (.int .u8 31), .lit (.int .u8 27), .lit (.int .u8 13), .lit (.int .u8 23), .lit (.int .u8 21), .lit (.int .u8 19), .lit (.int .u8 16), .lit (.int .u8 7), .lit (.int .u8 26), .lit (.int .u8 12), .lit (.int .u8 18), .lit (.int .u8 6), .lit (.int .u8 11), .lit (.int .u8 5), .lit (.int .u8 10), .lit (.int .u8 9)]
def laid_math_bits_deBruijn64tab {H : Type} : DataW H := .agg [.lit (.int .u8 0), .lit (.int .u8 1), .lit (.int .u8 56), .lit (.int .u8 2), .lit (.int .u8 57), .lit (.int .u8 49), .lit (.int .u8 28), .lit (.int .u8 3), .lit (.int .u8 61), .lit (.int .u8 58), .lit (.int .u8 42), .lit (.int .u8 50), .lit (.int .u8 38), .lit (.int .u8 29), .lit (.int .u8 17), .lit (.int .u8 4), .lit (.int .u8 62), .lit (.int .u8 47), .lit (.int .u8 59), .lit (.int .u8 36), .lit (.int .u8 45), .lit (.int .u8 43), .lit (.int .u8 51), .lit (.int .u8 22), .lit (.int .u8 53), .lit (.int .u8 39), .lit (.int .u8 33), .lit (.int .u8 30), .lit (.int .u8 24), .lit (.int .u8 18), .lit (.int .u8 12), .lit (.int .u8 5), .lit (.int .u8 63), .lit (.int .u8 55), .lit (.int .u8 48), .lit (.int .u8 27), .lit (.int .u8 60), .lit (.int .u8 41), .lit (.int .u8 37), .lit (.int .u8 16), .lit (.int .u8 46), .lit (.int .u8 35), .lit (.int .u8 44), .lit (.int .u8 21), .lit (.int .u8 52), .lit (.int .u8 32), .lit (.int .u8 23), .lit (.int .u8 11), .lit (.int .u8 54), .lit (.int .u8 26), .lit (.int .u8 40), .lit (.int .u8 15), .lit (.int .u8 34), .lit (.int .u8 20), .lit (.int .u8 31), .lit (.int .u8 10), .lit (.int .u8 25), .lit (.int .u8 14), .lit (.int .u8 19), .lit (.int .u8 9), .lit (.int .u8 13), .lit (.int .u8 8), .lit (.int .u8 7), .lit (.int .u8 6)]
def laid_internal_strconv_uint64pow10 {H : Type} : DataW H := .agg [.lit (.int .u64 1), .lit (.int .u64 10), .lit (.int .u64 100), .lit (.int .u64 1000), .lit (.int .u64 10000), .lit (.int .u64 100000), .lit (.int .u64 1000000), .lit (.int .u64 10000000), .lit (.int .u64 100000000), .lit (.int .u64 1000000000), .lit (.int .u64 10000000000), .lit (.int .u64 100000000000), .lit (.int .u64 1000000000000), .lit (.int .u64 10000000000000), .lit (.int .u64 100000000000000), .lit (.int .u64 1000000000000000), .lit (.int .u64 10000000000000000), .lit (.int .u64 100000000000000000), .lit (.int .u64 1000000000000000000), .lit (.int .u64 10000000000000000000)]
def laid_coppice_crc_left {H : Type} : DataW H := .agg [.lit (.int .u32 0), .lit (.int .u32 498536548), .lit (.int .u32 997073096), .lit (.int .u32 651767980), .lit (.int .u32 1994146192), .lit (.int .u32 1802195444), .lit (.int .u32 1303535960), .lit (.int .u32 1342533948), .lit (.int .u32 3988292384), .lit (.int .u32 4027552580), .lit (.int .u32 3604390888), .lit (.int .u32 3412177804), .lit (.int .u32 2607071920), .lit (.int .u32 2262029012), .lit (.int .u32 2685067896), .lit (.int .u32 3183342108)]
def laid_coppice_meta_begin {H : Type} : DataW H := .agg [.lit (.int .u8 5), .lit (.int .u8 99), .lit (.int .u8 111), .lit (.int .u8 112)]
def laid_coppice_meta_end {H : Type} : DataW H := .agg [.lit (.int .u8 101), .lit (.int .u8 110), .lit (.int .u8 100), .lit (.int .u8 46)]

/-- 'coppicelaw4.LeafOwn': WHATEVER THE INPUT: true; the input reads as it did. -/
def leafOwnSpec : ChangeSpec := { name := "leafOwn", fn := fun _ => fun
  | [d] => { results := [.lit (.bool true)], args := [d] }
  | _ => none }
def leafOwnRow : OpenClaim := { program := "ytenalocpmigppaagreatdoor", sum := "3c109383e910647c97e87fe224ae64157d61192563adec24b54fe42e18b6888d", func := "coppice/coppicelaw4.LeafOwn", spec := "leafOwn", inPlace := ["internal/bytealg.Compare"], unfollowed := true, recurses := true, named := ["internal/strconv.uint64pow10", "math/bits.deBruijn32tab", "math/bits.deBruijn64tab"], apart := false, laid := [("math/bits.deBruijn32tab", laid_math_bits_deBruijn32tab), ("math/bits.deBruijn64tab", laid_math_bits_deBruijn64tab), ("internal/strconv.uint64pow10", laid_internal_strconv_uint64pow10)] }
def LeafOwnSaid : Prop := leafOwnRow.holds Tryz.pinned (OpenSpec.ofChange leafOwnSpec)

/-- ITS FALSE NEIGHBOUR: 'it returns false'. Refute it at one input. -/
def leafOwnWrong : ChangeSpec := { name := "leafOwn", fn := fun _ => fun
  | [d] => { results := [.lit (.bool false)], args := [d] }
  | _ => none }
def LeafOwnWrongFalsely : Prop := leafOwnRow.holds Tryz.pinned (OpenSpec.ofChange leafOwnWrong)

/-- 'coppicelaw2.CrcOwns': WHATEVER THE INPUT: true; the input reads as it did. -/
def crcOwnsSpec : ChangeSpec := { name := "crcOwns", fn := fun _ => fun
  | [d] => { results := [.lit (.bool true)], args := [d] }
  | _ => none }
def crcOwnsRow : OpenClaim := { program := "ytenalocpmigppaagreatdoor", sum := "3c109383e910647c97e87fe224ae64157d61192563adec24b54fe42e18b6888d", func := "coppice/coppicelaw2.CrcOwns", spec := "crcOwns", named := ["coppice/crc.left", "internal/strconv.uint64pow10", "math/bits.deBruijn32tab", "math/bits.deBruijn64tab"], apart := false, laid := [("math/bits.deBruijn32tab", laid_math_bits_deBruijn32tab), ("math/bits.deBruijn64tab", laid_math_bits_deBruijn64tab), ("internal/strconv.uint64pow10", laid_internal_strconv_uint64pow10), ("coppice/crc.left", laid_coppice_crc_left)] }
def CrcOwnsSaid : Prop := crcOwnsRow.holds Tryz.pinned (OpenSpec.ofChange crcOwnsSpec)

/-- ITS FALSE NEIGHBOUR: 'it returns false'. Refute it at one input. -/
def crcOwnsWrong : ChangeSpec := { name := "crcOwns", fn := fun _ => fun
  | [d] => { results := [.lit (.bool false)], args := [d] }
  | _ => none }
def CrcOwnsWrongFalsely : Prop := crcOwnsRow.holds Tryz.pinned (OpenSpec.ofChange crcOwnsWrong)

/-- 'coppicelaw3.KeysOwn': WHATEVER THE INPUT: true; the input reads as it did. -/
def keysOwnSpec : ChangeSpec := { name := "keysOwn", fn := fun _ => fun
  | [d] => { results := [.lit (.bool true)], args := [d] }
  | _ => none }
def keysOwnRow : OpenClaim := { program := "ytenalocpmigppaagreatdoor", sum := "3c109383e910647c97e87fe224ae64157d61192563adec24b54fe42e18b6888d", func := "coppice/coppicelaw3.KeysOwn", spec := "keysOwn", inPlace := ["internal/bytealg.Compare"], unfollowed := true, recurses := true, named := ["internal/strconv.uint64pow10", "math/bits.deBruijn32tab", "math/bits.deBruijn64tab"], apart := false, laid := [("math/bits.deBruijn32tab", laid_math_bits_deBruijn32tab), ("math/bits.deBruijn64tab", laid_math_bits_deBruijn64tab), ("internal/strconv.uint64pow10", laid_internal_strconv_uint64pow10)] }
def KeysOwnSaid : Prop := keysOwnRow.holds Tryz.pinned (OpenSpec.ofChange keysOwnSpec)

/-- ITS FALSE NEIGHBOUR: 'it returns false'. Refute it at one input. -/
def keysOwnWrong : ChangeSpec := { name := "keysOwn", fn := fun _ => fun
  | [d] => { results := [.lit (.bool false)], args := [d] }
  | _ => none }
def KeysOwnWrongFalsely : Prop := keysOwnRow.holds Tryz.pinned (OpenSpec.ofChange keysOwnWrong)

/-- 'coppicelaw7.MetaOwn': WHATEVER THE INPUT: true; the input reads as it did. -/
def metaOwnSpec : ChangeSpec := { name := "metaOwn", fn := fun _ => fun
  | [d1, d2] => { results := [.lit (.bool true)], args := [d1, d2] }
  | _ => none }
def metaOwnRow : OpenClaim := { program := "ytenalocpmigppaagreatdoor", sum := "3c109383e910647c97e87fe224ae64157d61192563adec24b54fe42e18b6888d", func := "coppice/coppicelaw7.MetaOwn", spec := "metaOwn", named := ["coppice/meta.begin", "coppice/meta.end", "internal/strconv.uint64pow10", "math/bits.deBruijn32tab", "math/bits.deBruijn64tab"], apart := false, laid := [("math/bits.deBruijn32tab", laid_math_bits_deBruijn32tab), ("math/bits.deBruijn64tab", laid_math_bits_deBruijn64tab), ("internal/strconv.uint64pow10", laid_internal_strconv_uint64pow10), ("coppice/meta.begin", laid_coppice_meta_begin), ("coppice/meta.end", laid_coppice_meta_end)] }
def MetaOwnSaid : Prop := metaOwnRow.holds Tryz.pinned (OpenSpec.ofChange metaOwnSpec)

/-- ITS FALSE NEIGHBOUR: 'it returns false'. Refute it at one input. -/
def metaOwnWrong : ChangeSpec := { name := "metaOwn", fn := fun _ => fun
  | [d1, d2] => { results := [.lit (.bool false)], args := [d1, d2] }
  | _ => none }
def MetaOwnWrongFalsely : Prop := metaOwnRow.holds Tryz.pinned (OpenSpec.ofChange metaOwnWrong)

/- THE SECOND FORM. 'bulk': how many values and letters a reading holds, each counted each time it is reached (what is shared counts as often as it is met; a slice's spare places count too). A statement '..UptoSaid' is the law's where the arguments, and the package variables that the reading takes, are together of bulk at most 1048576: NARROWER than '..Said'. Prove '..Said' where nothing that the law and all that it calls make is longer than what came in: it says more and counts as full. Else prove '..UptoSaid'. A law counts once. -/
mutual
def uptoBulk {H : Type} : DataW H → Nat
  | .lit (.string bytes) => bytes.length + 1
  | .lit _ => 1
  | .nil => 1
  | .ptr d => uptoBulk d + 1
  | .slice elems spare => uptoBulkAll elems + uptoBulkAll spare + 1
  | .agg parts => uptoBulkAll parts + 1
  | .iface _ d => uptoBulk d + 1
  | .map entries => uptoBulkEntries entries + 1
  | .held _ => 1
def uptoBulkAll {H : Type} : List (DataW H) → Nat
  | [] => 0
  | d :: r => uptoBulk d + uptoBulkAll r
def uptoBulkEntries {H : Type} : List (Lit × DataW H) → Nat
  | [] => 0
  | x :: r => uptoBulkEntry x + uptoBulkEntries r
def uptoBulkEntry {H : Type} : Lit × DataW H → Nat
  | (.string bytes, d) => bytes.length + uptoBulk d + 1
  | (_, d) => uptoBulk d + 1
 end
def uptoSmall : (H : Type) → List (DataW H) → Bool := fun _ ds => decide (uptoBulkAll ds ≤ 1048576)
def OpenSpec.upto (s : _root_.Go.ChangeSpec) : _root_.Go.OpenSpec := { _root_.Go.OpenSpec.ofChange s with cond := some uptoSmall }

/-- 'coppicelaw4.LeafOwn', WHERE WHAT IT READS IS OF BULK AT MOST 1048576: true; the input reads as it did. -/
def leafOwnUptoRow : OpenClaim := { program := "ytenalocpmigppaagreatdoor", sum := "3c109383e910647c97e87fe224ae64157d61192563adec24b54fe42e18b6888d", func := "coppice/coppicelaw4.LeafOwn", spec := "leafOwn", inPlace := ["internal/bytealg.Compare"], unfollowed := true, recurses := true, named := ["internal/strconv.uint64pow10", "math/bits.deBruijn32tab", "math/bits.deBruijn64tab"], apart := false, laid := [("math/bits.deBruijn32tab", laid_math_bits_deBruijn32tab), ("math/bits.deBruijn64tab", laid_math_bits_deBruijn64tab), ("internal/strconv.uint64pow10", laid_internal_strconv_uint64pow10)], narrowed := true }
def LeafOwnUptoSaid : Prop := leafOwnUptoRow.holds Tryz.pinned (OpenSpec.upto leafOwnSpec)

/-- 'coppicelaw2.CrcOwns', WHERE WHAT IT READS IS OF BULK AT MOST 1048576: true; the input reads as it did. -/
def crcOwnsUptoRow : OpenClaim := { program := "ytenalocpmigppaagreatdoor", sum := "3c109383e910647c97e87fe224ae64157d61192563adec24b54fe42e18b6888d", func := "coppice/coppicelaw2.CrcOwns", spec := "crcOwns", named := ["coppice/crc.left", "internal/strconv.uint64pow10", "math/bits.deBruijn32tab", "math/bits.deBruijn64tab"], apart := false, laid := [("math/bits.deBruijn32tab", laid_math_bits_deBruijn32tab), ("math/bits.deBruijn64tab", laid_math_bits_deBruijn64tab), ("internal/strconv.uint64pow10", laid_internal_strconv_uint64pow10), ("coppice/crc.left", laid_coppice_crc_left)], narrowed := true }
def CrcOwnsUptoSaid : Prop := crcOwnsUptoRow.holds Tryz.pinned (OpenSpec.upto crcOwnsSpec)

/-- 'coppicelaw3.KeysOwn', WHERE WHAT IT READS IS OF BULK AT MOST 1048576: true; the input reads as it did. -/
def keysOwnUptoRow : OpenClaim := { program := "ytenalocpmigppaagreatdoor", sum := "3c109383e910647c97e87fe224ae64157d61192563adec24b54fe42e18b6888d", func := "coppice/coppicelaw3.KeysOwn", spec := "keysOwn", inPlace := ["internal/bytealg.Compare"], unfollowed := true, recurses := true, named := ["internal/strconv.uint64pow10", "math/bits.deBruijn32tab", "math/bits.deBruijn64tab"], apart := false, laid := [("math/bits.deBruijn32tab", laid_math_bits_deBruijn32tab), ("math/bits.deBruijn64tab", laid_math_bits_deBruijn64tab), ("internal/strconv.uint64pow10", laid_internal_strconv_uint64pow10)], narrowed := true }
def KeysOwnUptoSaid : Prop := keysOwnUptoRow.holds Tryz.pinned (OpenSpec.upto keysOwnSpec)

/-- 'coppicelaw7.MetaOwn', WHERE WHAT IT READS IS OF BULK AT MOST 1048576: true; the input reads as it did. -/
def metaOwnUptoRow : OpenClaim := { program := "ytenalocpmigppaagreatdoor", sum := "3c109383e910647c97e87fe224ae64157d61192563adec24b54fe42e18b6888d", func := "coppice/coppicelaw7.MetaOwn", spec := "metaOwn", named := ["coppice/meta.begin", "coppice/meta.end", "internal/strconv.uint64pow10", "math/bits.deBruijn32tab", "math/bits.deBruijn64tab"], apart := false, laid := [("math/bits.deBruijn32tab", laid_math_bits_deBruijn32tab), ("math/bits.deBruijn64tab", laid_math_bits_deBruijn64tab), ("internal/strconv.uint64pow10", laid_internal_strconv_uint64pow10), ("coppice/meta.begin", laid_coppice_meta_begin), ("coppice/meta.end", laid_coppice_meta_end)], narrowed := true }
def MetaOwnUptoSaid : Prop := metaOwnUptoRow.holds Tryz.pinned (OpenSpec.upto metaOwnSpec)

end Rows
end Go.Proofs.YtenalocpmigppaaGreatDoor
