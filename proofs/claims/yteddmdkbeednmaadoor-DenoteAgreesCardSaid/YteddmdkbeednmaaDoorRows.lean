/-
  NARROWER THAN 'FOR EVERY INPUT', by the rows' own cells (each row's printed sentence says how): DenoteKleene: loops, laid · DenoteEnds: loops, laid · DenoteFirst: loops, laid · DenoteAgrees: laid.
  DERIVED. THE GIVEN ROWS OF THIS SEAT. 4 by the template 'for every input the law returns true; each argument reads behind the call as it read before'; 0 by the template 'total and deterministic' (their statements: YteddmdkbeednmaaDoorTotals.lean).
  GIVEN WITH THE SEED: the statements are not yours to turn. If you find one false, say at which input.
  Laid BY PROGRAM, IN A SANDBOX (cutbox-rows.mjs): the forced cells as the released guide's own fill.sh prints them over the translation 8f4d0c9a063bd621… (all of the seat's roots in one cut). By AI agents, Wed Nov 11 2026. No macro, syntax, notation, axiom, sorry.
-/
import Derived.Test.YteddmdkbeednmaaDoorChecked
import GoSem.Claim
import GoSem.ClaimJoined
import GoSem.ClaimMapViews
import Derived.JoinedTies
import Derived.KernelRfl
namespace Go.Proofs.YteddmdkbeednmaaDoor
/- THE CELL 'sum', in the pinned program and in every row, IS THE sha256 OF THE DUMP (.gsa) THAT YteddmdkbeednmaaDoorProg.lean LOADS. Nothing in Lean hashes anything: it is a label: what it is worth is what the hold of that sum in a sandbox is worth. -/
noncomputable def Tryd.pinned : Pinned := { name := "yteddmdkbeednmaadoor", sum := "8f4d0c9a063bd621f6b0f8644d6f712974cac75ec07a5ec368b27a27bade3e9a", checked := Tryd.checked }
namespace Rows
def none {H : Type} : Left H := { results := [], args := [] }

/- WHAT THE LISTED PACKAGE-LEVEL VARIABLES READ AS WHEN THE CALL BEGINS. Each datum BY PROGRAM (the guide's laid-datum.mjs) off the statement by which the dump's own 'gosem.cut.vars' lays the variable. In a bare row this is a premise. The card (YteddmdkbeednmaaDoorCards.lean) ties it to the program's text. -/
def laid_millwright_api_ErrLong {H : Type} : DataW H := .iface "*errors.errorString" (.ptr (.agg [.lit (.string [116, 104, 101, 114, 101, 32, 105, 115, 32, 109, 111, 114, 101, 32, 116, 104, 97, 110, 32, 109, 97, 121, 32, 98, 101])]))
def laid_millwright_api_ErrRegex {H : Type} : DataW H := .iface "*errors.errorString" (.ptr (.agg [.lit (.string [105, 116, 32, 105, 115, 32, 110, 111, 32, 114, 101, 103, 117, 108, 97, 114, 32, 101, 120, 112, 114, 101, 115, 115, 105, 111, 110])]))
def laid_millwright_api_ErrFull {H : Type} : DataW H := .iface "*errors.errorString" (.ptr (.agg [.lit (.string [116, 104, 101, 114, 101, 32, 105, 115, 32, 110, 111, 32, 109, 111, 114, 101, 32, 114, 111, 111, 109])]))
def laid_millwright_rex_words {H : Type} : DataW H := .agg [.lit (.string [101, 109, 112, 116, 121]), .lit (.string [111, 110, 101]), .lit (.string [99, 97, 116]), .lit (.string [97, 108, 116]), .lit (.string [115, 116, 97, 114]), .lit (.string [112, 108, 117, 115]), .lit (.string [109, 97, 121, 98, 101]), .lit (.string [103, 114, 111, 117, 112]), .lit (.string [98, 101, 103, 105, 110]), .lit (.string [101, 110, 100])]
def laid_millwright_api_ErrRange {H : Type} : DataW H := .iface "*errors.errorString" (.ptr (.agg [.lit (.string [97, 32, 110, 117, 109, 98, 101, 114, 32, 105, 115, 32, 111, 117, 116, 32, 111, 102, 32, 105, 116, 115, 32, 114, 97, 110, 103, 101])]))
def laid_millwright_api_ErrForm {H : Type} : DataW H := .iface "*errors.errorString" (.ptr (.agg [.lit (.string [105, 116, 32, 105, 115, 32, 110, 111, 116, 32, 111, 102, 32, 105, 116, 115, 32, 102, 111, 114, 109])]))
def laid_millwright_api_ErrName {H : Type} : DataW H := .iface "*errors.errorString" (.ptr (.agg [.lit (.string [105, 116, 32, 105, 115, 32, 110, 111, 32, 114, 105, 103, 104, 116, 32, 110, 97, 109, 101])]))
def laid_millwright_api_ErrQuote {H : Type} : DataW H := .iface "*errors.errorString" (.ptr (.agg [.lit (.string [97, 32, 113, 117, 111, 116, 101, 32, 104, 97, 115, 32, 110, 111, 32, 101, 110, 100])]))
def laid_millwright_api_ErrAttr {H : Type} : DataW H := .iface "*errors.errorString" (.ptr (.agg [.lit (.string [105, 116, 32, 105, 115, 32, 110, 111, 32, 97, 116, 116, 114, 105, 98, 117, 116, 101])]))
def laid_millwright_api_ErrNone {H : Type} : DataW H := .iface "*errors.errorString" (.ptr (.agg [.lit (.string [116, 104, 101, 114, 101, 32, 105, 115, 32, 110, 111, 110, 101])]))
def laid_millwright_api_ErrDup {H : Type} : DataW H := .iface "*errors.errorString" (.ptr (.agg [.lit (.string [105, 116, 32, 105, 115, 32, 116, 104, 101, 114, 101, 32, 97, 108, 114, 101, 97, 100, 121])]))
def laid_millwright_api_ErrDepth {H : Type} : DataW H := .iface "*errors.errorString" (.ptr (.agg [.lit (.string [105, 116, 32, 103, 111, 101, 115, 32, 116, 111, 111, 32, 100, 101, 101, 112])]))
def laid_millwright_api_ErrCycle {H : Type} : DataW H := .iface "*errors.errorString" (.ptr (.agg [.lit (.string [105, 116, 32, 108, 101, 97, 100, 115, 32, 98, 97, 99, 107, 32, 116, 111, 32, 105, 116, 115, 101, 108, 102])]))
def laid_millwright_api_ErrAmbig {H : Type} : DataW H := .iface "*errors.errorString" (.ptr (.agg [.lit (.string [116, 104, 101, 114, 101, 32, 97, 114, 101, 32, 115, 101, 118, 101, 114, 97, 108, 32, 119, 97, 121, 115, 32, 116, 111, 32, 109, 97, 107, 101, 32, 105, 116])]))
def laid_millwright_api_ErrState {H : Type} : DataW H := .iface "*errors.errorString" (.ptr (.agg [.lit (.string [105, 116, 32, 99, 97, 110, 32, 110, 111, 116, 32, 98, 101, 32, 100, 111, 110, 101, 32, 105, 110, 32, 116, 104, 105, 115, 32, 115, 116, 97, 116, 101])]))
def laid_millwright_api_ErrFail {H : Type} : DataW H := .iface "*errors.errorString" (.ptr (.agg [.lit (.string [97, 32, 114, 101, 99, 105, 112, 101, 32, 102, 97, 105, 108, 101, 100])]))
def laid_millwright_api_ErrFlag {H : Type} : DataW H := .iface "*errors.errorString" (.ptr (.agg [.lit (.string [105, 116, 32, 105, 115, 32, 110, 111, 32, 102, 108, 97, 103])]))
def laid_millwright_api_ErrKind {H : Type} : DataW H := .iface "*errors.errorString" (.ptr (.agg [.lit (.string [105, 116, 32, 105, 115, 32, 111, 102, 32, 97, 110, 111, 116, 104, 101, 114, 32, 107, 105, 110, 100])]))
def laid_millwright_api_ErrLost {H : Type} : DataW H := .iface "*errors.errorString" (.ptr (.agg [.lit (.string [110, 111, 98, 111, 100, 121, 32, 107, 110, 111, 119, 115, 32, 104, 111, 119, 32, 116, 111, 32, 109, 97, 107, 101, 32, 105, 116])]))

/-- 'millwrightlaw10.DenoteKleene': WHATEVER THE INPUT: true; the input reads as it did. -/
def denoteKleeneSpec : ChangeSpec := { name := "denoteKleene", fn := fun _ => fun
  | [d1, d2, d3] => { results := [.lit (.bool true)], args := [d1, d2, d3] }
  | _ => none }
def denoteKleeneRow : OpenClaim := { program := "yteddmdkbeednmaadoor", sum := "8f4d0c9a063bd621f6b0f8644d6f712974cac75ec07a5ec368b27a27bade3e9a", func := "millwright/millwrightlaw10.DenoteKleene", spec := "denoteKleene", inPlace := ["internal/bytealg.IndexByteString"], unfollowed := true, recurses := true, named := ["millwright/api.ErrLong", "millwright/api.ErrRegex", "millwright/api.ErrFull", "millwright/rex.words"], loops := true, apart := false, laid := [("millwright/api.ErrLong", laid_millwright_api_ErrLong), ("millwright/api.ErrRegex", laid_millwright_api_ErrRegex), ("millwright/api.ErrFull", laid_millwright_api_ErrFull), ("millwright/rex.words", laid_millwright_rex_words)] }
def DenoteKleeneSaid : Prop := denoteKleeneRow.holds Tryd.pinned (OpenSpec.ofChange denoteKleeneSpec)

/-- ITS FALSE NEIGHBOUR: 'it returns false'. Refute it at one input. -/
def denoteKleeneWrong : ChangeSpec := { name := "denoteKleene", fn := fun _ => fun
  | [d1, d2, d3] => { results := [.lit (.bool false)], args := [d1, d2, d3] }
  | _ => none }
def DenoteKleeneWrongFalsely : Prop := denoteKleeneRow.holds Tryd.pinned (OpenSpec.ofChange denoteKleeneWrong)

/-- 'millwrightlaw10.DenoteEnds': WHATEVER THE INPUT: true; the input reads as it did. -/
def denoteEndsSpec : ChangeSpec := { name := "denoteEnds", fn := fun _ => fun
  | [d1, d2, d3] => { results := [.lit (.bool true)], args := [d1, d2, d3] }
  | _ => none }
def denoteEndsRow : OpenClaim := { program := "yteddmdkbeednmaadoor", sum := "8f4d0c9a063bd621f6b0f8644d6f712974cac75ec07a5ec368b27a27bade3e9a", func := "millwright/millwrightlaw10.DenoteEnds", spec := "denoteEnds", inPlace := ["internal/bytealg.IndexByteString"], unfollowed := true, recurses := true, named := ["millwright/api.ErrLong", "millwright/api.ErrRegex", "millwright/api.ErrFull", "millwright/rex.words"], loops := true, apart := false, laid := [("millwright/api.ErrLong", laid_millwright_api_ErrLong), ("millwright/api.ErrRegex", laid_millwright_api_ErrRegex), ("millwright/api.ErrFull", laid_millwright_api_ErrFull), ("millwright/rex.words", laid_millwright_rex_words)] }
def DenoteEndsSaid : Prop := denoteEndsRow.holds Tryd.pinned (OpenSpec.ofChange denoteEndsSpec)

/-- ITS FALSE NEIGHBOUR: 'it returns false'. Refute it at one input. -/
def denoteEndsWrong : ChangeSpec := { name := "denoteEnds", fn := fun _ => fun
  | [d1, d2, d3] => { results := [.lit (.bool false)], args := [d1, d2, d3] }
  | _ => none }
def DenoteEndsWrongFalsely : Prop := denoteEndsRow.holds Tryd.pinned (OpenSpec.ofChange denoteEndsWrong)

/-- 'millwrightlaw10.DenoteFirst': WHATEVER THE INPUT: true; the input reads as it did. -/
def denoteFirstSpec : ChangeSpec := { name := "denoteFirst", fn := fun _ => fun
  | [d1, d2] => { results := [.lit (.bool true)], args := [d1, d2] }
  | _ => none }
def denoteFirstRow : OpenClaim := { program := "yteddmdkbeednmaadoor", sum := "8f4d0c9a063bd621f6b0f8644d6f712974cac75ec07a5ec368b27a27bade3e9a", func := "millwright/millwrightlaw10.DenoteFirst", spec := "denoteFirst", inPlace := ["internal/bytealg.IndexByteString"], unfollowed := true, recurses := true, named := ["millwright/api.ErrLong", "millwright/api.ErrRegex", "millwright/api.ErrFull", "millwright/rex.words"], loops := true, apart := false, laid := [("millwright/api.ErrLong", laid_millwright_api_ErrLong), ("millwright/api.ErrRegex", laid_millwright_api_ErrRegex), ("millwright/api.ErrFull", laid_millwright_api_ErrFull), ("millwright/rex.words", laid_millwright_rex_words)] }
def DenoteFirstSaid : Prop := denoteFirstRow.holds Tryd.pinned (OpenSpec.ofChange denoteFirstSpec)

/-- ITS FALSE NEIGHBOUR: 'it returns false'. Refute it at one input. -/
def denoteFirstWrong : ChangeSpec := { name := "denoteFirst", fn := fun _ => fun
  | [d1, d2] => { results := [.lit (.bool false)], args := [d1, d2] }
  | _ => none }
def DenoteFirstWrongFalsely : Prop := denoteFirstRow.holds Tryd.pinned (OpenSpec.ofChange denoteFirstWrong)

/-- 'millwrightlaw10.DenoteAgrees': WHATEVER THE INPUT: true; the input reads as it did. -/
def denoteAgreesSpec : ChangeSpec := { name := "denoteAgrees", fn := fun _ => fun
  | [d1, d2] => { results := [.lit (.bool true)], args := [d1, d2] }
  | _ => none }
def denoteAgreesRow : OpenClaim := { program := "yteddmdkbeednmaadoor", sum := "8f4d0c9a063bd621f6b0f8644d6f712974cac75ec07a5ec368b27a27bade3e9a", func := "millwright/millwrightlaw10.DenoteAgrees", spec := "denoteAgrees", inPlace := ["internal/bytealg.IndexByteString", "internal/reflectlite.TypeOf"], unfollowed := true, recurses := true, named := ["millwright/api.ErrLong", "millwright/api.ErrRegex", "millwright/api.ErrFull", "millwright/rex.words", "millwright/api.ErrKind", "millwright/api.ErrRange", "millwright/api.ErrForm", "millwright/api.ErrName", "millwright/api.ErrQuote", "millwright/api.ErrAttr", "millwright/api.ErrNone", "millwright/api.ErrDup", "millwright/api.ErrDepth", "millwright/api.ErrCycle", "millwright/api.ErrAmbig", "millwright/api.ErrState", "millwright/api.ErrFail", "millwright/api.ErrFlag", "millwright/api.ErrLost"], apart := false, laid := [("millwright/api.ErrRange", laid_millwright_api_ErrRange), ("millwright/api.ErrLong", laid_millwright_api_ErrLong), ("millwright/api.ErrForm", laid_millwright_api_ErrForm), ("millwright/api.ErrName", laid_millwright_api_ErrName), ("millwright/api.ErrQuote", laid_millwright_api_ErrQuote), ("millwright/api.ErrRegex", laid_millwright_api_ErrRegex), ("millwright/api.ErrAttr", laid_millwright_api_ErrAttr), ("millwright/api.ErrNone", laid_millwright_api_ErrNone), ("millwright/api.ErrDup", laid_millwright_api_ErrDup), ("millwright/api.ErrFull", laid_millwright_api_ErrFull), ("millwright/api.ErrDepth", laid_millwright_api_ErrDepth), ("millwright/api.ErrCycle", laid_millwright_api_ErrCycle), ("millwright/api.ErrAmbig", laid_millwright_api_ErrAmbig), ("millwright/api.ErrState", laid_millwright_api_ErrState), ("millwright/api.ErrFail", laid_millwright_api_ErrFail), ("millwright/api.ErrFlag", laid_millwright_api_ErrFlag), ("millwright/api.ErrKind", laid_millwright_api_ErrKind), ("millwright/api.ErrLost", laid_millwright_api_ErrLost), ("millwright/rex.words", laid_millwright_rex_words)] }
def DenoteAgreesSaid : Prop := denoteAgreesRow.holds Tryd.pinned (OpenSpec.ofChange denoteAgreesSpec)

/-- ITS FALSE NEIGHBOUR: 'it returns false'. Refute it at one input. -/
def denoteAgreesWrong : ChangeSpec := { name := "denoteAgrees", fn := fun _ => fun
  | [d1, d2] => { results := [.lit (.bool false)], args := [d1, d2] }
  | _ => none }
def DenoteAgreesWrongFalsely : Prop := denoteAgreesRow.holds Tryd.pinned (OpenSpec.ofChange denoteAgreesWrong)

/- THE SECOND FORM. 'bulk': how many values and letters a reading holds, each counted each time it is reached (what is shared counts as often as it is met; a slice's spare places count too). A statement '..UptoSaid' is the law's where the arguments, and the package variables that the reading takes, are together of bulk at most 1048576: NARROWER than '..Said'. Prove '..Said' where nothing that the law and all that it calls make is longer than what came in: it says more and counts as full. Else prove '..UptoSaid'. A law counts once. -/
mutual
def uptoBulk {H : Type} : DataW H → Nat
  | .lit (.string bytes) => bytes.length + 1
  | .lit _ => 1
  | .nil => 1
  | .ptr d => uptoBulk d + 1
  | .slice elems spare => uptoBulkAll elems + uptoBulkAll spare + 1
  | .agg parts => uptoBulkAll parts + 1
  | .iface _ d => uptoBulk d + 1
  | .map entries => uptoBulkEntries entries + 1
  | .held _ => 1
def uptoBulkAll {H : Type} : List (DataW H) → Nat
  | [] => 0
  | d :: r => uptoBulk d + uptoBulkAll r
def uptoBulkEntries {H : Type} : List (Lit × DataW H) → Nat
  | [] => 0
  | x :: r => uptoBulkEntry x + uptoBulkEntries r
def uptoBulkEntry {H : Type} : Lit × DataW H → Nat
  | (.string bytes, d) => bytes.length + uptoBulk d + 1
  | (_, d) => uptoBulk d + 1
 end
def uptoSmall : (H : Type) → List (DataW H) → Bool := fun _ ds => decide (uptoBulkAll ds ≤ 1048576)
def OpenSpec.upto (s : _root_.Go.ChangeSpec) : _root_.Go.OpenSpec := { _root_.Go.OpenSpec.ofChange s with cond := some uptoSmall }

/-- 'millwrightlaw10.DenoteKleene', WHERE WHAT IT READS IS OF BULK AT MOST 1048576: true; the input reads as it did. -/
def denoteKleeneUptoRow : OpenClaim := { program := "yteddmdkbeednmaadoor", sum := "8f4d0c9a063bd621f6b0f8644d6f712974cac75ec07a5ec368b27a27bade3e9a", func := "millwright/millwrightlaw10.DenoteKleene", spec := "denoteKleene", inPlace := ["internal/bytealg.IndexByteString"], unfollowed := true, recurses := true, named := ["millwright/api.ErrLong", "millwright/api.ErrRegex", "millwright/api.ErrFull", "millwright/rex.words"], loops := true, apart := false, laid := [("millwright/api.ErrLong", laid_millwright_api_ErrLong), ("millwright/api.ErrRegex", laid_millwright_api_ErrRegex), ("millwright/api.ErrFull", laid_millwright_api_ErrFull), ("millwright/rex.words", laid_millwright_rex_words)], narrowed := true }
def DenoteKleeneUptoSaid : Prop := denoteKleeneUptoRow.holds Tryd.pinned (OpenSpec.upto denoteKleeneSpec)

/-- 'millwrightlaw10.DenoteEnds', WHERE WHAT IT READS IS OF BULK AT MOST 1048576: true; the input reads as it did. -/
def denoteEndsUptoRow : OpenClaim := { program := "yteddmdkbeednmaadoor", sum := "8f4d0c9a063bd621f6b0f8644d6f712974cac75ec07a5ec368b27a27bade3e9a", func := "millwright/millwrightlaw10.DenoteEnds", spec := "denoteEnds", inPlace := ["internal/bytealg.IndexByteString"], unfollowed := true, recurses := true, named := ["millwright/api.ErrLong", "millwright/api.ErrRegex", "millwright/api.ErrFull", "millwright/rex.words"], loops := true, apart := false, laid := [("millwright/api.ErrLong", laid_millwright_api_ErrLong), ("millwright/api.ErrRegex", laid_millwright_api_ErrRegex), ("millwright/api.ErrFull", laid_millwright_api_ErrFull), ("millwright/rex.words", laid_millwright_rex_words)], narrowed := true }
def DenoteEndsUptoSaid : Prop := denoteEndsUptoRow.holds Tryd.pinned (OpenSpec.upto denoteEndsSpec)

/-- 'millwrightlaw10.DenoteFirst', WHERE WHAT IT READS IS OF BULK AT MOST 1048576: true; the input reads as it did. -/
def denoteFirstUptoRow : OpenClaim := { program := "yteddmdkbeednmaadoor", sum := "8f4d0c9a063bd621f6b0f8644d6f712974cac75ec07a5ec368b27a27bade3e9a", func := "millwright/millwrightlaw10.DenoteFirst", spec := "denoteFirst", inPlace := ["internal/bytealg.IndexByteString"], unfollowed := true, recurses := true, named := ["millwright/api.ErrLong", "millwright/api.ErrRegex", "millwright/api.ErrFull", "millwright/rex.words"], loops := true, apart := false, laid := [("millwright/api.ErrLong", laid_millwright_api_ErrLong), ("millwright/api.ErrRegex", laid_millwright_api_ErrRegex), ("millwright/api.ErrFull", laid_millwright_api_ErrFull), ("millwright/rex.words", laid_millwright_rex_words)], narrowed := true }
def DenoteFirstUptoSaid : Prop := denoteFirstUptoRow.holds Tryd.pinned (OpenSpec.upto denoteFirstSpec)

/-- 'millwrightlaw10.DenoteAgrees', WHERE WHAT IT READS IS OF BULK AT MOST 1048576: true; the input reads as it did. -/
def denoteAgreesUptoRow : OpenClaim := { program := "yteddmdkbeednmaadoor", sum := "8f4d0c9a063bd621f6b0f8644d6f712974cac75ec07a5ec368b27a27bade3e9a", func := "millwright/millwrightlaw10.DenoteAgrees", spec := "denoteAgrees", inPlace := ["internal/bytealg.IndexByteString", "internal/reflectlite.TypeOf"], unfollowed := true, recurses := true, named := ["millwright/api.ErrLong", "millwright/api.ErrRegex", "millwright/api.ErrFull", "millwright/rex.words", "millwright/api.ErrKind", "millwright/api.ErrRange", "millwright/api.ErrForm", "millwright/api.ErrName", "millwright/api.ErrQuote", "millwright/api.ErrAttr", "millwright/api.ErrNone", "millwright/api.ErrDup", "millwright/api.ErrDepth", "millwright/api.ErrCycle", "millwright/api.ErrAmbig", "millwright/api.ErrState", "millwright/api.ErrFail", "millwright/api.ErrFlag", "millwright/api.ErrLost"], apart := false, laid := [("millwright/api.ErrRange", laid_millwright_api_ErrRange), ("millwright/api.ErrLong", laid_millwright_api_ErrLong), ("millwright/api.ErrForm", laid_millwright_api_ErrForm), ("millwright/api.ErrName", laid_millwright_api_ErrName), ("millwright/api.ErrQuote", laid_millwright_api_ErrQuote), ("millwright/api.ErrRegex", laid_millwright_api_ErrRegex), ("millwright/api.ErrAttr", laid_millwright_api_ErrAttr), ("millwright/api.ErrNone", laid_millwright_api_ErrNone), ("millwright/api.ErrDup", laid_millwright_api_ErrDup), ("millwright/api.ErrFull", laid_millwright_api_ErrFull), ("millwright/api.ErrDepth", laid_millwright_api_ErrDepth), ("millwright/api.ErrCycle", laid_millwright_api_ErrCycle), ("millwright/api.ErrAmbig", laid_millwright_api_ErrAmbig), ("millwright/api.ErrState", laid_millwright_api_ErrState), ("millwright/api.ErrFail", laid_millwright_api_ErrFail), ("millwright/api.ErrFlag", laid_millwright_api_ErrFlag), ("millwright/api.ErrKind", laid_millwright_api_ErrKind), ("millwright/api.ErrLost", laid_millwright_api_ErrLost), ("millwright/rex.words", laid_millwright_rex_words)], narrowed := true }
def DenoteAgreesUptoSaid : Prop := denoteAgreesUptoRow.holds Tryd.pinned (OpenSpec.upto denoteAgreesSpec)

end Rows
end Go.Proofs.YteddmdkbeednmaaDoor
