/-
  NARROWER THAN 'FOR EVERY INPUT', by the rows' own cells (each row's printed sentence says how): CodeNamed: laid · CodeOnce: laid · CodeRight: laid · MethodNone: laid · MethodApart: laid · MethodArgs: laid · MethodOne: laid · MethodArg: laid · MethodBack: laid · MethodCut: laid · MethodTakes: laid.
  DERIVED. THE GIVEN ROWS OF THIS SEAT. 11 by the template 'for every input the law returns true; each argument reads behind the call as it read before'; 0 by the template 'total and deterministic' (their statements: YteklnflddoekfaaDoorTotals.lean).
  GIVEN WITH THE SEED: the statements are not yours to turn. If you find one false, say at which input.
  Laid BY PROGRAM, IN A SANDBOX (cutbox-rows.mjs): the forced cells as the released guide's own fill.sh prints them over the translation 1841865f1dc0feac… (all of the seat's roots in one cut). By AI agents, Wed Nov 11 2026. No macro, syntax, notation, axiom, sorry.
-/
import Derived.Test.YteklnflddoekfaaDoorChecked
import GoSem.Claim
import GoSem.ClaimJoined
import GoSem.ClaimMapViews
import Derived.JoinedTies
import Derived.KernelRfl
namespace Go.Proofs.YteklnflddoekfaaDoor
/- THE CELL 'sum', in the pinned program and in every row, IS THE sha256 OF THE DUMP (.gsa) THAT YteklnflddoekfaaDoorProg.lean LOADS. Nothing in Lean hashes anything: it is a label: what it is worth is what the hold of that sum in a sandbox is worth. -/
noncomputable def Tryd.pinned : Pinned := { name := "yteklnflddoekfaadoor", sum := "1841865f1dc0feac339628a18aeae8cfee2a8846627fba6b6a01dbf55313d8da", checked := Tryd.checked }
namespace Rows
def none {H : Type} : Left H := { results := [], args := [] }

/- WHAT THE LISTED PACKAGE-LEVEL VARIABLES READ AS WHEN THE CALL BEGINS. Each datum BY PROGRAM (the guide's laid-datum.mjs) off the statement by which the dump's own 'gosem.cut.vars' lays the variable. In a bare row this is a premise. The card (YteklnflddoekfaaDoorCards.lean) ties it to the program's text. -/
def laid_interchange_code_entries {H : Type} : DataW H := .agg [.agg [.lit (.int .i64 6), .lit (.int .i64 501), .lit (.string [70, 82, 65, 77, 69, 95, 69, 82, 82, 79, 82]), .lit (.bool true)], .agg [.lit (.int .i64 7), .lit (.int .i64 502), .lit (.string [83, 89, 78, 84, 65, 88, 95, 69, 82, 82, 79, 82]), .lit (.bool true)], .agg [.lit (.int .i64 8), .lit (.int .i64 503), .lit (.string [67, 79, 77, 77, 65, 78, 68, 95, 73, 78, 86, 65, 76, 73, 68]), .lit (.bool true)], .agg [.lit (.int .i64 9), .lit (.int .i64 504), .lit (.string [67, 72, 65, 78, 78, 69, 76, 95, 69, 82, 82, 79, 82]), .lit (.bool true)], .agg [.lit (.int .i64 10), .lit (.int .i64 505), .lit (.string [85, 78, 69, 88, 80, 69, 67, 84, 69, 68, 95, 70, 82, 65, 77, 69]), .lit (.bool true)], .agg [.lit (.int .i64 12), .lit (.int .i64 506), .lit (.string [82, 69, 83, 79, 85, 82, 67, 69, 95, 69, 82, 82, 79, 82]), .lit (.bool true)], .agg [.lit (.int .i64 14), .lit (.int .i64 530), .lit (.string [78, 79, 84, 95, 65, 76, 76, 79, 87, 69, 68]), .lit (.bool true)], .agg [.lit (.int .i64 16), .lit (.int .i64 320), .lit (.string [67, 79, 78, 78, 69, 67, 84, 73, 79, 78, 95, 70, 79, 82, 67, 69, 68]), .lit (.bool true)], .agg [.lit (.int .i64 4), .lit (.int .i64 311), .lit (.string [67, 79, 78, 84, 69, 78, 84, 95, 84, 79, 79, 95, 76, 65, 82, 71, 69]), .lit (.bool false)], .agg [.lit (.int .i64 11), .lit (.int .i64 404), .lit (.string [78, 79, 84, 95, 70, 79, 85, 78, 68]), .lit (.bool false)], .agg [.lit (.int .i64 13), .lit (.int .i64 406), .lit (.string [80, 82, 69, 67, 79, 78, 68, 73, 84, 73, 79, 78, 95, 70, 65, 73, 76, 69, 68]), .lit (.bool false)], .agg [.lit (.int .i64 0), .lit (.int .i64 200), .lit (.string [82, 69, 80, 76, 89, 95, 83, 85, 67, 67, 69, 83, 83]), .lit (.bool true)]]
def laid_interchange_num_widths {H : Type} : DataW H := .agg [.lit (.int .i64 1), .lit (.int .i64 2), .lit (.int .i64 4), .lit (.int .i64 8)]

/-- 'interchangelaw09.CodeNamed': WHATEVER THE INPUT: true; the input reads as it did. -/
def codeNamedSpec : ChangeSpec := { name := "codeNamed", fn := fun _ => fun
  | [d1, d2, d3] => { results := [.lit (.bool true)], args := [d1, d2, d3] }
  | _ => none }
def codeNamedRow : OpenClaim := { program := "yteklnflddoekfaadoor", sum := "1841865f1dc0feac339628a18aeae8cfee2a8846627fba6b6a01dbf55313d8da", func := "interchange/interchangelaw09.CodeNamed", spec := "codeNamed", unfollowed := true, recurses := true, named := ["interchange/code.entries"], apart := false, laid := [("interchange/code.entries", laid_interchange_code_entries)] }
def CodeNamedSaid : Prop := codeNamedRow.holds Tryd.pinned (OpenSpec.ofChange codeNamedSpec)

/-- ITS FALSE NEIGHBOUR: 'it returns false'. Refute it at one input. -/
def codeNamedWrong : ChangeSpec := { name := "codeNamed", fn := fun _ => fun
  | [d1, d2, d3] => { results := [.lit (.bool false)], args := [d1, d2, d3] }
  | _ => none }
def CodeNamedWrongFalsely : Prop := codeNamedRow.holds Tryd.pinned (OpenSpec.ofChange codeNamedWrong)

/-- 'interchangelaw09.CodeOnce': WHATEVER THE INPUT: true; the input reads as it did. -/
def codeOnceSpec : ChangeSpec := { name := "codeOnce", fn := fun _ => fun
  | [d1, d2] => { results := [.lit (.bool true)], args := [d1, d2] }
  | _ => none }
def codeOnceRow : OpenClaim := { program := "yteklnflddoekfaadoor", sum := "1841865f1dc0feac339628a18aeae8cfee2a8846627fba6b6a01dbf55313d8da", func := "interchange/interchangelaw09.CodeOnce", spec := "codeOnce", unfollowed := true, recurses := true, named := ["interchange/code.entries"], apart := false, laid := [("interchange/code.entries", laid_interchange_code_entries)] }
def CodeOnceSaid : Prop := codeOnceRow.holds Tryd.pinned (OpenSpec.ofChange codeOnceSpec)

/-- ITS FALSE NEIGHBOUR: 'it returns false'. Refute it at one input. -/
def codeOnceWrong : ChangeSpec := { name := "codeOnce", fn := fun _ => fun
  | [d1, d2] => { results := [.lit (.bool false)], args := [d1, d2] }
  | _ => none }
def CodeOnceWrongFalsely : Prop := codeOnceRow.holds Tryd.pinned (OpenSpec.ofChange codeOnceWrong)

/-- 'interchangelaw09.CodeRight': WHATEVER THE INPUT: true; the input reads as it did. -/
def codeRightSpec : ChangeSpec := { name := "codeRight", fn := fun _ => fun
  | [d1, d2, d3] => { results := [.lit (.bool true)], args := [d1, d2, d3] }
  | _ => none }
def codeRightRow : OpenClaim := { program := "yteklnflddoekfaadoor", sum := "1841865f1dc0feac339628a18aeae8cfee2a8846627fba6b6a01dbf55313d8da", func := "interchange/interchangelaw09.CodeRight", spec := "codeRight", unfollowed := true, recurses := true, named := ["interchange/code.entries", "interchange/num.widths"], apart := false, laid := [("interchange/num.widths", laid_interchange_num_widths), ("interchange/code.entries", laid_interchange_code_entries)] }
def CodeRightSaid : Prop := codeRightRow.holds Tryd.pinned (OpenSpec.ofChange codeRightSpec)

/-- ITS FALSE NEIGHBOUR: 'it returns false'. Refute it at one input. -/
def codeRightWrong : ChangeSpec := { name := "codeRight", fn := fun _ => fun
  | [d1, d2, d3] => { results := [.lit (.bool false)], args := [d1, d2, d3] }
  | _ => none }
def CodeRightWrongFalsely : Prop := codeRightRow.holds Tryd.pinned (OpenSpec.ofChange codeRightWrong)

/-- 'interchangelaw06.MethodNone': WHATEVER THE INPUT: true; the input reads as it did. -/
def methodNoneSpec : ChangeSpec := { name := "methodNone", fn := fun _ => fun
  | [d1, d2] => { results := [.lit (.bool true)], args := [d1, d2] }
  | _ => none }
def methodNoneRow : OpenClaim := { program := "yteklnflddoekfaadoor", sum := "1841865f1dc0feac339628a18aeae8cfee2a8846627fba6b6a01dbf55313d8da", func := "interchange/interchangelaw06.MethodNone", spec := "methodNone", unfollowed := true, recurses := true, named := ["interchange/num.widths"], apart := false, laid := [("interchange/num.widths", laid_interchange_num_widths)] }
def MethodNoneSaid : Prop := methodNoneRow.holds Tryd.pinned (OpenSpec.ofChange methodNoneSpec)

/-- ITS FALSE NEIGHBOUR: 'it returns false'. Refute it at one input. -/
def methodNoneWrong : ChangeSpec := { name := "methodNone", fn := fun _ => fun
  | [d1, d2] => { results := [.lit (.bool false)], args := [d1, d2] }
  | _ => none }
def MethodNoneWrongFalsely : Prop := methodNoneRow.holds Tryd.pinned (OpenSpec.ofChange methodNoneWrong)

/-- 'interchangelaw06.MethodApart': WHATEVER THE INPUT: true; the input reads as it did. -/
def methodApartSpec : ChangeSpec := { name := "methodApart", fn := fun _ => fun
  | [d1, d2] => { results := [.lit (.bool true)], args := [d1, d2] }
  | _ => none }
def methodApartRow : OpenClaim := { program := "yteklnflddoekfaadoor", sum := "1841865f1dc0feac339628a18aeae8cfee2a8846627fba6b6a01dbf55313d8da", func := "interchange/interchangelaw06.MethodApart", spec := "methodApart", unfollowed := true, recurses := true, named := ["interchange/num.widths"], apart := false, laid := [("interchange/num.widths", laid_interchange_num_widths)] }
def MethodApartSaid : Prop := methodApartRow.holds Tryd.pinned (OpenSpec.ofChange methodApartSpec)

/-- ITS FALSE NEIGHBOUR: 'it returns false'. Refute it at one input. -/
def methodApartWrong : ChangeSpec := { name := "methodApart", fn := fun _ => fun
  | [d1, d2] => { results := [.lit (.bool false)], args := [d1, d2] }
  | _ => none }
def MethodApartWrongFalsely : Prop := methodApartRow.holds Tryd.pinned (OpenSpec.ofChange methodApartWrong)

/-- 'interchangelaw06.MethodArgs': WHATEVER THE INPUT: true; the input reads as it did. -/
def methodArgsSpec : ChangeSpec := { name := "methodArgs", fn := fun _ => fun
  | [d1, d2, d3] => { results := [.lit (.bool true)], args := [d1, d2, d3] }
  | _ => none }
def methodArgsRow : OpenClaim := { program := "yteklnflddoekfaadoor", sum := "1841865f1dc0feac339628a18aeae8cfee2a8846627fba6b6a01dbf55313d8da", func := "interchange/interchangelaw06.MethodArgs", spec := "methodArgs", unfollowed := true, recurses := true, named := ["interchange/num.widths"], apart := false, laid := [("interchange/num.widths", laid_interchange_num_widths)] }
def MethodArgsSaid : Prop := methodArgsRow.holds Tryd.pinned (OpenSpec.ofChange methodArgsSpec)

/-- ITS FALSE NEIGHBOUR: 'it returns false'. Refute it at one input. -/
def methodArgsWrong : ChangeSpec := { name := "methodArgs", fn := fun _ => fun
  | [d1, d2, d3] => { results := [.lit (.bool false)], args := [d1, d2, d3] }
  | _ => none }
def MethodArgsWrongFalsely : Prop := methodArgsRow.holds Tryd.pinned (OpenSpec.ofChange methodArgsWrong)

/-- 'interchangelaw06.MethodOne': WHATEVER THE INPUT: true; the input reads as it did. -/
def methodOneSpec : ChangeSpec := { name := "methodOne", fn := fun _ => fun
  | [d1, d2, d3] => { results := [.lit (.bool true)], args := [d1, d2, d3] }
  | _ => none }
def methodOneRow : OpenClaim := { program := "yteklnflddoekfaadoor", sum := "1841865f1dc0feac339628a18aeae8cfee2a8846627fba6b6a01dbf55313d8da", func := "interchange/interchangelaw06.MethodOne", spec := "methodOne", unfollowed := true, recurses := true, named := ["interchange/num.widths"], apart := false, laid := [("interchange/num.widths", laid_interchange_num_widths)] }
def MethodOneSaid : Prop := methodOneRow.holds Tryd.pinned (OpenSpec.ofChange methodOneSpec)

/-- ITS FALSE NEIGHBOUR: 'it returns false'. Refute it at one input. -/
def methodOneWrong : ChangeSpec := { name := "methodOne", fn := fun _ => fun
  | [d1, d2, d3] => { results := [.lit (.bool false)], args := [d1, d2, d3] }
  | _ => none }
def MethodOneWrongFalsely : Prop := methodOneRow.holds Tryd.pinned (OpenSpec.ofChange methodOneWrong)

/-- 'interchangelaw06.MethodArg': WHATEVER THE INPUT: true; the input reads as it did. -/
def methodArgSpec : ChangeSpec := { name := "methodArg", fn := fun _ => fun
  | [d] => { results := [.lit (.bool true)], args := [d] }
  | _ => none }
def methodArgRow : OpenClaim := { program := "yteklnflddoekfaadoor", sum := "1841865f1dc0feac339628a18aeae8cfee2a8846627fba6b6a01dbf55313d8da", func := "interchange/interchangelaw06.MethodArg", spec := "methodArg", unfollowed := true, recurses := true, named := ["interchange/num.widths"], apart := false, laid := [("interchange/num.widths", laid_interchange_num_widths)] }
def MethodArgSaid : Prop := methodArgRow.holds Tryd.pinned (OpenSpec.ofChange methodArgSpec)

/-- ITS FALSE NEIGHBOUR: 'it returns false'. Refute it at one input. -/
def methodArgWrong : ChangeSpec := { name := "methodArg", fn := fun _ => fun
  | [d] => { results := [.lit (.bool false)], args := [d] }
  | _ => none }
def MethodArgWrongFalsely : Prop := methodArgRow.holds Tryd.pinned (OpenSpec.ofChange methodArgWrong)

/-- 'interchangelaw06.MethodBack': WHATEVER THE INPUT: true; the input reads as it did. -/
def methodBackSpec : ChangeSpec := { name := "methodBack", fn := fun _ => fun
  | [d1, d2] => { results := [.lit (.bool true)], args := [d1, d2] }
  | _ => none }
def methodBackRow : OpenClaim := { program := "yteklnflddoekfaadoor", sum := "1841865f1dc0feac339628a18aeae8cfee2a8846627fba6b6a01dbf55313d8da", func := "interchange/interchangelaw06.MethodBack", spec := "methodBack", unfollowed := true, recurses := true, named := ["interchange/num.widths"], apart := false, laid := [("interchange/num.widths", laid_interchange_num_widths)] }
def MethodBackSaid : Prop := methodBackRow.holds Tryd.pinned (OpenSpec.ofChange methodBackSpec)

/-- ITS FALSE NEIGHBOUR: 'it returns false'. Refute it at one input. -/
def methodBackWrong : ChangeSpec := { name := "methodBack", fn := fun _ => fun
  | [d1, d2] => { results := [.lit (.bool false)], args := [d1, d2] }
  | _ => none }
def MethodBackWrongFalsely : Prop := methodBackRow.holds Tryd.pinned (OpenSpec.ofChange methodBackWrong)

/-- 'interchangelaw06.MethodCut': WHATEVER THE INPUT: true; the input reads as it did. -/
def methodCutSpec : ChangeSpec := { name := "methodCut", fn := fun _ => fun
  | [d1, d2, d3] => { results := [.lit (.bool true)], args := [d1, d2, d3] }
  | _ => none }
def methodCutRow : OpenClaim := { program := "yteklnflddoekfaadoor", sum := "1841865f1dc0feac339628a18aeae8cfee2a8846627fba6b6a01dbf55313d8da", func := "interchange/interchangelaw06.MethodCut", spec := "methodCut", unfollowed := true, recurses := true, named := ["interchange/num.widths"], apart := false, laid := [("interchange/num.widths", laid_interchange_num_widths)] }
def MethodCutSaid : Prop := methodCutRow.holds Tryd.pinned (OpenSpec.ofChange methodCutSpec)

/-- ITS FALSE NEIGHBOUR: 'it returns false'. Refute it at one input. -/
def methodCutWrong : ChangeSpec := { name := "methodCut", fn := fun _ => fun
  | [d1, d2, d3] => { results := [.lit (.bool false)], args := [d1, d2, d3] }
  | _ => none }
def MethodCutWrongFalsely : Prop := methodCutRow.holds Tryd.pinned (OpenSpec.ofChange methodCutWrong)

/-- 'interchangelaw06.MethodTakes': WHATEVER THE INPUT: true; the input reads as it did. -/
def methodTakesSpec : ChangeSpec := { name := "methodTakes", fn := fun _ => fun
  | [d1, d2, d3] => { results := [.lit (.bool true)], args := [d1, d2, d3] }
  | _ => none }
def methodTakesRow : OpenClaim := { program := "yteklnflddoekfaadoor", sum := "1841865f1dc0feac339628a18aeae8cfee2a8846627fba6b6a01dbf55313d8da", func := "interchange/interchangelaw06.MethodTakes", spec := "methodTakes", unfollowed := true, recurses := true, named := ["interchange/num.widths"], apart := false, laid := [("interchange/num.widths", laid_interchange_num_widths)] }
def MethodTakesSaid : Prop := methodTakesRow.holds Tryd.pinned (OpenSpec.ofChange methodTakesSpec)

/-- ITS FALSE NEIGHBOUR: 'it returns false'. Refute it at one input. -/
def methodTakesWrong : ChangeSpec := { name := "methodTakes", fn := fun _ => fun
  | [d1, d2, d3] => { results := [.lit (.bool false)], args := [d1, d2, d3] }
  | _ => none }
def MethodTakesWrongFalsely : Prop := methodTakesRow.holds Tryd.pinned (OpenSpec.ofChange methodTakesWrong)

/- THE SECOND FORM. 'bulk': how many values and letters a reading holds, each counted each time it is reached (what is shared counts as often as it is met; a slice's spare places count too). A statement '..UptoSaid' is the law's where the arguments, and the package variables that the reading takes, are together of bulk at most 1048576: NARROWER than '..Said'. Prove '..Said' where nothing that the law and all that it calls make is longer than what came in: it says more and counts as full. Else prove '..UptoSaid'. A law counts once. -/
mutual
def uptoBulk {H : Type} : DataW H → Nat
  | .lit (.string bytes) => bytes.length + 1
  | .lit _ => 1
  | .nil => 1
  | .ptr d => uptoBulk d + 1
  | .slice elems spare => uptoBulkAll elems + uptoBulkAll spare + 1
  | .agg parts => uptoBulkAll parts + 1
  | .iface _ d => uptoBulk d + 1
  | .map entries => uptoBulkEntries entries + 1
  | .held _ => 1
def uptoBulkAll {H : Type} : List (DataW H) → Nat
  | [] => 0
  | d :: r => uptoBulk d + uptoBulkAll r
def uptoBulkEntries {H : Type} : List (Lit × DataW H) → Nat
  | [] => 0
  | x :: r => uptoBulkEntry x + uptoBulkEntries r
def uptoBulkEntry {H : Type} : Lit × DataW H → Nat
  | (.string bytes, d) => bytes.length + uptoBulk d + 1
  | (_, d) => uptoBulk d + 1
 end
def uptoSmall : (H : Type) → List (DataW H) → Bool := fun _ ds => decide (uptoBulkAll ds ≤ 1048576)
def OpenSpec.upto (s : _root_.Go.ChangeSpec) : _root_.Go.OpenSpec := { _root_.Go.OpenSpec.ofChange s with cond := some uptoSmall }

/-- 'interchangelaw09.CodeNamed', WHERE WHAT IT READS IS OF BULK AT MOST 1048576: true; the input reads as it did. -/
def codeNamedUptoRow : OpenClaim := { program := "yteklnflddoekfaadoor", sum := "1841865f1dc0feac339628a18aeae8cfee2a8846627fba6b6a01dbf55313d8da", func := "interchange/interchangelaw09.CodeNamed", spec := "codeNamed", unfollowed := true, recurses := true, named := ["interchange/code.entries"], apart := false, laid := [("interchange/code.entries", laid_interchange_code_entries)], narrowed := true }
def CodeNamedUptoSaid : Prop := codeNamedUptoRow.holds Tryd.pinned (OpenSpec.upto codeNamedSpec)

/-- 'interchangelaw09.CodeOnce', WHERE WHAT IT READS IS OF BULK AT MOST 1048576: true; the input reads as it did. -/
def codeOnceUptoRow : OpenClaim := { program := "yteklnflddoekfaadoor", sum := "1841865f1dc0feac339628a18aeae8cfee2a8846627fba6b6a01dbf55313d8da", func := "interchange/interchangelaw09.CodeOnce", spec := "codeOnce", unfollowed := true, recurses := true, named := ["interchange/code.entries"], apart := false, laid := [("interchange/code.entries", laid_interchange_code_entries)], narrowed := true }
def CodeOnceUptoSaid : Prop := codeOnceUptoRow.holds Tryd.pinned (OpenSpec.upto codeOnceSpec)

/-- 'interchangelaw09.CodeRight', WHERE WHAT IT READS IS OF BULK AT MOST 1048576: true; the input reads as it did. -/
def codeRightUptoRow : OpenClaim := { program := "yteklnflddoekfaadoor", sum := "1841865f1dc0feac339628a18aeae8cfee2a8846627fba6b6a01dbf55313d8da", func := "interchange/interchangelaw09.CodeRight", spec := "codeRight", unfollowed := true, recurses := true, named := ["interchange/code.entries", "interchange/num.widths"], apart := false, laid := [("interchange/num.widths", laid_interchange_num_widths), ("interchange/code.entries", laid_interchange_code_entries)], narrowed := true }
def CodeRightUptoSaid : Prop := codeRightUptoRow.holds Tryd.pinned (OpenSpec.upto codeRightSpec)

/-- 'interchangelaw06.MethodNone', WHERE WHAT IT READS IS OF BULK AT MOST 1048576: true; the input reads as it did. -/
def methodNoneUptoRow : OpenClaim := { program := "yteklnflddoekfaadoor", sum := "1841865f1dc0feac339628a18aeae8cfee2a8846627fba6b6a01dbf55313d8da", func := "interchange/interchangelaw06.MethodNone", spec := "methodNone", unfollowed := true, recurses := true, named := ["interchange/num.widths"], apart := false, laid := [("interchange/num.widths", laid_interchange_num_widths)], narrowed := true }
def MethodNoneUptoSaid : Prop := methodNoneUptoRow.holds Tryd.pinned (OpenSpec.upto methodNoneSpec)

/-- 'interchangelaw06.MethodApart', WHERE WHAT IT READS IS OF BULK AT MOST 1048576: true; the input reads as it did. -/
def methodApartUptoRow : OpenClaim := { program := "yteklnflddoekfaadoor", sum := "1841865f1dc0feac339628a18aeae8cfee2a8846627fba6b6a01dbf55313d8da", func := "interchange/interchangelaw06.MethodApart", spec := "methodApart", unfollowed := true, recurses := true, named := ["interchange/num.widths"], apart := false, laid := [("interchange/num.widths", laid_interchange_num_widths)], narrowed := true }
def MethodApartUptoSaid : Prop := methodApartUptoRow.holds Tryd.pinned (OpenSpec.upto methodApartSpec)

/-- 'interchangelaw06.MethodArgs', WHERE WHAT IT READS IS OF BULK AT MOST 1048576: true; the input reads as it did. -/
def methodArgsUptoRow : OpenClaim := { program := "yteklnflddoekfaadoor", sum := "1841865f1dc0feac339628a18aeae8cfee2a8846627fba6b6a01dbf55313d8da", func := "interchange/interchangelaw06.MethodArgs", spec := "methodArgs", unfollowed := true, recurses := true, named := ["interchange/num.widths"], apart := false, laid := [("interchange/num.widths", laid_interchange_num_widths)], narrowed := true }
def MethodArgsUptoSaid : Prop := methodArgsUptoRow.holds Tryd.pinned (OpenSpec.upto methodArgsSpec)

/-- 'interchangelaw06.MethodOne', WHERE WHAT IT READS IS OF BULK AT MOST 1048576: true; the input reads as it did. -/
def methodOneUptoRow : OpenClaim := { program := "yteklnflddoekfaadoor", sum := "1841865f1dc0feac339628a18aeae8cfee2a8846627fba6b6a01dbf55313d8da", func := "interchange/interchangelaw06.MethodOne", spec := "methodOne", unfollowed := true, recurses := true, named := ["interchange/num.widths"], apart := false, laid := [("interchange/num.widths", laid_interchange_num_widths)], narrowed := true }
def MethodOneUptoSaid : Prop := methodOneUptoRow.holds Tryd.pinned (OpenSpec.upto methodOneSpec)

/-- 'interchangelaw06.MethodArg', WHERE WHAT IT READS IS OF BULK AT MOST 1048576: true; the input reads as it did. -/
def methodArgUptoRow : OpenClaim := { program := "yteklnflddoekfaadoor", sum := "1841865f1dc0feac339628a18aeae8cfee2a8846627fba6b6a01dbf55313d8da", func := "interchange/interchangelaw06.MethodArg", spec := "methodArg", unfollowed := true, recurses := true, named := ["interchange/num.widths"], apart := false, laid := [("interchange/num.widths", laid_interchange_num_widths)], narrowed := true }
def MethodArgUptoSaid : Prop := methodArgUptoRow.holds Tryd.pinned (OpenSpec.upto methodArgSpec)

/-- 'interchangelaw06.MethodBack', WHERE WHAT IT READS IS OF BULK AT MOST 1048576: true; the input reads as it did. -/
def methodBackUptoRow : OpenClaim := { program := "yteklnflddoekfaadoor", sum := "1841865f1dc0feac339628a18aeae8cfee2a8846627fba6b6a01dbf55313d8da", func := "interchange/interchangelaw06.MethodBack", spec := "methodBack", unfollowed := true, recurses := true, named := ["interchange/num.widths"], apart := false, laid := [("interchange/num.widths", laid_interchange_num_widths)], narrowed := true }
def MethodBackUptoSaid : Prop := methodBackUptoRow.holds Tryd.pinned (OpenSpec.upto methodBackSpec)

/-- 'interchangelaw06.MethodCut', WHERE WHAT IT READS IS OF BULK AT MOST 1048576: true; the input reads as it did. -/
def methodCutUptoRow : OpenClaim := { program := "yteklnflddoekfaadoor", sum := "1841865f1dc0feac339628a18aeae8cfee2a8846627fba6b6a01dbf55313d8da", func := "interchange/interchangelaw06.MethodCut", spec := "methodCut", unfollowed := true, recurses := true, named := ["interchange/num.widths"], apart := false, laid := [("interchange/num.widths", laid_interchange_num_widths)], narrowed := true }
def MethodCutUptoSaid : Prop := methodCutUptoRow.holds Tryd.pinned (OpenSpec.upto methodCutSpec)

/-- 'interchangelaw06.MethodTakes', WHERE WHAT IT READS IS OF BULK AT MOST 1048576: true; the input reads as it did. -/
def methodTakesUptoRow : OpenClaim := { program := "yteklnflddoekfaadoor", sum := "1841865f1dc0feac339628a18aeae8cfee2a8846627fba6b6a01dbf55313d8da", func := "interchange/interchangelaw06.MethodTakes", spec := "methodTakes", unfollowed := true, recurses := true, named := ["interchange/num.widths"], apart := false, laid := [("interchange/num.widths", laid_interchange_num_widths)], narrowed := true }
def MethodTakesUptoSaid : Prop := methodTakesUptoRow.holds Tryd.pinned (OpenSpec.upto methodTakesSpec)

end Rows
end Go.Proofs.YteklnflddoekfaaDoor
