/-
  NARROWER THAN 'FOR EVERY INPUT', by the rows' own cells (each row's printed sentence says how): CodeNamed: laid · CodeOnce: laid.
  DERIVED. THE GIVEN ROWS OF THIS SEAT. 2 by the template 'for every input the law returns true; each argument reads behind the call as it read before'; 0 by the template 'total and deterministic' (their statements: YtloaoeljlpenbaaDoorRRRRTotals.lean).
  GIVEN WITH THE SEED: the statements are not yours to turn. If you find one false, say at which input.
  Laid BY PROGRAM, IN A SANDBOX (cutbox-rows.mjs): the forced cells as the released guide's own fill.sh prints them over the translation f7665a4c2ef3515c… (all of the seat's roots in one cut). By AI agents, Wed Nov 11 2026. No macro, syntax, notation, axiom, sorry.
-/
import Derived.Test.YtloaoeljlpenbaaDoorRRRRChecked
import GoSem.Claim
import GoSem.ClaimJoined
import GoSem.ClaimMapViews
import Derived.JoinedTies
import Derived.KernelRfl
namespace Go.Proofs.YtloaoeljlpenbaaDoorRRRR
/- THE CELL 'sum', in the pinned program and in every row, IS THE sha256 OF THE DUMP (.gsa) THAT YtloaoeljlpenbaaDoorRRRRProg.lean LOADS. Nothing in Lean hashes anything: it is a label: what it is worth is what the hold of that sum in a sandbox is worth. -/
noncomputable def Tryd.pinned : Pinned := { name := "ytloaoeljlpenbaadoorrrrr", sum := "f7665a4c2ef3515caa3c7cf667dd344dd5ec66c643f11be01aab078620eff72e", checked := Tryd.checked }
namespace Rows
def none {H : Type} : Left H := { results := [], args := [] }

/- WHAT THE LISTED PACKAGE-LEVEL VARIABLES READ AS WHEN THE CALL BEGINS. Each datum BY PROGRAM (the guide's laid-datum.mjs) off the statement by which the dump's own 'gosem.cut.vars' lays the variable. In a bare row this is a premise. The card (YtloaoeljlpenbaaDoorRRRRCards.lean) ties it to the program's text. -/
def laid_interchange_code_entries {H : Type} : DataW H := .agg [.agg [.lit (.int .i64 6), .lit (.int .i64 501), .lit (.string [70, 82, 65, 77, 69, 95, 69, 82, 82, 79, 82]), .lit (.bool true)], .agg [.lit (.int .i64 7), .lit (.int .i64 502), .lit (.string [83, 89, 78, 84, 65, 88, 95, 69, 82, 82, 79, 82]), .lit (.bool true)], .agg [.lit (.int .i64 8), .lit (.int .i64 503), .lit (.string [67, 79, 77, 77, 65, 78, 68, 95, 73, 78, 86, 65, 76, 73, 68]), .lit (.bool true)], .agg [.lit (.int .i64 9), .lit (.int .i64 504), .lit (.string [67, 72, 65, 78, 78, 69, 76, 95, 69, 82, 82, 79, 82]), .lit (.bool true)], .agg [.lit (.int .i64 10), .lit (.int .i64 505), .lit (.string [85, 78, 69, 88, 80, 69, 67, 84, 69, 68, 95, 70, 82, 65, 77, 69]), .lit (.bool true)], .agg [.lit (.int .i64 12), .lit (.int .i64 506), .lit (.string [82, 69, 83, 79, 85, 82, 67, 69, 95, 69, 82, 82, 79, 82]), .lit (.bool true)], .agg [.lit (.int .i64 14), .lit (.int .i64 530), .lit (.string [78, 79, 84, 95, 65, 76, 76, 79, 87, 69, 68]), .lit (.bool true)], .agg [.lit (.int .i64 16), .lit (.int .i64 320), .lit (.string [67, 79, 78, 78, 69, 67, 84, 73, 79, 78, 95, 70, 79, 82, 67, 69, 68]), .lit (.bool true)], .agg [.lit (.int .i64 4), .lit (.int .i64 311), .lit (.string [67, 79, 78, 84, 69, 78, 84, 95, 84, 79, 79, 95, 76, 65, 82, 71, 69]), .lit (.bool false)], .agg [.lit (.int .i64 11), .lit (.int .i64 404), .lit (.string [78, 79, 84, 95, 70, 79, 85, 78, 68]), .lit (.bool false)], .agg [.lit (.int .i64 13), .lit (.int .i64 406), .lit (.string [80, 82, 69, 67, 79, 78, 68, 73, 84, 73, 79, 78, 95, 70, 65, 73, 76, 69, 68]), .lit (.bool false)], .agg [.lit (.int .i64 0), .lit (.int .i64 200), .lit (.string [82, 69, 80, 76, 89, 95, 83, 85, 67, 67, 69, 83, 83]), .lit (.bool true)]]

/-- 'interchangelaw09.CodeNamed': WHATEVER THE INPUT: true; the input reads as it did. -/
def codeNamedSpec : ChangeSpec := { name := "codeNamed", fn := fun _ => fun
  | [d1, d2, d3] => { results := [.lit (.bool true)], args := [d1, d2, d3] }
  | _ => none }
def codeNamedRow : OpenClaim := { program := "ytloaoeljlpenbaadoorrrrr", sum := "f7665a4c2ef3515caa3c7cf667dd344dd5ec66c643f11be01aab078620eff72e", func := "interchange/interchangelaw09.CodeNamed", spec := "codeNamed", unfollowed := true, recurses := true, named := ["interchange/code.entries"], apart := false, laid := [("interchange/code.entries", laid_interchange_code_entries)] }
def CodeNamedSaid : Prop := codeNamedRow.holds Tryd.pinned (OpenSpec.ofChange codeNamedSpec)

/-- ITS FALSE NEIGHBOUR: 'it returns false'. Refute it at one input. -/
def codeNamedWrong : ChangeSpec := { name := "codeNamed", fn := fun _ => fun
  | [d1, d2, d3] => { results := [.lit (.bool false)], args := [d1, d2, d3] }
  | _ => none }
def CodeNamedWrongFalsely : Prop := codeNamedRow.holds Tryd.pinned (OpenSpec.ofChange codeNamedWrong)

/-- 'interchangelaw09.CodeOnce': WHATEVER THE INPUT: true; the input reads as it did. -/
def codeOnceSpec : ChangeSpec := { name := "codeOnce", fn := fun _ => fun
  | [d1, d2] => { results := [.lit (.bool true)], args := [d1, d2] }
  | _ => none }
def codeOnceRow : OpenClaim := { program := "ytloaoeljlpenbaadoorrrrr", sum := "f7665a4c2ef3515caa3c7cf667dd344dd5ec66c643f11be01aab078620eff72e", func := "interchange/interchangelaw09.CodeOnce", spec := "codeOnce", unfollowed := true, recurses := true, named := ["interchange/code.entries"], apart := false, laid := [("interchange/code.entries", laid_interchange_code_entries)] }
def CodeOnceSaid : Prop := codeOnceRow.holds Tryd.pinned (OpenSpec.ofChange codeOnceSpec)

/-- ITS FALSE NEIGHBOUR: 'it returns false'. Refute it at one input. -/
def codeOnceWrong : ChangeSpec := { name := "codeOnce", fn := fun _ => fun
  | [d1, d2] => { results := [.lit (.bool false)], args := [d1, d2] }
  | _ => none }
def CodeOnceWrongFalsely : Prop := codeOnceRow.holds Tryd.pinned (OpenSpec.ofChange codeOnceWrong)

/- THE SECOND FORM. 'bulk': how many values and letters a reading holds, each counted each time it is reached (what is shared counts as often as it is met; a slice's spare places count too). A statement '..UptoSaid' is the law's where the arguments, and the package variables that the reading takes, are together of bulk at most 1048576: NARROWER than '..Said'. Prove '..Said' where nothing that the law and all that it calls make is longer than what came in: it says more and counts as full. Else prove '..UptoSaid'. A law counts once. -/
mutual
def uptoBulk {H : Type} : DataW H → Nat
  | .lit (.string bytes) => bytes.length + 1
  | .lit _ => 1
  | .nil => 1
  | .ptr d => uptoBulk d + 1
  | .slice elems spare => uptoBulkAll elems + uptoBulkAll spare + 1
  | .agg parts => uptoBulkAll parts + 1
  | .iface _ d => uptoBulk d + 1
  | .map entries => uptoBulkEntries entries + 1
  | .held _ => 1
def uptoBulkAll {H : Type} : List (DataW H) → Nat
  | [] => 0
  | d :: r => uptoBulk d + uptoBulkAll r
def uptoBulkEntries {H : Type} : List (Lit × DataW H) → Nat
  | [] => 0
  | x :: r => uptoBulkEntry x + uptoBulkEntries r
def uptoBulkEntry {H : Type} : Lit × DataW H → Nat
  | (.string bytes, d) => bytes.length + uptoBulk d + 1
  | (_, d) => uptoBulk d + 1
 end
def uptoSmall : (H : Type) → List (DataW H) → Bool := fun _ ds => decide (uptoBulkAll ds ≤ 1048576)
def OpenSpec.upto (s : _root_.Go.ChangeSpec) : _root_.Go.OpenSpec := { _root_.Go.OpenSpec.ofChange s with cond := some uptoSmall }

/-- 'interchangelaw09.CodeNamed', WHERE WHAT IT READS IS OF BULK AT MOST 1048576: true; the input reads as it did. -/
def codeNamedUptoRow : OpenClaim := { program := "ytloaoeljlpenbaadoorrrrr", sum := "f7665a4c2ef3515caa3c7cf667dd344dd5ec66c643f11be01aab078620eff72e", func := "interchange/interchangelaw09.CodeNamed", spec := "codeNamed", unfollowed := true, recurses := true, named := ["interchange/code.entries"], apart := false, laid := [("interchange/code.entries", laid_interchange_code_entries)], narrowed := true }
def CodeNamedUptoSaid : Prop := codeNamedUptoRow.holds Tryd.pinned (OpenSpec.upto codeNamedSpec)

/-- 'interchangelaw09.CodeOnce', WHERE WHAT IT READS IS OF BULK AT MOST 1048576: true; the input reads as it did. -/
def codeOnceUptoRow : OpenClaim := { program := "ytloaoeljlpenbaadoorrrrr", sum := "f7665a4c2ef3515caa3c7cf667dd344dd5ec66c643f11be01aab078620eff72e", func := "interchange/interchangelaw09.CodeOnce", spec := "codeOnce", unfollowed := true, recurses := true, named := ["interchange/code.entries"], apart := false, laid := [("interchange/code.entries", laid_interchange_code_entries)], narrowed := true }
def CodeOnceUptoSaid : Prop := codeOnceUptoRow.holds Tryd.pinned (OpenSpec.upto codeOnceSpec)

end Rows
end Go.Proofs.YtloaoeljlpenbaaDoorRRRR
