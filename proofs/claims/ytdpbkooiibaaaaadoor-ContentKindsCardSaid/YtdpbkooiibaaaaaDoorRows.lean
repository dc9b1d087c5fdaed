/-
  NARROWER THAN 'FOR EVERY INPUT', by the rows' own cells (each row's printed sentence says how): ContentFew: laid · ContentKinds: laid.
  DERIVED. THE GIVEN ROWS OF THIS SEAT. 2 by the template 'for every input the law returns true; each argument reads behind the call as it read before'; 0 by the template 'total and deterministic' (their statements: YtdpbkooiibaaaaaDoorTotals.lean).
  GIVEN WITH THE SEED: the statements are not yours to turn. If you find one false, say at which input.
  Laid BY PROGRAM, IN A SANDBOX (cutbox-rows.mjs): the forced cells as the released guide's own fill.sh prints them over the translation 20eb99191e5d9857… (all of the seat's roots in one cut). By AI agents, Wed Nov 11 2026. No macro, syntax, notation, axiom, sorry.
-/
import Derived.Test.YtdpbkooiibaaaaaDoorChecked
import GoSem.Claim
import GoSem.ClaimJoined
import GoSem.ClaimMapViews
import Derived.JoinedTies
import Derived.KernelRfl
namespace Go.Proofs.YtdpbkooiibaaaaaDoor
/- THE CELL 'sum', in the pinned program and in every row, IS THE sha256 OF THE DUMP (.gsa) THAT YtdpbkooiibaaaaaDoorProg.lean LOADS. Nothing in Lean hashes anything: it is a label: what it is worth is what the hold of that sum in a sandbox is worth. -/
noncomputable def Tryd.pinned : Pinned := { name := "ytdpbkooiibaaaaadoor", sum := "20eb99191e5d98571d44fb5563ff1a294406f3028173c4259909bbd6a22a6588", checked := Tryd.checked }
namespace Rows
def none {H : Type} : Left H := { results := [], args := [] }

/- WHAT THE LISTED PACKAGE-LEVEL VARIABLES READ AS WHEN THE CALL BEGINS. Each datum BY PROGRAM (the guide's laid-datum.mjs) off the statement by which the dump's own 'gosem.cut.vars' lays the variable. In a bare row this is a premise. The card (YtdpbkooiibaaaaaDoorCards.lean) ties it to the program's text. -/
def laid_interchange_num_widths {H : Type} : DataW H := .agg [.lit (.int .i64 1), .lit (.int .i64 2), .lit (.int .i64 4), .lit (.int .i64 8)]

/-- 'interchangelaw08.ContentFew': WHATEVER THE INPUT: true; the input reads as it did. -/
def contentFewSpec : ChangeSpec := { name := "contentFew", fn := fun _ => fun
  | [d1, d2, d3] => { results := [.lit (.bool true)], args := [d1, d2, d3] }
  | _ => none }
def contentFewRow : OpenClaim := { program := "ytdpbkooiibaaaaadoor", sum := "20eb99191e5d98571d44fb5563ff1a294406f3028173c4259909bbd6a22a6588", func := "interchange/interchangelaw08.ContentFew", spec := "contentFew", unfollowed := true, recurses := true, named := ["interchange/num.widths"], apart := false, laid := [("interchange/num.widths", laid_interchange_num_widths)] }
def ContentFewSaid : Prop := contentFewRow.holds Tryd.pinned (OpenSpec.ofChange contentFewSpec)

/-- ITS FALSE NEIGHBOUR: 'it returns false'. Refute it at one input. -/
def contentFewWrong : ChangeSpec := { name := "contentFew", fn := fun _ => fun
  | [d1, d2, d3] => { results := [.lit (.bool false)], args := [d1, d2, d3] }
  | _ => none }
def ContentFewWrongFalsely : Prop := contentFewRow.holds Tryd.pinned (OpenSpec.ofChange contentFewWrong)

/-- 'interchangelaw08.ContentKinds': WHATEVER THE INPUT: true; the input reads as it did. -/
def contentKindsSpec : ChangeSpec := { name := "contentKinds", fn := fun _ => fun
  | [d1, d2, d3] => { results := [.lit (.bool true)], args := [d1, d2, d3] }
  | _ => none }
def contentKindsRow : OpenClaim := { program := "ytdpbkooiibaaaaadoor", sum := "20eb99191e5d98571d44fb5563ff1a294406f3028173c4259909bbd6a22a6588", func := "interchange/interchangelaw08.ContentKinds", spec := "contentKinds", unfollowed := true, recurses := true, named := ["interchange/num.widths"], apart := false, laid := [("interchange/num.widths", laid_interchange_num_widths)] }
def ContentKindsSaid : Prop := contentKindsRow.holds Tryd.pinned (OpenSpec.ofChange contentKindsSpec)

/-- ITS FALSE NEIGHBOUR: 'it returns false'. Refute it at one input. -/
def contentKindsWrong : ChangeSpec := { name := "contentKinds", fn := fun _ => fun
  | [d1, d2, d3] => { results := [.lit (.bool false)], args := [d1, d2, d3] }
  | _ => none }
def ContentKindsWrongFalsely : Prop := contentKindsRow.holds Tryd.pinned (OpenSpec.ofChange contentKindsWrong)

/- THE SECOND FORM. 'bulk': how many values and letters a reading holds, each counted each time it is reached (what is shared counts as often as it is met; a slice's spare places count too). A statement '..UptoSaid' is the law's where the arguments, and the package variables that the reading takes, are together of bulk at most 1048576: NARROWER than '..Said'. Prove '..Said' where nothing that the law and all that it calls make is longer than what came in: it says more and counts as full. Else prove '..UptoSaid'. A law counts once. -/
mutual
def uptoBulk {H : Type} : DataW H → Nat
  | .lit (.string bytes) => bytes.length + 1
  | .lit _ => 1
  | .nil => 1
  | .ptr d => uptoBulk d + 1
  | .slice elems spare => uptoBulkAll elems + uptoBulkAll spare + 1
  | .agg parts => uptoBulkAll parts + 1
  | .iface _ d => uptoBulk d + 1
  | .map entries => uptoBulkEntries entries + 1
  | .held _ => 1
def uptoBulkAll {H : Type} : List (DataW H) → Nat
  | [] => 0
  | d :: r => uptoBulk d + uptoBulkAll r
def uptoBulkEntries {H : Type} : List (Lit × DataW H) → Nat
  | [] => 0
  | x :: r => uptoBulkEntry x + uptoBulkEntries r
def uptoBulkEntry {H : Type} : Lit × DataW H → Nat
  | (.string bytes, d) => bytes.length + uptoBulk d + 1
  | (_, d) => uptoBulk d + 1
 end
def uptoSmall : (H : Type) → List (DataW H) → Bool := fun _ ds => decide (uptoBulkAll ds ≤ 1048576)
def OpenSpec.upto (s : _root_.Go.ChangeSpec) : _root_.Go.OpenSpec := { _root_.Go.OpenSpec.ofChange s with cond := some uptoSmall }

/-- 'interchangelaw08.ContentFew', WHERE WHAT IT READS IS OF BULK AT MOST 1048576: true; the input reads as it did. -/
def contentFewUptoRow : OpenClaim := { program := "ytdpbkooiibaaaaadoor", sum := "20eb99191e5d98571d44fb5563ff1a294406f3028173c4259909bbd6a22a6588", func := "interchange/interchangelaw08.ContentFew", spec := "contentFew", unfollowed := true, recurses := true, named := ["interchange/num.widths"], apart := false, laid := [("interchange/num.widths", laid_interchange_num_widths)], narrowed := true }
def ContentFewUptoSaid : Prop := contentFewUptoRow.holds Tryd.pinned (OpenSpec.upto contentFewSpec)

/-- 'interchangelaw08.ContentKinds', WHERE WHAT IT READS IS OF BULK AT MOST 1048576: true; the input reads as it did. -/
def contentKindsUptoRow : OpenClaim := { program := "ytdpbkooiibaaaaadoor", sum := "20eb99191e5d98571d44fb5563ff1a294406f3028173c4259909bbd6a22a6588", func := "interchange/interchangelaw08.ContentKinds", spec := "contentKinds", unfollowed := true, recurses := true, named := ["interchange/num.widths"], apart := false, laid := [("interchange/num.widths", laid_interchange_num_widths)], narrowed := true }
def ContentKindsUptoSaid : Prop := contentKindsUptoRow.holds Tryd.pinned (OpenSpec.upto contentKindsSpec)

end Rows
end Go.Proofs.YtdpbkooiibaaaaaDoor
