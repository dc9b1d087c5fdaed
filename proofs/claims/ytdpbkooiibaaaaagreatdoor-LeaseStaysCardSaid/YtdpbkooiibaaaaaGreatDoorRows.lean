/-
  NARROWER THAN 'FOR EVERY INPUT', by the rows' own cells (each row's printed sentence says how): LeaseAcks: laid · LeasePlain: laid · LeaseModes: laid · LeaseIn: laid · LeaseStays: laid · LeaseSends: laid · LeaseNumbers: laid.
  DERIVED. THE GIVEN ROWS OF THIS SEAT. 7 by the template 'for every input the law returns true; each argument reads behind the call as it read before'; 0 by the template 'total and deterministic' (their statements: YtdpbkooiibaaaaaGreatDoorTotals.lean).
  GIVEN WITH THE SEED: the statements are not yours to turn. If you find one false, say at which input.
  Laid BY PROGRAM, IN A SANDBOX (cutbox-rows.mjs): the forced cells as the released guide's own fill.sh prints them over the translation 0f7434bbd4571535… (all of the seat's roots in one cut). By AI agents, Wed Nov 11 2026. No macro, syntax, notation, axiom, sorry.
-/
import Derived.Test.YtdpbkooiibaaaaaGreatDoorChecked
import GoSem.Claim
import GoSem.ClaimJoined
import GoSem.ClaimMapViews
import Derived.JoinedTies
import Derived.KernelRfl
namespace Go.Proofs.YtdpbkooiibaaaaaGreatDoor
/- THE CELL 'sum', in the pinned program and in every row, IS THE sha256 OF THE DUMP (.gsa) THAT YtdpbkooiibaaaaaGreatDoorProg.lean LOADS. Nothing in Lean hashes anything: it is a label: what it is worth is what the hold of that sum in a sandbox is worth. -/
noncomputable def Tryz.pinned : Pinned := { name := "ytdpbkooiibaaaaagreatdoor", sum := "0f7434bbd4571535178afb71c8dd75ff8aac31106ec75d394d2283e8bc952480", checked := Tryz.checked }
namespace Rows
def none {H : Type} : Left H := { results := [], args := [] }

/- WHAT THE LISTED PACKAGE-LEVEL VARIABLES READ AS WHEN THE CALL BEGINS. Each datum BY PROGRAM (the guide's laid-datum.mjs) off the statement by which the dump's own 'gosem.cut.vars' lays the variable. In a bare row this is a premise. The card (YtdpbkooiibaaaaaGreatDoorCards.lean) ties it to the program's text. -/
def laid_math_bits_deBruijn32tab {H : Type} : DataW H := .agg [.lit (.int .u8 0), .lit (.int .u8 1), .lit (.int .u8 28), .lit (.int .u8 2), .lit (.int .u8 29), .lit (.int .u8 14), .lit (.int .u8 24), .lit (.int .u8 3), .lit (.int .u8 30), .lit (.int .u8 22), .lit (.int .u8 20), .lit (.int .u8 15), .lit (.int .u8 25), .lit (.int .u8 17), .lit (.int .u8 4), .lit (.int .u8 8), .lit (.int .u8 31), .lit (.int .u8 27), .lit (.int .u8 13), .lit (.int .u8 23), .lit (.int .u8 21), .lit (.int .u8 19), .lit (.int .u8 16), .lit (.int .u8 7), .lit (.int .u8 26), .lit (.int .u8 12), .lit (.int .u8 18), .lit (.int .u8 6), .lit (.int .u8 11), .lit (.int .u8 5), .lit (.int .u8 10), .lit (.int .u8 9)]
def laid_math_bits_deBruijn64tab {H : Type} : DataW H := .agg [.lit (.int .u8 0), .lit (.int .u8 1), .lit (.int .u8 56), .lit (.int .u8 2), .lit (.int .u8 57), .lit (.int .u8 49), .lit (.int .u8 28), .lit (.int .u8 3), .lit (.int .u8 61), .lit (.int .u8 58), .lit (.int .u8 42), .lit (.int .u8 50), .lit (.int .u8 38), .lit (.int .u8 29), .lit (.int .u8 17), .lit (.int .u8 4), .lit (.int .u8 62), .lit (.int .u8 47), .lit (.int .u8 59), .lit (.int .u8 36), .lit (.int .u8 45), .lit (.int .u8 43), .lit (.int .u8 51), .lit (.int .u8 22), .lit (.int .u8 53), .lit (.int .u8 39), .lit (.int .u8 33), .lit (.int .u8 30), .lit (.int .u8 24), .lit (.int .u8 18), .lit (.int .u8 12), .lit (.int .u8 5), .lit (.int .u8 63), .lit (.int .u8 55), .lit (.int .u8 48), .lit (.int .u8 27), .lit (.int .u8 60), .lit (.int .u8 41), .lit (.int .u8 37), .lit (.int .u8 16), .lit (.int .u8 46), .lit (.int .u8 35), .lit (.int .u8 44), .lit (.int .u8 21), .lit (.int .u8 52), .lit (.int .u8 32), .lit (.int .u8 23), .lit (.int .u8 11), .lit (.int .u8 54), .lit (.int .u8 26), .lit (.int .u8 40), .lit (.int .u8 15), .lit (.int .u8 34), .lit (.int .u8 20), .lit (.int .u8 31), .lit (.int .u8 10), .lit (.int .u8 25), .lit (.int .u8 14), .lit (.int .u8 19), .lit (.int .u8 9), .lit (.int .u8 13), .lit (.int .u8 8), .lit (.int .u8 7), .lit (.int .u8 6)]
def laid_internal_strconv_uint64pow10 {H : Type} : DataW H := .agg [.lit (.int .u64 1), .lit (.int .u64 10), .lit (.int .u64 100), .lit (.int .u64 1000), .lit (.int .u64 10000), .lit (.int .u64 100000), .lit (.int .u64 1000000), .lit (.int .u64 10000000), .lit (.int .u64 100000000), .lit (.int .u64 1000000000), .lit (.int .u64 10000000000), .lit (.int .u64 100000000000), .lit (.int .u64 1000000000000), .lit (.int .u64 10000000000000), .lit (.int .u64 100000000000000), .lit (.int .u64 1000000000000000), .lit (.int .u64 10000000000000000), .lit (.int .u64 100000000000000000), .lit (.int .u64 1000000000000000000), .lit (.int .u64 10000000000000000000)]
def laid_interchange_num_widths {H : Type} : DataW H := .agg [.lit (.int .i64 1), .lit (.int .i64 2), .lit (.int .i64 4), .lit (.int .i64 8)]

/-- 'interchangelaw18.LeaseAcks': WHATEVER THE INPUT: true; the input reads as it did. -/
def leaseAcksSpec : ChangeSpec := { name := "leaseAcks", fn := fun _ => fun
  | [d1, d2] => { results := [.lit (.bool true)], args := [d1, d2] }
  | _ => none }
def leaseAcksRow : OpenClaim := { program := "ytdpbkooiibaaaaagreatdoor", sum := "0f7434bbd4571535178afb71c8dd75ff8aac31106ec75d394d2283e8bc952480", func := "interchange/interchangelaw18.LeaseAcks", spec := "leaseAcks", unfollowed := true, recurses := true, named := ["interchange/num.widths", "internal/strconv.uint64pow10", "math/bits.deBruijn32tab", "math/bits.deBruijn64tab"], plainKeys := false, apart := false, laid := [("math/bits.deBruijn32tab", laid_math_bits_deBruijn32tab), ("math/bits.deBruijn64tab", laid_math_bits_deBruijn64tab), ("internal/strconv.uint64pow10", laid_internal_strconv_uint64pow10), ("interchange/num.widths", laid_interchange_num_widths)] }
def LeaseAcksSaid : Prop := leaseAcksRow.holds Tryz.pinned (OpenSpec.ofChange leaseAcksSpec)

/-- ITS FALSE NEIGHBOUR: 'it returns false'. Refute it at one input. -/
def leaseAcksWrong : ChangeSpec := { name := "leaseAcks", fn := fun _ => fun
  | [d1, d2] => { results := [.lit (.bool false)], args := [d1, d2] }
  | _ => none }
def LeaseAcksWrongFalsely : Prop := leaseAcksRow.holds Tryz.pinned (OpenSpec.ofChange leaseAcksWrong)

/-- 'interchangelaw18.LeasePlain': WHATEVER THE INPUT: true; the input reads as it did. -/
def leasePlainSpec : ChangeSpec := { name := "leasePlain", fn := fun _ => fun
  | [d1, d2] => { results := [.lit (.bool true)], args := [d1, d2] }
  | _ => none }
def leasePlainRow : OpenClaim := { program := "ytdpbkooiibaaaaagreatdoor", sum := "0f7434bbd4571535178afb71c8dd75ff8aac31106ec75d394d2283e8bc952480", func := "interchange/interchangelaw18.LeasePlain", spec := "leasePlain", unfollowed := true, recurses := true, named := ["interchange/num.widths", "internal/strconv.uint64pow10", "math/bits.deBruijn32tab", "math/bits.deBruijn64tab"], plainKeys := false, apart := false, laid := [("math/bits.deBruijn32tab", laid_math_bits_deBruijn32tab), ("math/bits.deBruijn64tab", laid_math_bits_deBruijn64tab), ("internal/strconv.uint64pow10", laid_internal_strconv_uint64pow10), ("interchange/num.widths", laid_interchange_num_widths)] }
def LeasePlainSaid : Prop := leasePlainRow.holds Tryz.pinned (OpenSpec.ofChange leasePlainSpec)

/-- ITS FALSE NEIGHBOUR: 'it returns false'. Refute it at one input. -/
def leasePlainWrong : ChangeSpec := { name := "leasePlain", fn := fun _ => fun
  | [d1, d2] => { results := [.lit (.bool false)], args := [d1, d2] }
  | _ => none }
def LeasePlainWrongFalsely : Prop := leasePlainRow.holds Tryz.pinned (OpenSpec.ofChange leasePlainWrong)

/-- 'interchangelaw18.LeaseModes': WHATEVER THE INPUT: true; the input reads as it did. -/
def leaseModesSpec : ChangeSpec := { name := "leaseModes", fn := fun _ => fun
  | [d1, d2, d3] => { results := [.lit (.bool true)], args := [d1, d2, d3] }
  | _ => none }
def leaseModesRow : OpenClaim := { program := "ytdpbkooiibaaaaagreatdoor", sum := "0f7434bbd4571535178afb71c8dd75ff8aac31106ec75d394d2283e8bc952480", func := "interchange/interchangelaw18.LeaseModes", spec := "leaseModes", unfollowed := true, recurses := true, named := ["interchange/num.widths", "internal/strconv.uint64pow10", "math/bits.deBruijn32tab", "math/bits.deBruijn64tab"], plainKeys := false, apart := false, laid := [("math/bits.deBruijn32tab", laid_math_bits_deBruijn32tab), ("math/bits.deBruijn64tab", laid_math_bits_deBruijn64tab), ("internal/strconv.uint64pow10", laid_internal_strconv_uint64pow10), ("interchange/num.widths", laid_interchange_num_widths)] }
def LeaseModesSaid : Prop := leaseModesRow.holds Tryz.pinned (OpenSpec.ofChange leaseModesSpec)

/-- ITS FALSE NEIGHBOUR: 'it returns false'. Refute it at one input. -/
def leaseModesWrong : ChangeSpec := { name := "leaseModes", fn := fun _ => fun
  | [d1, d2, d3] => { results := [.lit (.bool false)], args := [d1, d2, d3] }
  | _ => none }
def LeaseModesWrongFalsely : Prop := leaseModesRow.holds Tryz.pinned (OpenSpec.ofChange leaseModesWrong)

/-- 'interchangelaw18.LeaseIn': WHATEVER THE INPUT: true; the input reads as it did. -/
def leaseInSpec : ChangeSpec := { name := "leaseIn", fn := fun _ => fun
  | [d1, d2] => { results := [.lit (.bool true)], args := [d1, d2] }
  | _ => none }
def leaseInRow : OpenClaim := { program := "ytdpbkooiibaaaaagreatdoor", sum := "0f7434bbd4571535178afb71c8dd75ff8aac31106ec75d394d2283e8bc952480", func := "interchange/interchangelaw18.LeaseIn", spec := "leaseIn", unfollowed := true, recurses := true, named := ["interchange/num.widths", "internal/strconv.uint64pow10", "math/bits.deBruijn32tab", "math/bits.deBruijn64tab"], plainKeys := false, apart := false, laid := [("math/bits.deBruijn32tab", laid_math_bits_deBruijn32tab), ("math/bits.deBruijn64tab", laid_math_bits_deBruijn64tab), ("internal/strconv.uint64pow10", laid_internal_strconv_uint64pow10), ("interchange/num.widths", laid_interchange_num_widths)] }
def LeaseInSaid : Prop := leaseInRow.holds Tryz.pinned (OpenSpec.ofChange leaseInSpec)

/-- ITS FALSE NEIGHBOUR: 'it returns false'. Refute it at one input. -/
def leaseInWrong : ChangeSpec := { name := "leaseIn", fn := fun _ => fun
  | [d1, d2] => { results := [.lit (.bool false)], args := [d1, d2] }
  | _ => none }
def LeaseInWrongFalsely : Prop := leaseInRow.holds Tryz.pinned (OpenSpec.ofChange leaseInWrong)

/-- 'interchangelaw18.LeaseStays': WHATEVER THE INPUT: true; the input reads as it did. -/
def leaseStaysSpec : ChangeSpec := { name := "leaseStays", fn := fun _ => fun
  | [d1, d2, d3] => { results := [.lit (.bool true)], args := [d1, d2, d3] }
  | _ => none }
def leaseStaysRow : OpenClaim := { program := "ytdpbkooiibaaaaagreatdoor", sum := "0f7434bbd4571535178afb71c8dd75ff8aac31106ec75d394d2283e8bc952480", func := "interchange/interchangelaw18.LeaseStays", spec := "leaseStays", unfollowed := true, recurses := true, named := ["interchange/num.widths", "internal/strconv.uint64pow10", "math/bits.deBruijn32tab", "math/bits.deBruijn64tab"], plainKeys := false, apart := false, laid := [("math/bits.deBruijn32tab", laid_math_bits_deBruijn32tab), ("math/bits.deBruijn64tab", laid_math_bits_deBruijn64tab), ("internal/strconv.uint64pow10", laid_internal_strconv_uint64pow10), ("interchange/num.widths", laid_interchange_num_widths)] }
def LeaseStaysSaid : Prop := leaseStaysRow.holds Tryz.pinned (OpenSpec.ofChange leaseStaysSpec)

/-- ITS FALSE NEIGHBOUR: 'it returns false'. Refute it at one input. -/
def leaseStaysWrong : ChangeSpec := { name := "leaseStays", fn := fun _ => fun
  | [d1, d2, d3] => { results := [.lit (.bool false)], args := [d1, d2, d3] }
  | _ => none }
def LeaseStaysWrongFalsely : Prop := leaseStaysRow.holds Tryz.pinned (OpenSpec.ofChange leaseStaysWrong)

/-- 'interchangelaw18.LeaseSends': WHATEVER THE INPUT: true; the input reads as it did. -/
def leaseSendsSpec : ChangeSpec := { name := "leaseSends", fn := fun _ => fun
  | [d1, d2, d3] => { results := [.lit (.bool true)], args := [d1, d2, d3] }
  | _ => none }
def leaseSendsRow : OpenClaim := { program := "ytdpbkooiibaaaaagreatdoor", sum := "0f7434bbd4571535178afb71c8dd75ff8aac31106ec75d394d2283e8bc952480", func := "interchange/interchangelaw18.LeaseSends", spec := "leaseSends", unfollowed := true, recurses := true, named := ["interchange/num.widths", "internal/strconv.uint64pow10", "math/bits.deBruijn32tab", "math/bits.deBruijn64tab"], plainKeys := false, apart := false, laid := [("math/bits.deBruijn32tab", laid_math_bits_deBruijn32tab), ("math/bits.deBruijn64tab", laid_math_bits_deBruijn64tab), ("internal/strconv.uint64pow10", laid_internal_strconv_uint64pow10), ("interchange/num.widths", laid_interchange_num_widths)] }
def LeaseSendsSaid : Prop := leaseSendsRow.holds Tryz.pinned (OpenSpec.ofChange leaseSendsSpec)

/-- ITS FALSE NEIGHBOUR: 'it returns false'. Refute it at one input. -/
def leaseSendsWrong : ChangeSpec := { name := "leaseSends", fn := fun _ => fun
  | [d1, d2, d3] => { results := [.lit (.bool false)], args := [d1, d2, d3] }
  | _ => none }
def LeaseSendsWrongFalsely : Prop := leaseSendsRow.holds Tryz.pinned (OpenSpec.ofChange leaseSendsWrong)

/-- 'interchangelaw18.LeaseNumbers': WHATEVER THE INPUT: true; the input reads as it did. -/
def leaseNumbersSpec : ChangeSpec := { name := "leaseNumbers", fn := fun _ => fun
  | [d1, d2] => { results := [.lit (.bool true)], args := [d1, d2] }
  | _ => none }
def leaseNumbersRow : OpenClaim := { program := "ytdpbkooiibaaaaagreatdoor", sum := "0f7434bbd4571535178afb71c8dd75ff8aac31106ec75d394d2283e8bc952480", func := "interchange/interchangelaw18.LeaseNumbers", spec := "leaseNumbers", unfollowed := true, recurses := true, named := ["interchange/num.widths", "internal/strconv.uint64pow10", "math/bits.deBruijn32tab", "math/bits.deBruijn64tab"], plainKeys := false, apart := false, laid := [("math/bits.deBruijn32tab", laid_math_bits_deBruijn32tab), ("math/bits.deBruijn64tab", laid_math_bits_deBruijn64tab), ("internal/strconv.uint64pow10", laid_internal_strconv_uint64pow10), ("interchange/num.widths", laid_interchange_num_widths)] }
def LeaseNumbersSaid : Prop := leaseNumbersRow.holds Tryz.pinned (OpenSpec.ofChange leaseNumbersSpec)

/-- ITS FALSE NEIGHBOUR: 'it returns false'. Refute it at one input. -/
def leaseNumbersWrong : ChangeSpec := { name := "leaseNumbers", fn := fun _ => fun
  | [d1, d2] => { results := [.lit (.bool false)], args := [d1, d2] }
  | _ => none }
def LeaseNumbersWrongFalsely : Prop := leaseNumbersRow.holds Tryz.pinned (OpenSpec.ofChange leaseNumbersWrong)

/- THE SECOND FORM. 'bulk': how many values and letters a reading holds, each counted each time it is reached (what is shared counts as often as it is met; a slice's spare places count too). A statement '..UptoSaid' is the law's where the arguments, and the package variables that the reading takes, are together of bulk at most 1048576: NARROWER than '..Said'. Prove '..Said' where nothing that the law and all that it calls make is longer than what came in: it says more and counts as full. Else prove '..UptoSaid'. A law counts once. -/
mutual
def uptoBulk {H : Type} : DataW H → Nat
  | .lit (.string bytes) => bytes.length + 1
  | .lit _ => 1
  | .nil => 1
  | .ptr d => uptoBulk d + 1
  | .slice elems spare => uptoBulkAll elems + uptoBulkAll spare + 1
  | .agg parts => uptoBulkAll parts + 1
  | .iface _ d => uptoBulk d + 1
  | .map entries => uptoBulkEntries entries + 1
  | .held _ => 1
def uptoBulkAll {H : Type} : List (DataW H) → Nat
  | [] => 0
  | d :: r => uptoBulk d + uptoBulkAll r
def uptoBulkEntries {H : Type} : List (Lit × DataW H) → Nat
  | [] => 0
  | x :: r => uptoBulkEntry x + uptoBulkEntries r
def uptoBulkEntry {H : Type} : Lit × DataW H → Nat
  | (.string bytes, d) => bytes.length + uptoBulk d + 1
  | (_, d) => uptoBulk d + 1
 end
def uptoSmall : (H : Type) → List (DataW H) → Bool := fun _ ds => decide (uptoBulkAll ds ≤ 1048576)
def OpenSpec.upto (s : _root_.Go.ChangeSpec) : _root_.Go.OpenSpec := { _root_.Go.OpenSpec.ofChange s with cond := some uptoSmall }

/-- 'interchangelaw18.LeaseAcks', WHERE WHAT IT READS IS OF BULK AT MOST 1048576: true; the input reads as it did. -/
def leaseAcksUptoRow : OpenClaim := { program := "ytdpbkooiibaaaaagreatdoor", sum := "0f7434bbd4571535178afb71c8dd75ff8aac31106ec75d394d2283e8bc952480", func := "interchange/interchangelaw18.LeaseAcks", spec := "leaseAcks", unfollowed := true, recurses := true, named := ["interchange/num.widths", "internal/strconv.uint64pow10", "math/bits.deBruijn32tab", "math/bits.deBruijn64tab"], plainKeys := false, apart := false, laid := [("math/bits.deBruijn32tab", laid_math_bits_deBruijn32tab), ("math/bits.deBruijn64tab", laid_math_bits_deBruijn64tab), ("internal/strconv.uint64pow10", laid_internal_strconv_uint64pow10), ("interchange/num.widths", laid_interchange_num_widths)], narrowed := true }
def LeaseAcksUptoSaid : Prop := leaseAcksUptoRow.holds Tryz.pinned (OpenSpec.upto leaseAcksSpec)

/-- 'interchangelaw18.LeasePlain', WHERE WHAT IT READS IS OF BULK AT MOST 1048576: true; the input reads as it did. -/
def leasePlainUptoRow : OpenClaim := { program := "ytdpbkooiibaaaaagreatdoor", sum := "0f7434bbd4571535178afb71c8dd75ff8aac31106ec75d394d2283e8bc952480", func := "interchange/interchangelaw18.LeasePlain", spec := "leasePlain", unfollowed := true, recurses := true, named := ["interchange/num.widths", "internal/strconv.uint64pow10", "math/bits.deBruijn32tab", "math/bits.deBruijn64tab"], plainKeys := false, apart := false, laid := [("math/bits.deBruijn32tab", laid_math_bits_deBruijn32tab), ("math/bits.deBruijn64tab", laid_math_bits_deBruijn64tab), ("internal/strconv.uint64pow10", laid_internal_strconv_uint64pow10), ("interchange/num.widths", laid_interchange_num_widths)], narrowed := true }
def LeasePlainUptoSaid : Prop := leasePlainUptoRow.holds Tryz.pinned (OpenSpec.upto leasePlainSpec)

/-- 'interchangelaw18.LeaseModes', WHERE WHAT IT READS IS OF BULK AT MOST 1048576: true; the input reads as it did. -/
def leaseModesUptoRow : OpenClaim := { program := "ytdpbkooiibaaaaagreatdoor", sum := "0f7434bbd4571535178afb71c8dd75ff8aac31106ec75d394d2283e8bc952480", func := "interchange/interchangelaw18.LeaseModes", spec := "leaseModes", unfollowed := true, recurses := true, named := ["interchange/num.widths", "internal/strconv.uint64pow10", "math/bits.deBruijn32tab", "math/bits.deBruijn64tab"], plainKeys := false, apart := false, laid := [("math/bits.deBruijn32tab", laid_math_bits_deBruijn32tab), ("math/bits.deBruijn64tab", laid_math_bits_deBruijn64tab), ("internal/strconv.uint64pow10", laid_internal_strconv_uint64pow10), ("interchange/num.widths", laid_interchange_num_widths)], narrowed := true }
def LeaseModesUptoSaid : Prop := leaseModesUptoRow.holds Tryz.pinned (OpenSpec.upto leaseModesSpec)

/-- 'interchangelaw18.LeaseIn', WHERE WHAT IT READS IS OF BULK AT MOST 1048576: true; the input reads as it did. -/
def leaseInUptoRow : OpenClaim := { program := "ytdpbkooiibaaaaagreatdoor", sum := "0f7434bbd4571535178afb71c8dd75ff8aac31106ec75d394d2283e8bc952480", func := "interchange/interchangelaw18.LeaseIn", spec := "leaseIn", unfollowed := true, recurses := true, named := ["interchange/num.widths", "internal/strconv.uint64pow10", "math/bits.deBruijn32tab", "math/bits.deBruijn64tab"], plainKeys := false, apart := false, laid := [("math/bits.deBruijn32tab", laid_math_bits_deBruijn32tab), ("math/bits.deBruijn64tab", laid_math_bits_deBruijn64tab), ("internal/strconv.uint64pow10", laid_internal_strconv_uint64pow10), ("interchange/num.widths", laid_interchange_num_widths)], narrowed := true }
def LeaseInUptoSaid : Prop := leaseInUptoRow.holds Tryz.pinned (OpenSpec.upto leaseInSpec)

/-- 'interchangelaw18.LeaseStays', WHERE WHAT IT READS IS OF BULK AT MOST 1048576: true; the input reads as it did. -/
def leaseStaysUptoRow : OpenClaim := { program := "ytdpbkooiibaaaaagreatdoor", sum := "0f7434bbd4571535178afb71c8dd75ff8aac31106ec75d394d2283e8bc952480", func := "interchange/interchangelaw18.LeaseStays", spec := "leaseStays", unfollowed := true, recurses := true, named := ["interchange/num.widths", "internal/strconv.uint64pow10", "math/bits.deBruijn32tab", "math/bits.deBruijn64tab"], plainKeys := false, apart := false, laid := [("math/bits.deBruijn32tab", laid_math_bits_deBruijn32tab), ("math/bits.deBruijn64tab", laid_math_bits_deBruijn64tab), ("internal/strconv.uint64pow10", laid_internal_strconv_uint64pow10), ("interchange/num.widths", laid_interchange_num_widths)], narrowed := true }
def LeaseStaysUptoSaid : Prop := leaseStaysUptoRow.holds Tryz.pinned (OpenSpec.upto leaseStaysSpec)

/-- 'interchangelaw18.LeaseSends', WHERE WHAT IT READS IS OF BULK AT MOST 1048576: true; the input reads as it did. -/
def leaseSendsUptoRow : OpenClaim := { program := "ytdpbkooiibaaaaagreatdoor", sum := "0f7434bbd4571535178afb71c8dd75ff8aac31106ec75d394d2283e8bc952480", func := "interchange/interchangelaw18.LeaseSends", spec := "leaseSends", unfollowed := true, recurses := true, named := ["interchange/num.widths", "internal/strconv.uint64pow10", "math/bits.deBruijn32tab", "math/bits.deBruijn64tab"], plainKeys := false, apart := false, laid := [("math/bits.deBruijn32tab", laid_math_bits_deBruijn32tab), ("math/bits.deBruijn64tab", laid_math_bits_deBruijn64tab), ("internal/strconv.uint64pow10", laid_internal_strconv_uint64pow10), ("interchange/num.widths", laid_interchange_num_widths)], narrowed := true }
def LeaseSendsUptoSaid : Prop := leaseSendsUptoRow.holds Tryz.pinned (OpenSpec.upto leaseSendsSpec)

/-- 'interchangelaw18.LeaseNumbers', WHERE WHAT IT READS IS OF BULK AT MOST 1048576: true; the input reads as it did. -/
def leaseNumbersUptoRow : OpenClaim := { program := "ytdpbkooiibaaaaagreatdoor", sum := "0f7434bbd4571535178afb71c8dd75ff8aac31106ec75d394d2283e8bc952480", func := "interchange/interchangelaw18.LeaseNumbers", spec := "leaseNumbers", unfollowed := true, recurses := true, named := ["interchange/num.widths", "internal/strconv.uint64pow10", "math/bits.deBruijn32tab", "math/bits.deBruijn64tab"], plainKeys := false, apart := false, laid := [("math/bits.deBruijn32tab", laid_math_bits_deBruijn32tab), ("math/bits.deBruijn64tab", laid_math_bits_deBruijn64tab), ("internal/strconv.uint64pow10", laid_internal_strconv_uint64pow10), ("interchange/num.widths", laid_interchange_num_widths)], narrowed := true }
def LeaseNumbersUptoSaid : Prop := leaseNumbersUptoRow.holds Tryz.pinned (OpenSpec.upto leaseNumbersSpec)

end Rows
end Go.Proofs.YtdpbkooiibaaaaaGreatDoor
