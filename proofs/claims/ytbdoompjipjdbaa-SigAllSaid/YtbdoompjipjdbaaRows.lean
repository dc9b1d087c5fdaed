/-
  No cell of these rows narrows 'for every input' (looked for: loops, veiled, ifaces, maps, wideKeys, modest, calm, conditions, laid).
  DERIVED. THE GIVEN ROWS OF THIS SEAT. 6 by the template 'for every input the law returns true; each argument reads behind the call as it read before'; 0 by the template 'total and deterministic' (their statements: YtbdoompjipjdbaaTotals.lean).
  GIVEN WITH THE SEED: the statements are not yours to turn. If you find one false, say at which input.
  Laid BY PROGRAM, IN A SANDBOX (cutbox-rows.mjs): the forced cells as the released guide's own fill.sh prints them over the translation ebfc4de0b8c41b76… (all of the seat's roots in one cut). By AI agents, Wed Nov 11 2026. No macro, syntax, notation, axiom, sorry.
-/
import Derived.Test.YtbdoompjipjdbaaChecked
import GoSem.Claim
import GoSem.ClaimJoined
import GoSem.ClaimMapViews
import Derived.JoinedTies
import Derived.KernelRfl
namespace Go.Proofs.Ytbdoompjipjdbaa
/- THE CELL 'sum', in the pinned program and in every row, IS THE sha256 OF THE DUMP (.gsa) THAT YtbdoompjipjdbaaProg.lean LOADS. Nothing in Lean hashes anything: it is a label: what it is worth is what the hold of that sum in a sandbox is worth. -/
noncomputable def Try.pinned : Pinned := { name := "ytbdoompjipjdbaa", sum := "ebfc4de0b8c41b76f898af7cd4ac40c90bc35046b8a7431c4f358f3cd23f5219", checked := Try.checked }
namespace Rows
def none {H : Type} : Left H := { results := [], args := [] }

/-- 'interchangelaw05.SigPairs': WHATEVER THE INPUT: true; the input reads as it did. -/
def sigPairsSpec : ChangeSpec := { name := "sigPairs", fn := fun _ => fun
  | [d1, d2, d3] => { results := [.lit (.bool true)], args := [d1, d2, d3] }
  | _ => none }
def sigPairsRow : OpenClaim := { program := "ytbdoompjipjdbaa", sum := "ebfc4de0b8c41b76f898af7cd4ac40c90bc35046b8a7431c4f358f3cd23f5219", func := "interchange/interchangelaw05.SigPairs", spec := "sigPairs", unfollowed := true, recurses := true, apart := false }
def SigPairsSaid : Prop := sigPairsRow.holds Try.pinned (OpenSpec.ofChange sigPairsSpec)

/-- ITS FALSE NEIGHBOUR: 'it returns false'. Refute it at one input. -/
def sigPairsWrong : ChangeSpec := { name := "sigPairs", fn := fun _ => fun
  | [d1, d2, d3] => { results := [.lit (.bool false)], args := [d1, d2, d3] }
  | _ => none }
def SigPairsWrongFalsely : Prop := sigPairsRow.holds Try.pinned (OpenSpec.ofChange sigPairsWrong)

/-- 'interchangelaw05.SigAll': WHATEVER THE INPUT: true; the input reads as it did. -/
def sigAllSpec : ChangeSpec := { name := "sigAll", fn := fun _ => fun
  | [d1, d2] => { results := [.lit (.bool true)], args := [d1, d2] }
  | _ => none }
def sigAllRow : OpenClaim := { program := "ytbdoompjipjdbaa", sum := "ebfc4de0b8c41b76f898af7cd4ac40c90bc35046b8a7431c4f358f3cd23f5219", func := "interchange/interchangelaw05.SigAll", spec := "sigAll", unfollowed := true, recurses := true, apart := false }
def SigAllSaid : Prop := sigAllRow.holds Try.pinned (OpenSpec.ofChange sigAllSpec)

/-- ITS FALSE NEIGHBOUR: 'it returns false'. Refute it at one input. -/
def sigAllWrong : ChangeSpec := { name := "sigAll", fn := fun _ => fun
  | [d1, d2] => { results := [.lit (.bool false)], args := [d1, d2] }
  | _ => none }
def SigAllWrongFalsely : Prop := sigAllRow.holds Try.pinned (OpenSpec.ofChange sigAllWrong)

/-- 'interchangelaw05.SigLetters': WHATEVER THE INPUT: true; the input reads as it did. -/
def sigLettersSpec : ChangeSpec := { name := "sigLetters", fn := fun _ => fun
  | [d1, d2] => { results := [.lit (.bool true)], args := [d1, d2] }
  | _ => none }
def sigLettersRow : OpenClaim := { program := "ytbdoompjipjdbaa", sum := "ebfc4de0b8c41b76f898af7cd4ac40c90bc35046b8a7431c4f358f3cd23f5219", func := "interchange/interchangelaw05.SigLetters", spec := "sigLetters", unfollowed := true, recurses := true, apart := false }
def SigLettersSaid : Prop := sigLettersRow.holds Try.pinned (OpenSpec.ofChange sigLettersSpec)

/-- ITS FALSE NEIGHBOUR: 'it returns false'. Refute it at one input. -/
def sigLettersWrong : ChangeSpec := { name := "sigLetters", fn := fun _ => fun
  | [d1, d2] => { results := [.lit (.bool false)], args := [d1, d2] }
  | _ => none }
def SigLettersWrongFalsely : Prop := sigLettersRow.holds Try.pinned (OpenSpec.ofChange sigLettersWrong)

/-- 'interchangelaw05.SigContents': WHATEVER THE INPUT: true; the input reads as it did. -/
def sigContentsSpec : ChangeSpec := { name := "sigContents", fn := fun _ => fun
  | [d1, d2] => { results := [.lit (.bool true)], args := [d1, d2] }
  | _ => none }
def sigContentsRow : OpenClaim := { program := "ytbdoompjipjdbaa", sum := "ebfc4de0b8c41b76f898af7cd4ac40c90bc35046b8a7431c4f358f3cd23f5219", func := "interchange/interchangelaw05.SigContents", spec := "sigContents", unfollowed := true, recurses := true, apart := false }
def SigContentsSaid : Prop := sigContentsRow.holds Try.pinned (OpenSpec.ofChange sigContentsSpec)

/-- ITS FALSE NEIGHBOUR: 'it returns false'. Refute it at one input. -/
def sigContentsWrong : ChangeSpec := { name := "sigContents", fn := fun _ => fun
  | [d1, d2] => { results := [.lit (.bool false)], args := [d1, d2] }
  | _ => none }
def SigContentsWrongFalsely : Prop := sigContentsRow.holds Try.pinned (OpenSpec.ofChange sigContentsWrong)

/-- 'interchangelaw05.SigReplies': WHATEVER THE INPUT: true; the input reads as it did. -/
def sigRepliesSpec : ChangeSpec := { name := "sigReplies", fn := fun _ => fun
  | [d1, d2, d3] => { results := [.lit (.bool true)], args := [d1, d2, d3] }
  | _ => none }
def sigRepliesRow : OpenClaim := { program := "ytbdoompjipjdbaa", sum := "ebfc4de0b8c41b76f898af7cd4ac40c90bc35046b8a7431c4f358f3cd23f5219", func := "interchange/interchangelaw05.SigReplies", spec := "sigReplies", unfollowed := true, recurses := true, apart := false }
def SigRepliesSaid : Prop := sigRepliesRow.holds Try.pinned (OpenSpec.ofChange sigRepliesSpec)

/-- ITS FALSE NEIGHBOUR: 'it returns false'. Refute it at one input. -/
def sigRepliesWrong : ChangeSpec := { name := "sigReplies", fn := fun _ => fun
  | [d1, d2, d3] => { results := [.lit (.bool false)], args := [d1, d2, d3] }
  | _ => none }
def SigRepliesWrongFalsely : Prop := sigRepliesRow.holds Try.pinned (OpenSpec.ofChange sigRepliesWrong)

/-- 'interchangelaw05.SigTells': WHATEVER THE INPUT: true; the input reads as it did. -/
def sigTellsSpec : ChangeSpec := { name := "sigTells", fn := fun _ => fun
  | [d1, d2] => { results := [.lit (.bool true)], args := [d1, d2] }
  | _ => none }
def sigTellsRow : OpenClaim := { program := "ytbdoompjipjdbaa", sum := "ebfc4de0b8c41b76f898af7cd4ac40c90bc35046b8a7431c4f358f3cd23f5219", func := "interchange/interchangelaw05.SigTells", spec := "sigTells", unfollowed := true, recurses := true, apart := false }
def SigTellsSaid : Prop := sigTellsRow.holds Try.pinned (OpenSpec.ofChange sigTellsSpec)

/-- ITS FALSE NEIGHBOUR: 'it returns false'. Refute it at one input. -/
def sigTellsWrong : ChangeSpec := { name := "sigTells", fn := fun _ => fun
  | [d1, d2] => { results := [.lit (.bool false)], args := [d1, d2] }
  | _ => none }
def SigTellsWrongFalsely : Prop := sigTellsRow.holds Try.pinned (OpenSpec.ofChange sigTellsWrong)

/- THE SECOND FORM. 'bulk': how many values and letters a reading holds, each counted each time it is reached (what is shared counts as often as it is met; a slice's spare places count too). A statement '..UptoSaid' is the law's where the arguments, and the package variables that the reading takes, are together of bulk at most 1048576: NARROWER than '..Said'. Prove '..Said' where nothing that the law and all that it calls make is longer than what came in: it says more and counts as full. Else prove '..UptoSaid'. A law counts once. -/
mutual
def uptoBulk {H : Type} : DataW H → Nat
  | .lit (.string bytes) => bytes.length + 1
  | .lit _ => 1
  | .nil => 1
  | .ptr d => uptoBulk d + 1
  | .slice elems spare => uptoBulkAll elems + uptoBulkAll spare + 1
  | .agg parts => uptoBulkAll parts + 1
  | .iface _ d => uptoBulk d + 1
  | .map entries => uptoBulkEntries entries + 1
  | .held _ => 1
def uptoBulkAll {H : Type} : List (DataW H) → Nat
  | [] => 0
  | d :: r => uptoBulk d + uptoBulkAll r
def uptoBulkEntries {H : Type} : List (Lit × DataW H) → Nat
  | [] => 0
  | x :: r => uptoBulkEntry x + uptoBulkEntries r
def uptoBulkEntry {H : Type} : Lit × DataW H → Nat
  | (.string bytes, d) => bytes.length + uptoBulk d + 1
  | (_, d) => uptoBulk d + 1
 end
def uptoSmall : (H : Type) → List (DataW H) → Bool := fun _ ds => decide (uptoBulkAll ds ≤ 1048576)
def OpenSpec.upto (s : _root_.Go.ChangeSpec) : _root_.Go.OpenSpec := { _root_.Go.OpenSpec.ofChange s with cond := some uptoSmall }

/-- 'interchangelaw05.SigPairs', WHERE WHAT IT READS IS OF BULK AT MOST 1048576: true; the input reads as it did. -/
def sigPairsUptoRow : OpenClaim := { program := "ytbdoompjipjdbaa", sum := "ebfc4de0b8c41b76f898af7cd4ac40c90bc35046b8a7431c4f358f3cd23f5219", func := "interchange/interchangelaw05.SigPairs", spec := "sigPairs", unfollowed := true, recurses := true, apart := false, narrowed := true }
def SigPairsUptoSaid : Prop := sigPairsUptoRow.holds Try.pinned (OpenSpec.upto sigPairsSpec)

/-- 'interchangelaw05.SigAll', WHERE WHAT IT READS IS OF BULK AT MOST 1048576: true; the input reads as it did. -/
def sigAllUptoRow : OpenClaim := { program := "ytbdoompjipjdbaa", sum := "ebfc4de0b8c41b76f898af7cd4ac40c90bc35046b8a7431c4f358f3cd23f5219", func := "interchange/interchangelaw05.SigAll", spec := "sigAll", unfollowed := true, recurses := true, apart := false, narrowed := true }
def SigAllUptoSaid : Prop := sigAllUptoRow.holds Try.pinned (OpenSpec.upto sigAllSpec)

/-- 'interchangelaw05.SigLetters', WHERE WHAT IT READS IS OF BULK AT MOST 1048576: true; the input reads as it did. -/
def sigLettersUptoRow : OpenClaim := { program := "ytbdoompjipjdbaa", sum := "ebfc4de0b8c41b76f898af7cd4ac40c90bc35046b8a7431c4f358f3cd23f5219", func := "interchange/interchangelaw05.SigLetters", spec := "sigLetters", unfollowed := true, recurses := true, apart := false, narrowed := true }
def SigLettersUptoSaid : Prop := sigLettersUptoRow.holds Try.pinned (OpenSpec.upto sigLettersSpec)

/-- 'interchangelaw05.SigContents', WHERE WHAT IT READS IS OF BULK AT MOST 1048576: true; the input reads as it did. -/
def sigContentsUptoRow : OpenClaim := { program := "ytbdoompjipjdbaa", sum := "ebfc4de0b8c41b76f898af7cd4ac40c90bc35046b8a7431c4f358f3cd23f5219", func := "interchange/interchangelaw05.SigContents", spec := "sigContents", unfollowed := true, recurses := true, apart := false, narrowed := true }
def SigContentsUptoSaid : Prop := sigContentsUptoRow.holds Try.pinned (OpenSpec.upto sigContentsSpec)

/-- 'interchangelaw05.SigReplies', WHERE WHAT IT READS IS OF BULK AT MOST 1048576: true; the input reads as it did. -/
def sigRepliesUptoRow : OpenClaim := { program := "ytbdoompjipjdbaa", sum := "ebfc4de0b8c41b76f898af7cd4ac40c90bc35046b8a7431c4f358f3cd23f5219", func := "interchange/interchangelaw05.SigReplies", spec := "sigReplies", unfollowed := true, recurses := true, apart := false, narrowed := true }
def SigRepliesUptoSaid : Prop := sigRepliesUptoRow.holds Try.pinned (OpenSpec.upto sigRepliesSpec)

/-- 'interchangelaw05.SigTells', WHERE WHAT IT READS IS OF BULK AT MOST 1048576: true; the input reads as it did. -/
def sigTellsUptoRow : OpenClaim := { program := "ytbdoompjipjdbaa", sum := "ebfc4de0b8c41b76f898af7cd4ac40c90bc35046b8a7431c4f358f3cd23f5219", func := "interchange/interchangelaw05.SigTells", spec := "sigTells", unfollowed := true, recurses := true, apart := false, narrowed := true }
def SigTellsUptoSaid : Prop := sigTellsUptoRow.holds Try.pinned (OpenSpec.upto sigTellsSpec)

end Rows
end Go.Proofs.Ytbdoompjipjdbaa
