/- The walks of some functions: what they compute. -/
import Derived.Test.YteklnflddoekfaaDoorRCode2
namespace Go.Abs.Sig
open Go.RowKit Go.Abs
set_option linter.unusedSimpArgs false
set_option linter.unusedVariables false
set_option maxRecDepth 8000
attribute [local irreducible] StCall StYield WPc Weak IterOf Call2

def kv (b n : Int) : V × V := (.int .u8 b, .int .i64 n)
def wdsL : List (V × V) := [kv 111 1, kv 115 2, kv 108 4, kv 113 8, kv 98 0]
def txsL : List (V × V) := [kv 83 255, kv 76 131072, kv 84 (-1)]

theorem widths_ct (G : Nat → Option (List V)) (H : Heap) : Call2 Go.Proofs.Tryd.prog G 48 [] H fun v H' => v = .mp H.length ∧ H' = H ++ [some (.map wdsL 5)] := by
  refine stCall2 Go.Proofs.Tryd.func48 rfl (by decide) ?_
  iterate 8 (conv => whnf; try simp only [List.append_assoc, List.cons_append, List.nil_append, List.length_append, List.length_cons, List.length_nil, Nat.zero_add, Nat.add_assoc, Nat.reduceAdd, ga0, ga1, ga2, ga3, ga4, ga5, sa0, sa1, sa2, sa3, sa4, sa5, S2.setH_H, List.all_cons, List.all_nil, isDefd, nodupB, List.any_nil, Bool.and_true, Bool.not_false, List.foldl_cons, List.foldl_nil])
  exact ⟨rfl, rfl⟩

theorem texts_ct (G : Nat → Option (List V)) (H : Heap) : Call2 Go.Proofs.Tryd.prog G 65 [] H fun v H' => v = .mp H.length ∧ H' = H ++ [some (.map txsL 3)] := by
  refine stCall2 Go.Proofs.Tryd.func65 rfl (by decide) ?_
  iterate 6 (conv => whnf; try simp only [List.append_assoc, List.cons_append, List.nil_append, List.length_append, List.length_cons, List.length_nil, Nat.zero_add, Nat.add_assoc, Nat.reduceAdd, ga0, ga1, ga2, ga3, ga4, ga5, sa0, sa1, sa2, sa3, sa4, sa5, S2.setH_H, List.all_cons, List.all_nil, isDefd, nodupB, List.any_nil, Bool.and_true, Bool.not_false, List.foldl_cons, List.foldl_nil])
  exact ⟨rfl, rfl⟩
end Go.Abs.Sig
