/-
  NARROWER THAN 'FOR EVERY INPUT', by the rows' own cells (each row's printed sentence says how): EvaluateClauses: loops · EvaluateMatches: loops · EvaluateStep: loops · EvaluateRoads: loops.
  DERIVED. THE GIVEN ROWS OF THIS SEAT. 4 by the template 'for every input the law returns true; each argument reads behind the call as it read before'; 0 by the template 'total and deterministic' (their statements: YtglpmlbbaedbiaaTotals.lean).
  GIVEN WITH THE SEED: the statements are not yours to turn. If you find one false, say at which input.
  Laid BY PROGRAM, IN A SANDBOX (cutbox-rows.mjs): the forced cells as the released guide's own fill.sh prints them over the translation 4455c363e891123c… (all of the seat's roots in one cut). By AI agents, Wed Nov 11 2026. No macro, syntax, notation, axiom, sorry.
-/
import Derived.Test.YtglpmlbbaedbiaaChecked
import GoSem.Claim
import GoSem.ClaimJoined
import GoSem.ClaimMapViews
import Derived.JoinedTies
import Derived.KernelRfl
namespace Go.Proofs.Ytglpmlbbaedbiaa
/- THE CELL 'sum', in the pinned program and in every row, IS THE sha256 OF THE DUMP (.gsa) THAT YtglpmlbbaedbiaaProg.lean LOADS. Nothing in Lean hashes anything: it is a label: what it is worth is what the hold of that sum in a sandbox is worth. -/
noncomputable def Try.pinned : Pinned := { name := "ytglpmlbbaedbiaa", sum := "4455c363e891123c15f4632cd7fe28f98d21da94a6640395cbae430e445afaa5", checked := Try.checked }
namespace Rows
def none {H : Type} : Left H := { results := [], args := [] }

/-- 'triforiumlaw40.EvaluateClauses': WHATEVER THE INPUT: true; the input reads as it did. -/
def evaluateClausesSpec : ChangeSpec := { name := "evaluateClauses", fn := fun _ => fun
  | [d1, d2, d3] => { results := [.lit (.bool true)], args := [d1, d2, d3] }
  | _ => none }
def evaluateClausesRow : OpenClaim := { program := "ytglpmlbbaedbiaa", sum := "4455c363e891123c15f4632cd7fe28f98d21da94a6640395cbae430e445afaa5", func := "triforium/triforiumlaw40.EvaluateClauses", spec := "evaluateClauses", unfollowed := true, recurses := true, loops := true, apart := false }
def EvaluateClausesSaid : Prop := evaluateClausesRow.holds Try.pinned (OpenSpec.ofChange evaluateClausesSpec)

/-- ITS FALSE NEIGHBOUR: 'it returns false'. Refute it at one input. -/
def evaluateClausesWrong : ChangeSpec := { name := "evaluateClauses", fn := fun _ => fun
  | [d1, d2, d3] => { results := [.lit (.bool false)], args := [d1, d2, d3] }
  | _ => none }
def EvaluateClausesWrongFalsely : Prop := evaluateClausesRow.holds Try.pinned (OpenSpec.ofChange evaluateClausesWrong)

/-- 'triforiumlaw40.EvaluateMatches': WHATEVER THE INPUT: true; the input reads as it did. -/
def evaluateMatchesSpec : ChangeSpec := { name := "evaluateMatches", fn := fun _ => fun
  | [d1, d2, d3] => { results := [.lit (.bool true)], args := [d1, d2, d3] }
  | _ => none }
def evaluateMatchesRow : OpenClaim := { program := "ytglpmlbbaedbiaa", sum := "4455c363e891123c15f4632cd7fe28f98d21da94a6640395cbae430e445afaa5", func := "triforium/triforiumlaw40.EvaluateMatches", spec := "evaluateMatches", unfollowed := true, recurses := true, loops := true, apart := false }
def EvaluateMatchesSaid : Prop := evaluateMatchesRow.holds Try.pinned (OpenSpec.ofChange evaluateMatchesSpec)

/-- ITS FALSE NEIGHBOUR: 'it returns false'. Refute it at one input. -/
def evaluateMatchesWrong : ChangeSpec := { name := "evaluateMatches", fn := fun _ => fun
  | [d1, d2, d3] => { results := [.lit (.bool false)], args := [d1, d2, d3] }
  | _ => none }
def EvaluateMatchesWrongFalsely : Prop := evaluateMatchesRow.holds Try.pinned (OpenSpec.ofChange evaluateMatchesWrong)

/-- 'triforiumlaw40.EvaluateStep': WHATEVER THE INPUT: true; the input reads as it did. -/
def evaluateStepSpec : ChangeSpec := { name := "evaluateStep", fn := fun _ => fun
  | [d1, d2] => { results := [.lit (.bool true)], args := [d1, d2] }
  | _ => none }
def evaluateStepRow : OpenClaim := { program := "ytglpmlbbaedbiaa", sum := "4455c363e891123c15f4632cd7fe28f98d21da94a6640395cbae430e445afaa5", func := "triforium/triforiumlaw40.EvaluateStep", spec := "evaluateStep", unfollowed := true, recurses := true, loops := true, apart := false }
def EvaluateStepSaid : Prop := evaluateStepRow.holds Try.pinned (OpenSpec.ofChange evaluateStepSpec)

/-- ITS FALSE NEIGHBOUR: 'it returns false'. Refute it at one input. -/
def evaluateStepWrong : ChangeSpec := { name := "evaluateStep", fn := fun _ => fun
  | [d1, d2] => { results := [.lit (.bool false)], args := [d1, d2] }
  | _ => none }
def EvaluateStepWrongFalsely : Prop := evaluateStepRow.holds Try.pinned (OpenSpec.ofChange evaluateStepWrong)

/-- 'triforiumlaw40.EvaluateRoads': WHATEVER THE INPUT: true; the input reads as it did. -/
def evaluateRoadsSpec : ChangeSpec := { name := "evaluateRoads", fn := fun _ => fun
  | [d1, d2] => { results := [.lit (.bool true)], args := [d1, d2] }
  | _ => none }
def evaluateRoadsRow : OpenClaim := { program := "ytglpmlbbaedbiaa", sum := "4455c363e891123c15f4632cd7fe28f98d21da94a6640395cbae430e445afaa5", func := "triforium/triforiumlaw40.EvaluateRoads", spec := "evaluateRoads", unfollowed := true, recurses := true, loops := true, apart := false }
def EvaluateRoadsSaid : Prop := evaluateRoadsRow.holds Try.pinned (OpenSpec.ofChange evaluateRoadsSpec)

/-- ITS FALSE NEIGHBOUR: 'it returns false'. Refute it at one input. -/
def evaluateRoadsWrong : ChangeSpec := { name := "evaluateRoads", fn := fun _ => fun
  | [d1, d2] => { results := [.lit (.bool false)], args := [d1, d2] }
  | _ => none }
def EvaluateRoadsWrongFalsely : Prop := evaluateRoadsRow.holds Try.pinned (OpenSpec.ofChange evaluateRoadsWrong)

/- THE SECOND FORM. 'bulk': how many values and letters a reading holds, each counted each time it is reached (what is shared counts as often as it is met; a slice's spare places count too). A statement '..UptoSaid' is the law's where the arguments, and the package variables that the reading takes, are together of bulk at most 1048576: NARROWER than '..Said'. Prove '..Said' where nothing that the law and all that it calls make is longer than what came in: it says more and counts as full. Else prove '..UptoSaid'. A law counts once. -/
mutual
def uptoBulk {H : Type} : DataW H → Nat
  | .lit (.string bytes) => bytes.length + 1
  | .lit _ => 1
  | .nil => 1
  | .ptr d => uptoBulk d + 1
  | .slice elems spare => uptoBulkAll elems + uptoBulkAll spare + 1
  | .agg parts => uptoBulkAll parts + 1
  | .iface _ d => uptoBulk d + 1
  | .map entries => uptoBulkEntries entries + 1
  | .held _ => 1
def uptoBulkAll {H : Type} : List (DataW H) → Nat
  | [] => 0
  | d :: r => uptoBulk d + uptoBulkAll r
def uptoBulkEntries {H : Type} : List (Lit × DataW H) → Nat
  | [] => 0
  | x :: r => uptoBulkEntry x + uptoBulkEntries r
def uptoBulkEntry {H : Type} : Lit × DataW H → Nat
  | (.string bytes, d) => bytes.length + uptoBulk d + 1
  | (_, d) => uptoBulk d + 1
 end
def uptoSmall : (H : Type) → List (DataW H) → Bool := fun _ ds => decide (uptoBulkAll ds ≤ 1048576)
def OpenSpec.upto (s : _root_.Go.ChangeSpec) : _root_.Go.OpenSpec := { _root_.Go.OpenSpec.ofChange s with cond := some uptoSmall }

/-- 'triforiumlaw40.EvaluateClauses', WHERE WHAT IT READS IS OF BULK AT MOST 1048576: true; the input reads as it did. -/
def evaluateClausesUptoRow : OpenClaim := { program := "ytglpmlbbaedbiaa", sum := "4455c363e891123c15f4632cd7fe28f98d21da94a6640395cbae430e445afaa5", func := "triforium/triforiumlaw40.EvaluateClauses", spec := "evaluateClauses", unfollowed := true, recurses := true, loops := true, apart := false, narrowed := true }
def EvaluateClausesUptoSaid : Prop := evaluateClausesUptoRow.holds Try.pinned (OpenSpec.upto evaluateClausesSpec)

/-- 'triforiumlaw40.EvaluateMatches', WHERE WHAT IT READS IS OF BULK AT MOST 1048576: true; the input reads as it did. -/
def evaluateMatchesUptoRow : OpenClaim := { program := "ytglpmlbbaedbiaa", sum := "4455c363e891123c15f4632cd7fe28f98d21da94a6640395cbae430e445afaa5", func := "triforium/triforiumlaw40.EvaluateMatches", spec := "evaluateMatches", unfollowed := true, recurses := true, loops := true, apart := false, narrowed := true }
def EvaluateMatchesUptoSaid : Prop := evaluateMatchesUptoRow.holds Try.pinned (OpenSpec.upto evaluateMatchesSpec)

/-- 'triforiumlaw40.EvaluateStep', WHERE WHAT IT READS IS OF BULK AT MOST 1048576: true; the input reads as it did. -/
def evaluateStepUptoRow : OpenClaim := { program := "ytglpmlbbaedbiaa", sum := "4455c363e891123c15f4632cd7fe28f98d21da94a6640395cbae430e445afaa5", func := "triforium/triforiumlaw40.EvaluateStep", spec := "evaluateStep", unfollowed := true, recurses := true, loops := true, apart := false, narrowed := true }
def EvaluateStepUptoSaid : Prop := evaluateStepUptoRow.holds Try.pinned (OpenSpec.upto evaluateStepSpec)

/-- 'triforiumlaw40.EvaluateRoads', WHERE WHAT IT READS IS OF BULK AT MOST 1048576: true; the input reads as it did. -/
def evaluateRoadsUptoRow : OpenClaim := { program := "ytglpmlbbaedbiaa", sum := "4455c363e891123c15f4632cd7fe28f98d21da94a6640395cbae430e445afaa5", func := "triforium/triforiumlaw40.EvaluateRoads", spec := "evaluateRoads", unfollowed := true, recurses := true, loops := true, apart := false, narrowed := true }
def EvaluateRoadsUptoSaid : Prop := evaluateRoadsUptoRow.holds Try.pinned (OpenSpec.upto evaluateRoadsSpec)

end Rows
end Go.Proofs.Ytglpmlbbaedbiaa
