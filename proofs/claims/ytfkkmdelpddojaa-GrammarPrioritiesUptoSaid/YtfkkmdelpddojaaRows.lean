/-
  NARROWER THAN 'FOR EVERY INPUT', by the rows' own cells (each row's printed sentence says how): GrammarYields: loops.
  DERIVED. THE GIVEN ROWS OF THIS SEAT. 5 by the template 'for every input the law returns true; each argument reads behind the call as it read before'; 0 by the template 'total and deterministic' (their statements: YtfkkmdelpddojaaTotals.lean).
  GIVEN WITH THE SEED: the statements are not yours to turn. If you find one false, say at which input.
  Laid BY PROGRAM, IN A SANDBOX (cutbox-rows.mjs): the forced cells as the released guide's own fill.sh prints them over the translation 6fb4cc210025a215… (all of the seat's roots in one cut). By AI agents, Wed Nov 11 2026. No macro, syntax, notation, axiom, sorry.
-/
import Derived.Test.YtfkkmdelpddojaaChecked
import GoSem.Claim
import GoSem.ClaimJoined
import GoSem.ClaimMapViews
import Derived.JoinedTies
import Derived.KernelRfl
namespace Go.Proofs.Ytfkkmdelpddojaa
/- THE CELL 'sum', in the pinned program and in every row, IS THE sha256 OF THE DUMP (.gsa) THAT YtfkkmdelpddojaaProg.lean LOADS. Nothing in Lean hashes anything: it is a label: what it is worth is what the hold of that sum in a sandbox is worth. -/
noncomputable def Try.pinned : Pinned := { name := "ytfkkmdelpddojaa", sum := "6fb4cc210025a21542f48ac6dafbc8ffb3e4453b089b82ccc8ff4be855dfec69", checked := Try.checked }
namespace Rows
def none {H : Type} : Left H := { results := [], args := [] }

/-- 'triforiumlaw15.GrammarParses': WHATEVER THE INPUT: true; the input reads as it did. -/
def grammarParsesSpec : ChangeSpec := { name := "grammarParses", fn := fun _ => fun
  | [d1, d2, d3, d4, d5] => { results := [.lit (.bool true)], args := [d1, d2, d3, d4, d5] }
  | _ => none }
def grammarParsesRow : OpenClaim := { program := "ytfkkmdelpddojaa", sum := "6fb4cc210025a21542f48ac6dafbc8ffb3e4453b089b82ccc8ff4be855dfec69", func := "triforium/triforiumlaw15.GrammarParses", spec := "grammarParses", unfollowed := true, recurses := true, plainKeys := false, apart := false }
def GrammarParsesSaid : Prop := grammarParsesRow.holds Try.pinned (OpenSpec.ofChange grammarParsesSpec)

/-- ITS FALSE NEIGHBOUR: 'it returns false'. Refute it at one input. -/
def grammarParsesWrong : ChangeSpec := { name := "grammarParses", fn := fun _ => fun
  | [d1, d2, d3, d4, d5] => { results := [.lit (.bool false)], args := [d1, d2, d3, d4, d5] }
  | _ => none }
def GrammarParsesWrongFalsely : Prop := grammarParsesRow.holds Try.pinned (OpenSpec.ofChange grammarParsesWrong)

/-- 'triforiumlaw15.GrammarPriorities': WHATEVER THE INPUT: true; the input reads as it did. -/
def grammarPrioritiesSpec : ChangeSpec := { name := "grammarPriorities", fn := fun _ => fun
  | [d1, d2, d3, d4, d5, d6] => { results := [.lit (.bool true)], args := [d1, d2, d3, d4, d5, d6] }
  | _ => none }
def grammarPrioritiesRow : OpenClaim := { program := "ytfkkmdelpddojaa", sum := "6fb4cc210025a21542f48ac6dafbc8ffb3e4453b089b82ccc8ff4be855dfec69", func := "triforium/triforiumlaw15.GrammarPriorities", spec := "grammarPriorities", unfollowed := true, recurses := true, plainKeys := false, apart := false }
def GrammarPrioritiesSaid : Prop := grammarPrioritiesRow.holds Try.pinned (OpenSpec.ofChange grammarPrioritiesSpec)

/-- ITS FALSE NEIGHBOUR: 'it returns false'. Refute it at one input. -/
def grammarPrioritiesWrong : ChangeSpec := { name := "grammarPriorities", fn := fun _ => fun
  | [d1, d2, d3, d4, d5, d6] => { results := [.lit (.bool false)], args := [d1, d2, d3, d4, d5, d6] }
  | _ => none }
def GrammarPrioritiesWrongFalsely : Prop := grammarPrioritiesRow.holds Try.pinned (OpenSpec.ofChange grammarPrioritiesWrong)

/-- 'triforiumlaw15.GrammarNext': WHATEVER THE INPUT: true; the input reads as it did. -/
def grammarNextSpec : ChangeSpec := { name := "grammarNext", fn := fun _ => fun
  | [d1, d2, d3, d4] => { results := [.lit (.bool true)], args := [d1, d2, d3, d4] }
  | _ => none }
def grammarNextRow : OpenClaim := { program := "ytfkkmdelpddojaa", sum := "6fb4cc210025a21542f48ac6dafbc8ffb3e4453b089b82ccc8ff4be855dfec69", func := "triforium/triforiumlaw15.GrammarNext", spec := "grammarNext", unfollowed := true, recurses := true, plainKeys := false, apart := false }
def GrammarNextSaid : Prop := grammarNextRow.holds Try.pinned (OpenSpec.ofChange grammarNextSpec)

/-- ITS FALSE NEIGHBOUR: 'it returns false'. Refute it at one input. -/
def grammarNextWrong : ChangeSpec := { name := "grammarNext", fn := fun _ => fun
  | [d1, d2, d3, d4] => { results := [.lit (.bool false)], args := [d1, d2, d3, d4] }
  | _ => none }
def GrammarNextWrongFalsely : Prop := grammarNextRow.holds Try.pinned (OpenSpec.ofChange grammarNextWrong)

/-- 'triforiumlaw15.GrammarTrees': WHATEVER THE INPUT: true; the input reads as it did. -/
def grammarTreesSpec : ChangeSpec := { name := "grammarTrees", fn := fun _ => fun
  | [d1, d2, d3, d4] => { results := [.lit (.bool true)], args := [d1, d2, d3, d4] }
  | _ => none }
def grammarTreesRow : OpenClaim := { program := "ytfkkmdelpddojaa", sum := "6fb4cc210025a21542f48ac6dafbc8ffb3e4453b089b82ccc8ff4be855dfec69", func := "triforium/triforiumlaw15.GrammarTrees", spec := "grammarTrees", unfollowed := true, recurses := true, plainKeys := false, apart := false }
def GrammarTreesSaid : Prop := grammarTreesRow.holds Try.pinned (OpenSpec.ofChange grammarTreesSpec)

/-- ITS FALSE NEIGHBOUR: 'it returns false'. Refute it at one input. -/
def grammarTreesWrong : ChangeSpec := { name := "grammarTrees", fn := fun _ => fun
  | [d1, d2, d3, d4] => { results := [.lit (.bool false)], args := [d1, d2, d3, d4] }
  | _ => none }
def GrammarTreesWrongFalsely : Prop := grammarTreesRow.holds Try.pinned (OpenSpec.ofChange grammarTreesWrong)

/-- 'triforiumlaw15.GrammarYields': WHATEVER THE INPUT: true; the input reads as it did. -/
def grammarYieldsSpec : ChangeSpec := { name := "grammarYields", fn := fun _ => fun
  | [d1, d2, d3, d4, d5] => { results := [.lit (.bool true)], args := [d1, d2, d3, d4, d5] }
  | _ => none }
def grammarYieldsRow : OpenClaim := { program := "ytfkkmdelpddojaa", sum := "6fb4cc210025a21542f48ac6dafbc8ffb3e4453b089b82ccc8ff4be855dfec69", func := "triforium/triforiumlaw15.GrammarYields", spec := "grammarYields", unfollowed := true, recurses := true, loops := true, plainKeys := false, apart := false }
def GrammarYieldsSaid : Prop := grammarYieldsRow.holds Try.pinned (OpenSpec.ofChange grammarYieldsSpec)

/-- ITS FALSE NEIGHBOUR: 'it returns false'. Refute it at one input. -/
def grammarYieldsWrong : ChangeSpec := { name := "grammarYields", fn := fun _ => fun
  | [d1, d2, d3, d4, d5] => { results := [.lit (.bool false)], args := [d1, d2, d3, d4, d5] }
  | _ => none }
def GrammarYieldsWrongFalsely : Prop := grammarYieldsRow.holds Try.pinned (OpenSpec.ofChange grammarYieldsWrong)

/- THE SECOND FORM. 'bulk': how many values and letters a reading holds, each counted each time it is reached (what is shared counts as often as it is met; a slice's spare places count too). A statement '..UptoSaid' is the law's where the arguments, and the package variables that the reading takes, are together of bulk at most 1048576: NARROWER than '..Said'. Prove '..Said' where nothing that the law and all that it calls make is longer than what came in: it says more and counts as full. Else prove '..UptoSaid'. A law counts once. -/
mutual
def uptoBulk {H : Type} : DataW H → Nat
  | .lit (.string bytes) => bytes.length + 1
  | .lit _ => 1
  | .nil => 1
  | .ptr d => uptoBulk d + 1
  | .slice elems spare => uptoBulkAll elems + uptoBulkAll spare + 1
  | .agg parts => uptoBulkAll parts + 1
  | .iface _ d => uptoBulk d + 1
  | .map entries => uptoBulkEntries entries + 1
  | .held _ => 1
def uptoBulkAll {H : Type} : List (DataW H) → Nat
  | [] => 0
  | d :: r => uptoBulk d + uptoBulkAll r
def uptoBulkEntries {H : Type} : List (Lit × DataW H) → Nat
  | [] => 0
  | x :: r => uptoBulkEntry x + uptoBulkEntries r
def uptoBulkEntry {H : Type} : Lit × DataW H → Nat
  | (.string bytes, d) => bytes.length + uptoBulk d + 1
  | (_, d) => uptoBulk d + 1
 end
def uptoSmall : (H : Type) → List (DataW H) → Bool := fun _ ds => decide (uptoBulkAll ds ≤ 1048576)
def OpenSpec.upto (s : _root_.Go.ChangeSpec) : _root_.Go.OpenSpec := { _root_.Go.OpenSpec.ofChange s with cond := some uptoSmall }

/-- 'triforiumlaw15.GrammarParses', WHERE WHAT IT READS IS OF BULK AT MOST 1048576: true; the input reads as it did. -/
def grammarParsesUptoRow : OpenClaim := { program := "ytfkkmdelpddojaa", sum := "6fb4cc210025a21542f48ac6dafbc8ffb3e4453b089b82ccc8ff4be855dfec69", func := "triforium/triforiumlaw15.GrammarParses", spec := "grammarParses", unfollowed := true, recurses := true, plainKeys := false, apart := false, narrowed := true }
def GrammarParsesUptoSaid : Prop := grammarParsesUptoRow.holds Try.pinned (OpenSpec.upto grammarParsesSpec)

/-- 'triforiumlaw15.GrammarPriorities', WHERE WHAT IT READS IS OF BULK AT MOST 1048576: true; the input reads as it did. -/
def grammarPrioritiesUptoRow : OpenClaim := { program := "ytfkkmdelpddojaa", sum := "6fb4cc210025a21542f48ac6dafbc8ffb3e4453b089b82ccc8ff4be855dfec69", func := "triforium/triforiumlaw15.GrammarPriorities", spec := "grammarPriorities", unfollowed := true, recurses := true, plainKeys := false, apart := false, narrowed := true }
def GrammarPrioritiesUptoSaid : Prop := grammarPrioritiesUptoRow.holds Try.pinned (OpenSpec.upto grammarPrioritiesSpec)

/-- 'triforiumlaw15.GrammarNext', WHERE WHAT IT READS IS OF BULK AT MOST 1048576: true; the input reads as it did. -/
def grammarNextUptoRow : OpenClaim := { program := "ytfkkmdelpddojaa", sum := "6fb4cc210025a21542f48ac6dafbc8ffb3e4453b089b82ccc8ff4be855dfec69", func := "triforium/triforiumlaw15.GrammarNext", spec := "grammarNext", unfollowed := true, recurses := true, plainKeys := false, apart := false, narrowed := true }
def GrammarNextUptoSaid : Prop := grammarNextUptoRow.holds Try.pinned (OpenSpec.upto grammarNextSpec)

/-- 'triforiumlaw15.GrammarTrees', WHERE WHAT IT READS IS OF BULK AT MOST 1048576: true; the input reads as it did. -/
def grammarTreesUptoRow : OpenClaim := { program := "ytfkkmdelpddojaa", sum := "6fb4cc210025a21542f48ac6dafbc8ffb3e4453b089b82ccc8ff4be855dfec69", func := "triforium/triforiumlaw15.GrammarTrees", spec := "grammarTrees", unfollowed := true, recurses := true, plainKeys := false, apart := false, narrowed := true }
def GrammarTreesUptoSaid : Prop := grammarTreesUptoRow.holds Try.pinned (OpenSpec.upto grammarTreesSpec)

/-- 'triforiumlaw15.GrammarYields', WHERE WHAT IT READS IS OF BULK AT MOST 1048576: true; the input reads as it did. -/
def grammarYieldsUptoRow : OpenClaim := { program := "ytfkkmdelpddojaa", sum := "6fb4cc210025a21542f48ac6dafbc8ffb3e4453b089b82ccc8ff4be855dfec69", func := "triforium/triforiumlaw15.GrammarYields", spec := "grammarYields", unfollowed := true, recurses := true, loops := true, plainKeys := false, apart := false, narrowed := true }
def GrammarYieldsUptoSaid : Prop := grammarYieldsUptoRow.holds Try.pinned (OpenSpec.upto grammarYieldsSpec)

end Rows
end Go.Proofs.Ytfkkmdelpddojaa
