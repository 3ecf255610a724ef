/-
  No cell of these rows narrows 'for every input' (looked for: loops, veiled, ifaces, maps, wideKeys, modest, calm, conditions, laid).
  DERIVED. THE GIVEN ROWS OF THIS SEAT. 4 by the template 'for every input the law returns true; each argument reads behind the call as it read before'; 0 by the template 'total and deterministic' (their statements: YtefpjfpelicedaaTotals.lean).
  GIVEN WITH THE SEED: the statements are not yours to turn. If you find one false, say at which input.
  Laid BY PROGRAM, IN A SANDBOX (cutbox-rows.mjs): the forced cells as the released guide's own fill.sh prints them over the translation 82d40513d95abe33… (all of the seat's roots in one cut). By AI agents, Wed Nov 11 2026. No macro, syntax, notation, axiom, sorry.
-/
import Derived.Test.YtefpjfpelicedaaChecked
import GoSem.Claim
import GoSem.ClaimJoined
import GoSem.ClaimMapViews
import Derived.JoinedTies
import Derived.KernelRfl
namespace Go.Proofs.Ytefpjfpelicedaa
/- THE CELL 'sum', in the pinned program and in every row, IS THE sha256 OF THE DUMP (.gsa) THAT YtefpjfpelicedaaProg.lean LOADS. Nothing in Lean hashes anything: it is a label: what it is worth is what the hold of that sum in a sandbox is worth. -/
noncomputable def Try.pinned : Pinned := { name := "ytefpjfpelicedaa", sum := "82d40513d95abe33759b42bde1a66fa14068dc4f65d41d7569bdae6462108802", checked := Try.checked }
namespace Rows
def none {H : Type} : Left H := { results := [], args := [] }

/-- 'triforiumlaw24.ArithRefutes': WHATEVER THE INPUT: true; the input reads as it did. -/
def arithRefutesSpec : ChangeSpec := { name := "arithRefutes", fn := fun _ => fun
  | [d1, d2] => { results := [.lit (.bool true)], args := [d1, d2] }
  | _ => none }
def arithRefutesRow : OpenClaim := { program := "ytefpjfpelicedaa", sum := "82d40513d95abe33759b42bde1a66fa14068dc4f65d41d7569bdae6462108802", func := "triforium/triforiumlaw24.ArithRefutes", spec := "arithRefutes", unfollowed := true, recurses := true, plainKeys := false, apart := false }
def ArithRefutesSaid : Prop := arithRefutesRow.holds Try.pinned (OpenSpec.ofChange arithRefutesSpec)

/-- ITS FALSE NEIGHBOUR: 'it returns false'. Refute it at one input. -/
def arithRefutesWrong : ChangeSpec := { name := "arithRefutes", fn := fun _ => fun
  | [d1, d2] => { results := [.lit (.bool false)], args := [d1, d2] }
  | _ => none }
def ArithRefutesWrongFalsely : Prop := arithRefutesRow.holds Try.pinned (OpenSpec.ofChange arithRefutesWrong)

/-- 'triforiumlaw24.ArithMore': WHATEVER THE INPUT: true; the input reads as it did. -/
def arithMoreSpec : ChangeSpec := { name := "arithMore", fn := fun _ => fun
  | [d1, d2, d3, d4] => { results := [.lit (.bool true)], args := [d1, d2, d3, d4] }
  | _ => none }
def arithMoreRow : OpenClaim := { program := "ytefpjfpelicedaa", sum := "82d40513d95abe33759b42bde1a66fa14068dc4f65d41d7569bdae6462108802", func := "triforium/triforiumlaw24.ArithMore", spec := "arithMore", unfollowed := true, recurses := true, plainKeys := false, apart := false }
def ArithMoreSaid : Prop := arithMoreRow.holds Try.pinned (OpenSpec.ofChange arithMoreSpec)

/-- ITS FALSE NEIGHBOUR: 'it returns false'. Refute it at one input. -/
def arithMoreWrong : ChangeSpec := { name := "arithMore", fn := fun _ => fun
  | [d1, d2, d3, d4] => { results := [.lit (.bool false)], args := [d1, d2, d3, d4] }
  | _ => none }
def ArithMoreWrongFalsely : Prop := arithMoreRow.holds Try.pinned (OpenSpec.ofChange arithMoreWrong)

/-- 'triforiumlaw24.ArithSound': WHATEVER THE INPUT: true; the input reads as it did. -/
def arithSoundSpec : ChangeSpec := { name := "arithSound", fn := fun _ => fun
  | [d1, d2, d3] => { results := [.lit (.bool true)], args := [d1, d2, d3] }
  | _ => none }
def arithSoundRow : OpenClaim := { program := "ytefpjfpelicedaa", sum := "82d40513d95abe33759b42bde1a66fa14068dc4f65d41d7569bdae6462108802", func := "triforium/triforiumlaw24.ArithSound", spec := "arithSound", unfollowed := true, recurses := true, plainKeys := false, apart := false }
def ArithSoundSaid : Prop := arithSoundRow.holds Try.pinned (OpenSpec.ofChange arithSoundSpec)

/-- ITS FALSE NEIGHBOUR: 'it returns false'. Refute it at one input. -/
def arithSoundWrong : ChangeSpec := { name := "arithSound", fn := fun _ => fun
  | [d1, d2, d3] => { results := [.lit (.bool false)], args := [d1, d2, d3] }
  | _ => none }
def ArithSoundWrongFalsely : Prop := arithSoundRow.holds Try.pinned (OpenSpec.ofChange arithSoundWrong)

/-- 'triforiumlaw24.ArithDerives': WHATEVER THE INPUT: true; the input reads as it did. -/
def arithDerivesSpec : ChangeSpec := { name := "arithDerives", fn := fun _ => fun
  | [d1, d2, d3, d4] => { results := [.lit (.bool true)], args := [d1, d2, d3, d4] }
  | _ => none }
def arithDerivesRow : OpenClaim := { program := "ytefpjfpelicedaa", sum := "82d40513d95abe33759b42bde1a66fa14068dc4f65d41d7569bdae6462108802", func := "triforium/triforiumlaw24.ArithDerives", spec := "arithDerives", unfollowed := true, recurses := true, plainKeys := false, apart := false }
def ArithDerivesSaid : Prop := arithDerivesRow.holds Try.pinned (OpenSpec.ofChange arithDerivesSpec)

/-- ITS FALSE NEIGHBOUR: 'it returns false'. Refute it at one input. -/
def arithDerivesWrong : ChangeSpec := { name := "arithDerives", fn := fun _ => fun
  | [d1, d2, d3, d4] => { results := [.lit (.bool false)], args := [d1, d2, d3, d4] }
  | _ => none }
def ArithDerivesWrongFalsely : Prop := arithDerivesRow.holds Try.pinned (OpenSpec.ofChange arithDerivesWrong)

/- THE SECOND FORM. 'bulk': how many values and letters a reading holds, each counted each time it is reached (what is shared counts as often as it is met; a slice's spare places count too). A statement '..UptoSaid' is the law's where the arguments, and the package variables that the reading takes, are together of bulk at most 1048576: NARROWER than '..Said'. Prove '..Said' where nothing that the law and all that it calls make is longer than what came in: it says more and counts as full. Else prove '..UptoSaid'. A law counts once. -/
mutual
def uptoBulk {H : Type} : DataW H → Nat
  | .lit (.string bytes) => bytes.length + 1
  | .lit _ => 1
  | .nil => 1
  | .ptr d => uptoBulk d + 1
  | .slice elems spare => uptoBulkAll elems + uptoBulkAll spare + 1
  | .agg parts => uptoBulkAll parts + 1
  | .iface _ d => uptoBulk d + 1
  | .map entries => uptoBulkEntries entries + 1
  | .held _ => 1
def uptoBulkAll {H : Type} : List (DataW H) → Nat
  | [] => 0
  | d :: r => uptoBulk d + uptoBulkAll r
def uptoBulkEntries {H : Type} : List (Lit × DataW H) → Nat
  | [] => 0
  | x :: r => uptoBulkEntry x + uptoBulkEntries r
def uptoBulkEntry {H : Type} : Lit × DataW H → Nat
  | (.string bytes, d) => bytes.length + uptoBulk d + 1
  | (_, d) => uptoBulk d + 1
 end
def uptoSmall : (H : Type) → List (DataW H) → Bool := fun _ ds => decide (uptoBulkAll ds ≤ 1048576)
def OpenSpec.upto (s : _root_.Go.ChangeSpec) : _root_.Go.OpenSpec := { _root_.Go.OpenSpec.ofChange s with cond := some uptoSmall }

/-- 'triforiumlaw24.ArithRefutes', WHERE WHAT IT READS IS OF BULK AT MOST 1048576: true; the input reads as it did. -/
def arithRefutesUptoRow : OpenClaim := { program := "ytefpjfpelicedaa", sum := "82d40513d95abe33759b42bde1a66fa14068dc4f65d41d7569bdae6462108802", func := "triforium/triforiumlaw24.ArithRefutes", spec := "arithRefutes", unfollowed := true, recurses := true, plainKeys := false, apart := false, narrowed := true }
def ArithRefutesUptoSaid : Prop := arithRefutesUptoRow.holds Try.pinned (OpenSpec.upto arithRefutesSpec)

/-- 'triforiumlaw24.ArithMore', WHERE WHAT IT READS IS OF BULK AT MOST 1048576: true; the input reads as it did. -/
def arithMoreUptoRow : OpenClaim := { program := "ytefpjfpelicedaa", sum := "82d40513d95abe33759b42bde1a66fa14068dc4f65d41d7569bdae6462108802", func := "triforium/triforiumlaw24.ArithMore", spec := "arithMore", unfollowed := true, recurses := true, plainKeys := false, apart := false, narrowed := true }
def ArithMoreUptoSaid : Prop := arithMoreUptoRow.holds Try.pinned (OpenSpec.upto arithMoreSpec)

/-- 'triforiumlaw24.ArithSound', WHERE WHAT IT READS IS OF BULK AT MOST 1048576: true; the input reads as it did. -/
def arithSoundUptoRow : OpenClaim := { program := "ytefpjfpelicedaa", sum := "82d40513d95abe33759b42bde1a66fa14068dc4f65d41d7569bdae6462108802", func := "triforium/triforiumlaw24.ArithSound", spec := "arithSound", unfollowed := true, recurses := true, plainKeys := false, apart := false, narrowed := true }
def ArithSoundUptoSaid : Prop := arithSoundUptoRow.holds Try.pinned (OpenSpec.upto arithSoundSpec)

/-- 'triforiumlaw24.ArithDerives', WHERE WHAT IT READS IS OF BULK AT MOST 1048576: true; the input reads as it did. -/
def arithDerivesUptoRow : OpenClaim := { program := "ytefpjfpelicedaa", sum := "82d40513d95abe33759b42bde1a66fa14068dc4f65d41d7569bdae6462108802", func := "triforium/triforiumlaw24.ArithDerives", spec := "arithDerives", unfollowed := true, recurses := true, plainKeys := false, apart := false, narrowed := true }
def ArithDerivesUptoSaid : Prop := arithDerivesUptoRow.holds Try.pinned (OpenSpec.upto arithDerivesSpec)

end Rows
end Go.Proofs.Ytefpjfpelicedaa
