/- ArithDerives is true of every input: of any rows, lines, numbers and bound that a caller may hand it, under the form's own conditions alone (the sizes that the form asks of what is read). -/
import Derived.Test.YtefpjfpelicedaaDeri10
section
/- ArithDerives. -/
set_option linter.unusedVariables false
set_option linter.unusedSimpArgs false
set_option maxRecDepth 20000
namespace Go.Proofs.Ytefpjfpelicedaa
open Go.ChangeShapes Go.WideShapes Go.RowKit Go.PV Go.PV.Ytefpjfpelicedaa
theorem derives_contract (H : Type) (enc : TypeId × Value → H) (W : World) (base : Nat) (args : Array Value) (ds gs : List (DataW H)) (before : List MemPlace)
    (hval : ∀ (j : Nat) t v, Try.f6.params[j]? = some t → args[j]? = some v → Value.okWide Try.prog W .any base t v)
    (hW : DataW.Whole enc Try.prog Try.f6.params.toList Rows.arithDerivesSpec.vars false W args.toList ds gs before)
    (hsz : (DataW.weightsEach Try.prog (Try.f6.params.toList ++ Rows.arithDerivesSpec.plain.varTypes Try.prog) (ds ++ gs)).all (· ≤ reachBytes) = true) :
    Calls Try.prog 6 args W fun e W' => ∃ v, e = .returned v ∧ Rows.arithDerivesSpec.post enc Try.prog Try.f6 false true false false W args v W' := by
  have hW' := hW
  obtain ⟨p, q, hA0, hV, rfl, hfz, hnd⟩ := hW
  have hA : DataW.TrodAll enc Try.prog W 0 (fun _ => true) true Try.f6.params.toList args.toList ds p := hA0
  rw [Try.params6] at hA hval
  obtain ⟨v0, vs0, d0, ds0, p0, q0, hargs, rfl, rfl, h0, r0⟩ := trodAll_cons hA
  obtain ⟨v1, vs1, d1, ds1, p1, q1, rfl, rfl, rfl, h1, r1⟩ := trodAll_cons r0
  obtain ⟨v2, vs2, d2, ds2, p2, q2, rfl, rfl, rfl, h2, r2⟩ := trodAll_cons r1
  obtain ⟨v3, vs3, d3, ds3, p3, q3, rfl, rfl, rfl, h3, r3⟩ := trodAll_cons r2
  obtain ⟨rfl, rfl, rfl⟩ := trodAll_nil r3
  obtain rfl : args = #[v0, v1, v2, v3] := by cases args; simp_all
  obtain ⟨rfl, rfl⟩ := trodVars_none hV
  have ev : Try.f6.params.toList ++ Rows.arithDerivesSpec.plain.varTypes Try.prog = [22, 35, 37, 3] := by rw [Try.params6]; rfl
  rw [ev, List.append_nil] at hsz
  obtain ⟨w0, hsz⟩ := weights_head hsz
  obtain ⟨w1, hsz⟩ := weights_head hsz
  obtain ⟨w2, hsz⟩ := weights_head hsz
  obtain ⟨w3, hsz⟩ := weights_head hsz
  obtain ⟨rows, k0, a0⟩ := open_arg (enc := rowsV) rd22 h0 w0 (cells_slice Try.underlying22 (hval 0 22 v0 rfl rfl))
  obtain ⟨ls, k1, a1⟩ := open_arg (enc := linesV) rd35 h1 w1 (cells_slice Try.underlying35 (hval 1 35 v1 rfl rfl))
  obtain ⟨x, k2, a2⟩ := open_arg (enc := intsV) rd37 h2 w2 (cells_slice Try.underlying37 (hval 2 37 v2 rfl rfl))
  obtain ⟨b, k3, a3⟩ := open_arg (enc := iV) rd3 h3 w3 (cells_int Try.underlying3 (hval 3 3 v3 rfl rfl))
  have hp : PureF Try.prog 6 [rowsV rows, linesV ls, intsV x, iV b] (boolV true) := by
    exact derives6 rows ls x b (by have := k0.1; unfold reachBytes at this; omega) (by have := k2.1; unfold reachBytes at this; omega)
  exact calls_true (xs := [rowsV rows, linesV ls, intsV x, iV b]) laidOut (by kernel_rfl) (tb := 4) (by kernel_rfl) Try.underlying4 rfl hW' rfl ⟨_, _, rfl, a0, _, _, rfl, a1, _, _, rfl, a2, _, _, rfl, a3, rfl⟩ hp
set_option maxRecDepth 100000 in
theorem derives_lifted (os : Os) (started : os.Started) (H : Type) (enc : TypeId × Value → H) :
    ReturnsInHanded {} Try.checked os 6 .any (Rows.arithDerivesSpec.pre6 enc Try.prog Try.f6 Rows.arithDerivesRow.domain false) (Rows.arithDerivesSpec.post enc Try.prog Try.f6 false true false false) := by
  refine returnsInHanded_of_change_sized (C := Try.checked) own started (by kernel_rfl) Try.func6
    (ChangeSpec.witness6 (enc := enc) (C := Try.checked) false ⟨#[], #[.slice none 0 0, .slice none 0 0, .slice none 0 0, .int .i64 0], []⟩ 8 (by kernel_rfl) (by kernel_rfl) (by kernel_rfl) (by kernel_rfl)) ?_
  intro W base args ds gs before hval hW _ hsz _
  exact derives_contract H enc W base args ds gs before hval hW hsz
theorem arithDerives : Rows.ArithDerivesSaid :=
  OpenClaim.holds_of_wide 6 Try.f6 rfl rfl rfl rfl rfl rfl rfl ⟨rfl, rfl, rfl, rfl, rfl⟩ rfl rfl rfl rfl rfl (by kernel_rfl) Try.func6 (by kernel_rfl)
    (of_decide_eq_true (by kernel_rfl)) (by unfold Func.isWrapper; first | (rw [if_pos (by decide +kernel)]; kernel_rfl) | (rw [if_neg (by decide +kernel)]; exact ⟨rfl, rfl⟩))
    (fun os started H enc _ => derives_lifted os started H enc)
#print axioms arithDerives
end Go.Proofs.Ytefpjfpelicedaa
end
