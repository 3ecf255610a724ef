/- Part 5 of 11 of what the proof of Refu needs. -/
import Derived.Test.YtefpjfpelicedaaRefu4
section
/- IndexFunc and ContainsFunc. -/
set_option linter.unusedVariables false
set_option linter.unusedSimpArgs false
namespace Go.PV.Ytefpjfpelicedaa
open Go Go.Proofs
theorem index42 {l : List Int} {f : VV} {p : Int → Bool} {H : AH} {K : VE → AH → Prop} (hn : (l.length : Int) ≤ 9223372036854775806)
    (hf : ∀ x ∈ l, FnAt Try.prog f [iV x] (boolV (p x)) H) (hK : K (.ret (iV (idxF p l))) H) : VCalls Try.prog 42 [intsV l, f] H K := by
  refine vcalls_intro fd42 (by simp) ?_
  unfold c42
  (repeat' (first | (simp only [↓s_reg, ↓s_seq, ↓s_seqL, ↓s_block, ↓s_loop, ↓s_nil, ↓s_consN, ↓s_thenN, ↓s_kret, ↓s_putS, ↓s_dOkS, ↓s_ev_t, ↓s_ev_c, ↓s_upd, ↓s_move, ↓s_assign, ↓s_callB, ↓s_len, intV, List.map_cons, List.map_nil, List.getD_cons_zero, List.getD_cons_succ, List.getD_nil, ite_true, ite_false, Nat.reduceEqDiff, Nat.reduceLT, ne_eq, not_false_eq_true, true_and, reduceCtorEq, undefV, eq_self, n_lenS, undef, Int.reduceNeg, elT_37, *])))
  refine acx_loop (fun _ _ _ h => h) (fun A H' => H' = H ∧ A.d = [] ∧ A.t 0 = intsV l ∧ A.t 1 = f ∧ A.t 6 = intsV l ∧ A.t 7 = iV l.length ∧ ∃ i : Nat, i ≤ l.length ∧ A.t 8 = iV i ∧ ∀ j (h : j < l.length), j < i → p l[j] = false)
    (fun A _ => match A.t 8 with | .lit (.int _ i) => ((l.length : Int) - i).toNat | _ => 0) ?_ ?_
  · exact ⟨rfl, rfl, rfl, rfl, rfl, rfl, 0, by simp, rfl, by simp⟩
  · rintro ⟨t, d⟩ H' ⟨rfl, rfl, h0, h1, h6, h7, i, hi, h8, hj⟩
    dsimp only at h0 h1 h6 h7 h8
    (repeat' (first | (simp only [↓s_skip, ↓s_reg, ↓s_seq, ↓s_cond, ↓s_block, ↓s_exit, ↓s_ret, ↓s_nil, ↓s_consN, ↓s_thenN, ↓s_thenE, ↓s_inE, ↓s_kret, ↓s_putS, ↓s_dOkS, ↓s_ev_t, ↓s_ev_c, ↓s_upd, ↓s_move, ↓s_assign, ↓s_load, ↓s_bin, ↓s_indexAddr, ↓s_callV, ↓s_bin_lss, List.map_cons, List.map_nil, ite_true, ite_false, Nat.reduceEqDiff, Nat.reduceLT, true_and, Nat.succ_ne_self, decide_true, decide_false, reduceCtorEq, Int.natCast_nonneg, Int.toNat_natCast, Nat.mul_one, eq_self, and_self, ldV_f, Int.ofNat_lt, n_ldI, n_ixS, n_ixA1, n_ldC, n_ldB, Int.reduceNeg, elT_37, ldT_3, ints_drop, *]) | (refine condL_splitD ?_ ?_ <;> intro) | (refine ret_tmp ?_) | (refine acx_go rfl (fun _ _ _ h => h) ?_)))
    · have hi' : i < l.length := by omega
      refine hf _ (List.getElem_mem hi') _ ?_
      (repeat' (first | (simp only [↓s_skip, ↓s_reg, ↓s_seq, ↓s_cond, ↓s_ret, ↓s_nil, ↓s_consN, ↓s_thenN, ↓s_thenR, ↓s_inN, ↓s_inR, ↓s_kret, ↓s_putS, ↓s_dOkS, ↓s_ev_t, ↓s_ev_c, ↓s_upd, ↓s_move, ↓s_assign, ↓s_bin, ↓s_bin_add, boolV, ite_true, ite_false, Nat.reduceEqDiff, Nat.reduceLT, true_and, Nat.succ_ne_self, reduceCtorEq, eq_self, Int.reduceNeg, *]) | (refine condL_split ?_ ?_ <;> intro) | (refine ret_tmp ?_)))
      · rw [← idxF_found hi' (by assumption) (fun j h => hj j (by omega) h)]
        exact hK
      · rw [wrap_ok (by omega) (by omega)]
        refine ⟨⟨i + 1, by omega, by simp, fun j h h' => ?_⟩, by omega⟩
        rcases Nat.lt_or_ge j i with h2 | h2
        · exact hj j h h2
        · obtain rfl : j = i := by omega
          assumption
    · rw [show (-1 : Int) = idxF p l from (idxF_none fun j h => hj j h (by omega)).symm]
      exact hK
theorem contains16 {l : List Int} {f : VV} {p : Int → Bool} {H : AH} {K : VE → AH → Prop} (hn : (l.length : Int) ≤ 9223372036854775806)
    (hf : ∀ x ∈ l, FnAt Try.prog f [iV x] (boolV (p x)) H) (hK : K (.ret (boolV (l.any p))) H) : VCalls Try.prog 16 [intsV l, f] H K := by
  refine vcalls_intro fd16 (by simp) ?_
  unfold c16
  (repeat' (first | (simp only [↓s_reg, ↓s_seq, ↓s_nil, ↓s_consN, ↓s_thenN, ↓s_putS, ↓s_dOkS, ↓s_ev_t, ↓s_ev_c, ↓s_ev_f, ↓s_upd, ↓s_move, ↓s_assign, ↓s_callV, ↓s_callL, List.map_cons, List.map_nil, List.getD_cons_zero, List.getD_cons_succ, List.getD_nil, ite_true, ite_false, Nat.reduceEqDiff, Nat.reduceLT, true_and, Nat.succ_ne_self, reduceCtorEq, undefV, eq_self, undef, en_42, *])))
  refine index42 hn hf ?_
  rw [← idxF_any] at hK
  (repeat' (first | (simp only [↓s_ret, ↓s_nil, ↓s_consN, ↓s_thenN, ↓s_kret, ↓s_putS, ↓s_dOkS, ↓s_ev_t, ↓s_ev_c, ↓s_upd, ↓s_assign, ↓s_bin, ↓s_bin_geq, List.getD_cons_succ, List.getD_nil, ite_true, ite_false, Nat.reduceEqDiff, Nat.reduceLT, true_and, Nat.succ_ne_self, eq_self, *]) | (refine ret_tmp ?_) | assumption))
theorem index54 {l : List Row} {f : VV} {p : Row → Bool} {H : AH} {K : VE → AH → Prop} (hn : (l.length : Int) ≤ 9223372036854775806)
    (hf : ∀ x ∈ l, FnAt Try.prog f [rowV x] (boolV (p x)) H) (hK : K (.ret (iV (idxF p l))) H) : VCalls Try.prog 54 [rowsV l, f] H K := by
  refine vcalls_intro fd54 (by simp) ?_
  unfold c54
  (repeat' (first | (simp only [↓s_reg, ↓s_seq, ↓s_seqL, ↓s_block, ↓s_loop, ↓s_nil, ↓s_consN, ↓s_thenN, ↓s_kret, ↓s_putS, ↓s_dOkS, ↓s_ev_t, ↓s_ev_c, ↓s_upd, ↓s_move, ↓s_assign, ↓s_callB, ↓s_len, intV, List.map_cons, List.map_nil, List.getD_cons_zero, List.getD_cons_succ, List.getD_nil, ite_true, ite_false, Nat.reduceEqDiff, Nat.reduceLT, ne_eq, not_false_eq_true, true_and, reduceCtorEq, undefV, eq_self, n_lenS, undef, Int.reduceNeg, elT_22, *])))
  refine acx_loop (fun _ _ _ h => h) (fun A H' => H' = H ∧ A.d = [] ∧ A.t 0 = rowsV l ∧ A.t 1 = f ∧ A.t 6 = rowsV l ∧ A.t 7 = iV l.length ∧ ∃ i : Nat, i ≤ l.length ∧ A.t 8 = iV i ∧ ∀ j (h : j < l.length), j < i → p l[j] = false)
    (fun A _ => match A.t 8 with | .lit (.int _ i) => ((l.length : Int) - i).toNat | _ => 0) ?_ ?_
  · exact ⟨rfl, rfl, rfl, rfl, rfl, rfl, 0, by simp, rfl, by simp⟩
  · rintro ⟨t, d⟩ H' ⟨rfl, rfl, h0, h1, h6, h7, i, hi, h8, hj⟩
    dsimp only at h0 h1 h6 h7 h8
    (repeat' (first | (simp only [↓s_skip, ↓s_reg, ↓s_seq, ↓s_cond, ↓s_block, ↓s_exit, ↓s_ret, ↓s_nil, ↓s_consN, ↓s_thenN, ↓s_thenE, ↓s_inE, ↓s_kret, ↓s_putS, ↓s_dOkS, ↓s_ev_t, ↓s_ev_c, ↓s_upd, ↓s_move, ↓s_assign, ↓s_load, ↓s_bin, ↓s_indexAddr, ↓s_callV, ↓s_bin_lss, List.map_cons, List.map_nil, ite_true, ite_false, Nat.reduceEqDiff, Nat.reduceLT, true_and, Nat.succ_ne_self, decide_true, decide_false, reduceCtorEq, Int.natCast_nonneg, Int.toNat_natCast, eq_self, and_self, ldV_t2, Int.ofNat_lt, n_ldI, n_ixS, n_ixA1, n_ldC, n_ldB, Int.reduceNeg, elT_22, ldT_39, rows_drop, *]) | (refine condL_splitD ?_ ?_ <;> intro) | (refine ret_tmp ?_) | (refine acx_go rfl (fun _ _ _ h => h) ?_)))
    · have hi' : i < l.length := by omega
      refine hf _ (List.getElem_mem hi') _ ?_
      (repeat' (first | (simp only [↓s_skip, ↓s_reg, ↓s_seq, ↓s_cond, ↓s_ret, ↓s_nil, ↓s_consN, ↓s_thenN, ↓s_thenR, ↓s_inN, ↓s_inR, ↓s_kret, ↓s_putS, ↓s_dOkS, ↓s_ev_t, ↓s_ev_c, ↓s_upd, ↓s_move, ↓s_assign, ↓s_bin, ↓s_bin_add, boolV, ite_true, ite_false, Nat.reduceEqDiff, Nat.reduceLT, true_and, Nat.succ_ne_self, reduceCtorEq, eq_self, Int.reduceNeg, *]) | (refine condL_split ?_ ?_ <;> intro) | (refine ret_tmp ?_)))
      · rw [← idxF_found hi' (by assumption) (fun j h => hj j (by omega) h)]
        exact hK
      · rw [wrap_ok (by omega) (by omega)]
        refine ⟨⟨i + 1, by omega, by simp, fun j h h' => ?_⟩, by omega⟩
        rcases Nat.lt_or_ge j i with h2 | h2
        · exact hj j h h2
        · obtain rfl : j = i := by omega
          assumption
    · rw [show (-1 : Int) = idxF p l from (idxF_none fun j h => hj j h (by omega)).symm]
      exact hK
theorem contains33 {l : List Row} {f : VV} {p : Row → Bool} {H : AH} {K : VE → AH → Prop} (hn : (l.length : Int) ≤ 9223372036854775806)
    (hf : ∀ x ∈ l, FnAt Try.prog f [rowV x] (boolV (p x)) H) (hK : K (.ret (boolV (l.any p))) H) : VCalls Try.prog 33 [rowsV l, f] H K := by
  refine vcalls_intro fd33 (by simp) ?_
  unfold c33
  (repeat' (first | (simp only [↓s_reg, ↓s_seq, ↓s_nil, ↓s_consN, ↓s_thenN, ↓s_putS, ↓s_dOkS, ↓s_ev_t, ↓s_ev_c, ↓s_ev_f, ↓s_upd, ↓s_move, ↓s_assign, ↓s_callV, ↓s_callL, List.map_cons, List.map_nil, List.getD_cons_zero, List.getD_cons_succ, List.getD_nil, ite_true, ite_false, Nat.reduceEqDiff, Nat.reduceLT, true_and, Nat.succ_ne_self, reduceCtorEq, undefV, eq_self, undef, en_54, *])))
  refine index54 hn hf ?_
  rw [← idxF_any] at hK
  (repeat' (first | (simp only [↓s_ret, ↓s_nil, ↓s_consN, ↓s_thenN, ↓s_kret, ↓s_putS, ↓s_dOkS, ↓s_ev_t, ↓s_ev_c, ↓s_upd, ↓s_assign, ↓s_bin, ↓s_bin_geq, List.getD_cons_succ, List.getD_nil, ite_true, ite_false, Nat.reduceEqDiff, Nat.reduceLT, true_and, Nat.succ_ne_self, eq_self, *]) | (refine ret_tmp ?_) | assumption))
theorem index80 {l : List Row} {f : VV} {p : Row → Bool} {H : AH} {K : VE → AH → Prop} (hn : (l.length : Int) ≤ 9223372036854775806)
    (hf : ∀ x ∈ l, FnAt Try.prog f [rowV x] (boolV (p x)) H) (hK : K (.ret (iV (idxF p l))) H) : VCalls Try.prog 80 [rowsV l, f] H K := by
  refine vcalls_intro fd80 (by simp) ?_
  unfold c80
  (repeat' (first | (simp only [↓s_reg, ↓s_seq, ↓s_seqL, ↓s_block, ↓s_loop, ↓s_nil, ↓s_consN, ↓s_thenN, ↓s_kret, ↓s_putS, ↓s_dOkS, ↓s_ev_t, ↓s_ev_c, ↓s_upd, ↓s_move, ↓s_assign, ↓s_callB, ↓s_len, intV, List.map_cons, List.map_nil, List.getD_cons_zero, List.getD_cons_succ, List.getD_nil, ite_true, ite_false, Nat.reduceEqDiff, Nat.reduceLT, ne_eq, not_false_eq_true, true_and, reduceCtorEq, undefV, eq_self, n_lenS, undef, Int.reduceNeg, elT_31, *])))
  refine acx_loop (fun _ _ _ h => h) (fun A H' => H' = H ∧ A.d = [] ∧ A.t 0 = rowsV l ∧ A.t 1 = f ∧ A.t 6 = rowsV l ∧ A.t 7 = iV l.length ∧ ∃ i : Nat, i ≤ l.length ∧ A.t 8 = iV i ∧ ∀ j (h : j < l.length), j < i → p l[j] = false)
    (fun A _ => match A.t 8 with | .lit (.int _ i) => ((l.length : Int) - i).toNat | _ => 0) ?_ ?_
  · exact ⟨rfl, rfl, rfl, rfl, rfl, rfl, 0, by simp, rfl, by simp⟩
  · rintro ⟨t, d⟩ H' ⟨rfl, rfl, h0, h1, h6, h7, i, hi, h8, hj⟩
    dsimp only at h0 h1 h6 h7 h8
    (repeat' (first | (simp only [↓s_skip, ↓s_reg, ↓s_seq, ↓s_cond, ↓s_block, ↓s_exit, ↓s_ret, ↓s_nil, ↓s_consN, ↓s_thenN, ↓s_thenE, ↓s_inE, ↓s_kret, ↓s_putS, ↓s_dOkS, ↓s_ev_t, ↓s_ev_c, ↓s_upd, ↓s_move, ↓s_assign, ↓s_load, ↓s_bin, ↓s_indexAddr, ↓s_callV, ↓s_bin_lss, List.map_cons, List.map_nil, ite_true, ite_false, Nat.reduceEqDiff, Nat.reduceLT, true_and, Nat.succ_ne_self, decide_true, decide_false, reduceCtorEq, Int.natCast_nonneg, Int.toNat_natCast, eq_self, and_self, ldV_t2, Int.ofNat_lt, n_ldI, n_ixS, n_ixA1, n_ldC, n_ldB, Int.reduceNeg, elT_31, ldT_50, rows_drop, *]) | (refine condL_splitD ?_ ?_ <;> intro) | (refine ret_tmp ?_) | (refine acx_go rfl (fun _ _ _ h => h) ?_)))
    · have hi' : i < l.length := by omega
      refine hf _ (List.getElem_mem hi') _ ?_
      (repeat' (first | (simp only [↓s_skip, ↓s_reg, ↓s_seq, ↓s_cond, ↓s_ret, ↓s_nil, ↓s_consN, ↓s_thenN, ↓s_thenR, ↓s_inN, ↓s_inR, ↓s_kret, ↓s_putS, ↓s_dOkS, ↓s_ev_t, ↓s_ev_c, ↓s_upd, ↓s_move, ↓s_assign, ↓s_bin, ↓s_bin_add, boolV, ite_true, ite_false, Nat.reduceEqDiff, Nat.reduceLT, true_and, Nat.succ_ne_self, reduceCtorEq, eq_self, Int.reduceNeg, *]) | (refine condL_split ?_ ?_ <;> intro) | (refine ret_tmp ?_)))
      · rw [← idxF_found hi' (by assumption) (fun j h => hj j (by omega) h)]
        exact hK
      · rw [wrap_ok (by omega) (by omega)]
        refine ⟨⟨i + 1, by omega, by simp, fun j h h' => ?_⟩, by omega⟩
        rcases Nat.lt_or_ge j i with h2 | h2
        · exact hj j h h2
        · obtain rfl : j = i := by omega
          assumption
    · rw [show (-1 : Int) = idxF p l from (idxF_none fun j h => hj j h (by omega)).symm]
      exact hK
theorem contains70 {l : List Row} {f : VV} {p : Row → Bool} {H : AH} {K : VE → AH → Prop} (hn : (l.length : Int) ≤ 9223372036854775806)
    (hf : ∀ x ∈ l, FnAt Try.prog f [rowV x] (boolV (p x)) H) (hK : K (.ret (boolV (l.any p))) H) : VCalls Try.prog 70 [rowsV l, f] H K := by
  refine vcalls_intro fd70 (by simp) ?_
  unfold c70
  (repeat' (first | (simp only [↓s_reg, ↓s_seq, ↓s_nil, ↓s_consN, ↓s_thenN, ↓s_putS, ↓s_dOkS, ↓s_ev_t, ↓s_ev_c, ↓s_ev_f, ↓s_upd, ↓s_move, ↓s_assign, ↓s_callV, ↓s_callL, List.map_cons, List.map_nil, List.getD_cons_zero, List.getD_cons_succ, List.getD_nil, ite_true, ite_false, Nat.reduceEqDiff, Nat.reduceLT, true_and, Nat.succ_ne_self, reduceCtorEq, undefV, eq_self, undef, en_80, *])))
  refine index80 hn hf ?_
  rw [← idxF_any] at hK
  (repeat' (first | (simp only [↓s_ret, ↓s_nil, ↓s_consN, ↓s_thenN, ↓s_kret, ↓s_putS, ↓s_dOkS, ↓s_ev_t, ↓s_ev_c, ↓s_upd, ↓s_assign, ↓s_bin, ↓s_bin_geq, List.getD_cons_succ, List.getD_nil, ite_true, ite_false, Nat.reduceEqDiff, Nat.reduceLT, true_and, Nat.succ_ne_self, eq_self, *]) | (refine ret_tmp ?_) | assumption))
theorem index42m {l : List Int} {g c sp : Nat} {e : TypeId} {f : VV} {p : Int → Bool} {H : AH} {K : VE → AH → Prop} (hg : H g = some (.cells e (encC intE l) sp)) (hn : (l.length : Int) ≤ 9223372036854775806)
    (hf : ∀ x ∈ l, FnAt Try.prog f [iV x] (boolV (p x)) H) (hK : K (.ret (iV (idxF p l))) H) : VCalls Try.prog 42 [.lit (.slice (some ⟨g, 0, none⟩) l.length c), f] H K := by
  refine vcalls_intro fd42 (by simp) ?_
  unfold c42
  (repeat' (first | (simp only [↓s_reg, ↓s_seq, ↓s_seqL, ↓s_block, ↓s_loop, ↓s_nil, ↓s_consN, ↓s_thenN, ↓s_kret, ↓s_putS, ↓s_dOkS, ↓s_ev_t, ↓s_ev_c, ↓s_upd, ↓s_move, ↓s_assign, ↓s_callB, ↓s_len, intV, List.map_cons, List.map_nil, List.getD_cons_zero, List.getD_cons_succ, List.getD_nil, ite_true, ite_false, Nat.reduceEqDiff, Nat.reduceLT, ne_eq, not_false_eq_true, true_and, reduceCtorEq, undefV, eq_self, n_lenL, undef, Int.reduceNeg, elT_37, *])))
  refine acx_loop (fun _ _ _ h => h) (fun A H' => H' = H ∧ A.d = [] ∧ A.t 0 = .lit (.slice (some ⟨g, 0, none⟩) l.length c) ∧ A.t 1 = f ∧ A.t 6 = .lit (.slice (some ⟨g, 0, none⟩) l.length c) ∧ A.t 7 = iV l.length ∧ ∃ i : Nat, i ≤ l.length ∧ A.t 8 = iV i ∧ ∀ j (h : j < l.length), j < i → p l[j] = false)
    (fun A _ => match A.t 8 with | .lit (.int _ i) => ((l.length : Int) - i).toNat | _ => 0) ?_ ?_
  · exact ⟨rfl, rfl, rfl, rfl, rfl, rfl, 0, by simp, rfl, by simp⟩
  · rintro ⟨t, d⟩ H' ⟨rfl, rfl, h0, h1, h6, h7, i, hi, h8, hj⟩
    dsimp only at h0 h1 h6 h7 h8
    (repeat' (first | (simp only [↓s_skip, ↓s_reg, ↓s_seq, ↓s_cond, ↓s_block, ↓s_exit, ↓s_ret, ↓s_nil, ↓s_consN, ↓s_thenN, ↓s_thenE, ↓s_inE, ↓s_kret, ↓s_putS, ↓s_dOkS, ↓s_ev_t, ↓s_ev_c, ↓s_upd, ↓s_move, ↓s_assign, ↓s_load, ↓s_bin, ↓s_indexAddr, ↓s_callV, ↓s_bin_lss, List.map_cons, List.map_nil, ite_true, ite_false, Nat.reduceEqDiff, Nat.reduceLT, true_and, Nat.succ_ne_self, decide_true, decide_false, reduceCtorEq, Int.natCast_nonneg, Int.toNat_natCast, Nat.mul_one, eq_self, Nat.zero_add, and_self, ldV_f, Int.ofNat_lt, n_ldP, n_ixL, n_ixA2, n_ldA, n_ldB, Int.reduceNeg, elT_37, ldT_3, ints_drop, *]) | (refine condL_splitD ?_ ?_ <;> intro) | (refine ret_tmp ?_) | (refine acx_go rfl (fun _ _ _ h => h) ?_)))
    · have hi' : i < l.length := by omega
      refine hf _ (List.getElem_mem hi') _ ?_
      (repeat' (first | (simp only [↓s_skip, ↓s_reg, ↓s_seq, ↓s_cond, ↓s_ret, ↓s_nil, ↓s_consN, ↓s_thenN, ↓s_thenR, ↓s_inN, ↓s_inR, ↓s_kret, ↓s_putS, ↓s_dOkS, ↓s_ev_t, ↓s_ev_c, ↓s_upd, ↓s_move, ↓s_assign, ↓s_bin, ↓s_bin_add, boolV, ite_true, ite_false, Nat.reduceEqDiff, Nat.reduceLT, true_and, Nat.succ_ne_self, reduceCtorEq, eq_self, Int.reduceNeg, *]) | (refine condL_split ?_ ?_ <;> intro) | (refine ret_tmp ?_)))
      · rw [← idxF_found hi' (by assumption) (fun j h => hj j (by omega) h)]
        exact hK
      · rw [wrap_ok (by omega) (by omega)]
        refine ⟨⟨i + 1, by omega, by simp, fun j h h' => ?_⟩, by omega⟩
        rcases Nat.lt_or_ge j i with h2 | h2
        · exact hj j h h2
        · obtain rfl : j = i := by omega
          assumption
    · rw [show (-1 : Int) = idxF p l from (idxF_none fun j h => hj j h (by omega)).symm]
      exact hK
theorem contains16m {l : List Int} {g c sp : Nat} {e : TypeId} {f : VV} {p : Int → Bool} {H : AH} {K : VE → AH → Prop} (hg : H g = some (.cells e (encC intE l) sp)) (hn : (l.length : Int) ≤ 9223372036854775806)
    (hf : ∀ x ∈ l, FnAt Try.prog f [iV x] (boolV (p x)) H) (hK : K (.ret (boolV (l.any p))) H) : VCalls Try.prog 16 [.lit (.slice (some ⟨g, 0, none⟩) l.length c), f] H K := by
  refine vcalls_intro fd16 (by simp) ?_
  unfold c16
  (repeat' (first | (simp only [↓s_reg, ↓s_seq, ↓s_nil, ↓s_consN, ↓s_thenN, ↓s_putS, ↓s_dOkS, ↓s_ev_t, ↓s_ev_c, ↓s_ev_f, ↓s_upd, ↓s_move, ↓s_assign, ↓s_callV, ↓s_callL, List.map_cons, List.map_nil, List.getD_cons_zero, List.getD_cons_succ, List.getD_nil, ite_true, ite_false, Nat.reduceEqDiff, Nat.reduceLT, true_and, Nat.succ_ne_self, reduceCtorEq, undefV, eq_self, undef, en_42, *])))
  refine index42m hg hn hf ?_
  rw [← idxF_any] at hK
  (repeat' (first | (simp only [↓s_ret, ↓s_nil, ↓s_consN, ↓s_thenN, ↓s_kret, ↓s_putS, ↓s_dOkS, ↓s_ev_t, ↓s_ev_c, ↓s_upd, ↓s_assign, ↓s_bin, ↓s_bin_geq, List.getD_cons_succ, List.getD_nil, ite_true, ite_false, Nat.reduceEqDiff, Nat.reduceLT, true_and, Nat.succ_ne_self, eq_self, *]) | (refine ret_tmp ?_) | assumption))
end Go.PV.Ytefpjfpelicedaa
end
section
/- Rows: their error, their unknowns. -/
set_option linter.unusedVariables false
set_option linter.unusedSimpArgs false
namespace Go.PV.Ytefpjfpelicedaa
open Go Go.Proofs
def far (a : Int) : Bool := !(decide (-1000000 ≤ a) && decide (a ≤ 1000000))
def rightGo : List Row → Int
  | [] => 0
  | r :: rs => if 12 < r.c.length then 5 else if far r.b || r.c.any far then 4 else rightGo rs
def rightF (rows : List Row) : Int := if 100 < rows.length then 5 else rightGo rows
theorem right36 (rows : List Row) (hn : (rows.length : Int) ≤ 9223372036854775806) : PureF Try.prog 36 [rowsV rows] (iV (rightF rows)) := by
  refine PureF.forget fun H => ?_
  refine vcalls_intro fd36 (by simp) ?_
  unfold c36
  (repeat' (first | (simp only [↓s_skip, ↓s_reg, ↓s_seq, ↓s_seqL, ↓s_cond, ↓s_block, ↓s_ret, ↓s_loop, ↓s_nil, ↓s_consN, ↓s_thenN, ↓s_thenR, ↓s_kret, ↓s_putS, ↓s_dOkS, ↓s_ev_t, ↓s_ev_c, ↓s_ev_f, ↓s_upd, ↓s_move, ↓s_assign, ↓s_bin, ↓s_callB, ↓s_len, ↓s_bin_gtr, intV, List.map_cons, List.map_nil, List.getD_cons_zero, List.getD_cons_succ, List.getD_nil, ite_true, ite_false, Nat.reduceEqDiff, Nat.reduceLT, ne_eq, not_false_eq_true, true_and, Nat.succ_ne_self, decide_true, decide_false, reduceCtorEq, undefV, eq_self, n_lenS, undef, elT_31, *]) | (refine condL_splitD ?_ ?_ <;> intro) | (refine ret_tmp ?_)))
  · rename_i h
    simp only [rightF]
    rw [if_pos (by omega)]
    exact ⟨rfl, SubH.refl _⟩
  · rename_i h0
    have hle : rows.length ≤ 100 := by omega
    have hr : rightF rows = rightGo rows := by simp only [rightF]; rw [if_neg (by omega)]
    rw [hr]
    refine acx_loop (fun _ _ _ h => h) (fun A H' => SubH H H' ∧ A.d = [] ∧ A.t 3 = .lit (.func (.func 56) #[] #[]) ∧ A.t 9 = rowsV rows ∧ A.t 10 = iV rows.length ∧ ∃ i : Nat, i ≤ rows.length ∧ A.t 11 = iV i ∧ rightGo rows = rightGo (rows.drop i))
      (fun A _ => match A.t 11 with | .lit (.int _ i) => ((rows.length : Int) - i).toNat | _ => 0) ?_ ?_
    · exact ⟨SubH.refl _, rfl, rfl, rfl, rfl, 0, by simp, rfl, rfl⟩
    · rintro ⟨t, d⟩ H' ⟨hs, rfl, h3, h9, h10, i, hi, h11, hgo⟩
      dsimp only at h3 h9 h10 h11
      (repeat' (first | (simp only [↓s_skip, ↓s_reg, ↓s_seq, ↓s_cond, ↓s_condT, ↓s_block, ↓s_exit, ↓s_ret, ↓s_nil, ↓s_consN, ↓s_consG, ↓s_guardTF, ↓s_guardFF, ↓s_thenN, ↓s_thenE, ↓s_thenR, ↓s_inE, ↓s_inR, ↓s_kret, ↓s_putS, ↓s_putN, ↓s_dOkS, ↓s_dOkN, ↓s_ev_t, ↓s_ev_c, ↓s_ev_f, ↓s_upd, ↓s_move, ↓s_assign, ↓s_isBool, ↓s_pickA, ↓s_pick, ↓s_load, ↓s_store, ↓s_bin, ↓s_alloc, ↓s_fieldAddr, ↓s_indexAddr, ↓s_callB, ↓s_callV, ↓s_callL, ↓s_len, ↓s_bin_lss, ↓s_bin_gtr, ptrV, intV, boolV, List.map_cons, List.map_nil, List.length_cons, List.length_nil, ite_true, ite_false, Nat.reduceEqDiff, Nat.reduceLT, Nat.reduceAdd, ne_eq, not_false_eq_true, true_and, and_true, Nat.succ_ne_self, decide_true, decide_false, reduceCtorEq, Int.natCast_nonneg, Int.toNat_natCast, callOk, undefV, AH.get, AH.set_set, setAt, List.all_cons, List.all_nil, Bool.and_self, eq_self, Nat.zero_add, Nat.add_zero, List.drop, and_self, ldV_f, ldV_t2, Int.ofNat_lt, on_int, cl_agg, on_slice, List.set_cons_zero, List.set_cons_succ, ↓n_alloc, n_allocS, Nat.le_refl, n_ldI, n_ldP, n_faP, n_ixS, n_ixA1, n_lenS, n_ldA, n_ldC, n_ldB, n_faA, n_stP, n_stA, undef, Int.reduceNeg, en_56, elT_31, ldT_50, zeroT_50, szT_50, flT_50_0, flT_50_1, ldT_37, elT_37, ldT_3, rows_drop, en_16, *]) | (refine condL_splitD ?_ ?_ <;> intro) | (refine guardL_splitF ?_ ?_ <;> intro) | (refine ret_tmp ?_) | (refine acx_go rfl (fun _ _ _ h => h) ?_) | (refine allNew_intro fun zr zh => ?_; have zg := zh; (try simp only [AH.set_none] at zg)) | (refine PureF.use (far56 _) ?_)))
      all_goals have hd : ∀ (h : i < rows.length), rows.drop i = rows[i] :: rows.drop (i + 1) := fun h => List.drop_eq_getElem_cons h
      · have hb : i < rows.length := by assumption
        rw [hd hb]; simp only [rightGo]; rw [if_pos (by omega)]
        exact ⟨rfl, hs.of_set (hs.none (by assumption))⟩
      · have hb : i < rows.length := by assumption
        have hf : far rows[i].b = false := by assumption
        refine contains16 (p := far) (by omega) (fun x _ => FnAt.lit en_56 (far56 x)) ?_
        have hgo2 : rightGo (rows.drop i) = if rows[i].c.any far then 4 else rightGo (rows.drop (i + 1)) := by
          rw [hd hb]; simp only [rightGo]; rw [if_neg (by omega)]
          rw [hf, Bool.false_or]
        rw [hgo2]
        clear hd
        (repeat' (first | (simp only [↓s_skip, ↓s_reg, ↓s_seq, ↓s_cond, ↓s_ret, ↓s_nil, ↓s_consN, ↓s_thenN, ↓s_thenR, ↓s_inN, ↓s_inR, ↓s_kret, ↓s_putS, ↓s_dOkS, ↓s_ev_t, ↓s_ev_c, ↓s_upd, ↓s_move, ↓s_assign, ↓s_isBool, ↓s_pickA, ↓s_pick, ↓s_bin, ↓s_bin_add, boolV, ite_true, ite_false, Nat.reduceEqDiff, Nat.reduceLT, true_and, Bool.false_eq_true, Nat.succ_ne_self, eq_self, *]) | (refine condL_split ?_ ?_ <;> intro) | (refine ret_tmp ?_) | (refine SubH.of_set ?_ ?_)))
        · exact hs.none (by assumption)
        · rw [wrap_ok (by omega) (by omega)]
          exact ⟨⟨hs.of_set (hs.none (by assumption)), i + 1, by omega, by simp, rfl⟩, by omega⟩
      · have hb : i < rows.length := by assumption
        have hf : far rows[i].b = true := by assumption
        rw [hd hb]; simp only [rightGo]; rw [if_neg (by omega), hf, Bool.true_or, if_pos rfl]
        exact ⟨rfl, hs.of_set (hs.none (by assumption))⟩
      · rw [List.drop_eq_nil_of_le (by omega)]
        rfl
def unkGo : List Row → Int → Int
  | [], m => m
  | r :: rs, m => unkGo rs (max m r.c.length)
def unkF (rows : List Row) : Int := unkGo rows 0
theorem unknowns37 (rows : List Row) (hn : (rows.length : Int) ≤ 9223372036854775806) : PureF Try.prog 37 [rowsV rows] (iV (unkF rows)) := by
  refine PureF.forget fun H => ?_
  refine vcalls_intro fd37 (by simp) ?_
  unfold c37
  (repeat' (first | (simp only [↓s_reg, ↓s_seq, ↓s_seqL, ↓s_block, ↓s_loop, ↓s_nil, ↓s_consN, ↓s_thenN, ↓s_kret, ↓s_putS, ↓s_dOkS, ↓s_ev_t, ↓s_ev_c, ↓s_upd, ↓s_move, ↓s_assign, ↓s_callB, ↓s_len, intV, List.map_cons, List.map_nil, List.getD_cons_zero, List.getD_cons_succ, List.getD_nil, ite_true, ite_false, Nat.reduceEqDiff, Nat.reduceLT, ne_eq, not_false_eq_true, true_and, reduceCtorEq, undefV, eq_self, n_lenS, undef, elT_31, *])))
  refine acx_loop (fun _ _ _ h => h) (fun A H' => SubH H H' ∧ A.d = [] ∧ A.t 6 = rowsV rows ∧ A.t 7 = iV rows.length ∧ ∃ (i : Nat) (m : Int), i ≤ rows.length ∧ A.t 8 = iV i ∧ A.t 3 = iV m ∧ unkF rows = unkGo (rows.drop i) m)
    (fun A _ => match A.t 8 with | .lit (.int _ i) => ((rows.length : Int) - i).toNat | _ => 0) ?_ ?_
  · exact ⟨SubH.refl _, rfl, rfl, rfl, 0, 0, by simp, rfl, rfl, rfl⟩
  · rintro ⟨t, d⟩ H' ⟨hs, rfl, h6, h7, i, m, hi, h8, h3, hgo⟩
    dsimp only at h3 h6 h7 h8
    rw [hgo]
    (repeat' (first | (simp only [↓s_skip, ↓s_reg, ↓s_seq, ↓s_cond, ↓s_block, ↓s_exit, ↓s_ret, ↓s_nil, ↓s_consN, ↓s_thenN, ↓s_thenE, ↓s_inN, ↓s_inE, ↓s_kret, ↓s_putS, ↓s_putN, ↓s_dOkS, ↓s_dOkN, ↓s_ev_t, ↓s_ev_c, ↓s_upd, ↓s_move, ↓s_assign, ↓s_load, ↓s_store, ↓s_bin, ↓s_alloc, ↓s_fieldAddr, ↓s_indexAddr, ↓s_callB, ↓s_len, ↓s_max, ↓s_bin_lss, ↓s_bin_add, ptrV, intV, List.map_cons, List.map_nil, List.length_cons, List.length_nil, ite_true, ite_false, Nat.reduceEqDiff, Nat.reduceLT, Nat.reduceAdd, ne_eq, not_false_eq_true, true_and, and_true, Nat.succ_ne_self, decide_true, decide_false, reduceCtorEq, Int.natCast_nonneg, Int.toNat_natCast, AH.get, AH.set_set, setAt, List.all_cons, List.all_nil, Bool.and_self, eq_self, Nat.zero_add, Nat.add_zero, List.drop, and_self, vcMax, ldV_f, ldV_t2, Int.ofNat_lt, on_int, cl_agg, on_slice, List.set_cons_zero, List.set_cons_succ, ↓n_alloc, n_allocS, Nat.le_refl, n_ldI, n_ldP, n_faP, n_ixS, n_ixA1, n_lenS, n_ldA, n_ldC, n_ldB, n_faA, n_stP, n_stA, elT_31, ldT_50, zeroT_50, szT_50, flT_50_0, ldT_37, elT_37, rows_drop, *]) | (refine condL_splitD ?_ ?_ <;> intro) | (refine ret_tmp ?_) | (refine acx_go rfl (fun _ _ _ h => h) ?_) | (refine allNew_intro fun zr zh => ?_; have zg := zh; (try simp only [AH.set_none] at zg))))
    · have hb : i < rows.length := by assumption
      rw [wrap_ok (by omega) (by omega)]
      refine ⟨⟨hs.of_set (hs.none (by assumption)), i + 1, max m rows[i].c.length, by omega, by simp, ?_, ?_⟩, by omega⟩
      · congr 2
        split <;> omega
      · rw [List.drop_eq_getElem_cons hb]; rfl
    · rw [List.drop_eq_nil_of_le (by omega)]
      rfl
end Go.PV.Ytefpjfpelicedaa
end
section
/- Rows one by one. -/
set_option linter.unusedVariables false
set_option linter.unusedSimpArgs false
namespace Go.PV.Ytefpjfpelicedaa
open Go Go.Proofs
abbrev W (n : Int) : Int := IntKind.i64.wrap n
def floorF (a m : Int) : Int := if a < W (W (a.tdiv m) * m) then W (W (a.tdiv m) - 1) else W (a.tdiv m)
theorem floor68 (a m : Int) (hm : m ≠ 0) : PureF Try.prog 68 [iV a, iV m] (iV (floorF a m)) := by
  intro H
  refine vcalls_intro fd68 (by simp) ?_
  unfold c68
  (repeat' (first | (simp only [↓s_skip, ↓s_reg, ↓s_seq, ↓s_cond, ↓s_ret, ↓s_nil, ↓s_consN, ↓s_thenN, ↓s_kret, ↓s_putS, ↓s_dOkS, ↓s_ev_t, ↓s_ev_c, ↓s_upd, ↓s_move, ↓s_assign, ↓s_bin, ↓s_bin_gtr, ↓s_bin_sub, ↓s_bin_mul, ↓s_bin_quo, List.getD_cons_zero, List.getD_cons_succ, List.getD_nil, ite_true, ite_false, Nat.reduceEqDiff, Nat.reduceLT, not_false_eq_true, true_and, Nat.succ_ne_self, decide_true, decide_false, reduceCtorEq, undefV, eq_self, and_self, undef, floorF, *]) | (refine condL_splitD ?_ ?_ <;> intro) | (refine ret_tmp ?_)))
def floorR (a m : Int) : Int := if a.tmod m < 0 then W (W (a.tdiv m) - 1) else W (a.tdiv m)
theorem floor72 (a m : Int) (hm : m ≠ 0) : PureF Try.prog 72 [iV a, iV m] (iV (floorR a m)) := by
  intro H
  refine vcalls_intro fd72 (by simp) ?_
  unfold c72
  (repeat' (first | (simp only [↓s_skip, ↓s_reg, ↓s_seq, ↓s_cond, ↓s_ret, ↓s_nil, ↓s_consN, ↓s_thenN, ↓s_kret, ↓s_putS, ↓s_dOkS, ↓s_ev_t, ↓s_ev_c, ↓s_upd, ↓s_move, ↓s_assign, ↓s_bin, ↓s_bin_lss, ↓s_bin_sub, ↓s_bin_quo, ↓s_bin_rem, List.getD_cons_zero, List.getD_cons_succ, List.getD_nil, ite_true, ite_false, Nat.reduceEqDiff, Nat.reduceLT, not_false_eq_true, true_and, Nat.succ_ne_self, decide_true, decide_false, reduceCtorEq, undefV, eq_self, and_self, undef, floorR, *]) | (refine condL_splitD ?_ ?_ <;> intro) | (refine ret_tmp ?_)))
def absurdF (r : Row) : Bool := decide (r.b < 0) && !(r.c.any fun c => !decide (c = 0))
theorem absurd41 (r : Row) (hn : (r.c.length : Int) ≤ 9223372036854775806) : PureF Try.prog 41 [rowV r] (boolV (absurdF r)) := by
  refine PureF.forget fun H => ?_
  refine vcalls_intro fd41 (by simp) ?_
  unfold c41
  (repeat' (first | (simp only [↓s_reg, ↓s_seq, ↓s_ret, ↓s_nil, ↓s_consN, ↓s_consG, ↓s_guardTT, ↓s_guardFT, ↓s_thenN, ↓s_kret, ↓s_putS, ↓s_dOkS, ↓s_ev_t, ↓s_ev_c, ↓s_ev_f, ↓s_upd, ↓s_move, ↓s_assign, ↓s_isBool, ↓s_pickA, ↓s_pick, ↓s_load, ↓s_bin, ↓s_box, ↓s_fieldAddr, ↓s_callV, ↓s_callL, ↓s_bin_lss, ptrV, boolV, List.map_cons, List.map_nil, List.getD_cons_zero, List.getD_cons_succ, List.getD_nil, ite_true, ite_false, Nat.reduceEqDiff, Nat.reduceLT, ne_eq, not_false_eq_true, true_and, Bool.false_eq_true, Nat.succ_ne_self, decide_true, decide_false, Bool.true_and, Bool.false_and, callOk, undefV, AH.get, eq_self, Nat.zero_add, Nat.add_zero, List.drop, ldV_f, cl_agg, ↓n_box, n_ldP, n_faP, n_ldA, n_ldB, n_faA, undef, flT_50_1, flT_50_0, ldT_3, ldT_37, en_16, absurdF, *]) | (refine guardL_splitTD ?_ ?_ <;> intro) | (refine ret_tmp ?_) | (refine allNew_intro fun zr zh => ?_; have zg := zh; (try simp only [AH.set_none] at zg)) | (exact SubH.refl _) | (refine SubH.of_set ?_ ?_)))
  refine contains16 (p := fun c => !decide (c = 0)) hn (fun x _ => FnAt.lit en_63 (nonzero63 x)) ?_
  (repeat' (first | (simp only [↓s_ret, ↓s_nil, ↓s_consN, ↓s_consG, ↓s_guardTT, ↓s_thenN, ↓s_kret, ↓s_putS, ↓s_dOkS, ↓s_ev_t, ↓s_ev_c, ↓s_upd, ↓s_assign, ↓s_isBool, ↓s_pickA, ↓s_pick, ↓s_un, ↓s_un_not, boolV, List.getD_cons_succ, List.getD_nil, ite_true, ite_false, Nat.reduceEqDiff, Nat.reduceLT, true_and, Nat.succ_ne_self, eq_self, *]) | (refine ret_tmp ?_) | (exact SubH.refl _) | (refine SubH.of_set ?_ ?_)))
def coeffF (r : Row) (k : Int) : Int := if k < r.c.length then r.c.getD k.toNat 0 else 0
theorem coeff45 (r : Row) (k : Int) (hk : 0 ≤ k) : PureF Try.prog 45 [rowV r, iV k] (iV (coeffF r k)) := by
  refine PureF.forget fun H => ?_
  refine vcalls_intro fd45 (by simp) ?_
  unfold c45
  obtain ⟨i, rfl⟩ := Int.eq_ofNat_of_zero_le hk
  (repeat' (first | (simp only [↓s_skip, ↓s_reg, ↓s_seq, ↓s_cond, ↓s_ret, ↓s_nil, ↓s_consN, ↓s_thenN, ↓s_thenR, ↓s_kret, ↓s_putS, ↓s_dOkS, ↓s_ev_t, ↓s_ev_c, ↓s_upd, ↓s_move, ↓s_assign, ↓s_load, ↓s_bin, ↓s_box, ↓s_fieldAddr, ↓s_indexAddr, ↓s_callB, ↓s_len, ↓s_bin_lss, ptrV, intV, List.map_cons, List.map_nil, List.getD_cons_zero, List.getD_cons_succ, List.getD_nil, ite_true, ite_false, Nat.reduceEqDiff, Nat.reduceLT, ne_eq, not_false_eq_true, true_and, Nat.succ_ne_self, decide_true, decide_false, reduceCtorEq, Int.toNat_natCast, Nat.mul_one, undefV, AH.get, eq_self, Nat.add_zero, List.drop, and_self, ldV_f, Int.ofNat_lt, cl_agg, ↓n_box, n_ldI, n_ldP, n_faP, n_ixS, n_ixA1, n_lenS, n_ldA, n_ldC, n_ldB, n_faA, undef, flT_39_0, ldT_3, ldT_37, elT_37, coeffF, ints_drop, *]) | (refine condL_splitD ?_ ?_ <;> intro) | (refine ret_tmp ?_) | (refine allNew_intro fun zr zh => ?_; have zg := zh; (try simp only [AH.set_none] at zg)) | (exact SubH.refl _) | (refine SubH.of_set ?_ ?_)))
  refine ⟨by congr 2; simp [List.getD_eq_getElem?_getD, *], SubH.new (by assumption)⟩
/-- The sum of a row's numbers times others, asg the machine adds it. -/
def dotGo : List Int → List Int → Int → Int
  | c :: cs, y :: ys, s => dotGo cs ys (W (s + W (c * y)))
  | _, _, s => s
def over (x : List Int) (r : Row) : Bool := decide (r.b < dotGo r.c x 0)
end Go.PV.Ytefpjfpelicedaa
end
section
/- Copies. -/
set_option linter.unusedVariables false
set_option linter.unusedSimpArgs false
set_option maxRecDepth 20000
namespace Go.PV.Ytefpjfpelicedaa
open Go Go.Proofs
theorem ints_one (l : List Int) : (encC intE l).all VV.one = true := by
  induction l with
  | nil => rfl
  | cons x l ih => rw [encC_cons]; simp [ih, VV.one, Value.oneCell']
theorem ints_len (l : List Int) : (encC intE l).length = l.length := by simpa using encC_length (enc := intE) (k := 1) (fun _ => rfl) l
theorem ints_src (H : AH) (l : List Int) : srcV H 1 (intsV l) = some (l.length, encC intE l) := by
  have h := ints_len l
  simp only [srcV, Nat.mul_one, h, Nat.le_refl, if_true]
  rw [List.take_of_length_le (by omega)]
theorem ints_set (l : List Int) (i : Nat) (x : Int) : (encC intE l).set i (iV x) = encC intE (l.set i x) := by
  induction l generalizing i with
  | nil => rfl
  | cons y l ih =>
    cases i with
    | zero => rfl
    | succ i => rw [List.set_cons_succ, encC_cons, encC_cons, ← ih]; rfl
theorem clone25 (l : List Int) (hn : (l.length : Int) ≤ 1000000) : PureF Try.prog 25 [intsV l] (intsV l) := by
  refine GivesF.pure fun H => ?_
  refine vcalls_intro fd25 (by simp) ?_
  unfold c25
  (repeat' (first | (simp only [↓s_reg, ↓s_seq, ↓s_nil, ↓s_consN, ↓s_thenN, ↓s_putS, ↓s_dOkS, ↓s_ev_t, ↓s_ev_c, ↓s_upd, ↓s_move, ↓s_assign, ↓s_bin, List.getD_cons_zero, List.getD_cons_succ, List.getD_nil, ite_true, ite_false, Nat.reduceLT, true_and, Nat.succ_ne_self, reduceCtorEq, undefV, eq_self, undef, *])))
  refine eq_nil und_37 fun b hb => ?_
  (repeat' (first | (simp only [↓s_skip, ↓s_reg, ↓s_seq, ↓s_cond, ↓s_ret, ↓s_nil, ↓s_consN, ↓s_thenN, ↓s_thenR, ↓s_kret, ↓s_putS, ↓s_dOkS, ↓s_ev_t, ↓s_ev_c, ↓s_upd, ↓s_move, ↓s_assign, ↓s_buildSlice, ↓s_callB, ↓s_append, boolV, List.map_cons, List.map_nil, List.length_cons, List.length_nil, List.getD_cons_zero, List.getD_cons_succ, List.getD_nil, ite_true, ite_false, Nat.reduceEqDiff, Nat.reduceLT, Nat.reduceLeDiff, true_and, Nat.succ_ne_self, reduceCtorEq, Nat.mul_one, fillV, eq_self, Nat.zero_add, and_self, vcBuildSlice, List.replicate_zero, List.flatten_nil, vcBuildSlice, elT_37, zeroT_3, *]) | (refine condL_split ?_ ?_ <;> intro) | (refine ret_tmp ?_)))
  · have h0 : l = [] := by
      cases l with
      | nil => rfl
      | cons x l => have := hb (by simp); simp_all
    subst h0
    exact ⟨_, rfl, GhV.nil H⟩
  · refine append_clip elT_37 zeroT_3 rfl (by omega) rfl (ints_src H l) (ints_one l) (by omega) (by omega) (fun h0 => ?_) (fun h0 v' H' ho => ?_)
    · have h0 : l = [] := List.eq_nil_of_length_eq_zero h0
      subst h0
      (repeat' (first | (simp only [↓s_ret, ↓s_nil, ↓s_consN, ↓s_thenN, ↓s_kret, ↓s_putS, ↓s_dOkS, ↓s_ev_t, ↓s_upd, ↓s_assign, List.getD_cons_succ, List.getD_nil, ite_true, ite_false, Nat.reduceEqDiff, Nat.reduceLT, true_and, Nat.succ_ne_self, eq_self, *]) | (refine ret_tmp ?_)))
      exact ⟨_, rfl, GhV.imm H⟩
    · (repeat' (first | (simp only [↓s_ret, ↓s_nil, ↓s_consN, ↓s_thenN, ↓s_kret, ↓s_putS, ↓s_dOkS, ↓s_ev_t, ↓s_upd, ↓s_assign, List.getD_cons_succ, List.getD_nil, ite_true, ite_false, Nat.reduceEqDiff, Nat.reduceLT, true_and, Nat.succ_ne_self, eq_self, *]) | (refine ret_tmp ?_)))
      refine ⟨_, rfl, ?_⟩
      have := GhV.own ho
      simpa using this
def wideL (l : List Int) (n : Nat) : List Int := (l ++ List.replicate n 0).take n
def wideR (r : Row) (n : Nat) : Row := ⟨wideL r.c n, r.b⟩
theorem zeros_int (n : Nat) : (List.replicate n [Value.int IntKind.i64 0]).flatten.map VV.lit = encC intE (List.replicate n 0) := by
  induction n with
  | zero => rfl
  | succ n ih => rw [List.replicate_succ, List.replicate_succ, encC_cons, List.flatten_cons, List.map_append, ih]; rfl
theorem wide_set (l : List Int) (n : Nat) (h : l.length ≤ n) : setAt (encC intE (List.replicate n 0)) 0 ((encC intE l).take n) = encC intE (wideL l n) := by
  have h1 := ints_len l
  have h2 : (encC intE (List.replicate n 0)).length = n := by rw [ints_len]; simp
  rw [List.take_of_length_le (by omega), setAt_eq _ _ _ (by omega)]
  rw [List.take_zero, List.nil_append, Nat.zero_add, h1]
  have h3 : wideL l n = l ++ List.replicate (n - l.length) 0 := by
    rw [wideL, List.take_append, List.take_of_length_le h, List.take_replicate, Nat.min_eq_left (by omega)]
  rw [h3, encC_append]
  congr 1
  have : List.replicate n (0 : Int) = List.replicate l.length 0 ++ List.replicate (n - l.length) 0 := by
    rw [List.replicate_append_replicate]; congr 1; omega
  rw [this, encC_append, List.drop_append, List.drop_eq_nil_of_le (by rw [ints_len]; simp), ints_len]
  simp
theorem wide_len (l : List Int) (n : Nat) : (wideL l n).length = n := by simp [wideL]
theorem wide_row (r : Row) (n : Nat) (h : r.c.length ≤ n) : rowV (wideR r n) = .agg [.slice false n (encC intE (wideL r.c n)), iV r.b] := by
  simp only [wideR, rowV, rowE, intsV, encS, wide_len]
theorem wide67 (r : Row) (n : Nat) (hn : (n : Int) ≤ 1000) (hl : r.c.length ≤ n) : PureF Try.prog 67 [rowV r, iV n] (rowV (wideR r n)) := by
  refine GivesF.pure fun H => ?_
  refine vcalls_intro fd67 (by simp) ?_
  unfold c67
  have h1 : (0 : Int) ≤ n := by omega
  have h2 : ((8 : Nat) : Int) * n ≤ 281474976710656 := by omega
  have h3 : (n : Int) ≤ 9223372036854775807 := by omega
  (repeat' (first | (simp only [↓s_reg, ↓s_seq, ↓s_dreg, ↓s_nil, ↓s_consN, ↓s_thenN, ↓s_kret, ↓s_putS, ↓s_putN, ↓s_dOkS, ↓s_dOkN, ↓s_ev_t, ↓s_upd, ↓s_move, ↓s_load, ↓s_store, ↓s_alloc, ↓s_box, ↓s_build, ↓s_makeSlice, ↓s_fieldAddr, ↓s_callB, ↓s_copy, ptrV, List.map_cons, List.map_nil, List.length_cons, List.length_nil, List.getD_cons_zero, List.getD_cons_succ, List.getD_nil, ite_true, ite_false, Nat.reduceEqDiff, Nat.reduceLT, Nat.reduceAdd, Nat.reduceLeDiff, ne_eq, not_false_eq_true, true_and, Nat.succ_ne_self, Int.toNat_natCast, undefV, ↓s_plFin, ↓s_plTkN, ↓s_plOneN, ↓s_plTwo, AH.get, AH.set_set, vcBuild, fillV, setAt, List.all_cons, List.all_nil, Bool.and_self, eq_self, Nat.zero_add, Nat.add_zero, List.drop, and_self, List.getElem?_cons_zero, List.getElem?_cons_succ, ldV_f, Int.ofNat_le, cl_int, on_int, cl_sl, on_sl, cl_agg, List.set_cons_zero, List.set_cons_succ, ↓n_alloc, n_allocS, ↓n_box, ↓n_make, n_makeS, n_makeT, Nat.le_refl, n_ldP, n_faP, n_ldA, n_ldB, n_faA, n_stP, n_stA, ↓s_plK, ↓s_oneK, undef, zeroT_50, szT_50, elT_37, zeroT_3, flT_50_1, flT_50_0, ldT_3, ldT_37, stT_50, zeros_int, *]) | (refine acx_dreg mixed (fun _ _ _ _ e h => ⟨e.trans h.1, h.2⟩) _ (SubH.refl _) ?_) | (refine And.intro (SubH.new (by assumption)) ?_) | (refine allNew_intro fun zr zh => ?_; have zg := zh; (try simp only [AH.set_none] at zg)) | (exact SubH.refl _) | (refine SubH.of_set ?_ ?_) | (with_reducible refine And.intro ?_ ?_)))
  all_goals refine copy_at elT_37 (by simp only [AH.get, *, if_true, if_false]; rfl) (ints_src _ _) (ints_one _) (by rw [ints_len]; simp) ?_
  all_goals rw [wide_set _ _ hl]
  all_goals (repeat' (first | (simp only [↓s_reg, ↓s_seq, ↓s_ret, ↓s_nil, ↓s_consN, ↓s_thenN, ↓s_kret, ↓s_putS, ↓s_putN, ↓s_dOkS, ↓s_dOkN, ↓s_ev_t, ↓s_upd, ↓s_load, ↓s_store, intV, List.length_cons, List.length_nil, List.getD_cons_succ, List.getD_nil, ite_true, ite_false, Nat.reduceEqDiff, Nat.reduceLT, Nat.reduceAdd, true_and, Nat.succ_ne_self, AH.get, setAt, List.all_cons, List.all_nil, Bool.and_self, eq_self, Nat.zero_add, List.drop, ldV_t2, on_int, on_sl, cl_agg, List.set_cons_zero, List.set_cons_succ, Nat.le_refl, n_ldP, n_ldA, n_ldB, n_stP, n_stA, szT_50, ldT_50, *])))
  all_goals refine ret_cell ldT_50 (by simp only [s_upd, Nat.reduceEqDiff, if_true, if_false]; rfl) (by simp only [AH.get, *, if_true, if_false]; rfl) (by rw [List.drop_zero]; exact ldV_t2 _ _ _) ?_
  all_goals refine ⟨_, rfl, ?_⟩
  all_goals rw [wide_row r n hl]
  all_goals refine GhV.row (by simp only [AH.get, *, if_true, if_false]; rfl) (Nat.le_refl _) ?_ (by simp only [*])
  all_goals repeat (first | exact SubH.refl _ | refine SubH.of_set ?_ (by simp only [*]))
end Go.PV.Ytefpjfpelicedaa
end
section
/- Structs of numbers compared. -/
set_option linter.unusedVariables false
set_option linter.unusedSimpArgs false
namespace Go.PV
def intFlds (P : Program) : List Field → Option (List Nat)
  | [] => some []
  | f :: fs =>
    if f.name = "_" then none else
    match ldT P f.type, P.underlying f.type with
    | some (1, false), some (.int _) => (intFlds P fs).map fun l => f.offset :: l
    | _, _ => none
theorem eqFields_ints {P : Program} {w : World} {d : Nat} {xs ys : Array Value} : ∀ (fs : List Field) (offs : List Nat), intFlds P fs = some offs → (∀ o ∈ offs, ∃ a b : Int, xs[o]? = some (.int .i64 a) ∧ ys[o]? = some (.int .i64 b)) →
    ∃ r, (Op.eqFields (d + 1) xs ys fs).run P w = .ok r w ∧ (r = true ↔ ∀ o ∈ offs, xs[o]? = ys[o]?)
  | [], offs, h, _ => by
    simp only [intFlds, Option.some.injEq] at h
    subst h
    exact ⟨true, by simp [Op.eqFields], by simp⟩
  | f :: fs, offs, h, hv => by
    simp only [intFlds] at h
    split at h
    · cases h
    · rename_i hn
      split at h
      · rename_i k hl hu
        simp only [Option.map_eq_some_iff] at h
        obtain ⟨offs', h', rfl⟩ := h
        obtain ⟨a, b, ha, hb⟩ := hv f.offset (by simp)
        obtain ⟨r, g1, g2⟩ := eqFields_ints (P := P) (w := w) (d := d) (xs := xs) (ys := ys) fs offs' h' (fun o ho => hv o (by simp [ho]))
        have e := run_equalIn_int (P := P) w d f.type .i64 k a b hu
        refine ⟨(a == b) && r, ?_, ?_⟩
        · have pa : (part f.type xs f.offset).run P w = .ok (.int .i64 a) w := by simp [part, run_isAgg' hl, ha]
          have pb : (part f.type ys f.offset).run P w = .ok (.int .i64 b) w := by simp [part, run_isAgg' hl, hb]
          simp only [Op.eqFields]
          rw [if_pos (by simpa using hn)]
          simp only [Sem.run_bind, pa, pb, Result.andThen_ok, e]
          cases hab : (a == b)
          · simp
          · simp [g1]
        · have hab : (a == b) = true ↔ a = b := by simp
          simp only [Bool.and_eq_true, hab, g2, List.mem_cons, forall_eq_or_imp, ha, hb, Option.some.injEq, Value.int.injEq, true_and]
      · cases h
theorem eqAgg_ints {P : Program} {t : TypeId} {offs : List Nat} {xs ys : List Value} (hg : P.eqGuardType P.depth t = false) (ht : P.underlying t = some (.struct (P.fieldsOf t))) (hp : P.stoodInHeld t = false) (ho : intFlds P (P.fieldsOf t).toList = some offs)
    (hv : ∀ o ∈ offs, ∃ a b : Int, xs[o]? = some (.int .i64 a) ∧ ys[o]? = some (.int .i64 b)) : ∃ r, EqAgg P t xs ys r ∧ (r = true ↔ ∀ o ∈ offs, xs[o]? = ys[o]?) := by
  have key : ∀ w : World, ∃ r, (Op.equal t (.agg xs.toArray) (.agg ys.toArray)).run P w = .ok r w ∧ (r = true ↔ ∀ o ∈ offs, xs[o]? = ys[o]?) := by
    intro w
    obtain ⟨r, h1, h2⟩ := eqFields_ints (P := P) (w := w) (d := 9998) (xs := xs.toArray) (ys := ys.toArray) _ offs ho (by simpa using hv)
    refine ⟨r, ?_, by simpa using h2⟩
    have := run_equalIn_agg (P := P) w 9999 t xs.toArray ys.toArray ht hp
    show (Op.equalIn 10000 t _ _).run P w = _
    exact this.trans h1
  obtain ⟨r, _, hr⟩ := key default
  refine ⟨r, ⟨hg, fun w => ?_⟩, hr⟩
  obtain ⟨r', h1, h2⟩ := key w
  have : r = r' := by rw [Bool.eq_iff_iff, hr, h2]
  rw [this]; exact h1
end Go.PV
end
section
/- The row of a line: what is ahead. -/
set_option linter.unusedVariables false
set_option linter.unusedSimpArgs false
set_option maxRecDepth 20000
namespace Go.PV.Ytefpjfpelicedaa
open Go Go.Proofs
structure Line where
  k : Int
  a : Int
  b : Int
  m : Int
  n : Int
deriving DecidableEq
abbrev lineE (x : Line) : List VV := [iV x.k, iV x.a, iV x.b, iV x.m, iV x.n]
abbrev lineV (x : Line) : VV := .agg (lineE x)
abbrev linesV (l : List Line) : VV := encS lineE l
theorem lines_drop {l : List Line} {i : Nat} (hi : i < l.length) : (encC lineE l).drop (i * 5) = iV l[i].k :: iV l[i].a :: iV l[i].b :: iV l[i].m :: iV l[i].n :: encC lineE (l.drop (i + 1)) := encC_drop (enc := lineE) (k := 5) (fun _ => rfl) hi
theorem line_eq (x y : Line) : ∃ r, EqAgg Try.prog 52 [.int .i64 x.k, .int .i64 x.a, .int .i64 x.b, .int .i64 x.m, .int .i64 x.n] [.int .i64 y.k, .int .i64 y.a, .int .i64 y.b, .int .i64 y.m, .int .i64 y.n] r ∧ (r = true ↔ x = y) := by
  obtain ⟨r, h1, h2⟩ := eqAgg_ints (P := Try.prog) (t := 52) (offs := [0, 1, 2, 3, 4]) (xs := [.int .i64 x.k, .int .i64 x.a, .int .i64 x.b, .int .i64 x.m, .int .i64 x.n]) (ys := [.int .i64 y.k, .int .i64 y.a, .int .i64 y.b, .int .i64 y.m, .int .i64 y.n]) (by kernel_rfl) (by kernel_rfl) (by kernel_rfl) (by kernel_rfl) (by simp)
  refine ⟨r, h1, h2.trans ?_⟩
  cases x; cases y
  simp [and_assoc]
theorem bin_line {ox oy : Operand} {x y : Line} {H : AH} {K : VE → AH → Prop} (h : K (.ret (boolV (decide (x = y)))) H) : vcBin Try.prog .eql 52 ox oy (.agg [iV x.k, iV x.a, iV x.b, iV x.m, iV x.n]) (.agg [iV y.k, iV y.a, iV y.b, iV y.m, iV y.n]) H K := by
  obtain ⟨r, h1, h2⟩ := line_eq x y
  have hr : r = decide (x = y) := by rw [Bool.eq_iff_iff, h2]; simp
  simp only [vcBin]
  exact ⟨r, h1, by rw [hr]; exact h⟩
theorem bin_line2 {ox oy : Operand} {k a b m n k' a' b' m' n' : Int} {H : AH} {K : VE → AH → Prop} (h : K (.ret (boolV (decide (k = k' ∧ a = a' ∧ b = b' ∧ m = m' ∧ n = n')))) H) : vcBin Try.prog .eql 52 ox oy (.agg [iV k, iV a, iV b, iV m, iV n]) (.agg [iV k', iV a', iV b', iV m', iV n']) H K := by
  have e : decide (k = k' ∧ a = a' ∧ b = b' ∧ m = m' ∧ n = n') = decide ((⟨k, a, b, m, n⟩ : Line) = ⟨k', a', b', m', n'⟩) := by simp
  rw [e] at h
  exact bin_line (x := ⟨k, a, b, m, n⟩) (y := ⟨k', a', b', m', n'⟩) h
theorem _root_.Go.PV.SlR.own {H : AH} {g c sp n : Nat} {e : TypeId} {cs : List VV} (h : H g = some (.cells e cs sp)) : SlR H (.lit (.slice (some ⟨g, 0, none⟩) n c)) n cs := .inr (.inr ⟨g, 0, c, e, cs, sp, rfl, h, by simp⟩)
theorem factor66d (a : Int) : PureF Try.prog 66 [iV a] (boolV (decide (1 ≤ a ∧ a ≤ 1000000))) := by
  have h := factor66 a
  rwa [← Bool.decide_and] at h
theorem ahead65 {i : Int} {H : AH} {g d : Nat} {e : TypeId} {rv nv mv : VV} {rest : List VV} {n : Nat} {cs : List VV} {sp sp' : Nat} (hg : H g = some (.cells 90 [ptrV d 0] sp)) (hd : H d = some (.cells e (rv :: nv :: mv :: rest) sp')) (hm : SlR H mv n cs) :
    ReadF Try.prog 65 [iV i, ptrV g 0] (boolV (decide (0 ≤ i ∧ i < (n : Int)))) H := by
  unfold ReadF
  refine vcalls_intro fd65 (by simp) ?_
  unfold c65
  (repeat' (first | (simp only [↓s_reg, ↓s_seq, ↓s_ret, ↓s_nil, ↓s_consN, ↓s_consG, ↓s_guardTT, ↓s_guardFT, ↓s_thenN, ↓s_kret, ↓s_putS, ↓s_dOkS, ↓s_ev_t, ↓s_ev_c, ↓s_upd, ↓s_move, ↓s_assign, ↓s_isBool, ↓s_pickA, ↓s_pick, ↓s_load, ↓s_nilCheck, ↓s_bin, ↓s_fieldAddr, ↓s_callB, ↓s_len, ↓s_bin_geq, vcNil, ptrV, boolV, List.map_cons, List.map_nil, List.getD_cons_zero, List.getD_cons_succ, List.getD_nil, ite_true, ite_false, Nat.reduceEqDiff, Nat.reduceLT, ne_eq, not_false_eq_true, true_and, Bool.false_eq_true, Nat.succ_ne_self, decide_true, decide_false, reduceCtorEq, callOk, undefV, eq_self, Nat.zero_add, List.drop, ldV_f, n_ldP, n_faP, n_ldA, n_ldB, n_faA, undef, false_and, ldT_90, flT_74_2, ldT_31, false_and, *]) | (refine guardL_splitTD ?_ ?_ <;> intro) | (refine ret_tmp ?_) | (exact SubH.refl _)))
  refine hm.len (by rw [elT_31]; simp) ?_
  (repeat' (first | (simp only [↓s_ret, ↓s_nil, ↓s_consN, ↓s_consG, ↓s_guardTT, ↓s_thenN, ↓s_kret, ↓s_putS, ↓s_dOkS, ↓s_ev_t, ↓s_ev_c, ↓s_upd, ↓s_assign, ↓s_isBool, ↓s_pickA, ↓s_pick, ↓s_bin, ↓s_bin_lss, intV, List.getD_cons_succ, List.getD_nil, ite_true, ite_false, Nat.reduceEqDiff, Nat.reduceLT, true_and, Nat.succ_ne_self, eq_self, *]) | (refine ret_tmp ?_) | (exact SubH.refl _)))
  all_goals trace_state
end Go.PV.Ytefpjfpelicedaa
end
section
/- The row of a line: what stands behind its four kinds. -/
set_option linter.unusedVariables false
set_option linter.unusedSimpArgs false
set_option maxRecDepth 20000
set_option maxHeartbeats 4000000
namespace Go.PV.Ytefpjfpelicedaa
open Go Go.Proofs
def far2 (a : Int) : Bool := !(decide (-1000000000000 ≤ a) && decide (a ≤ 1000000000000))
def outF (r : Row) : Row × Int := if far2 r.b || r.c.any far2 then (⟨[], 0⟩, 7) else (r, 0)
/-- What stands behind the four kinds. -/
theorem rest47v {H0 H : AH} {t : Nat → VV} {r4 r8 g sp4 sp8 sp c : Nat} {e4 e8 e : TypeId} {x4 y4 : VV} {cs : List Int} {b : Int}
    (h4 : t 4 = ptrV r4 0) (h8 : t 8 = ptrV r8 0) (k4 : H r4 = some (.cells e4 [x4, y4] sp4)) (k8 : H r8 = some (.cells e8 [.lit (.slice (some ⟨g, 0, none⟩) cs.length c), iV b] sp8)) (kg : H g = some (.cells e (encC intE cs) sp)) (hc : cs.length ≤ c)
    (hs : SubH H0 H) (n4 : H0 r4 = none) (ng : H0 g = none) (d1 : ¬ g = r4) (d1' : ¬ r4 = g) (d2 : ¬ r8 = r4) (hn : (cs.length : Int) ≤ 9223372036854775806) :
    vc ⟨Try.prog, 252, none⟩ c47_3 (retPost Try.prog [.cell 4 50, .tmp 5] fun e H' => ∃ y, e = .ret y ∧ GhV H' y H0 (.tuple [rowV (outF ⟨cs, b⟩).1, iV (outF ⟨cs, b⟩).2])) ⟨t, []⟩ H := by
  unfold c47_3
  (repeat' (first | (simp only [↓s_reg, ↓s_seq, ↓s_cond, ↓s_condT, ↓s_ret, ↓s_nil, ↓s_consN, ↓s_consG, ↓s_guardTF, ↓s_guardFF, ↓s_thenN, ↓s_thenR, ↓s_kret, ↓s_putS, ↓s_putN, ↓s_dOkS, ↓s_dOkN, ↓s_ev_t, ↓s_ev_c, ↓s_ev_f, ↓s_upd, ↓s_move, ↓s_assign, ↓s_isBool, ↓s_pickA, ↓s_pick, ↓s_load, ↓s_store, ↓s_build, ↓s_fieldAddr, ↓s_callV, ↓s_callL, ptrV, boolV, List.map_cons, List.map_nil, List.length_cons, List.length_nil, ite_true, ite_false, Nat.reduceEqDiff, Nat.reduceLT, Nat.reduceAdd, ne_eq, not_false_eq_true, true_and, Nat.succ_ne_self, callOk, undefV, vcBuild, fillV, setAt, List.all_cons, List.all_nil, Bool.and_self, eq_self, Nat.zero_add, Nat.add_zero, List.drop, ldV_f, on_int, on_sl, cl_agg, List.set_cons_zero, List.set_cons_succ, Nat.le_refl, n_ldP, n_faP, n_ldA, n_ldB, n_faA, n_stP, n_stA, undef, Int.reduceNeg, flT_50_1, flT_50_0, ldT_3, ldT_37, szT_50, stT_50, en_69, en_16, *]) | (refine guardL_splitF ?_ ?_ <;> intro) | (refine PureF.use (far69 _) ?_)))
  · have hb : far2 b = false := by assumption
    refine contains16m (p := far2) kg hn (fun x _ => FnAt.lit en_69 (far69 x)) ?_
    (repeat' (first | (simp only [↓s_skip, ↓s_reg, ↓s_seq, ↓s_cond, ↓s_ret, ↓s_nil, ↓s_consN, ↓s_thenN, ↓s_thenR, ↓s_kret, ↓s_putS, ↓s_putN, ↓s_dOkS, ↓s_dOkN, ↓s_ev_t, ↓s_ev_c, ↓s_upd, ↓s_assign, ↓s_isBool, ↓s_pickA, ↓s_pick, ↓s_load, ↓s_store, ↓s_build, ptrV, boolV, List.map_cons, List.map_nil, List.length_cons, List.length_nil, ite_true, ite_false, Nat.reduceEqDiff, Nat.reduceLT, Nat.reduceAdd, true_and, Bool.false_eq_true, Nat.succ_ne_self, vcBuild, fillV, setAt, List.all_cons, List.all_nil, Bool.and_self, eq_self, Nat.zero_add, List.drop, ldV_t2, on_int, on_sl, cl_agg, List.set_cons_zero, List.set_cons_succ, Nat.le_refl, n_ldP, n_ldA, n_ldB, n_stP, n_stA, ldT_50, szT_50, stT_50, *]) | (refine condL_split ?_ ?_ <;> intro)))
    · have ha : cs.any far2 = true := by assumption
      refine retPost_ret rfl (x := .tuple [.agg [.lit (.slice none 0 0), iV 0], iV 7]) (by simp only [resV, resAll, resOne, ldT_50, s_upd, Nat.reduceEqDiff, if_true, if_false, AH.get, h4, ptrV, List.drop_zero, ldV_t2, Option.bind_some, Option.map_some, tupV]) ⟨_, rfl, ?_⟩
      simp only [outF, ha, Bool.or_true, if_true]
      exact GhV.tuple (GhL.cons (GhV.agg (GhL.cons ((GhV.nil _).trans (GhV.forget (hs.of_set n4) _)) (GhL.cons (GhV.refl _ _) (GhL.nil _)))) (GhL.cons (GhV.refl _ _) (GhL.nil _)))
    · have ha : cs.any far2 = false := by assumption
      refine retPost_ret rfl (x := .tuple [.agg [.lit (.slice (some ⟨g, 0, none⟩) cs.length c), iV b], iV 0]) (by simp only [resV, resAll, resOne, ldT_50, s_upd, Nat.reduceEqDiff, if_true, if_false, AH.get, h4, ptrV, List.drop_zero, ldV_t2, Option.bind_some, Option.map_some, tupV]) ⟨_, rfl, ?_⟩
      simp only [outF, hb, ha, Bool.or_false, Bool.false_eq_true, if_false]
      exact GhV.tuple (GhL.cons (GhV.row (by rw [AH.get, if_neg d1]; exact kg) hc (hs.of_set n4) ng) (GhL.cons (GhV.refl _ _) (GhL.nil _)))
  · have hb : far2 b = true := by assumption
    refine retPost_ret rfl (x := .tuple [.agg [.lit (.slice none 0 0), iV 0], iV 7]) (by simp only [resV, resAll, resOne, ldT_50, s_upd, Nat.reduceEqDiff, if_true, if_false, AH.get, h4, ptrV, List.drop_zero, ldV_t2, Option.bind_some, Option.map_some, tupV]) ⟨_, rfl, ?_⟩
    simp only [outF, hb, Bool.true_or, if_true]
    refine GhV.tuple (GhL.cons (GhV.agg (GhL.cons ((GhV.nil _).trans (GhV.forget (hs.of_set n4) _)) (GhL.cons (GhV.refl _ _) (GhL.nil _)))) (GhL.cons (GhV.refl _ _) (GhL.nil _)))
theorem rest47w {H0 H : AH} {t : Nat → VV} {r4 r8 g sp4 sp8 sp c n : Nat} {e4 e8 e : TypeId} {x4 y4 : VV} {cs : List Int} {bs : List VV} {b : Int} {x : VV} (hx : x = .tuple [rowV (outF ⟨cs, b⟩).1, iV (outF ⟨cs, b⟩).2]) (hbs : bs = encC intE cs) (hlen : cs.length = n)
    (h4 : t 4 = ptrV r4 0) (h8 : t 8 = ptrV r8 0) (k4 : H r4 = some (.cells e4 [x4, y4] sp4)) (k8 : H r8 = some (.cells e8 [.lit (.slice (some ⟨g, 0, none⟩) n c), iV b] sp8)) (kg : H g = some (.cells e bs sp)) (hc : n ≤ c)
    (hs : SubH H0 H) (n4 : H0 r4 = none) (ng : H0 g = none) (d1 : ¬ g = r4) (d1' : ¬ r4 = g) (d2 : ¬ r8 = r4) (hn : (n : Int) ≤ 9223372036854775806) :
    vc ⟨Try.prog, 252, none⟩ c47_3 (retPost Try.prog [.cell 4 50, .tmp 5] fun e H' => ∃ y, e = .ret y ∧ GhV H' y H0 x) ⟨t, []⟩ H := by
  subst hx; subst hbs; subst hlen
  exact rest47v h4 h8 k4 k8 kg hc hs n4 ng d1 d1' d2 hn
/-- The same for numbers that nothing can change. -/
theorem rest47i {H0 H : AH} {t : Nat → VV} {r4 r8 sp4 sp8 : Nat} {e4 e8 : TypeId} {x4 y4 : VV} {cs : List Int} {b : Int}
    (h4 : t 4 = ptrV r4 0) (h8 : t 8 = ptrV r8 0) (k4 : H r4 = some (.cells e4 [x4, y4] sp4)) (k8 : H r8 = some (.cells e8 [intsV cs, iV b] sp8))
    (hs : SubH H0 H) (n4 : H0 r4 = none) (d2 : ¬ r8 = r4) (hn : (cs.length : Int) ≤ 9223372036854775806) :
    vc ⟨Try.prog, 252, none⟩ c47_3 (retPost Try.prog [.cell 4 50, .tmp 5] fun e H' => ∃ y, e = .ret y ∧ GhV H' y H0 (.tuple [rowV (outF ⟨cs, b⟩).1, iV (outF ⟨cs, b⟩).2])) ⟨t, []⟩ H := by
  unfold c47_3
  (repeat' (first | (refine contains16 (p := far2) hn (fun x _ => FnAt.lit en_69 (far69 x)) ?_) | (simp only [↓s_skip, ↓s_reg, ↓s_seq, ↓s_cond, ↓s_condT, ↓s_ret, ↓s_nil, ↓s_consN, ↓s_consG, ↓s_guardTF, ↓s_guardFF, ↓s_thenN, ↓s_thenR, ↓s_kret, ↓s_putS, ↓s_putN, ↓s_dOkS, ↓s_dOkN, ↓s_ev_t, ↓s_ev_c, ↓s_ev_f, ↓s_upd, ↓s_move, ↓s_assign, ↓s_isBool, ↓s_pickA, ↓s_pick, ↓s_load, ↓s_store, ↓s_build, ↓s_fieldAddr, ↓s_callV, ↓s_callL, ptrV, boolV, List.map_cons, List.map_nil, List.length_cons, List.length_nil, ite_true, ite_false, Nat.reduceEqDiff, Nat.reduceLT, Nat.reduceAdd, ne_eq, not_false_eq_true, true_and, Bool.false_eq_true, Nat.succ_ne_self, callOk, undefV, vcBuild, fillV, setAt, List.all_cons, List.all_nil, Bool.and_self, eq_self, Nat.zero_add, Nat.add_zero, List.drop, ldV_f, ldV_t2, on_int, on_sl, cl_agg, on_slice, List.set_cons_zero, List.set_cons_succ, Nat.le_refl, n_ldP, n_faP, n_ldA, n_ldB, n_faA, n_stP, n_stA, undef, Int.reduceNeg, flT_50_1, flT_50_0, ldT_3, ldT_37, ldT_50, szT_50, stT_50, en_69, en_16, *]) | (refine guardL_splitF ?_ ?_ <;> intro) | (refine condL_split ?_ ?_ <;> intro) | (refine PureF.use (far69 _) ?_)))
  · have hb : far2 b = false := by assumption
    have ha : cs.any far2 = true := by assumption
    refine retPost_ret rfl (x := .tuple [.agg [.lit (.slice none 0 0), iV 0], iV 7]) (by simp only [resV, resAll, resOne, ldT_50, s_upd, Nat.reduceEqDiff, if_true, if_false, AH.get, h4, ptrV, List.drop_zero, ldV_t2, Option.bind_some, Option.map_some, tupV]) ⟨_, rfl, ?_⟩
    simp only [outF, ha, Bool.or_true, if_true]
    exact GhV.tuple (GhL.cons (GhV.agg (GhL.cons ((GhV.nil _).trans (GhV.forget (hs.of_set n4) _)) (GhL.cons (GhV.refl _ _) (GhL.nil _)))) (GhL.cons (GhV.refl _ _) (GhL.nil _)))
  · have hb : far2 b = false := by assumption
    have ha : cs.any far2 = false := by assumption
    refine retPost_ret rfl (x := .tuple [.agg [intsV cs, iV b], iV 0]) (by simp only [resV, resAll, resOne, ldT_50, s_upd, Nat.reduceEqDiff, if_true, if_false, AH.get, h4, ptrV, List.drop_zero, ldV_t2, Option.bind_some, Option.map_some, tupV]) ⟨_, rfl, ?_⟩
    simp only [outF, hb, ha, Bool.or_false, Bool.false_eq_true, if_false]
    exact GhV.forget (hs.of_set n4) _
  · have hb : far2 b = true := by assumption
    refine retPost_ret rfl (x := .tuple [.agg [.lit (.slice none 0 0), iV 0], iV 7]) (by simp only [resV, resAll, resOne, ldT_50, s_upd, Nat.reduceEqDiff, if_true, if_false, AH.get, h4, ptrV, List.drop_zero, ldV_t2, Option.bind_some, Option.map_some, tupV]) ⟨_, rfl, ?_⟩
    simp only [outF, hb, Bool.true_or, if_true]
    refine GhV.tuple (GhL.cons (GhV.agg (GhL.cons ((GhV.nil _).trans (GhV.forget (hs.of_set n4) _)) (GhL.cons (GhV.refl _ _) (GhL.nil _)))) (GhL.cons (GhV.refl _ _) (GhL.nil _)))
/-- The ending of a line that is none. -/
theorem bad47 {H0 H : AH} {t : Nat → VV} {r4 sp4 : Nat} {e4 : TypeId} {z : Int} (h4 : t 4 = ptrV r4 0) (h5 : t 5 = iV z) (k4 : H r4 = some (.cells e4 [.lit (.slice none 0 0), iV 0] sp4)) (hs : SubH H0 H) :
    retPost Try.prog [.cell 4 50, .tmp 5] (fun e H' => ∃ y, e = .ret y ∧ GhV H' y H0 (.tuple [rowV ⟨[], 0⟩, iV z])) .ret ⟨t, []⟩ H := by
  refine retPost_ret rfl (x := .tuple [.agg [.lit (.slice none 0 0), iV 0], iV z]) (by simp only [resV, resAll, resOne, ldT_50, h4, h5, k4, ptrV, List.drop_zero, ldV_t2, Option.bind_some, Option.map_some, tupV]) ⟨_, rfl, ?_⟩
  exact GhV.tuple (GhL.cons (GhV.agg (GhL.cons ((GhV.nil _).trans (GhV.forget hs _)) (GhL.cons (GhV.refl _ _) (GhL.nil _)))) (GhL.cons (GhV.refl _ _) (GhL.nil _)))
end Go.PV.Ytefpjfpelicedaa
end
section
/- The row of a line: rows that are given, and unknowns; what is no line. -/
set_option linter.unusedVariables false
set_option linter.unusedSimpArgs false
set_option maxRecDepth 20000
set_option maxHeartbeats 4000000
namespace Go.PV.Ytefpjfpelicedaa
open Go Go.Proofs
def rowAt (l : List Row) (a : Int) : Row := l.getD a.toNat ⟨[], 0⟩
theorem rows_dropZ {l : List Row} {a : Int} (h0 : 0 ≤ a) (h1 : a < (l.length : Int)) : (encC rowE l).drop (a.toNat * 2) = intsV (rowAt l a).c :: iV (rowAt l a).b :: encC rowE (l.drop (a.toNat + 1)) := by
  have h : a.toNat < l.length := by omega
  rw [rows_drop h]
  simp [rowAt, List.getD_eq_getElem?_getD, h]
def sumL (a b : List Int) (m n : Int) : List Int := List.zipWith (fun x y => x * m + y * n) a b
/-- The row of a line behind those that are there, and the code. -/
def makeF (rows made : List Row) (n : Nat) (l : Line) : Row × Int :=
  if l.k = 1 then (if (l.b = 0 ∧ l.m = 0 ∧ l.n = 0) ∧ 0 ≤ l.a ∧ l.a < (rows.length : Int) then outF (wideR (rowAt rows l.a) n) else (⟨[], 0⟩, 260))
  else if l.k = 2 then (if (l.b = 0 ∧ l.m = 0 ∧ l.n = 0) ∧ 0 ≤ l.a ∧ l.a < (n : Int) then outF ⟨(List.replicate n 0).set l.a.toNat (-1), 0⟩ else (⟨[], 0⟩, 260))
  else if l.k = 3 then (if (0 ≤ l.a ∧ l.a < (made.length : Int)) ∧ (0 ≤ l.b ∧ l.b < (made.length : Int)) ∧ (1 ≤ l.m ∧ l.m ≤ 1000000) ∧ 1 ≤ l.n ∧ l.n ≤ 1000000 then outF ⟨sumL (rowAt made l.a).c (rowAt made l.b).c l.m l.n, (rowAt made l.a).b * l.m + (rowAt made l.b).b * l.n⟩ else (⟨[], 0⟩, 260))
  else if l.k = 4 then (if (0 ≤ l.a ∧ l.a < (made.length : Int)) ∧ (1 ≤ l.m ∧ l.m ≤ 1000000) ∧ l.b = 0 ∧ l.n = 0 then
      (if (rowAt made l.a).c.any (fun c => !decide (c.tmod l.m = 0)) then (⟨[], 0⟩, 260) else outF ⟨(rowAt made l.a).c.map (fun c => c.tdiv l.m), floorF (rowAt made l.a).b l.m⟩) else (⟨[], 0⟩, 260))
  else (⟨[], 0⟩, 260)
def makeX (rows made : List Row) (n : Nat) (l : Line) : VV := .tuple [rowV (makeF rows made n l).1, iV (makeF rows made n l).2]
theorem makeX_bad {rows made : List Row} {n : Nat} {l : Line} (h : makeF rows made n l = (⟨[], 0⟩, 260)) : makeX rows made n l = .tuple [rowV ⟨[], 0⟩, iV 260] := by rw [makeX, h]
theorem makeX_out {rows made : List Row} {n : Nat} {l : Line} {r : Row} (h : makeF rows made n l = outF r) : makeX rows made n l = .tuple [rowV (outF r).1, iV (outF r).2] := by rw [makeX, h]
theorem make47a {rows made : List Row} {n : Nat} {l : Line} {H : AH} {d sp : Nat} {e : TypeId} {mv : VV} {rest : List VV} (hd : H d = some (.cells e (rowsV rows :: iV n :: mv :: rest) sp))
    (hrows : ∀ a, (rowAt rows a).c.length ≤ n) (hn : (n : Int) ≤ 1000) (hk : l.k = 1) : GivesF Try.prog 47 [ptrV d 0, lineV l] (makeX rows made n l) H := by
  unfold GivesF
  have hB : ∀ r, H r = none → ¬ d = r := fun r hr => (AH.ne_of hd hr).1
  have hB' : ∀ r, H r = none → ¬ r = d := fun r hr => (AH.ne_of hd hr).2
  have h1 : (0 : Int) ≤ n := by omega
  have h2 : ((8 : Nat) : Int) * n ≤ 281474976710656 := by omega
  have h3 : (n : Int) ≤ 9223372036854775807 := by omega
  refine vcalls_intro fd47 (by simp) ?_
  unfold c47
  (repeat' (first | (simp only [↓s_reg, ↓s_seq, ↓s_seqL, ↓s_cond, ↓s_condF, ↓s_block, ↓s_ret, ↓s_dreg, ↓s_nil, ↓s_consN, ↓s_consG, ↓s_guardTT, ↓s_guardFT, ↓s_thenN, ↓s_thenR, ↓s_inN, ↓s_inR, ↓s_kret, ↓s_putS, ↓s_putN, ↓s_dOkS, ↓s_dOkN, ↓s_ev_t, ↓s_ev_c, ↓s_ev_f, ↓s_upd, ↓s_move, ↓s_assign, ↓s_isBool, ↓s_pickA, ↓s_pick, ↓s_load, ↓s_store, ↓s_nilCheck, ↓s_bin, ↓s_alloc, ↓s_box, ↓s_build, ↓s_makeFunc, ↓s_makeSlice, ↓s_fieldAddr, ↓s_indexAddr, ↓s_callB, ↓s_callV, ↓s_callL, ↓s_len, ↓s_bin_lss, ↓s_bin_geq, ↓s_bin_eql, vcNil, ptrV, intV, boolV, List.map_cons, List.map_nil, List.length_cons, List.length_nil, List.getD_cons_zero, List.getD_cons_succ, List.getD_nil, ite_true, ite_false, Nat.reduceEqDiff, Nat.reduceLT, Nat.reduceAdd, Nat.reduceLeDiff, ne_eq, not_false_eq_true, true_and, Bool.false_eq_true, Nat.succ_ne_self, decide_true, decide_false, reduceCtorEq, Int.toNat_natCast, callOk, undefV, ↓s_plFin, ↓s_plTkN, ↓s_plTkG, AH.get, AH.set_set, vcBuild, fillV, setAt, List.all_cons, List.all_nil, Bool.and_self, eq_self, Nat.zero_add, Nat.add_zero, List.drop, and_self, List.getElem?_cons_zero, List.getElem?_cons_succ, ldV_f, ldV_t2, ldV_t5, Int.ofNat_le, cl_int, on_int, cl_ptr, cl_sl, on_sl, cl_agg, on_slice, List.set_cons_zero, List.set_cons_succ, ↓n_alloc, n_allocS, ↓n_box, ↓n_make, n_makeS, n_makeT, Nat.le_refl, n_ldI, n_ldP, n_faP, n_ixS, n_ixA1, n_lenS, n_ldA, n_ldC, n_ldB, n_faA, n_stP, n_stA, ↓s_plK, ↓s_guardPTT, ↓s_guardPFT, undef, Int.reduceEq, Int.reduceNeg, ldT_90, flT_74_0, flT_74_1, flT_52_0, flT_52_1, ldT_3, ldT_31, ldT_50, ldT_52, zeroT_50, szT_50, elT_31, elT_37, zeroT_3, stT_50, stT_52, zeros_int, en_67, rows_dropZ, *]) | (refine guardP_splitTD ?_ ?_ <;> intro) | (refine condL_splitD ?_ ?_ <;> intro) | (refine acx_go rfl (fun _ _ _ h => h) ?_) | (refine acx_dreg mixed (fun _ _ _ _ e h => ⟨e.trans h.1, h.2⟩) _ (SubH.refl _) ?_) | (refine allNew_intro fun zr zh => ?_; have zg := zh; (try simp only [AH.set_none] at zg)) | (refine PureF.use (wide67 _ _ hn (hrows _)) ?_) | (refine bin_line2 ?_)))
  any_goals
    (rw [makeX_bad (by simp [makeF, *])]; exact bad47 (by simp only [s_upd, Nat.reduceEqDiff, if_true, if_false, ptrV] <;> rfl) (by simp only [s_upd, Nat.reduceEqDiff, if_true, if_false] <;> rfl) (by simp only [AH.get, *, if_true, if_false] <;> rfl) (by repeat (first | exact SubH.refl _ | refine SubH.of_set ?_ (by simp only [*]))))
  have hb : l.b = 0 ∧ l.m = 0 ∧ l.n = 0 := by assumption
  rw [makeX_out (r := wideR (rowAt rows l.a) n) (by simp [makeF, *])]
  exact rest47i (by simp only [s_upd, Nat.reduceEqDiff, if_true, if_false, ptrV] <;> rfl) (by simp only [s_upd, Nat.reduceEqDiff, if_true, if_false, ptrV] <;> rfl) (by simp only [AH.get, *, if_true, if_false, wideR] <;> rfl) (by simp only [AH.get, *, if_true, if_false, wideR] <;> rfl) (by repeat (first | exact SubH.refl _ | refine SubH.of_set ?_ (by simp only [*]))) (by simp only [*]) (by simp only [*, not_false_eq_true]) (by simp [wide_len]; omega)
theorem make47z {rows made : List Row} {n : Nat} {l : Line} {H : AH} {d sp : Nat} {e : TypeId} {mv : VV} {rest : List VV} (hd : H d = some (.cells e (rowsV rows :: iV n :: mv :: rest) sp))
    (hrows : ∀ a, (rowAt rows a).c.length ≤ n) (hn : (n : Int) ≤ 1000) (hk : ¬ l.k = 1 ∧ ¬ l.k = 2 ∧ ¬ l.k = 3 ∧ ¬ l.k = 4) : GivesF Try.prog 47 [ptrV d 0, lineV l] (makeX rows made n l) H := by
  unfold GivesF
  have hB : ∀ r, H r = none → ¬ d = r := fun r hr => (AH.ne_of hd hr).1
  have hB' : ∀ r, H r = none → ¬ r = d := fun r hr => (AH.ne_of hd hr).2
  have h1 : (0 : Int) ≤ n := by omega
  have h2 : ((8 : Nat) : Int) * n ≤ 281474976710656 := by omega
  have h3 : (n : Int) ≤ 9223372036854775807 := by omega
  refine vcalls_intro fd47 (by simp) ?_
  unfold c47
  (repeat' (first | (simp only [↓s_reg, ↓s_seq, ↓s_seqL, ↓s_cond, ↓s_condF, ↓s_block, ↓s_ret, ↓s_dreg, ↓s_nil, ↓s_consN, ↓s_consG, ↓s_guardFT, ↓s_thenN, ↓s_thenR, ↓s_inR, ↓s_kret, ↓s_putS, ↓s_putN, ↓s_dOkS, ↓s_dOkN, ↓s_ev_t, ↓s_ev_c, ↓s_ev_f, ↓s_upd, ↓s_move, ↓s_assign, ↓s_isBool, ↓s_pickA, ↓s_pick, ↓s_load, ↓s_store, ↓s_nilCheck, ↓s_bin, ↓s_alloc, ↓s_box, ↓s_build, ↓s_makeFunc, ↓s_makeSlice, ↓s_fieldAddr, ↓s_bin_eql, vcNil, ptrV, List.map_cons, List.map_nil, List.length_cons, List.length_nil, List.getD_cons_zero, List.getD_cons_succ, List.getD_nil, ite_true, ite_false, Nat.reduceEqDiff, Nat.reduceLT, Nat.reduceAdd, Nat.reduceLeDiff, ne_eq, not_false_eq_true, true_and, Bool.false_eq_true, Nat.succ_ne_self, decide_false, Int.toNat_natCast, callOk, undefV, ↓s_plFin, ↓s_plTkN, ↓s_plTkG, AH.get, AH.set_set, vcBuild, fillV, setAt, List.all_cons, List.all_nil, Bool.and_self, eq_self, Nat.zero_add, Nat.add_zero, List.drop, and_self, List.getElem?_cons_zero, ldV_f, Int.ofNat_le, on_int, cl_ptr, cl_sl, on_sl, cl_agg, List.set_cons_zero, List.set_cons_succ, ↓n_alloc, n_allocS, ↓n_box, ↓n_make, n_makeS, n_makeT, Nat.le_refl, n_ldP, n_faP, n_ldA, n_ldB, n_faA, n_stP, n_stA, ↓s_plK, ↓s_guardPFT, undef, Int.reduceNeg, ldT_90, flT_74_1, flT_52_0, ldT_3, zeroT_50, szT_50, elT_37, zeroT_3, stT_50, zeros_int, *]) | (refine acx_dreg mixed (fun _ _ _ _ e h => ⟨e.trans h.1, h.2⟩) _ (SubH.refl _) ?_) | (refine allNew_intro fun zr zh => ?_; have zg := zh; (try simp only [AH.set_none] at zg))))
  any_goals
    (rw [makeX_bad (by simp [makeF, *])]; exact bad47 (by simp only [s_upd, Nat.reduceEqDiff, if_true, if_false, ptrV] <;> rfl) (by simp only [s_upd, Nat.reduceEqDiff, if_true, if_false] <;> rfl) (by simp only [AH.get, *, if_true, if_false] <;> rfl) (by repeat (first | exact SubH.refl _ | refine SubH.of_set ?_ (by simp only [*]))))
theorem make47b {rows made : List Row} {n : Nat} {l : Line} {H : AH} {d sp : Nat} {e : TypeId} {mv : VV} {rest : List VV} (hd : H d = some (.cells e (rowsV rows :: iV n :: mv :: rest) sp))
    (hrows : ∀ a, (rowAt rows a).c.length ≤ n) (hn : (n : Int) ≤ 1000) (hk : l.k = 2) : GivesF Try.prog 47 [ptrV d 0, lineV l] (makeX rows made n l) H := by
  unfold GivesF
  have hB : ∀ r, H r = none → ¬ d = r := fun r hr => (AH.ne_of hd hr).1
  have hB' : ∀ r, H r = none → ¬ r = d := fun r hr => (AH.ne_of hd hr).2
  have h1 : (0 : Int) ≤ n := by omega
  have h2 : ((8 : Nat) : Int) * n ≤ 281474976710656 := by omega
  have h3 : (n : Int) ≤ 9223372036854775807 := by omega
  refine vcalls_intro fd47 (by simp) ?_
  unfold c47
  (repeat' (first | (simp only [↓s_reg, ↓s_seq, ↓s_seqL, ↓s_cond, ↓s_condF, ↓s_block, ↓s_ret, ↓s_dreg, ↓s_nil, ↓s_consN, ↓s_consG, ↓s_guardTT, ↓s_guardFT, ↓s_thenN, ↓s_thenR, ↓s_inN, ↓s_inR, ↓s_kret, ↓s_putS, ↓s_putN, ↓s_dOkS, ↓s_dOkN, ↓s_ev_t, ↓s_ev_c, ↓s_ev_f, ↓s_upd, ↓s_move, ↓s_assign, ↓s_isBool, ↓s_pickA, ↓s_pick, ↓s_load, ↓s_store, ↓s_nilCheck, ↓s_bin, ↓s_alloc, ↓s_box, ↓s_build, ↓s_makeFunc, ↓s_makeSlice, ↓s_fieldAddr, ↓s_indexAddr, ↓s_bin_lss, ↓s_bin_geq, ↓s_bin_eql, vcNil, ptrV, boolV, List.map_cons, List.map_nil, List.length_cons, List.length_nil, List.getD_cons_zero, List.getD_cons_succ, List.getD_nil, ite_true, ite_false, Nat.reduceEqDiff, Nat.reduceLT, Nat.reduceAdd, Nat.reduceLeDiff, ne_eq, not_false_eq_true, true_and, Bool.false_eq_true, Nat.succ_ne_self, decide_true, decide_false, Int.toNat_natCast, Nat.mul_one, callOk, undefV, ↓s_plFin, ↓s_plTkN, ↓s_plTkG, AH.get, AH.set_set, vcBuild, fillV, setAt, List.all_cons, List.all_nil, Bool.and_self, eq_self, Nat.zero_add, Nat.add_zero, List.drop, and_self, List.getElem?_cons_zero, List.getElem?_cons_succ, ldV_f, ldV_t5, Int.ofNat_le, cl_int, on_int, cl_ptr, cl_sl, on_sl, cl_agg, List.set_cons_zero, List.set_cons_succ, ↓n_alloc, n_allocS, ↓n_box, ↓n_make, n_makeS, n_makeT, Nat.le_refl, n_ldP, n_faP, n_ixL, n_ixA2, n_ldA, n_ldB, n_faA, n_stP, n_stA, ↓s_plK, ↓s_guardPTT, ↓s_guardPFT, undef, Int.reduceEq, Int.reduceNeg, ldT_90, flT_74_1, flT_52_0, flT_52_1, flT_50_0, ldT_3, ldT_37, ldT_52, zeroT_50, szT_50, elT_37, zeroT_3, szT_3, stT_50, stT_52, zeros_int, ints_len, List.length_replicate, *]) | (refine guardP_splitTD ?_ ?_ <;> intro) | (refine condL_splitD ?_ ?_ <;> intro) | (refine acx_go rfl (fun _ _ _ h => h) ?_) | (refine acx_dreg mixed (fun _ _ _ _ e h => ⟨e.trans h.1, h.2⟩) _ (SubH.refl _) ?_) | (refine allNew_intro fun zr zh => ?_; have zg := zh; (try simp only [AH.set_none] at zg)) | (refine bin_line2 ?_) | (with_reducible refine And.intro ?_ ?_)))
  any_goals first | omega | (rw [makeX_bad (by simp [makeF, *])]; exact bad47 (by simp only [s_upd, Nat.reduceEqDiff, if_true, if_false, ptrV] <;> rfl) (by simp only [s_upd, Nat.reduceEqDiff, if_true, if_false] <;> rfl) (by simp only [AH.get, *, if_true, if_false] <;> rfl) (by repeat (first | exact SubH.refl _ | refine SubH.of_set ?_ (by simp only [*]))))
  have hb : l.b = 0 ∧ l.m = 0 ∧ l.n = 0 := by assumption
  rw [makeX_out (r := ⟨(List.replicate n 0).set l.a.toNat (-1), 0⟩) (by simp [makeF, *])]
  exact rest47w (n := n) rfl (ints_set _ _ _) (by simp) (by simp only [s_upd, Nat.reduceEqDiff, if_true, if_false, ptrV] <;> rfl) (by simp only [s_upd, Nat.reduceEqDiff, if_true, if_false, ptrV] <;> rfl) (by simp only [AH.get, *, if_true, if_false] <;> rfl) (by simp only [AH.get, *, if_true, if_false] <;> rfl) (by simp only [AH.get, *, if_true, if_false] <;> rfl) (Nat.le_refl _) (by repeat (first | exact SubH.refl _ | refine SubH.of_set ?_ (by simp only [*]))) (by simp only [*]) (by simp only [*]) (by simp only [*, not_false_eq_true]) (by simp only [*, not_false_eq_true]) (by simp only [*, not_false_eq_true]) (by omega)
end Go.PV.Ytefpjfpelicedaa
end
section
/- The row of a line: sums. -/
set_option linter.unusedVariables false
set_option linter.unusedSimpArgs false
set_option maxRecDepth 20000
set_option maxHeartbeats 4000000
namespace Go.PV.Ytefpjfpelicedaa
open Go Go.Proofs
theorem prod_ok {a m : Int} (ha : far2 a = false) (hm : 1 ≤ m ∧ m ≤ 1000000) : -1000000000000000000 ≤ a * m ∧ a * m ≤ 1000000000000000000 := by
  have h1 : -1000000000000 ≤ a ∧ a ≤ 1000000000000 := by simpa [far2] using ha
  constructor
  · have := Int.mul_le_mul_of_nonneg_right h1.1 (by omega : 0 ≤ m); omega
  · have := Int.mul_le_mul_of_nonneg_right h1.2 (by omega : 0 ≤ m); omega
theorem wsum {a b m k : Int} (ha : far2 a = false) (hb : far2 b = false) (hm : 1 ≤ m ∧ m ≤ 1000000) (hk : 1 ≤ k ∧ k ≤ 1000000) : IntKind.i64.wrap (IntKind.i64.wrap (a * m) + IntKind.i64.wrap (b * k)) = a * m + b * k := by
  have h1 := prod_ok ha hm
  have h2 := prod_ok hb hk
  rw [wrap_ok (n := a * m) (by omega) (by omega), wrap_ok (n := b * k) (by omega) (by omega), wrap_ok (by omega) (by omega)]
theorem take_set {α : Type} {cs ds : List α} {i : Nat} {v : α} (hi : i < cs.length) (hj : i < ds.length) (h : cs.take i = ds.take i) (hv : v = ds[i]) : (cs.set i v).take (i + 1) = ds.take (i + 1) := by
  rw [List.take_succ_eq_append_getElem (by simpa using hi), List.take_succ_eq_append_getElem hj, List.getElem_set_self, ← hv, List.take_set_of_le (by omega), h]
theorem sumloop47 {H0 H : AH} {t : Nat → VV} {r3 r4 r8 r9 r10 g s3 s4 s8 s9 s10 sg n : Nat} {e3 e4 e8 e9 e10 eg : TypeId} {x4 y4 x : VV} {l : Line} {ra rb : Row} {cs0 : List Int}
    (h3 : t 3 = ptrV r3 0) (h4 : t 4 = ptrV r4 0) (h8 : t 8 = ptrV r8 0) (h9 : t 9 = ptrV r9 0) (h10 : t 10 = ptrV r10 0) (h139 : t 139 = iV n) (h140 : t 140 = iV 0)
    (k3 : H r3 = some (.cells e3 (lineE l) s3)) (k4 : H r4 = some (.cells e4 [x4, y4] s4)) (k8 : H r8 = some (.cells e8 [.lit (.slice (some ⟨g, 0, none⟩) n n), iV 0] s8)) (k9 : H r9 = some (.cells e9 (rowE ra) s9)) (k10 : H r10 = some (.cells e10 (rowE rb) s10))
    (kg : H g = some (.cells eg (encC intE cs0) sg)) (hcs : cs0.length = n) (hla : ra.c.length = n) (hlb : rb.c.length = n) (hn : (n : Int) ≤ 1000) (hm : 1 ≤ l.m ∧ l.m ≤ 1000000) (hn' : 1 ≤ l.n ∧ l.n ≤ 1000000)
    (wa : far2 ra.b = false ∧ ∀ c ∈ ra.c, far2 c = false) (wb : far2 rb.b = false ∧ ∀ c ∈ rb.c, far2 c = false)
    (d3 : ¬ r3 = g) (d4 : ¬ r4 = g) (d8 : ¬ r8 = g) (d9 : ¬ r9 = g) (d10 : ¬ r10 = g) (d4' : ¬ g = r4) (d84 : ¬ r8 = r4) (d84' : ¬ r4 = r8) (d8' : ¬ g = r8)
    (hs : SubH H0 H) (n4 : H0 r4 = none) (n8 : H0 r8 = none) (ng : H0 g = none) (hx : x = .tuple [rowV (outF ⟨sumL ra.c rb.c l.m l.n, ra.b * l.m + rb.b * l.n⟩).1, iV (outF ⟨sumL ra.c rb.c l.m l.n, ra.b * l.m + rb.b * l.n⟩).2]) :
    ACx ⟨Try.prog, 252, none⟩ (.loop b47_1) (inBlockA 1 (thenA (ACx ⟨Try.prog, 252, none⟩ c47_1 (inBlockA 0 (thenA (ACx ⟨Try.prog, 252, none⟩ c47_3 (retPost Try.prog [.cell 4 50, .tmp 5] fun e H' => ∃ y, e = .ret y ∧ GhV H' y H0 x)) (retPost Try.prog [.cell 4 50, .tmp 5] fun e H' => ∃ y, e = .ret y ∧ GhV H' y H0 x)))) (inBlockA 0 (thenA (ACx ⟨Try.prog, 252, none⟩ c47_3 (retPost Try.prog [.cell 4 50, .tmp 5] fun e H' => ∃ y, e = .ret y ∧ GhV H' y H0 x)) (retPost Try.prog [.cell 4 50, .tmp 5] fun e H' => ∃ y, e = .ret y ∧ GhV H' y H0 x))))) ⟨t, []⟩ H := by
  have hsl : (sumL ra.c rb.c l.m l.n).length = n := by simp [sumL, *]
  refine acx_loop (fun _ _ _ h => h) (fun A H' => A.d = [] ∧ A.t 3 = ptrV r3 0 ∧ A.t 4 = ptrV r4 0 ∧ A.t 8 = ptrV r8 0 ∧ A.t 9 = ptrV r9 0 ∧ A.t 10 = ptrV r10 0 ∧ A.t 139 = iV n ∧
      H' r3 = some (.cells e3 (lineE l) s3) ∧ H' r4 = some (.cells e4 [x4, y4] s4) ∧ H' r8 = some (.cells e8 [.lit (.slice (some ⟨g, 0, none⟩) n n), iV 0] s8) ∧ H' r9 = some (.cells e9 (rowE ra) s9) ∧ H' r10 = some (.cells e10 (rowE rb) s10) ∧ SubH H0 H' ∧
      ∃ (i : Nat) (cs : List Int), i ≤ n ∧ A.t 140 = iV i ∧ cs.length = n ∧ H' g = some (.cells eg (encC intE cs) sg) ∧ cs.take i = (sumL ra.c rb.c l.m l.n).take i)
    (fun A _ => match A.t 140 with | .lit (.int _ i) => ((n : Int) - i).toNat | _ => 0) ?_ ?_
  · exact ⟨rfl, h3, h4, h8, h9, h10, h139, k3, k4, k8, k9, k10, hs, 0, cs0, by omega, h140, hcs, kg, rfl⟩
  · clear h3 h4 h8 h9 h10 h139 h140 k3 k4 k8 k9 k10 kg hcs hs
    rintro ⟨t, d⟩ H' ⟨rfl, h3, h4, h8, h9, h10, h139, k3, k4, k8, k9, k10, hs, i, cs, hi, h140, hcs, kg, hgo⟩
    dsimp only at h3 h4 h8 h9 h10 h139 h140
    unfold b47_1
    (repeat' (first | (simp only [↓s_skip, ↓s_reg, ↓s_seq, ↓s_cond, ↓s_block, ↓s_exit, ↓s_dreg, ↓s_nil, ↓s_consN, ↓s_thenN, ↓s_thenE, ↓s_inN, ↓s_inE, ↓s_kret, ↓s_putS, ↓s_putN, ↓s_dOkS, ↓s_dOkN, ↓s_ev_t, ↓s_ev_c, ↓s_upd, ↓s_move, ↓s_assign, ↓s_load, ↓s_store, ↓s_bin, ↓s_fieldAddr, ↓s_indexAddr, ↓s_bin_lss, ↓s_bin_add, ↓s_bin_mul, ptrV, List.length_cons, List.length_nil, ite_true, ite_false, Nat.reduceEqDiff, Nat.reduceLT, ne_eq, not_false_eq_true, true_and, Nat.succ_ne_self, decide_true, decide_false, Int.natCast_nonneg, Int.toNat_natCast, Nat.mul_one, ↓s_plFin, ↓s_plTkN, AH.get, setAt, List.all_cons, List.all_nil, Bool.and_self, eq_self, Nat.zero_add, Nat.add_zero, List.drop, and_self, ldV_f, Int.ofNat_lt, cl_int, on_int, n_ldI, n_ldP, n_faP, n_ixS, n_ixL, n_ixA1, n_ixA2, n_ldA, n_ldC, n_ldB, n_faA, n_stP, n_stA, ↓s_plK, flT_50_0, flT_52_3, flT_52_4, ldT_3, ldT_37, elT_37, szT_3, ints_drop, ints_len, *]) | (refine condL_splitD ?_ ?_ <;> intro) | (refine acx_go rfl (fun _ _ _ h => h) ?_) | (refine acx_dreg mixed (fun _ _ _ _ e h => ⟨e.trans h.1, h.2⟩) _ (SubH.refl _) ?_) | (refine SubH.of_set ?_ ?_) | assumption | (with_reducible refine And.intro ?_ ?_)))
    · have hb : i < n := by assumption
      rw [wrap_ok (n := (i : Int) + 1) (by omega) (by omega), wsum (wa.2 _ (List.getElem_mem _)) (wb.2 _ (List.getElem_mem _)) hm hn']
      refine ⟨i + 1, cs.set i (ra.c[i] * l.m + rb.c[i] * l.n), by omega, rfl, by simp [hcs], by rw [ints_set], ?_⟩
      exact take_set (by omega) (by omega) hgo (by simp [sumL])
    · have hb : i < n := by assumption
      rw [wrap_ok (n := (i : Int) + 1) (by omega) (by omega)]
      omega
    · have hb : ¬ i < n := by assumption
      have he : cs = sumL ra.c rb.c l.m l.n := by
        rw [List.take_of_length_le (by omega), List.take_of_length_le (by omega)] at hgo
        exact hgo
      subst he
      unfold c47_1
      (repeat' (first | (simp only [↓s_reg, ↓s_nil, ↓s_consN, ↓s_thenN, ↓s_inN, ↓s_kret, ↓s_putS, ↓s_putN, ↓s_dOkS, ↓s_dOkN, ↓s_ev_t, ↓s_upd, ↓s_load, ↓s_store, ↓s_bin, ↓s_fieldAddr, ↓s_bin_add, ↓s_bin_mul, ptrV, List.length_cons, List.length_nil, ite_true, ite_false, Nat.reduceEqDiff, Nat.reduceLT, Nat.reduceAdd, ne_eq, not_false_eq_true, true_and, Nat.succ_ne_self, setAt, List.all_cons, List.all_nil, Bool.and_self, eq_self, Nat.zero_add, List.drop, ldV_f, cl_int, on_int, List.set_cons_zero, List.set_cons_succ, Nat.le_refl, n_ldP, n_faP, n_ldA, n_ldB, n_faA, n_stP, n_stA, flT_50_1, flT_52_3, flT_52_4, ldT_3, szT_3, *]) | (refine acx_go rfl (fun _ _ _ h => h) ?_)))
      rw [wsum wa.1 wb.1 hm hn']
      exact rest47w (n := n) rfl rfl hcs (by simp only [s_upd, Nat.reduceEqDiff, if_false, *] <;> rfl) (by simp only [s_upd, Nat.reduceEqDiff, if_false, *] <;> rfl) (by simp only [AH.get, *, if_false] <;> rfl) (by simp only [AH.get, *, if_true] <;> rfl) (by simp only [AH.get, *, if_false] <;> rfl) (Nat.le_refl _) (by repeat (first | assumption | exact SubH.refl _ | refine SubH.of_set ?_ (by simp only [*]))) n4 ng d4' d4 d84 (by omega)
def divL (a : List Int) (m : Int) : List Int := a.map fun c => c.tdiv m
theorem div_ok {a m : Int} (ha : far2 a = false) (hm : 1 ≤ m ∧ m ≤ 1000000) : IntKind.i64.wrap (a.tdiv m) = a.tdiv m := by
  have h1 : -1000000000000 ≤ a ∧ a ≤ 1000000000000 := by simpa [far2] using ha
  have h2 : (a.tdiv m).natAbs ≤ a.natAbs := Int.natAbs_tdiv_le_natAbs a m
  exact wrap_ok (by omega) (by omega)
theorem divloop47 {H0 H : AH} {t : Nat → VV} {r3 r4 r8 r12 g s3 s4 s8 s12 sg n : Nat} {e3 e4 e8 e12 eg : TypeId} {x4 y4 x : VV} {l : Line} {ra : Row} {cs0 : List Int}
    (h3 : t 3 = ptrV r3 0) (h4 : t 4 = ptrV r4 0) (h8 : t 8 = ptrV r8 0) (h12 : t 12 = ptrV r12 0) (h212 : t 212 = intsV ra.c) (h213 : t 213 = iV n) (h214 : t 214 = iV 0)
    (k3 : H r3 = some (.cells e3 (lineE l) s3)) (k4 : H r4 = some (.cells e4 [x4, y4] s4)) (k8 : H r8 = some (.cells e8 [.lit (.slice (some ⟨g, 0, none⟩) n n), iV 0] s8)) (k12 : H r12 = some (.cells e12 (rowE ra) s12))
    (kg : H g = some (.cells eg (encC intE cs0) sg)) (hcs : cs0.length = n) (hla : ra.c.length = n) (hn : (n : Int) ≤ 1000) (hm : 1 ≤ l.m ∧ l.m ≤ 1000000) (hm0 : ¬ l.m = 0)
    (wa : far2 ra.b = false ∧ ∀ c ∈ ra.c, far2 c = false)
    (d3 : ¬ r3 = g) (d4 : ¬ r4 = g) (d8 : ¬ r8 = g) (d12 : ¬ r12 = g) (d4' : ¬ g = r4) (d84 : ¬ r8 = r4) (d84' : ¬ r4 = r8) (d8' : ¬ g = r8)
    (hs : SubH H0 H) (n4 : H0 r4 = none) (n8 : H0 r8 = none) (ng : H0 g = none)
    (hx : ra.c.any (fun c => !decide (c.tmod l.m = 0)) = false → x = .tuple [rowV (outF ⟨divL ra.c l.m, floorF ra.b l.m⟩).1, iV (outF ⟨divL ra.c l.m, floorF ra.b l.m⟩).2])
    (hy : ra.c.any (fun c => !decide (c.tmod l.m = 0)) = true → x = .tuple [rowV ⟨[], 0⟩, iV 260]) :
    ACx ⟨Try.prog, 252, none⟩ (.loop b47_2) (inBlockA 3 (thenA (ACx ⟨Try.prog, 252, none⟩ c47_2 (inBlockA 0 (thenA (ACx ⟨Try.prog, 252, none⟩ c47_3 (retPost Try.prog [.cell 4 50, .tmp 5] fun e H' => ∃ y, e = .ret y ∧ GhV H' y H0 x)) (retPost Try.prog [.cell 4 50, .tmp 5] fun e H' => ∃ y, e = .ret y ∧ GhV H' y H0 x)))) (inBlockA 0 (thenA (ACx ⟨Try.prog, 252, none⟩ c47_3 (retPost Try.prog [.cell 4 50, .tmp 5] fun e H' => ∃ y, e = .ret y ∧ GhV H' y H0 x)) (retPost Try.prog [.cell 4 50, .tmp 5] fun e H' => ∃ y, e = .ret y ∧ GhV H' y H0 x))))) ⟨t, []⟩ H := by
  have hsl : (divL ra.c l.m).length = n := by simp [divL, *]
  refine acx_loop (fun _ _ _ h => h) (fun A H' => A.d = [] ∧ A.t 3 = ptrV r3 0 ∧ A.t 4 = ptrV r4 0 ∧ A.t 8 = ptrV r8 0 ∧ A.t 12 = ptrV r12 0 ∧ A.t 212 = intsV ra.c ∧ A.t 213 = iV n ∧
      H' r3 = some (.cells e3 (lineE l) s3) ∧ H' r4 = some (.cells e4 [x4, y4] s4) ∧ H' r8 = some (.cells e8 [.lit (.slice (some ⟨g, 0, none⟩) n n), iV 0] s8) ∧ H' r12 = some (.cells e12 (rowE ra) s12) ∧ SubH H0 H' ∧
      ∃ (i : Nat) (cs : List Int), i ≤ n ∧ A.t 214 = iV i ∧ cs.length = n ∧ H' g = some (.cells eg (encC intE cs) sg) ∧ cs.take i = (divL ra.c l.m).take i ∧ ∀ j (h : j < ra.c.length), j < i → ra.c[j].tmod l.m = 0)
    (fun A _ => match A.t 214 with | .lit (.int _ i) => ((n : Int) - i).toNat | _ => 0) ?_ ?_
  · exact ⟨rfl, h3, h4, h8, h12, h212, h213, k3, k4, k8, k12, hs, 0, cs0, by omega, h214, hcs, kg, rfl, fun j _ h => by omega⟩
  · clear h3 h4 h8 h12 h212 h213 h214 k3 k4 k8 k12 kg hcs hs
    rintro ⟨t, d⟩ H' ⟨rfl, h3, h4, h8, h12, h212, h213, k3, k4, k8, k12, hs, i, cs, hi, h214, hcs, kg, hgo, hall⟩
    dsimp only at h3 h4 h8 h12 h212 h213 h214
    unfold b47_2
    (repeat' (first | (simp only [↓s_skip, ↓s_reg, ↓s_seq, ↓s_cond, ↓s_block, ↓s_exit, ↓s_ret, ↓s_dreg, ↓s_nil, ↓s_consN, ↓s_thenN, ↓s_thenE, ↓s_thenR, ↓s_inN, ↓s_inE, ↓s_inR, ↓s_kret, ↓s_putS, ↓s_putN, ↓s_dOkS, ↓s_dOkN, ↓s_ev_t, ↓s_ev_c, ↓s_upd, ↓s_move, ↓s_assign, ↓s_load, ↓s_store, ↓s_bin, ↓s_build, ↓s_fieldAddr, ↓s_indexAddr, ↓s_bin_lss, ↓s_bin_neq, ↓s_bin_add, ↓s_bin_quo, ↓s_bin_rem, ptrV, List.map_cons, List.map_nil, List.length_cons, List.length_nil, ite_true, ite_false, Nat.reduceEqDiff, Nat.reduceLT, Nat.reduceAdd, ne_eq, not_false_eq_true, true_and, Nat.succ_ne_self, decide_true, decide_false, reduceCtorEq, Int.natCast_nonneg, Int.toNat_natCast, Nat.mul_one, ↓s_plFin, ↓s_plTkN, AH.get, vcBuild, fillV, setAt, List.all_cons, List.all_nil, Bool.and_self, eq_self, Nat.zero_add, Nat.add_zero, List.drop, and_self, ldV_f, Int.ofNat_lt, cl_int, on_int, on_sl, cl_agg, List.set_cons_zero, List.set_cons_succ, Nat.le_refl, n_ldI, n_ldP, n_faP, n_ixS, n_ixL, n_ixA1, n_ixA2, n_ldA, n_ldC, n_ldB, n_faA, n_stP, n_stA, ↓s_plK, flT_50_0, flT_52_3, ldT_3, ldT_37, szT_50, stT_50, elT_37, szT_3, ints_drop, ints_len, *]) | (refine condL_splitD ?_ ?_ <;> intro) | (refine condL_split ?_ ?_ <;> intro) | (refine acx_go rfl (fun _ _ _ h => h) ?_) | (refine acx_dreg mixed (fun _ _ _ _ e h => ⟨e.trans h.1, h.2⟩) _ (SubH.refl _) ?_) | (refine SubH.of_set ?_ ?_) | assumption | (with_reducible refine And.intro ?_ ?_)))
    · have hb : i < n := by assumption
      have hc : ra.c[i].tmod l.m ≠ 0 := by simpa using (by assumption : (!decide (ra.c[i].tmod l.m = 0)) = true)
      rw [hy (List.any_eq_true.2 ⟨ra.c[i], List.getElem_mem _, by simpa using hc⟩)]
      exact bad47 (by simp only [s_upd, Nat.reduceEqDiff, if_false, *] <;> rfl) (by simp only [s_upd, Nat.reduceEqDiff, if_true, if_false, *] <;> rfl) (by simp only [AH.get, *, if_true] <;> rfl) (by repeat (first | assumption | exact SubH.refl _ | refine SubH.of_set ?_ (by simp only [*])))
    · have hb : i < n := by assumption
      have hc : ra.c[i].tmod l.m = 0 := by simpa using (by assumption : (!decide (ra.c[i].tmod l.m = 0)) = false)
      rw [wrap_ok (n := (i : Int) + 1) (by omega) (by omega), div_ok (wa.2 _ (List.getElem_mem _)) hm]
      refine ⟨i + 1, cs.set i (ra.c[i].tdiv l.m), by omega, rfl, by simp [hcs], by rw [ints_set], ?_, ?_⟩
      · exact take_set (by omega) (by omega) hgo (by simp [divL])
      · intro j h hj
        by_cases e : j = i
        · subst e; exact hc
        · exact hall j (by omega) (by omega)
    · have hb : i < n := by assumption
      rw [wrap_ok (n := (i : Int) + 1) (by omega) (by omega)]
      omega
    · have hb : ¬ i < n := by assumption
      have he : cs = divL ra.c l.m := by
        rw [List.take_of_length_le (by omega), List.take_of_length_le (by omega)] at hgo
        exact hgo
      subst he
      rw [hx (List.any_eq_false.2 fun c hc => by
        obtain ⟨j, hj, rfl⟩ := List.getElem_of_mem hc
        simp [hall j hj (by omega)])]
      unfold c47_2
      (repeat' (first | (simp only [↓s_reg, ↓s_nil, ↓s_consN, ↓s_thenN, ↓s_inN, ↓s_kret, ↓s_putS, ↓s_putN, ↓s_dOkS, ↓s_dOkN, ↓s_ev_t, ↓s_ev_f, ↓s_upd, ↓s_load, ↓s_store, ↓s_fieldAddr, ↓s_callV, ↓s_callL, ptrV, List.map_cons, List.map_nil, List.length_cons, List.length_nil, ite_true, ite_false, Nat.reduceEqDiff, Nat.reduceLT, Nat.reduceAdd, ne_eq, not_false_eq_true, true_and, Nat.succ_ne_self, setAt, List.all_cons, List.all_nil, Bool.and_self, eq_self, Nat.zero_add, List.drop, ldV_f, cl_int, on_int, List.set_cons_zero, List.set_cons_succ, Nat.le_refl, n_ldP, n_faP, n_ldA, n_ldB, n_faA, n_stP, n_stA, flT_50_1, flT_52_3, ldT_3, szT_3, en_68, *]) | (refine acx_go rfl (fun _ _ _ h => h) ?_) | (refine PureF.use (floor68 _ _ hm0) ?_)))
      exact rest47w (n := n) rfl rfl hcs (by simp only [s_upd, Nat.reduceEqDiff, if_false, *] <;> rfl) (by simp only [s_upd, Nat.reduceEqDiff, if_false, *] <;> rfl) (by simp only [AH.get, *, if_false] <;> rfl) (by simp only [AH.get, *, if_true] <;> rfl) (by simp only [AH.get, *, if_false] <;> rfl) (Nat.le_refl _) (by repeat (first | assumption | exact SubH.refl _ | refine SubH.of_set ?_ (by simp only [*]))) n4 ng d4' d4 d84 (by omega)
end Go.PV.Ytefpjfpelicedaa
end
section
/- The row of a line: sums. -/
set_option linter.unusedVariables false
set_option linter.unusedSimpArgs false
set_option maxRecDepth 20000
set_option maxHeartbeats 4000000
namespace Go.PV.Ytefpjfpelicedaa
open Go Go.Proofs
theorem make47c {rows made : List Row} {n : Nat} {l : Line} {H : AH} {d sp g0 c0 sp0 : Nat} {e : TypeId} {rest : List VV} (hd : H d = some (.cells e (rowsV rows :: iV n :: (.lit (.slice (some ⟨g0, 0, none⟩) made.length c0)) :: rest) sp)) (hg0 : H g0 = some (.cells 50 (encC rowE made) sp0))
    (hmade : ∀ a, 0 ≤ a → a < (made.length : Int) → (rowAt made a).c.length = n ∧ far2 (rowAt made a).b = false ∧ ∀ c ∈ (rowAt made a).c, far2 c = false) (hn : (n : Int) ≤ 1000) (hk : l.k = 3) : GivesF Try.prog 47 [ptrV d 0, lineV l] (makeX rows made n l) H := by
  unfold GivesF
  have hB : ∀ r, H r = none → ¬ d = r := fun r hr => (AH.ne_of hd hr).1
  have hB' : ∀ r, H r = none → ¬ r = d := fun r hr => (AH.ne_of hd hr).2
  have hC : ∀ r, H r = none → ¬ g0 = r := fun r hr => (AH.ne_of hg0 hr).1
  have hC' : ∀ r, H r = none → ¬ r = g0 := fun r hr => (AH.ne_of hg0 hr).2
  have h1 : (0 : Int) ≤ n := by omega
  have h2 : ((8 : Nat) : Int) * n ≤ 281474976710656 := by omega
  have h3 : (n : Int) ≤ 9223372036854775807 := by omega
  refine vcalls_intro fd47 (by simp) ?_
  unfold c47
  (repeat' (first | (refine (ahead65 (d := d) (rv := rowsV rows) (nv := iV n) (mv := .lit (.slice (some ⟨g0, 0, none⟩) made.length c0)) (rest := rest) (n := made.length) (cs := encC rowE made) (sp := 0) (sp' := sp) (e := e) ?_ ?_ ?_).use ?_) | (simp only [↓s_reg, ↓s_seq, ↓s_seqL, ↓s_cond, ↓s_condF, ↓s_block, ↓s_ret, ↓s_loop, ↓s_dreg, ↓s_nil, ↓s_consN, ↓s_consG, ↓s_guardTT, ↓s_guardFT, ↓s_thenN, ↓s_thenR, ↓s_inR, ↓s_kret, ↓s_putS, ↓s_putN, ↓s_dOkS, ↓s_dOkN, ↓s_ev_t, ↓s_ev_c, ↓s_ev_f, ↓s_upd, ↓s_move, ↓s_assign, ↓s_isBool, ↓s_pickA, ↓s_pick, ↓s_load, ↓s_store, ↓s_nilCheck, ↓s_bin, ↓s_alloc, ↓s_box, ↓s_build, ↓s_makeFunc, ↓s_makeSlice, ↓s_fieldAddr, ↓s_indexAddr, ↓s_callB, ↓s_callV, ↓s_callL, ↓s_callF, ↓s_len, ↓s_bin_eql, vcNil, ptrV, intV, boolV, List.map_cons, List.map_nil, List.length_cons, List.length_nil, List.getD_cons_zero, List.getD_cons_succ, List.getD_nil, List.cons_append, List.nil_append, ite_true, ite_false, Nat.reduceEqDiff, Nat.reduceLT, Nat.reduceAdd, Nat.reduceLeDiff, ne_eq, not_false_eq_true, true_and, Bool.false_eq_true, Nat.succ_ne_self, decide_true, decide_false, reduceCtorEq, Int.toNat_natCast, callOk, undefV, ↓s_plFin, ↓s_plTkN, ↓s_plTkG, ↓s_plOneN, ↓s_plTwo, AH.get, AH.set_set, vcBuild, fillV, setAt, List.all_cons, List.all_nil, Bool.and_self, eq_self, Nat.zero_add, Nat.add_zero, List.drop, and_self, List.getElem?_cons_zero, ldV_f, ldV_t2, Int.ofNat_le, on_int, cl_ptr, cl_sl, on_sl, cl_agg, on_slice, List.set_cons_zero, List.set_cons_succ, ↓n_alloc, n_allocS, ↓n_box, ↓n_make, n_makeS, n_makeT, Nat.le_refl, n_ldP, n_faP, n_ixL, n_ixA2, n_lenL, n_ldA, n_ldB, n_faA, n_stP, n_stA, ↓s_plK, ↓s_oneK, ↓s_guardPFT, undef, Int.reduceEq, Int.reduceNeg, ldT_90, flT_74_1, flT_74_2, flT_52_0, flT_52_1, flT_52_2, flT_52_3, flT_52_4, flT_50_0, ldT_3, ldT_31, ldT_37, ldT_50, zeroT_50, szT_50, elT_31, elT_37, zeroT_3, stT_50, zeros_int, en_65, en_66, rows_dropZ, *]) | (refine guardL_splitTD ?_ ?_ <;> intro) | (refine condL_splitD ?_ ?_ <;> intro) | (refine acx_dreg mixed (fun _ _ _ _ e h => ⟨e.trans h.1, h.2⟩) _ (SubH.refl _) ?_) | (refine And.intro (SubH.new (by assumption)) ?_) | (refine allNew_intro fun zr zh => ?_; have zg := zh; (try simp only [AH.set_none] at zg)) | (exact SubH.refl _) | (refine SubH.of_set ?_ ?_) | (refine PureF.use (factor66d _) ?_) | (refine SlR.own (e := 50) (sp := sp0) ?_) | (with_reducible refine And.intro ?_ ?_)))
  any_goals
    (rw [makeX_bad (by simp [makeF, *])]; exact bad47 (by simp only [s_upd, Nat.reduceEqDiff, if_true, if_false, ptrV] <;> rfl) (by simp only [s_upd, Nat.reduceEqDiff, if_true, if_false] <;> rfl) (by simp only [AH.get, *, if_true, if_false] <;> rfl) (by repeat (first | assumption | exact SubH.refl _ | refine SubH.of_set ?_ (by simp only [*]))))
  all_goals
    have ha : 0 ≤ l.a ∧ l.a < (made.length : Int) := by assumption
    have hb : 0 ≤ l.b ∧ l.b < (made.length : Int) := by assumption
    have ma := hmade l.a ha.1 ha.2
    have mb := hmade l.b hb.1 hb.2
    refine sumloop47 (n := n) (l := l) (ra := rowAt made l.a) (rb := rowAt made l.b) (by simp only [s_upd, Nat.reduceEqDiff, if_true, if_false, ptrV] <;> rfl) (by simp only [s_upd, Nat.reduceEqDiff, if_true, if_false, ptrV] <;> rfl) (by simp only [s_upd, Nat.reduceEqDiff, if_true, if_false, ptrV] <;> rfl) (by simp only [s_upd, Nat.reduceEqDiff, if_true, if_false, ptrV] <;> rfl) (by simp only [s_upd, Nat.reduceEqDiff, if_true, if_false, ptrV] <;> rfl) (by simp only [s_upd, Nat.reduceEqDiff, if_true, if_false] <;> rfl) (by simp only [s_upd, Nat.reduceEqDiff, if_true, if_false] <;> rfl) (by simp only [AH.get, *, if_true, if_false] <;> rfl) (by simp only [AH.get, *, if_true, if_false] <;> rfl) (by simp only [AH.get, *, if_true, if_false] <;> rfl) (by simp only [AH.get, *, if_true, if_false, rowE] <;> rfl) (by simp only [AH.get, *, if_true, if_false, rowE] <;> rfl) (by simp only [AH.get, *, if_true, if_false] <;> rfl) (by simp) ma.1 mb.1 hn (by assumption) (by assumption) ma.2 mb.2 (by simp only [*, not_false_eq_true]) (by simp only [*, not_false_eq_true]) (by simp only [*, not_false_eq_true]) (by simp only [*, not_false_eq_true]) (by simp only [*, not_false_eq_true]) (by simp only [*, not_false_eq_true]) (by simp only [*, not_false_eq_true]) (by simp only [*, not_false_eq_true]) (by simp only [*, not_false_eq_true]) (by repeat (first | assumption | exact SubH.refl _ | refine SubH.of_set ?_ (by simp only [*]))) (by simp only [*]) (by simp only [*]) (by simp only [*]) (makeX_out (by simp [makeF, *]))
end Go.PV.Ytefpjfpelicedaa
end
section
/- The row of a line: lines divided. -/
set_option linter.unusedVariables false
set_option linter.unusedSimpArgs false
set_option maxRecDepth 20000
set_option maxHeartbeats 4000000
namespace Go.PV.Ytefpjfpelicedaa
open Go Go.Proofs
theorem make47d {rows made : List Row} {n : Nat} {l : Line} {H : AH} {d sp g0 c0 sp0 : Nat} {e : TypeId} {rest : List VV} (hd : H d = some (.cells e (rowsV rows :: iV n :: (.lit (.slice (some ⟨g0, 0, none⟩) made.length c0)) :: rest) sp)) (hg0 : H g0 = some (.cells 50 (encC rowE made) sp0))
    (hmade : ∀ a, 0 ≤ a → a < (made.length : Int) → (rowAt made a).c.length = n ∧ far2 (rowAt made a).b = false ∧ ∀ c ∈ (rowAt made a).c, far2 c = false) (hn : (n : Int) ≤ 1000) (hk : l.k = 4) : GivesF Try.prog 47 [ptrV d 0, lineV l] (makeX rows made n l) H := by
  unfold GivesF
  have hB : ∀ r, H r = none → ¬ d = r := fun r hr => (AH.ne_of hd hr).1
  have hB' : ∀ r, H r = none → ¬ r = d := fun r hr => (AH.ne_of hd hr).2
  have hC : ∀ r, H r = none → ¬ g0 = r := fun r hr => (AH.ne_of hg0 hr).1
  have hC' : ∀ r, H r = none → ¬ r = g0 := fun r hr => (AH.ne_of hg0 hr).2
  have h1 : (0 : Int) ≤ n := by omega
  have h2 : ((8 : Nat) : Int) * n ≤ 281474976710656 := by omega
  have h3 : (n : Int) ≤ 9223372036854775807 := by omega
  refine vcalls_intro fd47 (by simp) ?_
  unfold c47
  (repeat' (first | (refine (ahead65 (d := d) (rv := rowsV rows) (nv := iV n) (mv := .lit (.slice (some ⟨g0, 0, none⟩) made.length c0)) (rest := rest) (n := made.length) (cs := encC rowE made) (sp := 0) (sp' := sp) (e := e) ?_ ?_ ?_).use ?_) | (simp only [↓s_reg, ↓s_seq, ↓s_seqL, ↓s_cond, ↓s_condF, ↓s_block, ↓s_ret, ↓s_loop, ↓s_dreg, ↓s_nil, ↓s_consN, ↓s_consG, ↓s_guardTT, ↓s_guardFT, ↓s_thenN, ↓s_thenR, ↓s_inR, ↓s_kret, ↓s_putS, ↓s_putN, ↓s_dOkS, ↓s_dOkN, ↓s_ev_t, ↓s_ev_c, ↓s_ev_f, ↓s_upd, ↓s_move, ↓s_assign, ↓s_isBool, ↓s_pickA, ↓s_pick, ↓s_load, ↓s_store, ↓s_nilCheck, ↓s_bin, ↓s_alloc, ↓s_box, ↓s_build, ↓s_makeFunc, ↓s_makeSlice, ↓s_fieldAddr, ↓s_indexAddr, ↓s_callB, ↓s_callV, ↓s_callL, ↓s_callF, ↓s_len, ↓s_bin_eql, vcNil, ptrV, intV, boolV, List.map_cons, List.map_nil, List.length_cons, List.length_nil, List.getD_cons_zero, List.getD_cons_succ, List.getD_nil, List.cons_append, List.nil_append, ite_true, ite_false, Nat.reduceEqDiff, Nat.reduceLT, Nat.reduceAdd, Nat.reduceLeDiff, ne_eq, not_false_eq_true, true_and, Bool.false_eq_true, Nat.succ_ne_self, decide_true, decide_false, reduceCtorEq, Int.toNat_natCast, callOk, undefV, ↓s_plFin, ↓s_plTkN, ↓s_plTkG, ↓s_plOneN, AH.get, AH.set_set, vcBuild, fillV, setAt, List.all_cons, List.all_nil, Bool.and_self, eq_self, Nat.zero_add, Nat.add_zero, List.drop, and_self, List.getElem?_cons_zero, ldV_f, ldV_t2, Int.ofNat_le, on_int, cl_ptr, cl_sl, on_sl, cl_agg, on_slice, List.set_cons_zero, List.set_cons_succ, ↓n_alloc, n_allocS, ↓n_box, ↓n_make, n_makeS, n_makeT, Nat.le_refl, n_ldP, n_faP, n_ixL, n_ixA2, n_lenS, n_ldA, n_ldB, n_faA, n_stP, n_stA, ↓s_plK, ↓s_oneK, ↓s_guardPFT, undef, Int.reduceEq, Int.reduceNeg, ldT_90, flT_74_1, flT_74_2, flT_52_0, flT_52_1, flT_52_2, flT_52_3, flT_52_4, flT_50_0, ldT_3, ldT_31, ldT_37, ldT_50, zeroT_50, szT_50, elT_31, elT_37, zeroT_3, stT_50, zeros_int, en_65, en_66, rows_dropZ, *]) | (refine guardL_splitTD ?_ ?_ <;> intro) | (refine condL_splitD ?_ ?_ <;> intro) | (refine acx_dreg mixed (fun _ _ _ _ e h => ⟨e.trans h.1, h.2⟩) _ (SubH.refl _) ?_) | (refine And.intro (SubH.new (by assumption)) ?_) | (refine allNew_intro fun zr zh => ?_; have zg := zh; (try simp only [AH.set_none] at zg)) | (refine PureF.use (factor66d _) ?_) | (refine SlR.own (e := 50) (sp := sp0) ?_)))
  any_goals
    (rw [makeX_bad (by simp [makeF, *])]; exact bad47 (by simp only [s_upd, Nat.reduceEqDiff, if_true, if_false, ptrV] <;> rfl) (by simp only [s_upd, Nat.reduceEqDiff, if_true, if_false] <;> rfl) (by simp only [AH.get, *, if_true, if_false] <;> rfl) (by repeat (first | assumption | exact SubH.refl _ | refine SubH.of_set ?_ (by simp only [*]))))
  all_goals
    have ha : 0 ≤ l.a ∧ l.a < (made.length : Int) := by assumption
    have hm : 1 ≤ l.m ∧ l.m ≤ 1000000 := by assumption
    have ma := hmade l.a ha.1 ha.2
    refine divloop47 (n := n) (l := l) (ra := rowAt made l.a) (by simp only [s_upd, Nat.reduceEqDiff, if_true, if_false, ptrV] <;> rfl) (by simp only [s_upd, Nat.reduceEqDiff, if_true, if_false, ptrV] <;> rfl) (by simp only [s_upd, Nat.reduceEqDiff, if_true, if_false, ptrV] <;> rfl) (by simp only [s_upd, Nat.reduceEqDiff, if_true, if_false, ptrV] <;> rfl) (by simp only [s_upd, Nat.reduceEqDiff, if_true, if_false] <;> rfl) (by simp only [s_upd, Nat.reduceEqDiff, if_true, if_false] <;> rfl) (by simp only [s_upd, Nat.reduceEqDiff, if_true, if_false] <;> rfl) (by simp only [AH.get, *, if_true, if_false] <;> rfl) (by simp only [AH.get, *, if_true, if_false] <;> rfl) (by simp only [AH.get, *, if_true, if_false] <;> rfl) (by simp only [AH.get, *, if_true, if_false, rowE] <;> rfl) (by simp only [AH.get, *, if_true, if_false] <;> rfl) (by simp) ma.1 hn hm (by omega) ma.2 (by simp only [*, not_false_eq_true]) (by simp only [*, not_false_eq_true]) (by simp only [*, not_false_eq_true]) (by simp only [*, not_false_eq_true]) (by simp only [*, not_false_eq_true]) (by simp only [*, not_false_eq_true]) (by simp only [*, not_false_eq_true]) (by simp only [*, not_false_eq_true]) (by repeat (first | assumption | exact SubH.refl _ | refine SubH.of_set ?_ (by simp only [*]))) (by simp only [*]) (by simp only [*]) (by simp only [*]) (fun hc => makeX_out (by simp [makeF, divL, *])) (fun hc => makeX_bad (by simp only [makeF, *]; simp [hm]))
end Go.PV.Ytefpjfpelicedaa
end
section
/- The row of a line: all kinds. -/
set_option linter.unusedVariables false
set_option linter.unusedSimpArgs false
set_option maxRecDepth 20000
set_option maxHeartbeats 4000000
namespace Go.PV.Ytefpjfpelicedaa
open Go Go.Proofs
theorem make47n {rows : List Row} {n : Nat} {l : Line} {H : AH} {d sp : Nat} {e : TypeId} {rest : List VV} (hd : H d = some (.cells e (rowsV rows :: iV n :: (.lit (.slice none 0 0)) :: rest) sp))
    (hn : (n : Int) ≤ 1000) (hk : ¬ l.k = 1 ∧ ¬ l.k = 2) : GivesF Try.prog 47 [ptrV d 0, lineV l] (makeX rows [] n l) H := by
  unfold GivesF
  have hB : ∀ r, H r = none → ¬ d = r := fun r hr => (AH.ne_of hd hr).1
  have hB' : ∀ r, H r = none → ¬ r = d := fun r hr => (AH.ne_of hd hr).2
  have h1 : (0 : Int) ≤ n := by omega
  have h2 : ((8 : Nat) : Int) * n ≤ 281474976710656 := by omega
  have h3 : (n : Int) ≤ 9223372036854775807 := by omega
  refine vcalls_intro fd47 (by simp) ?_
  unfold c47
  (repeat' (first | (refine (ahead65 (d := d) (rv := rowsV rows) (nv := iV n) (mv := .lit (.slice none 0 0)) (rest := rest) (n := 0) (cs := []) (sp := 0) (sp' := sp) (e := e) ?_ ?_ ?_).use ?_) | (refine .inr (.inl ⟨rfl, rfl, rfl⟩)) | (simp only [↓s_reg, ↓s_seq, ↓s_seqL, ↓s_cond, ↓s_condF, ↓s_block, ↓s_ret, ↓s_dreg, ↓s_nil, ↓s_consN, ↓s_consG, ↓s_guardTT, ↓s_guardFT, ↓s_thenN, ↓s_thenR, ↓s_inR, ↓s_kret, ↓s_putS, ↓s_putN, ↓s_dOkS, ↓s_dOkN, ↓s_ev_t, ↓s_ev_c, ↓s_ev_f, ↓s_upd, ↓s_move, ↓s_assign, ↓s_isBool, ↓s_pickA, ↓s_pick, ↓s_load, ↓s_store, ↓s_nilCheck, ↓s_bin, ↓s_alloc, ↓s_box, ↓s_build, ↓s_makeFunc, ↓s_makeSlice, ↓s_fieldAddr, ↓s_indexAddr, ↓s_callV, ↓s_callL, ↓s_callF, ↓s_bin_eql, vcNil, ptrV, boolV, List.map_cons, List.map_nil, List.length_cons, List.length_nil, List.getD_cons_zero, List.getD_cons_succ, List.getD_nil, List.cons_append, List.nil_append, ite_true, ite_false, Nat.reduceEqDiff, Nat.reduceLT, Nat.reduceAdd, Nat.reduceLeDiff, ne_eq, not_false_eq_true, true_and, Bool.false_eq_true, Nat.succ_ne_self, decide_true, decide_false, Int.toNat_natCast, callOk, undefV, ↓s_plFin, ↓s_plTkN, ↓s_plTkG, AH.get, AH.set_set, vcBuild, fillV, setAt, List.all_cons, List.all_nil, Bool.and_self, eq_self, Nat.zero_add, Nat.add_zero, List.drop, and_self, List.getElem?_cons_zero, ldV_f, Int.ofNat_le, on_int, cl_ptr, cl_sl, on_sl, cl_agg, List.set_cons_zero, List.set_cons_succ, ↓n_alloc, n_allocS, ↓n_box, ↓n_make, n_makeS, n_makeT, Nat.le_refl, n_ldP, n_faP, n_ldA, n_ldB, n_faA, n_stP, n_stA, ↓s_plK, ↓s_guardPFT, undef, Int.reduceEq, Int.reduceNeg, ldT_90, flT_74_1, flT_74_2, flT_52_0, flT_52_1, flT_52_2, flT_52_3, flT_52_4, ldT_3, ldT_31, zeroT_50, szT_50, elT_37, zeroT_3, stT_50, zeros_int, en_65, en_66, *]) | (refine guardL_splitTD ?_ ?_ <;> intro) | (refine condL_splitD ?_ ?_ <;> intro) | (refine acx_dreg mixed (fun _ _ _ _ e h => ⟨e.trans h.1, h.2⟩) _ (SubH.refl _) ?_) | (refine allNew_intro fun zr zh => ?_; have zg := zh; (try simp only [AH.set_none] at zg)) | (refine PureF.use (factor66d _) ?_)))
  all_goals first
    | (exfalso; have ha : 0 ≤ l.a ∧ l.a < ((0 : Nat) : Int) := by assumption
       omega)
    | (rw [makeX_bad (by simp [makeF, *] <;> omega)]; exact bad47 (by simp only [s_upd, Nat.reduceEqDiff, if_true, if_false, ptrV] <;> rfl) (by simp only [s_upd, Nat.reduceEqDiff, if_true, if_false] <;> rfl) (by simp only [AH.get, *, if_true, if_false] <;> rfl) (by repeat (first | assumption | exact SubH.refl _ | refine SubH.of_set ?_ (by simp only [*]))))
/-- The rows so far, at a state: none, or a block of them. -/
def Made (H : AH) (mv : VV) (made : List Row) : Prop := (mv = .lit (.slice none 0 0) ∧ made = []) ∨ ∃ g0 c0 sp0, mv = .lit (.slice (some ⟨g0, 0, none⟩) made.length c0) ∧ H g0 = some (.cells 50 (encC rowE made) sp0)
def Fits (n : Nat) (r : Row) : Prop := r.c.length = n ∧ far2 r.b = false ∧ ∀ c ∈ r.c, far2 c = false
theorem make47 {rows made : List Row} {n : Nat} {l : Line} {H : AH} {d sp : Nat} {e : TypeId} {mv : VV} {rest : List VV} (hd : H d = some (.cells e (rowsV rows :: iV n :: mv :: rest) sp)) (hm : Made H mv made)
    (hrows : ∀ r ∈ rows, r.c.length ≤ n) (hmade : ∀ r ∈ made, Fits n r) (hn : (n : Int) ≤ 1000) : GivesF Try.prog 47 [ptrV d 0, lineV l] (makeX rows made n l) H := by
  have hr : ∀ a, (rowAt rows a).c.length ≤ n := fun a => by
    unfold rowAt
    rw [List.getD_eq_getElem?_getD]
    by_cases h : a.toNat < rows.length
    · simp only [h, List.getElem?_eq_getElem, Option.getD_some]; exact hrows _ (List.getElem_mem _)
    · simp [h]
  have hq : ∀ a, 0 ≤ a → a < (made.length : Int) → Fits n (rowAt made a) := fun a h0 h1 => by
    have h : a.toNat < made.length := by omega
    unfold rowAt
    rw [List.getD_eq_getElem?_getD]
    simp only [h, List.getElem?_eq_getElem, Option.getD_some]; exact hmade _ (List.getElem_mem _)
  by_cases h1 : l.k = 1
  · exact make47a hd hr hn h1
  by_cases h2 : l.k = 2
  · exact make47b hd hr hn h2
  rcases hm with ⟨rfl, rfl⟩ | ⟨g0, c0, sp0, rfl, hg0⟩
  · exact make47n hd hn ⟨h1, h2⟩
  by_cases h3 : l.k = 3
  · exact make47c hd hg0 hq hn h3
  by_cases h4 : l.k = 4
  · exact make47d hd hg0 hq hn h4
  · exact make47z hd hr hn ⟨h1, h2, h3, h4⟩
end Go.PV.Ytefpjfpelicedaa
end
section
/- The rows of lines. -/
set_option linter.unusedVariables false
set_option linter.unusedSimpArgs false
set_option maxRecDepth 20000
set_option maxHeartbeats 4000000
namespace Go.PV.Ytefpjfpelicedaa
open Go Go.Proofs
theorem _root_.Go.PV.OwnX.put {H0 H : AH} {e : TypeId} {k n r : Nat} {v : VV} {cs : List VV} {b0 : Blk} (h : OwnX H0 H e k v n cs) (hr : H0 r = some b0) (b : Blk) : OwnX (H0.set r b) (H.set r b) e k v n cs := by
  rcases h with ⟨rfl, rfl, rfl, rfl⟩ | ⟨g, c, sp, rfl, h0, rfl, h1, h2, h3, h4⟩
  · exact .inl ⟨rfl, rfl, rfl, rfl⟩
  · have hg : ¬ g = r := fun e => by subst e; rw [h0] at hr; cases hr
    refine .inr ⟨g, c, sp, rfl, ?_, AH.comm _ _ (fun e => hg e.symm), h1, h2, h3, h4⟩
    rw [AH.get, if_neg hg]; exact h0
theorem _root_.Go.PV.OwnX.cells {H0 H : AH} {e : TypeId} {k n : Nat} {v : VV} {cs : List VV} (h : OwnX H0 H e k v n cs) : v.cells = [v] ∧ VV.one v = true := by
  rcases h with ⟨rfl, _⟩ | ⟨g, c, sp, rfl, _⟩ <;> exact ⟨rfl, rfl⟩
theorem Made.of {H0 H : AH} {mv : VV} {n : Nat} {made : List Row} (h : OwnX H0 H 50 2 mv n (encC rowE made)) (hn : n = made.length) : Made H mv made := by
  subst hn
  rcases h with ⟨rfl, h1, _⟩ | ⟨g, c, sp, rfl, h0, rfl, h1, h2, h3, h4⟩
  · exact .inl ⟨rfl, List.eq_nil_of_length_eq_zero h1⟩
  · exact .inr ⟨g, c, sp, rfl, AH.set_same _ _ _⟩
theorem Made.mono {H H' : AH} {mv : VV} {made : List Row} (h : Made H mv made) (hs : SubH H H') : Made H' mv made := by
  rcases h with h | ⟨g, c, sp, h1, h2⟩
  · exact .inl h
  · exact .inr ⟨g, c, sp, h1, hs _ _ h2⟩
theorem rightGo_ok {rows : List Row} (h : rightGo rows = 0) : ∀ r ∈ rows, r.c.length ≤ 12 ∧ far r.b = false ∧ ∀ c ∈ r.c, far c = false := by
  induction rows with
  | nil => simp
  | cons r rows ih =>
    simp only [rightGo] at h
    split at h; · omega
    split at h; · omega
    rename_i h1 h2
    simp only [Bool.or_eq_true, not_or, Bool.not_eq_true, List.any_eq_false] at h2
    intro x hx
    rcases List.mem_cons.1 hx with rfl | hx
    · exact ⟨by omega, h2.1, fun c hc => by simpa using h2.2 c hc⟩
    · exact ih h x hx
theorem rightF_ok {rows : List Row} (h : rightF rows = 0) : rows.length ≤ 100 ∧ ∀ r ∈ rows, r.c.length ≤ 12 ∧ far r.b = false ∧ ∀ c ∈ r.c, far c = false := by
  simp only [rightF] at h
  split at h
  · omega
  · exact ⟨by omega, rightGo_ok h⟩
theorem unkGo_le {rows : List Row} {m : Int} : m ≤ unkGo rows m ∧ ∀ r ∈ rows, (r.c.length : Int) ≤ unkGo rows m := by
  induction rows generalizing m with
  | nil => simp [unkGo]
  | cons r rows ih =>
    simp only [unkGo]
    have := @ih (max m r.c.length)
    refine ⟨by omega, fun x hx => ?_⟩
    rcases List.mem_cons.1 hx with rfl | hx
    · have := this.1; omega
    · exact this.2 x hx
theorem unkGo_max {rows : List Row} {m b : Int} (hm : m ≤ b) (h : ∀ r ∈ rows, (r.c.length : Int) ≤ b) : unkGo rows m ≤ b := by
  induction rows generalizing m with
  | nil => simpa [unkGo]
  | cons r rows ih =>
    simp only [unkGo]
    have h1 := h r (List.mem_cons_self ..)
    exact ih (by omega) fun x hx => h x (List.mem_cons_of_mem _ hx)
def unkN (rows : List Row) : Nat := (unkF rows).toNat
theorem unkN_eq (rows : List Row) : unkF rows = unkN rows := by
  have := (@unkGo_le rows 0).1
  unfold unkN unkF at *
  omega
theorem unkN_le {rows : List Row} (h : rightF rows = 0) : unkN rows ≤ 12 := by
  have h1 := (rightF_ok h).2
  have : unkF rows ≤ 12 := unkGo_max (by omega) fun r hr => by have := (h1 r hr).1; omega
  unfold unkN; omega
theorem len_unkN {rows : List Row} {r : Row} (h : r ∈ rows) : r.c.length ≤ unkN rows := by
  have := (@unkGo_le rows 0).2 r h
  have e := unkN_eq rows
  unfold unkF at e; omega
theorem outF_ok {r : Row} {n : Nat} (hl : r.c.length = n) (h : (outF r).2 = 0) : (outF r).1 = r ∧ Fits n r := by
  unfold outF at *
  split at h
  · simp at h
  · rename_i h1
    simp only [Bool.or_eq_true, not_or, Bool.not_eq_true, List.any_eq_false] at h1
    have e : outF r = (r, 0) := by
      have : r.c.any far2 = false := List.any_eq_false.2 fun c hc => by simp [h1.2 c hc]
      unfold outF; rw [h1.1, this]; rfl
    unfold outF at e
    exact ⟨by rw [e], hl, h1.1, fun c hc => by simpa using h1.2 c hc⟩
theorem makeF_ok {rows made : List Row} {n : Nat} {l : Line} (hm : ∀ r ∈ made, Fits n r) (h : (makeF rows made n l).2 = 0) : Fits n (makeF rows made n l).1 := by
  have hq : ∀ a, 0 ≤ a → a < (made.length : Int) → Fits n (rowAt made a) := fun a h0 h1 => by
    have h : a.toNat < made.length := by omega
    unfold rowAt
    rw [List.getD_eq_getElem?_getD]
    simp only [h, List.getElem?_eq_getElem, Option.getD_some]; exact hm _ (List.getElem_mem _)
  have key : ∀ r : Row, r.c.length = n → (outF r).2 = 0 → Fits n (outF r).1 := fun r h1 h2 => by rw [(outF_ok h1 h2).1]; exact (outF_ok h1 h2).2
  revert h
  unfold makeF
  split
  · split
    · exact key _ (by simp [wideR, wide_len])
    · simp
  split
  · split
    · exact key _ (by simp)
    · simp
  split
  · split
    · rename_i h
      exact key _ (by simp [sumL, (hq _ h.1.1 h.1.2).1, (hq _ h.2.1.1 h.2.1.2).1])
    · simp
  split
  · split
    · rename_i h
      split
      · simp
      · exact key _ (by simp [(hq _ h.1.1 h.1.2).1])
    · simp
  · simp
def deriveGo (rows : List Row) (n : Nat) : List Row → List Line → List Row × Int
  | made, [] => (made, 0)
  | made, l :: ls => if (makeF rows made n l).2 = 0 then deriveGo rows n (made ++ [(makeF rows made n l).1]) ls else ([], (makeF rows made n l).2)
def deriveF (rows : List Row) (ls : List Line) : List Row × Int :=
  if rightF rows = 0 then (if 5000 < ls.length then ([], 5) else deriveGo rows (unkN rows) [] ls) else ([], rightF rows)
theorem derive22 (rows : List Row) (ls : List Line) (h1 : (rows.length : Int) ≤ 9223372036854775806) (h2 : (ls.length : Int) ≤ 9223372036854775806) : PureF Try.prog 22 [rowsV rows, linesV ls] (.tuple [rowsV (deriveF rows ls).1, iV (deriveF rows ls).2]) := by
  refine GivesF.pure fun H => ?_
  refine vcalls_intro fd22 (by simp) ?_
  unfold c22
  (repeat' (first | (simp only [↓s_skip, ↓s_reg, ↓s_seq, ↓s_seqL, ↓s_cond, ↓s_block, ↓s_ret, ↓s_loop, ↓s_nil, ↓s_consN, ↓s_thenN, ↓s_thenR, ↓s_kret, ↓s_putS, ↓s_dOkS, ↓s_ev_t, ↓s_ev_c, ↓s_ev_f, ↓s_upd, ↓s_move, ↓s_assign, ↓s_bin, ↓s_box, ↓s_build, ↓s_callB, ↓s_callV, ↓s_callL, ↓s_len, ↓s_bin_gtr, ↓s_bin_neq, ptrV, intV, List.map_cons, List.map_nil, List.length_cons, List.length_nil, List.getD_cons_zero, List.getD_cons_succ, List.getD_nil, ite_true, ite_false, Nat.reduceEqDiff, Nat.reduceLT, Nat.reduceAdd, Nat.reduceLeDiff, ne_eq, not_false_eq_true, true_and, Nat.succ_ne_self, decide_true, decide_false, reduceCtorEq, undefV, vcBuild, fillV, setAt, eq_self, Nat.zero_add, and_self, List.getElem?_cons_zero, List.getElem?_cons_succ, cl_int, cl_agg, cl_slice, List.set_cons_zero, List.set_cons_succ, ↓n_box, n_lenS, undef, stT_74, elT_28, en_36, en_37, *]) | (refine condL_splitD ?_ ?_ <;> intro) | (refine condL_split ?_ ?_ <;> intro) | (refine allNew_intro fun zr zh => ?_; have zg := zh; (try simp only [AH.set_none] at zg)) | (refine PureF.use (right36 _ h1) ?_) | (refine PureF.use (unknowns37 _ h1) ?_)))
  · have hr : ¬ rightF rows = 0 := by simpa using (by assumption : (!decide (rightF rows = 0)) = true)
    refine retPost_ret rfl (by simp only [resV, resAll, resOne, s_upd, Nat.reduceEqDiff, if_true, if_false, Option.bind_some, Option.map_some, tupV] <;> rfl) ⟨_, rfl, ?_⟩
    simp only [deriveF, hr, if_false]
    exact GhV.tuple (GhL.cons (GhV.nil _) (GhL.cons (GhV.refl _ _) (GhL.nil _)))
  · have hr : rightF rows = 0 := by simpa using (by assumption : (!decide (rightF rows = 0)) = false)
    have hl : 5000 < ls.length := by omega
    refine retPost_ret rfl (by simp only [resV, resAll, resOne, s_upd, Nat.reduceEqDiff, if_true, if_false, Option.bind_some, Option.map_some, tupV] <;> rfl) ⟨_, rfl, ?_⟩
    simp only [deriveF, hr, hl, if_true]
    exact GhV.tuple (GhL.cons (GhV.nil _) (GhL.cons (GhV.refl _ _) (GhL.nil _)))
  · have hr : rightF rows = 0 := by simpa using (by assumption : (!decide (rightF rows = 0)) = false)
    have hl : ¬ 5000 < ls.length := by omega
    have hd : deriveF rows ls = deriveGo rows (unkN rows) [] ls := by simp only [deriveF, hr, hl, if_true, if_false]
    have hn := unkN_le hr
    rw [hd]
    clear hd
    revert zr
    intro d0 zh0 zg0
    refine acx_loop (fun _ _ _ h => h) (fun A H' => A.d = [] ∧ A.t 7 = ptrV d0 0 ∧ A.t 25 = linesV ls ∧ A.t 26 = iV ls.length ∧ ∃ (i : Nat) (made : List Row) (mv : VV) (Hb : AH), i ≤ ls.length ∧ A.t 27 = iV i ∧ made.length = i ∧
        Hb d0 = some (.cells 74 [rowsV rows, iV (unkN rows), mv] 0) ∧ SubH H Hb ∧ OwnX Hb H' 50 2 mv made.length (encC rowE made) ∧ (∀ r ∈ made, Fits (unkN rows) r) ∧ deriveGo rows (unkN rows) [] ls = deriveGo rows (unkN rows) made (ls.drop i))
      (fun A _ => match A.t 27 with | .lit (.int _ i) => ((ls.length : Int) - i).toNat | _ => 0) ?_ ?_
    · refine ⟨rfl, rfl, rfl, rfl, 0, [], .lit (.slice none 0 0), _, by omega, rfl, rfl, ?_, SubH.new (by assumption), OwnX.nil _ 50 2, by simp, rfl⟩
      rw [unkN_eq, AH.set_same]
    · rintro ⟨t, d⟩ H' ⟨rfl, h7, h25, h26, i, made, mv, Hb, hi, h27, hlen, kb, hs, ho, hfit, hgo⟩
      dsimp only at h7 h25 h26 h27
      have kd : H' d0 = some (.cells 74 [rowsV rows, iV (unkN rows), mv] 0) := ho.sub _ _ kb
      have hHn : ∀ r, H' r = none → H r = none := fun r h => (hs.trans ho.sub).none h
      have hB : ∀ r, H' r = none → ¬ d0 = r := fun r hr => (AH.ne_of kd hr).1
      have hB' : ∀ r, H' r = none → ¬ r = d0 := fun r hr => (AH.ne_of kd hr).2
      (repeat' (first | (refine acx_dreg mixed (fun _ _ _ _ e h => ⟨e.trans h.1, h.2⟩) _ ((ho.sub.set _ _).set _ _) ?_) | (refine (ho.sub.set _ _).set _ _) | (refine (make47 (d := d0) (sp := 0) (rows := rows) (made := made) (mv := mv) (rest := []) (e := 74) (l := ls[i]) (n := unkN rows) ?_ ?_ (fun r h => len_unkN h) hfit (by omega)).use ?_) | (simp only [↓s_skip, ↓s_reg, ↓s_seq, ↓s_cond, ↓s_block, ↓s_exit, ↓s_ret, ↓s_nil, ↓s_consN, ↓s_thenN, ↓s_thenE, ↓s_thenR, ↓s_inE, ↓s_inR, ↓s_kret, ↓s_putS, ↓s_putN, ↓s_dOkS, ↓s_dOkN, ↓s_ev_t, ↓s_ev_c, ↓s_ev_f, ↓s_upd, ↓s_move, ↓s_assign, ↓s_load, ↓s_store, ↓s_nilCheck, ↓s_bin, ↓s_alloc, ↓s_buildSlice, ↓s_fieldAddr, ↓s_indexAddr, ↓s_extract, ↓s_callB, ↓s_callV, ↓s_callL, ↓s_append, ↓s_bin_lss, ↓s_bin_neq, vcNil, vcExtract, ptrV, List.map_cons, List.map_nil, List.length_cons, List.length_nil, List.append_nil, ite_true, ite_false, Nat.reduceEqDiff, Nat.reduceLT, Nat.reduceAdd, Nat.reduceMul, Nat.reduceLeDiff, ne_eq, not_false_eq_true, true_and, Nat.succ_ne_self, decide_true, decide_false, Int.natCast_nonneg, Int.toNat_natCast, ↓s_plTkN, ↓s_plOneN, AH.get, AH.set_set, fillV, setAt, List.all_cons, List.all_nil, Bool.and_self, eq_self, Nat.zero_add, List.drop, and_self, List.getElem?_cons_zero, List.getElem?_cons_succ, ldV_f, ldV_t2, ldV_t5, Int.ofNat_lt, on_int, cl_agg, on_slice, List.set_cons_zero, List.set_cons_succ, ↓n_alloc, n_allocS, Nat.le_refl, n_ldI, n_ldP, n_faP, n_ixS, n_ixA1, n_ldA, n_ldC, n_ldB, n_faA, n_stP, n_stA, ↓s_plK, ↓s_plCutN, ↓s_oneK, vcBuildSlice, List.replicate_succ, List.replicate_zero, List.flatten_cons, List.flatten_nil, lines_drop, makeX, flT_74_2, ldT_52, ldT_31, ldT_50, szT_52, szT_50, zeroT_52, zeroT_50, elT_28, elT_31, en_47, *]) | (refine condL_splitD ?_ ?_ <;> intro) | (refine condL_split ?_ ?_ <;> intro) | (refine acx_go rfl (fun _ _ _ h => h) ?_) | (refine allNew_intro fun zr zh => ?_; have zg := zh; (try simp only [AH.set_none] at zg)) | (with_reducible refine And.intro ?_ ?_)))
      · exact (Made.of ho rfl).mono (SubH.new (by assumption))
      · have hb : i < ls.length := by assumption
        have he : ¬ (makeF rows made (unkN rows) ls[i]).2 = 0 := by simpa using (by assumption : (!decide ((makeF rows made (unkN rows) ls[i]).2 = 0)) = true)
        have hg : deriveGo rows (unkN rows) made (ls.drop i) = ([], (makeF rows made (unkN rows) ls[i]).2) := by
          rw [List.drop_eq_getElem_cons hb, deriveGo, if_neg he]
        rw [hg]
        refine retPost_ret rfl (by simp only [resV, resAll, resOne, s_upd, Nat.reduceEqDiff, if_true, if_false, Option.bind_some, Option.map_some, tupV] <;> rfl) ⟨_, rfl, ?_⟩
        refine GhV.tuple (GhL.cons ((GhV.nil _).trans (GhV.forget ?_ _)) (GhL.cons (GhV.refl _ _) (GhL.nil _)))
        exact ((hs.trans ho.sub).of_set ((hs.trans ho.sub).none (by assumption))).of_set (by simp [hs.trans ho.sub |>.none, *])
      · have hb : i < ls.length := by assumption
        have he : (makeF rows made (unkN rows) ls[i]).2 = 0 := by simpa using (by assumption : (!decide ((makeF rows made (unkN rows) ls[i]).2 = 0)) = false)
        have hf := makeF_ok (rows := rows) (l := ls[i]) hfit he
        have hg : deriveGo rows (unkN rows) made (ls.drop i) = deriveGo rows (unkN rows) (made ++ [(makeF rows made (unkN rows) ls[i]).1]) (ls.drop (i + 1)) := by
          rw [List.drop_eq_getElem_cons hb, deriveGo, if_pos he]
        rw [hg]
        generalize (makeF rows made (unkN rows) ls[i]).1 = r at hf ⊢
        refine append_own elT_31 zeroT_50 rfl (by omega) ((ho.alloc (by assumption) _).alloc (by assumption) _) rfl rfl (by omega) (by omega) (fun v' H'' ho2 => ?_)
        obtain ⟨Hc, hoc, kc, hsc⟩ : ∃ Hc, OwnX Hc H'' 50 2 v' (made.length + 1) (encC rowE made ++ rowE r) ∧ Hc d0 = some (.cells 74 [rowsV rows, iV (unkN rows), mv] 0) ∧ SubH H Hc :=
          ⟨_, ho2, by simp only [AH.get, *, if_false], SubH.of_set (SubH.of_set hs (hHn _ (by simp only [*]))) (hHn _ (by simp only [*]))⟩
        have hsub := ho2.sub
        clear ho2
        have kd2 : H'' d0 = some (.cells 74 [rowsV rows, iV (unkN rows), mv] 0) := hoc.sub _ _ kc
        have hc := hoc.cells.1
        have hc1 := hoc.cells.2
        (repeat' (first | (simp only [↓s_reg, ↓s_nil, ↓s_consN, ↓s_thenN, ↓s_inN, ↓s_kret, ↓s_putS, ↓s_putN, ↓s_dOkS, ↓s_dOkN, ↓s_ev_t, ↓s_ev_c, ↓s_upd, ↓s_move, ↓s_store, ↓s_nilCheck, ↓s_bin, ↓s_fieldAddr, ↓s_bin_add, vcNil, ptrV, List.length_cons, List.length_nil, ite_true, ite_false, Nat.reduceEqDiff, Nat.reduceLT, Nat.reduceAdd, ne_eq, not_false_eq_true, true_and, Nat.succ_ne_self, ↓s_plFin, setAt, List.all_cons, List.all_nil, Bool.and_self, eq_self, Nat.zero_add, List.set_cons_zero, List.set_cons_succ, Nat.le_refl, n_faP, n_faA, n_stP, n_stA, ↓s_cutK, flT_74_2, szT_31, *]) | (with_reducible refine And.intro ?_ ?_)))
        · rw [wrap_ok (n := (i : Int) + 1) (by omega) (by omega)]
          refine ⟨i + 1, made ++ [r], v', Hc.set d0 _, by omega, rfl, by simp [hlen], AH.set_same _ _ _, hsc.of_set zh0, ?_, ?_, rfl⟩
          · rw [show encC rowE (made ++ [r]) = encC rowE made ++ rowE r from by rw [encC_append]; rfl, List.length_append]
            exact hoc.put kc (.cells 74 [rowsV rows, iV (unkN rows), v'] 0)
          · intro x hx
            rcases List.mem_append.1 hx with hx | hx
            · exact hfit x hx
            · rw [List.mem_singleton.1 hx]; exact hf
        · rw [wrap_ok (n := (i : Int) + 1) (by omega) (by omega)]
          omega
      · have hb : ¬ i < ls.length := by assumption
        have hg : deriveGo rows (unkN rows) made (ls.drop i) = (made, 0) := by
          rw [List.drop_eq_nil_of_le (by omega), deriveGo]
        rw [hg]
        refine retPost_ret rfl (by simp only [resV, resAll, resOne, s_upd, Nat.reduceEqDiff, if_true, if_false, Option.bind_some, Option.map_some, tupV] <;> rfl) ⟨_, rfl, ?_⟩
        exact GhV.tuple (GhL.cons (GhV.back ho hs) (GhL.cons (GhV.refl _ _) (GhL.nil _)))
end Go.PV.Ytefpjfpelicedaa
end
section
/- Rows and lines, there and back: loops that append. -/
set_option linter.unusedVariables false
set_option linter.unusedSimpArgs false
set_option maxRecDepth 20000
set_option maxHeartbeats 4000000
namespace Go.PV.Ytefpjfpelicedaa
open Go Go.Proofs
/-- What hands back a slice of one's own. -/
def _root_.Go.PV.OwnF (P : Program) (f : FuncId) (xs : List VV) (H : AH) (e : TypeId) (k n : Nat) (cs : List VV) : Prop := VCalls P f xs H (fun r H' => ∃ v Hb, r = .ret v ∧ SubH H Hb ∧ OwnX Hb H' e k v n cs)
theorem _root_.Go.PV.OwnF.use {P : Program} {f : FuncId} {xs : List VV} {H : AH} {e : TypeId} {k n : Nat} {cs : List VV} {K : VE → AH → Prop} (h : OwnF P f xs H e k n cs) (hK : ∀ v H', OwnX H H' e k v n cs → K (.ret v) H') : VCalls P f xs H K := fun S w args hs hx =>
  (h S w args hs hx).mono fun e w' hq => by
    cases e with
    | returned v =>
      obtain ⟨S', H', y, h1, h2, h3, z, Hb, h4, h5, h6⟩ := hq
      cases h4
      obtain ⟨H'', g1, g2⟩ := h6.shrink h5
      obtain ⟨S'', g3, g4, g5⟩ := (GhV.forget g2 y) S' w' v h2 h3
      exact ⟨S'', H'', y, h1.trans g3, g4, g5, hK _ _ g1⟩
    | panicked ch => obtain ⟨S', H', h1, h2, z, Hb, h4, h5⟩ := hq; cases h4
    | outgrown => exact hq
theorem _root_.Go.PV.OwnF.pure {P : Program} {f : FuncId} {xs : List VV} {e : TypeId} {k n : Nat} {cs : List VV} (h : ∀ H, OwnF P f xs H e k n cs) : PureF P f xs (.slice false n cs) :=
  GivesF.pure fun H => (h H).use fun v H' ho => ⟨v, rfl, GhV.back ho (SubH.refl _)⟩
theorem encC_snoc {α : Type} (enc : α → List VV) (l : List α) (x : α) : encC enc (l ++ [x]) = encC enc l ++ enc x := by
  rw [encC_append]; simp [encC]
/-- lines15: what is handed back may be appended to. -/
theorem lines15 (l : List Line) (hn : (l.length : Int) ≤ 1000000) (H : AH) : OwnF Try.prog 15 [linesV l] H 83 5 l.length (encC lineE l) := by
  unfold OwnF
  refine vcalls_intro fd15 (by simp) ?_
  unfold c15
  (repeat' (first | (simp only [↓s_reg, ↓s_seq, ↓s_seqL, ↓s_block, ↓s_loop, ↓s_nil, ↓s_consN, ↓s_thenN, ↓s_kret, ↓s_putS, ↓s_dOkS, ↓s_ev_t, ↓s_ev_c, ↓s_upd, ↓s_move, ↓s_assign, ↓s_callB, ↓s_len, intV, List.map_cons, List.map_nil, List.getD_cons_zero, List.getD_cons_succ, List.getD_nil, ite_true, ite_false, Nat.reduceEqDiff, Nat.reduceLT, ne_eq, not_false_eq_true, true_and, reduceCtorEq, undefV, eq_self, n_lenS, undef, elT_28, *])))
  refine acx_loop (fun _ _ _ h => h) (fun A H' => A.d = [] ∧ A.t 6 = linesV l ∧ A.t 7 = iV l.length ∧ ∃ (i : Nat) (v : VV) (Hb : AH), i ≤ l.length ∧ A.t 8 = iV i ∧ A.t 3 = v ∧ SubH H Hb ∧ OwnX Hb H' 83 5 v i (encC lineE (l.take i)))
    (fun A _ => match A.t 8 with | .lit (.int _ i) => ((l.length : Int) - i).toNat | _ => 0) ?_ ?_
  · exact ⟨rfl, rfl, rfl, 0, _, H, by omega, rfl, rfl, SubH.refl _, OwnX.nil _ 83 5⟩
  · rintro ⟨t, d⟩ H' ⟨rfl, h6, h7, i, v, Hb, hi, h8, h3, hs, ho⟩
    dsimp only at h6 h7 h8 h3
    have hHn : ∀ r, H' r = none → H r = none := fun r h => (hs.trans ho.sub).none h
    (repeat' (first | (simp only [↓s_skip, ↓s_reg, ↓s_seq, ↓s_cond, ↓s_block, ↓s_exit, ↓s_ret, ↓s_nil, ↓s_consN, ↓s_thenN, ↓s_thenE, ↓s_inE, ↓s_kret, ↓s_putS, ↓s_putN, ↓s_dOkS, ↓s_dOkN, ↓s_ev_t, ↓s_upd, ↓s_move, ↓s_assign, ↓s_load, ↓s_store, ↓s_bin, ↓s_alloc, ↓s_buildSlice, ↓s_indexAddr, ↓s_callB, ↓s_append, ↓s_bin_lss, ptrV, List.map_cons, List.map_nil, List.length_cons, List.length_nil, List.append_nil, ite_true, ite_false, Nat.reduceEqDiff, Nat.reduceLT, Nat.reduceAdd, Nat.reduceMul, Nat.reduceLeDiff, true_and, Nat.succ_ne_self, decide_true, decide_false, Int.natCast_nonneg, Int.toNat_natCast, AH.get, AH.set_set, fillV, setAt, List.all_cons, List.all_nil, Bool.and_self, eq_self, Nat.zero_add, List.drop, and_self, ldV_t5, Int.ofNat_lt, on_int, cl_agg, List.set_cons_zero, List.set_cons_succ, ↓n_alloc, n_allocS, Nat.le_refl, n_ldI, n_ldP, n_ixS, n_ixA1, n_ldA, n_ldC, n_ldB, n_stP, n_stA, vcBuildSlice, List.replicate_succ, List.replicate_zero, List.flatten_cons, List.flatten_nil, lines_drop, ldT_52, szT_52, zeroT_52, elT_28, elT_35, zeroT_83, *]) | (refine condL_splitD ?_ ?_ <;> intro) | (refine ret_tmp ?_) | (refine acx_go rfl (fun _ _ _ h => h) ?_) | (refine allNew_intro fun zr zh => ?_; have zg := zh; (try simp only [AH.set_none] at zg))))
    · have hb : i < l.length := by assumption
      refine append_own elT_35 zeroT_83 rfl (by omega) (ho.alloc (by assumption) _) rfl rfl (by omega) (by omega) (fun v' H'' ho2 => ?_)
      obtain ⟨Hc, hoc, hsc⟩ : ∃ Hc, OwnX Hc H'' 83 5 v' (i + 1) (encC lineE (l.take (i + 1))) ∧ SubH H Hc :=
        ⟨_, by rw [List.take_succ_eq_append_getElem hb, encC_snoc]; exact ho2, SubH.of_set hs (hHn _ (by simp only [*]))⟩
      clear ho2
      (repeat' (first | (simp only [↓s_reg, ↓s_nil, ↓s_consN, ↓s_thenN, ↓s_inN, ↓s_kret, ↓s_putS, ↓s_dOkS, ↓s_ev_t, ↓s_ev_c, ↓s_upd, ↓s_move, ↓s_assign, ↓s_bin, ↓s_bin_add, ite_true, ite_false, Nat.reduceEqDiff, Nat.reduceLT, true_and, Nat.succ_ne_self, eq_self, *]) | (with_reducible refine And.intro ?_ ?_)))
      · rw [wrap_ok (n := (i : Int) + 1) (by omega) (by omega)]
        exact ⟨i + 1, _, Hc, by omega, rfl, rfl, hsc, hoc⟩
      · rw [wrap_ok (n := (i : Int) + 1) (by omega) (by omega)]
        omega
    · have hb : ¬ i < l.length := by assumption
      rw [show i = l.length from by omega, List.take_length] at ho
      exact ⟨_, Hb, rfl, hs, ho⟩
theorem lines15P (l : List Line) (hn : (l.length : Int) ≤ 1000000) : PureF Try.prog 15 [linesV l] (linesV l) :=
  OwnF.pure fun H => lines15 l hn H
/-- rows12: what is handed back may be appended to. -/
theorem rows12 (l : List Row) (hn : (l.length : Int) ≤ 1000000) (hr : ∀ r ∈ l, (r.c.length : Int) ≤ 1000000) (H : AH) : OwnF Try.prog 12 [rowsV l] H 50 2 l.length (encC rowE l) := by
  unfold OwnF
  refine vcalls_intro fd12 (by simp) ?_
  unfold c12
  (repeat' (first | (simp only [↓s_reg, ↓s_seq, ↓s_seqL, ↓s_block, ↓s_loop, ↓s_nil, ↓s_consN, ↓s_thenN, ↓s_kret, ↓s_putS, ↓s_dOkS, ↓s_ev_t, ↓s_ev_c, ↓s_upd, ↓s_move, ↓s_assign, ↓s_callB, ↓s_len, intV, List.map_cons, List.map_nil, List.getD_cons_zero, List.getD_cons_succ, List.getD_nil, ite_true, ite_false, Nat.reduceEqDiff, Nat.reduceLT, ne_eq, not_false_eq_true, true_and, reduceCtorEq, undefV, eq_self, n_lenS, undef, elT_22, *])))
  refine acx_loop (fun _ _ _ h => h) (fun A H' => A.d = [] ∧ A.t 6 = rowsV l ∧ A.t 7 = iV l.length ∧ ∃ (i : Nat) (v : VV) (Hb : AH), i ≤ l.length ∧ A.t 8 = iV i ∧ A.t 3 = v ∧ SubH H Hb ∧ OwnX Hb H' 50 2 v i (encC rowE (l.take i)))
    (fun A _ => match A.t 8 with | .lit (.int _ i) => ((l.length : Int) - i).toNat | _ => 0) ?_ ?_
  · exact ⟨rfl, rfl, rfl, 0, _, H, by omega, rfl, rfl, SubH.refl _, OwnX.nil _ 50 2⟩
  · rintro ⟨t, d⟩ H' ⟨rfl, h6, h7, i, v, Hb, hi, h8, h3, hs, ho⟩
    dsimp only at h6 h7 h8 h3
    have hHn : ∀ r, H' r = none → H r = none := fun r h => (hs.trans ho.sub).none h
    (repeat' (first | (simp only [↓s_skip, ↓s_reg, ↓s_seq, ↓s_cond, ↓s_block, ↓s_exit, ↓s_ret, ↓s_dreg, ↓s_nil, ↓s_consN, ↓s_thenN, ↓s_thenE, ↓s_inE, ↓s_kret, ↓s_putS, ↓s_putN, ↓s_dOkS, ↓s_dOkN, ↓s_ev_t, ↓s_ev_f, ↓s_upd, ↓s_move, ↓s_assign, ↓s_load, ↓s_store, ↓s_bin, ↓s_alloc, ↓s_build, ↓s_buildSlice, ↓s_fieldAddr, ↓s_indexAddr, ↓s_callB, ↓s_callV, ↓s_callL, ↓s_append, ↓s_bin_lss, ptrV, List.map_cons, List.map_nil, List.length_cons, List.length_nil, List.append_nil, ite_true, ite_false, Nat.reduceEqDiff, Nat.reduceLT, Nat.reduceAdd, Nat.reduceMul, Nat.reduceLeDiff, ne_eq, not_false_eq_true, true_and, Nat.succ_ne_self, decide_true, decide_false, Int.natCast_nonneg, Int.toNat_natCast, ↓s_plFin, ↓s_plTkN, ↓s_plOneN, AH.get, AH.set_set, vcBuild, fillV, setAt, List.all_cons, List.all_nil, Bool.and_self, eq_self, Nat.zero_add, Nat.add_zero, List.drop, and_self, List.getElem?_cons_zero, List.getElem?_cons_succ, ldV_f, ldV_t2, Int.ofNat_lt, cl_int, on_int, cl_agg, cl_slice, on_slice, List.set_cons_zero, List.set_cons_succ, ↓n_alloc, n_allocS, Nat.le_refl, n_ldI, n_ldP, n_faP, n_ixS, n_ixA1, n_ldA, n_ldC, n_ldB, n_faA, n_stP, n_stA, ↓s_plK, ↓s_cutK, ↓s_plCutN, ↓s_oneK, vcBuildSlice, List.replicate_succ, List.replicate_zero, List.flatten_cons, List.flatten_nil, rows_drop, flT_39_0, flT_39_1, ldT_39, ldT_37, ldT_3, szT_39, zeroT_39, zeroT_50, stT_50, elT_22, elT_31, en_25, *]) | (refine condL_splitD ?_ ?_ <;> intro) | (refine ret_tmp ?_) | (refine acx_go rfl (fun _ _ _ h => h) ?_) | (refine acx_dreg mixed (fun _ _ _ _ e h => ⟨e.trans h.1, h.2⟩) _ (SubH.refl _) ?_) | (refine allNew_intro fun zr zh => ?_; have zg := zh; (try simp only [AH.set_none] at zg)) | (exact SubH.refl _) | (refine PureF.use (clone25 _ (hr _ (List.getElem_mem _))) ?_) | (with_reducible refine And.intro ?_ ?_)))
    · have hb : i < l.length := by assumption
      refine append_own elT_31 zeroT_50 rfl (by omega) (ho.alloc (by assumption) _) rfl rfl (by omega) (by omega) (fun v' H'' ho2 => ?_)
      obtain ⟨Hc, hoc, hsc⟩ : ∃ Hc, OwnX Hc H'' 50 2 v' (i + 1) (encC rowE (l.take (i + 1))) ∧ SubH H Hc :=
        ⟨_, by rw [List.take_succ_eq_append_getElem hb, encC_snoc]; exact ho2, SubH.of_set hs (hHn _ (by simp only [*]))⟩
      clear ho2
      (repeat' (first | (simp only [↓s_reg, ↓s_nil, ↓s_consN, ↓s_thenN, ↓s_inN, ↓s_kret, ↓s_putS, ↓s_dOkS, ↓s_ev_t, ↓s_ev_c, ↓s_upd, ↓s_move, ↓s_assign, ↓s_bin, ↓s_bin_add, ite_true, ite_false, Nat.reduceEqDiff, Nat.reduceLT, true_and, Nat.succ_ne_self, eq_self, *]) | (with_reducible refine And.intro ?_ ?_)))
      · rw [wrap_ok (n := (i : Int) + 1) (by omega) (by omega)]
        exact ⟨i + 1, _, Hc, by omega, rfl, rfl, hsc, hoc⟩
      · rw [wrap_ok (n := (i : Int) + 1) (by omega) (by omega)]
        omega
    · have hb : ¬ i < l.length := by assumption
      rw [show i = l.length from by omega, List.take_length] at ho
      exact ⟨_, Hb, rfl, hs, ho⟩
theorem rows12P (l : List Row) (hn : (l.length : Int) ≤ 1000000) (hr : ∀ r ∈ l, (r.c.length : Int) ≤ 1000000) : PureF Try.prog 12 [rowsV l] (rowsV l) :=
  OwnF.pure fun H => rows12 l hn hr H
end Go.PV.Ytefpjfpelicedaa
end
section
/- Check, Holds, and what compares. -/
set_option linter.unusedVariables false
set_option linter.unusedSimpArgs false
set_option maxRecDepth 20000
set_option maxHeartbeats 4000000
namespace Go.PV.Ytefpjfpelicedaa
open Go Go.Proofs
theorem deriveGo_ok {rows : List Row} {n : Nat} : ∀ (ls : List Line) (made : List Row), (∀ r ∈ made, Fits n r) → ∀ r ∈ (deriveGo rows n made ls).1, Fits n r
  | [], made, h => h
  | l :: ls, made, h => by
    unfold deriveGo
    split
    · rename_i he
      refine deriveGo_ok ls _ fun x hx => ?_
      rcases List.mem_append.1 hx with hx | hx
      · exact h x hx
      · rw [List.mem_singleton.1 hx]; exact makeF_ok h he
    · simp
theorem deriveF_ok (rows : List Row) (ls : List Line) : ∀ r ∈ (deriveF rows ls).1, Fits (unkN rows) r ∧ unkN rows ≤ 12 := by
  unfold deriveF
  split
  · rename_i hr
    split
    · simp
    · exact fun r h => ⟨deriveGo_ok ls [] (by simp) r h, unkN_le hr⟩
  · simp
theorem deriveGo_len {rows : List Row} {n : Nat} : ∀ (ls : List Line) (made : List Row), (deriveGo rows n made ls).1.length ≤ made.length + ls.length
  | [], made => by simp [deriveGo]
  | l :: ls, made => by
    unfold deriveGo
    split
    · have := deriveGo_len (rows := rows) (n := n) ls (made ++ [(makeF rows made n l).1])
      simp at *; omega
    · simp
theorem deriveF_len (rows : List Row) (ls : List Line) : (deriveF rows ls).1.length ≤ 5000 := by
  unfold deriveF
  split
  · split
    · simp
    · have := deriveGo_len (rows := rows) (n := unkN rows) ls []
      simp at this; omega
  · simp
def lastF (made : List Row) : Int := if made = [] ∨ absurdF (rowAt made ((made.length : Int) - 1)) = false then 260 else 0
def checkF (rows : List Row) (ls : List Line) : Int := if (deriveF rows ls).2 = 0 then lastF (deriveF rows ls).1 else (deriveF rows ls).2
theorem check13 (rows : List Row) (ls : List Line) (h1 : (rows.length : Int) ≤ 9223372036854775806) (h2 : (ls.length : Int) ≤ 9223372036854775806) : PureF Try.prog 13 [rowsV rows, linesV ls] (iV (checkF rows ls)) := by
  refine PureF.forget fun H => ?_
  refine vcalls_intro fd13 (by simp) ?_
  unfold c13
  have hl := deriveF_len rows ls
  have hf := deriveF_ok rows ls
  have hd := derive22 rows ls h1 h2
  unfold checkF
  generalize hp : deriveF rows ls = p at hl hf hd ⊢
  clear hp
  have hw : IntKind.i64.wrap ((p.1.length : Int) - 1) = (p.1.length : Int) - 1 := wrap_ok (by omega) (by omega)
  by_cases he : p.2 = 0
  · by_cases h0 : p.1 = []
    · have h0' : (p.1.length : Int) = 0 := by simp [h0]
      have e : lastF p.1 = 260 := by simp [lastF, h0]
      clear h0
      (repeat' (first | (simp only [↓s_skip, ↓s_reg, ↓s_seq, ↓s_cond, ↓s_condT, ↓s_condF, ↓s_ret, ↓s_nil, ↓s_consN, ↓s_consG, ↓s_guardTF, ↓s_thenN, ↓s_thenR, ↓s_kret, ↓s_putS, ↓s_dOkS, ↓s_ev_t, ↓s_ev_c, ↓s_ev_f, ↓s_upd, ↓s_move, ↓s_assign, ↓s_isBool, ↓s_pickA, ↓s_pick, ↓s_bin, ↓s_extract, ↓s_callB, ↓s_callV, ↓s_callL, ↓s_len, ↓s_bin_eql, ↓s_bin_neq, vcExtract, intV, List.map_cons, List.map_nil, List.getD_cons_zero, List.getD_cons_succ, List.getD_nil, ite_true, ite_false, Nat.reduceEqDiff, Nat.reduceLT, ne_eq, not_false_eq_true, true_and, Nat.succ_ne_self, decide_true, Bool.not_true, reduceCtorEq, callOk, undefV, eq_self, List.getElem?_cons_zero, List.getElem?_cons_succ, n_lenS, undef, elT_31, en_22, en_41, *]) | (refine ret_tmp ?_) | (exact SubH.refl _) | (refine PureF.use (hd) ?_)))
    · have h0' : ¬ (p.1.length : Int) = 0 := fun e => h0 (List.eq_nil_of_length_eq_zero (by omega))
      have h3 : 0 ≤ (p.1.length : Int) - 1 := by omega
      have h4 : (p.1.length : Int) - 1 < p.1.length := by omega
      have hm : rowAt p.1 ((p.1.length : Int) - 1) ∈ p.1 := by
        unfold rowAt
        rw [List.getD_eq_getElem?_getD]
        have h5 : ((p.1.length : Int) - 1).toNat < p.1.length := by omega
        simp only [h5, List.getElem?_eq_getElem, Option.getD_some]; exact List.getElem_mem _
      have h6 := (hf _ hm).1.1
      have h7 := (hf _ hm).2
      have hlen : ((rowAt p.1 ((p.1.length : Int) - 1)).c.length : Int) ≤ 9223372036854775806 := by omega
      have e : lastF p.1 = if absurdF (rowAt p.1 ((p.1.length : Int) - 1)) = false then 260 else 0 := by simp [lastF, h0]
      clear h6 hm h0
      (repeat' (first | (simp only [↓s_skip, ↓s_reg, ↓s_seq, ↓s_cond, ↓s_condF, ↓s_ret, ↓s_nil, ↓s_consN, ↓s_consG, ↓s_guardFF, ↓s_thenN, ↓s_thenR, ↓s_kret, ↓s_putS, ↓s_dOkS, ↓s_ev_t, ↓s_ev_c, ↓s_ev_f, ↓s_upd, ↓s_move, ↓s_assign, ↓s_isBool, ↓s_pickA, ↓s_pick, ↓s_load, ↓s_bin, ↓s_un, ↓s_indexAddr, ↓s_extract, ↓s_callB, ↓s_callV, ↓s_callL, ↓s_len, ↓s_un_not, ↓s_bin_eql, ↓s_bin_neq, ↓s_bin_sub, vcExtract, intV, boolV, List.map_cons, List.map_nil, List.getD_cons_zero, List.getD_cons_succ, List.getD_nil, ite_true, ite_false, Nat.reduceEqDiff, Nat.reduceLT, ne_eq, not_false_eq_true, true_and, Bool.false_eq_true, Nat.succ_ne_self, decide_true, decide_false, Bool.not_true, reduceCtorEq, undefV, eq_self, and_self, List.getElem?_cons_zero, List.getElem?_cons_succ, ldV_t2, n_ldI, n_ixS, n_ixA1, n_lenS, n_ldC, n_ldB, undef, rows_dropZ, ldT_50, elT_31, en_22, en_41, *]) | (refine condL_split ?_ ?_ <;> intro) | (refine ret_tmp ?_) | (exact SubH.refl _) | (refine PureF.use (hd) ?_) | (refine PureF.use (absurd41 (rowAt p.1 ((p.1.length : Int) - 1)) hlen) ?_) | (with_reducible refine And.intro ?_ ?_)))
      · have e2 : absurdF (rowAt p.1 ((p.1.length : Int) - 1)) = false := by simpa using (by assumption : (!absurdF (rowAt p.1 ((p.1.length : Int) - 1))) = true)
        rw [if_pos e2]
      · have e2 : absurdF (rowAt p.1 ((p.1.length : Int) - 1)) = true := by simpa using (by assumption : (!absurdF (rowAt p.1 ((p.1.length : Int) - 1))) = false)
        rw [if_neg (by simp [e2])]
  · (repeat' (first | (simp only [↓s_reg, ↓s_seq, ↓s_cond, ↓s_condT, ↓s_ret, ↓s_nil, ↓s_consN, ↓s_thenN, ↓s_thenR, ↓s_kret, ↓s_putS, ↓s_dOkS, ↓s_ev_t, ↓s_ev_c, ↓s_ev_f, ↓s_upd, ↓s_move, ↓s_assign, ↓s_bin, ↓s_extract, ↓s_callV, ↓s_callL, ↓s_bin_neq, vcExtract, List.map_cons, List.map_nil, List.getD_cons_zero, List.getD_cons_succ, List.getD_nil, ite_true, ite_false, Nat.reduceEqDiff, Nat.reduceLT, true_and, Nat.succ_ne_self, decide_false, Bool.not_false, reduceCtorEq, undefV, eq_self, List.getElem?_cons_zero, List.getElem?_cons_succ, undef, en_22, *]) | (refine ret_tmp ?_) | (exact SubH.refl _) | (refine PureF.use (hd) ?_)))
def fewF (rows : List Row) (ls : List Line) (m : Int) : Bool := decide ((rows.length : Int) ≤ 110) && decide ((ls.length : Int) ≤ m) && !(rows.any fun r => decide (20 < (r.c.length : Int)))
theorem few7 (rows : List Row) (ls : List Line) (m : Int) (h1 : (rows.length : Int) ≤ 9223372036854775806) : PureF Try.prog 7 [rowsV rows, linesV ls, iV m] (boolV (fewF rows ls m)) := by
  refine PureF.forget fun H => ?_
  refine vcalls_intro fd7 (by simp) ?_
  unfold c7 fewF
  by_cases h2 : (rows.length : Int) ≤ 110
  · by_cases h3 : (ls.length : Int) ≤ m
    · (repeat' (first | (refine contains33 (p := fun r => decide (20 < (r.c.length : Int))) h1 (fun x _ => FnAt.lit en_34 (few34 x)) ?_) | (simp only [↓s_reg, ↓s_seq, ↓s_ret, ↓s_nil, ↓s_consN, ↓s_consG, ↓s_guardTT, ↓s_thenN, ↓s_kret, ↓s_putS, ↓s_dOkS, ↓s_ev_t, ↓s_ev_c, ↓s_ev_f, ↓s_upd, ↓s_move, ↓s_assign, ↓s_isBool, ↓s_pickA, ↓s_pick, ↓s_bin, ↓s_un, ↓s_callB, ↓s_callV, ↓s_callL, ↓s_len, ↓s_un_not, ↓s_bin_leq, intV, boolV, List.map_cons, List.map_nil, List.getD_cons_zero, List.getD_cons_succ, List.getD_nil, ite_true, ite_false, Nat.reduceEqDiff, Nat.reduceLT, ne_eq, not_false_eq_true, true_and, Nat.succ_ne_self, decide_true, Bool.true_and, reduceCtorEq, undefV, Bool.and_self, eq_self, n_lenS, undef, elT_22, elT_35, en_33, *]) | (refine ret_tmp ?_) | (exact SubH.refl _)))
    · (repeat' (first | (simp only [↓s_reg, ↓s_seq, ↓s_ret, ↓s_nil, ↓s_consN, ↓s_consG, ↓s_guardTT, ↓s_guardFT, ↓s_thenN, ↓s_kret, ↓s_putS, ↓s_dOkS, ↓s_ev_t, ↓s_ev_c, ↓s_ev_f, ↓s_upd, ↓s_move, ↓s_assign, ↓s_isBool, ↓s_pickA, ↓s_pick, ↓s_bin, ↓s_callB, ↓s_len, ↓s_bin_leq, intV, boolV, List.map_cons, List.map_nil, List.getD_cons_zero, List.getD_cons_succ, List.getD_nil, ite_true, ite_false, Nat.reduceEqDiff, Nat.reduceLT, ne_eq, not_false_eq_true, true_and, Bool.false_eq_true, Nat.succ_ne_self, decide_true, decide_false, Bool.and_false, Bool.false_and, reduceCtorEq, callOk, undefV, eq_self, n_lenS, undef, elT_22, elT_35, en_33, *]) | (refine ret_tmp ?_) | (exact SubH.refl _)))
  · (repeat' (first | (simp only [↓s_reg, ↓s_seq, ↓s_ret, ↓s_nil, ↓s_consN, ↓s_consG, ↓s_guardFT, ↓s_thenN, ↓s_kret, ↓s_putS, ↓s_dOkS, ↓s_ev_t, ↓s_ev_c, ↓s_ev_f, ↓s_upd, ↓s_move, ↓s_assign, ↓s_isBool, ↓s_pickA, ↓s_pick, ↓s_bin, ↓s_callB, ↓s_len, ↓s_bin_leq, intV, boolV, List.map_cons, List.map_nil, List.getD_cons_zero, List.getD_cons_succ, List.getD_nil, ite_true, ite_false, Nat.reduceEqDiff, Nat.reduceLT, ne_eq, not_false_eq_true, true_and, Bool.false_eq_true, Nat.succ_ne_self, decide_false, Bool.false_and, reduceCtorEq, callOk, undefV, eq_self, n_lenS, undef, elT_22, en_33, *]) | (refine ret_tmp ?_) | (exact SubH.refl _)))
instance : DecidableEq Row := fun a b => if h : a.c = b.c ∧ a.b = b.b then .isTrue (by cases a; cases b; simp_all) else .isFalse fun e => h (by rw [e]; exact ⟨rfl, rfl⟩)
theorem ne_of_getElem {α : Type} {a b : List α} {i : Nat} (ha : i < a.length) (hb : i < b.length) (h : a[i] ≠ b[i]) : a ≠ b := fun e => by subst e; exact h rfl
theorem take_ext {α : Type} {a b : List α} {i : Nat} (h : a.take i = b.take i) (ha : i < a.length) (hb : i < b.length) (he : a[i] = b[i]) : a.take (i + 1) = b.take (i + 1) := by
  rw [List.take_succ_eq_append_getElem ha, List.take_succ_eq_append_getElem hb, h, he]
theorem equal32 (a b : List Int) (hn : (a.length : Int) ≤ 9223372036854775806) : PureF Try.prog 32 [intsV a, intsV b] (boolV (decide (a = b))) := by
  refine PureF.forget fun H => ?_
  refine vcalls_intro fd32 (by simp) ?_
  unfold c32
  by_cases hl : (a.length : Int) = b.length
  · (repeat' (first | (simp only [↓s_skip, ↓s_reg, ↓s_seq, ↓s_seqL, ↓s_cond, ↓s_condF, ↓s_block, ↓s_loop, ↓s_nil, ↓s_consN, ↓s_thenN, ↓s_kret, ↓s_putS, ↓s_dOkS, ↓s_ev_t, ↓s_ev_c, ↓s_upd, ↓s_move, ↓s_assign, ↓s_bin, ↓s_callB, ↓s_len, ↓s_bin_neq, intV, boolV, List.map_cons, List.map_nil, List.getD_cons_zero, List.getD_cons_succ, List.getD_nil, ite_true, ite_false, Nat.reduceEqDiff, Nat.reduceLT, ne_eq, not_false_eq_true, true_and, Nat.succ_ne_self, decide_true, Bool.not_true, reduceCtorEq, undefV, eq_self, n_lenS, undef, elT_37, *])))
    refine acx_loop (fun _ _ _ h => h) (fun A H' => SubH H H' ∧ A.d = [] ∧ A.t 0 = intsV a ∧ A.t 1 = intsV b ∧ A.t 11 = intsV a ∧ A.t 12 = iV b.length ∧ ∃ i : Nat, i ≤ b.length ∧ A.t 13 = iV i ∧ a.take i = b.take i)
      (fun A _ => match A.t 13 with | .lit (.int _ i) => ((b.length : Int) - i).toNat | _ => 0) ?_ ?_
    · exact ⟨SubH.refl _, rfl, rfl, rfl, rfl, rfl, 0, by simp, rfl, rfl⟩
    · rintro ⟨t, d⟩ H' ⟨hs, rfl, h0, h1, h11, h12, i, hi, h13, hgo⟩
      dsimp only at h0 h1 h11 h12 h13
      have hal : i < b.length → i < a.length := fun h => by omega
      (repeat' (first | (simp only [↓s_skip, ↓s_reg, ↓s_seq, ↓s_cond, ↓s_block, ↓s_exit, ↓s_ret, ↓s_dreg, ↓s_nil, ↓s_consN, ↓s_thenN, ↓s_thenE, ↓s_thenR, ↓s_inN, ↓s_inE, ↓s_inR, ↓s_kret, ↓s_putS, ↓s_dOkS, ↓s_ev_t, ↓s_ev_c, ↓s_upd, ↓s_move, ↓s_assign, ↓s_load, ↓s_bin, ↓s_indexAddr, ↓s_bin_lss, ↓s_bin_neq, ↓s_bin_add, ite_true, ite_false, Nat.reduceEqDiff, Nat.reduceLT, true_and, and_true, Nat.succ_ne_self, decide_true, decide_false, reduceCtorEq, Int.natCast_nonneg, Int.toNat_natCast, Nat.mul_one, ↓s_plFin, ↓s_plTkN, eq_self, and_self, ldV_f, Int.ofNat_lt, n_ldI, n_ixS, n_ixA1, n_ldC, n_ldB, ↓s_plK, ints_drop, ldT_3, elT_37, *]) | (refine condL_splitD ?_ ?_ <;> intro) | (refine condL_split ?_ ?_ <;> intro) | (refine ret_tmp ?_) | (refine acx_go rfl (fun _ _ _ h => h) ?_) | (refine acx_dreg mixed (fun _ _ _ _ e h => ⟨e.trans h.1, h.2⟩) _ (SubH.refl _) ?_) | (with_reducible refine And.intro ?_ ?_)))
      · have hb : i < b.length := by assumption
        have he : ¬ a[i]'(hal hb) = b[i] := by simpa using (by assumption : (!decide (a[i]'(hal hb) = b[i])) = true)
        rw [decide_eq_false (ne_of_getElem (hal hb) hb he)]
      · have hb : i < b.length := by assumption
        have he : a[i]'(hal hb) = b[i] := by simpa using (by assumption : (!decide (a[i]'(hal hb) = b[i])) = false)
        rw [wrap_ok (n := (i : Int) + 1) (by omega) (by omega)]
        exact ⟨i + 1, by omega, rfl, take_ext hgo (hal hb) hb he⟩
      · rw [wrap_ok (n := (i : Int) + 1) (by omega) (by omega)]
        omega
      · rw [List.take_of_length_le (by omega), List.take_of_length_le (by omega)] at hgo
        rw [decide_eq_true hgo]
  · have hne : ¬ a = b := fun e => hl (by rw [e])
    (repeat' (first | (simp only [↓s_reg, ↓s_seq, ↓s_cond, ↓s_condT, ↓s_ret, ↓s_nil, ↓s_consN, ↓s_thenN, ↓s_thenR, ↓s_kret, ↓s_putS, ↓s_dOkS, ↓s_ev_t, ↓s_ev_c, ↓s_upd, ↓s_move, ↓s_assign, ↓s_bin, ↓s_callB, ↓s_len, ↓s_bin_neq, intV, boolV, List.map_cons, List.map_nil, List.getD_cons_zero, List.getD_cons_succ, List.getD_nil, ite_true, ite_false, Nat.reduceEqDiff, Nat.reduceLT, ne_eq, not_false_eq_true, true_and, Nat.succ_ne_self, decide_false, Bool.not_false, reduceCtorEq, undefV, eq_self, n_lenS, undef, elT_37, *]) | (refine ret_tmp ?_) | (exact SubH.refl _)))
end Go.PV.Ytefpjfpelicedaa
end
section
/- Numbers that fulfil a row, asg the reference has it. -/
set_option linter.unusedVariables false
set_option linter.unusedSimpArgs false
set_option maxRecDepth 20000
set_option maxHeartbeats 4000000
namespace Go.PV.Ytefpjfpelicedaa
open Go Go.Proofs
def fulGo (r : Row) : List Int → Nat → Int → Int
  | [], _, s => s
  | y :: ys, k, s => fulGo r ys (k + 1) (W (s + W (coeffF r k * y)))
def fulF (r : Row) (x : List Int) : Bool := decide (fulGo r x 0 0 ≤ r.b)
theorem fulfils26 (r : Row) (x : List Int) (hn : (x.length : Int) ≤ 9223372036854775806) : PureF Try.prog 26 [rowV r, intsV x] (boolV (fulF r x)) := by
  refine PureF.forget fun H => ?_
  refine vcalls_intro fd26 (by simp) ?_
  unfold c26
  (repeat' (first | (simp only [↓s_reg, ↓s_seq, ↓s_seqL, ↓s_block, ↓s_loop, ↓s_nil, ↓s_consN, ↓s_thenN, ↓s_kret, ↓s_putS, ↓s_dOkS, ↓s_ev_t, ↓s_ev_c, ↓s_assign, ↓s_box, ptrV, boolV, List.getD_cons_zero, Nat.reduceLT, true_and, undefV, cl_agg, ↓n_box, undef, *]) | (refine allNew_intro fun zr zh => ?_; have zg := zh; (try simp only [AH.set_none] at zg))))
  refine acx_loop (fun _ _ _ h => h) (fun A H' => SubH H H' ∧ A.d = [] ∧ A.t 1 = intsV x ∧ A.t 2 = ptrV zr 0 ∧ H' zr = some (.cells 39 (rowE r) 0) ∧ ∃ (i : Nat) (s : Int), i ≤ x.length ∧ A.t 6 = iV i ∧ A.t 5 = iV s ∧ fulGo r x 0 0 = fulGo r (x.drop i) i s)
    (fun A _ => match A.t 6 with | .lit (.int _ i) => ((x.length : Int) - i).toNat | _ => 0) ?_ ?_
  · exact ⟨SubH.new (by assumption), rfl, rfl, rfl, AH.set_same _ _ _, 0, 0, by simp, rfl, rfl, rfl⟩
  · rintro ⟨t, d⟩ H' ⟨hs, rfl, h1, h2, k2, i, s, hi, h6, h5, hgo⟩
    dsimp only at h1 h2 h5 h6
    (repeat' (first | (simp only [↓s_skip, ↓s_reg, ↓s_seq, ↓s_cond, ↓s_block, ↓s_exit, ↓s_ret, ↓s_dreg, ↓s_nil, ↓s_consN, ↓s_thenN, ↓s_thenE, ↓s_inN, ↓s_inE, ↓s_kret, ↓s_putS, ↓s_dOkS, ↓s_ev_t, ↓s_ev_c, ↓s_ev_f, ↓s_upd, ↓s_move, ↓s_assign, ↓s_load, ↓s_bin, ↓s_fieldAddr, ↓s_indexAddr, ↓s_callB, ↓s_callV, ↓s_callL, ↓s_len, ↓s_bin_lss, ↓s_bin_leq, ↓s_bin_add, ↓s_bin_mul, ptrV, intV, List.map_cons, List.map_nil, ite_true, ite_false, Nat.reduceEqDiff, Nat.reduceLT, ne_eq, not_false_eq_true, true_and, and_true, Nat.succ_ne_self, decide_true, decide_false, reduceCtorEq, Int.natCast_nonneg, Int.toNat_natCast, Nat.mul_one, ↓s_plFin, ↓s_plTkN, ↓s_plOneN, eq_self, Nat.zero_add, List.drop, and_self, ldV_f, ldV_t2, Int.ofNat_lt, n_ldI, n_ldP, n_faP, n_ixS, n_ixA1, n_lenS, n_ldA, n_ldC, n_ldB, n_faA, ↓s_plK, ↓s_cutK, ↓s_plCutN, ↓s_oneK, ints_drop, flT_39_1, ldT_39, ldT_3, elT_37, en_45, *]) | (refine condL_splitD ?_ ?_ <;> intro) | (refine ret_tmp ?_) | (refine acx_go rfl (fun _ _ _ h => h) ?_) | (refine acx_dreg mixed (fun _ _ _ _ e h => ⟨e.trans h.1, h.2⟩) _ (SubH.refl _) ?_) | (exact SubH.refl _) | (refine PureF.use (coeff45 _ _ (Int.natCast_nonneg _)) ?_) | (with_reducible refine And.intro ?_ ?_)))
    · have hb : i < x.length := by assumption
      rw [wrap_ok (n := (i : Int) + 1) (by omega) (by omega)]
      refine ⟨i + 1, _, by omega, rfl, rfl, ?_⟩
      rw [List.drop_eq_getElem_cons hb]; rfl
    · rw [wrap_ok (n := (i : Int) + 1) (by omega) (by omega)]
      omega
    · have : fulGo r x 0 0 = s := by rw [hgo, List.drop_eq_nil_of_le (by omega)]; rfl
      rw [fulF, this]
end Go.PV.Ytefpjfpelicedaa
end
