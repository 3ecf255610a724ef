/- Part 7 of 11 of what the proof of Deri needs. -/
import Derived.Test.YtefpjfpelicedaaDeri6
import Derived.Test.YtefpjfpelicedaaDeri5
import Derived.DeepKeys4
import Derived.Test.YtefpjfpelicedaaDeri3
section
/- The reference's row of a line: its loops over lines. -/
set_option linter.unusedVariables false
set_option linter.unusedSimpArgs false
set_option maxRecDepth 20000
set_option maxHeartbeats 4000000
namespace Go.PV.Ytefpjfpelicedaa
open Go Go.Proofs
theorem rows_dropY1 {l : List Row} {a : Int} (h0 : 0 ≤ a) (h1 : a < (l.length : Int)) : (encC rowE l).drop (a.toNat * 2 + 1) = iV (rowAt l a).b :: encC rowE (l.drop (a.toNat + 1)) := by
  rw [← List.drop_drop, rows_dropZ h0 h1]; rfl
theorem loop50c {H0 H : AH} {t : Nat → VV} {l : Line} {n r6 r8 r10 g c sp : Nat} {rows made : List Row} {x : VV} (st : St50 H0 H t l n r6 r8 r10 [] 0) (h1 : t 1 = .lit (.slice (some ⟨g, 0, none⟩) made.length c)) (kg : H0 g = some (.cells 39 (encC rowE made) sp)) (h12 : t 15 = iV 0) (ha : 0 ≤ l.a ∧ l.a < (made.length : Int)) (hb : 0 ≤ l.b ∧ l.b < (made.length : Int)) (hm : 1 ≤ l.m ∧ l.m ≤ 1000000) (hk : 1 ≤ l.n ∧ l.n ≤ 1000000)
    (fa : Fits n (rowAt made l.a)) (fb : Fits n (rowAt made l.b)) (hn : (n : Int) ≤ 1000)
    (hx : x = .tuple [rowV (outF ⟨(sumL (rowAt made l.a).c (rowAt made l.b).c l.m l.n), (rowAt made l.a).b * l.m + (rowAt made l.b).b * l.n⟩).1, iV (outF ⟨(sumL (rowAt made l.a).c (rowAt made l.b).c l.m l.n), (rowAt made l.a).b * l.m + (rowAt made l.b).b * l.n⟩).2]) :
    ACx ⟨Try.prog, 307, none⟩ (.loop b50_3) (inBlockA 5 (thenA (ACx ⟨Try.prog, 307, none⟩ c50_2 (inBlockA 0 (thenA (ACx ⟨Try.prog, 307, none⟩ c50_5 (P50 H0 x)) (P50 H0 x)))) (inBlockA 0 (thenA (ACx ⟨Try.prog, 307, none⟩ c50_5 (P50 H0 x)) (P50 H0 x))))) ⟨t, []⟩ H := by
  have hlen : (sumL (rowAt made l.a).c (rowAt made l.b).c l.m l.n).length = n := by simp [sumL, fa.1, fb.1]
  have la : (rowAt made l.a).c.length = n := fa.1
  have lb : (rowAt made l.b).c.length = n := fb.1
  refine acx_loop (fun _ _ _ h => h) (fun A H' => A.d = [] ∧ A.t 1 = .lit (.slice (some ⟨g, 0, none⟩) made.length c) ∧ ∃ i : Nat, i ≤ n ∧ A.t 15 = iV i ∧ St50 H0 H' A.t l n r6 r8 r10 ((sumL (rowAt made l.a).c (rowAt made l.b).c l.m l.n).take i) 0)
    (fun A _ => match A.t 15 with | .lit (.int _ i) => ((n : Int) - i).toNat | _ => 0) ?_ ?_
  · exact ⟨rfl, h1, 0, by omega, h12, st⟩
  · clear st h12 h1
    rintro ⟨t, d⟩ H' ⟨rfl, h1, i, hi, h12, ⟨h3, h6, h8, h10, n6, n8, n10, d68, d610, d810, v, Hb, ho, k10, k6, k8, hs⟩⟩
    dsimp only at h1 h12 h3 h6 h8 h10
    have q10 := ho.sub _ _ k10
    have q6 := ho.sub _ _ k6
    have hll : ((sumL (rowAt made l.a).c (rowAt made l.b).c l.m l.n).take i).length = i := by rw [List.length_take]; omega
    have qg := (hs.trans ho.sub) _ _ kg
    unfold b50_3
    (repeat' (first | (simp only [↓s_skip, ↓s_reg, ↓s_seq, ↓s_cond, ↓s_block, ↓s_exit, ↓s_dreg, ↓s_nil, ↓s_consN, ↓s_thenN, ↓s_thenE, ↓s_inN, ↓s_inE, ↓s_kret, ↓s_putS, ↓s_putN, ↓s_dOkS, ↓s_dOkN, ↓s_ev_t, ↓s_upd, ↓s_move, ↓s_load, ↓s_store, ↓s_bin, ↓s_buildSlice, ↓s_fieldAddr, ↓s_indexAddr, ↓s_callB, ↓s_append, ↓s_bin_lss, ↓s_bin_add, ↓s_bin_mul, ptrV, List.map_cons, List.map_nil, List.length_cons, List.length_nil, List.append_nil, ite_true, ite_false, Nat.reduceEqDiff, Nat.reduceLT, Nat.reduceAdd, Nat.reduceLeDiff, ne_eq, not_false_eq_true, true_and, Nat.succ_ne_self, decide_true, decide_false, reduceCtorEq, Int.natCast_nonneg, Int.toNat_natCast, Nat.mul_one, ↓s_plFin, ↓s_plTkN, ↓s_plOneN, fillV, setAt, List.all_cons, List.all_nil, Bool.and_self, eq_self, Nat.zero_add, Nat.add_zero, List.drop, and_self, ldV_f, Int.ofNat_lt, cl_int, on_int, List.set_cons_zero, List.set_cons_succ, Nat.le_refl, n_ldI, n_ldP, n_faP, n_ixS, n_ixL, n_ixA1, n_ixA2, n_ldA, n_ldC, n_ldB, n_faA, n_stP, n_stA, ↓s_plK, ↓s_oneK, vcBuildSlice, List.replicate_succ, List.replicate_zero, List.flatten_cons, List.flatten_nil, rows_dropY1, rows_dropZ, ints_drop, flT_39_0, flT_83_1, flT_39_1, flT_83_3, flT_83_2, flT_83_4, ldT_37, ldT_3, szT_3, elT_22, elT_37, zeroT_3, *]) | (refine guardL_splitTD ?_ ?_ <;> intro) | (refine guardL_splitFD ?_ ?_ <;> intro) | (refine guardP_splitTD ?_ ?_ <;> intro) | (refine guardP_splitFD ?_ ?_ <;> intro) | (refine condL_splitD ?_ ?_ <;> intro) | (refine guardL_splitT ?_ ?_ <;> intro) | (refine guardL_splitF ?_ ?_ <;> intro) | (refine guardP_splitT ?_ ?_ <;> intro) | (refine guardP_splitF ?_ ?_ <;> intro) | (refine condL_split ?_ ?_ <;> intro) | (refine ret_tmp ?_) | (refine acx_go rfl (fun _ _ _ h => h) ?_) | (refine acx_dreg mixed (fun _ _ _ _ e h => ⟨e.trans h.1, h.2⟩) _ (SubH.refl _) ?_) | (refine And.intro (SubH.new (by assumption)) ?_) | (refine allNew_intro fun zr zh => ?_; have zg := zh; (try simp only [AH.set_none] at zg)) | (exact SubH.refl _) | (refine SubH.of_set ?_ ?_) | assumption | (with_reducible refine And.intro ?_ ?_)))
    · have hlt : i < n := by assumption
      rw [wsum (fa.2.2 _ (List.getElem_mem _)) (fb.2.2 _ (List.getElem_mem _)) hm hk]
      refine append_own elT_37 zeroT_3 rfl (by omega) ho rfl rfl (by omega) (by omega) (fun v' H'' ho2 => ?_)
      have q10' := ho2.sub _ _ k10
      have hc1 := ho2.cells.1
      have hc2 := ho2.cells.2
      clear q10
      (repeat' (first | (simp only [↓s_reg, ↓s_nil, ↓s_consN, ↓s_thenN, ↓s_inN, ↓s_kret, ↓s_putS, ↓s_putN, ↓s_dOkS, ↓s_dOkN, ↓s_ev_t, ↓s_ev_c, ↓s_upd, ↓s_move, ↓s_assign, ↓s_store, ↓s_bin, ↓s_fieldAddr, ↓s_bin_add, ptrV, List.length_cons, List.length_nil, ite_true, ite_false, Nat.reduceEqDiff, Nat.reduceLT, Nat.reduceAdd, Nat.reduceLeDiff, ne_eq, not_false_eq_true, true_and, Nat.succ_ne_self, setAt, List.all_cons, List.all_nil, Bool.and_self, eq_self, Nat.zero_add, Nat.add_zero, List.set_cons_zero, n_faP, n_faA, n_stP, n_stA, flT_39_0, szT_37, *]) | (refine guardL_splitTD ?_ ?_ <;> intro) | (refine guardL_splitFD ?_ ?_ <;> intro) | (refine guardP_splitTD ?_ ?_ <;> intro) | (refine guardP_splitFD ?_ ?_ <;> intro) | (refine condL_splitD ?_ ?_ <;> intro) | (refine guardL_splitT ?_ ?_ <;> intro) | (refine guardL_splitF ?_ ?_ <;> intro) | (refine guardP_splitT ?_ ?_ <;> intro) | (refine guardP_splitF ?_ ?_ <;> intro) | (refine condL_split ?_ ?_ <;> intro) | (refine ret_tmp ?_) | (refine acx_go rfl (fun _ _ _ h => h) ?_) | (refine acx_dreg mixed (fun _ _ _ _ e h => ⟨e.trans h.1, h.2⟩) _ (SubH.refl _) ?_) | (refine And.intro (SubH.new (by assumption)) ?_) | (refine allNew_intro fun zr zh => ?_; have zg := zh; (try simp only [AH.set_none] at zg)) | (exact SubH.refl _) | (refine SubH.of_set ?_ ?_) | assumption | (with_reducible refine And.intro ?_ ?_)))
      all_goals rw [wrap_ok (n := (i : Int) + 1) (by omega) (by omega)]
      · refine ⟨i + 1, by omega, rfl, ?_⟩
        rw [take_snoc (by omega), show (sumL (rowAt made l.a).c (rowAt made l.b).c l.m l.n)[i]'(by omega) = (rowAt made l.a).c[i]'(by rw [fa.1]; exact hlt) * l.m + (rowAt made l.b).c[i]'(by rw [fb.1]; exact hlt) * l.n from by simp [sumL]]
        exact St50.next (by simp only [s_upd, Nat.reduceEqDiff, if_false, *] <;> rfl) (by simp only [s_upd, Nat.reduceEqDiff, if_false, *] <;> rfl) (by simp only [s_upd, Nat.reduceEqDiff, if_false, *] <;> rfl) (by simp only [s_upd, Nat.reduceEqDiff, if_false, *] <;> rfl) n6 n8 n10 d68 d610 d810 k10 k6 k8 hs ho2
      · omega
    · have hin : i = n := by omega
      subst hin
      rw [List.take_of_length_le (by omega)] at ho
      have hc1 := ho.cells.1
      have hc2 := ho.cells.2
      rw [wsum fa.2.1 fb.2.1 hm hk]
      exact rest50 (St50.bound (by simp only [s_upd, Nat.reduceEqDiff, if_false, *] <;> rfl) (by simp only [s_upd, Nat.reduceEqDiff, if_false, *] <;> rfl) (by simp only [s_upd, Nat.reduceEqDiff, if_false, *] <;> rfl) (by simp only [s_upd, Nat.reduceEqDiff, if_false, *] <;> rfl) n6 n8 n10 d68 d610 d810 k10 k6 k8 hs ho) hlen hn (by first | exact hx | rfl)
theorem floorR_eq {a m : Int} (ha : far2 a = false) (hm : 1 ≤ m ∧ m ≤ 1000000) : floorR a m = floorF a m := by
  have h1 : -1000000000000 ≤ a ∧ a ≤ 1000000000000 := by simpa [far2] using ha
  have h2 : (a.tdiv m).natAbs ≤ a.natAbs := Int.natAbs_tdiv_le_natAbs a m
  have h3 := Int.mul_tdiv_add_tmod a m
  have h4 : (a.tmod m).natAbs < m.natAbs := by rw [Int.natAbs_tmod]; exact Nat.mod_lt _ (by omega)
  have e : m * a.tdiv m = a.tdiv m * m := Int.mul_comm _ _
  have w1 : W (a.tdiv m) = a.tdiv m := wrap_ok (by omega) (by omega)
  have w2 : W (a.tdiv m * m) = a.tdiv m * m := wrap_ok (by omega) (by omega)
  unfold floorF floorR
  rw [w1, w2]
  have h5 : a.tmod m < 0 ↔ a < a.tdiv m * m := by omega
  simp only [h5]
theorem loop50d {H0 H : AH} {t : Nat → VV} {l : Line} {n r6 r8 r10 g c sp : Nat} {rows made : List Row} {x : VV} (st : St50 H0 H t l n r6 r8 r10 [] 0) (h1 : t 1 = .lit (.slice (some ⟨g, 0, none⟩) made.length c)) (kg : H0 g = some (.cells 39 (encC rowE made) sp)) (h12 : t 16 = iV 0) (ha : 0 ≤ l.a ∧ l.a < (made.length : Int)) (hm : 1 ≤ l.m ∧ l.m ≤ 1000000) (fa : Fits n (rowAt made l.a))
    (hy : (rowAt made l.a).c.any (fun c => !decide (c.tmod l.m = 0)) = true → x = .tuple [rowV ⟨[], 0⟩, iV 260]) (hn : (n : Int) ≤ 1000)
    (hx : (rowAt made l.a).c.any (fun c => !decide (c.tmod l.m = 0)) = false → x = .tuple [rowV (outF ⟨(divL (rowAt made l.a).c l.m), floorF (rowAt made l.a).b l.m⟩).1, iV (outF ⟨(divL (rowAt made l.a).c l.m), floorF (rowAt made l.a).b l.m⟩).2]) :
    ACx ⟨Try.prog, 307, none⟩ (.loop b50_4) (inBlockA 7 (thenA (ACx ⟨Try.prog, 307, none⟩ c50_3 (inBlockA 0 (thenA (ACx ⟨Try.prog, 307, none⟩ c50_5 (P50 H0 x)) (P50 H0 x)))) (inBlockA 0 (thenA (ACx ⟨Try.prog, 307, none⟩ c50_5 (P50 H0 x)) (P50 H0 x))))) ⟨t, []⟩ H := by
  have hlen : (divL (rowAt made l.a).c l.m).length = n := by simp [divL, fa.1]
  have la : (rowAt made l.a).c.length = n := fa.1
  have hm0 : ¬ l.m = 0 := by omega
  refine acx_loop (fun _ _ _ h => h) (fun A H' => A.d = [] ∧ A.t 1 = .lit (.slice (some ⟨g, 0, none⟩) made.length c) ∧ ∃ i : Nat, i ≤ n ∧ A.t 16 = iV i ∧ St50 H0 H' A.t l n r6 r8 r10 ((divL (rowAt made l.a).c l.m).take i) 0 ∧ ∀ j (h : j < (rowAt made l.a).c.length), j < i → (rowAt made l.a).c[j].tmod l.m = 0)
    (fun A _ => match A.t 16 with | .lit (.int _ i) => ((n : Int) - i).toNat | _ => 0) ?_ ?_
  · exact ⟨rfl, h1, 0, by omega, h12, st, fun j _ h => by omega⟩
  · clear st h12 h1
    rintro ⟨t, d⟩ H' ⟨rfl, h1, i, hi, h12, ⟨h3, h6, h8, h10, n6, n8, n10, d68, d610, d810, v, Hb, ho, k10, k6, k8, hs⟩, hall⟩
    dsimp only at h1 h12 h3 h6 h8 h10
    have q10 := ho.sub _ _ k10
    have q6 := ho.sub _ _ k6
    have q8 := ho.sub _ _ k8
    have hll : ((divL (rowAt made l.a).c l.m).take i).length = i := by rw [List.length_take]; omega
    have qg := (hs.trans ho.sub) _ _ kg
    unfold b50_4
    (repeat' (first | (simp only [↓s_skip, ↓s_reg, ↓s_seq, ↓s_cond, ↓s_block, ↓s_exit, ↓s_ret, ↓s_dreg, ↓s_nil, ↓s_consN, ↓s_thenN, ↓s_thenE, ↓s_thenR, ↓s_inN, ↓s_inE, ↓s_inR, ↓s_kret, ↓s_putS, ↓s_putN, ↓s_dOkS, ↓s_dOkN, ↓s_ev_t, ↓s_ev_c, ↓s_ev_f, ↓s_upd, ↓s_move, ↓s_assign, ↓s_load, ↓s_store, ↓s_bin, ↓s_build, ↓s_buildSlice, ↓s_fieldAddr, ↓s_indexAddr, ↓s_callB, ↓s_callV, ↓s_callL, ↓s_append, ↓s_bin_lss, ↓s_bin_neq, ↓s_bin_quo, ↓s_bin_rem, ptrV, List.map_cons, List.map_nil, List.length_cons, List.length_nil, List.append_nil, ite_true, ite_false, Nat.reduceEqDiff, Nat.reduceLT, Nat.reduceAdd, Nat.reduceLeDiff, ne_eq, not_false_eq_true, true_and, Nat.succ_ne_self, decide_true, decide_false, reduceCtorEq, Int.natCast_nonneg, Int.toNat_natCast, Nat.mul_one, ↓s_plFin, ↓s_plTkN, ↓s_plOneN, vcBuild, fillV, setAt, List.all_cons, List.all_nil, Bool.and_self, eq_self, Nat.zero_add, Nat.add_zero, List.drop, and_self, ldV_f, Int.ofNat_lt, cl_int, on_int, on_sl, cl_agg, List.set_cons_zero, List.set_cons_succ, Nat.le_refl, n_ldI, n_ldP, n_faP, n_ixS, n_ixL, n_ixA1, n_ixA2, n_ldA, n_ldC, n_ldB, n_faA, n_stP, n_stA, ↓s_plK, ↓s_oneK, vcBuildSlice, List.replicate_succ, List.replicate_zero, List.flatten_cons, List.flatten_nil, rows_dropY1, rows_dropZ, ints_drop, flT_39_0, flT_83_1, flT_39_1, flT_83_3, ldT_37, ldT_3, szT_3, szT_39, stT_39, elT_22, elT_37, zeroT_3, en_72, *]) | (refine guardL_splitTD ?_ ?_ <;> intro) | (refine guardL_splitFD ?_ ?_ <;> intro) | (refine guardP_splitTD ?_ ?_ <;> intro) | (refine guardP_splitFD ?_ ?_ <;> intro) | (refine condL_splitD ?_ ?_ <;> intro) | (refine guardL_splitT ?_ ?_ <;> intro) | (refine guardL_splitF ?_ ?_ <;> intro) | (refine guardP_splitT ?_ ?_ <;> intro) | (refine guardP_splitF ?_ ?_ <;> intro) | (refine condL_split ?_ ?_ <;> intro) | (refine ret_tmp ?_) | (refine acx_go rfl (fun _ _ _ h => h) ?_) | (refine acx_dreg mixed (fun _ _ _ _ e h => ⟨e.trans h.1, h.2⟩) _ (SubH.refl _) ?_) | (refine And.intro (SubH.new (by assumption)) ?_) | (refine allNew_intro fun zr zh => ?_; have zg := zh; (try simp only [AH.set_none] at zg)) | (exact SubH.refl _) | (refine SubH.of_set ?_ ?_) | assumption | (refine PureF.use (floor72 _ _ hm0) ?_) | (with_reducible refine And.intro ?_ ?_)))
    · have hlt : i < n := by assumption
      have hcm : (rowAt made l.a).c[i].tmod l.m ≠ 0 := by simpa using (by assumption : (!decide ((rowAt made l.a).c[i].tmod l.m = 0)) = true)
      rw [hy (List.any_eq_true.2 ⟨(rowAt made l.a).c[i], List.getElem_mem _, by simpa using hcm⟩)]
      show P50 _ _ _ _ _
      exact bad50 (by simp only [s_upd, Nat.reduceEqDiff, if_false, *] <;> rfl) (by simp only [s_upd, Nat.reduceEqDiff, if_true, if_false, *] <;> rfl) (by rw [AH.set_same]) ((hs.trans ho.sub).of_set n8)
    · have hlt : i < n := by assumption
      have hcm : (rowAt made l.a).c[i].tmod l.m = 0 := by simpa using (by assumption : (!decide ((rowAt made l.a).c[i].tmod l.m = 0)) = false)
      rw [div_ok (fa.2.2 _ (List.getElem_mem _)) hm]
      refine append_own elT_37 zeroT_3 rfl (by omega) ho rfl rfl (by omega) (by omega) (fun v' H'' ho2 => ?_)
      have q10' := ho2.sub _ _ k10
      have hc1 := ho2.cells.1
      have hc2 := ho2.cells.2
      clear q10
      (repeat' (first | (simp only [↓s_reg, ↓s_nil, ↓s_consN, ↓s_thenN, ↓s_inN, ↓s_kret, ↓s_putS, ↓s_putN, ↓s_dOkS, ↓s_dOkN, ↓s_ev_t, ↓s_ev_c, ↓s_upd, ↓s_move, ↓s_assign, ↓s_store, ↓s_bin, ↓s_fieldAddr, ↓s_bin_add, ptrV, List.length_cons, List.length_nil, ite_true, ite_false, Nat.reduceEqDiff, Nat.reduceLT, Nat.reduceAdd, Nat.reduceLeDiff, ne_eq, not_false_eq_true, true_and, Nat.succ_ne_self, setAt, List.all_cons, List.all_nil, Bool.and_self, eq_self, Nat.zero_add, Nat.add_zero, List.set_cons_zero, n_faP, n_faA, n_stP, n_stA, flT_39_0, szT_37, *]) | (refine guardL_splitTD ?_ ?_ <;> intro) | (refine guardL_splitFD ?_ ?_ <;> intro) | (refine guardP_splitTD ?_ ?_ <;> intro) | (refine guardP_splitFD ?_ ?_ <;> intro) | (refine condL_splitD ?_ ?_ <;> intro) | (refine guardL_splitT ?_ ?_ <;> intro) | (refine guardL_splitF ?_ ?_ <;> intro) | (refine guardP_splitT ?_ ?_ <;> intro) | (refine guardP_splitF ?_ ?_ <;> intro) | (refine condL_split ?_ ?_ <;> intro) | (refine ret_tmp ?_) | (refine acx_go rfl (fun _ _ _ h => h) ?_) | (refine acx_dreg mixed (fun _ _ _ _ e h => ⟨e.trans h.1, h.2⟩) _ (SubH.refl _) ?_) | (refine And.intro (SubH.new (by assumption)) ?_) | (refine allNew_intro fun zr zh => ?_; have zg := zh; (try simp only [AH.set_none] at zg)) | (exact SubH.refl _) | (refine SubH.of_set ?_ ?_) | assumption | (with_reducible refine And.intro ?_ ?_)))
      all_goals rw [wrap_ok (n := (i : Int) + 1) (by omega) (by omega)]
      · refine ⟨i + 1, by omega, rfl, ?_, ?_⟩
        · rw [take_snoc (by omega), show (divL (rowAt made l.a).c l.m)[i]'(by omega) = ((rowAt made l.a).c[i]'(by rw [fa.1]; exact hlt)).tdiv l.m from by simp [divL]]
          exact St50.next (by simp only [s_upd, Nat.reduceEqDiff, if_false, *] <;> rfl) (by simp only [s_upd, Nat.reduceEqDiff, if_false, *] <;> rfl) (by simp only [s_upd, Nat.reduceEqDiff, if_false, *] <;> rfl) (by simp only [s_upd, Nat.reduceEqDiff, if_false, *] <;> rfl) n6 n8 n10 d68 d610 d810 k10 k6 k8 hs ho2
        · intro j h hj
          by_cases e : j = i
          · subst e; exact hcm
          · exact hall j (by omega) (by omega)
      · omega
    · have hin : i = n := by omega
      subst hin
      rw [List.take_of_length_le (by omega)] at ho
      have hc1 := ho.cells.1
      have hc2 := ho.cells.2
      have hfl := floorR_eq fa.2.1 hm
      rw [hfl]
      exact rest50 (St50.bound (by simp only [s_upd, Nat.reduceEqDiff, if_false, *] <;> rfl) (by simp only [s_upd, Nat.reduceEqDiff, if_false, *] <;> rfl) (by simp only [s_upd, Nat.reduceEqDiff, if_false, *] <;> rfl) (by simp only [s_upd, Nat.reduceEqDiff, if_false, *] <;> rfl) n6 n8 n10 d68 d610 d810 k10 k6 k8 hs ho) hlen hn (hx (List.any_eq_false.2 fun c hc => by
        obtain ⟨j, hj, rfl⟩ := List.getElem_of_mem hc
        simp [hall j hj (by omega)]))
end Go.PV.Ytefpjfpelicedaa
end
section
/- The reference's row of a line: all kinds. -/
set_option linter.unusedVariables false
set_option linter.unusedSimpArgs false
set_option maxRecDepth 20000
set_option maxHeartbeats 4000000
namespace Go.PV.Ytefpjfpelicedaa
open Go Go.Proofs
/-- The rows so far: none, or a block of them. -/
def MadeR (H : AH) (mv : VV) (made : List Row) : Prop := (mv = .slice true 0 [] ∧ made = []) ∨ ∃ g c sp, mv = .lit (.slice (some ⟨g, 0, none⟩) made.length c) ∧ H g = some (.cells 39 (encC rowE made) sp)
theorem makeF_bad {rows made : List Row} {n : Nat} {l : Line} (h : ¬ ((l.k = 1 ∧ (l.b = 0 ∧ l.m = 0 ∧ l.n = 0) ∧ 0 ≤ l.a ∧ l.a < (rows.length : Int)) ∨ (l.k = 2 ∧ (l.b = 0 ∧ l.m = 0 ∧ l.n = 0) ∧ 0 ≤ l.a ∧ l.a < (n : Int)) ∨
    (l.k = 3 ∧ (0 ≤ l.a ∧ l.a < (made.length : Int)) ∧ (0 ≤ l.b ∧ l.b < (made.length : Int)) ∧ (1 ≤ l.m ∧ l.m ≤ 1000000) ∧ 1 ≤ l.n ∧ l.n ≤ 1000000) ∨ (l.k = 4 ∧ (0 ≤ l.a ∧ l.a < (made.length : Int)) ∧ (1 ≤ l.m ∧ l.m ≤ 1000000) ∧ l.b = 0 ∧ l.n = 0))) : makeF rows made n l = (⟨[], 0⟩, 260) := by
  simp only [not_or, not_and] at h
  unfold makeF
  split
  · split
    · omega
    · rfl
  split
  · split
    · omega
    · rfl
  split
  · split
    · omega
    · rfl
  split
  · split
    · omega
    · rfl
  · rfl
theorem made50a {rows made : List Row} {n : Nat} {l : Line} {mv : VV} {H : AH} (hmv : ∀ (H : AH) (K : VE → AH → Prop), K (.ret (iV made.length)) H → vcLen Try.prog 22 mv H K) (hn : (n : Int) ≤ 1000) (hk : l.k = 1) : GivesF Try.prog 50 [rowsV rows, mv, lineV l, iV n] (makeX rows made n l) H := by
  unfold GivesF
  refine vcalls_intro fd50 (by simp) ?_
  unfold c50
  (repeat' (first | (refine hmv _ _ ?_) | (simp only [↓s_skip, ↓s_reg, ↓s_seq, ↓s_seqL, ↓s_cond, ↓s_condT, ↓s_block, ↓s_ret, ↓s_loop, ↓s_nil, ↓s_consN, ↓s_consG, ↓s_guardTF, ↓s_guardFF, ↓s_thenN, ↓s_thenR, ↓s_inR, ↓s_kret, ↓s_putS, ↓s_putN, ↓s_dOkS, ↓s_dOkN, ↓s_ev_t, ↓s_ev_c, ↓s_upd, ↓s_move, ↓s_assign, ↓s_isBool, ↓s_pickA, ↓s_pick, ↓s_load, ↓s_store, ↓s_bin, ↓s_alloc, ↓s_box, ↓s_build, ↓s_fieldAddr, ↓s_callB, ↓s_len, ↓s_bin_lss, ↓s_bin_geq, ↓s_bin_eql, ↓s_bin_neq, ptrV, intV, List.map_cons, List.map_nil, List.length_cons, List.length_nil, List.getD_cons_zero, List.getD_cons_succ, List.getD_nil, ite_true, ite_false, Nat.reduceEqDiff, Nat.reduceLT, Nat.reduceAdd, ne_eq, not_false_eq_true, true_and, Bool.false_eq_true, Nat.succ_ne_self, decide_true, decide_false, reduceCtorEq, callOk, undefV, AH.get, AH.set_set, vcBuild, fillV, setAt, List.all_cons, List.all_nil, Bool.and_self, eq_self, Nat.zero_add, Nat.add_zero, List.drop, ldV_f, on_int, on_sl, cl_agg, List.set_cons_zero, List.set_cons_succ, ↓n_alloc, n_allocS, ↓n_box, Nat.le_refl, n_ldP, n_faP, n_lenS, n_ldA, n_ldB, n_faA, n_stP, n_stA, undef, flT_83_1, flT_83_3, flT_83_2, flT_83_4, flT_83_0, ldT_3, szT_39, stT_39, zeroT_39, elT_22, *]) | (refine guardL_splitTD ?_ ?_ <;> intro) | (refine guardL_splitFD ?_ ?_ <;> intro) | (refine guardP_splitTD ?_ ?_ <;> intro) | (refine guardP_splitFD ?_ ?_ <;> intro) | (refine condL_splitD ?_ ?_ <;> intro) | (refine guardL_splitT ?_ ?_ <;> intro) | (refine guardL_splitF ?_ ?_ <;> intro) | (refine guardP_splitT ?_ ?_ <;> intro) | (refine guardP_splitF ?_ ?_ <;> intro) | (refine condL_split ?_ ?_ <;> intro) | (refine ret_tmp ?_) | (refine acx_go rfl (fun _ _ _ h => h) ?_) | (refine acx_dreg mixed (fun _ _ _ _ e h => ⟨e.trans h.1, h.2⟩) _ (SubH.refl _) ?_) | (refine And.intro (SubH.new (by assumption)) ?_) | (refine allNew_intro fun zr zh => ?_; have zg := zh; (try simp only [AH.set_none] at zg)) | (exact SubH.refl _) | (refine SubH.of_set ?_ ?_) | assumption | (with_reducible refine And.intro ?_ ?_)))
  all_goals try simp only [Bool.not_eq_false', Bool.not_eq_true', decide_eq_true_eq, decide_eq_false_iff_not] at *
  any_goals (rw [makeX_bad (makeF_bad (by omega))]; show P50 _ _ _ _ _; exact bad50 (by simp only [s_upd, Nat.reduceEqDiff, if_true, if_false, *] <;> rfl) (by simp only [s_upd, Nat.reduceEqDiff, if_true, if_false, *] <;> rfl) (by first | exact AH.set_same _ _ _ | (simp only [AH.get, *, if_true, if_false] <;> rfl)) (by repeat (first | assumption | exact SubH.refl _ | refine SubH.of_set ?_ (by simp only [*]))))
  exact loop50a ⟨(by simp only [s_upd, Nat.reduceEqDiff, if_false, *] <;> rfl), (by simp only [s_upd, Nat.reduceEqDiff, if_true, if_false, *] <;> rfl), (by simp only [s_upd, Nat.reduceEqDiff, if_true, if_false, *] <;> rfl), (by simp only [s_upd, Nat.reduceEqDiff, if_true, if_false, *] <;> rfl), (by simp only [*]), (by simp only [*]), (by simp only [*]), (by simp only [*, not_false_eq_true]), (by simp only [*, not_false_eq_true]), (by simp only [*, not_false_eq_true]), .lit (.slice none 0 0), _, OwnX.nil _ 3 1, (by simp only [AH.get, *, if_true, if_false] <;> rfl), (by simp only [AH.get, *, if_true, if_false] <;> rfl), (by simp only [AH.get, *, if_true, if_false] <;> rfl), (by repeat (first | assumption | exact SubH.refl _ | refine SubH.of_set ?_ (by simp only [*])))⟩ (by simp only [s_upd, Nat.reduceEqDiff, if_false, *] <;> rfl) (by simp only [s_upd, Nat.reduceEqDiff, if_true, if_false, *] <;> rfl) (by omega) (by omega) hn (makeX_out (by unfold makeF; rw [if_pos hk, if_pos (by omega)]))
theorem made50b {rows made : List Row} {n : Nat} {l : Line} {mv : VV} {H : AH} (hmv : ∀ (H : AH) (K : VE → AH → Prop), K (.ret (iV made.length)) H → vcLen Try.prog 22 mv H K) (hn : (n : Int) ≤ 1000) (hk : l.k = 2) : GivesF Try.prog 50 [rowsV rows, mv, lineV l, iV n] (makeX rows made n l) H := by
  unfold GivesF
  refine vcalls_intro fd50 (by simp) ?_
  unfold c50
  (repeat' (first | (refine hmv _ _ ?_) | (simp only [↓s_skip, ↓s_reg, ↓s_seq, ↓s_seqL, ↓s_cond, ↓s_condT, ↓s_condF, ↓s_block, ↓s_ret, ↓s_loop, ↓s_nil, ↓s_consN, ↓s_consG, ↓s_guardTF, ↓s_guardFF, ↓s_thenN, ↓s_thenR, ↓s_inR, ↓s_kret, ↓s_putS, ↓s_putN, ↓s_dOkS, ↓s_dOkN, ↓s_ev_t, ↓s_ev_c, ↓s_upd, ↓s_move, ↓s_assign, ↓s_isBool, ↓s_pickA, ↓s_pick, ↓s_load, ↓s_store, ↓s_bin, ↓s_alloc, ↓s_box, ↓s_build, ↓s_fieldAddr, ↓s_callB, ↓s_len, ↓s_bin_lss, ↓s_bin_geq, ↓s_bin_eql, ↓s_bin_neq, ptrV, List.map_cons, List.map_nil, List.length_cons, List.length_nil, List.getD_cons_zero, List.getD_cons_succ, List.getD_nil, ite_true, ite_false, Nat.reduceEqDiff, Nat.reduceLT, Nat.reduceAdd, ne_eq, not_false_eq_true, true_and, Bool.false_eq_true, Nat.succ_ne_self, decide_true, decide_false, callOk, undefV, AH.get, AH.set_set, vcBuild, fillV, setAt, List.all_cons, List.all_nil, Bool.and_self, eq_self, Nat.zero_add, Nat.add_zero, List.drop, ldV_f, on_int, on_sl, cl_agg, List.set_cons_zero, List.set_cons_succ, ↓n_alloc, n_allocS, ↓n_box, Nat.le_refl, n_ldP, n_faP, n_ldA, n_ldB, n_faA, n_stP, n_stA, undef, Int.reduceEq, flT_83_1, flT_83_3, flT_83_2, flT_83_4, flT_83_0, ldT_3, szT_39, stT_39, zeroT_39, *]) | (refine guardL_splitTD ?_ ?_ <;> intro) | (refine guardL_splitFD ?_ ?_ <;> intro) | (refine guardP_splitTD ?_ ?_ <;> intro) | (refine guardP_splitFD ?_ ?_ <;> intro) | (refine condL_splitD ?_ ?_ <;> intro) | (refine guardL_splitT ?_ ?_ <;> intro) | (refine guardL_splitF ?_ ?_ <;> intro) | (refine guardP_splitT ?_ ?_ <;> intro) | (refine guardP_splitF ?_ ?_ <;> intro) | (refine condL_split ?_ ?_ <;> intro) | (refine ret_tmp ?_) | (refine acx_go rfl (fun _ _ _ h => h) ?_) | (refine acx_dreg mixed (fun _ _ _ _ e h => ⟨e.trans h.1, h.2⟩) _ (SubH.refl _) ?_) | (refine And.intro (SubH.new (by assumption)) ?_) | (refine allNew_intro fun zr zh => ?_; have zg := zh; (try simp only [AH.set_none] at zg)) | (exact SubH.refl _) | (refine SubH.of_set ?_ ?_) | assumption | (with_reducible refine And.intro ?_ ?_)))
  all_goals try simp only [Bool.not_eq_false', Bool.not_eq_true', decide_eq_true_eq, decide_eq_false_iff_not] at *
  any_goals (rw [makeX_bad (makeF_bad (by omega))]; show P50 _ _ _ _ _; exact bad50 (by simp only [s_upd, Nat.reduceEqDiff, if_true, if_false, *] <;> rfl) (by simp only [s_upd, Nat.reduceEqDiff, if_true, if_false, *] <;> rfl) (by first | exact AH.set_same _ _ _ | (simp only [AH.get, *, if_true, if_false] <;> rfl)) (by repeat (first | assumption | exact SubH.refl _ | refine SubH.of_set ?_ (by simp only [*]))))
  exact loop50b (rows := rows) (made := made) ⟨(by simp only [s_upd, Nat.reduceEqDiff, if_false, *] <;> rfl), (by simp only [s_upd, Nat.reduceEqDiff, if_true, if_false, *] <;> rfl), (by simp only [s_upd, Nat.reduceEqDiff, if_true, if_false, *] <;> rfl), (by simp only [s_upd, Nat.reduceEqDiff, if_true, if_false, *] <;> rfl), (by simp only [*]), (by simp only [*]), (by simp only [*]), (by simp only [*, not_false_eq_true]), (by simp only [*, not_false_eq_true]), (by simp only [*, not_false_eq_true]), .lit (.slice none 0 0), _, OwnX.nil _ 3 1, (by simp only [AH.get, *, if_true, if_false] <;> rfl), (by simp only [AH.get, *, if_true, if_false] <;> rfl), (by simp only [AH.get, *, if_true, if_false] <;> rfl), (by repeat (first | assumption | exact SubH.refl _ | refine SubH.of_set ?_ (by simp only [*])))⟩ (by simp only [s_upd, Nat.reduceEqDiff, if_true, if_false, *] <;> rfl) (by omega) (by omega) hn (makeX_out (by unfold makeF; rw [if_neg (by omega), if_pos hk, if_pos (by omega)]))
theorem made50z {rows made : List Row} {n : Nat} {l : Line} {mv : VV} {H : AH} (hmv : ∀ (H : AH) (K : VE → AH → Prop), K (.ret (iV made.length)) H → vcLen Try.prog 22 mv H K) (hk : ¬ l.k = 1 ∧ ¬ l.k = 2 ∧ ¬ l.k = 3 ∧ ¬ l.k = 4) : GivesF Try.prog 50 [rowsV rows, mv, lineV l, iV n] (makeX rows made n l) H := by
  unfold GivesF
  refine vcalls_intro fd50 (by simp) ?_
  unfold c50
  (repeat' (first | (refine hmv _ _ ?_) | (simp only [↓s_reg, ↓s_seq, ↓s_seqL, ↓s_cond, ↓s_condF, ↓s_block, ↓s_ret, ↓s_nil, ↓s_consN, ↓s_thenN, ↓s_thenR, ↓s_inR, ↓s_kret, ↓s_putS, ↓s_putN, ↓s_dOkS, ↓s_dOkN, ↓s_ev_t, ↓s_ev_c, ↓s_upd, ↓s_move, ↓s_assign, ↓s_load, ↓s_store, ↓s_bin, ↓s_alloc, ↓s_box, ↓s_build, ↓s_fieldAddr, ↓s_callB, ↓s_len, ↓s_bin_eql, ptrV, List.map_cons, List.map_nil, List.length_cons, List.length_nil, List.getD_cons_zero, List.getD_cons_succ, List.getD_nil, ite_true, ite_false, Nat.reduceEqDiff, Nat.reduceLT, Nat.reduceAdd, ne_eq, not_false_eq_true, true_and, Nat.succ_ne_self, decide_false, undefV, AH.get, AH.set_set, vcBuild, fillV, setAt, List.all_cons, List.all_nil, Bool.and_self, eq_self, Nat.zero_add, Nat.add_zero, List.drop, ldV_f, on_int, on_sl, cl_agg, List.set_cons_zero, List.set_cons_succ, ↓n_alloc, n_allocS, ↓n_box, Nat.le_refl, n_ldP, n_faP, n_ldA, n_ldB, n_faA, n_stP, n_stA, undef, flT_83_0, ldT_3, szT_39, stT_39, zeroT_39, *]) | (refine guardL_splitTD ?_ ?_ <;> intro) | (refine guardL_splitFD ?_ ?_ <;> intro) | (refine guardP_splitTD ?_ ?_ <;> intro) | (refine guardP_splitFD ?_ ?_ <;> intro) | (refine condL_splitD ?_ ?_ <;> intro) | (refine guardL_splitT ?_ ?_ <;> intro) | (refine guardL_splitF ?_ ?_ <;> intro) | (refine guardP_splitT ?_ ?_ <;> intro) | (refine guardP_splitF ?_ ?_ <;> intro) | (refine condL_split ?_ ?_ <;> intro) | (refine ret_tmp ?_) | (refine acx_go rfl (fun _ _ _ h => h) ?_) | (refine acx_dreg mixed (fun _ _ _ _ e h => ⟨e.trans h.1, h.2⟩) _ (SubH.refl _) ?_) | (refine And.intro (SubH.new (by assumption)) ?_) | (refine allNew_intro fun zr zh => ?_; have zg := zh; (try simp only [AH.set_none] at zg)) | (exact SubH.refl _) | (refine SubH.of_set ?_ ?_) | assumption | (with_reducible refine And.intro ?_ ?_)))
  all_goals try simp only [Bool.not_eq_false', Bool.not_eq_true', decide_eq_true_eq, decide_eq_false_iff_not] at *
  any_goals (rw [makeX_bad (makeF_bad (by omega))]; show P50 _ _ _ _ _; exact bad50 (by simp only [s_upd, Nat.reduceEqDiff, if_true, if_false, *] <;> rfl) (by simp only [s_upd, Nat.reduceEqDiff, if_true, if_false, *] <;> rfl) (by first | exact AH.set_same _ _ _ | (simp only [AH.get, *, if_true, if_false] <;> rfl)) (by repeat (first | assumption | exact SubH.refl _ | refine SubH.of_set ?_ (by simp only [*]))))
theorem made50n {rows : List Row} {n : Nat} {l : Line} {mv : VV} {H : AH} (hmv : ∀ (H : AH) (K : VE → AH → Prop), K (.ret (iV ((0 : Nat) : Int))) H → vcLen Try.prog 22 mv H K) (hk : ¬ l.k = 1 ∧ ¬ l.k = 2) : GivesF Try.prog 50 [rowsV rows, mv, lineV l, iV n] (makeX rows [] n l) H := by
  unfold GivesF
  have hnil : (([] : List Row).length : Int) = 0 := rfl
  refine vcalls_intro fd50 (by simp) ?_
  unfold c50
  (repeat' (first | (refine hmv _ _ ?_) | (simp only [↓s_skip, ↓s_reg, ↓s_seq, ↓s_seqL, ↓s_cond, ↓s_condT, ↓s_condF, ↓s_block, ↓s_ret, ↓s_loop, ↓s_nil, ↓s_consN, ↓s_consG, ↓s_guardTF, ↓s_guardFF, ↓s_thenN, ↓s_thenR, ↓s_inR, ↓s_kret, ↓s_putS, ↓s_putN, ↓s_dOkS, ↓s_dOkN, ↓s_ev_t, ↓s_ev_c, ↓s_upd, ↓s_move, ↓s_assign, ↓s_isBool, ↓s_pickA, ↓s_pick, ↓s_load, ↓s_store, ↓s_bin, ↓s_alloc, ↓s_box, ↓s_build, ↓s_fieldAddr, ↓s_callB, ↓s_len, ↓s_bin_lss, ↓s_bin_gtr, ↓s_bin_geq, ↓s_bin_eql, ↓s_bin_neq, ptrV, List.map_cons, List.map_nil, List.length_cons, List.length_nil, List.getD_cons_zero, List.getD_cons_succ, List.getD_nil, ite_true, ite_false, Nat.reduceEqDiff, Nat.reduceLT, Nat.reduceAdd, ne_eq, not_false_eq_true, true_and, Bool.false_eq_true, Nat.succ_ne_self, decide_true, decide_false, callOk, undefV, AH.get, AH.set_set, vcBuild, fillV, setAt, List.all_cons, List.all_nil, Bool.and_self, eq_self, Nat.zero_add, Nat.add_zero, List.drop, ldV_f, on_int, on_sl, cl_agg, List.set_cons_zero, List.set_cons_succ, ↓n_alloc, n_allocS, ↓n_box, Nat.le_refl, n_ldP, n_faP, n_ldA, n_ldB, n_faA, n_stP, n_stA, undef, flT_83_1, flT_83_3, flT_83_2, flT_83_4, flT_83_0, ldT_3, szT_39, stT_39, zeroT_39, *]) | (refine guardL_splitTD ?_ ?_ <;> intro) | (refine guardL_splitFD ?_ ?_ <;> intro) | (refine guardP_splitTD ?_ ?_ <;> intro) | (refine guardP_splitFD ?_ ?_ <;> intro) | (refine condL_splitD ?_ ?_ <;> intro) | (refine guardL_splitT ?_ ?_ <;> intro) | (refine guardL_splitF ?_ ?_ <;> intro) | (refine guardP_splitT ?_ ?_ <;> intro) | (refine guardP_splitF ?_ ?_ <;> intro) | (refine condL_split ?_ ?_ <;> intro) | (refine ret_tmp ?_) | (refine acx_go rfl (fun _ _ _ h => h) ?_) | (refine acx_dreg mixed (fun _ _ _ _ e h => ⟨e.trans h.1, h.2⟩) _ (SubH.refl _) ?_) | (refine And.intro (SubH.new (by assumption)) ?_) | (refine allNew_intro fun zr zh => ?_; have zg := zh; (try simp only [AH.set_none] at zg)) | (exact SubH.refl _) | (refine SubH.of_set ?_ ?_) | assumption | (with_reducible refine And.intro ?_ ?_)))
  all_goals try simp only [Bool.not_eq_false', Bool.not_eq_true', decide_eq_true_eq, decide_eq_false_iff_not] at *
  any_goals (rw [makeX_bad (makeF_bad (by omega))]; show P50 _ _ _ _ _; exact bad50 (by simp only [s_upd, Nat.reduceEqDiff, if_true, if_false, *] <;> rfl) (by simp only [s_upd, Nat.reduceEqDiff, if_true, if_false, *] <;> rfl) (by first | exact AH.set_same _ _ _ | (simp only [AH.get, *, if_true, if_false] <;> rfl)) (by repeat (first | assumption | exact SubH.refl _ | refine SubH.of_set ?_ (by simp only [*]))))
  all_goals (exfalso; omega)
theorem made50c {rows made : List Row} {n : Nat} {l : Line} {H : AH} {g c sp : Nat} (hg : H g = some (.cells 39 (encC rowE made) sp)) (hmade : ∀ a, 0 ≤ a → a < (made.length : Int) → Fits n (rowAt made a)) (hn : (n : Int) ≤ 1000) (hk : l.k = 3) : GivesF Try.prog 50 [rowsV rows, .lit (.slice (some ⟨g, 0, none⟩) made.length c), lineV l, iV n] (makeX rows made n l) H := by
  unfold GivesF
  refine vcalls_intro fd50 (by simp) ?_
  unfold c50
  (repeat' (first | (simp only [↓s_skip, ↓s_reg, ↓s_seq, ↓s_seqL, ↓s_cond, ↓s_condT, ↓s_condF, ↓s_block, ↓s_ret, ↓s_loop, ↓s_nil, ↓s_consN, ↓s_consG, ↓s_guardTF, ↓s_guardFF, ↓s_thenN, ↓s_thenR, ↓s_inR, ↓s_kret, ↓s_putS, ↓s_putN, ↓s_dOkS, ↓s_dOkN, ↓s_ev_t, ↓s_ev_c, ↓s_upd, ↓s_move, ↓s_assign, ↓s_isBool, ↓s_pickA, ↓s_pick, ↓s_load, ↓s_store, ↓s_bin, ↓s_alloc, ↓s_box, ↓s_build, ↓s_fieldAddr, ↓s_callB, ↓s_len, ↓s_bin_lss, ↓s_bin_gtr, ↓s_bin_geq, ↓s_bin_eql, ptrV, intV, List.map_cons, List.map_nil, List.length_cons, List.length_nil, List.getD_cons_zero, List.getD_cons_succ, List.getD_nil, ite_true, ite_false, Nat.reduceEqDiff, Nat.reduceLT, Nat.reduceAdd, ne_eq, not_false_eq_true, true_and, Bool.false_eq_true, Nat.succ_ne_self, decide_true, decide_false, reduceCtorEq, callOk, undefV, AH.get, AH.set_set, vcBuild, fillV, setAt, List.all_cons, List.all_nil, Bool.and_self, eq_self, Nat.zero_add, Nat.add_zero, List.drop, ldV_f, on_int, on_sl, cl_agg, List.set_cons_zero, List.set_cons_succ, ↓n_alloc, n_allocS, ↓n_box, Nat.le_refl, n_ldP, n_faP, n_lenL, n_ldA, n_ldB, n_faA, n_stP, n_stA, undef, Int.reduceEq, flT_83_1, flT_83_3, flT_83_2, flT_83_4, flT_83_0, ldT_3, szT_39, stT_39, zeroT_39, elT_22, *]) | (refine guardL_splitTD ?_ ?_ <;> intro) | (refine guardL_splitFD ?_ ?_ <;> intro) | (refine guardP_splitTD ?_ ?_ <;> intro) | (refine guardP_splitFD ?_ ?_ <;> intro) | (refine condL_splitD ?_ ?_ <;> intro) | (refine guardL_splitT ?_ ?_ <;> intro) | (refine guardL_splitF ?_ ?_ <;> intro) | (refine guardP_splitT ?_ ?_ <;> intro) | (refine guardP_splitF ?_ ?_ <;> intro) | (refine condL_split ?_ ?_ <;> intro) | (refine ret_tmp ?_) | (refine acx_go rfl (fun _ _ _ h => h) ?_) | (refine acx_dreg mixed (fun _ _ _ _ e h => ⟨e.trans h.1, h.2⟩) _ (SubH.refl _) ?_) | (refine And.intro (SubH.new (by assumption)) ?_) | (refine allNew_intro fun zr zh => ?_; have zg := zh; (try simp only [AH.set_none] at zg)) | (exact SubH.refl _) | (refine SubH.of_set ?_ ?_) | assumption | (with_reducible refine And.intro ?_ ?_)))
  all_goals try simp only [Bool.not_eq_false', Bool.not_eq_true', decide_eq_true_eq, decide_eq_false_iff_not] at *
  any_goals (rw [makeX_bad (makeF_bad (by omega))]; show P50 _ _ _ _ _; exact bad50 (by simp only [s_upd, Nat.reduceEqDiff, if_true, if_false, *] <;> rfl) (by simp only [s_upd, Nat.reduceEqDiff, if_true, if_false, *] <;> rfl) (by first | exact AH.set_same _ _ _ | (simp only [AH.get, *, if_true, if_false] <;> rfl)) (by repeat (first | assumption | exact SubH.refl _ | refine SubH.of_set ?_ (by simp only [*]))))
  exact loop50c (rows := rows) ⟨(by simp only [s_upd, Nat.reduceEqDiff, if_false, *] <;> rfl), (by simp only [s_upd, Nat.reduceEqDiff, if_true, if_false, *] <;> rfl), (by simp only [s_upd, Nat.reduceEqDiff, if_true, if_false, *] <;> rfl), (by simp only [s_upd, Nat.reduceEqDiff, if_true, if_false, *] <;> rfl), (by simp only [*]), (by simp only [*]), (by simp only [*]), (by simp only [*, not_false_eq_true]), (by simp only [*, not_false_eq_true]), (by simp only [*, not_false_eq_true]), .lit (.slice none 0 0), _, OwnX.nil _ 3 1, (by simp only [AH.get, *, if_true, if_false] <;> rfl), (by simp only [AH.get, *, if_true, if_false] <;> rfl), (by simp only [AH.get, *, if_true, if_false] <;> rfl), (by repeat (first | assumption | exact SubH.refl _ | refine SubH.of_set ?_ (by simp only [*])))⟩ (by simp only [s_upd, Nat.reduceEqDiff, if_false, *] <;> rfl) hg (by simp only [s_upd, Nat.reduceEqDiff, if_true, if_false, *] <;> rfl) (by omega) (by omega) (by omega) (by omega) (hmade _ (by omega) (by omega)) (hmade _ (by omega) (by omega)) hn (makeX_out (by
    have e1 : (0 ≤ l.a ∧ l.a < (made.length : Int)) ∧ (0 ≤ l.b ∧ l.b < (made.length : Int)) ∧ (1 ≤ l.m ∧ l.m ≤ 1000000) ∧ 1 ≤ l.n ∧ l.n ≤ 1000000 := by omega
    unfold makeF
    rw [if_neg (by omega), if_neg (by omega), if_pos hk, if_pos e1]))
theorem made50d {rows made : List Row} {n : Nat} {l : Line} {H : AH} {g c sp : Nat} (hg : H g = some (.cells 39 (encC rowE made) sp)) (hmade : ∀ a, 0 ≤ a → a < (made.length : Int) → Fits n (rowAt made a)) (hn : (n : Int) ≤ 1000) (hk : l.k = 4) : GivesF Try.prog 50 [rowsV rows, .lit (.slice (some ⟨g, 0, none⟩) made.length c), lineV l, iV n] (makeX rows made n l) H := by
  unfold GivesF
  refine vcalls_intro fd50 (by simp) ?_
  unfold c50
  (repeat' (first | (simp only [↓s_skip, ↓s_reg, ↓s_seq, ↓s_seqL, ↓s_cond, ↓s_condT, ↓s_condF, ↓s_block, ↓s_ret, ↓s_loop, ↓s_nil, ↓s_consN, ↓s_consG, ↓s_guardTF, ↓s_guardFF, ↓s_thenN, ↓s_thenR, ↓s_inR, ↓s_kret, ↓s_putS, ↓s_putN, ↓s_dOkS, ↓s_dOkN, ↓s_ev_t, ↓s_ev_c, ↓s_upd, ↓s_move, ↓s_assign, ↓s_isBool, ↓s_pickA, ↓s_pick, ↓s_load, ↓s_store, ↓s_bin, ↓s_alloc, ↓s_box, ↓s_build, ↓s_fieldAddr, ↓s_callB, ↓s_len, ↓s_bin_lss, ↓s_bin_gtr, ↓s_bin_geq, ↓s_bin_eql, ↓s_bin_neq, ptrV, intV, List.map_cons, List.map_nil, List.length_cons, List.length_nil, List.getD_cons_zero, List.getD_cons_succ, List.getD_nil, ite_true, ite_false, Nat.reduceEqDiff, Nat.reduceLT, Nat.reduceAdd, ne_eq, not_false_eq_true, true_and, Bool.false_eq_true, Nat.succ_ne_self, decide_true, decide_false, reduceCtorEq, callOk, undefV, AH.get, AH.set_set, vcBuild, fillV, setAt, List.all_cons, List.all_nil, Bool.and_self, eq_self, Nat.zero_add, Nat.add_zero, List.drop, ldV_f, on_int, on_sl, cl_agg, List.set_cons_zero, List.set_cons_succ, ↓n_alloc, n_allocS, ↓n_box, Nat.le_refl, n_ldP, n_faP, n_lenL, n_ldA, n_ldB, n_faA, n_stP, n_stA, undef, Int.reduceEq, flT_83_1, flT_83_3, flT_83_2, flT_83_4, flT_83_0, ldT_3, szT_39, stT_39, zeroT_39, elT_22, *]) | (refine guardL_splitTD ?_ ?_ <;> intro) | (refine guardL_splitFD ?_ ?_ <;> intro) | (refine guardP_splitTD ?_ ?_ <;> intro) | (refine guardP_splitFD ?_ ?_ <;> intro) | (refine condL_splitD ?_ ?_ <;> intro) | (refine guardL_splitT ?_ ?_ <;> intro) | (refine guardL_splitF ?_ ?_ <;> intro) | (refine guardP_splitT ?_ ?_ <;> intro) | (refine guardP_splitF ?_ ?_ <;> intro) | (refine condL_split ?_ ?_ <;> intro) | (refine ret_tmp ?_) | (refine acx_go rfl (fun _ _ _ h => h) ?_) | (refine acx_dreg mixed (fun _ _ _ _ e h => ⟨e.trans h.1, h.2⟩) _ (SubH.refl _) ?_) | (refine And.intro (SubH.new (by assumption)) ?_) | (refine allNew_intro fun zr zh => ?_; have zg := zh; (try simp only [AH.set_none] at zg)) | (exact SubH.refl _) | (refine SubH.of_set ?_ ?_) | assumption | (with_reducible refine And.intro ?_ ?_)))
  all_goals try simp only [Bool.not_eq_false', Bool.not_eq_true', decide_eq_true_eq, decide_eq_false_iff_not] at *
  any_goals (rw [makeX_bad (makeF_bad (by omega))]; show P50 _ _ _ _ _; exact bad50 (by simp only [s_upd, Nat.reduceEqDiff, if_true, if_false, *] <;> rfl) (by simp only [s_upd, Nat.reduceEqDiff, if_true, if_false, *] <;> rfl) (by first | exact AH.set_same _ _ _ | (simp only [AH.get, *, if_true, if_false] <;> rfl)) (by repeat (first | assumption | exact SubH.refl _ | refine SubH.of_set ?_ (by simp only [*]))))
  have e1 : (0 ≤ l.a ∧ l.a < (made.length : Int)) ∧ (1 ≤ l.m ∧ l.m ≤ 1000000) ∧ l.b = 0 ∧ l.n = 0 := by omega
  have e2 : makeF rows made n l = if (rowAt made l.a).c.any (fun c => !decide (c.tmod l.m = 0)) then (⟨[], 0⟩, 260) else outF ⟨(rowAt made l.a).c.map (fun c => c.tdiv l.m), floorF (rowAt made l.a).b l.m⟩ := by
    unfold makeF
    rw [if_neg (by omega), if_neg (by omega), if_neg (by omega), if_pos hk, if_pos e1]
  exact loop50d (rows := rows) ⟨(by simp only [s_upd, Nat.reduceEqDiff, if_false, *] <;> rfl), (by simp only [s_upd, Nat.reduceEqDiff, if_true, if_false, *] <;> rfl), (by simp only [s_upd, Nat.reduceEqDiff, if_true, if_false, *] <;> rfl), (by simp only [s_upd, Nat.reduceEqDiff, if_true, if_false, *] <;> rfl), (by simp only [*]), (by simp only [*]), (by simp only [*]), (by simp only [*, not_false_eq_true]), (by simp only [*, not_false_eq_true]), (by simp only [*, not_false_eq_true]), .lit (.slice none 0 0), _, OwnX.nil _ 3 1, (by simp only [AH.get, *, if_true, if_false] <;> rfl), (by simp only [AH.get, *, if_true, if_false] <;> rfl), (by simp only [AH.get, *, if_true, if_false] <;> rfl), (by repeat (first | assumption | exact SubH.refl _ | refine SubH.of_set ?_ (by simp only [*])))⟩ (by simp only [s_upd, Nat.reduceEqDiff, if_false, *] <;> rfl) hg (by simp only [s_upd, Nat.reduceEqDiff, if_true, if_false, *] <;> rfl) (by omega) (by omega) (hmade _ (by omega) (by omega)) (fun h => makeX_bad (by rw [e2, if_pos h])) hn (fun h => makeX_out (by rw [e2, if_neg (by simp [h])]; rfl))
theorem made50 {rows made : List Row} {n : Nat} {l : Line} {mv : VV} {H : AH} (hm : MadeR H mv made) (hmade : ∀ r ∈ made, Fits n r) (hn : (n : Int) ≤ 1000) : GivesF Try.prog 50 [rowsV rows, mv, lineV l, iV n] (makeX rows made n l) H := by
  have hq : ∀ a, 0 ≤ a → a < (made.length : Int) → Fits n (rowAt made a) := fun a h0 h1 => by
    have h : a.toNat < made.length := by omega
    unfold rowAt
    rw [List.getD_eq_getElem?_getD]
    simp only [h, List.getElem?_eq_getElem, Option.getD_some]; exact hmade _ (List.getElem_mem _)
  have hmv : ∀ (H : AH) (K : VE → AH → Prop), K (.ret (iV made.length)) H → vcLen Try.prog 22 mv H K := fun H K hK => by
    rcases hm with ⟨rfl, rfl⟩ | ⟨g, c, sp, rfl, _⟩
    · rw [n_lenS]; exact ⟨by rw [elT_22]; simp, hK⟩
    · rw [n_lenL]; exact ⟨by rw [elT_22]; simp, hK⟩
  by_cases h1 : l.k = 1
  · exact made50a hmv hn h1
  by_cases h2 : l.k = 2
  · exact made50b hmv hn h2
  rcases hm with ⟨rfl, rfl⟩ | ⟨g, c, sp, rfl, hg⟩
  · exact made50n hmv ⟨h1, h2⟩
  by_cases h3 : l.k = 3
  · exact made50c hg hq hn h3
  by_cases h4 : l.k = 4
  · exact made50d hg hq hn h4
  · exact made50z hmv ⟨h1, h2, h3, h4⟩
end Go.PV.Ytefpjfpelicedaa
end
section
/- The reference: the rows of lines; a certificate's error. -/
set_option linter.unusedVariables false
set_option linter.unusedSimpArgs false
set_option maxRecDepth 20000
set_option maxHeartbeats 4000000
namespace Go.PV.Ytefpjfpelicedaa
open Go Go.Proofs
/-- The rows so far, at a state that also may hold other blocks. -/
def OutR (H H' : AH) (mv : VV) (made : List Row) : Prop := (mv = .slice true 0 [] ∧ made = [] ∧ SubH H H') ∨ ∃ Hb, SubH H Hb ∧ OwnX Hb H' 39 2 mv made.length (encC rowE made) ∧ made ≠ []
theorem OutR.sub {H H' : AH} {mv : VV} {made : List Row} (h : OutR H H' mv made) : SubH H H' := by
  rcases h with ⟨_, _, h⟩ | ⟨Hb, h1, h2, _⟩
  · exact h
  · exact h1.trans h2.sub
theorem OutR.made {H H' : AH} {mv : VV} {made : List Row} (h : OutR H H' mv made) : MadeR H' mv made := by
  rcases h with ⟨h1, h2, h⟩ | ⟨Hb, h1, ⟨_, h2, _⟩ | ⟨g, c, sp, rfl, h0, rfl, h2, h3, h4⟩, h5⟩
  · exact .inl ⟨h1, h2⟩
  · exact absurd (List.eq_nil_of_length_eq_zero h2) h5
  · exact .inr ⟨g, c, sp, rfl, AH.set_same _ _ _⟩
theorem OutR.back {H H' : AH} {mv : VV} {made : List Row} (h : OutR H H' mv made) : GhV H' mv H (rowsV made) := by
  rcases h with ⟨rfl, rfl, h⟩ | ⟨Hb, h1, h2, _⟩
  · exact (GhV.imm _).trans (GhV.forget h _)
  · exact GhV.back h2 h1
theorem OutR.cells {H H' : AH} {mv : VV} {made : List Row} (h : OutR H H' mv made) : mv.cells = [mv] ∧ VV.one mv = true := by
  rcases h with ⟨rfl, _⟩ | ⟨Hb, h1, h2, _⟩
  · exact ⟨rfl, rfl⟩
  · exact h2.cells
theorem OutR.alloc {H H' : AH} {mv : VV} {made : List Row} {r : Nat} (h : OutR H H' mv made) (hr : H' r = none) (b : Blk) : OutR H (H'.set r b) mv made := by
  have hn := h.sub.none hr
  rcases h with ⟨rfl, rfl, h⟩ | ⟨Hb, h1, h2, h3⟩
  · exact .inl ⟨rfl, rfl, h.of_set hn⟩
  · exact .inr ⟨Hb.set r b, h1.of_set hn, h2.alloc hr b, h3⟩
theorem OutR.append {H H' : AH} {mv x : VV} {made : List Row} {r : Row} {K : VE → AH → Prop} (h : OutR H H' mv made) (hl : made.length ≤ 5000) (hx : x = .slice true 1 (rowE r)) (hK : ∀ v' H'', OutR H H'' v' (made ++ [r]) → K (.ret v') H'') : AppendA Try.prog 22 mv x H' K := by
  subst hx
  rcases h with ⟨rfl, rfl, h⟩ | ⟨Hb, h1, h2, h3⟩
  · refine append_clip elT_22 zeroT_39 rfl (by omega) rfl rfl rfl (by omega) (by omega) (fun h => by omega) (fun _ v' H'' ho => hK _ _ (.inr ⟨H', h, ?_, by simp⟩))
    simpa [encC_cons, encC] using ho
  · refine append_own elT_22 zeroT_39 rfl (by omega) h2 rfl rfl (by omega) (by omega) (fun v' H'' ho => hK _ _ (.inr ⟨Hb, h1, ?_, by simp⟩))
    rw [show encC rowE (made ++ [r]) = encC rowE made ++ rowE r from by rw [encC_append]; rfl, List.length_append]
    exact ho
theorem derive27 (rows : List Row) (ls : List Line) (h1 : (rows.length : Int) ≤ 9223372036854775806) (h2 : (ls.length : Int) ≤ 9223372036854775806) : PureF Try.prog 27 [rowsV rows, linesV ls] (.tuple [rowsV (deriveF rows ls).1, iV (deriveF rows ls).2]) := by
  refine GivesF.pure fun H => ?_
  refine vcalls_intro fd27 (by simp) ?_
  unfold c27
  (repeat' (first | (simp only [↓s_skip, ↓s_reg, ↓s_seq, ↓s_seqL, ↓s_cond, ↓s_block, ↓s_ret, ↓s_loop, ↓s_nil, ↓s_consN, ↓s_thenN, ↓s_thenR, ↓s_kret, ↓s_putS, ↓s_dOkS, ↓s_ev_t, ↓s_ev_c, ↓s_ev_f, ↓s_upd, ↓s_move, ↓s_assign, ↓s_bin, ↓s_buildSlice, ↓s_callB, ↓s_callV, ↓s_callL, ↓s_len, ↓s_bin_gtr, ↓s_bin_neq, intV, List.map_cons, List.map_nil, List.length_cons, List.length_nil, List.getD_cons_zero, List.getD_cons_succ, List.getD_nil, ite_true, ite_false, Nat.reduceEqDiff, Nat.reduceLT, Nat.reduceAdd, Nat.reduceMul, Nat.reduceLeDiff, ne_eq, not_false_eq_true, true_and, Nat.succ_ne_self, decide_true, decide_false, reduceCtorEq, undefV, fillV, eq_self, Nat.zero_add, and_self, n_lenS, undef, vcBuildSlice, List.replicate_zero, List.flatten_nil, zeroT_39, elT_35, elT_22, en_35, en_10, *]) | (refine guardL_splitTD ?_ ?_ <;> intro) | (refine guardL_splitFD ?_ ?_ <;> intro) | (refine guardP_splitTD ?_ ?_ <;> intro) | (refine guardP_splitFD ?_ ?_ <;> intro) | (refine condL_splitD ?_ ?_ <;> intro) | (refine guardL_splitT ?_ ?_ <;> intro) | (refine guardL_splitF ?_ ?_ <;> intro) | (refine guardP_splitT ?_ ?_ <;> intro) | (refine guardP_splitF ?_ ?_ <;> intro) | (refine condL_split ?_ ?_ <;> intro) | (refine ret_tmp ?_) | (refine acx_go rfl (fun _ _ _ h => h) ?_) | (refine acx_dreg mixed (fun _ _ _ _ e h => ⟨e.trans h.1, h.2⟩) _ (SubH.refl _) ?_) | (refine And.intro (SubH.new (by assumption)) ?_) | (refine allNew_intro fun zr zh => ?_; have zg := zh; (try simp only [AH.set_none] at zg)) | (exact SubH.refl _) | (refine SubH.of_set ?_ ?_) | assumption | (refine PureF.use (right35 _ h1) ?_) | (refine PureF.use (unknowns10 _ h1) ?_)))
  · have hr : ¬ rightF rows = 0 := by simpa using (by assumption : (!decide (rightF rows = 0)) = true)
    refine retPost_ret rfl (by simp only [resV, resAll, resOne, s_upd, Nat.reduceEqDiff, if_true, if_false, Option.bind_some, Option.map_some, tupV] <;> rfl) ⟨_, rfl, ?_⟩
    simp only [deriveF, hr, if_false]
    exact GhV.tuple (GhL.cons (GhV.nil _) (GhL.cons (GhV.refl _ _) (GhL.nil _)))
  · have hr : rightF rows = 0 := by simpa using (by assumption : (!decide (rightF rows = 0)) = false)
    have hl : 5000 < ls.length := by omega
    refine retPost_ret rfl (by simp only [resV, resAll, resOne, s_upd, Nat.reduceEqDiff, if_true, if_false, Option.bind_some, Option.map_some, tupV] <;> rfl) ⟨_, rfl, ?_⟩
    simp only [deriveF, hr, hl, if_true]
    exact GhV.tuple (GhL.cons (GhV.nil _) (GhL.cons (GhV.refl _ _) (GhL.nil _)))
  · have hr : rightF rows = 0 := by simpa using (by assumption : (!decide (rightF rows = 0)) = false)
    have hl : ¬ 5000 < ls.length := by omega
    have hd : deriveF rows ls = deriveGo rows (unkN rows) [] ls := by simp only [deriveF, hr, hl, if_true, if_false]
    have hn := unkN_le hr
    have hu := unkN_eq rows
    rw [hd]
    clear hd
    refine acx_loop (fun _ _ _ h => h) (fun A H' => A.d = [] ∧ A.t 0 = rowsV rows ∧ A.t 1 = linesV ls ∧ A.t 7 = iV (unkN rows) ∧ ∃ (i : Nat) (made : List Row), i ≤ ls.length ∧ A.t 9 = iV i ∧ made.length = i ∧
        OutR H H' (A.t 8) made ∧ (∀ r ∈ made, Fits (unkN rows) r) ∧ deriveGo rows (unkN rows) [] ls = deriveGo rows (unkN rows) made (ls.drop i))
      (fun A _ => match A.t 9 with | .lit (.int _ i) => ((ls.length : Int) - i).toNat | _ => 0) ?_ ?_
    · refine ⟨rfl, rfl, rfl, ?_, 0, [], by omega, rfl, rfl, .inl ⟨rfl, rfl, SubH.refl _⟩, by simp, rfl⟩
      simp only [s_upd, Nat.reduceEqDiff, if_true, if_false, hu]
    · rintro ⟨t, d⟩ H' ⟨rfl, h0, h1', h7, i, made, hi, h9, hlen, ho, hfit, hgo⟩
      dsimp only at h0 h1' h7 h9 ho
      obtain ⟨mv, h8⟩ : ∃ mv, mv = t 8 := ⟨_, rfl⟩
      rw [← h8] at ho
      replace h8 := h8.symm
      have hm := ho.made
      have hc1 := ho.cells.1
      have hc2 := ho.cells.2
      have hHn : ∀ r, H' r = none → H r = none := fun r h => ho.sub.none h
      unfold b27_1
      (repeat' (first | (refine (made50 (rows := rows) (made := made) (mv := mv) (l := ls[i]) (n := unkN rows) (by assumption) hfit (by omega)).use ?_) | (simp only [↓s_skip, ↓s_reg, ↓s_seq, ↓s_cond, ↓s_block, ↓s_exit, ↓s_ret, ↓s_nil, ↓s_consN, ↓s_thenN, ↓s_thenE, ↓s_thenR, ↓s_inE, ↓s_inR, ↓s_kret, ↓s_putS, ↓s_putN, ↓s_dOkS, ↓s_dOkN, ↓s_ev_t, ↓s_ev_c, ↓s_ev_f, ↓s_upd, ↓s_move, ↓s_assign, ↓s_load, ↓s_store, ↓s_bin, ↓s_alloc, ↓s_buildSlice, ↓s_indexAddr, ↓s_extract, ↓s_callB, ↓s_callV, ↓s_callL, ↓s_len, ↓s_append, ↓s_bin_lss, ↓s_bin_neq, vcExtract, ptrV, intV, List.map_cons, List.map_nil, List.length_cons, List.length_nil, List.append_nil, ite_true, ite_false, Nat.reduceEqDiff, Nat.reduceLT, Nat.reduceAdd, Nat.reduceMul, Nat.reduceLeDiff, ne_eq, not_false_eq_true, true_and, Nat.succ_ne_self, decide_true, decide_false, reduceCtorEq, Int.natCast_nonneg, Int.toNat_natCast, AH.get, AH.set_set, fillV, setAt, List.all_cons, List.all_nil, Bool.and_self, eq_self, Nat.zero_add, List.drop, and_self, List.getElem?_cons_zero, List.getElem?_cons_succ, ldV_t2, ldV_t5, Int.ofNat_lt, on_int, cl_agg, on_slice, List.set_cons_zero, List.set_cons_succ, ↓n_alloc, n_allocS, Nat.le_refl, n_ldI, n_ldP, n_ixS, n_ixA1, n_lenS, n_ldA, n_ldC, n_ldB, n_stP, n_stA, vcBuildSlice, List.replicate_succ, List.replicate_zero, List.flatten_cons, List.flatten_nil, lines_drop, makeX, ldT_83, ldT_39, szT_39, zeroT_39, elT_35, elT_22, en_50, *]) | (refine guardL_splitTD ?_ ?_ <;> intro) | (refine guardL_splitFD ?_ ?_ <;> intro) | (refine guardP_splitTD ?_ ?_ <;> intro) | (refine guardP_splitFD ?_ ?_ <;> intro) | (refine condL_splitD ?_ ?_ <;> intro) | (refine guardL_splitT ?_ ?_ <;> intro) | (refine guardL_splitF ?_ ?_ <;> intro) | (refine guardP_splitT ?_ ?_ <;> intro) | (refine guardP_splitF ?_ ?_ <;> intro) | (refine condL_split ?_ ?_ <;> intro) | (refine ret_tmp ?_) | (refine acx_go rfl (fun _ _ _ h => h) ?_) | (refine acx_dreg mixed (fun _ _ _ _ e h => ⟨e.trans h.1, h.2⟩) _ (SubH.refl _) ?_) | (refine And.intro (SubH.new (by assumption)) ?_) | (refine allNew_intro fun zr zh => ?_; have zg := zh; (try simp only [AH.set_none] at zg)) | (exact SubH.refl _) | (refine SubH.of_set ?_ ?_) | assumption | (with_reducible refine And.intro ?_ ?_)))
      · have hb : i < ls.length := by assumption
        have he : ¬ (makeF rows made (unkN rows) ls[i]).2 = 0 := by simpa using (by assumption : (!decide ((makeF rows made (unkN rows) ls[i]).2 = 0)) = true)
        have hg : deriveGo rows (unkN rows) made (ls.drop i) = ([], (makeF rows made (unkN rows) ls[i]).2) := by
          rw [List.drop_eq_getElem_cons hb, deriveGo, if_neg he]
        rw [hg]
        refine retPost_ret rfl (by simp only [resV, resAll, resOne, s_upd, Nat.reduceEqDiff, if_true, if_false, Option.bind_some, Option.map_some, tupV] <;> rfl) ⟨_, rfl, ?_⟩
        exact GhV.tuple (GhL.cons ((GhV.nil _).trans (GhV.forget (ho.sub.of_set (hHn _ (by assumption))) _)) (GhL.cons (GhV.refl _ _) (GhL.nil _)))
      · have hb : i < ls.length := by assumption
        have he : (makeF rows made (unkN rows) ls[i]).2 = 0 := by simpa using (by assumption : (!decide ((makeF rows made (unkN rows) ls[i]).2 = 0)) = false)
        have hf := makeF_ok (rows := rows) (l := ls[i]) hfit he
        have hg : deriveGo rows (unkN rows) made (ls.drop i) = deriveGo rows (unkN rows) (made ++ [(makeF rows made (unkN rows) ls[i]).1]) (ls.drop (i + 1)) := by
          rw [List.drop_eq_getElem_cons hb, deriveGo, if_pos he]
        rw [hg]
        generalize (makeF rows made (unkN rows) ls[i]).1 = r at hf ⊢
        refine OutR.append (r := r) (ho.alloc (by assumption) _) (by omega) rfl (fun v' H'' ho2 => ?_)
        clear hm hc1 hc2
        have hc := ho2.cells.1
        have hc1 := ho2.cells.2
        (repeat' (first | (simp only [↓s_reg, ↓s_nil, ↓s_consN, ↓s_thenN, ↓s_inN, ↓s_kret, ↓s_putS, ↓s_dOkS, ↓s_ev_t, ↓s_ev_c, ↓s_upd, ↓s_move, ↓s_assign, ↓s_bin, ↓s_bin_add, ite_true, ite_false, Nat.reduceEqDiff, Nat.reduceLT, true_and, Nat.succ_ne_self, reduceCtorEq, eq_self, *]) | (refine guardL_splitTD ?_ ?_ <;> intro) | (refine guardL_splitFD ?_ ?_ <;> intro) | (refine guardP_splitTD ?_ ?_ <;> intro) | (refine guardP_splitFD ?_ ?_ <;> intro) | (refine condL_splitD ?_ ?_ <;> intro) | (refine guardL_splitT ?_ ?_ <;> intro) | (refine guardL_splitF ?_ ?_ <;> intro) | (refine guardP_splitT ?_ ?_ <;> intro) | (refine guardP_splitF ?_ ?_ <;> intro) | (refine condL_split ?_ ?_ <;> intro) | (refine ret_tmp ?_) | (refine acx_go rfl (fun _ _ _ h => h) ?_) | (refine acx_dreg mixed (fun _ _ _ _ e h => ⟨e.trans h.1, h.2⟩) _ (SubH.refl _) ?_) | (refine And.intro (SubH.new (by assumption)) ?_) | (refine allNew_intro fun zr zh => ?_; have zg := zh; (try simp only [AH.set_none] at zg)) | (exact SubH.refl _) | (refine SubH.of_set ?_ ?_) | assumption | (with_reducible refine And.intro ?_ ?_)))
        · rw [wrap_ok (n := (i : Int) + 1) (by omega) (by omega)]
          refine ⟨i + 1, made ++ [r], by omega, rfl, by simp [hlen], ?_, ?_, rfl⟩
          · exact ho2
          · intro x hx
            rcases List.mem_append.1 hx with hx | hx
            · exact hfit x hx
            · rw [List.mem_singleton.1 hx]; exact hf
        · rw [wrap_ok (n := (i : Int) + 1) (by omega) (by omega)]
          omega
      · have hb : ¬ i < ls.length := by assumption
        have hg : deriveGo rows (unkN rows) made (ls.drop i) = (made, 0) := by
          rw [List.drop_eq_nil_of_le (by omega), deriveGo]
        rw [hg]
        unfold c27_1
        (repeat' (first | (simp only [↓s_reg, ↓s_seq, ↓s_ret, ↓s_nil, ↓s_consN, ↓s_thenN, ↓s_putS, ↓s_dOkS, ↓s_ev_t, ↓s_ev_c, ↓s_upd, ↓s_move, ↓s_assign, ite_true, ite_false, Nat.reduceEqDiff, Nat.reduceLT, true_and, eq_self, *]) | (refine guardL_splitTD ?_ ?_ <;> intro) | (refine guardL_splitFD ?_ ?_ <;> intro) | (refine guardP_splitTD ?_ ?_ <;> intro) | (refine guardP_splitFD ?_ ?_ <;> intro) | (refine condL_splitD ?_ ?_ <;> intro) | (refine guardL_splitT ?_ ?_ <;> intro) | (refine guardL_splitF ?_ ?_ <;> intro) | (refine guardP_splitT ?_ ?_ <;> intro) | (refine guardP_splitF ?_ ?_ <;> intro) | (refine condL_split ?_ ?_ <;> intro) | (refine ret_tmp ?_) | (refine acx_go rfl (fun _ _ _ h => h) ?_) | (refine acx_dreg mixed (fun _ _ _ _ e h => ⟨e.trans h.1, h.2⟩) _ (SubH.refl _) ?_) | (refine And.intro (SubH.new (by assumption)) ?_) | (refine allNew_intro fun zr zh => ?_; have zg := zh; (try simp only [AH.set_none] at zg)) | (exact SubH.refl _) | (refine SubH.of_set ?_ ?_) | assumption | (with_reducible refine And.intro ?_ ?_)))
        refine retPost_ret rfl (by simp only [resV, resAll, resOne, s_upd, Nat.reduceEqDiff, if_true, if_false, Option.bind_some, Option.map_some, tupV] <;> rfl) ⟨_, rfl, ?_⟩
        exact GhV.tuple (GhL.cons ho.back (GhL.cons (GhV.refl _ _) (GhL.nil _)))
end Go.PV.Ytefpjfpelicedaa
end
section
/- The reference: a certificate's error. -/
set_option linter.unusedVariables false
set_option linter.unusedSimpArgs false
set_option maxRecDepth 20000
set_option maxHeartbeats 4000000
namespace Go.PV.Ytefpjfpelicedaa
open Go Go.Proofs
theorem check14 (rows : List Row) (ls : List Line) (h1 : (rows.length : Int) ≤ 9223372036854775806) (h2 : (ls.length : Int) ≤ 9223372036854775806) : PureF Try.prog 14 [rowsV rows, linesV ls] (iV (checkF rows ls)) := by
  refine PureF.forget fun H => ?_
  refine vcalls_intro fd14 (by simp) ?_
  unfold c14
  have hl := deriveF_len rows ls
  have hf := deriveF_ok rows ls
  have hd := derive27 rows ls h1 h2
  unfold checkF
  generalize hp : deriveF rows ls = p at hl hf hd ⊢
  clear hp
  have hw : IntKind.i64.wrap ((p.1.length : Int) - 1) = (p.1.length : Int) - 1 := wrap_ok (by omega) (by omega)
  by_cases he : p.2 = 0
  · by_cases h0 : p.1 = []
    · have h0' : (p.1.length : Int) = 0 := by simp [h0]
      have e : lastF p.1 = 260 := by simp [lastF, h0]
      clear h0
      (repeat' (first | (simp only [↓s_skip, ↓s_reg, ↓s_seq, ↓s_cond, ↓s_condT, ↓s_condF, ↓s_ret, ↓s_nil, ↓s_consN, ↓s_thenN, ↓s_thenR, ↓s_kret, ↓s_putS, ↓s_dOkS, ↓s_ev_t, ↓s_ev_c, ↓s_ev_f, ↓s_upd, ↓s_move, ↓s_assign, ↓s_bin, ↓s_extract, ↓s_callB, ↓s_callV, ↓s_callL, ↓s_len, ↓s_bin_eql, ↓s_bin_neq, vcExtract, intV, List.map_cons, List.map_nil, List.getD_cons_zero, List.getD_cons_succ, List.getD_nil, ite_true, ite_false, Nat.reduceEqDiff, Nat.reduceLT, ne_eq, not_false_eq_true, true_and, Nat.succ_ne_self, decide_true, Bool.not_true, reduceCtorEq, undefV, eq_self, List.getElem?_cons_zero, List.getElem?_cons_succ, n_lenS, undef, elT_22, en_27, *]) | (refine guardL_splitTD ?_ ?_ <;> intro) | (refine guardL_splitFD ?_ ?_ <;> intro) | (refine guardP_splitTD ?_ ?_ <;> intro) | (refine guardP_splitFD ?_ ?_ <;> intro) | (refine condL_splitD ?_ ?_ <;> intro) | (refine guardL_splitT ?_ ?_ <;> intro) | (refine guardL_splitF ?_ ?_ <;> intro) | (refine guardP_splitT ?_ ?_ <;> intro) | (refine guardP_splitF ?_ ?_ <;> intro) | (refine condL_split ?_ ?_ <;> intro) | (refine ret_tmp ?_) | (refine acx_go rfl (fun _ _ _ h => h) ?_) | (refine acx_dreg mixed (fun _ _ _ _ e h => ⟨e.trans h.1, h.2⟩) _ (SubH.refl _) ?_) | (refine And.intro (SubH.new (by assumption)) ?_) | (refine allNew_intro fun zr zh => ?_; have zg := zh; (try simp only [AH.set_none] at zg)) | (exact SubH.refl _) | (refine SubH.of_set ?_ ?_) | assumption | (refine PureF.use (hd) ?_) | (with_reducible refine And.intro ?_ ?_)))
    · have h0' : ¬ (p.1.length : Int) = 0 := fun e => h0 (List.eq_nil_of_length_eq_zero (by omega))
      have h3 : 0 ≤ (p.1.length : Int) - 1 := by omega
      have h4 : (p.1.length : Int) - 1 < p.1.length := by omega
      have hm : rowAt p.1 ((p.1.length : Int) - 1) ∈ p.1 := by
        unfold rowAt
        rw [List.getD_eq_getElem?_getD]
        have h5 : ((p.1.length : Int) - 1).toNat < p.1.length := by omega
        simp only [h5, List.getElem?_eq_getElem, Option.getD_some]; exact List.getElem_mem _
      have h6 := (hf _ hm).1.1
      have h7 := (hf _ hm).2
      have e : lastF p.1 = if absurdF (rowAt p.1 ((p.1.length : Int) - 1)) = false then 260 else 0 := by simp [lastF, h0]
      rw [if_pos he, e]
      generalize hr : rowAt p.1 ((p.1.length : Int) - 1) = r at h6
      have hlen : (r.c.length : Int) ≤ 12 := by omega
      clear h6 hm h0 e
      (repeat' (first | (simp only [↓s_skip, ↓s_reg, ↓s_seq, ↓s_seqL, ↓s_cond, ↓s_condF, ↓s_block, ↓s_loop, ↓s_nil, ↓s_consN, ↓s_thenN, ↓s_kret, ↓s_putS, ↓s_putN, ↓s_dOkS, ↓s_dOkN, ↓s_ev_t, ↓s_ev_c, ↓s_ev_f, ↓s_upd, ↓s_move, ↓s_assign, ↓s_load, ↓s_store, ↓s_bin, ↓s_alloc, ↓s_indexAddr, ↓s_extract, ↓s_callB, ↓s_callV, ↓s_callL, ↓s_len, ↓s_bin_eql, ↓s_bin_neq, ↓s_bin_sub, vcExtract, ptrV, intV, List.map_cons, List.map_nil, List.length_cons, List.length_nil, List.getD_cons_zero, List.getD_cons_succ, List.getD_nil, ite_true, ite_false, Nat.reduceEqDiff, Nat.reduceLT, Nat.reduceAdd, ne_eq, not_false_eq_true, true_and, Nat.succ_ne_self, decide_true, decide_false, Bool.not_true, reduceCtorEq, undefV, AH.get, AH.set_set, setAt, List.all_cons, List.all_nil, Bool.and_self, eq_self, Nat.zero_add, and_self, List.getElem?_cons_zero, List.getElem?_cons_succ, ldV_t2, on_int, cl_agg, on_slice, List.set_cons_zero, List.set_cons_succ, ↓n_alloc, n_allocS, Nat.le_refl, n_ldI, n_ixS, n_ixA1, n_lenS, n_ldC, n_ldB, n_stP, n_stA, undef, rows_dropZ, ldT_39, szT_39, zeroT_39, elT_22, en_27, *]) | (refine guardL_splitTD ?_ ?_ <;> intro) | (refine guardL_splitFD ?_ ?_ <;> intro) | (refine guardP_splitTD ?_ ?_ <;> intro) | (refine guardP_splitFD ?_ ?_ <;> intro) | (refine condL_splitD ?_ ?_ <;> intro) | (refine guardL_splitT ?_ ?_ <;> intro) | (refine guardL_splitF ?_ ?_ <;> intro) | (refine guardP_splitT ?_ ?_ <;> intro) | (refine guardP_splitF ?_ ?_ <;> intro) | (refine condL_split ?_ ?_ <;> intro) | (refine ret_tmp ?_) | (refine acx_go rfl (fun _ _ _ h => h) ?_) | (refine acx_dreg mixed (fun _ _ _ _ e h => ⟨e.trans h.1, h.2⟩) _ (SubH.refl _) ?_) | (refine And.intro (SubH.new (by assumption)) ?_) | (refine allNew_intro fun zr zh => ?_; have zg := zh; (try simp only [AH.set_none] at zg)) | (exact SubH.refl _) | (refine SubH.of_set ?_ ?_) | assumption | (refine PureF.use (hd) ?_) | (with_reducible refine And.intro ?_ ?_)))
      refine acx_loop (fun _ _ _ h => h) (fun A H' => SubH H H' ∧ A.d = [] ∧ A.t 7 = ptrV zr 0 ∧ H' zr = some (.cells 39 (rowE r) 0) ∧ ∃ i : Nat, i ≤ r.c.length ∧ A.t 8 = iV i ∧ (r.c.any fun c => !decide (c = 0)) = ((r.c.drop i).any fun c => !decide (c = 0)))
        (fun A _ => match A.t 8 with | .lit (.int _ i) => ((r.c.length : Int) - i).toNat | _ => 0) ?_ ?_
      · exact ⟨SubH.new (by assumption), rfl, rfl, AH.set_same _ _ _, 0, by simp, rfl, rfl⟩
      · rintro ⟨t, d⟩ H' ⟨hs, rfl, h7', kz, i, hi, h8, hgo⟩
        dsimp only at h7' h8
        have hdr : ∀ (h : i < r.c.length), ((r.c.drop i).any fun c => !decide (c = 0)) = (!decide (r.c[i] = 0) || ((r.c.drop (i + 1)).any fun c => !decide (c = 0))) := fun h => by rw [List.drop_eq_getElem_cons h, List.any_cons]
        unfold absurdF
        rw [hgo]
        clear hgo
        (repeat' (first | (simp only [↓s_skip, ↓s_reg, ↓s_seq, ↓s_cond, ↓s_block, ↓s_exit, ↓s_ret, ↓s_nil, ↓s_consN, ↓s_thenN, ↓s_thenE, ↓s_thenR, ↓s_inN, ↓s_inE, ↓s_inR, ↓s_kret, ↓s_putS, ↓s_dOkS, ↓s_ev_t, ↓s_ev_c, ↓s_upd, ↓s_move, ↓s_assign, ↓s_load, ↓s_bin, ↓s_fieldAddr, ↓s_indexAddr, ↓s_callB, ↓s_len, ↓s_bin_lss, ↓s_bin_geq, ↓s_bin_neq, ↓s_bin_add, ptrV, intV, List.map_cons, List.map_nil, ite_true, ite_false, Nat.reduceEqDiff, Nat.reduceLT, ne_eq, not_false_eq_true, true_and, and_true, Nat.succ_ne_self, decide_true, decide_false, Bool.not_true, Bool.and_false, Bool.true_or, Bool.false_or, reduceCtorEq, Int.natCast_nonneg, Int.toNat_natCast, Nat.mul_one, eq_self, Nat.zero_add, Nat.add_zero, List.drop, and_self, ldV_f, Int.ofNat_lt, n_ldI, n_ldP, n_faP, n_ixS, n_ixA1, n_lenS, n_ldA, n_ldC, n_ldB, n_faA, ints_drop, flT_39_0, flT_39_1, ldT_37, ldT_3, elT_37, *]) | (refine guardL_splitTD ?_ ?_ <;> intro) | (refine guardL_splitFD ?_ ?_ <;> intro) | (refine guardP_splitTD ?_ ?_ <;> intro) | (refine guardP_splitFD ?_ ?_ <;> intro) | (refine condL_splitD ?_ ?_ <;> intro) | (refine guardL_splitT ?_ ?_ <;> intro) | (refine guardL_splitF ?_ ?_ <;> intro) | (refine guardP_splitT ?_ ?_ <;> intro) | (refine guardP_splitF ?_ ?_ <;> intro) | (refine condL_split ?_ ?_ <;> intro) | (refine ret_tmp ?_) | (refine acx_go rfl (fun _ _ _ h => h) ?_) | (refine acx_dreg mixed (fun _ _ _ _ e h => ⟨e.trans h.1, h.2⟩) _ (SubH.refl _) ?_) | (refine And.intro (SubH.new (by assumption)) ?_) | (refine allNew_intro fun zr zh => ?_; have zg := zh; (try simp only [AH.set_none] at zg)) | (exact SubH.refl _) | (refine SubH.of_set ?_ ?_) | assumption | (with_reducible refine And.intro ?_ ?_)))
        · have hb : i < r.c.length := by assumption
          rw [wrap_ok (n := (i : Int) + 1) (by omega) (by omega)]
          exact ⟨i + 1, by omega, rfl, rfl⟩
        · rw [wrap_ok (n := (i : Int) + 1) (by omega) (by omega)]
          omega
        · have hn : ¬ r.b < 0 := by omega
          rw [decide_eq_false hn, Bool.false_and, if_pos rfl]
        · have hn : r.b < 0 := by omega
          rw [decide_eq_true hn, List.drop_eq_nil_of_le (by omega), List.any_nil, Bool.not_false, Bool.true_and, if_neg (by simp)]
  · (repeat' (first | (simp only [↓s_reg, ↓s_seq, ↓s_cond, ↓s_condT, ↓s_ret, ↓s_nil, ↓s_consN, ↓s_thenN, ↓s_thenR, ↓s_kret, ↓s_putS, ↓s_dOkS, ↓s_ev_t, ↓s_ev_c, ↓s_ev_f, ↓s_upd, ↓s_move, ↓s_assign, ↓s_bin, ↓s_extract, ↓s_callV, ↓s_callL, ↓s_bin_neq, vcExtract, List.map_cons, List.map_nil, List.getD_cons_zero, List.getD_cons_succ, List.getD_nil, ite_true, ite_false, Nat.reduceEqDiff, Nat.reduceLT, true_and, Nat.succ_ne_self, decide_false, Bool.not_false, reduceCtorEq, undefV, eq_self, List.getElem?_cons_zero, List.getElem?_cons_succ, undef, en_27, *]) | (refine guardL_splitTD ?_ ?_ <;> intro) | (refine guardL_splitFD ?_ ?_ <;> intro) | (refine guardP_splitTD ?_ ?_ <;> intro) | (refine guardP_splitFD ?_ ?_ <;> intro) | (refine condL_splitD ?_ ?_ <;> intro) | (refine guardL_splitT ?_ ?_ <;> intro) | (refine guardL_splitF ?_ ?_ <;> intro) | (refine guardP_splitT ?_ ?_ <;> intro) | (refine guardP_splitF ?_ ?_ <;> intro) | (refine condL_split ?_ ?_ <;> intro) | (refine ret_tmp ?_) | (refine acx_go rfl (fun _ _ _ h => h) ?_) | (refine acx_dreg mixed (fun _ _ _ _ e h => ⟨e.trans h.1, h.2⟩) _ (SubH.refl _) ?_) | (refine And.intro (SubH.new (by assumption)) ?_) | (refine allNew_intro fun zr zh => ?_; have zg := zh; (try simp only [AH.set_none] at zg)) | (exact SubH.refl _) | (refine SubH.of_set ?_ ?_) | assumption | (refine PureF.use (hd) ?_) | (with_reducible refine And.intro ?_ ?_)))
end Go.PV.Ytefpjfpelicedaa
end
section
/- What divides all numbers of a row; a row's key. -/
set_option linter.unusedVariables false
set_option linter.unusedSimpArgs false
set_option maxRecDepth 20000
set_option maxHeartbeats 4000000
namespace Go.PV.Ytefpjfpelicedaa
open Go Go.Proofs
theorem en_78' : enterable Try.prog 78 = true := by kernel_rfl
def gcdN : Nat → Int → Int → Int
  | 0, a, _ => a
  | n + 1, a, b => if b = 0 then max a (W (-a)) else gcdN n b (a.tmod b)
def gcdF (a b : Int) : Int := gcdN (b.natAbs + 1) a b
theorem tmod_lt {a b : Int} (h : b ≠ 0) : (a.tmod b).natAbs < b.natAbs := by
  rw [Int.natAbs_tmod]; exact Nat.mod_lt _ (by omega)
theorem gcdN_fuel : ∀ (n m : Nat) (a b : Int), b.natAbs < n → b.natAbs < m → gcdN n a b = gcdN m a b
  | n + 1, m + 1, a, b, h1, h2 => by
    simp only [gcdN]
    split
    · rfl
    · rename_i h
      have := tmod_lt (a := a) h
      exact gcdN_fuel n m _ _ (by omega) (by omega)
theorem gcdF_zero (a : Int) : gcdF a 0 = max a (W (-a)) := by simp [gcdF, gcdN]
theorem gcdF_step {a b : Int} (h : b ≠ 0) : gcdF a b = gcdF b (a.tmod b) := by
  have := tmod_lt (a := a) h
  conv => lhs; unfold gcdF
  simp only [gcdN, if_neg h]
  exact gcdN_fuel _ _ _ _ (by omega) (by omega)
theorem gcd78 : ∀ (n : Nat) (a b : Int), b.natAbs < n → ∀ {H : AH} {c : Nat}, H c = some (.cells 112 [.func (.func 78) [] [ptrV c 0]] 0) → ReadF Try.prog 78 [iV a, iV b, ptrV c 0] (iV (gcdF a b)) H
  | n + 1, a, b, hb, H, c, hc => by
    unfold ReadF
    refine vcalls_intro fd78 (by simp) ?_
    unfold c78
    by_cases h : b = 0
    · (repeat' (first | (simp only [↓s_reg, ↓s_seq, ↓s_cond, ↓s_condT, ↓s_ret, ↓s_nil, ↓s_consN, ↓s_thenN, ↓s_thenR, ↓s_kret, ↓s_putS, ↓s_dOkS, ↓s_ev_t, ↓s_ev_c, ↓s_upd, ↓s_move, ↓s_assign, ↓s_bin, ↓s_un, ↓s_callB, ↓s_max, ↓s_un_neg, ↓s_bin_eql, ptrV, List.map_cons, List.map_nil, List.getD_cons_zero, List.getD_cons_succ, List.getD_nil, ite_true, ite_false, Nat.reduceEqDiff, Nat.reduceLT, true_and, Nat.succ_ne_self, decide_true, reduceCtorEq, undefV, eq_self, vcMax, undef, *]) | (refine guardL_splitTD ?_ ?_ <;> intro) | (refine guardL_splitFD ?_ ?_ <;> intro) | (refine guardP_splitTD ?_ ?_ <;> intro) | (refine guardP_splitFD ?_ ?_ <;> intro) | (refine condL_splitD ?_ ?_ <;> intro) | (refine guardL_splitT ?_ ?_ <;> intro) | (refine guardL_splitF ?_ ?_ <;> intro) | (refine guardP_splitT ?_ ?_ <;> intro) | (refine guardP_splitF ?_ ?_ <;> intro) | (refine condL_split ?_ ?_ <;> intro) | (refine ret_tmp ?_) | (refine acx_go rfl (fun _ _ _ h => h) ?_) | (refine acx_dreg mixed (fun _ _ _ _ e h => ⟨e.trans h.1, h.2⟩) _ (SubH.refl _) ?_) | (refine And.intro (SubH.new (by assumption)) ?_) | (refine allNew_intro fun zr zh => ?_; have zg := zh; (try simp only [AH.set_none] at zg)) | (exact SubH.refl _) | (refine SubH.of_set ?_ ?_) | assumption | (with_reducible refine And.intro ?_ ?_)))
      rw [gcdF_zero, show max a (W (-a)) = if W (-a) > a then W (-a) else a from by rw [Int.max_def]; split <;> split <;> omega]
    · have ih := gcd78 n b (a.tmod b) (by have := tmod_lt (a := a) h; omega) hc
      rw [gcdF_step h]
      (repeat' (first | (refine ih.use ?_) | (simp only [↓s_skip, ↓s_reg, ↓s_seq, ↓s_cond, ↓s_condF, ↓s_ret, ↓s_dreg, ↓s_nil, ↓s_consN, ↓s_thenN, ↓s_kret, ↓s_putS, ↓s_dOkS, ↓s_ev_t, ↓s_ev_c, ↓s_upd, ↓s_move, ↓s_assign, ↓s_load, ↓s_bin, ↓s_callV, ↓s_callF, ↓s_bin_eql, ↓s_bin_rem, ptrV, List.map_cons, List.map_nil, List.getD_cons_zero, List.getD_cons_succ, List.getD_nil, List.cons_append, List.nil_append, ite_true, ite_false, Nat.reduceEqDiff, Nat.reduceLT, not_false_eq_true, true_and, Nat.succ_ne_self, decide_false, reduceCtorEq, undefV, ↓s_plFin, ↓s_plTkN, eq_self, List.drop, ldV_f, n_ldP, n_ldA, n_ldB, ↓s_plK, undef, en_78', ldT_112, *]) | (refine guardL_splitTD ?_ ?_ <;> intro) | (refine guardL_splitFD ?_ ?_ <;> intro) | (refine guardP_splitTD ?_ ?_ <;> intro) | (refine guardP_splitFD ?_ ?_ <;> intro) | (refine condL_splitD ?_ ?_ <;> intro) | (refine guardL_splitT ?_ ?_ <;> intro) | (refine guardL_splitF ?_ ?_ <;> intro) | (refine guardP_splitT ?_ ?_ <;> intro) | (refine guardP_splitF ?_ ?_ <;> intro) | (refine condL_split ?_ ?_ <;> intro) | (refine ret_tmp ?_) | (refine acx_go rfl (fun _ _ _ h => h) ?_) | (refine acx_dreg mixed (fun _ _ _ _ e h => ⟨e.trans h.1, h.2⟩) _ (SubH.refl _) ?_) | (refine And.intro (SubH.new (by assumption)) ?_) | (refine allNew_intro fun zr zh => ?_; have zg := zh; (try simp only [AH.set_none] at zg)) | (exact SubH.refl _) | (refine SubH.of_set ?_ ?_) | assumption | (with_reducible refine And.intro ?_ ?_)))
/-- What divides all numbers of a row: 0, if all are 0. -/
def commonGo : List Int → Int → Int
  | [], g => g
  | c :: cs, g => commonGo cs (gcdF g c)
def commonF (r : Row) : Int := commonGo r.c 0
theorem common62 (r : Row) (hn : (r.c.length : Int) ≤ 9223372036854775806) : PureF Try.prog 62 [rowV r] (iV (commonF r)) := by
  refine PureF.forget fun H => ?_
  refine vcalls_intro fd62 (by simp) ?_
  unfold c62
  (repeat' (first | (simp only [↓s_reg, ↓s_seq, ↓s_seqL, ↓s_block, ↓s_loop, ↓s_nil, ↓s_consN, ↓s_thenN, ↓s_kret, ↓s_putS, ↓s_putN, ↓s_dOkS, ↓s_dOkN, ↓s_ev_t, ↓s_ev_c, ↓s_upd, ↓s_move, ↓s_assign, ↓s_load, ↓s_store, ↓s_alloc, ↓s_box, ↓s_makeFunc, ↓s_fieldAddr, ↓s_callB, ↓s_len, ptrV, intV, List.map_cons, List.map_nil, List.length_cons, List.length_nil, List.getD_cons_zero, List.getD_cons_succ, List.getD_nil, ite_true, ite_false, Nat.reduceEqDiff, Nat.reduceLT, ne_eq, not_false_eq_true, true_and, Nat.succ_ne_self, reduceCtorEq, undefV, AH.get, AH.set_set, setAt, List.all_cons, List.all_nil, Bool.and_self, eq_self, Nat.zero_add, Nat.add_zero, List.drop, ldV_f, cl_agg, cl_func, on_func, List.set_cons_zero, ↓n_alloc, n_allocS, ↓n_box, Nat.le_refl, n_ldP, n_faP, n_lenS, n_ldA, n_ldB, n_faA, n_stP, n_stA, undef, flT_50_0, ldT_37, szT_112, zeroT_112, elT_37, *]) | (refine guardL_splitTD ?_ ?_ <;> intro) | (refine guardL_splitFD ?_ ?_ <;> intro) | (refine guardP_splitTD ?_ ?_ <;> intro) | (refine guardP_splitFD ?_ ?_ <;> intro) | (refine condL_splitD ?_ ?_ <;> intro) | (refine guardL_splitT ?_ ?_ <;> intro) | (refine guardL_splitF ?_ ?_ <;> intro) | (refine guardP_splitT ?_ ?_ <;> intro) | (refine guardP_splitF ?_ ?_ <;> intro) | (refine condL_split ?_ ?_ <;> intro) | (refine ret_tmp ?_) | (refine acx_go rfl (fun _ _ _ h => h) ?_) | (refine acx_dreg mixed (fun _ _ _ _ e h => ⟨e.trans h.1, h.2⟩) _ (SubH.refl _) ?_) | (refine And.intro (SubH.new (by assumption)) ?_) | (refine allNew_intro fun zr zh => ?_; have zg := zh; (try simp only [AH.set_none] at zg)) | (exact SubH.refl _) | (refine SubH.of_set ?_ ?_) | assumption | (with_reducible refine And.intro ?_ ?_)))
  rename_i r1 _ _
  revert zr
  intro r3 zh3 zg3
  refine acx_loop (fun _ _ _ h => h) (fun A H' => SubH H H' ∧ A.d = [] ∧ A.t 3 = ptrV r3 0 ∧ A.t 9 = intsV r.c ∧ A.t 10 = iV r.c.length ∧ H' r3 = some (.cells 112 [.func (.func 78) [] [ptrV r3 0]] 0) ∧ ∃ (i : Nat) (g : Int), i ≤ r.c.length ∧ A.t 11 = iV i ∧ A.t 4 = iV g ∧ commonF r = commonGo (r.c.drop i) g)
    (fun A _ => match A.t 11 with | .lit (.int _ i) => ((r.c.length : Int) - i).toNat | _ => 0) ?_ ?_
  · refine ⟨?_, rfl, rfl, rfl, rfl, ?_, 0, 0, by omega, rfl, rfl, rfl⟩
    · exact SubH.of_set (SubH.of_set (SubH.refl _) (by assumption)) zg3.2
    · rw [AH.set_same]; rfl
  · rintro ⟨t, d⟩ H' ⟨hs, rfl, h3, h9, h10, k3, i, g, hi, h11, h4, hgo⟩
    dsimp only at h3 h4 h9 h10 h11
    unfold b62_1
    (repeat' (first | (refine (gcd78 _ _ _ (Nat.lt_succ_self _) k3).use ?_) | (simp only [↓s_skip, ↓s_reg, ↓s_seq, ↓s_cond, ↓s_block, ↓s_exit, ↓s_nil, ↓s_consN, ↓s_thenN, ↓s_thenE, ↓s_inN, ↓s_inE, ↓s_kret, ↓s_putS, ↓s_dOkS, ↓s_ev_t, ↓s_ev_c, ↓s_upd, ↓s_move, ↓s_assign, ↓s_load, ↓s_bin, ↓s_indexAddr, ↓s_callV, ↓s_callF, ↓s_bin_lss, ↓s_bin_add, ptrV, List.map_cons, List.map_nil, List.cons_append, List.nil_append, ite_true, ite_false, Nat.reduceEqDiff, Nat.reduceLT, true_and, Nat.succ_ne_self, decide_true, decide_false, Int.natCast_nonneg, Int.toNat_natCast, Nat.mul_one, eq_self, List.drop, and_self, ldV_f, Int.ofNat_lt, n_ldI, n_ldP, n_ixS, n_ixA1, n_ldA, n_ldC, n_ldB, en_78', ints_drop, ldT_3, ldT_112, elT_37, *]) | (refine guardL_splitTD ?_ ?_ <;> intro) | (refine guardL_splitFD ?_ ?_ <;> intro) | (refine guardP_splitTD ?_ ?_ <;> intro) | (refine guardP_splitFD ?_ ?_ <;> intro) | (refine condL_splitD ?_ ?_ <;> intro) | (refine guardL_splitT ?_ ?_ <;> intro) | (refine guardL_splitF ?_ ?_ <;> intro) | (refine guardP_splitT ?_ ?_ <;> intro) | (refine guardP_splitF ?_ ?_ <;> intro) | (refine condL_split ?_ ?_ <;> intro) | (refine ret_tmp ?_) | (refine acx_go rfl (fun _ _ _ h => h) ?_) | (refine acx_dreg mixed (fun _ _ _ _ e h => ⟨e.trans h.1, h.2⟩) _ (SubH.refl _) ?_) | (refine And.intro (SubH.new (by assumption)) ?_) | (refine allNew_intro fun zr zh => ?_; have zg := zh; (try simp only [AH.set_none] at zg)) | (exact SubH.refl _) | (refine SubH.of_set ?_ ?_) | assumption | (with_reducible refine And.intro ?_ ?_)))
    · have hb : i < r.c.length := by assumption
      rw [wrap_ok (n := (i : Int) + 1) (by omega) (by omega)]
      refine ⟨i + 1, _, by omega, rfl, rfl, ?_⟩
      rw [List.drop_eq_getElem_cons hb]; rfl
    · rw [wrap_ok (n := (i : Int) + 1) (by omega) (by omega)]
      omega
    · rw [List.drop_eq_nil_of_le (by omega)]
      unfold c62_1
      (repeat' (first | (simp only [↓s_reg, ↓s_seq, ↓s_ret, ↓s_nil, ↓s_consN, ↓s_thenN, ↓s_putS, ↓s_dOkS, ↓s_ev_t, ↓s_upd, ↓s_move, ↓s_assign, ite_true, ite_false, Nat.reduceEqDiff, Nat.reduceLT, true_and, eq_self, and_self, commonGo, *]) | (refine guardL_splitTD ?_ ?_ <;> intro) | (refine guardL_splitFD ?_ ?_ <;> intro) | (refine guardP_splitTD ?_ ?_ <;> intro) | (refine guardP_splitFD ?_ ?_ <;> intro) | (refine condL_splitD ?_ ?_ <;> intro) | (refine guardL_splitT ?_ ?_ <;> intro) | (refine guardL_splitF ?_ ?_ <;> intro) | (refine guardP_splitT ?_ ?_ <;> intro) | (refine guardP_splitF ?_ ?_ <;> intro) | (refine condL_split ?_ ?_ <;> intro) | (refine ret_tmp ?_) | (refine acx_go rfl (fun _ _ _ h => h) ?_) | (refine acx_dreg mixed (fun _ _ _ _ e h => ⟨e.trans h.1, h.2⟩) _ (SubH.refl _) ?_) | (refine And.intro (SubH.new (by assumption)) ?_) | (refine allNew_intro fun zr zh => ?_; have zg := zh; (try simp only [AH.set_none] at zg)) | (exact SubH.refl _) | (refine SubH.of_set ?_ ?_) | assumption | (with_reducible refine And.intro ?_ ?_)))
def keyL (r : Row) : List Int := wideL r.c 12
theorem key75 (r : Row) (hn : r.c.length ≤ 12) : PureF Try.prog 75 [rowV r] (.agg (encC intE (keyL r))) := by
  refine PureF.forget fun H => ?_
  refine vcalls_intro fd75 (by simp) ?_
  unfold c75
  (repeat' (first | (simp only [↓s_reg, ↓s_seq, ↓s_dreg, ↓s_nil, ↓s_consN, ↓s_thenN, ↓s_kret, ↓s_putS, ↓s_dOkS, ↓s_ev_t, ↓s_upd, ↓s_load, ↓s_alloc, ↓s_box, ↓s_slice, ↓s_fieldAddr, ↓s_callB, ↓s_copy, ptrV, List.map_cons, List.map_nil, List.getD_cons_zero, List.getD_cons_succ, List.getD_nil, ite_true, ite_false, Nat.reduceEqDiff, Nat.reduceLT, Nat.reduceSub, Nat.reduceLeDiff, ne_eq, not_false_eq_true, not_true_eq_false, true_and, Nat.succ_ne_self, reduceCtorEq, Nat.mul_one, undefV, ↓s_plFin, ↓s_plTkN, AH.get, eq_self, Nat.add_zero, List.drop, and_self, ldV_f, cl_agg, ↓n_alloc, n_allocS, ↓n_box, Nat.le_refl, n_ldP, n_faP, n_ldA, n_ldB, n_faA, ↓s_plK, undef, vcSlice, arT_118, Option.map_none, sliceOk, idxV, idxOk, imp_self, flT_50_0, ldT_37, zeroT_118, *]) | (refine guardL_splitTD ?_ ?_ <;> intro) | (refine guardL_splitFD ?_ ?_ <;> intro) | (refine guardP_splitTD ?_ ?_ <;> intro) | (refine guardP_splitFD ?_ ?_ <;> intro) | (refine condL_splitD ?_ ?_ <;> intro) | (refine guardL_splitT ?_ ?_ <;> intro) | (refine guardL_splitF ?_ ?_ <;> intro) | (refine guardP_splitT ?_ ?_ <;> intro) | (refine guardP_splitF ?_ ?_ <;> intro) | (refine condL_split ?_ ?_ <;> intro) | (refine ret_tmp ?_) | (refine acx_go rfl (fun _ _ _ h => h) ?_) | (refine acx_dreg mixed (fun _ _ _ _ e h => ⟨e.trans h.1, h.2⟩) _ (SubH.refl _) ?_) | (refine And.intro (SubH.new (by assumption)) ?_) | (refine allNew_intro fun zr zh => ?_; have zg := zh; (try simp only [AH.set_none] at zg)) | (exact SubH.refl _) | (refine SubH.of_set ?_ ?_) | assumption | (with_reducible refine And.intro ?_ ?_)))
  refine copy_at (cs := encC intE (List.replicate 12 0)) elT_37 (by simp only [AH.get, *, if_true, if_false]; rfl) (ints_src _ _) (ints_one _) (by rw [ints_len]; simp) ?_
  rw [wide_set _ _ hn]
  have hld : ldV 12 true (encC intE (wideL r.c 12)) = some (.agg (encC intE (wideL r.c 12))) := by
    have := ldV_agg (n := 12) (xs := encC intE (wideL r.c 12)) (ys := []) (by rw [ints_len, wide_len])
    simpa using this
  have hlen : (encC intE (wideL r.c 12)).length = 12 := by rw [ints_len, wide_len]
  have hone := ints_one (wideL r.c 12)
  unfold keyL
  generalize encC intE (wideL r.c 12) = cs at hld hlen hone ⊢
  have hset : setAt (encC intE (List.replicate 12 0)) 0 cs = cs := by
    rw [setAt_eq _ _ _ (by rw [ints_len]; simp [hlen]), List.take_zero, List.nil_append, Nat.zero_add, hlen, List.drop_eq_nil_of_le (by rw [ints_len]; simp), List.append_nil]
  have hset' : setAt [VV.lit (.int .i64 0), VV.lit (.int .i64 0), VV.lit (.int .i64 0), VV.lit (.int .i64 0), VV.lit (.int .i64 0), VV.lit (.int .i64 0), VV.lit (.int .i64 0), VV.lit (.int .i64 0), VV.lit (.int .i64 0), VV.lit (.int .i64 0), VV.lit (.int .i64 0), VV.lit (.int .i64 0)] 0 cs = cs := hset
  (repeat' (first | (simp only [↓s_reg, ↓s_seq, ↓s_ret, ↓s_nil, ↓s_consN, ↓s_thenN, ↓s_kret, ↓s_putS, ↓s_putN, ↓s_dOkS, ↓s_dOkN, ↓s_ev_t, ↓s_upd, ↓s_load, ↓s_store, intV, List.length_cons, List.length_nil, List.getD_cons_succ, List.getD_nil, ite_true, ite_false, Nat.reduceEqDiff, Nat.reduceLT, Nat.reduceAdd, true_and, Nat.succ_ne_self, AH.get, AH.set_set, eq_self, Nat.zero_add, List.drop, cl_agg, Nat.le_refl, n_ldP, n_ldA, n_ldB, n_stP, n_stA, ldT_118, szT_118, *]) | (refine guardL_splitTD ?_ ?_ <;> intro) | (refine guardL_splitFD ?_ ?_ <;> intro) | (refine guardP_splitTD ?_ ?_ <;> intro) | (refine guardP_splitFD ?_ ?_ <;> intro) | (refine condL_splitD ?_ ?_ <;> intro) | (refine guardL_splitT ?_ ?_ <;> intro) | (refine guardL_splitF ?_ ?_ <;> intro) | (refine guardP_splitT ?_ ?_ <;> intro) | (refine guardP_splitF ?_ ?_ <;> intro) | (refine condL_split ?_ ?_ <;> intro) | (refine ret_tmp ?_) | (refine acx_go rfl (fun _ _ _ h => h) ?_) | (refine acx_dreg mixed (fun _ _ _ _ e h => ⟨e.trans h.1, h.2⟩) _ (SubH.refl _) ?_) | (refine And.intro (SubH.new (by assumption)) ?_) | (refine allNew_intro fun zr zh => ?_; have zg := zh; (try simp only [AH.set_none] at zg)) | (exact SubH.refl _) | (refine SubH.of_set ?_ ?_) | assumption | (with_reducible refine And.intro ?_ ?_)))
  refine ret_cell ldT_118 (by simp only [s_upd, Nat.reduceEqDiff, if_true, if_false]; rfl) (by simp only [AH.get, *, if_true, if_false]; rfl) (by rw [List.drop_zero]; exact hld) ⟨rfl, ?_⟩
  repeat (first | assumption | exact SubH.refl _ | refine SubH.of_set ?_ (by simp only [*]))
end Go.PV.Ytefpjfpelicedaa
end
section
/- The search's state; adding a line. -/
set_option linter.unusedVariables false
set_option linter.unusedSimpArgs false
set_option maxRecDepth 20000
set_option maxHeartbeats 4000000
namespace Go.PV
theorem OwnX.swap {H0 H1 H2 : AH} {e e' : TypeId} {k k' n n' : Nat} {v v' : VV} {cs cs' : List VV} (h : OwnX H0 H1 e k v n cs) (h' : OwnX H1 H2 e' k' v' n' cs') : ∃ Hx, OwnX H0 Hx e' k' v' n' cs' ∧ OwnX Hx H2 e k v n cs := by
  rcases h' with ⟨rfl, rfl, rfl, rfl⟩ | ⟨g, c, sp, rfl, h0, rfl, h1, h2, h3, h4⟩
  · exact ⟨H0, OwnX.nil _ _ _, h⟩
  · exact ⟨H0.set g (.cells e' cs' sp), .inr ⟨g, c, sp, rfl, h.sub.none h0, rfl, h1, h2, h3, h4⟩, h.alloc h0 _⟩
theorem OwnX.form {H0 H1 : AH} {e : TypeId} {k n : Nat} {v : VV} {cs : List VV} (h : OwnX H0 H1 e k v n cs) : ∃ a c, v = .lit (.slice a n c) := by
  rcases h with ⟨rfl, rfl, _⟩ | ⟨g, c, sp, rfl, _⟩
  · exact ⟨none, 0, rfl⟩
  · exact ⟨_, c, rfl⟩
end Go.PV
namespace Go.PV.Ytefpjfpelicedaa
open Go Go.Proofs
def RefSt (B H : AH) (s mp : Nat) (rows : List Row) (n : Nat) (most : Int) (made : List Row) (ls : List Line) (km : Value → Option VV) : Prop :=
  ∃ mv lv Hs Hm, B s = none ∧ B mp = none ∧ s ≠ mp ∧ SubH B Hs ∧ Hs s = some (.cells 77 [rowsV rows, iV n, mv, lv, iV most, .lit (.map (some mp))] 0) ∧ Hs mp = some (.map (keysOf Try.prog 75) km) ∧
    OwnX Hs Hm 50 2 mv made.length (encC rowE made) ∧ OwnX Hm H 52 5 lv ls.length (encC lineE ls)
theorem notI82 : notIface Try.prog 82 = true := by kernel_rfl
theorem notI79 : notIface Try.prog 79 = true := by kernel_rfl
def stopE (c : Int) : List PanicEntry := [{ v := .iface 82 (.agg #[.int .i64 c]), recovered := false }]
def foundE : List PanicEntry := [{ v := .iface 79 (.agg #[]), recovered := false }]
theorem line74 {B H : AH} {s mp : Nat} {rows : List Row} {n : Nat} {most : Int} {made : List Row} {ls : List Line} {km : Value → Option VV} {l : Line} {K : VE → AH → Prop} (hst : RefSt B H s mp rows n most made ls km)
    (hrows : ∀ r ∈ rows, r.c.length ≤ n) (hmade : ∀ r ∈ made, Fits n r) (hn : (n : Int) ≤ 1000) (hlen : made.length = ls.length) (hls : ls.length ≤ 5000)
    (hFuel : (ls.length : Int) = most → ∀ H', RefSt B H' s mp rows n most made ls km → K (.pan (stopE 8)) H')
    (hErr : ¬ (ls.length : Int) = most → ¬ (makeF rows made n l).2 = 0 → ∀ H', RefSt B H' s mp rows n most made ls km → K (.pan (stopE (if (makeF rows made n l).2 = 260 then 7 else (makeF rows made n l).2))) H')
    (hFound : ¬ (ls.length : Int) = most → (makeF rows made n l).2 = 0 → absurdF (makeF rows made n l).1 = true → ∀ H', RefSt B H' s mp rows n most (made ++ [(makeF rows made n l).1]) (ls ++ [l]) km → K (.pan foundE) H')
    (hOk : ¬ (ls.length : Int) = most → (makeF rows made n l).2 = 0 → absurdF (makeF rows made n l).1 = false → ∀ H', RefSt B H' s mp rows n most (made ++ [(makeF rows made n l).1]) (ls ++ [l]) km → K (.ret (iV ls.length)) H') :
    VCalls Try.prog 74 [ptrV s 0, lineV l] H K := by
  have hst0 := hst
  obtain ⟨mv, lv, Hs, Hm, b1, b2, b3, hB, ks, km', ho1, ho2⟩ := hst
  have hsub : SubH Hs H := ho1.sub.trans ho2.sub
  have kd := hsub _ _ ks
  have hN : ∀ r, H r = none → ¬ s = r := fun r hr => (AH.ne_of kd hr).1
  have hN' : ∀ r, H r = none → ¬ r = s := fun r hr => (AH.ne_of kd hr).2
  have kdm := hsub _ _ km'
  have hO : ∀ r, H r = none → ¬ mp = r := fun r hr => (AH.ne_of kdm hr).1
  have hBn : ∀ r, H r = none → B r = none := fun r hr => (hB.trans hsub).none hr
  have hM : Made H mv made := (Made.of ho1 rfl).mono ho2.sub
  obtain ⟨la, lc, rfl⟩ := ho2.form
  refine vcalls_intro fd74 (by simp) ?_
  unfold c74
  by_cases hf : (ls.length : Int) = most
  · (repeat' (first | (simp only [↓s_reg, ↓s_seq, ↓s_cond, ↓s_condT, ↓s_dreg, ↓s_nil, ↓s_consN, ↓s_thenN, ↓s_thenP, ↓s_kret, ↓s_putS, ↓s_dOkS, ↓s_dOkN, ↓s_ev_t, ↓s_ev_c, ↓s_upd, ↓s_move, ↓s_assign, ↓s_load, ↓s_nilCheck, ↓s_bin, ↓s_mkIface, ↓s_box, ↓s_build, ↓s_fieldAddr, ↓s_callB, ↓s_panic, ↓s_len, ↓s_bin_eql, vcNil, vcIface, ptrV, intV, List.map_cons, List.map_nil, List.length_cons, List.length_nil, List.getD_cons_zero, List.getD_cons_succ, List.getD_nil, ite_true, ite_false, Nat.reduceEqDiff, Nat.reduceLT, ne_eq, not_false_eq_true, true_and, Nat.succ_ne_self, decide_true, reduceCtorEq, undefV, ↓s_plFin, ↓s_plTkN, AH.get, vcBuild, fillV, setAt, eq_self, Nat.zero_add, List.drop, and_self, List.getElem?_cons_zero, ldV_f, cl_int, cl_agg, List.set_cons_zero, ↓n_box, Nat.le_refl, n_ldP, n_faP, n_lenL, n_ldA, n_ldB, n_faA, ↓s_plK, undef, vcIface, flT_77_1, flT_77_2, ldT_28, ldT_3, stT_82, elT_28, *]) | (refine guardL_splitTD ?_ ?_ <;> intro) | (refine guardL_splitFD ?_ ?_ <;> intro) | (refine guardP_splitTD ?_ ?_ <;> intro) | (refine guardP_splitFD ?_ ?_ <;> intro) | (refine condL_splitD ?_ ?_ <;> intro) | (refine guardL_splitT ?_ ?_ <;> intro) | (refine guardL_splitF ?_ ?_ <;> intro) | (refine guardP_splitT ?_ ?_ <;> intro) | (refine guardP_splitF ?_ ?_ <;> intro) | (refine condL_split ?_ ?_ <;> intro) | (refine ret_tmp ?_) | (refine acx_go rfl (fun _ _ _ h => h) ?_) | (refine acx_dreg mixed (fun _ _ _ _ e h => ⟨e.trans h.1, h.2⟩) _ (SubH.refl _) ?_) | (refine And.intro (SubH.new (by assumption)) ?_) | (refine allNew_intro fun zr zh => ?_; have zg := zh; (try simp only [AH.set_none] at zg)) | (exact SubH.refl _) | (refine SubH.of_set ?_ ?_) | assumption | (with_reducible refine And.intro ?_ ?_)))
    · exact notI82
    · show retPost Try.prog [.tmp 4] K (.panic (stopE 8)) _ _
      exact ⟨rfl, H, by repeat (first | assumption | exact SubH.refl _ | refine SubH.of_set ?_ (by simp only [*])), hFuel hf H hst0⟩
  · by_cases he : (makeF rows made n l).2 = 0
    · have hft := makeF_ok (rows := rows) (l := l) hmade he
      have hab := absurd41 (makeF rows made n l).1 (by rw [hft.1]; omega)
      (repeat' (first | (refine acx_dreg mixed (fun _ _ _ _ e h => ⟨e.trans h.1, h.2⟩) _ ((hsub.set _ _).set _ _) ?_) | (refine (hsub.set _ _).set _ _) | (refine (make47 (d := s) (sp := 0) (rows := rows) (made := made) (mv := mv) (rest := [.lit (.slice la ls.length lc), iV most, .lit (.map (some mp))]) (e := 77) (l := l) (n := n) ?_ ?_ hrows hmade hn).use ?_) | (simp only [↓s_skip, ↓s_reg, ↓s_seq, ↓s_cond, ↓s_condF, ↓s_dreg, ↓s_nil, ↓s_consN, ↓s_thenN, ↓s_kret, ↓s_putS, ↓s_putN, ↓s_dOkS, ↓s_dOkN, ↓s_ev_t, ↓s_ev_c, ↓s_ev_f, ↓s_upd, ↓s_move, ↓s_assign, ↓s_load, ↓s_store, ↓s_nilCheck, ↓s_bin, ↓s_alloc, ↓s_box, ↓s_buildSlice, ↓s_fieldAddr, ↓s_extract, ↓s_callB, ↓s_callV, ↓s_callL, ↓s_len, ↓s_append, ↓s_bin_eql, ↓s_bin_neq, vcNil, vcExtract, ptrV, intV, List.map_cons, List.map_nil, List.length_cons, List.length_nil, List.getD_cons_zero, List.getD_cons_succ, List.getD_nil, List.append_nil, ite_true, ite_false, Nat.reduceEqDiff, Nat.reduceLT, Nat.reduceAdd, Nat.reduceMul, Nat.reduceLeDiff, ne_eq, not_false_eq_true, true_and, Nat.succ_ne_self, decide_true, decide_false, Bool.not_true, reduceCtorEq, undefV, ↓s_plFin, ↓s_plTkN, ↓s_plOneN, ↓s_plTwo, AH.get, AH.set_set, fillV, setAt, List.all_cons, List.all_nil, Bool.and_self, eq_self, Nat.zero_add, Nat.add_zero, List.drop, and_self, List.getElem?_cons_zero, List.getElem?_cons_succ, ldV_f, ldV_t2, ldV_t5, on_int, cl_agg, on_slice, List.set_cons_zero, List.set_cons_succ, ↓n_alloc, n_allocS, ↓n_box, Nat.le_refl, n_ldP, n_faP, n_lenL, n_ldA, n_ldB, n_faA, n_stP, n_stA, ↓s_plK, ↓s_oneK, undef, Int.reduceEq, vcBuildSlice, List.replicate_succ, List.replicate_zero, List.flatten_cons, List.flatten_nil, makeX, flT_77_1, flT_77_2, flT_77_0, flT_74_2, ldT_28, ldT_3, ldT_52, ldT_31, ldT_50, szT_50, zeroT_52, zeroT_50, elT_28, elT_31, en_47, *]) | (refine guardL_splitTD ?_ ?_ <;> intro) | (refine guardL_splitFD ?_ ?_ <;> intro) | (refine guardP_splitTD ?_ ?_ <;> intro) | (refine guardP_splitFD ?_ ?_ <;> intro) | (refine condL_splitD ?_ ?_ <;> intro) | (refine guardL_splitT ?_ ?_ <;> intro) | (refine guardL_splitF ?_ ?_ <;> intro) | (refine guardP_splitT ?_ ?_ <;> intro) | (refine guardP_splitF ?_ ?_ <;> intro) | (refine condL_split ?_ ?_ <;> intro) | (refine ret_tmp ?_) | (refine acx_go rfl (fun _ _ _ h => h) ?_) | (refine acx_dreg mixed (fun _ _ _ _ e h => ⟨e.trans h.1, h.2⟩) _ (SubH.refl _) ?_) | (refine And.intro (SubH.new (by assumption)) ?_) | (refine allNew_intro fun zr zh => ?_; have zg := zh; (try simp only [AH.set_none] at zg)) | (exact SubH.refl _) | (refine SubH.of_set ?_ ?_) | assumption | (refine PureF.use (hab) ?_) | (with_reducible refine And.intro ?_ ?_)))
      any_goals exact hM.mono (by repeat (first | assumption | exact SubH.refl _ | refine SubH.of_set ?_ (by simp only [*])))
      all_goals
        refine append_own elT_28 zeroT_52 rfl (by omega) ((ho2.alloc (by assumption) _).alloc (by assumption) _) rfl rfl (by omega) (by omega) (fun lv' H1 ho3 => ?_)
        obtain ⟨la2, lc2, rfl⟩ := ho3.form
        obtain ⟨Hx, ho4r, ho5⟩ := ((ho1.alloc (ho2.sub.none (by assumption)) _).alloc ((ho2.sub.set _ _).none (by assumption)) _).swap ho3
        have c5 := ho4r.sub.trans ho5.sub
        obtain ⟨Hs2, c1, c2, c3, ho4⟩ : ∃ Hs2, SubH B Hs2 ∧ Hs2 s = some (.cells 77 [rowsV rows, iV n, mv, .lit (.slice la ls.length lc), iV most, .lit (.map (some mp))] 0) ∧ Hs2 mp = some (.map (keysOf Try.prog 75) km) ∧ OwnX Hs2 Hx 52 5 (.lit (.slice la2 (ls.length + 1) lc2)) (ls.length + 1) (encC lineE ls ++ lineE l) :=
          ⟨_, SubH.of_set (SubH.of_set hB (hBn _ (by simp only [*]))) (hBn _ (by simp only [*])), by simp only [AH.get, *, if_false], by simp only [AH.get, *, if_false], ho4r⟩
        clear ho3
        have c6 := ho4.cells.1
        have c7 := ho4.cells.2
        have kd1 := (ho4.sub.trans ho5.sub) _ _ c2
        (repeat' (first | (simp only [↓s_kret, ↓s_putS, ↓s_dOkS, ↓s_ev_t, ↓s_upd, ↓s_buildSlice, ↓s_callB, ↓s_append, List.map_cons, List.map_nil, List.length_cons, List.length_nil, List.getD_cons_succ, List.getD_nil, List.append_nil, ite_true, ite_false, Nat.reduceEqDiff, Nat.reduceLT, Nat.reduceAdd, Nat.reduceMul, Nat.reduceLeDiff, true_and, Nat.succ_ne_self, ↓s_plOneN, fillV, setAt, eq_self, Nat.zero_add, and_self, cl_agg, List.set_cons_zero, List.set_cons_succ, Nat.le_refl, ↓s_oneK, vcBuildSlice, List.replicate_succ, List.replicate_zero, List.flatten_cons, List.flatten_nil, zeroT_50, elT_31, *]) | (refine guardL_splitTD ?_ ?_ <;> intro) | (refine guardL_splitFD ?_ ?_ <;> intro) | (refine guardP_splitTD ?_ ?_ <;> intro) | (refine guardP_splitFD ?_ ?_ <;> intro) | (refine condL_splitD ?_ ?_ <;> intro) | (refine guardL_splitT ?_ ?_ <;> intro) | (refine guardL_splitF ?_ ?_ <;> intro) | (refine guardP_splitT ?_ ?_ <;> intro) | (refine guardP_splitF ?_ ?_ <;> intro) | (refine condL_split ?_ ?_ <;> intro) | (refine ret_tmp ?_) | (refine acx_go rfl (fun _ _ _ h => h) ?_) | (refine acx_dreg mixed (fun _ _ _ _ e h => ⟨e.trans h.1, h.2⟩) _ (SubH.refl _) ?_) | (refine And.intro (SubH.new (by assumption)) ?_) | (refine allNew_intro fun zr zh => ?_; have zg := zh; (try simp only [AH.set_none] at zg)) | (exact SubH.refl _) | (refine SubH.of_set ?_ ?_) | assumption | (with_reducible refine And.intro ?_ ?_)))
        refine append_own elT_31 zeroT_50 rfl (by omega) ho5 rfl rfl (by omega) (by omega) (fun mv' H2 ho6 => ?_)
        have c8 := ho6.cells.1
        have c9 := ho6.cells.2
        have kd2 := (ho4.sub.trans ho6.sub) _ _ c2
        have c10 := ho4r.sub.trans ho6.sub
        have kz := c10 _ _ (AH.set_same _ _ _)
        have hfin : RefSt B (H2.set s (.cells 77 [rowsV rows, iV n, mv', .lit (.slice la2 (ls.length + 1) lc2), iV most, .lit (.map (some mp))] 0)) s mp rows n most (made ++ [(makeF rows made n l).1]) (ls ++ [l]) km := by
          obtain ⟨Hy, h7, h8⟩ := (ho4.put c2 (.cells 77 [rowsV rows, iV n, mv', .lit (.slice la2 (ls.length + 1) lc2), iV most, .lit (.map (some mp))] 0)).swap (ho6.put (ho4.sub _ _ c2) (.cells 77 [rowsV rows, iV n, mv', .lit (.slice la2 (ls.length + 1) lc2), iV most, .lit (.map (some mp))] 0))
          refine ⟨mv', .lit (.slice la2 (ls.length + 1) lc2), Hs2.set s (.cells 77 [rowsV rows, iV n, mv', .lit (.slice la2 (ls.length + 1) lc2), iV most, .lit (.map (some mp))] 0), Hy, b1, b2, b3, c1.of_set b1, AH.set_same _ _ _, by rw [AH.get, if_neg (Ne.symm b3)]; exact c3, ?_, ?_⟩
          · rw [encC_snoc, List.length_append]; exact h7
          · rw [encC_snoc, List.length_append]; exact h8
        have hwr : IntKind.i64.wrap (((ls.length + 1 : Nat) : Int) - 1) = ls.length := by rw [wrap_ok (by omega) (by omega)]; omega
        (repeat' (first | (simp only [↓s_skip, ↓s_reg, ↓s_seq, ↓s_cond, ↓s_ret, ↓s_nil, ↓s_consN, ↓s_thenN, ↓s_thenP, ↓s_kret, ↓s_putS, ↓s_putN, ↓s_dOkS, ↓s_dOkN, ↓s_ev_t, ↓s_ev_c, ↓s_ev_f, ↓s_upd, ↓s_move, ↓s_assign, ↓s_load, ↓s_store, ↓s_nilCheck, ↓s_bin, ↓s_mkIface, ↓s_build, ↓s_fieldAddr, ↓s_callB, ↓s_callV, ↓s_panic, ↓s_callL, ↓s_len, ↓s_bin_sub, vcNil, vcIface, intV, boolV, List.map_cons, List.map_nil, List.length_cons, List.length_nil, List.getD_cons_zero, List.getD_cons_succ, List.getD_nil, ite_true, ite_false, Nat.reduceEqDiff, Nat.reduceLT, Nat.reduceAdd, Nat.reduceLeDiff, ne_eq, not_false_eq_true, true_and, Nat.succ_ne_self, reduceCtorEq, ↓s_plFin, ↓s_plTkN, AH.get, AH.set_set, vcBuild, fillV, setAt, List.all_cons, List.all_nil, Bool.and_self, eq_self, Nat.zero_add, Nat.add_zero, List.drop, ldV_f, ldV_t2, List.set_cons_zero, List.set_cons_succ, n_ldP, n_faP, n_lenL, n_ldA, n_ldB, n_faA, n_stP, n_stA, ↓s_plK, ↓s_cutK, ↓s_plCutN, ↓s_oneK, vcIface, flT_77_1, flT_77_0, flT_74_2, ldT_28, ldT_50, szT_28, szT_31, stT_79, elT_28, en_41, *]) | (refine guardL_splitTD ?_ ?_ <;> intro) | (refine guardL_splitFD ?_ ?_ <;> intro) | (refine guardP_splitTD ?_ ?_ <;> intro) | (refine guardP_splitFD ?_ ?_ <;> intro) | (refine condL_splitD ?_ ?_ <;> intro) | (refine guardL_splitT ?_ ?_ <;> intro) | (refine guardL_splitF ?_ ?_ <;> intro) | (refine guardP_splitT ?_ ?_ <;> intro) | (refine guardP_splitF ?_ ?_ <;> intro) | (refine condL_split ?_ ?_ <;> intro) | (refine ret_tmp ?_) | (refine acx_go rfl (fun _ _ _ h => h) ?_) | (refine acx_dreg mixed (fun _ _ _ _ e h => ⟨e.trans h.1, h.2⟩) _ (SubH.refl _) ?_) | (refine And.intro (SubH.new (by assumption)) ?_) | (refine allNew_intro fun zr zh => ?_; have zg := zh; (try simp only [AH.set_none] at zg)) | (exact SubH.refl _) | (refine SubH.of_set ?_ ?_) | assumption | (refine PureF.use (hab) ?_) | (with_reducible refine And.intro ?_ ?_)))
        all_goals first
          | exact notI79
          | exact hOk hf he (by assumption) _ hfin
          | (show retPost Try.prog [.tmp 4] K (.panic foundE) _ _; exact ⟨rfl, _, SubH.refl _, hFound hf he (by assumption) _ hfin⟩)
    · have hg : ∀ ch, K (.pan ch) H → ∃ H', SubH H' H ∧ K (.pan ch) H' := fun ch h => ⟨H, SubH.refl _, h⟩
      have hE := hErr hf he H hst0
      (repeat' (first | (refine (make47 (d := s) (sp := 0) (rows := rows) (made := made) (mv := mv) (rest := [.lit (.slice la ls.length lc), iV most, .lit (.map (some mp))]) (e := 77) (l := l) (n := n) ?_ ?_ hrows hmade hn).use ?_) | (simp only [↓s_skip, ↓s_reg, ↓s_seq, ↓s_cond, ↓s_condT, ↓s_condF, ↓s_dreg, ↓s_nil, ↓s_consN, ↓s_thenN, ↓s_thenP, ↓s_kret, ↓s_putS, ↓s_putN, ↓s_dOkS, ↓s_dOkN, ↓s_ev_t, ↓s_ev_c, ↓s_ev_f, ↓s_upd, ↓s_move, ↓s_assign, ↓s_load, ↓s_store, ↓s_nilCheck, ↓s_bin, ↓s_mkIface, ↓s_alloc, ↓s_box, ↓s_build, ↓s_fieldAddr, ↓s_extract, ↓s_callB, ↓s_callV, ↓s_panic, ↓s_callL, ↓s_len, ↓s_bin_eql, ↓s_bin_neq, vcNil, vcIface, vcExtract, ptrV, intV, List.map_cons, List.map_nil, List.length_cons, List.length_nil, List.getD_cons_zero, List.getD_cons_succ, List.getD_nil, ite_true, ite_false, Nat.reduceEqDiff, Nat.reduceLT, Nat.reduceAdd, ne_eq, not_false_eq_true, true_and, Nat.succ_ne_self, decide_true, decide_false, Bool.not_false, reduceCtorEq, undefV, ↓s_plFin, ↓s_plTkN, ↓s_plOneN, ↓s_plTwo, AH.get, AH.set_set, vcBuild, fillV, setAt, List.all_cons, List.all_nil, Bool.and_self, eq_self, Nat.zero_add, Nat.add_zero, List.drop, and_self, List.getElem?_cons_zero, List.getElem?_cons_succ, ldV_f, ldV_t5, cl_int, on_int, cl_agg, on_slice, List.set_cons_zero, List.set_cons_succ, ↓n_alloc, n_allocS, ↓n_box, Nat.le_refl, n_ldP, n_faP, n_lenL, n_ldA, n_ldB, n_faA, n_stP, n_stA, ↓s_plK, ↓s_oneK, undef, Int.reduceEq, makeX, vcIface, flT_77_1, flT_77_2, flT_77_0, ldT_28, ldT_3, ldT_52, szT_50, stT_82, zeroT_50, elT_28, en_47, *]) | (refine guardL_splitTD ?_ ?_ <;> intro) | (refine guardL_splitFD ?_ ?_ <;> intro) | (refine guardP_splitTD ?_ ?_ <;> intro) | (refine guardP_splitFD ?_ ?_ <;> intro) | (refine condL_splitD ?_ ?_ <;> intro) | (refine guardL_splitT ?_ ?_ <;> intro) | (refine guardL_splitF ?_ ?_ <;> intro) | (refine guardP_splitT ?_ ?_ <;> intro) | (refine guardP_splitF ?_ ?_ <;> intro) | (refine condL_split ?_ ?_ <;> intro) | (refine ret_tmp ?_) | (refine acx_go rfl (fun _ _ _ h => h) ?_) | (refine acx_dreg mixed (fun _ _ _ _ e h => ⟨e.trans h.1, h.2⟩) _ (SubH.refl _) ?_) | (refine And.intro (SubH.new (by assumption)) ?_) | (refine allNew_intro fun zr zh => ?_; have zg := zh; (try simp only [AH.set_none] at zg)) | (exact SubH.refl _) | (refine SubH.of_set ?_ ?_) | assumption | (with_reducible refine And.intro ?_ ?_)))
      any_goals exact hM.mono (by repeat (first | assumption | exact SubH.refl _ | refine SubH.of_set ?_ (by simp only [*])))
      any_goals exact notI82
      all_goals first
        | (have h2 : (makeF rows made n l).2 = 260 := by assumption
           rw [if_pos h2] at hE
           show retPost Try.prog [.tmp 4] K (.panic (stopE 7)) _ _
           exact ⟨rfl, H, by repeat (first | assumption | exact SubH.refl _ | refine SubH.of_set ?_ (by simp only [*])), hE⟩)
        | (have h2 : ¬ (makeF rows made n l).2 = 260 := by assumption
           rw [if_neg h2] at hE
           show retPost Try.prog [.tmp 4] K (.panic (stopE (makeF rows made n l).2)) _ _
           exact ⟨rfl, H, by repeat (first | assumption | exact SubH.refl _ | refine SubH.of_set ?_ (by simp only [*])), hE⟩)
end Go.PV.Ytefpjfpelicedaa
end
section
/- The search's steps asg functions; keeping a line. -/
set_option linter.unusedVariables false
set_option linter.unusedSimpArgs false
set_option maxRecDepth 20000
set_option maxHeartbeats 4000000
namespace Go.PV.Ytefpjfpelicedaa
open Go Go.Proofs
inductive Out where
  | stop (c : Int)
  | found
structure RS where
  made : List Row
  ls : List Line
  known : List (List Int × Int)
abbrev Res := Except (Out × RS) (Int × RS)
def lineS (rows : List Row) (n : Nat) (most : Int) (s : RS) (l : Line) : Res :=
  if (s.ls.length : Int) = most then .error (.stop 8, s)
  else if (makeF rows s.made n l).2 = 0 then
    (if absurdF (makeF rows s.made n l).1 = true then .error (.found, ⟨s.made ++ [(makeF rows s.made n l).1], s.ls ++ [l], s.known⟩)
     else .ok (s.ls.length, ⟨s.made ++ [(makeF rows s.made n l).1], s.ls ++ [l], s.known⟩))
  else .error (.stop (if (makeF rows s.made n l).2 = 260 then 7 else (makeF rows s.made n l).2), s)
/-- What is known of a row's key. -/
def keyAt (known : List (List Int × Int)) (k : List Int) : Option Int := (known.find? fun p => p.1 = k).map (·.2)
def keep2 (s : RS) (a : Int) : Int × RS :=
  match keyAt s.known (keyL (rowAt s.made a)) with
  | some old => if (rowAt s.made old).b ≤ (rowAt s.made a).b then (-1, s) else (a, ⟨s.made, s.ls, (keyL (rowAt s.made a), a) :: s.known⟩)
  | none => (a, ⟨s.made, s.ls, (keyL (rowAt s.made a), a) :: s.known⟩)
def keepS (rows : List Row) (n : Nat) (most : Int) (s : RS) (l : Line) : Res :=
  match lineS rows n most s l with
  | .error e => .error e
  | .ok (a, s1) =>
    if commonF (rowAt s1.made a) = 0 then .ok (-1, s1)
    else if 1 < commonF (rowAt s1.made a) ∧ commonF (rowAt s1.made a) ≤ 1000000 then
      (match lineS rows n most s1 ⟨4, a, 0, commonF (rowAt s1.made a), 0⟩ with
       | .error e => .error e
       | .ok (a2, s2) => .ok (keep2 s2 a2))
    else .ok (keep2 s1 a)
noncomputable def kmOf : List (List Int × Int) → Value → Option VV
  | [] => fun _ => none
  | p :: l => mset (kmOf l) (.agg (p.1.map (Value.int .i64)).toArray) (iV p.2)
structure OkS (n : Nat) (most : Int) (s : RS) : Prop where
  fits : ∀ r ∈ s.made, Fits n r
  len : s.made.length = s.ls.length
  le : (s.ls.length : Int) ≤ most
  kn : ∀ p ∈ s.known, 0 ≤ p.2 ∧ p.2 < (s.made.length : Int)
def RefS (B H : AH) (s mp : Nat) (rows : List Row) (n : Nat) (most : Int) (st : RS) : Prop := RefSt B H s mp rows n most st.made st.ls (kmOf st.known)
/-- What is owed at an outcome. -/
def PostS (B : AH) (s mp : Nat) (rows : List Row) (n : Nat) (most : Int) (K : VE → AH → Prop) : Res → Prop
  | .error (.stop c, st) => ∀ H', RefS B H' s mp rows n most st → K (.pan (stopE c)) H'
  | .error (.found, st) => ∀ H', RefS B H' s mp rows n most st → K (.pan foundE) H'
  | .ok (v, st) => ∀ H', RefS B H' s mp rows n most st → K (.ret (iV v)) H'
section
variable {rows : List Row} {n : Nat} {most : Int} {s : RS} {l : Line}
theorem lineS_fuel (h1 : (s.ls.length : Int) = most) : lineS rows n most s l = .error (.stop 8, s) := by unfold lineS; rw [if_pos h1]
theorem lineS_err (h1 : ¬ (s.ls.length : Int) = most) (h2 : ¬ (makeF rows s.made n l).2 = 0) : lineS rows n most s l = .error (.stop (if (makeF rows s.made n l).2 = 260 then 7 else (makeF rows s.made n l).2), s) := by unfold lineS; rw [if_neg h1, if_neg h2]
theorem lineS_found (h1 : ¬ (s.ls.length : Int) = most) (h2 : (makeF rows s.made n l).2 = 0) (h3 : absurdF (makeF rows s.made n l).1 = true) : lineS rows n most s l = .error (.found, ⟨s.made ++ [(makeF rows s.made n l).1], s.ls ++ [l], s.known⟩) := by unfold lineS; rw [if_neg h1, if_pos h2, if_pos h3]
theorem lineS_val (h1 : ¬ (s.ls.length : Int) = most) (h2 : (makeF rows s.made n l).2 = 0) (h3 : absurdF (makeF rows s.made n l).1 = false) : lineS rows n most s l = .ok (s.ls.length, ⟨s.made ++ [(makeF rows s.made n l).1], s.ls ++ [l], s.known⟩) := by unfold lineS; rw [if_neg h1, if_pos h2, if_neg (by simp [h3])]
end
theorem lineS_ok {rows : List Row} {n : Nat} {most : Int} {s : RS} {l : Line} (h : OkS n most s) : match lineS rows n most s l with
    | .error (_, s') => OkS n most s'
    | .ok (a, s') => OkS n most s' ∧ 0 ≤ a ∧ a < (s'.made.length : Int) := by
  have key : ¬ (s.ls.length : Int) = most → (makeF rows s.made n l).2 = 0 → OkS n most ⟨s.made ++ [(makeF rows s.made n l).1], s.ls ++ [l], s.known⟩ := fun h1 h2 => by
    refine ⟨?_, by simp [h.len], by have := h.le; simp; omega, ?_⟩
    · intro r hr
      rcases List.mem_append.1 hr with hr | hr
      · exact h.fits r hr
      · rw [List.mem_singleton.1 hr]; exact makeF_ok h.fits h2
    · intro p hp
      have := h.kn p hp
      simp; omega
  by_cases h1 : (s.ls.length : Int) = most
  · rw [lineS_fuel h1]; exact h
  by_cases h2 : (makeF rows s.made n l).2 = 0
  · by_cases h3 : absurdF (makeF rows s.made n l).1 = true
    · rw [lineS_found h1 h2 h3]; exact key h1 h2
    · rw [lineS_val h1 h2 (by simpa using h3)]
      refine ⟨key h1 h2, by omega, ?_⟩
      have := h.len
      simp; omega
  · rw [lineS_err h1 h2]; exact h
theorem line74S {B H : AH} {s mp : Nat} {rows : List Row} {n : Nat} {most : Int} {st : RS} {l : Line} {K : VE → AH → Prop} (hst : RefS B H s mp rows n most st) (hok : OkS n most st) (hm : most ≤ 5000)
    (hrows : ∀ r ∈ rows, r.c.length ≤ n) (hn : (n : Int) ≤ 1000) (h : PostS B s mp rows n most K (lineS rows n most st l)) : VCalls Try.prog 74 [ptrV s 0, lineV l] H K := by
  refine line74 hst hrows hok.fits hn hok.len (by have := hok.le; omega) ?_ ?_ ?_ ?_
  · intro h1; rw [lineS_fuel h1] at h; exact h
  · intro h1 h2; rw [lineS_err h1 h2] at h; exact h
  · intro h1 h2 h3; rw [lineS_found h1 h2 h3] at h; exact h
  · intro h1 h2 h3; rw [lineS_val h1 h2 h3] at h; exact h
theorem RefS.alloc {B H : AH} {s mp : Nat} {rows : List Row} {n : Nat} {most : Int} {st : RS} {r : Nat} (h : RefS B H s mp rows n most st) (hr : H r = none) (b : Blk) : RefS B (H.set r b) s mp rows n most st := by
  obtain ⟨mv, lv, Hs, Hm, b1, b2, b3, hB, ks, km', ho1, ho2⟩ := h
  have hr1 := ho2.sub.none hr
  have hr2 := ho1.sub.none hr1
  refine ⟨mv, lv, Hs.set r b, Hm.set r b, b1, b2, b3, hB.of_set (hB.none hr2), ?_, ?_, ho1.alloc hr1 b, ho2.alloc hr b⟩
  · rw [AH.get, if_neg (AH.ne_of ks hr2).1]; exact ks
  · rw [AH.get, if_neg (AH.ne_of km' hr2).1]; exact km'
/-- What may be read of the state. -/
theorem RefS.view {B H : AH} {s mp : Nat} {rows : List Row} {n : Nat} {most : Int} {st : RS} (h : RefS B H s mp rows n most st) :
    ∃ a c la lc, H s = some (.cells 77 [rowsV rows, iV n, .lit (.slice a st.made.length c), .lit (.slice la st.ls.length lc), iV most, .lit (.map (some mp))] 0) ∧ H mp = some (.map (keysOf Try.prog 75) (kmOf st.known)) ∧ SubH B H ∧
      (st.made ≠ [] → ∃ g sp, a = some ⟨g, 0, none⟩ ∧ H g = some (.cells 50 (encC rowE st.made) sp)) := by
  obtain ⟨mv, lv, Hs, Hm, b1, b2, b3, hB, ks, km', ho1, ho2⟩ := h
  obtain ⟨la, lc, rfl⟩ := ho2.form
  have hsub := ho1.sub.trans ho2.sub
  rcases ho1 with ⟨rfl, h1, h2, rfl⟩ | ⟨g, c, sp, rfl, h0, rfl, h1⟩
  · refine ⟨none, 0, la, lc, ?_, hsub _ _ km', hB.trans hsub, fun hne => absurd (List.eq_nil_of_length_eq_zero h1) hne⟩
    rw [h1]; exact hsub _ _ ks
  · exact ⟨_, c, la, lc, hsub _ _ ks, hsub _ _ km', hB.trans hsub, fun _ => ⟨g, sp, rfl, ho2.sub _ _ (AH.set_same _ _ _)⟩⟩
end Go.PV.Ytefpjfpelicedaa
end
section
/- The map from keys of rows to lines. -/
set_option linter.unusedVariables false
set_option linter.unusedSimpArgs false
set_option maxRecDepth 20000
set_option maxHeartbeats 4000000
namespace Go.PV.Ytefpjfpelicedaa
open Go Go.Proofs Go.Maps
theorem keyed118 : Keyed Try.prog 118 := Keyed.of_law (deep_law_laid (m := 3) (by kernel_rfl) (by omega) (Nat.le_of_ble_eq_true (by kernel_rfl)) (by kernel_rfl) (by kernel_rfl))
theorem und118 : Program.underlying Try.prog 118 = some (.array 12 3) := by kernel_rfl
theorem und3 : Program.underlying Try.prog 3 = some (.int .i64) := by kernel_rfl
theorem und75 : Program.underlying Try.prog 75 = some (.map 118 3) := by kernel_rfl
theorem cells118 : Program.cellsOf Try.prog 118 = 12 := by kernel_rfl
theorem cells3 : Program.cellsOf Try.prog 3 = 1 := by kernel_rfl
theorem kt118 : Program.keyType Try.prog 118 = true := by kernel_rfl
theorem mapT75 : MapT Try.prog 75 (.int .i64 0) := ⟨118, 3, und75, keyed118, by kernel_rfl⟩
def keyVal (k : List Int) : Value := .agg (k.map (Value.int .i64)).toArray
def W64 (k : List Int) : Prop := ∀ c ∈ k, -9223372036854775808 ≤ c ∧ c ≤ 9223372036854775807
theorem mapM_some {α β : Type} (f : α → Option β) : ∀ (l : List α), (∀ x ∈ l, ∃ y, f x = some y) → ∃ ys, l.mapM f = some ys
  | [], _ => ⟨[], rfl⟩
  | x :: l, h => by
    obtain ⟨y, hy⟩ := h x (List.mem_cons_self ..)
    obtain ⟨ys, hys⟩ := mapM_some f l fun z hz => h z (List.mem_cons_of_mem _ hz)
    exact ⟨y :: ys, by simp [List.mapM_cons, hy, hys]⟩
theorem wf64 {c : Int} (h : -9223372036854775808 ≤ c ∧ c ≤ 9223372036854775807) : (Lit.int .i64 c).wf = true := by
  have := wrap_ok h.1 h.2
  simp only [Lit.wf, Bool.and_eq_true, decide_eq_true_eq]
  exact h
theorem keys75 {k : List Int} (hl : k.length = 12) (hw : W64 k) : keysOf Try.prog 75 (keyVal k) := by
  obtain ⟨d, hd⟩ : ∃ d, Try.prog.types.size = d + 1 := ⟨Try.prog.types.size - 1, by kernel_rfl⟩
  refine ⟨118, 3, ?_⟩
  unfold keyOf
  rw [und118]
  have hf : (keyVal k).formed Try.prog 118 = true := by
    simp [keyVal, Value.formed, und118, cells118, hl]
  simp only [kt118, hf, Bool.and_self, if_true]
  have hc : (keyVal k).cells.toList = k.map (Value.int .i64) := by simp [keyVal, Value.cells]
  rw [hc]
  have : ∃ ls, Program.keyLits Try.prog (Try.prog.types.size + 1) 118 (k.map (Value.int .i64)) = some ls := by
    simp only [Program.keyLits, und118, cells118, List.length_map, hl, if_true, cells3, Nat.mul_one]
    obtain ⟨ys, hys⟩ := mapM_some (fun i => Program.keyLits Try.prog Try.prog.types.size 3 (((k.map (Value.int .i64)).drop i).take 1)) (List.range 12) fun i hi => by
      have hi := List.mem_range.1 hi
      have hik : i < k.length := by omega
      rw [List.drop_eq_getElem_cons (by simpa using hik)]
      simp only [List.getElem_map, List.take_succ_cons, List.take_zero]
      rw [hd]
      simp only [Program.keyLits, und3]
      rw [if_pos ⟨by trivial, wf64 (hw _ (List.getElem_mem _))⟩]
      exact ⟨_, rfl⟩
    rw [hys]; exact ⟨_, rfl⟩
  obtain ⟨ls, hls⟩ := this
  rw [hls]
  exact ⟨_, und75, rfl⟩
theorem lit_key (k : List Int) : litVal (.agg (encC intE k)) = some (keyVal k) := by
  have : litCells (.agg (encC intE k)) = some (k.map (Value.int .i64)) := by
    unfold litCells
    induction k with
    | nil => rfl
    | cons x k ih =>
      rw [encC_cons]
      simp only [List.cons_append, List.nil_append, List.mapM_cons, List.map_cons] at ih ⊢
      rw [ih]; rfl
  simp only [litVal, this, Option.map_some, keyVal]
theorem keyVal_inj {k k' : List Int} (h : keyVal k = keyVal k') : k = k' := by
  simp only [keyVal, Value.agg.injEq, Array.mk.injEq, List.toArray_inj] at h
  exact (List.map_inj_right (fun a b hab => by simpa using hab)).1 h
theorem kmOf_at (kn : List (List Int × Int)) (k : List Int) : kmOf kn (keyVal k) = (keyAt kn k).map iV := by
  induction kn with
  | nil => rfl
  | cons p l ih =>
    by_cases h : k = p.1
    · subst h
      simp only [kmOf, keyAt, List.find?_cons, decide_true, Option.map_some]
      exact mset_same _ _ _
    · have h2 : keyVal k ≠ keyVal p.1 := fun e => h (keyVal_inj e)
      have h3 : ¬ p.1 = k := fun e => h e.symm
      simp only [kmOf, keyAt, List.find?_cons, h3, decide_false] at ih ⊢
      rw [← ih]
      exact mset_ne _ _ h2
section
variable {H : AH} {K : VE → AH → Prop} {mp : Nat} {kn : List (List Int × Int)} {k : List Int}
theorem lookup75 (ok : Bool) (hm : H mp = some (.map (keysOf Try.prog 75) (kmOf kn))) (hl : k.length = 12) (hw : W64 k) (h : K (.ret (match keyAt kn k with | some v => okV ok (iV v) true | none => okV ok (iV 0) false)) H) :
    vcLookup Try.prog 75 (.lit (.map (some mp))) (.agg (encC intE k)) ok H K := by
  refine ⟨_, mapT75, _, lit_key k, keys75 hl hw, ?_⟩
  simp only [hm]
  refine ⟨fun _ h => h, ?_⟩
  rw [kmOf_at]
  revert h
  cases keyAt kn k <;> exact id
theorem update75 (v : Int) (hm : H mp = some (.map (keysOf Try.prog 75) (kmOf kn))) (hl : k.length = 12) (hw : W64 k) (h : K (.ret undefV) (H.set mp (.map (keysOf Try.prog 75) (kmOf ((k, v) :: kn))))) :
    vcUpdate Try.prog 75 (.lit (.map (some mp))) (.agg (encC intE k)) (iV v) H K := by
  refine ⟨_, mapT75, _, lit_key k, keys75 hl hw, ?_⟩
  simp only [hm]
  exact ⟨fun _ h => h, keys75 hl hw, h⟩
end
end Go.PV.Ytefpjfpelicedaa
end
section
/- Code with names for what stands behind blocks: made by cut.py. -/
set_option maxRecDepth 100000
namespace Go.PV.Ytefpjfpelicedaa
open Go Go.Proofs
def d58_1 : ACode := (.seq (.reg [⟨some 37, (.move (.tmp 0)), none⟩,
  ⟨some 38, (.nilCheck (.tmp 37)), none⟩,
  ⟨some 39, (.fieldAddr 77 (.tmp 38) 0), none⟩,
  ⟨some 40, (.fieldAddr 74 (.tmp 39) 2), none⟩,
  ⟨some 41, (.load 31 (.tmp 40)), none⟩,
  ⟨some 42, (.move (.tmp 5)), none⟩,
  ⟨some 43, (.indexAddr 31 (.tmp 41) (.tmp 42)), none⟩,
  ⟨some 44, (.load 50 (.tmp 43)), none⟩,
  ⟨some 7, (.alloc 50), none⟩,
  ⟨none, (.store 50 (.tmp 7) (.tmp 44)), none⟩])
 (.seq (.seq (.dreg (.tk ⟨some 46, (.move (.tmp 0)), none⟩
  (.tk ⟨some 47, (.nilCheck (.tmp 46)), none⟩
  (.tk ⟨some 48, (.fieldAddr 77 (.tmp 47) 3), none⟩
  (.tk ⟨some 49, (.load 75 (.tmp 48)), none⟩
  (.tk ⟨some 50, (.load 50 (.tmp 7)), none⟩
  (.one ⟨some 51, (.call { callee := (.value (.func 75)), args := #[(.tmp 50)], argTypes := #[50] }), none⟩
  (.one ⟨some 52, (.lookup 75 (.tmp 49) (.tmp 51) true), none⟩
  (.tk ⟨some 45, (.move (.tmp 52)), none⟩
  (.tk ⟨some 53, (.extract (.tmp 45) 0), none⟩
  (.tk ⟨some 54, (.extract (.tmp 45) 1), none⟩
  (.tk ⟨some 8, (.assign (.tmp 53)), none⟩
  .fin))))))))))) [⟨some 9, (.assign (.tmp 54)), none⟩])
 (.seq (.dreg (.tk ⟨some 55, (.move (.tmp 9)), none⟩
  (.tk ⟨some 56, (.move (.tmp 55)), none⟩
  (.tk ⟨some 57, (.move (.tmp 0)), some (56, true)⟩
  (.tk ⟨some 58, (.nilCheck (.tmp 57)), some (56, true)⟩
  (.tk ⟨some 59, (.fieldAddr 77 (.tmp 58) 0), some (56, true)⟩
  (.tk ⟨some 60, (.fieldAddr 74 (.tmp 59) 2), some (56, true)⟩
  (.tk ⟨some 61, (.load 31 (.tmp 60)), some (56, true)⟩
  (.tk ⟨some 62, (.move (.tmp 8)), some (56, true)⟩
  (.tk ⟨some 63, (.indexAddr 31 (.tmp 61) (.tmp 62)), some (56, true)⟩
  (.tk ⟨some 64, (.fieldAddr 50 (.tmp 63) 1), some (56, true)⟩
  (.tk ⟨some 65, (.load 3 (.tmp 64)), some (56, true)⟩
  (.tk ⟨some 66, (.fieldAddr 50 (.tmp 7) 1), some (56, true)⟩
  (.tk ⟨some 67, (.load 3 (.tmp 66)), some (56, true)⟩
  .fin))))))))))))) [⟨some 68, (.binOp .leq 3 (.tmp 65) (.tmp 67) 3), some (56, true)⟩,
  ⟨some 69, (.pick (.tmp 56) (.tmp 68) (.const (.bool false))), none⟩])
 (.cond (.tmp 69) (.seq (.reg [⟨some 4, (.assign (.const (.int .i64 (-1)))), none⟩])
 .ret) .skip)))
 (.seq (.dreg (.tk ⟨some 70, (.move (.tmp 0)), none⟩
  (.tk ⟨some 71, (.nilCheck (.tmp 70)), none⟩
  (.tk ⟨some 72, (.fieldAddr 77 (.tmp 71) 3), none⟩
  (.tk ⟨some 73, (.load 75 (.tmp 72)), none⟩
  (.tk ⟨some 74, (.load 50 (.tmp 7)), none⟩
  (.tk ⟨some 76, (.move (.tmp 5)), none⟩
  (.one ⟨some 75, (.call { callee := (.value (.func 75)), args := #[(.tmp 74)], argTypes := #[50] }), none⟩
  .fin))))))) [⟨none, (.mapUpdate 75 (.tmp 73) (.tmp 75) (.tmp 76)), none⟩])
 (.seq (.reg [⟨some 77, (.move (.tmp 5)), none⟩,
  ⟨some 4, (.assign (.tmp 77)), none⟩])
 .ret))))
def e58 : ACode := (.seq (.reg [⟨some 3, (.box 52 (.tmp 1)), none⟩,
  ⟨some 4, (.assign (.const (.int .i64 0))), none⟩])
 (.seq (.reg [⟨some 10, (.move (.tmp 0)), none⟩,
  ⟨some 11, (.load 52 (.tmp 3)), none⟩,
  ⟨some 12, (.call { callee := (.value (.func 74)), args := #[(.tmp 10), (.tmp 11)], argTypes := #[71, 52] }), none⟩,
  ⟨some 5, (.assign (.tmp 12)), none⟩])
 (.seq (.seq (.reg [⟨some 13, (.move (.tmp 0)), none⟩,
  ⟨some 14, (.nilCheck (.tmp 13)), none⟩,
  ⟨some 15, (.fieldAddr 77 (.tmp 14) 0), none⟩,
  ⟨some 16, (.fieldAddr 74 (.tmp 15) 2), none⟩,
  ⟨some 17, (.load 31 (.tmp 16)), none⟩,
  ⟨some 18, (.move (.tmp 5)), none⟩,
  ⟨some 19, (.indexAddr 31 (.tmp 17) (.tmp 18)), none⟩,
  ⟨some 20, (.load 50 (.tmp 19)), none⟩,
  ⟨some 21, (.call { callee := (.value (.func 62)), args := #[(.tmp 20)], argTypes := #[50] }), none⟩,
  ⟨some 6, (.assign (.tmp 21)), none⟩])
 (.block 0 (.seq (.reg [⟨some 23, (.move (.tmp 6)), none⟩,
  ⟨some 24, (.binOp .eql 3 (.tmp 23) (.const (.int .i64 0)) 3), none⟩,
  ⟨some 22, (.assign (.tmp 24)), none⟩])
 (.cond (.tmp 22) (.seq (.reg [⟨some 4, (.assign (.const (.int .i64 (-1)))), none⟩])
 .ret) (.seq (.reg [⟨some 26, (.move (.tmp 6)), none⟩,
  ⟨some 27, (.binOp .gtr 3 (.tmp 26) (.const (.int .i64 1)) 3), none⟩,
  ⟨some 28, (.move (.tmp 27)), none⟩,
  ⟨some 29, (.move (.tmp 6)), some (28, true)⟩,
  ⟨some 30, (.binOp .leq 3 (.tmp 29) (.const (.int .i64 1000000)) 3), some (28, true)⟩,
  ⟨some 31, (.pick (.tmp 28) (.tmp 30) (.const (.bool false))), none⟩,
  ⟨some 25, (.assign (.tmp 31)), none⟩])
 (.cond (.tmp 25) (.reg [⟨some 32, (.move (.tmp 0)), none⟩,
  ⟨some 33, (.move (.tmp 5)), none⟩,
  ⟨some 34, (.move (.tmp 6)), none⟩,
  ⟨some 35, (.build 52 #[(0, (.const (.int .i64 4))), (1, (.tmp 33)), (3, (.tmp 34))]), none⟩,
  ⟨some 36, (.call { callee := (.value (.func 74)), args := #[(.tmp 32), (.tmp 35)], argTypes := #[71, 52] }), none⟩,
  ⟨some 5, (.assign (.tmp 36)), none⟩]) .skip)))))) d58_1)))
theorem ce58 : c58 = e58 := rfl
end Go.PV.Ytefpjfpelicedaa
end
section
/- Keeping a line. -/
set_option linter.unusedVariables false
set_option linter.unusedSimpArgs false
set_option maxRecDepth 20000
set_option maxHeartbeats 4000000
namespace Go.PV.Ytefpjfpelicedaa
open Go Go.Proofs
theorem fit_at {n : Nat} {made : List Row} {a : Int} (h : ∀ r ∈ made, Fits n r) (h0 : 0 ≤ a) (h1 : a < (made.length : Int)) : Fits n (rowAt made a) := by
  have hlt : a.toNat < made.length := by omega
  unfold rowAt
  rw [List.getD_eq_getElem?_getD]
  simp only [hlt, List.getElem?_eq_getElem, Option.getD_some]; exact h _ (List.getElem_mem _)
theorem key_w {n : Nat} {r : Row} (h : Fits n r) : W64 (keyL r) := by
  intro c hc
  unfold keyL wideL at hc
  rcases List.mem_append.1 (List.mem_of_mem_take hc) with hc | hc
  · have := h.2.2 c hc
    simp [far2] at this; omega
  · rw [List.eq_of_mem_replicate hc]; omega
theorem rows_dropZ1 {l : List Row} {a : Int} (h0 : 0 ≤ a) (h1 : a < (l.length : Int)) : (encC rowE l).drop (a.toNat * 2 + 1) = iV (rowAt l a).b :: encC rowE (l.drop (a.toNat + 1)) := by
  rw [← List.drop_drop, rows_dropZ h0 h1]; rfl
theorem key_len (r : Row) : (keyL r).length = 12 := wide_len _ _
theorem RefS.put {B H : AH} {s mp : Nat} {rows : List Row} {n : Nat} {most : Int} {st : RS} (h : RefS B H s mp rows n most st) (kn : List (List Int × Int)) : RefS B (H.set mp (.map (keysOf Try.prog 75) (kmOf kn))) s mp rows n most ⟨st.made, st.ls, kn⟩ := by
  obtain ⟨mv, lv, Hs, Hm, b1, b2, b3, hB, ks, km', ho1, ho2⟩ := h
  refine ⟨mv, lv, Hs.set mp (.map (keysOf Try.prog 75) (kmOf kn)), Hm.set mp (.map (keysOf Try.prog 75) (kmOf kn)), b1, b2, b3, hB.of_set b2, ?_, AH.set_same _ _ _, ho1.put km' _, ho2.put (ho1.sub _ _ km') _⟩
  rw [AH.get, if_neg b3]; exact ks
theorem tail58 {B H : AH} {s mp : Nat} {rows : List Row} {n : Nat} {most : Int} {st : RS} {K : VE → AH → Prop} {t : Nat → VV} {a : Int} (hst : RefS B H s mp rows n most st) (hok : OkS n most st) (hm : most ≤ 5000)
    (hn : (n : Int) ≤ 12) (h0 : t 0 = ptrV s 0) (h5 : t 5 = iV a) (ha0 : 0 ≤ a) (ha1 : a < (st.made.length : Int)) (h : ∀ H', RefS B H' s mp rows n most (keep2 st a).2 → K (.ret (iV (keep2 st a).1)) H') :
    vc ⟨Try.prog, 78, none⟩ d58_1 (retPost Try.prog [.tmp 4] K) ⟨t, []⟩ H := by
  obtain ⟨ga, gc, la, lc, k1, km1, hs1, hmade1⟩ := hst.view
  obtain ⟨g1, sp1, rfl, kg1⟩ := hmade1 (fun e => by rw [e] at ha1; simp at ha1; omega)
  have hft := fit_at hok.fits ha0 ha1
  have hk12 : (rowAt st.made a).c.length ≤ 12 := by rw [hft.1]; omega
  have n1 : ∀ r, H r = none → ¬ s = r := fun r hr => (AH.ne_of k1 hr).1
  have n1' : ∀ r, H r = none → ¬ r = s := fun r hr => (AH.ne_of k1 hr).2
  have n2 : ∀ r, H r = none → ¬ mp = r := fun r hr => (AH.ne_of km1 hr).1
  have n2' : ∀ r, H r = none → ¬ r = mp := fun r hr => (AH.ne_of km1 hr).2
  have n3 : ∀ r, H r = none → ¬ g1 = r := fun r hr => (AH.ne_of kg1 hr).1
  have n3' : ∀ r, H r = none → ¬ r = g1 := fun r hr => (AH.ne_of kg1 hr).2
  have hkl := key_len (rowAt st.made a)
  have hkw := key_w hft
  unfold d58_1
  have hnone : keyAt st.known (keyL (rowAt st.made a)) = none → keep2 st a = (a, ⟨st.made, st.ls, (keyL (rowAt st.made a), a) :: st.known⟩) := fun e => by simp only [keep2, e]
  have hsome : ∀ old, keyAt st.known (keyL (rowAt st.made a)) = some old → keep2 st a = if (rowAt st.made old).b ≤ (rowAt st.made a).b then (-1, st) else (a, ⟨st.made, st.ls, (keyL (rowAt st.made a), a) :: st.known⟩) := fun old e => by simp only [keep2, e]
  have hkn : ∀ old, keyAt st.known (keyL (rowAt st.made a)) = some old → 0 ≤ old ∧ old < (st.made.length : Int) := fun old e => by
    simp only [keyAt, Option.map_eq_some_iff] at e
    obtain ⟨p, hp, rfl⟩ := e
    exact hok.kn p (List.mem_of_find?_eq_some hp)
  cases e : keyAt st.known (keyL (rowAt st.made a)) with
  | none =>
    rw [hnone e] at h
    clear hnone hsome hkn
    (repeat' (first | (refine lookup75 (kn := st.known) _ ?_ hkl hkw ?_) | (refine update75 (kn := st.known) _ ?_ hkl hkw ?_) | (simp only [↓s_skip, ↓s_reg, ↓s_seq, ↓s_cond, ↓s_condF, ↓s_ret, ↓s_dreg, ↓s_nil, ↓s_consN, ↓s_consG, ↓s_guardFT, ↓s_thenN, ↓s_kret, ↓s_putS, ↓s_putN, ↓s_dOkS, ↓s_dOkN, ↓s_ev_t, ↓s_ev_c, ↓s_ev_f, ↓s_upd, ↓s_move, ↓s_assign, ↓s_isBool, ↓s_pickA, ↓s_pick, ↓s_load, ↓s_store, ↓s_nilCheck, ↓s_alloc, ↓s_fieldAddr, ↓s_indexAddr, ↓s_lookup, ↓s_mapUpdate, ↓s_extract, ↓s_callV, ↓s_callL, vcNil, vcExtract, ptrV, boolV, List.map_cons, List.map_nil, List.length_cons, List.length_nil, ite_true, ite_false, Nat.reduceEqDiff, Nat.reduceLT, Nat.reduceAdd, ne_eq, not_false_eq_true, true_and, Bool.false_eq_true, Nat.succ_ne_self, reduceCtorEq, callOk, undefV, ↓s_plFin, ↓s_plTkN, ↓s_plTkG, ↓s_plOneN, AH.get, AH.set_set, setAt, List.all_cons, List.all_nil, Bool.and_self, eq_self, Nat.zero_add, Nat.add_zero, List.drop, and_self, List.getElem?_cons_zero, List.getElem?_cons_succ, ldV_f, ldV_t2, on_int, cl_agg, on_slice, List.set_cons_zero, List.set_cons_succ, ↓n_alloc, n_allocS, Nat.le_refl, n_ldP, n_faP, n_ixL, n_ixA2, n_ldA, n_ldB, n_faA, n_stP, n_stA, ↓s_plK, ↓s_oneK, ↓s_guardPFT, undef, Int.reduceNeg, rows_dropZ, okV, flT_77_0, flT_74_2, flT_77_3, ldT_31, ldT_50, ldT_75, szT_50, zeroT_50, elT_31, en_75, *]) | (refine guardL_splitTD ?_ ?_ <;> intro) | (refine guardL_splitFD ?_ ?_ <;> intro) | (refine guardP_splitTD ?_ ?_ <;> intro) | (refine guardP_splitFD ?_ ?_ <;> intro) | (refine condL_splitD ?_ ?_ <;> intro) | (refine guardL_splitT ?_ ?_ <;> intro) | (refine guardL_splitF ?_ ?_ <;> intro) | (refine guardP_splitT ?_ ?_ <;> intro) | (refine guardP_splitF ?_ ?_ <;> intro) | (refine condL_split ?_ ?_ <;> intro) | (refine ret_tmp ?_) | (refine acx_go rfl (fun _ _ _ h => h) ?_) | (refine acx_dreg mixed (fun _ _ _ _ e h => ⟨e.trans h.1, h.2⟩) _ (SubH.refl _) ?_) | (refine And.intro (SubH.new (by assumption)) ?_) | (refine allNew_intro fun zr zh => ?_; have zg := zh; (try simp only [AH.set_none] at zg)) | (exact SubH.refl _) | (refine SubH.of_set ?_ ?_) | assumption | (refine PureF.use (key75 (rowAt st.made a) hk12) ?_) | (with_reducible refine And.intro ?_ ?_)))
    exact h _ ((hst.alloc (by assumption) _).put _)
  | some old =>
    rw [hsome old e] at h
    obtain ⟨o0, o1⟩ := hkn old e
    clear hnone hsome hkn
    by_cases hle : (rowAt st.made old).b ≤ (rowAt st.made a).b
    · rw [if_pos hle] at h
      (repeat' (first | (refine lookup75 (kn := st.known) _ ?_ hkl hkw ?_) | (refine update75 (kn := st.known) _ ?_ hkl hkw ?_) | (simp only [↓s_reg, ↓s_seq, ↓s_cond, ↓s_condT, ↓s_ret, ↓s_dreg, ↓s_nil, ↓s_consN, ↓s_consG, ↓s_guardTT, ↓s_thenN, ↓s_thenR, ↓s_kret, ↓s_putS, ↓s_putN, ↓s_dOkS, ↓s_dOkN, ↓s_ev_t, ↓s_ev_c, ↓s_ev_f, ↓s_upd, ↓s_move, ↓s_assign, ↓s_isBool, ↓s_pickA, ↓s_pick, ↓s_load, ↓s_store, ↓s_nilCheck, ↓s_bin, ↓s_alloc, ↓s_fieldAddr, ↓s_indexAddr, ↓s_lookup, ↓s_extract, ↓s_callV, ↓s_callL, ↓s_bin_leq, vcNil, vcExtract, ptrV, boolV, List.map_cons, List.map_nil, List.length_cons, List.length_nil, ite_true, ite_false, Nat.reduceEqDiff, Nat.reduceLT, Nat.reduceAdd, ne_eq, not_false_eq_true, true_and, Nat.succ_ne_self, decide_true, reduceCtorEq, ↓s_plFin, ↓s_plTkN, ↓s_plTkG, ↓s_plOneN, AH.get, AH.set_set, setAt, List.all_cons, List.all_nil, Bool.and_self, eq_self, Nat.zero_add, Nat.add_zero, List.drop, and_self, List.getElem?_cons_zero, List.getElem?_cons_succ, ldV_f, ldV_t2, on_int, cl_agg, on_slice, List.set_cons_zero, List.set_cons_succ, ↓n_alloc, n_allocS, Nat.le_refl, n_ldP, n_faP, n_ixL, n_ixA2, n_ldA, n_ldB, n_faA, n_stP, n_stA, ↓s_plK, ↓s_oneK, ↓s_guardPTT, Int.reduceNeg, rows_dropZ, rows_dropZ1, okV, flT_77_0, flT_74_2, flT_77_3, flT_50_1, ldT_31, ldT_50, ldT_75, ldT_3, szT_50, zeroT_50, elT_31, en_75, *]) | (refine guardL_splitTD ?_ ?_ <;> intro) | (refine guardL_splitFD ?_ ?_ <;> intro) | (refine guardP_splitTD ?_ ?_ <;> intro) | (refine guardP_splitFD ?_ ?_ <;> intro) | (refine condL_splitD ?_ ?_ <;> intro) | (refine guardL_splitT ?_ ?_ <;> intro) | (refine guardL_splitF ?_ ?_ <;> intro) | (refine guardP_splitT ?_ ?_ <;> intro) | (refine guardP_splitF ?_ ?_ <;> intro) | (refine condL_split ?_ ?_ <;> intro) | (refine ret_tmp ?_) | (refine acx_go rfl (fun _ _ _ h => h) ?_) | (refine acx_dreg mixed (fun _ _ _ _ e h => ⟨e.trans h.1, h.2⟩) _ (SubH.refl _) ?_) | (refine And.intro (SubH.new (by assumption)) ?_) | (refine allNew_intro fun zr zh => ?_; have zg := zh; (try simp only [AH.set_none] at zg)) | (exact SubH.refl _) | (refine SubH.of_set ?_ ?_) | assumption | (refine PureF.use (key75 (rowAt st.made a) hk12) ?_) | (with_reducible refine And.intro ?_ ?_)))
      exact h _ (hst.alloc (by assumption) _)
    · rw [if_neg hle] at h
      (repeat' (first | (refine lookup75 (kn := st.known) _ ?_ hkl hkw ?_) | (refine update75 (kn := st.known) _ ?_ hkl hkw ?_) | (simp only [↓s_skip, ↓s_reg, ↓s_seq, ↓s_cond, ↓s_condF, ↓s_ret, ↓s_dreg, ↓s_nil, ↓s_consN, ↓s_consG, ↓s_guardTT, ↓s_thenN, ↓s_kret, ↓s_putS, ↓s_putN, ↓s_dOkS, ↓s_dOkN, ↓s_ev_t, ↓s_ev_c, ↓s_ev_f, ↓s_upd, ↓s_move, ↓s_assign, ↓s_isBool, ↓s_pickA, ↓s_pick, ↓s_load, ↓s_store, ↓s_nilCheck, ↓s_bin, ↓s_alloc, ↓s_fieldAddr, ↓s_indexAddr, ↓s_lookup, ↓s_mapUpdate, ↓s_extract, ↓s_callV, ↓s_callL, ↓s_bin_leq, vcNil, vcExtract, ptrV, boolV, List.map_cons, List.map_nil, List.length_cons, List.length_nil, ite_true, ite_false, Nat.reduceEqDiff, Nat.reduceLT, Nat.reduceAdd, ne_eq, not_false_eq_true, true_and, Nat.succ_ne_self, decide_false, reduceCtorEq, ↓s_plFin, ↓s_plTkN, ↓s_plTkG, ↓s_plOneN, AH.get, AH.set_set, setAt, List.all_cons, List.all_nil, Bool.and_self, eq_self, Nat.zero_add, Nat.add_zero, List.drop, and_self, List.getElem?_cons_zero, List.getElem?_cons_succ, ldV_f, ldV_t2, on_int, cl_agg, on_slice, List.set_cons_zero, List.set_cons_succ, ↓n_alloc, n_allocS, Nat.le_refl, n_ldP, n_faP, n_ixL, n_ixA2, n_ldA, n_ldB, n_faA, n_stP, n_stA, ↓s_plK, ↓s_oneK, ↓s_guardPTT, Int.reduceNeg, rows_dropZ, rows_dropZ1, okV, flT_77_0, flT_74_2, flT_77_3, flT_50_1, ldT_31, ldT_50, ldT_75, ldT_3, szT_50, zeroT_50, elT_31, en_75, *]) | (refine guardL_splitTD ?_ ?_ <;> intro) | (refine guardL_splitFD ?_ ?_ <;> intro) | (refine guardP_splitTD ?_ ?_ <;> intro) | (refine guardP_splitFD ?_ ?_ <;> intro) | (refine condL_splitD ?_ ?_ <;> intro) | (refine guardL_splitT ?_ ?_ <;> intro) | (refine guardL_splitF ?_ ?_ <;> intro) | (refine guardP_splitT ?_ ?_ <;> intro) | (refine guardP_splitF ?_ ?_ <;> intro) | (refine condL_split ?_ ?_ <;> intro) | (refine ret_tmp ?_) | (refine acx_go rfl (fun _ _ _ h => h) ?_) | (refine acx_dreg mixed (fun _ _ _ _ e h => ⟨e.trans h.1, h.2⟩) _ (SubH.refl _) ?_) | (refine And.intro (SubH.new (by assumption)) ?_) | (refine allNew_intro fun zr zh => ?_; have zg := zh; (try simp only [AH.set_none] at zg)) | (exact SubH.refl _) | (refine SubH.of_set ?_ ?_) | assumption | (refine PureF.use (key75 (rowAt st.made a) hk12) ?_) | (with_reducible refine And.intro ?_ ?_)))
      exact h _ ((hst.alloc (by assumption) _).put _)
theorem keep58 {B H : AH} {s mp : Nat} {rows : List Row} {n : Nat} {most : Int} {st : RS} {l : Line} {K : VE → AH → Prop} (hst : RefS B H s mp rows n most st) (hok : OkS n most st) (hm : most ≤ 5000)
    (hrows : ∀ r ∈ rows, r.c.length ≤ n) (hn : (n : Int) ≤ 12) (h : PostS B s mp rows n most K (keepS rows n most st l)) : VCalls Try.prog 58 [ptrV s 0, lineV l] H K := by
  refine vcalls_intro fd58 (by simp) ?_
  rw [ce58]
  unfold e58
  (repeat' (first | (simp only [↓s_reg, ↓s_seq, ↓s_nil, ↓s_consN, ↓s_thenN, ↓s_kret, ↓s_putS, ↓s_dOkS, ↓s_ev_t, ↓s_ev_c, ↓s_ev_f, ↓s_upd, ↓s_move, ↓s_assign, ↓s_load, ↓s_box, ↓s_callV, ↓s_callL, ptrV, List.map_cons, List.map_nil, List.getD_cons_zero, List.getD_cons_succ, List.getD_nil, ite_true, ite_false, Nat.reduceEqDiff, Nat.reduceLT, true_and, Nat.succ_ne_self, reduceCtorEq, undefV, AH.get, eq_self, List.drop, ldV_t5, cl_agg, ↓n_box, n_ldP, n_ldA, n_ldB, undef, Int.reduceNeg, ldT_52, en_74, *]) | (refine guardL_splitTD ?_ ?_ <;> intro) | (refine guardL_splitFD ?_ ?_ <;> intro) | (refine guardP_splitTD ?_ ?_ <;> intro) | (refine guardP_splitFD ?_ ?_ <;> intro) | (refine condL_splitD ?_ ?_ <;> intro) | (refine guardL_splitT ?_ ?_ <;> intro) | (refine guardL_splitF ?_ ?_ <;> intro) | (refine guardP_splitT ?_ ?_ <;> intro) | (refine guardP_splitF ?_ ?_ <;> intro) | (refine condL_split ?_ ?_ <;> intro) | (refine ret_tmp ?_) | (refine acx_go rfl (fun _ _ _ h => h) ?_) | (refine acx_dreg mixed (fun _ _ _ _ e h => ⟨e.trans h.1, h.2⟩) _ (SubH.refl _) ?_) | (refine And.intro (SubH.new (by assumption)) ?_) | (refine allNew_intro fun zr zh => ?_; have zg := zh; (try simp only [AH.set_none] at zg)) | (exact SubH.refl _) | (refine SubH.of_set ?_ ?_) | assumption | (with_reducible refine And.intro ?_ ?_)))
  refine line74S (hst.alloc (by assumption) _) hok hm hrows (by omega) ?_
  have hok1 := lineS_ok (rows := rows) (l := l) hok
  unfold keepS at h
  cases e : lineS rows n most st l with
  | error p =>
    obtain ⟨o, st1⟩ := p
    rw [e] at h
    cases o with
    | stop c => intro H' hst'; exact ⟨rfl, H', SubH.refl _, h H' hst'⟩
    | found => intro H' hst'; exact ⟨rfl, H', SubH.refl _, h H' hst'⟩
  | ok p =>
    obtain ⟨a, st1⟩ := p
    rw [e] at h hok1
    obtain ⟨hok1, ha0, ha1⟩ := hok1
    intro H1 hst1
    clear e hst
    dsimp only at h
    obtain ⟨ga, gc, la, lc, k1, km1, hs1, hmade1⟩ := hst1.view
    obtain ⟨g1, sp1, rfl, kg1⟩ := hmade1 (fun e => by rw [e] at ha1; simp at ha1; omega)
    have hfit : Fits n (rowAt st1.made a) := by
      have hlt : a.toNat < st1.made.length := by omega
      unfold rowAt
      rw [List.getD_eq_getElem?_getD]
      simp only [hlt, List.getElem?_eq_getElem, Option.getD_some]; exact hok1.fits _ (List.getElem_mem _)
    have hcl : ((rowAt st1.made a).c.length : Int) ≤ 9223372036854775806 := by rw [hfit.1]; omega
    by_cases c0 : commonF (rowAt st1.made a) = 0
    · rw [if_pos c0] at h
      (repeat' (first | (simp only [↓s_reg, ↓s_seq, ↓s_cond, ↓s_condT, ↓s_block, ↓s_ret, ↓s_nil, ↓s_consN, ↓s_thenN, ↓s_thenR, ↓s_inR, ↓s_kret, ↓s_putS, ↓s_dOkS, ↓s_ev_t, ↓s_ev_c, ↓s_ev_f, ↓s_upd, ↓s_move, ↓s_assign, ↓s_load, ↓s_nilCheck, ↓s_bin, ↓s_fieldAddr, ↓s_indexAddr, ↓s_callV, ↓s_callL, ↓s_bin_eql, vcNil, List.map_cons, List.map_nil, List.getD_cons_zero, List.getD_cons_succ, List.getD_nil, ite_true, ite_false, Nat.reduceEqDiff, Nat.reduceLT, ne_eq, not_false_eq_true, true_and, Nat.succ_ne_self, decide_true, reduceCtorEq, eq_self, Nat.zero_add, Nat.add_zero, List.drop, and_self, ldV_f, ldV_t2, n_ldP, n_faP, n_ixL, n_ixA2, n_ldA, n_ldB, n_faA, Int.reduceNeg, rows_dropZ, flT_77_0, flT_74_2, ldT_31, ldT_50, elT_31, en_62, *]) | (refine guardL_splitTD ?_ ?_ <;> intro) | (refine guardL_splitFD ?_ ?_ <;> intro) | (refine guardP_splitTD ?_ ?_ <;> intro) | (refine guardP_splitFD ?_ ?_ <;> intro) | (refine condL_splitD ?_ ?_ <;> intro) | (refine guardL_splitT ?_ ?_ <;> intro) | (refine guardL_splitF ?_ ?_ <;> intro) | (refine guardP_splitT ?_ ?_ <;> intro) | (refine guardP_splitF ?_ ?_ <;> intro) | (refine condL_split ?_ ?_ <;> intro) | (refine ret_tmp ?_) | (refine acx_go rfl (fun _ _ _ h => h) ?_) | (refine acx_dreg mixed (fun _ _ _ _ e h => ⟨e.trans h.1, h.2⟩) _ (SubH.refl _) ?_) | (refine And.intro (SubH.new (by assumption)) ?_) | (refine allNew_intro fun zr zh => ?_; have zg := zh; (try simp only [AH.set_none] at zg)) | (exact SubH.refl _) | (refine SubH.of_set ?_ ?_) | assumption | (refine PureF.use (common62 (rowAt st1.made a) hcl) ?_) | (with_reducible refine And.intro ?_ ?_)))
      exact h _ hst1
    · rw [if_neg c0] at h
      by_cases c1 : 1 < commonF (rowAt st1.made a)
      · by_cases c2 : commonF (rowAt st1.made a) ≤ 1000000
        · rw [if_pos ⟨c1, c2⟩] at h
          (repeat' (first | (simp only [↓s_reg, ↓s_seq, ↓s_cond, ↓s_condT, ↓s_condF, ↓s_block, ↓s_nil, ↓s_consN, ↓s_consG, ↓s_guardTT, ↓s_thenN, ↓s_kret, ↓s_putS, ↓s_dOkS, ↓s_ev_t, ↓s_ev_c, ↓s_ev_f, ↓s_upd, ↓s_move, ↓s_assign, ↓s_isBool, ↓s_pickA, ↓s_pick, ↓s_load, ↓s_nilCheck, ↓s_bin, ↓s_build, ↓s_fieldAddr, ↓s_indexAddr, ↓s_callV, ↓s_callL, ↓s_bin_leq, ↓s_bin_gtr, ↓s_bin_eql, vcNil, List.map_cons, List.map_nil, List.length_cons, List.length_nil, List.getD_cons_zero, List.getD_cons_succ, List.getD_nil, ite_true, ite_false, Nat.reduceEqDiff, Nat.reduceLT, Nat.reduceAdd, Nat.reduceLeDiff, ne_eq, not_false_eq_true, true_and, Nat.succ_ne_self, decide_true, decide_false, reduceCtorEq, vcBuild, fillV, setAt, eq_self, Nat.zero_add, Nat.add_zero, List.drop, and_self, List.getElem?_cons_zero, List.getElem?_cons_succ, ldV_f, ldV_t2, cl_int, List.set_cons_zero, List.set_cons_succ, n_ldP, n_faP, n_ixL, n_ixA2, n_ldA, n_ldB, n_faA, Int.reduceNeg, rows_dropZ, flT_77_0, flT_74_2, ldT_31, ldT_50, stT_52, elT_31, en_74, en_62, *]) | (refine guardL_splitTD ?_ ?_ <;> intro) | (refine guardL_splitFD ?_ ?_ <;> intro) | (refine guardP_splitTD ?_ ?_ <;> intro) | (refine guardP_splitFD ?_ ?_ <;> intro) | (refine condL_splitD ?_ ?_ <;> intro) | (refine guardL_splitT ?_ ?_ <;> intro) | (refine guardL_splitF ?_ ?_ <;> intro) | (refine guardP_splitT ?_ ?_ <;> intro) | (refine guardP_splitF ?_ ?_ <;> intro) | (refine condL_split ?_ ?_ <;> intro) | (refine ret_tmp ?_) | (refine acx_go rfl (fun _ _ _ h => h) ?_) | (refine acx_dreg mixed (fun _ _ _ _ e h => ⟨e.trans h.1, h.2⟩) _ (SubH.refl _) ?_) | (refine And.intro (SubH.new (by assumption)) ?_) | (refine allNew_intro fun zr zh => ?_; have zg := zh; (try simp only [AH.set_none] at zg)) | (exact SubH.refl _) | (refine SubH.of_set ?_ ?_) | assumption | (refine PureF.use (common62 (rowAt st1.made a) hcl) ?_) | (with_reducible refine And.intro ?_ ?_)))
          refine line74S (l := ⟨4, a, 0, commonF (rowAt st1.made a), 0⟩) hst1 hok1 hm hrows (by omega) ?_
          have hok2 := lineS_ok (rows := rows) (l := ⟨4, a, 0, commonF (rowAt st1.made a), 0⟩) hok1
          cases e : lineS rows n most st1 ⟨4, a, 0, commonF (rowAt st1.made a), 0⟩ with
          | error p =>
            obtain ⟨o, st2⟩ := p
            rw [e] at h
            cases o with
            | stop c => intro H' hst'; exact ⟨rfl, H', SubH.refl _, h H' hst'⟩
            | found => intro H' hst'; exact ⟨rfl, H', SubH.refl _, h H' hst'⟩
          | ok p =>
            obtain ⟨a2, st2⟩ := p
            rw [e] at h hok2
            obtain ⟨hok2, hb0, hb1⟩ := hok2
            intro H2 hst2
            have h2 : ∀ H', RefS B H' s mp rows n most (keep2 st2 a2).2 → K (.ret (iV (keep2 st2 a2).1)) H' := h
            clear h e hst1 k1 km1 hs1 hmade1 kg1
            (repeat' (first | (simp only [↓s_nil, ↓s_consN, ↓s_thenN, ↓s_inN, ↓s_kret, ↓s_putS, ↓s_dOkS, ↓s_ev_t, ↓s_upd, ↓s_assign, List.getD_cons_succ, List.getD_nil, ite_true, ite_false, Nat.reduceEqDiff, Nat.reduceLT, true_and, Nat.succ_ne_self, eq_self, *]) | (refine guardL_splitTD ?_ ?_ <;> intro) | (refine guardL_splitFD ?_ ?_ <;> intro) | (refine guardP_splitTD ?_ ?_ <;> intro) | (refine guardP_splitFD ?_ ?_ <;> intro) | (refine condL_splitD ?_ ?_ <;> intro) | (refine guardL_splitT ?_ ?_ <;> intro) | (refine guardL_splitF ?_ ?_ <;> intro) | (refine guardP_splitT ?_ ?_ <;> intro) | (refine guardP_splitF ?_ ?_ <;> intro) | (refine condL_split ?_ ?_ <;> intro) | (refine ret_tmp ?_) | (refine acx_go rfl (fun _ _ _ h => h) ?_) | (refine acx_dreg mixed (fun _ _ _ _ e h => ⟨e.trans h.1, h.2⟩) _ (SubH.refl _) ?_) | (refine And.intro (SubH.new (by assumption)) ?_) | (refine allNew_intro fun zr zh => ?_; have zg := zh; (try simp only [AH.set_none] at zg)) | (exact SubH.refl _) | (refine SubH.of_set ?_ ?_) | assumption | (with_reducible refine And.intro ?_ ?_)))
            exact tail58 hst2 hok2 hm hn (by simp only [s_upd, Nat.reduceEqDiff, if_false, *] <;> rfl) (by simp only [s_upd, Nat.reduceEqDiff, if_true, if_false, *] <;> rfl) hb0 hb1 h2
        · rw [if_neg (fun e => c2 e.2)] at h
          have h2 : ∀ H', RefS B H' s mp rows n most (keep2 st1 a).2 → K (.ret (iV (keep2 st1 a).1)) H' := h
          clear h
          (repeat' (first | (simp only [↓s_skip, ↓s_reg, ↓s_seq, ↓s_cond, ↓s_condF, ↓s_block, ↓s_nil, ↓s_consN, ↓s_consG, ↓s_guardTT, ↓s_thenN, ↓s_inN, ↓s_kret, ↓s_putS, ↓s_dOkS, ↓s_ev_t, ↓s_ev_c, ↓s_ev_f, ↓s_upd, ↓s_move, ↓s_assign, ↓s_isBool, ↓s_pickA, ↓s_pick, ↓s_load, ↓s_nilCheck, ↓s_bin, ↓s_fieldAddr, ↓s_indexAddr, ↓s_callV, ↓s_callL, ↓s_bin_leq, ↓s_bin_gtr, ↓s_bin_eql, vcNil, List.map_cons, List.map_nil, List.getD_cons_zero, List.getD_cons_succ, List.getD_nil, ite_true, ite_false, Nat.reduceEqDiff, Nat.reduceLT, ne_eq, not_false_eq_true, true_and, Nat.succ_ne_self, decide_true, decide_false, reduceCtorEq, eq_self, Nat.zero_add, Nat.add_zero, List.drop, and_self, ldV_f, ldV_t2, n_ldP, n_faP, n_ixL, n_ixA2, n_ldA, n_ldB, n_faA, Int.reduceNeg, rows_dropZ, flT_77_0, flT_74_2, ldT_31, ldT_50, elT_31, en_62, *]) | (refine guardL_splitTD ?_ ?_ <;> intro) | (refine guardL_splitFD ?_ ?_ <;> intro) | (refine guardP_splitTD ?_ ?_ <;> intro) | (refine guardP_splitFD ?_ ?_ <;> intro) | (refine condL_splitD ?_ ?_ <;> intro) | (refine guardL_splitT ?_ ?_ <;> intro) | (refine guardL_splitF ?_ ?_ <;> intro) | (refine guardP_splitT ?_ ?_ <;> intro) | (refine guardP_splitF ?_ ?_ <;> intro) | (refine condL_split ?_ ?_ <;> intro) | (refine ret_tmp ?_) | (refine acx_go rfl (fun _ _ _ h => h) ?_) | (refine acx_dreg mixed (fun _ _ _ _ e h => ⟨e.trans h.1, h.2⟩) _ (SubH.refl _) ?_) | (refine And.intro (SubH.new (by assumption)) ?_) | (refine allNew_intro fun zr zh => ?_; have zg := zh; (try simp only [AH.set_none] at zg)) | (exact SubH.refl _) | (refine SubH.of_set ?_ ?_) | assumption | (refine PureF.use (common62 (rowAt st1.made a) hcl) ?_) | (with_reducible refine And.intro ?_ ?_)))
          exact tail58 hst1 hok1 hm hn (by simp only [s_upd, Nat.reduceEqDiff, if_false, *] <;> rfl) (by simp only [s_upd, Nat.reduceEqDiff, if_true, if_false, *] <;> rfl) ha0 ha1 h2
      · rw [if_neg (fun e => c1 e.1)] at h
        have h2 : ∀ H', RefS B H' s mp rows n most (keep2 st1 a).2 → K (.ret (iV (keep2 st1 a).1)) H' := h
        clear h
        (repeat' (first | (simp only [↓s_skip, ↓s_reg, ↓s_seq, ↓s_cond, ↓s_condF, ↓s_block, ↓s_nil, ↓s_consN, ↓s_consG, ↓s_guardFT, ↓s_thenN, ↓s_inN, ↓s_kret, ↓s_putS, ↓s_dOkS, ↓s_ev_t, ↓s_ev_c, ↓s_ev_f, ↓s_upd, ↓s_move, ↓s_assign, ↓s_isBool, ↓s_pickA, ↓s_pick, ↓s_load, ↓s_nilCheck, ↓s_bin, ↓s_fieldAddr, ↓s_indexAddr, ↓s_callV, ↓s_callL, ↓s_bin_gtr, ↓s_bin_eql, vcNil, List.map_cons, List.map_nil, List.getD_cons_zero, List.getD_cons_succ, List.getD_nil, ite_true, ite_false, Nat.reduceEqDiff, Nat.reduceLT, ne_eq, not_false_eq_true, true_and, Bool.false_eq_true, Nat.succ_ne_self, decide_false, reduceCtorEq, callOk, undefV, eq_self, Nat.zero_add, Nat.add_zero, List.drop, and_self, ldV_f, ldV_t2, n_ldP, n_faP, n_ixL, n_ixA2, n_ldA, n_ldB, n_faA, undef, Int.reduceNeg, rows_dropZ, flT_77_0, flT_74_2, ldT_31, ldT_50, elT_31, en_62, *]) | (refine guardL_splitTD ?_ ?_ <;> intro) | (refine guardL_splitFD ?_ ?_ <;> intro) | (refine guardP_splitTD ?_ ?_ <;> intro) | (refine guardP_splitFD ?_ ?_ <;> intro) | (refine condL_splitD ?_ ?_ <;> intro) | (refine guardL_splitT ?_ ?_ <;> intro) | (refine guardL_splitF ?_ ?_ <;> intro) | (refine guardP_splitT ?_ ?_ <;> intro) | (refine guardP_splitF ?_ ?_ <;> intro) | (refine condL_split ?_ ?_ <;> intro) | (refine ret_tmp ?_) | (refine acx_go rfl (fun _ _ _ h => h) ?_) | (refine acx_dreg mixed (fun _ _ _ _ e h => ⟨e.trans h.1, h.2⟩) _ (SubH.refl _) ?_) | (refine And.intro (SubH.new (by assumption)) ?_) | (refine allNew_intro fun zr zh => ?_; have zg := zh; (try simp only [AH.set_none] at zg)) | (exact SubH.refl _) | (refine SubH.of_set ?_ ?_) | assumption | (refine PureF.use (common62 (rowAt st1.made a) hcl) ?_) | (with_reducible refine And.intro ?_ ?_)))
        exact tail58 hst1 hok1 hm hn (by simp only [s_upd, Nat.reduceEqDiff, if_false, *] <;> rfl) (by simp only [s_upd, Nat.reduceEqDiff, if_true, if_false, *] <;> rfl) ha0 ha1 h2
end Go.PV.Ytefpjfpelicedaa
end
