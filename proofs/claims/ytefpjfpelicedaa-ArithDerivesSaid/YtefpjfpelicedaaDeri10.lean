/- Part 10 of 11 of what the proof of Deri needs. -/
import Derived.Test.YtefpjfpelicedaaDeri9
import Derived.Test.YtefpjfpelicedaaDeri6
import Derived.Test.YtefpjfpelicedaaDeri8
import Derived.Test.YtefpjfpelicedaaDeri7
import Derived.Test.YtefpjfpelicedaaDeri4
import Derived.OpenShut
import Derived.Handed
import Derived.JoinedOf
import Derived.Carry
import Derived.SizedLaws
import Derived.Test.YtefpjfpelicedaaRows
section
/- Refute. -/
set_option linter.unusedVariables false
set_option linter.unusedSimpArgs false
set_option maxRecDepth 20000
set_option maxHeartbeats 4000000
namespace Go.PV.Ytefpjfpelicedaa
open Go Go.Proofs
def refuteF (rows : List Row) (most : Int) : List Line × Bool × Int :=
  if rightF rows = 0 then
    (if most < 0 ∨ 5000 < most then ([], false, 4)
     else match searchS rows (unkN rows) most with
       | .ok _ => ([], false, 0)
       | .error (.found, st) => (neededF st.ls, true, 0)
       | .error (.stop c, _) => ([], false, c))
  else ([], false, rightF rows)
def refuteX (rows : List Row) (most : Int) : VV := .tuple [linesV (refuteF rows most).1, boolV (refuteF rows most).2.1, iV (refuteF rows most).2.2]
theorem refuteX_of {rows : List Row} {b : Int} {p : List Line × Bool × Int} (h : refuteF rows b = p) : refuteX rows b = .tuple [linesV p.1, boolV p.2.1, iV p.2.2] := by rw [refuteX, h]
theorem rfLeave {H H' : AH} {t : Nat → VV} {r4 r5 r6 s4 s5 s6 : Nat} {e4 e5 e6 : TypeId} {v X : VV} {bb : Bool} {e : Int} (h4 : t 4 = ptrV r4 0) (h5 : t 5 = ptrV r5 0) (h6 : t 6 = ptrV r6 0) (k4 : H' r4 = some (.cells e4 [v] s4)) (k5 : H' r5 = some (.cells e5 [boolV bb] s5)) (k6 : H' r6 = some (.cells e6 [iV e] s6))
    (hv : ∃ a n c, v = .lit (.slice a n c)) (hg : GhV H' (.tuple [v, boolV bb, iV e]) H X) : leaveR Try.prog [.cell 4 28, .cell 5 4, .cell 6 25] (ptQ X H) t [] .returning H' := by
  obtain ⟨a, n, c, rfl⟩ := hv
  refine ⟨_, H', _, ?_, .refl _ _, _, rfl, hg⟩
  simp only [resV, resAll, resOne, ldT_28, ldT_4, ldT_25, h4, h5, h6, k4, k5, k6, ptrV, List.drop_zero, ldV_f, Option.bind_some, Option.map_some, tupV]
theorem rfNil {H H' : AH} (hs : SubH H H') (bb : Bool) (e : Int) : GhV H' (.tuple [.lit (.slice none 0 0), boolV bb, iV e]) H (.tuple [linesV [], boolV bb, iV e]) :=
  GhV.tuple (GhL.cons ((GhV.nil _).trans (GhV.forget hs _)) (GhL.cons (GhV.refl _ _) (GhL.cons (GhV.refl _ _) (GhL.nil _))))
theorem en38 : enterable Try.prog 38 = true := by kernel_rfl
theorem n_makeMap (t : TypeId) (H : AH) (K : VE → AH → Prop) : vcMakeMap Try.prog t H K = allNew H fun r => K (.ret (.lit (.map (some r)))) (H.set r (.map (keysOf Try.prog t) fun _ => none)) := rfl
theorem refute11 (rows : List Row) (most : Int) (h1 : (rows.length : Int) ≤ 9223372036854775806) : PureF Try.prog 11 [rowsV rows, iV most] (refuteX rows most) := by
  refine GivesF.pure fun H => ?_
  unfold GivesF
  refine vcalls_introM fd11 (by simp) ?_
  unfold c11
  by_cases hr : rightF rows = 0
  · have hn := unkN_le hr
    have hu := unkN_eq rows
    by_cases hb : most < 0 ∨ 5000 < most
    · by_cases hb1 : most < 0
      · (repeat' (first | (simp only [↓s_skip, ↓s_reg, ↓s_seq, ↓s_cond, ↓s_condT, ↓s_condF, ↓s_ret, ↓s_nil, ↓s_consN, ↓s_consG, ↓s_guardTF, ↓s_thenN, ↓s_thenR, ↓s_kret, ↓s_putS, ↓s_putN, ↓s_dOkS, ↓s_dOkN, ↓s_ev_t, ↓s_ev_c, ↓s_ev_f, ↓s_upd, ↓s_move, ↓s_assign, ↓s_isBool, ↓s_pickA, ↓s_pick, ↓s_store, ↓s_bin, ↓s_alloc, ↓s_callV, ↓s_callL, ↓s_bin_lss, ↓s_bin_neq, ptrV, List.map_cons, List.map_nil, List.length_cons, List.length_nil, List.getD_cons_zero, List.getD_cons_succ, List.getD_nil, ite_true, ite_false, Nat.reduceEqDiff, Nat.reduceLT, true_and, Nat.succ_ne_self, decide_true, Bool.not_true, reduceCtorEq, callOk, undefV, AH.get, setAt, List.all_cons, List.all_nil, Bool.and_self, eq_self, Nat.zero_add, cl_int, on_int, cl_bool, on_bool, cl_sl, on_sl, List.set_cons_zero, ↓n_alloc, n_allocS, Nat.le_refl, n_stP, n_stA, undef, szT_28, szT_4, szT_25, zeroT_28, zeroT_4, zeroT_25, en_36, *]) | (refine guardL_splitTD ?_ ?_ <;> intro) | (refine guardL_splitFD ?_ ?_ <;> intro) | (refine guardP_splitTD ?_ ?_ <;> intro) | (refine guardP_splitFD ?_ ?_ <;> intro) | (refine condL_splitD ?_ ?_ <;> intro) | (refine guardL_splitT ?_ ?_ <;> intro) | (refine guardL_splitF ?_ ?_ <;> intro) | (refine guardP_splitT ?_ ?_ <;> intro) | (refine guardP_splitF ?_ ?_ <;> intro) | (refine condL_split ?_ ?_ <;> intro) | (refine ret_tmp ?_) | (refine acx_go rfl (fun _ _ _ h => h) ?_) | (refine acx_dreg mixed (fun _ _ _ _ e h => ⟨e.trans h.1, h.2⟩) _ (SubH.refl _) ?_) | (refine And.intro (SubH.new (by assumption)) ?_) | (refine allNew_intro fun zr zh => ?_; have zg := zh; (try simp only [AH.set_none] at zg)) | (exact SubH.refl _) | (refine SubH.of_set ?_ ?_) | assumption | (refine PureF.use (right36 _ h1) ?_) | (refine PureF.use (unknowns37 _ h1) ?_) | (with_reducible refine And.intro ?_ ?_)))
        rw [refuteX_of (p := ([], false, 4)) (by simp [refuteF, *])]
        exact rfLeave (by simp only [s_upd, Nat.reduceEqDiff, if_true, if_false, *] <;> rfl) (by simp only [s_upd, Nat.reduceEqDiff, if_true, if_false, *] <;> rfl) (by simp only [s_upd, Nat.reduceEqDiff, if_true, if_false, *] <;> rfl) (by simp only [AH.get, *, if_true, if_false] <;> rfl) (by simp only [AH.get, *, if_true, if_false] <;> rfl) (by simp only [AH.get, *, if_true, if_false] <;> rfl) ⟨_, _, _, rfl⟩ (rfNil (by repeat (first | assumption | exact SubH.refl _ | refine SubH.of_set ?_ (by simp only [*]))) _ _)
      · have hb2 : 5000 < most := by omega
        (repeat' (first | (simp only [↓s_skip, ↓s_reg, ↓s_seq, ↓s_cond, ↓s_condT, ↓s_condF, ↓s_ret, ↓s_nil, ↓s_consN, ↓s_consG, ↓s_guardFF, ↓s_thenN, ↓s_thenR, ↓s_kret, ↓s_putS, ↓s_putN, ↓s_dOkS, ↓s_dOkN, ↓s_ev_t, ↓s_ev_c, ↓s_ev_f, ↓s_upd, ↓s_move, ↓s_assign, ↓s_isBool, ↓s_pickA, ↓s_pick, ↓s_store, ↓s_bin, ↓s_alloc, ↓s_callV, ↓s_callL, ↓s_bin_lss, ↓s_bin_gtr, ↓s_bin_neq, ptrV, List.map_cons, List.map_nil, List.length_cons, List.length_nil, List.getD_cons_zero, List.getD_cons_succ, List.getD_nil, ite_true, ite_false, Nat.reduceEqDiff, Nat.reduceLT, true_and, Bool.false_eq_true, Nat.succ_ne_self, decide_true, decide_false, Bool.not_true, reduceCtorEq, undefV, AH.get, setAt, List.all_cons, List.all_nil, Bool.and_self, eq_self, Nat.zero_add, cl_int, on_int, cl_bool, on_bool, cl_sl, on_sl, List.set_cons_zero, ↓n_alloc, n_allocS, Nat.le_refl, n_stP, n_stA, undef, szT_28, szT_4, szT_25, zeroT_28, zeroT_4, zeroT_25, en_36, *]) | (refine guardL_splitTD ?_ ?_ <;> intro) | (refine guardL_splitFD ?_ ?_ <;> intro) | (refine guardP_splitTD ?_ ?_ <;> intro) | (refine guardP_splitFD ?_ ?_ <;> intro) | (refine condL_splitD ?_ ?_ <;> intro) | (refine guardL_splitT ?_ ?_ <;> intro) | (refine guardL_splitF ?_ ?_ <;> intro) | (refine guardP_splitT ?_ ?_ <;> intro) | (refine guardP_splitF ?_ ?_ <;> intro) | (refine condL_split ?_ ?_ <;> intro) | (refine ret_tmp ?_) | (refine acx_go rfl (fun _ _ _ h => h) ?_) | (refine acx_dreg mixed (fun _ _ _ _ e h => ⟨e.trans h.1, h.2⟩) _ (SubH.refl _) ?_) | (refine And.intro (SubH.new (by assumption)) ?_) | (refine allNew_intro fun zr zh => ?_; have zg := zh; (try simp only [AH.set_none] at zg)) | (exact SubH.refl _) | (refine SubH.of_set ?_ ?_) | assumption | (refine PureF.use (right36 _ h1) ?_) | (refine PureF.use (unknowns37 _ h1) ?_) | (with_reducible refine And.intro ?_ ?_)))
        rw [refuteX_of (p := ([], false, 4)) (by simp [refuteF, *])]
        exact rfLeave (by simp only [s_upd, Nat.reduceEqDiff, if_true, if_false, *] <;> rfl) (by simp only [s_upd, Nat.reduceEqDiff, if_true, if_false, *] <;> rfl) (by simp only [s_upd, Nat.reduceEqDiff, if_true, if_false, *] <;> rfl) (by simp only [AH.get, *, if_true, if_false] <;> rfl) (by simp only [AH.get, *, if_true, if_false] <;> rfl) (by simp only [AH.get, *, if_true, if_false] <;> rfl) ⟨_, _, _, rfl⟩ (rfNil (by repeat (first | assumption | exact SubH.refl _ | refine SubH.of_set ?_ (by simp only [*]))) _ _)
    · have hb1 : ¬ most < 0 := by omega
      have hb2 : ¬ 5000 < most := by omega
      (repeat' (first | (simp only [↓s_skip, ↓s_reg, ↓s_seq, ↓s_cond, ↓s_condF, ↓s_nil, ↓s_consN, ↓s_consG, ↓s_guardFF, ↓s_thenN, ↓s_kret, ↓s_putS, ↓s_putN, ↓s_dOkS, ↓s_dOkN, ↓s_ev_t, ↓s_ev_c, ↓s_ev_f, ↓s_upd, ↓s_move, ↓s_assign, ↓s_isBool, ↓s_pickA, ↓s_pick, ↓s_store, ↓s_bin, ↓s_alloc, ↓s_box, ↓s_build, ↓s_makeFunc, ↓s_makeMap, ↓s_callV, ↓s_defer, ↓s_callL, ↓s_bin_lss, ↓s_bin_gtr, ↓s_bin_neq, ptrV, List.map_cons, List.map_nil, List.length_cons, List.length_nil, List.getD_cons_zero, List.getD_cons_succ, List.getD_nil, ite_true, ite_false, Nat.reduceEqDiff, Nat.reduceLT, Nat.reduceAdd, Nat.reduceLeDiff, true_and, Bool.false_eq_true, Nat.succ_ne_self, decide_true, decide_false, Bool.not_true, reduceCtorEq, undefV, AH.get, AH.set_set, vcBuild, fillV, setAt, List.all_cons, List.all_nil, Bool.and_self, eq_self, Nat.zero_add, and_self, List.getElem?_cons_zero, List.getElem?_cons_succ, cl_int, cl_ptr, on_ptr, cl_map, cl_agg, cl_slice, List.set_cons_zero, List.set_cons_succ, ↓n_alloc, n_allocS, ↓n_box, Nat.le_refl, n_stP, n_stA, undef, n_makeMap, zeroT_28, szT_71, zeroT_4, zeroT_25, stT_74, stT_77, zeroT_71, en_36, en_37, *]) | (refine guardL_splitTD ?_ ?_ <;> intro) | (refine guardL_splitFD ?_ ?_ <;> intro) | (refine guardP_splitTD ?_ ?_ <;> intro) | (refine guardP_splitFD ?_ ?_ <;> intro) | (refine condL_splitD ?_ ?_ <;> intro) | (refine guardL_splitT ?_ ?_ <;> intro) | (refine guardL_splitF ?_ ?_ <;> intro) | (refine guardP_splitT ?_ ?_ <;> intro) | (refine guardP_splitF ?_ ?_ <;> intro) | (refine condL_split ?_ ?_ <;> intro) | (refine ret_tmp ?_) | (refine acx_go rfl (fun _ _ _ h => h) ?_) | (refine acx_dreg mixed (fun _ _ _ _ e h => ⟨e.trans h.1, h.2⟩) _ (SubH.refl _) ?_) | (refine And.intro (SubH.new (by assumption)) ?_) | (refine allNew_intro fun zr zh => ?_; have zg := zh; (try simp only [AH.set_none] at zg)) | (exact SubH.refl _) | (refine SubH.of_set ?_ ?_) | assumption | (refine PureF.use (right36 _ h1) ?_) | (refine PureF.use (unknowns37 _ h1) ?_) | (with_reducible refine And.intro ?_ ?_)))
      rename_i r4 zh4 zg4 r5 zh5 zg5 r6 zh6 zg6 mp zhm zgm s zhs zgs
      revert zr
      intro r8 zh8 zg8
      obtain ⟨H6, hH6⟩ : ∃ H6, H6 = ((H.set r4 (.cells 28 [.lit (.slice none 0 0)] 0)).set r5 (.cells 4 [VV.lit (Value.bool false)] 0)).set r6 (.cells 25 [VV.lit (Value.int IntKind.i64 0)] 0) := ⟨_, rfl⟩
      have a4 : H6 r4 = some (.cells 28 [.lit (.slice none 0 0)] 0) := by rw [hH6]; exact (by simp only [AH.get, *, if_true, if_false] <;> rfl)
      have a5 : H6 r5 = some (.cells 4 [boolV false] 0) := by rw [hH6]; exact (by simp only [AH.get, *, if_true, if_false] <;> rfl)
      have a6 : H6 r6 = some (.cells 25 [iV 0] 0) := by rw [hH6]; exact (by simp only [AH.get, *, if_true, if_false] <;> rfl)
      have hs6 : SubH H H6 := by rw [hH6]; exact (by repeat (first | assumption | exact SubH.refl _ | refine SubH.of_set ?_ (by simp only [*])))
      have em : H6 mp = none := by rw [hH6]; exact zhm
      have es : H6 s = none := by rw [hH6]; simp only [AH.set_none]; exact zgs.2
      have e8 : H6 r8 = none := by rw [hH6]; simp only [AH.set_none]; exact zg8.2.2
      have ds : ¬ s = mp ∧ ¬ mp = s := zgs.1
      have d8s : ¬ r8 = s ∧ ¬ s = r8 := zg8.1
      have d8m : ¬ r8 = mp ∧ ¬ mp = r8 := zg8.2.1
      have h4n : H r4 = none := zg4
      have h5n : H r5 = none := zg5.2
      have h6n : H r6 = none := zg6.2.2
      have d54 : ¬ r5 = r4 ∧ ¬ r4 = r5 := zg5.1
      have d65 : ¬ r6 = r5 ∧ ¬ r5 = r6 := zg6.1
      have d64 : ¬ r6 = r4 ∧ ¬ r4 = r6 := zg6.2.1
      refine ⟨rfl, ?_⟩
      show vcL _ [] _ ⟨_, [{ target := .fn (.func 38) #[.pointer (some ⟨r8, 0, none⟩), .pointer (some ⟨r4, 0, none⟩), .pointer (some ⟨r5, 0, none⟩), .pointer (some ⟨r6, 0, none⟩)], args := #[] }]⟩ _
      rw [← hH6]
      clear hH6 zhm zgm zhs zgs zh8 zg8 zh4 zg4 zh5 zg5 zh6 zg6
      have hrr := rightF_ok hr
      have hst : RefS (H6.set r8 (.cells 71 [ptrV s 0] 0)) (((H6.set mp (.map (keysOf Try.prog 75) fun _ => none)).set s (.cells 77 [rowsV rows, iV (unkN rows), .lit (.slice none 0 0), .lit (.slice none 0 0), iV most, .lit (.map (some mp))] 0)).set r8 (.cells 71 [ptrV s 0] 0)) s mp rows (unkN rows) most ⟨[], [], []⟩ := by
        refine ⟨.lit (.slice none 0 0), .lit (.slice none 0 0), _, _, ?_, ?_, ds.1, ?_, ?_, ?_, .inl ⟨rfl, rfl, rfl, rfl⟩, .inl ⟨rfl, rfl, rfl, rfl⟩⟩
        · rw [AH.get, if_neg d8s.2]; exact es
        · rw [AH.get, if_neg d8m.2]; exact em
        · exact SubH.set (SubH.of_set (SubH.new em) es) _ _
        · rw [AH.get, if_neg d8s.2, AH.set_same]
        · rw [AH.get, if_neg d8m.2, AH.get, if_neg ds.2, AH.set_same]; rfl
      have B8 : (H6.set r8 (.cells 71 [ptrV s 0] 0)) r8 = some (.cells 71 [ptrV s 0] 0) := AH.set_same _ _ _
      have ne8 : ∀ {i b}, H6 i = some b → ¬ i = r8 := fun h => (AH.ne_of h e8).1
      have B4 : (H6.set r8 (.cells 71 [ptrV s 0] 0)) r4 = some (.cells 28 [.lit (.slice none 0 0)] 0) := by rw [AH.get, if_neg (ne8 a4)]; exact a4
      have B5 : (H6.set r8 (.cells 71 [ptrV s 0] 0)) r5 = some (.cells 4 [boolV false] 0) := by rw [AH.get, if_neg (ne8 a5)]; exact a5
      have B6 : (H6.set r8 (.cells 71 [ptrV s 0] 0)) r6 = some (.cells 25 [iV 0] 0) := by rw [AH.get, if_neg (ne8 a6)]; exact a6
      have hsB : SubH H (H6.set r8 (.cells 71 [ptrV s 0] 0)) := hs6.of_set (hs6.none e8)
      generalize (H6.set r8 (.cells 71 [ptrV s 0] 0)) = B at hst B8 B4 B5 B6 hsB
      have hrl : (rows.length : Int) ≤ 1000000 := by have := hrr.1; omega
      (repeat' (first | (refine search40 (B := B) (mp := mp) (rows := rows) (n := unkN rows) (most := most) hst (by omega) (by omega) (fun r h => len_unkN h) (by omega) hrl ?_) | (simp only [↓s_reg, ↓s_seq, ↓s_nil, ↓s_consN, ↓s_thenN, ↓s_kret, ↓s_putS, ↓s_dOkS, ↓s_ev_t, ↓s_ev_f, ↓s_upd, ↓s_load, ↓s_callV, ↓s_callL, List.map_cons, List.map_nil, List.getD_cons_succ, List.getD_nil, ite_true, ite_false, Nat.reduceEqDiff, Nat.reduceLT, true_and, Nat.succ_ne_self, AH.get, eq_self, List.drop, ldV_f, n_ldP, n_ldA, n_ldB, ldT_71, en_40, *]) | (refine guardL_splitTD ?_ ?_ <;> intro) | (refine guardL_splitFD ?_ ?_ <;> intro) | (refine guardP_splitTD ?_ ?_ <;> intro) | (refine guardP_splitFD ?_ ?_ <;> intro) | (refine condL_splitD ?_ ?_ <;> intro) | (refine guardL_splitT ?_ ?_ <;> intro) | (refine guardL_splitF ?_ ?_ <;> intro) | (refine guardP_splitT ?_ ?_ <;> intro) | (refine guardP_splitF ?_ ?_ <;> intro) | (refine condL_split ?_ ?_ <;> intro) | (refine ret_tmp ?_) | (refine acx_go rfl (fun _ _ _ h => h) ?_) | (refine acx_dreg mixed (fun _ _ _ _ e h => ⟨e.trans h.1, h.2⟩) _ (SubH.refl _) ?_) | (refine And.intro (SubH.new (by assumption)) ?_) | (refine allNew_intro fun zr zh => ?_; have zg := zh; (try simp only [AH.set_none] at zg)) | (exact SubH.refl _) | (refine SubH.of_set ?_ ?_) | assumption | (with_reducible refine And.intro ?_ ?_)))
      have hg := search_good (rows := rows) (n := unkN rows) (most := most) (by omega)
      have hF : refuteF rows most = match searchS rows (unkN rows) most with
          | .ok _ => ([], false, 0)
          | .error (.found, st) => (neededF st.ls, true, 0)
          | .error (.stop c, _) => ([], false, c) := by unfold refuteF; rw [if_pos hr, if_neg hb]
      have hen : enterable Try.prog 38 = true := en38
      cases e : searchS rows (unkN rows) most with
      | error p =>
        obtain ⟨o, st⟩ := p
        rw [e] at hg hF
        intro H' h'
        cases o with
        | stop c =>
          rw [refuteX_of (p := ([], false, c)) hF]
          refine ⟨by simp, hen, [ptrV r8 0, ptrV r4 0, ptrV r5 0, ptrV r6 0], H', GhL.cons (GhV.refl _ _) (GhL.cons (GhV.refl _ _) (GhL.cons (GhV.refl _ _) (GhL.cons (GhV.refl _ _) (GhL.nil _)))), ?_⟩
          refine def38_stop (h'.sub _ _ B4) (h'.sub _ _ B5) (h'.sub _ _ B6) d54.2 d64.2 d65.2 d54.1 d64.1 d65.1 (fun u H2 h2 => ?_)
          refine rfLeave (r4 := r4) (r5 := r5) (r6 := r6) (v := .lit (.slice none 0 0)) (by simp only [s_upd, Nat.reduceEqDiff, if_true, if_false, *] <;> rfl) (by simp only [s_upd, Nat.reduceEqDiff, if_true, if_false, *] <;> rfl) (by simp only [s_upd, Nat.reduceEqDiff, if_true, if_false, *] <;> rfl) (h2 _ _ (by simp only [AH.get, *, if_true, if_false] <;> rfl)) (h2 _ _ (by simp only [AH.get, *, if_true, if_false] <;> rfl)) (h2 _ _ (by simp only [AH.get, *, if_true, if_false] <;> rfl)) ⟨_, _, _, rfl⟩ (rfNil (SubH.trans ?_ h2) _ _)
          exact SubH.of_set (SubH.of_set (SubH.of_set (hsB.trans h'.sub) h4n) h5n) h6n
        | found =>
          obtain ⟨hgd, ms, r, hms, hab⟩ := hg
          rw [refuteX_of (p := (neededF st.ls, true, 0)) hF]
          refine ⟨by simp, hen, [ptrV r8 0, ptrV r4 0, ptrV r5 0, ptrV r6 0], H', GhL.cons (GhV.refl _ _) (GhL.cons (GhV.refl _ _) (GhL.cons (GhV.refl _ _) (GhL.cons (GhV.refl _ _) (GhL.nil _)))), ?_⟩
          have hne : st.ls ≠ [] := fun e0 => by have := hgd.len; rw [e0, hms] at this; simp at this
          refine def38_found h' hgd hne (by omega) B8 B4 B5 B6 d54.2 d64.2 d65.2 d54.1 d64.1 d65.1 (fun u v Hc H2 ho2 hsc => ?_)
          have h2 := hsc.trans ho2.sub
          obtain ⟨xa, xc, hv⟩ := ho2.form
          refine rfLeave (r4 := r4) (r5 := r5) (r6 := r6) (v := v) (by simp only [s_upd, Nat.reduceEqDiff, if_true, if_false, *] <;> rfl) (by simp only [s_upd, Nat.reduceEqDiff, if_true, if_false, *] <;> rfl) (by simp only [s_upd, Nat.reduceEqDiff, if_true, if_false, *] <;> rfl) (h2 _ _ (by simp only [AH.get, *, if_true, if_false] <;> rfl)) (h2 _ _ (by simp only [AH.get, *, if_true, if_false] <;> rfl)) (h2 _ _ (by simp only [AH.get, *, if_true, if_false] <;> rfl)) ⟨_, _, _, hv⟩ ?_
          refine GhV.tuple (GhL.cons (GhV.back ho2 (SubH.trans ?_ hsc)) (GhL.cons (GhV.refl _ _) (GhL.cons (GhV.refl _ _) (GhL.nil _))))
          exact SubH.of_set (SubH.of_set (SubH.of_set (hsB.trans h'.sub) h4n) h5n) h6n
      | ok st =>
        rw [e] at hF
        intro H' u h'
        have c4 := h'.sub _ _ B4
        have c5 := h'.sub _ _ B5
        have c6 := h'.sub _ _ B6
        rw [refuteX_of (p := ([], false, 0)) hF]
        clear hF e hg
        have hsH := hsB.trans h'.sub
        (repeat' (first | (simp only [↓s_reg, ↓s_seq, ↓s_ret, ↓s_nil, ↓s_consN, ↓s_thenN, ↓s_kret, ↓s_putS, ↓s_putN, ↓s_dOkN, ↓s_ev_t, ↓s_ev_c, ↓s_upd, ↓s_store, boolV, List.length_cons, List.length_nil, List.getD_cons_succ, List.getD_nil, ite_true, ite_false, Nat.reduceEqDiff, true_and, Nat.succ_ne_self, AH.get, setAt, List.all_cons, List.all_nil, Bool.and_self, eq_self, Nat.zero_add, cl_int, on_int, cl_bool, on_bool, cl_sl, on_sl, List.set_cons_zero, Nat.le_refl, n_stP, n_stA, szT_28, szT_4, szT_25, *]) | (refine guardL_splitTD ?_ ?_ <;> intro) | (refine guardL_splitFD ?_ ?_ <;> intro) | (refine guardP_splitTD ?_ ?_ <;> intro) | (refine guardP_splitFD ?_ ?_ <;> intro) | (refine condL_splitD ?_ ?_ <;> intro) | (refine guardL_splitT ?_ ?_ <;> intro) | (refine guardL_splitF ?_ ?_ <;> intro) | (refine guardP_splitT ?_ ?_ <;> intro) | (refine guardP_splitF ?_ ?_ <;> intro) | (refine condL_split ?_ ?_ <;> intro) | (refine ret_tmp ?_) | (refine acx_go rfl (fun _ _ _ h => h) ?_) | (refine acx_dreg mixed (fun _ _ _ _ e h => ⟨e.trans h.1, h.2⟩) _ (SubH.refl _) ?_) | (refine And.intro (SubH.new (by assumption)) ?_) | (refine allNew_intro fun zr zh => ?_; have zg := zh; (try simp only [AH.set_none] at zg)) | (exact SubH.refl _) | (refine SubH.of_set ?_ ?_) | assumption | (with_reducible refine And.intro ?_ ?_)))
        refine ⟨by simp, hen, [ptrV r8 0, ptrV r4 0, ptrV r5 0, ptrV r6 0], _, GhL.cons (GhV.refl _ _) (GhL.cons (GhV.refl _ _) (GhL.cons (GhV.refl _ _) (GhL.cons (GhV.refl _ _) (GhL.nil _)))), ?_⟩
        refine def38_nil (by simp) (fun u => ?_)
        exact rfLeave (r4 := r4) (r5 := r5) (r6 := r6) (by simp only [s_upd, Nat.reduceEqDiff, if_true, if_false, *] <;> rfl) (by simp only [s_upd, Nat.reduceEqDiff, if_true, if_false, *] <;> rfl) (by simp only [s_upd, Nat.reduceEqDiff, if_true, if_false, *] <;> rfl) (by simp only [AH.get, *, if_true, if_false] <;> rfl) (by simp only [AH.get, *, if_true, if_false] <;> rfl) (by simp only [AH.get, *, if_true, if_false] <;> rfl) ⟨_, _, _, rfl⟩ (rfNil (SubH.of_set (SubH.of_set (SubH.of_set hsH h4n) h5n) h6n) _ _)
  · (repeat' (first | (simp only [↓s_reg, ↓s_seq, ↓s_cond, ↓s_condT, ↓s_ret, ↓s_nil, ↓s_consN, ↓s_thenN, ↓s_thenR, ↓s_kret, ↓s_putS, ↓s_putN, ↓s_dOkS, ↓s_dOkN, ↓s_ev_t, ↓s_ev_c, ↓s_ev_f, ↓s_upd, ↓s_move, ↓s_assign, ↓s_store, ↓s_bin, ↓s_alloc, ↓s_callV, ↓s_callL, ↓s_bin_neq, ptrV, List.map_cons, List.map_nil, List.length_cons, List.length_nil, List.getD_cons_zero, List.getD_cons_succ, List.getD_nil, ite_true, ite_false, Nat.reduceEqDiff, Nat.reduceLT, true_and, Nat.succ_ne_self, decide_false, Bool.not_false, reduceCtorEq, undefV, AH.get, setAt, List.all_cons, List.all_nil, Bool.and_self, eq_self, Nat.zero_add, cl_int, on_int, cl_bool, on_bool, cl_sl, on_sl, List.set_cons_zero, ↓n_alloc, n_allocS, Nat.le_refl, n_stP, n_stA, undef, szT_28, szT_4, szT_25, zeroT_28, zeroT_4, zeroT_25, en_36, *]) | (refine guardL_splitTD ?_ ?_ <;> intro) | (refine guardL_splitFD ?_ ?_ <;> intro) | (refine guardP_splitTD ?_ ?_ <;> intro) | (refine guardP_splitFD ?_ ?_ <;> intro) | (refine condL_splitD ?_ ?_ <;> intro) | (refine guardL_splitT ?_ ?_ <;> intro) | (refine guardL_splitF ?_ ?_ <;> intro) | (refine guardP_splitT ?_ ?_ <;> intro) | (refine guardP_splitF ?_ ?_ <;> intro) | (refine condL_split ?_ ?_ <;> intro) | (refine ret_tmp ?_) | (refine acx_go rfl (fun _ _ _ h => h) ?_) | (refine acx_dreg mixed (fun _ _ _ _ e h => ⟨e.trans h.1, h.2⟩) _ (SubH.refl _) ?_) | (refine And.intro (SubH.new (by assumption)) ?_) | (refine allNew_intro fun zr zh => ?_; have zg := zh; (try simp only [AH.set_none] at zg)) | (exact SubH.refl _) | (refine SubH.of_set ?_ ?_) | assumption | (refine PureF.use (right36 _ h1) ?_) | (with_reducible refine And.intro ?_ ?_)))
    rw [refuteX_of (p := ([], false, rightF rows)) (by simp [refuteF, *])]
    exact rfLeave (by simp only [s_upd, Nat.reduceEqDiff, if_true, if_false, *] <;> rfl) (by simp only [s_upd, Nat.reduceEqDiff, if_true, if_false, *] <;> rfl) (by simp only [s_upd, Nat.reduceEqDiff, if_true, if_false, *] <;> rfl) (by simp only [AH.get, *, if_true, if_false] <;> rfl) (by simp only [AH.get, *, if_true, if_false] <;> rfl) (by simp only [AH.get, *, if_true, if_false] <;> rfl) ⟨_, _, _, rfl⟩ (rfNil (by repeat (first | assumption | exact SubH.refl _ | refine SubH.of_set ?_ (by simp only [*]))) _ _)
end Go.PV.Ytefpjfpelicedaa
end
section
/- The chapter's example. -/
set_option linter.unusedVariables false
set_option linter.unusedSimpArgs false
set_option maxRecDepth 20000
set_option maxHeartbeats 4000000
namespace Go.PV
/-- What is represented by one is by the other. -/
def Weak (x y : VV) : Prop := ∀ S w u, Rv S w x u → Rv S w y u
def WeakC : List VV → List VV → Prop
  | _, [] => True
  | x :: xs, y :: ys => Weak x y ∧ WeakC xs ys
  | [], _ :: _ => False
def WeakL : List VV → List VV → Prop
  | [], [] => True
  | x :: xs, y :: ys => Weak x y ∧ WeakL xs ys
  | _, _ => False
theorem Weak.refl (x : VV) : Weak x x := fun _ _ _ h => h
theorem WeakC.rv : ∀ {xs ys : List VV}, WeakC xs ys → ∀ {S : Nat → Prop} {w : World} {r o : Nat}, RvC S w xs r o → RvC S w ys r o
  | _, [], _, _, _, _, _, _ => trivial
  | x :: xs, y :: ys, h, S, w, r, o, hr => by
    obtain ⟨⟨u, h1, h2⟩, h3⟩ := hr
    exact ⟨⟨u, h1, h.1 _ _ _ h2⟩, h.2.rv h3⟩
theorem WeakL.rv : ∀ {xs ys : List VV}, WeakL xs ys → ∀ {S : Nat → Prop} {w : World} {us : List Value}, RvL S w xs us → RvL S w ys us
  | [], [], _, _, _, _, h => h
  | x :: xs, y :: ys, h, S, w, us, hr => by
    obtain ⟨u, us', rfl, h2, h3⟩ := hr
    exact ⟨u, us', rfl, h.1 _ _ _ h2, h.2.rv h3⟩
theorem Weak.slice {ex : Bool} {n : Nat} {cs ds : List VV} (h : WeakC cs ds) : Weak (.slice ex n cs) (.slice false n ds) := fun S w u hu => by
  obtain ⟨a, cap, rfl, ⟨h1, _⟩, h3⟩ := hu
  refine ⟨a, cap, rfl, ⟨h1, fun e => by cases e⟩, fun hn => ?_⟩
  obtain ⟨r, o, e, hs, hc⟩ := h3 hn
  exact ⟨r, o, e, hs, h.rv hc⟩
theorem WeakC.refl : ∀ (l : List VV), WeakC l l
  | [] => trivial
  | x :: l => ⟨.refl x, WeakC.refl l⟩
theorem PureF.weak {P : Program} {f : FuncId} {xs ys : List VV} {x : VV} (h : PureF P f xs x) (hw : WeakL ys xs) : PureF P f ys x := fun H S w args hs hx => h H S w args hs (hw.rv hx)
end Go.PV
namespace Go.PV.Ytefpjfpelicedaa
open Go Go.Proofs
def rows0 : List Row := [⟨[1, 1], 1⟩, ⟨[-1], -2⟩]
def lines0 : List Line := [⟨1, 0, 0, 0, 0⟩, ⟨1, 1, 0, 0, 0⟩, ⟨2, 1, 0, 0, 0⟩, ⟨3, 0, 1, 1, 1⟩, ⟨3, 3, 2, 1, 1⟩]
def made0 : List Row := [⟨[1, 1], 1⟩, ⟨[-1, 0], -2⟩, ⟨[0, -1], 0⟩, ⟨[0, 1], -1⟩, ⟨[0, 0], -1⟩]
theorem derive0 : deriveF rows0 lines0 = (made0, 0) := by kernel_rfl
def cert0 : List Line := (refuteF rows0 100).1
theorem refute0 : refuteF rows0 100 = (cert0, true, 0) := by kernel_rfl
theorem check0 : checkF rows0 lines0 = 0 := by kernel_rfl
theorem check1 : checkF rows0 cert0 = 0 := by kernel_rfl
theorem cert0_len : cert0.length = 5 := by kernel_rfl
abbrev rv0 : VV := .slice true 2 [.slice true 2 [iV 1, iV 1], iV 1, .slice true 1 [iV (-1)], iV (-2)]
abbrev lv0 : VV := .slice true 5 [iV 1, iV 0, iV 0, iV 0, iV 0, iV 1, iV 1, iV 0, iV 0, iV 0, iV 2, iV 1, iV 0, iV 0, iV 0, iV 3, iV 0, iV 1, iV 1, iV 1, iV 3, iV 3, iV 2, iV 1, iV 1]
theorem weakR : Weak rv0 (rowsV rows0) := Weak.slice (ds := encC rowE rows0) ⟨Weak.slice (WeakC.refl _), Weak.refl _, Weak.slice (WeakC.refl _), Weak.refl _, trivial⟩
theorem weakV : Weak lv0 (linesV lines0) := Weak.slice (ds := encC lineE lines0) (WeakC.refl _)
theorem weakR1 : Weak (.slice false 1 [.slice true 2 [iV 1, iV 1], iV 1, .slice true 1 [iV (-1)], iV (-2)]) (rowsV [⟨[1, 1], 1⟩]) := Weak.slice (ds := encC rowE [⟨[1, 1], 1⟩]) ⟨Weak.slice (WeakC.refl _), Weak.refl _, trivial⟩
theorem point0 : pointF [⟨[1, 1], 1⟩] 3 = ([0, 0], true, 0) := by kernel_rfl
theorem made0_drop : (encC rowE made0).drop 8 = [intsV [0, 0], iV (-1)] := rfl
theorem awake8 : PureF Try.prog 8 [] (boolV true) := by
  have hD : PureF Try.prog 22 [rv0, lv0] (.tuple [rowsV made0, iV 0]) := by
    have := (derive22 rows0 lines0 (by decide) (by decide)).weak (ys := [rv0, lv0]) ⟨weakR, weakV, trivial⟩
    rw [derive0] at this; exact this
  have hR : PureF Try.prog 11 [rv0, iV 100] (.tuple [linesV cert0, boolV true, iV 0]) := by
    have := (refute11 rows0 100 (by decide)).weak (ys := [rv0, iV 100]) ⟨weakR, .refl _, trivial⟩
    rw [refuteX_of refute0] at this; exact this
  have hC : PureF Try.prog 13 [rv0, lv0] (iV 0) := by
    have := (check13 rows0 lines0 (by decide) (by decide)).weak (ys := [rv0, lv0]) ⟨weakR, weakV, trivial⟩
    rw [check0] at this; exact this
  have hC1 : PureF Try.prog 13 [rv0, linesV cert0] (iV 0) := by
    have := (check13 rows0 cert0 (by decide) (by rw [cert0_len]; decide)).weak (ys := [rv0, linesV cert0]) ⟨weakR, .refl _, trivial⟩
    rw [check1] at this; exact this
  have hP : PureF Try.prog 31 [.slice false 1 [.slice true 2 [iV 1, iV 1], iV 1, .slice true 1 [iV (-1)], iV (-2)], iV 3] (.tuple [intsV [0, 0], boolV true, iV 0]) := by
    have := (point31 [⟨[1, 1], 1⟩] 3 (by decide)).weak (ys := [.slice false 1 [.slice true 2 [iV 1, iV 1], iV 1, .slice true 1 [iV (-1)], iV (-2)], iV 3]) ⟨weakR1, .refl _, trivial⟩
    rw [pointX_of point0] at this; exact this
  have hE : PureF Try.prog 32 [intsV [0, 0], .slice true 2 [iV 0, iV 0]] (boolV true) :=
    (equal32 [0, 0] [0, 0] (by decide)).weak (ys := [intsV [0, 0], .slice true 2 [iV 0, iV 0]]) ⟨.refl _, Weak.slice (ds := encC intE [0, 0]) (WeakC.refl _), trivial⟩
  have hml : made0.length = 5 := rfl
  refine PureF.forget fun H => ?_
  refine vcalls_intro fd8 (by simp) ?_
  unfold c8
  (repeat' (first | (simp only [↓s_reg, ↓s_seq, ↓s_ret, ↓s_nil, ↓s_consN, ↓s_consG, ↓s_guardTT, ↓s_guardFT, ↓s_thenN, ↓s_kret, ↓s_putS, ↓s_dOkS, ↓s_ev_t, ↓s_ev_c, ↓s_ev_f, ↓s_upd, ↓s_move, ↓s_assign, ↓s_isBool, ↓s_pickA, ↓s_pick, ↓s_load, ↓s_bin, ↓s_build, ↓s_buildSlice, ↓s_slice, ↓s_fieldAddr, ↓s_indexAddr, ↓s_extract, ↓s_callB, ↓s_callV, ↓s_callL, ↓s_len, ↓s_bin_eql, vcExtract, intV, boolV, List.map_cons, List.map_nil, List.length_cons, List.length_nil, List.getD_nil, List.cons_append, List.nil_append, List.append_nil, ite_true, ite_false, Nat.reduceEqDiff, Nat.reduceLT, Nat.reduceAdd, Nat.reduceMul, Nat.reduceSub, Nat.reduceLeDiff, ne_eq, not_false_eq_true, not_true_eq_false, true_and, and_true, List.drop_zero, Bool.false_eq_true, Nat.zero_ne_one, Nat.succ_ne_self, decide_true, decide_false, Bool.true_and, reduceCtorEq, Nat.mul_one, callOk, undefV, vcBuild, fillV, setAt, eq_self, Nat.zero_add, List.drop, and_self, List.getElem?_cons_zero, List.getElem?_cons_succ, ldV_f, cl_int, cl_agg, cl_slice, List.set_cons_zero, List.set_cons_succ, Nat.le_refl, n_ldI, n_faI, n_ixS, n_ixA1, n_lenS, n_ldC, n_ldB, n_faA, undef, Int.reduceLT, Int.reduceLE, Int.reduceNeg, vcBuildSlice, List.replicate_succ, List.replicate_zero, List.flatten_cons, List.flatten_nil, vcSlice, Option.map_none, Option.map_some, sliceOk, idxV, idxOk, made0_drop, Int.reduceToNat, flT_50_1, ldT_3, zeroT_50, stT_50, zeroT_52, stT_52, elT_37, zeroT_3, elT_31, elT_28, en_22, en_11, en_31, en_13, en_32, *]) | (refine guardL_splitTD ?_ ?_ <;> intro) | (refine guardL_splitFD ?_ ?_ <;> intro) | (refine guardP_splitTD ?_ ?_ <;> intro) | (refine guardP_splitFD ?_ ?_ <;> intro) | (refine condL_splitD ?_ ?_ <;> intro) | (refine guardL_splitT ?_ ?_ <;> intro) | (refine guardL_splitF ?_ ?_ <;> intro) | (refine guardP_splitT ?_ ?_ <;> intro) | (refine guardP_splitF ?_ ?_ <;> intro) | (refine condL_split ?_ ?_ <;> intro) | (refine ret_tmp ?_) | (refine acx_go rfl (fun _ _ _ h => h) ?_) | (refine acx_dreg mixed (fun _ _ _ _ e h => ⟨e.trans h.1, h.2⟩) _ (SubH.refl _) ?_) | (refine And.intro (SubH.new (by assumption)) ?_) | (refine allNew_intro fun zr zh => ?_; have zg := zh; (try simp only [AH.set_none] at zg)) | (exact SubH.refl _) | (refine SubH.of_set ?_ ?_) | assumption | (refine PureF.use (hD) ?_) | (refine PureF.use (hR) ?_) | (refine PureF.use (hC) ?_) | (refine PureF.use (hC1) ?_) | (refine PureF.use (hP) ?_) | (refine PureF.use (hE) ?_) | (with_reducible refine And.intro ?_ ?_)))
  · exact fun _ => trivial
  · exact absurd rfl (by assumption : ¬ ((5 : Nat) : Int) = 5)
end Go.PV.Ytefpjfpelicedaa
end
section
/- The law on what numbers fulfil: what its program computes. -/
set_option linter.unusedVariables false
set_option linter.unusedSimpArgs false
set_option maxRecDepth 20000
set_option maxHeartbeats 4000000
namespace Go.PV.Ytefpjfpelicedaa
open Go Go.Proofs
theorem clone25b (l : List Int) (hn : (l.length : Int) ≤ 17592186044416) : PureF Try.prog 25 [intsV l] (intsV l) := by
  refine GivesF.pure fun H => ?_
  refine vcalls_intro fd25 (by simp) ?_
  unfold c25
  (repeat' (first | (simp only [↓s_reg, ↓s_seq, ↓s_nil, ↓s_consN, ↓s_thenN, ↓s_putS, ↓s_dOkS, ↓s_ev_t, ↓s_ev_c, ↓s_upd, ↓s_move, ↓s_assign, ↓s_bin, List.getD_cons_zero, List.getD_cons_succ, List.getD_nil, ite_true, ite_false, Nat.reduceLT, true_and, Nat.succ_ne_self, reduceCtorEq, undefV, eq_self, undef, *]) | (refine guardL_splitTD ?_ ?_ <;> intro) | (refine guardL_splitFD ?_ ?_ <;> intro) | (refine guardP_splitTD ?_ ?_ <;> intro) | (refine guardP_splitFD ?_ ?_ <;> intro) | (refine condL_splitD ?_ ?_ <;> intro) | (refine guardL_splitT ?_ ?_ <;> intro) | (refine guardL_splitF ?_ ?_ <;> intro) | (refine guardP_splitT ?_ ?_ <;> intro) | (refine guardP_splitF ?_ ?_ <;> intro) | (refine condL_split ?_ ?_ <;> intro) | (refine ret_tmp ?_) | (refine acx_go rfl (fun _ _ _ h => h) ?_) | (refine acx_dreg mixed (fun _ _ _ _ e h => ⟨e.trans h.1, h.2⟩) _ (SubH.refl _) ?_) | (refine And.intro (SubH.new (by assumption)) ?_) | (refine allNew_intro fun zr zh => ?_; have zg := zh; (try simp only [AH.set_none] at zg)) | (exact SubH.refl _) | (refine SubH.of_set ?_ ?_) | assumption))
  refine eq_nil und_37 fun b hb => ?_
  (repeat' (first | (simp only [↓s_skip, ↓s_reg, ↓s_seq, ↓s_cond, ↓s_ret, ↓s_nil, ↓s_consN, ↓s_thenN, ↓s_thenR, ↓s_kret, ↓s_putS, ↓s_dOkS, ↓s_ev_t, ↓s_ev_c, ↓s_upd, ↓s_move, ↓s_assign, ↓s_buildSlice, ↓s_callB, ↓s_append, boolV, List.map_cons, List.map_nil, List.length_cons, List.length_nil, List.getD_cons_zero, List.getD_cons_succ, List.getD_nil, ite_true, ite_false, Nat.reduceEqDiff, Nat.reduceLT, Nat.reduceLeDiff, true_and, Nat.succ_ne_self, reduceCtorEq, Nat.mul_one, fillV, eq_self, Nat.zero_add, and_self, vcBuildSlice, List.replicate_zero, List.flatten_nil, vcBuildSlice, elT_37, zeroT_3, *]) | (refine guardL_splitTD ?_ ?_ <;> intro) | (refine guardL_splitFD ?_ ?_ <;> intro) | (refine guardP_splitTD ?_ ?_ <;> intro) | (refine guardP_splitFD ?_ ?_ <;> intro) | (refine condL_splitD ?_ ?_ <;> intro) | (refine guardL_splitT ?_ ?_ <;> intro) | (refine guardL_splitF ?_ ?_ <;> intro) | (refine guardP_splitT ?_ ?_ <;> intro) | (refine guardP_splitF ?_ ?_ <;> intro) | (refine condL_split ?_ ?_ <;> intro) | (refine ret_tmp ?_) | (refine acx_go rfl (fun _ _ _ h => h) ?_) | (refine acx_dreg mixed (fun _ _ _ _ e h => ⟨e.trans h.1, h.2⟩) _ (SubH.refl _) ?_) | (refine And.intro (SubH.new (by assumption)) ?_) | (refine allNew_intro fun zr zh => ?_; have zg := zh; (try simp only [AH.set_none] at zg)) | (exact SubH.refl _) | (refine SubH.of_set ?_ ?_) | assumption))
  · have h0 : l = [] := by
      cases l with
      | nil => rfl
      | cons x l => have := hb (by simp); simp_all
    subst h0
    exact ⟨_, rfl, GhV.nil H⟩
  · refine append_clip elT_37 zeroT_3 rfl (by omega) rfl (ints_src H l) (ints_one l) (by omega) (by omega) (fun h0 => ?_) (fun h0 v' H' ho => ?_)
    · have h0 : l = [] := List.eq_nil_of_length_eq_zero h0
      subst h0
      (repeat' (first | (simp only [↓s_ret, ↓s_nil, ↓s_consN, ↓s_thenN, ↓s_kret, ↓s_putS, ↓s_dOkS, ↓s_ev_t, ↓s_upd, ↓s_assign, List.getD_cons_succ, List.getD_nil, ite_true, ite_false, Nat.reduceEqDiff, Nat.reduceLT, true_and, Nat.succ_ne_self, eq_self, *]) | (refine guardL_splitTD ?_ ?_ <;> intro) | (refine guardL_splitFD ?_ ?_ <;> intro) | (refine guardP_splitTD ?_ ?_ <;> intro) | (refine guardP_splitFD ?_ ?_ <;> intro) | (refine condL_splitD ?_ ?_ <;> intro) | (refine guardL_splitT ?_ ?_ <;> intro) | (refine guardL_splitF ?_ ?_ <;> intro) | (refine guardP_splitT ?_ ?_ <;> intro) | (refine guardP_splitF ?_ ?_ <;> intro) | (refine condL_split ?_ ?_ <;> intro) | (refine ret_tmp ?_) | (refine acx_go rfl (fun _ _ _ h => h) ?_) | (refine acx_dreg mixed (fun _ _ _ _ e h => ⟨e.trans h.1, h.2⟩) _ (SubH.refl _) ?_) | (refine And.intro (SubH.new (by assumption)) ?_) | (refine allNew_intro fun zr zh => ?_; have zg := zh; (try simp only [AH.set_none] at zg)) | (exact SubH.refl _) | (refine SubH.of_set ?_ ?_) | assumption))
      exact ⟨_, rfl, GhV.imm H⟩
    · (repeat' (first | (simp only [↓s_ret, ↓s_nil, ↓s_consN, ↓s_thenN, ↓s_kret, ↓s_putS, ↓s_dOkS, ↓s_ev_t, ↓s_upd, ↓s_assign, List.getD_cons_succ, List.getD_nil, ite_true, ite_false, Nat.reduceEqDiff, Nat.reduceLT, true_and, Nat.succ_ne_self, eq_self, *]) | (refine guardL_splitTD ?_ ?_ <;> intro) | (refine guardL_splitFD ?_ ?_ <;> intro) | (refine guardP_splitTD ?_ ?_ <;> intro) | (refine guardP_splitFD ?_ ?_ <;> intro) | (refine condL_splitD ?_ ?_ <;> intro) | (refine guardL_splitT ?_ ?_ <;> intro) | (refine guardL_splitF ?_ ?_ <;> intro) | (refine guardP_splitT ?_ ?_ <;> intro) | (refine guardP_splitF ?_ ?_ <;> intro) | (refine condL_split ?_ ?_ <;> intro) | (refine ret_tmp ?_) | (refine acx_go rfl (fun _ _ _ h => h) ?_) | (refine acx_dreg mixed (fun _ _ _ _ e h => ⟨e.trans h.1, h.2⟩) _ (SubH.refl _) ?_) | (refine And.intro (SubH.new (by assumption)) ?_) | (refine allNew_intro fun zr zh => ?_; have zg := zh; (try simp only [AH.set_none] at zg)) | (exact SubH.refl _) | (refine SubH.of_set ?_ ?_) | assumption))
      refine ⟨_, rfl, ?_⟩
      have := GhV.own ho
      simpa using this
def soundGuard (rows : List Row) (ls : List Line) (x : List Int) : Bool := !(fewF rows ls 500) || x.any (fun n => decide (1000 < n))
def soundRows (d : List Row) (x : List Int) : Bool := d.all fun r => decide (r.c.length ≤ x.length) && fulF r x
def soundF (rows : List Row) (ls : List Line) (x : List Int) : Bool :=
  if soundGuard rows ls x = true then true
  else if (holdsF rows x).2 = 0 ∧ (deriveF rows ls).2 = 0 ∧ (holdsF rows x).1 = true then soundRows (deriveF rows ls).1 x && decide (checkF rows ls ≠ 0)
  else true
theorem few_len {rows : List Row} {ls : List Line} {m : Int} (h : fewF rows ls m = true) : (rows.length : Int) ≤ 110 ∧ (ls.length : Int) ≤ m ∧ ∀ r ∈ rows, (r.c.length : Int) ≤ 20 := by
  simp only [fewF, Bool.and_eq_true, decide_eq_true_eq, Bool.not_eq_true', List.any_eq_false] at h
  exact ⟨h.1.1, h.1.2, fun r hr => by have := h.2 r hr; simpa using this⟩
theorem sound5 (rows : List Row) (ls : List Line) (x : List Int) (h1 : (rows.length : Int) ≤ 9223372036854775806) (h3 : (x.length : Int) ≤ 17592186044416) : PureF Try.prog 5 [rowsV rows, linesV ls, intsV x] (boolV (soundF rows ls x)) := by
  refine PureF.forget fun H => ?_
  refine vcalls_intro fd5 (by simp) ?_
  unfold c5
  have h3' : (x.length : Int) ≤ 9223372036854775806 := by omega
  by_cases hf : fewF rows ls 500 = true
  · obtain ⟨f1, f2, f3⟩ := few_len hf
    have f1' : (rows.length : Int) ≤ 1000000 := by omega
    have f2' : (ls.length : Int) ≤ 1000000 := by omega
    have f3' : ∀ r ∈ rows, (r.c.length : Int) ≤ 1000000 := fun r hr => by have := f3 r hr; omega
    have f2'' : (ls.length : Int) ≤ 9223372036854775806 := by omega
    by_cases ha : x.any (fun n => decide (1000 < n)) = true
    · have hg : soundF rows ls x = true := by unfold soundF; rw [if_pos (by simp only [soundGuard, ha, Bool.or_true])]
      (repeat' (first | (refine contains16 (p := fun n => decide (1000 < n)) h3' (fun x _ => FnAt.lit en_23 (sound23 x)) ?_) | (simp only [↓s_reg, ↓s_seq, ↓s_cond, ↓s_condT, ↓s_ret, ↓s_nil, ↓s_consN, ↓s_consG, ↓s_guardFF, ↓s_thenN, ↓s_thenR, ↓s_kret, ↓s_putS, ↓s_dOkS, ↓s_ev_t, ↓s_ev_c, ↓s_ev_f, ↓s_upd, ↓s_move, ↓s_assign, ↓s_isBool, ↓s_pickA, ↓s_pick, ↓s_un, ↓s_callV, ↓s_callL, ↓s_un_not, boolV, List.map_cons, List.map_nil, List.getD_cons_zero, List.getD_cons_succ, List.getD_nil, ite_true, ite_false, Nat.reduceEqDiff, Nat.reduceLT, true_and, Bool.false_eq_true, Nat.succ_ne_self, Bool.not_true, reduceCtorEq, undefV, eq_self, undef, en_7, en_16, en_8, *]) | (refine guardL_splitTD ?_ ?_ <;> intro) | (refine guardL_splitFD ?_ ?_ <;> intro) | (refine guardP_splitTD ?_ ?_ <;> intro) | (refine guardP_splitFD ?_ ?_ <;> intro) | (refine condL_splitD ?_ ?_ <;> intro) | (refine guardL_splitT ?_ ?_ <;> intro) | (refine guardL_splitF ?_ ?_ <;> intro) | (refine guardP_splitT ?_ ?_ <;> intro) | (refine guardP_splitF ?_ ?_ <;> intro) | (refine condL_split ?_ ?_ <;> intro) | (refine ret_tmp ?_) | (refine acx_go rfl (fun _ _ _ h => h) ?_) | (refine acx_dreg mixed (fun _ _ _ _ e h => ⟨e.trans h.1, h.2⟩) _ (SubH.refl _) ?_) | (refine And.intro (SubH.new (by assumption)) ?_) | (refine allNew_intro fun zr zh => ?_; have zg := zh; (try simp only [AH.set_none] at zg)) | (exact SubH.refl _) | (refine SubH.of_set ?_ ?_) | assumption | (refine PureF.use (few7 rows ls 500 h1) ?_) | (refine PureF.use (awake8) ?_) | (with_reducible refine And.intro ?_ ?_)))
    · have ha' : x.any (fun n => decide (1000 < n)) = false := by simpa using ha
      have hgu : soundF rows ls x = if (holdsF rows x).2 = 0 ∧ (deriveF rows ls).2 = 0 ∧ (holdsF rows x).1 = true then soundRows (deriveF rows ls).1 x && decide (checkF rows ls ≠ 0) else true := by
        unfold soundF; rw [if_neg (by simp only [soundGuard, hf, ha', Bool.not_true, Bool.or_false]; simp)]
      have hdl := deriveF_len rows ls
      have hdo := deriveF_ok rows ls
      by_cases c1 : (holdsF rows x).2 = 0
      · by_cases c2 : (deriveF rows ls).2 = 0
        · cases c3 : (holdsF rows x).1 with
          | true =>
            rw [if_pos ⟨c1, c2, c3⟩] at hgu
            (repeat' (first | (refine contains16 (p := fun n => decide (1000 < n)) h3' (fun x _ => FnAt.lit en_23 (sound23 x)) ?_) | (simp only [↓s_skip, ↓s_reg, ↓s_seq, ↓s_seqL, ↓s_cond, ↓s_condF, ↓s_block, ↓s_loop, ↓s_nil, ↓s_consN, ↓s_consG, ↓s_guardFF, ↓s_thenN, ↓s_kret, ↓s_putS, ↓s_dOkS, ↓s_ev_t, ↓s_ev_c, ↓s_ev_f, ↓s_upd, ↓s_move, ↓s_assign, ↓s_isBool, ↓s_pickA, ↓s_pick, ↓s_bin, ↓s_un, ↓s_extract, ↓s_callB, ↓s_callV, ↓s_callL, ↓s_len, ↓s_un_not, ↓s_bin_neq, vcExtract, intV, boolV, List.map_cons, List.map_nil, List.getD_cons_zero, List.getD_cons_succ, List.getD_nil, ite_true, ite_false, Nat.reduceEqDiff, Nat.reduceLT, ne_eq, not_false_eq_true, true_and, Bool.false_eq_true, Nat.succ_ne_self, decide_true, Bool.not_true, reduceCtorEq, undefV, eq_self, List.getElem?_cons_zero, List.getElem?_cons_succ, n_lenS, undef, elT_31, en_7, en_16, en_12, en_25, en_24, en_21, en_22, *]) | (refine guardL_splitTD ?_ ?_ <;> intro) | (refine guardL_splitFD ?_ ?_ <;> intro) | (refine guardP_splitTD ?_ ?_ <;> intro) | (refine guardP_splitFD ?_ ?_ <;> intro) | (refine condL_splitD ?_ ?_ <;> intro) | (refine guardL_splitT ?_ ?_ <;> intro) | (refine guardL_splitF ?_ ?_ <;> intro) | (refine guardP_splitT ?_ ?_ <;> intro) | (refine guardP_splitF ?_ ?_ <;> intro) | (refine condL_split ?_ ?_ <;> intro) | (refine ret_tmp ?_) | (refine acx_go rfl (fun _ _ _ h => h) ?_) | (refine acx_dreg mixed (fun _ _ _ _ e h => ⟨e.trans h.1, h.2⟩) _ (SubH.refl _) ?_) | (refine And.intro (SubH.new (by assumption)) ?_) | (refine allNew_intro fun zr zh => ?_; have zg := zh; (try simp only [AH.set_none] at zg)) | (exact SubH.refl _) | (refine SubH.of_set ?_ ?_) | assumption | (refine PureF.use (few7 rows ls 500 h1) ?_) | (refine PureF.use (awake8) ?_) | (refine PureF.use (rows12P rows f1' f3') ?_) | (refine PureF.use (lines21P ls f2') ?_) | (refine PureF.use (clone25b x h3) ?_) | (refine PureF.use (holds24 rows x h1 h3') ?_) | (refine PureF.use (derive22 rows ls h1 f2'') ?_) | (with_reducible refine And.intro ?_ ?_)))
            obtain ⟨d, hd⟩ : ∃ d, d = (deriveF rows ls).1 := ⟨_, rfl⟩
            rw [← hd] at hdl hdo ⊢
            have hck := check13 rows ls h1 f2''
            clear hgu hd ha'
            refine acx_loop (fun _ _ _ h => h) (fun A H' => SubH H H' ∧ A.d = [] ∧ A.t 0 = rowsV rows ∧ A.t 1 = linesV ls ∧ A.t 2 = intsV x ∧ A.t 49 = rowsV d ∧ A.t 50 = iV d.length ∧ ∃ i : Nat, i ≤ d.length ∧ A.t 51 = iV i ∧ soundRows d x = soundRows (d.drop i) x)
              (fun A _ => match A.t 51 with | .lit (.int _ i) => ((d.length : Int) - i).toNat | _ => 0) ?_ ?_
            · exact ⟨SubH.refl _, rfl, rfl, rfl, rfl, rfl, rfl, 0, by omega, rfl, rfl⟩
            · rintro ⟨t, e⟩ H' ⟨hs, rfl, h0, ht1, h2, h49, h50, i, hi, h51, hgo⟩
              dsimp only at h0 ht1 h2 h49 h50 h51
              have hHn : ∀ r, H' r = none → H r = none := fun r hr => hs.none hr
              by_cases hb : i < d.length
              · have hst : soundRows (d.drop i) x = ((decide (d[i].c.length ≤ x.length) && fulF d[i] x) && soundRows (d.drop (i + 1)) x) := by
                  rw [List.drop_eq_getElem_cons hb]; rfl
                rw [hst] at hgo
                clear hst
                by_cases c5 : (x.length : Int) < (d[i].c.length : Int)
                · have hgo2 : soundRows d x = false := by rw [hgo, decide_eq_false (by omega)]; rfl
                  clear hgo
                  (repeat' (first | (simp only [↓s_skip, ↓s_reg, ↓s_seq, ↓s_cond, ↓s_condT, ↓s_block, ↓s_ret, ↓s_nil, ↓s_consN, ↓s_consG, ↓s_guardTF, ↓s_thenN, ↓s_thenR, ↓s_inR, ↓s_kret, ↓s_putS, ↓s_putN, ↓s_dOkS, ↓s_dOkN, ↓s_ev_t, ↓s_ev_c, ↓s_ev_f, ↓s_upd, ↓s_move, ↓s_assign, ↓s_isBool, ↓s_pickA, ↓s_pick, ↓s_load, ↓s_store, ↓s_bin, ↓s_alloc, ↓s_fieldAddr, ↓s_indexAddr, ↓s_callB, ↓s_len, ↓s_bin_lss, ↓s_bin_gtr, ptrV, intV, List.map_cons, List.map_nil, List.length_cons, List.length_nil, ite_true, ite_false, Nat.reduceEqDiff, Nat.reduceLT, Nat.reduceAdd, ne_eq, not_false_eq_true, true_and, Nat.succ_ne_self, decide_true, Bool.false_and, reduceCtorEq, Int.natCast_nonneg, Int.toNat_natCast, callOk, undefV, AH.get, AH.set_set, setAt, List.all_cons, List.all_nil, Bool.and_self, eq_self, Nat.zero_add, Nat.add_zero, List.drop, and_self, ldV_f, ldV_t2, Int.ofNat_lt, on_int, cl_agg, on_slice, List.set_cons_zero, List.set_cons_succ, ↓n_alloc, n_allocS, Nat.le_refl, n_ldI, n_ldP, n_faP, n_ixS, n_ixA1, n_lenS, n_ldA, n_ldC, n_ldB, n_faA, n_stP, n_stA, undef, rows_drop, flT_50_0, ldT_50, ldT_37, szT_50, zeroT_50, elT_31, elT_37, en_26, *]) | (refine guardL_splitTD ?_ ?_ <;> intro) | (refine guardL_splitFD ?_ ?_ <;> intro) | (refine guardP_splitTD ?_ ?_ <;> intro) | (refine guardP_splitFD ?_ ?_ <;> intro) | (refine condL_splitD ?_ ?_ <;> intro) | (refine guardL_splitT ?_ ?_ <;> intro) | (refine guardL_splitF ?_ ?_ <;> intro) | (refine guardP_splitT ?_ ?_ <;> intro) | (refine guardP_splitF ?_ ?_ <;> intro) | (refine condL_split ?_ ?_ <;> intro) | (refine ret_tmp ?_) | (refine acx_go rfl (fun _ _ _ h => h) ?_) | (refine acx_dreg mixed (fun _ _ _ _ e h => ⟨e.trans h.1, h.2⟩) _ (SubH.refl _) ?_) | (refine And.intro (SubH.new (by assumption)) ?_) | (refine allNew_intro fun zr zh => ?_; have zg := zh; (try simp only [AH.set_none] at zg)) | (exact SubH.refl _) | (refine SubH.of_set ?_ ?_) | assumption | (with_reducible refine And.intro ?_ ?_)))
                · cases c6 : fulF d[i] x with
                  | false =>
                    have hgo2 : soundRows d x = false := by rw [hgo, c6]; simp
                    clear hgo
                    (repeat' (first | (simp only [↓s_skip, ↓s_reg, ↓s_seq, ↓s_cond, ↓s_condT, ↓s_block, ↓s_ret, ↓s_nil, ↓s_consN, ↓s_consG, ↓s_guardFF, ↓s_thenN, ↓s_thenR, ↓s_inR, ↓s_kret, ↓s_putS, ↓s_putN, ↓s_dOkS, ↓s_dOkN, ↓s_ev_t, ↓s_ev_c, ↓s_ev_f, ↓s_upd, ↓s_move, ↓s_assign, ↓s_isBool, ↓s_pickA, ↓s_pick, ↓s_load, ↓s_store, ↓s_bin, ↓s_un, ↓s_alloc, ↓s_fieldAddr, ↓s_indexAddr, ↓s_callB, ↓s_callV, ↓s_callL, ↓s_len, ↓s_un_not, ↓s_bin_lss, ↓s_bin_gtr, ptrV, intV, boolV, List.map_cons, List.map_nil, List.length_cons, List.length_nil, ite_true, ite_false, Nat.reduceEqDiff, Nat.reduceLT, Nat.reduceAdd, ne_eq, not_false_eq_true, true_and, Bool.false_eq_true, Nat.succ_ne_self, decide_true, decide_false, Bool.not_false, Bool.false_and, reduceCtorEq, Int.natCast_nonneg, Int.toNat_natCast, AH.get, AH.set_set, setAt, List.all_cons, List.all_nil, Bool.and_self, eq_self, Nat.zero_add, Nat.add_zero, List.drop, and_self, ldV_f, ldV_t2, Int.ofNat_lt, on_int, cl_agg, on_slice, List.set_cons_zero, List.set_cons_succ, ↓n_alloc, n_allocS, Nat.le_refl, n_ldI, n_ldP, n_faP, n_ixS, n_ixA1, n_lenS, n_ldA, n_ldC, n_ldB, n_faA, n_stP, n_stA, rows_drop, flT_50_0, ldT_50, ldT_37, szT_50, zeroT_50, elT_31, elT_37, en_26, *]) | (refine guardL_splitTD ?_ ?_ <;> intro) | (refine guardL_splitFD ?_ ?_ <;> intro) | (refine guardP_splitTD ?_ ?_ <;> intro) | (refine guardP_splitFD ?_ ?_ <;> intro) | (refine condL_splitD ?_ ?_ <;> intro) | (refine guardL_splitT ?_ ?_ <;> intro) | (refine guardL_splitF ?_ ?_ <;> intro) | (refine guardP_splitT ?_ ?_ <;> intro) | (refine guardP_splitF ?_ ?_ <;> intro) | (refine condL_split ?_ ?_ <;> intro) | (refine ret_tmp ?_) | (refine acx_go rfl (fun _ _ _ h => h) ?_) | (refine acx_dreg mixed (fun _ _ _ _ e h => ⟨e.trans h.1, h.2⟩) _ (SubH.refl _) ?_) | (refine And.intro (SubH.new (by assumption)) ?_) | (refine allNew_intro fun zr zh => ?_; have zg := zh; (try simp only [AH.set_none] at zg)) | (exact SubH.refl _) | (refine SubH.of_set ?_ ?_) | assumption | (refine PureF.use (fulfils26 d[i] x h3') ?_) | (with_reducible refine And.intro ?_ ?_)))
                  | true =>
                    have hgo2 : soundRows d x = soundRows (d.drop (i + 1)) x := by rw [hgo, c6, decide_eq_true (by omega)]; rfl
                    clear hgo
                    (repeat' (first | (simp only [↓s_skip, ↓s_reg, ↓s_seq, ↓s_cond, ↓s_condT, ↓s_condF, ↓s_block, ↓s_nil, ↓s_consN, ↓s_consG, ↓s_guardFF, ↓s_thenN, ↓s_inN, ↓s_kret, ↓s_putS, ↓s_putN, ↓s_dOkS, ↓s_dOkN, ↓s_ev_t, ↓s_ev_c, ↓s_ev_f, ↓s_upd, ↓s_move, ↓s_isBool, ↓s_pickA, ↓s_pick, ↓s_load, ↓s_store, ↓s_bin, ↓s_un, ↓s_alloc, ↓s_fieldAddr, ↓s_indexAddr, ↓s_callB, ↓s_callV, ↓s_callL, ↓s_len, ↓s_un_not, ↓s_bin_lss, ↓s_bin_gtr, ↓s_bin_add, ptrV, intV, boolV, List.map_cons, List.map_nil, List.length_cons, List.length_nil, ite_true, ite_false, Nat.reduceEqDiff, Nat.reduceLT, Nat.reduceAdd, ne_eq, not_false_eq_true, true_and, Bool.false_eq_true, Nat.succ_ne_self, decide_true, decide_false, Bool.not_true, reduceCtorEq, Int.natCast_nonneg, Int.toNat_natCast, AH.get, AH.set_set, setAt, List.all_cons, List.all_nil, Bool.and_self, eq_self, Nat.zero_add, Nat.add_zero, List.drop, and_self, ldV_f, ldV_t2, Int.ofNat_lt, on_int, cl_agg, on_slice, List.set_cons_zero, List.set_cons_succ, ↓n_alloc, n_allocS, Nat.le_refl, n_ldI, n_ldP, n_faP, n_ixS, n_ixA1, n_lenS, n_ldA, n_ldC, n_ldB, n_faA, n_stP, n_stA, rows_drop, flT_50_0, ldT_50, ldT_37, szT_50, zeroT_50, elT_31, elT_37, en_26, *]) | (refine guardL_splitTD ?_ ?_ <;> intro) | (refine guardL_splitFD ?_ ?_ <;> intro) | (refine guardP_splitTD ?_ ?_ <;> intro) | (refine guardP_splitFD ?_ ?_ <;> intro) | (refine condL_splitD ?_ ?_ <;> intro) | (refine guardL_splitT ?_ ?_ <;> intro) | (refine guardL_splitF ?_ ?_ <;> intro) | (refine guardP_splitT ?_ ?_ <;> intro) | (refine guardP_splitF ?_ ?_ <;> intro) | (refine condL_split ?_ ?_ <;> intro) | (refine ret_tmp ?_) | (refine acx_go rfl (fun _ _ _ h => h) ?_) | (refine acx_dreg mixed (fun _ _ _ _ e h => ⟨e.trans h.1, h.2⟩) _ (SubH.refl _) ?_) | (refine And.intro (SubH.new (by assumption)) ?_) | (refine allNew_intro fun zr zh => ?_; have zg := zh; (try simp only [AH.set_none] at zg)) | (exact SubH.refl _) | (refine SubH.of_set ?_ ?_) | assumption | (refine PureF.use (fulfils26 d[i] x h3') ?_) | (with_reducible refine And.intro ?_ ?_)))
                    · rw [wrap_ok (n := (i : Int) + 1) (by omega) (by omega)]
                      exact ⟨i + 1, by omega, rfl, rfl⟩
                    · rw [wrap_ok (n := (i : Int) + 1) (by omega) (by omega)]; omega
              · have hgo2 : soundRows d x = true := by rw [hgo, List.drop_eq_nil_of_le (by omega)]; rfl
                clear hgo
                by_cases c7 : checkF rows ls = 0
                · (repeat' (first | (simp only [↓s_reg, ↓s_seq, ↓s_cond, ↓s_condF, ↓s_exit, ↓s_ret, ↓s_nil, ↓s_consN, ↓s_consG, ↓s_guardFT, ↓s_thenN, ↓s_thenE, ↓s_inE, ↓s_kret, ↓s_putS, ↓s_dOkS, ↓s_ev_t, ↓s_ev_c, ↓s_ev_f, ↓s_upd, ↓s_move, ↓s_assign, ↓s_isBool, ↓s_pickA, ↓s_pick, ↓s_bin, ↓s_callV, ↓s_callL, ↓s_bin_lss, ↓s_bin_neq, List.map_cons, List.map_nil, ite_true, ite_false, Nat.reduceEqDiff, Nat.reduceLT, not_true_eq_false, true_and, Bool.false_eq_true, Nat.succ_ne_self, decide_true, decide_false, Bool.not_true, Bool.and_false, reduceCtorEq, callOk, undefV, eq_self, and_self, Int.ofNat_lt, undef, en_8, en_12, en_21, en_13, *]) | (refine guardL_splitTD ?_ ?_ <;> intro) | (refine guardL_splitFD ?_ ?_ <;> intro) | (refine guardP_splitTD ?_ ?_ <;> intro) | (refine guardP_splitFD ?_ ?_ <;> intro) | (refine condL_splitD ?_ ?_ <;> intro) | (refine guardL_splitT ?_ ?_ <;> intro) | (refine guardL_splitF ?_ ?_ <;> intro) | (refine guardP_splitT ?_ ?_ <;> intro) | (refine guardP_splitF ?_ ?_ <;> intro) | (refine condL_split ?_ ?_ <;> intro) | (refine ret_tmp ?_) | (refine acx_go rfl (fun _ _ _ h => h) ?_) | (refine acx_dreg mixed (fun _ _ _ _ e h => ⟨e.trans h.1, h.2⟩) _ (SubH.refl _) ?_) | (refine And.intro (SubH.new (by assumption)) ?_) | (refine allNew_intro fun zr zh => ?_; have zg := zh; (try simp only [AH.set_none] at zg)) | (exact SubH.refl _) | (refine SubH.of_set ?_ ?_) | assumption | (refine PureF.use (rows12P rows f1' f3') ?_) | (refine PureF.use (lines21P ls f2') ?_) | (refine PureF.use (hck) ?_) | (refine PureF.use (awake8) ?_) | (with_reducible refine And.intro ?_ ?_)))
                · (repeat' (first | (simp only [↓s_reg, ↓s_seq, ↓s_cond, ↓s_condF, ↓s_exit, ↓s_ret, ↓s_nil, ↓s_consN, ↓s_consG, ↓s_guardTT, ↓s_thenN, ↓s_thenE, ↓s_inE, ↓s_kret, ↓s_putS, ↓s_dOkS, ↓s_ev_t, ↓s_ev_c, ↓s_ev_f, ↓s_upd, ↓s_move, ↓s_assign, ↓s_isBool, ↓s_pickA, ↓s_pick, ↓s_bin, ↓s_callV, ↓s_callL, ↓s_bin_lss, ↓s_bin_neq, boolV, List.map_cons, List.map_nil, ite_true, ite_false, Nat.reduceEqDiff, Nat.reduceLT, not_false_eq_true, true_and, Nat.succ_ne_self, decide_true, decide_false, Bool.not_false, reduceCtorEq, Bool.and_self, eq_self, and_self, Int.ofNat_lt, en_8, en_12, en_21, en_13, *]) | (refine guardL_splitTD ?_ ?_ <;> intro) | (refine guardL_splitFD ?_ ?_ <;> intro) | (refine guardP_splitTD ?_ ?_ <;> intro) | (refine guardP_splitFD ?_ ?_ <;> intro) | (refine condL_splitD ?_ ?_ <;> intro) | (refine guardL_splitT ?_ ?_ <;> intro) | (refine guardL_splitF ?_ ?_ <;> intro) | (refine guardP_splitT ?_ ?_ <;> intro) | (refine guardP_splitF ?_ ?_ <;> intro) | (refine condL_split ?_ ?_ <;> intro) | (refine ret_tmp ?_) | (refine acx_go rfl (fun _ _ _ h => h) ?_) | (refine acx_dreg mixed (fun _ _ _ _ e h => ⟨e.trans h.1, h.2⟩) _ (SubH.refl _) ?_) | (refine And.intro (SubH.new (by assumption)) ?_) | (refine allNew_intro fun zr zh => ?_; have zg := zh; (try simp only [AH.set_none] at zg)) | (exact SubH.refl _) | (refine SubH.of_set ?_ ?_) | assumption | (refine PureF.use (rows12P rows f1' f3') ?_) | (refine PureF.use (lines21P ls f2') ?_) | (refine PureF.use (hck) ?_) | (refine PureF.use (awake8) ?_) | (with_reducible refine And.intro ?_ ?_)))
          | false =>
            rw [if_neg (by simp [c3])] at hgu
            (repeat' (first | (refine contains16 (p := fun n => decide (1000 < n)) h3' (fun x _ => FnAt.lit en_23 (sound23 x)) ?_) | (simp only [↓s_skip, ↓s_reg, ↓s_seq, ↓s_cond, ↓s_condT, ↓s_condF, ↓s_ret, ↓s_nil, ↓s_consN, ↓s_consG, ↓s_guardFF, ↓s_thenN, ↓s_thenR, ↓s_kret, ↓s_putS, ↓s_dOkS, ↓s_ev_t, ↓s_ev_c, ↓s_ev_f, ↓s_upd, ↓s_move, ↓s_assign, ↓s_isBool, ↓s_pickA, ↓s_pick, ↓s_bin, ↓s_un, ↓s_extract, ↓s_callV, ↓s_callL, ↓s_un_not, ↓s_bin_neq, vcExtract, boolV, List.map_cons, List.map_nil, List.getD_cons_zero, List.getD_cons_succ, List.getD_nil, ite_true, ite_false, Nat.reduceEqDiff, Nat.reduceLT, true_and, Bool.false_eq_true, Nat.succ_ne_self, decide_true, Bool.not_true, Bool.not_false, reduceCtorEq, undefV, eq_self, List.getElem?_cons_zero, List.getElem?_cons_succ, undef, en_7, en_16, en_8, en_12, en_25, en_24, en_21, en_22, *]) | (refine guardL_splitTD ?_ ?_ <;> intro) | (refine guardL_splitFD ?_ ?_ <;> intro) | (refine guardP_splitTD ?_ ?_ <;> intro) | (refine guardP_splitFD ?_ ?_ <;> intro) | (refine condL_splitD ?_ ?_ <;> intro) | (refine guardL_splitT ?_ ?_ <;> intro) | (refine guardL_splitF ?_ ?_ <;> intro) | (refine guardP_splitT ?_ ?_ <;> intro) | (refine guardP_splitF ?_ ?_ <;> intro) | (refine condL_split ?_ ?_ <;> intro) | (refine ret_tmp ?_) | (refine acx_go rfl (fun _ _ _ h => h) ?_) | (refine acx_dreg mixed (fun _ _ _ _ e h => ⟨e.trans h.1, h.2⟩) _ (SubH.refl _) ?_) | (refine And.intro (SubH.new (by assumption)) ?_) | (refine allNew_intro fun zr zh => ?_; have zg := zh; (try simp only [AH.set_none] at zg)) | (exact SubH.refl _) | (refine SubH.of_set ?_ ?_) | assumption | (refine PureF.use (few7 rows ls 500 h1) ?_) | (refine PureF.use (awake8) ?_) | (refine PureF.use (rows12P rows f1' f3') ?_) | (refine PureF.use (lines21P ls f2') ?_) | (refine PureF.use (clone25b x h3) ?_) | (refine PureF.use (holds24 rows x h1 h3') ?_) | (refine PureF.use (derive22 rows ls h1 f2'') ?_) | (with_reducible refine And.intro ?_ ?_)))
        · rw [if_neg (fun e => c2 e.2.1)] at hgu
          (repeat' (first | (refine contains16 (p := fun n => decide (1000 < n)) h3' (fun x _ => FnAt.lit en_23 (sound23 x)) ?_) | (simp only [↓s_skip, ↓s_reg, ↓s_seq, ↓s_cond, ↓s_condT, ↓s_condF, ↓s_ret, ↓s_nil, ↓s_consN, ↓s_consG, ↓s_guardTF, ↓s_guardFF, ↓s_thenN, ↓s_thenR, ↓s_kret, ↓s_putS, ↓s_dOkS, ↓s_ev_t, ↓s_ev_c, ↓s_ev_f, ↓s_upd, ↓s_move, ↓s_assign, ↓s_isBool, ↓s_pickA, ↓s_pick, ↓s_bin, ↓s_un, ↓s_extract, ↓s_callV, ↓s_callL, ↓s_un_not, ↓s_bin_neq, vcExtract, boolV, List.map_cons, List.map_nil, List.getD_cons_zero, List.getD_cons_succ, List.getD_nil, ite_true, ite_false, Nat.reduceEqDiff, Nat.reduceLT, true_and, Bool.false_eq_true, Nat.succ_ne_self, decide_true, decide_false, Bool.not_true, Bool.not_false, reduceCtorEq, callOk, undefV, eq_self, List.getElem?_cons_zero, List.getElem?_cons_succ, undef, en_7, en_16, en_8, en_12, en_25, en_24, en_21, en_22, *]) | (refine guardL_splitTD ?_ ?_ <;> intro) | (refine guardL_splitFD ?_ ?_ <;> intro) | (refine guardP_splitTD ?_ ?_ <;> intro) | (refine guardP_splitFD ?_ ?_ <;> intro) | (refine condL_splitD ?_ ?_ <;> intro) | (refine guardL_splitT ?_ ?_ <;> intro) | (refine guardL_splitF ?_ ?_ <;> intro) | (refine guardP_splitT ?_ ?_ <;> intro) | (refine guardP_splitF ?_ ?_ <;> intro) | (refine condL_split ?_ ?_ <;> intro) | (refine ret_tmp ?_) | (refine acx_go rfl (fun _ _ _ h => h) ?_) | (refine acx_dreg mixed (fun _ _ _ _ e h => ⟨e.trans h.1, h.2⟩) _ (SubH.refl _) ?_) | (refine And.intro (SubH.new (by assumption)) ?_) | (refine allNew_intro fun zr zh => ?_; have zg := zh; (try simp only [AH.set_none] at zg)) | (exact SubH.refl _) | (refine SubH.of_set ?_ ?_) | assumption | (refine PureF.use (few7 rows ls 500 h1) ?_) | (refine PureF.use (awake8) ?_) | (refine PureF.use (rows12P rows f1' f3') ?_) | (refine PureF.use (lines21P ls f2') ?_) | (refine PureF.use (clone25b x h3) ?_) | (refine PureF.use (holds24 rows x h1 h3') ?_) | (refine PureF.use (derive22 rows ls h1 f2'') ?_) | (with_reducible refine And.intro ?_ ?_)))
      · rw [if_neg (fun e => c1 e.1)] at hgu
        (repeat' (first | (refine contains16 (p := fun n => decide (1000 < n)) h3' (fun x _ => FnAt.lit en_23 (sound23 x)) ?_) | (simp only [↓s_skip, ↓s_reg, ↓s_seq, ↓s_cond, ↓s_condT, ↓s_condF, ↓s_ret, ↓s_nil, ↓s_consN, ↓s_consG, ↓s_guardTF, ↓s_guardFF, ↓s_thenN, ↓s_thenR, ↓s_kret, ↓s_putS, ↓s_dOkS, ↓s_ev_t, ↓s_ev_c, ↓s_ev_f, ↓s_upd, ↓s_move, ↓s_assign, ↓s_isBool, ↓s_pickA, ↓s_pick, ↓s_bin, ↓s_un, ↓s_extract, ↓s_callV, ↓s_callL, ↓s_un_not, ↓s_bin_neq, vcExtract, boolV, List.map_cons, List.map_nil, List.getD_cons_zero, List.getD_cons_succ, List.getD_nil, ite_true, ite_false, Nat.reduceEqDiff, Nat.reduceLT, true_and, Bool.false_eq_true, Nat.succ_ne_self, decide_false, Bool.not_true, Bool.not_false, reduceCtorEq, callOk, undefV, eq_self, List.getElem?_cons_zero, List.getElem?_cons_succ, undef, en_7, en_16, en_8, en_12, en_25, en_24, en_21, en_22, *]) | (refine guardL_splitTD ?_ ?_ <;> intro) | (refine guardL_splitFD ?_ ?_ <;> intro) | (refine guardP_splitTD ?_ ?_ <;> intro) | (refine guardP_splitFD ?_ ?_ <;> intro) | (refine condL_splitD ?_ ?_ <;> intro) | (refine guardL_splitT ?_ ?_ <;> intro) | (refine guardL_splitF ?_ ?_ <;> intro) | (refine guardP_splitT ?_ ?_ <;> intro) | (refine guardP_splitF ?_ ?_ <;> intro) | (refine condL_split ?_ ?_ <;> intro) | (refine ret_tmp ?_) | (refine acx_go rfl (fun _ _ _ h => h) ?_) | (refine acx_dreg mixed (fun _ _ _ _ e h => ⟨e.trans h.1, h.2⟩) _ (SubH.refl _) ?_) | (refine And.intro (SubH.new (by assumption)) ?_) | (refine allNew_intro fun zr zh => ?_; have zg := zh; (try simp only [AH.set_none] at zg)) | (exact SubH.refl _) | (refine SubH.of_set ?_ ?_) | assumption | (refine PureF.use (few7 rows ls 500 h1) ?_) | (refine PureF.use (awake8) ?_) | (refine PureF.use (rows12P rows f1' f3') ?_) | (refine PureF.use (lines21P ls f2') ?_) | (refine PureF.use (clone25b x h3) ?_) | (refine PureF.use (holds24 rows x h1 h3') ?_) | (refine PureF.use (derive22 rows ls h1 f2'') ?_) | (with_reducible refine And.intro ?_ ?_)))
  · have hf' : fewF rows ls 500 = false := by simpa using hf
    have hg : soundF rows ls x = true := by unfold soundF; rw [if_pos (by simp only [soundGuard, hf', Bool.not_false, Bool.true_or])]
    (repeat' (first | (simp only [↓s_reg, ↓s_seq, ↓s_cond, ↓s_condT, ↓s_ret, ↓s_nil, ↓s_consN, ↓s_consG, ↓s_guardTF, ↓s_thenN, ↓s_thenR, ↓s_kret, ↓s_putS, ↓s_dOkS, ↓s_ev_t, ↓s_ev_c, ↓s_ev_f, ↓s_upd, ↓s_move, ↓s_assign, ↓s_isBool, ↓s_pickA, ↓s_pick, ↓s_un, ↓s_callV, ↓s_callL, ↓s_un_not, boolV, List.map_cons, List.map_nil, List.getD_cons_zero, List.getD_cons_succ, List.getD_nil, ite_true, ite_false, Nat.reduceEqDiff, Nat.reduceLT, true_and, Nat.succ_ne_self, Bool.not_false, reduceCtorEq, callOk, undefV, eq_self, undef, en_7, en_16, en_8, *]) | (refine guardL_splitTD ?_ ?_ <;> intro) | (refine guardL_splitFD ?_ ?_ <;> intro) | (refine guardP_splitTD ?_ ?_ <;> intro) | (refine guardP_splitFD ?_ ?_ <;> intro) | (refine condL_splitD ?_ ?_ <;> intro) | (refine guardL_splitT ?_ ?_ <;> intro) | (refine guardL_splitF ?_ ?_ <;> intro) | (refine guardP_splitT ?_ ?_ <;> intro) | (refine guardP_splitF ?_ ?_ <;> intro) | (refine condL_split ?_ ?_ <;> intro) | (refine ret_tmp ?_) | (refine acx_go rfl (fun _ _ _ h => h) ?_) | (refine acx_dreg mixed (fun _ _ _ _ e h => ⟨e.trans h.1, h.2⟩) _ (SubH.refl _) ?_) | (refine And.intro (SubH.new (by assumption)) ?_) | (refine allNew_intro fun zr zh => ?_; have zg := zh; (try simp only [AH.set_none] at zg)) | (exact SubH.refl _) | (refine SubH.of_set ?_ ?_) | assumption | (refine PureF.use (few7 rows ls 500 h1) ?_) | (refine PureF.use (awake8) ?_) | (with_reducible refine And.intro ?_ ?_)))
end Go.PV.Ytefpjfpelicedaa
end
section
/- Numbers that fulfil rows fulfil what lines make of them. -/
set_option linter.unusedVariables false
set_option linter.unusedSimpArgs false
set_option maxRecDepth 20000
set_option maxHeartbeats 4000000
namespace Go.PV.Ytefpjfpelicedaa
def dot : List Int → List Int → Int
  | c :: cs, y :: ys => c * y + dot cs ys
  | _, _ => 0
def SmallC (cs : List Int) : Prop := ∀ c ∈ cs, -1000000000000 ≤ c ∧ c ≤ 1000000000000
def SmallX (xs : List Int) : Prop := ∀ y ∈ xs, 0 ≤ y ∧ y ≤ 1000
theorem mul_small {c y : Int} (h1 : -1000000000000 ≤ c ∧ c ≤ 1000000000000) (h2 : 0 ≤ y ∧ y ≤ 1000) : -1000000000000000 ≤ c * y ∧ c * y ≤ 1000000000000000 := by
  have a := Int.mul_le_mul_of_nonneg_right h1.1 h2.1
  have b := Int.mul_le_mul_of_nonneg_right h1.2 h2.1
  constructor <;> omega
theorem dotGo_eq {M E : Int} (hM : M = 9000000000000000000) (hE : E = 1000000000000000) : ∀ (cs ys : List Int) (s : Int), SmallC cs → SmallX ys → -(M - cs.length * E) ≤ s → s ≤ M - cs.length * E → dotGo cs ys s = s + dot cs ys
  | [], ys, s, _, _, _, _ => by cases ys <;> simp [dotGo, dot]
  | c :: cs, [], s, _, _, _, _ => by simp [dotGo, dot]
  | c :: cs, y :: ys, s, h1, h2, h3, h4 => by
    have hm := mul_small (h1 c (List.mem_cons_self ..)) (h2 y (List.mem_cons_self ..))
    simp only [List.length_cons, Int.natCast_add, Int.natCast_one, hM, hE] at h3 h4
    have w1 : W (c * y) = c * y := wrap_ok (by omega) (by omega)
    have w2 : W (s + c * y) = s + c * y := wrap_ok (by omega) (by omega)
    simp only [dotGo, dot]
    rw [w1, w2, dotGo_eq hM hE cs ys (s + c * y) (fun x hx => h1 x (List.mem_cons_of_mem _ hx)) (fun x hx => h2 x (List.mem_cons_of_mem _ hx)) (by simp only [hM, hE]; omega) (by simp only [hM, hE]; omega)]
    omega
theorem fulGo_eq {M E : Int} (hM : M = 9000000000000000000) (hE : E = 1000000000000000) (r : Row) : ∀ (ys : List Int) (k : Nat) (s : Int), r.c.length = k + ys.length → SmallC r.c → SmallX ys → -(M - ys.length * E) ≤ s → s ≤ M - ys.length * E → fulGo r ys k s = s + dot (r.c.drop k) ys
  | [], k, s, _, _, _, _, _ => by cases r.c.drop k <;> simp [fulGo, dot]
  | y :: ys, k, s, hl, h1, h2, h3, h4 => by
    simp only [List.length_cons] at hl
    have hk : k < r.c.length := by omega
    have hc : coeffF r k = r.c[k] := by
      unfold coeffF
      rw [if_pos (by omega)]
      simp [List.getD_eq_getElem?_getD, hk]
    have hm := mul_small (h1 r.c[k] (List.getElem_mem _)) (h2 y (List.mem_cons_self ..))
    simp only [List.length_cons, Int.natCast_add, Int.natCast_one, hM, hE] at h3 h4
    have w1 : W (r.c[k] * y) = r.c[k] * y := wrap_ok (by omega) (by omega)
    have w2 : W (s + r.c[k] * y) = s + r.c[k] * y := wrap_ok (by omega) (by omega)
    simp only [fulGo]
    rw [hc, w1, w2, fulGo_eq hM hE r ys (k + 1) _ (by omega) h1 (fun x hx => h2 x (List.mem_cons_of_mem _ hx)) (by simp only [hM, hE]; omega) (by simp only [hM, hE]; omega), List.drop_eq_getElem_cons hk]
    simp only [dot]
    omega
theorem dot_zeros : ∀ (k : Nat) (x : List Int), dot (List.replicate k 0) x = 0
  | 0, x => by cases x <;> rfl
  | k + 1, [] => rfl
  | k + 1, y :: ys => by rw [List.replicate_succ, dot, dot_zeros k ys]; simp
theorem dot_append : ∀ (l : List Int) (k : Nat) (x : List Int), dot (l ++ List.replicate k 0) x = dot l x
  | [], k, x => by rw [List.nil_append, dot_zeros]; cases x <;> rfl
  | c :: l, k, [] => rfl
  | c :: l, k, y :: ys => by rw [List.cons_append, dot, dot, dot_append l k ys]
theorem wideL_eq {l : List Int} {n : Nat} (h : l.length ≤ n) : wideL l n = l ++ List.replicate (n - l.length) 0 := by
  rw [wideL, List.take_append, List.take_of_length_le h, List.take_replicate, Nat.min_eq_left (by omega)]
theorem dot_nat : ∀ (n a : Nat) (v : Int) (x : List Int), a < n → n = x.length → ∃ y ∈ x, dot ((List.replicate n 0).set a v) x = v * y
  | n + 1, 0, v, y :: ys, _, _ => ⟨y, List.mem_cons_self .., by rw [List.replicate_succ, List.set_cons_zero, dot, dot_zeros]; omega⟩
  | n + 1, a + 1, v, y :: ys, h, hn => by
    obtain ⟨z, hz, e⟩ := dot_nat n a v ys (by omega) (by simpa using hn)
    exact ⟨z, List.mem_cons_of_mem _ hz, by rw [List.replicate_succ, List.set_cons_succ, dot, e]; omega⟩
theorem dot_sum : ∀ (a b : List Int) (m k : Int) (x : List Int), a.length = b.length → dot (sumL a b m k) x = dot a x * m + dot b x * k
  | [], [], m, k, x, _ => by cases x <;> simp [sumL, dot]
  | a :: cs1, b :: bs, m, k, [], _ => by simp [sumL, dot]
  | a :: cs1, b :: bs, m, k, y :: ys, h => by
    have ih := dot_sum cs1 bs m k ys (by simpa using h)
    simp only [sumL, List.zipWith_cons_cons, dot] at ih ⊢
    rw [ih]
    have e1 : (a * m + b * k) * y = a * y * m + b * y * k := by
      rw [Int.add_mul, Int.mul_right_comm a m y, Int.mul_right_comm b k y]
    rw [e1, Int.add_mul, Int.add_mul]
    omega
theorem dot_div : ∀ (a : List Int) (m : Int) (x : List Int), (∀ c ∈ a, c.tmod m = 0) → dot a x = dot (a.map fun c => c.tdiv m) x * m
  | [], m, x, _ => by cases x <;> simp [dot]
  | a :: cs1, m, [], _ => by simp [dot]
  | a :: cs1, m, y :: ys, h => by
    have ih := dot_div cs1 m ys fun c hc => h c (List.mem_cons_of_mem _ hc)
    have h1 : a = m * a.tdiv m := by
      have := Int.mul_tdiv_add_tmod a m
      rw [h a (List.mem_cons_self ..)] at this
      omega
    simp only [List.map_cons, dot]
    rw [ih, Int.add_mul]
    congr 1
    conv => lhs; rw [h1]
    rw [Int.mul_comm m, Int.mul_assoc, Int.mul_comm m y, ← Int.mul_assoc]
theorem floor_ge {b m q : Int} (hb : -1000000000000 ≤ b ∧ b ≤ 1000000000000) (hm : 1 ≤ m ∧ m ≤ 1000000) (h : q * m ≤ b) : q ≤ floorF b m := by
  have h2 : (b.tdiv m).natAbs ≤ b.natAbs := Int.natAbs_tdiv_le_natAbs b m
  have h3 := Int.mul_tdiv_add_tmod b m
  have h4 : (b.tmod m).natAbs < m.natAbs := by rw [Int.natAbs_tmod]; exact Nat.mod_lt _ (by omega)
  have e : m * b.tdiv m = b.tdiv m * m := Int.mul_comm _ _
  have w1 : W (b.tdiv m) = b.tdiv m := wrap_ok (by omega) (by omega)
  have w2 : W (b.tdiv m * m) = b.tdiv m * m := wrap_ok (by omega) (by omega)
  have w3 : W (b.tdiv m - 1) = b.tdiv m - 1 := wrap_ok (by omega) (by omega)
  unfold floorF
  rw [w1, w2, w3]
  have key : ∀ p : Int, p ≤ q → p * m ≤ q * m := fun p hp => Int.mul_le_mul_of_nonneg_right hp (by omega)
  split
  · rename_i c
    refine Int.le_of_not_gt fun hq => ?_
    have := key (b.tdiv m) (by omega)
    omega
  · rename_i c
    refine Int.le_of_not_gt fun hq => ?_
    have := key (b.tdiv m + 1) (by omega)
    rw [Int.add_mul] at this
    omega
theorem fits_small {n : Nat} {r : Row} (h : Fits n r) : SmallC r.c ∧ -1000000000000 ≤ r.b ∧ r.b ≤ 1000000000000 := by
  constructor
  · intro c hc; have := h.2.2 c hc; simpa [far2] using this
  · have := h.2.1; simpa [far2] using this
def Sat (x : List Int) (r : Row) : Prop := dot r.c x ≤ r.b
theorem outF_sat {x : List Int} {r : Row} (h : Sat x r) (h2 : (outF r).2 = 0) : Sat x (outF r).1 := by
  unfold outF at *
  split at h2
  · simp at h2
  · rename_i c; rw [if_neg c]; exact h
theorem makeF_sat {rows made : List Row} {n : Nat} {l : Line} {x : List Int} (hx : SmallX x) (hn : n = x.length) (hr : ∀ r ∈ rows, r.c.length ≤ n ∧ Sat x r) (hm : ∀ r ∈ made, Fits n r ∧ Sat x r) (h : (makeF rows made n l).2 = 0) : Sat x (makeF rows made n l).1 := by
  have hat : ∀ {L : List Row} {a : Int}, 0 ≤ a → a < (L.length : Int) → rowAt L a ∈ L := fun {L a} h0 h1 => by
    have h2 : a.toNat < L.length := by omega
    unfold rowAt
    rw [List.getD_eq_getElem?_getD]
    simp only [h2, List.getElem?_eq_getElem, Option.getD_some]; exact List.getElem_mem _
  revert h
  unfold makeF
  split
  · split
    · rename_i c
      obtain ⟨r1, r2⟩ := hr _ (hat c.2.1 c.2.2)
      refine outF_sat ?_
      show dot (wideL _ n) x ≤ _
      rw [wideL_eq r1, dot_append]; exact r2
    · simp
  split
  · split
    · rename_i c
      refine outF_sat ?_
      obtain ⟨y, hy, e⟩ := dot_nat n l.a.toNat (-1) x (by omega) hn
      show dot _ x ≤ 0
      rw [e]
      have := (hx y hy).1
      omega
    · simp
  split
  · split
    · rename_i c
      obtain ⟨fa, sa⟩ := hm _ (hat c.1.1 c.1.2)
      obtain ⟨fb, sb⟩ := hm _ (hat c.2.1.1 c.2.1.2)
      refine outF_sat ?_
      show dot (sumL _ _ _ _) x ≤ (rowAt made l.a).b * l.m + (rowAt made l.b).b * l.n
      rw [dot_sum _ _ _ _ _ (by rw [fa.1, fb.1])]
      have p1 := Int.mul_le_mul_of_nonneg_right sa (by omega : 0 ≤ l.m)
      have p2 := Int.mul_le_mul_of_nonneg_right sb (by omega : 0 ≤ l.n)
      omega
    · simp
  split
  · split
    · rename_i c
      obtain ⟨fa, sa⟩ := hm _ (hat c.1.1 c.1.2)
      split
      · simp
      · rename_i c2
        refine outF_sat ?_
        have hall : ∀ z ∈ (rowAt made l.a).c, z.tmod l.m = 0 := fun z hz => by
          simp only [Bool.not_eq_true, List.any_eq_false] at c2
          simpa using c2 z hz
        have e := dot_div _ l.m x hall
        exact floor_ge (fits_small fa).2 c.2.1 (by rw [← e]; exact sa)
    · simp
  · simp
theorem deriveGo_sat {rows : List Row} {n : Nat} {x : List Int} (hx : SmallX x) (hn : n = x.length) (hr : ∀ r ∈ rows, r.c.length ≤ n ∧ Sat x r) : ∀ (ls : List Line) (made : List Row), (∀ r ∈ made, Fits n r ∧ Sat x r) → ∀ r ∈ (deriveGo rows n made ls).1, Fits n r ∧ Sat x r
  | [], made, h => h
  | l :: ls, made, h => by
    unfold deriveGo
    split
    · rename_i he
      refine deriveGo_sat hx hn hr ls _ fun r hr' => ?_
      rcases List.mem_append.1 hr' with hr' | hr'
      · exact h r hr'
      · rw [List.mem_singleton.1 hr']
        exact ⟨makeF_ok (fun r h' => (h r h').1) he, makeF_sat hx hn hr h he⟩
    · simp
theorem sound_true (rows : List Row) (ls : List Line) (x : List Int) : soundF rows ls x = true := by
  unfold soundF
  split
  · rfl
  rename_i hg
  split
  · rename_i hc
    obtain ⟨c1, c2, c3⟩ := hc
    simp only [soundGuard, Bool.or_eq_true, Bool.not_eq_true', not_or, Bool.not_eq_false, Bool.not_eq_true] at hg
    obtain ⟨hfew, hx1⟩ := hg
    unfold holdsF at c1 c3
    by_cases hr : rightF rows = 0
    · rw [if_pos hr] at c1 c3
      by_cases hl : (x.length : Int) = unkF rows
      · rw [if_pos hl] at c1 c3
        by_cases hany : x.any (fun n => decide (n < 0) || decide (1000000 < n)) = true
        · rw [if_pos hany] at c1; simp at c1
        · rw [if_neg hany] at c3
          have hn : unkN rows = x.length := by unfold unkN; omega
          have h12 := unkN_le hr
          have hsx : SmallX x := by
            intro y hy
            simp only [Bool.not_eq_true, List.any_eq_false] at hany hx1
            have a := hany y hy
            have b := hx1 y hy
            simp at a b
            omega
          have hro := (rightF_ok hr).2
          have hsat : ∀ r ∈ rows, r.c.length ≤ unkN rows ∧ Sat x r := fun r hr' => by
            obtain ⟨r1, r2, r3⟩ := hro r hr'
            refine ⟨len_unkN hr', ?_⟩
            simp only [Bool.not_eq_true', List.any_eq_false] at c3
            have := c3 r hr'
            simp only [over, Bool.not_eq_true, decide_eq_false_iff_not] at this
            rw [dotGo_eq rfl rfl r.c x 0 (fun c hc => by have := r3 c hc; simp [far] at this; omega) hsx (by omega) (by omega)] at this
            show dot r.c x ≤ r.b
            omega
          have hd : ∀ r ∈ (deriveF rows ls).1, Fits (unkN rows) r ∧ Sat x r := by
            unfold deriveF
            rw [if_pos hr]
            split
            · simp
            · exact deriveGo_sat hsx hn hsat ls [] (by simp)
          rw [Bool.and_eq_true]
          constructor
          · unfold soundRows
            rw [List.all_eq_true]
            intro r hr'
            obtain ⟨f1, f2⟩ := hd r hr'
            have hlr : r.c.length = x.length := by rw [f1.1, hn]
            rw [Bool.and_eq_true]
            refine ⟨by simp; omega, ?_⟩
            unfold fulF
            rw [fulGo_eq rfl rfl r x 0 0 (by omega) (fits_small f1).1 hsx (by omega) (by omega)]
            simp only [List.drop_zero, Int.zero_add, decide_eq_true_eq]
            exact f2
          · rw [decide_eq_true_eq]
            unfold checkF
            rw [if_pos c2]
            unfold lastF
            split
            · simp
            · rename_i hlast
              exfalso
              simp only [not_or, Bool.not_eq_false] at hlast
              obtain ⟨hne, hab⟩ := hlast
              have hmem : rowAt (deriveF rows ls).1 (((deriveF rows ls).1.length : Int) - 1) ∈ (deriveF rows ls).1 := by
                have hp := List.length_pos_iff.2 hne
                have h2 : (((deriveF rows ls).1.length : Int) - 1).toNat < (deriveF rows ls).1.length := by omega
                unfold rowAt
                rw [List.getD_eq_getElem?_getD]
                simp only [h2, List.getElem?_eq_getElem, Option.getD_some]; exact List.getElem_mem _
              obtain ⟨f1, f2⟩ := hd _ hmem
              simp only [absurdF, Bool.and_eq_true, decide_eq_true_eq, Bool.not_eq_true', List.any_eq_false] at hab
              have hz : ∀ (cs ys : List Int), (∀ c ∈ cs, c = 0) → dot cs ys = 0 := by
                intro cs
                induction cs with
                | nil => intro ys _; cases ys <;> rfl
                | cons c cs ih =>
                  intro ys h
                  cases ys with
                  | nil => rfl
                  | cons y ys => rw [dot, ih ys fun z hz => h z (List.mem_cons_of_mem _ hz), h c (List.mem_cons_self ..)]; simp
              have := hz _ x fun c hc => by simpa using hab.2 c hc
              unfold Sat at f2
              omega
      · rw [if_neg hl] at c1; simp at c1
    · rw [if_neg hr] at c1; simp at c1; exact absurd c1 hr
  · rfl
end Go.PV.Ytefpjfpelicedaa
end
section
/- The reference: the numbers behind others. -/
set_option linter.unusedVariables false
set_option linter.unusedSimpArgs false
set_option maxRecDepth 20000
set_option maxHeartbeats 4000000
namespace Go.PV.Ytefpjfpelicedaa
open Go Go.Proofs
def nextF (b : Int) (x : List Int) : List Int × Bool := match nextL b x with | some y => (y, true) | none => (x.map fun _ => 0, false)
theorem next44 (x : List Int) (b : Int) (hn : (x.length : Int) ≤ 1000) (hb : 0 ≤ b ∧ b ≤ 1000) (hw : Within b x) : PureF Try.prog 44 [intsV x, iV b] (.tuple [intsV (nextF b x).1, boolV (nextF b x).2]) := by
  refine GivesF.pure fun H => ?_
  refine vcalls_intro fd44 (by simp) ?_
  unfold c44
  (repeat' (first | (simp only [↓s_reg, ↓s_seq, ↓s_nil, ↓s_consN, ↓s_thenN, ↓s_kret, ↓s_putS, ↓s_dOkS, ↓s_ev_t, ↓s_ev_c, ↓s_upd, ↓s_move, ↓s_assign, ↓s_buildSlice, ↓s_callB, ↓s_append, boolV, List.map_cons, List.map_nil, List.length_cons, List.length_nil, List.getD_cons_zero, List.getD_cons_succ, List.getD_nil, ite_true, ite_false, Nat.reduceEqDiff, Nat.reduceLT, Nat.reduceLeDiff, true_and, Nat.succ_ne_self, reduceCtorEq, Nat.mul_one, undefV, fillV, eq_self, Nat.zero_add, and_self, undef, vcBuildSlice, List.replicate_zero, List.flatten_nil, elT_37, zeroT_3, *]) | (refine guardL_splitTD ?_ ?_ <;> intro) | (refine guardL_splitFD ?_ ?_ <;> intro) | (refine guardP_splitTD ?_ ?_ <;> intro) | (refine guardP_splitFD ?_ ?_ <;> intro) | (refine condL_splitD ?_ ?_ <;> intro) | (refine guardL_splitT ?_ ?_ <;> intro) | (refine guardL_splitF ?_ ?_ <;> intro) | (refine guardP_splitT ?_ ?_ <;> intro) | (refine guardP_splitF ?_ ?_ <;> intro) | (refine condL_split ?_ ?_ <;> intro) | (refine ret_tmp ?_) | (refine acx_go rfl (fun _ _ _ h => h) ?_) | (refine acx_dreg mixed (fun _ _ _ _ e h => ⟨e.trans h.1, h.2⟩) _ (SubH.refl _) ?_) | (refine And.intro (SubH.new (by assumption)) ?_) | (refine allNew_intro fun zr zh => ?_; have zg := zh; (try simp only [AH.set_none] at zg)) | (exact SubH.refl _) | (refine SubH.of_set ?_ ?_) | assumption))
  refine append_clip elT_37 zeroT_3 rfl (by omega) rfl (ints_src H x) (ints_one x) (by omega) (by omega) (fun h0 => ?_) (fun h0 v' H' ho => ?_)
  · have h0 : x = [] := List.eq_nil_of_length_eq_zero h0
    subst h0
    (repeat' (first | (simp only [↓s_reg, ↓s_seq, ↓s_seqL, ↓s_block, ↓s_loop, ↓s_nil, ↓s_consN, ↓s_thenN, ↓s_kret, ↓s_putS, ↓s_dOkS, ↓s_ev_t, ↓s_ev_c, ↓s_upd, ↓s_move, ↓s_assign, ↓s_bin, ↓s_callB, ↓s_len, ↓s_bin_sub, intV, List.map_cons, List.map_nil, List.getD_cons_succ, List.getD_nil, ite_true, ite_false, Nat.reduceEqDiff, Nat.reduceLT, ne_eq, not_false_eq_true, true_and, Nat.succ_ne_self, reduceCtorEq, eq_self, n_lenS, elT_37, *]) | (refine guardL_splitTD ?_ ?_ <;> intro) | (refine guardL_splitFD ?_ ?_ <;> intro) | (refine guardP_splitTD ?_ ?_ <;> intro) | (refine guardP_splitFD ?_ ?_ <;> intro) | (refine condL_splitD ?_ ?_ <;> intro) | (refine guardL_splitT ?_ ?_ <;> intro) | (refine guardL_splitF ?_ ?_ <;> intro) | (refine guardP_splitT ?_ ?_ <;> intro) | (refine guardP_splitF ?_ ?_ <;> intro) | (refine condL_split ?_ ?_ <;> intro) | (refine ret_tmp ?_) | (refine acx_go rfl (fun _ _ _ h => h) ?_) | (refine acx_dreg mixed (fun _ _ _ _ e h => ⟨e.trans h.1, h.2⟩) _ (SubH.refl _) ?_) | (refine And.intro (SubH.new (by assumption)) ?_) | (refine allNew_intro fun zr zh => ?_; have zg := zh; (try simp only [AH.set_none] at zg)) | (exact SubH.refl _) | (refine SubH.of_set ?_ ?_) | assumption))
    refine acx_loop (fun _ _ _ h => h) (fun A H' => H' = H ∧ A.d = [] ∧ A.t 7 = iV (-1) ∧ A.t 6 = .slice true 0 []) (fun _ _ => 0) ?_ ?_
    · exact ⟨rfl, rfl, rfl, rfl⟩
    · rintro ⟨t, d⟩ H' ⟨rfl, rfl, h7, h6⟩
      dsimp only at h6 h7
      unfold b44_1 c44_1
      (repeat' (first | (simp only [↓s_reg, ↓s_seq, ↓s_cond, ↓s_condF, ↓s_exit, ↓s_ret, ↓s_nil, ↓s_consN, ↓s_thenN, ↓s_thenE, ↓s_inE, ↓s_kret, ↓s_putS, ↓s_dOkS, ↓s_ev_t, ↓s_ev_c, ↓s_upd, ↓s_move, ↓s_assign, ↓s_bin, ↓s_bin_geq, ite_true, ite_false, Nat.reduceEqDiff, Nat.reduceLT, true_and, Nat.succ_ne_self, decide_false, eq_self, Int.reduceLE, Int.reduceNeg, and_false, *]) | (refine guardL_splitTD ?_ ?_ <;> intro) | (refine guardL_splitFD ?_ ?_ <;> intro) | (refine guardP_splitTD ?_ ?_ <;> intro) | (refine guardP_splitFD ?_ ?_ <;> intro) | (refine condL_splitD ?_ ?_ <;> intro) | (refine guardL_splitT ?_ ?_ <;> intro) | (refine guardL_splitF ?_ ?_ <;> intro) | (refine guardP_splitT ?_ ?_ <;> intro) | (refine guardP_splitF ?_ ?_ <;> intro) | (refine condL_split ?_ ?_ <;> intro) | (refine ret_tmp ?_) | (refine acx_go rfl (fun _ _ _ h => h) ?_) | (refine acx_dreg mixed (fun _ _ _ _ e h => ⟨e.trans h.1, h.2⟩) _ (SubH.refl _) ?_) | (refine And.intro (SubH.new (by assumption)) ?_) | (refine allNew_intro fun zr zh => ?_; have zg := zh; (try simp only [AH.set_none] at zg)) | (exact SubH.refl _) | (refine SubH.of_set ?_ ?_) | assumption))
      exact retPost_ret rfl (by simp only [resV, resAll, resOne, s_upd, Nat.reduceEqDiff, if_true, if_false, Option.bind_some, Option.map_some, tupV] <;> rfl) ⟨_, rfl, GhV.tuple (GhL.cons (GhV.imm _) (GhL.cons (GhV.refl _ _) (GhL.nil _)))⟩
  · rcases ho with ⟨_, h1, _, _⟩ | ⟨g, c, sp, rfl, hg, rfl, h1, h2, h3, h4⟩
    · omega
    (repeat' (first | (simp only [↓s_reg, ↓s_seq, ↓s_seqL, ↓s_block, ↓s_loop, ↓s_nil, ↓s_consN, ↓s_thenN, ↓s_kret, ↓s_putS, ↓s_dOkS, ↓s_ev_t, ↓s_ev_c, ↓s_upd, ↓s_move, ↓s_assign, ↓s_bin, ↓s_callB, ↓s_len, ↓s_bin_sub, intV, List.map_cons, List.map_nil, List.getD_cons_succ, List.getD_nil, List.nil_append, ite_true, ite_false, Nat.reduceEqDiff, Nat.reduceLT, ne_eq, not_false_eq_true, true_and, Nat.succ_ne_self, reduceCtorEq, eq_self, Nat.zero_add, n_lenL, elT_37, *]) | (refine guardL_splitTD ?_ ?_ <;> intro) | (refine guardL_splitFD ?_ ?_ <;> intro) | (refine guardP_splitTD ?_ ?_ <;> intro) | (refine guardP_splitFD ?_ ?_ <;> intro) | (refine condL_splitD ?_ ?_ <;> intro) | (refine guardL_splitT ?_ ?_ <;> intro) | (refine guardL_splitF ?_ ?_ <;> intro) | (refine guardP_splitT ?_ ?_ <;> intro) | (refine guardP_splitF ?_ ?_ <;> intro) | (refine condL_split ?_ ?_ <;> intro) | (refine ret_tmp ?_) | (refine acx_go rfl (fun _ _ _ h => h) ?_) | (refine acx_dreg mixed (fun _ _ _ _ e h => ⟨e.trans h.1, h.2⟩) _ (SubH.refl _) ?_) | (refine And.intro (SubH.new (by assumption)) ?_) | (refine allNew_intro fun zr zh => ?_; have zg := zh; (try simp only [AH.set_none] at zg)) | (exact SubH.refl _) | (refine SubH.of_set ?_ ?_) | assumption))
    rw [wrap_ok (n := (x.length : Int) - 1) (by omega) (by omega)]
    simp only [Nat.zero_add, List.nil_append] at h1 h2 h3
    refine acx_loop (fun _ _ _ h => h) (fun A H' => A.d = [] ∧ A.t 1 = iV b ∧ A.t 6 = .lit (.slice (some ⟨g, 0, none⟩) x.length c) ∧ ∃ k : Nat, k ≤ x.length ∧ A.t 7 = iV ((k : Int) - 1) ∧ H' = H.set g (.cells 3 (encC intE (x.take k ++ List.replicate (x.length - k) 0)) sp) ∧ (∀ j (h : j < x.length), k ≤ j → x[j] = b))
      (fun A _ => match A.t 7 with | .lit (.int _ i) => (i + 1).toNat | _ => 0) ?_ ?_
    · exact ⟨rfl, rfl, rfl, x.length, by omega, rfl, by simp, fun j h h' => by omega⟩
    · rintro ⟨t, d⟩ H' ⟨rfl, h1', h6, k, hk, h7, rfl, hall⟩
      dsimp only at h1' h6 h7
      rcases k with _ | k
      · have e7 : t 7 = iV (-1) := h7
        clear h7
        unfold b44_1 c44_1
        (repeat' (first | (simp only [↓s_reg, ↓s_seq, ↓s_cond, ↓s_condF, ↓s_exit, ↓s_ret, ↓s_nil, ↓s_consN, ↓s_thenN, ↓s_thenE, ↓s_inE, ↓s_kret, ↓s_putS, ↓s_dOkS, ↓s_ev_t, ↓s_ev_c, ↓s_upd, ↓s_move, ↓s_assign, ↓s_bin, ↓s_bin_geq, List.nil_append, ite_true, ite_false, Nat.reduceEqDiff, Nat.reduceLT, true_and, Nat.succ_ne_self, decide_false, eq_self, List.take, Int.reduceLE, Int.reduceNeg, *]) | (refine guardL_splitTD ?_ ?_ <;> intro) | (refine guardL_splitFD ?_ ?_ <;> intro) | (refine guardP_splitTD ?_ ?_ <;> intro) | (refine guardP_splitFD ?_ ?_ <;> intro) | (refine condL_splitD ?_ ?_ <;> intro) | (refine guardL_splitT ?_ ?_ <;> intro) | (refine guardL_splitF ?_ ?_ <;> intro) | (refine guardP_splitT ?_ ?_ <;> intro) | (refine guardP_splitF ?_ ?_ <;> intro) | (refine condL_split ?_ ?_ <;> intro) | (refine ret_tmp ?_) | (refine acx_go rfl (fun _ _ _ h => h) ?_) | (refine acx_dreg mixed (fun _ _ _ _ e h => ⟨e.trans h.1, h.2⟩) _ (SubH.refl _) ?_) | (refine And.intro (SubH.new (by assumption)) ?_) | (refine allNew_intro fun zr zh => ?_; have zg := zh; (try simp only [AH.set_none] at zg)) | (exact SubH.refl _) | (refine SubH.of_set ?_ ?_) | assumption))
        refine retPost_ret rfl (by simp only [resV, resAll, resOne, s_upd, Nat.reduceEqDiff, if_true, if_false, Option.bind_some, Option.map_some, tupV] <;> rfl) ⟨_, rfl, ?_⟩
        have e : nextF b x = (List.replicate x.length 0, false) := by
          have h5 : nextL b x = none := nextL_none fun c hc => by
            obtain ⟨j, hj, rfl⟩ := List.getElem_of_mem hc
            exact hall j hj (by omega)
          simp only [nextF, h5]
          congr 1
          exact List.map_const' ..
        rw [e]
        have hs := GhV.slice (H := H.set g (.cells 3 (encC intE (x.take 0 ++ List.replicate (x.length - 0) 0)) sp)) (n := x.length) (AH.set_same _ _ _) h3
        rw [AH.del_set _ _ _ hg] at hs
        refine GhV.tuple (GhL.cons ?_ (GhL.cons (GhV.refl _ _) (GhL.nil _)))
        show GhV _ _ _ (.slice false (List.replicate x.length (0 : Int)).length _)
        rw [List.length_replicate]
        simpa using hs
      · have e7 : t 7 = iV k := by rw [h7]; congr 2; omega
        clear h7
        obtain ⟨l, hl⟩ : ∃ l, l = x.take (k + 1) ++ List.replicate (x.length - (k + 1)) 0 := ⟨_, rfl⟩
        have hll : l.length = x.length := by rw [hl]; simp; omega
        have hkl : k < l.length := by omega
        have hlk : l[k] = x[k]'(by omega) := by subst hl; rw [List.getElem_append_left (by simp; omega)]; simp
        have hkx : (k : Int) < x.length := by omega
        have hs0 : l.set k 0 = x.take k ++ List.replicate (x.length - k) 0 := by
          apply List.ext_getElem
          · simp [hll]; omega
          · intro j h5 h6
            subst hl
            simp only [List.getElem_set, List.getElem_append, List.length_take, List.getElem_take, List.getElem_replicate]
            have : min (k + 1) x.length = k + 1 := by omega
            have : min k x.length = k := by omega
            repeat' split
            all_goals first | rfl | omega
        have hs1 : x[k]'(by omega) ≠ b → nextF b x = (l.set k (x[k]'(by omega) + 1), true) := fun hne => by
          have h5 := nextL_at (b := b) (x := x) (k := k) (by omega) hne (fun j h h' => hall j h (by omega))
          have h6 : l.set k (x[k]'(by omega) + 1) = x.take k ++ (x[k]'(by omega) + 1) :: List.replicate (x.length - k - 1) 0 := by
            apply List.ext_getElem
            · simp [hll]; omega
            · intro j h5 h6
              subst hl
              simp only [List.getElem_set, List.getElem_append, List.length_take, List.getElem_take, List.getElem_replicate, List.getElem_cons]
              have : min (k + 1) x.length = k + 1 := by omega
              have : min k x.length = k := by omega
              repeat' split
              all_goals first | rfl | omega
          simp only [nextF, h5, h6]
        rw [← hl]
        have hxk := hw _ (List.getElem_mem (show k < x.length by omega))
        have hkn : k < x.length := by omega
        clear hl
        unfold b44_1
        (repeat' (first | (simp only [↓s_skip, ↓s_reg, ↓s_seq, ↓s_cond, ↓s_condT, ↓s_block, ↓s_ret, ↓s_nil, ↓s_consN, ↓s_thenN, ↓s_thenR, ↓s_inN, ↓s_inR, ↓s_kret, ↓s_putS, ↓s_putN, ↓s_dOkS, ↓s_dOkN, ↓s_ev_t, ↓s_ev_c, ↓s_upd, ↓s_move, ↓s_assign, ↓s_load, ↓s_store, ↓s_bin, ↓s_indexAddr, ↓s_bin_lss, ↓s_bin_geq, ↓s_bin_add, ↓s_bin_sub, List.length_cons, List.length_nil, ite_true, ite_false, Nat.reduceEqDiff, Nat.reduceLT, true_and, Nat.succ_ne_self, decide_true, decide_false, Int.natCast_nonneg, Int.toNat_natCast, Nat.mul_one, AH.get, AH.set_set, setAt, List.all_cons, List.all_nil, Bool.and_self, eq_self, Nat.zero_add, and_self, ldV_f, cl_int, on_int, n_ldP, n_ixL, n_ixA2, n_ldA, n_ldB, n_stP, n_stA, ints_drop, ints_len, ldT_3, szT_3, elT_37, *]) | (refine guardL_splitTD ?_ ?_ <;> intro) | (refine guardL_splitFD ?_ ?_ <;> intro) | (refine guardP_splitTD ?_ ?_ <;> intro) | (refine guardP_splitFD ?_ ?_ <;> intro) | (refine condL_splitD ?_ ?_ <;> intro) | (refine guardL_splitT ?_ ?_ <;> intro) | (refine guardL_splitF ?_ ?_ <;> intro) | (refine guardP_splitT ?_ ?_ <;> intro) | (refine guardP_splitF ?_ ?_ <;> intro) | (refine condL_split ?_ ?_ <;> intro) | (refine ret_tmp ?_) | (refine acx_go rfl (fun _ _ _ h => h) ?_) | (refine acx_dreg mixed (fun _ _ _ _ e h => ⟨e.trans h.1, h.2⟩) _ (SubH.refl _) ?_) | (refine And.intro (SubH.new (by assumption)) ?_) | (refine allNew_intro fun zr zh => ?_; have zg := zh; (try simp only [AH.set_none] at zg)) | (exact SubH.refl _) | (refine SubH.of_set ?_ ?_) | assumption))
        · have hlt : x[k] < b := by assumption
          rw [wrap_ok (n := x[k] + 1) (by omega) (by omega), hs1 (by omega), ints_set]
          refine retPost_ret rfl (by simp only [resV, resAll, resOne, s_upd, Nat.reduceEqDiff, if_true, if_false, Option.bind_some, Option.map_some, tupV] <;> rfl) ⟨_, rfl, GhV.tuple (GhL.cons ?_ (GhL.cons (GhV.refl _ _) (GhL.nil _)))⟩
          have hs := GhV.slice (H := H.set g (.cells 3 (encC intE (l.set k (x[k] + 1))) sp)) (n := x.length) (AH.set_same _ _ _) h3
          rw [AH.del_set _ _ _ hg] at hs
          show GhV _ _ _ (.slice false (l.set k (x[k] + 1)).length _)
          rw [List.length_set, hll]
          exact hs
        · have hlt : ¬ x[k] < b := by assumption
          rw [wrap_ok (n := (k : Int) - 1) (by omega) (by omega)]
          refine ⟨⟨k, by omega, rfl, by rw [ints_set, hs0], fun j h h' => ?_⟩, by omega⟩
          by_cases e : j = k
          · subst e; omega
          · exact hall j h (by omega)
end Go.PV.Ytefpjfpelicedaa
end
section
/- The reference: the first numbers that fulfil rows. -/
set_option linter.unusedVariables false
set_option linter.unusedSimpArgs false
set_option maxRecDepth 20000
set_option maxHeartbeats 4000000
namespace Go.PV.Ytefpjfpelicedaa
open Go Go.Proofs
def pointR (rows : List Row) (b : Int) : List Int × Bool × Int :=
  if rightF rows = 0 then
    (if b < 0 ∨ 100 < b then ([], false, 4)
     else if tooMany b (unkN rows) 1 then ([], false, 7)
     else match fromL (allF rows) b (List.replicate (unkN rows) 0) with
       | some x => (x, true, 0)
       | none => ([], false, 0))
  else ([], false, rightF rows)
def pointRX (rows : List Row) (b : Int) : VV := .tuple [intsV (pointR rows b).1, boolV (pointR rows b).2.1, iV (pointR rows b).2.2]
theorem pointRX_of {rows : List Row} {b : Int} {p : List Int × Bool × Int} (h : pointR rows b = p) : pointRX rows b = .tuple [intsV p.1, boolV p.2.1, iV p.2.2] := by rw [pointRX, h]
theorem nilX {H : AH} {x y : VV} : GhV H (.tuple [.lit (.slice none 0 0), x, y]) H (.tuple [intsV [], x, y]) := GhV.tuple (GhL.cons (GhV.nil H) (GhL.cons (GhV.refl _ _) (GhL.cons (GhV.refl _ _) (GhL.nil _))))
theorem point19 (rows : List Row) (b : Int) (h1 : (rows.length : Int) ≤ 9223372036854775806) : PureF Try.prog 19 [rowsV rows, iV b] (pointRX rows b) := by
  refine GivesF.pure fun H => ?_
  unfold GivesF
  refine vcalls_intro fd19 (by simp) ?_
  unfold c19
  by_cases hr : rightF rows = 0
  · by_cases hb1 : b < 0
    · rw [pointRX_of (p := ([], false, 4)) (by simp [pointR, *])]
      (repeat' (first | (simp only [↓s_skip, ↓s_reg, ↓s_seq, ↓s_cond, ↓s_condT, ↓s_condF, ↓s_ret, ↓s_nil, ↓s_consN, ↓s_consG, ↓s_guardTF, ↓s_thenN, ↓s_thenR, ↓s_kret, ↓s_putS, ↓s_dOkS, ↓s_ev_t, ↓s_ev_c, ↓s_ev_f, ↓s_upd, ↓s_move, ↓s_assign, ↓s_isBool, ↓s_pickA, ↓s_pick, ↓s_bin, ↓s_callV, ↓s_callL, ↓s_bin_lss, ↓s_bin_neq, boolV, List.map_cons, List.map_nil, List.getD_cons_zero, List.getD_cons_succ, List.getD_nil, ite_true, ite_false, Nat.reduceEqDiff, Nat.reduceLT, true_and, Nat.succ_ne_self, decide_true, Bool.not_true, reduceCtorEq, callOk, undefV, eq_self, undef, en_35, *]) | (refine guardL_splitTD ?_ ?_ <;> intro) | (refine guardL_splitFD ?_ ?_ <;> intro) | (refine guardP_splitTD ?_ ?_ <;> intro) | (refine guardP_splitFD ?_ ?_ <;> intro) | (refine condL_splitD ?_ ?_ <;> intro) | (refine guardL_splitT ?_ ?_ <;> intro) | (refine guardL_splitF ?_ ?_ <;> intro) | (refine guardP_splitT ?_ ?_ <;> intro) | (refine guardP_splitF ?_ ?_ <;> intro) | (refine condL_split ?_ ?_ <;> intro) | (refine ret_tmp ?_) | (refine acx_go rfl (fun _ _ _ h => h) ?_) | (refine acx_dreg mixed (fun _ _ _ _ e h => ⟨e.trans h.1, h.2⟩) _ (SubH.refl _) ?_) | (refine And.intro (SubH.new (by assumption)) ?_) | (refine allNew_intro fun zr zh => ?_; have zg := zh; (try simp only [AH.set_none] at zg)) | (exact SubH.refl _) | (refine SubH.of_set ?_ ?_) | assumption | (refine PureF.use (right35 _ h1) ?_) | (refine PureF.use (unknowns10 _ h1) ?_) | (with_reducible refine And.intro ?_ ?_)))
      exact retPost_ret rfl (by simp only [resV, resAll, resOne, s_upd, Nat.reduceEqDiff, if_true, if_false, Option.bind_some, Option.map_some, tupV] <;> rfl) ⟨_, rfl, nilX⟩
    by_cases hb2 : 100 < b
    · rw [pointRX_of (p := ([], false, 4)) (by simp [pointR, *])]
      (repeat' (first | (simp only [↓s_skip, ↓s_reg, ↓s_seq, ↓s_cond, ↓s_condT, ↓s_condF, ↓s_ret, ↓s_nil, ↓s_consN, ↓s_consG, ↓s_guardFF, ↓s_thenN, ↓s_thenR, ↓s_kret, ↓s_putS, ↓s_dOkS, ↓s_ev_t, ↓s_ev_c, ↓s_ev_f, ↓s_upd, ↓s_move, ↓s_assign, ↓s_isBool, ↓s_pickA, ↓s_pick, ↓s_bin, ↓s_callV, ↓s_callL, ↓s_bin_lss, ↓s_bin_gtr, ↓s_bin_neq, boolV, List.map_cons, List.map_nil, List.getD_cons_zero, List.getD_cons_succ, List.getD_nil, ite_true, ite_false, Nat.reduceEqDiff, Nat.reduceLT, true_and, Bool.false_eq_true, Nat.succ_ne_self, decide_true, decide_false, Bool.not_true, reduceCtorEq, undefV, eq_self, undef, en_35, *]) | (refine guardL_splitTD ?_ ?_ <;> intro) | (refine guardL_splitFD ?_ ?_ <;> intro) | (refine guardP_splitTD ?_ ?_ <;> intro) | (refine guardP_splitFD ?_ ?_ <;> intro) | (refine condL_splitD ?_ ?_ <;> intro) | (refine guardL_splitT ?_ ?_ <;> intro) | (refine guardL_splitF ?_ ?_ <;> intro) | (refine guardP_splitT ?_ ?_ <;> intro) | (refine guardP_splitF ?_ ?_ <;> intro) | (refine condL_split ?_ ?_ <;> intro) | (refine ret_tmp ?_) | (refine acx_go rfl (fun _ _ _ h => h) ?_) | (refine acx_dreg mixed (fun _ _ _ _ e h => ⟨e.trans h.1, h.2⟩) _ (SubH.refl _) ?_) | (refine And.intro (SubH.new (by assumption)) ?_) | (refine allNew_intro fun zr zh => ?_; have zg := zh; (try simp only [AH.set_none] at zg)) | (exact SubH.refl _) | (refine SubH.of_set ?_ ?_) | assumption | (refine PureF.use (right35 _ h1) ?_) | (refine PureF.use (unknowns10 _ h1) ?_) | (with_reducible refine And.intro ?_ ?_)))
      exact retPost_ret rfl (by simp only [resV, resAll, resOne, s_upd, Nat.reduceEqDiff, if_true, if_false, Option.bind_some, Option.map_some, tupV] <;> rfl) ⟨_, rfl, nilX⟩
    have hb : ¬ (b < 0 ∨ 100 < b) := by omega
    have hu := unkN_eq rows
    have hun : unkN rows ≤ 12 := unkN_le hr
    (repeat' (first | (simp only [↓s_skip, ↓s_reg, ↓s_seq, ↓s_seqL, ↓s_cond, ↓s_condF, ↓s_block, ↓s_loop, ↓s_nil, ↓s_consN, ↓s_consG, ↓s_guardFF, ↓s_thenN, ↓s_kret, ↓s_putS, ↓s_dOkS, ↓s_ev_t, ↓s_ev_c, ↓s_ev_f, ↓s_upd, ↓s_move, ↓s_assign, ↓s_isBool, ↓s_pickA, ↓s_pick, ↓s_bin, ↓s_callV, ↓s_callL, ↓s_bin_lss, ↓s_bin_gtr, ↓s_bin_neq, List.map_cons, List.map_nil, List.getD_cons_zero, List.getD_cons_succ, List.getD_nil, ite_true, ite_false, Nat.reduceEqDiff, Nat.reduceLT, true_and, Bool.false_eq_true, Nat.succ_ne_self, decide_true, decide_false, Bool.not_true, reduceCtorEq, undefV, eq_self, undef, en_35, en_10, *]) | (refine guardL_splitTD ?_ ?_ <;> intro) | (refine guardL_splitFD ?_ ?_ <;> intro) | (refine guardP_splitTD ?_ ?_ <;> intro) | (refine guardP_splitFD ?_ ?_ <;> intro) | (refine condL_splitD ?_ ?_ <;> intro) | (refine guardL_splitT ?_ ?_ <;> intro) | (refine guardL_splitF ?_ ?_ <;> intro) | (refine guardP_splitT ?_ ?_ <;> intro) | (refine guardP_splitF ?_ ?_ <;> intro) | (refine condL_split ?_ ?_ <;> intro) | (refine ret_tmp ?_) | (refine acx_go rfl (fun _ _ _ h => h) ?_) | (refine acx_dreg mixed (fun _ _ _ _ e h => ⟨e.trans h.1, h.2⟩) _ (SubH.refl _) ?_) | (refine And.intro (SubH.new (by assumption)) ?_) | (refine allNew_intro fun zr zh => ?_; have zg := zh; (try simp only [AH.set_none] at zg)) | (exact SubH.refl _) | (refine SubH.of_set ?_ ?_) | assumption | (refine PureF.use (right35 _ h1) ?_) | (refine PureF.use (unknowns10 _ h1) ?_) | (with_reducible refine And.intro ?_ ?_)))
    clear hu
    refine acx_loop (fun _ _ _ h => h) (fun A H' => H' = H ∧ A.d = [] ∧ A.t 0 = rowsV rows ∧ A.t 1 = iV b ∧ A.t 8 = iV (unkN rows) ∧ ∃ (i : Nat) (c : Int), i ≤ unkN rows ∧ A.t 10 = iV i ∧ A.t 9 = iV c ∧ 0 ≤ c ∧
        ((c ≤ 100000 ∧ tooMany b (unkN rows) 1 = tooMany b (unkN rows - i) c) ∨ (c = 100001 ∧ tooMany b (unkN rows) 1 = true)))
      (fun A _ => match A.t 10 with | .lit (.int _ i) => ((unkN rows : Int) - i).toNat | _ => 0) ?_ ?_
    · exact ⟨rfl, rfl, rfl, rfl, rfl, 0, 1, by omega, rfl, rfl, by omega, .inl ⟨by omega, rfl⟩⟩
    · rintro ⟨t, d⟩ H' ⟨rfl, rfl, h0, h1', h8, i, c, hi, h10, h9, hc0, hgo⟩
      dsimp only at h0 h1' h8 h10 h9
      have w1 : IntKind.i64.wrap (b + 1) = b + 1 := wrap_ok (by omega) (by omega)
      have hm0 : 0 ≤ c * (b + 1) := Int.mul_nonneg hc0 (by omega)
      have hcle : c ≤ 100001 := by omega
      have hm1 : c * (b + 1) ≤ 100001 * 101 := Int.mul_le_mul hcle (by omega) (by omega) (by omega)
      have hm2 : c ≤ c * (b + 1) := by have := Int.mul_le_mul_of_nonneg_left (show 1 ≤ b + 1 by omega) hc0; omega
      have w2 : IntKind.i64.wrap (c * (b + 1)) = c * (b + 1) := wrap_ok (by omega) (by omega)
      obtain ⟨m, hm⟩ : ∃ m, m = c * (b + 1) := ⟨_, rfl⟩
      rw [← hm] at hm0 hm1 hm2
      have hw2 : IntKind.i64.wrap (c * (b + 1)) = m := by rw [hm]; exact w2
      have ht : i < unkN rows → (100000 < m → tooMany b (unkN rows) 1 = true) ∧ (m ≤ 100000 → c ≤ 100000 → tooMany b (unkN rows) 1 = tooMany b (unkN rows - (i + 1)) m) := fun hlt => by
        have e : tooMany b (unkN rows - i) c = if 100000 < m then true else tooMany b (unkN rows - (i + 1)) m := by
          rw [show unkN rows - i = (unkN rows - (i + 1)) + 1 from by omega, tooMany, ← hm]
        constructor
        · intro h
          rcases hgo with ⟨h3, h4⟩ | ⟨h3, h4⟩
          · rw [h4, e, if_pos h]
          · exact h4
        · intro h h5
          rcases hgo with ⟨h3, h4⟩ | ⟨h3, h4⟩
          · rw [h4, e, if_neg (by omega)]
          · omega
      clear hm w2
      unfold b19_1
      (repeat' (first | (simp only [↓s_skip, ↓s_reg, ↓s_seq, ↓s_cond, ↓s_block, ↓s_exit, ↓s_nil, ↓s_consN, ↓s_thenN, ↓s_thenE, ↓s_inN, ↓s_inE, ↓s_kret, ↓s_putS, ↓s_dOkS, ↓s_ev_t, ↓s_ev_c, ↓s_upd, ↓s_move, ↓s_assign, ↓s_bin, ↓s_callB, ↓s_min, ↓s_bin_lss, ↓s_bin_add, ↓s_bin_mul, List.map_cons, List.map_nil, ite_true, ite_false, Nat.reduceEqDiff, Nat.reduceLT, true_and, Nat.succ_ne_self, decide_true, decide_false, reduceCtorEq, eq_self, vcMin, Int.ofNat_lt, *]) | (refine guardL_splitTD ?_ ?_ <;> intro) | (refine guardL_splitFD ?_ ?_ <;> intro) | (refine guardP_splitTD ?_ ?_ <;> intro) | (refine guardP_splitFD ?_ ?_ <;> intro) | (refine condL_splitD ?_ ?_ <;> intro) | (refine guardL_splitT ?_ ?_ <;> intro) | (refine guardL_splitF ?_ ?_ <;> intro) | (refine guardP_splitT ?_ ?_ <;> intro) | (refine guardP_splitF ?_ ?_ <;> intro) | (refine condL_split ?_ ?_ <;> intro) | (refine ret_tmp ?_) | (refine acx_go rfl (fun _ _ _ h => h) ?_) | (refine acx_dreg mixed (fun _ _ _ _ e h => ⟨e.trans h.1, h.2⟩) _ (SubH.refl _) ?_) | (refine And.intro (SubH.new (by assumption)) ?_) | (refine allNew_intro fun zr zh => ?_; have zg := zh; (try simp only [AH.set_none] at zg)) | (exact SubH.refl _) | (refine SubH.of_set ?_ ?_) | assumption | (with_reducible refine And.intro ?_ ?_)))
      · have hlt : i < unkN rows := by assumption
        rw [wrap_ok (n := (i : Int) + 1) (by omega) (by omega)]
        refine ⟨i + 1, _, by omega, rfl, rfl, by split <;> omega, ?_⟩
        obtain ⟨t1, t2⟩ := ht hlt
        by_cases h5 : m ≤ 100000
        · rw [if_neg (by omega)]
          exact .inl ⟨h5, t2 h5 (by omega)⟩
        · have h6 : (if 100001 < m then (100001 : Int) else m) = 100001 := by split <;> omega
          rw [h6]
          exact .inr ⟨rfl, t1 (by omega)⟩
      · rw [wrap_ok (n := (i : Int) + 1) (by omega) (by omega)]
        omega
      · have hin : i = unkN rows := by omega
        subst hin
        clear ht hm0 hm1 hm2 w1 hw2
        unfold c19_2
        rcases hgo with ⟨h3, h4⟩ | ⟨h3, h4⟩
        · have ht : tooMany b (unkN rows) 1 = false := by rw [h4, Nat.sub_self, tooMany]
          clear h4
          have hX : pointR rows b = match fromL (allF rows) b (List.replicate (unkN rows) 0) with | some x => (x, true, 0) | none => ([], false, 0) := by
            unfold pointR; rw [if_pos hr, if_neg hb, if_neg (by simp [ht])]
          have h0n : (0 : Int) ≤ unkN rows := by omega
          have h8n : ((8 : Nat) : Int) * unkN rows ≤ 281474976710656 := by omega
          have h9n : (unkN rows : Int) ≤ 9223372036854775807 := by omega
          (repeat' (first | (simp only [↓s_skip, ↓s_reg, ↓s_seq, ↓s_seqL, ↓s_cond, ↓s_block, ↓s_ret, ↓s_loop, ↓s_nil, ↓s_consN, ↓s_thenN, ↓s_thenR, ↓s_kret, ↓s_putS, ↓s_dOkS, ↓s_ev_t, ↓s_ev_c, ↓s_upd, ↓s_move, ↓s_assign, ↓s_bin, ↓s_makeSlice, ↓s_bin_gtr, List.length_cons, List.length_nil, ite_true, ite_false, Nat.reduceEqDiff, Nat.reduceLT, true_and, Nat.succ_ne_self, decide_true, decide_false, Int.toNat_natCast, eq_self, Nat.zero_add, Int.ofNat_le, ↓n_make, n_makeS, n_makeT, zeros_int, zeroT_3, elT_37, *]) | (refine guardL_splitTD ?_ ?_ <;> intro) | (refine guardL_splitFD ?_ ?_ <;> intro) | (refine guardP_splitTD ?_ ?_ <;> intro) | (refine guardP_splitFD ?_ ?_ <;> intro) | (refine condL_splitD ?_ ?_ <;> intro) | (refine guardL_splitT ?_ ?_ <;> intro) | (refine guardL_splitF ?_ ?_ <;> intro) | (refine guardP_splitT ?_ ?_ <;> intro) | (refine guardP_splitF ?_ ?_ <;> intro) | (refine condL_split ?_ ?_ <;> intro) | (refine ret_tmp ?_) | (refine acx_go rfl (fun _ _ _ h => h) ?_) | (refine acx_dreg mixed (fun _ _ _ _ e h => ⟨e.trans h.1, h.2⟩) _ (SubH.refl _) ?_) | (refine And.intro (SubH.new (by assumption)) ?_) | (refine allNew_intro fun zr zh => ?_; have zg := zh; (try simp only [AH.set_none] at zg)) | (exact SubH.refl _) | (refine SubH.of_set ?_ ?_) | assumption | (with_reducible refine And.intro ?_ ?_)))
          · exfalso; omega
          rename_i hc9
          have hs := GhV.slice (H := H'.set zr (.cells 3 (encC intE (List.replicate (unkN rows) 0)) 0)) (n := unkN rows) (c := unkN rows) (AH.set_same _ _ _) (by omega)
          rw [AH.del_set _ _ _ zh] at hs
          refine acx_ghost (H' := H') (Ghost.slot (i := 11) (x' := .slice false (unkN rows) (encC intE (List.replicate (unkN rows) 0))) (by simp only [s_upd, Nat.reduceEqDiff, if_false, if_true]; exact hs)) ?_
          refine acx_loopN (fun _ _ _ h => h) (fun n A H2 => H2 = H' ∧ A.d = [] ∧ A.t 0 = rowsV rows ∧ A.t 1 = iV b ∧ ∃ x : List Int, A.t 11 = intsV x ∧ Within b x ∧ x.length = unkN rows ∧
              ((A.t 12 = boolV true ∧ n = rank b x + 1 ∧ fromL (allF rows) b (List.replicate (unkN rows) 0) = fromL (allF rows) b x) ∨ (A.t 12 = boolV false ∧ n = 0 ∧ fromL (allF rows) b (List.replicate (unkN rows) 0) = none))) (n0 := rank b (List.replicate (unkN rows) 0) + 1) ?_ ?_
          · refine ⟨rfl, rfl, (by simp only [s_upd, Nat.reduceEqDiff, if_false, *] <;> rfl), (by simp only [s_upd, Nat.reduceEqDiff, if_false, *] <;> rfl), List.replicate (unkN rows) 0, ?_, ?_, by simp, .inl ⟨(by simp only [s_upd, Nat.reduceEqDiff, if_true, if_false, *] <;> rfl), rfl, rfl⟩⟩
            · simp only [s_upd, if_true]
              show _ = VV.slice false (List.replicate (unkN rows) (0 : Int)).length _
              rw [List.length_replicate]
            · intro a ha
              rw [List.eq_of_mem_replicate ha]; omega
          · rintro n ⟨t', d⟩ H2 ⟨rfl, rfl, e0, e1, x, e11, hwx, hlx, hst⟩ R hR
            dsimp only at e0 e1 e11 hst
            rcases hst with ⟨e12, rfl, hfx⟩ | ⟨e12, rfl, hfx⟩
            · unfold b19_2
              (repeat' (first | (simp only [↓s_skip, ↓s_reg, ↓s_seq, ↓s_cond, ↓s_condT, ↓s_block, ↓s_ret, ↓s_nil, ↓s_consN, ↓s_thenN, ↓s_thenR, ↓s_inN, ↓s_inR, ↓s_kret, ↓s_putS, ↓s_dOkS, ↓s_ev_t, ↓s_ev_c, ↓s_ev_f, ↓s_upd, ↓s_move, ↓s_assign, ↓s_extract, ↓s_callV, ↓s_callL, vcExtract, boolV, List.map_cons, List.map_nil, ite_true, ite_false, Nat.reduceEqDiff, Nat.reduceLT, true_and, Nat.succ_ne_self, reduceCtorEq, eq_self, List.getElem?_cons_zero, List.getElem?_cons_succ, en_43, en_44, *]) | (refine guardL_splitTD ?_ ?_ <;> intro) | (refine guardL_splitFD ?_ ?_ <;> intro) | (refine guardP_splitTD ?_ ?_ <;> intro) | (refine guardP_splitFD ?_ ?_ <;> intro) | (refine condL_splitD ?_ ?_ <;> intro) | (refine guardL_splitT ?_ ?_ <;> intro) | (refine guardL_splitF ?_ ?_ <;> intro) | (refine guardP_splitT ?_ ?_ <;> intro) | (refine guardP_splitF ?_ ?_ <;> intro) | (refine condL_split ?_ ?_ <;> intro) | (refine ret_tmp ?_) | (refine acx_go rfl (fun _ _ _ h => h) ?_) | (refine acx_dreg mixed (fun _ _ _ _ e h => ⟨e.trans h.1, h.2⟩) _ (SubH.refl _) ?_) | (refine And.intro (SubH.new (by assumption)) ?_) | (refine allNew_intro fun zr zh => ?_; have zg := zh; (try simp only [AH.set_none] at zg)) | (exact SubH.refl _) | (refine SubH.of_set ?_ ?_) | assumption | (refine PureF.use (all43 rows x h1 (by omega)) ?_) | (refine PureF.use (next44 x b (by omega) (by omega) hwx) ?_) | (with_reducible refine And.intro ?_ ?_)))
              · have hp : allF rows x = true := by assumption
                rw [pointRX_of (p := (x, true, 0)) (by rw [hX, hfx, fromL_hit hp])]
                exact retPost_ret rfl (by simp only [resV, resAll, resOne, s_upd, Nat.reduceEqDiff, if_true, if_false, Option.bind_some, Option.map_some, tupV] <;> rfl) ⟨_, rfl, GhV.refl _ _⟩
              · have hp : allF rows x = false := by assumption
                cases hy : nextL b x with
                | some y =>
                  have e : nextF b x = (y, true) := by simp only [nextF, hy]
                  rw [e]
                  refine hR (rank b y + 1) _ _ (by have := nextL_rank (by omega) hwx hy; omega) ⟨rfl, rfl, (by simp only [s_upd, Nat.reduceEqDiff, if_false, *] <;> rfl), (by simp only [s_upd, Nat.reduceEqDiff, if_false, *] <;> rfl), y, (by simp only [s_upd, Nat.reduceEqDiff, if_true, if_false, *] <;> rfl), nextL_within (by omega) hwx hy, (nextL_len hy).trans hlx, .inl ⟨(by simp only [s_upd, Nat.reduceEqDiff, if_true, if_false, *] <;> rfl), rfl, ?_⟩⟩
                  rw [hfx]; exact fromL_next (by omega) hwx hp hy
                | none =>
                  have e : nextF b x = (x.map fun _ => 0, false) := by simp only [nextF, hy]
                  rw [e]
                  refine hR 0 _ _ (by omega) ⟨rfl, rfl, (by simp only [s_upd, Nat.reduceEqDiff, if_false, *] <;> rfl), (by simp only [s_upd, Nat.reduceEqDiff, if_false, *] <;> rfl), _, (by simp only [s_upd, Nat.reduceEqDiff, if_true, if_false, *] <;> rfl), ?_, by simp [hlx], .inr ⟨(by simp only [s_upd, Nat.reduceEqDiff, if_true, if_false, *] <;> rfl), rfl, ?_⟩⟩
                  · intro a ha
                    obtain ⟨_, _, rfl⟩ := List.mem_map.1 ha
                    omega
                  · rw [hfx]; exact fromL_end hp hy
            · unfold b19_2 c19_1
              rw [pointRX_of (p := ([], false, 0)) (by rw [hX, hfx])]
              clear hR
              (repeat' (first | (simp only [↓s_reg, ↓s_seq, ↓s_cond, ↓s_condF, ↓s_exit, ↓s_ret, ↓s_nil, ↓s_consN, ↓s_thenN, ↓s_thenE, ↓s_inE, ↓s_putS, ↓s_dOkS, ↓s_ev_t, ↓s_ev_c, ↓s_upd, ↓s_move, ↓s_assign, boolV, ite_true, Nat.reduceLT, true_and, eq_self, *]) | (refine guardL_splitTD ?_ ?_ <;> intro) | (refine guardL_splitFD ?_ ?_ <;> intro) | (refine guardP_splitTD ?_ ?_ <;> intro) | (refine guardP_splitFD ?_ ?_ <;> intro) | (refine condL_splitD ?_ ?_ <;> intro) | (refine guardL_splitT ?_ ?_ <;> intro) | (refine guardL_splitF ?_ ?_ <;> intro) | (refine guardP_splitT ?_ ?_ <;> intro) | (refine guardP_splitF ?_ ?_ <;> intro) | (refine condL_split ?_ ?_ <;> intro) | (refine ret_tmp ?_) | (refine acx_go rfl (fun _ _ _ h => h) ?_) | (refine acx_dreg mixed (fun _ _ _ _ e h => ⟨e.trans h.1, h.2⟩) _ (SubH.refl _) ?_) | (refine And.intro (SubH.new (by assumption)) ?_) | (refine allNew_intro fun zr zh => ?_; have zg := zh; (try simp only [AH.set_none] at zg)) | (exact SubH.refl _) | (refine SubH.of_set ?_ ?_) | assumption | (with_reducible refine And.intro ?_ ?_)))
              exact retPost_ret rfl (by simp only [resV, resAll, resOne, s_upd, Nat.reduceEqDiff, if_true, if_false, Option.bind_some, Option.map_some, tupV] <;> rfl) ⟨_, rfl, nilX⟩
        · rw [pointRX_of (p := ([], false, 7)) (by unfold pointR; rw [if_pos hr, if_neg hb, if_pos h4])]
          (repeat' (first | (simp only [↓s_reg, ↓s_seq, ↓s_cond, ↓s_condT, ↓s_ret, ↓s_nil, ↓s_consN, ↓s_thenN, ↓s_thenR, ↓s_kret, ↓s_putS, ↓s_dOkS, ↓s_ev_t, ↓s_ev_c, ↓s_upd, ↓s_move, ↓s_assign, ↓s_bin, ↓s_bin_gtr, boolV, ite_true, ite_false, Nat.reduceEqDiff, Nat.reduceLT, true_and, Nat.succ_ne_self, decide_true, eq_self, Int.reduceLT, *]) | (refine guardL_splitTD ?_ ?_ <;> intro) | (refine guardL_splitFD ?_ ?_ <;> intro) | (refine guardP_splitTD ?_ ?_ <;> intro) | (refine guardP_splitFD ?_ ?_ <;> intro) | (refine condL_splitD ?_ ?_ <;> intro) | (refine guardL_splitT ?_ ?_ <;> intro) | (refine guardL_splitF ?_ ?_ <;> intro) | (refine guardP_splitT ?_ ?_ <;> intro) | (refine guardP_splitF ?_ ?_ <;> intro) | (refine condL_split ?_ ?_ <;> intro) | (refine ret_tmp ?_) | (refine acx_go rfl (fun _ _ _ h => h) ?_) | (refine acx_dreg mixed (fun _ _ _ _ e h => ⟨e.trans h.1, h.2⟩) _ (SubH.refl _) ?_) | (refine And.intro (SubH.new (by assumption)) ?_) | (refine allNew_intro fun zr zh => ?_; have zg := zh; (try simp only [AH.set_none] at zg)) | (exact SubH.refl _) | (refine SubH.of_set ?_ ?_) | assumption | (with_reducible refine And.intro ?_ ?_)))
          exact retPost_ret rfl (by simp only [resV, resAll, resOne, s_upd, Nat.reduceEqDiff, if_true, if_false, Option.bind_some, Option.map_some, tupV] <;> rfl) ⟨_, rfl, nilX⟩
  · rw [pointRX_of (p := ([], false, rightF rows)) (by simp [pointR, *])]
    (repeat' (first | (simp only [↓s_reg, ↓s_seq, ↓s_cond, ↓s_condT, ↓s_ret, ↓s_nil, ↓s_consN, ↓s_thenN, ↓s_thenR, ↓s_kret, ↓s_putS, ↓s_dOkS, ↓s_ev_t, ↓s_ev_c, ↓s_ev_f, ↓s_upd, ↓s_move, ↓s_assign, ↓s_bin, ↓s_callV, ↓s_callL, ↓s_bin_neq, boolV, List.map_cons, List.map_nil, List.getD_cons_zero, List.getD_cons_succ, List.getD_nil, ite_true, ite_false, Nat.reduceEqDiff, Nat.reduceLT, true_and, Nat.succ_ne_self, decide_false, Bool.not_false, reduceCtorEq, undefV, eq_self, undef, en_35, *]) | (refine guardL_splitTD ?_ ?_ <;> intro) | (refine guardL_splitFD ?_ ?_ <;> intro) | (refine guardP_splitTD ?_ ?_ <;> intro) | (refine guardP_splitFD ?_ ?_ <;> intro) | (refine condL_splitD ?_ ?_ <;> intro) | (refine guardL_splitT ?_ ?_ <;> intro) | (refine guardL_splitF ?_ ?_ <;> intro) | (refine guardP_splitT ?_ ?_ <;> intro) | (refine guardP_splitF ?_ ?_ <;> intro) | (refine condL_split ?_ ?_ <;> intro) | (refine ret_tmp ?_) | (refine acx_go rfl (fun _ _ _ h => h) ?_) | (refine acx_dreg mixed (fun _ _ _ _ e h => ⟨e.trans h.1, h.2⟩) _ (SubH.refl _) ?_) | (refine And.intro (SubH.new (by assumption)) ?_) | (refine allNew_intro fun zr zh => ?_; have zg := zh; (try simp only [AH.set_none] at zg)) | (exact SubH.refl _) | (refine SubH.of_set ?_ ?_) | assumption | (refine PureF.use (right35 _ h1) ?_) | (refine PureF.use (unknowns10 _ h1) ?_) | (with_reducible refine And.intro ?_ ?_)))
    exact retPost_ret rfl (by simp only [resV, resAll, resOne, s_upd, Nat.reduceEqDiff, if_true, if_false, Option.bind_some, Option.map_some, tupV] <;> rfl) ⟨_, rfl, nilX⟩
end Go.PV.Ytefpjfpelicedaa
end
section
/- The plain law of ArithDerives: the reference's answers are the program's. -/
set_option linter.unusedVariables false
set_option linter.unusedSimpArgs false
set_option maxRecDepth 20000
namespace Go.PV.Ytefpjfpelicedaa
open Go Go.Proofs
theorem W_W (a : Int) : W (W a) = W a := by
  have h1 : -9223372036854775808 ≤ IntKind.i64.wrap a := by rw [IntKind.wrap_i64]; omega
  have h2 : IntKind.i64.wrap a ≤ 9223372036854775807 := by rw [IntKind.wrap_i64]; omega
  exact wrap_ok h1 h2
theorem ful_rest (r : Row) : ∀ (ys : List Int) (k : Nat) (s : Int), r.c.length ≤ k → W s = s → fulGo r ys k s = s
  | [], k, s, _, _ => rfl
  | y :: ys, k, s, hk, hs => by
    have hc : coeffF r k = 0 := by unfold coeffF; rw [if_neg (by omega)]
    have e : W (s + W (0 * y)) = s := by rw [Int.zero_mul, show W 0 = 0 from wrap_ok (by omega) (by omega), Int.add_zero, hs]
    rw [fulGo, hc, e]
    exact ful_rest r ys (k + 1) s (by omega) hs
theorem ful_dot (r : Row) : ∀ (ys : List Int) (k : Nat) (s : Int), r.c.length ≤ k + ys.length → W s = s → fulGo r ys k s = dotGo (r.c.drop k) ys s
  | [], k, s, h, _ => by
    rw [List.drop_eq_nil_of_le (by simpa using h)]; rfl
  | y :: ys, k, s, h, hs => by
    by_cases hk : k < r.c.length
    · have hc : coeffF r k = r.c[k] := by
        unfold coeffF
        rw [if_pos (by omega)]
        simp [List.getD_eq_getElem?_getD, hk]
      rw [List.drop_eq_getElem_cons hk, fulGo, dotGo, hc]
      exact ful_dot r ys (k + 1) _ (by simp only [List.length_cons] at h; omega) (W_W _)
    · rw [ful_rest r _ k s (by omega) hs, List.drop_eq_nil_of_le (by omega)]
      rfl
theorem over_ful {r : Row} {x : List Int} (h : r.c.length ≤ x.length) : (!over x r) = fulF r x := by
  unfold over fulF
  rw [ful_dot r x 0 0 (by omega) (wrap_ok (by omega) (by omega)), List.drop_zero, Bool.eq_iff_iff]
  simp
theorem okP_all {rows : List Row} {x : List Int} (h : unkN rows ≤ x.length) : okP rows x = allF rows x := by
  have : ∀ l : List Row, (∀ r ∈ l, r.c.length ≤ x.length) → (!(l.any (over x))) = l.all fun r => fulF r x := by
    intro l
    induction l with
    | nil => intro _; rfl
    | cons r l ih =>
      intro hl
      rw [List.any_cons, List.all_cons, ← ih fun r' h' => hl r' (List.mem_cons_of_mem _ h'), ← over_ful (hl r (List.mem_cons_self ..)), Bool.not_or]
  exact this rows fun r hr => Nat.le_trans (len_unkN hr) h
theorem holds_eq (rows : List Row) (x : List Int) : holdsF rows x = holdsR rows x := by
  unfold holdsF holdsR
  split
  · split
    · rename_i h
      split
      · rfl
      · have := unkN_eq rows
        have := okP_all (rows := rows) (x := x) (by omega)
        unfold okP at this
        rw [this]
    · rfl
  · rfl
theorem findL_congr {p q : List Int → Bool} {b : Int} {k : Nat} (h : ∀ x, x.length = k → p x = q x) : ∀ (n : Nat) (x : List Int), x.length = k → findL p b n x = findL q b n x
  | 0, _, _ => rfl
  | n + 1, x, hx => by
    simp only [findL, h x hx]
    split
    · rfl
    · cases e : nextL b x with
      | none => rfl
      | some y => exact findL_congr h n y ((nextL_len e).trans hx)
theorem point_eq (rows : List Row) (b : Int) : pointF rows b = pointR rows b := by
  have h : fromL (okP rows) b (List.replicate (unkN rows) 0) = fromL (allF rows) b (List.replicate (unkN rows) 0) :=
    findL_congr (k := unkN rows) (fun x hx => okP_all (by omega)) _ _ (by simp)
  unfold pointF pointR
  rw [h]
  generalize fromL (allF rows) b (List.replicate (unkN rows) 0) = o
  cases o <;> rfl
theorem findL_len {p : List Int → Bool} {b : Int} : ∀ (n : Nat) (x y : List Int), findL p b n x = some y → y.length = x.length
  | 0, _, _, h => by simp [findL] at h
  | n + 1, x, y, h => by
    simp only [findL] at h
    split at h
    · cases h; rfl
    · cases e : nextL b x with
      | none => rw [e] at h; cases h
      | some z => rw [e] at h; exact (findL_len n z y h).trans (nextL_len e)
theorem pointF_len (rows : List Row) (b : Int) : (pointF rows b).1.length ≤ 12 := by
  unfold pointF
  split
  · rename_i hr
    have h12 := unkN_le hr
    split
    · simp
    · split
      · simp
      · split
        · rename_i y h
          have := findL_len _ _ _ h
          simp at this
          simp; omega
        · simp
  · simp
end Go.PV.Ytefpjfpelicedaa
end
section
/- ArithDerives: what its program computes. -/
set_option linter.unusedVariables false
set_option linter.unusedSimpArgs false
set_option maxRecDepth 20000
set_option maxHeartbeats 4000000
namespace Go.PV.Ytefpjfpelicedaa
open Go Go.Proofs
theorem bin_beq {x y : Operand} {a b : Bool} {H : AH} {K : VE → AH → Prop} (h : K (.ret (.lit (.bool (decide (a = b))))) H) : vcBin Try.prog .eql 4 x y (.lit (.bool a)) (.lit (.bool b)) H K := by
  simp only [vcBin]
  refine ⟨Try.underlying4, .inr (.inr Try.underlying4), fun c hc => ?_⟩
  have hc : c = (a == b) := hc
  rwa [hc, show (a == b) = decide (a = b) from by rw [Bool.eq_iff_iff]; simp]
theorem bin_bne {x y : Operand} {a b : Bool} {H : AH} {K : VE → AH → Prop} (h : K (.ret (.lit (.bool (!decide (a = b))))) H) : vcBin Try.prog .neq 4 x y (.lit (.bool a)) (.lit (.bool b)) H K := by
  simp only [vcBin]
  refine ⟨Try.underlying4, .inr (.inr Try.underlying4), fun c hc => ?_⟩
  have hc : c = (a == b) := hc
  rwa [hc, show (a == b) = decide (a = b) from by rw [Bool.eq_iff_iff]; simp]
theorem derives6 (rows : List Row) (ls : List Line) (x : List Int) (b : Int) (h1 : (rows.length : Int) ≤ 9223372036854775806) (h3 : (x.length : Int) ≤ 17592186044416) : PureF Try.prog 6 [rowsV rows, linesV ls, intsV x, iV b] (boolV true) := by
  refine PureF.forget fun H => ?_
  refine vcalls_intro fd6 (by simp) ?_
  unfold c6
  have h3' : (x.length : Int) ≤ 9223372036854775806 := by omega
  by_cases hf : fewF rows ls 5010 = true
  · obtain ⟨f1, f2, f3⟩ := few_len hf
    by_cases hx : (x.length : Int) ≤ 30
    · have f1' : (rows.length : Int) ≤ 1000000 := by omega
      have f2' : (ls.length : Int) ≤ 1000000 := by omega
      have f3' : ∀ r ∈ rows, (r.c.length : Int) ≤ 1000000 := fun r hr => by have := f3 r hr; omega
      have f2'' : (ls.length : Int) ≤ 9223372036854775806 := by omega
      have hd := derive22 rows ls h1 f2''
      have hd' := derive27 rows ls h1 f2''
      have hc := check13 rows ls h1 f2''
      have hc' := check14 rows ls h1 f2''
      have hdl := deriveF_len rows ls
      have hdo := deriveF_ok rows ls
      have hh := holds24 rows x h1 h3'
      have hh' := holds30 rows x h1 h3'
      have hp := point31 rows b h1
      have hp' := point19 rows b h1
      rw [← holds_eq] at hh'
      unfold pointX at hp
      unfold pointRX at hp'
      rw [← point_eq] at hp'
      have hpl : ((pointF rows b).1.length : Int) ≤ 9223372036854775806 := by
        have := pointF_len rows b
        omega
      generalize deriveF rows ls = d at *
      generalize checkF rows ls = c at *
      generalize holdsF rows x = hv at *
      generalize pointF rows b = pv at *
      have hb1 := back29P d.1 (by omega)
      have hb2 := same28 d.1 d.1 (by omega) (fun r hr => by have := (hdo r hr).1.1; have := (hdo r hr).2; omega)
      have he := equal32 pv.1 pv.1 hpl
      (repeat' (first | (simp only [↓s_skip, ↓s_reg, ↓s_seq, ↓s_cond, ↓s_condF, ↓s_ret, ↓s_nil, ↓s_consN, ↓s_consG, ↓s_guardTT, ↓s_guardFT, ↓s_guardFF, ↓s_thenN, ↓s_thenR, ↓s_kret, ↓s_putS, ↓s_dOkS, ↓s_ev_t, ↓s_ev_c, ↓s_ev_f, ↓s_upd, ↓s_move, ↓s_assign, ↓s_isBool, ↓s_pickA, ↓s_pick, ↓s_bin, ↓s_un, ↓s_extract, ↓s_callB, ↓s_callV, ↓s_callL, ↓s_len, ↓s_un_not, ↓s_bin_leq, ↓s_bin_gtr, ↓s_bin_eql, ↓s_bin_neq, vcExtract, intV, boolV, List.map_cons, List.map_nil, List.getD_cons_zero, List.getD_cons_succ, List.getD_nil, ite_true, ite_false, Nat.reduceEqDiff, Nat.reduceLT, ne_eq, not_false_eq_true, true_and, Bool.false_eq_true, Nat.succ_ne_self, decide_true, decide_false, Bool.not_true, reduceCtorEq, callOk, undefV, eq_self, List.getElem?_cons_zero, List.getElem?_cons_succ, n_lenS, undef, elT_37, en_7, en_8, en_12, en_21, en_22, en_27, en_29, en_28, en_13, en_14, en_25, en_24, en_30, en_31, en_19, en_32, *]) | (refine guardL_splitTD ?_ ?_ <;> intro) | (refine guardL_splitFD ?_ ?_ <;> intro) | (refine guardP_splitTD ?_ ?_ <;> intro) | (refine guardP_splitFD ?_ ?_ <;> intro) | (refine condL_splitD ?_ ?_ <;> intro) | (refine guardL_splitT ?_ ?_ <;> intro) | (refine guardL_splitF ?_ ?_ <;> intro) | (refine guardP_splitT ?_ ?_ <;> intro) | (refine guardP_splitF ?_ ?_ <;> intro) | (refine condL_split ?_ ?_ <;> intro) | (refine ret_tmp ?_) | (refine acx_go rfl (fun _ _ _ h => h) ?_) | (refine acx_dreg mixed (fun _ _ _ _ e h => ⟨e.trans h.1, h.2⟩) _ (SubH.refl _) ?_) | (refine And.intro (SubH.new (by assumption)) ?_) | (refine allNew_intro fun zr zh => ?_; have zg := zh; (try simp only [AH.set_none] at zg)) | (exact SubH.refl _) | (refine SubH.of_set ?_ ?_) | assumption | (refine PureF.use (few7 rows ls 5010 h1) ?_) | (refine PureF.use (awake8) ?_) | (refine PureF.use (rows12P rows f1' f3') ?_) | (refine PureF.use (lines21P ls f2') ?_) | (refine PureF.use (clone25b x h3) ?_) | (refine PureF.use (hd) ?_) | (refine PureF.use (hd') ?_) | (refine PureF.use (hc) ?_) | (refine PureF.use (hc') ?_) | (refine PureF.use (hh) ?_) | (refine PureF.use (hh') ?_) | (refine PureF.use (hp) ?_) | (refine PureF.use (hp') ?_) | (refine PureF.use (hb1) ?_) | (refine PureF.use (hb2) ?_) | (refine PureF.use (he) ?_) | (refine bin_beq ?_) | (refine bin_bne ?_) | (with_reducible refine And.intro ?_ ?_)))
    · have hx' : 30 < (x.length : Int) := by omega
      (repeat' (first | (simp only [↓s_reg, ↓s_seq, ↓s_cond, ↓s_condT, ↓s_ret, ↓s_nil, ↓s_consN, ↓s_consG, ↓s_guardFF, ↓s_thenN, ↓s_thenR, ↓s_kret, ↓s_putS, ↓s_dOkS, ↓s_ev_t, ↓s_ev_c, ↓s_ev_f, ↓s_upd, ↓s_move, ↓s_assign, ↓s_isBool, ↓s_pickA, ↓s_pick, ↓s_bin, ↓s_un, ↓s_callB, ↓s_callV, ↓s_callL, ↓s_len, ↓s_un_not, ↓s_bin_gtr, intV, boolV, List.map_cons, List.map_nil, List.getD_cons_zero, List.getD_cons_succ, List.getD_nil, ite_true, ite_false, Nat.reduceEqDiff, Nat.reduceLT, ne_eq, not_false_eq_true, true_and, Bool.false_eq_true, Nat.succ_ne_self, decide_true, Bool.not_true, reduceCtorEq, undefV, eq_self, n_lenS, undef, elT_37, en_7, en_8, *]) | (refine guardL_splitTD ?_ ?_ <;> intro) | (refine guardL_splitFD ?_ ?_ <;> intro) | (refine guardP_splitTD ?_ ?_ <;> intro) | (refine guardP_splitFD ?_ ?_ <;> intro) | (refine condL_splitD ?_ ?_ <;> intro) | (refine guardL_splitT ?_ ?_ <;> intro) | (refine guardL_splitF ?_ ?_ <;> intro) | (refine guardP_splitT ?_ ?_ <;> intro) | (refine guardP_splitF ?_ ?_ <;> intro) | (refine condL_split ?_ ?_ <;> intro) | (refine ret_tmp ?_) | (refine acx_go rfl (fun _ _ _ h => h) ?_) | (refine acx_dreg mixed (fun _ _ _ _ e h => ⟨e.trans h.1, h.2⟩) _ (SubH.refl _) ?_) | (refine And.intro (SubH.new (by assumption)) ?_) | (refine allNew_intro fun zr zh => ?_; have zg := zh; (try simp only [AH.set_none] at zg)) | (exact SubH.refl _) | (refine SubH.of_set ?_ ?_) | assumption | (refine PureF.use (few7 rows ls 5010 h1) ?_) | (refine PureF.use (awake8) ?_) | (with_reducible refine And.intro ?_ ?_)))
  · have hf' : fewF rows ls 5010 = false := by simpa using hf
    (repeat' (first | (simp only [↓s_reg, ↓s_seq, ↓s_cond, ↓s_condT, ↓s_ret, ↓s_nil, ↓s_consN, ↓s_consG, ↓s_guardTF, ↓s_thenN, ↓s_thenR, ↓s_kret, ↓s_putS, ↓s_dOkS, ↓s_ev_t, ↓s_ev_c, ↓s_ev_f, ↓s_upd, ↓s_move, ↓s_assign, ↓s_isBool, ↓s_pickA, ↓s_pick, ↓s_un, ↓s_callV, ↓s_callL, ↓s_un_not, boolV, List.map_cons, List.map_nil, List.getD_cons_zero, List.getD_cons_succ, List.getD_nil, ite_true, ite_false, Nat.reduceEqDiff, Nat.reduceLT, true_and, Nat.succ_ne_self, Bool.not_false, reduceCtorEq, callOk, undefV, eq_self, undef, en_7, en_8, *]) | (refine guardL_splitTD ?_ ?_ <;> intro) | (refine guardL_splitFD ?_ ?_ <;> intro) | (refine guardP_splitTD ?_ ?_ <;> intro) | (refine guardP_splitFD ?_ ?_ <;> intro) | (refine condL_splitD ?_ ?_ <;> intro) | (refine guardL_splitT ?_ ?_ <;> intro) | (refine guardL_splitF ?_ ?_ <;> intro) | (refine guardP_splitT ?_ ?_ <;> intro) | (refine guardP_splitF ?_ ?_ <;> intro) | (refine condL_split ?_ ?_ <;> intro) | (refine ret_tmp ?_) | (refine acx_go rfl (fun _ _ _ h => h) ?_) | (refine acx_dreg mixed (fun _ _ _ _ e h => ⟨e.trans h.1, h.2⟩) _ (SubH.refl _) ?_) | (refine And.intro (SubH.new (by assumption)) ?_) | (refine allNew_intro fun zr zh => ?_; have zg := zh; (try simp only [AH.set_none] at zg)) | (exact SubH.refl _) | (refine SubH.of_set ?_ ?_) | assumption | (refine PureF.use (few7 rows ls 5010 h1) ?_) | (refine PureF.use (awake8) ?_) | (with_reducible refine And.intro ?_ ?_)))
end Go.PV.Ytefpjfpelicedaa
end
section
/- From the machine to a statement: what an argument reads asg, opened by its type; what is asked behind the call. -/
set_option linter.unusedVariables false
set_option linter.unusedSimpArgs false
namespace Go.PV
open Go.ChangeShapes Go.WideShapes Go.RowKit

/-- What was there. -/
abbrev old (w : World) (r : Nat) : Prop := r < w.heap.size
theorem sim_old (w : World) : Sim (old w) AH.nil w := ⟨fun r b h => by simp [AH.nil] at h, fun r b h => by simp [AH.nil] at h, fun r h => h⟩

/-- Whatever reads by the type is what 'enc' says, of something in 'dom'. -/
def RdT (P : Program) (t : TypeId) {α : Type} (enc : α → List VV) (dom : α → Prop) : Prop :=
  ∀ (H : Type) (en : TypeId × Value → H) (w : World) (base : Nat) (spare : Nat → Bool) (held : Bool) (fuel : Nat) (cs : List Value) (d : DataW H) (ps : List MemPlace),
    DataW.trod en P w base spare held fuel t cs = some (d, ps) → (∀ n ∈ d.weights P t, n ≤ reachBytes) → ∃ a, dom a ∧ RvL (old w) w (enc a) cs
/-- A struct's fields, from a place on. -/
def RdFs (P : Program) (fs : List Field) (off tot : Nat) {α : Type} (enc : α → List VV) (dom : α → Prop) : Prop :=
  ∀ (H : Type) (en : TypeId × Value → H) (w : World) (base : Nat) (spare : Nat → Bool) (held : Bool) (n : Nat) (cs : List Value) (xs : List (DataW H × List MemPlace)),
    cs.length = tot → xs.length = fs.length → (∀ (i : Nat) (f : Field), fs[i]? = some f → DataW.trod en P w base spare held n f.type ((cs.drop f.offset).take (P.cellsOf f.type)) = xs[i]?) →
    (∀ n ∈ DataW.weightsEach P (fs.map (·.type)) (xs.map (·.1)), n ≤ reachBytes) → ∃ a, dom a ∧ RvL (old w) w (enc a) (cs.drop off)

section
variable {P : Program} {α β : Type} {t e : TypeId} {enc : α → List VV} {dom : α → Prop} {enc' : β → List VV} {dom' : β → Prop}
theorem rd_map (g : α → β) (h : RdT P t enc dom) (h1 : ∀ a, enc' (g a) = enc a) (h2 : ∀ a, dom a → dom' (g a)) : RdT P t enc' dom' := by
  intro H en w base spare held fuel cs d ps ht hw
  obtain ⟨a, ha, hr⟩ := h H en w base spare held fuel cs d ps ht hw
  exact ⟨g a, h2 a ha, by rw [h1]; exact hr⟩
theorem rd_int {k : IntKind} (ht : P.underlying t = some (.int k)) : RdT P t (fun n : Int => [.lit (.int k n)]) (fun n => (Lit.int k n).wf = true) := by
  intro H en w base spare held fuel cs d ps h _
  obtain ⟨n, rfl, _, hw⟩ := DataW.trod_int ht h
  exact ⟨n, hw, _, [], rfl, rfl, rfl⟩
theorem rdfs_nil (tot : Nat) : RdFs P [] tot tot (fun _ : Unit => []) (fun _ => True) := by
  intro H en w base spare held n cs xs hl _ _ _
  refine ⟨(), trivial, ?_⟩
  rw [List.drop_eq_nil_of_le (by omega)]
  rfl
theorem RvL.split {S : Nat → Prop} {w : World} {xs ys : List VV} {cs : List Value} {k : Nat} (h1 : RvL S w xs (cs.take k)) (h2 : RvL S w ys (cs.drop k)) : RvL S w (xs ++ ys) cs := by
  have := h1.append h2
  rwa [List.take_append_drop] at this
theorem rdfs_cons {f : Field} {fs : List Field} {off tot k : Nat} (ho : f.offset = off) (hk : P.cellsOf f.type = k) (h1 : RdT P f.type enc dom) (h2 : RdFs P fs (off + k) tot enc' dom') :
    RdFs P (f :: fs) off tot (fun p : α × β => enc p.1 ++ enc' p.2) (fun p => dom p.1 ∧ dom' p.2) := by
  intro H en w base spare held n cs xs hl hx hr hw
  cases xs with
  | nil => simp at hx
  | cons x xs =>
    have h0 := hr 0 f (by simp)
    simp only [List.getElem?_cons_zero] at h0
    rw [List.map_cons, List.map_cons, DataW.weightsEach] at hw
    obtain ⟨a, ha, hra⟩ := h1 H en w base spare held n _ x.1 x.2 h0 fun m hm => hw m (List.mem_append_left _ hm)
    obtain ⟨b, hb, hrb⟩ := h2 H en w base spare held n cs xs hl (by simpa using hx) (fun i f hf => by simpa using hr (i + 1) f (by simpa using hf)) fun m hm => hw m (List.mem_append_right _ hm)
    refine ⟨(a, b), ⟨ha, hb⟩, RvL.split (k := k) ?_ ?_⟩
    · rw [ho, hk] at hra; exact hra
    · rw [List.drop_drop]; exact hrb
theorem rd_struct {fs : Array Field} {tot : Nat} (ht : P.underlying t = some (.struct fs)) (hc : P.cellsOf t = tot) (h : RdFs P fs.toList 0 tot enc dom) : RdT P t enc dom := by
  intro H en w base spare held fuel cs d ps hr hw
  obtain ⟨xs, n, _, hx, hl, hxl, hf⟩ := DataW.trod_struct ht hr
  simp only [Prod.mk.injEq] at hx
  obtain ⟨rfl, rfl⟩ := hx
  have := h H en w base spare held n cs xs (by rw [hl, hc]) (by simpa using hxl) (fun i f hi => hf i f (by simpa using hi)) (fun m hm => hw m (by
    simp only [DataW.weights, ht]; exact hm))
  simpa using this
theorem rvC_of_cells {S : Nat → Prop} {w : World} : ∀ {xs : List VV} {cs : List Value} {r o : Nat}, RvL S w xs cs → (∀ j, j < cs.length → w.cell? ⟨r, o + j, none⟩ = cs[j]?) → RvC S w xs r o
  | [], _, _, _, _, _ => trivial
  | x :: xs, cs, r, o, h, hc => by
    obtain ⟨u, us, rfl, h1, h2⟩ := h
    refine ⟨⟨u, by simpa using hc 0 (by simp), h1⟩, rvC_of_cells h2 fun j hj => ?_⟩
    have := hc (j + 1) (by simpa using hj)
    rw [show o + 1 + j = o + (j + 1) by omega]
    simpa using this
theorem RvC.append {S : Nat → Prop} {w : World} : ∀ {xs ys : List VV} {r o : Nat}, RvC S w xs r o → RvC S w ys r (o + xs.length) → RvC S w (xs ++ ys) r o
  | [], _, _, _, _, h => h
  | x :: xs, ys, r, o, h, h' => ⟨h.1, RvC.append h.2 (by rw [List.length_cons] at h'; rw [show o + 1 + xs.length = o + (xs.length + 1) by omega]; exact h')⟩
theorem rvC_elems {S : Nat → Prop} {w : World} {k r : Nat} (hl : ∀ a, (enc a).length = k) : ∀ (n o : Nat), (∀ i, i < n → ∃ a, dom a ∧ RvC S w (enc a) r (o + i * k)) → ∃ l, l.length = n ∧ (∀ a ∈ l, dom a) ∧ RvC S w (encC enc l) r o
  | 0, _, _ => ⟨[], rfl, by simp, trivial⟩
  | n + 1, o, h => by
    obtain ⟨a, ha, hr⟩ := h 0 (by omega)
    obtain ⟨l, hn, hd, hrl⟩ := rvC_elems hl n (o + k) fun i hi => by
      obtain ⟨b, hb, hrb⟩ := h (i + 1) (by omega)
      exact ⟨b, hb, by rw [Nat.succ_mul] at hrb; rw [show o + k + i * k = o + (i * k + k) by omega]; exact hrb⟩
    refine ⟨a :: l, by simp [hn], ?_, ?_⟩
    · intro b hb
      rcases List.mem_cons.1 hb with rfl | hb
      · exact ha
      · exact hd b hb
    · rw [encC_cons]
      exact RvC.append (by simpa using hr) (by rw [hl]; exact hrl)
theorem weightsAll_mem {H : Type} {e : TypeId} {d : DataW H} {m : Nat} (hm : m ∈ d.weights P e) : ∀ {l : List (DataW H)}, d ∈ l → m ∈ DataW.weightsAll P e l
  | x :: l, h => by
    rw [DataW.weightsAll]
    rcases List.mem_cons.1 h with rfl | h
    · exact List.mem_append_left _ hm
    · exact List.mem_append_right _ (weightsAll_mem hm h)
theorem rd_slice {k b : Nat} (ht : P.underlying t = some (.slice e)) (hc : P.cellsOf e = k) (hk : 0 < k) (hb : P.bytesOf e = b) (h : RdT P e enc dom) (hl : ∀ a, (enc a).length = k) :
    RdT P t (fun l => [encS enc l]) (fun l => l.length * b ≤ reachBytes ∧ ∀ a ∈ l, dom a) := by
  intro H en w base spare held fuel cs d ps hr hw
  rcases DataW.trod_slice ht hr with ⟨rfl, _⟩ | ⟨a, len, cap, elems, rest, n, _, rfl, hx, _, hlc, hcm, hlen, hel, _, _⟩
  · exact ⟨[], ⟨by simp, by simp⟩, _, [], rfl, ⟨none, 0, rfl, ⟨by simp, by simp⟩, by simp⟩, rfl⟩
  · simp only [Prod.mk.injEq] at hx
    obtain ⟨rfl, rfl⟩ := hx
    simp only [DataW.weights, ht, hb] at hw
    have h0 : len * b ≤ reachBytes := by
      have h1 := hw ((elems.length + rest.length) * b) (by simp)
      have : len * b ≤ (elems.length + rest.length) * b := Nat.mul_le_mul_right _ (by omega)
      omega
    have each : ∀ i, i < len → ∃ x, dom x ∧ (a.add (i * k)).spot = none ∧ a.block < w.heap.size ∧ RvC (old w) w (enc x) a.block (a.off + i * k) := by
      intro i hi
      have h1 := hel i hi
      rw [hc] at h1
      have hi' : i < elems.length := by omega
      rw [List.getElem?_eq_getElem hi', Option.bind_eq_some_iff] at h1
      obtain ⟨cs', hcs, hd⟩ := h1
      obtain ⟨x, hx, hrx⟩ := h H en w base spare held n cs' elems[i].1 elems[i].2 hd fun m hm => hw m (by
        apply List.mem_cons_of_mem
        apply List.mem_append_left
        exact weightsAll_mem hm (List.mem_map.2 ⟨elems[i], List.getElem_mem _, rfl⟩))
      obtain ⟨hblk, hcl, hcell⟩ := World.cells?_some hcs
      have hsp : ∀ j, j < k → ((a.add (i * k)).add j) = ⟨a.block, a.off + i * k + j, none⟩ := by
        intro j hj
        have h2 := hcell j hj
        rw [List.getElem?_eq_getElem (by omega)] at h2
        have h3 := World.cell?_spot h2
        unfold Addr.add at h3 ⊢
        obtain ⟨ab, ao, ax⟩ := a
        split at h3 <;> rename_i hj0 <;> split at h3 <;> rename_i hi0 <;> simp_all
      have h2 := hcell 0 hk
      rw [List.getElem?_eq_getElem (by omega)] at h2
      have h3 := World.cell?_spot h2
      refine ⟨x, hx, by simpa [Addr.add] using h3, ?_, rvC_of_cells hrx fun j hj => ?_⟩
      · have := World.block_lt_of_cell? w _ h2
        rw [hsp 0 hk] at this
        exact this
      · rw [← hsp j (by omega)]; exact hcell j (by omega)
    obtain ⟨l, hn, hd, hrl⟩ := rvC_elems (S := old w) (w := w) (r := a.block) (dom := dom) hl len a.off fun i hi => by
      obtain ⟨x, h1, _, _, h2⟩ := each i hi
      exact ⟨x, h1, h2⟩
    refine ⟨l, ⟨by rw [hn]; exact h0, hd⟩, _, [], rfl, ⟨some a, cap, by rw [hn], ⟨by omega, by simp⟩, fun hp => ?_⟩, rfl⟩
    obtain ⟨x, _, h3, h4, _⟩ := each 0 (by omega)
    have e0 : a.add (0 * k) = a := by simp [Addr.add]
    rw [e0] at h3
    obtain ⟨ab, ao, ax⟩ := a
    exact ⟨ab, ao, by simp at h3; rw [h3], h4, hrl⟩

/-- An argument of one cell. -/
theorem open_arg {H : Type} {en : TypeId × Value → H} {w : World} {base : Nat} {spare : Nat → Bool} {held : Bool} {v : Value} {d : DataW H} {ps : List MemPlace} {enc : α → VV} (h : RdT P t (fun a => [enc a]) dom)
    (ht : DataW.Trod en P w base spare held t v d ps) (hw : ∀ n ∈ d.weights P t, n ≤ reachBytes) (hv : v.cells.toList = [v]) : ∃ a, dom a ∧ Rv (old w) w (enc a) v := by
  obtain ⟨fuel, hf⟩ := ht
  obtain ⟨a, ha, u, us, e, hr, _⟩ := h H en w base spare held fuel _ d ps hf hw
  rw [hv] at e
  simp only [List.cons.injEq] at e
  exact ⟨a, ha, by rw [e.1]; exact hr⟩
theorem cells_slice {w : World} {r : Reach} {base : Nat} {v : Value} (ht : P.underlying t = some (.slice e)) (h : Value.okWide P w r base t v) : v.cells.toList = [v] := by
  obtain ⟨a, l, c, rfl⟩ := okWide_slice ht h
  rfl
theorem cells_int {w : World} {r : Reach} {base : Nat} {v : Value} {k : IntKind} (ht : P.underlying t = some (.int k)) (h : Value.okWide P w r base t v) : v.cells.toList = [v] := by
  obtain ⟨n, rfl⟩ := okWide_int ht h
  rfl
end

/-! ### Behind the call -/
section
variable {P : Program}
theorem below_step {W W' : World} {S' : Nat → Prop} {H' : AH} (h : Step (old W) AH.nil W S' H' W') : Below W.heap.size W W' := ⟨h.os, h.tape, h.output, h.size, fun k hk => h.fr k hk rfl⟩
theorem trodAll_below {H : Type} {en : TypeId × Value → H} (hl : laidOutB P = true) {W W' : World} (hb : Below W.heap.size W W') {sp : Nat → Bool} : ∀ {ts : List TypeId} {vs : List Value} {ds : List (DataW H)} {ps : List MemPlace},
    (∀ t ∈ ts, P.readableRec t = true ∧ t < P.types.size) → DataW.TrodAll en P W 0 (fun _ => true) true ts vs ds ps → (∀ x ∈ ps, x.block < W.heap.size) → (∀ x ∈ ps, sp x.block = true) → DataW.TrodAll en P W' 0 sp true ts vs ds ps
  | [], vs, ds, ps, _, h, _, _ => by obtain ⟨rfl, rfl, rfl⟩ := trodAll_nil h; exact trodAll_mk0
  | t :: ts, vs, ds, ps, hr, h, hlt, hsp => by
    obtain ⟨v, vs', d, ds', p, q, rfl, rfl, rfl, h1, h2⟩ := trodAll_cons h
    obtain ⟨r1, r2⟩ := hr t (List.mem_cons_self ..)
    exact trodAll_cons_mk (WideElems.Trod_stays hl r1 r2 h1 (fun x hx => hb.same (hlt x (by simp [hx]))) (fun x hx => hsp x (by simp [hx])))
      (trodAll_below hl hb (fun t ht => hr t (List.mem_cons_of_mem _ ht)) h2 (fun x hx => hlt x (by simp [hx])) (fun x hx => hsp x (by simp [hx])))
/-- What a law that comes out true owes. -/
theorem post_true {H : Type} {en : TypeId × Value → H} {fn : Func} {s : ChangeSpec} {apart fresh handsOn again : Bool} {W W' : World} {args : Array Value} {ds gs : List (DataW H)} {before : List MemPlace} {tb : TypeId}
    (hl : laidOutB P = true) (hr : (fn.params.toList.all fun t => P.readableRec t && decide (t < P.types.size)) = true) (hres : fn.resultTypes = #[tb]) (htb : P.underlying tb = some .bool) (hvars : s.vars = [])
    (hW : DataW.Whole en P fn.params.toList s.vars apart W args.toList ds gs before) (hs : s.fn H (ds ++ gs) = { results := [.lit (.bool true)], args := ds })
    (hb : Below W.heap.size W W') : s.post en P fn apart fresh handsOn again W args (.bool true) W' := by
  have hlt := hW.lt
  have hW' := hW
  obtain ⟨p, q, hA, hV, rfl, hfz, hnd⟩ := hW
  have hq : gs = [] ∧ q = [] := by
    have hV' : DataW.TrodVars en P W (fun _ => true) s.vars gs q := hV
    rw [hvars] at hV'
    exact trodVars_none hV'
  obtain ⟨rfl, rfl⟩ := hq
  simp only [List.append_nil] at hW' hs hfz hnd hlt
  have hrr : ∀ t ∈ fn.params.toList, P.readableRec t = true ∧ t < P.types.size := fun t ht => by
    have := List.all_eq_true.1 hr t ht
    simpa using this
  have hres' : ∀ (b : Nat) (sp : Nat → Bool) (hd : Bool), DataW.TrodAll en P W' b sp hd fn.resultTypes.toList ((Value.bool true).resultList fn.resultTypes.size) [.lit (.bool true)] [] := fun b sp hd => by
    rw [hres]
    exact trodAll_cons_mk (p := []) (p' := []) (shut_bool htb _) trodAll_mk0
  have hargs : ∀ sp : Nat → Bool, (∀ x ∈ p, sp x.block = true) → DataW.TrodAll en P W' 0 sp true fn.params.toList args.toList ds p := fun sp hsp => trodAll_below hl hb hrr hA hlt hsp
  have hv : ∀ sp : Nat → Bool, DataW.TrodVars en P W' sp s.vars [] [] := fun sp => by rw [hvars]; exact rfl
  have hold : ∀ x ∈ p, (fun b => decide (b < W.heap.size)) x.block = true := fun x hx => by simpa using hlt x hx
  refine ⟨ds, [], p, [], p, [], hW', ?_, ?_, ?_, hb.frame _, fun _ => ⟨?_, _, _, ([] ++ p) ++ [], ⟨[] ++ p, [], trodAll_append (hargs (fun _ => true) fun _ _ => rfl) (hres' _ _ _), hv _, rfl, ?_, ?_⟩, ?_⟩⟩
  · simp only [List.append_nil, hs]; exact hres' _ _ _
  · simp only [List.append_nil, hs]; exact hargs _ hold
  · simp only [List.append_nil, hs]; exact hv _
  · exact ok_one hres rfl (okWide_bool_mk htb _)
  · intro b off hp
    have hp' : MemPlace.cell b off ∈ p := by simpa using hp
    rw [hb.frozen (p := ⟨b, off, none⟩) (hlt _ hp')]
    exact hfz b off hp'
  · intro ha
    have := hnd ha
    simpa using this
  · intro x hx _
    simpa using hx
/-- A law that comes out true by its contract. -/
theorem calls_true {H : Type} {en : TypeId × Value → H} {f : FuncId} {fn : Func} {s : ChangeSpec} {apart fresh handsOn again : Bool} {W : World} {args : Array Value} {ds gs : List (DataW H)} {before : List MemPlace} {tb : TypeId} {xs : List VV}
    (hl : laidOutB P = true) (hr : (fn.params.toList.all fun t => P.readableRec t && decide (t < P.types.size)) = true) (hres : fn.resultTypes = #[tb]) (htb : P.underlying tb = some .bool) (hvars : s.vars = [])
    (hW : DataW.Whole en P fn.params.toList s.vars apart W args.toList ds gs before) (hs : s.fn H (ds ++ gs) = { results := [.lit (.bool true)], args := ds })
    (hx : RvL (old W) W xs args.toList) (h : PureF P f xs (boolV true)) : Calls P f args W fun e W' => ∃ v, e = .returned v ∧ s.post en P fn apart fresh handsOn again W args v W' := by
  refine (h AH.nil (old W) W args (sim_old W) hx).calls (room_wideAt P none) |>.mono fun e W' hq => ?_
  cases e with
  | returned v =>
    obtain ⟨S', H', x, h1, h2, h3, h4, _⟩ := hq
    simp only [VE.ret.injEq] at h4
    subst h4
    simp only [boolV, Rv] at h3
    subst h3
    exact ⟨_, rfl, post_true hl hr hres htb hvars hW hs (below_step h1)⟩
  | panicked ch => obtain ⟨S', H', h1, h2, h3, _⟩ := hq; simp at h3
  | outgrown => exact hq.elim
end
end Go.PV
end
section
/- The arguments' readings, opened; ArithSound. -/
set_option linter.unusedVariables false
set_option linter.unusedSimpArgs false
set_option maxRecDepth 20000
namespace Go.PV.Ytefpjfpelicedaa
open Go Go.Proofs Go.ChangeShapes Go.WideShapes Go.RowKit
theorem rd3 : RdT Try.prog 3 (fun n : Int => [iV n]) (fun n => (Lit.int .i64 n).wf = true) := rd_int Try.underlying3
def okInts (l : List Int) : Prop := l.length * 8 ≤ reachBytes ∧ ∀ n ∈ l, (Lit.int .i64 n).wf = true
theorem rd37 : RdT Try.prog 37 (fun l : List Int => [intsV l]) okInts := rd_slice Try.underlying37 (k := 1) (b := 8) (by kernel_rfl) (by omega) (by kernel_rfl) rd3 (fun _ => rfl)
def okRow (r : Row) : Prop := okInts r.c ∧ (Lit.int .i64 r.b).wf = true
theorem rd39 : RdT Try.prog 39 rowE okRow :=
  rd_map (fun p : List Int × Int × Unit => (⟨p.1, p.2.1⟩ : Row)) (rd_struct (tot := 2) Try.underlying39 (by kernel_rfl) (rdfs_cons (k := 1) rfl (by kernel_rfl) rd37 (rdfs_cons (k := 1) rfl (by kernel_rfl) rd3 (rdfs_nil 2))))
    (fun _ => rfl) (fun p h => ⟨h.1, h.2.1⟩)
def okRows (l : List Row) : Prop := l.length * 32 ≤ reachBytes ∧ ∀ r ∈ l, okRow r
theorem rd22 : RdT Try.prog 22 (fun l : List Row => [rowsV l]) okRows := rd_slice Try.underlying22 (k := 2) (b := 32) (by kernel_rfl) (by omega) (by kernel_rfl) rd39 (fun _ => rfl)
def okLine (x : Line) : Prop := (Lit.int .i64 x.k).wf = true ∧ (Lit.int .i64 x.a).wf = true ∧ (Lit.int .i64 x.b).wf = true ∧ (Lit.int .i64 x.m).wf = true ∧ (Lit.int .i64 x.n).wf = true
theorem rd83 : RdT Try.prog 83 lineE okLine :=
  rd_map (fun p : Int × Int × Int × Int × Int × Unit => (⟨p.1, p.2.1, p.2.2.1, p.2.2.2.1, p.2.2.2.2.1⟩ : Line))
    (rd_struct (tot := 5) Try.underlying83 (by kernel_rfl) (rdfs_cons (k := 1) rfl (by kernel_rfl) rd3 (rdfs_cons (k := 1) rfl (by kernel_rfl) rd3 (rdfs_cons (k := 1) rfl (by kernel_rfl) rd3 (rdfs_cons (k := 1) rfl (by kernel_rfl) rd3 (rdfs_cons (k := 1) rfl (by kernel_rfl) rd3 (rdfs_nil 5)))))))
    (fun _ => rfl) (fun p h => ⟨h.1, h.2.1, h.2.2.1, h.2.2.2.1, h.2.2.2.2.1⟩)
def okLines (l : List Line) : Prop := l.length * 40 ≤ reachBytes ∧ ∀ x ∈ l, okLine x
theorem rd35 : RdT Try.prog 35 (fun l : List Line => [linesV l]) okLines := rd_slice Try.underlying35 (k := 5) (b := 40) (by kernel_rfl) (by omega) (by kernel_rfl) rd83 (fun _ => rfl)
end Go.PV.Ytefpjfpelicedaa
namespace Go.Proofs.Ytefpjfpelicedaa
open Go.ChangeShapes Go.WideShapes Go.RowKit Go.PV Go.PV.Ytefpjfpelicedaa
theorem own : ownKnob Try.prog.godebug = none := by kernel_rfl
theorem laidOut : laidOutB Try.prog = true := by kernel_rfl
theorem weights_head {H : Type} {P : Program} {t : TypeId} {ts : List TypeId} {d : DataW H} {ds : List (DataW H)} {b : Nat} (h : (DataW.weightsEach P (t :: ts) (d :: ds)).all (· ≤ b) = true) :
    (∀ n ∈ d.weights P t, n ≤ b) ∧ (DataW.weightsEach P ts ds).all (· ≤ b) = true := by
  rw [DataW.weightsEach, List.all_append, Bool.and_eq_true] at h
  exact ⟨fun n hn => by simpa using List.all_eq_true.1 h.1 n hn, h.2⟩
theorem sound_contract (H : Type) (enc : TypeId × Value → H) (W : World) (base : Nat) (args : Array Value) (ds gs : List (DataW H)) (before : List MemPlace)
    (hval : ∀ (j : Nat) t v, Try.f5.params[j]? = some t → args[j]? = some v → Value.okWide Try.prog W .any base t v)
    (hW : DataW.Whole enc Try.prog Try.f5.params.toList Rows.arithSoundSpec.vars false W args.toList ds gs before)
    (hsz : (DataW.weightsEach Try.prog (Try.f5.params.toList ++ Rows.arithSoundSpec.plain.varTypes Try.prog) (ds ++ gs)).all (· ≤ reachBytes) = true) :
    Calls Try.prog 5 args W fun e W' => ∃ v, e = .returned v ∧ Rows.arithSoundSpec.post enc Try.prog Try.f5 false true false false W args v W' := by
  have hW' := hW
  obtain ⟨p, q, hA0, hV, rfl, hfz, hnd⟩ := hW
  have hA : DataW.TrodAll enc Try.prog W 0 (fun _ => true) true Try.f5.params.toList args.toList ds p := hA0
  rw [Try.params5] at hA hval
  obtain ⟨v0, vs0, d0, ds0, p0, q0, hargs, rfl, rfl, h0, r0⟩ := trodAll_cons hA
  obtain ⟨v1, vs1, d1, ds1, p1, q1, rfl, rfl, rfl, h1, r1⟩ := trodAll_cons r0
  obtain ⟨v2, vs2, d2, ds2, p2, q2, rfl, rfl, rfl, h2, r2⟩ := trodAll_cons r1
  obtain ⟨rfl, rfl, rfl⟩ := trodAll_nil r2
  obtain rfl : args = #[v0, v1, v2] := by cases args; simp_all
  obtain ⟨rfl, rfl⟩ := trodVars_none hV
  have ev : Try.f5.params.toList ++ Rows.arithSoundSpec.plain.varTypes Try.prog = [22, 35, 37] := by rw [Try.params5]; rfl
  rw [ev, List.append_nil] at hsz
  obtain ⟨w0, hsz⟩ := weights_head hsz
  obtain ⟨w1, hsz⟩ := weights_head hsz
  obtain ⟨w2, hsz⟩ := weights_head hsz
  obtain ⟨rows, k0, a0⟩ := open_arg (enc := rowsV) rd22 h0 w0 (cells_slice Try.underlying22 (hval 0 22 v0 rfl rfl))
  obtain ⟨ls, k1, a1⟩ := open_arg (enc := linesV) rd35 h1 w1 (cells_slice Try.underlying35 (hval 1 35 v1 rfl rfl))
  obtain ⟨x, k2, a2⟩ := open_arg (enc := intsV) rd37 h2 w2 (cells_slice Try.underlying37 (hval 2 37 v2 rfl rfl))
  have hp : PureF Try.prog 5 [rowsV rows, linesV ls, intsV x] (boolV true) := by
    have := sound5 rows ls x (by have := k0.1; unfold reachBytes at this; omega) (by have := k2.1; unfold reachBytes at this; omega)
    rwa [sound_true] at this
  exact calls_true (xs := [rowsV rows, linesV ls, intsV x]) laidOut (by kernel_rfl) (tb := 4) (by kernel_rfl) Try.underlying4 rfl hW' rfl ⟨_, _, rfl, a0, _, _, rfl, a1, _, _, rfl, a2, rfl⟩ hp
set_option maxRecDepth 100000 in
theorem sound_lifted (os : Os) (started : os.Started) (H : Type) (enc : TypeId × Value → H) :
    ReturnsInHanded {} Try.checked os 5 .any (Rows.arithSoundSpec.pre6 enc Try.prog Try.f5 Rows.arithSoundRow.domain false) (Rows.arithSoundSpec.post enc Try.prog Try.f5 false true false false) := by
  refine returnsInHanded_of_change_sized (C := Try.checked) own started (by kernel_rfl) Try.func5
    (ChangeSpec.witness6 (enc := enc) (C := Try.checked) false ⟨#[], #[.slice none 0 0, .slice none 0 0, .slice none 0 0], []⟩ 8 (by kernel_rfl) (by kernel_rfl) (by kernel_rfl) (by kernel_rfl)) ?_
  intro W base args ds gs before hval hW _ hsz _
  exact sound_contract H enc W base args ds gs before hval hW hsz
theorem arithSound : Rows.ArithSoundSaid :=
  OpenClaim.holds_of_wide 5 Try.f5 rfl rfl rfl rfl rfl rfl rfl ⟨rfl, rfl, rfl, rfl, rfl⟩ rfl rfl rfl rfl rfl (by kernel_rfl) Try.func5 (by kernel_rfl)
    (of_decide_eq_true (by kernel_rfl)) (by unfold Func.isWrapper; first | (rw [if_pos (by decide +kernel)]; kernel_rfl) | (rw [if_neg (by decide +kernel)]; exact ⟨rfl, rfl⟩))
    (fun os started H enc _ => sound_lifted os started H enc)
#print axioms arithSound
end Go.Proofs.Ytefpjfpelicedaa
end
