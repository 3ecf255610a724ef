/- Part 9 of 10 of what the proof of More needs. -/
import Derived.Test.YtefpjfpelicedaaMore8
import Derived.Test.YtefpjfpelicedaaMore4
import Derived.Test.YtefpjfpelicedaaMore3
section
/- Refute. -/
set_option linter.unusedVariables false
set_option linter.unusedSimpArgs false
set_option maxRecDepth 20000
set_option maxHeartbeats 4000000
namespace Go.PV.Ytefpjfpelicedaa
open Go Go.Proofs
def refuteF (rows : List Row) (most : Int) : List Line × Bool × Int :=
  if rightF rows = 0 then
    (if most < 0 ∨ 5000 < most then ([], false, 4)
     else match searchS rows (unkN rows) most with
       | .ok _ => ([], false, 0)
       | .error (.found, st) => (neededF st.ls, true, 0)
       | .error (.stop c, _) => ([], false, c))
  else ([], false, rightF rows)
def refuteX (rows : List Row) (most : Int) : VV := .tuple [linesV (refuteF rows most).1, boolV (refuteF rows most).2.1, iV (refuteF rows most).2.2]
theorem refuteX_of {rows : List Row} {b : Int} {p : List Line × Bool × Int} (h : refuteF rows b = p) : refuteX rows b = .tuple [linesV p.1, boolV p.2.1, iV p.2.2] := by rw [refuteX, h]
theorem rfLeave {H H' : AH} {t : Nat → VV} {r4 r5 r6 s4 s5 s6 : Nat} {e4 e5 e6 : TypeId} {v X : VV} {bb : Bool} {e : Int} (h4 : t 4 = ptrV r4 0) (h5 : t 5 = ptrV r5 0) (h6 : t 6 = ptrV r6 0) (k4 : H' r4 = some (.cells e4 [v] s4)) (k5 : H' r5 = some (.cells e5 [boolV bb] s5)) (k6 : H' r6 = some (.cells e6 [iV e] s6))
    (hv : ∃ a n c, v = .lit (.slice a n c)) (hg : GhV H' (.tuple [v, boolV bb, iV e]) H X) : leaveR Try.prog [.cell 4 28, .cell 5 4, .cell 6 25] (ptQ X H) t [] .returning H' := by
  obtain ⟨a, n, c, rfl⟩ := hv
  refine ⟨_, H', _, ?_, .refl _ _, _, rfl, hg⟩
  simp only [resV, resAll, resOne, ldT_28, ldT_4, ldT_25, h4, h5, h6, k4, k5, k6, ptrV, List.drop_zero, ldV_f, Option.bind_some, Option.map_some, tupV]
theorem rfNil {H H' : AH} (hs : SubH H H') (bb : Bool) (e : Int) : GhV H' (.tuple [.lit (.slice none 0 0), boolV bb, iV e]) H (.tuple [linesV [], boolV bb, iV e]) :=
  GhV.tuple (GhL.cons ((GhV.nil _).trans (GhV.forget hs _)) (GhL.cons (GhV.refl _ _) (GhL.cons (GhV.refl _ _) (GhL.nil _))))
theorem en38 : enterable Try.prog 38 = true := by kernel_rfl
theorem n_makeMap (t : TypeId) (H : AH) (K : VE → AH → Prop) : vcMakeMap Try.prog t H K = allNew H fun r => K (.ret (.lit (.map (some r)))) (H.set r (.map (keysOf Try.prog t) fun _ => none)) := rfl
theorem refute11 (rows : List Row) (most : Int) (h1 : (rows.length : Int) ≤ 9223372036854775806) : PureF Try.prog 11 [rowsV rows, iV most] (refuteX rows most) := by
  refine GivesF.pure fun H => ?_
  unfold GivesF
  refine vcalls_introM fd11 (by simp) ?_
  unfold c11
  by_cases hr : rightF rows = 0
  · have hn := unkN_le hr
    have hu := unkN_eq rows
    by_cases hb : most < 0 ∨ 5000 < most
    · by_cases hb1 : most < 0
      · (repeat' (first | (simp only [↓s_skip, ↓s_reg, ↓s_seq, ↓s_cond, ↓s_condT, ↓s_condF, ↓s_ret, ↓s_nil, ↓s_consN, ↓s_consG, ↓s_guardTF, ↓s_thenN, ↓s_thenR, ↓s_kret, ↓s_putS, ↓s_putN, ↓s_dOkS, ↓s_dOkN, ↓s_ev_t, ↓s_ev_c, ↓s_ev_f, ↓s_upd, ↓s_move, ↓s_assign, ↓s_isBool, ↓s_pickA, ↓s_pick, ↓s_store, ↓s_bin, ↓s_alloc, ↓s_callV, ↓s_callL, ↓s_bin_lss, ↓s_bin_neq, ptrV, List.map_cons, List.map_nil, List.length_cons, List.length_nil, List.getD_cons_zero, List.getD_cons_succ, List.getD_nil, ite_true, ite_false, Nat.reduceEqDiff, Nat.reduceLT, true_and, Nat.succ_ne_self, decide_true, Bool.not_true, reduceCtorEq, callOk, undefV, AH.get, setAt, List.all_cons, List.all_nil, Bool.and_self, eq_self, Nat.zero_add, cl_int, on_int, cl_bool, on_bool, cl_sl, on_sl, List.set_cons_zero, ↓n_alloc, n_allocS, Nat.le_refl, n_stP, n_stA, undef, szT_28, szT_4, szT_25, zeroT_28, zeroT_4, zeroT_25, en_36, *]) | (refine guardL_splitTD ?_ ?_ <;> intro) | (refine guardL_splitFD ?_ ?_ <;> intro) | (refine guardP_splitTD ?_ ?_ <;> intro) | (refine guardP_splitFD ?_ ?_ <;> intro) | (refine condL_splitD ?_ ?_ <;> intro) | (refine guardL_splitT ?_ ?_ <;> intro) | (refine guardL_splitF ?_ ?_ <;> intro) | (refine guardP_splitT ?_ ?_ <;> intro) | (refine guardP_splitF ?_ ?_ <;> intro) | (refine condL_split ?_ ?_ <;> intro) | (refine ret_tmp ?_) | (refine acx_go rfl (fun _ _ _ h => h) ?_) | (refine acx_dreg mixed (fun _ _ _ _ e h => ⟨e.trans h.1, h.2⟩) _ (SubH.refl _) ?_) | (refine And.intro (SubH.new (by assumption)) ?_) | (refine allNew_intro fun zr zh => ?_; have zg := zh; (try simp only [AH.set_none] at zg)) | (exact SubH.refl _) | (refine SubH.of_set ?_ ?_) | assumption | (refine PureF.use (right36 _ h1) ?_) | (refine PureF.use (unknowns37 _ h1) ?_) | (with_reducible refine And.intro ?_ ?_)))
        rw [refuteX_of (p := ([], false, 4)) (by simp [refuteF, *])]
        exact rfLeave (by simp only [s_upd, Nat.reduceEqDiff, if_true, if_false, *] <;> rfl) (by simp only [s_upd, Nat.reduceEqDiff, if_true, if_false, *] <;> rfl) (by simp only [s_upd, Nat.reduceEqDiff, if_true, if_false, *] <;> rfl) (by simp only [AH.get, *, if_true, if_false] <;> rfl) (by simp only [AH.get, *, if_true, if_false] <;> rfl) (by simp only [AH.get, *, if_true, if_false] <;> rfl) ⟨_, _, _, rfl⟩ (rfNil (by repeat (first | assumption | exact SubH.refl _ | refine SubH.of_set ?_ (by simp only [*]))) _ _)
      · have hb2 : 5000 < most := by omega
        (repeat' (first | (simp only [↓s_skip, ↓s_reg, ↓s_seq, ↓s_cond, ↓s_condT, ↓s_condF, ↓s_ret, ↓s_nil, ↓s_consN, ↓s_consG, ↓s_guardFF, ↓s_thenN, ↓s_thenR, ↓s_kret, ↓s_putS, ↓s_putN, ↓s_dOkS, ↓s_dOkN, ↓s_ev_t, ↓s_ev_c, ↓s_ev_f, ↓s_upd, ↓s_move, ↓s_assign, ↓s_isBool, ↓s_pickA, ↓s_pick, ↓s_store, ↓s_bin, ↓s_alloc, ↓s_callV, ↓s_callL, ↓s_bin_lss, ↓s_bin_gtr, ↓s_bin_neq, ptrV, List.map_cons, List.map_nil, List.length_cons, List.length_nil, List.getD_cons_zero, List.getD_cons_succ, List.getD_nil, ite_true, ite_false, Nat.reduceEqDiff, Nat.reduceLT, true_and, Bool.false_eq_true, Nat.succ_ne_self, decide_true, decide_false, Bool.not_true, reduceCtorEq, undefV, AH.get, setAt, List.all_cons, List.all_nil, Bool.and_self, eq_self, Nat.zero_add, cl_int, on_int, cl_bool, on_bool, cl_sl, on_sl, List.set_cons_zero, ↓n_alloc, n_allocS, Nat.le_refl, n_stP, n_stA, undef, szT_28, szT_4, szT_25, zeroT_28, zeroT_4, zeroT_25, en_36, *]) | (refine guardL_splitTD ?_ ?_ <;> intro) | (refine guardL_splitFD ?_ ?_ <;> intro) | (refine guardP_splitTD ?_ ?_ <;> intro) | (refine guardP_splitFD ?_ ?_ <;> intro) | (refine condL_splitD ?_ ?_ <;> intro) | (refine guardL_splitT ?_ ?_ <;> intro) | (refine guardL_splitF ?_ ?_ <;> intro) | (refine guardP_splitT ?_ ?_ <;> intro) | (refine guardP_splitF ?_ ?_ <;> intro) | (refine condL_split ?_ ?_ <;> intro) | (refine ret_tmp ?_) | (refine acx_go rfl (fun _ _ _ h => h) ?_) | (refine acx_dreg mixed (fun _ _ _ _ e h => ⟨e.trans h.1, h.2⟩) _ (SubH.refl _) ?_) | (refine And.intro (SubH.new (by assumption)) ?_) | (refine allNew_intro fun zr zh => ?_; have zg := zh; (try simp only [AH.set_none] at zg)) | (exact SubH.refl _) | (refine SubH.of_set ?_ ?_) | assumption | (refine PureF.use (right36 _ h1) ?_) | (refine PureF.use (unknowns37 _ h1) ?_) | (with_reducible refine And.intro ?_ ?_)))
        rw [refuteX_of (p := ([], false, 4)) (by simp [refuteF, *])]
        exact rfLeave (by simp only [s_upd, Nat.reduceEqDiff, if_true, if_false, *] <;> rfl) (by simp only [s_upd, Nat.reduceEqDiff, if_true, if_false, *] <;> rfl) (by simp only [s_upd, Nat.reduceEqDiff, if_true, if_false, *] <;> rfl) (by simp only [AH.get, *, if_true, if_false] <;> rfl) (by simp only [AH.get, *, if_true, if_false] <;> rfl) (by simp only [AH.get, *, if_true, if_false] <;> rfl) ⟨_, _, _, rfl⟩ (rfNil (by repeat (first | assumption | exact SubH.refl _ | refine SubH.of_set ?_ (by simp only [*]))) _ _)
    · have hb1 : ¬ most < 0 := by omega
      have hb2 : ¬ 5000 < most := by omega
      (repeat' (first | (simp only [↓s_skip, ↓s_reg, ↓s_seq, ↓s_cond, ↓s_condF, ↓s_nil, ↓s_consN, ↓s_consG, ↓s_guardFF, ↓s_thenN, ↓s_kret, ↓s_putS, ↓s_putN, ↓s_dOkS, ↓s_dOkN, ↓s_ev_t, ↓s_ev_c, ↓s_ev_f, ↓s_upd, ↓s_move, ↓s_assign, ↓s_isBool, ↓s_pickA, ↓s_pick, ↓s_store, ↓s_bin, ↓s_alloc, ↓s_box, ↓s_build, ↓s_makeFunc, ↓s_makeMap, ↓s_callV, ↓s_defer, ↓s_callL, ↓s_bin_lss, ↓s_bin_gtr, ↓s_bin_neq, ptrV, List.map_cons, List.map_nil, List.length_cons, List.length_nil, List.getD_cons_zero, List.getD_cons_succ, List.getD_nil, ite_true, ite_false, Nat.reduceEqDiff, Nat.reduceLT, Nat.reduceAdd, Nat.reduceLeDiff, true_and, Bool.false_eq_true, Nat.succ_ne_self, decide_true, decide_false, Bool.not_true, reduceCtorEq, undefV, AH.get, AH.set_set, vcBuild, fillV, setAt, List.all_cons, List.all_nil, Bool.and_self, eq_self, Nat.zero_add, and_self, List.getElem?_cons_zero, List.getElem?_cons_succ, cl_int, cl_ptr, on_ptr, cl_map, cl_agg, cl_slice, List.set_cons_zero, List.set_cons_succ, ↓n_alloc, n_allocS, ↓n_box, Nat.le_refl, n_stP, n_stA, undef, n_makeMap, zeroT_28, szT_71, zeroT_4, zeroT_25, stT_74, stT_77, zeroT_71, en_36, en_37, *]) | (refine guardL_splitTD ?_ ?_ <;> intro) | (refine guardL_splitFD ?_ ?_ <;> intro) | (refine guardP_splitTD ?_ ?_ <;> intro) | (refine guardP_splitFD ?_ ?_ <;> intro) | (refine condL_splitD ?_ ?_ <;> intro) | (refine guardL_splitT ?_ ?_ <;> intro) | (refine guardL_splitF ?_ ?_ <;> intro) | (refine guardP_splitT ?_ ?_ <;> intro) | (refine guardP_splitF ?_ ?_ <;> intro) | (refine condL_split ?_ ?_ <;> intro) | (refine ret_tmp ?_) | (refine acx_go rfl (fun _ _ _ h => h) ?_) | (refine acx_dreg mixed (fun _ _ _ _ e h => ⟨e.trans h.1, h.2⟩) _ (SubH.refl _) ?_) | (refine And.intro (SubH.new (by assumption)) ?_) | (refine allNew_intro fun zr zh => ?_; have zg := zh; (try simp only [AH.set_none] at zg)) | (exact SubH.refl _) | (refine SubH.of_set ?_ ?_) | assumption | (refine PureF.use (right36 _ h1) ?_) | (refine PureF.use (unknowns37 _ h1) ?_) | (with_reducible refine And.intro ?_ ?_)))
      rename_i r4 zh4 zg4 r5 zh5 zg5 r6 zh6 zg6 mp zhm zgm s zhs zgs
      revert zr
      intro r8 zh8 zg8
      obtain ⟨H6, hH6⟩ : ∃ H6, H6 = ((H.set r4 (.cells 28 [.lit (.slice none 0 0)] 0)).set r5 (.cells 4 [VV.lit (Value.bool false)] 0)).set r6 (.cells 25 [VV.lit (Value.int IntKind.i64 0)] 0) := ⟨_, rfl⟩
      have a4 : H6 r4 = some (.cells 28 [.lit (.slice none 0 0)] 0) := by rw [hH6]; exact (by simp only [AH.get, *, if_true, if_false] <;> rfl)
      have a5 : H6 r5 = some (.cells 4 [boolV false] 0) := by rw [hH6]; exact (by simp only [AH.get, *, if_true, if_false] <;> rfl)
      have a6 : H6 r6 = some (.cells 25 [iV 0] 0) := by rw [hH6]; exact (by simp only [AH.get, *, if_true, if_false] <;> rfl)
      have hs6 : SubH H H6 := by rw [hH6]; exact (by repeat (first | assumption | exact SubH.refl _ | refine SubH.of_set ?_ (by simp only [*])))
      have em : H6 mp = none := by rw [hH6]; exact zhm
      have es : H6 s = none := by rw [hH6]; simp only [AH.set_none]; exact zgs.2
      have e8 : H6 r8 = none := by rw [hH6]; simp only [AH.set_none]; exact zg8.2.2
      have ds : ¬ s = mp ∧ ¬ mp = s := zgs.1
      have d8s : ¬ r8 = s ∧ ¬ s = r8 := zg8.1
      have d8m : ¬ r8 = mp ∧ ¬ mp = r8 := zg8.2.1
      have h4n : H r4 = none := zg4
      have h5n : H r5 = none := zg5.2
      have h6n : H r6 = none := zg6.2.2
      have d54 : ¬ r5 = r4 ∧ ¬ r4 = r5 := zg5.1
      have d65 : ¬ r6 = r5 ∧ ¬ r5 = r6 := zg6.1
      have d64 : ¬ r6 = r4 ∧ ¬ r4 = r6 := zg6.2.1
      refine ⟨rfl, ?_⟩
      show vcL _ [] _ ⟨_, [{ target := .fn (.func 38) #[.pointer (some ⟨r8, 0, none⟩), .pointer (some ⟨r4, 0, none⟩), .pointer (some ⟨r5, 0, none⟩), .pointer (some ⟨r6, 0, none⟩)], args := #[] }]⟩ _
      rw [← hH6]
      clear hH6 zhm zgm zhs zgs zh8 zg8 zh4 zg4 zh5 zg5 zh6 zg6
      have hrr := rightF_ok hr
      have hst : RefS (H6.set r8 (.cells 71 [ptrV s 0] 0)) (((H6.set mp (.map (keysOf Try.prog 75) fun _ => none)).set s (.cells 77 [rowsV rows, iV (unkN rows), .lit (.slice none 0 0), .lit (.slice none 0 0), iV most, .lit (.map (some mp))] 0)).set r8 (.cells 71 [ptrV s 0] 0)) s mp rows (unkN rows) most ⟨[], [], []⟩ := by
        refine ⟨.lit (.slice none 0 0), .lit (.slice none 0 0), _, _, ?_, ?_, ds.1, ?_, ?_, ?_, .inl ⟨rfl, rfl, rfl, rfl⟩, .inl ⟨rfl, rfl, rfl, rfl⟩⟩
        · rw [AH.get, if_neg d8s.2]; exact es
        · rw [AH.get, if_neg d8m.2]; exact em
        · exact SubH.set (SubH.of_set (SubH.new em) es) _ _
        · rw [AH.get, if_neg d8s.2, AH.set_same]
        · rw [AH.get, if_neg d8m.2, AH.get, if_neg ds.2, AH.set_same]; rfl
      have B8 : (H6.set r8 (.cells 71 [ptrV s 0] 0)) r8 = some (.cells 71 [ptrV s 0] 0) := AH.set_same _ _ _
      have ne8 : ∀ {i b}, H6 i = some b → ¬ i = r8 := fun h => (AH.ne_of h e8).1
      have B4 : (H6.set r8 (.cells 71 [ptrV s 0] 0)) r4 = some (.cells 28 [.lit (.slice none 0 0)] 0) := by rw [AH.get, if_neg (ne8 a4)]; exact a4
      have B5 : (H6.set r8 (.cells 71 [ptrV s 0] 0)) r5 = some (.cells 4 [boolV false] 0) := by rw [AH.get, if_neg (ne8 a5)]; exact a5
      have B6 : (H6.set r8 (.cells 71 [ptrV s 0] 0)) r6 = some (.cells 25 [iV 0] 0) := by rw [AH.get, if_neg (ne8 a6)]; exact a6
      have hsB : SubH H (H6.set r8 (.cells 71 [ptrV s 0] 0)) := hs6.of_set (hs6.none e8)
      generalize (H6.set r8 (.cells 71 [ptrV s 0] 0)) = B at hst B8 B4 B5 B6 hsB
      have hrl : (rows.length : Int) ≤ 1000000 := by have := hrr.1; omega
      (repeat' (first | (refine search40 (B := B) (mp := mp) (rows := rows) (n := unkN rows) (most := most) hst (by omega) (by omega) (fun r h => len_unkN h) (by omega) hrl ?_) | (simp only [↓s_reg, ↓s_seq, ↓s_nil, ↓s_consN, ↓s_thenN, ↓s_kret, ↓s_putS, ↓s_dOkS, ↓s_ev_t, ↓s_ev_f, ↓s_upd, ↓s_load, ↓s_callV, ↓s_callL, List.map_cons, List.map_nil, List.getD_cons_succ, List.getD_nil, ite_true, ite_false, Nat.reduceEqDiff, Nat.reduceLT, true_and, Nat.succ_ne_self, AH.get, eq_self, List.drop, ldV_f, n_ldP, n_ldA, n_ldB, ldT_71, en_40, *]) | (refine guardL_splitTD ?_ ?_ <;> intro) | (refine guardL_splitFD ?_ ?_ <;> intro) | (refine guardP_splitTD ?_ ?_ <;> intro) | (refine guardP_splitFD ?_ ?_ <;> intro) | (refine condL_splitD ?_ ?_ <;> intro) | (refine guardL_splitT ?_ ?_ <;> intro) | (refine guardL_splitF ?_ ?_ <;> intro) | (refine guardP_splitT ?_ ?_ <;> intro) | (refine guardP_splitF ?_ ?_ <;> intro) | (refine condL_split ?_ ?_ <;> intro) | (refine ret_tmp ?_) | (refine acx_go rfl (fun _ _ _ h => h) ?_) | (refine acx_dreg mixed (fun _ _ _ _ e h => ⟨e.trans h.1, h.2⟩) _ (SubH.refl _) ?_) | (refine And.intro (SubH.new (by assumption)) ?_) | (refine allNew_intro fun zr zh => ?_; have zg := zh; (try simp only [AH.set_none] at zg)) | (exact SubH.refl _) | (refine SubH.of_set ?_ ?_) | assumption | (with_reducible refine And.intro ?_ ?_)))
      have hg := search_good (rows := rows) (n := unkN rows) (most := most) (by omega)
      have hF : refuteF rows most = match searchS rows (unkN rows) most with
          | .ok _ => ([], false, 0)
          | .error (.found, st) => (neededF st.ls, true, 0)
          | .error (.stop c, _) => ([], false, c) := by unfold refuteF; rw [if_pos hr, if_neg hb]
      have hen : enterable Try.prog 38 = true := en38
      cases e : searchS rows (unkN rows) most with
      | error p =>
        obtain ⟨o, st⟩ := p
        rw [e] at hg hF
        intro H' h'
        cases o with
        | stop c =>
          rw [refuteX_of (p := ([], false, c)) hF]
          refine ⟨by simp, hen, [ptrV r8 0, ptrV r4 0, ptrV r5 0, ptrV r6 0], H', GhL.cons (GhV.refl _ _) (GhL.cons (GhV.refl _ _) (GhL.cons (GhV.refl _ _) (GhL.cons (GhV.refl _ _) (GhL.nil _)))), ?_⟩
          refine def38_stop (h'.sub _ _ B4) (h'.sub _ _ B5) (h'.sub _ _ B6) d54.2 d64.2 d65.2 d54.1 d64.1 d65.1 (fun u H2 h2 => ?_)
          refine rfLeave (r4 := r4) (r5 := r5) (r6 := r6) (v := .lit (.slice none 0 0)) (by simp only [s_upd, Nat.reduceEqDiff, if_true, if_false, *] <;> rfl) (by simp only [s_upd, Nat.reduceEqDiff, if_true, if_false, *] <;> rfl) (by simp only [s_upd, Nat.reduceEqDiff, if_true, if_false, *] <;> rfl) (h2 _ _ (by simp only [AH.get, *, if_true, if_false] <;> rfl)) (h2 _ _ (by simp only [AH.get, *, if_true, if_false] <;> rfl)) (h2 _ _ (by simp only [AH.get, *, if_true, if_false] <;> rfl)) ⟨_, _, _, rfl⟩ (rfNil (SubH.trans ?_ h2) _ _)
          exact SubH.of_set (SubH.of_set (SubH.of_set (hsB.trans h'.sub) h4n) h5n) h6n
        | found =>
          obtain ⟨hgd, ms, r, hms, hab⟩ := hg
          rw [refuteX_of (p := (neededF st.ls, true, 0)) hF]
          refine ⟨by simp, hen, [ptrV r8 0, ptrV r4 0, ptrV r5 0, ptrV r6 0], H', GhL.cons (GhV.refl _ _) (GhL.cons (GhV.refl _ _) (GhL.cons (GhV.refl _ _) (GhL.cons (GhV.refl _ _) (GhL.nil _)))), ?_⟩
          have hne : st.ls ≠ [] := fun e0 => by have := hgd.len; rw [e0, hms] at this; simp at this
          refine def38_found h' hgd hne (by omega) B8 B4 B5 B6 d54.2 d64.2 d65.2 d54.1 d64.1 d65.1 (fun u v Hc H2 ho2 hsc => ?_)
          have h2 := hsc.trans ho2.sub
          obtain ⟨xa, xc, hv⟩ := ho2.form
          refine rfLeave (r4 := r4) (r5 := r5) (r6 := r6) (v := v) (by simp only [s_upd, Nat.reduceEqDiff, if_true, if_false, *] <;> rfl) (by simp only [s_upd, Nat.reduceEqDiff, if_true, if_false, *] <;> rfl) (by simp only [s_upd, Nat.reduceEqDiff, if_true, if_false, *] <;> rfl) (h2 _ _ (by simp only [AH.get, *, if_true, if_false] <;> rfl)) (h2 _ _ (by simp only [AH.get, *, if_true, if_false] <;> rfl)) (h2 _ _ (by simp only [AH.get, *, if_true, if_false] <;> rfl)) ⟨_, _, _, hv⟩ ?_
          refine GhV.tuple (GhL.cons (GhV.back ho2 (SubH.trans ?_ hsc)) (GhL.cons (GhV.refl _ _) (GhL.cons (GhV.refl _ _) (GhL.nil _))))
          exact SubH.of_set (SubH.of_set (SubH.of_set (hsB.trans h'.sub) h4n) h5n) h6n
      | ok st =>
        rw [e] at hF
        intro H' u h'
        have c4 := h'.sub _ _ B4
        have c5 := h'.sub _ _ B5
        have c6 := h'.sub _ _ B6
        rw [refuteX_of (p := ([], false, 0)) hF]
        clear hF e hg
        have hsH := hsB.trans h'.sub
        (repeat' (first | (simp only [↓s_reg, ↓s_seq, ↓s_ret, ↓s_nil, ↓s_consN, ↓s_thenN, ↓s_kret, ↓s_putS, ↓s_putN, ↓s_dOkN, ↓s_ev_t, ↓s_ev_c, ↓s_upd, ↓s_store, boolV, List.length_cons, List.length_nil, List.getD_cons_succ, List.getD_nil, ite_true, ite_false, Nat.reduceEqDiff, true_and, Nat.succ_ne_self, AH.get, setAt, List.all_cons, List.all_nil, Bool.and_self, eq_self, Nat.zero_add, cl_int, on_int, cl_bool, on_bool, cl_sl, on_sl, List.set_cons_zero, Nat.le_refl, n_stP, n_stA, szT_28, szT_4, szT_25, *]) | (refine guardL_splitTD ?_ ?_ <;> intro) | (refine guardL_splitFD ?_ ?_ <;> intro) | (refine guardP_splitTD ?_ ?_ <;> intro) | (refine guardP_splitFD ?_ ?_ <;> intro) | (refine condL_splitD ?_ ?_ <;> intro) | (refine guardL_splitT ?_ ?_ <;> intro) | (refine guardL_splitF ?_ ?_ <;> intro) | (refine guardP_splitT ?_ ?_ <;> intro) | (refine guardP_splitF ?_ ?_ <;> intro) | (refine condL_split ?_ ?_ <;> intro) | (refine ret_tmp ?_) | (refine acx_go rfl (fun _ _ _ h => h) ?_) | (refine acx_dreg mixed (fun _ _ _ _ e h => ⟨e.trans h.1, h.2⟩) _ (SubH.refl _) ?_) | (refine And.intro (SubH.new (by assumption)) ?_) | (refine allNew_intro fun zr zh => ?_; have zg := zh; (try simp only [AH.set_none] at zg)) | (exact SubH.refl _) | (refine SubH.of_set ?_ ?_) | assumption | (with_reducible refine And.intro ?_ ?_)))
        refine ⟨by simp, hen, [ptrV r8 0, ptrV r4 0, ptrV r5 0, ptrV r6 0], _, GhL.cons (GhV.refl _ _) (GhL.cons (GhV.refl _ _) (GhL.cons (GhV.refl _ _) (GhL.cons (GhV.refl _ _) (GhL.nil _)))), ?_⟩
        refine def38_nil (by simp) (fun u => ?_)
        exact rfLeave (r4 := r4) (r5 := r5) (r6 := r6) (by simp only [s_upd, Nat.reduceEqDiff, if_true, if_false, *] <;> rfl) (by simp only [s_upd, Nat.reduceEqDiff, if_true, if_false, *] <;> rfl) (by simp only [s_upd, Nat.reduceEqDiff, if_true, if_false, *] <;> rfl) (by simp only [AH.get, *, if_true, if_false] <;> rfl) (by simp only [AH.get, *, if_true, if_false] <;> rfl) (by simp only [AH.get, *, if_true, if_false] <;> rfl) ⟨_, _, _, rfl⟩ (rfNil (SubH.of_set (SubH.of_set (SubH.of_set hsH h4n) h5n) h6n) _ _)
  · (repeat' (first | (simp only [↓s_reg, ↓s_seq, ↓s_cond, ↓s_condT, ↓s_ret, ↓s_nil, ↓s_consN, ↓s_thenN, ↓s_thenR, ↓s_kret, ↓s_putS, ↓s_putN, ↓s_dOkS, ↓s_dOkN, ↓s_ev_t, ↓s_ev_c, ↓s_ev_f, ↓s_upd, ↓s_move, ↓s_assign, ↓s_store, ↓s_bin, ↓s_alloc, ↓s_callV, ↓s_callL, ↓s_bin_neq, ptrV, List.map_cons, List.map_nil, List.length_cons, List.length_nil, List.getD_cons_zero, List.getD_cons_succ, List.getD_nil, ite_true, ite_false, Nat.reduceEqDiff, Nat.reduceLT, true_and, Nat.succ_ne_self, decide_false, Bool.not_false, reduceCtorEq, undefV, AH.get, setAt, List.all_cons, List.all_nil, Bool.and_self, eq_self, Nat.zero_add, cl_int, on_int, cl_bool, on_bool, cl_sl, on_sl, List.set_cons_zero, ↓n_alloc, n_allocS, Nat.le_refl, n_stP, n_stA, undef, szT_28, szT_4, szT_25, zeroT_28, zeroT_4, zeroT_25, en_36, *]) | (refine guardL_splitTD ?_ ?_ <;> intro) | (refine guardL_splitFD ?_ ?_ <;> intro) | (refine guardP_splitTD ?_ ?_ <;> intro) | (refine guardP_splitFD ?_ ?_ <;> intro) | (refine condL_splitD ?_ ?_ <;> intro) | (refine guardL_splitT ?_ ?_ <;> intro) | (refine guardL_splitF ?_ ?_ <;> intro) | (refine guardP_splitT ?_ ?_ <;> intro) | (refine guardP_splitF ?_ ?_ <;> intro) | (refine condL_split ?_ ?_ <;> intro) | (refine ret_tmp ?_) | (refine acx_go rfl (fun _ _ _ h => h) ?_) | (refine acx_dreg mixed (fun _ _ _ _ e h => ⟨e.trans h.1, h.2⟩) _ (SubH.refl _) ?_) | (refine And.intro (SubH.new (by assumption)) ?_) | (refine allNew_intro fun zr zh => ?_; have zg := zh; (try simp only [AH.set_none] at zg)) | (exact SubH.refl _) | (refine SubH.of_set ?_ ?_) | assumption | (refine PureF.use (right36 _ h1) ?_) | (with_reducible refine And.intro ?_ ?_)))
    rw [refuteX_of (p := ([], false, rightF rows)) (by simp [refuteF, *])]
    exact rfLeave (by simp only [s_upd, Nat.reduceEqDiff, if_true, if_false, *] <;> rfl) (by simp only [s_upd, Nat.reduceEqDiff, if_true, if_false, *] <;> rfl) (by simp only [s_upd, Nat.reduceEqDiff, if_true, if_false, *] <;> rfl) (by simp only [AH.get, *, if_true, if_false] <;> rfl) (by simp only [AH.get, *, if_true, if_false] <;> rfl) (by simp only [AH.get, *, if_true, if_false] <;> rfl) ⟨_, _, _, rfl⟩ (rfNil (by repeat (first | assumption | exact SubH.refl _ | refine SubH.of_set ?_ (by simp only [*]))) _ _)
end Go.PV.Ytefpjfpelicedaa
end
section
/- The chapter's example. -/
set_option linter.unusedVariables false
set_option linter.unusedSimpArgs false
set_option maxRecDepth 20000
set_option maxHeartbeats 4000000
namespace Go.PV
/-- What is represented by one is by the other. -/
def Weak (x y : VV) : Prop := ∀ S w u, Rv S w x u → Rv S w y u
def WeakC : List VV → List VV → Prop
  | _, [] => True
  | x :: xs, y :: ys => Weak x y ∧ WeakC xs ys
  | [], _ :: _ => False
def WeakL : List VV → List VV → Prop
  | [], [] => True
  | x :: xs, y :: ys => Weak x y ∧ WeakL xs ys
  | _, _ => False
theorem Weak.refl (x : VV) : Weak x x := fun _ _ _ h => h
theorem WeakC.rv : ∀ {xs ys : List VV}, WeakC xs ys → ∀ {S : Nat → Prop} {w : World} {r o : Nat}, RvC S w xs r o → RvC S w ys r o
  | _, [], _, _, _, _, _, _ => trivial
  | x :: xs, y :: ys, h, S, w, r, o, hr => by
    obtain ⟨⟨u, h1, h2⟩, h3⟩ := hr
    exact ⟨⟨u, h1, h.1 _ _ _ h2⟩, h.2.rv h3⟩
theorem WeakL.rv : ∀ {xs ys : List VV}, WeakL xs ys → ∀ {S : Nat → Prop} {w : World} {us : List Value}, RvL S w xs us → RvL S w ys us
  | [], [], _, _, _, _, h => h
  | x :: xs, y :: ys, h, S, w, us, hr => by
    obtain ⟨u, us', rfl, h2, h3⟩ := hr
    exact ⟨u, us', rfl, h.1 _ _ _ h2, h.2.rv h3⟩
theorem Weak.slice {ex : Bool} {n : Nat} {cs ds : List VV} (h : WeakC cs ds) : Weak (.slice ex n cs) (.slice false n ds) := fun S w u hu => by
  obtain ⟨a, cap, rfl, ⟨h1, _⟩, h3⟩ := hu
  refine ⟨a, cap, rfl, ⟨h1, fun e => by cases e⟩, fun hn => ?_⟩
  obtain ⟨r, o, e, hs, hc⟩ := h3 hn
  exact ⟨r, o, e, hs, h.rv hc⟩
theorem WeakC.refl : ∀ (l : List VV), WeakC l l
  | [] => trivial
  | x :: l => ⟨.refl x, WeakC.refl l⟩
theorem PureF.weak {P : Program} {f : FuncId} {xs ys : List VV} {x : VV} (h : PureF P f xs x) (hw : WeakL ys xs) : PureF P f ys x := fun H S w args hs hx => h H S w args hs (hw.rv hx)
end Go.PV
namespace Go.PV.Ytefpjfpelicedaa
open Go Go.Proofs
def rows0 : List Row := [⟨[1, 1], 1⟩, ⟨[-1], -2⟩]
def lines0 : List Line := [⟨1, 0, 0, 0, 0⟩, ⟨1, 1, 0, 0, 0⟩, ⟨2, 1, 0, 0, 0⟩, ⟨3, 0, 1, 1, 1⟩, ⟨3, 3, 2, 1, 1⟩]
def made0 : List Row := [⟨[1, 1], 1⟩, ⟨[-1, 0], -2⟩, ⟨[0, -1], 0⟩, ⟨[0, 1], -1⟩, ⟨[0, 0], -1⟩]
theorem derive0 : deriveF rows0 lines0 = (made0, 0) := by kernel_rfl
def cert0 : List Line := (refuteF rows0 100).1
theorem refute0 : refuteF rows0 100 = (cert0, true, 0) := by kernel_rfl
theorem check0 : checkF rows0 lines0 = 0 := by kernel_rfl
theorem check1 : checkF rows0 cert0 = 0 := by kernel_rfl
theorem cert0_len : cert0.length = 5 := by kernel_rfl
abbrev rv0 : VV := .slice true 2 [.slice true 2 [iV 1, iV 1], iV 1, .slice true 1 [iV (-1)], iV (-2)]
abbrev lv0 : VV := .slice true 5 [iV 1, iV 0, iV 0, iV 0, iV 0, iV 1, iV 1, iV 0, iV 0, iV 0, iV 2, iV 1, iV 0, iV 0, iV 0, iV 3, iV 0, iV 1, iV 1, iV 1, iV 3, iV 3, iV 2, iV 1, iV 1]
theorem weakR : Weak rv0 (rowsV rows0) := Weak.slice (ds := encC rowE rows0) ⟨Weak.slice (WeakC.refl _), Weak.refl _, Weak.slice (WeakC.refl _), Weak.refl _, trivial⟩
theorem weakV : Weak lv0 (linesV lines0) := Weak.slice (ds := encC lineE lines0) (WeakC.refl _)
theorem weakR1 : Weak (.slice false 1 [.slice true 2 [iV 1, iV 1], iV 1, .slice true 1 [iV (-1)], iV (-2)]) (rowsV [⟨[1, 1], 1⟩]) := Weak.slice (ds := encC rowE [⟨[1, 1], 1⟩]) ⟨Weak.slice (WeakC.refl _), Weak.refl _, trivial⟩
theorem point0 : pointF [⟨[1, 1], 1⟩] 3 = ([0, 0], true, 0) := by kernel_rfl
theorem made0_drop : (encC rowE made0).drop 8 = [intsV [0, 0], iV (-1)] := rfl
theorem awake8 : PureF Try.prog 8 [] (boolV true) := by
  have hD : PureF Try.prog 22 [rv0, lv0] (.tuple [rowsV made0, iV 0]) := by
    have := (derive22 rows0 lines0 (by decide) (by decide)).weak (ys := [rv0, lv0]) ⟨weakR, weakV, trivial⟩
    rw [derive0] at this; exact this
  have hR : PureF Try.prog 11 [rv0, iV 100] (.tuple [linesV cert0, boolV true, iV 0]) := by
    have := (refute11 rows0 100 (by decide)).weak (ys := [rv0, iV 100]) ⟨weakR, .refl _, trivial⟩
    rw [refuteX_of refute0] at this; exact this
  have hC : PureF Try.prog 13 [rv0, lv0] (iV 0) := by
    have := (check13 rows0 lines0 (by decide) (by decide)).weak (ys := [rv0, lv0]) ⟨weakR, weakV, trivial⟩
    rw [check0] at this; exact this
  have hC1 : PureF Try.prog 13 [rv0, linesV cert0] (iV 0) := by
    have := (check13 rows0 cert0 (by decide) (by rw [cert0_len]; decide)).weak (ys := [rv0, linesV cert0]) ⟨weakR, .refl _, trivial⟩
    rw [check1] at this; exact this
  have hP : PureF Try.prog 31 [.slice false 1 [.slice true 2 [iV 1, iV 1], iV 1, .slice true 1 [iV (-1)], iV (-2)], iV 3] (.tuple [intsV [0, 0], boolV true, iV 0]) := by
    have := (point31 [⟨[1, 1], 1⟩] 3 (by decide)).weak (ys := [.slice false 1 [.slice true 2 [iV 1, iV 1], iV 1, .slice true 1 [iV (-1)], iV (-2)], iV 3]) ⟨weakR1, .refl _, trivial⟩
    rw [pointX_of point0] at this; exact this
  have hE : PureF Try.prog 32 [intsV [0, 0], .slice true 2 [iV 0, iV 0]] (boolV true) :=
    (equal32 [0, 0] [0, 0] (by decide)).weak (ys := [intsV [0, 0], .slice true 2 [iV 0, iV 0]]) ⟨.refl _, Weak.slice (ds := encC intE [0, 0]) (WeakC.refl _), trivial⟩
  have hml : made0.length = 5 := rfl
  refine PureF.forget fun H => ?_
  refine vcalls_intro fd8 (by simp) ?_
  unfold c8
  (repeat' (first | (simp only [↓s_reg, ↓s_seq, ↓s_ret, ↓s_nil, ↓s_consN, ↓s_consG, ↓s_guardTT, ↓s_guardFT, ↓s_thenN, ↓s_kret, ↓s_putS, ↓s_dOkS, ↓s_ev_t, ↓s_ev_c, ↓s_ev_f, ↓s_upd, ↓s_move, ↓s_assign, ↓s_isBool, ↓s_pickA, ↓s_pick, ↓s_load, ↓s_bin, ↓s_build, ↓s_buildSlice, ↓s_slice, ↓s_fieldAddr, ↓s_indexAddr, ↓s_extract, ↓s_callB, ↓s_callV, ↓s_callL, ↓s_len, ↓s_bin_eql, vcExtract, intV, boolV, List.map_cons, List.map_nil, List.length_cons, List.length_nil, List.getD_nil, List.cons_append, List.nil_append, List.append_nil, ite_true, ite_false, Nat.reduceEqDiff, Nat.reduceLT, Nat.reduceAdd, Nat.reduceMul, Nat.reduceSub, Nat.reduceLeDiff, ne_eq, not_false_eq_true, not_true_eq_false, true_and, and_true, List.drop_zero, Bool.false_eq_true, Nat.zero_ne_one, Nat.succ_ne_self, decide_true, decide_false, Bool.true_and, reduceCtorEq, Nat.mul_one, callOk, undefV, vcBuild, fillV, setAt, eq_self, Nat.zero_add, List.drop, and_self, List.getElem?_cons_zero, List.getElem?_cons_succ, ldV_f, cl_int, cl_agg, cl_slice, List.set_cons_zero, List.set_cons_succ, Nat.le_refl, n_ldI, n_faI, n_ixS, n_ixA1, n_lenS, n_ldC, n_ldB, n_faA, undef, Int.reduceLT, Int.reduceLE, Int.reduceNeg, vcBuildSlice, List.replicate_succ, List.replicate_zero, List.flatten_cons, List.flatten_nil, vcSlice, Option.map_none, Option.map_some, sliceOk, idxV, idxOk, made0_drop, Int.reduceToNat, flT_50_1, ldT_3, zeroT_50, stT_50, zeroT_52, stT_52, elT_37, zeroT_3, elT_31, elT_28, en_22, en_11, en_31, en_13, en_32, *]) | (refine guardL_splitTD ?_ ?_ <;> intro) | (refine guardL_splitFD ?_ ?_ <;> intro) | (refine guardP_splitTD ?_ ?_ <;> intro) | (refine guardP_splitFD ?_ ?_ <;> intro) | (refine condL_splitD ?_ ?_ <;> intro) | (refine guardL_splitT ?_ ?_ <;> intro) | (refine guardL_splitF ?_ ?_ <;> intro) | (refine guardP_splitT ?_ ?_ <;> intro) | (refine guardP_splitF ?_ ?_ <;> intro) | (refine condL_split ?_ ?_ <;> intro) | (refine ret_tmp ?_) | (refine acx_go rfl (fun _ _ _ h => h) ?_) | (refine acx_dreg mixed (fun _ _ _ _ e h => ⟨e.trans h.1, h.2⟩) _ (SubH.refl _) ?_) | (refine And.intro (SubH.new (by assumption)) ?_) | (refine allNew_intro fun zr zh => ?_; have zg := zh; (try simp only [AH.set_none] at zg)) | (exact SubH.refl _) | (refine SubH.of_set ?_ ?_) | assumption | (refine PureF.use (hD) ?_) | (refine PureF.use (hR) ?_) | (refine PureF.use (hC) ?_) | (refine PureF.use (hC1) ?_) | (refine PureF.use (hP) ?_) | (refine PureF.use (hE) ?_) | (with_reducible refine And.intro ?_ ?_)))
  · exact fun _ => trivial
  · exact absurd rfl (by assumption : ¬ ((5 : Nat) : Int) = 5)
end Go.PV.Ytefpjfpelicedaa
end
section
/- The law on what numbers fulfil: what its program computes. -/
set_option linter.unusedVariables false
set_option linter.unusedSimpArgs false
set_option maxRecDepth 20000
set_option maxHeartbeats 4000000
namespace Go.PV.Ytefpjfpelicedaa
open Go Go.Proofs
theorem clone25b (l : List Int) (hn : (l.length : Int) ≤ 17592186044416) : PureF Try.prog 25 [intsV l] (intsV l) := by
  refine GivesF.pure fun H => ?_
  refine vcalls_intro fd25 (by simp) ?_
  unfold c25
  (repeat' (first | (simp only [↓s_reg, ↓s_seq, ↓s_nil, ↓s_consN, ↓s_thenN, ↓s_putS, ↓s_dOkS, ↓s_ev_t, ↓s_ev_c, ↓s_upd, ↓s_move, ↓s_assign, ↓s_bin, List.getD_cons_zero, List.getD_cons_succ, List.getD_nil, ite_true, ite_false, Nat.reduceLT, true_and, Nat.succ_ne_self, reduceCtorEq, undefV, eq_self, undef, *]) | (refine guardL_splitTD ?_ ?_ <;> intro) | (refine guardL_splitFD ?_ ?_ <;> intro) | (refine guardP_splitTD ?_ ?_ <;> intro) | (refine guardP_splitFD ?_ ?_ <;> intro) | (refine condL_splitD ?_ ?_ <;> intro) | (refine guardL_splitT ?_ ?_ <;> intro) | (refine guardL_splitF ?_ ?_ <;> intro) | (refine guardP_splitT ?_ ?_ <;> intro) | (refine guardP_splitF ?_ ?_ <;> intro) | (refine condL_split ?_ ?_ <;> intro) | (refine ret_tmp ?_) | (refine acx_go rfl (fun _ _ _ h => h) ?_) | (refine acx_dreg mixed (fun _ _ _ _ e h => ⟨e.trans h.1, h.2⟩) _ (SubH.refl _) ?_) | (refine And.intro (SubH.new (by assumption)) ?_) | (refine allNew_intro fun zr zh => ?_; have zg := zh; (try simp only [AH.set_none] at zg)) | (exact SubH.refl _) | (refine SubH.of_set ?_ ?_) | assumption))
  refine eq_nil und_37 fun b hb => ?_
  (repeat' (first | (simp only [↓s_skip, ↓s_reg, ↓s_seq, ↓s_cond, ↓s_ret, ↓s_nil, ↓s_consN, ↓s_thenN, ↓s_thenR, ↓s_kret, ↓s_putS, ↓s_dOkS, ↓s_ev_t, ↓s_ev_c, ↓s_upd, ↓s_move, ↓s_assign, ↓s_buildSlice, ↓s_callB, ↓s_append, boolV, List.map_cons, List.map_nil, List.length_cons, List.length_nil, List.getD_cons_zero, List.getD_cons_succ, List.getD_nil, ite_true, ite_false, Nat.reduceEqDiff, Nat.reduceLT, Nat.reduceLeDiff, true_and, Nat.succ_ne_self, reduceCtorEq, Nat.mul_one, fillV, eq_self, Nat.zero_add, and_self, vcBuildSlice, List.replicate_zero, List.flatten_nil, vcBuildSlice, elT_37, zeroT_3, *]) | (refine guardL_splitTD ?_ ?_ <;> intro) | (refine guardL_splitFD ?_ ?_ <;> intro) | (refine guardP_splitTD ?_ ?_ <;> intro) | (refine guardP_splitFD ?_ ?_ <;> intro) | (refine condL_splitD ?_ ?_ <;> intro) | (refine guardL_splitT ?_ ?_ <;> intro) | (refine guardL_splitF ?_ ?_ <;> intro) | (refine guardP_splitT ?_ ?_ <;> intro) | (refine guardP_splitF ?_ ?_ <;> intro) | (refine condL_split ?_ ?_ <;> intro) | (refine ret_tmp ?_) | (refine acx_go rfl (fun _ _ _ h => h) ?_) | (refine acx_dreg mixed (fun _ _ _ _ e h => ⟨e.trans h.1, h.2⟩) _ (SubH.refl _) ?_) | (refine And.intro (SubH.new (by assumption)) ?_) | (refine allNew_intro fun zr zh => ?_; have zg := zh; (try simp only [AH.set_none] at zg)) | (exact SubH.refl _) | (refine SubH.of_set ?_ ?_) | assumption))
  · have h0 : l = [] := by
      cases l with
      | nil => rfl
      | cons x l => have := hb (by simp); simp_all
    subst h0
    exact ⟨_, rfl, GhV.nil H⟩
  · refine append_clip elT_37 zeroT_3 rfl (by omega) rfl (ints_src H l) (ints_one l) (by omega) (by omega) (fun h0 => ?_) (fun h0 v' H' ho => ?_)
    · have h0 : l = [] := List.eq_nil_of_length_eq_zero h0
      subst h0
      (repeat' (first | (simp only [↓s_ret, ↓s_nil, ↓s_consN, ↓s_thenN, ↓s_kret, ↓s_putS, ↓s_dOkS, ↓s_ev_t, ↓s_upd, ↓s_assign, List.getD_cons_succ, List.getD_nil, ite_true, ite_false, Nat.reduceEqDiff, Nat.reduceLT, true_and, Nat.succ_ne_self, eq_self, *]) | (refine guardL_splitTD ?_ ?_ <;> intro) | (refine guardL_splitFD ?_ ?_ <;> intro) | (refine guardP_splitTD ?_ ?_ <;> intro) | (refine guardP_splitFD ?_ ?_ <;> intro) | (refine condL_splitD ?_ ?_ <;> intro) | (refine guardL_splitT ?_ ?_ <;> intro) | (refine guardL_splitF ?_ ?_ <;> intro) | (refine guardP_splitT ?_ ?_ <;> intro) | (refine guardP_splitF ?_ ?_ <;> intro) | (refine condL_split ?_ ?_ <;> intro) | (refine ret_tmp ?_) | (refine acx_go rfl (fun _ _ _ h => h) ?_) | (refine acx_dreg mixed (fun _ _ _ _ e h => ⟨e.trans h.1, h.2⟩) _ (SubH.refl _) ?_) | (refine And.intro (SubH.new (by assumption)) ?_) | (refine allNew_intro fun zr zh => ?_; have zg := zh; (try simp only [AH.set_none] at zg)) | (exact SubH.refl _) | (refine SubH.of_set ?_ ?_) | assumption))
      exact ⟨_, rfl, GhV.imm H⟩
    · (repeat' (first | (simp only [↓s_ret, ↓s_nil, ↓s_consN, ↓s_thenN, ↓s_kret, ↓s_putS, ↓s_dOkS, ↓s_ev_t, ↓s_upd, ↓s_assign, List.getD_cons_succ, List.getD_nil, ite_true, ite_false, Nat.reduceEqDiff, Nat.reduceLT, true_and, Nat.succ_ne_self, eq_self, *]) | (refine guardL_splitTD ?_ ?_ <;> intro) | (refine guardL_splitFD ?_ ?_ <;> intro) | (refine guardP_splitTD ?_ ?_ <;> intro) | (refine guardP_splitFD ?_ ?_ <;> intro) | (refine condL_splitD ?_ ?_ <;> intro) | (refine guardL_splitT ?_ ?_ <;> intro) | (refine guardL_splitF ?_ ?_ <;> intro) | (refine guardP_splitT ?_ ?_ <;> intro) | (refine guardP_splitF ?_ ?_ <;> intro) | (refine condL_split ?_ ?_ <;> intro) | (refine ret_tmp ?_) | (refine acx_go rfl (fun _ _ _ h => h) ?_) | (refine acx_dreg mixed (fun _ _ _ _ e h => ⟨e.trans h.1, h.2⟩) _ (SubH.refl _) ?_) | (refine And.intro (SubH.new (by assumption)) ?_) | (refine allNew_intro fun zr zh => ?_; have zg := zh; (try simp only [AH.set_none] at zg)) | (exact SubH.refl _) | (refine SubH.of_set ?_ ?_) | assumption))
      refine ⟨_, rfl, ?_⟩
      have := GhV.own ho
      simpa using this
def soundGuard (rows : List Row) (ls : List Line) (x : List Int) : Bool := !(fewF rows ls 500) || x.any (fun n => decide (1000 < n))
def soundRows (d : List Row) (x : List Int) : Bool := d.all fun r => decide (r.c.length ≤ x.length) && fulF r x
def soundF (rows : List Row) (ls : List Line) (x : List Int) : Bool :=
  if soundGuard rows ls x = true then true
  else if (holdsF rows x).2 = 0 ∧ (deriveF rows ls).2 = 0 ∧ (holdsF rows x).1 = true then soundRows (deriveF rows ls).1 x && decide (checkF rows ls ≠ 0)
  else true
theorem few_len {rows : List Row} {ls : List Line} {m : Int} (h : fewF rows ls m = true) : (rows.length : Int) ≤ 110 ∧ (ls.length : Int) ≤ m ∧ ∀ r ∈ rows, (r.c.length : Int) ≤ 20 := by
  simp only [fewF, Bool.and_eq_true, decide_eq_true_eq, Bool.not_eq_true', List.any_eq_false] at h
  exact ⟨h.1.1, h.1.2, fun r hr => by have := h.2 r hr; simpa using this⟩
theorem sound5 (rows : List Row) (ls : List Line) (x : List Int) (h1 : (rows.length : Int) ≤ 9223372036854775806) (h3 : (x.length : Int) ≤ 17592186044416) : PureF Try.prog 5 [rowsV rows, linesV ls, intsV x] (boolV (soundF rows ls x)) := by
  refine PureF.forget fun H => ?_
  refine vcalls_intro fd5 (by simp) ?_
  unfold c5
  have h3' : (x.length : Int) ≤ 9223372036854775806 := by omega
  by_cases hf : fewF rows ls 500 = true
  · obtain ⟨f1, f2, f3⟩ := few_len hf
    have f1' : (rows.length : Int) ≤ 1000000 := by omega
    have f2' : (ls.length : Int) ≤ 1000000 := by omega
    have f3' : ∀ r ∈ rows, (r.c.length : Int) ≤ 1000000 := fun r hr => by have := f3 r hr; omega
    have f2'' : (ls.length : Int) ≤ 9223372036854775806 := by omega
    by_cases ha : x.any (fun n => decide (1000 < n)) = true
    · have hg : soundF rows ls x = true := by unfold soundF; rw [if_pos (by simp only [soundGuard, ha, Bool.or_true])]
      (repeat' (first | (refine contains16 (p := fun n => decide (1000 < n)) h3' (fun x _ => FnAt.lit en_23 (sound23 x)) ?_) | (simp only [↓s_reg, ↓s_seq, ↓s_cond, ↓s_condT, ↓s_ret, ↓s_nil, ↓s_consN, ↓s_consG, ↓s_guardFF, ↓s_thenN, ↓s_thenR, ↓s_kret, ↓s_putS, ↓s_dOkS, ↓s_ev_t, ↓s_ev_c, ↓s_ev_f, ↓s_upd, ↓s_move, ↓s_assign, ↓s_isBool, ↓s_pickA, ↓s_pick, ↓s_un, ↓s_callV, ↓s_callL, ↓s_un_not, boolV, List.map_cons, List.map_nil, List.getD_cons_zero, List.getD_cons_succ, List.getD_nil, ite_true, ite_false, Nat.reduceEqDiff, Nat.reduceLT, true_and, Bool.false_eq_true, Nat.succ_ne_self, Bool.not_true, reduceCtorEq, undefV, eq_self, undef, en_7, en_16, en_8, *]) | (refine guardL_splitTD ?_ ?_ <;> intro) | (refine guardL_splitFD ?_ ?_ <;> intro) | (refine guardP_splitTD ?_ ?_ <;> intro) | (refine guardP_splitFD ?_ ?_ <;> intro) | (refine condL_splitD ?_ ?_ <;> intro) | (refine guardL_splitT ?_ ?_ <;> intro) | (refine guardL_splitF ?_ ?_ <;> intro) | (refine guardP_splitT ?_ ?_ <;> intro) | (refine guardP_splitF ?_ ?_ <;> intro) | (refine condL_split ?_ ?_ <;> intro) | (refine ret_tmp ?_) | (refine acx_go rfl (fun _ _ _ h => h) ?_) | (refine acx_dreg mixed (fun _ _ _ _ e h => ⟨e.trans h.1, h.2⟩) _ (SubH.refl _) ?_) | (refine And.intro (SubH.new (by assumption)) ?_) | (refine allNew_intro fun zr zh => ?_; have zg := zh; (try simp only [AH.set_none] at zg)) | (exact SubH.refl _) | (refine SubH.of_set ?_ ?_) | assumption | (refine PureF.use (few7 rows ls 500 h1) ?_) | (refine PureF.use (awake8) ?_) | (with_reducible refine And.intro ?_ ?_)))
    · have ha' : x.any (fun n => decide (1000 < n)) = false := by simpa using ha
      have hgu : soundF rows ls x = if (holdsF rows x).2 = 0 ∧ (deriveF rows ls).2 = 0 ∧ (holdsF rows x).1 = true then soundRows (deriveF rows ls).1 x && decide (checkF rows ls ≠ 0) else true := by
        unfold soundF; rw [if_neg (by simp only [soundGuard, hf, ha', Bool.not_true, Bool.or_false]; simp)]
      have hdl := deriveF_len rows ls
      have hdo := deriveF_ok rows ls
      by_cases c1 : (holdsF rows x).2 = 0
      · by_cases c2 : (deriveF rows ls).2 = 0
        · cases c3 : (holdsF rows x).1 with
          | true =>
            rw [if_pos ⟨c1, c2, c3⟩] at hgu
            (repeat' (first | (refine contains16 (p := fun n => decide (1000 < n)) h3' (fun x _ => FnAt.lit en_23 (sound23 x)) ?_) | (simp only [↓s_skip, ↓s_reg, ↓s_seq, ↓s_seqL, ↓s_cond, ↓s_condF, ↓s_block, ↓s_loop, ↓s_nil, ↓s_consN, ↓s_consG, ↓s_guardFF, ↓s_thenN, ↓s_kret, ↓s_putS, ↓s_dOkS, ↓s_ev_t, ↓s_ev_c, ↓s_ev_f, ↓s_upd, ↓s_move, ↓s_assign, ↓s_isBool, ↓s_pickA, ↓s_pick, ↓s_bin, ↓s_un, ↓s_extract, ↓s_callB, ↓s_callV, ↓s_callL, ↓s_len, ↓s_un_not, ↓s_bin_neq, vcExtract, intV, boolV, List.map_cons, List.map_nil, List.getD_cons_zero, List.getD_cons_succ, List.getD_nil, ite_true, ite_false, Nat.reduceEqDiff, Nat.reduceLT, ne_eq, not_false_eq_true, true_and, Bool.false_eq_true, Nat.succ_ne_self, decide_true, Bool.not_true, reduceCtorEq, undefV, eq_self, List.getElem?_cons_zero, List.getElem?_cons_succ, n_lenS, undef, elT_31, en_7, en_16, en_12, en_25, en_24, en_21, en_22, *]) | (refine guardL_splitTD ?_ ?_ <;> intro) | (refine guardL_splitFD ?_ ?_ <;> intro) | (refine guardP_splitTD ?_ ?_ <;> intro) | (refine guardP_splitFD ?_ ?_ <;> intro) | (refine condL_splitD ?_ ?_ <;> intro) | (refine guardL_splitT ?_ ?_ <;> intro) | (refine guardL_splitF ?_ ?_ <;> intro) | (refine guardP_splitT ?_ ?_ <;> intro) | (refine guardP_splitF ?_ ?_ <;> intro) | (refine condL_split ?_ ?_ <;> intro) | (refine ret_tmp ?_) | (refine acx_go rfl (fun _ _ _ h => h) ?_) | (refine acx_dreg mixed (fun _ _ _ _ e h => ⟨e.trans h.1, h.2⟩) _ (SubH.refl _) ?_) | (refine And.intro (SubH.new (by assumption)) ?_) | (refine allNew_intro fun zr zh => ?_; have zg := zh; (try simp only [AH.set_none] at zg)) | (exact SubH.refl _) | (refine SubH.of_set ?_ ?_) | assumption | (refine PureF.use (few7 rows ls 500 h1) ?_) | (refine PureF.use (awake8) ?_) | (refine PureF.use (rows12P rows f1' f3') ?_) | (refine PureF.use (lines21P ls f2') ?_) | (refine PureF.use (clone25b x h3) ?_) | (refine PureF.use (holds24 rows x h1 h3') ?_) | (refine PureF.use (derive22 rows ls h1 f2'') ?_) | (with_reducible refine And.intro ?_ ?_)))
            obtain ⟨d, hd⟩ : ∃ d, d = (deriveF rows ls).1 := ⟨_, rfl⟩
            rw [← hd] at hdl hdo ⊢
            have hck := check13 rows ls h1 f2''
            clear hgu hd ha'
            refine acx_loop (fun _ _ _ h => h) (fun A H' => SubH H H' ∧ A.d = [] ∧ A.t 0 = rowsV rows ∧ A.t 1 = linesV ls ∧ A.t 2 = intsV x ∧ A.t 49 = rowsV d ∧ A.t 50 = iV d.length ∧ ∃ i : Nat, i ≤ d.length ∧ A.t 51 = iV i ∧ soundRows d x = soundRows (d.drop i) x)
              (fun A _ => match A.t 51 with | .lit (.int _ i) => ((d.length : Int) - i).toNat | _ => 0) ?_ ?_
            · exact ⟨SubH.refl _, rfl, rfl, rfl, rfl, rfl, rfl, 0, by omega, rfl, rfl⟩
            · rintro ⟨t, e⟩ H' ⟨hs, rfl, h0, ht1, h2, h49, h50, i, hi, h51, hgo⟩
              dsimp only at h0 ht1 h2 h49 h50 h51
              have hHn : ∀ r, H' r = none → H r = none := fun r hr => hs.none hr
              by_cases hb : i < d.length
              · have hst : soundRows (d.drop i) x = ((decide (d[i].c.length ≤ x.length) && fulF d[i] x) && soundRows (d.drop (i + 1)) x) := by
                  rw [List.drop_eq_getElem_cons hb]; rfl
                rw [hst] at hgo
                clear hst
                by_cases c5 : (x.length : Int) < (d[i].c.length : Int)
                · have hgo2 : soundRows d x = false := by rw [hgo, decide_eq_false (by omega)]; rfl
                  clear hgo
                  (repeat' (first | (simp only [↓s_skip, ↓s_reg, ↓s_seq, ↓s_cond, ↓s_condT, ↓s_block, ↓s_ret, ↓s_nil, ↓s_consN, ↓s_consG, ↓s_guardTF, ↓s_thenN, ↓s_thenR, ↓s_inR, ↓s_kret, ↓s_putS, ↓s_putN, ↓s_dOkS, ↓s_dOkN, ↓s_ev_t, ↓s_ev_c, ↓s_ev_f, ↓s_upd, ↓s_move, ↓s_assign, ↓s_isBool, ↓s_pickA, ↓s_pick, ↓s_load, ↓s_store, ↓s_bin, ↓s_alloc, ↓s_fieldAddr, ↓s_indexAddr, ↓s_callB, ↓s_len, ↓s_bin_lss, ↓s_bin_gtr, ptrV, intV, List.map_cons, List.map_nil, List.length_cons, List.length_nil, ite_true, ite_false, Nat.reduceEqDiff, Nat.reduceLT, Nat.reduceAdd, ne_eq, not_false_eq_true, true_and, Nat.succ_ne_self, decide_true, Bool.false_and, reduceCtorEq, Int.natCast_nonneg, Int.toNat_natCast, callOk, undefV, AH.get, AH.set_set, setAt, List.all_cons, List.all_nil, Bool.and_self, eq_self, Nat.zero_add, Nat.add_zero, List.drop, and_self, ldV_f, ldV_t2, Int.ofNat_lt, on_int, cl_agg, on_slice, List.set_cons_zero, List.set_cons_succ, ↓n_alloc, n_allocS, Nat.le_refl, n_ldI, n_ldP, n_faP, n_ixS, n_ixA1, n_lenS, n_ldA, n_ldC, n_ldB, n_faA, n_stP, n_stA, undef, rows_drop, flT_50_0, ldT_50, ldT_37, szT_50, zeroT_50, elT_31, elT_37, en_26, *]) | (refine guardL_splitTD ?_ ?_ <;> intro) | (refine guardL_splitFD ?_ ?_ <;> intro) | (refine guardP_splitTD ?_ ?_ <;> intro) | (refine guardP_splitFD ?_ ?_ <;> intro) | (refine condL_splitD ?_ ?_ <;> intro) | (refine guardL_splitT ?_ ?_ <;> intro) | (refine guardL_splitF ?_ ?_ <;> intro) | (refine guardP_splitT ?_ ?_ <;> intro) | (refine guardP_splitF ?_ ?_ <;> intro) | (refine condL_split ?_ ?_ <;> intro) | (refine ret_tmp ?_) | (refine acx_go rfl (fun _ _ _ h => h) ?_) | (refine acx_dreg mixed (fun _ _ _ _ e h => ⟨e.trans h.1, h.2⟩) _ (SubH.refl _) ?_) | (refine And.intro (SubH.new (by assumption)) ?_) | (refine allNew_intro fun zr zh => ?_; have zg := zh; (try simp only [AH.set_none] at zg)) | (exact SubH.refl _) | (refine SubH.of_set ?_ ?_) | assumption | (with_reducible refine And.intro ?_ ?_)))
                · cases c6 : fulF d[i] x with
                  | false =>
                    have hgo2 : soundRows d x = false := by rw [hgo, c6]; simp
                    clear hgo
                    (repeat' (first | (simp only [↓s_skip, ↓s_reg, ↓s_seq, ↓s_cond, ↓s_condT, ↓s_block, ↓s_ret, ↓s_nil, ↓s_consN, ↓s_consG, ↓s_guardFF, ↓s_thenN, ↓s_thenR, ↓s_inR, ↓s_kret, ↓s_putS, ↓s_putN, ↓s_dOkS, ↓s_dOkN, ↓s_ev_t, ↓s_ev_c, ↓s_ev_f, ↓s_upd, ↓s_move, ↓s_assign, ↓s_isBool, ↓s_pickA, ↓s_pick, ↓s_load, ↓s_store, ↓s_bin, ↓s_un, ↓s_alloc, ↓s_fieldAddr, ↓s_indexAddr, ↓s_callB, ↓s_callV, ↓s_callL, ↓s_len, ↓s_un_not, ↓s_bin_lss, ↓s_bin_gtr, ptrV, intV, boolV, List.map_cons, List.map_nil, List.length_cons, List.length_nil, ite_true, ite_false, Nat.reduceEqDiff, Nat.reduceLT, Nat.reduceAdd, ne_eq, not_false_eq_true, true_and, Bool.false_eq_true, Nat.succ_ne_self, decide_true, decide_false, Bool.not_false, Bool.false_and, reduceCtorEq, Int.natCast_nonneg, Int.toNat_natCast, AH.get, AH.set_set, setAt, List.all_cons, List.all_nil, Bool.and_self, eq_self, Nat.zero_add, Nat.add_zero, List.drop, and_self, ldV_f, ldV_t2, Int.ofNat_lt, on_int, cl_agg, on_slice, List.set_cons_zero, List.set_cons_succ, ↓n_alloc, n_allocS, Nat.le_refl, n_ldI, n_ldP, n_faP, n_ixS, n_ixA1, n_lenS, n_ldA, n_ldC, n_ldB, n_faA, n_stP, n_stA, rows_drop, flT_50_0, ldT_50, ldT_37, szT_50, zeroT_50, elT_31, elT_37, en_26, *]) | (refine guardL_splitTD ?_ ?_ <;> intro) | (refine guardL_splitFD ?_ ?_ <;> intro) | (refine guardP_splitTD ?_ ?_ <;> intro) | (refine guardP_splitFD ?_ ?_ <;> intro) | (refine condL_splitD ?_ ?_ <;> intro) | (refine guardL_splitT ?_ ?_ <;> intro) | (refine guardL_splitF ?_ ?_ <;> intro) | (refine guardP_splitT ?_ ?_ <;> intro) | (refine guardP_splitF ?_ ?_ <;> intro) | (refine condL_split ?_ ?_ <;> intro) | (refine ret_tmp ?_) | (refine acx_go rfl (fun _ _ _ h => h) ?_) | (refine acx_dreg mixed (fun _ _ _ _ e h => ⟨e.trans h.1, h.2⟩) _ (SubH.refl _) ?_) | (refine And.intro (SubH.new (by assumption)) ?_) | (refine allNew_intro fun zr zh => ?_; have zg := zh; (try simp only [AH.set_none] at zg)) | (exact SubH.refl _) | (refine SubH.of_set ?_ ?_) | assumption | (refine PureF.use (fulfils26 d[i] x h3') ?_) | (with_reducible refine And.intro ?_ ?_)))
                  | true =>
                    have hgo2 : soundRows d x = soundRows (d.drop (i + 1)) x := by rw [hgo, c6, decide_eq_true (by omega)]; rfl
                    clear hgo
                    (repeat' (first | (simp only [↓s_skip, ↓s_reg, ↓s_seq, ↓s_cond, ↓s_condT, ↓s_condF, ↓s_block, ↓s_nil, ↓s_consN, ↓s_consG, ↓s_guardFF, ↓s_thenN, ↓s_inN, ↓s_kret, ↓s_putS, ↓s_putN, ↓s_dOkS, ↓s_dOkN, ↓s_ev_t, ↓s_ev_c, ↓s_ev_f, ↓s_upd, ↓s_move, ↓s_isBool, ↓s_pickA, ↓s_pick, ↓s_load, ↓s_store, ↓s_bin, ↓s_un, ↓s_alloc, ↓s_fieldAddr, ↓s_indexAddr, ↓s_callB, ↓s_callV, ↓s_callL, ↓s_len, ↓s_un_not, ↓s_bin_lss, ↓s_bin_gtr, ↓s_bin_add, ptrV, intV, boolV, List.map_cons, List.map_nil, List.length_cons, List.length_nil, ite_true, ite_false, Nat.reduceEqDiff, Nat.reduceLT, Nat.reduceAdd, ne_eq, not_false_eq_true, true_and, Bool.false_eq_true, Nat.succ_ne_self, decide_true, decide_false, Bool.not_true, reduceCtorEq, Int.natCast_nonneg, Int.toNat_natCast, AH.get, AH.set_set, setAt, List.all_cons, List.all_nil, Bool.and_self, eq_self, Nat.zero_add, Nat.add_zero, List.drop, and_self, ldV_f, ldV_t2, Int.ofNat_lt, on_int, cl_agg, on_slice, List.set_cons_zero, List.set_cons_succ, ↓n_alloc, n_allocS, Nat.le_refl, n_ldI, n_ldP, n_faP, n_ixS, n_ixA1, n_lenS, n_ldA, n_ldC, n_ldB, n_faA, n_stP, n_stA, rows_drop, flT_50_0, ldT_50, ldT_37, szT_50, zeroT_50, elT_31, elT_37, en_26, *]) | (refine guardL_splitTD ?_ ?_ <;> intro) | (refine guardL_splitFD ?_ ?_ <;> intro) | (refine guardP_splitTD ?_ ?_ <;> intro) | (refine guardP_splitFD ?_ ?_ <;> intro) | (refine condL_splitD ?_ ?_ <;> intro) | (refine guardL_splitT ?_ ?_ <;> intro) | (refine guardL_splitF ?_ ?_ <;> intro) | (refine guardP_splitT ?_ ?_ <;> intro) | (refine guardP_splitF ?_ ?_ <;> intro) | (refine condL_split ?_ ?_ <;> intro) | (refine ret_tmp ?_) | (refine acx_go rfl (fun _ _ _ h => h) ?_) | (refine acx_dreg mixed (fun _ _ _ _ e h => ⟨e.trans h.1, h.2⟩) _ (SubH.refl _) ?_) | (refine And.intro (SubH.new (by assumption)) ?_) | (refine allNew_intro fun zr zh => ?_; have zg := zh; (try simp only [AH.set_none] at zg)) | (exact SubH.refl _) | (refine SubH.of_set ?_ ?_) | assumption | (refine PureF.use (fulfils26 d[i] x h3') ?_) | (with_reducible refine And.intro ?_ ?_)))
                    · rw [wrap_ok (n := (i : Int) + 1) (by omega) (by omega)]
                      exact ⟨i + 1, by omega, rfl, rfl⟩
                    · rw [wrap_ok (n := (i : Int) + 1) (by omega) (by omega)]; omega
              · have hgo2 : soundRows d x = true := by rw [hgo, List.drop_eq_nil_of_le (by omega)]; rfl
                clear hgo
                by_cases c7 : checkF rows ls = 0
                · (repeat' (first | (simp only [↓s_reg, ↓s_seq, ↓s_cond, ↓s_condF, ↓s_exit, ↓s_ret, ↓s_nil, ↓s_consN, ↓s_consG, ↓s_guardFT, ↓s_thenN, ↓s_thenE, ↓s_inE, ↓s_kret, ↓s_putS, ↓s_dOkS, ↓s_ev_t, ↓s_ev_c, ↓s_ev_f, ↓s_upd, ↓s_move, ↓s_assign, ↓s_isBool, ↓s_pickA, ↓s_pick, ↓s_bin, ↓s_callV, ↓s_callL, ↓s_bin_lss, ↓s_bin_neq, List.map_cons, List.map_nil, ite_true, ite_false, Nat.reduceEqDiff, Nat.reduceLT, not_true_eq_false, true_and, Bool.false_eq_true, Nat.succ_ne_self, decide_true, decide_false, Bool.not_true, Bool.and_false, reduceCtorEq, callOk, undefV, eq_self, and_self, Int.ofNat_lt, undef, en_8, en_12, en_21, en_13, *]) | (refine guardL_splitTD ?_ ?_ <;> intro) | (refine guardL_splitFD ?_ ?_ <;> intro) | (refine guardP_splitTD ?_ ?_ <;> intro) | (refine guardP_splitFD ?_ ?_ <;> intro) | (refine condL_splitD ?_ ?_ <;> intro) | (refine guardL_splitT ?_ ?_ <;> intro) | (refine guardL_splitF ?_ ?_ <;> intro) | (refine guardP_splitT ?_ ?_ <;> intro) | (refine guardP_splitF ?_ ?_ <;> intro) | (refine condL_split ?_ ?_ <;> intro) | (refine ret_tmp ?_) | (refine acx_go rfl (fun _ _ _ h => h) ?_) | (refine acx_dreg mixed (fun _ _ _ _ e h => ⟨e.trans h.1, h.2⟩) _ (SubH.refl _) ?_) | (refine And.intro (SubH.new (by assumption)) ?_) | (refine allNew_intro fun zr zh => ?_; have zg := zh; (try simp only [AH.set_none] at zg)) | (exact SubH.refl _) | (refine SubH.of_set ?_ ?_) | assumption | (refine PureF.use (rows12P rows f1' f3') ?_) | (refine PureF.use (lines21P ls f2') ?_) | (refine PureF.use (hck) ?_) | (refine PureF.use (awake8) ?_) | (with_reducible refine And.intro ?_ ?_)))
                · (repeat' (first | (simp only [↓s_reg, ↓s_seq, ↓s_cond, ↓s_condF, ↓s_exit, ↓s_ret, ↓s_nil, ↓s_consN, ↓s_consG, ↓s_guardTT, ↓s_thenN, ↓s_thenE, ↓s_inE, ↓s_kret, ↓s_putS, ↓s_dOkS, ↓s_ev_t, ↓s_ev_c, ↓s_ev_f, ↓s_upd, ↓s_move, ↓s_assign, ↓s_isBool, ↓s_pickA, ↓s_pick, ↓s_bin, ↓s_callV, ↓s_callL, ↓s_bin_lss, ↓s_bin_neq, boolV, List.map_cons, List.map_nil, ite_true, ite_false, Nat.reduceEqDiff, Nat.reduceLT, not_false_eq_true, true_and, Nat.succ_ne_self, decide_true, decide_false, Bool.not_false, reduceCtorEq, Bool.and_self, eq_self, and_self, Int.ofNat_lt, en_8, en_12, en_21, en_13, *]) | (refine guardL_splitTD ?_ ?_ <;> intro) | (refine guardL_splitFD ?_ ?_ <;> intro) | (refine guardP_splitTD ?_ ?_ <;> intro) | (refine guardP_splitFD ?_ ?_ <;> intro) | (refine condL_splitD ?_ ?_ <;> intro) | (refine guardL_splitT ?_ ?_ <;> intro) | (refine guardL_splitF ?_ ?_ <;> intro) | (refine guardP_splitT ?_ ?_ <;> intro) | (refine guardP_splitF ?_ ?_ <;> intro) | (refine condL_split ?_ ?_ <;> intro) | (refine ret_tmp ?_) | (refine acx_go rfl (fun _ _ _ h => h) ?_) | (refine acx_dreg mixed (fun _ _ _ _ e h => ⟨e.trans h.1, h.2⟩) _ (SubH.refl _) ?_) | (refine And.intro (SubH.new (by assumption)) ?_) | (refine allNew_intro fun zr zh => ?_; have zg := zh; (try simp only [AH.set_none] at zg)) | (exact SubH.refl _) | (refine SubH.of_set ?_ ?_) | assumption | (refine PureF.use (rows12P rows f1' f3') ?_) | (refine PureF.use (lines21P ls f2') ?_) | (refine PureF.use (hck) ?_) | (refine PureF.use (awake8) ?_) | (with_reducible refine And.intro ?_ ?_)))
          | false =>
            rw [if_neg (by simp [c3])] at hgu
            (repeat' (first | (refine contains16 (p := fun n => decide (1000 < n)) h3' (fun x _ => FnAt.lit en_23 (sound23 x)) ?_) | (simp only [↓s_skip, ↓s_reg, ↓s_seq, ↓s_cond, ↓s_condT, ↓s_condF, ↓s_ret, ↓s_nil, ↓s_consN, ↓s_consG, ↓s_guardFF, ↓s_thenN, ↓s_thenR, ↓s_kret, ↓s_putS, ↓s_dOkS, ↓s_ev_t, ↓s_ev_c, ↓s_ev_f, ↓s_upd, ↓s_move, ↓s_assign, ↓s_isBool, ↓s_pickA, ↓s_pick, ↓s_bin, ↓s_un, ↓s_extract, ↓s_callV, ↓s_callL, ↓s_un_not, ↓s_bin_neq, vcExtract, boolV, List.map_cons, List.map_nil, List.getD_cons_zero, List.getD_cons_succ, List.getD_nil, ite_true, ite_false, Nat.reduceEqDiff, Nat.reduceLT, true_and, Bool.false_eq_true, Nat.succ_ne_self, decide_true, Bool.not_true, Bool.not_false, reduceCtorEq, undefV, eq_self, List.getElem?_cons_zero, List.getElem?_cons_succ, undef, en_7, en_16, en_8, en_12, en_25, en_24, en_21, en_22, *]) | (refine guardL_splitTD ?_ ?_ <;> intro) | (refine guardL_splitFD ?_ ?_ <;> intro) | (refine guardP_splitTD ?_ ?_ <;> intro) | (refine guardP_splitFD ?_ ?_ <;> intro) | (refine condL_splitD ?_ ?_ <;> intro) | (refine guardL_splitT ?_ ?_ <;> intro) | (refine guardL_splitF ?_ ?_ <;> intro) | (refine guardP_splitT ?_ ?_ <;> intro) | (refine guardP_splitF ?_ ?_ <;> intro) | (refine condL_split ?_ ?_ <;> intro) | (refine ret_tmp ?_) | (refine acx_go rfl (fun _ _ _ h => h) ?_) | (refine acx_dreg mixed (fun _ _ _ _ e h => ⟨e.trans h.1, h.2⟩) _ (SubH.refl _) ?_) | (refine And.intro (SubH.new (by assumption)) ?_) | (refine allNew_intro fun zr zh => ?_; have zg := zh; (try simp only [AH.set_none] at zg)) | (exact SubH.refl _) | (refine SubH.of_set ?_ ?_) | assumption | (refine PureF.use (few7 rows ls 500 h1) ?_) | (refine PureF.use (awake8) ?_) | (refine PureF.use (rows12P rows f1' f3') ?_) | (refine PureF.use (lines21P ls f2') ?_) | (refine PureF.use (clone25b x h3) ?_) | (refine PureF.use (holds24 rows x h1 h3') ?_) | (refine PureF.use (derive22 rows ls h1 f2'') ?_) | (with_reducible refine And.intro ?_ ?_)))
        · rw [if_neg (fun e => c2 e.2.1)] at hgu
          (repeat' (first | (refine contains16 (p := fun n => decide (1000 < n)) h3' (fun x _ => FnAt.lit en_23 (sound23 x)) ?_) | (simp only [↓s_skip, ↓s_reg, ↓s_seq, ↓s_cond, ↓s_condT, ↓s_condF, ↓s_ret, ↓s_nil, ↓s_consN, ↓s_consG, ↓s_guardTF, ↓s_guardFF, ↓s_thenN, ↓s_thenR, ↓s_kret, ↓s_putS, ↓s_dOkS, ↓s_ev_t, ↓s_ev_c, ↓s_ev_f, ↓s_upd, ↓s_move, ↓s_assign, ↓s_isBool, ↓s_pickA, ↓s_pick, ↓s_bin, ↓s_un, ↓s_extract, ↓s_callV, ↓s_callL, ↓s_un_not, ↓s_bin_neq, vcExtract, boolV, List.map_cons, List.map_nil, List.getD_cons_zero, List.getD_cons_succ, List.getD_nil, ite_true, ite_false, Nat.reduceEqDiff, Nat.reduceLT, true_and, Bool.false_eq_true, Nat.succ_ne_self, decide_true, decide_false, Bool.not_true, Bool.not_false, reduceCtorEq, callOk, undefV, eq_self, List.getElem?_cons_zero, List.getElem?_cons_succ, undef, en_7, en_16, en_8, en_12, en_25, en_24, en_21, en_22, *]) | (refine guardL_splitTD ?_ ?_ <;> intro) | (refine guardL_splitFD ?_ ?_ <;> intro) | (refine guardP_splitTD ?_ ?_ <;> intro) | (refine guardP_splitFD ?_ ?_ <;> intro) | (refine condL_splitD ?_ ?_ <;> intro) | (refine guardL_splitT ?_ ?_ <;> intro) | (refine guardL_splitF ?_ ?_ <;> intro) | (refine guardP_splitT ?_ ?_ <;> intro) | (refine guardP_splitF ?_ ?_ <;> intro) | (refine condL_split ?_ ?_ <;> intro) | (refine ret_tmp ?_) | (refine acx_go rfl (fun _ _ _ h => h) ?_) | (refine acx_dreg mixed (fun _ _ _ _ e h => ⟨e.trans h.1, h.2⟩) _ (SubH.refl _) ?_) | (refine And.intro (SubH.new (by assumption)) ?_) | (refine allNew_intro fun zr zh => ?_; have zg := zh; (try simp only [AH.set_none] at zg)) | (exact SubH.refl _) | (refine SubH.of_set ?_ ?_) | assumption | (refine PureF.use (few7 rows ls 500 h1) ?_) | (refine PureF.use (awake8) ?_) | (refine PureF.use (rows12P rows f1' f3') ?_) | (refine PureF.use (lines21P ls f2') ?_) | (refine PureF.use (clone25b x h3) ?_) | (refine PureF.use (holds24 rows x h1 h3') ?_) | (refine PureF.use (derive22 rows ls h1 f2'') ?_) | (with_reducible refine And.intro ?_ ?_)))
      · rw [if_neg (fun e => c1 e.1)] at hgu
        (repeat' (first | (refine contains16 (p := fun n => decide (1000 < n)) h3' (fun x _ => FnAt.lit en_23 (sound23 x)) ?_) | (simp only [↓s_skip, ↓s_reg, ↓s_seq, ↓s_cond, ↓s_condT, ↓s_condF, ↓s_ret, ↓s_nil, ↓s_consN, ↓s_consG, ↓s_guardTF, ↓s_guardFF, ↓s_thenN, ↓s_thenR, ↓s_kret, ↓s_putS, ↓s_dOkS, ↓s_ev_t, ↓s_ev_c, ↓s_ev_f, ↓s_upd, ↓s_move, ↓s_assign, ↓s_isBool, ↓s_pickA, ↓s_pick, ↓s_bin, ↓s_un, ↓s_extract, ↓s_callV, ↓s_callL, ↓s_un_not, ↓s_bin_neq, vcExtract, boolV, List.map_cons, List.map_nil, List.getD_cons_zero, List.getD_cons_succ, List.getD_nil, ite_true, ite_false, Nat.reduceEqDiff, Nat.reduceLT, true_and, Bool.false_eq_true, Nat.succ_ne_self, decide_false, Bool.not_true, Bool.not_false, reduceCtorEq, callOk, undefV, eq_self, List.getElem?_cons_zero, List.getElem?_cons_succ, undef, en_7, en_16, en_8, en_12, en_25, en_24, en_21, en_22, *]) | (refine guardL_splitTD ?_ ?_ <;> intro) | (refine guardL_splitFD ?_ ?_ <;> intro) | (refine guardP_splitTD ?_ ?_ <;> intro) | (refine guardP_splitFD ?_ ?_ <;> intro) | (refine condL_splitD ?_ ?_ <;> intro) | (refine guardL_splitT ?_ ?_ <;> intro) | (refine guardL_splitF ?_ ?_ <;> intro) | (refine guardP_splitT ?_ ?_ <;> intro) | (refine guardP_splitF ?_ ?_ <;> intro) | (refine condL_split ?_ ?_ <;> intro) | (refine ret_tmp ?_) | (refine acx_go rfl (fun _ _ _ h => h) ?_) | (refine acx_dreg mixed (fun _ _ _ _ e h => ⟨e.trans h.1, h.2⟩) _ (SubH.refl _) ?_) | (refine And.intro (SubH.new (by assumption)) ?_) | (refine allNew_intro fun zr zh => ?_; have zg := zh; (try simp only [AH.set_none] at zg)) | (exact SubH.refl _) | (refine SubH.of_set ?_ ?_) | assumption | (refine PureF.use (few7 rows ls 500 h1) ?_) | (refine PureF.use (awake8) ?_) | (refine PureF.use (rows12P rows f1' f3') ?_) | (refine PureF.use (lines21P ls f2') ?_) | (refine PureF.use (clone25b x h3) ?_) | (refine PureF.use (holds24 rows x h1 h3') ?_) | (refine PureF.use (derive22 rows ls h1 f2'') ?_) | (with_reducible refine And.intro ?_ ?_)))
  · have hf' : fewF rows ls 500 = false := by simpa using hf
    have hg : soundF rows ls x = true := by unfold soundF; rw [if_pos (by simp only [soundGuard, hf', Bool.not_false, Bool.true_or])]
    (repeat' (first | (simp only [↓s_reg, ↓s_seq, ↓s_cond, ↓s_condT, ↓s_ret, ↓s_nil, ↓s_consN, ↓s_consG, ↓s_guardTF, ↓s_thenN, ↓s_thenR, ↓s_kret, ↓s_putS, ↓s_dOkS, ↓s_ev_t, ↓s_ev_c, ↓s_ev_f, ↓s_upd, ↓s_move, ↓s_assign, ↓s_isBool, ↓s_pickA, ↓s_pick, ↓s_un, ↓s_callV, ↓s_callL, ↓s_un_not, boolV, List.map_cons, List.map_nil, List.getD_cons_zero, List.getD_cons_succ, List.getD_nil, ite_true, ite_false, Nat.reduceEqDiff, Nat.reduceLT, true_and, Nat.succ_ne_self, Bool.not_false, reduceCtorEq, callOk, undefV, eq_self, undef, en_7, en_16, en_8, *]) | (refine guardL_splitTD ?_ ?_ <;> intro) | (refine guardL_splitFD ?_ ?_ <;> intro) | (refine guardP_splitTD ?_ ?_ <;> intro) | (refine guardP_splitFD ?_ ?_ <;> intro) | (refine condL_splitD ?_ ?_ <;> intro) | (refine guardL_splitT ?_ ?_ <;> intro) | (refine guardL_splitF ?_ ?_ <;> intro) | (refine guardP_splitT ?_ ?_ <;> intro) | (refine guardP_splitF ?_ ?_ <;> intro) | (refine condL_split ?_ ?_ <;> intro) | (refine ret_tmp ?_) | (refine acx_go rfl (fun _ _ _ h => h) ?_) | (refine acx_dreg mixed (fun _ _ _ _ e h => ⟨e.trans h.1, h.2⟩) _ (SubH.refl _) ?_) | (refine And.intro (SubH.new (by assumption)) ?_) | (refine allNew_intro fun zr zh => ?_; have zg := zh; (try simp only [AH.set_none] at zg)) | (exact SubH.refl _) | (refine SubH.of_set ?_ ?_) | assumption | (refine PureF.use (few7 rows ls 500 h1) ?_) | (refine PureF.use (awake8) ?_) | (with_reducible refine And.intro ?_ ?_)))
end Go.PV.Ytefpjfpelicedaa
end
section
/- Numbers that fulfil rows fulfil what lines make of them. -/
set_option linter.unusedVariables false
set_option linter.unusedSimpArgs false
set_option maxRecDepth 20000
set_option maxHeartbeats 4000000
namespace Go.PV.Ytefpjfpelicedaa
def dot : List Int → List Int → Int
  | c :: cs, y :: ys => c * y + dot cs ys
  | _, _ => 0
def SmallC (cs : List Int) : Prop := ∀ c ∈ cs, -1000000000000 ≤ c ∧ c ≤ 1000000000000
def SmallX (xs : List Int) : Prop := ∀ y ∈ xs, 0 ≤ y ∧ y ≤ 1000
theorem mul_small {c y : Int} (h1 : -1000000000000 ≤ c ∧ c ≤ 1000000000000) (h2 : 0 ≤ y ∧ y ≤ 1000) : -1000000000000000 ≤ c * y ∧ c * y ≤ 1000000000000000 := by
  have a := Int.mul_le_mul_of_nonneg_right h1.1 h2.1
  have b := Int.mul_le_mul_of_nonneg_right h1.2 h2.1
  constructor <;> omega
theorem dotGo_eq {M E : Int} (hM : M = 9000000000000000000) (hE : E = 1000000000000000) : ∀ (cs ys : List Int) (s : Int), SmallC cs → SmallX ys → -(M - cs.length * E) ≤ s → s ≤ M - cs.length * E → dotGo cs ys s = s + dot cs ys
  | [], ys, s, _, _, _, _ => by cases ys <;> simp [dotGo, dot]
  | c :: cs, [], s, _, _, _, _ => by simp [dotGo, dot]
  | c :: cs, y :: ys, s, h1, h2, h3, h4 => by
    have hm := mul_small (h1 c (List.mem_cons_self ..)) (h2 y (List.mem_cons_self ..))
    simp only [List.length_cons, Int.natCast_add, Int.natCast_one, hM, hE] at h3 h4
    have w1 : W (c * y) = c * y := wrap_ok (by omega) (by omega)
    have w2 : W (s + c * y) = s + c * y := wrap_ok (by omega) (by omega)
    simp only [dotGo, dot]
    rw [w1, w2, dotGo_eq hM hE cs ys (s + c * y) (fun x hx => h1 x (List.mem_cons_of_mem _ hx)) (fun x hx => h2 x (List.mem_cons_of_mem _ hx)) (by simp only [hM, hE]; omega) (by simp only [hM, hE]; omega)]
    omega
theorem fulGo_eq {M E : Int} (hM : M = 9000000000000000000) (hE : E = 1000000000000000) (r : Row) : ∀ (ys : List Int) (k : Nat) (s : Int), r.c.length = k + ys.length → SmallC r.c → SmallX ys → -(M - ys.length * E) ≤ s → s ≤ M - ys.length * E → fulGo r ys k s = s + dot (r.c.drop k) ys
  | [], k, s, _, _, _, _, _ => by cases r.c.drop k <;> simp [fulGo, dot]
  | y :: ys, k, s, hl, h1, h2, h3, h4 => by
    simp only [List.length_cons] at hl
    have hk : k < r.c.length := by omega
    have hc : coeffF r k = r.c[k] := by
      unfold coeffF
      rw [if_pos (by omega)]
      simp [List.getD_eq_getElem?_getD, hk]
    have hm := mul_small (h1 r.c[k] (List.getElem_mem _)) (h2 y (List.mem_cons_self ..))
    simp only [List.length_cons, Int.natCast_add, Int.natCast_one, hM, hE] at h3 h4
    have w1 : W (r.c[k] * y) = r.c[k] * y := wrap_ok (by omega) (by omega)
    have w2 : W (s + r.c[k] * y) = s + r.c[k] * y := wrap_ok (by omega) (by omega)
    simp only [fulGo]
    rw [hc, w1, w2, fulGo_eq hM hE r ys (k + 1) _ (by omega) h1 (fun x hx => h2 x (List.mem_cons_of_mem _ hx)) (by simp only [hM, hE]; omega) (by simp only [hM, hE]; omega), List.drop_eq_getElem_cons hk]
    simp only [dot]
    omega
theorem dot_zeros : ∀ (k : Nat) (x : List Int), dot (List.replicate k 0) x = 0
  | 0, x => by cases x <;> rfl
  | k + 1, [] => rfl
  | k + 1, y :: ys => by rw [List.replicate_succ, dot, dot_zeros k ys]; simp
theorem dot_append : ∀ (l : List Int) (k : Nat) (x : List Int), dot (l ++ List.replicate k 0) x = dot l x
  | [], k, x => by rw [List.nil_append, dot_zeros]; cases x <;> rfl
  | c :: l, k, [] => rfl
  | c :: l, k, y :: ys => by rw [List.cons_append, dot, dot, dot_append l k ys]
theorem wideL_eq {l : List Int} {n : Nat} (h : l.length ≤ n) : wideL l n = l ++ List.replicate (n - l.length) 0 := by
  rw [wideL, List.take_append, List.take_of_length_le h, List.take_replicate, Nat.min_eq_left (by omega)]
theorem dot_nat : ∀ (n a : Nat) (v : Int) (x : List Int), a < n → n = x.length → ∃ y ∈ x, dot ((List.replicate n 0).set a v) x = v * y
  | n + 1, 0, v, y :: ys, _, _ => ⟨y, List.mem_cons_self .., by rw [List.replicate_succ, List.set_cons_zero, dot, dot_zeros]; omega⟩
  | n + 1, a + 1, v, y :: ys, h, hn => by
    obtain ⟨z, hz, e⟩ := dot_nat n a v ys (by omega) (by simpa using hn)
    exact ⟨z, List.mem_cons_of_mem _ hz, by rw [List.replicate_succ, List.set_cons_succ, dot, e]; omega⟩
theorem dot_sum : ∀ (a b : List Int) (m k : Int) (x : List Int), a.length = b.length → dot (sumL a b m k) x = dot a x * m + dot b x * k
  | [], [], m, k, x, _ => by cases x <;> simp [sumL, dot]
  | a :: cs1, b :: bs, m, k, [], _ => by simp [sumL, dot]
  | a :: cs1, b :: bs, m, k, y :: ys, h => by
    have ih := dot_sum cs1 bs m k ys (by simpa using h)
    simp only [sumL, List.zipWith_cons_cons, dot] at ih ⊢
    rw [ih]
    have e1 : (a * m + b * k) * y = a * y * m + b * y * k := by
      rw [Int.add_mul, Int.mul_right_comm a m y, Int.mul_right_comm b k y]
    rw [e1, Int.add_mul, Int.add_mul]
    omega
theorem dot_div : ∀ (a : List Int) (m : Int) (x : List Int), (∀ c ∈ a, c.tmod m = 0) → dot a x = dot (a.map fun c => c.tdiv m) x * m
  | [], m, x, _ => by cases x <;> simp [dot]
  | a :: cs1, m, [], _ => by simp [dot]
  | a :: cs1, m, y :: ys, h => by
    have ih := dot_div cs1 m ys fun c hc => h c (List.mem_cons_of_mem _ hc)
    have h1 : a = m * a.tdiv m := by
      have := Int.mul_tdiv_add_tmod a m
      rw [h a (List.mem_cons_self ..)] at this
      omega
    simp only [List.map_cons, dot]
    rw [ih, Int.add_mul]
    congr 1
    conv => lhs; rw [h1]
    rw [Int.mul_comm m, Int.mul_assoc, Int.mul_comm m y, ← Int.mul_assoc]
theorem floor_ge {b m q : Int} (hb : -1000000000000 ≤ b ∧ b ≤ 1000000000000) (hm : 1 ≤ m ∧ m ≤ 1000000) (h : q * m ≤ b) : q ≤ floorF b m := by
  have h2 : (b.tdiv m).natAbs ≤ b.natAbs := Int.natAbs_tdiv_le_natAbs b m
  have h3 := Int.mul_tdiv_add_tmod b m
  have h4 : (b.tmod m).natAbs < m.natAbs := by rw [Int.natAbs_tmod]; exact Nat.mod_lt _ (by omega)
  have e : m * b.tdiv m = b.tdiv m * m := Int.mul_comm _ _
  have w1 : W (b.tdiv m) = b.tdiv m := wrap_ok (by omega) (by omega)
  have w2 : W (b.tdiv m * m) = b.tdiv m * m := wrap_ok (by omega) (by omega)
  have w3 : W (b.tdiv m - 1) = b.tdiv m - 1 := wrap_ok (by omega) (by omega)
  unfold floorF
  rw [w1, w2, w3]
  have key : ∀ p : Int, p ≤ q → p * m ≤ q * m := fun p hp => Int.mul_le_mul_of_nonneg_right hp (by omega)
  split
  · rename_i c
    refine Int.le_of_not_gt fun hq => ?_
    have := key (b.tdiv m) (by omega)
    omega
  · rename_i c
    refine Int.le_of_not_gt fun hq => ?_
    have := key (b.tdiv m + 1) (by omega)
    rw [Int.add_mul] at this
    omega
theorem fits_small {n : Nat} {r : Row} (h : Fits n r) : SmallC r.c ∧ -1000000000000 ≤ r.b ∧ r.b ≤ 1000000000000 := by
  constructor
  · intro c hc; have := h.2.2 c hc; simpa [far2] using this
  · have := h.2.1; simpa [far2] using this
def Sat (x : List Int) (r : Row) : Prop := dot r.c x ≤ r.b
theorem outF_sat {x : List Int} {r : Row} (h : Sat x r) (h2 : (outF r).2 = 0) : Sat x (outF r).1 := by
  unfold outF at *
  split at h2
  · simp at h2
  · rename_i c; rw [if_neg c]; exact h
theorem makeF_sat {rows made : List Row} {n : Nat} {l : Line} {x : List Int} (hx : SmallX x) (hn : n = x.length) (hr : ∀ r ∈ rows, r.c.length ≤ n ∧ Sat x r) (hm : ∀ r ∈ made, Fits n r ∧ Sat x r) (h : (makeF rows made n l).2 = 0) : Sat x (makeF rows made n l).1 := by
  have hat : ∀ {L : List Row} {a : Int}, 0 ≤ a → a < (L.length : Int) → rowAt L a ∈ L := fun {L a} h0 h1 => by
    have h2 : a.toNat < L.length := by omega
    unfold rowAt
    rw [List.getD_eq_getElem?_getD]
    simp only [h2, List.getElem?_eq_getElem, Option.getD_some]; exact List.getElem_mem _
  revert h
  unfold makeF
  split
  · split
    · rename_i c
      obtain ⟨r1, r2⟩ := hr _ (hat c.2.1 c.2.2)
      refine outF_sat ?_
      show dot (wideL _ n) x ≤ _
      rw [wideL_eq r1, dot_append]; exact r2
    · simp
  split
  · split
    · rename_i c
      refine outF_sat ?_
      obtain ⟨y, hy, e⟩ := dot_nat n l.a.toNat (-1) x (by omega) hn
      show dot _ x ≤ 0
      rw [e]
      have := (hx y hy).1
      omega
    · simp
  split
  · split
    · rename_i c
      obtain ⟨fa, sa⟩ := hm _ (hat c.1.1 c.1.2)
      obtain ⟨fb, sb⟩ := hm _ (hat c.2.1.1 c.2.1.2)
      refine outF_sat ?_
      show dot (sumL _ _ _ _) x ≤ (rowAt made l.a).b * l.m + (rowAt made l.b).b * l.n
      rw [dot_sum _ _ _ _ _ (by rw [fa.1, fb.1])]
      have p1 := Int.mul_le_mul_of_nonneg_right sa (by omega : 0 ≤ l.m)
      have p2 := Int.mul_le_mul_of_nonneg_right sb (by omega : 0 ≤ l.n)
      omega
    · simp
  split
  · split
    · rename_i c
      obtain ⟨fa, sa⟩ := hm _ (hat c.1.1 c.1.2)
      split
      · simp
      · rename_i c2
        refine outF_sat ?_
        have hall : ∀ z ∈ (rowAt made l.a).c, z.tmod l.m = 0 := fun z hz => by
          simp only [Bool.not_eq_true, List.any_eq_false] at c2
          simpa using c2 z hz
        have e := dot_div _ l.m x hall
        exact floor_ge (fits_small fa).2 c.2.1 (by rw [← e]; exact sa)
    · simp
  · simp
theorem deriveGo_sat {rows : List Row} {n : Nat} {x : List Int} (hx : SmallX x) (hn : n = x.length) (hr : ∀ r ∈ rows, r.c.length ≤ n ∧ Sat x r) : ∀ (ls : List Line) (made : List Row), (∀ r ∈ made, Fits n r ∧ Sat x r) → ∀ r ∈ (deriveGo rows n made ls).1, Fits n r ∧ Sat x r
  | [], made, h => h
  | l :: ls, made, h => by
    unfold deriveGo
    split
    · rename_i he
      refine deriveGo_sat hx hn hr ls _ fun r hr' => ?_
      rcases List.mem_append.1 hr' with hr' | hr'
      · exact h r hr'
      · rw [List.mem_singleton.1 hr']
        exact ⟨makeF_ok (fun r h' => (h r h').1) he, makeF_sat hx hn hr h he⟩
    · simp
theorem sound_true (rows : List Row) (ls : List Line) (x : List Int) : soundF rows ls x = true := by
  unfold soundF
  split
  · rfl
  rename_i hg
  split
  · rename_i hc
    obtain ⟨c1, c2, c3⟩ := hc
    simp only [soundGuard, Bool.or_eq_true, Bool.not_eq_true', not_or, Bool.not_eq_false, Bool.not_eq_true] at hg
    obtain ⟨hfew, hx1⟩ := hg
    unfold holdsF at c1 c3
    by_cases hr : rightF rows = 0
    · rw [if_pos hr] at c1 c3
      by_cases hl : (x.length : Int) = unkF rows
      · rw [if_pos hl] at c1 c3
        by_cases hany : x.any (fun n => decide (n < 0) || decide (1000000 < n)) = true
        · rw [if_pos hany] at c1; simp at c1
        · rw [if_neg hany] at c3
          have hn : unkN rows = x.length := by unfold unkN; omega
          have h12 := unkN_le hr
          have hsx : SmallX x := by
            intro y hy
            simp only [Bool.not_eq_true, List.any_eq_false] at hany hx1
            have a := hany y hy
            have b := hx1 y hy
            simp at a b
            omega
          have hro := (rightF_ok hr).2
          have hsat : ∀ r ∈ rows, r.c.length ≤ unkN rows ∧ Sat x r := fun r hr' => by
            obtain ⟨r1, r2, r3⟩ := hro r hr'
            refine ⟨len_unkN hr', ?_⟩
            simp only [Bool.not_eq_true', List.any_eq_false] at c3
            have := c3 r hr'
            simp only [over, Bool.not_eq_true, decide_eq_false_iff_not] at this
            rw [dotGo_eq rfl rfl r.c x 0 (fun c hc => by have := r3 c hc; simp [far] at this; omega) hsx (by omega) (by omega)] at this
            show dot r.c x ≤ r.b
            omega
          have hd : ∀ r ∈ (deriveF rows ls).1, Fits (unkN rows) r ∧ Sat x r := by
            unfold deriveF
            rw [if_pos hr]
            split
            · simp
            · exact deriveGo_sat hsx hn hsat ls [] (by simp)
          rw [Bool.and_eq_true]
          constructor
          · unfold soundRows
            rw [List.all_eq_true]
            intro r hr'
            obtain ⟨f1, f2⟩ := hd r hr'
            have hlr : r.c.length = x.length := by rw [f1.1, hn]
            rw [Bool.and_eq_true]
            refine ⟨by simp; omega, ?_⟩
            unfold fulF
            rw [fulGo_eq rfl rfl r x 0 0 (by omega) (fits_small f1).1 hsx (by omega) (by omega)]
            simp only [List.drop_zero, Int.zero_add, decide_eq_true_eq]
            exact f2
          · rw [decide_eq_true_eq]
            unfold checkF
            rw [if_pos c2]
            unfold lastF
            split
            · simp
            · rename_i hlast
              exfalso
              simp only [not_or, Bool.not_eq_false] at hlast
              obtain ⟨hne, hab⟩ := hlast
              have hmem : rowAt (deriveF rows ls).1 (((deriveF rows ls).1.length : Int) - 1) ∈ (deriveF rows ls).1 := by
                have hp := List.length_pos_iff.2 hne
                have h2 : (((deriveF rows ls).1.length : Int) - 1).toNat < (deriveF rows ls).1.length := by omega
                unfold rowAt
                rw [List.getD_eq_getElem?_getD]
                simp only [h2, List.getElem?_eq_getElem, Option.getD_some]; exact List.getElem_mem _
              obtain ⟨f1, f2⟩ := hd _ hmem
              simp only [absurdF, Bool.and_eq_true, decide_eq_true_eq, Bool.not_eq_true', List.any_eq_false] at hab
              have hz : ∀ (cs ys : List Int), (∀ c ∈ cs, c = 0) → dot cs ys = 0 := by
                intro cs
                induction cs with
                | nil => intro ys _; cases ys <;> rfl
                | cons c cs ih =>
                  intro ys h
                  cases ys with
                  | nil => rfl
                  | cons y ys => rw [dot, ih ys fun z hz => h z (List.mem_cons_of_mem _ hz), h c (List.mem_cons_self ..)]; simp
              have := hz _ x fun c hc => by simpa using hab.2 c hc
              unfold Sat at f2
              omega
      · rw [if_neg hl] at c1; simp at c1
    · rw [if_neg hr] at c1; simp at c1; exact absurd c1 hr
  · rfl
end Go.PV.Ytefpjfpelicedaa
end
section
/- The plain law of ArithMore: more rows, more lines. -/
set_option linter.unusedVariables false
set_option linter.unusedSimpArgs false
set_option maxRecDepth 20000
namespace Go.PV.Ytefpjfpelicedaa
open Go Go.Proofs
theorem rowAt_get {l : List Row} {a : Int} (h0 : 0 ≤ a) (h1 : a < (l.length : Int)) : rowAt l a = l[a.toNat]'(by omega) := by
  unfold rowAt
  have h : a.toNat < l.length := by omega
  rw [List.getD_eq_getElem?_getD]
  simp only [h, List.getElem?_eq_getElem, Option.getD_some]
theorem rowAt_mem {l : List Row} {a : Int} (h0 : 0 ≤ a) (h1 : a < (l.length : Int)) : rowAt l a ∈ l := by
  rw [rowAt_get h0 h1]; exact List.getElem_mem _
theorem rowAt_map {l : List Row} {a : Int} (f : Row → Row) (h0 : 0 ≤ a) (h1 : a < (l.length : Int)) : rowAt (l.map f) a = f (rowAt l a) := by
  rw [rowAt_get h0 (by simpa using h1), rowAt_get h0 h1, List.getElem_map]
theorem rowAt_left {l m : List Row} {a : Int} (h0 : 0 ≤ a) (h1 : a < (l.length : Int)) : rowAt (l ++ m) a = rowAt l a := by
  rw [rowAt_get h0 (by simp; omega), rowAt_get h0 h1, List.getElem_append_left]
theorem rowAt_right {l m : List Row} {a : Int} {k : Nat} (hk : k = l.length) (h0 : 0 ≤ a) (h1 : a < (m.length : Int)) : rowAt (l ++ m) (a + k) = rowAt m a := by
  subst hk
  rw [rowAt_get (by omega) (by simp; omega), rowAt_get h0 h1, List.getElem_append_right (by omega)]
  congr 1
  omega
theorem wideL_wideL {l : List Int} {n m : Nat} (h : l.length ≤ n) (h2 : n ≤ m) : wideL (wideL l n) m = wideL l m := by
  rw [wideL_eq (l := wideL l n) (by rw [wide_len]; exact h2), wide_len, wideL_eq h, wideL_eq (show l.length ≤ m by omega), List.append_assoc, List.replicate_append_replicate]
  congr 2
  omega
theorem far2_zero : far2 0 = false := by decide
theorem wideL_any {l : List Int} {n : Nat} {p : Int → Bool} (h : l.length ≤ n) (hp : p 0 = false) : (wideL l n).any p = l.any p := by
  rw [wideL_eq h, List.any_append, List.any_replicate, hp]
  simp
theorem wideR_out {r : Row} {n : Nat} (h : r.c.length ≤ n) (ho : (outF r).2 = 0) : outF (wideR r n) = (wideR (outF r).1 n, 0) := by
  unfold outF at *
  split at ho
  · simp at ho
  · rename_i hc
    rw [if_neg hc]
    show (if far2 r.b || (wideL r.c n).any far2 then _ else _) = _
    rw [wideL_any h far2_zero, if_neg hc]
theorem sumL_wide {a b : List Int} {m k : Int} {n w : Nat} (ha : a.length = n) (hb : b.length = n) (h : n ≤ w) : sumL (wideL a w) (wideL b w) m k = wideL (sumL a b m k) w := by
  have hs : (sumL a b m k).length = n := by simp [sumL, ha, hb]
  rw [wideL_eq (by omega), wideL_eq (by omega), wideL_eq (by omega), hs, ha, hb]
  unfold sumL
  rw [List.zipWith_append (by rw [ha, hb])]
  congr 1
  rw [List.zipWith_replicate]
  simp
theorem map_wide {a : List Int} {w : Nat} {f : Int → Int} (h : a.length ≤ w) (h0 : f 0 = 0) : (wideL a w).map f = wideL (a.map f) w := by
  rw [wideL_eq h, wideL_eq (by simpa using h), List.map_append, List.map_replicate, h0, List.length_map]
theorem nat_wide {n w a : Nat} {v : Int} (ha : a < n) (h : n ≤ w) : (List.replicate w (0 : Int)).set a v = wideL ((List.replicate n 0).set a v) w := by
  rw [wideL_eq (by simpa using h), List.length_set, List.length_replicate]
  rw [show List.replicate w (0 : Int) = List.replicate n 0 ++ List.replicate (w - n) 0 from by rw [List.replicate_append_replicate]; congr 1; omega]
  rw [List.set_append_left _ _ (by simpa using ha)]
theorem makeF_pad {rows rows' made : List Row} {n w : Nat} {l : Line} (hw : n ≤ w) (hlen : rows.length ≤ rows'.length) (hat : ∀ a, 0 ≤ a → a < (rows.length : Int) → rowAt rows' a = rowAt rows a) (hr : ∀ r ∈ rows, r.c.length ≤ n)
    (hm : ∀ r ∈ made, Fits n r) (h : (makeF rows made n l).2 = 0) : makeF rows' (made.map fun r => wideR r w) w l = (wideR (makeF rows made n l).1 w, 0) := by
  have ml : (made.map fun r => wideR r w).length = made.length := by simp
  revert h
  unfold makeF
  rw [ml]
  split
  · split
    · rename_i c
      intro h
      rw [if_pos ⟨c.1, c.2.1, by omega⟩, hat _ c.2.1 c.2.2]
      have hl := hr _ (rowAt_mem c.2.1 c.2.2)
      rw [← wideR_out (by simp [wideR, wide_len]; exact hw) h]
      congr 1
      simp only [wideR, wideL_wideL hl hw]
    · simp
  split
  · split
    · rename_i c
      intro h
      rw [if_pos ⟨c.1, c.2.1, by omega⟩, ← wideR_out (by simpa using hw) h]
      congr 1
      simp only [wideR]
      rw [nat_wide (by omega) hw]
    · simp
  split
  · split
    · rename_i c
      intro h
      have fa := hm _ (rowAt_mem c.1.1 c.1.2)
      have fb := hm _ (rowAt_mem c.2.1.1 c.2.1.2)
      rw [rowAt_map _ c.1.1 c.1.2, rowAt_map _ c.2.1.1 c.2.1.2, ← wideR_out (by simp [sumL, fa.1, fb.1]; exact hw) h]
      congr 1
      simp only [wideR]
      rw [sumL_wide fa.1 fb.1 hw]
    · simp
  split
  · split
    · rename_i c
      have fa := hm _ (rowAt_mem c.1.1 c.1.2)
      rw [rowAt_map _ c.1.1 c.1.2]
      have hany : (wideR (rowAt made l.a) w).c.any (fun c => !decide (c.tmod l.m = 0)) = (rowAt made l.a).c.any (fun c => !decide (c.tmod l.m = 0)) := wideL_any (by rw [fa.1]; exact hw) (by simp)
      rw [hany]
      split
      · simp
      · intro h
        rw [← wideR_out (by simp [fa.1]; exact hw) h]
        congr 1
        simp only [wideR]
        rw [map_wide (by rw [fa.1]; exact hw) (by simp)]
    · simp
  · simp
theorem deriveGo_pad {rows rows' : List Row} {n w : Nat} (hw : n ≤ w) (hlen : rows.length ≤ rows'.length) (hat : ∀ a, 0 ≤ a → a < (rows.length : Int) → rowAt rows' a = rowAt rows a) (hr : ∀ r ∈ rows, r.c.length ≤ n) :
    ∀ (ls : List Line) (made : List Row), (∀ r ∈ made, Fits n r) → (deriveGo rows n made ls).2 = 0 → deriveGo rows' w (made.map fun r => wideR r w) ls = ((deriveGo rows n made ls).1.map fun r => wideR r w, 0)
  | [], made, _, _ => rfl
  | l :: ls, made, hm, h => by
    rw [deriveGo] at h ⊢
    rw [deriveGo]
    split at h
    · rename_i he
      rw [makeF_pad hw hlen hat hr hm he, if_pos rfl, if_pos he]
      have hf : ∀ r ∈ made ++ [(makeF rows made n l).1], Fits n r := fun x hx => by
        rcases List.mem_append.1 hx with hx | hx
        · exact hm x hx
        · rw [List.mem_singleton.1 hx]; exact makeF_ok hm he
      have := deriveGo_pad hw hlen hat hr ls _ hf h
      rw [List.map_append] at this
      exact this
    · rename_i he
      exact absurd h he
theorem absurd_wide {r : Row} {w : Nat} (h : r.c.length ≤ w) : absurdF (wideR r w) = absurdF r := by
  unfold absurdF
  show (decide (r.b < 0) && !((wideL r.c w).any _)) = _
  rw [wideL_any h (by simp)]
theorem deriveGo_count {rows : List Row} {n : Nat} : ∀ (ls : List Line) (made : List Row), (deriveGo rows n made ls).2 = 0 → (deriveGo rows n made ls).1.length = made.length + ls.length
  | [], made, _ => rfl
  | l :: ls, made, h => by
    rw [deriveGo] at h ⊢
    split at h
    · rename_i he
      rw [if_pos he, deriveGo_count ls _ h]
      simp; omega
    · rename_i he
      exact absurd h he
theorem lastF_zero {made : List Row} (h : lastF made = 0) : made ≠ [] ∧ absurdF (rowAt made ((made.length : Int) - 1)) = true := by
  unfold lastF at h
  split at h
  · omega
  · rename_i hc
    simp only [not_or] at hc
    exact ⟨hc.1, by simpa using hc.2⟩
theorem lastF_of {made : List Row} (h1 : made ≠ []) (h2 : absurdF (rowAt made ((made.length : Int) - 1)) = true) : lastF made = 0 := by
  unfold lastF
  rw [if_neg]
  simp [h1, h2]
theorem checkF_zero {rows : List Row} {ls : List Line} (h : checkF rows ls = 0) : rightF rows = 0 ∧ ls.length ≤ 5000 ∧ (deriveGo rows (unkN rows) [] ls).2 = 0 ∧ lastF (deriveGo rows (unkN rows) [] ls).1 = 0 ∧ deriveF rows ls = deriveGo rows (unkN rows) [] ls := by
  unfold checkF at h
  split at h
  · rename_i he
    unfold deriveF at h he
    by_cases hr : rightF rows = 0
    · rw [if_pos hr] at h he
      by_cases hl : 5000 < ls.length
      · rw [if_pos hl] at he; simp at he
      · rw [if_neg hl] at h he
        exact ⟨hr, by omega, he, h, by unfold deriveF; rw [if_pos hr, if_neg hl]⟩
    · rw [if_neg hr] at he
      exact absurd he hr
  · rename_i he
    exact absurd h he
theorem checkF_of {rows : List Row} {ls : List Line} (hr : rightF rows = 0) (hl : ls.length ≤ 5000) (h1 : (deriveGo rows (unkN rows) [] ls).2 = 0) (h2 : lastF (deriveGo rows (unkN rows) [] ls).1 = 0) : checkF rows ls = 0 := by
  have e : deriveF rows ls = deriveGo rows (unkN rows) [] ls := by unfold deriveF; rw [if_pos hr, if_neg (by omega)]
  unfold checkF
  rw [e, if_pos h1, h2]
theorem rightGo_append {a b : List Row} (h : rightGo a = 0) : rightGo (a ++ b) = rightGo b := by
  induction a with
  | nil => rfl
  | cons r a ih =>
    rw [List.cons_append]
    simp only [rightGo] at h ⊢
    split at h; · omega
    rename_i h1
    rw [if_neg h1]
    split at h; · omega
    rename_i h2
    rw [if_neg h2]
    exact ih h
theorem unkGo_append (a b : List Row) (m : Int) : unkGo (a ++ b) m = unkGo b (unkGo a m) := by
  induction a generalizing m with
  | nil => rfl
  | cons r a ih => simp only [List.cons_append, unkGo, ih]
theorem unkN_append (a b : List Row) : unkN a ≤ unkN (a ++ b) := by
  unfold unkN unkF
  rw [unkGo_append]
  have := (@unkGo_le b (unkGo a 0)).1
  omega
/-- A certificate stays one with further rows, or these are not right. -/
theorem more_rows {rows further : List Row} {a : List Line} (h : checkF rows a = 0) (hlen : rows.length + further.length ≤ 100) (hne : checkF (rows ++ further) a ≠ 0) : checkF (rows ++ further) a = (deriveF further []).2 := by
  obtain ⟨h1, h2, h3, h4, _⟩ := checkF_zero h
  have hrows := rightF_ok h1
  have hg : rightF (rows ++ further) = rightF further := by
    unfold rightF at h1 ⊢
    rw [List.length_append, if_neg (by omega), if_neg (by omega)]
    rw [if_neg (by omega)] at h1
    exact rightGo_append h1
  by_cases hf : rightF further = 0
  · exfalso
    have hrr : rightF (rows ++ further) = 0 := hg.trans hf
    have hp := deriveGo_pad (rows := rows) (rows' := rows ++ further) (n := unkN rows) (w := unkN (rows ++ further)) (unkN_append _ _) (by simp) (fun a h0 h1 => rowAt_left h0 h1) (fun r hr => len_unkN hr) a [] (by simp) h3
    rw [List.map_nil] at hp
    apply hne
    refine checkF_of hrr h2 (by rw [hp]) ?_
    rw [hp]
    obtain ⟨l1, l2⟩ := lastF_zero h4
    have hfit := deriveGo_ok (rows := rows) (n := unkN rows) a [] (by simp)
    generalize (deriveGo rows (unkN rows) [] a).1 = D at *
    have hD : 0 < D.length := List.length_pos_iff.2 l1
    refine lastF_of (by simpa using l1) ?_
    rw [List.length_map, rowAt_map _ (by omega) (by omega), absurd_wide, l2]
    have := (hfit _ (rowAt_mem (a := (D.length : Int) - 1) (by omega) (by omega))).1
    rw [this]; exact unkN_append _ _
  · have e1 : (deriveF further []).2 = rightF further := by unfold deriveF; rw [if_neg hf]
    rw [e1, ← hg]
    have hn : ¬ rightF (rows ++ further) = 0 := by rw [hg]; exact hf
    have e2 : deriveF (rows ++ further) a = ([], rightF (rows ++ further)) := by unfold deriveF; rw [if_neg hn]
    unfold checkF
    rw [e2, if_neg hn]
/-- A line behind so many others. -/
def shiftW (k : Nat) (x : Line) : Line := if x.k = 3 then ⟨x.k, W (x.a + k), W (x.b + k), x.m, x.n⟩ else if x.k = 4 then ⟨x.k, W (x.a + k), x.b, x.m, x.n⟩ else x
theorem makeF_shift {rows D made : List Row} {n k : Nat} {l : Line} (hk : k = D.length) (hb : D.length + made.length ≤ 100000) (h : (makeF rows made n l).2 = 0) : makeF rows (D ++ made) n (shiftW k l) = makeF rows made n l := by
  subst hk
  have wk : ∀ a : Int, 0 ≤ a → a < (made.length : Int) → W (a + (D.length : Int)) = a + D.length := fun a h0 h1 => wrap_ok (by omega) (by omega)
  revert h
  by_cases h3 : l.k = 3
  · have e : shiftW D.length l = ⟨l.k, W (l.a + D.length), W (l.b + D.length), l.m, l.n⟩ := by unfold shiftW; rw [if_pos h3]
    rw [e]
    unfold makeF
    simp only [h3, show ¬ (3 : Int) = 1 from by decide, show ¬ (3 : Int) = 2 from by decide, if_true, if_false]
    by_cases c : (0 ≤ l.a ∧ l.a < (made.length : Int)) ∧ (0 ≤ l.b ∧ l.b < (made.length : Int)) ∧ (1 ≤ l.m ∧ l.m ≤ 1000000) ∧ 1 ≤ l.n ∧ l.n ≤ 1000000
    · rw [if_pos c]
      intro h
      have wa := wk l.a c.1.1 c.1.2
      have wb := wk l.b c.2.1.1 c.2.1.2
      simp only [wa, wb]
      rw [if_pos (by rw [List.length_append]; omega), rowAt_right rfl c.1.1 c.1.2, rowAt_right rfl c.2.1.1 c.2.1.2]
    · rw [if_neg c]; simp
  by_cases h4 : l.k = 4
  · have e : shiftW D.length l = ⟨l.k, W (l.a + D.length), l.b, l.m, l.n⟩ := by unfold shiftW; rw [if_neg h3, if_pos h4]
    rw [e]
    unfold makeF
    simp only [h4, show ¬ (4 : Int) = 1 from by decide, show ¬ (4 : Int) = 2 from by decide, show ¬ (4 : Int) = 3 from by decide, if_true, if_false]
    by_cases c : (0 ≤ l.a ∧ l.a < (made.length : Int)) ∧ (1 ≤ l.m ∧ l.m ≤ 1000000) ∧ l.b = 0 ∧ l.n = 0
    · rw [if_pos c]
      have wa := wk l.a c.1.1 c.1.2
      simp only [wa]
      intro _
      rw [if_pos (by rw [List.length_append]; omega), rowAt_right rfl c.1.1 c.1.2]
    · rw [if_neg c]; simp
  · have e : shiftW D.length l = l := by unfold shiftW; rw [if_neg h3, if_neg h4]
    rw [e]
    intro _
    unfold makeF
    simp only [h3, h4, if_false]
theorem deriveGo_shift {rows D : List Row} {n k : Nat} (hk : k = D.length) : ∀ (ls : List Line) (made : List Row), D.length + made.length + ls.length ≤ 100000 → (deriveGo rows n made ls).2 = 0 → deriveGo rows n (D ++ made) (ls.map (shiftW k)) = (D ++ (deriveGo rows n made ls).1, 0)
  | [], made, _, _ => rfl
  | l :: ls, made, hb, h => by
    simp only [List.length_cons] at hb
    rw [deriveGo] at h ⊢
    split at h
    · rename_i he
      rw [List.map_cons, deriveGo, makeF_shift hk (by omega) he, if_pos he, if_pos he, List.append_assoc]
      exact deriveGo_shift hk ls _ (by simp; omega) h
    · rename_i he
      exact absurd h he
theorem deriveGo_append {rows : List Row} {n : Nat} : ∀ (l1 l2 : List Line) (made : List Row), (deriveGo rows n made l1).2 = 0 → deriveGo rows n made (l1 ++ l2) = deriveGo rows n (deriveGo rows n made l1).1 l2
  | [], l2, made, _ => rfl
  | l :: l1, l2, made, h => by
    rw [List.cons_append, deriveGo]
    rw [deriveGo] at h
    split at h
    · rename_i he
      rw [if_pos he, deriveGo_append l1 l2 _ h, deriveGo, if_pos he]
    · rename_i he
      exact absurd h he
/-- Two certificates, one behind the other, and the sum of their last lines. -/
def bothL (a b : List Line) : List Line := (a ++ b.map (shiftW a.length)) ++ [⟨3, (a.length : Int) - 1, (a.length : Int) + b.length - 1, 1, 1⟩]
theorem absurd_out {r : Row} (h : absurdF r = true) : r.b < 0 ∧ ∀ c ∈ r.c, c = 0 := by
  simp only [absurdF, Bool.and_eq_true, decide_eq_true_eq, Bool.not_eq_true', List.any_eq_false] at h
  exact ⟨h.1, fun c hc => by simpa using h.2 c hc⟩
theorem sum_zero : ∀ {a b : List Int} {m k : Int}, (∀ c ∈ a, c = 0) → (∀ c ∈ b, c = 0) → ∀ c ∈ sumL a b m k, c = 0
  | [], _, _, _, _, _, c, h => by simp [sumL] at h
  | _ :: _, [], _, _, _, _, c, h => by simp [sumL] at h
  | x :: a, y :: b, m, k, ha, hb, c, h => by
    simp only [sumL, List.zipWith_cons_cons, List.mem_cons] at h
    rcases h with h | h
    · rw [h, ha x (List.mem_cons_self ..), hb y (List.mem_cons_self ..)]; simp
    · exact sum_zero (fun c hc => ha c (List.mem_cons_of_mem _ hc)) (fun c hc => hb c (List.mem_cons_of_mem _ hc)) c h
theorem more_lines {rows : List Row} {a b : List Line} (ha : checkF rows a = 0) (hb : checkF rows b = 0) (la : a.length ≤ 200) (lb : b.length ≤ 200)
    (hs : -1000000000000 ≤ (rowAt (deriveF rows a).1 (((deriveF rows a).1.length : Int) - 1)).b + (rowAt (deriveF rows b).1 (((deriveF rows b).1.length : Int) - 1)).b) : checkF rows (bothL a b) = 0 := by
  obtain ⟨a1, a2, a3, a4, ea⟩ := checkF_zero ha
  obtain ⟨b1, b2, b3, b4, eb⟩ := checkF_zero hb
  rw [ea, eb] at hs
  obtain ⟨c1, c2⟩ := lastF_zero a4
  obtain ⟨d1, d2⟩ := lastF_zero b4
  have ca := deriveGo_count a [] a3
  have cb := deriveGo_count b [] b3
  have hsh := deriveGo_shift (rows := rows) (D := (deriveGo rows (unkN rows) [] a).1) (n := unkN rows) (k := a.length) (by simpa using ca.symm) b [] (by simp at ca ⊢; omega) b3
  generalize (deriveGo rows (unkN rows) [] b).1 = B at *
  have e1 : deriveGo rows (unkN rows) [] (a ++ b.map (shiftW a.length)) = ((deriveGo rows (unkN rows) [] a).1 ++ B, 0) := by
    rw [deriveGo_append a _ [] a3]
    rw [List.append_nil] at hsh
    exact hsh
  generalize (deriveGo rows (unkN rows) [] a).1 = A at *
  simp only [List.length_nil, Nat.zero_add] at ca cb
  have pA : 0 < A.length := List.length_pos_iff.2 c1
  have pB : 0 < B.length := List.length_pos_iff.2 d1
  obtain ⟨s1, s2⟩ := absurd_out c2
  obtain ⟨t1, t2⟩ := absurd_out d2
  have x1 : rowAt (A ++ B) ((a.length : Int) - 1) = rowAt A ((A.length : Int) - 1) := by
    rw [← ca]; exact rowAt_left (by omega) (by omega)
  have x2 : rowAt (A ++ B) ((a.length : Int) + b.length - 1) = rowAt B ((B.length : Int) - 1) := by
    rw [show (a.length : Int) + b.length - 1 = ((B.length : Int) - 1) + A.length from by omega]
    exact rowAt_right rfl (by omega) (by omega)
  have hm : makeF rows (A ++ B) (unkN rows) ⟨3, (a.length : Int) - 1, (a.length : Int) + b.length - 1, 1, 1⟩ = (⟨sumL (rowAt A ((A.length : Int) - 1)).c (rowAt B ((B.length : Int) - 1)).c 1 1, (rowAt A ((A.length : Int) - 1)).b * 1 + (rowAt B ((B.length : Int) - 1)).b * 1⟩, 0) := by
    unfold makeF
    simp only [show ¬ (3 : Int) = 1 from by decide, show ¬ (3 : Int) = 2 from by decide, if_true, if_false]
    rw [if_pos (by simp only [List.length_append]; omega)]
    simp only [x1, x2]
    unfold outF
    rw [if_neg]
    have z := sum_zero (m := 1) (k := 1) s2 t2
    simp only [Bool.or_eq_true, not_or, Bool.not_eq_true, List.any_eq_false]
    refine ⟨?_, fun c hc => by rw [z c hc, far2_zero]⟩
    unfold far2
    simp <;> omega
  have e2 : deriveGo rows (unkN rows) [] (bothL a b) = ((A ++ B) ++ [⟨sumL (rowAt A ((A.length : Int) - 1)).c (rowAt B ((B.length : Int) - 1)).c 1 1, (rowAt A ((A.length : Int) - 1)).b * 1 + (rowAt B ((B.length : Int) - 1)).b * 1⟩], 0) := by
    unfold bothL
    rw [deriveGo_append _ _ [] (by rw [e1]), e1]
    simp only [deriveGo]
    rw [hm, if_pos rfl]
  refine checkF_of a1 (by unfold bothL; simp; omega) (by rw [e2]) ?_
  rw [e2]
  refine lastF_of (by simp) ?_
  have e3 : ((((A ++ B) ++ [(⟨sumL (rowAt A ((A.length : Int) - 1)).c (rowAt B ((B.length : Int) - 1)).c 1 1, (rowAt A ((A.length : Int) - 1)).b * 1 + (rowAt B ((B.length : Int) - 1)).b * 1⟩ : Row)]).length : Int) - 1) = 0 + ((A ++ B).length : Int) := by simp; omega
  rw [e3, rowAt_right rfl (by omega) (by simp)]
  show absurdF (rowAt [_] 0) = true
  rw [show ∀ r : Row, rowAt [r] 0 = r from fun _ => rfl]
  simp only [absurdF, Bool.and_eq_true, decide_eq_true_eq, Bool.not_eq_true', List.any_eq_false]
  refine ⟨by omega, fun c hc => ?_⟩
  rw [sum_zero s2 t2 c hc]; simp
end Go.PV.Ytefpjfpelicedaa
end
section
/- Calls and what stands behind code, kept asg claims on code: there a ghost may step in. -/
set_option linter.unusedVariables false
set_option linter.unusedSimpArgs false
namespace Go.PV
open Go
theorem vcalls_introA {P : Program} {f N : Nat} {rs : List ResultVar} {a : ACode} (hd : FnD P f N rs a) {xs : List VV} {H : AH} {K : VE → AH → Prop} (hN : xs.length ≤ N)
    (h : ACx ⟨P, N, none⟩ a (retPost P rs K) ⟨fun i => xs.getD i undefV, []⟩ H) : VCalls P f xs H K := by
  obtain ⟨fn, c, hf, hb, rfl, rfl, rfl⟩ := hd
  intro S w args hs hx
  refine callsIn_of_wp hf hb (show (P.funcs[f]?).isSome = true by rw [hf]; rfl) ?_ rfl
  have hw := h c rfl S w _ hs (frame0 hx hN)
  refine wpIn_mono hw ?_
  rintro e a' w' ⟨h0, S', H', A', h1, h2, h3, h4⟩
  have fin : A'.d = [] → (∃ x H'' x', resV P fn.results.toList A' H' = some x ∧ GhV H' x H'' x' ∧ K (.ret x') H'') → a'.defers = [] ∧ ∃ v, (results fn a'.tmps).run P w' = .ok v w' ∧ RQ K S H w (.returned v) w' := by
    rintro hd ⟨x, H'', x', g1, g2, g3⟩
    obtain ⟨u, q1, q2⟩ := resV_sound h2 h3 g1
    obtain ⟨S'', p1, p2, p3⟩ := g2 S' w' u h2 q2
    exact ⟨h3.2.1.trans hd, u, q1, S'', H'', x', h1.trans p1, p2, p3, g3⟩
  cases e with
  | normal => exact fin h4.1 h4.2
  | ret => exact fin h4.1 h4.2
  | panic ch =>
    obtain ⟨g1, H'', g2, g3⟩ := h4
    exact ⟨h3.2.1.trans g1, S', H'', h1.trans (h2.sub g2).2, (h2.sub g2).1, g3⟩
  | exit id => exact h4.elim
  | goto l => exact h4.elim
  | outgrown => exact absurd rfl h0
theorem compileD_seq {P : Program} {ops : Array Oper} {a b : ACode} : compileD P ops ≠ .seq a b := by
  unfold compileD
  dsimp only
  split
  · split
    · intro h; cases h
    · intro h; cases h
  · intro h; cases h
theorem acx_seqK {cx : Cx} {a b : ACode} {Q : APost} {K : AF → AH → Prop} {A : AF} {H : AH} (hQ : noGoto Q) (hK : ∀ A H, K A H → ACx cx b Q A H) (h : vc cx a (thenA K Q) A H) : ACx cx (.seq a b) Q A H := by
  intro c hc
  cases c with
  | seq x y =>
    simp only [compile] at hc
    split at hc
    · cases hc
    · injection hc with h1 h2
      subst h1
      refine ac_seq ((vc_sound x (thenA K Q) A H (fun l A H => hQ l A H) h).mono ?_)
      intro e A' H' hq
      cases e with
      | normal => exact hK A' H' hq y h2
      | _ => exact hq
  | region id ops draw =>
    simp only [compile] at hc
    split at hc
    · exact absurd hc compileD_seq
    · split at hc <;> cases hc
  | _ => simp only [compile] at hc; cases hc
/-- One after the other. -/
def seqs : List ACode → ACode → ACode
  | [], b => b
  | a :: l, b => .seq a (seqs l b)
def vcs (cx : Cx) (K : AF → AH → Prop) (Q : APost) : List ACode → AF → AH → Prop
  | [] => K
  | a :: l => vc cx a (thenA (vcs cx K Q l) Q)
theorem acx_seqs {cx : Cx} {b : ACode} {Q : APost} {K : AF → AH → Prop} (hQ : noGoto Q) (hK : ∀ A H, K A H → ACx cx b Q A H) : ∀ (l : List ACode) (A : AF) (H : AH), vcs cx K Q l A H → ACx cx (seqs l b) Q A H
  | [], A, H, h => hK A H h
  | a :: l, A, H, h => acx_seqK hQ (fun A H h => acx_seqs hQ hK l A H h) h
/-- What no step opens. -/
structure Hold (p : Prop) : Prop where
  out : p
end Go.PV
end
section
/- Code with names for what stands behind the appends: made by cut4.py. -/
set_option maxRecDepth 100000
namespace Go.PV.Ytefpjfpelicedaa
open Go Go.Proofs
def d4_4 : ACode := (.seq (.reg [⟨some 173, (.move (.tmp 9)), none⟩,
  ⟨some 174, (.move (.tmp 17)), none⟩,
  ⟨some 175, (.call { callee := (.value (.func 13)), args := #[(.tmp 173), (.tmp 174)], argTypes := #[31, 28] }), none⟩,
  ⟨some 176, (.binOp .eql 25 (.tmp 175) (.const (.int .i64 0)) 25), none⟩,
  ⟨some 177, (.move (.tmp 176)), none⟩,
  ⟨some 178, (.call { callee := (.value (.func 8)), args := #[], argTypes := #[] }), some (177, true)⟩,
  ⟨some 179, (.pick (.tmp 177) (.tmp 178) (.const (.bool false))), none⟩,
  ⟨some 8, (.assign (.tmp 179)), none⟩])
 .ret)
def a4_3 : ACode := (.reg [⟨some 163, (.move (.tmp 17)), none⟩,
  ⟨some 164, (.move (.tmp 2)), none⟩,
  ⟨some 165, (.call { callee := (.builtin .len), args := #[(.tmp 164)], argTypes := #[35] }), none⟩,
  ⟨some 166, (.binOp .sub 3 (.tmp 165) (.const (.int .i64 1)) 3), none⟩,
  ⟨some 167, (.move (.tmp 17)), none⟩,
  ⟨some 168, (.call { callee := (.builtin .len), args := #[(.tmp 167)], argTypes := #[28] }), none⟩,
  ⟨some 169, (.binOp .sub 3 (.tmp 168) (.const (.int .i64 1)) 3), none⟩,
  ⟨some 170, (.build 52 #[(0, (.const (.int .i64 3))), (1, (.tmp 166)), (2, (.tmp 169)), (3, (.const (.int .i64 1))), (4, (.const (.int .i64 1)))]), none⟩,
  ⟨some 171, (.buildSlice 28 1 #[(0, (.tmp 170))]), none⟩,
  ⟨some 172, (.call { callee := (.builtin .append), args := #[(.tmp 163), (.tmp 171)], argTypes := #[28, 28] }), none⟩,
  ⟨some 17, (.assign (.tmp 172)), none⟩])
def d4_3 : ACode := (.seq a4_3
 d4_4)
def b4_1 : ACode := (.seq (.reg [⟨some 131, (.binOp .lss 3 (.tmp 130) (.tmp 129) 3), none⟩])
 (.seq (.cond (.tmp 131) .skip (.exit 0))
 (.seq (.block 1 (.seq (.reg [⟨some 132, (.indexAddr 28 (.tmp 128) (.tmp 130)), none⟩,
  ⟨some 133, (.load 52 (.tmp 132)), none⟩,
  ⟨some 19, (.alloc 52), none⟩,
  ⟨none, (.store 52 (.tmp 19) (.tmp 133)), none⟩])
 (.seq (.seq (.reg [⟨some 134, (.fieldAddr 52 (.tmp 19) 0), none⟩,
  ⟨some 135, (.load 3 (.tmp 134)), none⟩])
 (.block 2 (.seq (.reg [⟨some 137, (.binOp .eql 3 (.tmp 135) (.const (.int .i64 3)) 3), none⟩,
  ⟨some 136, (.assign (.tmp 137)), none⟩])
 (.cond (.tmp 136) (.reg [⟨some 138, (.fieldAddr 52 (.tmp 19) 1), none⟩,
  ⟨some 139, (.load 3 (.tmp 138)), none⟩,
  ⟨some 140, (.move (.tmp 2)), none⟩,
  ⟨some 141, (.call { callee := (.builtin .len), args := #[(.tmp 140)], argTypes := #[35] }), none⟩,
  ⟨some 142, (.binOp .add 3 (.tmp 139) (.tmp 141) 3), none⟩,
  ⟨some 143, (.fieldAddr 52 (.tmp 19) 2), none⟩,
  ⟨some 144, (.load 3 (.tmp 143)), none⟩,
  ⟨some 145, (.move (.tmp 2)), none⟩,
  ⟨some 146, (.call { callee := (.builtin .len), args := #[(.tmp 145)], argTypes := #[35] }), none⟩,
  ⟨some 147, (.binOp .add 3 (.tmp 144) (.tmp 146) 3), none⟩,
  ⟨some 148, (.fieldAddr 52 (.tmp 19) 1), none⟩,
  ⟨none, (.store 3 (.tmp 148) (.tmp 142)), none⟩,
  ⟨some 149, (.fieldAddr 52 (.tmp 19) 2), none⟩,
  ⟨none, (.store 3 (.tmp 149) (.tmp 147)), none⟩]) (.seq (.reg [⟨some 151, (.binOp .eql 3 (.tmp 135) (.const (.int .i64 4)) 3), none⟩,
  ⟨some 150, (.assign (.tmp 151)), none⟩])
 (.cond (.tmp 150) (.reg [⟨some 152, (.fieldAddr 52 (.tmp 19) 1), none⟩,
  ⟨some 153, (.load 3 (.tmp 152)), none⟩,
  ⟨some 154, (.move (.tmp 2)), none⟩,
  ⟨some 155, (.call { callee := (.builtin .len), args := #[(.tmp 154)], argTypes := #[35] }), none⟩,
  ⟨some 156, (.binOp .add 3 (.tmp 153) (.tmp 155) 3), none⟩,
  ⟨some 157, (.fieldAddr 52 (.tmp 19) 1), none⟩,
  ⟨none, (.store 3 (.tmp 157) (.tmp 156)), none⟩]) .skip))))))
 (.reg [⟨some 158, (.move (.tmp 17)), none⟩,
  ⟨some 159, (.load 52 (.tmp 19)), none⟩,
  ⟨some 160, (.buildSlice 28 1 #[(0, (.tmp 159))]), none⟩,
  ⟨some 161, (.call { callee := (.builtin .append), args := #[(.tmp 158), (.tmp 160)], argTypes := #[28, 28] }), none⟩,
  ⟨some 17, (.assign (.tmp 161)), none⟩]))))
 (.reg [⟨some 162, (.binOp .add 3 (.tmp 130) (.const (.int .i64 1)) 3), none⟩,
  ⟨some 130, (.move (.tmp 162)), none⟩]))))
def a4_2 : ACode := (.reg [⟨some 125, (.move (.tmp 2)), none⟩,
  ⟨some 126, (.call { callee := (.value (.func 21)), args := #[(.tmp 125)], argTypes := #[35] }), none⟩,
  ⟨some 17, (.assign (.tmp 126)), none⟩])
def d4_2 : ACode := (.seq a4_2
 (.seqL (.seq (.reg [⟨some 127, (.move (.tmp 3)), none⟩,
  ⟨some 128, (.call { callee := (.value (.func 21)), args := #[(.tmp 127)], argTypes := #[35] }), none⟩,
  ⟨some 129, (.call { callee := (.builtin .len), args := #[(.tmp 128)], argTypes := #[28] }), none⟩,
  ⟨some 130, (.move (.const (.int .i64 0))), none⟩])
 (.block 0 (.loop b4_1)))
 d4_3))
def a4_1 : ACode := (.seq (.reg [⟨some 51, (.move (.tmp 9)), none⟩,
  ⟨some 52, (.move (.tmp 2)), none⟩,
  ⟨some 53, (.call { callee := (.value (.func 21)), args := #[(.tmp 52)], argTypes := #[35] }), none⟩,
  ⟨some 54, (.call { callee := (.value (.func 13)), args := #[(.tmp 51), (.tmp 53)], argTypes := #[31, 28] }), none⟩,
  ⟨some 10, (.assign (.tmp 54)), none⟩])
 (.seq (.reg [⟨some 55, (.move (.tmp 10)), none⟩,
  ⟨some 56, (.binOp .neq 25 (.tmp 55) (.const (.int .i64 0)) 25), none⟩])
 (.cond (.tmp 56) (.seq (.reg [⟨some 58, (.move (.tmp 1)), none⟩,
  ⟨some 59, (.call { callee := (.value (.func 12)), args := #[(.tmp 58)], argTypes := #[22] }), none⟩,
  ⟨some 60, (.call { callee := (.value (.func 22)), args := #[(.tmp 59), (.const (.slice none 0 0))], argTypes := #[31, 28] }), none⟩,
  ⟨some 57, (.move (.tmp 60)), none⟩,
  ⟨some 61, (.extract (.tmp 57) 0), none⟩,
  ⟨some 62, (.extract (.tmp 57) 1), none⟩,
  ⟨some 11, (.assign (.tmp 61)), none⟩,
  ⟨some 12, (.assign (.tmp 62)), none⟩])
 (.seq (.reg [⟨some 63, (.move (.tmp 10)), none⟩,
  ⟨some 64, (.move (.tmp 12)), none⟩,
  ⟨some 65, (.binOp .eql 25 (.tmp 63) (.tmp 64) 25), none⟩,
  ⟨some 66, (.move (.tmp 65)), none⟩,
  ⟨some 67, (.call { callee := (.value (.func 8)), args := #[], argTypes := #[] }), some (66, true)⟩,
  ⟨some 68, (.pick (.tmp 66) (.tmp 67) (.const (.bool false))), none⟩,
  ⟨some 8, (.assign (.tmp 68)), none⟩])
 .ret)) .skip)))
def d4_1 : ACode := (.seq a4_1
 (.seq (.reg [⟨some 70, (.move (.tmp 9)), none⟩,
  ⟨some 71, (.move (.tmp 2)), none⟩,
  ⟨some 72, (.call { callee := (.value (.func 21)), args := #[(.tmp 71)], argTypes := #[35] }), none⟩,
  ⟨some 73, (.call { callee := (.value (.func 22)), args := #[(.tmp 70), (.tmp 72)], argTypes := #[31, 28] }), none⟩,
  ⟨some 69, (.move (.tmp 73)), none⟩,
  ⟨some 74, (.extract (.tmp 69) 0), none⟩,
  ⟨some 75, (.extract (.tmp 69) 1), none⟩,
  ⟨some 13, (.assign (.tmp 74)), none⟩,
  ⟨some 14, (.assign (.tmp 75)), none⟩])
 (.seq (.reg [⟨some 77, (.move (.tmp 9)), none⟩,
  ⟨some 78, (.move (.tmp 3)), none⟩,
  ⟨some 79, (.call { callee := (.value (.func 21)), args := #[(.tmp 78)], argTypes := #[35] }), none⟩,
  ⟨some 80, (.call { callee := (.value (.func 22)), args := #[(.tmp 77), (.tmp 79)], argTypes := #[31, 28] }), none⟩,
  ⟨some 76, (.move (.tmp 80)), none⟩,
  ⟨some 81, (.extract (.tmp 76) 0), none⟩,
  ⟨some 82, (.extract (.tmp 76) 1), none⟩,
  ⟨some 15, (.assign (.tmp 81)), none⟩,
  ⟨some 16, (.assign (.tmp 82)), none⟩])
 (.seq (.seq (.dreg (.tk ⟨some 83, (.move (.tmp 14)), none⟩
  (.tk ⟨some 84, (.binOp .neq 25 (.tmp 83) (.const (.int .i64 0)) 25), none⟩
  (.tk ⟨some 85, (.move (.tmp 84)), none⟩
  (.tk ⟨some 86, (.move (.tmp 16)), some (85, false)⟩
  (.tk ⟨some 87, (.binOp .neq 25 (.tmp 86) (.const (.int .i64 0)) 25), some (85, false)⟩
  (.tk ⟨some 88, (.pick (.tmp 85) (.const (.bool true)) (.tmp 87)), none⟩
  (.tk ⟨some 89, (.move (.tmp 88)), none⟩
  (.tk ⟨some 90, (.move (.tmp 9)), some (89, false)⟩
  (.tk ⟨some 91, (.move (.tmp 3)), some (89, false)⟩
  (.one ⟨some 92, (.call { callee := (.value (.func 21)), args := #[(.tmp 91)], argTypes := #[35] }), some (89, false)⟩
  (.one ⟨some 93, (.call { callee := (.value (.func 13)), args := #[(.tmp 90), (.tmp 92)], argTypes := #[31, 28] }), some (89, false)⟩
  (.tk ⟨some 94, (.binOp .neq 25 (.tmp 93) (.const (.int .i64 0)) 25), some (89, false)⟩
  (.tk ⟨some 95, (.pick (.tmp 89) (.const (.bool true)) (.tmp 94)), none⟩
  (.tk ⟨some 96, (.move (.tmp 95)), none⟩
  (.tk ⟨some 97, (.move (.tmp 13)), some (96, false)⟩
  (.tk ⟨some 98, (.call { callee := (.builtin .len), args := #[(.tmp 97)], argTypes := #[31] }), some (96, false)⟩
  (.tk ⟨some 99, (.binOp .eql 3 (.tmp 98) (.const (.int .i64 0)) 3), some (96, false)⟩
  (.tk ⟨some 100, (.pick (.tmp 96) (.const (.bool true)) (.tmp 99)), none⟩
  (.tk ⟨some 101, (.move (.tmp 100)), none⟩
  (.tk ⟨some 102, (.move (.tmp 15)), some (101, false)⟩
  (.tk ⟨some 103, (.call { callee := (.builtin .len), args := #[(.tmp 102)], argTypes := #[31] }), some (101, false)⟩
  (.tk ⟨some 104, (.binOp .eql 3 (.tmp 103) (.const (.int .i64 0)) 3), some (101, false)⟩
  (.tk ⟨some 105, (.pick (.tmp 101) (.const (.bool true)) (.tmp 104)), none⟩
  (.tk ⟨some 106, (.move (.tmp 105)), none⟩
  (.tk ⟨some 107, (.move (.tmp 13)), some (106, false)⟩
  (.tk ⟨some 108, (.move (.tmp 13)), some (106, false)⟩
  (.tk ⟨some 109, (.call { callee := (.builtin .len), args := #[(.tmp 108)], argTypes := #[31] }), some (106, false)⟩
  (.tk ⟨some 110, (.binOp .sub 3 (.tmp 109) (.const (.int .i64 1)) 3), some (106, false)⟩
  (.tk ⟨some 111, (.indexAddr 31 (.tmp 107) (.tmp 110)), some (106, false)⟩
  (.tk ⟨some 112, (.fieldAddr 50 (.tmp 111) 1), some (106, false)⟩
  (.tk ⟨some 113, (.load 3 (.tmp 112)), some (106, false)⟩
  (.tk ⟨some 114, (.move (.tmp 15)), some (106, false)⟩
  (.tk ⟨some 115, (.move (.tmp 15)), some (106, false)⟩
  (.tk ⟨some 116, (.call { callee := (.builtin .len), args := #[(.tmp 115)], argTypes := #[31] }), some (106, false)⟩
  (.tk ⟨some 117, (.binOp .sub 3 (.tmp 116) (.const (.int .i64 1)) 3), some (106, false)⟩
  (.tk ⟨some 118, (.indexAddr 31 (.tmp 114) (.tmp 117)), some (106, false)⟩
  (.tk ⟨some 119, (.fieldAddr 50 (.tmp 118) 1), some (106, false)⟩
  (.tk ⟨some 120, (.load 3 (.tmp 119)), some (106, false)⟩
  .fin)))))))))))))))))))))))))))))))))))))) [⟨some 121, (.binOp .add 3 (.tmp 113) (.tmp 120) 3), some (106, false)⟩,
  ⟨some 122, (.binOp .lss 3 (.tmp 121) (.const (.int .i64 (-1000000000000))) 3), some (106, false)⟩,
  ⟨some 123, (.pick (.tmp 106) (.const (.bool true)) (.tmp 122)), none⟩])
 (.cond (.tmp 123) (.seq (.reg [⟨some 124, (.call { callee := (.value (.func 8)), args := #[], argTypes := #[] }), none⟩,
  ⟨some 8, (.assign (.tmp 124)), none⟩])
 .ret) .skip))
 d4_2))))
def a4_00 : ACode := (.reg [⟨some 8, (.assign (.const (.bool false))), none⟩])
def a4_10 : ACode := (.seq (.reg [⟨some 20, (.move (.tmp 0)), none⟩,
  ⟨some 21, (.move (.tmp 2)), none⟩,
  ⟨some 22, (.call { callee := (.value (.func 7)), args := #[(.tmp 20), (.tmp 21), (.const (.int .i64 200))], argTypes := #[22, 35, 3] }), none⟩,
  ⟨some 23, (.unOp .not 4 (.tmp 22)), none⟩,
  ⟨some 24, (.move (.tmp 23)), none⟩,
  ⟨some 25, (.move (.tmp 1)), some (24, false)⟩,
  ⟨some 26, (.move (.tmp 3)), some (24, false)⟩,
  ⟨some 27, (.call { callee := (.value (.func 7)), args := #[(.tmp 25), (.tmp 26), (.const (.int .i64 200))], argTypes := #[22, 35, 3] }), some (24, false)⟩,
  ⟨some 28, (.unOp .not 4 (.tmp 27)), some (24, false)⟩,
  ⟨some 29, (.pick (.tmp 24) (.const (.bool true)) (.tmp 28)), none⟩,
  ⟨some 30, (.move (.tmp 29)), none⟩,
  ⟨some 31, (.move (.tmp 0)), some (30, false)⟩,
  ⟨some 32, (.call { callee := (.builtin .len), args := #[(.tmp 31)], argTypes := #[22] }), some (30, false)⟩,
  ⟨some 33, (.move (.tmp 1)), some (30, false)⟩,
  ⟨some 34, (.call { callee := (.builtin .len), args := #[(.tmp 33)], argTypes := #[22] }), some (30, false)⟩,
  ⟨some 35, (.binOp .add 3 (.tmp 32) (.tmp 34) 3), some (30, false)⟩,
  ⟨some 36, (.binOp .gtr 3 (.tmp 35) (.const (.int .i64 50)) 3), some (30, false)⟩,
  ⟨some 37, (.pick (.tmp 30) (.const (.bool true)) (.tmp 36)), none⟩])
 (.cond (.tmp 37) (.seq (.reg [⟨some 38, (.call { callee := (.value (.func 8)), args := #[], argTypes := #[] }), none⟩,
  ⟨some 8, (.assign (.tmp 38)), none⟩])
 .ret) .skip))
def a4_20 : ACode := (.seq (.reg [⟨some 39, (.move (.tmp 0)), none⟩,
  ⟨some 40, (.call { callee := (.value (.func 12)), args := #[(.tmp 39)], argTypes := #[22] }), none⟩,
  ⟨some 41, (.move (.tmp 2)), none⟩,
  ⟨some 42, (.call { callee := (.value (.func 21)), args := #[(.tmp 41)], argTypes := #[35] }), none⟩,
  ⟨some 43, (.call { callee := (.value (.func 13)), args := #[(.tmp 40), (.tmp 42)], argTypes := #[31, 28] }), none⟩,
  ⟨some 44, (.binOp .neq 25 (.tmp 43) (.const (.int .i64 0)) 25), none⟩])
 (.cond (.tmp 44) (.seq (.reg [⟨some 45, (.call { callee := (.value (.func 8)), args := #[], argTypes := #[] }), none⟩,
  ⟨some 8, (.assign (.tmp 45)), none⟩])
 .ret) .skip))
def a4_30 : ACode := (.reg [⟨some 46, (.move (.tmp 0)), none⟩,
  ⟨some 47, (.call { callee := (.value (.func 12)), args := #[(.tmp 46)], argTypes := #[22] }), none⟩,
  ⟨some 48, (.move (.tmp 1)), none⟩,
  ⟨some 49, (.call { callee := (.value (.func 12)), args := #[(.tmp 48)], argTypes := #[22] }), none⟩,
  ⟨some 50, (.call { callee := (.builtin .append), args := #[(.tmp 47), (.tmp 49)], argTypes := #[31, 31] }), none⟩,
  ⟨some 9, (.assign (.tmp 50)), none⟩])
def e4 : ACode := seqs [a4_00, a4_10, a4_20, a4_30] d4_1
theorem ce4 : c4 = e4 := rfl
end Go.PV.Ytefpjfpelicedaa
end
section
/- ArithMore: the end of its walk: lines behind lines. -/
set_option linter.unusedVariables false
set_option linter.unusedSimpArgs false
set_option maxRecDepth 20000
set_option maxHeartbeats 4000000
namespace Go.PV
theorem Weak.nil : Weak (.lit (.slice none 0 0)) (.slice false 0 []) := fun S w u hu => ⟨none, 0, hu, ⟨Nat.le_refl _, fun _ => rfl⟩, fun h => absurd h (Nat.lt_irrefl _)⟩
end Go.PV
namespace Go.PV.Ytefpjfpelicedaa
open Go Go.Proofs
theorem rows_src (H : AH) (l : List Row) : srcV H 2 (rowsV l) = some (l.length, encC rowE l) := by
  have h := rows_len l
  simp only [srcV, h, Nat.le_refl, if_true]
  rw [List.take_of_length_le (by omega)]
theorem _root_.Go.PV.OwnX.lenV {H0 H : AH} {e : TypeId} {k n : Nat} {v : VV} {cs : List VV} (h : OwnX H0 H e k v n cs) {t : TypeId} (ht : elT Try.prog t ≠ none) : ∀ (H : AH) (K : VE → AH → Prop), K (.ret (iV n)) H → vcLen Try.prog t v H K := fun H K hK => by
  rcases h with ⟨rfl, rfl, rfl, rfl⟩ | ⟨g, c, sp, rfl, h0, rfl, h1, h2, h3, h4⟩
  · rw [n_lenL]; exact ⟨ht, hK⟩
  · rw [n_lenL]; exact ⟨ht, hK⟩
def Q4 (H : AH) : APost := retPost Try.prog [.tmp 8] fun e H' => e = .ret (boolV true) ∧ SubH H H'
theorem more4f {H0 Hb H : AH} {t : Nat → VV} {rows : List Row} {a b : List Line} {v : VV} (h2 : t 2 = linesV a) (h9 : t 9 = rowsV rows) (h17 : t 17 = v) (hs : SubH H0 Hb) (ho : OwnX Hb H 52 5 v (a.length + b.length) (encC lineE (a ++ b.map (shiftW a.length))))
    (la : a.length ≤ 200) (lb : b.length ≤ 200) (hr : (rows.length : Int) ≤ 9223372036854775806) (hc : checkF rows (bothL a b) = 0) : ACx ⟨Try.prog, 180, none⟩ d4_3 (Q4 H0) ⟨t, []⟩ H := by
  have hck := check13 rows (bothL a b) hr (by unfold bothL; simp; omega)
  rw [hc] at hck
  have hlv := ho.lenV (t := 28) (by rw [elT_28]; simp)
  have w1 : IntKind.i64.wrap ((a.length : Int) - 1) = (a.length : Int) - 1 := wrap_ok (by omega) (by omega)
  have w2 : IntKind.i64.wrap (((a.length + b.length : Nat) : Int) - 1) = (a.length : Int) + b.length - 1 := by rw [wrap_ok (by omega) (by omega)]; omega
  have hc1 := ho.cells.1
  have hc2 := ho.cells.2
  show ACx _ (seqs [a4_3] d4_4) _ _ _
  refine acx_seqs (fun _ _ _ h => h) (K := fun A H' => Hold (ACx ⟨Try.prog, 180, none⟩ d4_4 (Q4 H0) A H')) (fun _ _ h => h.out) _ _ _ ?_
  unfold a4_3
  (repeat' (first | (refine hlv _ _ ?_) | (simp only [↓s_reg, ↓s_consN, ↓s_kret, ↓s_putS, ↓s_dOkS, ↓s_ev_t, ↓s_ev_c, ↓s_upd, ↓s_move, ↓s_bin, ↓s_build, ↓s_buildSlice, ↓s_callB, ↓s_len, ↓s_append, ↓s_bin_sub, intV, List.map_cons, List.map_nil, List.length_cons, List.length_nil, List.append_nil, ite_true, ite_false, Nat.reduceEqDiff, Nat.reduceLT, Nat.reduceAdd, Nat.reduceMul, Nat.reduceLeDiff, ne_eq, not_false_eq_true, true_and, Nat.succ_ne_self, reduceCtorEq, vcBuild, fillV, setAt, eq_self, Nat.zero_add, and_self, List.getElem?_cons_zero, List.getElem?_cons_succ, cl_int, cl_agg, List.set_cons_zero, List.set_cons_succ, Nat.le_refl, n_lenS, vcBuildSlice, List.replicate_succ, List.replicate_zero, List.flatten_cons, List.flatten_nil, vcs, stT_52, zeroT_52, elT_28, elT_35, *]) | (refine guardL_splitTD ?_ ?_ <;> intro) | (refine guardL_splitFD ?_ ?_ <;> intro) | (refine guardP_splitTD ?_ ?_ <;> intro) | (refine guardP_splitFD ?_ ?_ <;> intro) | (refine condL_splitD ?_ ?_ <;> intro) | (refine guardL_splitT ?_ ?_ <;> intro) | (refine guardL_splitF ?_ ?_ <;> intro) | (refine guardP_splitT ?_ ?_ <;> intro) | (refine guardP_splitF ?_ ?_ <;> intro) | (refine condL_split ?_ ?_ <;> intro) | (refine ret_tmp ?_) | (refine acx_go rfl (fun _ _ _ h => h) ?_) | (refine acx_dreg mixed (fun _ _ _ _ e h => ⟨e.trans h.1, h.2⟩) _ (SubH.refl _) ?_) | (refine And.intro (SubH.new (by assumption)) ?_) | (refine allNew_intro fun zr zh => ?_; have zg := zh; (try simp only [AH.set_none] at zg)) | (exact SubH.refl _) | (refine SubH.of_set ?_ ?_) | assumption | (with_reducible refine And.intro ?_ ?_)))
  refine append_own elT_28 zeroT_52 rfl (by omega) ho rfl rfl (by omega) (by omega) (fun v' H'' ho2 => ?_)
  clear hlv hc1 hc2
  (repeat' (first | (simp only [↓s_nil, ↓s_consN, ↓s_thenN, ↓s_kret, ↓s_putS, ↓s_dOkS, ↓s_ev_t, ↓s_upd, ↓s_assign, ite_true, ite_false, Nat.reduceEqDiff, Nat.reduceLT, true_and, Nat.succ_ne_self, eq_self, *]) | (refine guardL_splitTD ?_ ?_ <;> intro) | (refine guardL_splitFD ?_ ?_ <;> intro) | (refine guardP_splitTD ?_ ?_ <;> intro) | (refine guardP_splitFD ?_ ?_ <;> intro) | (refine condL_splitD ?_ ?_ <;> intro) | (refine guardL_splitT ?_ ?_ <;> intro) | (refine guardL_splitF ?_ ?_ <;> intro) | (refine guardP_splitT ?_ ?_ <;> intro) | (refine guardP_splitF ?_ ?_ <;> intro) | (refine condL_split ?_ ?_ <;> intro) | (refine ret_tmp ?_) | (refine acx_go rfl (fun _ _ _ h => h) ?_) | (refine acx_dreg mixed (fun _ _ _ _ e h => ⟨e.trans h.1, h.2⟩) _ (SubH.refl _) ?_) | (refine And.intro (SubH.new (by assumption)) ?_) | (refine allNew_intro fun zr zh => ?_; have zg := zh; (try simp only [AH.set_none] at zg)) | (exact SubH.refl _) | (refine SubH.of_set ?_ ?_) | assumption | (with_reducible refine And.intro ?_ ?_)))
  refine ⟨?_⟩
  refine acx_ghost (H' := H0) (Ghost.slot (i := 17) (x' := linesV (bothL a b)) ?_) ?_
  · simp only [s_upd, if_true]
    have := GhV.back ho2 hs
    have e : (bothL a b).length = a.length + b.length + 1 := by unfold bothL; simp; omega
    have e2 : encC lineE (bothL a b) = encC lineE (a ++ b.map (shiftW a.length)) ++ List.take (1 * 5) (lineE ⟨3, (a.length : Int) - 1, (a.length : Int) + b.length - 1, 1, 1⟩) := by
      unfold bothL; rw [encC_append]; rfl
    show GhV _ _ _ (.slice false (bothL a b).length _)
    rw [e, e2]
    exact this
  · refine vc_acx (fun _ _ _ h => h) ?_
    unfold d4_4 Q4
    (repeat' (first | (simp only [↓s_reg, ↓s_seq, ↓s_ret, ↓s_nil, ↓s_consN, ↓s_consG, ↓s_guardTT, ↓s_thenN, ↓s_kret, ↓s_putS, ↓s_dOkS, ↓s_ev_t, ↓s_ev_c, ↓s_ev_f, ↓s_upd, ↓s_move, ↓s_assign, ↓s_isBool, ↓s_pickA, ↓s_pick, ↓s_bin, ↓s_callV, ↓s_callL, ↓s_bin_eql, boolV, List.map_cons, List.map_nil, ite_true, ite_false, Nat.reduceEqDiff, Nat.reduceLT, true_and, Nat.succ_ne_self, decide_true, eq_self, en_8, en_13, *]) | (refine guardL_splitTD ?_ ?_ <;> intro) | (refine guardL_splitFD ?_ ?_ <;> intro) | (refine guardP_splitTD ?_ ?_ <;> intro) | (refine guardP_splitFD ?_ ?_ <;> intro) | (refine condL_splitD ?_ ?_ <;> intro) | (refine guardL_splitT ?_ ?_ <;> intro) | (refine guardL_splitF ?_ ?_ <;> intro) | (refine guardP_splitT ?_ ?_ <;> intro) | (refine guardP_splitF ?_ ?_ <;> intro) | (refine condL_split ?_ ?_ <;> intro) | (refine ret_tmp ?_) | (refine acx_go rfl (fun _ _ _ h => h) ?_) | (refine acx_dreg mixed (fun _ _ _ _ e h => ⟨e.trans h.1, h.2⟩) _ (SubH.refl _) ?_) | (refine And.intro (SubH.new (by assumption)) ?_) | (refine allNew_intro fun zr zh => ?_; have zg := zh; (try simp only [AH.set_none] at zg)) | (exact SubH.refl _) | (refine SubH.of_set ?_ ?_) | assumption | (refine PureF.use (hck) ?_) | (refine PureF.use (awake8) ?_) | (with_reducible refine And.intro ?_ ?_)))
theorem lines_app (a b : List Line) (k i : Nat) (hi : i < b.length) : encC lineE (a ++ (b.take (i + 1)).map (shiftW k)) = encC lineE (a ++ (b.take i).map (shiftW k)) ++ lineE (shiftW k b[i]) := by
  rw [List.take_succ_eq_append_getElem hi, List.map_append, ← List.append_assoc, encC_append]
  simp [encC]
theorem more4e {H0 H : AH} {t : Nat → VV} {rows : List Row} {a b : List Line} {v : VV} {Q : APost} {K : AF → AH → Prop} (h2 : t 2 = linesV a) (h9 : t 9 = rowsV rows) (h128 : t 128 = linesV b) (h129 : t 129 = iV b.length) (h130 : t 130 = iV 0) (h17 : t 17 = v)
    (hs : SubH H0 H) (ho : ∃ Hb, SubH H0 Hb ∧ OwnX Hb H 52 5 v a.length (encC lineE a)) (la : a.length ≤ 200) (lb : b.length ≤ 200) (hQ : noGoto Q)
    (hK : ∀ (t : Nat → VV) (Hb H : AH) (v : VV), t 2 = linesV a → t 9 = rowsV rows → t 17 = v → SubH H0 Hb → OwnX Hb H 52 5 v (a.length + b.length) (encC lineE (a ++ b.map (shiftW a.length))) → K ⟨t, []⟩ H) :
    ACx ⟨Try.prog, 180, none⟩ (.loop b4_1) (inBlockA 0 (thenA K Q)) ⟨t, []⟩ H := by
  refine acx_loop (fun l A H h => hQ l A H h) (fun A H' => A.d = [] ∧ A.t 2 = linesV a ∧ A.t 9 = rowsV rows ∧ A.t 128 = linesV b ∧ A.t 129 = iV b.length ∧ ∃ (i : Nat) (Hb : AH), i ≤ b.length ∧ A.t 130 = iV i ∧ SubH H0 Hb ∧ OwnX Hb H' 52 5 (A.t 17) (a.length + i) (encC lineE (a ++ (b.take i).map (shiftW a.length))))
    (fun A _ => match A.t 130 with | .lit (.int _ i) => ((b.length : Int) - i).toNat | _ => 0) ?_ ?_
  · obtain ⟨Hb, hb, ho⟩ := ho
    refine ⟨rfl, h2, h9, h128, h129, 0, Hb, by omega, h130, hb, ?_⟩
    dsimp only
    rw [h17]
    simpa using ho
  · clear h2 h9 h128 h129 h130 h17 ho hs
    rintro ⟨t, d⟩ H' ⟨rfl, h2, h9, h128, h129, i, Hb, hi, h130, hs, ho⟩
    dsimp only at h2 h9 h128 h129 h130 ho
    obtain ⟨v, h17⟩ : ∃ v, v = t 17 := ⟨_, rfl⟩
    rw [← h17] at ho
    replace h17 := h17.symm
    have hHn : ∀ r, H' r = none → H0 r = none := fun r h => (hs.trans ho.sub).none h
    have hc1 := ho.cells.1
    have hc2 := ho.cells.2
    unfold b4_1
    (repeat' (first | (simp only [↓s_skip, ↓s_reg, ↓s_seq, ↓s_cond, ↓s_block, ↓s_exit, ↓s_nil, ↓s_consN, ↓s_thenN, ↓s_thenE, ↓s_inN, ↓s_inE, ↓s_kret, ↓s_putS, ↓s_putN, ↓s_dOkS, ↓s_dOkN, ↓s_ev_t, ↓s_ev_c, ↓s_upd, ↓s_move, ↓s_assign, ↓s_load, ↓s_store, ↓s_bin, ↓s_alloc, ↓s_buildSlice, ↓s_fieldAddr, ↓s_indexAddr, ↓s_callB, ↓s_len, ↓s_append, ↓s_bin_lss, ↓s_bin_eql, ↓s_bin_add, ptrV, intV, List.map_cons, List.map_nil, List.length_cons, List.length_nil, List.append_nil, ite_true, ite_false, Nat.reduceEqDiff, Nat.reduceLT, Nat.reduceAdd, Nat.reduceMul, Nat.reduceLeDiff, ne_eq, not_false_eq_true, true_and, Nat.succ_ne_self, decide_true, decide_false, reduceCtorEq, Int.natCast_nonneg, Int.toNat_natCast, AH.get, AH.set_set, fillV, setAt, List.all_cons, List.all_nil, Bool.and_self, eq_self, Nat.zero_add, Nat.add_zero, List.drop, and_self, ldV_f, ldV_t5, Int.ofNat_lt, cl_int, on_int, cl_agg, List.set_cons_zero, List.set_cons_succ, ↓n_alloc, n_allocS, Nat.le_refl, n_ldI, n_ldP, n_faP, n_ixS, n_ixA1, n_lenS, n_ldA, n_ldC, n_ldB, n_faA, n_stP, n_stA, vcBuildSlice, List.replicate_succ, List.replicate_zero, List.flatten_cons, List.flatten_nil, lines_drop, flT_52_0, flT_52_1, flT_52_2, ldT_3, ldT_52, szT_52, szT_3, zeroT_52, elT_28, elT_35, *]) | (refine guardL_splitTD ?_ ?_ <;> intro) | (refine guardL_splitFD ?_ ?_ <;> intro) | (refine guardP_splitTD ?_ ?_ <;> intro) | (refine guardP_splitFD ?_ ?_ <;> intro) | (refine condL_splitD ?_ ?_ <;> intro) | (refine guardL_splitT ?_ ?_ <;> intro) | (refine guardL_splitF ?_ ?_ <;> intro) | (refine guardP_splitT ?_ ?_ <;> intro) | (refine guardP_splitF ?_ ?_ <;> intro) | (refine condL_split ?_ ?_ <;> intro) | (refine ret_tmp ?_) | (refine acx_go rfl (fun _ _ _ h => h) ?_) | (refine acx_dreg mixed (fun _ _ _ _ e h => ⟨e.trans h.1, h.2⟩) _ (SubH.refl _) ?_) | (refine And.intro (SubH.new (by assumption)) ?_) | (refine allNew_intro fun zr zh => ?_; have zg := zh; (try simp only [AH.set_none] at zg)) | (exact SubH.refl _) | (refine SubH.of_set ?_ ?_) | assumption | (with_reducible refine And.intro ?_ ?_)))
    · have hb : i < b.length := by assumption
      have h : b[i].k = 3 := by assumption
      have e : shiftW a.length b[i] = ⟨3, W (b[i].a + a.length), W (b[i].b + a.length), b[i].m, b[i].n⟩ := by unfold shiftW; rw [if_pos h, h]
      refine append_own elT_28 zeroT_52 rfl (by omega) (ho.alloc (by assumption) _) rfl rfl (by omega) (by omega) (fun v' H'' ho2 => ?_)
      obtain ⟨Hc, hoc, hsc⟩ : ∃ Hc, OwnX Hc H'' 52 5 v' (a.length + (i + 1)) (encC lineE (a ++ (b.take (i + 1)).map (shiftW a.length))) ∧ SubH H0 Hc :=
        ⟨_, by rw [lines_app a b _ i hb, e]; exact ho2, SubH.of_set hs (hHn _ zh)⟩
      clear ho2 hc1 hc2
      have hc1 := hoc.cells.1
      have hc2 := hoc.cells.2
      (repeat' (first | (simp only [↓s_reg, ↓s_nil, ↓s_consN, ↓s_thenN, ↓s_inN, ↓s_kret, ↓s_putS, ↓s_dOkS, ↓s_ev_t, ↓s_ev_c, ↓s_upd, ↓s_move, ↓s_assign, ↓s_bin, ↓s_bin_add, ite_true, ite_false, Nat.reduceEqDiff, Nat.reduceLT, true_and, Nat.succ_ne_self, eq_self, *]) | (refine guardL_splitTD ?_ ?_ <;> intro) | (refine guardL_splitFD ?_ ?_ <;> intro) | (refine guardP_splitTD ?_ ?_ <;> intro) | (refine guardP_splitFD ?_ ?_ <;> intro) | (refine condL_splitD ?_ ?_ <;> intro) | (refine guardL_splitT ?_ ?_ <;> intro) | (refine guardL_splitF ?_ ?_ <;> intro) | (refine guardP_splitT ?_ ?_ <;> intro) | (refine guardP_splitF ?_ ?_ <;> intro) | (refine condL_split ?_ ?_ <;> intro) | (refine ret_tmp ?_) | (refine acx_go rfl (fun _ _ _ h => h) ?_) | (refine acx_dreg mixed (fun _ _ _ _ e h => ⟨e.trans h.1, h.2⟩) _ (SubH.refl _) ?_) | (refine And.intro (SubH.new (by assumption)) ?_) | (refine allNew_intro fun zr zh => ?_; have zg := zh; (try simp only [AH.set_none] at zg)) | (exact SubH.refl _) | (refine SubH.of_set ?_ ?_) | assumption | (with_reducible refine And.intro ?_ ?_)))
      all_goals rw [wrap_ok (n := (i : Int) + 1) (by omega) (by omega)]
      · exact ⟨i + 1, Hc, by omega, rfl, hsc, hoc⟩
      · omega
    · have hb : i < b.length := by assumption
      have h : b[i].k = 4 := by assumption
      have e : shiftW a.length b[i] = ⟨4, W (b[i].a + a.length), b[i].b, b[i].m, b[i].n⟩ := by unfold shiftW; rw [if_neg (by omega), if_pos h, h]
      refine append_own elT_28 zeroT_52 rfl (by omega) (ho.alloc (by assumption) _) rfl rfl (by omega) (by omega) (fun v' H'' ho2 => ?_)
      obtain ⟨Hc, hoc, hsc⟩ : ∃ Hc, OwnX Hc H'' 52 5 v' (a.length + (i + 1)) (encC lineE (a ++ (b.take (i + 1)).map (shiftW a.length))) ∧ SubH H0 Hc :=
        ⟨_, by rw [lines_app a b _ i hb, e]; exact ho2, SubH.of_set hs (hHn _ zh)⟩
      clear ho2 hc1 hc2
      have hc1 := hoc.cells.1
      have hc2 := hoc.cells.2
      (repeat' (first | (simp only [↓s_reg, ↓s_nil, ↓s_consN, ↓s_thenN, ↓s_inN, ↓s_kret, ↓s_putS, ↓s_dOkS, ↓s_ev_t, ↓s_ev_c, ↓s_upd, ↓s_move, ↓s_assign, ↓s_bin, ↓s_bin_add, ite_true, ite_false, Nat.reduceEqDiff, Nat.reduceLT, true_and, Nat.succ_ne_self, eq_self, *]) | (refine guardL_splitTD ?_ ?_ <;> intro) | (refine guardL_splitFD ?_ ?_ <;> intro) | (refine guardP_splitTD ?_ ?_ <;> intro) | (refine guardP_splitFD ?_ ?_ <;> intro) | (refine condL_splitD ?_ ?_ <;> intro) | (refine guardL_splitT ?_ ?_ <;> intro) | (refine guardL_splitF ?_ ?_ <;> intro) | (refine guardP_splitT ?_ ?_ <;> intro) | (refine guardP_splitF ?_ ?_ <;> intro) | (refine condL_split ?_ ?_ <;> intro) | (refine ret_tmp ?_) | (refine acx_go rfl (fun _ _ _ h => h) ?_) | (refine acx_dreg mixed (fun _ _ _ _ e h => ⟨e.trans h.1, h.2⟩) _ (SubH.refl _) ?_) | (refine And.intro (SubH.new (by assumption)) ?_) | (refine allNew_intro fun zr zh => ?_; have zg := zh; (try simp only [AH.set_none] at zg)) | (exact SubH.refl _) | (refine SubH.of_set ?_ ?_) | assumption | (with_reducible refine And.intro ?_ ?_)))
      all_goals rw [wrap_ok (n := (i : Int) + 1) (by omega) (by omega)]
      · exact ⟨i + 1, Hc, by omega, rfl, hsc, hoc⟩
      · omega
    · have hb : i < b.length := by assumption
      have h : ¬ b[i].k = 4 := by assumption
      have e : shiftW a.length b[i] = b[i] := by unfold shiftW; rw [if_neg (by assumption), if_neg h]
      refine append_own elT_28 zeroT_52 rfl (by omega) (ho.alloc (by assumption) _) rfl rfl (by omega) (by omega) (fun v' H'' ho2 => ?_)
      obtain ⟨Hc, hoc, hsc⟩ : ∃ Hc, OwnX Hc H'' 52 5 v' (a.length + (i + 1)) (encC lineE (a ++ (b.take (i + 1)).map (shiftW a.length))) ∧ SubH H0 Hc :=
        ⟨_, by rw [lines_app a b _ i hb, e]; exact ho2, SubH.of_set hs (hHn _ zh)⟩
      clear ho2 hc1 hc2
      have hc1 := hoc.cells.1
      have hc2 := hoc.cells.2
      (repeat' (first | (simp only [↓s_reg, ↓s_nil, ↓s_consN, ↓s_thenN, ↓s_inN, ↓s_kret, ↓s_putS, ↓s_dOkS, ↓s_ev_t, ↓s_ev_c, ↓s_upd, ↓s_move, ↓s_assign, ↓s_bin, ↓s_bin_add, ite_true, ite_false, Nat.reduceEqDiff, Nat.reduceLT, true_and, Nat.succ_ne_self, eq_self, *]) | (refine guardL_splitTD ?_ ?_ <;> intro) | (refine guardL_splitFD ?_ ?_ <;> intro) | (refine guardP_splitTD ?_ ?_ <;> intro) | (refine guardP_splitFD ?_ ?_ <;> intro) | (refine condL_splitD ?_ ?_ <;> intro) | (refine guardL_splitT ?_ ?_ <;> intro) | (refine guardL_splitF ?_ ?_ <;> intro) | (refine guardP_splitT ?_ ?_ <;> intro) | (refine guardP_splitF ?_ ?_ <;> intro) | (refine condL_split ?_ ?_ <;> intro) | (refine ret_tmp ?_) | (refine acx_go rfl (fun _ _ _ h => h) ?_) | (refine acx_dreg mixed (fun _ _ _ _ e h => ⟨e.trans h.1, h.2⟩) _ (SubH.refl _) ?_) | (refine And.intro (SubH.new (by assumption)) ?_) | (refine allNew_intro fun zr zh => ?_; have zg := zh; (try simp only [AH.set_none] at zg)) | (exact SubH.refl _) | (refine SubH.of_set ?_ ?_) | assumption | (with_reducible refine And.intro ?_ ?_)))
      all_goals rw [wrap_ok (n := (i : Int) + 1) (by omega) (by omega)]
      · exact ⟨i + 1, Hc, by omega, rfl, hsc, hoc⟩
      · omega
    · have hin : i = b.length := by omega
      subst hin
      rw [List.take_length] at ho
      exact hK _ Hb _ v (by simp only [s_upd, Nat.reduceEqDiff, if_false, *] <;> rfl) (by simp only [s_upd, Nat.reduceEqDiff, if_false, *] <;> rfl) (by simp only [s_upd, Nat.reduceEqDiff, if_false, *] <;> rfl) hs ho
end Go.PV.Ytefpjfpelicedaa
end
