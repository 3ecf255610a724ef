/- Part 8 of 11 of what the proof of Refu needs. -/
import Derived.Test.YtefpjfpelicedaaRefu7
import Derived.Test.YtefpjfpelicedaaRefu5
section
/- Refute. -/
set_option linter.unusedVariables false
set_option linter.unusedSimpArgs false
set_option maxRecDepth 20000
set_option maxHeartbeats 4000000
namespace Go.PV.Ytefpjfpelicedaa
open Go Go.Proofs
def refuteF (rows : List Row) (most : Int) : List Line × Bool × Int :=
  if rightF rows = 0 then
    (if most < 0 ∨ 5000 < most then ([], false, 4)
     else match searchS rows (unkN rows) most with
       | .ok _ => ([], false, 0)
       | .error (.found, st) => (neededF st.ls, true, 0)
       | .error (.stop c, _) => ([], false, c))
  else ([], false, rightF rows)
def refuteX (rows : List Row) (most : Int) : VV := .tuple [linesV (refuteF rows most).1, boolV (refuteF rows most).2.1, iV (refuteF rows most).2.2]
theorem refuteX_of {rows : List Row} {b : Int} {p : List Line × Bool × Int} (h : refuteF rows b = p) : refuteX rows b = .tuple [linesV p.1, boolV p.2.1, iV p.2.2] := by rw [refuteX, h]
theorem rfLeave {H H' : AH} {t : Nat → VV} {r4 r5 r6 s4 s5 s6 : Nat} {e4 e5 e6 : TypeId} {v X : VV} {bb : Bool} {e : Int} (h4 : t 4 = ptrV r4 0) (h5 : t 5 = ptrV r5 0) (h6 : t 6 = ptrV r6 0) (k4 : H' r4 = some (.cells e4 [v] s4)) (k5 : H' r5 = some (.cells e5 [boolV bb] s5)) (k6 : H' r6 = some (.cells e6 [iV e] s6))
    (hv : ∃ a n c, v = .lit (.slice a n c)) (hg : GhV H' (.tuple [v, boolV bb, iV e]) H X) : leaveR Try.prog [.cell 4 28, .cell 5 4, .cell 6 25] (ptQ X H) t [] .returning H' := by
  obtain ⟨a, n, c, rfl⟩ := hv
  refine ⟨_, H', _, ?_, .refl _ _, _, rfl, hg⟩
  simp only [resV, resAll, resOne, ldT_28, ldT_4, ldT_25, h4, h5, h6, k4, k5, k6, ptrV, List.drop_zero, ldV_f, Option.bind_some, Option.map_some, tupV]
theorem rfNil {H H' : AH} (hs : SubH H H') (bb : Bool) (e : Int) : GhV H' (.tuple [.lit (.slice none 0 0), boolV bb, iV e]) H (.tuple [linesV [], boolV bb, iV e]) :=
  GhV.tuple (GhL.cons ((GhV.nil _).trans (GhV.forget hs _)) (GhL.cons (GhV.refl _ _) (GhL.cons (GhV.refl _ _) (GhL.nil _))))
theorem en38 : enterable Try.prog 38 = true := by kernel_rfl
theorem n_makeMap (t : TypeId) (H : AH) (K : VE → AH → Prop) : vcMakeMap Try.prog t H K = allNew H fun r => K (.ret (.lit (.map (some r)))) (H.set r (.map (keysOf Try.prog t) fun _ => none)) := rfl
theorem refute11 (rows : List Row) (most : Int) (h1 : (rows.length : Int) ≤ 9223372036854775806) : PureF Try.prog 11 [rowsV rows, iV most] (refuteX rows most) := by
  refine GivesF.pure fun H => ?_
  unfold GivesF
  refine vcalls_introM fd11 (by simp) ?_
  unfold c11
  by_cases hr : rightF rows = 0
  · have hn := unkN_le hr
    have hu := unkN_eq rows
    by_cases hb : most < 0 ∨ 5000 < most
    · by_cases hb1 : most < 0
      · (repeat' (first | (simp only [↓s_skip, ↓s_reg, ↓s_seq, ↓s_cond, ↓s_condT, ↓s_condF, ↓s_ret, ↓s_nil, ↓s_consN, ↓s_consG, ↓s_guardTF, ↓s_thenN, ↓s_thenR, ↓s_kret, ↓s_putS, ↓s_putN, ↓s_dOkS, ↓s_dOkN, ↓s_ev_t, ↓s_ev_c, ↓s_ev_f, ↓s_upd, ↓s_move, ↓s_assign, ↓s_isBool, ↓s_pickA, ↓s_pick, ↓s_store, ↓s_bin, ↓s_alloc, ↓s_callV, ↓s_callL, ↓s_bin_lss, ↓s_bin_neq, ptrV, List.map_cons, List.map_nil, List.length_cons, List.length_nil, List.getD_cons_zero, List.getD_cons_succ, List.getD_nil, ite_true, ite_false, Nat.reduceEqDiff, Nat.reduceLT, true_and, Nat.succ_ne_self, decide_true, Bool.not_true, reduceCtorEq, callOk, undefV, AH.get, setAt, List.all_cons, List.all_nil, Bool.and_self, eq_self, Nat.zero_add, cl_int, on_int, cl_bool, on_bool, cl_sl, on_sl, List.set_cons_zero, ↓n_alloc, n_allocS, Nat.le_refl, n_stP, n_stA, undef, szT_28, szT_4, szT_25, zeroT_28, zeroT_4, zeroT_25, en_36, *]) | (refine allNew_intro fun zr zh => ?_; have zg := zh; (try simp only [AH.set_none] at zg)) | (refine PureF.use (right36 _ h1) ?_)))
        rw [refuteX_of (p := ([], false, 4)) (by simp [refuteF, *])]
        exact rfLeave (by simp only [s_upd, Nat.reduceEqDiff, if_true, if_false, *] <;> rfl) (by simp only [s_upd, Nat.reduceEqDiff, if_true, if_false, *] <;> rfl) (by simp only [s_upd, Nat.reduceEqDiff, if_true, if_false, *] <;> rfl) (by simp only [AH.get, *, if_true, if_false] <;> rfl) (by simp only [AH.get, *, if_true, if_false] <;> rfl) (by simp only [AH.get, *, if_true, if_false] <;> rfl) ⟨_, _, _, rfl⟩ (rfNil (by repeat (first | assumption | exact SubH.refl _ | refine SubH.of_set ?_ (by simp only [*]))) _ _)
      · have hb2 : 5000 < most := by omega
        (repeat' (first | (simp only [↓s_skip, ↓s_reg, ↓s_seq, ↓s_cond, ↓s_condT, ↓s_condF, ↓s_ret, ↓s_nil, ↓s_consN, ↓s_consG, ↓s_guardFF, ↓s_thenN, ↓s_thenR, ↓s_kret, ↓s_putS, ↓s_putN, ↓s_dOkS, ↓s_dOkN, ↓s_ev_t, ↓s_ev_c, ↓s_ev_f, ↓s_upd, ↓s_move, ↓s_assign, ↓s_isBool, ↓s_pickA, ↓s_pick, ↓s_store, ↓s_bin, ↓s_alloc, ↓s_callV, ↓s_callL, ↓s_bin_lss, ↓s_bin_gtr, ↓s_bin_neq, ptrV, List.map_cons, List.map_nil, List.length_cons, List.length_nil, List.getD_cons_zero, List.getD_cons_succ, List.getD_nil, ite_true, ite_false, Nat.reduceEqDiff, Nat.reduceLT, true_and, Bool.false_eq_true, Nat.succ_ne_self, decide_true, decide_false, Bool.not_true, reduceCtorEq, undefV, AH.get, setAt, List.all_cons, List.all_nil, Bool.and_self, eq_self, Nat.zero_add, cl_int, on_int, cl_bool, on_bool, cl_sl, on_sl, List.set_cons_zero, ↓n_alloc, n_allocS, Nat.le_refl, n_stP, n_stA, undef, szT_28, szT_4, szT_25, zeroT_28, zeroT_4, zeroT_25, en_36, *]) | (refine allNew_intro fun zr zh => ?_; have zg := zh; (try simp only [AH.set_none] at zg)) | (refine PureF.use (right36 _ h1) ?_)))
        rw [refuteX_of (p := ([], false, 4)) (by simp [refuteF, *])]
        exact rfLeave (by simp only [s_upd, Nat.reduceEqDiff, if_true, if_false, *] <;> rfl) (by simp only [s_upd, Nat.reduceEqDiff, if_true, if_false, *] <;> rfl) (by simp only [s_upd, Nat.reduceEqDiff, if_true, if_false, *] <;> rfl) (by simp only [AH.get, *, if_true, if_false] <;> rfl) (by simp only [AH.get, *, if_true, if_false] <;> rfl) (by simp only [AH.get, *, if_true, if_false] <;> rfl) ⟨_, _, _, rfl⟩ (rfNil (by repeat (first | assumption | exact SubH.refl _ | refine SubH.of_set ?_ (by simp only [*]))) _ _)
    · have hb1 : ¬ most < 0 := by omega
      have hb2 : ¬ 5000 < most := by omega
      (repeat' (first | (simp only [↓s_skip, ↓s_reg, ↓s_seq, ↓s_cond, ↓s_condF, ↓s_nil, ↓s_consN, ↓s_consG, ↓s_guardFF, ↓s_thenN, ↓s_kret, ↓s_putS, ↓s_putN, ↓s_dOkS, ↓s_dOkN, ↓s_ev_t, ↓s_ev_c, ↓s_ev_f, ↓s_upd, ↓s_move, ↓s_assign, ↓s_isBool, ↓s_pickA, ↓s_pick, ↓s_store, ↓s_bin, ↓s_alloc, ↓s_box, ↓s_build, ↓s_makeFunc, ↓s_makeMap, ↓s_callV, ↓s_defer, ↓s_callL, ↓s_bin_lss, ↓s_bin_gtr, ↓s_bin_neq, ptrV, List.map_cons, List.map_nil, List.length_cons, List.length_nil, List.getD_cons_zero, List.getD_cons_succ, List.getD_nil, ite_true, ite_false, Nat.reduceEqDiff, Nat.reduceLT, Nat.reduceAdd, Nat.reduceLeDiff, true_and, Bool.false_eq_true, Nat.succ_ne_self, decide_true, decide_false, Bool.not_true, reduceCtorEq, undefV, AH.get, AH.set_set, vcBuild, fillV, setAt, List.all_cons, List.all_nil, Bool.and_self, eq_self, Nat.zero_add, and_self, List.getElem?_cons_zero, List.getElem?_cons_succ, cl_int, cl_ptr, on_ptr, cl_map, cl_agg, cl_slice, List.set_cons_zero, List.set_cons_succ, ↓n_alloc, n_allocS, ↓n_box, Nat.le_refl, n_stP, n_stA, undef, n_makeMap, zeroT_28, szT_71, zeroT_4, zeroT_25, stT_74, stT_77, zeroT_71, en_36, en_37, *]) | (refine allNew_intro fun zr zh => ?_; have zg := zh; (try simp only [AH.set_none] at zg)) | (refine PureF.use (right36 _ h1) ?_) | (refine PureF.use (unknowns37 _ h1) ?_)))
      rename_i r4 zh4 zg4 r5 zh5 zg5 r6 zh6 zg6 mp zhm zgm s zhs zgs
      revert zr
      intro r8 zh8 zg8
      obtain ⟨H6, hH6⟩ : ∃ H6, H6 = ((H.set r4 (.cells 28 [.lit (.slice none 0 0)] 0)).set r5 (.cells 4 [VV.lit (Value.bool false)] 0)).set r6 (.cells 25 [VV.lit (Value.int IntKind.i64 0)] 0) := ⟨_, rfl⟩
      have a4 : H6 r4 = some (.cells 28 [.lit (.slice none 0 0)] 0) := by rw [hH6]; exact (by simp only [AH.get, *, if_true, if_false] <;> rfl)
      have a5 : H6 r5 = some (.cells 4 [boolV false] 0) := by rw [hH6]; exact (by simp only [AH.get, *, if_true, if_false] <;> rfl)
      have a6 : H6 r6 = some (.cells 25 [iV 0] 0) := by rw [hH6]; exact (by simp only [AH.get, *, if_true, if_false] <;> rfl)
      have hs6 : SubH H H6 := by rw [hH6]; exact (by repeat (first | assumption | exact SubH.refl _ | refine SubH.of_set ?_ (by simp only [*])))
      have em : H6 mp = none := by rw [hH6]; exact zhm
      have es : H6 s = none := by rw [hH6]; simp only [AH.set_none]; exact zgs.2
      have e8 : H6 r8 = none := by rw [hH6]; simp only [AH.set_none]; exact zg8.2.2
      have ds : ¬ s = mp ∧ ¬ mp = s := zgs.1
      have d8s : ¬ r8 = s ∧ ¬ s = r8 := zg8.1
      have d8m : ¬ r8 = mp ∧ ¬ mp = r8 := zg8.2.1
      have h4n : H r4 = none := zg4
      have h5n : H r5 = none := zg5.2
      have h6n : H r6 = none := zg6.2.2
      have d54 : ¬ r5 = r4 ∧ ¬ r4 = r5 := zg5.1
      have d65 : ¬ r6 = r5 ∧ ¬ r5 = r6 := zg6.1
      have d64 : ¬ r6 = r4 ∧ ¬ r4 = r6 := zg6.2.1
      refine ⟨rfl, ?_⟩
      show vcL _ [] _ ⟨_, [{ target := .fn (.func 38) #[.pointer (some ⟨r8, 0, none⟩), .pointer (some ⟨r4, 0, none⟩), .pointer (some ⟨r5, 0, none⟩), .pointer (some ⟨r6, 0, none⟩)], args := #[] }]⟩ _
      rw [← hH6]
      clear hH6 zhm zgm zhs zgs zh8 zg8 zh4 zg4 zh5 zg5 zh6 zg6
      have hrr := rightF_ok hr
      have hst : RefS (H6.set r8 (.cells 71 [ptrV s 0] 0)) (((H6.set mp (.map (keysOf Try.prog 75) fun _ => none)).set s (.cells 77 [rowsV rows, iV (unkN rows), .lit (.slice none 0 0), .lit (.slice none 0 0), iV most, .lit (.map (some mp))] 0)).set r8 (.cells 71 [ptrV s 0] 0)) s mp rows (unkN rows) most ⟨[], [], []⟩ := by
        refine ⟨.lit (.slice none 0 0), .lit (.slice none 0 0), _, _, ?_, ?_, ds.1, ?_, ?_, ?_, .inl ⟨rfl, rfl, rfl, rfl⟩, .inl ⟨rfl, rfl, rfl, rfl⟩⟩
        · rw [AH.get, if_neg d8s.2]; exact es
        · rw [AH.get, if_neg d8m.2]; exact em
        · exact SubH.set (SubH.of_set (SubH.new em) es) _ _
        · rw [AH.get, if_neg d8s.2, AH.set_same]
        · rw [AH.get, if_neg d8m.2, AH.get, if_neg ds.2, AH.set_same]; rfl
      have B8 : (H6.set r8 (.cells 71 [ptrV s 0] 0)) r8 = some (.cells 71 [ptrV s 0] 0) := AH.set_same _ _ _
      have ne8 : ∀ {i b}, H6 i = some b → ¬ i = r8 := fun h => (AH.ne_of h e8).1
      have B4 : (H6.set r8 (.cells 71 [ptrV s 0] 0)) r4 = some (.cells 28 [.lit (.slice none 0 0)] 0) := by rw [AH.get, if_neg (ne8 a4)]; exact a4
      have B5 : (H6.set r8 (.cells 71 [ptrV s 0] 0)) r5 = some (.cells 4 [boolV false] 0) := by rw [AH.get, if_neg (ne8 a5)]; exact a5
      have B6 : (H6.set r8 (.cells 71 [ptrV s 0] 0)) r6 = some (.cells 25 [iV 0] 0) := by rw [AH.get, if_neg (ne8 a6)]; exact a6
      have hsB : SubH H (H6.set r8 (.cells 71 [ptrV s 0] 0)) := hs6.of_set (hs6.none e8)
      generalize (H6.set r8 (.cells 71 [ptrV s 0] 0)) = B at hst B8 B4 B5 B6 hsB
      have hrl : (rows.length : Int) ≤ 1000000 := by have := hrr.1; omega
      (repeat' (first | (refine search40 (B := B) (mp := mp) (rows := rows) (n := unkN rows) (most := most) hst (by omega) (by omega) (fun r h => len_unkN h) (by omega) hrl ?_) | (simp only [↓s_reg, ↓s_seq, ↓s_nil, ↓s_consN, ↓s_thenN, ↓s_kret, ↓s_putS, ↓s_dOkS, ↓s_ev_t, ↓s_ev_f, ↓s_upd, ↓s_load, ↓s_callV, ↓s_callL, List.map_cons, List.map_nil, List.getD_cons_succ, List.getD_nil, ite_true, ite_false, Nat.reduceEqDiff, Nat.reduceLT, true_and, Nat.succ_ne_self, AH.get, eq_self, List.drop, ldV_f, n_ldP, n_ldA, n_ldB, ldT_71, en_40, *])))
      have hg := search_good (rows := rows) (n := unkN rows) (most := most) (by omega)
      have hF : refuteF rows most = match searchS rows (unkN rows) most with
          | .ok _ => ([], false, 0)
          | .error (.found, st) => (neededF st.ls, true, 0)
          | .error (.stop c, _) => ([], false, c) := by unfold refuteF; rw [if_pos hr, if_neg hb]
      have hen : enterable Try.prog 38 = true := en38
      cases e : searchS rows (unkN rows) most with
      | error p =>
        obtain ⟨o, st⟩ := p
        rw [e] at hg hF
        intro H' h'
        cases o with
        | stop c =>
          rw [refuteX_of (p := ([], false, c)) hF]
          refine ⟨by simp, hen, [ptrV r8 0, ptrV r4 0, ptrV r5 0, ptrV r6 0], H', GhL.cons (GhV.refl _ _) (GhL.cons (GhV.refl _ _) (GhL.cons (GhV.refl _ _) (GhL.cons (GhV.refl _ _) (GhL.nil _)))), ?_⟩
          refine def38_stop (h'.sub _ _ B4) (h'.sub _ _ B5) (h'.sub _ _ B6) d54.2 d64.2 d65.2 d54.1 d64.1 d65.1 (fun u H2 h2 => ?_)
          refine rfLeave (r4 := r4) (r5 := r5) (r6 := r6) (v := .lit (.slice none 0 0)) (by simp only [s_upd, Nat.reduceEqDiff, if_true, if_false, *] <;> rfl) (by simp only [s_upd, Nat.reduceEqDiff, if_true, if_false, *] <;> rfl) (by simp only [s_upd, Nat.reduceEqDiff, if_true, if_false, *] <;> rfl) (h2 _ _ (by simp only [AH.get, *, if_true, if_false] <;> rfl)) (h2 _ _ (by simp only [AH.get, *, if_true, if_false] <;> rfl)) (h2 _ _ (by simp only [AH.get, *, if_true, if_false] <;> rfl)) ⟨_, _, _, rfl⟩ (rfNil (SubH.trans ?_ h2) _ _)
          exact SubH.of_set (SubH.of_set (SubH.of_set (hsB.trans h'.sub) h4n) h5n) h6n
        | found =>
          obtain ⟨hgd, ms, r, hms, hab⟩ := hg
          rw [refuteX_of (p := (neededF st.ls, true, 0)) hF]
          refine ⟨by simp, hen, [ptrV r8 0, ptrV r4 0, ptrV r5 0, ptrV r6 0], H', GhL.cons (GhV.refl _ _) (GhL.cons (GhV.refl _ _) (GhL.cons (GhV.refl _ _) (GhL.cons (GhV.refl _ _) (GhL.nil _)))), ?_⟩
          have hne : st.ls ≠ [] := fun e0 => by have := hgd.len; rw [e0, hms] at this; simp at this
          refine def38_found h' hgd hne (by omega) B8 B4 B5 B6 d54.2 d64.2 d65.2 d54.1 d64.1 d65.1 (fun u v Hc H2 ho2 hsc => ?_)
          have h2 := hsc.trans ho2.sub
          obtain ⟨xa, xc, hv⟩ := ho2.form
          refine rfLeave (r4 := r4) (r5 := r5) (r6 := r6) (v := v) (by simp only [s_upd, Nat.reduceEqDiff, if_true, if_false, *] <;> rfl) (by simp only [s_upd, Nat.reduceEqDiff, if_true, if_false, *] <;> rfl) (by simp only [s_upd, Nat.reduceEqDiff, if_true, if_false, *] <;> rfl) (h2 _ _ (by simp only [AH.get, *, if_true, if_false] <;> rfl)) (h2 _ _ (by simp only [AH.get, *, if_true, if_false] <;> rfl)) (h2 _ _ (by simp only [AH.get, *, if_true, if_false] <;> rfl)) ⟨_, _, _, hv⟩ ?_
          refine GhV.tuple (GhL.cons (GhV.back ho2 (SubH.trans ?_ hsc)) (GhL.cons (GhV.refl _ _) (GhL.cons (GhV.refl _ _) (GhL.nil _))))
          exact SubH.of_set (SubH.of_set (SubH.of_set (hsB.trans h'.sub) h4n) h5n) h6n
      | ok st =>
        rw [e] at hF
        intro H' u h'
        have c4 := h'.sub _ _ B4
        have c5 := h'.sub _ _ B5
        have c6 := h'.sub _ _ B6
        rw [refuteX_of (p := ([], false, 0)) hF]
        clear hF e hg
        have hsH := hsB.trans h'.sub
        (repeat' (first | (simp only [↓s_reg, ↓s_seq, ↓s_ret, ↓s_nil, ↓s_consN, ↓s_thenN, ↓s_kret, ↓s_putS, ↓s_putN, ↓s_dOkN, ↓s_ev_t, ↓s_ev_c, ↓s_upd, ↓s_store, boolV, List.length_cons, List.length_nil, List.getD_cons_succ, List.getD_nil, ite_true, ite_false, Nat.reduceEqDiff, true_and, Nat.succ_ne_self, AH.get, setAt, List.all_cons, List.all_nil, Bool.and_self, eq_self, Nat.zero_add, cl_int, on_int, cl_bool, on_bool, cl_sl, on_sl, List.set_cons_zero, Nat.le_refl, n_stP, n_stA, szT_28, szT_4, szT_25, *])))
        refine ⟨by simp, hen, [ptrV r8 0, ptrV r4 0, ptrV r5 0, ptrV r6 0], _, GhL.cons (GhV.refl _ _) (GhL.cons (GhV.refl _ _) (GhL.cons (GhV.refl _ _) (GhL.cons (GhV.refl _ _) (GhL.nil _)))), ?_⟩
        refine def38_nil (by simp) (fun u => ?_)
        exact rfLeave (r4 := r4) (r5 := r5) (r6 := r6) (by simp only [s_upd, Nat.reduceEqDiff, if_true, if_false, *] <;> rfl) (by simp only [s_upd, Nat.reduceEqDiff, if_true, if_false, *] <;> rfl) (by simp only [s_upd, Nat.reduceEqDiff, if_true, if_false, *] <;> rfl) (by simp only [AH.get, *, if_true, if_false] <;> rfl) (by simp only [AH.get, *, if_true, if_false] <;> rfl) (by simp only [AH.get, *, if_true, if_false] <;> rfl) ⟨_, _, _, rfl⟩ (rfNil (SubH.of_set (SubH.of_set (SubH.of_set hsH h4n) h5n) h6n) _ _)
  · (repeat' (first | (simp only [↓s_reg, ↓s_seq, ↓s_cond, ↓s_condT, ↓s_ret, ↓s_nil, ↓s_consN, ↓s_thenN, ↓s_thenR, ↓s_kret, ↓s_putS, ↓s_putN, ↓s_dOkS, ↓s_dOkN, ↓s_ev_t, ↓s_ev_c, ↓s_ev_f, ↓s_upd, ↓s_move, ↓s_assign, ↓s_store, ↓s_bin, ↓s_alloc, ↓s_callV, ↓s_callL, ↓s_bin_neq, ptrV, List.map_cons, List.map_nil, List.length_cons, List.length_nil, List.getD_cons_zero, List.getD_cons_succ, List.getD_nil, ite_true, ite_false, Nat.reduceEqDiff, Nat.reduceLT, true_and, Nat.succ_ne_self, decide_false, Bool.not_false, reduceCtorEq, undefV, AH.get, setAt, List.all_cons, List.all_nil, Bool.and_self, eq_self, Nat.zero_add, cl_int, on_int, cl_bool, on_bool, cl_sl, on_sl, List.set_cons_zero, ↓n_alloc, n_allocS, Nat.le_refl, n_stP, n_stA, undef, szT_28, szT_4, szT_25, zeroT_28, zeroT_4, zeroT_25, en_36, *]) | (refine allNew_intro fun zr zh => ?_; have zg := zh; (try simp only [AH.set_none] at zg)) | (refine PureF.use (right36 _ h1) ?_)))
    rw [refuteX_of (p := ([], false, rightF rows)) (by simp [refuteF, *])]
    exact rfLeave (by simp only [s_upd, Nat.reduceEqDiff, if_true, if_false, *] <;> rfl) (by simp only [s_upd, Nat.reduceEqDiff, if_true, if_false, *] <;> rfl) (by simp only [s_upd, Nat.reduceEqDiff, if_true, if_false, *] <;> rfl) (by simp only [AH.get, *, if_true, if_false] <;> rfl) (by simp only [AH.get, *, if_true, if_false] <;> rfl) (by simp only [AH.get, *, if_true, if_false] <;> rfl) ⟨_, _, _, rfl⟩ (rfNil (by repeat (first | assumption | exact SubH.refl _ | refine SubH.of_set ?_ (by simp only [*]))) _ _)
end Go.PV.Ytefpjfpelicedaa
end
section
/- The chapter's example. -/
set_option linter.unusedVariables false
set_option linter.unusedSimpArgs false
set_option maxRecDepth 20000
set_option maxHeartbeats 4000000
namespace Go.PV
/-- What is represented by one is by the other. -/
def Weak (x y : VV) : Prop := ∀ S w u, Rv S w x u → Rv S w y u
def WeakC : List VV → List VV → Prop
  | _, [] => True
  | x :: xs, y :: ys => Weak x y ∧ WeakC xs ys
  | [], _ :: _ => False
def WeakL : List VV → List VV → Prop
  | [], [] => True
  | x :: xs, y :: ys => Weak x y ∧ WeakL xs ys
  | _, _ => False
theorem Weak.refl (x : VV) : Weak x x := fun _ _ _ h => h
theorem WeakC.rv : ∀ {xs ys : List VV}, WeakC xs ys → ∀ {S : Nat → Prop} {w : World} {r o : Nat}, RvC S w xs r o → RvC S w ys r o
  | _, [], _, _, _, _, _, _ => trivial
  | x :: xs, y :: ys, h, S, w, r, o, hr => by
    obtain ⟨⟨u, h1, h2⟩, h3⟩ := hr
    exact ⟨⟨u, h1, h.1 _ _ _ h2⟩, h.2.rv h3⟩
theorem WeakL.rv : ∀ {xs ys : List VV}, WeakL xs ys → ∀ {S : Nat → Prop} {w : World} {us : List Value}, RvL S w xs us → RvL S w ys us
  | [], [], _, _, _, _, h => h
  | x :: xs, y :: ys, h, S, w, us, hr => by
    obtain ⟨u, us', rfl, h2, h3⟩ := hr
    exact ⟨u, us', rfl, h.1 _ _ _ h2, h.2.rv h3⟩
theorem Weak.slice {ex : Bool} {n : Nat} {cs ds : List VV} (h : WeakC cs ds) : Weak (.slice ex n cs) (.slice false n ds) := fun S w u hu => by
  obtain ⟨a, cap, rfl, ⟨h1, _⟩, h3⟩ := hu
  refine ⟨a, cap, rfl, ⟨h1, fun e => by cases e⟩, fun hn => ?_⟩
  obtain ⟨r, o, e, hs, hc⟩ := h3 hn
  exact ⟨r, o, e, hs, h.rv hc⟩
theorem WeakC.refl : ∀ (l : List VV), WeakC l l
  | [] => trivial
  | x :: l => ⟨.refl x, WeakC.refl l⟩
theorem PureF.weak {P : Program} {f : FuncId} {xs ys : List VV} {x : VV} (h : PureF P f xs x) (hw : WeakL ys xs) : PureF P f ys x := fun H S w args hs hx => h H S w args hs (hw.rv hx)
end Go.PV
namespace Go.PV.Ytefpjfpelicedaa
open Go Go.Proofs
def rows0 : List Row := [⟨[1, 1], 1⟩, ⟨[-1], -2⟩]
def lines0 : List Line := [⟨1, 0, 0, 0, 0⟩, ⟨1, 1, 0, 0, 0⟩, ⟨2, 1, 0, 0, 0⟩, ⟨3, 0, 1, 1, 1⟩, ⟨3, 3, 2, 1, 1⟩]
def made0 : List Row := [⟨[1, 1], 1⟩, ⟨[-1, 0], -2⟩, ⟨[0, -1], 0⟩, ⟨[0, 1], -1⟩, ⟨[0, 0], -1⟩]
theorem derive0 : deriveF rows0 lines0 = (made0, 0) := by kernel_rfl
def cert0 : List Line := (refuteF rows0 100).1
theorem refute0 : refuteF rows0 100 = (cert0, true, 0) := by kernel_rfl
theorem check0 : checkF rows0 lines0 = 0 := by kernel_rfl
theorem check1 : checkF rows0 cert0 = 0 := by kernel_rfl
theorem cert0_len : cert0.length = 5 := by kernel_rfl
abbrev rv0 : VV := .slice true 2 [.slice true 2 [iV 1, iV 1], iV 1, .slice true 1 [iV (-1)], iV (-2)]
abbrev lv0 : VV := .slice true 5 [iV 1, iV 0, iV 0, iV 0, iV 0, iV 1, iV 1, iV 0, iV 0, iV 0, iV 2, iV 1, iV 0, iV 0, iV 0, iV 3, iV 0, iV 1, iV 1, iV 1, iV 3, iV 3, iV 2, iV 1, iV 1]
theorem weakR : Weak rv0 (rowsV rows0) := Weak.slice (ds := encC rowE rows0) ⟨Weak.slice (WeakC.refl _), Weak.refl _, Weak.slice (WeakC.refl _), Weak.refl _, trivial⟩
theorem weakV : Weak lv0 (linesV lines0) := Weak.slice (ds := encC lineE lines0) (WeakC.refl _)
theorem weakR1 : Weak (.slice false 1 [.slice true 2 [iV 1, iV 1], iV 1, .slice true 1 [iV (-1)], iV (-2)]) (rowsV [⟨[1, 1], 1⟩]) := Weak.slice (ds := encC rowE [⟨[1, 1], 1⟩]) ⟨Weak.slice (WeakC.refl _), Weak.refl _, trivial⟩
theorem point0 : pointF [⟨[1, 1], 1⟩] 3 = ([0, 0], true, 0) := by kernel_rfl
theorem made0_drop : (encC rowE made0).drop 8 = [intsV [0, 0], iV (-1)] := rfl
theorem awake8 : PureF Try.prog 8 [] (boolV true) := by
  have hD : PureF Try.prog 22 [rv0, lv0] (.tuple [rowsV made0, iV 0]) := by
    have := (derive22 rows0 lines0 (by decide) (by decide)).weak (ys := [rv0, lv0]) ⟨weakR, weakV, trivial⟩
    rw [derive0] at this; exact this
  have hR : PureF Try.prog 11 [rv0, iV 100] (.tuple [linesV cert0, boolV true, iV 0]) := by
    have := (refute11 rows0 100 (by decide)).weak (ys := [rv0, iV 100]) ⟨weakR, .refl _, trivial⟩
    rw [refuteX_of refute0] at this; exact this
  have hC : PureF Try.prog 13 [rv0, lv0] (iV 0) := by
    have := (check13 rows0 lines0 (by decide) (by decide)).weak (ys := [rv0, lv0]) ⟨weakR, weakV, trivial⟩
    rw [check0] at this; exact this
  have hC1 : PureF Try.prog 13 [rv0, linesV cert0] (iV 0) := by
    have := (check13 rows0 cert0 (by decide) (by rw [cert0_len]; decide)).weak (ys := [rv0, linesV cert0]) ⟨weakR, .refl _, trivial⟩
    rw [check1] at this; exact this
  have hP : PureF Try.prog 31 [.slice false 1 [.slice true 2 [iV 1, iV 1], iV 1, .slice true 1 [iV (-1)], iV (-2)], iV 3] (.tuple [intsV [0, 0], boolV true, iV 0]) := by
    have := (point31 [⟨[1, 1], 1⟩] 3 (by decide)).weak (ys := [.slice false 1 [.slice true 2 [iV 1, iV 1], iV 1, .slice true 1 [iV (-1)], iV (-2)], iV 3]) ⟨weakR1, .refl _, trivial⟩
    rw [pointX_of point0] at this; exact this
  have hE : PureF Try.prog 32 [intsV [0, 0], .slice true 2 [iV 0, iV 0]] (boolV true) :=
    (equal32 [0, 0] [0, 0] (by decide)).weak (ys := [intsV [0, 0], .slice true 2 [iV 0, iV 0]]) ⟨.refl _, Weak.slice (ds := encC intE [0, 0]) (WeakC.refl _), trivial⟩
  have hml : made0.length = 5 := rfl
  refine PureF.forget fun H => ?_
  refine vcalls_intro fd8 (by simp) ?_
  unfold c8
  (repeat' (first | (simp only [↓s_reg, ↓s_seq, ↓s_ret, ↓s_nil, ↓s_consN, ↓s_consG, ↓s_guardTT, ↓s_guardFT, ↓s_thenN, ↓s_kret, ↓s_putS, ↓s_dOkS, ↓s_ev_t, ↓s_ev_c, ↓s_ev_f, ↓s_upd, ↓s_move, ↓s_assign, ↓s_isBool, ↓s_pickA, ↓s_pick, ↓s_load, ↓s_bin, ↓s_build, ↓s_buildSlice, ↓s_slice, ↓s_fieldAddr, ↓s_indexAddr, ↓s_extract, ↓s_callB, ↓s_callV, ↓s_callL, ↓s_len, ↓s_bin_eql, vcExtract, intV, boolV, List.map_cons, List.map_nil, List.length_cons, List.length_nil, List.getD_nil, List.cons_append, List.nil_append, List.append_nil, ite_true, ite_false, Nat.reduceEqDiff, Nat.reduceLT, Nat.reduceAdd, Nat.reduceMul, Nat.reduceSub, Nat.reduceLeDiff, ne_eq, not_false_eq_true, not_true_eq_false, true_and, and_true, List.drop_zero, Bool.false_eq_true, Nat.zero_ne_one, Nat.succ_ne_self, decide_true, decide_false, Bool.true_and, reduceCtorEq, Nat.mul_one, callOk, undefV, vcBuild, fillV, setAt, eq_self, Nat.zero_add, List.drop, and_self, List.getElem?_cons_zero, List.getElem?_cons_succ, ldV_f, cl_int, cl_agg, cl_slice, List.set_cons_zero, List.set_cons_succ, Nat.le_refl, n_ldI, n_faI, n_ixS, n_ixA1, n_lenS, n_ldC, n_ldB, n_faA, undef, Int.reduceLT, Int.reduceLE, Int.reduceNeg, vcBuildSlice, List.replicate_succ, List.replicate_zero, List.flatten_cons, List.flatten_nil, vcSlice, Option.map_none, Option.map_some, sliceOk, idxV, idxOk, made0_drop, Int.reduceToNat, flT_50_1, ldT_3, zeroT_50, stT_50, zeroT_52, stT_52, elT_37, zeroT_3, elT_31, elT_28, en_22, en_11, en_31, en_13, en_32, *]) | (refine guardL_splitTD ?_ ?_ <;> intro) | (refine ret_tmp ?_) | (exact SubH.refl _) | (refine PureF.use (hD) ?_) | (refine PureF.use (hR) ?_) | (refine PureF.use (hC) ?_) | (refine PureF.use (hC1) ?_) | (refine PureF.use (hP) ?_) | (refine PureF.use (hE) ?_) | (with_reducible refine And.intro ?_ ?_)))
  · exact fun _ => trivial
  · exact absurd rfl (by assumption : ¬ ((5 : Nat) : Int) = 5)
end Go.PV.Ytefpjfpelicedaa
end
section
/- The law on what numbers fulfil: what its program computes. -/
set_option linter.unusedVariables false
set_option linter.unusedSimpArgs false
set_option maxRecDepth 20000
set_option maxHeartbeats 4000000
namespace Go.PV.Ytefpjfpelicedaa
open Go Go.Proofs
theorem few_len {rows : List Row} {ls : List Line} {m : Int} (h : fewF rows ls m = true) : (rows.length : Int) ≤ 110 ∧ (ls.length : Int) ≤ m ∧ ∀ r ∈ rows, (r.c.length : Int) ≤ 20 := by
  simp only [fewF, Bool.and_eq_true, decide_eq_true_eq, Bool.not_eq_true', List.any_eq_false] at h
  exact ⟨h.1.1, h.1.2, fun r hr => by have := h.2 r hr; simpa using this⟩
end Go.PV.Ytefpjfpelicedaa
end
section
/- Numbers that fulfil rows fulfil what lines make of them. -/
set_option linter.unusedVariables false
set_option linter.unusedSimpArgs false
set_option maxRecDepth 20000
set_option maxHeartbeats 4000000
namespace Go.PV.Ytefpjfpelicedaa
def dot : List Int → List Int → Int
  | c :: cs, y :: ys => c * y + dot cs ys
  | _, _ => 0
def SmallC (cs : List Int) : Prop := ∀ c ∈ cs, -1000000000000 ≤ c ∧ c ≤ 1000000000000
def SmallX (xs : List Int) : Prop := ∀ y ∈ xs, 0 ≤ y ∧ y ≤ 1000
theorem mul_small {c y : Int} (h1 : -1000000000000 ≤ c ∧ c ≤ 1000000000000) (h2 : 0 ≤ y ∧ y ≤ 1000) : -1000000000000000 ≤ c * y ∧ c * y ≤ 1000000000000000 := by
  have a := Int.mul_le_mul_of_nonneg_right h1.1 h2.1
  have b := Int.mul_le_mul_of_nonneg_right h1.2 h2.1
  constructor <;> omega
theorem dotGo_eq {M E : Int} (hM : M = 9000000000000000000) (hE : E = 1000000000000000) : ∀ (cs ys : List Int) (s : Int), SmallC cs → SmallX ys → -(M - cs.length * E) ≤ s → s ≤ M - cs.length * E → dotGo cs ys s = s + dot cs ys
  | [], ys, s, _, _, _, _ => by cases ys <;> simp [dotGo, dot]
  | c :: cs, [], s, _, _, _, _ => by simp [dotGo, dot]
  | c :: cs, y :: ys, s, h1, h2, h3, h4 => by
    have hm := mul_small (h1 c (List.mem_cons_self ..)) (h2 y (List.mem_cons_self ..))
    simp only [List.length_cons, Int.natCast_add, Int.natCast_one, hM, hE] at h3 h4
    have w1 : W (c * y) = c * y := wrap_ok (by omega) (by omega)
    have w2 : W (s + c * y) = s + c * y := wrap_ok (by omega) (by omega)
    simp only [dotGo, dot]
    rw [w1, w2, dotGo_eq hM hE cs ys (s + c * y) (fun x hx => h1 x (List.mem_cons_of_mem _ hx)) (fun x hx => h2 x (List.mem_cons_of_mem _ hx)) (by simp only [hM, hE]; omega) (by simp only [hM, hE]; omega)]
    omega
theorem dot_zeros : ∀ (k : Nat) (x : List Int), dot (List.replicate k 0) x = 0
  | 0, x => by cases x <;> rfl
  | k + 1, [] => rfl
  | k + 1, y :: ys => by rw [List.replicate_succ, dot, dot_zeros k ys]; simp
theorem dot_append : ∀ (l : List Int) (k : Nat) (x : List Int), dot (l ++ List.replicate k 0) x = dot l x
  | [], k, x => by rw [List.nil_append, dot_zeros]; cases x <;> rfl
  | c :: l, k, [] => rfl
  | c :: l, k, y :: ys => by rw [List.cons_append, dot, dot, dot_append l k ys]
theorem wideL_eq {l : List Int} {n : Nat} (h : l.length ≤ n) : wideL l n = l ++ List.replicate (n - l.length) 0 := by
  rw [wideL, List.take_append, List.take_of_length_le h, List.take_replicate, Nat.min_eq_left (by omega)]
theorem dot_nat : ∀ (n a : Nat) (v : Int) (x : List Int), a < n → n = x.length → ∃ y ∈ x, dot ((List.replicate n 0).set a v) x = v * y
  | n + 1, 0, v, y :: ys, _, _ => ⟨y, List.mem_cons_self .., by rw [List.replicate_succ, List.set_cons_zero, dot, dot_zeros]; omega⟩
  | n + 1, a + 1, v, y :: ys, h, hn => by
    obtain ⟨z, hz, e⟩ := dot_nat n a v ys (by omega) (by simpa using hn)
    exact ⟨z, List.mem_cons_of_mem _ hz, by rw [List.replicate_succ, List.set_cons_succ, dot, e]; omega⟩
theorem dot_sum : ∀ (a b : List Int) (m k : Int) (x : List Int), a.length = b.length → dot (sumL a b m k) x = dot a x * m + dot b x * k
  | [], [], m, k, x, _ => by cases x <;> simp [sumL, dot]
  | a :: cs1, b :: bs, m, k, [], _ => by simp [sumL, dot]
  | a :: cs1, b :: bs, m, k, y :: ys, h => by
    have ih := dot_sum cs1 bs m k ys (by simpa using h)
    simp only [sumL, List.zipWith_cons_cons, dot] at ih ⊢
    rw [ih]
    have e1 : (a * m + b * k) * y = a * y * m + b * y * k := by
      rw [Int.add_mul, Int.mul_right_comm a m y, Int.mul_right_comm b k y]
    rw [e1, Int.add_mul, Int.add_mul]
    omega
theorem dot_div : ∀ (a : List Int) (m : Int) (x : List Int), (∀ c ∈ a, c.tmod m = 0) → dot a x = dot (a.map fun c => c.tdiv m) x * m
  | [], m, x, _ => by cases x <;> simp [dot]
  | a :: cs1, m, [], _ => by simp [dot]
  | a :: cs1, m, y :: ys, h => by
    have ih := dot_div cs1 m ys fun c hc => h c (List.mem_cons_of_mem _ hc)
    have h1 : a = m * a.tdiv m := by
      have := Int.mul_tdiv_add_tmod a m
      rw [h a (List.mem_cons_self ..)] at this
      omega
    simp only [List.map_cons, dot]
    rw [ih, Int.add_mul]
    congr 1
    conv => lhs; rw [h1]
    rw [Int.mul_comm m, Int.mul_assoc, Int.mul_comm m y, ← Int.mul_assoc]
theorem floor_ge {b m q : Int} (hb : -1000000000000 ≤ b ∧ b ≤ 1000000000000) (hm : 1 ≤ m ∧ m ≤ 1000000) (h : q * m ≤ b) : q ≤ floorF b m := by
  have h2 : (b.tdiv m).natAbs ≤ b.natAbs := Int.natAbs_tdiv_le_natAbs b m
  have h3 := Int.mul_tdiv_add_tmod b m
  have h4 : (b.tmod m).natAbs < m.natAbs := by rw [Int.natAbs_tmod]; exact Nat.mod_lt _ (by omega)
  have e : m * b.tdiv m = b.tdiv m * m := Int.mul_comm _ _
  have w1 : W (b.tdiv m) = b.tdiv m := wrap_ok (by omega) (by omega)
  have w2 : W (b.tdiv m * m) = b.tdiv m * m := wrap_ok (by omega) (by omega)
  have w3 : W (b.tdiv m - 1) = b.tdiv m - 1 := wrap_ok (by omega) (by omega)
  unfold floorF
  rw [w1, w2, w3]
  have key : ∀ p : Int, p ≤ q → p * m ≤ q * m := fun p hp => Int.mul_le_mul_of_nonneg_right hp (by omega)
  split
  · rename_i c
    refine Int.le_of_not_gt fun hq => ?_
    have := key (b.tdiv m) (by omega)
    omega
  · rename_i c
    refine Int.le_of_not_gt fun hq => ?_
    have := key (b.tdiv m + 1) (by omega)
    rw [Int.add_mul] at this
    omega
theorem fits_small {n : Nat} {r : Row} (h : Fits n r) : SmallC r.c ∧ -1000000000000 ≤ r.b ∧ r.b ≤ 1000000000000 := by
  constructor
  · intro c hc; have := h.2.2 c hc; simpa [far2] using this
  · have := h.2.1; simpa [far2] using this
def Sat (x : List Int) (r : Row) : Prop := dot r.c x ≤ r.b
theorem outF_sat {x : List Int} {r : Row} (h : Sat x r) (h2 : (outF r).2 = 0) : Sat x (outF r).1 := by
  unfold outF at *
  split at h2
  · simp at h2
  · rename_i c; rw [if_neg c]; exact h
theorem makeF_sat {rows made : List Row} {n : Nat} {l : Line} {x : List Int} (hx : SmallX x) (hn : n = x.length) (hr : ∀ r ∈ rows, r.c.length ≤ n ∧ Sat x r) (hm : ∀ r ∈ made, Fits n r ∧ Sat x r) (h : (makeF rows made n l).2 = 0) : Sat x (makeF rows made n l).1 := by
  have hat : ∀ {L : List Row} {a : Int}, 0 ≤ a → a < (L.length : Int) → rowAt L a ∈ L := fun {L a} h0 h1 => by
    have h2 : a.toNat < L.length := by omega
    unfold rowAt
    rw [List.getD_eq_getElem?_getD]
    simp only [h2, List.getElem?_eq_getElem, Option.getD_some]; exact List.getElem_mem _
  revert h
  unfold makeF
  split
  · split
    · rename_i c
      obtain ⟨r1, r2⟩ := hr _ (hat c.2.1 c.2.2)
      refine outF_sat ?_
      show dot (wideL _ n) x ≤ _
      rw [wideL_eq r1, dot_append]; exact r2
    · simp
  split
  · split
    · rename_i c
      refine outF_sat ?_
      obtain ⟨y, hy, e⟩ := dot_nat n l.a.toNat (-1) x (by omega) hn
      show dot _ x ≤ 0
      rw [e]
      have := (hx y hy).1
      omega
    · simp
  split
  · split
    · rename_i c
      obtain ⟨fa, sa⟩ := hm _ (hat c.1.1 c.1.2)
      obtain ⟨fb, sb⟩ := hm _ (hat c.2.1.1 c.2.1.2)
      refine outF_sat ?_
      show dot (sumL _ _ _ _) x ≤ (rowAt made l.a).b * l.m + (rowAt made l.b).b * l.n
      rw [dot_sum _ _ _ _ _ (by rw [fa.1, fb.1])]
      have p1 := Int.mul_le_mul_of_nonneg_right sa (by omega : 0 ≤ l.m)
      have p2 := Int.mul_le_mul_of_nonneg_right sb (by omega : 0 ≤ l.n)
      omega
    · simp
  split
  · split
    · rename_i c
      obtain ⟨fa, sa⟩ := hm _ (hat c.1.1 c.1.2)
      split
      · simp
      · rename_i c2
        refine outF_sat ?_
        have hall : ∀ z ∈ (rowAt made l.a).c, z.tmod l.m = 0 := fun z hz => by
          simp only [Bool.not_eq_true, List.any_eq_false] at c2
          simpa using c2 z hz
        have e := dot_div _ l.m x hall
        exact floor_ge (fits_small fa).2 c.2.1 (by rw [← e]; exact sa)
    · simp
  · simp
theorem deriveGo_sat {rows : List Row} {n : Nat} {x : List Int} (hx : SmallX x) (hn : n = x.length) (hr : ∀ r ∈ rows, r.c.length ≤ n ∧ Sat x r) : ∀ (ls : List Line) (made : List Row), (∀ r ∈ made, Fits n r ∧ Sat x r) → ∀ r ∈ (deriveGo rows n made ls).1, Fits n r ∧ Sat x r
  | [], made, h => h
  | l :: ls, made, h => by
    unfold deriveGo
    split
    · rename_i he
      refine deriveGo_sat hx hn hr ls _ fun r hr' => ?_
      rcases List.mem_append.1 hr' with hr' | hr'
      · exact h r hr'
      · rw [List.mem_singleton.1 hr']
        exact ⟨makeF_ok (fun r h' => (h r h').1) he, makeF_sat hx hn hr h he⟩
    · simp
end Go.PV.Ytefpjfpelicedaa
end
section
/- The plain law of ArithMore: more rows, more lines. -/
set_option linter.unusedVariables false
set_option linter.unusedSimpArgs false
set_option maxRecDepth 20000
namespace Go.PV.Ytefpjfpelicedaa
open Go Go.Proofs
theorem rowAt_get {l : List Row} {a : Int} (h0 : 0 ≤ a) (h1 : a < (l.length : Int)) : rowAt l a = l[a.toNat]'(by omega) := by
  unfold rowAt
  have h : a.toNat < l.length := by omega
  rw [List.getD_eq_getElem?_getD]
  simp only [h, List.getElem?_eq_getElem, Option.getD_some]
theorem rowAt_mem {l : List Row} {a : Int} (h0 : 0 ≤ a) (h1 : a < (l.length : Int)) : rowAt l a ∈ l := by
  rw [rowAt_get h0 h1]; exact List.getElem_mem _
theorem rowAt_left {l m : List Row} {a : Int} (h0 : 0 ≤ a) (h1 : a < (l.length : Int)) : rowAt (l ++ m) a = rowAt l a := by
  rw [rowAt_get h0 (by simp; omega), rowAt_get h0 h1, List.getElem_append_left]
theorem rowAt_right {l m : List Row} {a : Int} {k : Nat} (hk : k = l.length) (h0 : 0 ≤ a) (h1 : a < (m.length : Int)) : rowAt (l ++ m) (a + k) = rowAt m a := by
  subst hk
  rw [rowAt_get (by omega) (by simp; omega), rowAt_get h0 h1, List.getElem_append_right (by omega)]
  congr 1
  omega
theorem deriveGo_count {rows : List Row} {n : Nat} : ∀ (ls : List Line) (made : List Row), (deriveGo rows n made ls).2 = 0 → (deriveGo rows n made ls).1.length = made.length + ls.length
  | [], made, _ => rfl
  | l :: ls, made, h => by
    rw [deriveGo] at h ⊢
    split at h
    · rename_i he
      rw [if_pos he, deriveGo_count ls _ h]
      simp; omega
    · rename_i he
      exact absurd h he
theorem lastF_zero {made : List Row} (h : lastF made = 0) : made ≠ [] ∧ absurdF (rowAt made ((made.length : Int) - 1)) = true := by
  unfold lastF at h
  split at h
  · omega
  · rename_i hc
    simp only [not_or] at hc
    exact ⟨hc.1, by simpa using hc.2⟩
theorem lastF_of {made : List Row} (h1 : made ≠ []) (h2 : absurdF (rowAt made ((made.length : Int) - 1)) = true) : lastF made = 0 := by
  unfold lastF
  rw [if_neg]
  simp [h1, h2]
theorem checkF_zero {rows : List Row} {ls : List Line} (h : checkF rows ls = 0) : rightF rows = 0 ∧ ls.length ≤ 5000 ∧ (deriveGo rows (unkN rows) [] ls).2 = 0 ∧ lastF (deriveGo rows (unkN rows) [] ls).1 = 0 ∧ deriveF rows ls = deriveGo rows (unkN rows) [] ls := by
  unfold checkF at h
  split at h
  · rename_i he
    unfold deriveF at h he
    by_cases hr : rightF rows = 0
    · rw [if_pos hr] at h he
      by_cases hl : 5000 < ls.length
      · rw [if_pos hl] at he; simp at he
      · rw [if_neg hl] at h he
        exact ⟨hr, by omega, he, h, by unfold deriveF; rw [if_pos hr, if_neg hl]⟩
    · rw [if_neg hr] at he
      exact absurd he hr
  · rename_i he
    exact absurd h he
theorem checkF_of {rows : List Row} {ls : List Line} (hr : rightF rows = 0) (hl : ls.length ≤ 5000) (h1 : (deriveGo rows (unkN rows) [] ls).2 = 0) (h2 : lastF (deriveGo rows (unkN rows) [] ls).1 = 0) : checkF rows ls = 0 := by
  have e : deriveF rows ls = deriveGo rows (unkN rows) [] ls := by unfold deriveF; rw [if_pos hr, if_neg (by omega)]
  unfold checkF
  rw [e, if_pos h1, h2]
theorem absurd_out {r : Row} (h : absurdF r = true) : r.b < 0 ∧ ∀ c ∈ r.c, c = 0 := by
  simp only [absurdF, Bool.and_eq_true, decide_eq_true_eq, Bool.not_eq_true', List.any_eq_false] at h
  exact ⟨h.1, fun c hc => by simpa using h.2 c hc⟩
end Go.PV.Ytefpjfpelicedaa
end
section
/- What a search finds is a certificate: the lines that the last one needs. -/
set_option linter.unusedVariables false
set_option linter.unusedSimpArgs false
set_option maxRecDepth 20000
namespace Go.PV.Ytefpjfpelicedaa
open Go Go.Proofs
theorem makeF_pair {rows made : List Row} {n : Nat} {l : Line} (h : (makeF rows made n l).2 = 0) : makeF rows made n l = ((makeF rows made n l).1, 0) := by rw [← h]
theorem deriveGo_at {rows : List Row} {n : Nat} : ∀ (ls : List Line) (m0 made : List Row), deriveGo rows n m0 ls = (made, 0) → made.length = m0.length + ls.length ∧ made.take m0.length = m0 ∧ ∀ i (h : i < ls.length) (h' : m0.length + i < made.length), makeF rows (made.take (m0.length + i)) n ls[i] = (made[m0.length + i], 0)
  | [], m0, made, h => by
    simp only [deriveGo, Prod.mk.injEq, and_true] at h
    subst h
    exact ⟨rfl, List.take_length, fun i h => absurd h (Nat.not_lt_zero _)⟩
  | l :: ls, m0, made, h => by
    rw [deriveGo] at h
    split at h
    · rename_i he
      obtain ⟨h1, h2, h3⟩ := deriveGo_at ls _ made h
      have e : (m0 ++ [(makeF rows m0 n l).1]).length = m0.length + 1 := by simp
      rw [e] at h1 h2 h3
      have t0 : made.take m0.length = m0 := by
        have := congrArg (List.take m0.length) h2
        rw [List.take_take, Nat.min_eq_left (by omega), List.take_left'] at this
        · exact this
        · rfl
      refine ⟨by simp; omega, t0, fun i hi hi' => ?_⟩
      cases i with
      | zero =>
        simp only [Nat.add_zero, List.getElem_cons_zero] at hi' ⊢
        rw [t0, makeF_pair he]
        have h4 : made.take (m0.length + 1) = made.take m0.length ++ [made[m0.length]] := List.take_succ_eq_append_getElem (by omega)
        rw [h2, t0] at h4
        have := List.append_cancel_left h4
        simp only [List.cons.injEq, and_true] at this
        rw [this]
      | succ i =>
        have := h3 i (by simpa using hi) (by omega)
        simp only [List.getElem_cons_succ]
        simp only [show m0.length + 1 + i = m0.length + (i + 1) from by omega] at this
        exact this
    · rename_i he
      simp only [Prod.mk.injEq] at h
      exact absurd h.2 he
/-- What a line that makes a row refers to. -/
def RefOk (i : Nat) (l : Line) : Prop := 3 ≤ l.k → (0 ≤ l.a ∧ l.a < (i : Int)) ∧ (l.k = 3 ∧ 0 ≤ l.b ∧ l.b < (i : Int) ∨ l.k = 4 ∧ l.b = 0)
theorem makeF_ref {rows made : List Row} {n : Nat} {l : Line} (h : (makeF rows made n l).2 = 0) : RefOk made.length l := by
  intro hk
  unfold makeF at h
  rw [if_neg (by omega), if_neg (by omega)] at h
  split at h
  · rename_i k3
    split at h
    · rename_i c; exact ⟨c.1, .inl ⟨k3, c.2.1⟩⟩
    · simp at h
  · split at h
    · rename_i k4
      split at h
      · rename_i c; exact ⟨c.1, .inr ⟨k4, c.2.2.1⟩⟩
      · simp at h
    · simp at h
theorem getD_set {α : Type} {l : List α} {i j : Nat} {v d : α} (h : i < l.length) : (l.set i v).getD j d = if i = j then v else l.getD j d := by
  rw [List.getD_eq_getElem?_getD, List.getD_eq_getElem?_getD, List.getElem?_set]
  split
  · rename_i e; subst e; simp [h]
  · rfl
def Closed (ls : List Line) (need : List Bool) (j : Nat) : Prop := need.getD j false = true → 3 ≤ (lineAt ls j).k → need.getD (lineAt ls j).a.toNat false = true ∧ ((lineAt ls j).k = 3 → need.getD (lineAt ls j).b.toNat false = true)
theorem needStep_len (ls : List Line) (need : List Bool) (i : Nat) : (needStep ls need i).length = need.length := by unfold needStep; split <;> simp
theorem needStep_get {ls : List Line} {need : List Bool} {i : Nat} (hi : i < need.length) (hr : RefOk i (lineAt ls i)) (j : Nat) :
    (need.getD j false = true → (needStep ls need i).getD j false = true) ∧ (i ≤ j → (needStep ls need i).getD j false = need.getD j false) ∧
    (need.getD i false = true → 3 ≤ (lineAt ls i).k → (needStep ls need i).getD (lineAt ls i).a.toNat false = true ∧ ((lineAt ls i).k = 3 → (needStep ls need i).getD (lineAt ls i).b.toNat false = true)) := by
  unfold needStep
  by_cases hc : need.getD i false = true ∧ 3 ≤ (lineAt ls i).k
  · rw [if_pos hc]
    obtain ⟨⟨a0, a1⟩, hb⟩ := hr hc.2
    have la : (lineAt ls i).a.toNat < i := by omega
    have lb : (lineAt ls i).b.toNat < need.length := by rcases hb with hb | hb <;> omega
    have l1 : (lineAt ls i).a.toNat < need.length := by omega
    have l2 : (lineAt ls i).b.toNat < (need.set (lineAt ls i).a.toNat true).length := by simpa using lb
    simp only [getD_set l2, getD_set l1]
    refine ⟨fun h => ?_, fun h => ?_, fun _ _ => ⟨?_, fun h3 => ?_⟩⟩
    · split
      · rename_i e
        rw [e, h]
        split <;> simp
      · split
        · rfl
        · exact h
    · rw [if_neg (show ¬ (lineAt ls i).a.toNat = j by omega)]
      split
      · rename_i e
        rcases hb with hb | hb
        · omega
        · rw [if_neg (by omega), e, decide_eq_false (by omega), Bool.or_false]
      · rfl
    · split
      · rename_i e
        rw [if_pos e.symm, Bool.true_or]
      · exact if_pos trivial
    · rw [if_pos trivial, decide_eq_true h3, Bool.or_true]
  · rw [if_neg hc]
    exact ⟨fun h => h, fun _ => rfl, fun h h2 => absurd ⟨h, h2⟩ hc⟩
theorem needF_closed {ls : List Line} : ∀ (i : Nat) (need : List Bool), i ≤ need.length → (∀ j, j < need.length → RefOk j (lineAt ls j)) → (∀ j, i ≤ j → j < need.length → Closed ls need j) →
    (needF ls i need).length = need.length ∧ (∀ j, need.getD j false = true → (needF ls i need).getD j false = true) ∧ ∀ j, j < need.length → Closed ls (needF ls i need) j
  | 0, need, _, _, h => ⟨rfl, fun _ h => h, fun j hj => h j (by omega) hj⟩
  | i + 1, need, hi, hr, h => by
    have hl := needStep_len ls need i
    have hg := needStep_get (ls := ls) (need := need) (i := i) (by omega) (hr i (by omega))
    obtain ⟨h1, h2, h3⟩ := needF_closed i (needStep ls need i) (by omega) (by rw [hl]; exact hr) (fun j hj hjl => by
      rw [hl] at hjl
      intro hn hk
      by_cases e : j = i
      · subst e
        rw [(hg j).2.1 (by omega)] at hn
        exact (hg j).2.2 hn hk
      · rw [(hg j).2.1 (by omega)] at hn
        obtain ⟨c1, c2⟩ := h j (by omega) hjl hn hk
        exact ⟨(hg _).1 c1, fun k3 => (hg _).1 (c2 k3)⟩)
    rw [hl] at h1 h3
    exact ⟨h1, fun j hj => h2 j ((hg j).1 hj), h3⟩
theorem need0_closed {ls : List Line} (h0 : 0 < ls.length) (hr : ∀ j, j < ls.length → RefOk j (lineAt ls j)) : (need0 ls).length = ls.length ∧ (need0 ls).getD (ls.length - 1) false = true ∧ ∀ j, j < ls.length → Closed ls (need0 ls) j := by
  have l1 : ((List.replicate ls.length false).set (ls.length - 1) true).length = ls.length := by simp
  obtain ⟨h1, h2, h3⟩ := needF_closed (ls := ls) ls.length ((List.replicate ls.length false).set (ls.length - 1) true) (by rw [l1]; exact Nat.le_refl _) (by rw [l1]; exact hr) (fun j hj hjl => by omega)
  rw [l1] at h1 h3
  exact ⟨h1, h2 _ (by rw [getD_set (by simp; omega), if_pos rfl]), h3⟩
/-- The new number of each line that is needed. -/
def Nums (made om : List Row) (need : List Bool) (w : List Int) (i : Nat) : Prop := ∀ j, j < i → need.getD j false = true → 0 ≤ w.getD j 0 ∧ w.getD j 0 < (om.length : Int) ∧ rowAt om (w.getD j 0) = rowAt made (j : Int)
theorem rowAt_take {made : List Row} {i : Nat} {a : Int} (h0 : 0 ≤ a) (h1 : a < (i : Int)) (h2 : i ≤ made.length) : rowAt (made.take i) a = rowAt made a := by
  rw [rowAt_get h0 (by rw [List.length_take]; omega), rowAt_get h0 (by omega), List.getElem_take]
theorem makeF_renum {rows made om : List Row} {n i : Nat} {need : List Bool} {w : List Int} {l : Line} (hi : i ≤ made.length) (hn : Nums made om need w i) (hc : 3 ≤ l.k → need.getD l.a.toNat false = true ∧ (l.k = 3 → need.getD l.b.toNat false = true)) (h : (makeF rows (made.take i) n l).2 = 0) :
    makeF rows om n (renum w l) = makeF rows (made.take i) n l := by
  have hlt : (made.take i).length = i := by rw [List.length_take]; omega
  have hr := makeF_ref h
  rw [hlt] at hr
  have look : ∀ a : Int, 0 ≤ a → a < (i : Int) → need.getD a.toNat false = true → (0 ≤ w.getD a.toNat 0 ∧ w.getD a.toNat 0 < (om.length : Int)) ∧ rowAt om (w.getD a.toNat 0) = rowAt (made.take i) a := fun a a0 a1 an => by
    obtain ⟨x1, x2, x3⟩ := hn a.toNat (by omega) an
    refine ⟨⟨x1, x2⟩, ?_⟩
    rw [x3, rowAt_take a0 a1 hi, show ((a.toNat : Nat) : Int) = a from by omega]
  revert h
  by_cases h3 : l.k = 3
  · obtain ⟨ra, rb⟩ := hr (by omega)
    obtain ⟨ca, cb⟩ := hc (by omega)
    have rb : l.k = 3 ∧ 0 ≤ l.b ∧ l.b < (i : Int) := by omega
    obtain ⟨x1, x2⟩ := look l.a ra.1 ra.2 ca
    obtain ⟨y1, y2⟩ := look l.b rb.2.1 rb.2.2 (cb h3)
    intro _
    unfold makeF renum
    simp only [h3, show ¬ (3 : Int) = 1 from by decide, show ¬ (3 : Int) = 2 from by decide, show (3 : Int) ≤ 3 from by decide, if_true, if_false]
    by_cases c : (0 ≤ l.a ∧ l.a < ((made.take i).length : Int)) ∧ (0 ≤ l.b ∧ l.b < ((made.take i).length : Int)) ∧ (1 ≤ l.m ∧ l.m ≤ 1000000) ∧ 1 ≤ l.n ∧ l.n ≤ 1000000
    · rw [if_pos c, if_pos ⟨x1, y1, c.2.2⟩, x2, y2]
    · rw [if_neg c, if_neg (fun c' => c ⟨⟨ra.1, by rw [hlt]; exact ra.2⟩, ⟨rb.2.1, by rw [hlt]; exact rb.2.2⟩, c'.2.2⟩)]
  by_cases h4 : l.k = 4
  · obtain ⟨ra, rb⟩ := hr (by omega)
    obtain ⟨ca, cb⟩ := hc (by omega)
    obtain ⟨x1, x2⟩ := look l.a ra.1 ra.2 ca
    intro _
    unfold makeF renum
    simp only [h4, show ¬ (4 : Int) = 1 from by decide, show ¬ (4 : Int) = 2 from by decide, show ¬ (4 : Int) = 3 from by decide, show (3 : Int) ≤ 4 from by decide, if_true, if_false]
    by_cases c : (0 ≤ l.a ∧ l.a < ((made.take i).length : Int)) ∧ (1 ≤ l.m ∧ l.m ≤ 1000000) ∧ l.b = 0 ∧ l.n = 0
    · rw [if_pos c, if_pos ⟨x1, c.2⟩, x2]
    · rw [if_neg c, if_neg (fun c' => c ⟨⟨ra.1, by rw [hlt]; exact ra.2⟩, c'.2⟩)]
  · by_cases h5 : l.k = 1 ∨ l.k = 2
    · intro _
      have e : renum w l = l := by
        unfold renum
        rw [if_neg (by omega), if_neg h3]
      rw [e]
      unfold makeF
      simp only [h3, h4, if_false]
    · intro h
      exfalso
      unfold makeF at h
      rw [if_neg (by omega), if_neg (by omega), if_neg h3, if_neg h4] at h
      simp at h
theorem outGo_ok {rows made : List Row} {n : Nat} {ls : List Line} {need : List Bool} (hml : made.length = ls.length) (hmk : ∀ i, i < ls.length → makeF rows (made.take i) n (lineAt ls i) = (rowAt made (i : Int), 0)) (hcl : ∀ j, j < ls.length → Closed ls need j) :
    ∀ (r i : Nat) (w : List Int) (out : List Line) (om : List Row), i + r = ls.length → w.length = ls.length → deriveGo rows n [] out = (om, 0) → out.length ≤ i → Nums made om need w i →
      (0 < i → need.getD (i - 1) false = true → om ≠ [] ∧ rowAt om ((om.length : Int) - 1) = rowAt made ((i - 1 : Nat) : Int)) → ∃ om', deriveGo rows n [] (outGo ls need r i w out) = (om', 0) ∧ (outGo ls need r i w out).length ≤ ls.length ∧
        (0 < ls.length → need.getD (ls.length - 1) false = true → om' ≠ [] ∧ rowAt om' ((om'.length : Int) - 1) = rowAt made ((ls.length - 1 : Nat) : Int))
  | 0, i, w, out, om, hi, hw, hd, hl, hn, hlast => ⟨om, hd, by simp only [outGo]; omega, by
      have : i = ls.length := by omega
      subst this; exact hlast⟩
  | r + 1, i, w, out, om, hi, hw, hd, hl, hn, hlast => by
    have hlen : om.length = out.length := by
      have := deriveGo_count out [] (by rw [hd])
      rw [hd] at this; simpa using this
    have hil : i < ls.length := by omega
    by_cases hne : need.getD i false = true
    · have e : outGo ls need (r + 1) i w out = outGo ls need r (i + 1) (w.set i out.length) (out ++ [renum (w.set i out.length) (lineAt ls i)]) := by
        rw [outGo, if_pos hne]
      rw [e]
      have hmi := hmk i hil
      have hRef : RefOk i (lineAt ls i) := by
        have := makeF_ref (rows := rows) (made := made.take i) (n := n) (l := lineAt ls i) (by rw [hmi])
        rwa [List.length_take, Nat.min_eq_left (by omega)] at this
      have hn' : Nums made om need (w.set i out.length) i := fun j hj hjn => by
        rw [getD_set (by omega), if_neg (by omega)]
        exact hn j hj hjn
      have hmr := makeF_renum (rows := rows) (made := made) (om := om) (n := n) (i := i) (need := need) (w := w.set i out.length) (l := lineAt ls i) (by omega) hn' (fun hk => hcl i hil hne hk) (by rw [hmi])
      rw [hmi] at hmr
      have hd' := deriveGo_snoc out [] om (renum (w.set i out.length) (lineAt ls i)) hd (by rw [hmr])
      rw [hmr] at hd'
      have hend : rowAt (om ++ [rowAt made (i : Int)]) ((om.length : Int)) = rowAt made (i : Int) := by
        have := rowAt_right (l := om) (m := [rowAt made (i : Int)]) (a := 0) rfl (by omega) (by simp)
        rw [Int.zero_add] at this
        rw [this]; rfl
      refine outGo_ok hml hmk hcl r (i + 1) _ _ _ (by omega) (by simpa using hw) hd' (by simp; omega) ?_ ?_
      · intro j hj hjn
        by_cases ej : j = i
        · subst ej
          rw [getD_set (by omega), if_pos rfl, ← hlen, hend]
          exact ⟨by omega, by simp; omega, rfl⟩
        · obtain ⟨x1, x2, x3⟩ := hn' j (by omega) hjn
          refine ⟨x1, by rw [List.length_append]; omega, ?_⟩
          rw [rowAt_left x1 x2]; exact x3
      · intro _ _
        refine ⟨by simp, ?_⟩
        rw [show (((om ++ [rowAt made (i : Int)]).length : Int) - 1) = om.length from by simp, hend]
        rfl
    · have e : outGo ls need (r + 1) i w out = outGo ls need r (i + 1) w out := by
        rw [outGo, if_neg hne]
      rw [e]
      refine outGo_ok hml hmk hcl r (i + 1) w out om (by omega) hw hd (by omega) ?_ ?_
      · intro j hj hjn
        by_cases ej : j = i
        · subst ej; exact absurd hjn hne
        · exact hn j (by omega) hjn
      · intro _ h
        exact absurd h hne
/-- The lines that are needed make the last row, too. -/
theorem needed_ok {rows made : List Row} {n : Nat} {ls : List Line} (h0 : 0 < ls.length) (h : deriveGo rows n [] ls = (made, 0)) : ∃ om, deriveGo rows n [] (neededF ls) = (om, 0) ∧ (neededF ls).length ≤ ls.length ∧ om ≠ [] ∧ rowAt om ((om.length : Int) - 1) = rowAt made ((made.length : Int) - 1) := by
  obtain ⟨h1, _, h3⟩ := deriveGo_at ls [] made h
  simp only [List.length_nil, Nat.zero_add] at h1 h3
  have hmk : ∀ i, i < ls.length → makeF rows (made.take i) n (lineAt ls i) = (rowAt made (i : Int), 0) := fun i hi => by
    rw [lineAt_get hi, h3 i hi (by omega), rowAt_get (by omega) (by omega)]
    simp
  have hr : ∀ j, j < ls.length → RefOk j (lineAt ls j) := fun j hj => by
    have := makeF_ref (rows := rows) (made := made.take j) (n := n) (l := lineAt ls j) (by rw [hmk j hj])
    rwa [List.length_take, Nat.min_eq_left (by omega)] at this
  obtain ⟨n1, n2, n3⟩ := need0_closed h0 hr
  obtain ⟨om, o1, o2, o3⟩ := outGo_ok h1 hmk n3 ls.length 0 (List.replicate ls.length 0) [] [] (by omega) (by simp) rfl (by simp) (fun j hj => by omega) (fun h => by omega)
  obtain ⟨o4, o5⟩ := o3 h0 n2
  refine ⟨om, o1, o2, o4, ?_⟩
  rw [o5, h1]
  congr 1
  omega
/-- What Refute finds. -/
theorem refute_cert {rows : List Row} {most : Int} {l : List Line} (h : refuteF rows most = (l, true, 0)) : checkF rows l = 0 ∧ (l.length : Int) ≤ most := by
  unfold refuteF at h
  by_cases hr : rightF rows = 0
  · rw [if_pos hr] at h
    by_cases hm : most < 0 ∨ 5000 < most
    · rw [if_pos hm] at h; simp at h
    · rw [if_neg hm] at h
      have hg := search_good (rows := rows) (n := unkN rows) (most := most) (by omega)
      split at h
      · simp at h
      · rename_i st he
        rw [he] at hg
        obtain ⟨⟨g1, g2, g3, g4, g5⟩, ms, r, e1, e2⟩ := hg
        simp only [Prod.mk.injEq, and_true] at h
        have hp : 0 < st.ls.length := by rw [← g2, e1]; simp
        obtain ⟨om, o1, o2, o3, o4⟩ := needed_ok hp g5
        rw [h] at o1 o2
        refine ⟨checkF_of hr (by omega) (by rw [o1]) ?_, by omega⟩
        rw [o1]
        refine lastF_of o3 ?_
        rw [o4, e1, show ((((ms ++ [r]).length : Nat) : Int) - 1) = 0 + (ms.length : Nat) from by simp, rowAt_right rfl (by omega) (by simp)]
        exact e2
      · rename_i c st he
        simp at h
  · rw [if_neg hr] at h; simp at h
end Go.PV.Ytefpjfpelicedaa
end
section
/- What divides rows; how large what the search makes of small rows can be. -/
set_option linter.unusedVariables false
set_option linter.unusedSimpArgs false
set_option maxRecDepth 20000
namespace Go.PV.Ytefpjfpelicedaa
open Go Go.Proofs
theorem max_abs {a : Int} (h : -9223372036854775807 ≤ a ∧ a ≤ 9223372036854775807) : max a (W (-a)) = (a.natAbs : Int) := by
  rw [show W (-a) = -a from wrap_ok (by omega) (by omega)]
  omega
theorem gcdN_eq : ∀ (n : Nat) (a b : Int), b.natAbs < n → (-9223372036854775807 ≤ a ∧ a ≤ 9223372036854775807) → (-9223372036854775807 ≤ b ∧ b ≤ 9223372036854775807) → gcdN n a b = (Int.gcd a b : Int)
  | n + 1, a, b, hn, ha, hb => by
    rw [gcdN]
    by_cases h : b = 0
    · subst h
      rw [if_pos rfl, max_abs ha, Int.gcd_zero_right]
    · rw [if_neg h]
      have h1 := tmod_lt (a := a) h
      rw [gcdN_eq n b (a.tmod b) (by omega) hb (by omega)]
      congr 1
      unfold Int.gcd
      rw [Int.natAbs_tmod, Nat.gcd_comm a.natAbs, Nat.gcd_rec b.natAbs a.natAbs, Nat.gcd_comm]
theorem gcdF_eq {a b : Int} (ha : -9223372036854775807 ≤ a ∧ a ≤ 9223372036854775807) (hb : -9223372036854775807 ≤ b ∧ b ≤ 9223372036854775807) : gcdF a b = (Int.gcd a b : Int) := gcdN_eq _ a b (by omega) ha hb
def In64 (a : Int) : Prop := -9223372036854775807 ≤ a ∧ a ≤ 9223372036854775807
theorem gcd_in {a b : Int} (ha : In64 a) (hb : In64 b) : In64 (Int.gcd a b : Int) := by
  unfold In64 at *
  by_cases h : a = 0
  · subst h; rw [Int.gcd_comm, Int.gcd_zero_right]; omega
  · have : (Int.gcd a b) ≤ a.natAbs := Nat.gcd_le_left _ (by omega)
    omega
/-- What divides all of some numbers. -/
theorem commonGo_spec : ∀ (cs : List Int) (g : Int), In64 g → (∀ c ∈ cs, In64 c) → 0 ≤ g → 0 ≤ commonGo cs g ∧ In64 (commonGo cs g) ∧ commonGo cs g ∣ g ∧ (∀ c ∈ cs, commonGo cs g ∣ c) ∧ (commonGo cs g = 0 → g = 0 ∧ ∀ c ∈ cs, c = 0)
  | [], g, hg, _, h0 => ⟨h0, hg, Int.dvd_refl _, by simp, fun h => ⟨h, by simp⟩⟩
  | c :: cs, g, hg, hc, h0 => by
    have hc0 := hc c (List.mem_cons_self ..)
    have e : gcdF g c = (Int.gcd g c : Int) := gcdF_eq hg hc0
    obtain ⟨h1, h2, h3, h4, h5⟩ := commonGo_spec cs (Int.gcd g c) (gcd_in hg hc0) (fun x hx => hc x (List.mem_cons_of_mem _ hx)) (by omega)
    rw [commonGo, e]
    refine ⟨h1, h2, Int.dvd_trans h3 (Int.gcd_dvd_left ..), fun x hx => ?_, fun h => ?_⟩
    · rcases List.mem_cons.1 hx with rfl | hx
      · exact Int.dvd_trans h3 (Int.gcd_dvd_right ..)
      · exact h4 x hx
    · obtain ⟨h6, h7⟩ := h5 h
      obtain ⟨z1, z2⟩ := Int.gcd_eq_zero_iff.1 (by omega : Int.gcd g c = 0)
      exact ⟨z1, fun x hx => by
        rcases List.mem_cons.1 hx with rfl | hx
        · exact z2
        · exact h7 x hx⟩
theorem commonF_spec {r : Row} (h : ∀ c ∈ r.c, In64 c) : 0 ≤ commonF r ∧ (∀ c ∈ r.c, commonF r ∣ c) ∧ (commonF r = 0 → ∀ c ∈ r.c, c = 0) := by
  obtain ⟨h1, _, _, h4, h5⟩ := commonGo_spec r.c 0 ⟨by omega, by omega⟩ h (by omega)
  exact ⟨h1, h4, fun e => (h5 e).2⟩
theorem fits_in {n : Nat} {r : Row} (h : Fits n r) : ∀ c ∈ r.c, In64 c := fun c hc => by
  have := (fits_small h).1 c hc
  unfold In64; omega
theorem tdiv_dvd {g c : Int} (h : g ∣ c) : c.tdiv g * g = c := Int.tdiv_mul_cancel h
/-- The row that a line divides. -/
def divR (r : Row) (g : Int) : Row := ⟨r.c.map fun c => c.tdiv g, floorF r.b g⟩
theorem floor_le {b m : Int} (hb : -1000000000000 ≤ b ∧ b ≤ 1000000000000) (hm : 1 ≤ m ∧ m ≤ 1000000) : floorF b m * m ≤ b := by
  have h2 : (b.tdiv m).natAbs ≤ b.natAbs := Int.natAbs_tdiv_le_natAbs b m
  have h3 := Int.mul_tdiv_add_tmod b m
  have h4 : (b.tmod m).natAbs < m.natAbs := by rw [Int.natAbs_tmod]; exact Nat.mod_lt _ (by omega)
  have e : m * b.tdiv m = b.tdiv m * m := Int.mul_comm _ _
  have w1 : W (b.tdiv m) = b.tdiv m := wrap_ok (by omega) (by omega)
  have w2 : W (b.tdiv m * m) = b.tdiv m * m := wrap_ok (by omega) (by omega)
  have w3 : W (b.tdiv m - 1) = b.tdiv m - 1 := wrap_ok (by omega) (by omega)
  unfold floorF
  rw [w1, w2, w3]
  split
  · rw [Int.sub_mul]; omega
  · omega
theorem floor_abs {b m B : Int} (hb : -1000000000000 ≤ b ∧ b ≤ 1000000000000) (hm : 2 ≤ m ∧ m ≤ 1000000) (h : -B ≤ b ∧ b ≤ B) : -B ≤ floorF b m ∧ floorF b m ≤ B := by
  have h2 : (b.tdiv m).natAbs ≤ b.natAbs := Int.natAbs_tdiv_le_natAbs b m
  have h3 := Int.mul_tdiv_add_tmod b m
  have h4 : (b.tmod m).natAbs < m.natAbs := by rw [Int.natAbs_tmod]; exact Nat.mod_lt _ (by omega)
  have h5 : 2 * (b.tdiv m).natAbs ≤ b.natAbs := by
    rw [Int.natAbs_tdiv]
    show 2 * (b.natAbs / m.natAbs) ≤ b.natAbs
    have := Nat.div_mul_le_self b.natAbs m.natAbs
    have h6 : b.natAbs / m.natAbs * 2 ≤ b.natAbs / m.natAbs * m.natAbs := Nat.mul_le_mul_left _ (by omega)
    omega
  have e : m * b.tdiv m = b.tdiv m * m := Int.mul_comm _ _
  have w1 : W (b.tdiv m) = b.tdiv m := wrap_ok (by omega) (by omega)
  have w2 : W (b.tdiv m * m) = b.tdiv m * m := wrap_ok (by omega) (by omega)
  have w3 : W (b.tdiv m - 1) = b.tdiv m - 1 := wrap_ok (by omega) (by omega)
  unfold floorF
  rw [w1, w2, w3]
  split
  · rename_i c
    have hneg : b < 0 := by
      refine Int.lt_of_not_ge fun hb0 => ?_
      have := Int.tmod_nonneg m hb0
      omega
    omega
  · omega
def Bd (C B : Int) (r : Row) : Prop := (∀ c ∈ r.c, -C ≤ c ∧ c ≤ C) ∧ -B ≤ r.b ∧ r.b ≤ B
theorem Bd.out {C B : Int} {r : Row} (h : Bd C B r) (hC : C ≤ 1000000000000) (hB : B ≤ 1000000000000) : outF r = (r, 0) := by
  unfold outF
  rw [if_neg]
  simp only [Bool.or_eq_true, not_or, Bool.not_eq_true, List.any_eq_false]
  have hf : ∀ (a M : Int), M ≤ 1000000000000 → -M ≤ a → a ≤ M → far2 a = false := fun a M hM h1 h2 => by
    unfold far2
    rw [decide_eq_true (show -1000000000000 ≤ a by omega), decide_eq_true (show a ≤ 1000000000000 by omega)]
    rfl
  exact ⟨hf _ B hB h.2.1 h.2.2, fun c hc => by rw [hf c C hC (h.1 c hc).1 (h.1 c hc).2]⟩
theorem Bd.mono {C B C' B' : Int} {r : Row} (h : Bd C B r) (hC : C ≤ C') (hB : B ≤ B') : Bd C' B' r := ⟨fun c hc => by have := h.1 c hc; omega, by have := h.2; omega⟩
theorem abs_tdiv {c g C : Int} (h : -C ≤ c ∧ c ≤ C) : -C ≤ c.tdiv g ∧ c.tdiv g ≤ C := by
  have := Int.natAbs_tdiv_le_natAbs c g
  omega
/-- The line that divides a row is one. -/
theorem makeF_div {rows made : List Row} {n : Nat} {a g C B : Int} (h0 : 0 ≤ a) (h1 : a < (made.length : Int)) (hg : 1 < g ∧ g ≤ 1000000) (hd : ∀ c ∈ (rowAt made a).c, g ∣ c) (hb : Bd C B (rowAt made a)) (hC : C ≤ 1000000000000) (hB : B ≤ 1000000000000) :
    makeF rows made n ⟨4, a, 0, g, 0⟩ = (divR (rowAt made a) g, 0) ∧ Bd C B (divR (rowAt made a) g) := by
  have hbd : Bd C B (divR (rowAt made a) g) := by
    refine ⟨fun c hc => ?_, floor_abs (by have := hb.2; omega) (by omega) hb.2⟩
    obtain ⟨x, hx, rfl⟩ := List.mem_map.1 hc
    exact abs_tdiv (hb.1 x hx)
  refine ⟨?_, hbd⟩
  unfold makeF
  simp only [show ¬ (4 : Int) = 1 from by decide, show ¬ (4 : Int) = 2 from by decide, show ¬ (4 : Int) = 3 from by decide, if_true, if_false]
  rw [if_pos ⟨⟨h0, h1⟩, ⟨by omega, hg.2⟩, trivial, trivial⟩, if_neg]
  · exact hbd.out hC hB
  · simp only [Bool.not_eq_true, List.any_eq_false]
    intro c hc
    simp [Int.tmod_eq_zero_of_dvd (hd c hc)]
end Go.PV.Ytefpjfpelicedaa
end
section
/- Rational points: what an unknown may be, where all sums of two rows are fulfilled. -/
set_option linter.unusedVariables false
set_option linter.unusedSimpArgs false
set_option maxRecDepth 20000
namespace Go.PV.Ytefpjfpelicedaa
open Go Go.Proofs
theorem best : ∀ (L : List (Int × Int)), (∀ p ∈ L, 0 < p.2) → L ≠ [] → ∃ p ∈ L, ∀ q ∈ L, q.1 * p.2 ≤ p.1 * q.2
  | [], _, h => absurd rfl h
  | x :: L, hp, _ => by
    by_cases hL : L = []
    · subst hL
      exact ⟨x, List.mem_cons_self .., fun q hq => by rw [List.mem_singleton.1 hq]; exact Int.le_refl _⟩
    · obtain ⟨p, hpL, hbest⟩ := best L (fun p h => hp p (List.mem_cons_of_mem _ h)) hL
      by_cases hc : x.1 * p.2 ≤ p.1 * x.2
      · refine ⟨p, List.mem_cons_of_mem _ hpL, fun q hq => ?_⟩
        rcases List.mem_cons.1 hq with rfl | hq
        · exact hc
        · exact hbest q hq
      · refine ⟨x, List.mem_cons_self .., fun q hq => ?_⟩
        rcases List.mem_cons.1 hq with rfl | hq
        · exact Int.le_refl _
        · have p0 := hp p (List.mem_cons_of_mem _ hpL)
          have q0 := hp q (List.mem_cons_of_mem _ hq)
          have x0 := hp x (List.mem_cons_self ..)
          have h1 := Int.mul_le_mul_of_nonneg_right (hbest q hq) (show 0 ≤ x.2 by omega)
          have h2 := Int.mul_le_mul_of_nonneg_right (show p.1 * x.2 ≤ x.1 * p.2 by omega) (show 0 ≤ q.2 by omega)
          refine Int.le_of_mul_le_mul_left (a := p.2) ?_ p0
          have e1 : p.2 * (q.1 * x.2) = q.1 * p.2 * x.2 := by ac_rfl
          have e2 : p.1 * q.2 * x.2 = p.1 * x.2 * q.2 := by ac_rfl
          have e3 : p.2 * (x.1 * q.2) = x.1 * p.2 * q.2 := by ac_rfl
          omega
theorem dot_scale : ∀ (c X : List Int) (e : Int), dot c (X.map fun x => x * e) = dot c X * e
  | [], X, e => by cases X <;> simp [dot]
  | c :: cs, [], e => by simp [dot]
  | c :: cs, x :: X, e => by
    rw [List.map_cons, dot, dot, dot_scale cs X e, Int.add_mul, Int.mul_assoc]
theorem dot_put : ∀ (c X : List Int) (k : Nat) (y : Int), k < X.length → dot c (X.set k y) = dot c X + c.getD k 0 * (y - X.getD k 0)
  | [], X, k, y, h => by cases hX : X.set k y <;> cases X <;> simp [dot]
  | c :: cs, [], k, y, h => by simp at h
  | c :: cs, x :: X, 0, y, h => by
    simp only [List.set_cons_zero, dot, List.getD_cons_zero, Int.mul_sub]
    omega
  | c :: cs, x :: X, k + 1, y, h => by
    simp only [List.set_cons_succ, dot, List.getD_cons_succ]
    rw [dot_put cs X k y (by simpa using h)]
    omega
theorem dot_unit : ∀ (n k : Nat) (v : Int) (X : List Int), X.length = n → dot ((List.replicate n 0).set k v) X = if k < n then v * X.getD k 0 else 0
  | 0, k, v, X, h => by
    obtain rfl := List.eq_nil_of_length_eq_zero h
    simp [dot]
  | n + 1, 0, v, x :: X, h => by
    rw [List.replicate_succ, List.set_cons_zero, dot, dot_zeros]
    simp
  | n + 1, k + 1, v, x :: X, h => by
    rw [List.replicate_succ, List.set_cons_succ, dot, dot_unit n k v X (by simpa using h)]
    simp only [List.getD_cons_succ, Nat.add_lt_add_iff_right, Int.zero_mul, Int.zero_add]
/-- Numbers X over D fulfil a row. -/
def SatQ (D : Int) (X : List Int) (r : Row) : Prop := dot r.c X ≤ r.b * D
theorem elim_step {L : List Row} {k n : Nat} {D : Int} {X : List Int} (hk : k < n) (hX : X.length = n) (hD : 0 < D) (hz : ∀ r ∈ L, r.c.getD k 0 = 0 → SatQ D X r)
    (hp : ∀ r ∈ L, ∀ q ∈ L, 0 < r.c.getD k 0 → q.c.getD k 0 < 0 → dot r.c X * (-(q.c.getD k 0)) + dot q.c X * r.c.getD k 0 ≤ (r.b * (-(q.c.getD k 0)) + q.b * r.c.getD k 0) * D) :
    ∃ D' X', 0 < D' ∧ X'.length = n ∧ ∀ r ∈ L, SatQ D' X' r := by
  -- what a row leaves for the unknown
  obtain ⟨M, hM⟩ : ∃ M : Row → Int, ∀ r, M r = dot r.c X - r.c.getD k 0 * X.getD k 0 - r.b * D := ⟨fun r => dot r.c X - r.c.getD k 0 * X.getD k 0 - r.b * D, fun _ => rfl⟩
  have key : ∀ e Y : Int, 0 < e → (∀ r ∈ L, M r * e + r.c.getD k 0 * Y ≤ 0) → ∃ D' X', 0 < D' ∧ X'.length = n ∧ ∀ r ∈ L, SatQ D' X' r := fun e Y he h => by
    refine ⟨D * e, (X.map fun x => x * e).set k Y, Int.mul_pos hD he, by simpa using hX, fun r hr => ?_⟩
    have h1 := h r hr
    rw [hM] at h1
    unfold SatQ
    rw [dot_put _ _ _ _ (by simpa using (by omega : k < X.length)), dot_scale]
    have e1 : (X.map fun x => x * e).getD k 0 = X.getD k 0 * e := by
      simp only [List.getD_eq_getElem?_getD, List.getElem?_map]
      have : k < X.length := by omega
      simp [this]
    rw [e1, Int.mul_sub]
    rw [Int.sub_mul, Int.sub_mul] at h1
    have e2 : r.c.getD k 0 * (X.getD k 0 * e) = r.c.getD k 0 * X.getD k 0 * e := by ac_rfl
    have e3 : r.b * (D * e) = r.b * D * e := by ac_rfl
    rw [e2, e3]
    omega
  have pair : ∀ r ∈ L, ∀ q ∈ L, 0 < r.c.getD k 0 → q.c.getD k 0 < 0 → M r * (-(q.c.getD k 0)) + M q * r.c.getD k 0 ≤ 0 := fun r hr q hq h1 h2 => by
    have h3 := hp r hr q hq h1 h2
    rw [hM, hM]
    rw [Int.add_mul] at h3
    rw [Int.sub_mul, Int.sub_mul, Int.sub_mul, Int.sub_mul]
    have e1 : r.c.getD k 0 * X.getD k 0 * -(q.c.getD k 0) = -(q.c.getD k 0 * X.getD k 0 * r.c.getD k 0) := by
      rw [Int.mul_neg]; congr 1; ac_rfl
    have e2 : r.b * (-(q.c.getD k 0)) * D = r.b * D * (-(q.c.getD k 0)) := by ac_rfl
    have e3 : q.b * r.c.getD k 0 * D = q.b * D * r.c.getD k 0 := by ac_rfl
    rw [e2, e3] at h3
    rw [e1]
    omega
  have zero : ∀ r ∈ L, r.c.getD k 0 = 0 → ∀ e Y : Int, 0 < e → M r * e + r.c.getD k 0 * Y ≤ 0 := fun r hr h0 e Y he => by
    have h1 := hz r hr h0
    unfold SatQ at h1
    rw [hM, h0, Int.zero_mul, Int.zero_mul, Int.sub_zero, Int.add_zero]
    have := Int.mul_le_mul_of_nonneg_right (show dot r.c X - r.b * D ≤ 0 by omega) (show 0 ≤ e by omega)
    omega
  by_cases hn : ((L.filter fun r => decide (r.c.getD k 0 < 0)).map fun r => (M r, -(r.c.getD k 0))) = []
  · by_cases hpn : ((L.filter fun r => decide (0 < r.c.getD k 0)).map fun r => (M r, r.c.getD k 0)) = []
    · refine key 1 0 (by omega) fun r hr => ?_
      refine zero r hr ?_ 1 0 (by omega)
      have a1 : ¬ r.c.getD k 0 < 0 := fun h => by
        have : (M r, -(r.c.getD k 0)) ∈ ((L.filter fun r => decide (r.c.getD k 0 < 0)).map fun r => (M r, -(r.c.getD k 0))) := List.mem_map.2 ⟨r, List.mem_filter.2 ⟨hr, by simpa using h⟩, rfl⟩
        rw [hn] at this; cases this
      have a2 : ¬ 0 < r.c.getD k 0 := fun h => by
        have : (M r, r.c.getD k 0) ∈ ((L.filter fun r => decide (0 < r.c.getD k 0)).map fun r => (M r, r.c.getD k 0)) := List.mem_map.2 ⟨r, List.mem_filter.2 ⟨hr, by simpa using h⟩, rfl⟩
        rw [hpn] at this; cases this
      omega
    · obtain ⟨p, hpm, hb⟩ := best _ (fun p h => by
        obtain ⟨r, hr, rfl⟩ := List.mem_map.1 h
        simpa using (List.mem_filter.1 hr).2) hpn
      obtain ⟨r0, hr0, rfl⟩ := List.mem_map.1 hpm
      have r0p : 0 < r0.c.getD k 0 := by simpa using (List.mem_filter.1 hr0).2
      refine key (r0.c.getD k 0) (-(M r0)) r0p fun r hr => ?_
      by_cases c0 : r.c.getD k 0 = 0
      · exact zero r hr c0 _ _ r0p
      by_cases c1 : 0 < r.c.getD k 0
      · have := hb (M r, r.c.getD k 0) (List.mem_map.2 ⟨r, List.mem_filter.2 ⟨hr, by simpa using c1⟩, rfl⟩)
        simp only at this
        rw [Int.mul_neg, Int.mul_comm (r.c.getD k 0)]
        omega
      · exfalso
        have : (M r, -(r.c.getD k 0)) ∈ ((L.filter fun r => decide (r.c.getD k 0 < 0)).map fun r => (M r, -(r.c.getD k 0))) := List.mem_map.2 ⟨r, List.mem_filter.2 ⟨hr, decide_eq_true (by omega)⟩, rfl⟩
        rw [hn] at this; cases this
  · obtain ⟨p, hpm, hb⟩ := best _ (fun p h => by
      obtain ⟨r, hr, rfl⟩ := List.mem_map.1 h
      have : r.c.getD k 0 < 0 := by simpa using (List.mem_filter.1 hr).2
      simp only; omega) hn
    obtain ⟨q0, hq0, rfl⟩ := List.mem_map.1 hpm
    have q0L := (List.mem_filter.1 hq0).1
    have q0n : q0.c.getD k 0 < 0 := by simpa using (List.mem_filter.1 hq0).2
    refine key (-(q0.c.getD k 0)) (M q0) (by omega) fun r hr => ?_
    by_cases c0 : r.c.getD k 0 = 0
    · exact zero r hr c0 _ _ (by omega)
    by_cases c1 : 0 < r.c.getD k 0
    · have := pair r hr q0 q0L c1 q0n
      rw [Int.mul_comm (M q0)] at this
      exact this
    · have := hb (M r, -(r.c.getD k 0)) (List.mem_map.2 ⟨r, List.mem_filter.2 ⟨hr, decide_eq_true (by omega)⟩, rfl⟩)
      simp only at this
      have e : M q0 * -(r.c.getD k 0) = -(r.c.getD k 0 * M q0) := by rw [Int.mul_neg, Int.mul_comm]
      omega
theorem SatQ.div {D : Int} {X : List Int} {r : Row} {g : Int} (hD : 0 < D) (hg : 1 < g ∧ g ≤ 1000000) (hb : -1000000000000 ≤ r.b ∧ r.b ≤ 1000000000000) (hd : ∀ c ∈ r.c, g ∣ c) (h : SatQ D X (divR r g)) : SatQ D X r := by
  replace h : dot (r.c.map fun c => c.tdiv g) X ≤ floorF r.b g * D := h
  unfold SatQ
  rw [dot_div r.c g X fun c hc => Int.tmod_eq_zero_of_dvd (hd c hc)]
  have h1 := Int.mul_le_mul_of_nonneg_right h (show 0 ≤ g by omega)
  have h2 := Int.mul_le_mul_of_nonneg_right (floor_le hb ⟨by omega, hg.2⟩) (show 0 ≤ D by omega)
  have e : floorF r.b g * D * g = floorF r.b g * g * D := by ac_rfl
  omega
theorem SatQ.zero {D : Int} {X : List Int} {r : Row} (hD : 0 < D) (h : ∀ c ∈ r.c, c = 0) (hb : 0 ≤ r.b) : SatQ D X r := by
  unfold SatQ
  have e : r.c = List.replicate r.c.length 0 := List.eq_replicate_iff.2 ⟨rfl, h⟩
  rw [e, dot_zeros]
  exact Int.mul_nonneg hb (by omega)
end Go.PV.Ytefpjfpelicedaa
end
section
/- What the search keeps: of each row made, a line that is known says asg much. -/
set_option linter.unusedVariables false
set_option linter.unusedSimpArgs false
set_option maxRecDepth 20000
namespace Go.PV.Ytefpjfpelicedaa
open Go Go.Proofs
theorem outF_val {r : Row} (h : (outF r).2 = 0) : outF r = (r, 0) := by
  unfold outF at *
  split at h
  · simp at h
  · rename_i c; rw [if_neg c]
theorem makeF_div_val {rows made : List Row} {n : Nat} {a g : Int} (h : (makeF rows made n ⟨4, a, 0, g, 0⟩).2 = 0) : makeF rows made n ⟨4, a, 0, g, 0⟩ = (divR (rowAt made a) g, 0) := by
  unfold makeF at *
  simp only [show ¬ (4 : Int) = 1 from by decide, show ¬ (4 : Int) = 2 from by decide, show ¬ (4 : Int) = 3 from by decide, if_true, if_false] at *
  split at h
  · rename_i c
    rw [if_pos c]
    split at h
    · simp at h
    · rename_i c2
      rw [if_neg c2]
      exact outF_val h
  · simp at h
theorem lineS_ok_val {rows : List Row} {n : Nat} {most : Int} {s s' : RS} {l : Line} {a : Int} (h : lineS rows n most s l = .ok (a, s')) :
    (makeF rows s.made n l).2 = 0 ∧ absurdF (makeF rows s.made n l).1 = false ∧ a = s.ls.length ∧ s' = ⟨s.made ++ [(makeF rows s.made n l).1], s.ls ++ [l], s.known⟩ := by
  unfold lineS at h
  split at h
  · cases h
  · split at h
    · rename_i h2
      split at h
      · cases h
      · rename_i h3
        injection h with h
        injection h with h4 h5
        exact ⟨h2, by simpa using h3, h4.symm, h5.symm⟩
    · cases h
theorem rowAt_last {m : List Row} {r : Row} {k : Nat} (hk : k = m.length) : rowAt (m ++ [r]) (k : Int) = r := by
  have := rowAt_right (l := m) (m := [r]) (a := 0) hk (by omega) (by simp)
  rw [Int.zero_add] at this
  rw [this]; rfl
/-- A row, or it divided. -/
def DivOf (r r' : Row) : Prop := r' = r ∨ ∃ g, (1 < g ∧ g ≤ 1000000) ∧ (∀ c ∈ r.c, g ∣ c) ∧ r' = divR r g
theorem keepS_val2 {rows : List Row} {n : Nat} {most : Int} {s s' : RS} {l : Line} {a : Int} (hok : OkS n most s) (h : keepS rows n most s l = .ok (a, s')) :
    (makeF rows s.made n l).2 = 0 ∧ absurdF (makeF rows s.made n l).1 = false ∧
    ((commonF (makeF rows s.made n l).1 = 0 ∧ a = -1 ∧ s'.known = s.known) ∨
      commonF (makeF rows s.made n l).1 ≠ 0 ∧ ∃ (p : Nat) (m' : List Row) (l' : List Line), m'.length = l'.length ∧ p < m'.length ∧ DivOf (makeF rows s.made n l).1 (rowAt m' p) ∧ (∃ more, m' = s.made ++ more) ∧ OkS n most ⟨m', l', s.known⟩ ∧ keep2 ⟨m', l', s.known⟩ p = (a, s')) := by
  unfold keepS at h
  cases e : lineS rows n most s l with
  | error p => rw [e] at h; cases h
  | ok p =>
    obtain ⟨a1, s1⟩ := p
    rw [e] at h
    obtain ⟨h1, h2, h3, h4⟩ := lineS_ok_val e
    have hl := hok.len
    have ok1 := lineS_ok (rows := rows) (l := l) hok
    rw [e] at ok1
    subst h3; subst h4
    obtain ⟨ok1, -, -⟩ := ok1
    simp only at h
    rw [rowAt_last hl.symm] at h
    refine ⟨h1, h2, ?_⟩
    split at h
    · rename_i c0
      injection h with h
      injection h with h5 h6
      left
      exact ⟨c0, h5.symm, by rw [← h6]⟩
    · rename_i c0
      right
      refine ⟨c0, ?_⟩
      split at h
      · rename_i c1
        cases e2 : lineS rows n most ⟨s.made ++ [(makeF rows s.made n l).1], s.ls ++ [l], s.known⟩ ⟨4, s.ls.length, 0, commonF (makeF rows s.made n l).1, 0⟩ with
        | error p => rw [e2] at h; cases h
        | ok p =>
          obtain ⟨a2, s2⟩ := p
          rw [e2] at h
          obtain ⟨k1, k2, k3, k4⟩ := lineS_ok_val e2
          have ok2 := lineS_ok (rows := rows) (l := ⟨4, s.ls.length, 0, commonF (makeF rows s.made n l).1, 0⟩) ok1
          rw [e2] at ok2
          subst k3; subst k4
          have hv := makeF_div_val k1
          injection h with h
          simp only [rowAt_last hl.symm] at hv
          refine ⟨(s.ls ++ [l]).length, _, _, ?_, ?_, .inr ⟨_, c1, (commonF_spec ?_).2.1, ?_⟩, ⟨_, List.append_assoc _ _ _⟩, ok2.1, h⟩
          · simp [hl]
          · simp [hl]
          · exact fits_in (ok1.fits _ (List.mem_append_right _ (List.mem_singleton_self _)))
          · rw [rowAt_last (by simp [hl]), hv]
      · injection h with h
        refine ⟨s.ls.length, _, _, ?_, ?_, .inl (rowAt_last hl.symm), ⟨_, rfl⟩, ok1, h⟩
        · simp [hl]
        · simp [hl]
theorem keyAt_cons (k k' : List Int) (v : Int) (kn : List (List Int × Int)) : keyAt ((k, v) :: kn) k' = if k = k' then some v else keyAt kn k' := by
  unfold keyAt
  simp only [List.find?_cons]
  by_cases h : k = k'
  · simp [h]
  · simp [h]
theorem keep2_val {s s' : RS} {p a : Int} (h : keep2 s p = (a, s')) : s'.made = s.made ∧ s'.ls = s.ls ∧
    ((a = -1 ∧ s'.known = s.known ∧ ∃ old, keyAt s.known (keyL (rowAt s.made p)) = some old ∧ (rowAt s.made old).b ≤ (rowAt s.made p).b) ∨
     (a = p ∧ s'.known = (keyL (rowAt s.made p), p) :: s.known ∧ ∀ old, keyAt s.known (keyL (rowAt s.made p)) = some old → (rowAt s.made p).b ≤ (rowAt s.made old).b)) := by
  unfold keep2 at h
  split at h
  · rename_i old e
    split at h
    · rename_i hb
      injection h with h1 h2
      subst h2
      exact ⟨rfl, rfl, .inl ⟨h1.symm, rfl, old, e, hb⟩⟩
    · rename_i hb
      injection h with h1 h2
      subst h2
      exact ⟨rfl, rfl, .inr ⟨h1.symm, rfl, fun o ho => by rw [e] at ho; injection ho with ho; subst ho; omega⟩⟩
  · rename_i e
    injection h with h1 h2
    subst h2
    exact ⟨rfl, rfl, .inr ⟨h1.symm, rfl, fun o ho => by rw [e] at ho; cases ho⟩⟩
/-- What is known later says asg much. -/
structure Mono (s s' : RS) : Prop where
  pre : ∃ more, s'.made = s.made ++ more
  kn : ∀ K a, keyAt s.known K = some a → 0 ≤ a → a < (s.made.length : Int) → ∃ a', keyAt s'.known K = some a' ∧ (rowAt s'.made a').b ≤ (rowAt s.made a).b
structure Inv (n : Nat) (P : Nat → Prop) (s : RS) (l : List Int) : Prop where
  key : ∀ K a, keyAt s.known K = some a → 0 ≤ a ∧ a < (s.made.length : Int) ∧ keyL (rowAt s.made a) = K
  live : ∀ K a, keyAt s.known K = some a → (∀ j, j < n → P j → K.getD j 0 = 0) → a ∈ l
  has : ∀ a ∈ l, 0 ≤ a → a < (s.made.length : Int) ∧ (∃ o, keyAt s.known (keyL (rowAt s.made a)) = some o ∧ (rowAt s.made o).b ≤ (rowAt s.made a).b) ∧ (∃ c ∈ (rowAt s.made a).c, c ≠ 0) ∧ ∀ j, P j → (rowAt s.made a).c.getD j 0 = 0
/-- That what is known says asg much asg a row. -/
def Cov (n : Nat) (s : RS) (r : Row) : Prop := ((∀ c ∈ r.c, c = 0) ∧ 0 ≤ r.b) ∨ ∃ r', Fits n r' ∧ (∀ D X, 0 < D → SatQ D X r' → SatQ D X r) ∧ (∀ j, r.c.getD j 0 = 0 → r'.c.getD j 0 = 0) ∧ ∃ a, keyAt s.known (keyL r') = some a ∧ (rowAt s.made a).b ≤ r'.b
theorem pre_row {m more : List Row} {a : Int} (h0 : 0 ≤ a) (h1 : a < (m.length : Int)) : rowAt (m ++ more) a = rowAt m a := rowAt_left h0 h1
theorem Mono.refl {n : Nat} {s : RS} : Mono s s := ⟨⟨[], by simp⟩, fun K a h _ _ => ⟨a, h, Int.le_refl _⟩⟩
theorem Mono.trans {s s' s'' : RS} (hk : ∀ K a, keyAt s'.known K = some a → 0 ≤ a ∧ a < (s'.made.length : Int)) (h : Mono s s') (k : Mono s' s'') : Mono s s'' := by
  obtain ⟨x, hx⟩ := h.pre
  obtain ⟨y, hy⟩ := k.pre
  refine ⟨⟨x ++ y, by rw [hy, hx, List.append_assoc]⟩, fun K a h1 h2 h3 => ?_⟩
  obtain ⟨a', e1, e2⟩ := h.kn K a h1 h2 h3
  obtain ⟨b1, b2⟩ := hk K a' e1
  obtain ⟨a'', f1, f2⟩ := k.kn K a' e1 b1 b2
  exact ⟨a'', f1, by omega⟩
theorem Cov.mono {n : Nat} {s s' : RS} {r : Row} (hk : ∀ K a, keyAt s.known K = some a → 0 ≤ a ∧ a < (s.made.length : Int)) (h : Cov n s r) (hm : Mono s s') : Cov n s' r := by
  rcases h with h | ⟨r', h1, h2, h3, a, h4, h5⟩
  · exact .inl h
  · obtain ⟨b1, b2⟩ := hk _ _ h4
    obtain ⟨a', e1, e2⟩ := hm.kn _ a h4 b1 b2
    exact .inr ⟨r', h1, h2, h3, a', e1, by omega⟩
theorem map_tdiv_get {c : List Int} {g : Int} (j : Nat) : (c.map fun x => x.tdiv g).getD j 0 = (c.getD j 0).tdiv g := by
  simp only [List.getD_eq_getElem?_getD, List.getElem?_map]
  cases c[j]? <;> simp
theorem DivOf.sat {n : Nat} {r r' : Row} (hr : Fits n r) (h : DivOf r r') : (∀ D X, 0 < D → SatQ D X r' → SatQ D X r) ∧ (∀ j, r.c.getD j 0 = 0 → r'.c.getD j 0 = 0) ∧ ((∃ c ∈ r.c, c ≠ 0) → ∃ c ∈ r'.c, c ≠ 0) := by
  rcases h with rfl | ⟨g, hg, hd, rfl⟩
  · exact ⟨fun _ _ _ h => h, fun _ h => h, fun h => h⟩
  · refine ⟨fun D X hD h => h.div hD hg (fits_small hr).2 hd, fun j hj => ?_, fun ⟨c, hc, hne⟩ => ⟨c.tdiv g, List.mem_map.2 ⟨c, hc, rfl⟩, fun e => ?_⟩⟩
    · show (r.c.map fun c => c.tdiv g).getD j 0 = 0
      rw [map_tdiv_get, hj]; simp
    · have := tdiv_dvd (hd c hc)
      rw [e] at this
      omega
theorem common_ne_zero {n : Nat} {r : Row} (hr : Fits n r) (h : commonF r ≠ 0) : ∃ c ∈ r.c, c ≠ 0 := by
  refine Classical.byContradiction fun hc => h ?_
  have hz : ∀ c ∈ r.c, c = 0 := fun c hc' => Classical.byContradiction fun e => hc ⟨c, hc', e⟩
  have : ∀ cs : List Int, (∀ c ∈ cs, c = 0) → commonGo cs 0 = 0 := by
    intro cs
    induction cs with
    | nil => intro _; rfl
    | cons c cs ih =>
      intro h
      rw [commonGo, h c (List.mem_cons_self ..), gcdF_eq ⟨by omega, by omega⟩ ⟨by omega, by omega⟩]
      exact ih fun x hx => h x (List.mem_cons_of_mem _ hx)
  exact this r.c hz
theorem absurd_not {r : Row} (h : absurdF r = false) (hz : ∀ c ∈ r.c, c = 0) : 0 ≤ r.b := by
  refine Int.le_of_not_gt fun hb => ?_
  have : absurdF r = true := by
    simp only [absurdF, Bool.and_eq_true, decide_eq_true_eq, Bool.not_eq_true', List.any_eq_false]
    exact ⟨hb, fun c hc => by simp [hz c hc]⟩
  rw [this] at h; cases h
/-- One line kept. -/
theorem keepS_inv {rows : List Row} {n : Nat} {most : Int} {P : Nat → Prop} {s s' : RS} {l : List Int} {x : Line} {a : Int} (hok : OkS n most s) (hi : Inv n P s l) (h : keepS rows n most s x = .ok (a, s')) (hz : ∀ j, P j → (makeF rows s.made n x).1.c.getD j 0 = 0) :
    Inv n P s' (l ++ [a]) ∧ Mono s s' ∧ OkS n most s' ∧ (makeF rows s.made n x).2 = 0 ∧ Cov n s' (makeF rows s.made n x).1 := by
  obtain ⟨h1, h2, h3⟩ := keepS_val2 hok h
  obtain ⟨hok', hgr, _, _⟩ := keepS_val hok h
  have hft := makeF_ok hok.fits h1
  generalize makeF rows s.made n x = w at *
  obtain ⟨more, hmore⟩ := hgr.pre
  -- what a growing list of rows keeps
  have hrow : ∀ b : Int, 0 ≤ b → b < (s.made.length : Int) → rowAt s'.made b = rowAt s.made b := fun b b0 b1 => by rw [hmore]; exact pre_row b0 b1
  have hlen : s.made.length ≤ s'.made.length := by rw [hmore]; simp
  rcases h3 with ⟨c0, rfl, hk⟩ | ⟨c0, p, m', l', q1, q2, q3, ⟨mo, q4⟩, q5, q6⟩
  · refine ⟨⟨fun K b hb => ?_, fun K b hb hj => ?_, fun b hb hb0 => ?_⟩, ⟨⟨more, hmore⟩, fun K b hb b0 b1 => ?_⟩, hok', h1, .inl ⟨(commonF_spec (fits_in hft)).2.2 c0, absurd_not h2 ((commonF_spec (fits_in hft)).2.2 c0)⟩⟩
    · rw [hk] at hb
      obtain ⟨k1, k2, k3⟩ := hi.key K b hb
      exact ⟨k1, by omega, by rw [hrow b k1 k2]; exact k3⟩
    · rw [hk] at hb
      exact List.mem_append_left _ (hi.live K b hb hj)
    · rcases List.mem_append.1 hb with hb | hb
      · obtain ⟨k1, ⟨o, k2, k3⟩, k4, k5⟩ := hi.has b hb hb0
        obtain ⟨o0, o1, _⟩ := hi.key _ _ k2
        rw [hrow b hb0 k1]
        exact ⟨by omega, ⟨o, by rw [hk]; exact k2, by rw [hrow o o0 o1]; exact k3⟩, k4, k5⟩
      · rw [List.mem_singleton.1 hb] at hb0; omega
    · exact ⟨b, by rw [hk]; exact hb, by rw [hrow b b0 b1]; exact Int.le_refl _⟩
  · obtain ⟨e1, e2, e3⟩ := keep2_val q6
    simp only at e1 e2 e3
    have hpr : rowAt s'.made (p : Int) = rowAt m' (p : Int) := by rw [e1]
    have hfp : Fits n (rowAt m' (p : Int)) := q5.fits _ (rowAt_mem (l := m') (by omega) (by omega))
    obtain ⟨d1, d2, d3⟩ := q3.sat hft
    have hne := d3 (common_ne_zero hft c0)
    have hrm : ∀ b : Int, 0 ≤ b → b < (s.made.length : Int) → rowAt m' b = rowAt s.made b := fun b b0 b1 => by rw [q4]; exact pre_row b0 b1
    rcases e3 with ⟨rfl, hk, old, ho, hob⟩ | ⟨rfl, hk, hold⟩
    · obtain ⟨o0, o1, _⟩ := hi.key _ _ ho
      refine ⟨⟨fun K b hb => ?_, fun K b hb hj => ?_, fun b hb hb0 => ?_⟩, ⟨⟨more, hmore⟩, fun K b hb b0 b1 => ?_⟩, hok', h1, .inr ⟨rowAt m' (p : Int), hfp, d1, d2, old, by rw [hk]; exact ho, by rw [e1]; exact hob⟩⟩
      · rw [hk] at hb
        obtain ⟨k1, k2, k3⟩ := hi.key K b hb
        exact ⟨k1, by omega, by rw [hrow b k1 k2]; exact k3⟩
      · rw [hk] at hb
        exact List.mem_append_left _ (hi.live K b hb hj)
      · rcases List.mem_append.1 hb with hb | hb
        · obtain ⟨k1, ⟨o, k2, k3⟩, k4, k5⟩ := hi.has b hb hb0
          obtain ⟨o0, o1, _⟩ := hi.key _ _ k2
          rw [hrow b hb0 k1]
          exact ⟨by omega, ⟨o, by rw [hk]; exact k2, by rw [hrow o o0 o1]; exact k3⟩, k4, k5⟩
        · rw [List.mem_singleton.1 hb] at hb0; omega
      · exact ⟨b, by rw [hk]; exact hb, by rw [hrow b b0 b1]; exact Int.le_refl _⟩
    · have hp0 : (0 : Int) ≤ p := by omega
      have hp1 : (p : Int) < (s'.made.length : Int) := by rw [e1]; omega
      have hka : ∀ K, keyAt s'.known K = if keyL (rowAt m' (p : Int)) = K then some (p : Int) else keyAt s.known K := fun K => by rw [hk]; exact keyAt_cons _ _ _ _
      have mono : ∀ K b, keyAt s.known K = some b → 0 ≤ b → b < (s.made.length : Int) → ∃ a', keyAt s'.known K = some a' ∧ (rowAt s'.made a').b ≤ (rowAt s.made b).b := fun K b hb b0 b1 => by
        rw [hka]
        split
        · rename_i e
          refine ⟨p, rfl, ?_⟩
          have := hold b (by rw [e]; exact hb)
          rw [hpr]
          rw [hrm b b0 b1] at this
          exact this
        · exact ⟨b, hb, by rw [hrow b b0 b1]; exact Int.le_refl _⟩
      refine ⟨⟨fun K b hb => ?_, fun K b hb hj => ?_, fun b hb hb0 => ?_⟩, ⟨⟨more, hmore⟩, mono⟩, hok', h1, .inr ⟨rowAt m' (p : Int), hfp, d1, d2, p, by rw [hka, if_pos rfl], by rw [hpr]; exact Int.le_refl _⟩⟩
      · rw [hka] at hb
        split at hb
        · rename_i e
          injection hb with hb
          subst hb
          exact ⟨hp0, hp1, by rw [hpr]; exact e⟩
        · obtain ⟨k1, k2, k3⟩ := hi.key K b hb
          exact ⟨k1, by omega, by rw [hrow b k1 k2]; exact k3⟩
      · rw [hka] at hb
        split at hb
        · injection hb with hb
          rw [hb]; exact List.mem_append_right _ (List.mem_singleton_self _)
        · exact List.mem_append_left _ (hi.live K b hb hj)
      · rcases List.mem_append.1 hb with hb | hb
        · obtain ⟨k1, ⟨o, k2, k3⟩, k4, k5⟩ := hi.has b hb hb0
          obtain ⟨o0, o1, _⟩ := hi.key _ _ k2
          obtain ⟨a', f1, f2⟩ := mono _ o k2 o0 o1
          rw [hrow b hb0 k1]
          exact ⟨by omega, ⟨a', f1, by omega⟩, k4, k5⟩
        · rw [List.mem_singleton.1 hb, hpr]
          exact ⟨by rw [← e1] at q2; omega, ⟨p, by rw [hka, if_pos rfl], by rw [hpr]; exact Int.le_refl _⟩, hne, fun j hj => d2 j (hz j hj)⟩
/-- Lines kept. -/
theorem makeF_grow {rows made more : List Row} {n : Nat} {l : Line} (h : 3 ≤ l.k → (0 ≤ l.a ∧ l.a < (made.length : Int)) ∧ 0 ≤ l.b ∧ l.b < (made.length : Int)) : makeF rows (made ++ more) n l = makeF rows made n l := by
  by_cases hk : 3 ≤ l.k
  · obtain ⟨a, b⟩ := h hk
    have e1 : (0 ≤ l.a ∧ l.a < ((made ++ more).length : Int)) = (0 ≤ l.a ∧ l.a < (made.length : Int)) := by rw [List.length_append]; exact propext ⟨fun _ => a, fun _ => by omega⟩
    have e2 : (0 ≤ l.b ∧ l.b < ((made ++ more).length : Int)) = (0 ≤ l.b ∧ l.b < (made.length : Int)) := by rw [List.length_append]; exact propext ⟨fun _ => b, fun _ => by omega⟩
    unfold makeF
    simp only [e1, e2, rowAt_left a.1 a.2, rowAt_left b.1 b.2]
  · unfold makeF
    have h3 : ¬ l.k = 3 := by omega
    have h4 : ¬ l.k = 4 := by omega
    simp only [h3, h4, if_false]
theorem keepsS_inv {rows : List Row} {n : Nat} {most : Int} {P : Nat → Prop} : ∀ (xs : List Line) (s s' : RS) (l l' : List Int), OkS n most s → Inv n P s l → keepsS rows n most xs s l = .ok (s', l') →
    (∀ x ∈ xs, 3 ≤ x.k → (0 ≤ x.a ∧ x.a < (s.made.length : Int)) ∧ 0 ≤ x.b ∧ x.b < (s.made.length : Int)) → (∀ x ∈ xs, ∀ j, P j → (makeF rows s.made n x).1.c.getD j 0 = 0) →
    Inv n P s' l' ∧ Mono s s' ∧ OkS n most s' ∧ ∀ x ∈ xs, (makeF rows s.made n x).2 = 0 ∧ Cov n s' (makeF rows s.made n x).1
  | [], s, s', l, l', hok, hi, h, _, _ => by
    unfold keepsS at h
    injection h with h
    injection h with h1 h2
    subst h1; subst h2
    exact ⟨hi, Mono.refl (n := n), hok, by simp⟩
  | x :: xs, s, s', l, l', hok, hi, h, hr, hz => by
    unfold keepsS at h
    cases e : keepS rows n most s x with
    | error p => rw [e] at h; cases h
    | ok p =>
      obtain ⟨a, s1⟩ := p
      rw [e] at h
      obtain ⟨i1, m1, o1, v1, c1⟩ := keepS_inv hok hi e (hz x (List.mem_cons_self ..))
      obtain ⟨more, hm⟩ := m1.pre
      have gr : ∀ y ∈ xs, makeF rows s1.made n y = makeF rows s.made n y := fun y hy => by
        rw [hm]; exact makeF_grow (hr y (List.mem_cons_of_mem _ hy))
      obtain ⟨i2, m2, o2, c2⟩ := keepsS_inv xs s1 s' (l ++ [a]) l' o1 i1 h
        (fun y hy hk => by have := hr y (List.mem_cons_of_mem _ hy) hk; rw [hm, List.length_append]; omega)
        (fun y hy j hj => by rw [gr y hy]; exact hz y (List.mem_cons_of_mem _ hy) j hj)
      refine ⟨i2, m1.trans (fun K a h => ⟨(i1.key K a h).1, (i1.key K a h).2.1⟩) m2, o2, fun y hy => ?_⟩
      rcases List.mem_cons.1 hy with rfl | hy
      · exact ⟨v1, c1.mono (fun K a h => ⟨(i1.key K a h).1, (i1.key K a h).2.1⟩) m2⟩
      · have := c2 y hy
        rw [gr y hy] at this
        exact this
end Go.PV.Ytefpjfpelicedaa
end
section
/- A search that ends without a certificate: rational numbers from 0 on fulfil the rows. -/
set_option linter.unusedVariables false
set_option linter.unusedSimpArgs false
set_option maxRecDepth 20000
namespace Go.PV.Ytefpjfpelicedaa
open Go Go.Proofs
theorem keyL_get {n : Nat} {r : Row} (h : Fits n r) (hn : n ≤ 12) (j : Nat) : (keyL r).getD j 0 = r.c.getD j 0 := by
  have hl := h.1
  unfold keyL
  rw [wideL_eq (by omega)]
  simp only [List.getD_eq_getElem?_getD, List.getElem?_append]
  split
  · rfl
  · rename_i hj
    rw [List.getElem?_replicate]
    rw [List.getElem?_eq_none (by omega)]
    split <;> rfl
theorem keyL_inj {n : Nat} {r r' : Row} (h : Fits n r) (h' : Fits n r') (hn : n ≤ 12) (e : keyL r = keyL r') : r.c = r'.c := by
  have l1 := h.1
  have l2 := h'.1
  unfold keyL at e
  rw [wideL_eq (by omega), wideL_eq (by omega)] at e
  exact List.append_inj_left e (by omega)
theorem cur_mem {s : RS} {l : List Int} {a : Int} : a ∈ curS s l ↔ a ∈ l ∧ 0 ≤ a ∧ (keyAt s.known (keyL (rowAt s.made a))).getD 0 = a := by
  unfold curS isCur
  rw [List.mem_filter, Bool.and_eq_true, decide_eq_true_eq, decide_eq_true_eq]
theorem cov_sat {n : Nat} {most : Int} {P : Nat → Prop} {s : RS} {l : List Int} {r : Row} {D : Int} {X : List Int} (hn : n ≤ 12) (hok : OkS n most s) (hi : Inv n P s l) (hc : Cov n s r) (hz : ∀ j, P j → r.c.getD j 0 = 0) (hD : 0 < D)
    (hs : ∀ a ∈ curS s l, SatQ D X (rowAt s.made a)) : SatQ D X r := by
  rcases hc with ⟨h1, h2⟩ | ⟨r', h1, h2, h3, a, h4, h5⟩
  · exact SatQ.zero hD h1 h2
  · obtain ⟨a0, a1, ak⟩ := hi.key _ _ h4
    have hl := hi.live _ _ h4 fun j _ hj => by rw [keyL_get h1 hn]; exact h3 j (hz j hj)
    have hsat := hs a (cur_mem.2 ⟨hl, a0, by rw [ak, h4]; rfl⟩)
    refine h2 D X hD ?_
    have hc := keyL_inj (hok.fits _ (rowAt_mem a0 a1)) h1 hn ak
    unfold SatQ at *
    rw [hc] at hsat
    have := Int.mul_le_mul_of_nonneg_right h5 (show 0 ≤ D by omega)
    omega
theorem sumL_get {a b : List Int} {m k : Int} (h : a.length = b.length) (j : Nat) : (sumL a b m k).getD j 0 = a.getD j 0 * m + b.getD j 0 * k := by
  simp only [sumL, List.getD_eq_getElem?_getD, List.getElem?_zipWith]
  by_cases hj : j < a.length
  · have hj' : j < b.length := by omega
    simp [hj, hj']
  · rw [List.getElem?_eq_none (by omega), List.getElem?_eq_none (by omega)]
    simp
theorem makeF_sum_val {rows made : List Row} {n : Nat} {l : Line} (hk : l.k = 3) (h : (makeF rows made n l).2 = 0) : makeF rows made n l = (⟨sumL (rowAt made l.a).c (rowAt made l.b).c l.m l.n, (rowAt made l.a).b * l.m + (rowAt made l.b).b * l.n⟩, 0) := by
  unfold makeF at *
  simp only [hk, show ¬ (3 : Int) = 1 from by decide, show ¬ (3 : Int) = 2 from by decide, if_true, if_false] at *
  split at h
  · rename_i c
    rw [if_pos c]
    exact outF_val h
  · simp at h
theorem outF_bad {r : Row} (h : (outF r).2 ≠ 0) : (outF r).1 = ⟨[], 0⟩ := by
  unfold outF at *
  split
  · rfl
  · rename_i c; rw [if_neg c] at h; exact absurd rfl h
theorem makeF_bad_row {rows made : List Row} {n : Nat} {l : Line} (h : (makeF rows made n l).2 ≠ 0) : (makeF rows made n l).1 = ⟨[], 0⟩ := by
  revert h
  unfold makeF
  split
  · split
    · exact outF_bad
    · intro _; rfl
  split
  · split
    · exact outF_bad
    · intro _; rfl
  split
  · split
    · exact outF_bad
    · intro _; rfl
  split
  · split
    · split
      · intro _; rfl
      · exact outF_bad
    · intro _; rfl
  · intro _; rfl
theorem sum_facts {R : Int → Row} {k : Nat} {p : Int × Int} (h1 : 0 < cf R k p.1 ∧ cf R k p.1 ≤ 1000000000000) (h2 : cf R k p.2 < 0 ∧ -1000000000000 ≤ cf R k p.2) :
    ∃ g, 0 < g ∧ (sumLine R k p).m * g = -(cf R k p.2) ∧ (sumLine R k p).n * g = cf R k p.1 := by
  have w : W (-(cf R k p.2)) = -(cf R k p.2) := wrap_ok (by omega) (by omega)
  obtain ⟨c1, c2, c3⟩ := commonF_spec (r := ⟨[-(cf R k p.2), cf R k p.1], 0⟩) (fun c hc => by
    simp only [List.mem_cons, List.not_mem_nil, or_false] at hc
    unfold In64
    rcases hc with rfl | rfl <;> omega)
  have d1 := c2 (-(cf R k p.2)) (by simp)
  have d2 := c2 (cf R k p.1) (by simp)
  refine ⟨commonF ⟨[-(cf R k p.2), cf R k p.1], 0⟩, ?_, ?_, ?_⟩
  · have : commonF ⟨[-(cf R k p.2), cf R k p.1], 0⟩ ≠ 0 := fun e => by
      have := c3 e (cf R k p.1) (by simp)
      omega
    omega
  · simp only [sumLine, w]
    have := abs_tdiv (c := -(cf R k p.2)) (g := commonF ⟨[-(cf R k p.2), cf R k p.1], 0⟩) (C := 1000000000000) (by omega)
    rw [show W ((-(cf R k p.2)).tdiv (commonF ⟨[-(cf R k p.2), cf R k p.1], 0⟩)) = (-(cf R k p.2)).tdiv (commonF ⟨[-(cf R k p.2), cf R k p.1], 0⟩) from wrap_ok (by omega) (by omega), tdiv_dvd d1]
  · simp only [sumLine, w]
    have := abs_tdiv (c := cf R k p.1) (g := commonF ⟨[-(cf R k p.2), cf R k p.1], 0⟩) (C := 1000000000000) (by omega)
    rw [show W ((cf R k p.1).tdiv (commonF ⟨[-(cf R k p.2), cf R k p.1], 0⟩)) = (cf R k p.1).tdiv (commonF ⟨[-(cf R k p.2), cf R k p.1], 0⟩) from wrap_ok (by omega) (by omega), tdiv_dvd d2]
theorem pairs_mem {R : Int → Row} {k : Nat} {l : List Int} {a b : Int} (ha : a ∈ l) (hb : b ∈ l) (h1 : 0 < cf R k a) (h2 : cf R k b < 0) : (a, b) ∈ pairsL R k l l := by
  unfold pairsL
  refine List.mem_flatMap.2 ⟨a, ha, ?_⟩
  unfold inner
  rw [if_pos h1]
  exact List.mem_map.2 ⟨b, List.mem_filter.2 ⟨hb, decide_eq_true h2⟩, rfl⟩
theorem pairs_of {R : Int → Row} {k : Nat} {l : List Int} {p : Int × Int} (h : p ∈ pairsL R k l l) : p.1 ∈ l ∧ p.2 ∈ l ∧ 0 < cf R k p.1 ∧ cf R k p.2 < 0 := by
  unfold pairsL at h
  obtain ⟨a, ha, hp⟩ := List.mem_flatMap.1 h
  unfold inner at hp
  split at hp
  · rename_i h1
    obtain ⟨b, hb, rfl⟩ := List.mem_map.1 hp
    obtain ⟨hb1, hb2⟩ := List.mem_filter.1 hb
    exact ⟨ha, hb1, h1, by simpa using hb2⟩
  · cases hp
theorem getD_small {n : Nat} {r : Row} (h : Fits n r) (k : Nat) : -1000000000000 ≤ r.c.getD k 0 ∧ r.c.getD k 0 ≤ 1000000000000 := by
  by_cases hk : k < r.c.length
  · have := (fits_small h).1 _ (List.getElem_mem hk)
    simpa [List.getD_eq_getElem?_getD, hk] using this
  · rw [List.getD_eq_getElem?_getD, List.getElem?_eq_none (by omega)]
    simp
theorem round_point {rows : List Row} {n : Nat} {most : Int} (hn : n ≤ 12) : ∀ (r : Nat) (s s' : RS) (l : List Int) (done : List Bool), OkS n most s → Inv n (fun j => done.getD j false = true) s l → done.length = n → done.count true + r = n → roundsS rows n most r s l done = .ok s' →
    ∃ D X, 0 < D ∧ X.length = n ∧ ∀ a ∈ curS s l, SatQ D X (rowAt s.made a)
  | 0, s, s', l, done, hok, hi, hdl, hcount, h => by
    refine ⟨1, List.replicate n 0, by omega, by simp, fun a ha => ?_⟩
    exfalso
    obtain ⟨hal, ha0, _⟩ := cur_mem.1 ha
    obtain ⟨h1, _, ⟨c, hc, hne⟩, h4⟩ := hi.has a hal ha0
    have hall : ∀ d ∈ done, d = true := List.count_eq_length.1 (by omega) |> fun h d hd => (h d hd).symm
    have hf := hok.fits _ (rowAt_mem ha0 h1)
    obtain ⟨j, hj, rfl⟩ := List.getElem_of_mem hc
    have hjd : j < done.length := by rw [hdl, ← hf.1]; exact hj
    have := h4 j (by
      rw [List.getD_eq_getElem?_getD, List.getElem?_eq_getElem hjd]
      exact hall _ (List.getElem_mem _))
    rw [List.getD_eq_getElem?_getD, List.getElem?_eq_getElem hj] at this
    exact hne this
  | r + 1, s, s', l, done, hok, hi, hdl, hcount, h => by
    obtain ⟨k, hk, he, hkf⟩ := eas_ok (st := s) (l := curS s l) (done := done) (count_false (by omega))
    have hkn : k < n := by omega
    unfold roundsS roundS at h
    rw [he] at h
    simp only [Int.toNat_natCast] at h
    have hcur : ∀ a ∈ curS s l, a ∈ l ∧ 0 ≤ a ∧ a < (s.made.length : Int) := fun a ha => by
      obtain ⟨h1, h2, _⟩ := cur_mem.1 ha
      exact ⟨h1, h2, (hi.has a h1 h2).1⟩
    have hP : ∀ j, (done.set k true).getD j false = true ↔ (done.getD j false = true ∨ j = k) := fun j => by
      rw [getD_set hk]
      split
      · rename_i e; simp [e]
      · rename_i e; simp [Ne.symm e]
    have hfit : ∀ a ∈ curS s l, Fits n (rowAt s.made a) := fun a ha => hok.fits _ (rowAt_mem (hcur a ha).2.1 (hcur a ha).2.2)
    -- what the zeros keep
    have hi0 : Inv n (fun j => (done.set k true).getD j false = true) s (zerosS s k (curS s l)) := by
      refine ⟨hi.key, fun K b hb hz => ?_, fun b hb hb0 => ?_⟩
      · obtain ⟨b0, b1, bk⟩ := hi.key K b hb
        have hbl := hi.live K b hb fun j hj hd => hz j hj ((hP j).2 (.inl hd))
        have hbc : b ∈ curS s l := cur_mem.2 ⟨hbl, b0, by rw [bk, hb]; rfl⟩
        refine List.mem_filter.2 ⟨hbc, decide_eq_true ?_⟩
        have := hz k hkn ((hP k).2 (.inr rfl))
        rw [← bk, keyL_get (hfit b hbc) hn] at this
        exact this
      · obtain ⟨h1, h2⟩ := List.mem_filter.1 hb
        obtain ⟨k1, k2, k3, k4⟩ := hi.has b (hcur b h1).1 hb0
        refine ⟨k1, k2, k3, fun j hj => ?_⟩
        rcases (hP j).1 hj with hj | rfl
        · exact k4 j hj
        · simpa [coefS] using h2
    cases e : keepsS rows n most ((pairsL (rowsOf s) k (curS s l) (curS s l)).map (sumLine (rowsOf s) k)) s (zerosS s k (curS s l)) with
    | error p => rw [e] at h; cases h
    | ok p =>
      obtain ⟨s1, l1⟩ := p
      rw [e] at h
      simp only at h
      -- what is known of a pair's line
      have pair : ∀ p ∈ pairsL (rowsOf s) k (curS s l) (curS s l), ((0 ≤ p.1 ∧ p.1 < (s.made.length : Int)) ∧ 0 ≤ p.2 ∧ p.2 < (s.made.length : Int)) ∧ ∃ g, 0 < g ∧ (sumLine (rowsOf s) k p).m * g = -((rowAt s.made p.2).c.getD k 0) ∧ (sumLine (rowsOf s) k p).n * g = (rowAt s.made p.1).c.getD k 0 := fun p hp => by
        obtain ⟨p1, p2, p3, p4⟩ := pairs_of hp
        have b1 := getD_small (hfit _ p1) k
        have b2 := getD_small (hfit _ p2) k
        exact ⟨⟨(hcur _ p1).2, (hcur _ p2).2⟩, sum_facts ⟨p3, b1.2⟩ ⟨p4, b2.1⟩⟩
      obtain ⟨i1, m1, o1, c1⟩ := keepsS_inv _ s s1 _ l1 hok hi0 e (fun x hx _ => by
          obtain ⟨p, hp, rfl⟩ := List.mem_map.1 hx
          exact (pair p hp).1) (fun x hx j hj => by
          obtain ⟨p, hp, rfl⟩ := List.mem_map.1 hx
          by_cases hv : (makeF rows s.made n (sumLine (rowsOf s) k p)).2 = 0
          · rw [makeF_sum_val rfl hv]
            obtain ⟨p1, p2, p3, p4⟩ := pairs_of hp
            obtain ⟨_, g, g0, g1, g2⟩ := pair p hp
            show (sumL (rowAt s.made p.1).c (rowAt s.made p.2).c _ _).getD j 0 = 0
            rw [sumL_get (by rw [(hfit _ p1).1, (hfit _ p2).1])]
            rcases (hP j).1 hj with hj | rfl
            · rw [(hi.has _ (hcur _ p1).1 (hcur _ p1).2.1).2.2.2 j hj, (hi.has _ (hcur _ p2).1 (hcur _ p2).2.1).2.2.2 j hj]
              simp
            · have e1 : (rowAt s.made p.2).c.getD j 0 = -((sumLine (rowsOf s) j p).m * g) := by omega
              rw [← g2, e1, Int.neg_mul]
              have : (sumLine (rowsOf s) j p).n * g * (sumLine (rowsOf s) j p).m = (sumLine (rowsOf s) j p).m * g * (sumLine (rowsOf s) j p).n := by ac_rfl
              omega
          · rw [makeF_bad_row hv]; rfl)
      obtain ⟨D, X, hD, hX, hsat⟩ := round_point hn r s1 s' l1 (done.set k true) o1 i1 (by simpa using hdl) (by rw [count_set hk hkf]; omega) h
      have cov : ∀ r : Row, Cov n s1 r → (∀ j, (done.set k true).getD j false = true → r.c.getD j 0 = 0) → SatQ D X r := fun r hc hz => cov_sat hn o1 i1 hc hz hD hsat
      obtain ⟨D', X', h1, h2, h3⟩ := elim_step (L := (curS s l).map (rowAt s.made)) (k := k) (n := n) hkn hX hD (fun r hr h0 => by
          obtain ⟨a, ha, rfl⟩ := List.mem_map.1 hr
          obtain ⟨k1, ⟨o, k2, k3⟩, k4, k5⟩ := hi.has a (hcur a ha).1 (hcur a ha).2.1
          obtain ⟨o0, o1', _⟩ := hi.key _ _ k2
          obtain ⟨o', f1, f2⟩ := m1.kn _ o k2 o0 o1'
          refine cov _ (.inr ⟨_, hfit a ha, fun _ _ _ h => h, fun _ h => h, o', f1, by omega⟩) fun j hj => ?_
          rcases (hP j).1 hj with hj | rfl
          · exact k5 j hj
          · exact h0) (fun r hr q hq hr0 hq0 => by
          obtain ⟨a, ha, rfl⟩ := List.mem_map.1 hr
          obtain ⟨b, hb, rfl⟩ := List.mem_map.1 hq
          have hp := pairs_mem (R := rowsOf s) ha hb hr0 hq0
          obtain ⟨v, cv⟩ := c1 _ (List.mem_map.2 ⟨(a, b), hp, rfl⟩)
          obtain ⟨_, g, g0, g1, g2⟩ := pair (a, b) hp
          rw [makeF_sum_val rfl v] at cv
          have hs := cov _ cv fun j hj => by
            show (sumL (rowAt s.made a).c (rowAt s.made b).c _ _).getD j 0 = 0
            rw [sumL_get (by rw [(hfit _ ha).1, (hfit _ hb).1])]
            rcases (hP j).1 hj with hj | rfl
            · rw [(hi.has _ (hcur _ ha).1 (hcur _ ha).2.1).2.2.2 j hj, (hi.has _ (hcur _ hb).1 (hcur _ hb).2.1).2.2.2 j hj]
              simp
            · simp only at g1 g2
              have e1 : (rowAt s.made b).c.getD j 0 = -((sumLine (rowsOf s) j (a, b)).m * g) := by omega
              rw [← g2, e1, Int.neg_mul]
              have : (sumLine (rowsOf s) j (a, b)).n * g * (sumLine (rowsOf s) j (a, b)).m = (sumLine (rowsOf s) j (a, b)).m * g * (sumLine (rowsOf s) j (a, b)).n := by ac_rfl
              omega
          replace hs : dot (sumL (rowAt s.made a).c (rowAt s.made b).c (sumLine (rowsOf s) k (a, b)).m (sumLine (rowsOf s) k (a, b)).n) X ≤ ((rowAt s.made a).b * (sumLine (rowsOf s) k (a, b)).m + (rowAt s.made b).b * (sumLine (rowsOf s) k (a, b)).n) * D := hs
          rw [dot_sum _ _ _ _ _ (by rw [(hfit _ ha).1, (hfit _ hb).1])] at hs
          have hm := Int.mul_le_mul_of_nonneg_right hs (show 0 ≤ g by omega)
          simp only at g1 g2
          rw [← g1, ← g2]
          generalize (sumLine (rowsOf s) k (a, b)).m = m at *
          generalize (sumLine (rowsOf s) k (a, b)).n = w at *
          rw [Int.add_mul] at hm
          have x1 : dot (rowAt s.made a).c X * m * g = dot (rowAt s.made a).c X * (m * g) := by ac_rfl
          have x2 : dot (rowAt s.made b).c X * w * g = dot (rowAt s.made b).c X * (w * g) := by ac_rfl
          have x3 : ((rowAt s.made a).b * m + (rowAt s.made b).b * w) * D * g = ((rowAt s.made a).b * (m * g) + (rowAt s.made b).b * (w * g)) * D := by
            rw [Int.mul_right_comm, Int.add_mul]
            congr 2 <;> ac_rfl
          rw [x1, x2, x3] at hm
          exact hm)
      exact ⟨D', X', h1, h2, fun a ha => h3 _ (List.mem_map.2 ⟨a, ha, rfl⟩)⟩
theorem Inv.weaken {n : Nat} {P Q : Nat → Prop} {s : RS} {l : List Int} (h : Inv n P s l) (e : ∀ j, P j ↔ Q j) : Inv n Q s l := by
  have : P = Q := funext fun j => propext (e j)
  rw [← this]; exact h
theorem search_point {rows : List Row} {n : Nat} {most : Int} {s' : RS} (hn : n ≤ 12) (h0 : 0 ≤ most) (hr : ∀ r ∈ rows, r.c.length ≤ n) (h : searchS rows n most = .ok s') :
    ∃ D X, 0 < D ∧ X.length = n ∧ (∀ x ∈ X, 0 ≤ x) ∧ ∀ r ∈ rows, dot r.c X ≤ r.b * D := by
  unfold searchS at h
  cases e1 : keepsS rows n most (givens rows) ⟨[], [], []⟩ [] with
  | error p => rw [e1] at h; cases h
  | ok p =>
    obtain ⟨s1, l1⟩ := p
    rw [e1] at h
    simp only at h
    cases e2 : keepsS rows n most (naturals n) s1 l1 with
    | error p => rw [e2] at h; cases h
    | ok p =>
      obtain ⟨s2, l2⟩ := p
      rw [e2] at h
      simp only at h
      have i0 : Inv n (fun _ => False) ⟨[], [], []⟩ [] := ⟨fun K a h => by simp [keyAt] at h, fun K a h => by simp [keyAt] at h, by simp⟩
      obtain ⟨i1, m1, o1, c1⟩ := keepsS_inv _ _ _ _ _ ⟨by simp, rfl, by simpa using h0, by simp⟩ i0 e1 (fun x hx hk => by
        obtain ⟨i, _, rfl⟩ := List.mem_map.1 hx
        exact absurd hk (by simp)) (fun x hx j hj => hj.elim)
      obtain ⟨i2, m2, o2, c2⟩ := keepsS_inv _ _ _ _ _ o1 i1 e2 (fun x hx hk => by
        obtain ⟨i, _, rfl⟩ := List.mem_map.1 hx
        exact absurd hk (by simp)) (fun x hx j hj => hj.elim)
      have hrep : ∀ j, False ↔ (List.replicate n false).getD j false = true := fun j => by
        simp only [List.getD_eq_getElem?_getD, List.getElem?_replicate]
        split <;> simp
      obtain ⟨D, X, hD, hX, hs⟩ := round_point hn n s2 s' l2 (List.replicate n false) o2 (i2.weaken hrep) (by simp) (by simp [List.count_replicate]) h
      have hk1 : ∀ K a, keyAt s1.known K = some a → 0 ≤ a ∧ a < (s1.made.length : Int) := fun K a h => ⟨(i1.key K a h).1, (i1.key K a h).2.1⟩
      have hg : ∀ i, i < rows.length → SatQ D X (wideR (rowAt rows (i : Int)) n) := fun i hi => by
        obtain ⟨v, cv⟩ := c1 ⟨1, (i : Nat), 0, 0, 0⟩ (List.mem_map.2 ⟨i, List.mem_range.2 hi, rfl⟩)
        have e : makeF rows [] n ⟨1, (i : Nat), 0, 0, 0⟩ = outF (wideR (rowAt rows (i : Int)) n) := by
          unfold makeF
          rw [if_pos rfl, if_pos ⟨⟨rfl, rfl, rfl⟩, by simp, by simpa using hi⟩]
        simp only at v cv
        rw [e] at v cv
        rw [outF_val v] at cv
        exact cov_sat hn o2 i2 (cv.mono hk1 m2) (fun _ h => h.elim) hD hs
      have hnat : ∀ i, i < n → SatQ D X ⟨(List.replicate n 0).set i (-1), 0⟩ := fun i hi => by
        obtain ⟨v, cv⟩ := c2 ⟨2, (i : Nat), 0, 0, 0⟩ (List.mem_map.2 ⟨i, List.mem_range.2 hi, rfl⟩)
        have e : makeF rows s1.made n ⟨2, (i : Nat), 0, 0, 0⟩ = outF ⟨(List.replicate n 0).set i (-1), 0⟩ := by
          unfold makeF
          simp only [show ¬ (2 : Int) = 1 from by decide, if_true, if_false]
          rw [if_pos ⟨⟨trivial, trivial, trivial⟩, by simp, by simpa using hi⟩]
          simp
        rw [e] at v cv
        rw [outF_val v] at cv
        exact cov_sat hn o2 i2 cv (fun _ h => h.elim) hD hs
      refine ⟨D, X, hD, hX, fun x hx => ?_, fun r hr' => ?_⟩
      · obtain ⟨i, hi, rfl⟩ := List.getElem_of_mem hx
        have := hnat i (by omega)
        unfold SatQ at this
        simp only at this
        rw [dot_unit n i (-1) X hX, if_pos (by omega), List.getD_eq_getElem?_getD, List.getElem?_eq_getElem hi] at this
        simp at this
        omega
      · obtain ⟨i, hi, rfl⟩ := List.getElem_of_mem hr'
        have := hg i hi
        unfold SatQ wideR at this
        rw [rowAt_get (by omega) (by omega)] at this
        simp only [Int.toNat_natCast] at this
        rw [wideL_eq (hr _ hr'), dot_append] at this
        exact this
end Go.PV.Ytefpjfpelicedaa
end
section
/- The search of few small rows meets no limit. -/
set_option linter.unusedVariables false
set_option linter.unusedSimpArgs false
set_option maxRecDepth 20000
namespace Go.PV.Ytefpjfpelicedaa
open Go Go.Proofs
def Ends {α : Type} (x : Except (Out × RS) α) (p : α → Prop) : Prop := (∃ s', x = .error (.found, s')) ∨ ∃ y, x = .ok y ∧ p y
theorem lineS_small {rows : List Row} {n : Nat} {most : Int} {s : RS} {l : Line} (h1 : (s.ls.length : Int) < most) (h2 : (makeF rows s.made n l).2 = 0) :
    Ends (lineS rows n most s l) fun y => y = ((s.ls.length : Int), ⟨s.made ++ [(makeF rows s.made n l).1], s.ls ++ [l], s.known⟩) := by
  by_cases h3 : absurdF (makeF rows s.made n l).1 = true
  · exact .inl ⟨_, lineS_found (by omega) h2 h3⟩
  · exact .inr ⟨_, lineS_val (by omega) h2 (by simpa using h3), rfl⟩
theorem keep2_same {s : RS} {p : Int} : (keep2 s p).2.made = s.made ∧ (keep2 s p).2.ls = s.ls ∧ ((keep2 s p).1 = p ∨ (keep2 s p).1 = -1) := by
  unfold keep2
  split
  · split
    · exact ⟨rfl, rfl, .inr rfl⟩
    · exact ⟨rfl, rfl, .inl rfl⟩
  · exact ⟨rfl, rfl, .inl rfl⟩
theorem keepS_small {rows : List Row} {n : Nat} {most C B : Int} {s : RS} {l : Line} (hok : OkS n most s) (hC : C ≤ 1000000000000) (hB : B ≤ 1000000000000) (h1 : (s.ls.length : Int) + 2 ≤ most) (h2 : (makeF rows s.made n l).2 = 0) (hb : Bd C B (makeF rows s.made n l).1) :
    Ends (keepS rows n most s l) fun y => y.2.ls.length ≤ s.ls.length + 2 ∧ (0 ≤ y.1 → Bd C B (rowAt y.2.made y.1)) := by
  have hl := hok.len
  have hft := makeF_ok hok.fits h2
  unfold keepS
  rcases lineS_small (rows := rows) (n := n) (s := s) (l := l) (most := most) (by omega) h2 with ⟨s', e⟩ | ⟨y, e, rfl⟩
  · rw [e]; exact .inl ⟨s', rfl⟩
  · rw [e]
    simp only [rowAt_last hl.symm]
    generalize makeF rows s.made n l = w at *
    split
    · exact .inr ⟨_, rfl, by simp, fun h => by simp at h⟩
    · split
      · rename_i c1
        have hat : rowAt (s.made ++ [w.1]) ((s.ls.length : Nat) : Int) = w.1 := rowAt_last hl.symm
        have hmd := makeF_div (rows := rows) (made := s.made ++ [w.1]) (n := n) (a := ((s.ls.length : Nat) : Int)) (g := commonF w.1) (C := C) (B := B) (by omega) (by simp; omega) c1 (by rw [hat]; exact (commonF_spec (fits_in hft)).2.1) (by rw [hat]; exact hb) hC hB
        rw [hat] at hmd
        rcases lineS_small (rows := rows) (n := n) (s := ⟨s.made ++ [w.1], s.ls ++ [l], s.known⟩) (l := ⟨4, s.ls.length, 0, commonF w.1, 0⟩) (most := most) (by simp; omega) (by rw [hmd.1]) with ⟨s', e2⟩ | ⟨y, e2, rfl⟩
        · rw [e2]; exact .inl ⟨s', rfl⟩
        · rw [e2]
          refine .inr ⟨_, rfl, ?_⟩
          obtain ⟨k1, k2, k3⟩ := keep2_same (s := ⟨s.made ++ [w.1] ++ [(makeF rows (s.made ++ [w.1]) n ⟨4, s.ls.length, 0, commonF w.1, 0⟩).1], s.ls ++ [l] ++ [⟨4, s.ls.length, 0, commonF w.1, 0⟩], s.known⟩) (p := (((s.ls ++ [l]).length : Nat) : Int))
          refine ⟨by rw [k2]; simp, fun h => ?_⟩
          rcases k3 with k3 | k3
          · rw [k1, k3]
            simp only
            rw [rowAt_last (by simp [hl]), hmd.1]
            exact hmd.2
          · rw [k3] at h; omega
      · refine .inr ⟨_, rfl, ?_⟩
        obtain ⟨k1, k2, k3⟩ := keep2_same (s := ⟨s.made ++ [w.1], s.ls ++ [l], s.known⟩) (p := ((s.ls.length : Nat) : Int))
        refine ⟨by rw [k2]; simp, fun h => ?_⟩
        rcases k3 with k3 | k3
        · rw [k1, k3]
          simp only
          rw [rowAt_last hl.symm]
          exact hb
        · rw [k3] at h; omega
def AllBd (C B : Int) (s : RS) (l : List Int) : Prop := ∀ a ∈ l, 0 ≤ a → a < (s.made.length : Int) ∧ Bd C B (rowAt s.made a)
theorem keepsS_small {rows : List Row} {n : Nat} {most C B : Int} (hC : C ≤ 1000000000000) (hB : B ≤ 1000000000000) : ∀ (xs : List Line) (s : RS) (l : List Int), OkS n most s → AllBd C B s l → (s.ls.length : Int) + 2 * xs.length ≤ most →
    (∀ x ∈ xs, (3 ≤ x.k → (0 ≤ x.a ∧ x.a < (s.made.length : Int)) ∧ 0 ≤ x.b ∧ x.b < (s.made.length : Int)) ∧ (makeF rows s.made n x).2 = 0 ∧ Bd C B (makeF rows s.made n x).1) →
    Ends (keepsS rows n most xs s l) fun y => OkS n most y.1 ∧ AllBd C B y.1 y.2 ∧ y.1.ls.length ≤ s.ls.length + 2 * xs.length ∧ y.2.length = l.length + xs.length
  | [], s, l, hok, hl, _, _ => .inr ⟨_, rfl, hok, hl, by simp, by simp⟩
  | x :: xs, s, l, hok, hl, hm, hx => by
    simp only [List.length_cons] at hm
    obtain ⟨h1, h2, h3⟩ := hx x (List.mem_cons_self ..)
    unfold keepsS
    rcases keepS_small hok hC hB (by omega) h2 h3 with ⟨s', e⟩ | ⟨⟨a, s1⟩, e, k1, k2⟩
    · rw [e]; exact .inl ⟨s', rfl⟩
    · rw [e]
      obtain ⟨v1, v2, _, v4⟩ := keepS_val hok e
      obtain ⟨more, hmo⟩ := v2.pre
      simp only at k1 k2
      have hl1 : AllBd C B s1 (l ++ [a]) := fun b hb b0 => by
        rcases List.mem_append.1 hb with hb | hb
        · obtain ⟨q1, q2⟩ := hl b hb b0
          obtain ⟨q3, q4⟩ := v2.row b0 q1
          exact ⟨q4, by rw [q3]; exact q2⟩
        · rw [List.mem_singleton.1 hb] at b0 ⊢
          exact ⟨v4 b0, k2 b0⟩
      rcases keepsS_small hC hB xs s1 (l ++ [a]) v1 hl1 (by omega) (fun y hy => by
        obtain ⟨z1, z2, z3⟩ := hx y (List.mem_cons_of_mem _ hy)
        have e : makeF rows s1.made n y = makeF rows s.made n y := by rw [hmo]; exact makeF_grow z1
        rw [e]
        refine ⟨fun hk => ?_, z2, z3⟩
        have := z1 hk
        have hlen : s.made.length ≤ s1.made.length := by rw [hmo]; simp
        omega) with ⟨s', e2⟩ | ⟨y, e2, y1, y2, y3, y4⟩
      · exact .inl ⟨s', e2⟩
      · exact .inr ⟨y, e2, y1, y2, by simp only [List.length_cons]; omega, by rw [y4]; simp; omega⟩
theorem four_mul (p q : Nat) : 4 * (p * q) ≤ (p + q) * (p + q) := by
  rcases Nat.le_total p q with h | h
  · obtain ⟨d, rfl⟩ := Nat.le.dest h
    simp only [Nat.mul_add, Nat.add_mul]
    have := Nat.mul_comm d p
    omega
  · obtain ⟨d, rfl⟩ := Nat.le.dest h
    simp only [Nat.mul_add, Nat.add_mul]
    have := Nat.mul_comm d q
    omega
theorem next_len {L z p q : Nat} (hL : ∀ z, z ≤ L → 4 * z + (L - z) * (L - z) ≤ L * L) (h : z + p + q ≤ L) : 4 * (z + p * q) ≤ L * L := by
  have h1 := four_mul p q
  have h2 := Nat.mul_le_mul (show p + q ≤ L - z by omega) (show p + q ≤ L - z by omega)
  have h3 := hL z (by omega)
  omega
theorem inner_len {R : Int → Row} {k : Nat} {a : Int} {l : List Int} : (inner R k a l).length = if 0 < cf R k a then (l.filter fun b => decide (cf R k b < 0)).length else 0 := by
  unfold inner
  split <;> simp
theorem pairs_len {R : Int → Row} {k : Nat} (l : List Int) : ∀ m : List Int, (pairsL R k l m).length = (m.filter fun a => decide (0 < cf R k a)).length * (l.filter fun b => decide (cf R k b < 0)).length
  | [] => by simp [pairsL]
  | a :: m => by
    have ih := pairs_len (R := R) (k := k) l m
    unfold pairsL at ih ⊢
    rw [List.flatMap_cons, List.length_append, ih, inner_len, List.filter_cons]
    by_cases h : 0 < cf R k a
    · simp only [h, if_true, decide_true, List.length_cons, Nat.add_mul, Nat.one_mul]
      omega
    · simp [h]
theorem count_three {R : Int → Row} {k : Nat} : ∀ l : List Int, (l.filter fun a => decide (cf R k a = 0)).length + (l.filter fun a => decide (0 < cf R k a)).length + (l.filter fun a => decide (cf R k a < 0)).length = l.length
  | [] => rfl
  | a :: l => by
    have ih := count_three (R := R) (k := k) l
    simp only [List.filter_cons]
    by_cases h1 : cf R k a = 0
    · have e1 : decide (cf R k a = 0) = true := decide_eq_true h1
      have e2 : decide (0 < cf R k a) = false := decide_eq_false (by omega)
      have e3 : decide (cf R k a < 0) = false := decide_eq_false (by omega)
      rw [e1, e2, e3]; simp; omega
    · by_cases h2 : 0 < cf R k a
      · have e1 : decide (cf R k a = 0) = false := decide_eq_false h1
        have e2 : decide (0 < cf R k a) = true := decide_eq_true h2
        have e3 : decide (cf R k a < 0) = false := decide_eq_false (by omega)
        rw [e1, e2, e3]; simp; omega
      · have e1 : decide (cf R k a = 0) = false := decide_eq_false h1
        have e2 : decide (0 < cf R k a) = false := decide_eq_false h2
        have e3 : decide (cf R k a < 0) = true := decide_eq_true (by omega)
        rw [e1, e2, e3]; simp; omega
theorem abs_mul {a b A B : Int} (ha : -A ≤ a ∧ a ≤ A) (hb : 0 ≤ b ∧ b ≤ B) : -(A * B) ≤ a * b ∧ a * b ≤ A * B := by
  have hA : 0 ≤ A := by omega
  have h1 := Int.mul_le_mul_of_nonneg_right ha.2 hb.1
  have h2 := Int.mul_le_mul_of_nonneg_right ha.1 hb.1
  have h3 := Int.mul_le_mul_of_nonneg_left hb.2 hA
  rw [Int.neg_mul] at h2
  omega
theorem sumL_bd {a b : List Int} {m k C : Int} (ha : ∀ c ∈ a, -C ≤ c ∧ c ≤ C) (hb : ∀ c ∈ b, -C ≤ c ∧ c ≤ C) (hm : 0 ≤ m ∧ m ≤ C) (hk : 0 ≤ k ∧ k ≤ C) : ∀ c ∈ sumL a b m k, -(2 * (C * C)) ≤ c ∧ c ≤ 2 * (C * C) := by
  induction a generalizing b with
  | nil => intro c h; simp [sumL] at h
  | cons x a ih =>
    cases b with
    | nil => intro c h; simp [sumL] at h
    | cons y b =>
      intro c h
      simp only [sumL, List.zipWith_cons_cons, List.mem_cons] at h
      rcases h with rfl | h
      · have h1 := abs_mul (ha x (List.mem_cons_self ..)) hm
        have h2 := abs_mul (hb y (List.mem_cons_self ..)) hk
        omega
      · exact ih (fun c hc => ha c (List.mem_cons_of_mem _ hc)) (fun c hc => hb c (List.mem_cons_of_mem _ hc)) c h
theorem factor_le {m g x C : Int} (hg : 0 < g) (e : m * g = x) (h : 1 ≤ x ∧ x ≤ C) : 1 ≤ m ∧ m ≤ C := by
  have h1 : 1 ≤ m := by
    refine Int.le_of_not_gt fun hm => ?_
    have := Int.mul_le_mul_of_nonneg_right (show m ≤ 0 by omega) (show 0 ≤ g by omega)
    omega
  have h2 := Int.mul_le_mul_of_nonneg_left (show 1 ≤ g by omega) (show 0 ≤ m by omega)
  omega
/-- How the sizes grow from round to round. -/
def Lv (most : Int) : Nat → Int → Int → Nat → Nat → Prop
  | 0, _, _, _, _ => True
  | r + 1, C, B, L, len => (1 ≤ C ∧ C ≤ 1000000) ∧ 0 ≤ B ∧ 2 * (C * C) ≤ 1000000000000 ∧ 2 * (B * C) ≤ 1000000000000 ∧ (∀ z, z ≤ L → 4 * z + (L - z) * (L - z) ≤ L * L) ∧ (len + 2 * (L * L / 4) : Nat) ≤ most ∧ Lv most r (2 * (C * C)) (2 * (B * C)) (L * L / 4) (len + 2 * (L * L / 4))
theorem bd_get {C B : Int} {r : Row} (h : Bd C B r) (hC : 0 ≤ C) (k : Nat) : -C ≤ r.c.getD k 0 ∧ r.c.getD k 0 ≤ C := by
  by_cases hk : k < r.c.length
  · have := h.1 _ (List.getElem_mem hk)
    simpa [List.getD_eq_getElem?_getD, hk] using this
  · rw [List.getD_eq_getElem?_getD, List.getElem?_eq_none (by omega)]
    simp; omega
theorem rounds_small {rows : List Row} {n : Nat} {most : Int} : ∀ (r : Nat) (s : RS) (l : List Int) (done : List Bool) (C B : Int) (L len : Nat), Lv most r C B L len → OkS n most s → AllBd C B s l → l.length ≤ L → s.ls.length ≤ len → done.length = n → done.count true + r = n →
    Ends (roundsS rows n most r s l done) fun _ => True
  | 0, s, l, done, C, B, L, len, _, _, _, _, _, _, _ => .inr ⟨s, rfl, trivial⟩
  | r + 1, s, l, done, C, B, L, len, hlv, hok, hl, hL, hlen, hdl, hcount => by
    obtain ⟨hC, hB0, hCC, hBC, hz, hmost, hnext⟩ := hlv
    obtain ⟨k, hk, he, hkf⟩ := eas_ok (st := s) (l := curS s l) (done := done) (count_false (by omega))
    unfold roundsS roundS
    rw [he]
    simp only [Int.toNat_natCast]
    have hcur : ∀ a ∈ curS s l, 0 ≤ a ∧ a < (s.made.length : Int) ∧ Bd C B (rowAt s.made a) := fun a ha => by
      obtain ⟨h1, h2, _⟩ := cur_mem.1 ha
      exact ⟨h2, hl a h1 h2⟩
    have hcl : (curS s l).length ≤ L := Nat.le_trans (List.length_filter_le _ _) hL
    have hct := count_three (R := rowsOf s) (k := k) (curS s l)
    have hzl : (zerosS s k (curS s l)).length = ((curS s l).filter fun a => decide (cf (rowsOf s) k a = 0)).length := rfl
    have hpl := pairs_len (R := rowsOf s) (k := k) (curS s l) (curS s l)
    have hnl := next_len hz (show ((curS s l).filter fun a => decide (cf (rowsOf s) k a = 0)).length + ((curS s l).filter fun a => decide (0 < cf (rowsOf s) k a)).length + ((curS s l).filter fun a => decide (cf (rowsOf s) k a < 0)).length ≤ L by omega)
    rw [← hpl, ← hzl] at hnl
    have hdiv := Nat.div_add_mod (L * L) 4
    have hlt := Nat.mod_lt (L * L) (show 4 > 0 by omega)
    have gC : C ≤ 2 * (C * C) := by
      have := Int.mul_le_mul_of_nonneg_left (show 1 ≤ C by omega) (show 0 ≤ C by omega)
      omega
    have gB : B ≤ 2 * (B * C) := by
      have := Int.mul_le_mul_of_nonneg_left (show 1 ≤ C by omega) hB0
      omega
    have hzero : AllBd (2 * (C * C)) (2 * (B * C)) s (zerosS s k (curS s l)) := fun a ha _ => by
      obtain ⟨h1, h2⟩ := List.mem_filter.1 ha
      exact ⟨(hcur a h1).2.1, (hcur a h1).2.2.mono gC gB⟩
    have hxl : ((pairsL (rowsOf s) k (curS s l) (curS s l)).map (sumLine (rowsOf s) k)).length ≤ L * L / 4 := by rw [List.length_map]; omega
    rcases keepsS_small hCC hBC ((pairsL (rowsOf s) k (curS s l) (curS s l)).map (sumLine (rowsOf s) k)) s (zerosS s k (curS s l)) hok hzero (by omega) (fun x hx => by
      obtain ⟨p, hp, rfl⟩ := List.mem_map.1 hx
      obtain ⟨p1, p2, p3, p4⟩ := pairs_of hp
      obtain ⟨a0, a1, ab⟩ := hcur _ p1
      obtain ⟨b0, b1, bb⟩ := hcur _ p2
      have ga := bd_get ab (by omega) k
      have gb := bd_get bb (by omega) k
      have p3' : 0 < (rowAt s.made p.1).c.getD k 0 := p3
      have p4' : (rowAt s.made p.2).c.getD k 0 < 0 := p4
      obtain ⟨g, g0, g1, g2⟩ := sum_facts (R := rowsOf s) (k := k) (p := p) ⟨p3, by show (rowAt s.made p.1).c.getD k 0 ≤ _; omega⟩ ⟨p4, by show _ ≤ (rowAt s.made p.2).c.getD k 0; omega⟩
      have m1 := factor_le (C := C) g0 g1 (by show 1 ≤ -((rowAt s.made p.2).c.getD k 0) ∧ -((rowAt s.made p.2).c.getD k 0) ≤ C; omega)
      have m2 := factor_le (C := C) g0 g2 (by show 1 ≤ (rowAt s.made p.1).c.getD k 0 ∧ (rowAt s.made p.1).c.getD k 0 ≤ C; omega)
      have hbd : Bd (2 * (C * C)) (2 * (B * C)) ⟨sumL (rowAt s.made p.1).c (rowAt s.made p.2).c (sumLine (rowsOf s) k p).m (sumLine (rowsOf s) k p).n, (rowAt s.made p.1).b * (sumLine (rowsOf s) k p).m + (rowAt s.made p.2).b * (sumLine (rowsOf s) k p).n⟩ := by
        refine ⟨sumL_bd ab.1 bb.1 (by omega) (by omega), ?_⟩
        have x1 := abs_mul ab.2 (show 0 ≤ (sumLine (rowsOf s) k p).m ∧ (sumLine (rowsOf s) k p).m ≤ C by omega)
        have x2 := abs_mul bb.2 (show 0 ≤ (sumLine (rowsOf s) k p).n ∧ (sumLine (rowsOf s) k p).n ≤ C by omega)
        simp only
        omega
      have e : makeF rows s.made n (sumLine (rowsOf s) k p) = (⟨sumL (rowAt s.made p.1).c (rowAt s.made p.2).c (sumLine (rowsOf s) k p).m (sumLine (rowsOf s) k p).n, (rowAt s.made p.1).b * (sumLine (rowsOf s) k p).m + (rowAt s.made p.2).b * (sumLine (rowsOf s) k p).n⟩, 0) := by
        have h1 : (sumLine (rowsOf s) k p).k = 3 := rfl
        have h2 : (sumLine (rowsOf s) k p).a = p.1 := rfl
        have h3 : (sumLine (rowsOf s) k p).b = p.2 := rfl
        generalize sumLine (rowsOf s) k p = x at *
        unfold makeF
        rw [if_neg (by omega), if_neg (by omega), if_pos h1, h2, h3, if_pos ⟨⟨a0, a1⟩, ⟨b0, b1⟩, by omega, by omega⟩]
        exact hbd.out hCC hBC
      rw [e]
      exact ⟨fun _ => ⟨⟨a0, a1⟩, b0, b1⟩, rfl, hbd⟩) with ⟨s', e2⟩ | ⟨⟨s1, l1⟩, e2, y1, y2, y3, y4⟩
    · rw [e2]; exact .inl ⟨s', rfl⟩
    · rw [e2]
      simp only at y1 y2 y3 y4 ⊢
      refine rounds_small r s1 l1 (done.set k true) (2 * (C * C)) (2 * (B * C)) (L * L / 4) _ hnext y1 y2 ?_ ?_ (by simpa using hdl) (by rw [count_set hk hkf]; omega)
      · rw [y4, List.length_map]; omega
      · omega
theorem lv_small {n : Nat} (h : n ≤ 3) : Lv 5000 n 10 100 8 16 := by
  have d8 : ∀ z, z ≤ 8 → 4 * z + (8 - z) * (8 - z) ≤ 8 * 8 := by decide
  have d16 : ∀ z, z ≤ 16 → 4 * z + (16 - z) * (16 - z) ≤ 16 * 16 := by decide
  have d64 : ∀ z, z ≤ 64 → 4 * z + (64 - z) * (64 - z) ≤ 64 * 64 := by decide
  have h3 : Lv 5000 3 10 100 8 16 := ⟨⟨by decide, by decide⟩, by decide, by decide, by decide, d8, by decide, ⟨by decide, by decide⟩, by decide, by decide, by decide, d16, by decide, ⟨by decide, by decide⟩, by decide, by decide, by decide, d64, by decide, trivial⟩
  rcases n with _ | _ | _ | _ | n
  · trivial
  · exact ⟨h3.1, h3.2.1, h3.2.2.1, h3.2.2.2.1, h3.2.2.2.2.1, h3.2.2.2.2.2.1, trivial⟩
  · obtain ⟨a1, a2, a3, a4, a5, a6, b1, b2, b3, b4, b5, b6, _⟩ := h3
    exact ⟨a1, a2, a3, a4, a5, a6, b1, b2, b3, b4, b5, b6, trivial⟩
  · exact h3
  · omega
def smallRow (r : Row) : Prop := (-100 ≤ r.b ∧ r.b ≤ 100) ∧ ∀ c ∈ r.c, -10 ≤ c ∧ c ≤ 10
theorem search_small {rows : List Row} {n : Nat} (hn : n ≤ 3) (hl : rows.length ≤ 5) (hr : ∀ r ∈ rows, r.c.length ≤ n) (hs : ∀ r ∈ rows, smallRow r) : Ends (searchS rows n 5000) fun _ => True := by
  unfold searchS
  have hwide : ∀ r ∈ rows, Bd 10 100 (wideR r n) := fun r hr' => by
    refine ⟨fun c hc => ?_, (hs r hr').1⟩
    unfold wideR at hc
    simp only at hc
    rw [wideL_eq (hr r hr')] at hc
    rcases List.mem_append.1 hc with hc | hc
    · exact (hs r hr').2 c hc
    · rw [List.eq_of_mem_replicate hc]; omega
  rcases keepsS_small (rows := rows) (n := n) (most := 5000) (C := 10) (B := 100) (by omega) (by omega) (givens rows) ⟨[], [], []⟩ [] ⟨by simp, rfl, by simp, by simp⟩ (fun a ha => by cases ha) (by simp [givens]; omega) (fun x hx => by
    obtain ⟨i, hi, rfl⟩ := List.mem_map.1 hx
    have hi := List.mem_range.1 hi
    have e : makeF rows [] n ⟨1, (i : Nat), 0, 0, 0⟩ = (wideR (rowAt rows (i : Int)) n, 0) := by
      unfold makeF
      rw [if_pos rfl, if_pos ⟨⟨rfl, rfl, rfl⟩, by simp, by simpa using hi⟩]
      exact (hwide _ (rowAt_mem (a := (i : Int)) (by omega) (by omega))).out (by omega) (by omega)
    rw [e]
    exact ⟨fun h => absurd h (by simp), rfl, hwide _ (rowAt_mem (by omega) (by omega))⟩) with ⟨s', e⟩ | ⟨⟨s1, l1⟩, e, y1, y2, y3, y4⟩
  · rw [e]; exact .inl ⟨s', rfl⟩
  rw [e]
  simp only at y1 y2 y3 y4 ⊢
  have g1 : (givens rows).length = rows.length := by simp [givens]
  have g2 : (naturals n).length = n := by simp [naturals]
  rw [g1] at y3 y4
  simp only [List.length_nil, Nat.zero_add] at y3 y4
  rcases keepsS_small (rows := rows) (n := n) (most := 5000) (C := 10) (B := 100) (by omega) (by omega) (naturals n) s1 l1 y1 y2 (by rw [g2]; omega) (fun x hx => by
    obtain ⟨i, hi, rfl⟩ := List.mem_map.1 hx
    have hi := List.mem_range.1 hi
    have hb : Bd 10 100 ⟨(List.replicate n 0).set i (-1), 0⟩ := by
      refine ⟨fun c hc => ?_, by simp⟩
      rcases List.mem_or_eq_of_mem_set hc with hc | rfl
      · rw [List.eq_of_mem_replicate hc]; omega
      · omega
    have e : makeF rows s1.made n ⟨2, (i : Nat), 0, 0, 0⟩ = (⟨(List.replicate n 0).set i (-1), 0⟩, 0) := by
      unfold makeF
      simp only [show ¬ (2 : Int) = 1 from by decide, if_true, if_false]
      rw [if_pos ⟨⟨trivial, trivial, trivial⟩, by simp, by simpa using hi⟩]
      simp only [Int.toNat_natCast]
      exact hb.out (by omega) (by omega)
    rw [e]
    exact ⟨fun h => absurd h (by simp), rfl, hb⟩) with ⟨s', e⟩ | ⟨⟨s2, l2⟩, e, z1, z2, z3, z4⟩
  · rw [e]; exact .inl ⟨s', rfl⟩
  rw [e]
  simp only at z1 z2 z3 z4 ⊢
  rw [g2] at z3 z4
  exact rounds_small n s2 l2 (List.replicate n false) 10 100 8 16 (lv_small hn) z1 z2 (by omega) (by omega) (by simp) (by simp [List.count_replicate])
end Go.PV.Ytefpjfpelicedaa
end
section
/- The reference: rows, unknowns, what is asked, numbers that fulfil rows. -/
set_option linter.unusedVariables false
set_option linter.unusedSimpArgs false
set_option maxRecDepth 20000
set_option maxHeartbeats 4000000
namespace Go.PV.Ytefpjfpelicedaa
open Go Go.Proofs
theorem far_def (a : Int) : (!(decide (-1000000 ≤ a) && decide (a ≤ 1000000))) = far a := rfl
theorem right35 (rows : List Row) (hn : (rows.length : Int) ≤ 9223372036854775806) : PureF Try.prog 35 [rowsV rows] (iV (rightF rows)) := by
  refine PureF.forget fun H => ?_
  refine vcalls_intro fd35 (by simp) ?_
  unfold c35
  (repeat' (first | (simp only [↓s_skip, ↓s_reg, ↓s_seq, ↓s_seqL, ↓s_cond, ↓s_block, ↓s_ret, ↓s_loop, ↓s_nil, ↓s_consN, ↓s_thenN, ↓s_thenR, ↓s_kret, ↓s_putS, ↓s_dOkS, ↓s_ev_t, ↓s_ev_c, ↓s_upd, ↓s_move, ↓s_assign, ↓s_bin, ↓s_callB, ↓s_len, ↓s_bin_gtr, intV, List.map_cons, List.map_nil, List.getD_cons_zero, List.getD_cons_succ, List.getD_nil, ite_true, ite_false, Nat.reduceEqDiff, Nat.reduceLT, ne_eq, not_false_eq_true, true_and, Nat.succ_ne_self, decide_true, decide_false, reduceCtorEq, undefV, eq_self, n_lenS, undef, elT_22, *]) | (refine condL_splitD ?_ ?_ <;> intro) | (refine ret_tmp ?_)))
  · rename_i h
    simp only [rightF]
    rw [if_pos (by omega)]
    exact ⟨rfl, SubH.refl _⟩
  · rename_i h0
    have hle : rows.length ≤ 100 := by omega
    have hr : rightF rows = rightGo rows := by simp only [rightF]; rw [if_neg (by omega)]
    rw [hr]
    refine acx_loop (fun _ _ _ h => h) (fun A H' => SubH H H' ∧ A.d = [] ∧ A.t 0 = rowsV rows ∧ ∃ i : Nat, i ≤ rows.length ∧ A.t 3 = iV i ∧ rightGo rows = rightGo (rows.drop i))
      (fun A _ => match A.t 3 with | .lit (.int _ i) => ((rows.length : Int) - i).toNat | _ => 0) ?_ ?_
    · exact ⟨SubH.refl _, rfl, rfl, 0, by simp, rfl, rfl⟩
    · rintro ⟨t, d⟩ H' ⟨hs, rfl, h0, i, hi, h3, hgo⟩
      dsimp only at h0 h3
      unfold b35_2
      (repeat' (first | (simp only [↓s_skip, ↓s_reg, ↓s_seq, ↓s_seqL, ↓s_cond, ↓s_block, ↓s_exit, ↓s_ret, ↓s_loop, ↓s_nil, ↓s_consN, ↓s_thenN, ↓s_thenE, ↓s_thenR, ↓s_inE, ↓s_inR, ↓s_kret, ↓s_putS, ↓s_dOkS, ↓s_ev_t, ↓s_ev_c, ↓s_ev_f, ↓s_upd, ↓s_move, ↓s_assign, ↓s_load, ↓s_bin, ↓s_un, ↓s_fieldAddr, ↓s_indexAddr, ↓s_callB, ↓s_callV, ↓s_callL, ↓s_len, ↓s_un_not, ↓s_bin_lss, ↓s_bin_gtr, intV, boolV, List.map_cons, List.map_nil, ite_true, ite_false, Nat.reduceEqDiff, Nat.reduceLT, ne_eq, not_false_eq_true, true_and, and_true, Nat.succ_ne_self, decide_true, decide_false, reduceCtorEq, Int.natCast_nonneg, Int.toNat_natCast, eq_self, List.drop, and_self, ldV_f, Int.ofNat_lt, n_ldI, n_faI, n_ixS, n_ixA1, n_lenS, n_ldC, n_ldB, n_faA, Int.reduceNeg, elT_22, rows_drop, far_def, flT_39_0, flT_39_1, ldT_37, ldT_3, elT_37, en_55, *]) | (refine condL_splitD ?_ ?_ <;> intro) | (refine condL_split ?_ ?_ <;> intro) | (refine ret_tmp ?_) | (refine acx_go rfl (fun _ _ _ h => h) ?_) | (refine PureF.use (within55 _ _ (by decide)) ?_)))
      all_goals have hd : ∀ (h : i < rows.length), rows.drop i = rows[i] :: rows.drop (i + 1) := fun h => List.drop_eq_getElem_cons h
      · have hb : i < rows.length := by assumption
        rw [hd hb]; simp only [rightGo]; rw [if_pos (by omega)]
      · have hb : i < rows.length := by assumption
        have hf : far rows[i].b = true := by assumption
        rw [hd hb]; simp only [rightGo]; rw [if_neg (by omega), hf, Bool.true_or, if_pos rfl]
      · have hb : i < rows.length := by assumption
        have hf : far rows[i].b = false := by assumption
        have hgo2 : rightGo (rows.drop i) = if rows[i].c.any far then 4 else rightGo (rows.drop (i + 1)) := by
          rw [hd hb]; simp only [rightGo]; rw [if_neg (by omega)]
          rw [hf, Bool.false_or]
        rw [hgo2]
        clear hd hgo hr
        refine acx_loop (fun _ _ _ h => h) (fun A H' => SubH H H' ∧ A.d = [] ∧ A.t 0 = rowsV rows ∧ A.t 3 = iV i ∧ ∃ k : Nat, k ≤ rows[i].c.length ∧ A.t 4 = iV k ∧ rows[i].c.any far = (rows[i].c.drop k).any far)
          (fun A _ => match A.t 4 with | .lit (.int _ k) => ((rows[i].c.length : Int) - k).toNat | _ => 0) ?_ ?_
        · exact ⟨hs, rfl, by simp only [s_upd, Nat.reduceEqDiff, if_false, h0], by simp only [s_upd, Nat.reduceEqDiff, if_false, h3], 0, by simp, rfl, rfl⟩
        · clear h0 h3 hs
          rintro ⟨t, d⟩ H' ⟨hs, rfl, h0, h3, k, hk, h4, hany⟩
          dsimp only at h0 h3 h4
          unfold b35_1
          (repeat' (first | (simp only [↓s_skip, ↓s_reg, ↓s_seq, ↓s_cond, ↓s_block, ↓s_exit, ↓s_ret, ↓s_nil, ↓s_consN, ↓s_thenN, ↓s_thenE, ↓s_thenR, ↓s_inN, ↓s_inE, ↓s_inR, ↓s_kret, ↓s_putS, ↓s_dOkS, ↓s_ev_t, ↓s_ev_c, ↓s_ev_f, ↓s_upd, ↓s_move, ↓s_assign, ↓s_load, ↓s_bin, ↓s_un, ↓s_fieldAddr, ↓s_indexAddr, ↓s_callB, ↓s_callV, ↓s_callL, ↓s_len, ↓s_un_not, ↓s_bin_lss, ↓s_bin_add, intV, boolV, List.map_cons, List.map_nil, ite_true, ite_false, Nat.reduceEqDiff, Nat.reduceLT, ne_eq, not_false_eq_true, true_and, and_true, Nat.succ_ne_self, decide_true, decide_false, reduceCtorEq, Int.natCast_nonneg, Int.toNat_natCast, Nat.mul_one, eq_self, List.drop, and_self, ldV_f, Int.ofNat_lt, n_ldI, n_faI, n_ixS, n_ixA1, n_lenS, n_ldC, n_ldB, n_faA, Int.reduceNeg, elT_22, elT_37, rows_drop, ints_drop, far_def, flT_39_0, ldT_37, ldT_3, en_55, *]) | (refine condL_splitD ?_ ?_ <;> intro) | (refine condL_split ?_ ?_ <;> intro) | (refine ret_tmp ?_) | (refine acx_go rfl (fun _ _ _ h => h) ?_) | (refine PureF.use (within55 _ _ (by decide)) ?_)))
          all_goals have hdk : ∀ (h : k < rows[i].c.length), rows[i].c.drop k = rows[i].c[k] :: rows[i].c.drop (k + 1) := fun h => List.drop_eq_getElem_cons h
          · have hk' : k < rows[i].c.length := by assumption
            have hc : far rows[i].c[k] = true := by assumption
            rw [hdk hk', List.any_cons, hc, Bool.true_or, if_pos rfl]
          · have hk' : k < rows[i].c.length := by assumption
            have hc : far rows[i].c[k] = false := by assumption
            rw [wrap_ok (n := (k : Int) + 1) (by omega) (by omega)]
            refine ⟨⟨k + 1, by omega, rfl, ?_⟩, by omega⟩
            rw [hdk hk', List.any_cons, hc, Bool.false_or]
          · unfold c35_1
            clear hany hdk
            (repeat' (first | (simp only [↓s_reg, ↓s_nil, ↓s_consN, ↓s_thenN, ↓s_kret, ↓s_putS, ↓s_dOkS, ↓s_ev_t, ↓s_ev_c, ↓s_upd, ↓s_move, ↓s_assign, ↓s_bin, ↓s_bin_add, ite_true, ite_false, Nat.reduceEqDiff, Nat.reduceLT, true_and, Nat.succ_ne_self, reduceCtorEq, eq_self, *])))
            rw [wrap_ok (n := (i : Int) + 1) (by omega) (by omega), List.drop_eq_nil_of_le (by omega)]
            exact ⟨⟨i + 1, by omega, rfl, by simp⟩, by omega⟩
      · rw [List.drop_eq_nil_of_le (by omega)]
        unfold c35_2
        (repeat' (first | (simp only [↓s_reg, ↓s_seq, ↓s_ret, ↓s_nil, ↓s_consN, ↓s_thenN, ↓s_putS, ↓s_dOkS, ↓s_ev_c, ↓s_upd, ↓s_assign, ite_true, ite_false, Nat.reduceEqDiff, Nat.reduceLT, true_and, and_true, eq_self, *]) | (refine ret_tmp ?_)))
        rfl
theorem unknowns10 (rows : List Row) (hn : (rows.length : Int) ≤ 9223372036854775806) : PureF Try.prog 10 [rowsV rows] (iV (unkF rows)) := by
  refine PureF.forget fun H => ?_
  refine vcalls_intro fd10 (by simp) ?_
  unfold c10
  (repeat' (first | (simp only [↓s_reg, ↓s_seq, ↓s_seqL, ↓s_block, ↓s_loop, ↓s_nil, ↓s_consN, ↓s_thenN, ↓s_putS, ↓s_dOkS, ↓s_ev_c, ↓s_assign, Nat.reduceLT, true_and, undefV, undef, *])))
  refine acx_loop (fun _ _ _ h => h) (fun A H' => SubH H H' ∧ A.d = [] ∧ A.t 0 = rowsV rows ∧ ∃ (i : Nat) (m : Int), i ≤ rows.length ∧ A.t 4 = iV i ∧ A.t 3 = iV m ∧ unkF rows = unkGo (rows.drop i) m)
    (fun A _ => match A.t 4 with | .lit (.int _ i) => ((rows.length : Int) - i).toNat | _ => 0) ?_ ?_
  · exact ⟨SubH.refl _, rfl, rfl, 0, 0, by simp, rfl, rfl, rfl⟩
  · rintro ⟨t, d⟩ H' ⟨hs, rfl, h0, i, m, hi, h4, h3, hgo⟩
    dsimp only at h0 h3 h4
    rw [hgo]
    (repeat' (first | (simp only [↓s_skip, ↓s_reg, ↓s_seq, ↓s_cond, ↓s_block, ↓s_exit, ↓s_ret, ↓s_nil, ↓s_consN, ↓s_thenN, ↓s_thenE, ↓s_inN, ↓s_inE, ↓s_kret, ↓s_putS, ↓s_dOkS, ↓s_ev_t, ↓s_ev_c, ↓s_upd, ↓s_move, ↓s_assign, ↓s_load, ↓s_bin, ↓s_fieldAddr, ↓s_indexAddr, ↓s_callB, ↓s_len, ↓s_max, ↓s_bin_lss, ↓s_bin_add, intV, List.map_cons, List.map_nil, ite_true, ite_false, Nat.reduceEqDiff, Nat.reduceLT, ne_eq, not_false_eq_true, true_and, and_true, Nat.succ_ne_self, decide_true, decide_false, reduceCtorEq, Int.natCast_nonneg, Int.toNat_natCast, eq_self, List.drop, and_self, vcMax, ldV_f, Int.ofNat_lt, n_ldI, n_faI, n_ixS, n_ixA1, n_lenS, n_ldC, n_ldB, n_faA, elT_22, rows_drop, flT_39_0, ldT_37, elT_37, *]) | (refine condL_splitD ?_ ?_ <;> intro) | (refine ret_tmp ?_) | (refine acx_go rfl (fun _ _ _ h => h) ?_)))
    · have hb : i < rows.length := by assumption
      rw [wrap_ok (by omega) (by omega)]
      refine ⟨⟨i + 1, max m rows[i].c.length, by omega, rfl, ?_, ?_⟩, by omega⟩
      · congr 2
        split <;> omega
      · rw [List.drop_eq_getElem_cons hb]; rfl
    · rw [List.drop_eq_nil_of_le (by omega)]
      rfl
def askedF (rows : List Row) (n : Int) : Int := if rightF rows = 0 then (if n < 0 ∨ 5000 < n then 4 else 0) else rightF rows
theorem asked9 (rows : List Row) (n : Int) (hn : (rows.length : Int) ≤ 9223372036854775806) : PureF Try.prog 9 [rowsV rows, iV n] (iV (askedF rows n)) := by
  refine PureF.forget fun H => ?_
  refine vcalls_intro fd9 (by simp) ?_
  unfold c9 askedF
  by_cases hr : rightF rows = 0
  · rw [if_pos hr]
    by_cases h1 : n < 0
    · rw [if_pos (.inl h1)]
      (repeat' (first | (simp only [↓s_skip, ↓s_reg, ↓s_seq, ↓s_cond, ↓s_condT, ↓s_condF, ↓s_ret, ↓s_nil, ↓s_consN, ↓s_consG, ↓s_guardTF, ↓s_thenN, ↓s_thenR, ↓s_kret, ↓s_putS, ↓s_dOkS, ↓s_ev_t, ↓s_ev_c, ↓s_ev_f, ↓s_upd, ↓s_move, ↓s_assign, ↓s_isBool, ↓s_pickA, ↓s_pick, ↓s_bin, ↓s_callV, ↓s_callL, ↓s_bin_lss, ↓s_bin_neq, List.map_cons, List.map_nil, List.getD_cons_zero, List.getD_cons_succ, List.getD_nil, ite_true, ite_false, Nat.reduceEqDiff, Nat.reduceLT, true_and, Nat.succ_ne_self, decide_true, Bool.not_true, reduceCtorEq, callOk, undefV, eq_self, undef, en_35, *]) | (refine ret_tmp ?_) | (exact SubH.refl _) | (refine PureF.use (right35 _ hn) ?_)))
    · by_cases h2 : 5000 < n
      · rw [if_pos (.inr h2)]
        (repeat' (first | (simp only [↓s_skip, ↓s_reg, ↓s_seq, ↓s_cond, ↓s_condT, ↓s_condF, ↓s_ret, ↓s_nil, ↓s_consN, ↓s_consG, ↓s_guardFF, ↓s_thenN, ↓s_thenR, ↓s_kret, ↓s_putS, ↓s_dOkS, ↓s_ev_t, ↓s_ev_c, ↓s_ev_f, ↓s_upd, ↓s_move, ↓s_assign, ↓s_isBool, ↓s_pickA, ↓s_pick, ↓s_bin, ↓s_callV, ↓s_callL, ↓s_bin_lss, ↓s_bin_gtr, ↓s_bin_neq, List.map_cons, List.map_nil, List.getD_cons_zero, List.getD_cons_succ, List.getD_nil, ite_true, ite_false, Nat.reduceEqDiff, Nat.reduceLT, true_and, Bool.false_eq_true, Nat.succ_ne_self, decide_true, decide_false, Bool.not_true, reduceCtorEq, undefV, eq_self, undef, en_35, *]) | (refine ret_tmp ?_) | (exact SubH.refl _) | (refine PureF.use (right35 _ hn) ?_)))
      · rw [if_neg (by omega)]
        (repeat' (first | (simp only [↓s_skip, ↓s_reg, ↓s_seq, ↓s_cond, ↓s_condF, ↓s_ret, ↓s_nil, ↓s_consN, ↓s_consG, ↓s_guardFF, ↓s_thenN, ↓s_kret, ↓s_putS, ↓s_dOkS, ↓s_ev_t, ↓s_ev_c, ↓s_ev_f, ↓s_upd, ↓s_move, ↓s_assign, ↓s_isBool, ↓s_pickA, ↓s_pick, ↓s_bin, ↓s_callV, ↓s_callL, ↓s_bin_lss, ↓s_bin_gtr, ↓s_bin_neq, List.map_cons, List.map_nil, List.getD_cons_zero, List.getD_cons_succ, List.getD_nil, ite_true, ite_false, Nat.reduceEqDiff, Nat.reduceLT, true_and, Bool.false_eq_true, Nat.succ_ne_self, decide_true, decide_false, Bool.not_true, reduceCtorEq, undefV, eq_self, undef, en_35, *]) | (refine ret_tmp ?_) | (exact SubH.refl _) | (refine PureF.use (right35 _ hn) ?_)))
  · rw [if_neg hr]
    (repeat' (first | (simp only [↓s_reg, ↓s_seq, ↓s_cond, ↓s_condT, ↓s_ret, ↓s_nil, ↓s_consN, ↓s_thenN, ↓s_thenR, ↓s_kret, ↓s_putS, ↓s_dOkS, ↓s_ev_t, ↓s_ev_c, ↓s_ev_f, ↓s_upd, ↓s_move, ↓s_assign, ↓s_bin, ↓s_callV, ↓s_callL, ↓s_bin_neq, List.map_cons, List.map_nil, List.getD_cons_zero, List.getD_cons_succ, List.getD_nil, ite_true, ite_false, Nat.reduceEqDiff, Nat.reduceLT, true_and, Nat.succ_ne_self, decide_false, Bool.not_false, reduceCtorEq, undefV, eq_self, undef, en_35, *]) | (refine ret_tmp ?_) | (exact SubH.refl _) | (refine PureF.use (right35 _ hn) ?_)))
def allF (rows : List Row) (x : List Int) : Bool := rows.all fun r => fulF r x
theorem all43 (rows : List Row) (x : List Int) (hn : (rows.length : Int) ≤ 9223372036854775806) (hx : (x.length : Int) ≤ 9223372036854775806) : PureF Try.prog 43 [rowsV rows, intsV x] (boolV (allF rows x)) := by
  refine PureF.forget fun H => ?_
  refine vcalls_intro fd43 (by simp) ?_
  unfold c43
  (repeat' (first | (simp only [↓s_reg, ↓s_seq, ↓s_seqL, ↓s_block, ↓s_loop, ↓s_nil, ↓s_consN, ↓s_thenN, ↓s_putS, ↓s_dOkS, ↓s_ev_c, ↓s_assign, boolV, Nat.reduceLT, true_and, undefV, undef, *])))
  refine acx_loop (fun _ _ _ h => h) (fun A H' => SubH H H' ∧ A.d = [] ∧ A.t 0 = rowsV rows ∧ A.t 1 = intsV x ∧ ∃ (i : Nat), i ≤ rows.length ∧ A.t 5 = iV i ∧ allF rows x = allF (rows.drop i) x)
    (fun A _ => match A.t 5 with | .lit (.int _ i) => ((rows.length : Int) - i).toNat | _ => 0) ?_ ?_
  · exact ⟨SubH.refl _, rfl, rfl, rfl, 0, by simp, rfl, rfl⟩
  · rintro ⟨t, d⟩ H' ⟨hs, rfl, h0, h1, i, hi, h5, hgo⟩
    dsimp only at h0 h1 h5
    rw [hgo]
    (repeat' (first | (simp only [↓s_skip, ↓s_reg, ↓s_seq, ↓s_cond, ↓s_block, ↓s_exit, ↓s_ret, ↓s_nil, ↓s_consN, ↓s_thenN, ↓s_thenE, ↓s_thenR, ↓s_inN, ↓s_inE, ↓s_inR, ↓s_kret, ↓s_putS, ↓s_dOkS, ↓s_ev_t, ↓s_ev_c, ↓s_ev_f, ↓s_upd, ↓s_move, ↓s_assign, ↓s_load, ↓s_bin, ↓s_un, ↓s_indexAddr, ↓s_callB, ↓s_callV, ↓s_callL, ↓s_len, ↓s_un_not, ↓s_bin_lss, ↓s_bin_add, intV, boolV, List.map_cons, List.map_nil, ite_true, ite_false, Nat.reduceEqDiff, Nat.reduceLT, ne_eq, not_false_eq_true, true_and, and_true, Nat.succ_ne_self, decide_true, decide_false, reduceCtorEq, Int.natCast_nonneg, Int.toNat_natCast, eq_self, and_self, ldV_t2, Int.ofNat_lt, n_ldI, n_ixS, n_ixA1, n_lenS, n_ldC, n_ldB, elT_22, rows_drop, ldT_39, en_26, *]) | (refine condL_splitD ?_ ?_ <;> intro) | (refine condL_split ?_ ?_ <;> intro) | (refine ret_tmp ?_) | (refine acx_go rfl (fun _ _ _ h => h) ?_) | (refine PureF.use (fulfils26 _ _ hx) ?_)))
    all_goals have hd : ∀ (h : i < rows.length), allF (rows.drop i) x = (fulF rows[i] x && allF (rows.drop (i + 1)) x) := fun h => by rw [List.drop_eq_getElem_cons h]; rfl
    · have hb : i < rows.length := by assumption
      have hf : fulF rows[i] x = false := by simpa using (by assumption : (!fulF rows[i] x) = true)
      rw [hd hb, hf]
      rfl
    · have hb : i < rows.length := by assumption
      have hf : fulF rows[i] x = true := by simpa using (by assumption : (!fulF rows[i] x) = false)
      rw [wrap_ok (by omega) (by omega), hd hb, hf, Bool.true_and]
      exact ⟨⟨i + 1, by omega, rfl, rfl⟩, by omega⟩
    · rw [List.drop_eq_nil_of_le (by omega)]
      rfl
end Go.PV.Ytefpjfpelicedaa
end
