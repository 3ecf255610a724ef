/- Part 7 of 11 of what the proof of Refu needs. -/
import Derived.Test.YtefpjfpelicedaaRefu6
import Derived.Test.YtefpjfpelicedaaRefu4
section
/- Point. -/
set_option linter.unusedVariables false
set_option linter.unusedSimpArgs false
set_option maxRecDepth 20000
set_option maxHeartbeats 4000000
namespace Go.PV.Ytefpjfpelicedaa
open Go Go.Proofs
theorem lists53 (n b : Int) {H : AH} {K : VE → AH → Prop} (h : ∀ rn rb, H rn = none → (H.set rn (.cells 3 [iV n] 0)) rb = none → K (.ret (.func (.func 73) [] [ptrV rn 0, ptrV rb 0])) ((H.set rn (.cells 3 [iV n] 0)).set rb (.cells 3 [iV b] 0))) : VCalls Try.prog 53 [iV n, iV b] H K := by
  refine vcalls_intro fd53 (by simp) ?_
  unfold c53
  (repeat' (first | (simp only [↓s_reg, ↓s_seq, ↓s_ret, ↓s_nil, ↓s_consN, ↓s_thenN, ↓s_kret, ↓s_putS, ↓s_dOkS, ↓s_ev_t, ↓s_ev_c, ↓s_upd, ↓s_assign, ↓s_box, ↓s_makeFunc, ptrV, List.map_cons, List.map_nil, List.getD_cons_zero, List.getD_cons_succ, List.getD_nil, ite_true, ite_false, Nat.reduceEqDiff, Nat.reduceLT, true_and, Nat.succ_ne_self, undefV, eq_self, cl_int, ↓n_box, undef, *]) | (refine ret_tmp ?_) | (refine allNew_intro fun zr zh => ?_; have zg := zh; (try simp only [AH.set_none] at zg))))
  exact h _ _ (by assumption) (by assumption)
def tooMany (b : Int) : Nat → Int → Bool
  | 0, _ => false
  | k + 1, c => if 100000 < c * (b + 1) then true else tooMany b k (c * (b + 1))
def okP (rows : List Row) (x : List Int) : Bool := !(rows.any (over x))
def pointF (rows : List Row) (b : Int) : List Int × Bool × Int :=
  if rightF rows = 0 then
    (if b < 0 ∨ 100 < b then ([], false, 4)
     else if tooMany b (unkN rows) 1 then ([], false, 7)
     else match fromL (okP rows) b (List.replicate (unkN rows) 0) with
       | some x => (x, true, 0)
       | none => ([], false, 0))
  else ([], false, rightF rows)
def pointX (rows : List Row) (b : Int) : VV := .tuple [intsV (pointF rows b).1, boolV (pointF rows b).2.1, iV (pointF rows b).2.2]
def ptQ (X : VV) (H : AH) : VE → AH → Prop := fun e H' => ∃ y, e = VE.ret y ∧ GhV H' y H X
theorem ptLeave {H H' : AH} {t : Nat → VV} {r4 r5 r6 s4 s5 s6 : Nat} {e4 e5 e6 : TypeId} {v X : VV} {bb : Bool} {e : Int} (h4 : t 4 = ptrV r4 0) (h5 : t 5 = ptrV r5 0) (h6 : t 6 = ptrV r6 0) (k4 : H' r4 = some (.cells e4 [v] s4)) (k5 : H' r5 = some (.cells e5 [boolV bb] s5)) (k6 : H' r6 = some (.cells e6 [iV e] s6))
    (hv : ∃ a n c, v = .lit (.slice a n c)) (hg : GhV H' (.tuple [v, boolV bb, iV e]) H X) : leaveR Try.prog [.cell 4 37, .cell 5 4, .cell 6 25] (ptQ X H) t [] .returning H' := by
  obtain ⟨a, n, c, rfl⟩ := hv
  refine ⟨_, H', _, ?_, .refl _ _, _, rfl, hg⟩
  simp only [resV, resAll, resOne, ldT_37, ldT_4, ldT_25, h4, h5, h6, k4, k5, k6, ptrV, List.drop_zero, ldV_f, Option.bind_some, Option.map_some, tupV]
theorem ptNil {H H' : AH} (hs : SubH H H') (bb : Bool) (e : Int) : GhV H' (.tuple [.lit (.slice none 0 0), boolV bb, iV e]) H (.tuple [intsV [], boolV bb, iV e]) :=
  GhV.tuple (GhL.cons ((GhV.nil _).trans (GhV.forget hs _)) (GhL.cons (GhV.refl _ _) (GhL.cons (GhV.refl _ _) (GhL.nil _))))
theorem pointX_of {rows : List Row} {b : Int} {p : List Int × Bool × Int} (h : pointF rows b = p) : pointX rows b = .tuple [intsV p.1, boolV p.2.1, iV p.2.2] := by rw [pointX, h]
theorem acx_gen {cx : Cx} {a : ACode} {Q : APost} {t : Nat → VV} {d : List Deferred} {H : AH} (p : (Nat → VV) → AH → Prop) (hp : p t H) (h : ∀ t' H', p t' H' → ACx cx a Q ⟨t', d⟩ H') : ACx cx a Q ⟨t, d⟩ H := h t H hp
theorem en73 : enterable Try.prog 73 = true := by kernel_rfl
theorem acx_to {cx : Cx} {c : Code} {a : ACode} {Q : APost} {A : AF} {H : AH} (h : compile cx.P c = a) (k : ACx cx a Q A H) : AC cx c Q A H := k c h
theorem AH.del_get (H : AH) (r i : Nat) : (H.del r) i = if i = r then none else H i := rfl
theorem point31 (rows : List Row) (b : Int) (hlr : (rows.length : Int) ≤ 9223372036854775806) : PureF Try.prog 31 [rowsV rows, iV b] (pointX rows b) := by
  have h1 := hlr
  refine GivesF.pure fun H => ?_
  unfold GivesF
  refine vcalls_introM fd31 (by simp) ?_
  unfold c31
  by_cases hr : rightF rows = 0
  · have hn := unkN_le hr
    have hu := unkN_eq rows
    by_cases hb : b < 0 ∨ 100 < b
    · by_cases hb1 : b < 0
      · (repeat' (first | (simp only [↓s_skip, ↓s_reg, ↓s_seq, ↓s_cond, ↓s_condT, ↓s_condF, ↓s_ret, ↓s_nil, ↓s_consN, ↓s_consG, ↓s_guardTF, ↓s_thenN, ↓s_thenR, ↓s_kret, ↓s_putS, ↓s_putN, ↓s_dOkS, ↓s_dOkN, ↓s_ev_t, ↓s_ev_c, ↓s_ev_f, ↓s_upd, ↓s_move, ↓s_assign, ↓s_isBool, ↓s_pickA, ↓s_pick, ↓s_load, ↓s_store, ↓s_bin, ↓s_alloc, ↓s_box, ↓s_callV, ↓s_callL, ↓s_bin_lss, ↓s_bin_neq, ptrV, List.map_cons, List.map_nil, List.length_cons, List.length_nil, List.getD_cons_zero, List.getD_cons_succ, List.getD_nil, ite_true, ite_false, Nat.reduceEqDiff, Nat.reduceLT, true_and, Nat.succ_ne_self, decide_true, Bool.not_true, callOk, undefV, AH.get, setAt, List.all_cons, List.all_nil, Bool.and_self, eq_self, Nat.zero_add, List.drop, ldV_f, cl_int, on_int, cl_bool, on_bool, cl_sl, on_sl, cl_slice, List.set_cons_zero, ↓n_alloc, n_allocS, ↓n_box, Nat.le_refl, n_ldP, n_ldA, n_ldB, n_stP, n_stA, undef, ldT_31, szT_37, szT_4, szT_25, zeroT_37, zeroT_4, zeroT_25, en_36, *]) | (refine allNew_intro fun zr zh => ?_; have zg := zh; (try simp only [AH.set_none] at zg)) | (refine PureF.use (right36 _ h1) ?_)))
        rw [pointX_of (p := ([], false, 4)) (by simp [pointF, *])]
        exact ptLeave (by simp only [s_upd, Nat.reduceEqDiff, if_true, if_false, *] <;> rfl) (by simp only [s_upd, Nat.reduceEqDiff, if_true, if_false, *] <;> rfl) (by simp only [s_upd, Nat.reduceEqDiff, if_true, if_false, *] <;> rfl) (by simp only [AH.get, *, if_true, if_false] <;> rfl) (by simp only [AH.get, *, if_true, if_false] <;> rfl) (by simp only [AH.get, *, if_true, if_false] <;> rfl) ⟨_, _, _, rfl⟩ (ptNil (by repeat (first | assumption | exact SubH.refl _ | refine SubH.of_set ?_ (by simp only [*]))) _ _)
      · have hb2 : 100 < b := by omega
        (repeat' (first | (simp only [↓s_skip, ↓s_reg, ↓s_seq, ↓s_cond, ↓s_condT, ↓s_condF, ↓s_ret, ↓s_nil, ↓s_consN, ↓s_consG, ↓s_guardFF, ↓s_thenN, ↓s_thenR, ↓s_kret, ↓s_putS, ↓s_putN, ↓s_dOkS, ↓s_dOkN, ↓s_ev_t, ↓s_ev_c, ↓s_ev_f, ↓s_upd, ↓s_move, ↓s_assign, ↓s_isBool, ↓s_pickA, ↓s_pick, ↓s_load, ↓s_store, ↓s_bin, ↓s_alloc, ↓s_box, ↓s_callV, ↓s_callL, ↓s_bin_lss, ↓s_bin_gtr, ↓s_bin_neq, ptrV, List.map_cons, List.map_nil, List.length_cons, List.length_nil, List.getD_cons_zero, List.getD_cons_succ, List.getD_nil, ite_true, ite_false, Nat.reduceEqDiff, Nat.reduceLT, true_and, Bool.false_eq_true, Nat.succ_ne_self, decide_true, decide_false, Bool.not_true, undefV, AH.get, setAt, List.all_cons, List.all_nil, Bool.and_self, eq_self, Nat.zero_add, List.drop, ldV_f, cl_int, on_int, cl_bool, on_bool, cl_sl, on_sl, cl_slice, List.set_cons_zero, ↓n_alloc, n_allocS, ↓n_box, Nat.le_refl, n_ldP, n_ldA, n_ldB, n_stP, n_stA, undef, ldT_31, szT_37, szT_4, szT_25, zeroT_37, zeroT_4, zeroT_25, en_36, *]) | (refine allNew_intro fun zr zh => ?_; have zg := zh; (try simp only [AH.set_none] at zg)) | (refine PureF.use (right36 _ h1) ?_)))
        rw [pointX_of (p := ([], false, 4)) (by simp [pointF, *])]
        exact ptLeave (by simp only [s_upd, Nat.reduceEqDiff, if_true, if_false, *] <;> rfl) (by simp only [s_upd, Nat.reduceEqDiff, if_true, if_false, *] <;> rfl) (by simp only [s_upd, Nat.reduceEqDiff, if_true, if_false, *] <;> rfl) (by simp only [AH.get, *, if_true, if_false] <;> rfl) (by simp only [AH.get, *, if_true, if_false] <;> rfl) (by simp only [AH.get, *, if_true, if_false] <;> rfl) ⟨_, _, _, rfl⟩ (ptNil (by repeat (first | assumption | exact SubH.refl _ | refine SubH.of_set ?_ (by simp only [*]))) _ _)
    · have hb1 : ¬ b < 0 := by omega
      have hb2 : ¬ 100 < b := by omega
      (repeat' (first | (simp only [↓s_skip, ↓s_reg, ↓s_seq, ↓s_seqL, ↓s_cond, ↓s_condF, ↓s_block, ↓s_loop, ↓s_nil, ↓s_consN, ↓s_consG, ↓s_guardFF, ↓s_thenN, ↓s_kret, ↓s_putS, ↓s_dOkS, ↓s_ev_t, ↓s_ev_c, ↓s_ev_f, ↓s_upd, ↓s_move, ↓s_assign, ↓s_isBool, ↓s_pickA, ↓s_pick, ↓s_load, ↓s_bin, ↓s_alloc, ↓s_box, ↓s_callV, ↓s_callL, ↓s_bin_lss, ↓s_bin_gtr, ↓s_bin_neq, ptrV, List.map_cons, List.map_nil, List.getD_cons_zero, List.getD_cons_succ, List.getD_nil, ite_true, ite_false, Nat.reduceEqDiff, Nat.reduceLT, true_and, Bool.false_eq_true, Nat.succ_ne_self, decide_true, decide_false, Bool.not_true, undefV, AH.get, eq_self, List.drop, ldV_f, cl_slice, ↓n_alloc, n_allocS, ↓n_box, n_ldP, n_ldA, n_ldB, undef, ldT_31, zeroT_37, zeroT_4, zeroT_25, en_36, en_37, *]) | (refine allNew_intro fun zr zh => ?_; have zg := zh; (try simp only [AH.set_none] at zg)) | (refine PureF.use (right36 _ h1) ?_) | (refine PureF.use (unknowns37 _ h1) ?_)))
      rename_i r2 zh2 zg2 r4 zh4 zg4 r5 zh5 zg5
      revert zr
      intro r6 zh6 zg6
      refine acx_loop (fun _ _ _ h => h) (fun A H' => A.d = [] ∧ A.t 1 = iV b ∧ A.t 2 = ptrV r2 0 ∧ A.t 4 = ptrV r4 0 ∧ A.t 5 = ptrV r5 0 ∧ A.t 6 = ptrV r6 0 ∧ A.t 8 = iV (unkN rows) ∧ A.t 24 = iV (unkN rows) ∧
          H' = (((H.set r2 (.cells 31 [rowsV rows] 0)).set r4 (.cells 37 [.lit (.slice none 0 0)] 0)).set r5 (.cells 4 [boolV false] 0)).set r6 (.cells 25 [iV 0] 0) ∧ ∃ (i : Nat) (c : Int), i ≤ unkN rows ∧ A.t 25 = iV i ∧ A.t 9 = iV c ∧ 0 ≤ c ∧ c ≤ 100000 ∧ tooMany b (unkN rows) 1 = tooMany b (unkN rows - i) c)
        (fun A _ => match A.t 25 with | .lit (.int _ i) => ((unkN rows : Int) - i).toNat | _ => 0) ?_ ?_
      · exact ⟨rfl, rfl, rfl, rfl, rfl, rfl, rfl, rfl, rfl, 0, 1, by omega, rfl, rfl, by omega, by omega, rfl⟩
      · rintro ⟨t, d⟩ H' ⟨rfl, h1, h2, h4, h5, h6, h8, h24, rfl, i, c, hi, h25, h9, hc0, hc1, hgo⟩
        dsimp only at h1 h2 h4 h5 h6 h8 h24 h25 h9
        unfold b31_1
        have w1 : IntKind.i64.wrap (b + 1) = b + 1 := wrap_ok (by omega) (by omega)
        have hm0 : 0 ≤ c * (b + 1) := Int.mul_nonneg hc0 (by omega)
        have hm1 : c * (b + 1) ≤ 100000 * 101 := Int.mul_le_mul hc1 (by omega) (by omega) (by omega)
        have w2 : IntKind.i64.wrap (c * (b + 1)) = c * (b + 1) := wrap_ok (by omega) (by omega)
        (repeat' (first | (simp only [↓s_skip, ↓s_reg, ↓s_seq, ↓s_cond, ↓s_block, ↓s_exit, ↓s_ret, ↓s_nil, ↓s_consN, ↓s_thenN, ↓s_thenE, ↓s_thenR, ↓s_inN, ↓s_inE, ↓s_inR, ↓s_kret, ↓s_putS, ↓s_putN, ↓s_dOkS, ↓s_dOkN, ↓s_ev_t, ↓s_ev_c, ↓s_upd, ↓s_move, ↓s_assign, ↓s_store, ↓s_bin, ↓s_bin_lss, ↓s_bin_gtr, ↓s_bin_add, ↓s_bin_mul, ptrV, boolV, List.length_cons, List.length_nil, ite_true, ite_false, Nat.reduceEqDiff, Nat.reduceLT, true_and, Nat.succ_ne_self, decide_true, decide_false, AH.get, setAt, List.all_cons, List.all_nil, Bool.and_self, eq_self, Nat.zero_add, Int.ofNat_lt, cl_int, on_int, cl_bool, on_bool, cl_sl, on_sl, List.set_cons_zero, Nat.le_refl, n_stP, n_stA, szT_37, szT_4, szT_25, *]) | (refine condL_splitD ?_ ?_ <;> intro) | (refine acx_go rfl (fun _ _ _ h => h) ?_) | (with_reducible refine And.intro ?_ ?_)))
        · have hb3 : i < unkN rows := by assumption
          have ht : tooMany b (unkN rows) 1 = true := by
            rw [hgo, show unkN rows - i = (unkN rows - i - 1) + 1 from by omega, tooMany, if_pos (by assumption)]
          rw [pointX_of (p := ([], false, 7)) (by unfold pointF; rw [if_pos hr, if_neg hb, if_pos ht])]
          exact ptLeave (by simp only [s_upd, Nat.reduceEqDiff, if_false, *] <;> rfl) (by simp only [s_upd, Nat.reduceEqDiff, if_false, *] <;> rfl) (by simp only [s_upd, Nat.reduceEqDiff, if_false, *] <;> rfl) (by simp only [AH.get, *, if_true, if_false] <;> rfl) (by simp only [AH.get, *, if_true, if_false] <;> rfl) (by simp only [AH.get, *, if_true, if_false] <;> rfl) ⟨_, _, _, rfl⟩ (ptNil (by repeat (first | assumption | exact SubH.refl _ | refine SubH.of_set ?_ (by simp only [*]))) _ _)
        · rw [wrap_ok (n := (i : Int) + 1) (by omega) (by omega)]
          refine ⟨i + 1, c * (b + 1), by omega, rfl, rfl, hm0, by omega, ?_⟩
          conv => lhs; rw [show unkN rows - i = (unkN rows - (i + 1)) + 1 from by omega, tooMany, if_neg (by assumption)]
        · rw [wrap_ok (n := (i : Int) + 1) (by omega) (by omega)]
          omega
        · have ht : tooMany b (unkN rows) 1 = false := by rw [hgo, show unkN rows - i = 0 from by omega, tooMany]
          unfold c31_2
          (repeat' (first | (refine lists53 _ _ (fun rn rb hrn hrb => ?_)) | (simp only [↓s_reg, ↓s_seq, ↓s_seqL, ↓s_block, ↓s_rfunc, ↓s_nil, ↓s_consN, ↓s_thenN, ↓s_kret, ↓s_putS, ↓s_dOkS, ↓s_ev_t, ↓s_ev_f, ↓s_upd, ↓s_move, ↓s_callV, ↓s_callL, ptrV, List.map_cons, List.map_nil, ite_true, ite_false, Nat.reduceEqDiff, Nat.reduceLT, true_and, Nat.succ_ne_self, eq_self, en_53, *])))
          have hX : pointF rows b = match fromL (okP rows) b (List.replicate (unkN rows) 0) with | some x => (x, true, 0) | none => ([], false, 0) := by
            unfold pointF; rw [if_pos hr, if_neg hb, if_neg (by simp [ht])]
          refine acx_gen (fun t' H' => t' 2 = ptrV r2 0 ∧ t' 4 = ptrV r4 0 ∧ t' 5 = ptrV r5 0 ∧ t' 6 = ptrV r6 0 ∧ t' 36 = .func (.func 73) [] [ptrV rn 0, ptrV rb 0] ∧
            H' r2 = some (.cells 31 [rowsV rows] 0) ∧ H' r4 = some (.cells 37 [.lit (.slice none 0 0)] 0) ∧ H' r5 = some (.cells 4 [boolV false] 0) ∧ H' r6 = some (.cells 25 [iV 0] 0) ∧ H' rn = some (.cells 3 [iV (unkN rows)] 0) ∧ H' rb = some (.cells 3 [iV b] 0) ∧ SubH H H') ?_ ?_
          · simp only [AH.set_none] at hrb hrn
            refine ⟨(by simp only [s_upd, Nat.reduceEqDiff, if_false, *] <;> rfl), (by simp only [s_upd, Nat.reduceEqDiff, if_false, *] <;> rfl), (by simp only [s_upd, Nat.reduceEqDiff, if_false, *] <;> rfl), (by simp only [s_upd, Nat.reduceEqDiff, if_false, *] <;> rfl), (by simp only [s_upd, Nat.reduceEqDiff, if_true, if_false, *] <;> rfl), (by simp only [AH.get, *, if_true, if_false] <;> rfl), (by simp only [AH.get, *, if_true, if_false] <;> rfl), (by simp only [AH.get, *, if_true, if_false] <;> rfl), (by simp only [AH.get, *, if_true, if_false] <;> rfl), (by simp only [AH.get, *, if_true, if_false] <;> rfl), (by simp only [AH.get, *, if_true, if_false] <;> rfl), (by repeat (first | assumption | exact SubH.refl _ | refine SubH.of_set ?_ (by simp only [*])))⟩
          · have h1r := hlr
            clear h1 h2 h4 h5 h6 h8 h24 h25 h9 hrn hrb
            rintro t' H' ⟨h2, h4, h5, h6, h36, k2, k4, k5, k6, kn, kb, hs⟩
            refine acx_rfunc rfl (.inl h36) en73 ?_
            intro r l fn ca cb hca hcb hr' hl' hne hfn
            have nr : ∀ {i bk}, H' i = some bk → ¬ i = r ∧ ¬ r = i := fun h => AH.ne_of h hr'
            have nl : ∀ {i bk}, H' i = some bk → ¬ i = l ∧ ¬ l = i := fun h => AH.ne_of h hl'
            have hne1 : ¬ l = r := hne
            have hne2 : ¬ r = l := Ne.symm hne
            have d2 := nl k2
            have d4 := nl k4
            have d5 := nl k5
            have d6 := nl k6
            have e2 := nr k2
            have e4 := nr k4
            have e5 := nr k5
            have e6 := nr k6
            have en := nr kn
            have eb := nr kb
            refine lists73 (n := unkN rows) (b := b) (p := okP rows) (Inv := fun B => SubH (H'.set r (.obj (.deferred (some [])))) B ∧ B l = some (.loop .ready none fn 42 t' #[37] ca cb r))
              (Stop := fun g x B => B l = some (.loop .done (some .ret) fn 42 t' #[37] ca cb r) ∧ B r = some (.obj (.deferred (some []))) ∧ B r4 = some (.cells 37 [.lit (.slice (some ⟨g, 0, none⟩) (unkN rows) (unkN rows))] 0) ∧ B r5 = some (.cells 4 [boolV true] 0) ∧ B r6 = some (.cells 25 [iV 0] 0) ∧
                B g = some (.cells 3 (encC intE x) 0) ∧ x.length = unkN rows ∧ SubH H B ∧ H g = none ∧ ¬ g = l ∧ ¬ g = r) (by omega) (by omega) (by omega) ⟨SubH.new (by rw [AH.set_ne _ _ hne]; exact hl'), AH.set_same _ _ _⟩ ?_ ?_ (fun _ _ _ => rfl) ?_ ?_
            · intro B hB
              exact ⟨hB.1 _ _ (by rw [AH.get, if_neg en.1]; exact kn), hB.1 _ _ (by rw [AH.get, if_neg eb.1]; exact kb)⟩
            · intro B g x hx hB hBg K' hk1 hk2
              obtain ⟨hB, hBl⟩ := hB
              have hgl := AH.ne_of hBl hBg
              have q2 : B r2 = some (.cells 31 [rowsV rows] 0) := hB _ _ (by rw [AH.get, if_neg e2.1]; exact k2)
              have q4 : B r4 = some (.cells 37 [.lit (.slice none 0 0)] 0) := hB _ _ (by rw [AH.get, if_neg e4.1]; exact k4)
              have q5 : B r5 = some (.cells 4 [boolV false] 0) := hB _ _ (by rw [AH.get, if_neg e5.1]; exact k5)
              have q6 : B r6 = some (.cells 25 [iV 0] 0) := hB _ _ (by rw [AH.get, if_neg e6.1]; exact k6)
              have g2 := AH.ne_of q2 hBg
              have g4 := AH.ne_of q4 hBg
              have g5 := AH.ne_of q5 hBg
              have g6 := AH.ne_of q6 hBg
              refine acall_yield (l := l) (pe := none) (fn := fn) (N := 42) (t := t') (ps := #[37]) («asg» := ca) (bd := cb) (ds := r) (by rw [AH.get, if_neg hgl.1]; exact hBl) rfl (by simp) hfn ?_
              refine acx_to hca ?_
              have qr : B r = some (.obj (.deferred (some []))) := hB _ _ (AH.set_same _ _ _)
              have hsB : SubH H B := fun i bk h => hB _ _ (by rw [AH.get, if_neg (nr (hs _ _ h)).1]; exact hs _ _ h)
              have hg0 : H g = none := hsB.none hBg
              have hgr := AH.ne_of qr hBg
              have hful : ∀ H, H g = some (.cells 3 (encC intE x) 0) → ReadF Try.prog 49 [rowsV rows, .lit (.slice (some ⟨g, 0, none⟩) (unkN rows) (unkN rows))] (boolV (okP rows x)) H := fun H h => by
                have := fulfilled49m rows x (fun r hr => by have := len_unkN hr; omega) h1r (by omega) (c := unkN rows) h
                rw [hx] at this; exact this
              (repeat' (first | (simp only [↓s_reg, ↓s_nil, ↓s_consN, ↓s_thenN, ↓s_putS, ↓s_dOkS, ↓s_ev_t, ↓s_upd, ↓s_assign, ite_true, ite_false, Nat.reduceLT, true_and, AH.get, eq_self, putAll, *]) | (refine acx_go rfl (fun _ _ _ h => h) ?_) | (with_reducible refine And.intro ?_ ?_)))
              · exact ⟨none, rfl⟩
              · intro pe
                refine acx_to hcb ?_
                (repeat' (first | (refine (hful _ ?_).use ?_) | (simp only [↓s_skip, ↓s_reg, ↓s_seq, ↓s_cond, ↓s_block, ↓s_ret, ↓s_nil, ↓s_consN, ↓s_thenN, ↓s_inN, ↓s_inR, ↓s_kret, ↓s_putS, ↓s_putN, ↓s_dOkS, ↓s_dOkN, ↓s_ev_t, ↓s_ev_c, ↓s_ev_f, ↓s_upd, ↓s_move, ↓s_load, ↓s_store, ↓s_callV, ↓s_callL, ptrV, boolV, List.map_cons, List.map_nil, List.length_cons, List.length_nil, ite_true, ite_false, Nat.reduceEqDiff, Nat.reduceLT, true_and, Nat.succ_ne_self, AH.get, setAt, List.all_cons, List.all_nil, Bool.and_self, eq_self, Nat.zero_add, List.drop, ldV_f, cl_int, on_int, cl_bool, on_bool, cl_sl, on_sl, List.set_cons_zero, Nat.le_refl, n_ldP, n_ldA, n_ldB, n_stP, n_stA, ldT_31, szT_37, szT_4, szT_25, en_49, *]) | (refine condL_split ?_ ?_ <;> intro) | (refine acx_go rfl (fun _ _ _ h => h) ?_)))
                · have hp : okP rows x = true := by assumption
                  refine ⟨⟨pe, (by simp only [AH.get, *, if_true, if_false] <;> rfl)⟩, hk2 hp _ ⟨AH.set_same _ _ _, (by simp only [AH.get, *, if_false] <;> rfl), (by simp only [AH.get, *, if_true, if_false] <;> rfl), (by simp only [AH.get, *, if_true, if_false] <;> rfl), (by simp only [AH.get, *, if_true, if_false] <;> rfl), (by simp only [AH.get, *, if_true, if_false] <;> rfl), hx, ?_, hg0, hgl.2, hgr.2⟩⟩
                  exact SubH.of_set (SubH.of_set (SubH.of_set (SubH.of_set (SubH.of_set (SubH.of_set hsB hg0) (hs.none hl')) (by simp only [*])) (by simp only [*])) (by simp only [*])) (hs.none hl')
                · have hp : okP rows x = false := by assumption
                  refine ⟨⟨pe, (by simp only [AH.get, *, if_true, if_false] <;> rfl)⟩, ?_⟩
                  have := hk1 hp (B.set l (.loop .ready none fn 42 t' #[37] ca cb r)) ⟨hB.of_set (by rw [AH.set_ne _ _ hne]; exact hl'), AH.set_same _ _ _⟩ (by rw [AH.get, if_neg hgl.2]; exact hBg)
                  rw [AH.set_set, AH.comm _ _ hgl.1]
                  exact this
            · rintro hf B u ⟨hB, hBl⟩
              refine ⟨.ready, none, hBl, by simp, ?_⟩
              have q4 : B r4 = some (.cells 37 [.lit (.slice none 0 0)] 0) := hB _ _ (by rw [AH.get, if_neg e4.1]; exact k4)
              have q5 : B r5 = some (.cells 4 [boolV false] 0) := hB _ _ (by rw [AH.get, if_neg e5.1]; exact k5)
              have q6 : B r6 = some (.cells 25 [iV 0] 0) := hB _ _ (by rw [AH.get, if_neg e6.1]; exact k6)
              have qr : B r = some (.obj (.deferred (some []))) := hB _ _ (AH.set_same _ _ _)
              have hsB : SubH H B := fun i bk h => hB _ _ (by rw [AH.get, if_neg (nr (hs _ _ h)).1]; exact hs _ _ h)
              obtain ⟨B2, hB2⟩ : ∃ B2, B2 = B.del l := ⟨_, rfl⟩
              have p4 : B2 r4 = some (.cells 37 [.lit (.slice none 0 0)] 0) := by rw [hB2, AH.del_get, if_neg d4.1]; exact q4
              have p5 : B2 r5 = some (.cells 4 [boolV false] 0) := by rw [hB2, AH.del_get, if_neg d5.1]; exact q5
              have p6 : B2 r6 = some (.cells 25 [iV 0] 0) := by rw [hB2, AH.del_get, if_neg d6.1]; exact q6
              have pr : B2 r = some (.obj (.deferred (some []))) := by rw [hB2, AH.del_get, if_neg (Ne.symm hne)]; exact qr
              have hs2 : SubH H B2 := by rw [hB2]; exact hsB.del (hs.none hl')
              rw [pointX_of (p := ([], false, 0)) (by rw [hX, hf])]
              rw [← hB2]
              clear hB2
              unfold c31_1
              (repeat' (first | (simp only [↓s_reg, ↓s_seq, ↓s_ret, ↓s_nil, ↓s_consN, ↓s_thenN, ↓s_inN, ↓s_kret, ↓s_putN, ↓s_dOkN, ↓s_ev_t, ↓s_ev_c, ↓s_store, ptrV, boolV, List.length_cons, List.length_nil, ite_false, true_and, AH.get, setAt, List.all_cons, List.all_nil, Bool.and_self, eq_self, Nat.zero_add, cl_int, on_int, cl_bool, on_bool, cl_sl, on_sl, List.set_cons_zero, Nat.le_refl, n_stP, n_stA, szT_37, szT_4, szT_25, *]) | (refine acx_go rfl (fun _ _ _ h => h) ?_)))
              refine ⟨by simp, (by simp only [AH.get, *, if_false] <;> rfl), ?_⟩
              refine ptLeave (r4 := r4) (r5 := r5) (r6 := r6) h4 h5 h6 (by simp only [AH.del_get, AH.get, *, if_true, if_false] <;> rfl) (by simp only [AH.del_get, AH.get, *, if_true, if_false] <;> rfl) (by simp only [AH.del_get, AH.get, *, if_true, if_false] <;> rfl) ⟨_, _, _, rfl⟩ (ptNil ?_ _ _)
              refine SubH.del ?_ (hs.none hr')
              exact SubH.of_set (SubH.of_set (SubH.of_set hs2 (by simp only [*])) (by simp only [*])) (by simp only [*])
            · rintro x g B u hf ⟨hBl, qr, q4, q5, q6, qg, hx, hsB, hg0, g1, g2⟩
              refine ⟨.done, some .ret, hBl, by simp, ?_⟩
              rw [pointX_of (p := (x, true, 0)) (by rw [hX, hf])]
              show leaveR Try.prog [.cell 4 37, .cell 5 4, .cell 6 25] (ptQ _ H) t' [markOf r] .returning (B.del l)
              refine ⟨by simp, by rw [AH.del_get, if_neg (Ne.symm hne)]; exact qr, ?_⟩
              refine ptLeave (r4 := r4) (r5 := r5) (r6 := r6) h4 h5 h6 (by simp only [AH.del_get, *, if_false] <;> rfl) (by simp only [AH.del_get, *, if_false] <;> rfl) (by simp only [AH.del_get, *, if_false] <;> rfl) ⟨_, _, _, rfl⟩ ?_
              have kg : ((B.del l).del r) g = some (.cells 3 (encC intE x) 0) := (by simp only [AH.del_get, *, if_false] <;> rfl)
              have hsub : SubH H (((B.del l).del r).del g) := ((hsB.del (hs.none hl')).del (hs.none hr')).del hg0
              refine GhV.tuple (GhL.cons ?_ (GhL.cons (GhV.refl _ _) (GhL.cons (GhV.refl _ _) (GhL.nil _))))
              have := (GhV.slice (n := unkN rows) (c := unkN rows) kg (Nat.le_refl _)).trans (GhV.forget hsub _)
              show GhV _ _ H (VV.slice false x.length (encC intE x))
              rw [hx]
              exact this
  · (repeat' (first | (simp only [↓s_reg, ↓s_seq, ↓s_cond, ↓s_condT, ↓s_ret, ↓s_nil, ↓s_consN, ↓s_thenN, ↓s_thenR, ↓s_kret, ↓s_putS, ↓s_putN, ↓s_dOkS, ↓s_dOkN, ↓s_ev_t, ↓s_ev_c, ↓s_ev_f, ↓s_upd, ↓s_move, ↓s_assign, ↓s_load, ↓s_store, ↓s_bin, ↓s_alloc, ↓s_box, ↓s_callV, ↓s_callL, ↓s_bin_neq, ptrV, List.map_cons, List.map_nil, List.length_cons, List.length_nil, List.getD_cons_zero, List.getD_cons_succ, List.getD_nil, ite_true, ite_false, Nat.reduceEqDiff, Nat.reduceLT, true_and, Nat.succ_ne_self, decide_false, Bool.not_false, undefV, AH.get, setAt, List.all_cons, List.all_nil, Bool.and_self, eq_self, Nat.zero_add, List.drop, ldV_f, cl_int, on_int, cl_bool, on_bool, cl_sl, on_sl, cl_slice, List.set_cons_zero, ↓n_alloc, n_allocS, ↓n_box, Nat.le_refl, n_ldP, n_ldA, n_ldB, n_stP, n_stA, undef, ldT_31, szT_37, szT_4, szT_25, zeroT_37, zeroT_4, zeroT_25, en_36, *]) | (refine allNew_intro fun zr zh => ?_; have zg := zh; (try simp only [AH.set_none] at zg)) | (refine PureF.use (right36 _ h1) ?_)))
    rw [pointX_of (p := ([], false, rightF rows)) (by simp [pointF, *])]
    exact ptLeave (by simp only [s_upd, Nat.reduceEqDiff, if_true, if_false, *] <;> rfl) (by simp only [s_upd, Nat.reduceEqDiff, if_true, if_false, *] <;> rfl) (by simp only [s_upd, Nat.reduceEqDiff, if_true, if_false, *] <;> rfl) (by simp only [AH.get, *, if_true, if_false] <;> rfl) (by simp only [AH.get, *, if_true, if_false] <;> rfl) (by simp only [AH.get, *, if_true, if_false] <;> rfl) ⟨_, _, _, rfl⟩ (ptNil (by repeat (first | assumption | exact SubH.refl _ | refine SubH.of_set ?_ (by simp only [*]))) _ _)
end Go.PV.Ytefpjfpelicedaa
end
section
/- A round of the search: the sums of pairs. -/
set_option linter.unusedVariables false
set_option linter.unusedSimpArgs false
set_option maxRecDepth 20000
set_option maxHeartbeats 4000000
namespace Go.PV.Ytefpjfpelicedaa
open Go Go.Proofs
def chOf : Out → List PanicEntry
  | .stop c => stopE c
  | .found => foundE
def Kept (A B : AH) (r : Nat) : Prop := ∀ i b, i ≠ r → A i = some b → B i = some b
theorem en77 : enterable Try.prog 77 = true := by kernel_rfl
theorem RefS.delB {B H : AH} {s mp : Nat} {rows : List Row} {n : Nat} {most : Int} {st : RS} {r : Nat} {b0 : Blk} (h : RefS B H s mp rows n most st) (hr : B r = some b0) : RefS (B.del r) (H.del r) s mp rows n most st := by
  obtain ⟨mv, lv, Hs, Hm, b1, b2, b3, hB, ks, km', ho1, ho2⟩ := h
  have hs := AH.ne_of hr b1
  have hm := AH.ne_of hr b2
  refine ⟨mv, lv, Hs.del r, Hm.del r, ?_, ?_, b3, ?_, ?_, ?_, ho1.del (hB _ _ hr), ho2.del (ho1.sub _ _ (hB _ _ hr))⟩
  · rw [AH.del_ne _ hs.2]; exact b1
  · rw [AH.del_ne _ hm.2]; exact b2
  · intro i b hi
    rw [AH.del_get] at hi ⊢
    split at hi
    · cases hi
    · rename_i hne; rw [if_neg hne]; exact hB _ _ hi
  · rw [AH.del_ne _ hs.2]; exact ks
  · rw [AH.del_ne _ hm.2]; exact km'
theorem common62t (a b : Int) : PureF Try.prog 62 [.agg [.slice true 2 [iV a, iV b], iV 0]] (iV (commonF ⟨[a, b], 0⟩)) := by
  intro H S w args hs hx
  refine common62 ⟨[a, b], 0⟩ (by simp) H S w args hs ?_
  obtain ⟨u, us', e0, ⟨vs, rfl, u1, us1, e1, ⟨a', cap, rfl, ⟨g1, _⟩, g3⟩, rest⟩, h2⟩ := hx
  exact ⟨_, us', e0, ⟨vs, rfl, _, us1, e1, ⟨a', cap, rfl, ⟨g1, fun h => by cases h⟩, g3⟩, rest⟩, h2⟩
theorem gcd_ne : ∀ (n : Nat) (a b : Int), b.natAbs < n → (a ≠ 0 ∨ b ≠ 0) → (-1000000000000 ≤ a ∧ a ≤ 1000000000000) → (-1000000000000 ≤ b ∧ b ≤ 1000000000000) → gcdN n a b ≠ 0
  | n + 1, a, b, hn, h, h1, h2 => by
    simp only [gcdN]
    split
    · rename_i hb
      have : W (-a) = -a := wrap_ok (by omega) (by omega)
      rw [this, Int.max_def]
      split <;> omega
    · rename_i hb
      have h3 := tmod_lt (a := a) hb
      exact gcd_ne n b (a.tmod b) (by omega) (.inl hb) h2 (by omega)
theorem common_ne {a b : Int} (hb : b ≠ 0) (h1 : -1000000000000 ≤ a ∧ a ≤ 1000000000000) (h2 : -1000000000000 ≤ b ∧ b ≤ 1000000000000) : commonF ⟨[a, b], 0⟩ ≠ 0 := by
  have hx : gcdF 0 a = a ∨ gcdF 0 a = -a ∨ gcdF 0 a = 0 := by
    unfold gcdF
    simp only [gcdN]
    split
    · rename_i h; right; right; decide
    · rename_i h
      have e : (0 : Int).tmod a = 0 := Int.zero_tmod a
      rw [e]
      obtain ⟨m, hm⟩ : ∃ m, a.natAbs = m + 1 := ⟨a.natAbs - 1, by omega⟩
      rw [hm]
      simp only [gcdN, if_true]
      have : W (-a) = -a := wrap_ok (by omega) (by omega)
      rw [this, Int.max_def]
      split
      · right; left; rfl
      · left; rfl
  show gcdF (gcdF 0 a) b ≠ 0
  exact gcd_ne _ _ _ (Nat.lt_succ_self _) (.inr hb) (by omega) h2
theorem pairs40 {Cb C' H : AH} {s mp : Nat} {rows : List Row} {n : Nat} {most : Int} {st : RS} {t : Nat → VV} {d : List Deferred} {Q : APost} {r1 r6 r7 : Nat} {lv v : VV} {l zs : List Int} {k : Nat} (hQ : noGoto Q) (hP : panQ Q)
    (h1 : t 1 = ptrV r1 0) (h2 : t 2 = lv) (h6 : t 6 = ptrV r6 0) (h7 : t 7 = ptrV r7 0)
    (c1 : Cb r1 = some (.cells 71 [ptrV s 0] 0)) (c6 : Cb r6 = some (.cells 3 [iV k] 0)) (c7 : Cb r7 = some (.cells 37 [v] 0)) (hl : SlI Cb lv l) (hl7 : ∀ g c, lv = .lit (.slice (some ⟨g, 0, none⟩) l.length c) → g ≠ r7) (d17 : r1 ≠ r7) (d67 : r6 ≠ r7)
    (ho : OwnX Cb C' 3 1 v zs.length (encC intE zs)) (hst : RefS C' H s mp rows n most st) (hok : OkS n most st) (hm : most ≤ 5000) (hrows : ∀ r ∈ rows, r.c.length ≤ n) (hn : (n : Int) ≤ 12) (hin : InR st l) (hk : k < n) (hlen : (l.length : Int) ≤ 1000000) (hz : KOk st zs) (hzl : zs.length ≤ st.ls.length)
    (hok' : ∀ st' next, keepsS rows n most ((pairsL (rowsOf st) k l l).map (sumLine (rowsOf st) k)) st zs = .ok (st', next) → ∀ t' v' r C2 C3 H', t' 1 = t 1 → t' 2 = v' → t' 5 = t 5 → t' 58 = t 58 → t' 59 = t 59 → H r = none → Kept Cb C2 r7 → C2 r = some (.obj (.deferred (some []))) →
      OwnX C2 C3 3 1 v' next.length (encC intE next) → RefS C3 H' s mp rows n most st' → OkS n most st' → Grows st st' → KOk st' next → next.length ≤ st'.ls.length → Q .normal ⟨t', markOf r :: d⟩ H')
    (herr : ∀ o st', keepsS rows n most ((pairsL (rowsOf st) k l l).map (sumLine (rowsOf st) k)) st zs = .error (o, st') → ∀ t' r C2 H', H r = none → Kept Cb C2 r7 → C2 r = some (.obj (.deferred (some []))) → RefS C2 H' s mp rows n most st' → Q (.panic (chOf o)) ⟨t', markOf r :: d⟩ H') :
    vc ⟨Try.prog, 147, none⟩ c40_2 Q ⟨t, d⟩ H := by
  obtain ⟨xa, xc, hlv⟩ := hl.form
  subst hlv
  have hsub := ho.sub.trans hst.sub
  have q1 := hsub _ _ c1
  have q6 := hsub _ _ c6
  have q7 := hsub _ _ c7
  unfold c40_2
  (repeat' (first | (refine pairs61 (k := k) (fun rs rl rk hrs hrl hrk => ?_) rfl) | (simp only [↓s_reg, ↓s_seq, ↓s_seqL, ↓s_block, ↓s_rfunc, ↓s_nil, ↓s_consN, ↓s_thenN, ↓s_kret, ↓s_putS, ↓s_dOkS, ↓s_ev_t, ↓s_ev_f, ↓s_upd, ↓s_move, ↓s_load, ↓s_callV, ↓s_callL, ptrV, List.map_cons, List.map_nil, ite_true, ite_false, Nat.reduceEqDiff, Nat.reduceLT, true_and, Nat.succ_ne_self, eq_self, List.drop, ldV_f, n_ldP, n_ldA, n_ldB, ldT_71, ldT_3, en_61, *])))
  obtain ⟨tot, htot⟩ : ∃ tot, tot = keepsS rows n most ((pairsL (rowsOf st) k l l).map (sumLine (rowsOf st) k)) st zs := ⟨_, rfl⟩
  rw [← htot] at hok' herr
  have n1 : ∀ r, H r = none → ¬ r1 = r ∧ ¬ r = r1 := fun r hr => AH.ne_of q1 hr
  have n6 : ∀ r, H r = none → ¬ r6 = r ∧ ¬ r = r6 := fun r hr => AH.ne_of q6 hr
  have n7 : ∀ r, H r = none → ¬ r7 = r ∧ ¬ r = r7 := fun r hr => AH.ne_of q7 hr
  -- the frame behind the three boxes
  obtain ⟨Ca, Cc, Ha, hoa, hsta, ka, kl, kk, a1, a6, a7, hka, hHa, hnf, hn7⟩ : ∃ Ca Cc Ha, OwnX Ca Cc 3 1 v zs.length (encC intE zs) ∧ RefS Cc Ha s mp rows n most st ∧ Ca rs = some (.cells 71 [ptrV s 0] 0) ∧ Ca rl = some (.cells 37 [.lit (.slice xa l.length xc)] 0) ∧ Ca rk = some (.cells 3 [iV k] 0) ∧
      Ca r1 = some (.cells 71 [ptrV s 0] 0) ∧ Ca r6 = some (.cells 3 [iV k] 0) ∧ Ca r7 = some (.cells 37 [v] 0) ∧ Kept Cb Ca r7 ∧ Ha = (((H.set rs (.cells 71 [ptrV s 0] 0)).set rl (.cells 37 [.lit (.slice xa l.length xc)] 0)).set rk (.cells 3 [iV k] 0)) ∧ (∀ i, Ha i = none → H i = none) ∧ (¬ rs = r7 ∧ ¬ rl = r7 ∧ ¬ rk = r7) := by
    have z1 := hst.sub.none hrs
    have z2 := (hst.allocB hrs (.cells 71 [ptrV s 0] 0)).sub.none hrl
    have z3 := ((hst.allocB hrs (.cells 71 [ptrV s 0] 0)).allocB hrl (.cells 37 [.lit (.slice xa l.length xc)] 0)).sub.none hrk
    have hrl' := hrl
    have hrk' := hrk
    simp only [AH.set_none] at hrl' hrk'
    have y1 := n1 _ hrs
    have y6 := n6 _ hrs
    have y7 := n7 _ hrs
    have y1' := n1 _ hrl'.2
    have y6' := n6 _ hrl'.2
    have y7' := n7 _ hrl'.2
    have y1'' := n1 _ hrk'.2.2
    have y6'' := n6 _ hrk'.2.2
    have y7'' := n7 _ hrk'.2.2
    refine ⟨_, _, _, ((ho.alloc z1 _).alloc z2 _).alloc z3 _, ((hst.allocB hrs _).allocB hrl _).allocB hrk _, (by simp only [AH.get, *, if_true, if_false] <;> rfl), (by simp only [AH.get, *, if_true, if_false] <;> rfl), (by simp only [AH.get, *, if_true, if_false] <;> rfl), (by simp only [AH.get, *, if_false] <;> rfl), (by simp only [AH.get, *, if_false] <;> rfl), (by simp only [AH.get, *, if_false] <;> rfl), ?_, rfl, ?_, y7.2, y7'.2, y7''.2⟩
    · intro i b hi hb
      have hib := hsub _ _ hb
      have m1 := AH.ne_of hib hrs
      have m2 := AH.ne_of hib hrl'.2
      have m3 := AH.ne_of hib hrk'.2.2
      exact (by simp only [AH.get, *, if_false] <;> rfl)
    · intro i hi
      simp only [AH.set_none] at hi
      exact hi.2.2.2
  refine acx_gen (fun t' H' => t' 1 = ptrV r1 0 ∧ t' 5 = t 5 ∧ t' 6 = ptrV r6 0 ∧ t' 7 = ptrV r7 0 ∧ t' 58 = t 58 ∧ t' 59 = t 59 ∧ t' 98 = .func (.func 77) [] [ptrV rl 0, ptrV rs 0, ptrV rk 0] ∧ H' = Ha) ?_ ?_
  · exact ⟨(by simp only [s_upd, Nat.reduceEqDiff, if_false, *] <;> rfl), by simp only [s_upd, Nat.reduceEqDiff, if_false], (by simp only [s_upd, Nat.reduceEqDiff, if_false, *] <;> rfl), (by simp only [s_upd, Nat.reduceEqDiff, if_false, *] <;> rfl), by simp only [s_upd, Nat.reduceEqDiff, if_false], by simp only [s_upd, Nat.reduceEqDiff, if_false], (by simp only [s_upd, Nat.reduceEqDiff, if_true, if_false, *] <;> rfl), hHa.symm⟩
  · rintro t' H' ⟨u1, u5, u6, u7, u58, u59, u98, rfl⟩
    refine acx_rfunc rfl (.inl u98) en77 ?_
    intro r l0 fn ca cb hca hcb hr hl0 hne hfn
    have hne1 : ¬ l0 = r := hne
    have hne2 : ¬ r = l0 := Ne.symm hne
    have hr0 := hnf _ hr
    -- the frame while the pairs are yielded
    obtain ⟨Cx, hCx, x1, x6, x7, xs, xl, xk, xr, xl0, xK⟩ : ∃ Cx, Cx = (Ca.set r (.obj (.deferred (some [])))).set l0 (.loop .ready none fn 147 t' #[99, 100] ca cb r) ∧ Cx r1 = some (.cells 71 [ptrV s 0] 0) ∧ Cx r6 = some (.cells 3 [iV k] 0) ∧ Cx r7 = some (.cells 37 [v] 0) ∧ Cx rs = some (.cells 71 [ptrV s 0] 0) ∧ Cx rl = some (.cells 37 [.lit (.slice xa l.length xc)] 0) ∧ Cx rk = some (.cells 3 [iV k] 0) ∧ Cx r = some (.obj (.deferred (some []))) ∧ Cx l0 = some (.loop .ready none fn 147 t' #[99, 100] ca cb r) ∧ Kept Cb Cx r7 := by
      have hsa := hoa.sub.trans hsta.sub
      have w : ∀ {i b}, Ca i = some b → ¬ i = r ∧ ¬ i = l0 := fun h => ⟨(AH.ne_of (hsa _ _ h) hr).1, (AH.ne_of (hsa _ _ h) hl0).1⟩
      refine ⟨_, rfl, ?_, ?_, ?_, ?_, ?_, ?_, ?_, AH.set_same _ _ _, ?_⟩
      · rw [AH.get, if_neg (w a1).2, AH.get, if_neg (w a1).1]; exact a1
      · rw [AH.get, if_neg (w a6).2, AH.get, if_neg (w a6).1]; exact a6
      · rw [AH.get, if_neg (w a7).2, AH.get, if_neg (w a7).1]; exact a7
      · rw [AH.get, if_neg (w ka).2, AH.get, if_neg (w ka).1]; exact ka
      · rw [AH.get, if_neg (w kl).2, AH.get, if_neg (w kl).1]; exact kl
      · rw [AH.get, if_neg (w kk).2, AH.get, if_neg (w kk).1]; exact kk
      · rw [AH.get, if_neg hne2, AH.get, if_pos rfl]
      · intro i b hi hb
        have := hka i b hi hb
        rw [AH.get, if_neg (w this).2, AH.get, if_neg (w this).1]; exact this
    have m7 : ∀ {i b}, Cx i = some b → (∀ e cs sp, b ≠ .cells e cs sp) → ¬ i = r7 := fun h hb e => by
      subst e; rw [x7] at h; cases h; exact hb _ _ _ rfl
    have r_7 : ¬ r = r7 := m7 xr (by intros; simp)
    have l_7 : ¬ l0 = r7 := m7 xl0 (by intros; simp)
    -- the slice of the lines that are left
    have hlx : SlI Cx (.lit (.slice xa l.length xc)) l := by
      rcases hl with ⟨e1, e2⟩ | ⟨g, c, sp, e1, e2⟩
      · exact .inl ⟨e1, e2⟩
      · exact .inr ⟨g, c, sp, e1, xK _ _ (hl7 g c e1) e2⟩
    have z1 := hsta.sub.none hr
    have z2 := (hsta.allocB hr (.obj (.deferred (some [])))).sub.none (show (H'.set r (.obj (.deferred (some [])))) l0 = none by rw [AH.get, if_neg hne1]; exact hl0)
    have hox : OwnX Cx ((Cc.set r (.obj (.deferred (some [])))).set l0 (.loop .ready none fn 147 t' #[99, 100] ca cb r)) 3 1 v zs.length (encC intE zs) := by
      rw [hCx]; exact (hoa.alloc z1 _).alloc z2 _
    have hstx := (hsta.allocB hr (.obj (.deferred (some [])))).allocB (show (H'.set r (.obj (.deferred (some [])))) l0 = none by rw [AH.get, if_neg hne1]; exact hl0) (.loop .ready none fn 147 t' #[99, 100] ca cb r)
    refine pairs77 (l := l) (k := k) (s := s) (R := rowsOf st) (lv := .lit (.slice xa l.length xc))
      (I := fun ps H => ∃ st' next v C2, OwnX (Cx.set r7 (.cells 37 [v] 0)) C2 3 1 v next.length (encC intE next) ∧ RefS C2 H s mp rows n most st' ∧ OkS n most st' ∧ Grows st st' ∧ KOk st' next ∧ next.length ≤ st'.ls.length ∧ keepsS rows n most (ps.map (sumLine (rowsOf st) k)) st' next = tot)
      (Pan := fun ch H => ∃ o st' C2, ch = chOf o ∧ tot = .error (o, st') ∧ Kept Cb C2 r7 ∧ C2 r = some (.obj (.deferred (some []))) ∧ RefS C2 H s mp rows n most st') hlen ?_ ?_ ?_ ?_ (fun _ _ _ => rfl) ?_ ?_
    · exact ⟨st, zs, v, _, by rw [AH.set_id x7]; exact hox, hstx, hok, .refl _, hz, hzl, htot.symm⟩
    · rintro ps H2 ⟨st', next, v', C2, ho2, hst2, hok2, hg2, hk2, hn2, ht2⟩
      have hsub2 := ho2.sub.trans hst2.sub
      refine ⟨hsub2 _ _ (by rw [AH.get, if_neg hn7.2.1]; exact xl), hsub2 _ _ (by rw [AH.get, if_neg hn7.1]; exact xs), hsub2 _ _ (by rw [AH.get, if_neg hn7.2.2]; exact xk), ?_, hst2.reads (fun x hx => ⟨(hin x hx).1, (hg2.row (hin x hx).1 (hin x hx).2).2, (hg2.row (hin x hx).1 (hin x hx).2).1⟩)⟩
      rcases hlx with ⟨e1, e2⟩ | ⟨g, c, sp, e1, e2⟩
      · exact .inl ⟨e1, e2⟩
      · exact .inr ⟨g, c, sp, e1, hsub2 _ _ (by rw [AH.get, if_neg (hl7 g c e1)]; exact e2)⟩
    · intro a ha
      have := hin a ha
      rw [rowsOf, (fit_at hok.fits this.1 this.2).1]; exact hk
    · rintro a b ps H2 K' ha hb s1 s2 ⟨st', next, v', C2, ho2, hst2, hok2, hg2, hk2, hn2, ht2⟩ hk1 hkp
      have hC2 : ∀ {i b}, ¬ i = r7 → Cx i = some b → C2 i = some b := fun h1 h2 => ho2.sub _ _ (by rw [AH.get, if_neg h1]; exact h2)
      have hC2l := hC2 l_7 xl0
      have hC27 : C2 r7 = some (.cells 37 [v'] 0) := ho2.sub _ _ (AH.set_same _ _ _)
      refine acall_yield (l := l0) (pe := none) (fn := fn) (N := 147) (t := t') (ps := #[99, 100]) («asg» := ca) (bd := cb) (ds := r) (hst2.sub _ _ hC2l) rfl (by simp) hfn ?_
      refine acx_to hca ?_
      have hl02 := hst2.sub _ _ hC2l
      (repeat' (first | (simp only [↓s_reg, ↓s_seq, ↓s_nil, ↓s_consN, ↓s_thenN, ↓s_putS, ↓s_dOkS, ↓s_ev_t, ↓s_upd, ↓s_assign, ite_true, ite_false, Nat.reduceEqDiff, Nat.reduceLT, true_and, Nat.succ_ne_self, eq_self, putAll, *]) | (refine acx_go rfl (fun _ _ _ h => h) ?_) | (with_reducible refine And.intro ?_ ?_)))
      · exact ⟨none, rfl⟩
      · intro pe
        refine acx_to hcb ?_
        have hst3 := hst2.storeB hC2l (.loop .busy pe fn 147 t' #[99, 100] ca cb r)
        obtain ⟨C3, hC3⟩ : ∃ C3, C3 = C2.set l0 (.loop .busy pe fn 147 t' #[99, 100] ca cb r) := ⟨_, rfl⟩
        obtain ⟨H3, hH3⟩ : ∃ H3, H3 = H2.set l0 (.loop .busy pe fn 147 t' #[99, 100] ca cb r) := ⟨_, rfl⟩
        have ho3 : OwnX ((Cx.set r7 (.cells 37 [v'] 0)).set l0 (.loop .busy pe fn 147 t' #[99, 100] ca cb r)) C3 3 1 v' next.length (encC intE next) := by
          rw [hC3]; exact ho2.put (show (Cx.set r7 (.cells 37 [v'] 0)) l0 = _ by rw [AH.get, if_neg l_7]; exact xl0) _
        rw [← hC3, ← hH3] at hst3
        rw [← hH3]
        have hC3' : ∀ {i bk}, ¬ i = r7 → ¬ i = l0 → Cx i = some bk → C3 i = some bk := fun h1 h2 h3 => by rw [hC3, AH.get, if_neg h2]; exact hC2 h1 h3
        have e17 : ¬ r1 = r7 := d17
        have e67 : ¬ r6 = r7 := d67
        have nl : ∀ {i e cs sp}, Cx i = some (.cells e cs sp) → ¬ i = l0 := fun h e => by subst e; rw [xl0] at h; cases h
        have y1 := hC3' e17 (nl x1) x1
        have y6 := hC3' e67 (nl x6) x6
        have y7 : C3 r7 = some (.cells 37 [v'] 0) := by rw [hC3, AH.get, if_neg (Ne.symm l_7)]; exact hC27
        have yr : C3 r = some (.obj (.deferred (some []))) := hC3' r_7 hne2 xr
        have yl : C3 l0 = some (.loop .busy pe fn 147 t' #[99, 100] ca cb r) := by rw [hC3, AH.set_same]
        have hs3 := hst3.sub
        have z1 := hs3 _ _ y1
        have z6 := hs3 _ _ y6
        have z7 := hs3 _ _ y7
        obtain ⟨ga, gc, la, lc, k1, km1, -, hmade1⟩ := hst3.view
        have ia := hin a ha
        have ib := hin b hb
        obtain ⟨ea, ea1⟩ := hg2.row ia.1 ia.2
        obtain ⟨eb, eb1⟩ := hg2.row ib.1 ib.2
        obtain ⟨g1, sp1, rfl, kg1⟩ := hmade1 (fun e => by rw [e] at ea1; simp at ea1; omega)
        have fa := fit_at hok2.fits ia.1 ea1
        have fb := fit_at hok2.fits ib.1 eb1
        have ka2 : k < (rowAt st'.made a).c.length := by rw [fa.1]; exact hk
        have kb2 : k < (rowAt st'.made b).c.length := by rw [fb.1]; exact hk
        have hca2 : (rowAt st'.made a).c[k] = cf (rowsOf st) k a := by simp only [cf, rowsOf, ← ea]; simp [List.getD_eq_getElem?_getD, ka2]
        have hcb2 : (rowAt st'.made b).c[k] = cf (rowsOf st) k b := by simp only [cf, rowsOf, ← eb]; simp [List.getD_eq_getElem?_getD, kb2]
        have ba : -1000000000000 ≤ cf (rowsOf st) k a ∧ cf (rowsOf st) k a ≤ 1000000000000 := by
          have := fa.2.2 _ (List.getElem_mem ka2); rw [hca2] at this; simpa [far2] using this
        have bb : -1000000000000 ≤ cf (rowsOf st) k b ∧ cf (rowsOf st) k b ≤ 1000000000000 := by
          have := fb.2.2 _ (List.getElem_mem kb2); rw [hcb2] at this; simpa [far2] using this
        have hwn : W (-(cf (rowsOf st) k b)) = -(cf (rowsOf st) k b) := wrap_ok (by omega) (by omega)
        have hg0 : ¬ commonF ⟨[W (-(cf (rowsOf st) k b)), cf (rowsOf st) k a], 0⟩ = 0 := by
          rw [hwn]; exact common_ne (by omega) (by omega) ba
        have hKb : Kept Cb C3 r7 := fun i bk hi hbk => hC3' hi (AH.ne_of (hsub _ _ hbk) (hnf _ hl0)).1 (xK _ _ hi hbk)
        clear hwn ea eb hH3 hC3 hC3' hl02 hC2 hC2l hC27 ho2 hst2
        have hnl : next.length ≤ 5000 := by have := hok2.le; omega
        (repeat' (first | (refine acx_dreg (p := .tk ⟨some 131, _, _⟩ _) mixed (fun _ _ _ _ e h => ⟨e.trans h.1, h.2⟩) C3 hs3 ?_) | (refine keep58 (B := C3) (st := st') (l := sumLine (rowsOf st) k (a, b)) hst3 hok2 hm hrows hn ?_) | (simp only [↓s_reg, ↓s_seq, ↓s_block, ↓s_dreg, ↓s_nil, ↓s_consN, ↓s_thenN, ↓s_kret, ↓s_putS, ↓s_dOkS, ↓s_ev_t, ↓s_ev_c, ↓s_ev_f, ↓s_upd, ↓s_move, ↓s_assign, ↓s_load, ↓s_nilCheck, ↓s_bin, ↓s_un, ↓s_build, ↓s_buildSlice, ↓s_fieldAddr, ↓s_indexAddr, ↓s_callV, ↓s_callL, ↓s_un_neg, ↓s_bin_quo, vcNil, ptrV, List.map_cons, List.map_nil, List.length_cons, List.length_nil, List.cons_append, List.nil_append, List.append_nil, ite_true, ite_false, Nat.reduceEqDiff, Nat.reduceLT, Nat.reduceAdd, Nat.reduceLeDiff, ne_eq, not_false_eq_true, true_and, Nat.succ_ne_self, reduceCtorEq, Int.natCast_nonneg, Int.toNat_natCast, Nat.mul_one, ↓s_plFin, ↓s_plTkN, ↓s_plOneN, vcBuild, fillV, setAt, eq_self, Nat.zero_add, Nat.add_zero, List.drop, and_self, List.getElem?_cons_zero, List.getElem?_cons_succ, ldV_f, Int.ofNat_lt, cl_int, cl_slice, List.set_cons_zero, List.set_cons_succ, Nat.le_refl, n_ldI, n_ldP, n_faP, n_ixS, n_ixL, n_ixA1, n_ixA2, n_ldA, n_ldC, n_ldB, n_faA, ↓s_plK, vcBuildSlice, List.replicate_succ, List.replicate_zero, List.flatten_cons, List.flatten_nil, ints_drop, rows_dropZ, flT_77_0, flT_74_2, flT_50_0, ldT_71, ldT_3, ldT_31, ldT_37, stT_52, stT_50, zeroT_3, elT_37, elT_31, en_58, en_62, *]) | (refine acx_go rfl (fun _ _ _ h => h) ?_) | (refine acx_dreg mixed (fun _ _ _ _ e h => ⟨e.trans h.1, h.2⟩) _ (SubH.refl _) ?_) | (refine PureF.use (common62t _ _) ?_)))
        simp only [List.map_cons, keepsS] at ht2
        have hkk := keepS_ok (rows := rows) (l := sumLine (rowsOf st) k (a, b)) hok2
        cases e : keepS rows n most st' (sumLine (rowsOf st) k (a, b)) with
        | error p =>
          obtain ⟨o, st4⟩ := p
          rw [e] at ht2
          have hpan : ∀ H', RefS C3 H' s mp rows n most st4 → K' (.pan (chOf o)) H' := fun H' h' => hkp _ _ ⟨o, st4, C3, rfl, ht2.symm, hKb, yr, h'⟩
          cases o with
          | stop c => intro H' h'; exact ⟨rfl, hpan H' h'⟩
          | found => intro H' h'; exact ⟨rfl, hpan H' h'⟩
        | ok p =>
          obtain ⟨a4, st4⟩ := p
          rw [e] at ht2 hkk
          obtain ⟨hok4, hg4, hlt4, ha4⟩ := hkk
          intro H4 hst4
          have hs4 := hst4.sub
          obtain ⟨H0, hr0', hoH⟩ := hst4.over ho3
          clear hst3 k1 km1 kg1 hmade1 z1 z6 z7 hs3
          have z1 := hs4 _ _ y1
          have z7 := hs4 _ _ y7
          (repeat' (first | (simp only [↓s_consN, ↓s_kret, ↓s_putS, ↓s_dOkS, ↓s_ev_t, ↓s_upd, ↓s_buildSlice, ↓s_callB, ↓s_append, List.map_cons, List.map_nil, List.length_cons, List.length_nil, List.append_nil, ite_true, ite_false, Nat.reduceEqDiff, Nat.reduceLT, Nat.reduceLeDiff, true_and, Nat.succ_ne_self, Nat.mul_one, ↓s_plFin, ↓s_plOneN, fillV, setAt, eq_self, Nat.zero_add, and_self, cl_int, List.set_cons_zero, Nat.le_refl, ↓s_oneK, vcBuildSlice, List.replicate_succ, List.replicate_zero, List.flatten_cons, List.flatten_nil, zeroT_3, elT_37, *])))
          refine append_own elT_37 zeroT_3 rfl (by omega) hoH rfl rfl (by omega) (by omega) (fun v2 H5 ho5 => ?_)
          obtain ⟨C5, ho6, hst5⟩ := hr0'.under ho5
          have c57 : C5 r7 = some (.cells 37 [v'] 0) := ho6.sub _ _ (by rw [AH.get, if_neg (Ne.symm l_7), AH.set_same])
          have c5l : C5 l0 = some (.loop .busy pe fn 147 t' #[99, 100] ca cb r) := ho6.sub _ _ (AH.set_same _ _ _)
          have z7' := hst5.sub _ _ c57
          have zl' := hst5.sub _ _ c5l
          have x1' := ho6.cells.1
          have x2' := ho6.cells.2
          (repeat' (first | (simp only [↓s_nil, ↓s_consN, ↓s_inN, ↓s_kret, ↓s_putS, ↓s_putN, ↓s_dOkN, ↓s_ev_t, ↓s_upd, ↓s_store, ptrV, List.length_cons, List.length_nil, ite_true, ite_false, Nat.reduceEqDiff, true_and, Nat.succ_ne_self, setAt, List.all_cons, List.all_nil, Bool.and_self, eq_self, Nat.zero_add, List.set_cons_zero, Nat.le_refl, n_stP, n_stA, szT_37, *])))
          have hst6 := (hst5.storeB c57 (.cells 37 [v2] 0)).storeB (r := l0) (by rw [AH.get, if_neg l_7]; exact c5l) (.loop .ready none fn 147 t' #[99, 100] ca cb r)
          refine ⟨⟨pe, by rw [AH.get, if_neg l_7]; exact zl'⟩, hk1 _ ⟨st4, next ++ [a4], v2, _, ?_, hst6, hok4, hg2.trans hg4, hk2.snoc hg4 ha4, by simp; omega, ht2⟩⟩
          have h8 := (ho6.put (r := r7) (b0 := .cells 37 [v'] 0) (by rw [AH.get, if_neg (Ne.symm l_7), AH.set_same]) (.cells 37 [v2] 0)).put (r := l0) (b0 := .loop .busy pe fn 147 t' #[99, 100] ca cb r) (by rw [AH.get, if_neg l_7, AH.set_same]) (.loop .ready none fn 147 t' #[99, 100] ca cb r)
          have he : ((((Cx.set r7 (.cells 37 [v'] 0)).set l0 (.loop .busy pe fn 147 t' #[99, 100] ca cb r)).set r7 (.cells 37 [v2] 0)).set l0 (.loop .ready none fn 147 t' #[99, 100] ca cb r)) = Cx.set r7 (.cells 37 [v2] 0) := by
            funext i
            simp only [AH.set]
            by_cases i1 : i = l0
            · subst i1; rw [if_pos rfl, if_neg l_7]; exact xl0.symm
            · rw [if_neg i1]
              by_cases i2 : i = r7
              · rw [if_pos i2, if_pos i2]
              · rw [if_neg i2, if_neg i1, if_neg i2, if_neg i2]
          rw [he] at h8
          rw [encC_snoc, List.length_append]
          exact h8
    · rintro H2 u ⟨st', next, v', C2, ho2, hst2, hok2, hg2, hk2, hn2, ht2⟩
      have hC2l : C2 l0 = some (.loop .ready none fn 147 t' #[99, 100] ca cb r) := ho2.sub _ _ (by rw [AH.get, if_neg l_7]; exact xl0)
      refine ⟨.ready, none, hst2.sub _ _ hC2l, by simp, ?_⟩
      show ACx ⟨Try.prog, 147, none⟩ c40_1 Q ⟨t', markOf r :: d⟩ (H2.del l0)
      have hst3 := hst2.delB hC2l
      have ho3 := ho2.del (show (Cx.set r7 (.cells 37 [v'] 0)) l0 = _ by rw [AH.get, if_neg l_7]; exact xl0)
      have f7 : ((Cx.set r7 (.cells 37 [v'] 0)).del l0) r7 = some (.cells 37 [v'] 0) := by rw [AH.del_ne _ (Ne.symm l_7), AH.set_same]
      have g7 := (ho3.sub.trans hst3.sub) _ _ f7
      unfold c40_1
      (repeat' (first | (refine acx_go rfl (fun l A H h => hQ l A H h) ?_) | (simp only [↓s_reg, ↓s_nil, ↓s_consN, ↓s_kret, ↓s_putS, ↓s_dOkS, ↓s_ev_t, ↓s_upd, ↓s_assign, ↓s_load, ptrV, ite_true, Nat.reduceLT, true_and, eq_self, List.drop, ldV_f, n_ldP, n_ldA, n_ldB, ldT_37, *])))
      refine hok' st' next ht2.symm _ v' r _ _ _ ?_ ?_ ?_ ?_ ?_ hr0 ?_ ?_ ho3 hst3 hok2 hg2 hk2 hn2
      · simp only [s_upd, Nat.reduceEqDiff, if_false, u1, h1]
      · simp only [s_upd, if_true]
      · simp only [s_upd, Nat.reduceEqDiff, if_false, u5]
      · simp only [s_upd, Nat.reduceEqDiff, if_false, u58]
      · simp only [s_upd, Nat.reduceEqDiff, if_false, u59]
      · intro i b hi hb
        have hil : i ≠ l0 := (AH.ne_of (hsub _ _ hb) (hnf _ hl0)).1
        rw [AH.del_ne _ hil, AH.get, if_neg hi]; exact xK _ _ hi hb
      · rw [AH.del_ne _ hne2, AH.get, if_neg r_7]; exact xr
    · rintro ch H2 ⟨o, st', C2, rfl, he, hk2, hr2, hst2⟩
      exact herr o st' he t' r C2 H2 hr0 hk2 hr2 hst2
end Go.PV.Ytefpjfpelicedaa
end
section
/- The rounds of the search. -/
set_option linter.unusedVariables false
set_option linter.unusedSimpArgs false
set_option maxRecDepth 20000
set_option maxHeartbeats 4000000
namespace Go.PV
open Go Go.Proofs
theorem DCalls.mono {P : Program} {f : FuncId} {xs : List VV} {u : FrameMode} {H : AH} {K K' : VE → FrameMode → AH → Prop} (h : DCalls P f xs u H K) (hk : ∀ e u H, K e u H → K' e u H) : DCalls P f xs u H K' := fun S w args hs hx =>
  CallsDIn.mono (h S w args hs hx) fun e u' w' hq => by
    cases e with
    | returned v => obtain ⟨S', H', x, h1, h2, h3, h4⟩ := hq; exact ⟨S', H', x, h1, h2, h3, hk _ _ _ h4⟩
    | panicked ch => obtain ⟨S', H', h1, h2, h4⟩ := hq; exact ⟨S', H', h1, h2, hk _ _ _ h4⟩
    | outgrown => exact hq
theorem leaveR_t {P : Program} {K : VE → AH → Prop} {t t' : Nat → VV} : ∀ (ds : List Deferred) (u : FrameMode) (H : AH), leaveR P [] K t ds u H → leaveR P [] K t' ds u H
  | [], .returning, H, h => h
  | [], .panicking ch, H, h => h
  | [], .run, H, h => h
  | ⟨.collected r, a⟩ :: ds, u, H, h => by
    simp only [leaveR] at h ⊢
    exact ⟨h.1, h.2.1, leaveR_t ds _ _ h.2.2⟩
  | ⟨.fn (.func f) cap, args⟩ :: ds, u, H, h => by
    simp only [leaveR] at h ⊢
    obtain ⟨h1, h2, xs, H0, h3, h4⟩ := h
    refine ⟨h1, h2, xs, H0, h3, h4.mono fun e u' H' hq => ?_⟩
    cases e with
    | ret x => exact leaveR_t ds _ _ hq
    | pan ch => exact leaveR_t ds _ _ hq
  | ⟨.fn (.yield _) _, _⟩ :: _, u, H, h => by simp only [leaveR] at h
theorem panQ_M {P : Program} {K : VE → AH → Prop} : panQ (retPostM P [] K) := fun c A A' H e h => by
  show leaveR P [] K A'.t A'.d (.panicking c) H
  rw [e]
  exact leaveR_t _ _ _ h
end Go.PV
namespace Go.PV.Ytefpjfpelicedaa
open Go Go.Proofs
theorem RefS.shrinkB {B B' H : AH} {s mp : Nat} {rows : List Row} {n : Nat} {most : Int} {st : RS} (h : RefS B' H s mp rows n most st) (hs : SubH B B') : RefS B H s mp rows n most st := by
  obtain ⟨mv, lv, Hs, Hm, b1, b2, b3, hB, r⟩ := h
  exact ⟨mv, lv, Hs, Hm, hs.none b1, hs.none b2, b3, hs.trans hB, r⟩
theorem leave_marks {B : AH} {s mp : Nat} {rows : List Row} {n : Nat} {most : Int} {st : RS} {K : VE → AH → Prop} {t : Nat → VV} {u : FrameMode}
    (h : ∀ H', RefS B H' s mp rows n most st → match u with | .returning => ∀ x, K (.ret x) H' | .panicking ch => K (.pan ch) H' | .run => False) :
    ∀ (ms : List Nat) (Bx H : AH), RefS Bx H s mp rows n most st → ms.Nodup → (∀ r ∈ ms, Bx r = some (.obj (.deferred (some []))) ∧ B r = none) → SubH B Bx → leaveR Try.prog [] K t (ms.map markOf) u H
  | [], Bx, H, hst, _, _, hs => by
    have := h H (hst.shrinkB hs)
    cases u with
    | returning => exact ⟨_, H, _, rfl, .refl _ _, this _⟩
    | panicking ch => exact ⟨H, SubH.refl _, this⟩
    | run => exact this.elim
  | r :: ms, Bx, H, hst, hnd, hB, hs => by
    have hr := hB r (List.mem_cons_self ..)
    have hu : u ≠ .run := fun e => by subst e; exact (h H (hst.shrinkB hs)).elim
    show u ≠ .run ∧ H r = some (.obj (.deferred (some []))) ∧ leaveR Try.prog [] K t (ms.map markOf) u (H.del r)
    refine ⟨hu, hst.sub _ _ hr.1, leave_marks h ms _ _ (hst.delB hr.1) (List.nodup_cons.1 hnd).2 (fun x hx => ?_) (hs.del hr.2)⟩
    have hne : x ≠ r := fun e => (List.nodup_cons.1 hnd).1 (e ▸ hx)
    rw [AH.del_ne _ hne]
    exact hB x (List.mem_cons_of_mem _ hx)
def PostR (B : AH) (s mp : Nat) (rows : List Row) (n : Nat) (most : Int) (K : VE → AH → Prop) : Except (Out × RS) RS → Prop
  | .error (o, st) => ∀ H', RefS B H' s mp rows n most st → K (.pan (chOf o)) H'
  | .ok st => ∀ H' u, RefS B H' s mp rows n most st → K (.ret u) H'
theorem count_false {l : List Bool} (h : l.count true < l.length) : false ∈ l := by
  induction l with
  | nil => simp at h
  | cons a l ih =>
    cases a with
    | false => exact List.mem_cons_self ..
    | true => rw [List.count_cons_self, List.length_cons] at h; exact List.mem_cons_of_mem _ (ih (by omega))
theorem count_set {l : List Bool} {k : Nat} (h : k < l.length) (hf : l[k] = false) : (l.set k true).count true = l.count true + 1 := by
  induction l generalizing k with
  | nil => simp at h
  | cons a l ih =>
    cases k with
    | zero => simp at hf; subst hf; simp
    | succ k => simp at hf h; simp [List.count_cons, ih h hf]; omega
theorem bools_set (l : List Bool) (i : Nat) (x : Bool) : (encC boolE l).set i (boolV x) = encC boolE (l.set i x) := by
  induction l generalizing i with
  | nil => rfl
  | cons y l ih =>
    cases i with
    | zero => rfl
    | succ i => rw [List.set_cons_succ, encC_cons, encC_cons, ← ih]; rfl
theorem rounds40 {B H Bb B' : AH} {s mp : Nat} {rows : List Row} {n : Nat} {most : Int} {st : RS} {K : VE → AH → Prop} {t : Nat → VV} {r1 gd dc : Nat} {v : VV} {l : List Int}
    (h1 : t 1 = ptrV r1 0) (h2 : t 2 = v) (h5 : t 5 = .lit (.slice (some ⟨gd, 0, none⟩) n dc)) (h58 : t 58 = iV n) (h59 : t 59 = iV 0)
    (c1 : Bb r1 = some (.cells 71 [ptrV s 0] 0)) (cd : Bb gd = some (.cells 4 (encC boolE (List.replicate n false)) 0)) (hB : SubH B Bb) (hBd : B gd = none) (d1d : r1 ≠ gd)
    (ho : OwnX Bb B' 3 1 v l.length (encC intE l)) (hst : RefS B' H s mp rows n most st) (hok : OkS n most st) (hm : most ≤ 5000) (hrows : ∀ r ∈ rows, r.c.length ≤ n) (hn : (n : Int) ≤ 12) (hK : KOk st l) (hl : l.length ≤ st.ls.length)
    (hp : PostR B s mp rows n most K (roundsS rows n most n st l (List.replicate n false))) :
    ACx ⟨Try.prog, 147, none⟩ (.loop b40_4) (inBlockA 4 (retPostM Try.prog [] K)) ⟨t, []⟩ H := by
  obtain ⟨tot, htot⟩ : ∃ tot, tot = roundsS rows n most n st l (List.replicate n false) := ⟨_, rfl⟩
  rw [← htot] at hp
  refine acx_loop (fun _ _ _ h => h) (fun A H' => A.t 1 = ptrV r1 0 ∧ A.t 5 = .lit (.slice (some ⟨gd, 0, none⟩) n dc) ∧ A.t 58 = iV n ∧ ∃ (i : Nat) (ms : List Nat) (Bb B' : AH) (st : RS) (l : List Int) (v : VV) (done : List Bool), i ≤ n ∧ A.t 59 = iV i ∧ A.t 2 = v ∧ A.d = ms.map markOf ∧ ms.Nodup ∧
      (∀ r ∈ ms, Bb r = some (.obj (.deferred (some []))) ∧ B r = none) ∧ SubH B Bb ∧ Bb r1 = some (.cells 71 [ptrV s 0] 0) ∧ Bb gd = some (.cells 4 (encC boolE done) 0) ∧ OwnX Bb B' 3 1 v l.length (encC intE l) ∧ RefS B' H' s mp rows n most st ∧ OkS n most st ∧ KOk st l ∧ l.length ≤ st.ls.length ∧
      done.length = n ∧ done.count true = i ∧ tot = roundsS rows n most (n - i) st l done)
    (fun A _ => match A.t 59 with | .lit (.int _ i) => ((n : Int) - i).toNat | _ => 0) ?_ ?_
  · refine ⟨h1, h5, h58, 0, [], Bb, B', st, l, v, List.replicate n false, by omega, h59, h2, rfl, by simp, by simp, hB, c1, cd, ho, hst, hok, hK, hl, by simp, ?_, htot⟩
    rw [List.count_replicate]; rfl
  · clear h1 h2 h5 h58 h59 c1 cd hB ho hst hok hK hl htot
    rintro ⟨u, d⟩ H' ⟨h1, h5, h58, i, ms, Cb, C', st', l', v', done, hi, h59, h2, rfl, hnd, hms, hBC, c1, cd, ho, hst, hok, hK, hl, hdn, hct, htot⟩
    dsimp only at h1 h5 h58 h59 h2
    unfold b40_4
    by_cases hb : i < n
    · have hls := hok.le
      have hlen : (l'.length : Int) ≤ 1000000 := by omega
      have q1 := (ho.sub.trans hst.sub) _ _ c1
      have hcu := current59 hst hok hn ((SlI.of ho rfl).mono hst.sub) hK hlen
      (repeat' (first | (refine hcu.use (fun v2 H2 ho2 => ?_)) | (simp only [↓s_skip, ↓s_reg, ↓s_seq, ↓s_seqL, ↓s_cond, ↓s_condT, ↓s_block, ↓s_nil, ↓s_consN, ↓s_thenN, ↓s_kret, ↓s_putS, ↓s_dOkS, ↓s_ev_t, ↓s_ev_f, ↓s_upd, ↓s_move, ↓s_assign, ↓s_load, ↓s_bin, ↓s_callV, ↓s_callL, ↓s_bin_lss, ptrV, List.map_cons, List.map_nil, ite_true, ite_false, Nat.reduceEqDiff, Nat.reduceLT, true_and, Nat.succ_ne_self, decide_true, eq_self, List.drop, ldV_f, Int.ofNat_lt, n_ldP, n_ldA, n_ldB, ldT_71, en_59, *])))
      have q1' := ho2.sub _ _ q1
      obtain ⟨C2, hob, hst2⟩ := hst.under ho2
      have hl1 : (curS st' l').length ≤ l'.length := List.length_filter_le _ _
      have hin1 := cur_in hK
      have kd1 := (ho.sub.trans hob.sub) _ _ cd
      have kd2 := hst2.sub _ _ kd1
      obtain ⟨k, hkd, hek, hfk⟩ := eas_ok (st := st') (l := curS st' l') (count_false (l := done) (by omega))
      have hea := easiest60 (dc := dc) hst2 hok hn ((SlI.of hob rfl).mono hst2.sub) hin1 (by omega) kd2 hdn
      rw [hek] at hea
      have hk0 : (k : Int) < n := by omega
      have hkn : k < n := by omega
      have hbl := bools_len done
      have nd : ∀ r, H2 r = none → ¬ gd = r ∧ ¬ r = gd := fun r hr => AH.ne_of kd2 hr
      have nd1 : ∀ r, H2 r = none → ¬ gd = r := fun r hr => (AH.ne_of kd2 hr).1
      have nd2 : ∀ r, H2 r = none → ¬ r = gd := fun r hr => (AH.ne_of kd2 hr).2
      obtain ⟨la, lc, hlv2⟩ := hob.form
      subst hlv2
      (repeat' (first | (refine hea.use ?_) | (simp only [↓s_reg, ↓s_seq, ↓s_seqL, ↓s_block, ↓s_loop, ↓s_nil, ↓s_consN, ↓s_thenN, ↓s_kret, ↓s_putS, ↓s_putN, ↓s_dOkS, ↓s_dOkN, ↓s_ev_t, ↓s_ev_c, ↓s_ev_f, ↓s_upd, ↓s_move, ↓s_load, ↓s_store, ↓s_alloc, ↓s_indexAddr, ↓s_callB, ↓s_callV, ↓s_callL, ↓s_len, ptrV, intV, List.map_cons, List.map_nil, List.length_cons, List.length_nil, ite_true, ite_false, Nat.reduceEqDiff, Nat.reduceLT, ne_eq, not_false_eq_true, true_and, Nat.succ_ne_self, reduceCtorEq, Int.natCast_nonneg, Int.toNat_natCast, Nat.mul_one, AH.get, AH.set_set, setAt, List.all_cons, List.all_nil, Bool.and_self, eq_self, Nat.zero_add, List.drop, and_self, ldV_f, cl_int, on_int, cl_bool, on_bool, List.set_cons_zero, ↓n_alloc, n_allocS, Nat.le_refl, n_ldP, n_ixL, n_ixA2, n_lenL, n_ldA, n_ldB, n_stP, n_stA, Int.toNat_natCast, ldT_3, szT_3, szT_4, zeroT_3, zeroT_37, elT_37, elT_103, en_60, *]) | (refine allNew_intro fun zr zh => ?_; have zg := zh; (try simp only [AH.set_none] at zg)) | assumption | (with_reducible refine And.intro ?_ ?_)))
      rename_i r6 zh6 zg6
      revert zr
      intro r7 zh7 zg7
      have hset : (encC boolE done).set k (boolV true) = encC boolE (done.set k true) := bools_set _ _ _
      have y6 := nd _ zg6
      have e6d : (B' : AH) = B' := rfl
      have hst3 : RefS (((C2.set r6 (.cells 3 [iV k] 0)).set gd (.cells 4 (encC boolE (done.set k true)) 0)).set r7 (.cells 37 [.lit (.slice none 0 0)] 0)) (((H2.set r6 (.cells 3 [iV k] 0)).set gd (.cells 4 (encC boolE (done.set k true)) 0)).set r7 (.cells 37 [.lit (.slice none 0 0)] 0)) s mp rows n most st' := by
        refine ((hst2.allocB zg6 _).storeB (b0 := .cells 4 (encC boolE done) 0) (by rw [AH.get, if_neg y6.1]; exact kd1) _).allocB ?_ _
        rw [← hset]; exact zh7
      -- r7, r6 are apart from all that is there
      have z7 : H2 r7 = none := zg7.2.2
      have hb2 : ∀ {i b}, C2 i = some b → ¬ i = r6 ∧ ¬ i = r7 := fun h => ⟨(AH.ne_of (hst2.sub _ _ h) zg6).1, (AH.ne_of (hst2.sub _ _ h) z7).1⟩
      have n67 : ¬ r6 = r7 := zg7.2.1.2
      have n7d := zg7.1
      refine acx_gen (fun t' H' => t' 1 = ptrV r1 0 ∧ t' 2 = .lit (.slice la (curS st' l').length lc) ∧ t' 5 = .lit (.slice (some ⟨gd, 0, none⟩) n dc) ∧ t' 6 = ptrV r6 0 ∧ t' 7 = ptrV r7 0 ∧ t' 58 = iV n ∧ t' 59 = iV i ∧ t' 71 = .lit (.slice la (curS st' l').length lc) ∧ t' 72 = iV (curS st' l').length ∧ t' 73 = iV 0 ∧
        H' = (((H2.set r6 (.cells 3 [iV k] 0)).set gd (.cells 4 (encC boolE (done.set k true)) 0)).set r7 (.cells 37 [.lit (.slice none 0 0)] 0))) ?_ ?_
      · exact ⟨(by simp only [s_upd, Nat.reduceEqDiff, if_false, *] <;> rfl), (by simp only [s_upd, Nat.reduceEqDiff, if_true, if_false, *] <;> rfl), (by simp only [s_upd, Nat.reduceEqDiff, if_false, *] <;> rfl), (by simp only [s_upd, Nat.reduceEqDiff, if_true, if_false, *] <;> rfl), (by simp only [s_upd, Nat.reduceEqDiff, if_true, if_false, *] <;> rfl), (by simp only [s_upd, Nat.reduceEqDiff, if_false, *] <;> rfl), (by simp only [s_upd, Nat.reduceEqDiff, if_false, *] <;> rfl), (by simp only [s_upd, Nat.reduceEqDiff, if_true, if_false, *] <;> rfl), (by simp only [s_upd, Nat.reduceEqDiff, if_true, if_false, *] <;> rfl), (by simp only [s_upd, Nat.reduceEqDiff, if_true, if_false, *] <;> rfl), by rw [← hset]; rfl⟩
      · rintro t' H3 ⟨w1, w2, w5, w6, w7, w58, w59, w71, w72, w73, rfl⟩
        obtain ⟨E, hE⟩ : ∃ E, E = (((C2.set r6 (.cells 3 [iV k] 0)).set gd (.cells 4 (encC boolE (done.set k true)) 0)).set r7 (.cells 37 [.lit (.slice none 0 0)] 0)) := ⟨_, rfl⟩
        have E1 : ∀ {i b}, ¬ i = gd → C2 i = some b → E i = some b := fun h1 h2 => by
          rw [hE, AH.get, if_neg (hb2 h2).2, AH.get, if_neg h1, AH.get, if_neg (hb2 h2).1]; exact h2
        have E6 : E r6 = some (.cells 3 [iV k] 0) := by rw [hE, AH.get, if_neg n67, AH.get, if_neg y6.2, AH.set_same]
        have E7 : E r7 = some (.cells 37 [.lit (.slice none 0 0)] 0) := by rw [hE, AH.set_same]
        have Ed : E gd = some (.cells 4 (encC boolE (done.set k true)) 0) := by rw [hE, AH.get, if_neg n7d.2, AH.set_same]
        have q12 := (ho.sub.trans hob.sub) _ _ c1
        have E1' := E1 d1d q12
        rw [← hE] at hst3
        have hsl : SlI E (.lit (.slice la (curS st' l').length lc)) (curS st' l') ∧ ∀ g c, (VV.lit (.slice la (curS st' l').length lc)) = .lit (.slice (some ⟨g, 0, none⟩) (curS st' l').length c) → g ≠ r7 := by
          rcases hob with ⟨e1, e2, e3, e4⟩ | ⟨g, c, sp, e1, e2, e3, e4⟩
          · refine ⟨.inl ⟨e1, List.eq_nil_of_length_eq_zero e2⟩, fun g c e => ?_⟩
            rw [e1] at e; simp at e
          · have hg : C2 g = some (.cells 3 (encC intE (curS st' l')) sp) := by rw [e3, AH.set_same]
            have hgd : ¬ g = gd := fun e => by subst e; rw [ho.sub _ _ cd] at e2; cases e2
            refine ⟨.inr ⟨g, c, sp, e1, E1 hgd hg⟩, fun g' c' e => ?_⟩
            have : g' = g := by rw [e1] at e; simp at e; exact e.1.symm
            rw [this]; exact (hb2 hg).2
        refine zeros40 (C := E) (d := ms.map markOf) (k := k) (fun _ _ _ h => h) (fun c A A' H e h => panQ_M c A A' H e h) w1 w6 w7 w71 w72 w73 E1' E6 E7 hsl.1 hsl.2 (fun e => (hb2 q12).2 e) n67 hst3 hok hin1 hkn (by omega) ?_
        rintro t2 v3 C3 H4 ⟨k1, k2, k5, k6, k7, k58, k59⟩ ho3 hst4
        show ACx ⟨Try.prog, 147, none⟩ c40_2 _ ⟨t2, ms.map markOf⟩ H4
        have n17 : ¬ r1 = r7 := (hb2 q12).2
        have F : ∀ {i b}, ¬ i = r7 → E i = some b → (E.set r7 (.cells 37 [v3] 0)) i = some b := fun h1 h2 => by rw [AH.get, if_neg h1]; exact h2
        have hzl : (zerosS st' k (curS st' l')).length ≤ (curS st' l').length := List.length_filter_le _ _
        have hzk : KOk st' (zerosS st' k (curS st' l')) := fun a ha _ => (hin1 a (List.mem_filter.1 ha).1).2
        have hslF : SlI (E.set r7 (.cells 37 [v3] 0)) (.lit (.slice la (curS st' l').length lc)) (curS st' l') := by
          rcases hsl.1 with ⟨e1, e2⟩ | ⟨g, c, sp, e1, e2⟩
          · exact .inl ⟨e1, e2⟩
          · exact .inr ⟨g, c, sp, e1, F (hsl.2 g c e1) e2⟩
        have hmk : ∀ r' ∈ ms, (E.set r7 (.cells 37 [v3] 0)) r' = some (.obj (.deferred (some []))) ∧ ¬ r' = r7 := fun r' hr' => by
          have h1 := (ho.sub.trans hob.sub) _ _ (hms r' hr').1
          have h2 : ¬ r' = gd := fun e => by subst e; rw [(hms _ hr').1] at cd; cases cd
          exact ⟨F (hb2 h1).2 (E1 h2 h1), (hb2 h1).2⟩
        have hBF : ∀ i b, B i = some b → (E.set r7 (.cells 37 [v3] 0)) i = some b ∧ i ≠ r7 := fun i b hib => by
          have h1 := (hBC.trans (ho.sub.trans hob.sub)) _ _ hib
          have h2 : ¬ i = gd := fun e => by subst e; rw [hBd] at hib; cases hib
          exact ⟨F (hb2 h1).2 (E1 h2 h1), (hb2 h1).2⟩
        have hsH := ho3.sub.trans hst4.sub
        have hro : roundS rows n most st' l' done = match keepsS rows n most ((pairsL (rowsOf st') k (curS st' l') (curS st' l')).map (sumLine (rowsOf st') k)) st' (zerosS st' k (curS st' l')) with
            | .error e => .error e
            | .ok (s', next) => .ok (s', next, done.set k true) := by
          unfold roundS; rw [hek, Int.toNat_natCast]; rfl
        have htot2 : tot = match roundS rows n most st' l' done with
            | .error e => .error e
            | .ok (s', l', done') => roundsS rows n most (n - (i + 1)) s' l' done' := by
          rw [htot, show n - i = (n - (i + 1)) + 1 from by omega]; rfl
        rw [hro] at htot2
        have hfresh : ∀ r, H4 r = none → r ∉ ms ∧ B r = none := fun r hr => by
          refine ⟨fun hm' => ?_, ?_⟩
          · have := hsH _ _ (hmk r hm').1; rw [hr] at this; cases this
          · cases hbr : B r with
            | none => rfl
            | some b => have := hsH _ _ (hBF r b hbr).1; rw [hr] at this; cases this
        refine acx_go rfl (fun _ _ _ h => h) (pairs40 (Cb := E.set r7 (.cells 37 [v3] 0)) (zs := zerosS st' k (curS st' l')) (l := curS st' l') (k := k) (fun _ _ _ h => h) (fun c A A' H e h => panQ_M c A A' H e h)
          (k1.trans w1) (k2.trans w2) (k6.trans w6) (k7.trans w7) (F n17 E1') (F n67 E6) (AH.set_same _ _ _) hslF hsl.2 n17 n67 ho3 hst4 hok hm hrows hn hin1 hkn (by omega) hzk (by omega) ?_ ?_)
        · intro st5 next he t3 v5 r C5 C6 H5 j1 j2 j5 j58 j59 hr hkept hCr ho5 hst5 hok5 hg5 hK5 hl5
          show ACx ⟨Try.prog, 147, none⟩ c40_3 _ ⟨t3, markOf r :: ms.map markOf⟩ H5
          have a1 : t3 1 = ptrV r1 0 := j1.trans (k1.trans w1)
          have a5 := j5.trans (k5.trans w5)
          have a58 := j58.trans (k58.trans w58)
          have a59 := j59.trans (k59.trans w59)
          rw [he] at htot2
          unfold c40_3
          (repeat' (first | (simp only [↓s_reg, ↓s_nil, ↓s_consN, ↓s_thenN, ↓s_kret, ↓s_putS, ↓s_dOkS, ↓s_ev_t, ↓s_ev_c, ↓s_upd, ↓s_move, ↓s_bin, ↓s_bin_add, ptrV, ite_true, ite_false, Nat.reduceEqDiff, Nat.reduceLT, true_and, eq_self, *]) | (refine acx_go rfl (fun _ _ _ h => h) ?_) | (with_reducible refine And.intro ?_ ?_)))
          · rw [wrap_ok (n := (i : Int) + 1) (by omega) (by omega)]
            refine ⟨i + 1, r :: ms, C5, C6, st5, next, v5, done.set k true, by omega, rfl, ?_, rfl, ?_, ?_, ?_, ?_, ?_, ho5, hst5, hok5, hK5, hl5, by simpa using hdn, ?_, ?_⟩
            · rfl
            · exact List.nodup_cons.2 ⟨(hfresh r hr).1, hnd⟩
            · intro x hx
              rcases List.mem_cons.1 hx with rfl | hx
              · exact ⟨hCr, (hfresh _ hr).2⟩
              · exact ⟨hkept _ _ (hmk x hx).2 (hmk x hx).1, (hms x hx).2⟩
            · exact fun i b hib => hkept _ _ (hBF i b hib).2 (hBF i b hib).1
            · exact hkept _ _ n17 (F n17 E1')
            · exact hkept _ _ n7d.2 (F n7d.2 Ed)
            · rw [count_set hkd hfk, hct]
            · rw [← htot]; exact htot2
          · rw [wrap_ok (n := (i : Int) + 1) (by omega) (by omega)]; omega
        · intro o st5 he t3 r C5 H5 hr hkept hCr hst5
          rw [he] at htot2
          dsimp only at htot2
          rw [htot2] at hp
          show leaveR Try.prog [] K t3 ((r :: ms).map markOf) (.panicking (chOf o)) H5
          refine leave_marks (u := .panicking (chOf o)) (fun H' h' => hp H' h') (r :: ms) C5 _ hst5 (List.nodup_cons.2 ⟨(hfresh r hr).1, hnd⟩) ?_ ?_
          · intro x hx
            rcases List.mem_cons.1 hx with rfl | hx
            · exact ⟨hCr, (hfresh _ hr).2⟩
            · exact ⟨hkept _ _ (hmk x hx).2 (hmk x hx).1, (hms x hx).2⟩
          · exact fun i b hib => hkept _ _ (hBF i b hib).2 (hBF i b hib).1
    · have hin : n - i = 0 := by omega
      rw [hin] at htot
      rw [htot] at hp
      (repeat' (first | (simp only [↓s_reg, ↓s_seq, ↓s_cond, ↓s_condF, ↓s_exit, ↓s_nil, ↓s_consN, ↓s_thenN, ↓s_thenE, ↓s_inE, ↓s_kret, ↓s_putS, ↓s_dOkS, ↓s_ev_t, ↓s_upd, ↓s_bin, ↓s_bin_lss, ptrV, ite_true, Nat.reduceLT, true_and, decide_false, eq_self, Int.ofNat_lt, *])))
      exact leave_marks (u := .returning) (fun H' h' x => hp H' x h') ms _ _ hst hnd (fun r hr => ⟨ho.sub _ _ (hms r hr).1, (hms r hr).2⟩) (hBC.trans ho.sub)
end Go.PV.Ytefpjfpelicedaa
end
section
/- The search. -/
set_option linter.unusedVariables false
set_option linter.unusedSimpArgs false
set_option maxRecDepth 20000
set_option maxHeartbeats 4000000
namespace Go.PV.Ytefpjfpelicedaa
open Go Go.Proofs
theorem given40 {Bb B' H : AH} {s mp : Nat} {rows : List Row} {n : Nat} {most : Int} {st : RS} {t : Nat → VV} {d : List Deferred} {Q : APost} {r1 : Nat} {v : VV} {l : List Int} (hQ : noGoto Q) (hP : panQ Q)
    (h1 : t 1 = ptrV r1 0) (h2 : t 2 = v) (hc : t 20 = iV rows.length) (hi : t 21 = iV 0) (c1 : Bb r1 = some (.cells 71 [ptrV s 0] 0)) (ho : OwnX Bb B' 3 1 v l.length (encC intE l)) (hst : RefS B' H s mp rows n most st) (hok : OkS n most st) (hm : most ≤ 5000) (hrows : ∀ r ∈ rows, r.c.length ≤ n) (hn : (n : Int) ≤ 12) (hrl : (rows.length : Int) ≤ 1000000) (hK : KOk st l) (hl : l.length ≤ st.ls.length)
    (hok' : ∀ st' l', keepsS rows n most (givens rows) st l = .ok (st', l') → ∀ t' v' B2 H', t' 1 = ptrV r1 0 → t' 2 = v' → OwnX Bb B2 3 1 v' l'.length (encC intE l') → RefS B2 H' s mp rows n most st' → OkS n most st' → KOk st' l' → l'.length ≤ st'.ls.length → Q .normal ⟨t', d⟩ H')
    (herr : ∀ o st', keepsS rows n most (givens rows) st l = .error (o, st') → ∀ t' B2 H', SubH Bb B2 → RefS B2 H' s mp rows n most st' → Q (.panic (chOf o)) ⟨t', d⟩ H') :
    ACx ⟨Try.prog, 147, none⟩ (.loop b40_1) (inBlockA 0 Q) ⟨t, d⟩ H := by
  obtain ⟨tot, htot⟩ : ∃ tot, tot = keepsS rows n most (givens rows) st l := ⟨_, rfl⟩
  rw [← htot] at hok' herr
  have hlen : (givens rows).length = rows.length := by simp [givens]
  refine acx_loop (fun l A H h => hQ l A H h) (fun A H' => A.d = d ∧ A.t 1 = ptrV r1 0 ∧ A.t 20 = iV rows.length ∧ ∃ (i : Nat) (st' : RS) (l' : List Int) (v' : VV) (B2 : AH), i ≤ rows.length ∧ A.t 21 = iV i ∧ A.t 2 = v' ∧ OwnX Bb B2 3 1 v' l'.length (encC intE l') ∧ RefS B2 H' s mp rows n most st' ∧ OkS n most st' ∧ KOk st' l' ∧ l'.length ≤ st'.ls.length ∧
      tot = keepsS rows n most ((givens rows).drop i) st' l') (fun A _ => match A.t 21 with | .lit (.int _ i) => ((rows.length : Int) - i).toNat | _ => 0) ?_ ?_
  · exact ⟨rfl, h1, hc, 0, st, l, v, B', by omega, hi, h2, ho, hst, hok, hK, hl, htot⟩
  · clear h1 h2 hc hi ho hst hok hK hl htot
    rintro ⟨u, d'⟩ H' ⟨rfl, h1, hc, i, st', l', v', B2, hi, hci, h2, ho, hst, hok, hK, hl, htot⟩
    dsimp only at h1 hc hci h2
    have q1 := (ho.sub.trans hst.sub) _ _ c1
    unfold b40_1
    by_cases hb : i < rows.length
    · have hdr : (givens rows).drop i = ⟨1, (i : Nat), 0, 0, 0⟩ :: (givens rows).drop (i + 1) := by
        rw [List.drop_eq_getElem_cons (by rw [hlen]; exact hb)]; simp [givens]
      rw [hdr] at htot
      simp only [keepsS] at htot
      (repeat' (first | (refine keep58 (B := B2) (st := st') (l := ⟨1, (i : Nat), 0, 0, 0⟩) hst hok hm hrows hn ?_) | (simp only [↓s_skip, ↓s_reg, ↓s_seq, ↓s_cond, ↓s_condT, ↓s_block, ↓s_nil, ↓s_consN, ↓s_thenN, ↓s_kret, ↓s_putS, ↓s_dOkS, ↓s_ev_t, ↓s_ev_c, ↓s_ev_f, ↓s_upd, ↓s_move, ↓s_assign, ↓s_load, ↓s_bin, ↓s_build, ↓s_callV, ↓s_callL, ↓s_bin_lss, ptrV, List.map_cons, List.map_nil, List.length_cons, List.length_nil, ite_true, ite_false, Nat.reduceEqDiff, Nat.reduceLT, Nat.reduceAdd, Nat.reduceLeDiff, true_and, Nat.succ_ne_self, decide_true, vcBuild, fillV, setAt, eq_self, Nat.zero_add, List.drop, and_self, List.getElem?_cons_zero, List.getElem?_cons_succ, ldV_f, Int.ofNat_lt, cl_int, List.set_cons_zero, List.set_cons_succ, n_ldP, n_ldA, n_ldB, ldT_71, stT_52, en_58, *])))
      have hkk := keepS_ok (rows := rows) (l := ⟨1, (i : Nat), 0, 0, 0⟩) hok
      cases e : keepS rows n most st' ⟨1, (i : Nat), 0, 0, 0⟩ with
      | error p =>
        obtain ⟨o, st4⟩ := p
        rw [e] at htot
        cases o with
        | stop c => intro H4 h'; exact herr _ st4 htot _ B2 H4 ho.sub h'
        | found => intro H4 h'; exact herr _ st4 htot _ B2 H4 ho.sub h'
      | ok p =>
        obtain ⟨a4, st4⟩ := p
        rw [e] at htot hkk
        obtain ⟨hok4, hg4, hlt4, ha4⟩ := hkk
        intro H4 hst4
        have hle4 := hok4.le
        obtain ⟨H0, hr0, hoH⟩ := hst4.over ho
        clear hst q1
        (repeat' (first | (simp only [↓s_consN, ↓s_kret, ↓s_putS, ↓s_dOkS, ↓s_ev_t, ↓s_upd, ↓s_buildSlice, ↓s_callB, ↓s_append, List.map_cons, List.map_nil, List.length_cons, List.length_nil, List.append_nil, ite_true, ite_false, Nat.reduceEqDiff, Nat.reduceLT, Nat.reduceLeDiff, true_and, Nat.succ_ne_self, Nat.mul_one, fillV, setAt, eq_self, Nat.zero_add, and_self, cl_int, List.set_cons_zero, Nat.le_refl, vcBuildSlice, List.replicate_succ, List.replicate_zero, List.flatten_cons, List.flatten_nil, zeroT_3, elT_37, *])))
        refine append_own elT_37 zeroT_3 rfl (by omega) hoH rfl rfl (by omega) (by omega) (fun v2 H5 ho5 => ?_)
        obtain ⟨B5, ho6, hst5⟩ := hr0.under ho5
        (repeat' (first | (simp only [↓s_reg, ↓s_nil, ↓s_consN, ↓s_thenN, ↓s_inN, ↓s_kret, ↓s_putS, ↓s_dOkS, ↓s_ev_t, ↓s_ev_c, ↓s_upd, ↓s_move, ↓s_assign, ↓s_bin, ↓s_bin_add, ptrV, ite_true, ite_false, Nat.reduceEqDiff, Nat.reduceLT, true_and, Nat.succ_ne_self, eq_self, *]) | (with_reducible refine And.intro ?_ ?_)))
        · rw [wrap_ok (n := (i : Int) + 1) (by omega) (by omega)]
          exact ⟨i + 1, st4, l' ++ [a4], v2, B5, by omega, rfl, rfl, by rw [encC_snoc, List.length_append]; exact ho6, hst5, hok4, hK.snoc hg4 ha4, by simp; omega, by first | rfl | exact htot⟩
        · rw [wrap_ok (n := (i : Int) + 1) (by omega) (by omega)]; omega
    · rw [List.drop_eq_nil_of_le (by omega), keepsS] at htot
      (repeat' (first | (simp only [↓s_reg, ↓s_seq, ↓s_cond, ↓s_condF, ↓s_exit, ↓s_nil, ↓s_consN, ↓s_thenN, ↓s_thenE, ↓s_inE, ↓s_kret, ↓s_putS, ↓s_dOkS, ↓s_ev_t, ↓s_upd, ↓s_bin, ↓s_bin_lss, ptrV, ite_true, Nat.reduceLT, true_and, decide_false, eq_self, Int.ofNat_lt, *])))
      exact hok' st' l' htot _ v' B2 H' (by simp only [s_upd, Nat.reduceEqDiff, if_false, h1]) (by simp only [s_upd, Nat.reduceEqDiff, if_false, h2]) ho hst hok hK hl
theorem natural40 {Bb B' H : AH} {s mp : Nat} {rows : List Row} {n : Nat} {most : Int} {st : RS} {t : Nat → VV} {d : List Deferred} {Q : APost} {r1 : Nat} {v : VV} {l : List Int} (hQ : noGoto Q) (hP : panQ Q)
    (h1 : t 1 = ptrV r1 0) (h2 : t 2 = v) (hc : t 36 = iV n) (hi : t 37 = iV 0) (c1 : Bb r1 = some (.cells 71 [ptrV s 0] 0)) (ho : OwnX Bb B' 3 1 v l.length (encC intE l)) (hst : RefS B' H s mp rows n most st) (hok : OkS n most st) (hm : most ≤ 5000) (hrows : ∀ r ∈ rows, r.c.length ≤ n) (hn : (n : Int) ≤ 12) (hrl : (rows.length : Int) ≤ 1000000) (hK : KOk st l) (hl : l.length ≤ st.ls.length)
    (hok' : ∀ st' l', keepsS rows n most (naturals n) st l = .ok (st', l') → ∀ t' v' B2 H', t' 1 = ptrV r1 0 → t' 2 = v' → OwnX Bb B2 3 1 v' l'.length (encC intE l') → RefS B2 H' s mp rows n most st' → OkS n most st' → KOk st' l' → l'.length ≤ st'.ls.length → Q .normal ⟨t', d⟩ H')
    (herr : ∀ o st', keepsS rows n most (naturals n) st l = .error (o, st') → ∀ t' B2 H', SubH Bb B2 → RefS B2 H' s mp rows n most st' → Q (.panic (chOf o)) ⟨t', d⟩ H') :
    ACx ⟨Try.prog, 147, none⟩ (.loop b40_2) (inBlockA 2 Q) ⟨t, d⟩ H := by
  obtain ⟨tot, htot⟩ : ∃ tot, tot = keepsS rows n most (naturals n) st l := ⟨_, rfl⟩
  rw [← htot] at hok' herr
  have hlen : (naturals n).length = n := by simp [naturals]
  refine acx_loop (fun l A H h => hQ l A H h) (fun A H' => A.d = d ∧ A.t 1 = ptrV r1 0 ∧ A.t 36 = iV n ∧ ∃ (i : Nat) (st' : RS) (l' : List Int) (v' : VV) (B2 : AH), i ≤ n ∧ A.t 37 = iV i ∧ A.t 2 = v' ∧ OwnX Bb B2 3 1 v' l'.length (encC intE l') ∧ RefS B2 H' s mp rows n most st' ∧ OkS n most st' ∧ KOk st' l' ∧ l'.length ≤ st'.ls.length ∧
      tot = keepsS rows n most ((naturals n).drop i) st' l') (fun A _ => match A.t 37 with | .lit (.int _ i) => ((n : Int) - i).toNat | _ => 0) ?_ ?_
  · exact ⟨rfl, h1, hc, 0, st, l, v, B', by omega, hi, h2, ho, hst, hok, hK, hl, htot⟩
  · clear h1 h2 hc hi ho hst hok hK hl htot
    rintro ⟨u, d'⟩ H' ⟨rfl, h1, hc, i, st', l', v', B2, hi, hci, h2, ho, hst, hok, hK, hl, htot⟩
    dsimp only at h1 hc hci h2
    have q1 := (ho.sub.trans hst.sub) _ _ c1
    unfold b40_2
    by_cases hb : i < n
    · have hdr : (naturals n).drop i = ⟨2, (i : Nat), 0, 0, 0⟩ :: (naturals n).drop (i + 1) := by
        rw [List.drop_eq_getElem_cons (by rw [hlen]; exact hb)]; simp [naturals]
      rw [hdr] at htot
      simp only [keepsS] at htot
      (repeat' (first | (refine keep58 (B := B2) (st := st') (l := ⟨2, (i : Nat), 0, 0, 0⟩) hst hok hm hrows hn ?_) | (simp only [↓s_skip, ↓s_reg, ↓s_seq, ↓s_cond, ↓s_condT, ↓s_block, ↓s_nil, ↓s_consN, ↓s_thenN, ↓s_kret, ↓s_putS, ↓s_dOkS, ↓s_ev_t, ↓s_ev_c, ↓s_ev_f, ↓s_upd, ↓s_move, ↓s_assign, ↓s_load, ↓s_bin, ↓s_build, ↓s_callV, ↓s_callL, ↓s_bin_lss, ptrV, List.map_cons, List.map_nil, List.length_cons, List.length_nil, ite_true, ite_false, Nat.reduceEqDiff, Nat.reduceLT, Nat.reduceAdd, Nat.reduceLeDiff, true_and, Nat.succ_ne_self, decide_true, vcBuild, fillV, setAt, eq_self, Nat.zero_add, List.drop, and_self, List.getElem?_cons_zero, List.getElem?_cons_succ, ldV_f, Int.ofNat_lt, cl_int, List.set_cons_zero, List.set_cons_succ, n_ldP, n_ldA, n_ldB, ldT_71, stT_52, en_58, *])))
      have hkk := keepS_ok (rows := rows) (l := ⟨2, (i : Nat), 0, 0, 0⟩) hok
      cases e : keepS rows n most st' ⟨2, (i : Nat), 0, 0, 0⟩ with
      | error p =>
        obtain ⟨o, st4⟩ := p
        rw [e] at htot
        cases o with
        | stop c => intro H4 h'; exact herr _ st4 htot _ B2 H4 ho.sub h'
        | found => intro H4 h'; exact herr _ st4 htot _ B2 H4 ho.sub h'
      | ok p =>
        obtain ⟨a4, st4⟩ := p
        rw [e] at htot hkk
        obtain ⟨hok4, hg4, hlt4, ha4⟩ := hkk
        intro H4 hst4
        have hle4 := hok4.le
        obtain ⟨H0, hr0, hoH⟩ := hst4.over ho
        clear hst q1
        (repeat' (first | (simp only [↓s_consN, ↓s_kret, ↓s_putS, ↓s_dOkS, ↓s_ev_t, ↓s_upd, ↓s_buildSlice, ↓s_callB, ↓s_append, List.map_cons, List.map_nil, List.length_cons, List.length_nil, List.append_nil, ite_true, ite_false, Nat.reduceEqDiff, Nat.reduceLT, Nat.reduceLeDiff, true_and, Nat.succ_ne_self, Nat.mul_one, fillV, setAt, eq_self, Nat.zero_add, and_self, cl_int, List.set_cons_zero, Nat.le_refl, vcBuildSlice, List.replicate_succ, List.replicate_zero, List.flatten_cons, List.flatten_nil, zeroT_3, elT_37, *])))
        refine append_own elT_37 zeroT_3 rfl (by omega) hoH rfl rfl (by omega) (by omega) (fun v2 H5 ho5 => ?_)
        obtain ⟨B5, ho6, hst5⟩ := hr0.under ho5
        (repeat' (first | (simp only [↓s_reg, ↓s_nil, ↓s_consN, ↓s_thenN, ↓s_inN, ↓s_kret, ↓s_putS, ↓s_dOkS, ↓s_ev_t, ↓s_ev_c, ↓s_upd, ↓s_move, ↓s_assign, ↓s_bin, ↓s_bin_add, ptrV, ite_true, ite_false, Nat.reduceEqDiff, Nat.reduceLT, true_and, Nat.succ_ne_self, eq_self, *]) | (with_reducible refine And.intro ?_ ?_)))
        · rw [wrap_ok (n := (i : Int) + 1) (by omega) (by omega)]
          exact ⟨i + 1, st4, l' ++ [a4], v2, B5, by omega, rfl, rfl, by rw [encC_snoc, List.length_append]; exact ho6, hst5, hok4, hK.snoc hg4 ha4, by simp; omega, by first | rfl | exact htot⟩
        · rw [wrap_ok (n := (i : Int) + 1) (by omega) (by omega)]; omega
    · rw [List.drop_eq_nil_of_le (by omega), keepsS] at htot
      (repeat' (first | (simp only [↓s_reg, ↓s_seq, ↓s_cond, ↓s_condF, ↓s_exit, ↓s_nil, ↓s_consN, ↓s_thenN, ↓s_thenE, ↓s_inE, ↓s_kret, ↓s_putS, ↓s_dOkS, ↓s_ev_t, ↓s_upd, ↓s_bin, ↓s_bin_lss, ptrV, ite_true, Nat.reduceLT, true_and, decide_false, eq_self, Int.ofNat_lt, *])))
      exact hok' st' l' htot _ v' B2 H' (by simp only [s_upd, Nat.reduceEqDiff, if_false, h1]) (by simp only [s_upd, Nat.reduceEqDiff, if_false, h2]) ho hst hok hK hl
theorem zeros_bool (n : Nat) : (List.replicate n [Value.bool false]).flatten.map VV.lit = encC boolE (List.replicate n false) := by
  induction n with
  | zero => rfl
  | succ n ih => rw [List.replicate_succ, List.replicate_succ, encC_cons, List.flatten_cons, List.map_append, ih]; rfl
theorem search40 {B H : AH} {s mp : Nat} {rows : List Row} {n : Nat} {most : Int} {K : VE → AH → Prop} (hst : RefS B H s mp rows n most ⟨[], [], []⟩) (h0 : 0 ≤ most) (hm : most ≤ 5000) (hrows : ∀ r ∈ rows, r.c.length ≤ n) (hn : (n : Int) ≤ 12) (hrl : (rows.length : Int) ≤ 1000000)
    (hp : PostR B s mp rows n most K (searchS rows n most)) : VCalls Try.prog 40 [ptrV s 0] H K := by
  refine vcalls_introM fd40 (by simp) ?_
  unfold c40
  obtain ⟨ga, gc, la, lc, k1, km1, -, -⟩ := hst.view
  have nd1 : ∀ r, H r = none → ¬ s = r := fun r hr => (AH.ne_of k1 hr).1
  have nd2 : ∀ r, H r = none → ¬ r = s := fun r hr => (AH.ne_of k1 hr).2
  (repeat' (first | (simp only [↓s_reg, ↓s_seq, ↓s_seqL, ↓s_block, ↓s_loop, ↓s_nil, ↓s_consN, ↓s_thenN, ↓s_kret, ↓s_putS, ↓s_dOkS, ↓s_ev_t, ↓s_ev_c, ↓s_upd, ↓s_move, ↓s_assign, ↓s_load, ↓s_nilCheck, ↓s_box, ↓s_fieldAddr, ↓s_callB, ↓s_len, vcNil, ptrV, intV, List.map_cons, List.map_nil, List.length_nil, List.getD_cons_zero, List.getD_cons_succ, List.getD_nil, ite_true, ite_false, Nat.reduceEqDiff, Nat.reduceLT, ne_eq, not_false_eq_true, true_and, Nat.succ_ne_self, reduceCtorEq, undefV, AH.get, eq_self, Nat.add_zero, List.drop, ldV_f, cl_ptr, ↓n_box, n_ldP, n_faP, n_lenS, n_ldA, n_ldB, n_faA, undef, flT_77_0, flT_74_0, ldT_71, ldT_31, elT_31, *]) | (refine allNew_intro fun zr zh => ?_; have zg := zh; (try simp only [AH.set_none] at zg))))
  revert zr
  intro r1 zh1 zg1
  have hst1 := hst.allocB zg1 (.cells 71 [ptrV s 0] 0)
  have hB1 : B r1 = none := hst.sub.none zg1
  have hok0 : OkS n most ⟨[], [], []⟩ := ⟨by simp, rfl, by simpa using h0, by simp⟩
  have hsub1 : SubH B (B.set r1 (.cells 71 [ptrV s 0] 0)) := SubH.new hB1
  refine given40 (Bb := B.set r1 (.cells 71 [ptrV s 0] 0)) (l := []) (st := ⟨[], [], []⟩) (fun _ _ _ h => h) (fun c A A' H e h => panQ_M c A A' H e h) (by simp only [s_upd, Nat.reduceEqDiff, if_true, if_false, *] <;> rfl) (by simp only [s_upd, Nat.reduceEqDiff, if_true, if_false, *] <;> rfl) (by simp only [s_upd, Nat.reduceEqDiff, if_true, if_false, *] <;> rfl) (by simp only [s_upd, Nat.reduceEqDiff, if_true, if_false, *] <;> rfl) (AH.set_same _ _ _) (OwnX.nil _ 3 1) hst1 hok0 hm hrows hn hrl (by simp [KOk]) (by simp) ?_ ?_
  · intro st2 l2 he t2 v2 B2 H2 a1 a2 ho2 hst2 hok2 hK2 hl2
    show ACx ⟨Try.prog, 147, none⟩ c40_5 _ ⟨t2, []⟩ H2
    unfold searchS at hp
    rw [he] at hp
    dsimp only at hp
    have q1 := (ho2.sub.trans hst2.sub) _ _ (AH.set_same B r1 (.cells 71 [ptrV s 0] 0))
    obtain ⟨ga, gc, la, lc, k2, km2, -, -⟩ := hst2.view
    clear k1 km1
    unfold c40_5
    (repeat' (first | (simp only [↓s_reg, ↓s_seq, ↓s_seqL, ↓s_block, ↓s_loop, ↓s_nil, ↓s_consN, ↓s_thenN, ↓s_kret, ↓s_putS, ↓s_dOkS, ↓s_ev_t, ↓s_ev_c, ↓s_upd, ↓s_move, ↓s_load, ↓s_nilCheck, ↓s_fieldAddr, vcNil, ptrV, ite_true, ite_false, Nat.reduceEqDiff, Nat.reduceLT, ne_eq, not_false_eq_true, true_and, Nat.succ_ne_self, reduceCtorEq, eq_self, Nat.zero_add, Nat.add_zero, List.drop, ldV_f, n_ldP, n_faP, n_ldA, n_ldB, n_faA, flT_77_0, flT_74_1, ldT_71, ldT_3, *]) | (refine acx_go rfl (fun _ _ _ h => h) ?_)))
    refine natural40 (Bb := B.set r1 (.cells 71 [ptrV s 0] 0)) (l := l2) (st := st2) (v := v2) (fun _ _ _ h => h) (fun c A A' H e h => panQ_M c A A' H e h) (by simp only [s_upd, Nat.reduceEqDiff, if_false, *] <;> rfl) (by simp only [s_upd, Nat.reduceEqDiff, if_false, *] <;> rfl) (by simp only [s_upd, Nat.reduceEqDiff, if_true, if_false, *] <;> rfl) (by simp only [s_upd, Nat.reduceEqDiff, if_true, if_false, *] <;> rfl) (AH.set_same _ _ _) ho2 hst2 hok2 hm hrows hn hrl hK2 hl2 ?_ ?_
    · intro st3 l3 he3 t3 v3 B3 H3 b1 b2 ho3 hst3 hok3 hK3 hl3
      show ACx ⟨Try.prog, 147, none⟩ c40_4 _ ⟨t3, []⟩ H3
      rw [he3] at hp
      dsimp only at hp
      have q1' := (ho3.sub.trans hst3.sub) _ _ (AH.set_same B r1 (.cells 71 [ptrV s 0] 0))
      obtain ⟨ga, gc, la, lc, k3, km3, -, -⟩ := hst3.view
      clear k2 km2 q1
      have nd1 : ∀ r, H3 r = none → ¬ s = r := fun r hr => (AH.ne_of k3 hr).1
      have nd2 : ∀ r, H3 r = none → ¬ r = s := fun r hr => (AH.ne_of k3 hr).2
      have ne1 : ∀ r, H3 r = none → ¬ r1 = r := fun r hr => (AH.ne_of q1' hr).1
      have ne2 : ∀ r, H3 r = none → ¬ r = r1 := fun r hr => (AH.ne_of q1' hr).2
      have m1 : (0 : Int) ≤ n := by omega
      have m2 : ((1 : Nat) : Int) * n ≤ 281474976710656 := by omega
      have m3 : (n : Int) ≤ 9223372036854775807 := by omega
      have m2' : (n : Int) ≤ 281474976710656 := by omega
      unfold c40_4
      (repeat' (first | (simp only [↓s_reg, ↓s_seq, ↓s_block, ↓s_loop, ↓s_nil, ↓s_consN, ↓s_thenN, ↓s_kret, ↓s_putS, ↓s_dOkS, ↓s_ev_t, ↓s_ev_c, ↓s_upd, ↓s_move, ↓s_assign, ↓s_load, ↓s_nilCheck, ↓s_makeSlice, ↓s_fieldAddr, vcNil, ptrV, List.length_cons, List.length_nil, ite_true, ite_false, Nat.reduceEqDiff, Nat.reduceLT, ne_eq, not_false_eq_true, true_and, Nat.succ_ne_self, reduceCtorEq, Int.toNat_natCast, AH.get, eq_self, Nat.zero_add, Nat.add_zero, List.drop, ldV_f, Int.ofNat_le, ↓n_make, n_makeS, n_makeT, Nat.le_refl, n_ldP, n_faP, n_ldA, n_ldB, n_faA, zeros_bool, flT_77_0, flT_74_1, ldT_71, ldT_3, elT_103, zeroT_4, *]) | (refine acx_go rfl (fun _ _ _ h => h) ?_) | (refine allNew_intro fun zr zh => ?_; have zg := zh; (try simp only [AH.set_none] at zg))))
      revert zr
      intro gd zh2 zg2
      have hB3 := hst3.sub.none zg2
      have hBb := ho3.sub.none hB3
      have n1d : r1 ≠ gd := ne1 _ zg2
      refine rounds40 (B := B) (Bb := (B.set r1 (.cells 71 [ptrV s 0] 0)).set gd (.cells 4 (encC boolE (List.replicate n false)) 0)) (r1 := r1) (gd := gd) (dc := n) (v := v3) (l := l3) (st := st3) (by simp only [s_upd, Nat.reduceEqDiff, if_false, *] <;> rfl) (by simp only [s_upd, Nat.reduceEqDiff, if_false, *] <;> rfl) (by simp only [s_upd, Nat.reduceEqDiff, if_true, if_false, *] <;> rfl) (by simp only [s_upd, Nat.reduceEqDiff, if_true, if_false, *] <;> rfl) (by simp only [s_upd, Nat.reduceEqDiff, if_true, if_false, *] <;> rfl) (by rw [AH.get, if_neg n1d, AH.set_same]) (AH.set_same _ _ _) (SubH.of_set hsub1 (hsub1.none hBb)) (hsub1.none hBb) n1d (ho3.alloc hB3 _) (hst3.allocB zg2 _) hok3 hm hrows hn hK3 hl3 hp
    · intro o st3 he3 t3 B3 H3 hs3 hst3
      rw [he3] at hp
      exact ⟨H3, SubH.refl _, hp _ (hst3.shrinkB (hsub1.trans hs3))⟩
  · intro o st2 he t2 B2 H2 hs2 hst2
    unfold searchS at hp
    rw [he] at hp
    exact ⟨H2, SubH.refl _, hp _ (hst2.shrinkB (hsub1.trans hs2))⟩
end Go.PV.Ytefpjfpelicedaa
end
section
/- The lines that the last one needs. -/
set_option linter.unusedVariables false
set_option linter.unusedSimpArgs false
set_option maxRecDepth 20000
set_option maxHeartbeats 4000000
namespace Go.PV.Ytefpjfpelicedaa
open Go Go.Proofs
def lineAt (ls : List Line) (i : Nat) : Line := ls.getD i ⟨0, 0, 0, 0, 0⟩
def needStep (ls : List Line) (need : List Bool) (i : Nat) : List Bool :=
  if need.getD i false = true ∧ 3 ≤ (lineAt ls i).k then
    (need.set (lineAt ls i).a.toNat true).set (lineAt ls i).b.toNat ((need.set (lineAt ls i).a.toNat true).getD (lineAt ls i).b.toNat false || decide ((lineAt ls i).k = 3))
  else need
def needF (ls : List Line) : Nat → List Bool → List Bool
  | 0, need => need
  | i + 1, need => needF ls i (needStep ls need i)
def need0 (ls : List Line) : List Bool := needF ls ls.length ((List.replicate ls.length false).set (ls.length - 1) true)
def renum (w : List Int) (x : Line) : Line := ⟨x.k, if 3 ≤ x.k then w.getD x.a.toNat 0 else x.a, if x.k = 3 then w.getD x.b.toNat 0 else x.b, x.m, x.n⟩
def outGo (ls : List Line) (need : List Bool) : Nat → Nat → List Int → List Line → List Line
  | 0, _, _, out => out
  | r + 1, i, w, out => if need.getD i false = true then outGo ls need r (i + 1) (w.set i out.length) (out ++ [renum (w.set i out.length) (lineAt ls i)]) else outGo ls need r (i + 1) w out
def neededF (ls : List Line) : List Line := outGo ls (need0 ls) ls.length 0 (List.replicate ls.length 0) []
def LinesOk (ls : List Line) : Prop := ∀ i, i < ls.length → 3 ≤ (lineAt ls i).k → (0 ≤ (lineAt ls i).a ∧ (lineAt ls i).a < (ls.length : Int)) ∧ (0 ≤ (lineAt ls i).b ∧ (lineAt ls i).b < (ls.length : Int))
theorem lineAt_get {ls : List Line} {i : Nat} (h : i < ls.length) : lineAt ls i = ls[i] := by simp [lineAt, List.getD_eq_getElem?_getD, h]
theorem boolset' (l : List Bool) (i : Nat) (x : Bool) : (encC boolE l).set i (VV.lit (Value.bool x)) = encC boolE (l.set i x) := bools_set l i x
theorem needed39 {H : AH} {g c sp : Nat} {e : TypeId} {ls : List Line} (hg : H g = some (.cells e (encC lineE ls) sp)) (h0 : 0 < ls.length) (hlen : ls.length ≤ 5000) (hok : LinesOk ls) :
    OwnF Try.prog 39 [.lit (.slice (some ⟨g, 0, none⟩) ls.length c)] H 52 5 (neededF ls).length (encC lineE (neededF ls)) := by
  unfold OwnF
  refine vcalls_intro fd39 (by simp) ?_
  unfold c39
  have m1 : (0 : Int) ≤ ls.length := by omega
  have m2 : (ls.length : Int) ≤ 281474976710656 := by omega
  have m2a : ((1 : Nat) : Int) * ls.length ≤ 281474976710656 := by omega
  have m2b : ((8 : Nat) : Int) * ls.length ≤ 281474976710656 := by omega
  have m3 : (ls.length : Int) ≤ 9223372036854775807 := by omega
  have w1 : IntKind.i64.wrap ((ls.length : Int) - 1) = (ls.length : Int) - 1 := wrap_ok (by omega) (by omega)
  have w2 : (0 : Int) ≤ (ls.length : Int) - 1 := by omega
  have w3 : (ls.length : Int) - 1 < ls.length := by omega
  have w4 : ((ls.length : Int) - 1).toNat = ls.length - 1 := by omega
  have w5 : ls.length - 1 + 1 ≤ ls.length := by omega
  have n1 : ∀ r, H r = none → ¬ g = r := fun r hr => (AH.ne_of hg hr).1
  have n2 : ∀ r, H r = none → ¬ r = g := fun r hr => (AH.ne_of hg hr).2
  (repeat' (first | (simp only [↓s_reg, ↓s_seq, ↓s_seqL, ↓s_block, ↓s_loop, ↓s_nil, ↓s_consN, ↓s_thenN, ↓s_kret, ↓s_putS, ↓s_putN, ↓s_dOkS, ↓s_dOkN, ↓s_ev_t, ↓s_ev_c, ↓s_upd, ↓s_move, ↓s_assign, ↓s_store, ↓s_bin, ↓s_makeSlice, ↓s_indexAddr, ↓s_callB, ↓s_len, ↓s_bin_sub, intV, List.map_cons, List.map_nil, List.length_cons, List.length_nil, List.getD_cons_zero, List.getD_cons_succ, List.getD_nil, ite_true, ite_false, Nat.reduceEqDiff, Nat.reduceLT, ne_eq, not_false_eq_true, true_and, Nat.succ_ne_self, reduceCtorEq, Int.toNat_natCast, Nat.mul_one, undefV, AH.get, AH.set_set, setAt, List.all_cons, List.all_nil, Bool.and_self, eq_self, Nat.zero_add, and_self, Int.ofNat_le, cl_bool, on_bool, ↓n_make, n_makeS, n_makeT, Nat.le_refl, n_ixL, n_ixA2, n_lenL, n_stP, n_stA, undef, zeros_bool, boolset', bools_len, List.length_replicate, szT_4, elT_28, elT_103, zeroT_4, *]) | (refine allNew_intro fun zr zh => ?_; have zg := zh; (try simp only [AH.set_none] at zg))))
  revert zr
  intro gd zh1 zg1
  refine acx_loop (fun _ _ _ h => h) (fun A H' => A.d = [] ∧ A.t 0 = .lit (.slice (some ⟨g, 0, none⟩) ls.length c) ∧ A.t 3 = .lit (.slice (some ⟨gd, 0, none⟩) ls.length ls.length) ∧ ∃ (i : Nat) (need : List Bool), i ≤ ls.length ∧ A.t 4 = iV ((i : Int) - 1) ∧ need.length = ls.length ∧ SubH H H' ∧ H' gd = some (.cells 4 (encC boolE need) 0) ∧ need0 ls = needF ls i need)
    (fun A _ => match A.t 4 with | .lit (.int _ i) => (i + 1).toNat | _ => 0) ?_ ?_
  · refine ⟨rfl, rfl, rfl, ls.length, (List.replicate ls.length false).set (ls.length - 1) true, Nat.le_refl _, rfl, by simp, SubH.of_set (SubH.refl _) zg1, AH.set_same _ _ _, rfl⟩
  · rintro ⟨t, d⟩ H' ⟨rfl, h0', h3, i, need, hi, h4, hnl, hs, kd, hgo⟩
    dsimp only at h0' h3 h4
    have kg := hs _ _ hg
    have nd1 : ∀ r, H' r = none → ¬ gd = r := fun r hr => (AH.ne_of kd hr).1
    have nd2 : ∀ r, H' r = none → ¬ r = gd := fun r hr => (AH.ne_of kd hr).2
    have ng1 : ∀ r, H' r = none → ¬ g = r := fun r hr => (AH.ne_of kg hr).1
    have ng2 : ∀ r, H' r = none → ¬ r = g := fun r hr => (AH.ne_of kg hr).2
    unfold b39_1
    rcases i with _ | i
    · replace h4 : t 4 = iV (-1) := by rw [h4]; rfl
      (repeat' (first | (simp only [↓s_reg, ↓s_seq, ↓s_cond, ↓s_condF, ↓s_exit, ↓s_nil, ↓s_consN, ↓s_thenN, ↓s_thenE, ↓s_inE, ↓s_kret, ↓s_putS, ↓s_dOkS, ↓s_ev_t, ↓s_ev_c, ↓s_upd, ↓s_move, ↓s_bin, ↓s_bin_geq, ite_true, ite_false, Nat.reduceLT, true_and, Nat.succ_ne_self, decide_false, eq_self, Int.reduceLE, Int.reduceNeg, *]) | (refine acx_go rfl (fun _ _ _ h => h) ?_)))
      have hn0 : need0 ls = need := hgo
      unfold c39_2
      (repeat' (first | (simp only [↓s_reg, ↓s_seq, ↓s_seqL, ↓s_block, ↓s_loop, ↓s_nil, ↓s_consN, ↓s_thenN, ↓s_kret, ↓s_putS, ↓s_dOkS, ↓s_ev_t, ↓s_ev_c, ↓s_upd, ↓s_move, ↓s_assign, ↓s_makeSlice, ↓s_callB, ↓s_len, intV, List.map_cons, List.map_nil, List.length_cons, List.length_nil, ite_true, ite_false, Nat.reduceEqDiff, Nat.reduceLT, ne_eq, not_false_eq_true, true_and, Nat.succ_ne_self, reduceCtorEq, Int.toNat_natCast, eq_self, Nat.zero_add, Int.ofNat_le, ↓n_make, n_makeS, n_makeT, Nat.le_refl, n_lenL, Int.reduceNeg, zeros_int, elT_28, elT_37, zeroT_3, *]) | (refine allNew_intro fun zr zh => ?_; have zg := zh; (try simp only [AH.set_none] at zg))))
      revert zr
      intro gw zh2 zg2
      have hz0 : neededF ls = outGo ls need ls.length 0 (List.replicate ls.length 0) [] := by unfold neededF; rw [hn0]
      refine acx_loop (fun _ _ _ h => h) (fun A H' => A.d = [] ∧ A.t 59 = .lit (.slice (some ⟨g, 0, none⟩) ls.length c) ∧ A.t 60 = iV ls.length ∧ A.t 3 = .lit (.slice (some ⟨gd, 0, none⟩) ls.length ls.length) ∧ A.t 7 = .lit (.slice (some ⟨gw, 0, none⟩) ls.length ls.length) ∧
          ∃ (i : Nat) (w : List Int) (out : List Line) (v : VV) (Hb : AH), i ≤ ls.length ∧ A.t 61 = iV i ∧ A.t 6 = v ∧ w.length = ls.length ∧ out.length ≤ i ∧ SubH H Hb ∧ Hb g = some (.cells e (encC lineE ls) sp) ∧ Hb gd = some (.cells 4 (encC boolE need) 0) ∧ Hb gw = some (.cells 3 (encC intE w) 0) ∧ OwnX Hb H' 52 5 v out.length (encC lineE out) ∧ neededF ls = outGo ls need (ls.length - i) i w out)
        (fun A _ => match A.t 61 with | .lit (.int _ i) => ((ls.length : Int) - i).toNat | _ => 0) ?_ ?_
      · refine ⟨rfl, ?_, rfl, ?_, rfl, 0, List.replicate ls.length 0, [], .lit (.slice none 0 0), _, by omega, rfl, rfl, by simp, by simp, hs.of_set (hs.none zg2), ?_, ?_, AH.set_same _ _ _, OwnX.nil _ 52 5, hz0⟩
        · exact (by simp only [s_upd, Nat.reduceEqDiff, if_true, if_false, *] <;> rfl)
        · exact (by simp only [s_upd, Nat.reduceEqDiff, if_false, *] <;> rfl)
        · rw [AH.get, if_neg (ng1 _ zg2)]; exact kg
        · rw [AH.get, if_neg (nd1 _ zg2)]; exact kd
      · clear h0' h3 h4 hz0
        rintro ⟨t, d⟩ H2 ⟨rfl, h59, h60, h3, h7, i, w, out, v, Hb, hi, h61, h6, hw, hol, hsb, bg, bd, bw, ho, hgo2⟩
        dsimp only at h59 h60 h3 h7 h61 h6
        have kg := ho.sub _ _ bg
        have kd := ho.sub _ _ bd
        have kw := ho.sub _ _ bw
        have e1 : ∀ r, H2 r = none → ¬ g = r := fun r hr => (AH.ne_of kg hr).1
        have e1' : ∀ r, H2 r = none → ¬ r = g := fun r hr => (AH.ne_of kg hr).2
        have e2 : ∀ r, H2 r = none → ¬ gd = r := fun r hr => (AH.ne_of kd hr).1
        have e2' : ∀ r, H2 r = none → ¬ r = gd := fun r hr => (AH.ne_of kd hr).2
        have e3 : ∀ r, H2 r = none → ¬ gw = r := fun r hr => (AH.ne_of kw hr).1
        have e3' : ∀ r, H2 r = none → ¬ r = gw := fun r hr => (AH.ne_of kw hr).2
        unfold b39_2
        by_cases hb : i < ls.length
        · have hx := lineAt_get hb
          have hin : i < need.length := by omega
          have hiw : i < w.length := by omega
          have hnd : need.getD i false = need[i] := by simp [List.getD_eq_getElem?_getD, hin]
          have hst2 : outGo ls need (ls.length - i) i w out = if need[i] = true then outGo ls need (ls.length - (i + 1)) (i + 1) (w.set i out.length) (out ++ [renum (w.set i out.length) ls[i]]) else outGo ls need (ls.length - (i + 1)) (i + 1) w out := by
            rw [show ls.length - i = (ls.length - (i + 1)) + 1 from by omega, outGo, hnd, hx]
          rw [hst2] at hgo2
          clear hst2
          obtain ⟨la, lc, rfl⟩ := ho.form
          by_cases c1 : need[i] = true
          · rw [if_pos c1] at hgo2
            have hiw1 : i + 1 ≤ ls.length := by omega
            have hiw2 : i < ls.length := hb
            obtain ⟨w', hw'⟩ : ∃ w', w' = w.set i (out.length : Int) := ⟨_, rfl⟩
            have hwl : w'.length = ls.length := by rw [hw']; simpa using hw
            rw [← hw'] at hgo2
            have hset : (encC intE w).set i (VV.lit (Value.int .i64 (out.length : Int))) = encC intE w' := by rw [hw']; exact ints_set _ _ _
            have hlw := ints_len w
            rw [hw] at hlw
            clear hw'
            have f1 := ng1 _ zg2
            have f2 := nd1 _ zg2
            have hz2 : H gw = none := hs.none zg2
            by_cases c2 : 3 ≤ ls[i].k
            · obtain ⟨⟨a0, a1⟩, b0, b1⟩ := hok i hb (by rw [hx]; exact c2)
              rw [hx] at a0 a1 b0 b1
              have ha2 : ls[i].a.toNat < ls.length := by omega
              have hb2 : ls[i].b.toNat < ls.length := by omega
              by_cases c3 : ls[i].k = 3
              · (repeat' (first | (simp only [↓s_skip, ↓s_reg, ↓s_seq, ↓s_cond, ↓s_condT, ↓s_condF, ↓s_block, ↓s_nil, ↓s_consN, ↓s_thenN, ↓s_kret, ↓s_putS, ↓s_putN, ↓s_dOkS, ↓s_dOkN, ↓s_ev_t, ↓s_ev_c, ↓s_upd, ↓s_move, ↓s_assign, ↓s_load, ↓s_store, ↓s_bin, ↓s_un, ↓s_alloc, ↓s_buildSlice, ↓s_fieldAddr, ↓s_indexAddr, ↓s_callB, ↓s_len, ↓s_append, ↓s_un_not, ↓s_bin_lss, ↓s_bin_geq, ↓s_bin_eql, ptrV, intV, boolV, List.map_cons, List.map_nil, List.length_cons, List.length_nil, List.append_nil, ite_true, ite_false, Nat.reduceEqDiff, Nat.reduceLT, Nat.reduceAdd, Nat.reduceMul, Nat.reduceLeDiff, ne_eq, not_false_eq_true, true_and, Nat.succ_ne_self, decide_true, Bool.not_true, reduceCtorEq, Int.natCast_nonneg, Int.toNat_natCast, Nat.mul_one, AH.get, AH.set_set, fillV, setAt, List.all_cons, List.all_nil, Bool.and_self, eq_self, Nat.zero_add, Nat.add_zero, List.drop, and_self, ldV_f, ldV_t5, Int.ofNat_lt, cl_int, on_int, cl_agg, List.set_cons_zero, List.set_cons_succ, ↓n_alloc, n_allocS, Nat.le_refl, n_ldP, n_faP, n_ixL, n_ixA2, n_lenL, n_ldA, n_ldB, n_faA, n_stP, n_stA, Int.reduceLE, vcBuildSlice, List.replicate_succ, List.replicate_zero, List.flatten_cons, List.flatten_nil, lines_drop, bools_drop, ints_drop, flT_52_0, flT_52_1, flT_52_2, ldT_52, ldT_4, ldT_3, szT_52, szT_3, zeroT_52, elT_28, elT_103, elT_37, *]) | (refine allNew_intro fun zr zh => ?_; have zg := zh; (try simp only [AH.set_none] at zg))))
                · have hre : renum w' ls[i] = ⟨3, w'[ls[i].a.toNat], w'[ls[i].b.toNat], ls[i].m, ls[i].n⟩ := by simp [renum, c3, List.getD_eq_getElem?_getD, hwl, ha2, hb2]
                  have hz1 : H zr = none := (hsb.trans ho.sub).none zg
                  refine append_own elT_28 zeroT_52 rfl (by omega) (((ho.alloc zg _).put (r := gw) (b0 := .cells 3 (encC intE w) 0) (by rw [AH.get, if_neg (e3 _ zg)]; exact bw) _).put (r := zr) (b0 := (.cells 52 [iV 3, iV ls[i].a, iV ls[i].b, iV ls[i].m, iV ls[i].n] 0)) (by rw [AH.get, if_neg (e3' _ zg), AH.set_same]) _) rfl rfl (by omega) (by omega) (fun v2 H5 ho5 => ?_)
                  obtain ⟨Xb, hXo, x1, x2, x3, x4⟩ : ∃ Xb, OwnX Xb H5 52 5 v2 (out.length + 1) (encC lineE out ++ lineE (renum w' ls[i])) ∧ SubH H Xb ∧ Xb g = some (.cells e (encC lineE ls) sp) ∧ Xb gd = some (.cells 4 (encC boolE need) 0) ∧ Xb gw = some (.cells 3 (encC intE w') 0) :=
                    ⟨_, by rw [hre]; exact ho5, SubH.of_set (SubH.of_set (SubH.of_set hsb hz1) hz2) hz1, (by simp only [AH.get, *, if_false] <;> rfl), (by simp only [AH.get, *, if_false] <;> rfl), (by simp only [AH.get, *, if_true, if_false] <;> rfl)⟩
                  clear ho5
                  (repeat' (first | (simp only [↓s_reg, ↓s_nil, ↓s_consN, ↓s_thenN, ↓s_inN, ↓s_kret, ↓s_putS, ↓s_dOkS, ↓s_ev_t, ↓s_ev_c, ↓s_upd, ↓s_move, ↓s_assign, ↓s_bin, ↓s_bin_add, ite_true, ite_false, Nat.reduceEqDiff, Nat.reduceLT, true_and, Nat.succ_ne_self, eq_self, *]) | (with_reducible refine And.intro ?_ ?_)))
                  · rw [wrap_ok (n := (i : Int) + 1) (by omega) (by omega)]
                    exact ⟨i + 1, w', out ++ [renum w' ls[i]], v2, Xb, by omega, rfl, rfl, hwl, by simp; omega, x1, x2, x3, x4, by rw [encC_snoc, List.length_append]; exact hXo, by first | rfl | rw [hre] | exact hgo2⟩
                  · rw [wrap_ok (n := (i : Int) + 1) (by omega) (by omega)]; omega
              · (repeat' (first | (simp only [↓s_skip, ↓s_reg, ↓s_seq, ↓s_cond, ↓s_condT, ↓s_condF, ↓s_block, ↓s_nil, ↓s_consN, ↓s_thenN, ↓s_kret, ↓s_putS, ↓s_putN, ↓s_dOkS, ↓s_dOkN, ↓s_ev_t, ↓s_ev_c, ↓s_upd, ↓s_move, ↓s_assign, ↓s_load, ↓s_store, ↓s_bin, ↓s_un, ↓s_alloc, ↓s_buildSlice, ↓s_fieldAddr, ↓s_indexAddr, ↓s_callB, ↓s_len, ↓s_append, ↓s_un_not, ↓s_bin_lss, ↓s_bin_geq, ↓s_bin_eql, ptrV, intV, boolV, List.map_cons, List.map_nil, List.length_cons, List.length_nil, List.append_nil, ite_true, ite_false, Nat.reduceEqDiff, Nat.reduceLT, Nat.reduceAdd, Nat.reduceMul, Nat.reduceLeDiff, ne_eq, not_false_eq_true, true_and, Nat.succ_ne_self, decide_true, decide_false, Bool.not_true, reduceCtorEq, Int.natCast_nonneg, Int.toNat_natCast, Nat.mul_one, AH.get, AH.set_set, fillV, setAt, List.all_cons, List.all_nil, Bool.and_self, eq_self, Nat.zero_add, Nat.add_zero, List.drop, and_self, ldV_f, ldV_t5, Int.ofNat_lt, cl_int, on_int, cl_agg, List.set_cons_zero, List.set_cons_succ, ↓n_alloc, n_allocS, Nat.le_refl, n_ldP, n_faP, n_ixL, n_ixA2, n_lenL, n_ldA, n_ldB, n_faA, n_stP, n_stA, vcBuildSlice, List.replicate_succ, List.replicate_zero, List.flatten_cons, List.flatten_nil, lines_drop, bools_drop, ints_drop, flT_52_0, flT_52_1, ldT_52, ldT_4, ldT_3, szT_52, szT_3, zeroT_52, elT_28, elT_103, elT_37, *]) | (refine allNew_intro fun zr zh => ?_; have zg := zh; (try simp only [AH.set_none] at zg))))
                · have hre : renum w' ls[i] = ⟨ls[i].k, w'[ls[i].a.toNat], ls[i].b, ls[i].m, ls[i].n⟩ := by simp [renum, c2, c3, List.getD_eq_getElem?_getD, hwl, ha2]
                  have hz1 : H zr = none := (hsb.trans ho.sub).none zg
                  refine append_own elT_28 zeroT_52 rfl (by omega) (((ho.alloc zg _).put (r := gw) (b0 := .cells 3 (encC intE w) 0) (by rw [AH.get, if_neg (e3 _ zg)]; exact bw) _).put (r := zr) (b0 := (.cells 52 [iV ls[i].k, iV ls[i].a, iV ls[i].b, iV ls[i].m, iV ls[i].n] 0)) (by rw [AH.get, if_neg (e3' _ zg), AH.set_same]) _) rfl rfl (by omega) (by omega) (fun v2 H5 ho5 => ?_)
                  obtain ⟨Xb, hXo, x1, x2, x3, x4⟩ : ∃ Xb, OwnX Xb H5 52 5 v2 (out.length + 1) (encC lineE out ++ lineE (renum w' ls[i])) ∧ SubH H Xb ∧ Xb g = some (.cells e (encC lineE ls) sp) ∧ Xb gd = some (.cells 4 (encC boolE need) 0) ∧ Xb gw = some (.cells 3 (encC intE w') 0) :=
                    ⟨_, by rw [hre]; exact ho5, SubH.of_set (SubH.of_set (SubH.of_set hsb hz1) hz2) hz1, (by simp only [AH.get, *, if_false] <;> rfl), (by simp only [AH.get, *, if_false] <;> rfl), (by simp only [AH.get, *, if_true, if_false] <;> rfl)⟩
                  clear ho5
                  (repeat' (first | (simp only [↓s_reg, ↓s_nil, ↓s_consN, ↓s_thenN, ↓s_inN, ↓s_kret, ↓s_putS, ↓s_dOkS, ↓s_ev_t, ↓s_ev_c, ↓s_upd, ↓s_move, ↓s_assign, ↓s_bin, ↓s_bin_add, ite_true, ite_false, Nat.reduceEqDiff, Nat.reduceLT, true_and, Nat.succ_ne_self, eq_self, *]) | (with_reducible refine And.intro ?_ ?_)))
                  · rw [wrap_ok (n := (i : Int) + 1) (by omega) (by omega)]
                    exact ⟨i + 1, w', out ++ [renum w' ls[i]], v2, Xb, by omega, rfl, rfl, hwl, by simp; omega, x1, x2, x3, x4, by rw [encC_snoc, List.length_append]; exact hXo, by first | rfl | rw [hre] | exact hgo2⟩
                  · rw [wrap_ok (n := (i : Int) + 1) (by omega) (by omega)]; omega
            · have c3 : ¬ ls[i].k = 3 := by omega
              (repeat' (first | (simp only [↓s_skip, ↓s_reg, ↓s_seq, ↓s_cond, ↓s_condT, ↓s_condF, ↓s_block, ↓s_nil, ↓s_consN, ↓s_thenN, ↓s_kret, ↓s_putS, ↓s_putN, ↓s_dOkS, ↓s_dOkN, ↓s_ev_t, ↓s_ev_c, ↓s_upd, ↓s_move, ↓s_assign, ↓s_load, ↓s_store, ↓s_bin, ↓s_un, ↓s_alloc, ↓s_buildSlice, ↓s_fieldAddr, ↓s_indexAddr, ↓s_callB, ↓s_len, ↓s_append, ↓s_un_not, ↓s_bin_lss, ↓s_bin_geq, ↓s_bin_eql, ptrV, intV, boolV, List.map_cons, List.map_nil, List.length_cons, List.length_nil, List.append_nil, ite_true, ite_false, Nat.reduceEqDiff, Nat.reduceLT, Nat.reduceAdd, Nat.reduceMul, Nat.reduceLeDiff, ne_eq, not_false_eq_true, true_and, Nat.succ_ne_self, decide_true, decide_false, Bool.not_true, reduceCtorEq, Int.natCast_nonneg, Int.toNat_natCast, Nat.mul_one, AH.get, AH.set_set, fillV, setAt, List.all_cons, List.all_nil, Bool.and_self, eq_self, Nat.zero_add, Nat.add_zero, List.drop, and_self, ldV_f, ldV_t5, Int.ofNat_lt, cl_int, on_int, cl_agg, List.set_cons_zero, List.set_cons_succ, ↓n_alloc, n_allocS, Nat.le_refl, n_ldP, n_faP, n_ixL, n_ixA2, n_lenL, n_ldA, n_ldB, n_faA, n_stP, n_stA, vcBuildSlice, List.replicate_succ, List.replicate_zero, List.flatten_cons, List.flatten_nil, lines_drop, bools_drop, flT_52_0, ldT_52, ldT_4, ldT_3, szT_52, szT_3, zeroT_52, elT_28, elT_103, elT_37, *]) | (refine allNew_intro fun zr zh => ?_; have zg := zh; (try simp only [AH.set_none] at zg))))
              · have hre : renum w' ls[i] = ⟨ls[i].k, ls[i].a, ls[i].b, ls[i].m, ls[i].n⟩ := by simp [renum, c2, c3]
                have hz1 : H zr = none := (hsb.trans ho.sub).none zg
                refine append_own elT_28 zeroT_52 rfl (by omega) ((ho.alloc zg _).put (r := gw) (b0 := .cells 3 (encC intE w) 0) (by rw [AH.get, if_neg (e3 _ zg)]; exact bw) _) rfl rfl (by omega) (by omega) (fun v2 H5 ho5 => ?_)
                obtain ⟨Xb, hXo, x1, x2, x3, x4⟩ : ∃ Xb, OwnX Xb H5 52 5 v2 (out.length + 1) (encC lineE out ++ lineE (renum w' ls[i])) ∧ SubH H Xb ∧ Xb g = some (.cells e (encC lineE ls) sp) ∧ Xb gd = some (.cells 4 (encC boolE need) 0) ∧ Xb gw = some (.cells 3 (encC intE w') 0) :=
                  ⟨_, by rw [hre]; exact ho5, SubH.of_set (SubH.of_set hsb hz1) hz2, (by simp only [AH.get, *, if_false] <;> rfl), (by simp only [AH.get, *, if_false] <;> rfl), (by simp only [AH.get, *, if_true, if_false] <;> rfl)⟩
                clear ho5
                (repeat' (first | (simp only [↓s_reg, ↓s_nil, ↓s_consN, ↓s_thenN, ↓s_inN, ↓s_kret, ↓s_putS, ↓s_dOkS, ↓s_ev_t, ↓s_ev_c, ↓s_upd, ↓s_move, ↓s_assign, ↓s_bin, ↓s_bin_add, ite_true, ite_false, Nat.reduceEqDiff, Nat.reduceLT, true_and, Nat.succ_ne_self, eq_self, *]) | (with_reducible refine And.intro ?_ ?_)))
                · rw [wrap_ok (n := (i : Int) + 1) (by omega) (by omega)]
                  exact ⟨i + 1, w', out ++ [renum w' ls[i]], v2, Xb, by omega, rfl, rfl, hwl, by simp; omega, x1, x2, x3, x4, by rw [encC_snoc, List.length_append]; exact hXo, by first | rfl | rw [hre] | exact hgo2⟩
                · rw [wrap_ok (n := (i : Int) + 1) (by omega) (by omega)]; omega
          · rw [if_neg c1] at hgo2
            (repeat' (first | (simp only [↓s_skip, ↓s_reg, ↓s_seq, ↓s_cond, ↓s_condT, ↓s_block, ↓s_exit, ↓s_nil, ↓s_consN, ↓s_thenN, ↓s_thenE, ↓s_inE, ↓s_kret, ↓s_putS, ↓s_putN, ↓s_dOkS, ↓s_dOkN, ↓s_ev_t, ↓s_ev_c, ↓s_upd, ↓s_move, ↓s_assign, ↓s_load, ↓s_store, ↓s_bin, ↓s_un, ↓s_alloc, ↓s_indexAddr, ↓s_un_not, ↓s_bin_lss, ↓s_bin_add, ptrV, boolV, List.map_cons, List.map_nil, List.length_cons, List.length_nil, ite_true, ite_false, Nat.reduceEqDiff, Nat.reduceLT, Nat.reduceAdd, true_and, Nat.succ_ne_self, decide_true, Bool.not_false, Int.natCast_nonneg, Int.toNat_natCast, Nat.mul_one, AH.get, AH.set_set, setAt, List.all_cons, List.all_nil, Bool.and_self, eq_self, Nat.zero_add, and_self, ldV_f, ldV_t5, Int.ofNat_lt, on_int, cl_agg, List.set_cons_zero, List.set_cons_succ, ↓n_alloc, n_allocS, Nat.le_refl, n_ldP, n_ixL, n_ixA2, n_ldA, n_ldB, n_stP, n_stA, lines_drop, bools_drop, ldT_52, ldT_4, szT_52, zeroT_52, elT_28, elT_103, *]) | (refine allNew_intro fun zr zh => ?_; have zg := zh; (try simp only [AH.set_none] at zg)) | (with_reducible refine And.intro ?_ ?_)))
            · rw [wrap_ok (n := (i : Int) + 1) (by omega) (by omega)]
              refine ⟨i + 1, w, out, _, Hb.set zr _, by omega, rfl, rfl, hw, by omega, hsb.of_set ((hsb.trans ho.sub).none zg), ?_, ?_, ?_, ho.alloc zg _, rfl⟩
              · rw [AH.get, if_neg (e1 _ zg)]; exact bg
              · rw [AH.get, if_neg (e2 _ zg)]; exact bd
              · rw [AH.get, if_neg (e3 _ zg)]; exact bw
            · rw [wrap_ok (n := (i : Int) + 1) (by omega) (by omega)]; omega
        · rw [show ls.length - i = 0 from by omega, outGo] at hgo2
          (repeat' (first | (simp only [↓s_reg, ↓s_seq, ↓s_cond, ↓s_condF, ↓s_exit, ↓s_nil, ↓s_consN, ↓s_thenN, ↓s_thenE, ↓s_inE, ↓s_kret, ↓s_putS, ↓s_dOkS, ↓s_ev_t, ↓s_upd, ↓s_bin, ↓s_bin_lss, ite_true, Nat.reduceLT, true_and, decide_false, eq_self, Int.ofNat_lt, *]) | (refine acx_go rfl (fun _ _ _ h => h) ?_)))
          unfold c39_1
          (repeat' (first | (simp only [↓s_reg, ↓s_seq, ↓s_ret, ↓s_nil, ↓s_consN, ↓s_thenN, ↓s_putS, ↓s_dOkS, ↓s_ev_t, ↓s_upd, ↓s_move, ↓s_assign, ite_true, ite_false, Nat.reduceEqDiff, Nat.reduceLT, true_and, eq_self, *]) | (refine ret_tmp ?_)))
          exact ⟨_, Hb, rfl, hsb, ho⟩
    · replace h4 : t 4 = iV i := by rw [h4]; congr 3; omega
      have hil : i < ls.length := by omega
      have hin : i < need.length := by omega
      have hx := lineAt_get hil
      have hnd : need.getD i false = need[i] := by simp [List.getD_eq_getElem?_getD, hin]
      have hstep : needF ls (i + 1) need = needF ls i (needStep ls need i) := rfl
      have hHn : ∀ r, H' r = none → H r = none := fun r hr => hs.none hr
      by_cases c1 : need[i] = true
      · by_cases c2 : 3 ≤ ls[i].k
        · obtain ⟨⟨a0, a1⟩, b0, b1⟩ := hok i hil (by rw [hx]; exact c2)
          rw [hx] at a0 a1 b0 b1
          have hal : ls[i].a.toNat < need.length := by omega
          have hal2 : ls[i].a.toNat + 1 ≤ need.length := by omega
          have hbl : ls[i].b.toNat < (need.set ls[i].a.toNat true).length := by simp; omega
          have hal3 : ls[i].a.toNat + 1 ≤ ls.length := by omega
          have hbl3 : ls[i].b.toNat + 1 ≤ ls.length := by omega
          have hbl4 : ls[i].b.toNat < ls.length := by omega
          have hst : needStep ls need i = (need.set ls[i].a.toNat true).set ls[i].b.toNat ((need.set ls[i].a.toNat true).getD ls[i].b.toNat false || decide (ls[i].k = 3)) := by
            unfold needStep
            rw [hx, if_pos ⟨by rw [hnd]; exact c1, c2⟩]
          rw [hstep, hst] at hgo
          obtain ⟨nx, hnx⟩ : ∃ nx, nx = need.set ls[i].a.toNat true := ⟨_, rfl⟩
          have hnxl : nx.length = ls.length := by rw [hnx]; simpa using hnl
          rw [← hnx] at hgo hbl
          have hge : nx.getD ls[i].b.toNat false = nx[ls[i].b.toNat] := by simp only [List.getD_eq_getElem?_getD, List.getElem?_eq_getElem hbl, Option.getD_some]
          rw [hge] at hgo
          have hset1 : (encC boolE need).set ls[i].a.toNat (VV.lit (Value.bool true)) = encC boolE nx := by rw [hnx]; exact bools_set _ _ _
          clear hst hstep
          clear hnx
          cases c3 : nx[ls[i].b.toNat] with
          | true =>
            simp only [c3, Bool.true_or] at hgo
            (repeat' (first | (simp only [↓s_skip, ↓s_reg, ↓s_seq, ↓s_cond, ↓s_condT, ↓s_block, ↓s_dreg, ↓s_nil, ↓s_consN, ↓s_consG, ↓s_guardTT, ↓s_thenN, ↓s_inN, ↓s_kret, ↓s_putS, ↓s_putN, ↓s_dOkS, ↓s_dOkN, ↓s_ev_t, ↓s_ev_c, ↓s_upd, ↓s_move, ↓s_assign, ↓s_isBool, ↓s_pickA, ↓s_pick, ↓s_load, ↓s_store, ↓s_bin, ↓s_alloc, ↓s_fieldAddr, ↓s_indexAddr, ↓s_bin_geq, ↓s_bin_sub, ptrV, boolV, List.map_cons, List.map_nil, List.length_cons, List.length_nil, ite_true, ite_false, Nat.reduceEqDiff, Nat.reduceLT, Nat.reduceAdd, ne_eq, not_false_eq_true, true_and, Nat.succ_ne_self, decide_true, reduceCtorEq, Int.natCast_nonneg, Int.toNat_natCast, Nat.mul_one, callOk, undefV, ↓s_plFin, ↓s_plTkN, ↓s_plTkG, AH.get, AH.set_set, setAt, List.all_cons, List.all_nil, Bool.and_self, eq_self, Nat.zero_add, Nat.add_zero, List.drop, and_self, ldV_f, ldV_t5, Int.ofNat_lt, on_int, cl_bool, on_bool, cl_agg, List.set_cons_zero, List.set_cons_succ, ↓n_alloc, n_allocS, Nat.le_refl, n_ldP, n_faP, n_ixL, n_ixA2, n_ldA, n_ldB, n_faA, n_stP, n_stA, ↓s_plK, ↓s_guardPTF, undef, lines_drop, bools_drop, bools_len, flT_52_0, flT_52_1, flT_52_2, ldT_52, ldT_4, ldT_3, szT_52, szT_4, zeroT_52, elT_28, elT_103, *]) | (refine acx_dreg mixed (fun _ _ _ _ e h => ⟨e.trans h.1, h.2⟩) _ (SubH.refl _) ?_) | (refine allNew_intro fun zr zh => ?_; have zg := zh; (try simp only [AH.set_none] at zg)) | (with_reducible refine And.intro ?_ ?_)))
            · rw [wrap_ok (n := (i : Int) - 1) (by omega) (by omega)]
              exact ⟨i, _, by omega, rfl, by rw [List.length_set]; exact hnxl, (hs.of_set (hHn _ (by simp only [*]))).of_set (by simp only [*]), by rw [boolset'], rfl⟩
            · rw [wrap_ok (n := (i : Int) - 1) (by omega) (by omega)]; omega
          | false =>
            simp only [c3, Bool.false_or] at hgo
            (repeat' (first | (simp only [↓s_skip, ↓s_reg, ↓s_seq, ↓s_cond, ↓s_condT, ↓s_block, ↓s_dreg, ↓s_nil, ↓s_consN, ↓s_consG, ↓s_guardTT, ↓s_thenN, ↓s_inN, ↓s_kret, ↓s_putS, ↓s_putN, ↓s_dOkS, ↓s_dOkN, ↓s_ev_t, ↓s_ev_c, ↓s_upd, ↓s_move, ↓s_assign, ↓s_isBool, ↓s_pickA, ↓s_pick, ↓s_load, ↓s_store, ↓s_bin, ↓s_alloc, ↓s_fieldAddr, ↓s_indexAddr, ↓s_bin_geq, ↓s_bin_eql, ↓s_bin_sub, ptrV, boolV, List.map_cons, List.map_nil, List.length_cons, List.length_nil, ite_true, ite_false, Nat.reduceEqDiff, Nat.reduceLT, Nat.reduceAdd, ne_eq, not_false_eq_true, true_and, Bool.false_eq_true, Nat.succ_ne_self, decide_true, reduceCtorEq, Int.natCast_nonneg, Int.toNat_natCast, Nat.mul_one, ↓s_plFin, ↓s_plTkN, ↓s_plTkG, AH.get, AH.set_set, setAt, List.all_cons, List.all_nil, Bool.and_self, eq_self, Nat.zero_add, Nat.add_zero, List.drop, and_self, ldV_f, ldV_t5, Int.ofNat_lt, on_int, cl_bool, on_bool, cl_agg, List.set_cons_zero, List.set_cons_succ, ↓n_alloc, n_allocS, Nat.le_refl, n_ldP, n_faP, n_ixL, n_ixA2, n_ldA, n_ldB, n_faA, n_stP, n_stA, ↓s_plK, ↓s_guardPFF, lines_drop, bools_drop, bools_len, flT_52_0, flT_52_1, flT_52_2, ldT_52, ldT_4, ldT_3, szT_52, szT_4, zeroT_52, elT_28, elT_103, *]) | (refine acx_dreg mixed (fun _ _ _ _ e h => ⟨e.trans h.1, h.2⟩) _ (SubH.refl _) ?_) | (refine allNew_intro fun zr zh => ?_; have zg := zh; (try simp only [AH.set_none] at zg)) | (with_reducible refine And.intro ?_ ?_)))
            · rw [wrap_ok (n := (i : Int) - 1) (by omega) (by omega)]
              exact ⟨i, _, by omega, rfl, by rw [List.length_set]; exact hnxl, (hs.of_set (hHn _ (by simp only [*]))).of_set (by simp only [*]), by rw [boolset'], rfl⟩
            · rw [wrap_ok (n := (i : Int) - 1) (by omega) (by omega)]; omega
        · have hst : needStep ls need i = need := by unfold needStep; rw [if_neg (fun e => c2 (by rw [← hx]; exact e.2))]
          (repeat' (first | (simp only [↓s_skip, ↓s_reg, ↓s_seq, ↓s_cond, ↓s_condT, ↓s_condF, ↓s_block, ↓s_nil, ↓s_consN, ↓s_consG, ↓s_guardTT, ↓s_thenN, ↓s_inN, ↓s_kret, ↓s_putS, ↓s_putN, ↓s_dOkS, ↓s_dOkN, ↓s_ev_t, ↓s_ev_c, ↓s_upd, ↓s_move, ↓s_assign, ↓s_isBool, ↓s_pickA, ↓s_pick, ↓s_load, ↓s_store, ↓s_bin, ↓s_alloc, ↓s_fieldAddr, ↓s_indexAddr, ↓s_bin_geq, ↓s_bin_sub, ptrV, boolV, List.map_cons, List.map_nil, List.length_cons, List.length_nil, ite_true, ite_false, Nat.reduceEqDiff, Nat.reduceLT, Nat.reduceAdd, ne_eq, not_false_eq_true, true_and, Nat.succ_ne_self, decide_true, decide_false, reduceCtorEq, Int.natCast_nonneg, Int.toNat_natCast, Nat.mul_one, AH.get, AH.set_set, setAt, List.all_cons, List.all_nil, Bool.and_self, eq_self, Nat.zero_add, Nat.add_zero, List.drop, and_self, ldV_f, ldV_t5, Int.ofNat_lt, on_int, cl_agg, List.set_cons_zero, List.set_cons_succ, ↓n_alloc, n_allocS, Nat.le_refl, n_ldP, n_faP, n_ixL, n_ixA2, n_ldA, n_ldB, n_faA, n_stP, n_stA, lines_drop, bools_drop, flT_52_0, ldT_52, ldT_4, ldT_3, szT_52, zeroT_52, elT_28, elT_103, *]) | (refine allNew_intro fun zr zh => ?_; have zg := zh; (try simp only [AH.set_none] at zg)) | (with_reducible refine And.intro ?_ ?_)))
          · rw [wrap_ok (n := (i : Int) - 1) (by omega) (by omega)]
            exact ⟨i, need, by omega, rfl, hnl, hs.of_set (hHn _ (by simp only [*])), rfl, rfl⟩
          · rw [wrap_ok (n := (i : Int) - 1) (by omega) (by omega)]; omega
      · have hst : needStep ls need i = need := by unfold needStep; rw [if_neg (fun e => c1 (by rw [← hnd]; exact e.1))]
        (repeat' (first | (simp only [↓s_skip, ↓s_reg, ↓s_seq, ↓s_cond, ↓s_condT, ↓s_condF, ↓s_block, ↓s_nil, ↓s_consN, ↓s_consG, ↓s_guardFT, ↓s_thenN, ↓s_inN, ↓s_kret, ↓s_putS, ↓s_putN, ↓s_dOkS, ↓s_dOkN, ↓s_ev_t, ↓s_ev_c, ↓s_upd, ↓s_move, ↓s_assign, ↓s_isBool, ↓s_pickA, ↓s_pick, ↓s_load, ↓s_store, ↓s_bin, ↓s_alloc, ↓s_indexAddr, ↓s_bin_geq, ↓s_bin_sub, ptrV, boolV, List.map_cons, List.map_nil, List.length_cons, List.length_nil, ite_true, ite_false, Nat.reduceEqDiff, Nat.reduceLT, Nat.reduceAdd, true_and, Bool.false_eq_true, Nat.succ_ne_self, decide_true, reduceCtorEq, Int.natCast_nonneg, Int.toNat_natCast, Nat.mul_one, callOk, undefV, AH.get, AH.set_set, setAt, List.all_cons, List.all_nil, Bool.and_self, eq_self, Nat.zero_add, and_self, ldV_f, ldV_t5, Int.ofNat_lt, on_int, cl_agg, List.set_cons_zero, List.set_cons_succ, ↓n_alloc, n_allocS, Nat.le_refl, n_ldP, n_ixL, n_ixA2, n_ldA, n_ldB, n_stP, n_stA, undef, lines_drop, bools_drop, ldT_52, ldT_4, szT_52, zeroT_52, elT_28, elT_103, *]) | (refine allNew_intro fun zr zh => ?_; have zg := zh; (try simp only [AH.set_none] at zg)) | (with_reducible refine And.intro ?_ ?_)))
        · rw [wrap_ok (n := (i : Int) - 1) (by omega) (by omega)]
          exact ⟨i, need, by omega, rfl, hnl, hs.of_set (hHn _ (by simp only [*])), rfl, rfl⟩
        · rw [wrap_ok (n := (i : Int) - 1) (by omega) (by omega)]; omega
end Go.PV.Ytefpjfpelicedaa
end
section
/- What holds of the search's outcomes. -/
set_option linter.unusedVariables false
set_option linter.unusedSimpArgs false
set_option maxRecDepth 20000
set_option maxHeartbeats 4000000
namespace Go.PV.Ytefpjfpelicedaa
open Go Go.Proofs
section
variable {rows : List Row} {n : Nat} {most : Int} {P : RS → Prop} {E : Out → RS → Prop}
theorem keepS_all (hl : ∀ s l, P s → match lineS rows n most s l with | .error (o, s') => E o s' | .ok (_, s') => P s') (hk : ∀ s a, P s → P (keep2 s a).2) {s : RS} {l : Line} (h : P s) :
    match keepS rows n most s l with | .error (o, s') => E o s' | .ok (_, s') => P s' := by
  unfold keepS
  have h1 := hl s l h
  cases e : lineS rows n most s l with
  | error p => rw [e] at h1; exact h1
  | ok p =>
    obtain ⟨a, s1⟩ := p
    rw [e] at h1
    dsimp only
    by_cases c0 : commonF (rowAt s1.made a) = 0
    · rw [if_pos c0]; exact h1
    · rw [if_neg c0]
      by_cases c1 : 1 < commonF (rowAt s1.made a) ∧ commonF (rowAt s1.made a) ≤ 1000000
      · rw [if_pos c1]
        have h3 := hl s1 ⟨4, a, 0, commonF (rowAt s1.made a), 0⟩ h1
        cases e2 : lineS rows n most s1 ⟨4, a, 0, commonF (rowAt s1.made a), 0⟩ with
        | error p => rw [e2] at h3; exact h3
        | ok p => obtain ⟨a2, s2⟩ := p; rw [e2] at h3; exact hk _ _ h3
      · rw [if_neg c1]; exact hk _ _ h1
theorem keepsS_all (hl : ∀ s l, P s → match lineS rows n most s l with | .error (o, s') => E o s' | .ok (_, s') => P s') (hk : ∀ s a, P s → P (keep2 s a).2) : ∀ (xs : List Line) (s : RS) (l : List Int), P s →
    match keepsS rows n most xs s l with | .error (o, s') => E o s' | .ok (s', _) => P s'
  | [], s, l, h => h
  | x :: xs, s, l, h => by
    have h1 := keepS_all hl hk (l := x) h
    unfold keepsS
    cases e : keepS rows n most s x with
    | error p => rw [e] at h1; exact h1
    | ok p => obtain ⟨a, s1⟩ := p; rw [e] at h1; exact keepsS_all hl hk xs s1 _ h1
theorem roundsS_all (hl : ∀ s l, P s → match lineS rows n most s l with | .error (o, s') => E o s' | .ok (_, s') => P s') (hk : ∀ s a, P s → P (keep2 s a).2) : ∀ (r : Nat) (s : RS) (l : List Int) (done : List Bool), P s →
    match roundsS rows n most r s l done with | .error (o, s') => E o s' | .ok s' => P s'
  | 0, s, l, done, h => h
  | r + 1, s, l, done, h => by
    unfold roundsS roundS
    have h1 := keepsS_all hl hk ((pairsL (rowsOf s) (easS s (curS s l) done).toNat (curS s l) (curS s l)).map (sumLine (rowsOf s) (easS s (curS s l) done).toNat)) s (zerosS s (easS s (curS s l) done).toNat (curS s l)) h
    cases e : keepsS rows n most ((pairsL (rowsOf s) (easS s (curS s l) done).toNat (curS s l) (curS s l)).map (sumLine (rowsOf s) (easS s (curS s l) done).toNat)) s (zerosS s (easS s (curS s l) done).toNat (curS s l)) with
    | error p => rw [e] at h1; exact h1
    | ok p => obtain ⟨s1, l1⟩ := p; rw [e] at h1; exact roundsS_all hl hk r s1 _ _ h1
theorem searchS_all (hl : ∀ s l, P s → match lineS rows n most s l with | .error (o, s') => E o s' | .ok (_, s') => P s') (hk : ∀ s a, P s → P (keep2 s a).2) (h0 : P ⟨[], [], []⟩) :
    match searchS rows n most with | .error (o, s') => E o s' | .ok s' => P s' := by
  unfold searchS
  have h1 := keepsS_all hl hk (givens rows) ⟨[], [], []⟩ [] h0
  cases e : keepsS rows n most (givens rows) ⟨[], [], []⟩ [] with
  | error p => rw [e] at h1; exact h1
  | ok p =>
    obtain ⟨s1, l1⟩ := p
    rw [e] at h1
    dsimp only
    have h2 := keepsS_all hl hk (naturals n) s1 l1 h1
    cases e2 : keepsS rows n most (naturals n) s1 l1 with
    | error p => rw [e2] at h2; exact h2
    | ok p => obtain ⟨s2, l2⟩ := p; rw [e2] at h2; exact roundsS_all hl hk n s2 _ _ h2
end
theorem makeF_codes {rows made : List Row} {n : Nat} {l : Line} : (makeF rows made n l).2 = 0 ∨ (makeF rows made n l).2 = 7 ∨ (makeF rows made n l).2 = 260 := by
  have ho : ∀ r, (outF r).2 = 0 ∨ (outF r).2 = 7 ∨ (outF r).2 = 260 := fun r => by unfold outF; split <;> simp
  unfold makeF
  split
  · split; exact ho _; simp
  split
  · split; exact ho _; simp
  split
  · split; exact ho _; simp
  split
  · split
    · split; simp; exact ho _
    · simp
  · simp
theorem makeF_refs {rows made : List Row} {n : Nat} {l : Line} (h : (makeF rows made n l).2 = 0) (hk : 3 ≤ l.k) : (0 ≤ l.a ∧ l.a < (made.length : Int)) ∧ 0 ≤ l.b ∧ l.b < (made.length : Int) := by
  unfold makeF at h
  rw [if_neg (by omega), if_neg (by omega)] at h
  split at h
  · split at h
    · rename_i c; exact ⟨c.1, c.2.1⟩
    · simp at h
  · split at h
    · split at h
      · rename_i c; exact ⟨c.1, by have := c.2.2.1; omega, by have := c.2.2.1; omega⟩
      · simp at h
    · simp at h
def RefsIn (s : RS) : Prop := ∀ x ∈ s.ls, 3 ≤ x.k → (0 ≤ x.a ∧ x.a < (s.made.length : Int)) ∧ 0 ≤ x.b ∧ x.b < (s.made.length : Int)
theorem deriveGo_snoc {rows : List Row} {n : Nat} : ∀ (ls : List Line) (made made' : List Row) (l : Line), deriveGo rows n made ls = (made', 0) → (makeF rows made' n l).2 = 0 → deriveGo rows n made (ls ++ [l]) = (made' ++ [(makeF rows made' n l).1], 0)
  | [], made, made', l, h, h2 => by
    simp only [deriveGo, Prod.mk.injEq, and_true] at h
    subst h
    simp [deriveGo, h2]
  | x :: ls, made, made', l, h, h2 => by
    simp only [deriveGo, List.cons_append] at h ⊢
    split at h
    · rename_i hx; rw [if_pos hx]; exact deriveGo_snoc ls _ _ l h h2
    · rename_i hx; simp at h; exact absurd h.2 hx
structure Good (rows : List Row) (n : Nat) (most : Int) (s : RS) : Prop where
  fits : ∀ r ∈ s.made, Fits n r
  len : s.made.length = s.ls.length
  le : (s.ls.length : Int) ≤ most
  refs : RefsIn s
  der : deriveGo rows n [] s.ls = (s.made, 0)
def EndOk (rows : List Row) (n : Nat) (most : Int) : Out → RS → Prop
  | .stop c, s => Good rows n most s ∧ (c = 7 ∨ c = 8)
  | .found, s => Good rows n most s ∧ ∃ ms r, s.made = ms ++ [r] ∧ absurdF r = true
theorem search_good {rows : List Row} {n : Nat} {most : Int} (h0 : 0 ≤ most) : match searchS rows n most with | .error (o, s') => EndOk rows n most o s' | .ok s' => Good rows n most s' := by
  refine searchS_all (P := Good rows n most) (E := EndOk rows n most) (fun s l h => ?_) (fun s a h => ?_) ⟨by simp, rfl, by simpa using h0, by simp [RefsIn], rfl⟩
  · have key : ¬ (s.ls.length : Int) = most → (makeF rows s.made n l).2 = 0 → Good rows n most ⟨s.made ++ [(makeF rows s.made n l).1], s.ls ++ [l], s.known⟩ := fun h1 h2 => by
      refine ⟨?_, by simp [h.len], by have := h.le; simp; omega, ?_, deriveGo_snoc _ _ _ _ h.der h2⟩
      · intro r hr
        rcases List.mem_append.1 hr with hr | hr
        · exact h.fits r hr
        · rw [List.mem_singleton.1 hr]; exact makeF_ok h.fits h2
      · intro x hx hk
        rcases List.mem_append.1 hx with hx | hx
        · have := h.refs x hx hk; simp; omega
        · rw [List.mem_singleton.1 hx] at hk ⊢
          have := makeF_refs h2 hk; simp; omega
    by_cases h1 : (s.ls.length : Int) = most
    · rw [lineS_fuel h1]; exact ⟨h, .inr rfl⟩
    by_cases h2 : (makeF rows s.made n l).2 = 0
    · by_cases h3 : absurdF (makeF rows s.made n l).1 = true
      · rw [lineS_found h1 h2 h3]; exact ⟨key h1 h2, _, _, rfl, h3⟩
      · rw [lineS_val h1 h2 (by simpa using h3)]; exact key h1 h2
    · rw [lineS_err h1 h2]
      refine ⟨h, ?_⟩
      rcases makeF_codes (rows := rows) (made := s.made) (n := n) (l := l) with c | c | c
      · exact absurd c h2
      · left; rw [c]; rfl
      · left; rw [c]; rfl
  · have e : (keep2 s a).2.ls = s.ls ∧ (keep2 s a).2.made = s.made := by unfold keep2; split <;> (try split) <;> exact ⟨rfl, rfl⟩
    exact ⟨by rw [e.2]; exact h.fits, by rw [e.1, e.2]; exact h.len, by rw [e.1]; exact h.le, by intro x hx; rw [e.1] at hx; rw [e.2]; exact h.refs x hx, by rw [e.1, e.2]; exact h.der⟩
end Go.PV.Ytefpjfpelicedaa
end
section
/- Refute: what is deferred. -/
set_option linter.unusedVariables false
set_option linter.unusedSimpArgs false
set_option maxRecDepth 20000
set_option maxHeartbeats 4000000
namespace Go.PV.Ytefpjfpelicedaa
open Go Go.Proofs
def isIf (d : Option TypeDesc) : Bool := match d with | some (.interface _) => true | _ => false
theorem und20b : isIf (Program.underlying Try.prog 20) = true := by kernel_rfl
theorem und20 : ∃ e, Program.underlying Try.prog 20 = some (.interface e) := by
  have h := und20b
  unfold isIf at h
  split at h
  · rename_i e he; exact ⟨e, he⟩
  · cases h
section
variable {H : AH} {K : VE → AH → Prop} {ox : Operand} {u : TypeId} {y : Value}
theorem nilEq (h : K (.ret (boolV true)) H) : vcBin Try.prog .eql 20 ox (.const .nilIface) (.lit .nilIface) (.lit .nilIface) H K := by
  unfold vcBin
  simp only [litCells]
  exact ⟨und20, .inr (.inl rfl), fun b hb => by rw [show b = true from hb]; exact h⟩
theorem ifEq (h : K (.ret (boolV false)) H) : vcBin Try.prog .eql 20 ox (.const .nilIface) (.lit (.iface u y)) (.lit .nilIface) H K := by
  unfold vcBin
  simp only [litCells]
  exact ⟨und20, .inr (.inl rfl), fun b hb => by rw [show b = false from hb]; exact h⟩
end
theorem fd38' : FnD Try.prog 38 24 [] (.seq (.reg [⟨some 8, (.call { callee := (.builtin .recover), args := #[], argTypes := #[] }), none⟩]) (match c38 with | .seq _ b => b | c => c)) := fd38
theorem zeroV79 : zeroV Try.prog 79 = some (.agg #[]) := by kernel_rfl
theorem zeroV82 : zeroV Try.prog 82 = some (.agg #[.int .i64 0]) := by kernel_rfl
theorem cl_a0 : VV.cells (.lit (.agg #[])) = [] := rfl
theorem cl_a1 (v : Value) : VV.cells (.lit (.agg #[v])) = [.lit v] := rfl
theorem nil_get (i : Nat) : AH.nil i = none := rfl
theorem nil_sub (H : AH) : SubH AH.nil H := fun _ _ h => by cases h
def recd (l : List PanicEntry) : FrameMode := .panicking (l.map fun e => { e with recovered := true })
theorem def38_nil {H : AH} {xs : List VV} {K : VE → FrameMode → AH → Prop} (hN : xs.length ≤ 24) (h : ∀ u, K (.ret u) .returning H) : DCalls Try.prog 38 xs .returning H K := by
  refine dcalls_recover fd38' hN (by decide) ?_
  unfold c38
  (repeat' (first | (refine nilEq ?_) | (simp only [↓s_reg, ↓s_seq, ↓s_cond, ↓s_condT, ↓s_block, ↓s_nil, ↓s_consN, ↓s_thenN, ↓s_inN, ↓s_kret, ↓s_putS, ↓s_dOkS, ↓s_ev_t, ↓s_ev_c, ↓s_upd, ↓s_assign, ↓s_bin, boolV, ite_true, ite_false, Nat.reduceEqDiff, Nat.reduceLT, true_and, undefV, eq_self, undef, recMode, *])))
  exact ⟨rfl, _, H, _, rfl, .refl _ _, h _⟩
theorem def38_stop {H : AH} {r4 r5 r6 : Nat} {x0 x4 x5 x6 : VV} {e4 e5 e6 : TypeId} {c : Int} {K : VE → FrameMode → AH → Prop}
    (b4 : H r4 = some (.cells e4 [x4] 0)) (b5 : H r5 = some (.cells e5 [x5] 0)) (b6 : H r6 = some (.cells e6 [x6] 0)) (d45 : ¬ r4 = r5) (d46 : ¬ r4 = r6) (d56 : ¬ r5 = r6) (d45' : ¬ r5 = r4) (d46' : ¬ r6 = r4) (d56' : ¬ r6 = r5)
    (h : ∀ u H', SubH (((H.set r4 (.cells e4 [.lit (.slice none 0 0)] 0)).set r5 (.cells e5 [boolV false] 0)).set r6 (.cells e6 [iV c] 0)) H' → K (.ret u) (recd (stopE c)) H') : DCalls Try.prog 38 [x0, ptrV r4 0, ptrV r5 0, ptrV r6 0] (.panicking (stopE c)) H K := by
  refine dcalls_recover fd38' (by simp) (by decide) ?_
  have n4 : ∀ r, H r = none → ¬ r4 = r := fun r hr => (AH.ne_of b4 hr).1
  have n4' : ∀ r, H r = none → ¬ r = r4 := fun r hr => (AH.ne_of b4 hr).2
  have n5 : ∀ r, H r = none → ¬ r5 = r := fun r hr => (AH.ne_of b5 hr).1
  have n5' : ∀ r, H r = none → ¬ r = r5 := fun r hr => (AH.ne_of b5 hr).2
  have n6 : ∀ r, H r = none → ¬ r6 = r := fun r hr => (AH.ne_of b6 hr).1
  have n6' : ∀ r, H r = none → ¬ r = r6 := fun r hr => (AH.ne_of b6 hr).2
  unfold c38
  (repeat' (first | (refine ifEq ?_) | (refine acx_dreg mixed (fun _ _ _ _ e h => ⟨e.trans h.1, h.2⟩) (AH.nil.set _ _) (SubH.set (nil_sub _) _ _) ?_) | (refine SubH.set (nil_sub _) _ _) | (simp only [↓s_reg, ↓s_seq, ↓s_cond, ↓s_condT, ↓s_condF, ↓s_block, ↓s_dreg, ↓s_nil, ↓s_consN, ↓s_thenN, ↓s_inN, ↓s_inP, ↓s_kret, ↓s_putS, ↓s_putN, ↓s_dOkS, ↓s_dOkN, ↓s_ev_t, ↓s_ev_c, ↓s_upd, ↓s_move, ↓s_assign, ↓s_load, ↓s_store, ↓s_bin, ↓s_alloc, ↓s_fieldAddr, ↓s_typeAssert, ↓s_extract, ↓s_panic, vcExtract, ptrV, boolV, List.map_cons, List.map_nil, List.length_cons, List.length_nil, List.getD_cons_zero, List.getD_cons_succ, List.getD_nil, ite_true, ite_false, Nat.reduceEqDiff, Nat.reduceLT, Nat.reduceLeDiff, ne_eq, not_false_eq_true, true_and, Nat.succ_ne_self, reduceCtorEq, undefV, ↓s_plFin, ↓s_plTkN, ↓s_plOneN, AH.get, AH.set_set, setAt, List.all_cons, List.all_nil, Bool.and_self, eq_self, Nat.zero_add, Nat.add_zero, List.drop, List.getElem?_cons_zero, List.getElem?_cons_succ, ldV_f, cl_int, on_int, cl_bool, on_bool, cl_sl, on_sl, List.set_cons_zero, ↓n_alloc, n_allocS, Nat.le_refl, n_ldP, n_faP, n_ldA, n_ldB, n_faA, n_stP, n_stA, ↓s_plK, ↓s_oneK, undef, false_and, and_false, recMode, stopE, vcAssert, notI79, notI82, zeroV79, zeroV82, okV, cl_a1, nil_get, flT_82_0, ldT_25, szT_79, szT_28, szT_4, szT_25, szT_82, zeroT_79, zeroT_82, *]) | (refine allNew_intro fun zr zh => ?_; have zg := zh; (try simp only [AH.set_none] at zg)) | (refine SubH.of_set ?_ ?_) | (with_reducible refine And.intro ?_ ?_)))
  refine ⟨rfl, _, _, _, rfl, .refl _ _, h _ _ ?_⟩
  have m4 := n4' _ zg
  have m5 := n5' _ zg
  have m6 := n6' _ zg
  exact SubH.set (SubH.set (SubH.set (SubH.new zg) _ _) _ _) _ _
theorem def38_found {B H : AH} {s mp : Nat} {rows : List Row} {n : Nat} {most : Int} {st : RS} {r8 r4 r5 r6 : Nat} {x4 x5 x6 : VV} {e4 e5 e6 : TypeId} {K : VE → FrameMode → AH → Prop} (hst : RefS B H s mp rows n most st) (hgd : Good rows n most st) (hne : st.ls ≠ []) (hm : most ≤ 5000)
    (b8 : B r8 = some (.cells 71 [ptrV s 0] 0)) (b4 : B r4 = some (.cells e4 [x4] 0)) (b5 : B r5 = some (.cells e5 [x5] 0)) (b6 : B r6 = some (.cells e6 [x6] 0)) (d45 : ¬ r4 = r5) (d46 : ¬ r4 = r6) (d56 : ¬ r5 = r6) (d45' : ¬ r5 = r4) (d46' : ¬ r6 = r4) (d56' : ¬ r6 = r5)
    (h : ∀ u v Hc H', OwnX Hc H' 52 5 v (neededF st.ls).length (encC lineE (neededF st.ls)) → SubH (((H.set r4 (.cells e4 [v] 0)).set r5 (.cells e5 [boolV true] 0)).set r6 (.cells e6 [iV 0] 0)) Hc → K (.ret u) (recd foundE) H') :
    DCalls Try.prog 38 [ptrV r8 0, ptrV r4 0, ptrV r5 0, ptrV r6 0] (.panicking foundE) H K := by
  refine dcalls_recover fd38' (by simp) (by decide) ?_
  have c8 := hst.sub _ _ b8
  have c4 := hst.sub _ _ b4
  have c5 := hst.sub _ _ b5
  have c6 := hst.sub _ _ b6
  obtain ⟨mv, lv, Hs, Hm, q1, q2, q3, hB, ks, km', ho1, ho2⟩ := hst
  have hsub := ho1.sub.trans ho2.sub
  have k1 := hsub _ _ ks
  have hlen0 : 0 < st.ls.length := List.length_pos_iff.2 hne
  obtain ⟨g, c, sp, hlv, kg⟩ : ∃ g c sp, lv = .lit (.slice (some ⟨g, 0, none⟩) st.ls.length c) ∧ H g = some (.cells 52 (encC lineE st.ls) sp) := by
    rcases ho2 with ⟨e1, e2, _⟩ | ⟨g, c, sp, e1, e2, e3, _⟩
    · omega
    · exact ⟨g, c, sp, e1, by rw [e3, AH.set_same]⟩
  subst hlv
  have hle := hgd.le
  have hlo : LinesOk st.ls := by
    intro i hi hk
    rw [lineAt_get hi] at hk ⊢
    have := hgd.refs _ (List.getElem_mem hi) hk
    rw [hgd.len] at this
    exact this
  have n4 : ∀ r, H r = none → ¬ r4 = r := fun r hr => (AH.ne_of c4 hr).1
  have n4' : ∀ r, H r = none → ¬ r = r4 := fun r hr => (AH.ne_of c4 hr).2
  have n5 : ∀ r, H r = none → ¬ r5 = r := fun r hr => (AH.ne_of c5 hr).1
  have n5' : ∀ r, H r = none → ¬ r = r5 := fun r hr => (AH.ne_of c5 hr).2
  have n6 : ∀ r, H r = none → ¬ r6 = r := fun r hr => (AH.ne_of c6 hr).1
  have n6' : ∀ r, H r = none → ¬ r = r6 := fun r hr => (AH.ne_of c6 hr).2
  have n8 : ∀ r, H r = none → ¬ r8 = r := fun r hr => (AH.ne_of c8 hr).1
  have ns : ∀ r, H r = none → ¬ s = r := fun r hr => (AH.ne_of k1 hr).1
  have ng : ∀ r, H r = none → ¬ g = r := fun r hr => (AH.ne_of kg hr).1
  unfold c38
  (repeat' (first | (refine ifEq ?_) | (simp only [↓s_reg, ↓s_seq, ↓s_cond, ↓s_condT, ↓s_condF, ↓s_block, ↓s_dreg, ↓s_nil, ↓s_consN, ↓s_thenN, ↓s_inP, ↓s_kret, ↓s_putS, ↓s_putN, ↓s_dOkS, ↓s_dOkN, ↓s_ev_t, ↓s_ev_c, ↓s_ev_f, ↓s_upd, ↓s_move, ↓s_assign, ↓s_load, ↓s_store, ↓s_nilCheck, ↓s_bin, ↓s_alloc, ↓s_fieldAddr, ↓s_typeAssert, ↓s_extract, ↓s_callV, ↓s_panic, ↓s_callL, vcNil, vcExtract, ptrV, boolV, List.map_cons, List.map_nil, List.length_cons, List.length_nil, List.getD_cons_zero, List.getD_cons_succ, List.getD_nil, ite_true, ite_false, Nat.reduceEqDiff, Nat.reduceLT, Nat.reduceLeDiff, ne_eq, not_false_eq_true, true_and, Nat.succ_ne_self, reduceCtorEq, undefV, AH.get, AH.set_set, setAt, List.all_nil, eq_self, Nat.zero_add, Nat.add_zero, List.drop, List.getElem?_cons_zero, List.getElem?_cons_succ, ldV_f, ↓n_alloc, n_allocS, Nat.le_refl, n_ldP, n_faP, n_ldA, n_ldB, n_faA, n_stP, n_stA, undef, recMode, foundE, vcAssert, notI79, notI82, zeroV79, zeroV82, okV, cl_a0, flT_77_1, ldT_71, ldT_28, szT_79, szT_82, zeroT_79, zeroT_82, en_39, *]) | (refine allNew_intro fun zr zh => ?_; have zg := zh; (try simp only [AH.set_none] at zg))))
  refine OwnF.use (needed39 (g := g) (sp := sp) (e := 52) (ls := st.ls) (by rw [AH.get, if_neg (ng _ zg)]; exact kg) hlen0 (by omega) hlo) (fun v2 H2 ho2 => ?_)
  have z4 : H2 r4 = some (.cells e4 [x4] 0) := ho2.sub _ _ (by rw [AH.get, if_neg (n4 _ zg)]; exact c4)
  have z5 : H2 r5 = some (.cells e5 [x5] 0) := ho2.sub _ _ (by rw [AH.get, if_neg (n5 _ zg)]; exact c5)
  have z6 : H2 r6 = some (.cells e6 [x6] 0) := ho2.sub _ _ (by rw [AH.get, if_neg (n6 _ zg)]; exact c6)
  have y1 := ho2.cells.1
  have y2 := ho2.cells.2
  have w4 : (H.set zr (.cells 79 [] 0)) r4 = some (.cells e4 [x4] 0) := by rw [AH.get, if_neg (n4 _ zg)]; exact c4
  have w5 : ((H.set zr (.cells 79 [] 0)).set r4 (.cells e4 [v2] 0)) r5 = some (.cells e5 [x5] 0) := by rw [AH.get, if_neg d45', AH.get, if_neg (n5 _ zg)]; exact c5
  have w6 : (((H.set zr (.cells 79 [] 0)).set r4 (.cells e4 [v2] 0)).set r5 (.cells e5 [boolV true] 0)) r6 = some (.cells e6 [x6] 0) := by rw [AH.get, if_neg d56', AH.get, if_neg d46', AH.get, if_neg (n6 _ zg)]; exact c6
  have hfin := ((ho2.put w4 (.cells e4 [v2] 0)).put w5 (.cells e5 [boolV true] 0)).put w6 (.cells e6 [iV 0] 0)
  (repeat' (first | (simp only [↓s_nil, ↓s_consN, ↓s_inN, ↓s_kret, ↓s_putS, ↓s_putN, ↓s_dOkN, ↓s_ev_t, ↓s_ev_c, ↓s_upd, ↓s_store, List.length_cons, List.length_nil, List.getD_cons_zero, List.getD_cons_succ, List.getD_nil, ite_true, ite_false, Nat.reduceEqDiff, true_and, Nat.succ_ne_self, AH.get, setAt, List.all_cons, List.all_nil, Bool.and_self, eq_self, Nat.zero_add, cl_int, on_int, cl_bool, on_bool, List.set_cons_zero, Nat.le_refl, n_stP, n_stA, szT_28, szT_4, szT_25, *])))
  refine ⟨rfl, _, _, _, rfl, .refl _ _, h _ _ _ _ hfin ?_⟩
  exact SubH.set (SubH.set (SubH.set (SubH.new zg) _ _) _ _) _ _
end Go.PV.Ytefpjfpelicedaa
end
