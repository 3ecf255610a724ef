/- Part 9 of 11 of what the proof of Refu needs. -/
import Derived.Test.YtefpjfpelicedaaRefu8
import Derived.Test.YtefpjfpelicedaaRefu6
import Derived.Test.YtefpjfpelicedaaRefu7
import Derived.Test.YtefpjfpelicedaaRefu5
section
/- The reference: the numbers behind others. -/
set_option linter.unusedVariables false
set_option linter.unusedSimpArgs false
set_option maxRecDepth 20000
set_option maxHeartbeats 4000000
namespace Go.PV.Ytefpjfpelicedaa
open Go Go.Proofs
def nextF (b : Int) (x : List Int) : List Int × Bool := match nextL b x with | some y => (y, true) | none => (x.map fun _ => 0, false)
theorem next44 (x : List Int) (b : Int) (hn : (x.length : Int) ≤ 1000) (hb : 0 ≤ b ∧ b ≤ 1000) (hw : Within b x) : PureF Try.prog 44 [intsV x, iV b] (.tuple [intsV (nextF b x).1, boolV (nextF b x).2]) := by
  refine GivesF.pure fun H => ?_
  refine vcalls_intro fd44 (by simp) ?_
  unfold c44
  (repeat' (first | (simp only [↓s_reg, ↓s_seq, ↓s_nil, ↓s_consN, ↓s_thenN, ↓s_kret, ↓s_putS, ↓s_dOkS, ↓s_ev_t, ↓s_ev_c, ↓s_upd, ↓s_move, ↓s_assign, ↓s_buildSlice, ↓s_callB, ↓s_append, boolV, List.map_cons, List.map_nil, List.length_cons, List.length_nil, List.getD_cons_zero, List.getD_cons_succ, List.getD_nil, ite_true, ite_false, Nat.reduceEqDiff, Nat.reduceLT, Nat.reduceLeDiff, true_and, Nat.succ_ne_self, reduceCtorEq, Nat.mul_one, undefV, fillV, eq_self, Nat.zero_add, and_self, undef, vcBuildSlice, List.replicate_zero, List.flatten_nil, elT_37, zeroT_3, *])))
  refine append_clip elT_37 zeroT_3 rfl (by omega) rfl (ints_src H x) (ints_one x) (by omega) (by omega) (fun h0 => ?_) (fun h0 v' H' ho => ?_)
  · have h0 : x = [] := List.eq_nil_of_length_eq_zero h0
    subst h0
    (repeat' (first | (simp only [↓s_reg, ↓s_seq, ↓s_seqL, ↓s_block, ↓s_loop, ↓s_nil, ↓s_consN, ↓s_thenN, ↓s_kret, ↓s_putS, ↓s_dOkS, ↓s_ev_t, ↓s_ev_c, ↓s_upd, ↓s_move, ↓s_assign, ↓s_bin, ↓s_callB, ↓s_len, ↓s_bin_sub, intV, List.map_cons, List.map_nil, List.getD_cons_succ, List.getD_nil, ite_true, ite_false, Nat.reduceEqDiff, Nat.reduceLT, ne_eq, not_false_eq_true, true_and, Nat.succ_ne_self, reduceCtorEq, eq_self, n_lenS, elT_37, *])))
    refine acx_loop (fun _ _ _ h => h) (fun A H' => H' = H ∧ A.d = [] ∧ A.t 7 = iV (-1) ∧ A.t 6 = .slice true 0 []) (fun _ _ => 0) ?_ ?_
    · exact ⟨rfl, rfl, rfl, rfl⟩
    · rintro ⟨t, d⟩ H' ⟨rfl, rfl, h7, h6⟩
      dsimp only at h6 h7
      unfold b44_1 c44_1
      (repeat' (first | (simp only [↓s_reg, ↓s_seq, ↓s_cond, ↓s_condF, ↓s_exit, ↓s_ret, ↓s_nil, ↓s_consN, ↓s_thenN, ↓s_thenE, ↓s_inE, ↓s_kret, ↓s_putS, ↓s_dOkS, ↓s_ev_t, ↓s_ev_c, ↓s_upd, ↓s_move, ↓s_assign, ↓s_bin, ↓s_bin_geq, ite_true, ite_false, Nat.reduceEqDiff, Nat.reduceLT, true_and, Nat.succ_ne_self, decide_false, eq_self, Int.reduceLE, Int.reduceNeg, and_false, *]) | (refine acx_go rfl (fun _ _ _ h => h) ?_)))
      exact retPost_ret rfl (by simp only [resV, resAll, resOne, s_upd, Nat.reduceEqDiff, if_true, if_false, Option.bind_some, Option.map_some, tupV] <;> rfl) ⟨_, rfl, GhV.tuple (GhL.cons (GhV.imm _) (GhL.cons (GhV.refl _ _) (GhL.nil _)))⟩
  · rcases ho with ⟨_, h1, _, _⟩ | ⟨g, c, sp, rfl, hg, rfl, h1, h2, h3, h4⟩
    · omega
    (repeat' (first | (simp only [↓s_reg, ↓s_seq, ↓s_seqL, ↓s_block, ↓s_loop, ↓s_nil, ↓s_consN, ↓s_thenN, ↓s_kret, ↓s_putS, ↓s_dOkS, ↓s_ev_t, ↓s_ev_c, ↓s_upd, ↓s_move, ↓s_assign, ↓s_bin, ↓s_callB, ↓s_len, ↓s_bin_sub, intV, List.map_cons, List.map_nil, List.getD_cons_succ, List.getD_nil, List.nil_append, ite_true, ite_false, Nat.reduceEqDiff, Nat.reduceLT, ne_eq, not_false_eq_true, true_and, Nat.succ_ne_self, reduceCtorEq, eq_self, Nat.zero_add, n_lenL, elT_37, *])))
    rw [wrap_ok (n := (x.length : Int) - 1) (by omega) (by omega)]
    simp only [Nat.zero_add, List.nil_append] at h1 h2 h3
    refine acx_loop (fun _ _ _ h => h) (fun A H' => A.d = [] ∧ A.t 1 = iV b ∧ A.t 6 = .lit (.slice (some ⟨g, 0, none⟩) x.length c) ∧ ∃ k : Nat, k ≤ x.length ∧ A.t 7 = iV ((k : Int) - 1) ∧ H' = H.set g (.cells 3 (encC intE (x.take k ++ List.replicate (x.length - k) 0)) sp) ∧ (∀ j (h : j < x.length), k ≤ j → x[j] = b))
      (fun A _ => match A.t 7 with | .lit (.int _ i) => (i + 1).toNat | _ => 0) ?_ ?_
    · exact ⟨rfl, rfl, rfl, x.length, by omega, rfl, by simp, fun j h h' => by omega⟩
    · rintro ⟨t, d⟩ H' ⟨rfl, h1', h6, k, hk, h7, rfl, hall⟩
      dsimp only at h1' h6 h7
      rcases k with _ | k
      · have e7 : t 7 = iV (-1) := h7
        clear h7
        unfold b44_1 c44_1
        (repeat' (first | (simp only [↓s_reg, ↓s_seq, ↓s_cond, ↓s_condF, ↓s_exit, ↓s_ret, ↓s_nil, ↓s_consN, ↓s_thenN, ↓s_thenE, ↓s_inE, ↓s_kret, ↓s_putS, ↓s_dOkS, ↓s_ev_t, ↓s_ev_c, ↓s_upd, ↓s_move, ↓s_assign, ↓s_bin, ↓s_bin_geq, List.nil_append, ite_true, ite_false, Nat.reduceEqDiff, Nat.reduceLT, true_and, Nat.succ_ne_self, decide_false, eq_self, List.take, Int.reduceLE, Int.reduceNeg, *]) | (refine acx_go rfl (fun _ _ _ h => h) ?_)))
        refine retPost_ret rfl (by simp only [resV, resAll, resOne, s_upd, Nat.reduceEqDiff, if_true, if_false, Option.bind_some, Option.map_some, tupV] <;> rfl) ⟨_, rfl, ?_⟩
        have e : nextF b x = (List.replicate x.length 0, false) := by
          have h5 : nextL b x = none := nextL_none fun c hc => by
            obtain ⟨j, hj, rfl⟩ := List.getElem_of_mem hc
            exact hall j hj (by omega)
          simp only [nextF, h5]
          congr 1
          exact List.map_const' ..
        rw [e]
        have hs := GhV.slice (H := H.set g (.cells 3 (encC intE (x.take 0 ++ List.replicate (x.length - 0) 0)) sp)) (n := x.length) (AH.set_same _ _ _) h3
        rw [AH.del_set _ _ _ hg] at hs
        refine GhV.tuple (GhL.cons ?_ (GhL.cons (GhV.refl _ _) (GhL.nil _)))
        show GhV _ _ _ (.slice false (List.replicate x.length (0 : Int)).length _)
        rw [List.length_replicate]
        simpa using hs
      · have e7 : t 7 = iV k := by rw [h7]; congr 2; omega
        clear h7
        obtain ⟨l, hl⟩ : ∃ l, l = x.take (k + 1) ++ List.replicate (x.length - (k + 1)) 0 := ⟨_, rfl⟩
        have hll : l.length = x.length := by rw [hl]; simp; omega
        have hkl : k < l.length := by omega
        have hlk : l[k] = x[k]'(by omega) := by subst hl; rw [List.getElem_append_left (by simp; omega)]; simp
        have hkx : (k : Int) < x.length := by omega
        have hs0 : l.set k 0 = x.take k ++ List.replicate (x.length - k) 0 := by
          apply List.ext_getElem
          · simp [hll]; omega
          · intro j h5 h6
            subst hl
            simp only [List.getElem_set, List.getElem_append, List.length_take, List.getElem_take, List.getElem_replicate]
            have : min (k + 1) x.length = k + 1 := by omega
            have : min k x.length = k := by omega
            repeat' split
            all_goals first | rfl | omega
        have hs1 : x[k]'(by omega) ≠ b → nextF b x = (l.set k (x[k]'(by omega) + 1), true) := fun hne => by
          have h5 := nextL_at (b := b) (x := x) (k := k) (by omega) hne (fun j h h' => hall j h (by omega))
          have h6 : l.set k (x[k]'(by omega) + 1) = x.take k ++ (x[k]'(by omega) + 1) :: List.replicate (x.length - k - 1) 0 := by
            apply List.ext_getElem
            · simp [hll]; omega
            · intro j h5 h6
              subst hl
              simp only [List.getElem_set, List.getElem_append, List.length_take, List.getElem_take, List.getElem_replicate, List.getElem_cons]
              have : min (k + 1) x.length = k + 1 := by omega
              have : min k x.length = k := by omega
              repeat' split
              all_goals first | rfl | omega
          simp only [nextF, h5, h6]
        rw [← hl]
        have hxk := hw _ (List.getElem_mem (show k < x.length by omega))
        have hkn : k < x.length := by omega
        clear hl
        unfold b44_1
        (repeat' (first | (simp only [↓s_skip, ↓s_reg, ↓s_seq, ↓s_cond, ↓s_condT, ↓s_block, ↓s_ret, ↓s_nil, ↓s_consN, ↓s_thenN, ↓s_thenR, ↓s_inN, ↓s_inR, ↓s_kret, ↓s_putS, ↓s_putN, ↓s_dOkS, ↓s_dOkN, ↓s_ev_t, ↓s_ev_c, ↓s_upd, ↓s_move, ↓s_assign, ↓s_load, ↓s_store, ↓s_bin, ↓s_indexAddr, ↓s_bin_lss, ↓s_bin_geq, ↓s_bin_add, ↓s_bin_sub, List.length_cons, List.length_nil, ite_true, ite_false, Nat.reduceEqDiff, Nat.reduceLT, true_and, Nat.succ_ne_self, decide_true, decide_false, Int.natCast_nonneg, Int.toNat_natCast, Nat.mul_one, AH.get, AH.set_set, setAt, List.all_cons, List.all_nil, Bool.and_self, eq_self, Nat.zero_add, and_self, ldV_f, cl_int, on_int, n_ldP, n_ixL, n_ixA2, n_ldA, n_ldB, n_stP, n_stA, ints_drop, ints_len, ldT_3, szT_3, elT_37, *]) | (refine condL_splitD ?_ ?_ <;> intro)))
        · have hlt : x[k] < b := by assumption
          rw [wrap_ok (n := x[k] + 1) (by omega) (by omega), hs1 (by omega), ints_set]
          refine retPost_ret rfl (by simp only [resV, resAll, resOne, s_upd, Nat.reduceEqDiff, if_true, if_false, Option.bind_some, Option.map_some, tupV] <;> rfl) ⟨_, rfl, GhV.tuple (GhL.cons ?_ (GhL.cons (GhV.refl _ _) (GhL.nil _)))⟩
          have hs := GhV.slice (H := H.set g (.cells 3 (encC intE (l.set k (x[k] + 1))) sp)) (n := x.length) (AH.set_same _ _ _) h3
          rw [AH.del_set _ _ _ hg] at hs
          show GhV _ _ _ (.slice false (l.set k (x[k] + 1)).length _)
          rw [List.length_set, hll]
          exact hs
        · have hlt : ¬ x[k] < b := by assumption
          rw [wrap_ok (n := (k : Int) - 1) (by omega) (by omega)]
          refine ⟨⟨k, by omega, rfl, by rw [ints_set, hs0], fun j h h' => ?_⟩, by omega⟩
          by_cases e : j = k
          · subst e; omega
          · exact hall j h (by omega)
end Go.PV.Ytefpjfpelicedaa
end
section
/- The reference: the first numbers that fulfil rows. -/
set_option linter.unusedVariables false
set_option linter.unusedSimpArgs false
set_option maxRecDepth 20000
set_option maxHeartbeats 4000000
namespace Go.PV.Ytefpjfpelicedaa
open Go Go.Proofs
def pointR (rows : List Row) (b : Int) : List Int × Bool × Int :=
  if rightF rows = 0 then
    (if b < 0 ∨ 100 < b then ([], false, 4)
     else if tooMany b (unkN rows) 1 then ([], false, 7)
     else match fromL (allF rows) b (List.replicate (unkN rows) 0) with
       | some x => (x, true, 0)
       | none => ([], false, 0))
  else ([], false, rightF rows)
def pointRX (rows : List Row) (b : Int) : VV := .tuple [intsV (pointR rows b).1, boolV (pointR rows b).2.1, iV (pointR rows b).2.2]
theorem pointRX_of {rows : List Row} {b : Int} {p : List Int × Bool × Int} (h : pointR rows b = p) : pointRX rows b = .tuple [intsV p.1, boolV p.2.1, iV p.2.2] := by rw [pointRX, h]
theorem nilX {H : AH} {x y : VV} : GhV H (.tuple [.lit (.slice none 0 0), x, y]) H (.tuple [intsV [], x, y]) := GhV.tuple (GhL.cons (GhV.nil H) (GhL.cons (GhV.refl _ _) (GhL.cons (GhV.refl _ _) (GhL.nil _))))
theorem point19 (rows : List Row) (b : Int) (h1 : (rows.length : Int) ≤ 9223372036854775806) : PureF Try.prog 19 [rowsV rows, iV b] (pointRX rows b) := by
  refine GivesF.pure fun H => ?_
  unfold GivesF
  refine vcalls_intro fd19 (by simp) ?_
  unfold c19
  by_cases hr : rightF rows = 0
  · by_cases hb1 : b < 0
    · rw [pointRX_of (p := ([], false, 4)) (by simp [pointR, *])]
      (repeat' (first | (simp only [↓s_skip, ↓s_reg, ↓s_seq, ↓s_cond, ↓s_condT, ↓s_condF, ↓s_ret, ↓s_nil, ↓s_consN, ↓s_consG, ↓s_guardTF, ↓s_thenN, ↓s_thenR, ↓s_kret, ↓s_putS, ↓s_dOkS, ↓s_ev_t, ↓s_ev_c, ↓s_ev_f, ↓s_upd, ↓s_move, ↓s_assign, ↓s_isBool, ↓s_pickA, ↓s_pick, ↓s_bin, ↓s_callV, ↓s_callL, ↓s_bin_lss, ↓s_bin_neq, boolV, List.map_cons, List.map_nil, List.getD_cons_zero, List.getD_cons_succ, List.getD_nil, ite_true, ite_false, Nat.reduceEqDiff, Nat.reduceLT, true_and, Nat.succ_ne_self, decide_true, Bool.not_true, reduceCtorEq, callOk, undefV, eq_self, undef, en_35, *]) | (refine PureF.use (right35 _ h1) ?_)))
      exact retPost_ret rfl (by simp only [resV, resAll, resOne, s_upd, Nat.reduceEqDiff, if_true, if_false, Option.bind_some, Option.map_some, tupV] <;> rfl) ⟨_, rfl, nilX⟩
    by_cases hb2 : 100 < b
    · rw [pointRX_of (p := ([], false, 4)) (by simp [pointR, *])]
      (repeat' (first | (simp only [↓s_skip, ↓s_reg, ↓s_seq, ↓s_cond, ↓s_condT, ↓s_condF, ↓s_ret, ↓s_nil, ↓s_consN, ↓s_consG, ↓s_guardFF, ↓s_thenN, ↓s_thenR, ↓s_kret, ↓s_putS, ↓s_dOkS, ↓s_ev_t, ↓s_ev_c, ↓s_ev_f, ↓s_upd, ↓s_move, ↓s_assign, ↓s_isBool, ↓s_pickA, ↓s_pick, ↓s_bin, ↓s_callV, ↓s_callL, ↓s_bin_lss, ↓s_bin_gtr, ↓s_bin_neq, boolV, List.map_cons, List.map_nil, List.getD_cons_zero, List.getD_cons_succ, List.getD_nil, ite_true, ite_false, Nat.reduceEqDiff, Nat.reduceLT, true_and, Bool.false_eq_true, Nat.succ_ne_self, decide_true, decide_false, Bool.not_true, reduceCtorEq, undefV, eq_self, undef, en_35, *]) | (refine PureF.use (right35 _ h1) ?_)))
      exact retPost_ret rfl (by simp only [resV, resAll, resOne, s_upd, Nat.reduceEqDiff, if_true, if_false, Option.bind_some, Option.map_some, tupV] <;> rfl) ⟨_, rfl, nilX⟩
    have hb : ¬ (b < 0 ∨ 100 < b) := by omega
    have hu := unkN_eq rows
    have hun : unkN rows ≤ 12 := unkN_le hr
    (repeat' (first | (simp only [↓s_skip, ↓s_reg, ↓s_seq, ↓s_seqL, ↓s_cond, ↓s_condF, ↓s_block, ↓s_loop, ↓s_nil, ↓s_consN, ↓s_consG, ↓s_guardFF, ↓s_thenN, ↓s_kret, ↓s_putS, ↓s_dOkS, ↓s_ev_t, ↓s_ev_c, ↓s_ev_f, ↓s_upd, ↓s_move, ↓s_assign, ↓s_isBool, ↓s_pickA, ↓s_pick, ↓s_bin, ↓s_callV, ↓s_callL, ↓s_bin_lss, ↓s_bin_gtr, ↓s_bin_neq, List.map_cons, List.map_nil, List.getD_cons_zero, List.getD_cons_succ, List.getD_nil, ite_true, ite_false, Nat.reduceEqDiff, Nat.reduceLT, true_and, Bool.false_eq_true, Nat.succ_ne_self, decide_true, decide_false, Bool.not_true, reduceCtorEq, undefV, eq_self, undef, en_35, en_10, *]) | (refine PureF.use (right35 _ h1) ?_) | (refine PureF.use (unknowns10 _ h1) ?_)))
    clear hu
    refine acx_loop (fun _ _ _ h => h) (fun A H' => H' = H ∧ A.d = [] ∧ A.t 0 = rowsV rows ∧ A.t 1 = iV b ∧ A.t 8 = iV (unkN rows) ∧ ∃ (i : Nat) (c : Int), i ≤ unkN rows ∧ A.t 10 = iV i ∧ A.t 9 = iV c ∧ 0 ≤ c ∧
        ((c ≤ 100000 ∧ tooMany b (unkN rows) 1 = tooMany b (unkN rows - i) c) ∨ (c = 100001 ∧ tooMany b (unkN rows) 1 = true)))
      (fun A _ => match A.t 10 with | .lit (.int _ i) => ((unkN rows : Int) - i).toNat | _ => 0) ?_ ?_
    · exact ⟨rfl, rfl, rfl, rfl, rfl, 0, 1, by omega, rfl, rfl, by omega, .inl ⟨by omega, rfl⟩⟩
    · rintro ⟨t, d⟩ H' ⟨rfl, rfl, h0, h1', h8, i, c, hi, h10, h9, hc0, hgo⟩
      dsimp only at h0 h1' h8 h10 h9
      have w1 : IntKind.i64.wrap (b + 1) = b + 1 := wrap_ok (by omega) (by omega)
      have hm0 : 0 ≤ c * (b + 1) := Int.mul_nonneg hc0 (by omega)
      have hcle : c ≤ 100001 := by omega
      have hm1 : c * (b + 1) ≤ 100001 * 101 := Int.mul_le_mul hcle (by omega) (by omega) (by omega)
      have hm2 : c ≤ c * (b + 1) := by have := Int.mul_le_mul_of_nonneg_left (show 1 ≤ b + 1 by omega) hc0; omega
      have w2 : IntKind.i64.wrap (c * (b + 1)) = c * (b + 1) := wrap_ok (by omega) (by omega)
      obtain ⟨m, hm⟩ : ∃ m, m = c * (b + 1) := ⟨_, rfl⟩
      rw [← hm] at hm0 hm1 hm2
      have hw2 : IntKind.i64.wrap (c * (b + 1)) = m := by rw [hm]; exact w2
      have ht : i < unkN rows → (100000 < m → tooMany b (unkN rows) 1 = true) ∧ (m ≤ 100000 → c ≤ 100000 → tooMany b (unkN rows) 1 = tooMany b (unkN rows - (i + 1)) m) := fun hlt => by
        have e : tooMany b (unkN rows - i) c = if 100000 < m then true else tooMany b (unkN rows - (i + 1)) m := by
          rw [show unkN rows - i = (unkN rows - (i + 1)) + 1 from by omega, tooMany, ← hm]
        constructor
        · intro h
          rcases hgo with ⟨h3, h4⟩ | ⟨h3, h4⟩
          · rw [h4, e, if_pos h]
          · exact h4
        · intro h h5
          rcases hgo with ⟨h3, h4⟩ | ⟨h3, h4⟩
          · rw [h4, e, if_neg (by omega)]
          · omega
      clear hm w2
      unfold b19_1
      (repeat' (first | (simp only [↓s_skip, ↓s_reg, ↓s_seq, ↓s_cond, ↓s_block, ↓s_exit, ↓s_nil, ↓s_consN, ↓s_thenN, ↓s_thenE, ↓s_inN, ↓s_inE, ↓s_kret, ↓s_putS, ↓s_dOkS, ↓s_ev_t, ↓s_ev_c, ↓s_upd, ↓s_move, ↓s_assign, ↓s_bin, ↓s_callB, ↓s_min, ↓s_bin_lss, ↓s_bin_add, ↓s_bin_mul, List.map_cons, List.map_nil, ite_true, ite_false, Nat.reduceEqDiff, Nat.reduceLT, true_and, Nat.succ_ne_self, decide_true, decide_false, reduceCtorEq, eq_self, vcMin, Int.ofNat_lt, *]) | (refine condL_splitD ?_ ?_ <;> intro) | (refine acx_go rfl (fun _ _ _ h => h) ?_) | (with_reducible refine And.intro ?_ ?_)))
      · have hlt : i < unkN rows := by assumption
        rw [wrap_ok (n := (i : Int) + 1) (by omega) (by omega)]
        refine ⟨i + 1, _, by omega, rfl, rfl, by split <;> omega, ?_⟩
        obtain ⟨t1, t2⟩ := ht hlt
        by_cases h5 : m ≤ 100000
        · rw [if_neg (by omega)]
          exact .inl ⟨h5, t2 h5 (by omega)⟩
        · have h6 : (if 100001 < m then (100001 : Int) else m) = 100001 := by split <;> omega
          rw [h6]
          exact .inr ⟨rfl, t1 (by omega)⟩
      · rw [wrap_ok (n := (i : Int) + 1) (by omega) (by omega)]
        omega
      · have hin : i = unkN rows := by omega
        subst hin
        clear ht hm0 hm1 hm2 w1 hw2
        unfold c19_2
        rcases hgo with ⟨h3, h4⟩ | ⟨h3, h4⟩
        · have ht : tooMany b (unkN rows) 1 = false := by rw [h4, Nat.sub_self, tooMany]
          clear h4
          have hX : pointR rows b = match fromL (allF rows) b (List.replicate (unkN rows) 0) with | some x => (x, true, 0) | none => ([], false, 0) := by
            unfold pointR; rw [if_pos hr, if_neg hb, if_neg (by simp [ht])]
          have h0n : (0 : Int) ≤ unkN rows := by omega
          have h8n : ((8 : Nat) : Int) * unkN rows ≤ 281474976710656 := by omega
          have h9n : (unkN rows : Int) ≤ 9223372036854775807 := by omega
          (repeat' (first | (simp only [↓s_skip, ↓s_reg, ↓s_seq, ↓s_seqL, ↓s_cond, ↓s_block, ↓s_ret, ↓s_loop, ↓s_nil, ↓s_consN, ↓s_thenN, ↓s_thenR, ↓s_kret, ↓s_putS, ↓s_dOkS, ↓s_ev_t, ↓s_ev_c, ↓s_upd, ↓s_move, ↓s_assign, ↓s_bin, ↓s_makeSlice, ↓s_bin_gtr, List.length_cons, List.length_nil, ite_true, ite_false, Nat.reduceEqDiff, Nat.reduceLT, true_and, Nat.succ_ne_self, decide_true, decide_false, Int.toNat_natCast, eq_self, Nat.zero_add, Int.ofNat_le, ↓n_make, n_makeS, n_makeT, zeros_int, zeroT_3, elT_37, *]) | (refine condL_splitD ?_ ?_ <;> intro) | (refine allNew_intro fun zr zh => ?_; have zg := zh; (try simp only [AH.set_none] at zg))))
          · exfalso; omega
          rename_i hc9
          have hs := GhV.slice (H := H'.set zr (.cells 3 (encC intE (List.replicate (unkN rows) 0)) 0)) (n := unkN rows) (c := unkN rows) (AH.set_same _ _ _) (by omega)
          rw [AH.del_set _ _ _ zh] at hs
          refine acx_ghost (H' := H') (Ghost.slot (i := 11) (x' := .slice false (unkN rows) (encC intE (List.replicate (unkN rows) 0))) (by simp only [s_upd, Nat.reduceEqDiff, if_false, if_true]; exact hs)) ?_
          refine acx_loopN (fun _ _ _ h => h) (fun n A H2 => H2 = H' ∧ A.d = [] ∧ A.t 0 = rowsV rows ∧ A.t 1 = iV b ∧ ∃ x : List Int, A.t 11 = intsV x ∧ Within b x ∧ x.length = unkN rows ∧
              ((A.t 12 = boolV true ∧ n = rank b x + 1 ∧ fromL (allF rows) b (List.replicate (unkN rows) 0) = fromL (allF rows) b x) ∨ (A.t 12 = boolV false ∧ n = 0 ∧ fromL (allF rows) b (List.replicate (unkN rows) 0) = none))) (n0 := rank b (List.replicate (unkN rows) 0) + 1) ?_ ?_
          · refine ⟨rfl, rfl, (by simp only [s_upd, Nat.reduceEqDiff, if_false, *] <;> rfl), (by simp only [s_upd, Nat.reduceEqDiff, if_false, *] <;> rfl), List.replicate (unkN rows) 0, ?_, ?_, by simp, .inl ⟨(by simp only [s_upd, Nat.reduceEqDiff, if_true, if_false, *] <;> rfl), rfl, rfl⟩⟩
            · simp only [s_upd, if_true]
              show _ = VV.slice false (List.replicate (unkN rows) (0 : Int)).length _
              rw [List.length_replicate]
            · intro a ha
              rw [List.eq_of_mem_replicate ha]; omega
          · rintro n ⟨t', d⟩ H2 ⟨rfl, rfl, e0, e1, x, e11, hwx, hlx, hst⟩ R hR
            dsimp only at e0 e1 e11 hst
            rcases hst with ⟨e12, rfl, hfx⟩ | ⟨e12, rfl, hfx⟩
            · unfold b19_2
              (repeat' (first | (simp only [↓s_skip, ↓s_reg, ↓s_seq, ↓s_cond, ↓s_condT, ↓s_block, ↓s_ret, ↓s_nil, ↓s_consN, ↓s_thenN, ↓s_thenR, ↓s_inN, ↓s_inR, ↓s_kret, ↓s_putS, ↓s_dOkS, ↓s_ev_t, ↓s_ev_c, ↓s_ev_f, ↓s_upd, ↓s_move, ↓s_assign, ↓s_extract, ↓s_callV, ↓s_callL, vcExtract, boolV, List.map_cons, List.map_nil, ite_true, ite_false, Nat.reduceEqDiff, Nat.reduceLT, true_and, Nat.succ_ne_self, reduceCtorEq, eq_self, List.getElem?_cons_zero, List.getElem?_cons_succ, en_43, en_44, *]) | (refine condL_split ?_ ?_ <;> intro) | (refine PureF.use (all43 rows x h1 (by omega)) ?_) | (refine PureF.use (next44 x b (by omega) (by omega) hwx) ?_)))
              · have hp : allF rows x = true := by assumption
                rw [pointRX_of (p := (x, true, 0)) (by rw [hX, hfx, fromL_hit hp])]
                exact retPost_ret rfl (by simp only [resV, resAll, resOne, s_upd, Nat.reduceEqDiff, if_true, if_false, Option.bind_some, Option.map_some, tupV] <;> rfl) ⟨_, rfl, GhV.refl _ _⟩
              · have hp : allF rows x = false := by assumption
                cases hy : nextL b x with
                | some y =>
                  have e : nextF b x = (y, true) := by simp only [nextF, hy]
                  rw [e]
                  refine hR (rank b y + 1) _ _ (by have := nextL_rank (by omega) hwx hy; omega) ⟨rfl, rfl, (by simp only [s_upd, Nat.reduceEqDiff, if_false, *] <;> rfl), (by simp only [s_upd, Nat.reduceEqDiff, if_false, *] <;> rfl), y, (by simp only [s_upd, Nat.reduceEqDiff, if_true, if_false, *] <;> rfl), nextL_within (by omega) hwx hy, (nextL_len hy).trans hlx, .inl ⟨(by simp only [s_upd, Nat.reduceEqDiff, if_true, if_false, *] <;> rfl), rfl, ?_⟩⟩
                  rw [hfx]; exact fromL_next (by omega) hwx hp hy
                | none =>
                  have e : nextF b x = (x.map fun _ => 0, false) := by simp only [nextF, hy]
                  rw [e]
                  refine hR 0 _ _ (by omega) ⟨rfl, rfl, (by simp only [s_upd, Nat.reduceEqDiff, if_false, *] <;> rfl), (by simp only [s_upd, Nat.reduceEqDiff, if_false, *] <;> rfl), _, (by simp only [s_upd, Nat.reduceEqDiff, if_true, if_false, *] <;> rfl), ?_, by simp [hlx], .inr ⟨(by simp only [s_upd, Nat.reduceEqDiff, if_true, if_false, *] <;> rfl), rfl, ?_⟩⟩
                  · intro a ha
                    obtain ⟨_, _, rfl⟩ := List.mem_map.1 ha
                    omega
                  · rw [hfx]; exact fromL_end hp hy
            · unfold b19_2 c19_1
              rw [pointRX_of (p := ([], false, 0)) (by rw [hX, hfx])]
              clear hR
              (repeat' (first | (simp only [↓s_reg, ↓s_seq, ↓s_cond, ↓s_condF, ↓s_exit, ↓s_ret, ↓s_nil, ↓s_consN, ↓s_thenN, ↓s_thenE, ↓s_inE, ↓s_putS, ↓s_dOkS, ↓s_ev_t, ↓s_ev_c, ↓s_upd, ↓s_move, ↓s_assign, boolV, ite_true, Nat.reduceLT, true_and, eq_self, *]) | (refine acx_go rfl (fun _ _ _ h => h) ?_)))
              exact retPost_ret rfl (by simp only [resV, resAll, resOne, s_upd, Nat.reduceEqDiff, if_true, if_false, Option.bind_some, Option.map_some, tupV] <;> rfl) ⟨_, rfl, nilX⟩
        · rw [pointRX_of (p := ([], false, 7)) (by unfold pointR; rw [if_pos hr, if_neg hb, if_pos h4])]
          (repeat' (first | (simp only [↓s_reg, ↓s_seq, ↓s_cond, ↓s_condT, ↓s_ret, ↓s_nil, ↓s_consN, ↓s_thenN, ↓s_thenR, ↓s_kret, ↓s_putS, ↓s_dOkS, ↓s_ev_t, ↓s_ev_c, ↓s_upd, ↓s_move, ↓s_assign, ↓s_bin, ↓s_bin_gtr, boolV, ite_true, ite_false, Nat.reduceEqDiff, Nat.reduceLT, true_and, Nat.succ_ne_self, decide_true, eq_self, Int.reduceLT, *])))
          exact retPost_ret rfl (by simp only [resV, resAll, resOne, s_upd, Nat.reduceEqDiff, if_true, if_false, Option.bind_some, Option.map_some, tupV] <;> rfl) ⟨_, rfl, nilX⟩
  · rw [pointRX_of (p := ([], false, rightF rows)) (by simp [pointR, *])]
    (repeat' (first | (simp only [↓s_reg, ↓s_seq, ↓s_cond, ↓s_condT, ↓s_ret, ↓s_nil, ↓s_consN, ↓s_thenN, ↓s_thenR, ↓s_kret, ↓s_putS, ↓s_dOkS, ↓s_ev_t, ↓s_ev_c, ↓s_ev_f, ↓s_upd, ↓s_move, ↓s_assign, ↓s_bin, ↓s_callV, ↓s_callL, ↓s_bin_neq, boolV, List.map_cons, List.map_nil, List.getD_cons_zero, List.getD_cons_succ, List.getD_nil, ite_true, ite_false, Nat.reduceEqDiff, Nat.reduceLT, true_and, Nat.succ_ne_self, decide_false, Bool.not_false, reduceCtorEq, undefV, eq_self, undef, en_35, *]) | (refine PureF.use (right35 _ h1) ?_)))
    exact retPost_ret rfl (by simp only [resV, resAll, resOne, s_upd, Nat.reduceEqDiff, if_true, if_false, Option.bind_some, Option.map_some, tupV] <;> rfl) ⟨_, rfl, nilX⟩
end Go.PV.Ytefpjfpelicedaa
end
section
/- The plain law of ArithDerives: the reference's answers are the program's. -/
set_option linter.unusedVariables false
set_option linter.unusedSimpArgs false
set_option maxRecDepth 20000
namespace Go.PV.Ytefpjfpelicedaa
open Go Go.Proofs
theorem W_W (a : Int) : W (W a) = W a := by
  have h1 : -9223372036854775808 ≤ IntKind.i64.wrap a := by rw [IntKind.wrap_i64]; omega
  have h2 : IntKind.i64.wrap a ≤ 9223372036854775807 := by rw [IntKind.wrap_i64]; omega
  exact wrap_ok h1 h2
theorem ful_rest (r : Row) : ∀ (ys : List Int) (k : Nat) (s : Int), r.c.length ≤ k → W s = s → fulGo r ys k s = s
  | [], k, s, _, _ => rfl
  | y :: ys, k, s, hk, hs => by
    have hc : coeffF r k = 0 := by unfold coeffF; rw [if_neg (by omega)]
    have e : W (s + W (0 * y)) = s := by rw [Int.zero_mul, show W 0 = 0 from wrap_ok (by omega) (by omega), Int.add_zero, hs]
    rw [fulGo, hc, e]
    exact ful_rest r ys (k + 1) s (by omega) hs
theorem ful_dot (r : Row) : ∀ (ys : List Int) (k : Nat) (s : Int), r.c.length ≤ k + ys.length → W s = s → fulGo r ys k s = dotGo (r.c.drop k) ys s
  | [], k, s, h, _ => by
    rw [List.drop_eq_nil_of_le (by simpa using h)]; rfl
  | y :: ys, k, s, h, hs => by
    by_cases hk : k < r.c.length
    · have hc : coeffF r k = r.c[k] := by
        unfold coeffF
        rw [if_pos (by omega)]
        simp [List.getD_eq_getElem?_getD, hk]
      rw [List.drop_eq_getElem_cons hk, fulGo, dotGo, hc]
      exact ful_dot r ys (k + 1) _ (by simp only [List.length_cons] at h; omega) (W_W _)
    · rw [ful_rest r _ k s (by omega) hs, List.drop_eq_nil_of_le (by omega)]
      rfl
theorem over_ful {r : Row} {x : List Int} (h : r.c.length ≤ x.length) : (!over x r) = fulF r x := by
  unfold over fulF
  rw [ful_dot r x 0 0 (by omega) (wrap_ok (by omega) (by omega)), List.drop_zero, Bool.eq_iff_iff]
  simp
end Go.PV.Ytefpjfpelicedaa
end
section
/- The reference's elimination keeps what rational numbers fulfil; the laws on Refute. -/
set_option linter.unusedVariables false
set_option linter.unusedSimpArgs false
set_option maxRecDepth 20000
namespace Go.PV.Ytefpjfpelicedaa
open Go Go.Proofs
def redF (r : Row) : Row :=
  if commonGo r.c r.b = 0 then r else ⟨r.c.map fun c => W (c.tdiv (max (commonGo r.c r.b) (W (-(commonGo r.c r.b))))), W (r.b.tdiv (max (commonGo r.c r.b) (W (-(commonGo r.c r.b)))))⟩
def combU (a b : Row) (k : Nat) : Row := ⟨List.zipWith (fun x y => W (W (x * W (-(b.c.getD k 0))) + W (y * a.c.getD k 0))) a.c b.c, W (W (a.b * W (-(b.c.getD k 0))) + W (b.b * a.c.getD k 0))⟩
def combF (a b : Row) (k : Nat) : Row := redF (combU a b k)
def nextQ (k : Nat) (l : List Row) : List Row := l.flatMap fun a => (if a.c.getD k 0 = 0 then [a] else []) ++ (l.filter fun b => decide (0 < a.c.getD k 0) && decide (b.c.getD k 0 < 0)).map fun b => combF a b k
def unitR (n i : Nat) : Row := ⟨(List.replicate n 0).set i (-1), 0⟩
def ratGo (n : Nat) : Nat → Nat → List Row → List Row
  | 0, _, l => l
  | r + 1, k, l => ratGo n r (k + 1) (nextQ k l)
def ratF (rows : List Row) : Bool := (ratGo (unkN rows) (unkN rows) 0 (rows.map (fun r => wideR r (unkN rows)) ++ (List.range (unkN rows)).map (unitR (unkN rows)))).all fun r => decide (0 ≤ r.b)
theorem commonGo_spec2 : ∀ (cs : List Int) (g : Int), In64 g → (∀ c ∈ cs, In64 c) → In64 (commonGo cs g) ∧ commonGo cs g ∣ g ∧ (∀ c ∈ cs, commonGo cs g ∣ c)
  | [], g, hg, _ => ⟨hg, Int.dvd_refl _, by simp⟩
  | c :: cs, g, hg, hc => by
    have hc0 := hc c (List.mem_cons_self ..)
    have e : gcdF g c = (Int.gcd g c : Int) := gcdF_eq hg hc0
    obtain ⟨h2, h3, h4⟩ := commonGo_spec2 cs (Int.gcd g c) (gcd_in hg hc0) (fun x hx => hc x (List.mem_cons_of_mem _ hx))
    rw [commonGo, e]
    refine ⟨h2, Int.dvd_trans h3 (Int.gcd_dvd_left ..), fun x hx => ?_⟩
    rcases List.mem_cons.1 hx with rfl | hx
    · exact Int.dvd_trans h3 (Int.gcd_dvd_right ..)
    · exact h4 x hx
theorem redF_val {r : Row} (hb : In64 r.b) (hc : ∀ c ∈ r.c, In64 c) : redF r = r ∨ ∃ g, 0 < g ∧ g ∣ r.b ∧ (∀ c ∈ r.c, g ∣ c) ∧ redF r = ⟨r.c.map fun c => c.tdiv g, r.b.tdiv g⟩ := by
  obtain ⟨h1, h2, h3⟩ := commonGo_spec2 r.c r.b hb hc
  by_cases h0 : commonGo r.c r.b = 0
  · left; unfold redF; rw [if_pos h0]
  · right
    have hm : max (commonGo r.c r.b) (W (-(commonGo r.c r.b))) = ((commonGo r.c r.b).natAbs : Int) := max_abs h1
    have w : ∀ c : Int, In64 c → W (c.tdiv ((commonGo r.c r.b).natAbs : Int)) = c.tdiv ((commonGo r.c r.b).natAbs : Int) := fun c hc => by
      have := Int.natAbs_tdiv_le_natAbs c ((commonGo r.c r.b).natAbs : Int)
      unfold In64 at hc
      exact wrap_ok (by omega) (by omega)
    refine ⟨((commonGo r.c r.b).natAbs : Int), by omega, Int.natAbs_dvd.2 h2, fun c hc' => Int.natAbs_dvd.2 (h3 c hc'), ?_⟩
    unfold redF
    rw [if_neg h0, hm, w _ hb]
    congr 1
    exact List.map_congr_left fun c hc' => w c (hc c hc')
theorem combU_val {a b : Row} {k n : Nat} {C B : Int} (ha : Bd C B a) (hb : Bd C B b) (hC : 0 ≤ C ∧ C ≤ 1000000) (hB : 0 ≤ B ∧ B ≤ 1000000000000) (h1 : 0 < a.c.getD k 0) (h2 : b.c.getD k 0 < 0) :
    combU a b k = ⟨sumL a.c b.c (-(b.c.getD k 0)) (a.c.getD k 0), a.b * (-(b.c.getD k 0)) + b.b * a.c.getD k 0⟩ := by
  have ga := bd_get ha hC.1 k
  have gb := bd_get hb hC.1 k
  have hn : W (-(b.c.getD k 0)) = -(b.c.getD k 0) := wrap_ok (by omega) (by omega)
  have cc : C * C ≤ 1000000 * 1000000 := Int.mul_le_mul hC.2 hC.2 hC.1 (by omega)
  have bc : B * C ≤ 1000000000000 * 1000000 := Int.mul_le_mul hB.2 hC.2 hC.1 (by omega)
  have w : ∀ x y M : Int, -M ≤ x ∧ x ≤ M → -M ≤ y ∧ y ≤ M → M * C ≤ 1000000000000000000 → W (W (x * -(b.c.getD k 0)) + W (y * a.c.getD k 0)) = x * -(b.c.getD k 0) + y * a.c.getD k 0 := fun x y M hx hy hM => by
    have x1 := abs_mul hx (show 0 ≤ -(b.c.getD k 0) ∧ -(b.c.getD k 0) ≤ C by omega)
    have x2 := abs_mul hy (show 0 ≤ a.c.getD k 0 ∧ a.c.getD k 0 ≤ C by omega)
    rw [show W (x * -(b.c.getD k 0)) = x * -(b.c.getD k 0) from wrap_ok (by omega) (by omega), show W (y * a.c.getD k 0) = y * a.c.getD k 0 from wrap_ok (by omega) (by omega)]
    exact wrap_ok (by omega) (by omega)
  unfold combU
  rw [hn, w _ _ B ha.2 hb.2 (by omega)]
  congr 1
  unfold sumL
  have key : ∀ (l m : List Int), (∀ c ∈ l, -C ≤ c ∧ c ≤ C) → (∀ c ∈ m, -C ≤ c ∧ c ≤ C) → List.zipWith (fun x y => W (W (x * -(b.c.getD k 0)) + W (y * a.c.getD k 0))) l m = List.zipWith (fun x y => x * -(b.c.getD k 0) + y * a.c.getD k 0) l m := by
    intro l
    induction l with
    | nil => intro m _ _; rfl
    | cons x l ih =>
      intro m hl hm
      cases m with
      | nil => rfl
      | cons y m =>
        rw [List.zipWith_cons_cons, List.zipWith_cons_cons, w x y C (hl x (List.mem_cons_self ..)) (hm y (List.mem_cons_self ..)) (by omega), ih m (fun c hc => hl c (List.mem_cons_of_mem _ hc)) (fun c hc => hm c (List.mem_cons_of_mem _ hc))]
  exact key _ _ ha.1 hb.1
structure QRow (n k : Nat) (C B D : Int) (X : List Int) (r : Row) : Prop where
  len : r.c.length = n
  bd : Bd C B r
  sat : SatQ D X r
  zero : ∀ j, j < k → r.c.getD j 0 = 0
theorem combF_ok {n k : Nat} {C B D : Int} {X : List Int} {a b : Row} (hD : 0 < D) (ha : QRow n k C B D X a) (hb : QRow n k C B D X b) (hC : 0 ≤ C ∧ C ≤ 1000000) (hB : 0 ≤ B ∧ B ≤ 1000000000000) (h1 : 0 < a.c.getD k 0) (h2 : b.c.getD k 0 < 0) :
    QRow n (k + 1) (2 * (C * C)) (2 * (B * C)) D X (combF a b k) := by
  have e := combU_val ha.bd hb.bd (n := n) hC hB h1 h2
  have ga := bd_get ha.bd hC.1 k
  have gb := bd_get hb.bd hC.1 k
  have cc : C * C ≤ 1000000 * 1000000 := Int.mul_le_mul hC.2 hC.2 hC.1 (by omega)
  have bc : B * C ≤ 1000000000000 * 1000000 := Int.mul_le_mul hB.2 hC.2 hC.1 (by omega)
  have hlen : a.c.length = b.c.length := by rw [ha.len, hb.len]
  have hu : QRow n (k + 1) (2 * (C * C)) (2 * (B * C)) D X (combU a b k) := by
    rw [e]
    refine ⟨by simp [sumL, ha.len, hb.len], ⟨sumL_bd ha.bd.1 hb.bd.1 (by omega) (by omega), ?_⟩, ?_, fun j hj => ?_⟩
    · have x1 := abs_mul ha.bd.2 (show 0 ≤ -(b.c.getD k 0) ∧ -(b.c.getD k 0) ≤ C by omega)
      have x2 := abs_mul hb.bd.2 (show 0 ≤ a.c.getD k 0 ∧ a.c.getD k 0 ≤ C by omega)
      simp only
      omega
    · show dot (sumL a.c b.c _ _) X ≤ (a.b * _ + b.b * _) * D
      rw [dot_sum _ _ _ _ _ hlen, Int.add_mul]
      have s1 := Int.mul_le_mul_of_nonneg_right ha.sat (show 0 ≤ -(b.c.getD k 0) by omega)
      have s2 := Int.mul_le_mul_of_nonneg_right hb.sat (show 0 ≤ a.c.getD k 0 by omega)
      rw [Int.mul_right_comm] at s1 s2
      omega
    · show (sumL a.c b.c _ _).getD j 0 = 0
      rw [sumL_get hlen]
      by_cases hjk : j = k
      · subst hjk
        have : b.c.getD j 0 * a.c.getD j 0 = a.c.getD j 0 * b.c.getD j 0 := Int.mul_comm _ _
        rw [Int.mul_neg]
        omega
      · rw [ha.zero j (by omega), hb.zero j (by omega)]; simp
  unfold combF
  generalize combU a b k = u at *
  have hin : In64 u.b ∧ ∀ c ∈ u.c, In64 c := by
    have := hu.bd.2
    refine ⟨by unfold In64; omega, fun c hc => ?_⟩
    have := hu.bd.1 c hc
    unfold In64; omega
  rcases redF_val hin.1 hin.2 with e | ⟨g, g0, gb, gc, e⟩
  · rw [e]; exact hu
  · rw [e]
    refine ⟨by simpa using hu.len, ⟨fun c hc => ?_, abs_tdiv hu.bd.2⟩, ?_, fun j hj => ?_⟩
    · obtain ⟨x, hx, rfl⟩ := List.mem_map.1 hc
      exact abs_tdiv (hu.bd.1 x hx)
    · show dot (u.c.map fun c => c.tdiv g) X ≤ u.b.tdiv g * D
      have h := hu.sat
      unfold SatQ at h
      rw [dot_div u.c g X fun c hc => Int.tmod_eq_zero_of_dvd (gc c hc)] at h
      have hb := tdiv_dvd gb
      have e2 : u.b * D = u.b.tdiv g * D * g := by
        conv => lhs; rw [← hb]
        exact Int.mul_right_comm _ _ _
      rw [e2] at h
      exact Int.le_of_mul_le_mul_right h g0
    · show (u.c.map fun c => c.tdiv g).getD j 0 = 0
      rw [map_tdiv_get, hu.zero j hj]; simp
theorem QRow.mono {n k : Nat} {C B C' B' D : Int} {X : List Int} {r : Row} (h : QRow n k C B D X r) (hC : C ≤ C') (hB : B ≤ B') (hz : r.c.getD k 0 = 0) : QRow n (k + 1) C' B' D X r :=
  ⟨h.len, h.bd.mono hC hB, h.sat, fun j hj => by
    by_cases e : j = k
    · subst e; exact hz
    · exact h.zero j (by omega)⟩
theorem nextQ_ok {n k : Nat} {C B D : Int} {X : List Int} {l : List Row} (hD : 0 < D) (hl : ∀ r ∈ l, QRow n k C B D X r) (hC : 1 ≤ C ∧ C ≤ 1000000) (hB : 0 ≤ B ∧ B ≤ 1000000000000) : ∀ r ∈ nextQ k l, QRow n (k + 1) (2 * (C * C)) (2 * (B * C)) D X r := by
  have gC : C ≤ 2 * (C * C) := by
    have := Int.mul_le_mul_of_nonneg_left (show 1 ≤ C by omega) (show 0 ≤ C by omega)
    omega
  have gB : B ≤ 2 * (B * C) := by
    have := Int.mul_le_mul_of_nonneg_left (show 1 ≤ C by omega) hB.1
    omega
  intro r hr
  unfold nextQ at hr
  obtain ⟨a, ha, hr⟩ := List.mem_flatMap.1 hr
  rcases List.mem_append.1 hr with hr | hr
  · split at hr
    · rename_i h0
      rw [List.mem_singleton.1 hr]
      exact (hl a ha).mono gC gB h0
    · cases hr
  · obtain ⟨b, hb, rfl⟩ := List.mem_map.1 hr
    obtain ⟨hb, hc⟩ := List.mem_filter.1 hb
    rw [Bool.and_eq_true, decide_eq_true_eq, decide_eq_true_eq] at hc
    exact combF_ok hD (hl a ha) (hl b hb) ⟨by omega, hC.2⟩ hB hc.1 hc.2
def LvQ : Nat → Int → Int → Prop
  | 0, _, _ => True
  | r + 1, C, B => (1 ≤ C ∧ C ≤ 1000000) ∧ (0 ≤ B ∧ B ≤ 1000000000000) ∧ LvQ r (2 * (C * C)) (2 * (B * C))
theorem ratGo_ok {n : Nat} {D : Int} {X : List Int} (hD : 0 < D) : ∀ (r k : Nat) (l : List Row) (C B : Int), LvQ r C B → (∀ x ∈ l, QRow n k C B D X x) → ∀ x ∈ ratGo n r k l, ∃ C B, QRow n (k + r) C B D X x
  | 0, k, l, C, B, _, h => fun x hx => ⟨C, B, h x hx⟩
  | r + 1, k, l, C, B, ⟨h1, h2, h3⟩, h => fun x hx => by
    rw [ratGo] at hx
    have := ratGo_ok hD r (k + 1) (nextQ k l) _ _ h3 (nextQ_ok hD h h1 h2) x hx
    rw [show k + 1 + r = k + (r + 1) from by omega] at this
    exact this
theorem lvq_small {n : Nat} (h : n ≤ 3) : LvQ n 10 100 := by
  have h3 : LvQ 3 10 100 := ⟨⟨by decide, by decide⟩, ⟨by decide, by decide⟩, ⟨by decide, by decide⟩, ⟨by decide, by decide⟩, ⟨by decide, by decide⟩, ⟨by decide, by decide⟩, trivial⟩
  rcases n with _ | _ | _ | _ | n
  · trivial
  · exact ⟨h3.1, h3.2.1, trivial⟩
  · exact ⟨h3.1, h3.2.1, h3.2.2.1, h3.2.2.2.1, trivial⟩
  · exact h3
  · omega
theorem wide_small {rows : List Row} {n : Nat} (hr : ∀ r ∈ rows, r.c.length ≤ n) (hs : ∀ r ∈ rows, smallRow r) : ∀ r ∈ rows, Bd 10 100 (wideR r n) := fun r hr' => by
  refine ⟨fun c hc => ?_, (hs r hr').1⟩
  unfold wideR at hc
  simp only at hc
  rw [wideL_eq (hr r hr')] at hc
  rcases List.mem_append.1 hc with hc | hc
  · exact (hs r hr').2 c hc
  · rw [List.eq_of_mem_replicate hc]; omega
theorem unit_small (n i : Nat) : Bd 10 100 (unitR n i) := by
  refine ⟨fun c hc => ?_, by simp [unitR]⟩
  rcases List.mem_or_eq_of_mem_set hc with hc | rfl
  · rw [List.eq_of_mem_replicate hc]; omega
  · omega
theorem rat_true {rows : List Row} (hn : unkN rows ≤ 3) (hs : ∀ r ∈ rows, smallRow r) (h : ∃ D X, 0 < D ∧ X.length = unkN rows ∧ (∀ x ∈ X, 0 ≤ x) ∧ ∀ r ∈ rows, dot r.c X ≤ r.b * D) : ratF rows = true := by
  obtain ⟨D, X, hD, hX, hx, hr⟩ := h
  unfold ratF
  rw [List.all_eq_true]
  intro r hr'
  have h0 : ∀ q ∈ rows.map (fun r => wideR r (unkN rows)) ++ (List.range (unkN rows)).map (unitR (unkN rows)), QRow (unkN rows) 0 10 100 D X q := fun q hq => by
    rcases List.mem_append.1 hq with hq | hq
    · obtain ⟨p, hp, rfl⟩ := List.mem_map.1 hq
      refine ⟨wide_len _ _, wide_small (fun r h => len_unkN h) hs p hp, ?_, fun j hj => by omega⟩
      unfold SatQ wideR
      simp only
      rw [wideL_eq (len_unkN hp), dot_append]
      exact hr p hp
    · obtain ⟨i, hi, rfl⟩ := List.mem_map.1 hq
      have hi := List.mem_range.1 hi
      refine ⟨by simp [unitR], unit_small _ _, ?_, fun j hj => by omega⟩
      unfold SatQ unitR
      simp only
      rw [dot_unit _ i (-1) X hX, if_pos hi, List.getD_eq_getElem?_getD, List.getElem?_eq_getElem (by omega)]
      have := hx _ (List.getElem_mem (show i < X.length by omega))
      simp
      omega
  obtain ⟨C, B, q⟩ := ratGo_ok hD _ 0 _ 10 100 (lvq_small hn) h0 r hr'
  have hz : ∀ c ∈ r.c, c = 0 := fun c hc => by
    obtain ⟨j, hj, rfl⟩ := List.getElem_of_mem hc
    have := q.zero j (by have := q.len; omega)
    rw [List.getD_eq_getElem?_getD, List.getElem?_eq_getElem hj] at this
    exact this
  have hsat := q.sat
  unfold SatQ at hsat
  rw [List.eq_replicate_iff.2 ⟨rfl, hz⟩, dot_zeros] at hsat
  refine decide_eq_true (Int.le_of_not_gt fun hb => ?_)
  have := Int.mul_le_mul_of_nonneg_right (show r.b ≤ -1 by omega) (show 0 ≤ D by omega)
  omega
theorem cert_no_point {rows : List Row} {ls : List Line} {x : List Int} (hc : checkF rows ls = 0) (hl : x.length = unkN rows) (hx : SmallX x) (ha : allF rows x = true) : False := by
  obtain ⟨hr, h2, h3, h4, e⟩ := checkF_zero hc
  have h12 := unkN_le hr
  have hro := (rightF_ok hr).2
  have hsat : ∀ r ∈ rows, r.c.length ≤ unkN rows ∧ Sat x r := fun r hr' => by
    obtain ⟨r1, r2, r3⟩ := hro r hr'
    refine ⟨len_unkN hr', ?_⟩
    unfold allF at ha
    have h := List.all_eq_true.1 ha r hr'
    rw [← over_ful (by rw [hl]; exact len_unkN hr')] at h
    simp only [over, Bool.not_eq_true', decide_eq_false_iff_not] at h
    rw [dotGo_eq rfl rfl r.c x 0 (fun c hc => by have := r3 c hc; simp [far] at this; omega) hx (by omega) (by omega)] at h
    show dot r.c x ≤ r.b
    omega
  have hd := deriveGo_sat hx hl.symm hsat ls [] (by simp)
  obtain ⟨l1, l2⟩ := lastF_zero h4
  generalize (deriveGo rows (unkN rows) [] ls).1 = M at *
  have hp : 0 < M.length := List.length_pos_iff.2 l1
  obtain ⟨f1, f2⟩ := hd _ (rowAt_mem (a := (M.length : Int) - 1) (by omega) (by omega))
  obtain ⟨z1, z2⟩ := absurd_out l2
  unfold Sat at f2
  rw [List.eq_replicate_iff.2 ⟨rfl, z2⟩, dot_zeros] at f2
  omega
theorem findL_prop {p : List Int → Bool} {b : Int} (hb : 0 ≤ b) : ∀ (n : Nat) (x y : List Int), Within b x → findL p b n x = some y → p y = true ∧ Within b y ∧ y.length = x.length
  | 0, _, _, _, h => by simp [findL] at h
  | n + 1, x, y, hx, h => by
    simp only [findL] at h
    split at h
    · rename_i hp; cases h; exact ⟨hp, hx, rfl⟩
    · cases e : nextL b x with
      | none => rw [e] at h; cases h
      | some z =>
        rw [e] at h
        obtain ⟨h1, h2, h3⟩ := findL_prop hb n z y (nextL_within hb hx e) h
        exact ⟨h1, h2, h3.trans (nextL_len e)⟩
theorem point_some {rows : List Row} (h : (pointR rows 6).2.1 = true) : ∃ x, x.length = unkN rows ∧ SmallX x ∧ allF rows x = true := by
  unfold pointR at h
  split at h
  · split at h
    · cases h
    · split at h
      · cases h
      · split at h
        · rename_i y hy
          obtain ⟨h1, h2, h3⟩ := findL_prop (by omega) _ _ _ (fun a ha => by rw [List.eq_of_mem_replicate ha]; omega) hy
          refine ⟨y, by simpa using h3, fun a ha => ?_, h1⟩
          have := h2 a ha
          omega
        · cases h
  · cases h
/-- Refute, of few small rows. -/
theorem refute_small {rows : List Row} (hr : rightF rows = 0) (hu : unkN rows ≤ 3) (hl : rows.length ≤ 5) (hs : ∀ r ∈ rows, smallRow r) :
    (refuteF rows 5000).2.2 = 0 ∧ ((refuteF rows 5000).2.1 = true ∨ ratF rows = true) ∧ ((refuteF rows 5000).2.1 = true → (pointR rows 6).2.1 = false) := by
  have hsm := search_small hu hl (fun r h => len_unkN h) hs
  have key : (refuteF rows 5000).2.2 = 0 ∧ ((refuteF rows 5000).2.1 = true ∨ ratF rows = true) := by
    unfold refuteF
    rw [if_pos hr, if_neg (by omega)]
    rcases hsm with ⟨s', e⟩ | ⟨s', e, _⟩
    · rw [e]; exact ⟨rfl, .inl rfl⟩
    · have hp := search_point (by omega) (by omega) (fun r h => len_unkN h) e
      rw [e]; exact ⟨rfl, .inr (rat_true hu hs hp)⟩
  refine ⟨key.1, key.2, fun hi => ?_⟩
  cases hp : (pointR rows 6).2.1 with
  | false => rfl
  | true =>
    obtain ⟨x, x1, x2, x3⟩ := point_some hp
    exact (cert_no_point (refute_cert (l := (refuteF rows 5000).1) (by rw [← hi, ← key.1])).1 x1 x2 x3).elim
theorem refute_codes {rows : List Row} {most : Int} (hr : rightF rows = 0) (hm : ¬ (most < 0 ∨ 5000 < most)) : ((refuteF rows most).2.2 = 0 ∨ (refuteF rows most).2.2 = 7 ∨ (refuteF rows most).2.2 = 8) ∧ ((refuteF rows most).2.1 = false → (refuteF rows most).1 = []) := by
  have hg := search_good (rows := rows) (n := unkN rows) (most := most) (by omega)
  unfold refuteF
  rw [if_pos hr, if_neg hm]
  split
  · exact ⟨.inl rfl, fun _ => rfl⟩
  · exact ⟨.inl rfl, fun h => by cases h⟩
  · rename_i c st he
    rw [he] at hg
    exact ⟨.inr hg.2, fun _ => rfl⟩
end Go.PV.Ytefpjfpelicedaa
end
section
/- The reference's row of a line: what stands behind the four kinds. -/
set_option linter.unusedVariables false
set_option linter.unusedSimpArgs false
set_option maxRecDepth 20000
set_option maxHeartbeats 4000000
namespace Go.PV.Ytefpjfpelicedaa
open Go Go.Proofs
theorem far2_def (a : Int) : (!(decide (-1000000000000 ≤ a) && decide (a ≤ 1000000000000))) = far2 a := rfl
def P50 (H0 : AH) (x : VV) : APost := retPost Try.prog [.cell 8 39, .tmp 9] fun e H' => ∃ y, e = .ret y ∧ GhV H' y H0 x
/-- The ending of a line that is none. -/
theorem bad50 {H0 H : AH} {t : Nat → VV} {r8 sp8 : Nat} {e8 : TypeId} {z : Int} (h8 : t 8 = ptrV r8 0) (h9 : t 9 = iV z) (k8 : H r8 = some (.cells e8 [.lit (.slice none 0 0), iV 0] sp8)) (hs : SubH H0 H) :
    P50 H0 (.tuple [rowV ⟨[], 0⟩, iV z]) .ret ⟨t, []⟩ H := by
  unfold P50
  refine retPost_ret rfl (x := .tuple [.agg [.lit (.slice none 0 0), iV 0], iV z]) (by simp only [resV, resAll, resOne, ldT_39, h8, h9, k8, ptrV, List.drop_zero, ldV_t2, Option.bind_some, Option.map_some, tupV]) ⟨_, rfl, ?_⟩
  exact GhV.tuple (GhL.cons (GhV.agg (GhL.cons ((GhV.nil _).trans (GhV.forget hs _)) (GhL.cons (GhV.refl _ _) (GhL.nil _)))) (GhL.cons (GhV.refl _ _) (GhL.nil _)))
/-- The state in front of the end: the row so far is 'cs', 'b'. -/
structure St50 (H0 H : AH) (t : Nat → VV) (l : Line) (n r6 r8 r10 : Nat) (cs : List Int) (b : Int) : Prop where
  h3 : t 3 = iV n
  h6 : t 6 = ptrV r6 0
  h8 : t 8 = ptrV r8 0
  h10 : t 10 = ptrV r10 0
  n6 : H0 r6 = none
  n8 : H0 r8 = none
  n10 : H0 r10 = none
  d68 : ¬ r6 = r8
  d610 : ¬ r6 = r10
  d810 : ¬ r8 = r10
  mem : ∃ v Hb, OwnX Hb H 3 1 v cs.length (encC intE cs) ∧ Hb r10 = some (.cells 39 [v, iV b] 0) ∧ Hb r6 = some (.cells 83 (lineE l) 0) ∧ Hb r8 = some (.cells 39 [.lit (.slice none 0 0), iV 0] 0) ∧ SubH H0 Hb
theorem rest50 {H0 H : AH} {t : Nat → VV} {l : Line} {n r6 r8 r10 : Nat} {cs : List Int} {b : Int} (h : St50 H0 H t l n r6 r8 r10 cs b) (hcs : cs.length = n) (hn : (n : Int) ≤ 1000) {x : VV} (hx : x = .tuple [rowV (outF ⟨cs, b⟩).1, iV (outF ⟨cs, b⟩).2]) :
    vc ⟨Try.prog, 307, none⟩ c50_5 (P50 H0 x) ⟨t, []⟩ H := by
  subst hx
  obtain ⟨h3, h6, h8, h10, n6, n8, n10, d68, d610, d810, v, Hb, ho, k10, k6, k8, hs⟩ := h
  have q10 := ho.sub _ _ k10
  have q8 := ho.sub _ _ k8
  have hs' : SubH H0 H := hs.trans ho.sub
  unfold c50_5
  by_cases hb : far2 b = true
  · (repeat' (first | (simp only [↓s_reg, ↓s_seq, ↓s_cond, ↓s_condT, ↓s_ret, ↓s_nil, ↓s_consN, ↓s_thenN, ↓s_thenR, ↓s_kret, ↓s_putS, ↓s_putN, ↓s_dOkS, ↓s_dOkN, ↓s_ev_t, ↓s_ev_c, ↓s_ev_f, ↓s_upd, ↓s_assign, ↓s_load, ↓s_store, ↓s_un, ↓s_build, ↓s_fieldAddr, ↓s_callV, ↓s_callL, ↓s_un_not, ptrV, boolV, List.map_cons, List.map_nil, List.length_cons, List.length_nil, ite_true, ite_false, Nat.reduceEqDiff, Nat.reduceLT, Nat.reduceAdd, ne_eq, not_false_eq_true, true_and, Nat.succ_ne_self, vcBuild, fillV, setAt, List.all_cons, List.all_nil, Bool.and_self, eq_self, Nat.zero_add, List.drop, ldV_f, on_int, on_sl, cl_agg, List.set_cons_zero, List.set_cons_succ, Nat.le_refl, n_ldP, n_faP, n_ldA, n_ldB, n_faA, n_stP, n_stA, Int.reduceNeg, flT_39_1, ldT_3, szT_39, stT_39, en_55, far2_def, *]) | (refine PureF.use (within55 _ _ (by decide)) ?_)))
    simp only [outF, hb, Bool.true_or, if_true]
    exact bad50 (by simp only [s_upd, Nat.reduceEqDiff, if_false, *] <;> rfl) (by simp only [s_upd, Nat.reduceEqDiff, if_true, if_false, *] <;> rfl) (by rw [AH.set_same]) (hs'.of_set n8)
  · have hb' : far2 b = false := by simpa using hb
    clear hb
    (repeat' (first | (simp only [↓s_skip, ↓s_reg, ↓s_seq, ↓s_seqL, ↓s_cond, ↓s_condF, ↓s_block, ↓s_loop, ↓s_nil, ↓s_consN, ↓s_thenN, ↓s_kret, ↓s_putS, ↓s_dOkS, ↓s_ev_t, ↓s_ev_c, ↓s_ev_f, ↓s_upd, ↓s_assign, ↓s_load, ↓s_un, ↓s_fieldAddr, ↓s_callV, ↓s_callL, ↓s_un_not, ptrV, boolV, List.map_cons, List.map_nil, ite_true, ite_false, Nat.reduceEqDiff, Nat.reduceLT, ne_eq, not_false_eq_true, true_and, Nat.succ_ne_self, eq_self, Nat.zero_add, List.drop, ldV_f, n_ldP, n_faP, n_ldA, n_ldB, n_faA, Int.reduceNeg, flT_39_1, ldT_3, en_55, far2_def, *]) | (refine PureF.use (within55 _ _ (by decide)) ?_)))
    have hq : 0 < n → ∃ g c, v = .lit (.slice (some ⟨g, 0, none⟩) n c) ∧ H g = some (.cells 3 (encC intE cs) (c - n)) ∧ n ≤ c ∧ ¬ r8 = g ∧ ¬ r10 = g ∧ H0 g = none := fun hp => by
      rcases ho with ⟨_, h1, _, _⟩ | ⟨g, c, sp, rfl, hg, rfl, h1, h2, h3', h4⟩
      · omega
      · rw [ints_len] at h2
        refine ⟨g, c, by rw [hcs], ?_, by omega, ?_, ?_, hs.none hg⟩
        · rw [AH.set_same]; congr 2; omega
        · intro e; subst e; rw [hg] at k8; cases k8
        · intro e; subst e; rw [hg] at k10; cases k10
    have hv : n = 0 → GhV H v H0 (intsV []) := fun h0 => by
      have h0' : cs = [] := List.eq_nil_of_length_eq_zero (by omega)
      subst h0'
      exact (GhV.own ho).trans (GhV.forget hs _)
    refine acx_loop (fun _ _ _ h => h) (fun A H' => H' = H ∧ A.d = [] ∧ A.t 3 = iV n ∧ A.t 8 = ptrV r8 0 ∧ A.t 10 = ptrV r10 0 ∧ ∃ i : Nat, i ≤ n ∧ A.t 18 = iV i ∧ cs.any far2 = (cs.drop i).any far2)
      (fun A _ => match A.t 18 with | .lit (.int _ i) => ((n : Int) - i).toNat | _ => 0) ?_ ?_
    · exact ⟨rfl, rfl, (by simp only [s_upd, Nat.reduceEqDiff, if_false, *] <;> rfl), (by simp only [s_upd, Nat.reduceEqDiff, if_false, *] <;> rfl), (by simp only [s_upd, Nat.reduceEqDiff, if_false, *] <;> rfl), 0, by omega, rfl, rfl⟩
    · clear h3 h6 h8 h10
      rintro ⟨t, d⟩ H' ⟨rfl, rfl, h3, h8, h10, i, hi, h18, hgo⟩
      dsimp only at h3 h8 h10 h18
      unfold b50_5
      by_cases hp : i < n
      · obtain ⟨g, c, rfl, hg, hnc, d8g, d10g, hg0⟩ := hq (by omega)
        have hpc : i < cs.length := by omega
        have hd : cs.drop i = cs[i] :: cs.drop (i + 1) := List.drop_eq_getElem_cons hpc
        have hpi : (i : Int) < n := by omega
        by_cases hf : far2 cs[i] = true
        · have ha : cs.any far2 = true := by rw [hgo, hd, List.any_cons, hf, Bool.true_or]
          clear hgo hd
          (repeat' (first | (simp only [↓s_skip, ↓s_reg, ↓s_seq, ↓s_cond, ↓s_condT, ↓s_block, ↓s_ret, ↓s_nil, ↓s_consN, ↓s_thenN, ↓s_thenR, ↓s_inR, ↓s_kret, ↓s_putS, ↓s_putN, ↓s_dOkS, ↓s_dOkN, ↓s_ev_t, ↓s_ev_c, ↓s_ev_f, ↓s_upd, ↓s_move, ↓s_assign, ↓s_load, ↓s_store, ↓s_bin, ↓s_un, ↓s_build, ↓s_fieldAddr, ↓s_indexAddr, ↓s_callV, ↓s_callL, ↓s_un_not, ↓s_bin_lss, ptrV, boolV, List.map_cons, List.map_nil, List.length_cons, List.length_nil, ite_true, ite_false, Nat.reduceEqDiff, Nat.reduceLT, Nat.reduceAdd, ne_eq, not_false_eq_true, true_and, Nat.succ_ne_self, decide_true, Int.natCast_nonneg, Int.toNat_natCast, Nat.mul_one, vcBuild, fillV, setAt, List.all_cons, List.all_nil, Bool.and_self, eq_self, Nat.zero_add, Nat.add_zero, List.drop, and_self, ldV_f, on_int, on_sl, cl_agg, List.set_cons_zero, List.set_cons_succ, Nat.le_refl, n_ldP, n_faP, n_ixL, n_ixA2, n_ldA, n_ldB, n_faA, n_stP, n_stA, Int.reduceNeg, flT_39_0, ldT_3, ldT_37, szT_39, stT_39, en_55, far2_def, elT_37, ints_drop, *]) | (refine PureF.use (within55 _ _ (by decide)) ?_)))
          simp only [outF, ha, Bool.or_true, if_true]
          exact bad50 (by simp only [s_upd, Nat.reduceEqDiff, if_false, *] <;> rfl) (by simp only [s_upd, Nat.reduceEqDiff, if_true, if_false, *] <;> rfl) (by rw [AH.set_same]) (hs'.of_set n8)
        · have hf' : far2 cs[i] = false := by simpa using hf
          have ha : cs.any far2 = (cs.drop (i + 1)).any far2 := by rw [hgo, hd, List.any_cons, hf', Bool.false_or]
          clear hgo hd hf
          (repeat' (first | (simp only [↓s_skip, ↓s_reg, ↓s_seq, ↓s_cond, ↓s_condT, ↓s_condF, ↓s_block, ↓s_nil, ↓s_consN, ↓s_thenN, ↓s_inN, ↓s_kret, ↓s_putS, ↓s_dOkS, ↓s_ev_t, ↓s_ev_c, ↓s_ev_f, ↓s_upd, ↓s_move, ↓s_assign, ↓s_load, ↓s_bin, ↓s_un, ↓s_fieldAddr, ↓s_indexAddr, ↓s_callV, ↓s_callL, ↓s_un_not, ↓s_bin_lss, ↓s_bin_add, ptrV, boolV, List.map_cons, List.map_nil, ite_true, ite_false, Nat.reduceEqDiff, Nat.reduceLT, ne_eq, not_false_eq_true, true_and, Nat.succ_ne_self, decide_true, Int.natCast_nonneg, Int.toNat_natCast, Nat.mul_one, eq_self, Nat.zero_add, Nat.add_zero, List.drop, and_self, ldV_f, n_ldP, n_faP, n_ixL, n_ixA2, n_ldA, n_ldB, n_faA, Int.reduceNeg, flT_39_0, ldT_3, ldT_37, en_55, far2_def, elT_37, ints_drop, *]) | (refine PureF.use (within55 _ _ (by decide)) ?_) | (with_reducible refine And.intro ?_ ?_)))
          · rw [wrap_ok (n := (i : Int) + 1) (by omega) (by omega)]
            exact ⟨i + 1, by omega, rfl, rfl⟩
          · rw [wrap_ok (n := (i : Int) + 1) (by omega) (by omega)]
            omega
      · have hpn : i = n := by omega
        subst hpn
        have ha : cs.any far2 = false := by rw [hgo, List.drop_eq_nil_of_le (by omega)]; rfl
        clear hgo hp
        unfold c50_4
        (repeat' (first | (simp only [↓s_skip, ↓s_reg, ↓s_seq, ↓s_cond, ↓s_block, ↓s_exit, ↓s_ret, ↓s_nil, ↓s_consN, ↓s_thenN, ↓s_thenE, ↓s_inE, ↓s_kret, ↓s_putS, ↓s_putN, ↓s_dOkS, ↓s_dOkN, ↓s_ev_t, ↓s_ev_c, ↓s_upd, ↓s_move, ↓s_assign, ↓s_load, ↓s_store, ↓s_bin, ↓s_fieldAddr, ↓s_indexAddr, ↓s_bin_lss, ptrV, List.length_cons, List.length_nil, ite_true, ite_false, Nat.reduceEqDiff, Nat.reduceLT, Nat.reduceAdd, ne_eq, not_false_eq_true, true_and, Nat.succ_ne_self, decide_true, decide_false, Bool.and_true, setAt, List.all_cons, List.all_nil, Bool.and_self, eq_self, Nat.zero_add, Nat.add_zero, List.drop, ldV_f, ldV_t2, Int.ofNat_lt, on_int, cl_agg, List.set_cons_zero, List.set_cons_succ, Nat.le_refl, n_ldP, n_faP, n_ldA, n_ldB, n_faA, n_stP, n_stA, flT_39_0, ldT_37, ldT_39, szT_39, *]) | (refine condL_splitD ?_ ?_ <;> intro) | (refine acx_go rfl (fun _ _ _ h => h) ?_) | (with_reducible refine And.intro ?_ ?_)))
        · exfalso; omega
        · exact ho.cells.2
        · simp only [outF, hb', ha, Bool.or_false, Bool.false_eq_true, if_false]
          unfold P50
          refine retPost_ret rfl (x := .tuple [.agg [v, iV b], iV 0]) (by simp only [resV, resAll, resOne, ldT_39, s_upd, Nat.reduceEqDiff, if_true, if_false, AH.get, h8, ptrV, List.drop_zero, ldV_t2, Option.bind_some, Option.map_some, tupV]) ⟨_, rfl, ?_⟩
          rcases ho with ⟨rfl, h1, h2, rfl⟩ | ⟨g, c, sp, rfl, hg, rfl, h1, h2, h3', h4⟩
          · have h0' : cs = [] := List.eq_nil_of_length_eq_zero h1
            subst h0'
            exact GhV.tuple (GhL.cons (GhV.agg (GhL.cons ((GhV.nil _).trans (GhV.forget (hs.of_set n8) _)) (GhL.cons (GhV.refl _ _) (GhL.nil _)))) (GhL.cons (GhV.refl _ _) (GhL.nil _)))
          · have d8g : ¬ g = r8 := by intro e; subst e; rw [hg] at k8; cases k8
            exact GhV.tuple (GhL.cons (GhV.row (by rw [AH.get, if_neg d8g, AH.set_same]) h3' (hs'.of_set n8) (hs.none hg)) (GhL.cons (GhV.refl _ _) (GhL.nil _)))
end Go.PV.Ytefpjfpelicedaa
end
section
/- The reference's row of a line: its loops. -/
set_option linter.unusedVariables false
set_option linter.unusedSimpArgs false
set_option maxRecDepth 20000
set_option maxHeartbeats 4000000
namespace Go.PV.Ytefpjfpelicedaa
open Go Go.Proofs
theorem St50.next {H0 Hb H : AH} {t : Nat → VV} {l : Line} {n r6 r8 r10 : Nat} {cs : List Int} {b a : Int} {v v' : VV} (h3 : t 3 = iV n) (h6 : t 6 = ptrV r6 0) (h8 : t 8 = ptrV r8 0) (h10 : t 10 = ptrV r10 0)
    (n6 : H0 r6 = none) (n8 : H0 r8 = none) (n10 : H0 r10 = none) (d68 : ¬ r6 = r8) (d610 : ¬ r6 = r10) (d810 : ¬ r8 = r10)
    (k10 : Hb r10 = some (.cells 39 [v, iV b] 0)) (k6 : Hb r6 = some (.cells 83 (lineE l) 0)) (k8 : Hb r8 = some (.cells 39 [.lit (.slice none 0 0), iV 0] 0)) (hs : SubH H0 Hb)
    (ho : OwnX Hb H 3 1 v' (cs.length + 1) (encC intE cs ++ [iV a])) : St50 H0 (H.set r10 (.cells 39 [v', iV b] 0)) t l n r6 r8 r10 (cs ++ [a]) b := by
  refine ⟨h3, h6, h8, h10, n6, n8, n10, d68, d610, d810, v', Hb.set r10 (.cells 39 [v', iV b] 0), ?_, AH.set_same _ _ _, ?_, ?_, hs.of_set n10⟩
  · rw [List.length_append, encC_append]
    exact ho.put k10 _
  · rw [AH.get, if_neg d610]; exact k6
  · rw [AH.get, if_neg d810]; exact k8
theorem St50.bound {H0 Hb H : AH} {t : Nat → VV} {l : Line} {n r6 r8 r10 : Nat} {cs : List Int} {b b' : Int} {v : VV} (h3 : t 3 = iV n) (h6 : t 6 = ptrV r6 0) (h8 : t 8 = ptrV r8 0) (h10 : t 10 = ptrV r10 0)
    (n6 : H0 r6 = none) (n8 : H0 r8 = none) (n10 : H0 r10 = none) (d68 : ¬ r6 = r8) (d610 : ¬ r6 = r10) (d810 : ¬ r8 = r10)
    (k10 : Hb r10 = some (.cells 39 [v, iV b] 0)) (k6 : Hb r6 = some (.cells 83 (lineE l) 0)) (k8 : Hb r8 = some (.cells 39 [.lit (.slice none 0 0), iV 0] 0)) (hs : SubH H0 Hb)
    (ho : OwnX Hb H 3 1 v cs.length (encC intE cs)) : St50 H0 (H.set r10 (.cells 39 [v, iV b'] 0)) t l n r6 r8 r10 cs b' := by
  refine ⟨h3, h6, h8, h10, n6, n8, n10, d68, d610, d810, v, Hb.set r10 (.cells 39 [v, iV b'] 0), ho.put k10 _, AH.set_same _ _ _, ?_, ?_, hs.of_set n10⟩
  · rw [AH.get, if_neg d610]; exact k6
  · rw [AH.get, if_neg d810]; exact k8
theorem take_snoc {α : Type} {l : List α} {i : Nat} (h : i < l.length) : l.take (i + 1) = l.take i ++ [l[i]] := List.take_succ_eq_append_getElem h
theorem wide_get {r : Row} {n i : Nat} (hi : i < n) (h : i < (wideL r.c n).length) : (wideL r.c n)[i] = coeffF r i := by
  unfold coeffF
  simp only [wideL, List.getElem_take, List.getElem_append]
  split
  · rename_i h2
    rw [if_pos (by omega)]
    simp [List.getD_eq_getElem?_getD, h2]
  · rename_i h2
    rw [if_neg (by omega)]
    simp
theorem loop50a {H0 H : AH} {t : Nat → VV} {l : Line} {n r6 r8 r10 : Nat} {rows : List Row} {x : VV} (st : St50 H0 H t l n r6 r8 r10 [] 0) (h0 : t 0 = rowsV rows) (h12 : t 12 = iV 0) (ha0 : 0 ≤ l.a) (ha1 : l.a < (rows.length : Int)) (hn : (n : Int) ≤ 1000)
    (hx : x = .tuple [rowV (outF (wideR (rowAt rows l.a) n)).1, iV (outF (wideR (rowAt rows l.a) n)).2]) :
    ACx ⟨Try.prog, 307, none⟩ (.loop b50_1) (inBlockA 1 (thenA (ACx ⟨Try.prog, 307, none⟩ c50_1 (inBlockA 0 (thenA (ACx ⟨Try.prog, 307, none⟩ c50_5 (P50 H0 x)) (P50 H0 x)))) (inBlockA 0 (thenA (ACx ⟨Try.prog, 307, none⟩ c50_5 (P50 H0 x)) (P50 H0 x))))) ⟨t, []⟩ H := by
  have hlen : (wideL (rowAt rows l.a).c n).length = n := wide_len _ _
  refine acx_loop (fun _ _ _ h => h) (fun A H' => A.d = [] ∧ A.t 0 = rowsV rows ∧ ∃ i : Nat, i ≤ n ∧ A.t 12 = iV i ∧ St50 H0 H' A.t l n r6 r8 r10 ((wideL (rowAt rows l.a).c n).take i) 0)
    (fun A _ => match A.t 12 with | .lit (.int _ i) => ((n : Int) - i).toNat | _ => 0) ?_ ?_
  · exact ⟨rfl, h0, 0, by omega, h12, st⟩
  · clear st h0 h12
    rintro ⟨t, d⟩ H' ⟨rfl, h0, i, hi, h12, h3, h6, h8, h10, n6, n8, n10, d68, d610, d810, v, Hb, ho, k10, k6, k8, hs⟩
    dsimp only at h0 h12 h3 h6 h8 h10
    have q10 := ho.sub _ _ k10
    have q6 := ho.sub _ _ k6
    have hll : ((wideL (rowAt rows l.a).c n).take i).length = i := by rw [List.length_take]; omega
    unfold b50_1
    (repeat' (first | (simp only [↓s_skip, ↓s_reg, ↓s_seq, ↓s_cond, ↓s_block, ↓s_exit, ↓s_dreg, ↓s_nil, ↓s_consN, ↓s_thenN, ↓s_thenE, ↓s_inE, ↓s_kret, ↓s_putS, ↓s_dOkS, ↓s_ev_t, ↓s_ev_f, ↓s_upd, ↓s_move, ↓s_load, ↓s_bin, ↓s_buildSlice, ↓s_fieldAddr, ↓s_indexAddr, ↓s_callB, ↓s_callV, ↓s_callL, ↓s_append, ↓s_bin_lss, ptrV, List.map_cons, List.map_nil, List.length_cons, List.length_nil, List.append_nil, ite_true, ite_false, Nat.reduceEqDiff, Nat.reduceLT, Nat.reduceLeDiff, ne_eq, not_false_eq_true, true_and, Nat.succ_ne_self, decide_true, decide_false, reduceCtorEq, Nat.mul_one, ↓s_plFin, ↓s_plTkN, ↓s_plOneN, fillV, setAt, eq_self, Nat.zero_add, Nat.add_zero, List.drop, and_self, ldV_f, ldV_t2, Int.ofNat_lt, cl_int, List.set_cons_zero, Nat.le_refl, n_ldI, n_ldP, n_faP, n_ixS, n_ixA1, n_ldA, n_ldC, n_ldB, n_faA, ↓s_plK, ↓s_oneK, vcBuildSlice, List.replicate_succ, List.replicate_zero, List.flatten_cons, List.flatten_nil, rows_dropZ, flT_39_0, flT_83_1, ldT_37, ldT_3, ldT_39, elT_22, elT_37, zeroT_3, en_45, *]) | (refine condL_splitD ?_ ?_ <;> intro) | (refine acx_go rfl (fun _ _ _ h => h) ?_) | (refine acx_dreg mixed (fun _ _ _ _ e h => ⟨e.trans h.1, h.2⟩) _ (SubH.refl _) ?_) | (exact SubH.refl _) | (refine PureF.use (coeff45 _ _ (Int.natCast_nonneg _)) ?_) | (with_reducible refine And.intro ?_ ?_)))
    · have hlt : i < n := by assumption
      refine append_own elT_37 zeroT_3 rfl (by omega) ho rfl rfl (by omega) (by omega) (fun v' H'' ho2 => ?_)
      have q10' := ho2.sub _ _ k10
      have hc1 := ho2.cells.1
      have hc2 := ho2.cells.2
      clear q10
      (repeat' (first | (simp only [↓s_reg, ↓s_nil, ↓s_consN, ↓s_thenN, ↓s_inN, ↓s_kret, ↓s_putS, ↓s_putN, ↓s_dOkS, ↓s_dOkN, ↓s_ev_t, ↓s_ev_c, ↓s_upd, ↓s_move, ↓s_assign, ↓s_store, ↓s_bin, ↓s_fieldAddr, ↓s_bin_add, ptrV, List.length_cons, List.length_nil, ite_true, ite_false, Nat.reduceEqDiff, Nat.reduceLT, Nat.reduceAdd, Nat.reduceLeDiff, ne_eq, not_false_eq_true, true_and, Nat.succ_ne_self, reduceCtorEq, setAt, List.all_cons, List.all_nil, Bool.and_self, eq_self, Nat.zero_add, Nat.add_zero, List.set_cons_zero, n_faP, n_faA, n_stP, n_stA, flT_39_0, szT_37, *]) | (with_reducible refine And.intro ?_ ?_)))
      all_goals rw [wrap_ok (n := (i : Int) + 1) (by omega) (by omega)]
      · refine ⟨i + 1, by omega, rfl, ?_⟩
        rw [take_snoc (by omega), wide_get hlt]
        exact St50.next (by simp only [s_upd, Nat.reduceEqDiff, if_false, *] <;> rfl) (by simp only [s_upd, Nat.reduceEqDiff, if_false, *] <;> rfl) (by simp only [s_upd, Nat.reduceEqDiff, if_false, *] <;> rfl) (by simp only [s_upd, Nat.reduceEqDiff, if_false, *] <;> rfl) n6 n8 n10 d68 d610 d810 k10 k6 k8 hs ho2
      · omega
    · have hin : i = n := by omega
      subst hin
      rw [List.take_of_length_le (by omega)] at ho
      have hc1 := ho.cells.1
      have hc2 := ho.cells.2
      unfold c50_1
      (repeat' (first | (simp only [↓s_reg, ↓s_nil, ↓s_consN, ↓s_thenN, ↓s_inN, ↓s_kret, ↓s_putS, ↓s_putN, ↓s_dOkS, ↓s_dOkN, ↓s_ev_t, ↓s_upd, ↓s_move, ↓s_load, ↓s_store, ↓s_fieldAddr, ↓s_indexAddr, ptrV, List.length_cons, List.length_nil, ite_true, ite_false, Nat.reduceEqDiff, Nat.reduceLT, Nat.reduceAdd, ne_eq, not_false_eq_true, true_and, Nat.succ_ne_self, reduceCtorEq, setAt, List.all_cons, List.all_nil, Bool.and_self, eq_self, Nat.zero_add, List.drop, and_self, ldV_f, cl_int, on_int, List.set_cons_zero, List.set_cons_succ, Nat.le_refl, n_ldI, n_ldP, n_faI, n_faP, n_ixS, n_ixA1, n_ldA, n_ldC, n_ldB, n_faA, n_stP, n_stA, rows_dropZ, flT_83_1, flT_39_1, ldT_3, szT_3, elT_22, *]) | (refine acx_go rfl (fun _ _ _ h => h) ?_)))
      exact rest50 (St50.bound (by simp only [s_upd, Nat.reduceEqDiff, if_false, *] <;> rfl) (by simp only [s_upd, Nat.reduceEqDiff, if_false, *] <;> rfl) (by simp only [s_upd, Nat.reduceEqDiff, if_false, *] <;> rfl) (by simp only [s_upd, Nat.reduceEqDiff, if_false, *] <;> rfl) n6 n8 n10 d68 d610 d810 k10 k6 k8 hs ho) hlen hn (by first | exact hx | rfl)
theorem loop50b {H0 H : AH} {t : Nat → VV} {l : Line} {n r6 r8 r10 : Nat} {rows made : List Row} {x : VV} (st : St50 H0 H t l n r6 r8 r10 [] 0) (h12 : t 13 = iV 0) (ha0 : 0 ≤ l.a) (ha1 : l.a < (n : Int)) (hn : (n : Int) ≤ 1000)
    (hx : x = .tuple [rowV (outF ⟨(List.replicate n 0).set l.a.toNat (-1), 0⟩).1, iV (outF ⟨(List.replicate n 0).set l.a.toNat (-1), 0⟩).2]) :
    ACx ⟨Try.prog, 307, none⟩ (.loop b50_2) (inBlockA 3 (inBlockA 0 (thenA (ACx ⟨Try.prog, 307, none⟩ c50_5 (P50 H0 x)) (P50 H0 x)))) ⟨t, []⟩ H := by
  obtain ⟨tgt, ht⟩ : ∃ tgt, tgt = (List.replicate n (0 : Int)).set l.a.toNat (-1) := ⟨_, rfl⟩
  rw [← ht] at hx
  have hlen : tgt.length = n := by simp [ht]
  have hget : ∀ (i : Nat) (h : i < tgt.length), tgt[i] = if (i : Int) = l.a then -1 else 0 := fun i h => by
    subst ht
    rw [List.getElem_set, List.getElem_replicate]
    split
    · rw [if_pos (by omega)]
    · rw [if_neg (by omega)]
  clear ht
  refine acx_loop (fun _ _ _ h => h) (fun A H' => A.d = [] ∧ ∃ i : Nat, i ≤ n ∧ A.t 13 = iV i ∧ St50 H0 H' A.t l n r6 r8 r10 (tgt.take i) 0)
    (fun A _ => match A.t 13 with | .lit (.int _ i) => ((n : Int) - i).toNat | _ => 0) ?_ ?_
  · exact ⟨rfl, 0, by omega, h12, st⟩
  · clear st h12
    rintro ⟨t, d⟩ H' ⟨rfl, i, hi, h12, ⟨h3, h6, h8, h10, n6, n8, n10, d68, d610, d810, v, Hb, ho, k10, k6, k8, hs⟩⟩
    dsimp only at h12 h3 h6 h8 h10
    have q10 := ho.sub _ _ k10
    have q6 := ho.sub _ _ k6
    have hll : (tgt.take i).length = i := by rw [List.length_take]; omega
    unfold b50_2
    (repeat' (first | (simp only [↓s_skip, ↓s_reg, ↓s_seq, ↓s_cond, ↓s_block, ↓s_exit, ↓s_nil, ↓s_consN, ↓s_thenN, ↓s_thenE, ↓s_inN, ↓s_inE, ↓s_kret, ↓s_putS, ↓s_dOkS, ↓s_ev_t, ↓s_ev_c, ↓s_upd, ↓s_move, ↓s_assign, ↓s_load, ↓s_bin, ↓s_buildSlice, ↓s_fieldAddr, ↓s_callB, ↓s_append, ↓s_bin_lss, ↓s_bin_eql, ptrV, List.map_cons, List.map_nil, List.length_cons, List.length_nil, List.append_nil, ite_true, ite_false, Nat.reduceEqDiff, Nat.reduceLT, Nat.reduceLeDiff, ne_eq, not_false_eq_true, true_and, Nat.succ_ne_self, decide_true, decide_false, reduceCtorEq, Nat.mul_one, fillV, setAt, eq_self, Nat.zero_add, Nat.add_zero, List.drop, and_self, ldV_f, Int.ofNat_lt, cl_int, List.set_cons_zero, Nat.le_refl, n_ldP, n_faP, n_ldA, n_ldB, n_faA, Int.reduceNeg, vcBuildSlice, List.replicate_succ, List.replicate_zero, List.flatten_cons, List.flatten_nil, flT_39_0, flT_83_1, ldT_37, ldT_3, elT_37, zeroT_3, *]) | (refine condL_splitD ?_ ?_ <;> intro) | (refine acx_go rfl (fun _ _ _ h => h) ?_)))
    all_goals try have hlt : i < n := by assumption
    · rename (i : Int) = l.a => he
      rw [← he]
      have he' := he.symm
      clear he
      refine append_own elT_37 zeroT_3 rfl (by omega) ho rfl rfl (by omega) (by omega) (fun v' H'' ho2 => ?_)
      have q10' := ho2.sub _ _ k10
      have hc1 := ho2.cells.1
      have hc2 := ho2.cells.2
      clear q10
      (repeat' (first | (simp only [↓s_reg, ↓s_nil, ↓s_consN, ↓s_thenN, ↓s_inN, ↓s_kret, ↓s_putS, ↓s_putN, ↓s_dOkS, ↓s_dOkN, ↓s_ev_t, ↓s_ev_c, ↓s_upd, ↓s_move, ↓s_assign, ↓s_store, ↓s_bin, ↓s_fieldAddr, ↓s_bin_add, ptrV, List.length_cons, List.length_nil, ite_true, ite_false, Nat.reduceEqDiff, Nat.reduceLT, Nat.reduceAdd, Nat.reduceLeDiff, ne_eq, not_false_eq_true, true_and, Nat.succ_ne_self, setAt, List.all_cons, List.all_nil, Bool.and_self, eq_self, Nat.zero_add, Nat.add_zero, List.set_cons_zero, n_faP, n_faA, n_stP, n_stA, Int.reduceNeg, flT_39_0, szT_37, *]) | (with_reducible refine And.intro ?_ ?_)))
      all_goals rw [wrap_ok (n := (i : Int) + 1) (by omega) (by omega)]
      · refine ⟨i + 1, by omega, rfl, ?_⟩
        rw [take_snoc (by omega), hget, if_pos (by omega)]
        exact St50.next (by simp only [s_upd, Nat.reduceEqDiff, if_false, *] <;> rfl) (by simp only [s_upd, Nat.reduceEqDiff, if_false, *] <;> rfl) (by simp only [s_upd, Nat.reduceEqDiff, if_false, *] <;> rfl) (by simp only [s_upd, Nat.reduceEqDiff, if_false, *] <;> rfl) n6 n8 n10 d68 d610 d810 k10 k6 k8 hs ho2
      · omega
    · have he : ¬ (i : Int) = l.a := by assumption
      refine append_own elT_37 zeroT_3 rfl (by omega) ho rfl rfl (by omega) (by omega) (fun v' H'' ho2 => ?_)
      have q10' := ho2.sub _ _ k10
      have hc1 := ho2.cells.1
      have hc2 := ho2.cells.2
      clear q10
      (repeat' (first | (simp only [↓s_reg, ↓s_nil, ↓s_consN, ↓s_thenN, ↓s_inN, ↓s_kret, ↓s_putS, ↓s_putN, ↓s_dOkS, ↓s_dOkN, ↓s_ev_t, ↓s_ev_c, ↓s_upd, ↓s_move, ↓s_assign, ↓s_store, ↓s_bin, ↓s_fieldAddr, ↓s_bin_add, ptrV, List.length_cons, List.length_nil, ite_true, ite_false, Nat.reduceEqDiff, Nat.reduceLT, Nat.reduceAdd, Nat.reduceLeDiff, ne_eq, not_false_eq_true, true_and, Nat.succ_ne_self, setAt, List.all_cons, List.all_nil, Bool.and_self, eq_self, Nat.zero_add, Nat.add_zero, List.set_cons_zero, n_faP, n_faA, n_stP, n_stA, flT_39_0, szT_37, *]) | (with_reducible refine And.intro ?_ ?_)))
      all_goals rw [wrap_ok (n := (i : Int) + 1) (by omega) (by omega)]
      · refine ⟨i + 1, by omega, rfl, ?_⟩
        rw [take_snoc (by omega), hget, if_neg (by omega)]
        exact St50.next (by simp only [s_upd, Nat.reduceEqDiff, if_false, *] <;> rfl) (by simp only [s_upd, Nat.reduceEqDiff, if_false, *] <;> rfl) (by simp only [s_upd, Nat.reduceEqDiff, if_false, *] <;> rfl) (by simp only [s_upd, Nat.reduceEqDiff, if_false, *] <;> rfl) n6 n8 n10 d68 d610 d810 k10 k6 k8 hs ho2
      · omega
    · have hin : i = n := by omega
      subst hin
      rw [List.take_of_length_le (by omega)] at ho
      exact rest50 ⟨(by simp only [s_upd, Nat.reduceEqDiff, if_false, *] <;> rfl), (by simp only [s_upd, Nat.reduceEqDiff, if_false, *] <;> rfl), (by simp only [s_upd, Nat.reduceEqDiff, if_false, *] <;> rfl), (by simp only [s_upd, Nat.reduceEqDiff, if_false, *] <;> rfl), n6, n8, n10, d68, d610, d810, v, Hb, ho, k10, k6, k8, hs⟩ hlen hn (by first | exact hx | rfl)
end Go.PV.Ytefpjfpelicedaa
end
section
/- The reference's row of a line: its loops over lines. -/
set_option linter.unusedVariables false
set_option linter.unusedSimpArgs false
set_option maxRecDepth 20000
set_option maxHeartbeats 4000000
namespace Go.PV.Ytefpjfpelicedaa
open Go Go.Proofs
theorem rows_dropY1 {l : List Row} {a : Int} (h0 : 0 ≤ a) (h1 : a < (l.length : Int)) : (encC rowE l).drop (a.toNat * 2 + 1) = iV (rowAt l a).b :: encC rowE (l.drop (a.toNat + 1)) := by
  rw [← List.drop_drop, rows_dropZ h0 h1]; rfl
theorem loop50c {H0 H : AH} {t : Nat → VV} {l : Line} {n r6 r8 r10 g c sp : Nat} {rows made : List Row} {x : VV} (st : St50 H0 H t l n r6 r8 r10 [] 0) (h1 : t 1 = .lit (.slice (some ⟨g, 0, none⟩) made.length c)) (kg : H0 g = some (.cells 39 (encC rowE made) sp)) (h12 : t 15 = iV 0) (ha : 0 ≤ l.a ∧ l.a < (made.length : Int)) (hb : 0 ≤ l.b ∧ l.b < (made.length : Int)) (hm : 1 ≤ l.m ∧ l.m ≤ 1000000) (hk : 1 ≤ l.n ∧ l.n ≤ 1000000)
    (fa : Fits n (rowAt made l.a)) (fb : Fits n (rowAt made l.b)) (hn : (n : Int) ≤ 1000)
    (hx : x = .tuple [rowV (outF ⟨(sumL (rowAt made l.a).c (rowAt made l.b).c l.m l.n), (rowAt made l.a).b * l.m + (rowAt made l.b).b * l.n⟩).1, iV (outF ⟨(sumL (rowAt made l.a).c (rowAt made l.b).c l.m l.n), (rowAt made l.a).b * l.m + (rowAt made l.b).b * l.n⟩).2]) :
    ACx ⟨Try.prog, 307, none⟩ (.loop b50_3) (inBlockA 5 (thenA (ACx ⟨Try.prog, 307, none⟩ c50_2 (inBlockA 0 (thenA (ACx ⟨Try.prog, 307, none⟩ c50_5 (P50 H0 x)) (P50 H0 x)))) (inBlockA 0 (thenA (ACx ⟨Try.prog, 307, none⟩ c50_5 (P50 H0 x)) (P50 H0 x))))) ⟨t, []⟩ H := by
  have hlen : (sumL (rowAt made l.a).c (rowAt made l.b).c l.m l.n).length = n := by simp [sumL, fa.1, fb.1]
  have la : (rowAt made l.a).c.length = n := fa.1
  have lb : (rowAt made l.b).c.length = n := fb.1
  refine acx_loop (fun _ _ _ h => h) (fun A H' => A.d = [] ∧ A.t 1 = .lit (.slice (some ⟨g, 0, none⟩) made.length c) ∧ ∃ i : Nat, i ≤ n ∧ A.t 15 = iV i ∧ St50 H0 H' A.t l n r6 r8 r10 ((sumL (rowAt made l.a).c (rowAt made l.b).c l.m l.n).take i) 0)
    (fun A _ => match A.t 15 with | .lit (.int _ i) => ((n : Int) - i).toNat | _ => 0) ?_ ?_
  · exact ⟨rfl, h1, 0, by omega, h12, st⟩
  · clear st h12 h1
    rintro ⟨t, d⟩ H' ⟨rfl, h1, i, hi, h12, ⟨h3, h6, h8, h10, n6, n8, n10, d68, d610, d810, v, Hb, ho, k10, k6, k8, hs⟩⟩
    dsimp only at h1 h12 h3 h6 h8 h10
    have q10 := ho.sub _ _ k10
    have q6 := ho.sub _ _ k6
    have hll : ((sumL (rowAt made l.a).c (rowAt made l.b).c l.m l.n).take i).length = i := by rw [List.length_take]; omega
    have qg := (hs.trans ho.sub) _ _ kg
    unfold b50_3
    (repeat' (first | (simp only [↓s_skip, ↓s_reg, ↓s_seq, ↓s_cond, ↓s_block, ↓s_exit, ↓s_dreg, ↓s_nil, ↓s_consN, ↓s_thenN, ↓s_thenE, ↓s_inN, ↓s_inE, ↓s_kret, ↓s_putS, ↓s_putN, ↓s_dOkS, ↓s_dOkN, ↓s_ev_t, ↓s_upd, ↓s_move, ↓s_load, ↓s_store, ↓s_bin, ↓s_buildSlice, ↓s_fieldAddr, ↓s_indexAddr, ↓s_callB, ↓s_append, ↓s_bin_lss, ↓s_bin_add, ↓s_bin_mul, ptrV, List.map_cons, List.map_nil, List.length_cons, List.length_nil, List.append_nil, ite_true, ite_false, Nat.reduceEqDiff, Nat.reduceLT, Nat.reduceAdd, Nat.reduceLeDiff, ne_eq, not_false_eq_true, true_and, Nat.succ_ne_self, decide_true, decide_false, reduceCtorEq, Int.natCast_nonneg, Int.toNat_natCast, Nat.mul_one, ↓s_plFin, ↓s_plTkN, ↓s_plOneN, fillV, setAt, List.all_cons, List.all_nil, Bool.and_self, eq_self, Nat.zero_add, Nat.add_zero, List.drop, and_self, ldV_f, Int.ofNat_lt, cl_int, on_int, List.set_cons_zero, List.set_cons_succ, Nat.le_refl, n_ldI, n_ldP, n_faP, n_ixS, n_ixL, n_ixA1, n_ixA2, n_ldA, n_ldC, n_ldB, n_faA, n_stP, n_stA, ↓s_plK, ↓s_oneK, vcBuildSlice, List.replicate_succ, List.replicate_zero, List.flatten_cons, List.flatten_nil, rows_dropY1, rows_dropZ, ints_drop, flT_39_0, flT_83_1, flT_39_1, flT_83_3, flT_83_2, flT_83_4, ldT_37, ldT_3, szT_3, elT_22, elT_37, zeroT_3, *]) | (refine condL_splitD ?_ ?_ <;> intro) | (refine acx_go rfl (fun _ _ _ h => h) ?_) | (refine acx_dreg mixed (fun _ _ _ _ e h => ⟨e.trans h.1, h.2⟩) _ (SubH.refl _) ?_) | (exact SubH.refl _) | (with_reducible refine And.intro ?_ ?_)))
    · have hlt : i < n := by assumption
      rw [wsum (fa.2.2 _ (List.getElem_mem _)) (fb.2.2 _ (List.getElem_mem _)) hm hk]
      refine append_own elT_37 zeroT_3 rfl (by omega) ho rfl rfl (by omega) (by omega) (fun v' H'' ho2 => ?_)
      have q10' := ho2.sub _ _ k10
      have hc1 := ho2.cells.1
      have hc2 := ho2.cells.2
      clear q10
      (repeat' (first | (simp only [↓s_reg, ↓s_nil, ↓s_consN, ↓s_thenN, ↓s_inN, ↓s_kret, ↓s_putS, ↓s_putN, ↓s_dOkS, ↓s_dOkN, ↓s_ev_t, ↓s_ev_c, ↓s_upd, ↓s_move, ↓s_assign, ↓s_store, ↓s_bin, ↓s_fieldAddr, ↓s_bin_add, ptrV, List.length_cons, List.length_nil, ite_true, ite_false, Nat.reduceEqDiff, Nat.reduceLT, Nat.reduceAdd, Nat.reduceLeDiff, ne_eq, not_false_eq_true, true_and, Nat.succ_ne_self, setAt, List.all_cons, List.all_nil, Bool.and_self, eq_self, Nat.zero_add, Nat.add_zero, List.set_cons_zero, n_faP, n_faA, n_stP, n_stA, flT_39_0, szT_37, *]) | (with_reducible refine And.intro ?_ ?_)))
      all_goals rw [wrap_ok (n := (i : Int) + 1) (by omega) (by omega)]
      · refine ⟨i + 1, by omega, rfl, ?_⟩
        rw [take_snoc (by omega), show (sumL (rowAt made l.a).c (rowAt made l.b).c l.m l.n)[i]'(by omega) = (rowAt made l.a).c[i]'(by rw [fa.1]; exact hlt) * l.m + (rowAt made l.b).c[i]'(by rw [fb.1]; exact hlt) * l.n from by simp [sumL]]
        exact St50.next (by simp only [s_upd, Nat.reduceEqDiff, if_false, *] <;> rfl) (by simp only [s_upd, Nat.reduceEqDiff, if_false, *] <;> rfl) (by simp only [s_upd, Nat.reduceEqDiff, if_false, *] <;> rfl) (by simp only [s_upd, Nat.reduceEqDiff, if_false, *] <;> rfl) n6 n8 n10 d68 d610 d810 k10 k6 k8 hs ho2
      · omega
    · have hin : i = n := by omega
      subst hin
      rw [List.take_of_length_le (by omega)] at ho
      have hc1 := ho.cells.1
      have hc2 := ho.cells.2
      rw [wsum fa.2.1 fb.2.1 hm hk]
      exact rest50 (St50.bound (by simp only [s_upd, Nat.reduceEqDiff, if_false, *] <;> rfl) (by simp only [s_upd, Nat.reduceEqDiff, if_false, *] <;> rfl) (by simp only [s_upd, Nat.reduceEqDiff, if_false, *] <;> rfl) (by simp only [s_upd, Nat.reduceEqDiff, if_false, *] <;> rfl) n6 n8 n10 d68 d610 d810 k10 k6 k8 hs ho) hlen hn (by first | exact hx | rfl)
theorem floorR_eq {a m : Int} (ha : far2 a = false) (hm : 1 ≤ m ∧ m ≤ 1000000) : floorR a m = floorF a m := by
  have h1 : -1000000000000 ≤ a ∧ a ≤ 1000000000000 := by simpa [far2] using ha
  have h2 : (a.tdiv m).natAbs ≤ a.natAbs := Int.natAbs_tdiv_le_natAbs a m
  have h3 := Int.mul_tdiv_add_tmod a m
  have h4 : (a.tmod m).natAbs < m.natAbs := by rw [Int.natAbs_tmod]; exact Nat.mod_lt _ (by omega)
  have e : m * a.tdiv m = a.tdiv m * m := Int.mul_comm _ _
  have w1 : W (a.tdiv m) = a.tdiv m := wrap_ok (by omega) (by omega)
  have w2 : W (a.tdiv m * m) = a.tdiv m * m := wrap_ok (by omega) (by omega)
  unfold floorF floorR
  rw [w1, w2]
  have h5 : a.tmod m < 0 ↔ a < a.tdiv m * m := by omega
  simp only [h5]
theorem loop50d {H0 H : AH} {t : Nat → VV} {l : Line} {n r6 r8 r10 g c sp : Nat} {rows made : List Row} {x : VV} (st : St50 H0 H t l n r6 r8 r10 [] 0) (h1 : t 1 = .lit (.slice (some ⟨g, 0, none⟩) made.length c)) (kg : H0 g = some (.cells 39 (encC rowE made) sp)) (h12 : t 16 = iV 0) (ha : 0 ≤ l.a ∧ l.a < (made.length : Int)) (hm : 1 ≤ l.m ∧ l.m ≤ 1000000) (fa : Fits n (rowAt made l.a))
    (hy : (rowAt made l.a).c.any (fun c => !decide (c.tmod l.m = 0)) = true → x = .tuple [rowV ⟨[], 0⟩, iV 260]) (hn : (n : Int) ≤ 1000)
    (hx : (rowAt made l.a).c.any (fun c => !decide (c.tmod l.m = 0)) = false → x = .tuple [rowV (outF ⟨(divL (rowAt made l.a).c l.m), floorF (rowAt made l.a).b l.m⟩).1, iV (outF ⟨(divL (rowAt made l.a).c l.m), floorF (rowAt made l.a).b l.m⟩).2]) :
    ACx ⟨Try.prog, 307, none⟩ (.loop b50_4) (inBlockA 7 (thenA (ACx ⟨Try.prog, 307, none⟩ c50_3 (inBlockA 0 (thenA (ACx ⟨Try.prog, 307, none⟩ c50_5 (P50 H0 x)) (P50 H0 x)))) (inBlockA 0 (thenA (ACx ⟨Try.prog, 307, none⟩ c50_5 (P50 H0 x)) (P50 H0 x))))) ⟨t, []⟩ H := by
  have hlen : (divL (rowAt made l.a).c l.m).length = n := by simp [divL, fa.1]
  have la : (rowAt made l.a).c.length = n := fa.1
  have hm0 : ¬ l.m = 0 := by omega
  refine acx_loop (fun _ _ _ h => h) (fun A H' => A.d = [] ∧ A.t 1 = .lit (.slice (some ⟨g, 0, none⟩) made.length c) ∧ ∃ i : Nat, i ≤ n ∧ A.t 16 = iV i ∧ St50 H0 H' A.t l n r6 r8 r10 ((divL (rowAt made l.a).c l.m).take i) 0 ∧ ∀ j (h : j < (rowAt made l.a).c.length), j < i → (rowAt made l.a).c[j].tmod l.m = 0)
    (fun A _ => match A.t 16 with | .lit (.int _ i) => ((n : Int) - i).toNat | _ => 0) ?_ ?_
  · exact ⟨rfl, h1, 0, by omega, h12, st, fun j _ h => by omega⟩
  · clear st h12 h1
    rintro ⟨t, d⟩ H' ⟨rfl, h1, i, hi, h12, ⟨h3, h6, h8, h10, n6, n8, n10, d68, d610, d810, v, Hb, ho, k10, k6, k8, hs⟩, hall⟩
    dsimp only at h1 h12 h3 h6 h8 h10
    have q10 := ho.sub _ _ k10
    have q6 := ho.sub _ _ k6
    have q8 := ho.sub _ _ k8
    have hll : ((divL (rowAt made l.a).c l.m).take i).length = i := by rw [List.length_take]; omega
    have qg := (hs.trans ho.sub) _ _ kg
    unfold b50_4
    (repeat' (first | (simp only [↓s_skip, ↓s_reg, ↓s_seq, ↓s_cond, ↓s_block, ↓s_exit, ↓s_ret, ↓s_dreg, ↓s_nil, ↓s_consN, ↓s_thenN, ↓s_thenE, ↓s_thenR, ↓s_inN, ↓s_inE, ↓s_inR, ↓s_kret, ↓s_putS, ↓s_putN, ↓s_dOkS, ↓s_dOkN, ↓s_ev_t, ↓s_ev_c, ↓s_ev_f, ↓s_upd, ↓s_move, ↓s_assign, ↓s_load, ↓s_store, ↓s_bin, ↓s_build, ↓s_buildSlice, ↓s_fieldAddr, ↓s_indexAddr, ↓s_callB, ↓s_callV, ↓s_callL, ↓s_append, ↓s_bin_lss, ↓s_bin_neq, ↓s_bin_quo, ↓s_bin_rem, ptrV, List.map_cons, List.map_nil, List.length_cons, List.length_nil, List.append_nil, ite_true, ite_false, Nat.reduceEqDiff, Nat.reduceLT, Nat.reduceAdd, Nat.reduceLeDiff, ne_eq, not_false_eq_true, true_and, Nat.succ_ne_self, decide_true, decide_false, reduceCtorEq, Int.natCast_nonneg, Int.toNat_natCast, Nat.mul_one, ↓s_plFin, ↓s_plTkN, ↓s_plOneN, vcBuild, fillV, setAt, List.all_cons, List.all_nil, Bool.and_self, eq_self, Nat.zero_add, Nat.add_zero, List.drop, and_self, ldV_f, Int.ofNat_lt, cl_int, on_int, on_sl, cl_agg, List.set_cons_zero, List.set_cons_succ, Nat.le_refl, n_ldI, n_ldP, n_faP, n_ixS, n_ixL, n_ixA1, n_ixA2, n_ldA, n_ldC, n_ldB, n_faA, n_stP, n_stA, ↓s_plK, ↓s_oneK, vcBuildSlice, List.replicate_succ, List.replicate_zero, List.flatten_cons, List.flatten_nil, rows_dropY1, rows_dropZ, ints_drop, flT_39_0, flT_83_1, flT_39_1, flT_83_3, ldT_37, ldT_3, szT_3, szT_39, stT_39, elT_22, elT_37, zeroT_3, en_72, *]) | (refine condL_splitD ?_ ?_ <;> intro) | (refine condL_split ?_ ?_ <;> intro) | (refine acx_go rfl (fun _ _ _ h => h) ?_) | (refine acx_dreg mixed (fun _ _ _ _ e h => ⟨e.trans h.1, h.2⟩) _ (SubH.refl _) ?_) | (exact SubH.refl _) | (refine PureF.use (floor72 _ _ hm0) ?_) | (with_reducible refine And.intro ?_ ?_)))
    · have hlt : i < n := by assumption
      have hcm : (rowAt made l.a).c[i].tmod l.m ≠ 0 := by simpa using (by assumption : (!decide ((rowAt made l.a).c[i].tmod l.m = 0)) = true)
      rw [hy (List.any_eq_true.2 ⟨(rowAt made l.a).c[i], List.getElem_mem _, by simpa using hcm⟩)]
      show P50 _ _ _ _ _
      exact bad50 (by simp only [s_upd, Nat.reduceEqDiff, if_false, *] <;> rfl) (by simp only [s_upd, Nat.reduceEqDiff, if_true, if_false, *] <;> rfl) (by rw [AH.set_same]) ((hs.trans ho.sub).of_set n8)
    · have hlt : i < n := by assumption
      have hcm : (rowAt made l.a).c[i].tmod l.m = 0 := by simpa using (by assumption : (!decide ((rowAt made l.a).c[i].tmod l.m = 0)) = false)
      rw [div_ok (fa.2.2 _ (List.getElem_mem _)) hm]
      refine append_own elT_37 zeroT_3 rfl (by omega) ho rfl rfl (by omega) (by omega) (fun v' H'' ho2 => ?_)
      have q10' := ho2.sub _ _ k10
      have hc1 := ho2.cells.1
      have hc2 := ho2.cells.2
      clear q10
      (repeat' (first | (simp only [↓s_reg, ↓s_nil, ↓s_consN, ↓s_thenN, ↓s_inN, ↓s_kret, ↓s_putS, ↓s_putN, ↓s_dOkS, ↓s_dOkN, ↓s_ev_t, ↓s_ev_c, ↓s_upd, ↓s_move, ↓s_assign, ↓s_store, ↓s_bin, ↓s_fieldAddr, ↓s_bin_add, ptrV, List.length_cons, List.length_nil, ite_true, ite_false, Nat.reduceEqDiff, Nat.reduceLT, Nat.reduceAdd, Nat.reduceLeDiff, ne_eq, not_false_eq_true, true_and, Nat.succ_ne_self, setAt, List.all_cons, List.all_nil, Bool.and_self, eq_self, Nat.zero_add, Nat.add_zero, List.set_cons_zero, n_faP, n_faA, n_stP, n_stA, flT_39_0, szT_37, *]) | (with_reducible refine And.intro ?_ ?_)))
      all_goals rw [wrap_ok (n := (i : Int) + 1) (by omega) (by omega)]
      · refine ⟨i + 1, by omega, rfl, ?_, ?_⟩
        · rw [take_snoc (by omega), show (divL (rowAt made l.a).c l.m)[i]'(by omega) = ((rowAt made l.a).c[i]'(by rw [fa.1]; exact hlt)).tdiv l.m from by simp [divL]]
          exact St50.next (by simp only [s_upd, Nat.reduceEqDiff, if_false, *] <;> rfl) (by simp only [s_upd, Nat.reduceEqDiff, if_false, *] <;> rfl) (by simp only [s_upd, Nat.reduceEqDiff, if_false, *] <;> rfl) (by simp only [s_upd, Nat.reduceEqDiff, if_false, *] <;> rfl) n6 n8 n10 d68 d610 d810 k10 k6 k8 hs ho2
        · intro j h hj
          by_cases e : j = i
          · subst e; exact hcm
          · exact hall j (by omega) (by omega)
      · omega
    · have hin : i = n := by omega
      subst hin
      rw [List.take_of_length_le (by omega)] at ho
      have hc1 := ho.cells.1
      have hc2 := ho.cells.2
      have hfl := floorR_eq fa.2.1 hm
      rw [hfl]
      exact rest50 (St50.bound (by simp only [s_upd, Nat.reduceEqDiff, if_false, *] <;> rfl) (by simp only [s_upd, Nat.reduceEqDiff, if_false, *] <;> rfl) (by simp only [s_upd, Nat.reduceEqDiff, if_false, *] <;> rfl) (by simp only [s_upd, Nat.reduceEqDiff, if_false, *] <;> rfl) n6 n8 n10 d68 d610 d810 k10 k6 k8 hs ho) hlen hn (hx (List.any_eq_false.2 fun c hc => by
        obtain ⟨j, hj, rfl⟩ := List.getElem_of_mem hc
        simp [hall j hj (by omega)]))
end Go.PV.Ytefpjfpelicedaa
end
section
/- The reference's row of a line: all kinds. -/
set_option linter.unusedVariables false
set_option linter.unusedSimpArgs false
set_option maxRecDepth 20000
set_option maxHeartbeats 4000000
namespace Go.PV.Ytefpjfpelicedaa
open Go Go.Proofs
/-- The rows so far: none, or a block of them. -/
def MadeR (H : AH) (mv : VV) (made : List Row) : Prop := (mv = .slice true 0 [] ∧ made = []) ∨ ∃ g c sp, mv = .lit (.slice (some ⟨g, 0, none⟩) made.length c) ∧ H g = some (.cells 39 (encC rowE made) sp)
theorem makeF_bad {rows made : List Row} {n : Nat} {l : Line} (h : ¬ ((l.k = 1 ∧ (l.b = 0 ∧ l.m = 0 ∧ l.n = 0) ∧ 0 ≤ l.a ∧ l.a < (rows.length : Int)) ∨ (l.k = 2 ∧ (l.b = 0 ∧ l.m = 0 ∧ l.n = 0) ∧ 0 ≤ l.a ∧ l.a < (n : Int)) ∨
    (l.k = 3 ∧ (0 ≤ l.a ∧ l.a < (made.length : Int)) ∧ (0 ≤ l.b ∧ l.b < (made.length : Int)) ∧ (1 ≤ l.m ∧ l.m ≤ 1000000) ∧ 1 ≤ l.n ∧ l.n ≤ 1000000) ∨ (l.k = 4 ∧ (0 ≤ l.a ∧ l.a < (made.length : Int)) ∧ (1 ≤ l.m ∧ l.m ≤ 1000000) ∧ l.b = 0 ∧ l.n = 0))) : makeF rows made n l = (⟨[], 0⟩, 260) := by
  simp only [not_or, not_and] at h
  unfold makeF
  split
  · split
    · omega
    · rfl
  split
  · split
    · omega
    · rfl
  split
  · split
    · omega
    · rfl
  split
  · split
    · omega
    · rfl
  · rfl
theorem made50a {rows made : List Row} {n : Nat} {l : Line} {mv : VV} {H : AH} (hmv : ∀ (H : AH) (K : VE → AH → Prop), K (.ret (iV made.length)) H → vcLen Try.prog 22 mv H K) (hn : (n : Int) ≤ 1000) (hk : l.k = 1) : GivesF Try.prog 50 [rowsV rows, mv, lineV l, iV n] (makeX rows made n l) H := by
  unfold GivesF
  refine vcalls_intro fd50 (by simp) ?_
  unfold c50
  (repeat' (first | (refine hmv _ _ ?_) | (simp only [↓s_skip, ↓s_reg, ↓s_seq, ↓s_seqL, ↓s_cond, ↓s_condT, ↓s_block, ↓s_ret, ↓s_loop, ↓s_nil, ↓s_consN, ↓s_consG, ↓s_guardTF, ↓s_guardFF, ↓s_thenN, ↓s_thenR, ↓s_inR, ↓s_kret, ↓s_putS, ↓s_putN, ↓s_dOkS, ↓s_dOkN, ↓s_ev_t, ↓s_ev_c, ↓s_upd, ↓s_move, ↓s_assign, ↓s_isBool, ↓s_pickA, ↓s_pick, ↓s_load, ↓s_store, ↓s_bin, ↓s_alloc, ↓s_box, ↓s_build, ↓s_fieldAddr, ↓s_callB, ↓s_len, ↓s_bin_lss, ↓s_bin_geq, ↓s_bin_eql, ↓s_bin_neq, ptrV, intV, List.map_cons, List.map_nil, List.length_cons, List.length_nil, List.getD_cons_zero, List.getD_cons_succ, List.getD_nil, ite_true, ite_false, Nat.reduceEqDiff, Nat.reduceLT, Nat.reduceAdd, ne_eq, not_false_eq_true, true_and, Bool.false_eq_true, Nat.succ_ne_self, decide_true, decide_false, reduceCtorEq, callOk, undefV, AH.get, AH.set_set, vcBuild, fillV, setAt, List.all_cons, List.all_nil, Bool.and_self, eq_self, Nat.zero_add, Nat.add_zero, List.drop, ldV_f, on_int, on_sl, cl_agg, List.set_cons_zero, List.set_cons_succ, ↓n_alloc, n_allocS, ↓n_box, Nat.le_refl, n_ldP, n_faP, n_lenS, n_ldA, n_ldB, n_faA, n_stP, n_stA, undef, flT_83_1, flT_83_3, flT_83_2, flT_83_4, flT_83_0, ldT_3, szT_39, stT_39, zeroT_39, elT_22, *]) | (refine guardL_splitFD ?_ ?_ <;> intro) | (refine guardL_splitF ?_ ?_ <;> intro) | (refine condL_split ?_ ?_ <;> intro) | (refine allNew_intro fun zr zh => ?_; have zg := zh; (try simp only [AH.set_none] at zg))))
  all_goals try simp only [Bool.not_eq_false', Bool.not_eq_true', decide_eq_true_eq, decide_eq_false_iff_not] at *
  any_goals (rw [makeX_bad (makeF_bad (by omega))]; show P50 _ _ _ _ _; exact bad50 (by simp only [s_upd, Nat.reduceEqDiff, if_true, if_false, *] <;> rfl) (by simp only [s_upd, Nat.reduceEqDiff, if_true, if_false, *] <;> rfl) (by first | exact AH.set_same _ _ _ | (simp only [AH.get, *, if_true, if_false] <;> rfl)) (by repeat (first | assumption | exact SubH.refl _ | refine SubH.of_set ?_ (by simp only [*]))))
  exact loop50a ⟨(by simp only [s_upd, Nat.reduceEqDiff, if_false, *] <;> rfl), (by simp only [s_upd, Nat.reduceEqDiff, if_true, if_false, *] <;> rfl), (by simp only [s_upd, Nat.reduceEqDiff, if_true, if_false, *] <;> rfl), (by simp only [s_upd, Nat.reduceEqDiff, if_true, if_false, *] <;> rfl), (by simp only [*]), (by simp only [*]), (by simp only [*]), (by simp only [*, not_false_eq_true]), (by simp only [*, not_false_eq_true]), (by simp only [*, not_false_eq_true]), .lit (.slice none 0 0), _, OwnX.nil _ 3 1, (by simp only [AH.get, *, if_true, if_false] <;> rfl), (by simp only [AH.get, *, if_true, if_false] <;> rfl), (by simp only [AH.get, *, if_true, if_false] <;> rfl), (by repeat (first | assumption | exact SubH.refl _ | refine SubH.of_set ?_ (by simp only [*])))⟩ (by simp only [s_upd, Nat.reduceEqDiff, if_false, *] <;> rfl) (by simp only [s_upd, Nat.reduceEqDiff, if_true, if_false, *] <;> rfl) (by omega) (by omega) hn (makeX_out (by unfold makeF; rw [if_pos hk, if_pos (by omega)]))
theorem made50b {rows made : List Row} {n : Nat} {l : Line} {mv : VV} {H : AH} (hmv : ∀ (H : AH) (K : VE → AH → Prop), K (.ret (iV made.length)) H → vcLen Try.prog 22 mv H K) (hn : (n : Int) ≤ 1000) (hk : l.k = 2) : GivesF Try.prog 50 [rowsV rows, mv, lineV l, iV n] (makeX rows made n l) H := by
  unfold GivesF
  refine vcalls_intro fd50 (by simp) ?_
  unfold c50
  (repeat' (first | (refine hmv _ _ ?_) | (simp only [↓s_skip, ↓s_reg, ↓s_seq, ↓s_seqL, ↓s_cond, ↓s_condT, ↓s_condF, ↓s_block, ↓s_ret, ↓s_loop, ↓s_nil, ↓s_consN, ↓s_consG, ↓s_guardTF, ↓s_guardFF, ↓s_thenN, ↓s_thenR, ↓s_inR, ↓s_kret, ↓s_putS, ↓s_putN, ↓s_dOkS, ↓s_dOkN, ↓s_ev_t, ↓s_ev_c, ↓s_upd, ↓s_move, ↓s_assign, ↓s_isBool, ↓s_pickA, ↓s_pick, ↓s_load, ↓s_store, ↓s_bin, ↓s_alloc, ↓s_box, ↓s_build, ↓s_fieldAddr, ↓s_callB, ↓s_len, ↓s_bin_lss, ↓s_bin_geq, ↓s_bin_eql, ↓s_bin_neq, ptrV, List.map_cons, List.map_nil, List.length_cons, List.length_nil, List.getD_cons_zero, List.getD_cons_succ, List.getD_nil, ite_true, ite_false, Nat.reduceEqDiff, Nat.reduceLT, Nat.reduceAdd, ne_eq, not_false_eq_true, true_and, Bool.false_eq_true, Nat.succ_ne_self, decide_true, decide_false, callOk, undefV, AH.get, AH.set_set, vcBuild, fillV, setAt, List.all_cons, List.all_nil, Bool.and_self, eq_self, Nat.zero_add, Nat.add_zero, List.drop, ldV_f, on_int, on_sl, cl_agg, List.set_cons_zero, List.set_cons_succ, ↓n_alloc, n_allocS, ↓n_box, Nat.le_refl, n_ldP, n_faP, n_ldA, n_ldB, n_faA, n_stP, n_stA, undef, Int.reduceEq, flT_83_1, flT_83_3, flT_83_2, flT_83_4, flT_83_0, ldT_3, szT_39, stT_39, zeroT_39, *]) | (refine guardL_splitFD ?_ ?_ <;> intro) | (refine guardL_splitF ?_ ?_ <;> intro) | (refine condL_split ?_ ?_ <;> intro) | (refine allNew_intro fun zr zh => ?_; have zg := zh; (try simp only [AH.set_none] at zg))))
  all_goals try simp only [Bool.not_eq_false', Bool.not_eq_true', decide_eq_true_eq, decide_eq_false_iff_not] at *
  any_goals (rw [makeX_bad (makeF_bad (by omega))]; show P50 _ _ _ _ _; exact bad50 (by simp only [s_upd, Nat.reduceEqDiff, if_true, if_false, *] <;> rfl) (by simp only [s_upd, Nat.reduceEqDiff, if_true, if_false, *] <;> rfl) (by first | exact AH.set_same _ _ _ | (simp only [AH.get, *, if_true, if_false] <;> rfl)) (by repeat (first | assumption | exact SubH.refl _ | refine SubH.of_set ?_ (by simp only [*]))))
  exact loop50b (rows := rows) (made := made) ⟨(by simp only [s_upd, Nat.reduceEqDiff, if_false, *] <;> rfl), (by simp only [s_upd, Nat.reduceEqDiff, if_true, if_false, *] <;> rfl), (by simp only [s_upd, Nat.reduceEqDiff, if_true, if_false, *] <;> rfl), (by simp only [s_upd, Nat.reduceEqDiff, if_true, if_false, *] <;> rfl), (by simp only [*]), (by simp only [*]), (by simp only [*]), (by simp only [*, not_false_eq_true]), (by simp only [*, not_false_eq_true]), (by simp only [*, not_false_eq_true]), .lit (.slice none 0 0), _, OwnX.nil _ 3 1, (by simp only [AH.get, *, if_true, if_false] <;> rfl), (by simp only [AH.get, *, if_true, if_false] <;> rfl), (by simp only [AH.get, *, if_true, if_false] <;> rfl), (by repeat (first | assumption | exact SubH.refl _ | refine SubH.of_set ?_ (by simp only [*])))⟩ (by simp only [s_upd, Nat.reduceEqDiff, if_true, if_false, *] <;> rfl) (by omega) (by omega) hn (makeX_out (by unfold makeF; rw [if_neg (by omega), if_pos hk, if_pos (by omega)]))
theorem made50z {rows made : List Row} {n : Nat} {l : Line} {mv : VV} {H : AH} (hmv : ∀ (H : AH) (K : VE → AH → Prop), K (.ret (iV made.length)) H → vcLen Try.prog 22 mv H K) (hk : ¬ l.k = 1 ∧ ¬ l.k = 2 ∧ ¬ l.k = 3 ∧ ¬ l.k = 4) : GivesF Try.prog 50 [rowsV rows, mv, lineV l, iV n] (makeX rows made n l) H := by
  unfold GivesF
  refine vcalls_intro fd50 (by simp) ?_
  unfold c50
  (repeat' (first | (refine hmv _ _ ?_) | (simp only [↓s_reg, ↓s_seq, ↓s_seqL, ↓s_cond, ↓s_condF, ↓s_block, ↓s_ret, ↓s_nil, ↓s_consN, ↓s_thenN, ↓s_thenR, ↓s_inR, ↓s_kret, ↓s_putS, ↓s_putN, ↓s_dOkS, ↓s_dOkN, ↓s_ev_t, ↓s_ev_c, ↓s_upd, ↓s_move, ↓s_assign, ↓s_load, ↓s_store, ↓s_bin, ↓s_alloc, ↓s_box, ↓s_build, ↓s_fieldAddr, ↓s_callB, ↓s_len, ↓s_bin_eql, ptrV, List.map_cons, List.map_nil, List.length_cons, List.length_nil, List.getD_cons_zero, List.getD_cons_succ, List.getD_nil, ite_true, ite_false, Nat.reduceEqDiff, Nat.reduceLT, Nat.reduceAdd, ne_eq, not_false_eq_true, true_and, Nat.succ_ne_self, decide_false, undefV, AH.get, AH.set_set, vcBuild, fillV, setAt, List.all_cons, List.all_nil, Bool.and_self, eq_self, Nat.zero_add, Nat.add_zero, List.drop, ldV_f, on_int, on_sl, cl_agg, List.set_cons_zero, List.set_cons_succ, ↓n_alloc, n_allocS, ↓n_box, Nat.le_refl, n_ldP, n_faP, n_ldA, n_ldB, n_faA, n_stP, n_stA, undef, flT_83_0, ldT_3, szT_39, stT_39, zeroT_39, *]) | (refine allNew_intro fun zr zh => ?_; have zg := zh; (try simp only [AH.set_none] at zg))))
  all_goals try simp only [Bool.not_eq_false', Bool.not_eq_true', decide_eq_true_eq, decide_eq_false_iff_not] at *
  any_goals (rw [makeX_bad (makeF_bad (by omega))]; show P50 _ _ _ _ _; exact bad50 (by simp only [s_upd, Nat.reduceEqDiff, if_true, if_false, *] <;> rfl) (by simp only [s_upd, Nat.reduceEqDiff, if_true, if_false, *] <;> rfl) (by first | exact AH.set_same _ _ _ | (simp only [AH.get, *, if_true, if_false] <;> rfl)) (by repeat (first | assumption | exact SubH.refl _ | refine SubH.of_set ?_ (by simp only [*]))))
theorem made50n {rows : List Row} {n : Nat} {l : Line} {mv : VV} {H : AH} (hmv : ∀ (H : AH) (K : VE → AH → Prop), K (.ret (iV ((0 : Nat) : Int))) H → vcLen Try.prog 22 mv H K) (hk : ¬ l.k = 1 ∧ ¬ l.k = 2) : GivesF Try.prog 50 [rowsV rows, mv, lineV l, iV n] (makeX rows [] n l) H := by
  unfold GivesF
  have hnil : (([] : List Row).length : Int) = 0 := rfl
  refine vcalls_intro fd50 (by simp) ?_
  unfold c50
  (repeat' (first | (refine hmv _ _ ?_) | (simp only [↓s_skip, ↓s_reg, ↓s_seq, ↓s_seqL, ↓s_cond, ↓s_condT, ↓s_condF, ↓s_block, ↓s_ret, ↓s_loop, ↓s_nil, ↓s_consN, ↓s_consG, ↓s_guardTF, ↓s_guardFF, ↓s_thenN, ↓s_thenR, ↓s_inR, ↓s_kret, ↓s_putS, ↓s_putN, ↓s_dOkS, ↓s_dOkN, ↓s_ev_t, ↓s_ev_c, ↓s_upd, ↓s_move, ↓s_assign, ↓s_isBool, ↓s_pickA, ↓s_pick, ↓s_load, ↓s_store, ↓s_bin, ↓s_alloc, ↓s_box, ↓s_build, ↓s_fieldAddr, ↓s_callB, ↓s_len, ↓s_bin_lss, ↓s_bin_gtr, ↓s_bin_geq, ↓s_bin_eql, ↓s_bin_neq, ptrV, List.map_cons, List.map_nil, List.length_cons, List.length_nil, List.getD_cons_zero, List.getD_cons_succ, List.getD_nil, ite_true, ite_false, Nat.reduceEqDiff, Nat.reduceLT, Nat.reduceAdd, ne_eq, not_false_eq_true, true_and, Bool.false_eq_true, Nat.succ_ne_self, decide_true, decide_false, callOk, undefV, AH.get, AH.set_set, vcBuild, fillV, setAt, List.all_cons, List.all_nil, Bool.and_self, eq_self, Nat.zero_add, Nat.add_zero, List.drop, ldV_f, on_int, on_sl, cl_agg, List.set_cons_zero, List.set_cons_succ, ↓n_alloc, n_allocS, ↓n_box, Nat.le_refl, n_ldP, n_faP, n_ldA, n_ldB, n_faA, n_stP, n_stA, undef, flT_83_1, flT_83_3, flT_83_2, flT_83_4, flT_83_0, ldT_3, szT_39, stT_39, zeroT_39, *]) | (refine guardL_splitFD ?_ ?_ <;> intro) | (refine condL_splitD ?_ ?_ <;> intro) | (refine guardL_splitF ?_ ?_ <;> intro) | (refine condL_split ?_ ?_ <;> intro) | (refine allNew_intro fun zr zh => ?_; have zg := zh; (try simp only [AH.set_none] at zg))))
  all_goals try simp only [Bool.not_eq_false', Bool.not_eq_true', decide_eq_true_eq, decide_eq_false_iff_not] at *
  any_goals (rw [makeX_bad (makeF_bad (by omega))]; show P50 _ _ _ _ _; exact bad50 (by simp only [s_upd, Nat.reduceEqDiff, if_true, if_false, *] <;> rfl) (by simp only [s_upd, Nat.reduceEqDiff, if_true, if_false, *] <;> rfl) (by first | exact AH.set_same _ _ _ | (simp only [AH.get, *, if_true, if_false] <;> rfl)) (by repeat (first | assumption | exact SubH.refl _ | refine SubH.of_set ?_ (by simp only [*]))))
  all_goals (exfalso; omega)
theorem made50c {rows made : List Row} {n : Nat} {l : Line} {H : AH} {g c sp : Nat} (hg : H g = some (.cells 39 (encC rowE made) sp)) (hmade : ∀ a, 0 ≤ a → a < (made.length : Int) → Fits n (rowAt made a)) (hn : (n : Int) ≤ 1000) (hk : l.k = 3) : GivesF Try.prog 50 [rowsV rows, .lit (.slice (some ⟨g, 0, none⟩) made.length c), lineV l, iV n] (makeX rows made n l) H := by
  unfold GivesF
  refine vcalls_intro fd50 (by simp) ?_
  unfold c50
  (repeat' (first | (simp only [↓s_skip, ↓s_reg, ↓s_seq, ↓s_seqL, ↓s_cond, ↓s_condT, ↓s_condF, ↓s_block, ↓s_ret, ↓s_loop, ↓s_nil, ↓s_consN, ↓s_consG, ↓s_guardTF, ↓s_guardFF, ↓s_thenN, ↓s_thenR, ↓s_inR, ↓s_kret, ↓s_putS, ↓s_putN, ↓s_dOkS, ↓s_dOkN, ↓s_ev_t, ↓s_ev_c, ↓s_upd, ↓s_move, ↓s_assign, ↓s_isBool, ↓s_pickA, ↓s_pick, ↓s_load, ↓s_store, ↓s_bin, ↓s_alloc, ↓s_box, ↓s_build, ↓s_fieldAddr, ↓s_callB, ↓s_len, ↓s_bin_lss, ↓s_bin_gtr, ↓s_bin_geq, ↓s_bin_eql, ptrV, intV, List.map_cons, List.map_nil, List.length_cons, List.length_nil, List.getD_cons_zero, List.getD_cons_succ, List.getD_nil, ite_true, ite_false, Nat.reduceEqDiff, Nat.reduceLT, Nat.reduceAdd, ne_eq, not_false_eq_true, true_and, Bool.false_eq_true, Nat.succ_ne_self, decide_true, decide_false, reduceCtorEq, callOk, undefV, AH.get, AH.set_set, vcBuild, fillV, setAt, List.all_cons, List.all_nil, Bool.and_self, eq_self, Nat.zero_add, Nat.add_zero, List.drop, ldV_f, on_int, on_sl, cl_agg, List.set_cons_zero, List.set_cons_succ, ↓n_alloc, n_allocS, ↓n_box, Nat.le_refl, n_ldP, n_faP, n_lenL, n_ldA, n_ldB, n_faA, n_stP, n_stA, undef, Int.reduceEq, flT_83_1, flT_83_3, flT_83_2, flT_83_4, flT_83_0, ldT_3, szT_39, stT_39, zeroT_39, elT_22, *]) | (refine guardL_splitFD ?_ ?_ <;> intro) | (refine condL_splitD ?_ ?_ <;> intro) | (refine allNew_intro fun zr zh => ?_; have zg := zh; (try simp only [AH.set_none] at zg))))
  all_goals try simp only [Bool.not_eq_false', Bool.not_eq_true', decide_eq_true_eq, decide_eq_false_iff_not] at *
  any_goals (rw [makeX_bad (makeF_bad (by omega))]; show P50 _ _ _ _ _; exact bad50 (by simp only [s_upd, Nat.reduceEqDiff, if_true, if_false, *] <;> rfl) (by simp only [s_upd, Nat.reduceEqDiff, if_true, if_false, *] <;> rfl) (by first | exact AH.set_same _ _ _ | (simp only [AH.get, *, if_true, if_false] <;> rfl)) (by repeat (first | assumption | exact SubH.refl _ | refine SubH.of_set ?_ (by simp only [*]))))
  exact loop50c (rows := rows) ⟨(by simp only [s_upd, Nat.reduceEqDiff, if_false, *] <;> rfl), (by simp only [s_upd, Nat.reduceEqDiff, if_true, if_false, *] <;> rfl), (by simp only [s_upd, Nat.reduceEqDiff, if_true, if_false, *] <;> rfl), (by simp only [s_upd, Nat.reduceEqDiff, if_true, if_false, *] <;> rfl), (by simp only [*]), (by simp only [*]), (by simp only [*]), (by simp only [*, not_false_eq_true]), (by simp only [*, not_false_eq_true]), (by simp only [*, not_false_eq_true]), .lit (.slice none 0 0), _, OwnX.nil _ 3 1, (by simp only [AH.get, *, if_true, if_false] <;> rfl), (by simp only [AH.get, *, if_true, if_false] <;> rfl), (by simp only [AH.get, *, if_true, if_false] <;> rfl), (by repeat (first | assumption | exact SubH.refl _ | refine SubH.of_set ?_ (by simp only [*])))⟩ (by simp only [s_upd, Nat.reduceEqDiff, if_false, *] <;> rfl) hg (by simp only [s_upd, Nat.reduceEqDiff, if_true, if_false, *] <;> rfl) (by omega) (by omega) (by omega) (by omega) (hmade _ (by omega) (by omega)) (hmade _ (by omega) (by omega)) hn (makeX_out (by
    have e1 : (0 ≤ l.a ∧ l.a < (made.length : Int)) ∧ (0 ≤ l.b ∧ l.b < (made.length : Int)) ∧ (1 ≤ l.m ∧ l.m ≤ 1000000) ∧ 1 ≤ l.n ∧ l.n ≤ 1000000 := by omega
    unfold makeF
    rw [if_neg (by omega), if_neg (by omega), if_pos hk, if_pos e1]))
theorem made50d {rows made : List Row} {n : Nat} {l : Line} {H : AH} {g c sp : Nat} (hg : H g = some (.cells 39 (encC rowE made) sp)) (hmade : ∀ a, 0 ≤ a → a < (made.length : Int) → Fits n (rowAt made a)) (hn : (n : Int) ≤ 1000) (hk : l.k = 4) : GivesF Try.prog 50 [rowsV rows, .lit (.slice (some ⟨g, 0, none⟩) made.length c), lineV l, iV n] (makeX rows made n l) H := by
  unfold GivesF
  refine vcalls_intro fd50 (by simp) ?_
  unfold c50
  (repeat' (first | (simp only [↓s_skip, ↓s_reg, ↓s_seq, ↓s_seqL, ↓s_cond, ↓s_condT, ↓s_condF, ↓s_block, ↓s_ret, ↓s_loop, ↓s_nil, ↓s_consN, ↓s_consG, ↓s_guardTF, ↓s_guardFF, ↓s_thenN, ↓s_thenR, ↓s_inR, ↓s_kret, ↓s_putS, ↓s_putN, ↓s_dOkS, ↓s_dOkN, ↓s_ev_t, ↓s_ev_c, ↓s_upd, ↓s_move, ↓s_assign, ↓s_isBool, ↓s_pickA, ↓s_pick, ↓s_load, ↓s_store, ↓s_bin, ↓s_alloc, ↓s_box, ↓s_build, ↓s_fieldAddr, ↓s_callB, ↓s_len, ↓s_bin_lss, ↓s_bin_gtr, ↓s_bin_geq, ↓s_bin_eql, ↓s_bin_neq, ptrV, intV, List.map_cons, List.map_nil, List.length_cons, List.length_nil, List.getD_cons_zero, List.getD_cons_succ, List.getD_nil, ite_true, ite_false, Nat.reduceEqDiff, Nat.reduceLT, Nat.reduceAdd, ne_eq, not_false_eq_true, true_and, Bool.false_eq_true, Nat.succ_ne_self, decide_true, decide_false, reduceCtorEq, callOk, undefV, AH.get, AH.set_set, vcBuild, fillV, setAt, List.all_cons, List.all_nil, Bool.and_self, eq_self, Nat.zero_add, Nat.add_zero, List.drop, ldV_f, on_int, on_sl, cl_agg, List.set_cons_zero, List.set_cons_succ, ↓n_alloc, n_allocS, ↓n_box, Nat.le_refl, n_ldP, n_faP, n_lenL, n_ldA, n_ldB, n_faA, n_stP, n_stA, undef, Int.reduceEq, flT_83_1, flT_83_3, flT_83_2, flT_83_4, flT_83_0, ldT_3, szT_39, stT_39, zeroT_39, elT_22, *]) | (refine guardL_splitFD ?_ ?_ <;> intro) | (refine guardL_splitF ?_ ?_ <;> intro) | (refine condL_split ?_ ?_ <;> intro) | (refine allNew_intro fun zr zh => ?_; have zg := zh; (try simp only [AH.set_none] at zg))))
  all_goals try simp only [Bool.not_eq_false', Bool.not_eq_true', decide_eq_true_eq, decide_eq_false_iff_not] at *
  any_goals (rw [makeX_bad (makeF_bad (by omega))]; show P50 _ _ _ _ _; exact bad50 (by simp only [s_upd, Nat.reduceEqDiff, if_true, if_false, *] <;> rfl) (by simp only [s_upd, Nat.reduceEqDiff, if_true, if_false, *] <;> rfl) (by first | exact AH.set_same _ _ _ | (simp only [AH.get, *, if_true, if_false] <;> rfl)) (by repeat (first | assumption | exact SubH.refl _ | refine SubH.of_set ?_ (by simp only [*]))))
  have e1 : (0 ≤ l.a ∧ l.a < (made.length : Int)) ∧ (1 ≤ l.m ∧ l.m ≤ 1000000) ∧ l.b = 0 ∧ l.n = 0 := by omega
  have e2 : makeF rows made n l = if (rowAt made l.a).c.any (fun c => !decide (c.tmod l.m = 0)) then (⟨[], 0⟩, 260) else outF ⟨(rowAt made l.a).c.map (fun c => c.tdiv l.m), floorF (rowAt made l.a).b l.m⟩ := by
    unfold makeF
    rw [if_neg (by omega), if_neg (by omega), if_neg (by omega), if_pos hk, if_pos e1]
  exact loop50d (rows := rows) ⟨(by simp only [s_upd, Nat.reduceEqDiff, if_false, *] <;> rfl), (by simp only [s_upd, Nat.reduceEqDiff, if_true, if_false, *] <;> rfl), (by simp only [s_upd, Nat.reduceEqDiff, if_true, if_false, *] <;> rfl), (by simp only [s_upd, Nat.reduceEqDiff, if_true, if_false, *] <;> rfl), (by simp only [*]), (by simp only [*]), (by simp only [*]), (by simp only [*, not_false_eq_true]), (by simp only [*, not_false_eq_true]), (by simp only [*, not_false_eq_true]), .lit (.slice none 0 0), _, OwnX.nil _ 3 1, (by simp only [AH.get, *, if_true, if_false] <;> rfl), (by simp only [AH.get, *, if_true, if_false] <;> rfl), (by simp only [AH.get, *, if_true, if_false] <;> rfl), (by repeat (first | assumption | exact SubH.refl _ | refine SubH.of_set ?_ (by simp only [*])))⟩ (by simp only [s_upd, Nat.reduceEqDiff, if_false, *] <;> rfl) hg (by simp only [s_upd, Nat.reduceEqDiff, if_true, if_false, *] <;> rfl) (by omega) (by omega) (hmade _ (by omega) (by omega)) (fun h => makeX_bad (by rw [e2, if_pos h])) hn (fun h => makeX_out (by rw [e2, if_neg (by simp [h])]; rfl))
theorem made50 {rows made : List Row} {n : Nat} {l : Line} {mv : VV} {H : AH} (hm : MadeR H mv made) (hmade : ∀ r ∈ made, Fits n r) (hn : (n : Int) ≤ 1000) : GivesF Try.prog 50 [rowsV rows, mv, lineV l, iV n] (makeX rows made n l) H := by
  have hq : ∀ a, 0 ≤ a → a < (made.length : Int) → Fits n (rowAt made a) := fun a h0 h1 => by
    have h : a.toNat < made.length := by omega
    unfold rowAt
    rw [List.getD_eq_getElem?_getD]
    simp only [h, List.getElem?_eq_getElem, Option.getD_some]; exact hmade _ (List.getElem_mem _)
  have hmv : ∀ (H : AH) (K : VE → AH → Prop), K (.ret (iV made.length)) H → vcLen Try.prog 22 mv H K := fun H K hK => by
    rcases hm with ⟨rfl, rfl⟩ | ⟨g, c, sp, rfl, _⟩
    · rw [n_lenS]; exact ⟨by rw [elT_22]; simp, hK⟩
    · rw [n_lenL]; exact ⟨by rw [elT_22]; simp, hK⟩
  by_cases h1 : l.k = 1
  · exact made50a hmv hn h1
  by_cases h2 : l.k = 2
  · exact made50b hmv hn h2
  rcases hm with ⟨rfl, rfl⟩ | ⟨g, c, sp, rfl, hg⟩
  · exact made50n hmv ⟨h1, h2⟩
  by_cases h3 : l.k = 3
  · exact made50c hg hq hn h3
  by_cases h4 : l.k = 4
  · exact made50d hg hq hn h4
  · exact made50z hmv ⟨h1, h2, h3, h4⟩
end Go.PV.Ytefpjfpelicedaa
end
section
/- The reference's divisor, and a row divided by what divides all of it. -/
set_option linter.unusedVariables false
set_option linter.unusedSimpArgs false
set_option maxRecDepth 20000
set_option maxHeartbeats 4000000
namespace Go.PV.Ytefpjfpelicedaa
open Go Go.Proofs
theorem gcd79 (a b : Int) : PureF Try.prog 79 [iV a, iV b] (iV (gcdF a b)) := by
  refine PureF.forget fun H => ?_
  refine vcalls_intro fd79 (by simp) ?_
  unfold c79
  (repeat' (first | (simp only [↓s_reg, ↓s_seq, ↓s_seqL, ↓s_block, ↓s_loop, ↓s_nil, ↓s_consN, ↓s_thenN, ↓s_putS, ↓s_dOkS, ↓s_ev_c, ↓s_assign, Nat.reduceLT, true_and, undefV, undef, *])))
  refine acx_loop (fun _ _ _ h => h) (fun A H' => SubH H H' ∧ A.d = [] ∧ ∃ x y, A.t 0 = iV x ∧ A.t 1 = iV y ∧ gcdF a b = gcdF x y)
    (fun A _ => match A.t 1 with | .lit (.int _ y) => y.natAbs | _ => 0) ?_ ?_
  · exact ⟨SubH.refl _, rfl, a, b, rfl, rfl, rfl⟩
  · rintro ⟨t, d⟩ H' ⟨hs, rfl, x, y, h0, h1, hg⟩
    dsimp only at h0 h1
    unfold b79_1
    by_cases hy : y = 0
    · subst hy
      rw [hg]
      clear hg
      unfold c79_1
      (repeat' (first | (simp only [↓s_reg, ↓s_seq, ↓s_cond, ↓s_condF, ↓s_exit, ↓s_ret, ↓s_nil, ↓s_consN, ↓s_thenN, ↓s_thenE, ↓s_inE, ↓s_kret, ↓s_putS, ↓s_dOkS, ↓s_ev_t, ↓s_ev_c, ↓s_upd, ↓s_move, ↓s_assign, ↓s_bin, ↓s_un, ↓s_callB, ↓s_max, ↓s_un_neg, ↓s_bin_neq, List.map_cons, List.map_nil, ite_true, ite_false, Nat.reduceEqDiff, Nat.reduceLT, true_and, and_true, Nat.succ_ne_self, decide_true, Bool.not_true, reduceCtorEq, eq_self, vcMax, *]) | (refine ret_tmp ?_) | (refine acx_go rfl (fun _ _ _ h => h) ?_)))
      rw [gcdF_zero, show max x (W (-x)) = if W (-x) > x then W (-x) else x from by rw [Int.max_def]; split <;> split <;> omega]
    · have hlt := tmod_lt (a := x) hy
      rw [gcdF_step hy] at hg
      (repeat' (first | (simp only [↓s_skip, ↓s_reg, ↓s_seq, ↓s_cond, ↓s_condT, ↓s_block, ↓s_dreg, ↓s_nil, ↓s_consN, ↓s_thenN, ↓s_inN, ↓s_kret, ↓s_putS, ↓s_dOkS, ↓s_ev_t, ↓s_ev_c, ↓s_upd, ↓s_move, ↓s_assign, ↓s_bin, ↓s_bin_neq, ↓s_bin_rem, ite_true, ite_false, Nat.reduceEqDiff, Nat.reduceLT, not_false_eq_true, true_and, and_true, Nat.zero_ne_one, Nat.succ_ne_self, decide_false, Bool.not_false, reduceCtorEq, ↓s_plFin, ↓s_plTkN, eq_self, ↓s_plK, *]) | (refine acx_dreg mixed (fun _ _ _ _ e h => ⟨e.trans h.1, h.2⟩) _ (SubH.refl _) ?_)))
      exact ⟨_, _, rfl, rfl, rfl⟩
/-- The row so far, that is built in a block of its own. -/
structure Bs (B H : AH) (r5 : Nat) (cs : List Int) (b : Int) : Prop where
  out : ∃ v Hb, OwnX Hb H 3 1 v cs.length (encC intE cs) ∧ Hb r5 = some (.cells 39 [v, iV b] 0) ∧ SubH B Hb
theorem Bs.next {B Hb H : AH} {r5 : Nat} {cs : List Int} {b a : Int} {v v' : VV} (n5 : B r5 = none) (k5 : Hb r5 = some (.cells 39 [v, iV b] 0)) (hs : SubH B Hb) (ho : OwnX Hb H 3 1 v' (cs.length + 1) (encC intE cs ++ [iV a])) : Bs B (H.set r5 (.cells 39 [v', iV b] 0)) r5 (cs ++ [a]) b :=
  ⟨v', Hb.set r5 (.cells 39 [v', iV b] 0), by rw [List.length_append, encC_append]; exact ho.put k5 _, AH.set_same _ _ _, hs.of_set n5⟩
/-- What stands behind: the row may be handed back. -/
theorem Bs.row {B0 B H : AH} {cs : List Int} {b : Int} {v : VV} {Hb : AH} (ho : OwnX Hb H 3 1 v cs.length (encC intE cs)) (hs : SubH B Hb) (h0 : SubH B0 B) {r2 : Nat} {x : Blk} (n2 : B0 r2 = none) (k2 : B r2 ≠ none) : GhV (H.set r2 x) (.agg [v, iV b]) B0 (rowV ⟨cs, b⟩) := by
  have hall := h0.trans (hs.trans ho.sub)
  rcases ho with ⟨rfl, h1, h2, rfl⟩ | ⟨g, c, sp, rfl, hg, rfl, h1, h2, h3', h4⟩
  · have h0' : cs = [] := List.eq_nil_of_length_eq_zero h1
    subst h0'
    exact GhV.agg (GhL.cons ((GhV.nil _).trans (GhV.forget (hall.of_set n2) _)) (GhL.cons (GhV.refl _ _) (GhL.nil _)))
  · have hne : ¬ g = r2 := fun e => by subst e; exact k2 (hs.none hg)
    exact GhV.row (by rw [AH.get, if_neg hne, AH.set_same]) h3' (hall.of_set n2) (h0.none (hs.none hg))
theorem red_get {r : Row} {g : Int} (i : Nat) (h : i < r.c.length) : (r.c.map fun c => W (c.tdiv g))[i]'(by simpa using h) = W (r.c[i].tdiv g) := by simp
theorem reduced64 {r : Row} {g c sp : Nat} {H : AH} (hg : H g = some (.cells 3 (encC intE r.c) sp)) (hn : r.c.length ≤ 1000) (hrb : In64 r.b) (hrc : ∀ c ∈ r.c, In64 c) :
    GivesF Try.prog 64 [.agg [.lit (.slice (some ⟨g, 0, none⟩) r.c.length c), iV r.b]] (if commonGo r.c r.b = 0 then .agg [.lit (.slice (some ⟨g, 0, none⟩) r.c.length c), iV r.b] else rowV (redF r)) H := by
  unfold GivesF
  have hC : ∀ r, H r = none → ¬ g = r := fun r hr => (AH.ne_of hg hr).1
  have hC' : ∀ r, H r = none → ¬ r = g := fun r hr => (AH.ne_of hg hr).2
  refine vcalls_intro fd64 (by simp) ?_
  unfold c64
  (repeat' (first | (simp only [↓s_reg, ↓s_seq, ↓s_seqL, ↓s_block, ↓s_loop, ↓s_nil, ↓s_consN, ↓s_thenN, ↓s_kret, ↓s_putS, ↓s_dOkS, ↓s_ev_t, ↓s_ev_c, ↓s_upd, ↓s_assign, ↓s_load, ↓s_alloc, ↓s_box, ↓s_fieldAddr, ptrV, List.map_cons, List.map_nil, List.getD_cons_zero, List.getD_cons_succ, List.getD_nil, ite_true, ite_false, Nat.reduceEqDiff, Nat.reduceLT, ne_eq, not_false_eq_true, true_and, Nat.succ_ne_self, undefV, AH.get, eq_self, Nat.zero_add, List.drop, ldV_f, cl_agg, ↓n_alloc, n_allocS, ↓n_box, n_ldP, n_faP, n_ldA, n_ldB, n_faA, undef, flT_39_1, ldT_3, zeroT_39, *]) | (refine allNew_intro fun zr zh => ?_; have zg := zh; (try simp only [AH.set_none] at zg))))
  rename_i r1 z1 z1'
  generalize hH1 : (H.set r1 _).set zr _ = H1
  have k2 : H1 zr = some (.cells 39 [.lit (.slice none 0 0), iV 0] 0) := by rw [← hH1]; exact AH.set_same _ _ _
  have k1 : H1 r1 = some (.cells 39 [.lit (.slice (some ⟨g, 0, none⟩) r.c.length c), iV r.b] 0) := by rw [← hH1, AH.get, if_neg zg.1.2]; exact AH.set_same _ _ _
  have kg : H1 g = some (.cells 3 (encC intE r.c) sp) := by rw [← hH1, AH.get, if_neg (hC _ zg.2), AH.get, if_neg (hC _ z1)]; exact hg
  have hs1 : SubH H H1 := by rw [← hH1]; exact ((SubH.refl _).of_set z1).of_set zg.2
  have n2 := zg.2
  have d12 := zg.1.2
  have d21 := zg.1.1
  have dg2 := hC _ zg.2
  have dg2' := hC' _ zg.2
  clear zg hH1 zh z1 z1'
  revert d12 d21 dg2 dg2' n2 k2
  generalize zr = r2
  intro k2 n2 d12 d21 dg2 dg2'
  refine acx_loop (fun _ _ _ h => h) (fun A H' => H' = H1 ∧ A.d = [] ∧ A.t 1 = ptrV r1 0 ∧ A.t 2 = ptrV r2 0 ∧ ∃ (i : Nat) (x : Int), i ≤ r.c.length ∧ A.t 4 = iV i ∧ A.t 3 = iV x ∧ commonGo r.c r.b = commonGo (r.c.drop i) x)
    (fun A _ => match A.t 4 with | .lit (.int _ i) => ((r.c.length : Int) - i).toNat | _ => 0) ?_ ?_
  · exact ⟨rfl, rfl, rfl, rfl, 0, r.b, by omega, rfl, rfl, rfl⟩
  · rintro ⟨t, d⟩ H' ⟨rfl, rfl, h1, h2, i, x, hi, h4, h3, hgo⟩
    dsimp only at h1 h2 h3 h4
    by_cases hlt : i < r.c.length
    · have hgo2 : commonGo r.c r.b = commonGo (r.c.drop (i + 1)) (gcdF x r.c[i]) := by rw [hgo, List.drop_eq_getElem_cons hlt]; rfl
      rw [hgo2]
      clear hgo hgo2
      (repeat' (first | (simp only [↓s_skip, ↓s_reg, ↓s_seq, ↓s_cond, ↓s_condT, ↓s_block, ↓s_nil, ↓s_consN, ↓s_thenN, ↓s_inN, ↓s_kret, ↓s_putS, ↓s_dOkS, ↓s_ev_t, ↓s_ev_c, ↓s_ev_f, ↓s_upd, ↓s_move, ↓s_assign, ↓s_load, ↓s_bin, ↓s_fieldAddr, ↓s_indexAddr, ↓s_callB, ↓s_callV, ↓s_callL, ↓s_len, ↓s_bin_lss, ↓s_bin_add, ptrV, intV, List.map_cons, List.map_nil, ite_true, ite_false, Nat.reduceEqDiff, Nat.reduceLT, ne_eq, not_false_eq_true, true_and, Nat.succ_ne_self, decide_true, reduceCtorEq, Int.natCast_nonneg, Int.toNat_natCast, Nat.mul_one, eq_self, Nat.zero_add, Nat.add_zero, List.drop, and_self, ldV_f, Int.ofNat_lt, n_ldP, n_faP, n_ixL, n_ixA2, n_lenL, n_ldA, n_ldB, n_faA, ints_drop, flT_39_0, ldT_3, ldT_37, elT_37, en_79, *]) | (refine PureF.use (gcd79 _ _) ?_) | (with_reducible refine And.intro ?_ ?_)))
      all_goals rw [wrap_ok (n := (i : Int) + 1) (by omega) (by omega)]
      · exact ⟨i + 1, _, by omega, rfl, rfl, rfl⟩
      · omega
    · have hgo2 : commonGo r.c r.b = x := by rw [hgo, List.drop_eq_nil_of_le (by omega)]; rfl
      have hred : x ≠ 0 → redF r = ⟨r.c.map fun c => W (c.tdiv (max x (W (-x)))), W (r.b.tdiv (max x (W (-x))))⟩ := fun h => by
        unfold redF; rw [hgo2, if_neg h]
      have hxin : In64 x := by rw [← hgo2]; exact (commonGo_spec2 r.c r.b hrb hrc).1
      rw [hgo2]
      clear hgo hgo2
      by_cases hx : x = 0
      · subst hx
        clear hred hxin
        (repeat' (first | (simp only [↓s_reg, ↓s_seq, ↓s_cond, ↓s_condT, ↓s_condF, ↓s_exit, ↓s_ret, ↓s_nil, ↓s_consN, ↓s_thenN, ↓s_thenE, ↓s_thenR, ↓s_inE, ↓s_kret, ↓s_putS, ↓s_putN, ↓s_dOkS, ↓s_dOkN, ↓s_ev_t, ↓s_ev_c, ↓s_upd, ↓s_move, ↓s_load, ↓s_store, ↓s_bin, ↓s_fieldAddr, ↓s_callB, ↓s_len, ↓s_bin_lss, ↓s_bin_eql, ptrV, intV, List.map_cons, List.map_nil, List.length_cons, List.length_nil, ite_true, ite_false, Nat.reduceEqDiff, Nat.reduceLT, Nat.reduceAdd, ne_eq, not_false_eq_true, true_and, Nat.succ_ne_self, decide_true, decide_false, reduceCtorEq, setAt, List.all_cons, List.all_nil, Bool.and_self, eq_self, Nat.zero_add, Nat.add_zero, List.drop, ldV_f, ldV_t2, Int.ofNat_lt, on_int, on_sl, cl_agg, List.set_cons_zero, List.set_cons_succ, Nat.le_refl, n_ldP, n_faP, n_lenL, n_ldA, n_ldB, n_faA, n_stP, n_stA, flT_39_0, ldT_37, ldT_39, szT_39, elT_37, *]) | (refine acx_go rfl (fun _ _ _ h => h) ?_)))
        exact retPost_ret rfl (x := .agg [.lit (.slice (some ⟨g, 0, none⟩) r.c.length c), iV r.b]) (by simp only [resV, resAll, resOne, ldT_39, s_upd, Nat.reduceEqDiff, if_true, if_false, AH.get, h2, ptrV, List.drop_zero, ldV_t2, Option.bind_some, Option.map_some, tupV]) ⟨_, rfl, GhV.forget (hs1.of_set n2) _⟩
      · rw [if_neg hx, hred hx]
        have hm : (if x < IntKind.i64.wrap (-x) then IntKind.i64.wrap (-x) else x) = max x (W (-x)) := by
          show _ = max x (IntKind.i64.wrap (-x))
          rw [Int.max_def]; split <;> split <;> omega
        have hm0 : ¬ max x (W (-x)) = 0 := by
          rw [max_abs hxin]
          omega
        clear hred hxin
        generalize max x (W (-x)) = m at *
        (repeat' (first | (simp only [↓s_skip, ↓s_reg, ↓s_seq, ↓s_seqL, ↓s_cond, ↓s_condF, ↓s_block, ↓s_exit, ↓s_loop, ↓s_nil, ↓s_consN, ↓s_thenN, ↓s_thenE, ↓s_inE, ↓s_kret, ↓s_putS, ↓s_putN, ↓s_dOkS, ↓s_dOkN, ↓s_ev_t, ↓s_ev_c, ↓s_upd, ↓s_move, ↓s_assign, ↓s_load, ↓s_store, ↓s_bin, ↓s_un, ↓s_alloc, ↓s_build, ↓s_fieldAddr, ↓s_callB, ↓s_len, ↓s_max, ↓s_un_neg, ↓s_bin_lss, ↓s_bin_eql, ↓s_bin_quo, ptrV, intV, List.map_cons, List.map_nil, List.length_cons, List.length_nil, ite_true, ite_false, Nat.reduceEqDiff, Nat.reduceLT, Nat.reduceAdd, ne_eq, not_false_eq_true, true_and, Nat.succ_ne_self, decide_false, reduceCtorEq, AH.get, AH.set_set, vcBuild, fillV, setAt, List.all_cons, List.all_nil, Bool.and_self, eq_self, Nat.zero_add, Nat.add_zero, List.drop, and_self, List.getElem?_cons_zero, List.getElem?_cons_succ, vcMax, ldV_f, Int.ofNat_lt, cl_int, on_int, on_sl, cl_agg, List.set_cons_zero, List.set_cons_succ, ↓n_alloc, n_allocS, Nat.le_refl, n_ldP, n_faP, n_lenL, n_ldA, n_ldB, n_faA, n_stP, n_stA, flT_39_1, flT_39_0, ldT_3, ldT_37, szT_39, stT_39, zeroT_39, elT_37, *]) | (refine acx_go rfl (fun _ _ _ h => h) ?_) | (refine allNew_intro fun zr zh => ?_; have zg := zh; (try simp only [AH.set_none] at zg))))
        revert zh zg
        generalize zr = r5
        intro n5 n5'
        have d15 : ¬ r1 = r5 := (AH.ne_of k1 n5).1
        have d25 : ¬ r2 = r5 := (AH.ne_of k2 n5).1
        have dg5 : ¬ g = r5 := (AH.ne_of kg n5).1
        obtain ⟨tgt, ht⟩ : ∃ tgt, tgt = r.c.map fun c => W (c.tdiv m) := ⟨_, rfl⟩
        have hlen : tgt.length = r.c.length := by simp [ht]
        have hget : ∀ (j : Nat) (h : j < r.c.length), tgt[j]'(by rw [hlen]; exact h) = IntKind.i64.wrap (r.c[j].tdiv m) := fun j h => by subst ht; exact red_get j h
        rw [← ht]
        clear ht hm hi h4 h3
        refine acx_loop (fun _ _ _ h => h) (fun A H2 => A.d = [] ∧ A.t 1 = ptrV r1 0 ∧ A.t 2 = ptrV r2 0 ∧ A.t 3 = iV m ∧ A.t 5 = ptrV r5 0 ∧ ∃ i : Nat, i ≤ r.c.length ∧ A.t 6 = iV i ∧ Bs H' H2 r5 (tgt.take i) (IntKind.i64.wrap (r.b.tdiv m)))
          (fun A _ => match A.t 6 with | .lit (.int _ i) => ((r.c.length : Int) - i).toNat | _ => 0) ?_ ?_
        · exact ⟨rfl, (by simp only [s_upd, Nat.reduceEqDiff, if_false, *] <;> rfl), (by simp only [s_upd, Nat.reduceEqDiff, if_false, *] <;> rfl), (by simp only [s_upd, Nat.reduceEqDiff, if_true, if_false, *] <;> rfl), (by simp only [s_upd, Nat.reduceEqDiff, if_true, if_false, *] <;> rfl), 0, by omega, rfl, _, _, OwnX.nil _ 3 1, AH.set_same _ _ _, (SubH.refl _).of_set n5⟩
        · clear h1 h2
          rintro ⟨t, d⟩ H2 ⟨rfl, h1, h2, h3, h5, i, hi, h6, v, Hb, ho, k5, hs⟩
          dsimp only at h1 h2 h3 h5 h6
          have q5 := ho.sub _ _ k5
          have q1 := (hs.trans ho.sub) _ _ k1
          have q2 := (hs.trans ho.sub) _ _ k2
          have qg := (hs.trans ho.sub) _ _ kg
          have hll : (tgt.take i).length = i := by rw [List.length_take]; omega
          by_cases hlt : i < r.c.length
          · have hgi := hget i hlt
            (repeat' (first | (simp only [↓s_skip, ↓s_reg, ↓s_seq, ↓s_cond, ↓s_condT, ↓s_block, ↓s_dreg, ↓s_nil, ↓s_consN, ↓s_thenN, ↓s_kret, ↓s_putS, ↓s_dOkS, ↓s_ev_t, ↓s_upd, ↓s_move, ↓s_load, ↓s_bin, ↓s_buildSlice, ↓s_fieldAddr, ↓s_indexAddr, ↓s_callB, ↓s_len, ↓s_append, ↓s_bin_lss, ↓s_bin_quo, ptrV, intV, List.map_cons, List.map_nil, List.length_cons, List.length_nil, List.append_nil, ite_true, ite_false, Nat.reduceEqDiff, Nat.reduceLT, Nat.reduceLeDiff, ne_eq, not_false_eq_true, true_and, Nat.succ_ne_self, decide_true, reduceCtorEq, Int.natCast_nonneg, Int.toNat_natCast, Nat.mul_one, ↓s_plFin, ↓s_plTkN, ↓s_plOneN, fillV, setAt, eq_self, Nat.zero_add, Nat.add_zero, List.drop, and_self, ldV_f, Int.ofNat_lt, cl_int, List.set_cons_zero, Nat.le_refl, n_ldP, n_faP, n_ixL, n_ixA2, n_lenL, n_ldA, n_ldB, n_faA, ↓s_plK, ↓s_oneK, vcBuildSlice, List.replicate_succ, List.replicate_zero, List.flatten_cons, List.flatten_nil, ints_drop, flT_39_0, ldT_3, ldT_37, elT_37, zeroT_3, *]) | (refine acx_dreg mixed (fun _ _ _ _ e h => ⟨e.trans h.1, h.2⟩) _ (SubH.refl _) ?_) | (exact SubH.refl _) | (with_reducible refine And.intro ?_ ?_)))
            refine append_own elT_37 zeroT_3 rfl (by omega) ho rfl rfl (by omega) (by omega) (fun v' H'' ho2 => ?_)
            have q5' := ho2.sub _ _ k5
            have hc1 := ho2.cells.1
            have hc2 := ho2.cells.2
            clear q5
            (repeat' (first | (simp only [↓s_reg, ↓s_nil, ↓s_consN, ↓s_thenN, ↓s_inN, ↓s_kret, ↓s_putS, ↓s_putN, ↓s_dOkS, ↓s_dOkN, ↓s_ev_t, ↓s_ev_c, ↓s_upd, ↓s_move, ↓s_assign, ↓s_store, ↓s_bin, ↓s_fieldAddr, ↓s_bin_add, ptrV, List.length_cons, List.length_nil, ite_true, ite_false, Nat.reduceEqDiff, Nat.reduceLT, Nat.reduceAdd, Nat.reduceLeDiff, ne_eq, not_false_eq_true, true_and, Nat.succ_ne_self, setAt, List.all_cons, List.all_nil, Bool.and_self, eq_self, Nat.zero_add, Nat.add_zero, List.set_cons_zero, n_faP, n_faA, n_stP, n_stA, flT_39_0, szT_37, *]) | (with_reducible refine And.intro ?_ ?_)))
            all_goals rw [wrap_ok (n := (i : Int) + 1) (by omega) (by omega)]
            · refine ⟨i + 1, by omega, rfl, ?_⟩
              rw [take_snoc (by omega), hgi]
              exact Bs.next n5 k5 hs ho2
            · omega
          · have hin : i = tgt.length := by omega
            subst hin
            rw [List.take_of_length_le (Nat.le_refl _)] at ho
            have hc1 := ho.cells.1
            have hc2 := ho.cells.2
            (repeat' (first | (simp only [↓s_skip, ↓s_reg, ↓s_seq, ↓s_cond, ↓s_block, ↓s_exit, ↓s_ret, ↓s_dreg, ↓s_nil, ↓s_consN, ↓s_thenN, ↓s_thenE, ↓s_inE, ↓s_kret, ↓s_putS, ↓s_putN, ↓s_dOkS, ↓s_dOkN, ↓s_ev_t, ↓s_upd, ↓s_move, ↓s_load, ↓s_store, ↓s_bin, ↓s_fieldAddr, ↓s_indexAddr, ↓s_callB, ↓s_len, ↓s_bin_lss, ptrV, intV, List.map_cons, List.map_nil, List.length_cons, List.length_nil, ite_true, ite_false, Nat.reduceEqDiff, Nat.reduceLT, Nat.reduceAdd, ne_eq, not_false_eq_true, true_and, Nat.succ_ne_self, decide_true, decide_false, reduceCtorEq, Int.natCast_nonneg, Int.toNat_natCast, Nat.mul_one, ↓s_plTkN, setAt, List.all_cons, List.all_nil, Bool.and_self, eq_self, Nat.zero_add, Nat.add_zero, List.drop, and_self, ldV_f, ldV_t2, Int.ofNat_lt, on_int, cl_agg, List.set_cons_zero, List.set_cons_succ, Nat.le_refl, n_ldP, n_faP, n_ixL, n_ixA2, n_lenL, n_ldA, n_ldB, n_faA, n_stP, n_stA, ↓s_plK, flT_39_0, ldT_3, ldT_37, ldT_39, szT_39, elT_37, *]) | (refine condL_splitD ?_ ?_ <;> intro) | (refine acx_go rfl (fun _ _ _ h => h) ?_) | (refine acx_dreg mixed (fun _ _ _ _ e h => ⟨e.trans h.1, h.2⟩) _ (SubH.refl _) ?_)))
            · exfalso; omega
            exact retPost_ret rfl (x := .agg [v, iV (IntKind.i64.wrap (r.b.tdiv m))]) (by simp only [resV, resAll, resOne, ldT_39, s_upd, Nat.reduceEqDiff, if_true, if_false, AH.get, h2, ptrV, List.drop_zero, ldV_t2, Option.bind_some, Option.map_some, tupV]) ⟨_, rfl, Bs.row ho hs hs1 n2 (by rw [k2]; simp)⟩
end Go.PV.Ytefpjfpelicedaa
end
section
/- The reference's combination of two rows. -/
set_option linter.unusedVariables false
set_option linter.unusedSimpArgs false
set_option maxRecDepth 20000
set_option maxHeartbeats 4000000
namespace Go.PV.Ytefpjfpelicedaa
open Go Go.Proofs
theorem getD_at {l : List Int} {k : Nat} (h : k < l.length) : l.getD k 0 = l[k] := by simp [List.getD_eq_getElem?_getD, h]
theorem combined46 {a b : Row} {k : Nat} {H : AH} (hk : k < a.c.length) (hl : a.c.length = b.c.length) (hn : a.c.length ≤ 1000) (hub : In64 (combU a b k).b) (huc : ∀ c ∈ (combU a b k).c, In64 c) : GivesF Try.prog 46 [rowV a, rowV b, iV k] (rowV (combF a b k)) H := by
  unfold GivesF
  have hkb : k < b.c.length := by omega
  have hlen : (combU a b k).c.length = a.c.length := by simp [combU, hl]
  have hbv : IntKind.i64.wrap (IntKind.i64.wrap (a.b * IntKind.i64.wrap (-b.c[k])) + IntKind.i64.wrap (b.b * a.c[k])) = (combU a b k).b := by
    show _ = W (W (a.b * W (-(b.c.getD k 0))) + W (b.b * a.c.getD k 0))
    rw [getD_at hk, getD_at hkb]
  have hget : ∀ (j : Nat) (h : j < a.c.length) (h' : j < b.c.length) (h'' : j < (combU a b k).c.length), (combU a b k).c[j] = IntKind.i64.wrap (IntKind.i64.wrap (a.c[j] * IntKind.i64.wrap (-b.c[k])) + IntKind.i64.wrap (b.c[j] * a.c[k])) := fun j h h' h'' => by
    simp only [combU, List.getElem_zipWith, getD_at hk, getD_at hkb]
  have hcf : combF a b k = redF (combU a b k) := rfl
  rw [hcf]
  clear hcf
  generalize combU a b k = u at *
  refine vcalls_intro fd46 (by simp) ?_
  unfold c46
  (repeat' (first | (simp only [↓s_reg, ↓s_seq, ↓s_seqL, ↓s_block, ↓s_loop, ↓s_dreg, ↓s_nil, ↓s_consN, ↓s_thenN, ↓s_kret, ↓s_putS, ↓s_putN, ↓s_dOkS, ↓s_dOkN, ↓s_ev_t, ↓s_ev_c, ↓s_upd, ↓s_move, ↓s_assign, ↓s_load, ↓s_store, ↓s_bin, ↓s_un, ↓s_alloc, ↓s_box, ↓s_build, ↓s_fieldAddr, ↓s_indexAddr, ↓s_un_neg, ↓s_bin_add, ↓s_bin_mul, ptrV, List.map_cons, List.map_nil, List.length_cons, List.length_nil, List.getD_cons_zero, List.getD_cons_succ, List.getD_nil, ite_true, ite_false, Nat.reduceEqDiff, Nat.reduceLT, Nat.reduceAdd, ne_eq, not_false_eq_true, true_and, Nat.succ_ne_self, Int.natCast_nonneg, Int.toNat_natCast, Nat.mul_one, undefV, ↓s_plFin, ↓s_plTkN, AH.get, AH.set_set, vcBuild, fillV, setAt, List.all_cons, List.all_nil, Bool.and_self, eq_self, Nat.zero_add, Nat.add_zero, List.drop, and_self, List.getElem?_cons_zero, List.getElem?_cons_succ, ldV_f, Int.ofNat_lt, cl_int, on_int, on_sl, cl_agg, List.set_cons_zero, List.set_cons_succ, ↓n_alloc, n_allocS, ↓n_box, Nat.le_refl, n_ldI, n_ldP, n_faP, n_ixS, n_ixA1, n_ldA, n_ldC, n_ldB, n_faA, n_stP, n_stA, ↓s_plK, undef, ints_drop, flT_39_0, flT_39_1, ldT_37, ldT_3, szT_39, stT_39, zeroT_39, elT_37, *]) | (refine acx_dreg mixed (fun _ _ _ _ e h => ⟨e.trans h.1, h.2⟩) _ (SubH.refl _) ?_) | (refine allNew_intro fun zr zh => ?_; have zg := zh; (try simp only [AH.set_none] at zg))))
  rename_i r3 z3 z3' r4 z4 z4' r6 z6 z6'
  generalize hH1 : ((H.set r3 _).set r4 _).set r6 _ = H1 at *
  have n6 := z6'.2.2
  have k6' : H1 r6 = some (.cells 39 [.lit (.slice none 0 0), iV 0] 0) := by rw [← hH1]; exact AH.set_same _ _ _
  have k6 : H1 r6 ≠ none := by rw [k6']; simp
  have k4 : H1 r4 = some (.cells 39 (rowE b) 0) := by rw [← hH1, AH.get, if_neg z6'.1.2]; exact AH.set_same _ _ _
  have k3 : H1 r3 = some (.cells 39 (rowE a) 0) := by rw [← hH1, AH.get, if_neg z6'.2.1.2, AH.get, if_neg z4'.1.2]; exact AH.set_same _ _ _
  have hs1 : SubH H H1 := by rw [← hH1]; exact (((SubH.refl _).of_set z3).of_set z4'.2).of_set n6
  clear hH1 z3 z3' z4 z4' z6 z6' zg
  revert zh
  generalize zr = r9
  intro n9
  have d39 : ¬ r3 = r9 := (AH.ne_of k3 n9).1
  have d49 : ¬ r4 = r9 := (AH.ne_of k4 n9).1
  refine acx_loop (fun _ _ _ h => h) (fun A H2 => A.d = [] ∧ A.t 3 = ptrV r3 0 ∧ A.t 4 = ptrV r4 0 ∧ A.t 6 = ptrV r6 0 ∧ A.t 7 = iV (IntKind.i64.wrap (-b.c[k])) ∧ A.t 8 = iV a.c[k] ∧ A.t 9 = ptrV r9 0 ∧ ∃ i : Nat, i ≤ a.c.length ∧ A.t 10 = iV i ∧ Bs H1 H2 r9 (u.c.take i) u.b)
    (fun A _ => match A.t 10 with | .lit (.int _ i) => ((a.c.length : Int) - i).toNat | _ => 0) ?_ ?_
  · exact ⟨rfl, (by simp only [s_upd, Nat.reduceEqDiff, if_true, if_false, *] <;> rfl), (by simp only [s_upd, Nat.reduceEqDiff, if_true, if_false, *] <;> rfl), (by simp only [s_upd, Nat.reduceEqDiff, if_true, if_false, *] <;> rfl), (by simp only [s_upd, Nat.reduceEqDiff, if_true, if_false, *] <;> rfl), (by simp only [s_upd, Nat.reduceEqDiff, if_true, if_false, *] <;> rfl), (by simp only [s_upd, Nat.reduceEqDiff, if_true, if_false, *] <;> rfl), 0, by omega, rfl, _, _, OwnX.nil _ 3 1, AH.set_same _ _ _, (SubH.refl _).of_set n9⟩
  · rintro ⟨t, d⟩ H2 ⟨rfl, h3, h4, h6, h7, h8, h9, i, hi, h10, v, Hb, ho, k9, hs⟩
    dsimp only at h3 h4 h6 h7 h8 h9 h10
    have q9 := ho.sub _ _ k9
    have q3 := (hs.trans ho.sub) _ _ k3
    have q4 := (hs.trans ho.sub) _ _ k4
    have q6 := (hs.trans ho.sub) _ _ k6'
    have hll : (u.c.take i).length = i := by rw [List.length_take]; omega
    by_cases hlt : i < a.c.length
    · have hlb : i < b.c.length := by omega
      have hgi := hget i hlt hlb (by omega)
      clear hget hbv
      (repeat' (first | (simp only [↓s_skip, ↓s_reg, ↓s_seq, ↓s_cond, ↓s_condT, ↓s_block, ↓s_dreg, ↓s_nil, ↓s_consN, ↓s_thenN, ↓s_kret, ↓s_putS, ↓s_dOkS, ↓s_ev_t, ↓s_upd, ↓s_move, ↓s_load, ↓s_bin, ↓s_buildSlice, ↓s_fieldAddr, ↓s_indexAddr, ↓s_callB, ↓s_len, ↓s_append, ↓s_bin_lss, ↓s_bin_add, ↓s_bin_mul, ptrV, intV, List.map_cons, List.map_nil, List.length_cons, List.length_nil, List.append_nil, ite_true, ite_false, Nat.reduceEqDiff, Nat.reduceLT, Nat.reduceLeDiff, ne_eq, not_false_eq_true, true_and, Nat.succ_ne_self, decide_true, reduceCtorEq, Int.natCast_nonneg, Int.toNat_natCast, Nat.mul_one, ↓s_plFin, ↓s_plTkN, ↓s_plOneN, fillV, setAt, eq_self, Nat.zero_add, Nat.add_zero, List.drop, and_self, ldV_f, Int.ofNat_lt, cl_int, List.set_cons_zero, Nat.le_refl, n_ldI, n_ldP, n_faP, n_ixS, n_ixA1, n_lenS, n_ldA, n_ldC, n_ldB, n_faA, ↓s_plK, ↓s_oneK, vcBuildSlice, List.replicate_succ, List.replicate_zero, List.flatten_cons, List.flatten_nil, ints_drop, flT_39_0, ldT_37, ldT_3, elT_37, zeroT_3, *]) | (refine acx_dreg mixed (fun _ _ _ _ e h => ⟨e.trans h.1, h.2⟩) _ (SubH.refl _) ?_) | (exact SubH.refl _) | (with_reducible refine And.intro ?_ ?_)))
      refine append_own elT_37 zeroT_3 rfl (by omega) ho rfl rfl (by omega) (by omega) (fun v' H'' ho2 => ?_)
      have q9' := ho2.sub _ _ k9
      have hc1 := ho2.cells.1
      have hc2 := ho2.cells.2
      clear q9
      (repeat' (first | (simp only [↓s_reg, ↓s_nil, ↓s_consN, ↓s_thenN, ↓s_inN, ↓s_kret, ↓s_putS, ↓s_putN, ↓s_dOkS, ↓s_dOkN, ↓s_ev_t, ↓s_ev_c, ↓s_upd, ↓s_move, ↓s_assign, ↓s_store, ↓s_bin, ↓s_fieldAddr, ↓s_bin_add, ptrV, List.length_cons, List.length_nil, ite_true, ite_false, Nat.reduceEqDiff, Nat.reduceLT, Nat.reduceAdd, Nat.reduceLeDiff, ne_eq, not_false_eq_true, true_and, Nat.succ_ne_self, setAt, List.all_cons, List.all_nil, Bool.and_self, eq_self, Nat.zero_add, Nat.add_zero, List.set_cons_zero, n_faP, n_faA, n_stP, n_stA, flT_39_0, szT_37, *]) | (with_reducible refine And.intro ?_ ?_)))
      all_goals rw [wrap_ok (n := (i : Int) + 1) (by omega) (by omega)]
      · refine ⟨i + 1, by omega, rfl, ?_⟩
        rw [take_snoc (by omega), hgi]
        exact Bs.next n9 k9 hs ho2
      · omega
    · have hin : i = a.c.length := by omega
      subst hin
      rw [List.take_of_length_le (by omega)] at ho
      clear hget hbv hll
      have hown := ho
      rcases hown with ⟨rfl, e1, _, _⟩ | ⟨g, c, sp, rfl, hg, rfl, e1, e2, e3, e4⟩
      · omega
      have hR := reduced64 (r := u) (g := g) (c := c) (sp := sp) (H := Hb.set g (.cells 3 (encC intE u.c) sp)) (AH.set_same _ _ _) (by omega) hub huc
      have hsub : SubH H (Hb.set g (.cells 3 (encC intE u.c) sp)) := hs1.trans (hs.trans ho.sub)
      generalize Hb.set g (.cells 3 (encC intE u.c) sp) = H2 at *
      by_cases hc : commonGo u.c u.b = 0
      · rw [if_pos hc] at hR
        have e : redF u = u := by unfold redF; rw [if_pos hc]
        rw [e]
        clear hc e hlen
        (repeat' (first | (refine hR.use ?_) | (simp only [↓s_skip, ↓s_reg, ↓s_seq, ↓s_cond, ↓s_block, ↓s_exit, ↓s_ret, ↓s_dreg, ↓s_nil, ↓s_consN, ↓s_thenN, ↓s_thenE, ↓s_inE, ↓s_kret, ↓s_putS, ↓s_putN, ↓s_dOkS, ↓s_dOkN, ↓s_ev_t, ↓s_ev_f, ↓s_upd, ↓s_move, ↓s_load, ↓s_store, ↓s_bin, ↓s_fieldAddr, ↓s_indexAddr, ↓s_callB, ↓s_callV, ↓s_callL, ↓s_len, ↓s_bin_lss, ptrV, intV, List.map_cons, List.map_nil, List.length_cons, List.length_nil, ite_true, ite_false, Nat.reduceEqDiff, Nat.reduceLT, Nat.reduceAdd, ne_eq, not_false_eq_true, true_and, Nat.succ_ne_self, decide_true, decide_false, reduceCtorEq, Int.natCast_nonneg, Int.toNat_natCast, Nat.mul_one, ↓s_plTkN, setAt, List.all_cons, List.all_nil, Bool.and_self, eq_self, Nat.zero_add, Nat.add_zero, List.drop, and_self, ldV_f, ldV_t2, Int.ofNat_lt, on_int, on_sl, cl_agg, List.set_cons_zero, List.set_cons_succ, Nat.le_refl, n_ldI, n_ldP, n_faP, n_ixS, n_ixA1, n_lenS, n_ldA, n_ldC, n_ldB, n_faA, n_stP, n_stA, ↓s_plK, flT_39_0, ldT_37, ldT_3, ldT_39, szT_39, elT_37, en_64, *]) | (refine condL_splitD ?_ ?_ <;> intro) | (refine acx_go rfl (fun _ _ _ h => h) ?_) | (refine acx_dreg mixed (fun _ _ _ _ e h => ⟨e.trans h.1, h.2⟩) _ (SubH.refl _) ?_)))
        · exfalso; omega
        exact retPost_ret rfl (x := .agg [.lit (.slice (some ⟨g, 0, none⟩) u.c.length c), iV u.b]) (by simp only [resV, resAll, resOne, ldT_39, s_upd, Nat.reduceEqDiff, if_true, if_false, AH.get, h6, ptrV, List.drop_zero, ldV_t2, Option.bind_some, Option.map_some, tupV]) ⟨_, rfl, Bs.row ho hs hs1 n6 k6⟩
      · rw [if_neg hc] at hR
        clear hc hlen
        (repeat' (first | (refine hR.use ?_) | (simp only [↓s_skip, ↓s_reg, ↓s_seq, ↓s_cond, ↓s_block, ↓s_exit, ↓s_ret, ↓s_dreg, ↓s_nil, ↓s_consN, ↓s_thenN, ↓s_thenE, ↓s_inE, ↓s_kret, ↓s_putS, ↓s_putN, ↓s_dOkS, ↓s_dOkN, ↓s_ev_t, ↓s_ev_f, ↓s_upd, ↓s_move, ↓s_load, ↓s_store, ↓s_bin, ↓s_fieldAddr, ↓s_indexAddr, ↓s_callB, ↓s_callV, ↓s_callL, ↓s_len, ↓s_bin_lss, ptrV, intV, List.map_cons, List.map_nil, List.length_cons, List.length_nil, ite_true, ite_false, Nat.reduceEqDiff, Nat.reduceLT, Nat.reduceAdd, ne_eq, not_false_eq_true, true_and, Nat.succ_ne_self, decide_true, decide_false, reduceCtorEq, Int.natCast_nonneg, Int.toNat_natCast, Nat.mul_one, ↓s_plTkN, setAt, List.all_cons, List.all_nil, Bool.and_self, eq_self, Nat.zero_add, Nat.add_zero, List.drop, and_self, ldV_f, ldV_t2, Int.ofNat_lt, on_int, cl_agg, on_slice, List.set_cons_zero, List.set_cons_succ, Nat.le_refl, n_ldI, n_ldP, n_faP, n_ixS, n_ixA1, n_lenS, n_ldA, n_ldC, n_ldB, n_faA, n_stP, n_stA, ↓s_plK, flT_39_0, ldT_37, ldT_3, ldT_39, szT_39, elT_37, en_64, *]) | (refine condL_splitD ?_ ?_ <;> intro) | (refine acx_go rfl (fun _ _ _ h => h) ?_) | (refine acx_dreg mixed (fun _ _ _ _ e h => ⟨e.trans h.1, h.2⟩) _ (SubH.refl _) ?_)))
        · exfalso; omega
        exact retPost_ret rfl (x := rowV (redF u)) (by simp only [resV, resAll, resOne, ldT_39, s_upd, Nat.reduceEqDiff, if_true, if_false, AH.get, h6, ptrV, List.drop_zero, ldV_t2, Option.bind_some, Option.map_some, tupV]) ⟨_, rfl, GhV.forget (hsub.of_set n6) _⟩
end Go.PV.Ytefpjfpelicedaa
end
section
/- The reference: the rows of lines; a certificate's error. -/
set_option linter.unusedVariables false
set_option linter.unusedSimpArgs false
set_option maxRecDepth 20000
set_option maxHeartbeats 4000000
namespace Go.PV.Ytefpjfpelicedaa
open Go Go.Proofs
/-- The rows so far, at a state that also may hold other blocks. -/
def OutR (H H' : AH) (mv : VV) (made : List Row) : Prop := (mv = .slice true 0 [] ∧ made = [] ∧ SubH H H') ∨ ∃ Hb, SubH H Hb ∧ OwnX Hb H' 39 2 mv made.length (encC rowE made) ∧ made ≠ []
theorem OutR.sub {H H' : AH} {mv : VV} {made : List Row} (h : OutR H H' mv made) : SubH H H' := by
  rcases h with ⟨_, _, h⟩ | ⟨Hb, h1, h2, _⟩
  · exact h
  · exact h1.trans h2.sub
theorem OutR.made {H H' : AH} {mv : VV} {made : List Row} (h : OutR H H' mv made) : MadeR H' mv made := by
  rcases h with ⟨h1, h2, h⟩ | ⟨Hb, h1, ⟨_, h2, _⟩ | ⟨g, c, sp, rfl, h0, rfl, h2, h3, h4⟩, h5⟩
  · exact .inl ⟨h1, h2⟩
  · exact absurd (List.eq_nil_of_length_eq_zero h2) h5
  · exact .inr ⟨g, c, sp, rfl, AH.set_same _ _ _⟩
theorem OutR.back {H H' : AH} {mv : VV} {made : List Row} (h : OutR H H' mv made) : GhV H' mv H (rowsV made) := by
  rcases h with ⟨rfl, rfl, h⟩ | ⟨Hb, h1, h2, _⟩
  · exact (GhV.imm _).trans (GhV.forget h _)
  · exact GhV.back h2 h1
theorem OutR.cells {H H' : AH} {mv : VV} {made : List Row} (h : OutR H H' mv made) : mv.cells = [mv] ∧ VV.one mv = true := by
  rcases h with ⟨rfl, _⟩ | ⟨Hb, h1, h2, _⟩
  · exact ⟨rfl, rfl⟩
  · exact h2.cells
theorem OutR.alloc {H H' : AH} {mv : VV} {made : List Row} {r : Nat} (h : OutR H H' mv made) (hr : H' r = none) (b : Blk) : OutR H (H'.set r b) mv made := by
  have hn := h.sub.none hr
  rcases h with ⟨rfl, rfl, h⟩ | ⟨Hb, h1, h2, h3⟩
  · exact .inl ⟨rfl, rfl, h.of_set hn⟩
  · exact .inr ⟨Hb.set r b, h1.of_set hn, h2.alloc hr b, h3⟩
theorem OutR.append {H H' : AH} {mv x : VV} {made : List Row} {r : Row} {K : VE → AH → Prop} (h : OutR H H' mv made) (hl : made.length ≤ 5000) (hx : x = .slice true 1 (rowE r)) (hK : ∀ v' H'', OutR H H'' v' (made ++ [r]) → K (.ret v') H'') : AppendA Try.prog 22 mv x H' K := by
  subst hx
  rcases h with ⟨rfl, rfl, h⟩ | ⟨Hb, h1, h2, h3⟩
  · refine append_clip elT_22 zeroT_39 rfl (by omega) rfl rfl rfl (by omega) (by omega) (fun h => by omega) (fun _ v' H'' ho => hK _ _ (.inr ⟨H', h, ?_, by simp⟩))
    simpa [encC_cons, encC] using ho
  · refine append_own elT_22 zeroT_39 rfl (by omega) h2 rfl rfl (by omega) (by omega) (fun v' H'' ho => hK _ _ (.inr ⟨Hb, h1, ?_, by simp⟩))
    rw [show encC rowE (made ++ [r]) = encC rowE made ++ rowE r from by rw [encC_append]; rfl, List.length_append]
    exact ho
theorem derive27 (rows : List Row) (ls : List Line) (h1 : (rows.length : Int) ≤ 9223372036854775806) (h2 : (ls.length : Int) ≤ 9223372036854775806) : PureF Try.prog 27 [rowsV rows, linesV ls] (.tuple [rowsV (deriveF rows ls).1, iV (deriveF rows ls).2]) := by
  refine GivesF.pure fun H => ?_
  refine vcalls_intro fd27 (by simp) ?_
  unfold c27
  (repeat' (first | (simp only [↓s_skip, ↓s_reg, ↓s_seq, ↓s_seqL, ↓s_cond, ↓s_block, ↓s_ret, ↓s_loop, ↓s_nil, ↓s_consN, ↓s_thenN, ↓s_thenR, ↓s_kret, ↓s_putS, ↓s_dOkS, ↓s_ev_t, ↓s_ev_c, ↓s_ev_f, ↓s_upd, ↓s_move, ↓s_assign, ↓s_bin, ↓s_buildSlice, ↓s_callB, ↓s_callV, ↓s_callL, ↓s_len, ↓s_bin_gtr, ↓s_bin_neq, intV, List.map_cons, List.map_nil, List.length_cons, List.length_nil, List.getD_cons_zero, List.getD_cons_succ, List.getD_nil, ite_true, ite_false, Nat.reduceEqDiff, Nat.reduceLT, Nat.reduceAdd, Nat.reduceMul, Nat.reduceLeDiff, ne_eq, not_false_eq_true, true_and, Nat.succ_ne_self, decide_true, decide_false, reduceCtorEq, undefV, fillV, eq_self, Nat.zero_add, and_self, n_lenS, undef, vcBuildSlice, List.replicate_zero, List.flatten_nil, zeroT_39, elT_35, elT_22, en_35, en_10, *]) | (refine condL_splitD ?_ ?_ <;> intro) | (refine condL_split ?_ ?_ <;> intro) | (refine PureF.use (right35 _ h1) ?_) | (refine PureF.use (unknowns10 _ h1) ?_)))
  · have hr : ¬ rightF rows = 0 := by simpa using (by assumption : (!decide (rightF rows = 0)) = true)
    refine retPost_ret rfl (by simp only [resV, resAll, resOne, s_upd, Nat.reduceEqDiff, if_true, if_false, Option.bind_some, Option.map_some, tupV] <;> rfl) ⟨_, rfl, ?_⟩
    simp only [deriveF, hr, if_false]
    exact GhV.tuple (GhL.cons (GhV.nil _) (GhL.cons (GhV.refl _ _) (GhL.nil _)))
  · have hr : rightF rows = 0 := by simpa using (by assumption : (!decide (rightF rows = 0)) = false)
    have hl : 5000 < ls.length := by omega
    refine retPost_ret rfl (by simp only [resV, resAll, resOne, s_upd, Nat.reduceEqDiff, if_true, if_false, Option.bind_some, Option.map_some, tupV] <;> rfl) ⟨_, rfl, ?_⟩
    simp only [deriveF, hr, hl, if_true]
    exact GhV.tuple (GhL.cons (GhV.nil _) (GhL.cons (GhV.refl _ _) (GhL.nil _)))
  · have hr : rightF rows = 0 := by simpa using (by assumption : (!decide (rightF rows = 0)) = false)
    have hl : ¬ 5000 < ls.length := by omega
    have hd : deriveF rows ls = deriveGo rows (unkN rows) [] ls := by simp only [deriveF, hr, hl, if_true, if_false]
    have hn := unkN_le hr
    have hu := unkN_eq rows
    rw [hd]
    clear hd
    refine acx_loop (fun _ _ _ h => h) (fun A H' => A.d = [] ∧ A.t 0 = rowsV rows ∧ A.t 1 = linesV ls ∧ A.t 7 = iV (unkN rows) ∧ ∃ (i : Nat) (made : List Row), i ≤ ls.length ∧ A.t 9 = iV i ∧ made.length = i ∧
        OutR H H' (A.t 8) made ∧ (∀ r ∈ made, Fits (unkN rows) r) ∧ deriveGo rows (unkN rows) [] ls = deriveGo rows (unkN rows) made (ls.drop i))
      (fun A _ => match A.t 9 with | .lit (.int _ i) => ((ls.length : Int) - i).toNat | _ => 0) ?_ ?_
    · refine ⟨rfl, rfl, rfl, ?_, 0, [], by omega, rfl, rfl, .inl ⟨rfl, rfl, SubH.refl _⟩, by simp, rfl⟩
      simp only [s_upd, Nat.reduceEqDiff, if_true, if_false, hu]
    · rintro ⟨t, d⟩ H' ⟨rfl, h0, h1', h7, i, made, hi, h9, hlen, ho, hfit, hgo⟩
      dsimp only at h0 h1' h7 h9 ho
      obtain ⟨mv, h8⟩ : ∃ mv, mv = t 8 := ⟨_, rfl⟩
      rw [← h8] at ho
      replace h8 := h8.symm
      have hm := ho.made
      have hc1 := ho.cells.1
      have hc2 := ho.cells.2
      have hHn : ∀ r, H' r = none → H r = none := fun r h => ho.sub.none h
      unfold b27_1
      (repeat' (first | (refine (made50 (rows := rows) (made := made) (mv := mv) (l := ls[i]) (n := unkN rows) (by assumption) hfit (by omega)).use ?_) | (simp only [↓s_skip, ↓s_reg, ↓s_seq, ↓s_cond, ↓s_block, ↓s_exit, ↓s_ret, ↓s_nil, ↓s_consN, ↓s_thenN, ↓s_thenE, ↓s_thenR, ↓s_inE, ↓s_inR, ↓s_kret, ↓s_putS, ↓s_putN, ↓s_dOkS, ↓s_dOkN, ↓s_ev_t, ↓s_ev_c, ↓s_ev_f, ↓s_upd, ↓s_move, ↓s_assign, ↓s_load, ↓s_store, ↓s_bin, ↓s_alloc, ↓s_buildSlice, ↓s_indexAddr, ↓s_extract, ↓s_callB, ↓s_callV, ↓s_callL, ↓s_len, ↓s_append, ↓s_bin_lss, ↓s_bin_neq, vcExtract, ptrV, intV, List.map_cons, List.map_nil, List.length_cons, List.length_nil, List.append_nil, ite_true, ite_false, Nat.reduceEqDiff, Nat.reduceLT, Nat.reduceAdd, Nat.reduceMul, Nat.reduceLeDiff, ne_eq, not_false_eq_true, true_and, Nat.succ_ne_self, decide_true, decide_false, reduceCtorEq, Int.natCast_nonneg, Int.toNat_natCast, AH.get, AH.set_set, fillV, setAt, List.all_cons, List.all_nil, Bool.and_self, eq_self, Nat.zero_add, List.drop, and_self, List.getElem?_cons_zero, List.getElem?_cons_succ, ldV_t2, ldV_t5, Int.ofNat_lt, on_int, cl_agg, on_slice, List.set_cons_zero, List.set_cons_succ, ↓n_alloc, n_allocS, Nat.le_refl, n_ldI, n_ldP, n_ixS, n_ixA1, n_lenS, n_ldA, n_ldC, n_ldB, n_stP, n_stA, vcBuildSlice, List.replicate_succ, List.replicate_zero, List.flatten_cons, List.flatten_nil, lines_drop, makeX, ldT_83, ldT_39, szT_39, zeroT_39, elT_35, elT_22, en_50, *]) | (refine condL_splitD ?_ ?_ <;> intro) | (refine condL_split ?_ ?_ <;> intro) | (refine acx_go rfl (fun _ _ _ h => h) ?_) | (refine allNew_intro fun zr zh => ?_; have zg := zh; (try simp only [AH.set_none] at zg))))
      · have hb : i < ls.length := by assumption
        have he : ¬ (makeF rows made (unkN rows) ls[i]).2 = 0 := by simpa using (by assumption : (!decide ((makeF rows made (unkN rows) ls[i]).2 = 0)) = true)
        have hg : deriveGo rows (unkN rows) made (ls.drop i) = ([], (makeF rows made (unkN rows) ls[i]).2) := by
          rw [List.drop_eq_getElem_cons hb, deriveGo, if_neg he]
        rw [hg]
        refine retPost_ret rfl (by simp only [resV, resAll, resOne, s_upd, Nat.reduceEqDiff, if_true, if_false, Option.bind_some, Option.map_some, tupV] <;> rfl) ⟨_, rfl, ?_⟩
        exact GhV.tuple (GhL.cons ((GhV.nil _).trans (GhV.forget (ho.sub.of_set (hHn _ (by assumption))) _)) (GhL.cons (GhV.refl _ _) (GhL.nil _)))
      · have hb : i < ls.length := by assumption
        have he : (makeF rows made (unkN rows) ls[i]).2 = 0 := by simpa using (by assumption : (!decide ((makeF rows made (unkN rows) ls[i]).2 = 0)) = false)
        have hf := makeF_ok (rows := rows) (l := ls[i]) hfit he
        have hg : deriveGo rows (unkN rows) made (ls.drop i) = deriveGo rows (unkN rows) (made ++ [(makeF rows made (unkN rows) ls[i]).1]) (ls.drop (i + 1)) := by
          rw [List.drop_eq_getElem_cons hb, deriveGo, if_pos he]
        rw [hg]
        generalize (makeF rows made (unkN rows) ls[i]).1 = r at hf ⊢
        refine OutR.append (r := r) (ho.alloc (by assumption) _) (by omega) rfl (fun v' H'' ho2 => ?_)
        clear hm hc1 hc2
        have hc := ho2.cells.1
        have hc1 := ho2.cells.2
        (repeat' (first | (simp only [↓s_reg, ↓s_nil, ↓s_consN, ↓s_thenN, ↓s_inN, ↓s_kret, ↓s_putS, ↓s_dOkS, ↓s_ev_t, ↓s_ev_c, ↓s_upd, ↓s_move, ↓s_assign, ↓s_bin, ↓s_bin_add, ite_true, ite_false, Nat.reduceEqDiff, Nat.reduceLT, true_and, Nat.succ_ne_self, reduceCtorEq, eq_self, *]) | (with_reducible refine And.intro ?_ ?_)))
        · rw [wrap_ok (n := (i : Int) + 1) (by omega) (by omega)]
          refine ⟨i + 1, made ++ [r], by omega, rfl, by simp [hlen], ?_, ?_, rfl⟩
          · exact ho2
          · intro x hx
            rcases List.mem_append.1 hx with hx | hx
            · exact hfit x hx
            · rw [List.mem_singleton.1 hx]; exact hf
        · rw [wrap_ok (n := (i : Int) + 1) (by omega) (by omega)]
          omega
      · have hb : ¬ i < ls.length := by assumption
        have hg : deriveGo rows (unkN rows) made (ls.drop i) = (made, 0) := by
          rw [List.drop_eq_nil_of_le (by omega), deriveGo]
        rw [hg]
        unfold c27_1
        (repeat' (first | (simp only [↓s_reg, ↓s_seq, ↓s_ret, ↓s_nil, ↓s_consN, ↓s_thenN, ↓s_putS, ↓s_dOkS, ↓s_ev_t, ↓s_ev_c, ↓s_upd, ↓s_move, ↓s_assign, ite_true, ite_false, Nat.reduceEqDiff, Nat.reduceLT, true_and, eq_self, *])))
        refine retPost_ret rfl (by simp only [resV, resAll, resOne, s_upd, Nat.reduceEqDiff, if_true, if_false, Option.bind_some, Option.map_some, tupV] <;> rfl) ⟨_, rfl, ?_⟩
        exact GhV.tuple (GhL.cons ho.back (GhL.cons (GhV.refl _ _) (GhL.nil _)))
end Go.PV.Ytefpjfpelicedaa
end
