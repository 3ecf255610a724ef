/- Part 9 of 10 of what the proof of Sound needs. -/
import Derived.Test.YtefpjfpelicedaaSound8
section
/- The lines that the last one needs. -/
set_option linter.unusedVariables false
set_option linter.unusedSimpArgs false
set_option maxRecDepth 20000
set_option maxHeartbeats 4000000
namespace Go.PV.Ytefpjfpelicedaa
open Go Go.Proofs
def lineAt (ls : List Line) (i : Nat) : Line := ls.getD i ⟨0, 0, 0, 0, 0⟩
def needStep (ls : List Line) (need : List Bool) (i : Nat) : List Bool :=
  if need.getD i false = true ∧ 3 ≤ (lineAt ls i).k then
    (need.set (lineAt ls i).a.toNat true).set (lineAt ls i).b.toNat ((need.set (lineAt ls i).a.toNat true).getD (lineAt ls i).b.toNat false || decide ((lineAt ls i).k = 3))
  else need
def needF (ls : List Line) : Nat → List Bool → List Bool
  | 0, need => need
  | i + 1, need => needF ls i (needStep ls need i)
def need0 (ls : List Line) : List Bool := needF ls ls.length ((List.replicate ls.length false).set (ls.length - 1) true)
def renum (w : List Int) (x : Line) : Line := ⟨x.k, if 3 ≤ x.k then w.getD x.a.toNat 0 else x.a, if x.k = 3 then w.getD x.b.toNat 0 else x.b, x.m, x.n⟩
def outGo (ls : List Line) (need : List Bool) : Nat → Nat → List Int → List Line → List Line
  | 0, _, _, out => out
  | r + 1, i, w, out => if need.getD i false = true then outGo ls need r (i + 1) (w.set i out.length) (out ++ [renum (w.set i out.length) (lineAt ls i)]) else outGo ls need r (i + 1) w out
def neededF (ls : List Line) : List Line := outGo ls (need0 ls) ls.length 0 (List.replicate ls.length 0) []
def LinesOk (ls : List Line) : Prop := ∀ i, i < ls.length → 3 ≤ (lineAt ls i).k → (0 ≤ (lineAt ls i).a ∧ (lineAt ls i).a < (ls.length : Int)) ∧ (0 ≤ (lineAt ls i).b ∧ (lineAt ls i).b < (ls.length : Int))
theorem lineAt_get {ls : List Line} {i : Nat} (h : i < ls.length) : lineAt ls i = ls[i] := by simp [lineAt, List.getD_eq_getElem?_getD, h]
theorem boolset' (l : List Bool) (i : Nat) (x : Bool) : (encC boolE l).set i (VV.lit (Value.bool x)) = encC boolE (l.set i x) := bools_set l i x
theorem needed39 {H : AH} {g c sp : Nat} {e : TypeId} {ls : List Line} (hg : H g = some (.cells e (encC lineE ls) sp)) (h0 : 0 < ls.length) (hlen : ls.length ≤ 5000) (hok : LinesOk ls) :
    OwnF Try.prog 39 [.lit (.slice (some ⟨g, 0, none⟩) ls.length c)] H 52 5 (neededF ls).length (encC lineE (neededF ls)) := by
  unfold OwnF
  refine vcalls_intro fd39 (by simp) ?_
  unfold c39
  have m1 : (0 : Int) ≤ ls.length := by omega
  have m2 : (ls.length : Int) ≤ 281474976710656 := by omega
  have m2a : ((1 : Nat) : Int) * ls.length ≤ 281474976710656 := by omega
  have m2b : ((8 : Nat) : Int) * ls.length ≤ 281474976710656 := by omega
  have m3 : (ls.length : Int) ≤ 9223372036854775807 := by omega
  have w1 : IntKind.i64.wrap ((ls.length : Int) - 1) = (ls.length : Int) - 1 := wrap_ok (by omega) (by omega)
  have w2 : (0 : Int) ≤ (ls.length : Int) - 1 := by omega
  have w3 : (ls.length : Int) - 1 < ls.length := by omega
  have w4 : ((ls.length : Int) - 1).toNat = ls.length - 1 := by omega
  have w5 : ls.length - 1 + 1 ≤ ls.length := by omega
  have n1 : ∀ r, H r = none → ¬ g = r := fun r hr => (AH.ne_of hg hr).1
  have n2 : ∀ r, H r = none → ¬ r = g := fun r hr => (AH.ne_of hg hr).2
  (repeat' (first | (simp only [↓s_reg, ↓s_seq, ↓s_seqL, ↓s_block, ↓s_loop, ↓s_nil, ↓s_consN, ↓s_thenN, ↓s_kret, ↓s_putS, ↓s_putN, ↓s_dOkS, ↓s_dOkN, ↓s_ev_t, ↓s_ev_c, ↓s_upd, ↓s_move, ↓s_assign, ↓s_store, ↓s_bin, ↓s_makeSlice, ↓s_indexAddr, ↓s_callB, ↓s_len, ↓s_bin_sub, intV, List.map_cons, List.map_nil, List.length_cons, List.length_nil, List.getD_cons_zero, List.getD_cons_succ, List.getD_nil, ite_true, ite_false, Nat.reduceEqDiff, Nat.reduceLT, ne_eq, not_false_eq_true, true_and, Nat.succ_ne_self, reduceCtorEq, Int.toNat_natCast, Nat.mul_one, undefV, AH.get, AH.set_set, setAt, List.all_cons, List.all_nil, Bool.and_self, eq_self, Nat.zero_add, and_self, Int.ofNat_le, cl_bool, on_bool, ↓n_make, n_makeS, n_makeT, Nat.le_refl, n_ixL, n_ixA2, n_lenL, n_stP, n_stA, undef, zeros_bool, boolset', bools_len, List.length_replicate, szT_4, elT_28, elT_103, zeroT_4, *]) | (refine guardL_splitTD ?_ ?_ <;> intro) | (refine guardL_splitFD ?_ ?_ <;> intro) | (refine guardP_splitTD ?_ ?_ <;> intro) | (refine guardP_splitFD ?_ ?_ <;> intro) | (refine condL_splitD ?_ ?_ <;> intro) | (refine guardL_splitT ?_ ?_ <;> intro) | (refine guardL_splitF ?_ ?_ <;> intro) | (refine guardP_splitT ?_ ?_ <;> intro) | (refine guardP_splitF ?_ ?_ <;> intro) | (refine condL_split ?_ ?_ <;> intro) | (refine ret_tmp ?_) | (refine acx_go rfl (fun _ _ _ h => h) ?_) | (refine acx_dreg mixed (fun _ _ _ _ e h => ⟨e.trans h.1, h.2⟩) _ (SubH.refl _) ?_) | (refine And.intro (SubH.new (by assumption)) ?_) | (refine allNew_intro fun zr zh => ?_; have zg := zh; (try simp only [AH.set_none] at zg)) | (exact SubH.refl _) | (refine SubH.of_set ?_ ?_) | assumption | (with_reducible refine And.intro ?_ ?_)))
  revert zr
  intro gd zh1 zg1
  refine acx_loop (fun _ _ _ h => h) (fun A H' => A.d = [] ∧ A.t 0 = .lit (.slice (some ⟨g, 0, none⟩) ls.length c) ∧ A.t 3 = .lit (.slice (some ⟨gd, 0, none⟩) ls.length ls.length) ∧ ∃ (i : Nat) (need : List Bool), i ≤ ls.length ∧ A.t 4 = iV ((i : Int) - 1) ∧ need.length = ls.length ∧ SubH H H' ∧ H' gd = some (.cells 4 (encC boolE need) 0) ∧ need0 ls = needF ls i need)
    (fun A _ => match A.t 4 with | .lit (.int _ i) => (i + 1).toNat | _ => 0) ?_ ?_
  · refine ⟨rfl, rfl, rfl, ls.length, (List.replicate ls.length false).set (ls.length - 1) true, Nat.le_refl _, rfl, by simp, SubH.of_set (SubH.refl _) zg1, AH.set_same _ _ _, rfl⟩
  · rintro ⟨t, d⟩ H' ⟨rfl, h0', h3, i, need, hi, h4, hnl, hs, kd, hgo⟩
    dsimp only at h0' h3 h4
    have kg := hs _ _ hg
    have nd1 : ∀ r, H' r = none → ¬ gd = r := fun r hr => (AH.ne_of kd hr).1
    have nd2 : ∀ r, H' r = none → ¬ r = gd := fun r hr => (AH.ne_of kd hr).2
    have ng1 : ∀ r, H' r = none → ¬ g = r := fun r hr => (AH.ne_of kg hr).1
    have ng2 : ∀ r, H' r = none → ¬ r = g := fun r hr => (AH.ne_of kg hr).2
    unfold b39_1
    rcases i with _ | i
    · replace h4 : t 4 = iV (-1) := by rw [h4]; rfl
      (repeat' (first | (simp only [↓s_reg, ↓s_seq, ↓s_cond, ↓s_condF, ↓s_exit, ↓s_nil, ↓s_consN, ↓s_thenN, ↓s_thenE, ↓s_inE, ↓s_kret, ↓s_putS, ↓s_dOkS, ↓s_ev_t, ↓s_ev_c, ↓s_upd, ↓s_move, ↓s_bin, ↓s_bin_geq, ite_true, ite_false, Nat.reduceLT, true_and, Nat.succ_ne_self, decide_false, eq_self, Int.reduceLE, Int.reduceNeg, *]) | (refine guardL_splitTD ?_ ?_ <;> intro) | (refine guardL_splitFD ?_ ?_ <;> intro) | (refine guardP_splitTD ?_ ?_ <;> intro) | (refine guardP_splitFD ?_ ?_ <;> intro) | (refine condL_splitD ?_ ?_ <;> intro) | (refine guardL_splitT ?_ ?_ <;> intro) | (refine guardL_splitF ?_ ?_ <;> intro) | (refine guardP_splitT ?_ ?_ <;> intro) | (refine guardP_splitF ?_ ?_ <;> intro) | (refine condL_split ?_ ?_ <;> intro) | (refine ret_tmp ?_) | (refine acx_go rfl (fun _ _ _ h => h) ?_) | (refine acx_dreg mixed (fun _ _ _ _ e h => ⟨e.trans h.1, h.2⟩) _ (SubH.refl _) ?_) | (refine And.intro (SubH.new (by assumption)) ?_) | (refine allNew_intro fun zr zh => ?_; have zg := zh; (try simp only [AH.set_none] at zg)) | (exact SubH.refl _) | (refine SubH.of_set ?_ ?_) | assumption | (with_reducible refine And.intro ?_ ?_)))
      have hn0 : need0 ls = need := hgo
      unfold c39_2
      (repeat' (first | (simp only [↓s_reg, ↓s_seq, ↓s_seqL, ↓s_block, ↓s_loop, ↓s_nil, ↓s_consN, ↓s_thenN, ↓s_kret, ↓s_putS, ↓s_dOkS, ↓s_ev_t, ↓s_ev_c, ↓s_upd, ↓s_move, ↓s_assign, ↓s_makeSlice, ↓s_callB, ↓s_len, intV, List.map_cons, List.map_nil, List.length_cons, List.length_nil, ite_true, ite_false, Nat.reduceEqDiff, Nat.reduceLT, ne_eq, not_false_eq_true, true_and, Nat.succ_ne_self, reduceCtorEq, Int.toNat_natCast, eq_self, Nat.zero_add, Int.ofNat_le, ↓n_make, n_makeS, n_makeT, Nat.le_refl, n_lenL, Int.reduceNeg, zeros_int, elT_28, elT_37, zeroT_3, *]) | (refine guardL_splitTD ?_ ?_ <;> intro) | (refine guardL_splitFD ?_ ?_ <;> intro) | (refine guardP_splitTD ?_ ?_ <;> intro) | (refine guardP_splitFD ?_ ?_ <;> intro) | (refine condL_splitD ?_ ?_ <;> intro) | (refine guardL_splitT ?_ ?_ <;> intro) | (refine guardL_splitF ?_ ?_ <;> intro) | (refine guardP_splitT ?_ ?_ <;> intro) | (refine guardP_splitF ?_ ?_ <;> intro) | (refine condL_split ?_ ?_ <;> intro) | (refine ret_tmp ?_) | (refine acx_go rfl (fun _ _ _ h => h) ?_) | (refine acx_dreg mixed (fun _ _ _ _ e h => ⟨e.trans h.1, h.2⟩) _ (SubH.refl _) ?_) | (refine And.intro (SubH.new (by assumption)) ?_) | (refine allNew_intro fun zr zh => ?_; have zg := zh; (try simp only [AH.set_none] at zg)) | (exact SubH.refl _) | (refine SubH.of_set ?_ ?_) | assumption | (with_reducible refine And.intro ?_ ?_)))
      revert zr
      intro gw zh2 zg2
      have hz0 : neededF ls = outGo ls need ls.length 0 (List.replicate ls.length 0) [] := by unfold neededF; rw [hn0]
      refine acx_loop (fun _ _ _ h => h) (fun A H' => A.d = [] ∧ A.t 59 = .lit (.slice (some ⟨g, 0, none⟩) ls.length c) ∧ A.t 60 = iV ls.length ∧ A.t 3 = .lit (.slice (some ⟨gd, 0, none⟩) ls.length ls.length) ∧ A.t 7 = .lit (.slice (some ⟨gw, 0, none⟩) ls.length ls.length) ∧
          ∃ (i : Nat) (w : List Int) (out : List Line) (v : VV) (Hb : AH), i ≤ ls.length ∧ A.t 61 = iV i ∧ A.t 6 = v ∧ w.length = ls.length ∧ out.length ≤ i ∧ SubH H Hb ∧ Hb g = some (.cells e (encC lineE ls) sp) ∧ Hb gd = some (.cells 4 (encC boolE need) 0) ∧ Hb gw = some (.cells 3 (encC intE w) 0) ∧ OwnX Hb H' 52 5 v out.length (encC lineE out) ∧ neededF ls = outGo ls need (ls.length - i) i w out)
        (fun A _ => match A.t 61 with | .lit (.int _ i) => ((ls.length : Int) - i).toNat | _ => 0) ?_ ?_
      · refine ⟨rfl, ?_, rfl, ?_, rfl, 0, List.replicate ls.length 0, [], .lit (.slice none 0 0), _, by omega, rfl, rfl, by simp, by simp, hs.of_set (hs.none zg2), ?_, ?_, AH.set_same _ _ _, OwnX.nil _ 52 5, hz0⟩
        · exact (by simp only [s_upd, Nat.reduceEqDiff, if_true, if_false, *] <;> rfl)
        · exact (by simp only [s_upd, Nat.reduceEqDiff, if_false, *] <;> rfl)
        · rw [AH.get, if_neg (ng1 _ zg2)]; exact kg
        · rw [AH.get, if_neg (nd1 _ zg2)]; exact kd
      · clear h0' h3 h4 hz0
        rintro ⟨t, d⟩ H2 ⟨rfl, h59, h60, h3, h7, i, w, out, v, Hb, hi, h61, h6, hw, hol, hsb, bg, bd, bw, ho, hgo2⟩
        dsimp only at h59 h60 h3 h7 h61 h6
        have kg := ho.sub _ _ bg
        have kd := ho.sub _ _ bd
        have kw := ho.sub _ _ bw
        have e1 : ∀ r, H2 r = none → ¬ g = r := fun r hr => (AH.ne_of kg hr).1
        have e1' : ∀ r, H2 r = none → ¬ r = g := fun r hr => (AH.ne_of kg hr).2
        have e2 : ∀ r, H2 r = none → ¬ gd = r := fun r hr => (AH.ne_of kd hr).1
        have e2' : ∀ r, H2 r = none → ¬ r = gd := fun r hr => (AH.ne_of kd hr).2
        have e3 : ∀ r, H2 r = none → ¬ gw = r := fun r hr => (AH.ne_of kw hr).1
        have e3' : ∀ r, H2 r = none → ¬ r = gw := fun r hr => (AH.ne_of kw hr).2
        unfold b39_2
        by_cases hb : i < ls.length
        · have hx := lineAt_get hb
          have hin : i < need.length := by omega
          have hiw : i < w.length := by omega
          have hnd : need.getD i false = need[i] := by simp [List.getD_eq_getElem?_getD, hin]
          have hst2 : outGo ls need (ls.length - i) i w out = if need[i] = true then outGo ls need (ls.length - (i + 1)) (i + 1) (w.set i out.length) (out ++ [renum (w.set i out.length) ls[i]]) else outGo ls need (ls.length - (i + 1)) (i + 1) w out := by
            rw [show ls.length - i = (ls.length - (i + 1)) + 1 from by omega, outGo, hnd, hx]
          rw [hst2] at hgo2
          clear hst2
          obtain ⟨la, lc, rfl⟩ := ho.form
          by_cases c1 : need[i] = true
          · rw [if_pos c1] at hgo2
            have hiw1 : i + 1 ≤ ls.length := by omega
            have hiw2 : i < ls.length := hb
            obtain ⟨w', hw'⟩ : ∃ w', w' = w.set i (out.length : Int) := ⟨_, rfl⟩
            have hwl : w'.length = ls.length := by rw [hw']; simpa using hw
            rw [← hw'] at hgo2
            have hset : (encC intE w).set i (VV.lit (Value.int .i64 (out.length : Int))) = encC intE w' := by rw [hw']; exact ints_set _ _ _
            have hlw := ints_len w
            rw [hw] at hlw
            clear hw'
            have f1 := ng1 _ zg2
            have f2 := nd1 _ zg2
            have hz2 : H gw = none := hs.none zg2
            by_cases c2 : 3 ≤ ls[i].k
            · obtain ⟨⟨a0, a1⟩, b0, b1⟩ := hok i hb (by rw [hx]; exact c2)
              rw [hx] at a0 a1 b0 b1
              have ha2 : ls[i].a.toNat < ls.length := by omega
              have hb2 : ls[i].b.toNat < ls.length := by omega
              by_cases c3 : ls[i].k = 3
              · (repeat' (first | (simp only [↓s_skip, ↓s_reg, ↓s_seq, ↓s_cond, ↓s_condT, ↓s_condF, ↓s_block, ↓s_nil, ↓s_consN, ↓s_thenN, ↓s_kret, ↓s_putS, ↓s_putN, ↓s_dOkS, ↓s_dOkN, ↓s_ev_t, ↓s_ev_c, ↓s_upd, ↓s_move, ↓s_assign, ↓s_load, ↓s_store, ↓s_bin, ↓s_un, ↓s_alloc, ↓s_buildSlice, ↓s_fieldAddr, ↓s_indexAddr, ↓s_callB, ↓s_len, ↓s_append, ↓s_un_not, ↓s_bin_lss, ↓s_bin_geq, ↓s_bin_eql, ptrV, intV, boolV, List.map_cons, List.map_nil, List.length_cons, List.length_nil, List.append_nil, ite_true, ite_false, Nat.reduceEqDiff, Nat.reduceLT, Nat.reduceAdd, Nat.reduceMul, Nat.reduceLeDiff, ne_eq, not_false_eq_true, true_and, Nat.succ_ne_self, decide_true, Bool.not_true, reduceCtorEq, Int.natCast_nonneg, Int.toNat_natCast, Nat.mul_one, AH.get, AH.set_set, fillV, setAt, List.all_cons, List.all_nil, Bool.and_self, eq_self, Nat.zero_add, Nat.add_zero, List.drop, and_self, ldV_f, ldV_t5, Int.ofNat_lt, cl_int, on_int, cl_agg, List.set_cons_zero, List.set_cons_succ, ↓n_alloc, n_allocS, Nat.le_refl, n_ldP, n_faP, n_ixL, n_ixA2, n_lenL, n_ldA, n_ldB, n_faA, n_stP, n_stA, Int.reduceLE, vcBuildSlice, List.replicate_succ, List.replicate_zero, List.flatten_cons, List.flatten_nil, lines_drop, bools_drop, ints_drop, flT_52_0, flT_52_1, flT_52_2, ldT_52, ldT_4, ldT_3, szT_52, szT_3, zeroT_52, elT_28, elT_103, elT_37, *]) | (refine guardL_splitTD ?_ ?_ <;> intro) | (refine guardL_splitFD ?_ ?_ <;> intro) | (refine guardP_splitTD ?_ ?_ <;> intro) | (refine guardP_splitFD ?_ ?_ <;> intro) | (refine condL_splitD ?_ ?_ <;> intro) | (refine guardL_splitT ?_ ?_ <;> intro) | (refine guardL_splitF ?_ ?_ <;> intro) | (refine guardP_splitT ?_ ?_ <;> intro) | (refine guardP_splitF ?_ ?_ <;> intro) | (refine condL_split ?_ ?_ <;> intro) | (refine ret_tmp ?_) | (refine acx_go rfl (fun _ _ _ h => h) ?_) | (refine acx_dreg mixed (fun _ _ _ _ e h => ⟨e.trans h.1, h.2⟩) _ (SubH.refl _) ?_) | (refine And.intro (SubH.new (by assumption)) ?_) | (refine allNew_intro fun zr zh => ?_; have zg := zh; (try simp only [AH.set_none] at zg)) | (exact SubH.refl _) | (refine SubH.of_set ?_ ?_) | assumption | (with_reducible refine And.intro ?_ ?_)))
                · have hre : renum w' ls[i] = ⟨3, w'[ls[i].a.toNat], w'[ls[i].b.toNat], ls[i].m, ls[i].n⟩ := by simp [renum, c3, List.getD_eq_getElem?_getD, hwl, ha2, hb2]
                  have hz1 : H zr = none := (hsb.trans ho.sub).none zg
                  refine append_own elT_28 zeroT_52 rfl (by omega) (((ho.alloc zg _).put (r := gw) (b0 := .cells 3 (encC intE w) 0) (by rw [AH.get, if_neg (e3 _ zg)]; exact bw) _).put (r := zr) (b0 := (.cells 52 [iV 3, iV ls[i].a, iV ls[i].b, iV ls[i].m, iV ls[i].n] 0)) (by rw [AH.get, if_neg (e3' _ zg), AH.set_same]) _) rfl rfl (by omega) (by omega) (fun v2 H5 ho5 => ?_)
                  obtain ⟨Xb, hXo, x1, x2, x3, x4⟩ : ∃ Xb, OwnX Xb H5 52 5 v2 (out.length + 1) (encC lineE out ++ lineE (renum w' ls[i])) ∧ SubH H Xb ∧ Xb g = some (.cells e (encC lineE ls) sp) ∧ Xb gd = some (.cells 4 (encC boolE need) 0) ∧ Xb gw = some (.cells 3 (encC intE w') 0) :=
                    ⟨_, by rw [hre]; exact ho5, SubH.of_set (SubH.of_set (SubH.of_set hsb hz1) hz2) hz1, (by simp only [AH.get, *, if_false] <;> rfl), (by simp only [AH.get, *, if_false] <;> rfl), (by simp only [AH.get, *, if_true, if_false] <;> rfl)⟩
                  clear ho5
                  (repeat' (first | (simp only [↓s_reg, ↓s_nil, ↓s_consN, ↓s_thenN, ↓s_inN, ↓s_kret, ↓s_putS, ↓s_dOkS, ↓s_ev_t, ↓s_ev_c, ↓s_upd, ↓s_move, ↓s_assign, ↓s_bin, ↓s_bin_add, ite_true, ite_false, Nat.reduceEqDiff, Nat.reduceLT, true_and, Nat.succ_ne_self, eq_self, *]) | (refine guardL_splitTD ?_ ?_ <;> intro) | (refine guardL_splitFD ?_ ?_ <;> intro) | (refine guardP_splitTD ?_ ?_ <;> intro) | (refine guardP_splitFD ?_ ?_ <;> intro) | (refine condL_splitD ?_ ?_ <;> intro) | (refine guardL_splitT ?_ ?_ <;> intro) | (refine guardL_splitF ?_ ?_ <;> intro) | (refine guardP_splitT ?_ ?_ <;> intro) | (refine guardP_splitF ?_ ?_ <;> intro) | (refine condL_split ?_ ?_ <;> intro) | (refine ret_tmp ?_) | (refine acx_go rfl (fun _ _ _ h => h) ?_) | (refine acx_dreg mixed (fun _ _ _ _ e h => ⟨e.trans h.1, h.2⟩) _ (SubH.refl _) ?_) | (refine And.intro (SubH.new (by assumption)) ?_) | (refine allNew_intro fun zr zh => ?_; have zg := zh; (try simp only [AH.set_none] at zg)) | (exact SubH.refl _) | (refine SubH.of_set ?_ ?_) | assumption | (with_reducible refine And.intro ?_ ?_)))
                  · rw [wrap_ok (n := (i : Int) + 1) (by omega) (by omega)]
                    exact ⟨i + 1, w', out ++ [renum w' ls[i]], v2, Xb, by omega, rfl, rfl, hwl, by simp; omega, x1, x2, x3, x4, by rw [encC_snoc, List.length_append]; exact hXo, by first | rfl | rw [hre] | exact hgo2⟩
                  · rw [wrap_ok (n := (i : Int) + 1) (by omega) (by omega)]; omega
              · (repeat' (first | (simp only [↓s_skip, ↓s_reg, ↓s_seq, ↓s_cond, ↓s_condT, ↓s_condF, ↓s_block, ↓s_nil, ↓s_consN, ↓s_thenN, ↓s_kret, ↓s_putS, ↓s_putN, ↓s_dOkS, ↓s_dOkN, ↓s_ev_t, ↓s_ev_c, ↓s_upd, ↓s_move, ↓s_assign, ↓s_load, ↓s_store, ↓s_bin, ↓s_un, ↓s_alloc, ↓s_buildSlice, ↓s_fieldAddr, ↓s_indexAddr, ↓s_callB, ↓s_len, ↓s_append, ↓s_un_not, ↓s_bin_lss, ↓s_bin_geq, ↓s_bin_eql, ptrV, intV, boolV, List.map_cons, List.map_nil, List.length_cons, List.length_nil, List.append_nil, ite_true, ite_false, Nat.reduceEqDiff, Nat.reduceLT, Nat.reduceAdd, Nat.reduceMul, Nat.reduceLeDiff, ne_eq, not_false_eq_true, true_and, Nat.succ_ne_self, decide_true, decide_false, Bool.not_true, reduceCtorEq, Int.natCast_nonneg, Int.toNat_natCast, Nat.mul_one, AH.get, AH.set_set, fillV, setAt, List.all_cons, List.all_nil, Bool.and_self, eq_self, Nat.zero_add, Nat.add_zero, List.drop, and_self, ldV_f, ldV_t5, Int.ofNat_lt, cl_int, on_int, cl_agg, List.set_cons_zero, List.set_cons_succ, ↓n_alloc, n_allocS, Nat.le_refl, n_ldP, n_faP, n_ixL, n_ixA2, n_lenL, n_ldA, n_ldB, n_faA, n_stP, n_stA, vcBuildSlice, List.replicate_succ, List.replicate_zero, List.flatten_cons, List.flatten_nil, lines_drop, bools_drop, ints_drop, flT_52_0, flT_52_1, ldT_52, ldT_4, ldT_3, szT_52, szT_3, zeroT_52, elT_28, elT_103, elT_37, *]) | (refine guardL_splitTD ?_ ?_ <;> intro) | (refine guardL_splitFD ?_ ?_ <;> intro) | (refine guardP_splitTD ?_ ?_ <;> intro) | (refine guardP_splitFD ?_ ?_ <;> intro) | (refine condL_splitD ?_ ?_ <;> intro) | (refine guardL_splitT ?_ ?_ <;> intro) | (refine guardL_splitF ?_ ?_ <;> intro) | (refine guardP_splitT ?_ ?_ <;> intro) | (refine guardP_splitF ?_ ?_ <;> intro) | (refine condL_split ?_ ?_ <;> intro) | (refine ret_tmp ?_) | (refine acx_go rfl (fun _ _ _ h => h) ?_) | (refine acx_dreg mixed (fun _ _ _ _ e h => ⟨e.trans h.1, h.2⟩) _ (SubH.refl _) ?_) | (refine And.intro (SubH.new (by assumption)) ?_) | (refine allNew_intro fun zr zh => ?_; have zg := zh; (try simp only [AH.set_none] at zg)) | (exact SubH.refl _) | (refine SubH.of_set ?_ ?_) | assumption | (with_reducible refine And.intro ?_ ?_)))
                · have hre : renum w' ls[i] = ⟨ls[i].k, w'[ls[i].a.toNat], ls[i].b, ls[i].m, ls[i].n⟩ := by simp [renum, c2, c3, List.getD_eq_getElem?_getD, hwl, ha2]
                  have hz1 : H zr = none := (hsb.trans ho.sub).none zg
                  refine append_own elT_28 zeroT_52 rfl (by omega) (((ho.alloc zg _).put (r := gw) (b0 := .cells 3 (encC intE w) 0) (by rw [AH.get, if_neg (e3 _ zg)]; exact bw) _).put (r := zr) (b0 := (.cells 52 [iV ls[i].k, iV ls[i].a, iV ls[i].b, iV ls[i].m, iV ls[i].n] 0)) (by rw [AH.get, if_neg (e3' _ zg), AH.set_same]) _) rfl rfl (by omega) (by omega) (fun v2 H5 ho5 => ?_)
                  obtain ⟨Xb, hXo, x1, x2, x3, x4⟩ : ∃ Xb, OwnX Xb H5 52 5 v2 (out.length + 1) (encC lineE out ++ lineE (renum w' ls[i])) ∧ SubH H Xb ∧ Xb g = some (.cells e (encC lineE ls) sp) ∧ Xb gd = some (.cells 4 (encC boolE need) 0) ∧ Xb gw = some (.cells 3 (encC intE w') 0) :=
                    ⟨_, by rw [hre]; exact ho5, SubH.of_set (SubH.of_set (SubH.of_set hsb hz1) hz2) hz1, (by simp only [AH.get, *, if_false] <;> rfl), (by simp only [AH.get, *, if_false] <;> rfl), (by simp only [AH.get, *, if_true, if_false] <;> rfl)⟩
                  clear ho5
                  (repeat' (first | (simp only [↓s_reg, ↓s_nil, ↓s_consN, ↓s_thenN, ↓s_inN, ↓s_kret, ↓s_putS, ↓s_dOkS, ↓s_ev_t, ↓s_ev_c, ↓s_upd, ↓s_move, ↓s_assign, ↓s_bin, ↓s_bin_add, ite_true, ite_false, Nat.reduceEqDiff, Nat.reduceLT, true_and, Nat.succ_ne_self, eq_self, *]) | (refine guardL_splitTD ?_ ?_ <;> intro) | (refine guardL_splitFD ?_ ?_ <;> intro) | (refine guardP_splitTD ?_ ?_ <;> intro) | (refine guardP_splitFD ?_ ?_ <;> intro) | (refine condL_splitD ?_ ?_ <;> intro) | (refine guardL_splitT ?_ ?_ <;> intro) | (refine guardL_splitF ?_ ?_ <;> intro) | (refine guardP_splitT ?_ ?_ <;> intro) | (refine guardP_splitF ?_ ?_ <;> intro) | (refine condL_split ?_ ?_ <;> intro) | (refine ret_tmp ?_) | (refine acx_go rfl (fun _ _ _ h => h) ?_) | (refine acx_dreg mixed (fun _ _ _ _ e h => ⟨e.trans h.1, h.2⟩) _ (SubH.refl _) ?_) | (refine And.intro (SubH.new (by assumption)) ?_) | (refine allNew_intro fun zr zh => ?_; have zg := zh; (try simp only [AH.set_none] at zg)) | (exact SubH.refl _) | (refine SubH.of_set ?_ ?_) | assumption | (with_reducible refine And.intro ?_ ?_)))
                  · rw [wrap_ok (n := (i : Int) + 1) (by omega) (by omega)]
                    exact ⟨i + 1, w', out ++ [renum w' ls[i]], v2, Xb, by omega, rfl, rfl, hwl, by simp; omega, x1, x2, x3, x4, by rw [encC_snoc, List.length_append]; exact hXo, by first | rfl | rw [hre] | exact hgo2⟩
                  · rw [wrap_ok (n := (i : Int) + 1) (by omega) (by omega)]; omega
            · have c3 : ¬ ls[i].k = 3 := by omega
              (repeat' (first | (simp only [↓s_skip, ↓s_reg, ↓s_seq, ↓s_cond, ↓s_condT, ↓s_condF, ↓s_block, ↓s_nil, ↓s_consN, ↓s_thenN, ↓s_kret, ↓s_putS, ↓s_putN, ↓s_dOkS, ↓s_dOkN, ↓s_ev_t, ↓s_ev_c, ↓s_upd, ↓s_move, ↓s_assign, ↓s_load, ↓s_store, ↓s_bin, ↓s_un, ↓s_alloc, ↓s_buildSlice, ↓s_fieldAddr, ↓s_indexAddr, ↓s_callB, ↓s_len, ↓s_append, ↓s_un_not, ↓s_bin_lss, ↓s_bin_geq, ↓s_bin_eql, ptrV, intV, boolV, List.map_cons, List.map_nil, List.length_cons, List.length_nil, List.append_nil, ite_true, ite_false, Nat.reduceEqDiff, Nat.reduceLT, Nat.reduceAdd, Nat.reduceMul, Nat.reduceLeDiff, ne_eq, not_false_eq_true, true_and, Nat.succ_ne_self, decide_true, decide_false, Bool.not_true, reduceCtorEq, Int.natCast_nonneg, Int.toNat_natCast, Nat.mul_one, AH.get, AH.set_set, fillV, setAt, List.all_cons, List.all_nil, Bool.and_self, eq_self, Nat.zero_add, Nat.add_zero, List.drop, and_self, ldV_f, ldV_t5, Int.ofNat_lt, cl_int, on_int, cl_agg, List.set_cons_zero, List.set_cons_succ, ↓n_alloc, n_allocS, Nat.le_refl, n_ldP, n_faP, n_ixL, n_ixA2, n_lenL, n_ldA, n_ldB, n_faA, n_stP, n_stA, vcBuildSlice, List.replicate_succ, List.replicate_zero, List.flatten_cons, List.flatten_nil, lines_drop, bools_drop, flT_52_0, ldT_52, ldT_4, ldT_3, szT_52, szT_3, zeroT_52, elT_28, elT_103, elT_37, *]) | (refine guardL_splitTD ?_ ?_ <;> intro) | (refine guardL_splitFD ?_ ?_ <;> intro) | (refine guardP_splitTD ?_ ?_ <;> intro) | (refine guardP_splitFD ?_ ?_ <;> intro) | (refine condL_splitD ?_ ?_ <;> intro) | (refine guardL_splitT ?_ ?_ <;> intro) | (refine guardL_splitF ?_ ?_ <;> intro) | (refine guardP_splitT ?_ ?_ <;> intro) | (refine guardP_splitF ?_ ?_ <;> intro) | (refine condL_split ?_ ?_ <;> intro) | (refine ret_tmp ?_) | (refine acx_go rfl (fun _ _ _ h => h) ?_) | (refine acx_dreg mixed (fun _ _ _ _ e h => ⟨e.trans h.1, h.2⟩) _ (SubH.refl _) ?_) | (refine And.intro (SubH.new (by assumption)) ?_) | (refine allNew_intro fun zr zh => ?_; have zg := zh; (try simp only [AH.set_none] at zg)) | (exact SubH.refl _) | (refine SubH.of_set ?_ ?_) | assumption | (with_reducible refine And.intro ?_ ?_)))
              · have hre : renum w' ls[i] = ⟨ls[i].k, ls[i].a, ls[i].b, ls[i].m, ls[i].n⟩ := by simp [renum, c2, c3]
                have hz1 : H zr = none := (hsb.trans ho.sub).none zg
                refine append_own elT_28 zeroT_52 rfl (by omega) ((ho.alloc zg _).put (r := gw) (b0 := .cells 3 (encC intE w) 0) (by rw [AH.get, if_neg (e3 _ zg)]; exact bw) _) rfl rfl (by omega) (by omega) (fun v2 H5 ho5 => ?_)
                obtain ⟨Xb, hXo, x1, x2, x3, x4⟩ : ∃ Xb, OwnX Xb H5 52 5 v2 (out.length + 1) (encC lineE out ++ lineE (renum w' ls[i])) ∧ SubH H Xb ∧ Xb g = some (.cells e (encC lineE ls) sp) ∧ Xb gd = some (.cells 4 (encC boolE need) 0) ∧ Xb gw = some (.cells 3 (encC intE w') 0) :=
                  ⟨_, by rw [hre]; exact ho5, SubH.of_set (SubH.of_set hsb hz1) hz2, (by simp only [AH.get, *, if_false] <;> rfl), (by simp only [AH.get, *, if_false] <;> rfl), (by simp only [AH.get, *, if_true, if_false] <;> rfl)⟩
                clear ho5
                (repeat' (first | (simp only [↓s_reg, ↓s_nil, ↓s_consN, ↓s_thenN, ↓s_inN, ↓s_kret, ↓s_putS, ↓s_dOkS, ↓s_ev_t, ↓s_ev_c, ↓s_upd, ↓s_move, ↓s_assign, ↓s_bin, ↓s_bin_add, ite_true, ite_false, Nat.reduceEqDiff, Nat.reduceLT, true_and, Nat.succ_ne_self, eq_self, *]) | (refine guardL_splitTD ?_ ?_ <;> intro) | (refine guardL_splitFD ?_ ?_ <;> intro) | (refine guardP_splitTD ?_ ?_ <;> intro) | (refine guardP_splitFD ?_ ?_ <;> intro) | (refine condL_splitD ?_ ?_ <;> intro) | (refine guardL_splitT ?_ ?_ <;> intro) | (refine guardL_splitF ?_ ?_ <;> intro) | (refine guardP_splitT ?_ ?_ <;> intro) | (refine guardP_splitF ?_ ?_ <;> intro) | (refine condL_split ?_ ?_ <;> intro) | (refine ret_tmp ?_) | (refine acx_go rfl (fun _ _ _ h => h) ?_) | (refine acx_dreg mixed (fun _ _ _ _ e h => ⟨e.trans h.1, h.2⟩) _ (SubH.refl _) ?_) | (refine And.intro (SubH.new (by assumption)) ?_) | (refine allNew_intro fun zr zh => ?_; have zg := zh; (try simp only [AH.set_none] at zg)) | (exact SubH.refl _) | (refine SubH.of_set ?_ ?_) | assumption | (with_reducible refine And.intro ?_ ?_)))
                · rw [wrap_ok (n := (i : Int) + 1) (by omega) (by omega)]
                  exact ⟨i + 1, w', out ++ [renum w' ls[i]], v2, Xb, by omega, rfl, rfl, hwl, by simp; omega, x1, x2, x3, x4, by rw [encC_snoc, List.length_append]; exact hXo, by first | rfl | rw [hre] | exact hgo2⟩
                · rw [wrap_ok (n := (i : Int) + 1) (by omega) (by omega)]; omega
          · rw [if_neg c1] at hgo2
            (repeat' (first | (simp only [↓s_skip, ↓s_reg, ↓s_seq, ↓s_cond, ↓s_condT, ↓s_block, ↓s_exit, ↓s_nil, ↓s_consN, ↓s_thenN, ↓s_thenE, ↓s_inE, ↓s_kret, ↓s_putS, ↓s_putN, ↓s_dOkS, ↓s_dOkN, ↓s_ev_t, ↓s_ev_c, ↓s_upd, ↓s_move, ↓s_assign, ↓s_load, ↓s_store, ↓s_bin, ↓s_un, ↓s_alloc, ↓s_indexAddr, ↓s_un_not, ↓s_bin_lss, ↓s_bin_add, ptrV, boolV, List.map_cons, List.map_nil, List.length_cons, List.length_nil, ite_true, ite_false, Nat.reduceEqDiff, Nat.reduceLT, Nat.reduceAdd, true_and, Nat.succ_ne_self, decide_true, Bool.not_false, Int.natCast_nonneg, Int.toNat_natCast, Nat.mul_one, AH.get, AH.set_set, setAt, List.all_cons, List.all_nil, Bool.and_self, eq_self, Nat.zero_add, and_self, ldV_f, ldV_t5, Int.ofNat_lt, on_int, cl_agg, List.set_cons_zero, List.set_cons_succ, ↓n_alloc, n_allocS, Nat.le_refl, n_ldP, n_ixL, n_ixA2, n_ldA, n_ldB, n_stP, n_stA, lines_drop, bools_drop, ldT_52, ldT_4, szT_52, zeroT_52, elT_28, elT_103, *]) | (refine guardL_splitTD ?_ ?_ <;> intro) | (refine guardL_splitFD ?_ ?_ <;> intro) | (refine guardP_splitTD ?_ ?_ <;> intro) | (refine guardP_splitFD ?_ ?_ <;> intro) | (refine condL_splitD ?_ ?_ <;> intro) | (refine guardL_splitT ?_ ?_ <;> intro) | (refine guardL_splitF ?_ ?_ <;> intro) | (refine guardP_splitT ?_ ?_ <;> intro) | (refine guardP_splitF ?_ ?_ <;> intro) | (refine condL_split ?_ ?_ <;> intro) | (refine ret_tmp ?_) | (refine acx_go rfl (fun _ _ _ h => h) ?_) | (refine acx_dreg mixed (fun _ _ _ _ e h => ⟨e.trans h.1, h.2⟩) _ (SubH.refl _) ?_) | (refine And.intro (SubH.new (by assumption)) ?_) | (refine allNew_intro fun zr zh => ?_; have zg := zh; (try simp only [AH.set_none] at zg)) | (exact SubH.refl _) | (refine SubH.of_set ?_ ?_) | assumption | (with_reducible refine And.intro ?_ ?_)))
            · rw [wrap_ok (n := (i : Int) + 1) (by omega) (by omega)]
              refine ⟨i + 1, w, out, _, Hb.set zr _, by omega, rfl, rfl, hw, by omega, hsb.of_set ((hsb.trans ho.sub).none zg), ?_, ?_, ?_, ho.alloc zg _, rfl⟩
              · rw [AH.get, if_neg (e1 _ zg)]; exact bg
              · rw [AH.get, if_neg (e2 _ zg)]; exact bd
              · rw [AH.get, if_neg (e3 _ zg)]; exact bw
            · rw [wrap_ok (n := (i : Int) + 1) (by omega) (by omega)]; omega
        · rw [show ls.length - i = 0 from by omega, outGo] at hgo2
          (repeat' (first | (simp only [↓s_reg, ↓s_seq, ↓s_cond, ↓s_condF, ↓s_exit, ↓s_nil, ↓s_consN, ↓s_thenN, ↓s_thenE, ↓s_inE, ↓s_kret, ↓s_putS, ↓s_dOkS, ↓s_ev_t, ↓s_upd, ↓s_bin, ↓s_bin_lss, ite_true, Nat.reduceLT, true_and, decide_false, eq_self, Int.ofNat_lt, *]) | (refine guardL_splitTD ?_ ?_ <;> intro) | (refine guardL_splitFD ?_ ?_ <;> intro) | (refine guardP_splitTD ?_ ?_ <;> intro) | (refine guardP_splitFD ?_ ?_ <;> intro) | (refine condL_splitD ?_ ?_ <;> intro) | (refine guardL_splitT ?_ ?_ <;> intro) | (refine guardL_splitF ?_ ?_ <;> intro) | (refine guardP_splitT ?_ ?_ <;> intro) | (refine guardP_splitF ?_ ?_ <;> intro) | (refine condL_split ?_ ?_ <;> intro) | (refine ret_tmp ?_) | (refine acx_go rfl (fun _ _ _ h => h) ?_) | (refine acx_dreg mixed (fun _ _ _ _ e h => ⟨e.trans h.1, h.2⟩) _ (SubH.refl _) ?_) | (refine And.intro (SubH.new (by assumption)) ?_) | (refine allNew_intro fun zr zh => ?_; have zg := zh; (try simp only [AH.set_none] at zg)) | (exact SubH.refl _) | (refine SubH.of_set ?_ ?_) | assumption | (with_reducible refine And.intro ?_ ?_)))
          unfold c39_1
          (repeat' (first | (simp only [↓s_reg, ↓s_seq, ↓s_ret, ↓s_nil, ↓s_consN, ↓s_thenN, ↓s_putS, ↓s_dOkS, ↓s_ev_t, ↓s_upd, ↓s_move, ↓s_assign, ite_true, ite_false, Nat.reduceEqDiff, Nat.reduceLT, true_and, eq_self, *]) | (refine guardL_splitTD ?_ ?_ <;> intro) | (refine guardL_splitFD ?_ ?_ <;> intro) | (refine guardP_splitTD ?_ ?_ <;> intro) | (refine guardP_splitFD ?_ ?_ <;> intro) | (refine condL_splitD ?_ ?_ <;> intro) | (refine guardL_splitT ?_ ?_ <;> intro) | (refine guardL_splitF ?_ ?_ <;> intro) | (refine guardP_splitT ?_ ?_ <;> intro) | (refine guardP_splitF ?_ ?_ <;> intro) | (refine condL_split ?_ ?_ <;> intro) | (refine ret_tmp ?_) | (refine acx_go rfl (fun _ _ _ h => h) ?_) | (refine acx_dreg mixed (fun _ _ _ _ e h => ⟨e.trans h.1, h.2⟩) _ (SubH.refl _) ?_) | (refine And.intro (SubH.new (by assumption)) ?_) | (refine allNew_intro fun zr zh => ?_; have zg := zh; (try simp only [AH.set_none] at zg)) | (exact SubH.refl _) | (refine SubH.of_set ?_ ?_) | assumption | (with_reducible refine And.intro ?_ ?_)))
          exact ⟨_, Hb, rfl, hsb, ho⟩
    · replace h4 : t 4 = iV i := by rw [h4]; congr 3; omega
      have hil : i < ls.length := by omega
      have hin : i < need.length := by omega
      have hx := lineAt_get hil
      have hnd : need.getD i false = need[i] := by simp [List.getD_eq_getElem?_getD, hin]
      have hstep : needF ls (i + 1) need = needF ls i (needStep ls need i) := rfl
      have hHn : ∀ r, H' r = none → H r = none := fun r hr => hs.none hr
      by_cases c1 : need[i] = true
      · by_cases c2 : 3 ≤ ls[i].k
        · obtain ⟨⟨a0, a1⟩, b0, b1⟩ := hok i hil (by rw [hx]; exact c2)
          rw [hx] at a0 a1 b0 b1
          have hal : ls[i].a.toNat < need.length := by omega
          have hal2 : ls[i].a.toNat + 1 ≤ need.length := by omega
          have hbl : ls[i].b.toNat < (need.set ls[i].a.toNat true).length := by simp; omega
          have hal3 : ls[i].a.toNat + 1 ≤ ls.length := by omega
          have hbl3 : ls[i].b.toNat + 1 ≤ ls.length := by omega
          have hbl4 : ls[i].b.toNat < ls.length := by omega
          have hst : needStep ls need i = (need.set ls[i].a.toNat true).set ls[i].b.toNat ((need.set ls[i].a.toNat true).getD ls[i].b.toNat false || decide (ls[i].k = 3)) := by
            unfold needStep
            rw [hx, if_pos ⟨by rw [hnd]; exact c1, c2⟩]
          rw [hstep, hst] at hgo
          obtain ⟨nx, hnx⟩ : ∃ nx, nx = need.set ls[i].a.toNat true := ⟨_, rfl⟩
          have hnxl : nx.length = ls.length := by rw [hnx]; simpa using hnl
          rw [← hnx] at hgo hbl
          have hge : nx.getD ls[i].b.toNat false = nx[ls[i].b.toNat] := by simp only [List.getD_eq_getElem?_getD, List.getElem?_eq_getElem hbl, Option.getD_some]
          rw [hge] at hgo
          have hset1 : (encC boolE need).set ls[i].a.toNat (VV.lit (Value.bool true)) = encC boolE nx := by rw [hnx]; exact bools_set _ _ _
          clear hst hstep
          clear hnx
          cases c3 : nx[ls[i].b.toNat] with
          | true =>
            simp only [c3, Bool.true_or] at hgo
            (repeat' (first | (simp only [↓s_skip, ↓s_reg, ↓s_seq, ↓s_cond, ↓s_condT, ↓s_block, ↓s_dreg, ↓s_nil, ↓s_consN, ↓s_consG, ↓s_guardTT, ↓s_thenN, ↓s_inN, ↓s_kret, ↓s_putS, ↓s_putN, ↓s_dOkS, ↓s_dOkN, ↓s_ev_t, ↓s_ev_c, ↓s_upd, ↓s_move, ↓s_assign, ↓s_isBool, ↓s_pickA, ↓s_pick, ↓s_load, ↓s_store, ↓s_bin, ↓s_alloc, ↓s_fieldAddr, ↓s_indexAddr, ↓s_bin_geq, ↓s_bin_sub, ptrV, boolV, List.map_cons, List.map_nil, List.length_cons, List.length_nil, ite_true, ite_false, Nat.reduceEqDiff, Nat.reduceLT, Nat.reduceAdd, ne_eq, not_false_eq_true, true_and, Nat.succ_ne_self, decide_true, reduceCtorEq, Int.natCast_nonneg, Int.toNat_natCast, Nat.mul_one, callOk, undefV, ↓s_plFin, ↓s_plTkN, ↓s_plTkG, AH.get, AH.set_set, setAt, List.all_cons, List.all_nil, Bool.and_self, eq_self, Nat.zero_add, Nat.add_zero, List.drop, and_self, ldV_f, ldV_t5, Int.ofNat_lt, on_int, cl_bool, on_bool, cl_agg, List.set_cons_zero, List.set_cons_succ, ↓n_alloc, n_allocS, Nat.le_refl, n_ldP, n_faP, n_ixL, n_ixA2, n_ldA, n_ldB, n_faA, n_stP, n_stA, ↓s_plK, ↓s_guardPTF, undef, lines_drop, bools_drop, bools_len, flT_52_0, flT_52_1, flT_52_2, ldT_52, ldT_4, ldT_3, szT_52, szT_4, zeroT_52, elT_28, elT_103, *]) | (refine guardL_splitTD ?_ ?_ <;> intro) | (refine guardL_splitFD ?_ ?_ <;> intro) | (refine guardP_splitTD ?_ ?_ <;> intro) | (refine guardP_splitFD ?_ ?_ <;> intro) | (refine condL_splitD ?_ ?_ <;> intro) | (refine guardL_splitT ?_ ?_ <;> intro) | (refine guardL_splitF ?_ ?_ <;> intro) | (refine guardP_splitT ?_ ?_ <;> intro) | (refine guardP_splitF ?_ ?_ <;> intro) | (refine condL_split ?_ ?_ <;> intro) | (refine ret_tmp ?_) | (refine acx_go rfl (fun _ _ _ h => h) ?_) | (refine acx_dreg mixed (fun _ _ _ _ e h => ⟨e.trans h.1, h.2⟩) _ (SubH.refl _) ?_) | (refine And.intro (SubH.new (by assumption)) ?_) | (refine allNew_intro fun zr zh => ?_; have zg := zh; (try simp only [AH.set_none] at zg)) | (exact SubH.refl _) | (refine SubH.of_set ?_ ?_) | assumption | (with_reducible refine And.intro ?_ ?_)))
            · rw [wrap_ok (n := (i : Int) - 1) (by omega) (by omega)]
              exact ⟨i, _, by omega, rfl, by rw [List.length_set]; exact hnxl, (hs.of_set (hHn _ (by simp only [*]))).of_set (by simp only [*]), by rw [boolset'], rfl⟩
            · rw [wrap_ok (n := (i : Int) - 1) (by omega) (by omega)]; omega
          | false =>
            simp only [c3, Bool.false_or] at hgo
            (repeat' (first | (simp only [↓s_skip, ↓s_reg, ↓s_seq, ↓s_cond, ↓s_condT, ↓s_block, ↓s_dreg, ↓s_nil, ↓s_consN, ↓s_consG, ↓s_guardTT, ↓s_thenN, ↓s_inN, ↓s_kret, ↓s_putS, ↓s_putN, ↓s_dOkS, ↓s_dOkN, ↓s_ev_t, ↓s_ev_c, ↓s_upd, ↓s_move, ↓s_assign, ↓s_isBool, ↓s_pickA, ↓s_pick, ↓s_load, ↓s_store, ↓s_bin, ↓s_alloc, ↓s_fieldAddr, ↓s_indexAddr, ↓s_bin_geq, ↓s_bin_eql, ↓s_bin_sub, ptrV, boolV, List.map_cons, List.map_nil, List.length_cons, List.length_nil, ite_true, ite_false, Nat.reduceEqDiff, Nat.reduceLT, Nat.reduceAdd, ne_eq, not_false_eq_true, true_and, Bool.false_eq_true, Nat.succ_ne_self, decide_true, reduceCtorEq, Int.natCast_nonneg, Int.toNat_natCast, Nat.mul_one, ↓s_plFin, ↓s_plTkN, ↓s_plTkG, AH.get, AH.set_set, setAt, List.all_cons, List.all_nil, Bool.and_self, eq_self, Nat.zero_add, Nat.add_zero, List.drop, and_self, ldV_f, ldV_t5, Int.ofNat_lt, on_int, cl_bool, on_bool, cl_agg, List.set_cons_zero, List.set_cons_succ, ↓n_alloc, n_allocS, Nat.le_refl, n_ldP, n_faP, n_ixL, n_ixA2, n_ldA, n_ldB, n_faA, n_stP, n_stA, ↓s_plK, ↓s_guardPFF, lines_drop, bools_drop, bools_len, flT_52_0, flT_52_1, flT_52_2, ldT_52, ldT_4, ldT_3, szT_52, szT_4, zeroT_52, elT_28, elT_103, *]) | (refine guardL_splitTD ?_ ?_ <;> intro) | (refine guardL_splitFD ?_ ?_ <;> intro) | (refine guardP_splitTD ?_ ?_ <;> intro) | (refine guardP_splitFD ?_ ?_ <;> intro) | (refine condL_splitD ?_ ?_ <;> intro) | (refine guardL_splitT ?_ ?_ <;> intro) | (refine guardL_splitF ?_ ?_ <;> intro) | (refine guardP_splitT ?_ ?_ <;> intro) | (refine guardP_splitF ?_ ?_ <;> intro) | (refine condL_split ?_ ?_ <;> intro) | (refine ret_tmp ?_) | (refine acx_go rfl (fun _ _ _ h => h) ?_) | (refine acx_dreg mixed (fun _ _ _ _ e h => ⟨e.trans h.1, h.2⟩) _ (SubH.refl _) ?_) | (refine And.intro (SubH.new (by assumption)) ?_) | (refine allNew_intro fun zr zh => ?_; have zg := zh; (try simp only [AH.set_none] at zg)) | (exact SubH.refl _) | (refine SubH.of_set ?_ ?_) | assumption | (with_reducible refine And.intro ?_ ?_)))
            · rw [wrap_ok (n := (i : Int) - 1) (by omega) (by omega)]
              exact ⟨i, _, by omega, rfl, by rw [List.length_set]; exact hnxl, (hs.of_set (hHn _ (by simp only [*]))).of_set (by simp only [*]), by rw [boolset'], rfl⟩
            · rw [wrap_ok (n := (i : Int) - 1) (by omega) (by omega)]; omega
        · have hst : needStep ls need i = need := by unfold needStep; rw [if_neg (fun e => c2 (by rw [← hx]; exact e.2))]
          (repeat' (first | (simp only [↓s_skip, ↓s_reg, ↓s_seq, ↓s_cond, ↓s_condT, ↓s_condF, ↓s_block, ↓s_nil, ↓s_consN, ↓s_consG, ↓s_guardTT, ↓s_thenN, ↓s_inN, ↓s_kret, ↓s_putS, ↓s_putN, ↓s_dOkS, ↓s_dOkN, ↓s_ev_t, ↓s_ev_c, ↓s_upd, ↓s_move, ↓s_assign, ↓s_isBool, ↓s_pickA, ↓s_pick, ↓s_load, ↓s_store, ↓s_bin, ↓s_alloc, ↓s_fieldAddr, ↓s_indexAddr, ↓s_bin_geq, ↓s_bin_sub, ptrV, boolV, List.map_cons, List.map_nil, List.length_cons, List.length_nil, ite_true, ite_false, Nat.reduceEqDiff, Nat.reduceLT, Nat.reduceAdd, ne_eq, not_false_eq_true, true_and, Nat.succ_ne_self, decide_true, decide_false, reduceCtorEq, Int.natCast_nonneg, Int.toNat_natCast, Nat.mul_one, AH.get, AH.set_set, setAt, List.all_cons, List.all_nil, Bool.and_self, eq_self, Nat.zero_add, Nat.add_zero, List.drop, and_self, ldV_f, ldV_t5, Int.ofNat_lt, on_int, cl_agg, List.set_cons_zero, List.set_cons_succ, ↓n_alloc, n_allocS, Nat.le_refl, n_ldP, n_faP, n_ixL, n_ixA2, n_ldA, n_ldB, n_faA, n_stP, n_stA, lines_drop, bools_drop, flT_52_0, ldT_52, ldT_4, ldT_3, szT_52, zeroT_52, elT_28, elT_103, *]) | (refine guardL_splitTD ?_ ?_ <;> intro) | (refine guardL_splitFD ?_ ?_ <;> intro) | (refine guardP_splitTD ?_ ?_ <;> intro) | (refine guardP_splitFD ?_ ?_ <;> intro) | (refine condL_splitD ?_ ?_ <;> intro) | (refine guardL_splitT ?_ ?_ <;> intro) | (refine guardL_splitF ?_ ?_ <;> intro) | (refine guardP_splitT ?_ ?_ <;> intro) | (refine guardP_splitF ?_ ?_ <;> intro) | (refine condL_split ?_ ?_ <;> intro) | (refine ret_tmp ?_) | (refine acx_go rfl (fun _ _ _ h => h) ?_) | (refine acx_dreg mixed (fun _ _ _ _ e h => ⟨e.trans h.1, h.2⟩) _ (SubH.refl _) ?_) | (refine And.intro (SubH.new (by assumption)) ?_) | (refine allNew_intro fun zr zh => ?_; have zg := zh; (try simp only [AH.set_none] at zg)) | (exact SubH.refl _) | (refine SubH.of_set ?_ ?_) | assumption | (with_reducible refine And.intro ?_ ?_)))
          · rw [wrap_ok (n := (i : Int) - 1) (by omega) (by omega)]
            exact ⟨i, need, by omega, rfl, hnl, hs.of_set (hHn _ (by simp only [*])), rfl, rfl⟩
          · rw [wrap_ok (n := (i : Int) - 1) (by omega) (by omega)]; omega
      · have hst : needStep ls need i = need := by unfold needStep; rw [if_neg (fun e => c1 (by rw [← hnd]; exact e.1))]
        (repeat' (first | (simp only [↓s_skip, ↓s_reg, ↓s_seq, ↓s_cond, ↓s_condT, ↓s_condF, ↓s_block, ↓s_nil, ↓s_consN, ↓s_consG, ↓s_guardFT, ↓s_thenN, ↓s_inN, ↓s_kret, ↓s_putS, ↓s_putN, ↓s_dOkS, ↓s_dOkN, ↓s_ev_t, ↓s_ev_c, ↓s_upd, ↓s_move, ↓s_assign, ↓s_isBool, ↓s_pickA, ↓s_pick, ↓s_load, ↓s_store, ↓s_bin, ↓s_alloc, ↓s_indexAddr, ↓s_bin_geq, ↓s_bin_sub, ptrV, boolV, List.map_cons, List.map_nil, List.length_cons, List.length_nil, ite_true, ite_false, Nat.reduceEqDiff, Nat.reduceLT, Nat.reduceAdd, true_and, Bool.false_eq_true, Nat.succ_ne_self, decide_true, reduceCtorEq, Int.natCast_nonneg, Int.toNat_natCast, Nat.mul_one, callOk, undefV, AH.get, AH.set_set, setAt, List.all_cons, List.all_nil, Bool.and_self, eq_self, Nat.zero_add, and_self, ldV_f, ldV_t5, Int.ofNat_lt, on_int, cl_agg, List.set_cons_zero, List.set_cons_succ, ↓n_alloc, n_allocS, Nat.le_refl, n_ldP, n_ixL, n_ixA2, n_ldA, n_ldB, n_stP, n_stA, undef, lines_drop, bools_drop, ldT_52, ldT_4, szT_52, zeroT_52, elT_28, elT_103, *]) | (refine guardL_splitTD ?_ ?_ <;> intro) | (refine guardL_splitFD ?_ ?_ <;> intro) | (refine guardP_splitTD ?_ ?_ <;> intro) | (refine guardP_splitFD ?_ ?_ <;> intro) | (refine condL_splitD ?_ ?_ <;> intro) | (refine guardL_splitT ?_ ?_ <;> intro) | (refine guardL_splitF ?_ ?_ <;> intro) | (refine guardP_splitT ?_ ?_ <;> intro) | (refine guardP_splitF ?_ ?_ <;> intro) | (refine condL_split ?_ ?_ <;> intro) | (refine ret_tmp ?_) | (refine acx_go rfl (fun _ _ _ h => h) ?_) | (refine acx_dreg mixed (fun _ _ _ _ e h => ⟨e.trans h.1, h.2⟩) _ (SubH.refl _) ?_) | (refine And.intro (SubH.new (by assumption)) ?_) | (refine allNew_intro fun zr zh => ?_; have zg := zh; (try simp only [AH.set_none] at zg)) | (exact SubH.refl _) | (refine SubH.of_set ?_ ?_) | assumption | (with_reducible refine And.intro ?_ ?_)))
        · rw [wrap_ok (n := (i : Int) - 1) (by omega) (by omega)]
          exact ⟨i, need, by omega, rfl, hnl, hs.of_set (hHn _ (by simp only [*])), rfl, rfl⟩
        · rw [wrap_ok (n := (i : Int) - 1) (by omega) (by omega)]; omega
end Go.PV.Ytefpjfpelicedaa
end
section
/- What holds of the search's outcomes. -/
set_option linter.unusedVariables false
set_option linter.unusedSimpArgs false
set_option maxRecDepth 20000
set_option maxHeartbeats 4000000
namespace Go.PV.Ytefpjfpelicedaa
open Go Go.Proofs
section
variable {rows : List Row} {n : Nat} {most : Int} {P : RS → Prop} {E : Out → RS → Prop}
theorem keepS_all (hl : ∀ s l, P s → match lineS rows n most s l with | .error (o, s') => E o s' | .ok (_, s') => P s') (hk : ∀ s a, P s → P (keep2 s a).2) {s : RS} {l : Line} (h : P s) :
    match keepS rows n most s l with | .error (o, s') => E o s' | .ok (_, s') => P s' := by
  unfold keepS
  have h1 := hl s l h
  cases e : lineS rows n most s l with
  | error p => rw [e] at h1; exact h1
  | ok p =>
    obtain ⟨a, s1⟩ := p
    rw [e] at h1
    dsimp only
    by_cases c0 : commonF (rowAt s1.made a) = 0
    · rw [if_pos c0]; exact h1
    · rw [if_neg c0]
      by_cases c1 : 1 < commonF (rowAt s1.made a) ∧ commonF (rowAt s1.made a) ≤ 1000000
      · rw [if_pos c1]
        have h3 := hl s1 ⟨4, a, 0, commonF (rowAt s1.made a), 0⟩ h1
        cases e2 : lineS rows n most s1 ⟨4, a, 0, commonF (rowAt s1.made a), 0⟩ with
        | error p => rw [e2] at h3; exact h3
        | ok p => obtain ⟨a2, s2⟩ := p; rw [e2] at h3; exact hk _ _ h3
      · rw [if_neg c1]; exact hk _ _ h1
theorem keepsS_all (hl : ∀ s l, P s → match lineS rows n most s l with | .error (o, s') => E o s' | .ok (_, s') => P s') (hk : ∀ s a, P s → P (keep2 s a).2) : ∀ (xs : List Line) (s : RS) (l : List Int), P s →
    match keepsS rows n most xs s l with | .error (o, s') => E o s' | .ok (s', _) => P s'
  | [], s, l, h => h
  | x :: xs, s, l, h => by
    have h1 := keepS_all hl hk (l := x) h
    unfold keepsS
    cases e : keepS rows n most s x with
    | error p => rw [e] at h1; exact h1
    | ok p => obtain ⟨a, s1⟩ := p; rw [e] at h1; exact keepsS_all hl hk xs s1 _ h1
theorem roundsS_all (hl : ∀ s l, P s → match lineS rows n most s l with | .error (o, s') => E o s' | .ok (_, s') => P s') (hk : ∀ s a, P s → P (keep2 s a).2) : ∀ (r : Nat) (s : RS) (l : List Int) (done : List Bool), P s →
    match roundsS rows n most r s l done with | .error (o, s') => E o s' | .ok s' => P s'
  | 0, s, l, done, h => h
  | r + 1, s, l, done, h => by
    unfold roundsS roundS
    have h1 := keepsS_all hl hk ((pairsL (rowsOf s) (easS s (curS s l) done).toNat (curS s l) (curS s l)).map (sumLine (rowsOf s) (easS s (curS s l) done).toNat)) s (zerosS s (easS s (curS s l) done).toNat (curS s l)) h
    cases e : keepsS rows n most ((pairsL (rowsOf s) (easS s (curS s l) done).toNat (curS s l) (curS s l)).map (sumLine (rowsOf s) (easS s (curS s l) done).toNat)) s (zerosS s (easS s (curS s l) done).toNat (curS s l)) with
    | error p => rw [e] at h1; exact h1
    | ok p => obtain ⟨s1, l1⟩ := p; rw [e] at h1; exact roundsS_all hl hk r s1 _ _ h1
theorem searchS_all (hl : ∀ s l, P s → match lineS rows n most s l with | .error (o, s') => E o s' | .ok (_, s') => P s') (hk : ∀ s a, P s → P (keep2 s a).2) (h0 : P ⟨[], [], []⟩) :
    match searchS rows n most with | .error (o, s') => E o s' | .ok s' => P s' := by
  unfold searchS
  have h1 := keepsS_all hl hk (givens rows) ⟨[], [], []⟩ [] h0
  cases e : keepsS rows n most (givens rows) ⟨[], [], []⟩ [] with
  | error p => rw [e] at h1; exact h1
  | ok p =>
    obtain ⟨s1, l1⟩ := p
    rw [e] at h1
    dsimp only
    have h2 := keepsS_all hl hk (naturals n) s1 l1 h1
    cases e2 : keepsS rows n most (naturals n) s1 l1 with
    | error p => rw [e2] at h2; exact h2
    | ok p => obtain ⟨s2, l2⟩ := p; rw [e2] at h2; exact roundsS_all hl hk n s2 _ _ h2
end
theorem makeF_codes {rows made : List Row} {n : Nat} {l : Line} : (makeF rows made n l).2 = 0 ∨ (makeF rows made n l).2 = 7 ∨ (makeF rows made n l).2 = 260 := by
  have ho : ∀ r, (outF r).2 = 0 ∨ (outF r).2 = 7 ∨ (outF r).2 = 260 := fun r => by unfold outF; split <;> simp
  unfold makeF
  split
  · split; exact ho _; simp
  split
  · split; exact ho _; simp
  split
  · split; exact ho _; simp
  split
  · split
    · split; simp; exact ho _
    · simp
  · simp
theorem makeF_refs {rows made : List Row} {n : Nat} {l : Line} (h : (makeF rows made n l).2 = 0) (hk : 3 ≤ l.k) : (0 ≤ l.a ∧ l.a < (made.length : Int)) ∧ 0 ≤ l.b ∧ l.b < (made.length : Int) := by
  unfold makeF at h
  rw [if_neg (by omega), if_neg (by omega)] at h
  split at h
  · split at h
    · rename_i c; exact ⟨c.1, c.2.1⟩
    · simp at h
  · split at h
    · split at h
      · rename_i c; exact ⟨c.1, by have := c.2.2.1; omega, by have := c.2.2.1; omega⟩
      · simp at h
    · simp at h
def RefsIn (s : RS) : Prop := ∀ x ∈ s.ls, 3 ≤ x.k → (0 ≤ x.a ∧ x.a < (s.made.length : Int)) ∧ 0 ≤ x.b ∧ x.b < (s.made.length : Int)
theorem deriveGo_snoc {rows : List Row} {n : Nat} : ∀ (ls : List Line) (made made' : List Row) (l : Line), deriveGo rows n made ls = (made', 0) → (makeF rows made' n l).2 = 0 → deriveGo rows n made (ls ++ [l]) = (made' ++ [(makeF rows made' n l).1], 0)
  | [], made, made', l, h, h2 => by
    simp only [deriveGo, Prod.mk.injEq, and_true] at h
    subst h
    simp [deriveGo, h2]
  | x :: ls, made, made', l, h, h2 => by
    simp only [deriveGo, List.cons_append] at h ⊢
    split at h
    · rename_i hx; rw [if_pos hx]; exact deriveGo_snoc ls _ _ l h h2
    · rename_i hx; simp at h; exact absurd h.2 hx
structure Good (rows : List Row) (n : Nat) (most : Int) (s : RS) : Prop where
  fits : ∀ r ∈ s.made, Fits n r
  len : s.made.length = s.ls.length
  le : (s.ls.length : Int) ≤ most
  refs : RefsIn s
  der : deriveGo rows n [] s.ls = (s.made, 0)
def EndOk (rows : List Row) (n : Nat) (most : Int) : Out → RS → Prop
  | .stop c, s => Good rows n most s ∧ (c = 7 ∨ c = 8)
  | .found, s => Good rows n most s ∧ ∃ ms r, s.made = ms ++ [r] ∧ absurdF r = true
theorem search_good {rows : List Row} {n : Nat} {most : Int} (h0 : 0 ≤ most) : match searchS rows n most with | .error (o, s') => EndOk rows n most o s' | .ok s' => Good rows n most s' := by
  refine searchS_all (P := Good rows n most) (E := EndOk rows n most) (fun s l h => ?_) (fun s a h => ?_) ⟨by simp, rfl, by simpa using h0, by simp [RefsIn], rfl⟩
  · have key : ¬ (s.ls.length : Int) = most → (makeF rows s.made n l).2 = 0 → Good rows n most ⟨s.made ++ [(makeF rows s.made n l).1], s.ls ++ [l], s.known⟩ := fun h1 h2 => by
      refine ⟨?_, by simp [h.len], by have := h.le; simp; omega, ?_, deriveGo_snoc _ _ _ _ h.der h2⟩
      · intro r hr
        rcases List.mem_append.1 hr with hr | hr
        · exact h.fits r hr
        · rw [List.mem_singleton.1 hr]; exact makeF_ok h.fits h2
      · intro x hx hk
        rcases List.mem_append.1 hx with hx | hx
        · have := h.refs x hx hk; simp; omega
        · rw [List.mem_singleton.1 hx] at hk ⊢
          have := makeF_refs h2 hk; simp; omega
    by_cases h1 : (s.ls.length : Int) = most
    · rw [lineS_fuel h1]; exact ⟨h, .inr rfl⟩
    by_cases h2 : (makeF rows s.made n l).2 = 0
    · by_cases h3 : absurdF (makeF rows s.made n l).1 = true
      · rw [lineS_found h1 h2 h3]; exact ⟨key h1 h2, _, _, rfl, h3⟩
      · rw [lineS_val h1 h2 (by simpa using h3)]; exact key h1 h2
    · rw [lineS_err h1 h2]
      refine ⟨h, ?_⟩
      rcases makeF_codes (rows := rows) (made := s.made) (n := n) (l := l) with c | c | c
      · exact absurd c h2
      · left; rw [c]; rfl
      · left; rw [c]; rfl
  · have e : (keep2 s a).2.ls = s.ls ∧ (keep2 s a).2.made = s.made := by unfold keep2; split <;> (try split) <;> exact ⟨rfl, rfl⟩
    exact ⟨by rw [e.2]; exact h.fits, by rw [e.1, e.2]; exact h.len, by rw [e.1]; exact h.le, by intro x hx; rw [e.1] at hx; rw [e.2]; exact h.refs x hx, by rw [e.1, e.2]; exact h.der⟩
end Go.PV.Ytefpjfpelicedaa
end
section
/- Refute: what is deferred. -/
set_option linter.unusedVariables false
set_option linter.unusedSimpArgs false
set_option maxRecDepth 20000
set_option maxHeartbeats 4000000
namespace Go.PV.Ytefpjfpelicedaa
open Go Go.Proofs
def isIf (d : Option TypeDesc) : Bool := match d with | some (.interface _) => true | _ => false
theorem und20b : isIf (Program.underlying Try.prog 20) = true := by kernel_rfl
theorem und20 : ∃ e, Program.underlying Try.prog 20 = some (.interface e) := by
  have h := und20b
  unfold isIf at h
  split at h
  · rename_i e he; exact ⟨e, he⟩
  · cases h
section
variable {H : AH} {K : VE → AH → Prop} {ox : Operand} {u : TypeId} {y : Value}
theorem nilEq (h : K (.ret (boolV true)) H) : vcBin Try.prog .eql 20 ox (.const .nilIface) (.lit .nilIface) (.lit .nilIface) H K := by
  unfold vcBin
  simp only [litCells]
  exact ⟨und20, .inr (.inl rfl), fun b hb => by rw [show b = true from hb]; exact h⟩
theorem ifEq (h : K (.ret (boolV false)) H) : vcBin Try.prog .eql 20 ox (.const .nilIface) (.lit (.iface u y)) (.lit .nilIface) H K := by
  unfold vcBin
  simp only [litCells]
  exact ⟨und20, .inr (.inl rfl), fun b hb => by rw [show b = false from hb]; exact h⟩
end
theorem fd38' : FnD Try.prog 38 24 [] (.seq (.reg [⟨some 8, (.call { callee := (.builtin .recover), args := #[], argTypes := #[] }), none⟩]) (match c38 with | .seq _ b => b | c => c)) := fd38
theorem zeroV79 : zeroV Try.prog 79 = some (.agg #[]) := by kernel_rfl
theorem zeroV82 : zeroV Try.prog 82 = some (.agg #[.int .i64 0]) := by kernel_rfl
theorem cl_a0 : VV.cells (.lit (.agg #[])) = [] := rfl
theorem cl_a1 (v : Value) : VV.cells (.lit (.agg #[v])) = [.lit v] := rfl
theorem nil_get (i : Nat) : AH.nil i = none := rfl
theorem nil_sub (H : AH) : SubH AH.nil H := fun _ _ h => by cases h
def recd (l : List PanicEntry) : FrameMode := .panicking (l.map fun e => { e with recovered := true })
theorem def38_nil {H : AH} {xs : List VV} {K : VE → FrameMode → AH → Prop} (hN : xs.length ≤ 24) (h : ∀ u, K (.ret u) .returning H) : DCalls Try.prog 38 xs .returning H K := by
  refine dcalls_recover fd38' hN (by decide) ?_
  unfold c38
  (repeat' (first | (refine nilEq ?_) | (simp only [↓s_reg, ↓s_seq, ↓s_cond, ↓s_condT, ↓s_block, ↓s_nil, ↓s_consN, ↓s_thenN, ↓s_inN, ↓s_kret, ↓s_putS, ↓s_dOkS, ↓s_ev_t, ↓s_ev_c, ↓s_upd, ↓s_assign, ↓s_bin, boolV, ite_true, ite_false, Nat.reduceEqDiff, Nat.reduceLT, true_and, undefV, eq_self, undef, recMode, *]) | (refine guardL_splitTD ?_ ?_ <;> intro) | (refine guardL_splitFD ?_ ?_ <;> intro) | (refine guardP_splitTD ?_ ?_ <;> intro) | (refine guardP_splitFD ?_ ?_ <;> intro) | (refine condL_splitD ?_ ?_ <;> intro) | (refine guardL_splitT ?_ ?_ <;> intro) | (refine guardL_splitF ?_ ?_ <;> intro) | (refine guardP_splitT ?_ ?_ <;> intro) | (refine guardP_splitF ?_ ?_ <;> intro) | (refine condL_split ?_ ?_ <;> intro) | (refine ret_tmp ?_) | (refine acx_go rfl (fun _ _ _ h => h) ?_) | (refine acx_dreg mixed (fun _ _ _ _ e h => ⟨e.trans h.1, h.2⟩) _ (SubH.refl _) ?_) | (refine And.intro (SubH.new (by assumption)) ?_) | (refine allNew_intro fun zr zh => ?_; have zg := zh; (try simp only [AH.set_none] at zg)) | (exact SubH.refl _) | (refine SubH.of_set ?_ ?_) | assumption | (with_reducible refine And.intro ?_ ?_)))
  exact ⟨rfl, _, H, _, rfl, .refl _ _, h _⟩
theorem def38_stop {H : AH} {r4 r5 r6 : Nat} {x0 x4 x5 x6 : VV} {e4 e5 e6 : TypeId} {c : Int} {K : VE → FrameMode → AH → Prop}
    (b4 : H r4 = some (.cells e4 [x4] 0)) (b5 : H r5 = some (.cells e5 [x5] 0)) (b6 : H r6 = some (.cells e6 [x6] 0)) (d45 : ¬ r4 = r5) (d46 : ¬ r4 = r6) (d56 : ¬ r5 = r6) (d45' : ¬ r5 = r4) (d46' : ¬ r6 = r4) (d56' : ¬ r6 = r5)
    (h : ∀ u H', SubH (((H.set r4 (.cells e4 [.lit (.slice none 0 0)] 0)).set r5 (.cells e5 [boolV false] 0)).set r6 (.cells e6 [iV c] 0)) H' → K (.ret u) (recd (stopE c)) H') : DCalls Try.prog 38 [x0, ptrV r4 0, ptrV r5 0, ptrV r6 0] (.panicking (stopE c)) H K := by
  refine dcalls_recover fd38' (by simp) (by decide) ?_
  have n4 : ∀ r, H r = none → ¬ r4 = r := fun r hr => (AH.ne_of b4 hr).1
  have n4' : ∀ r, H r = none → ¬ r = r4 := fun r hr => (AH.ne_of b4 hr).2
  have n5 : ∀ r, H r = none → ¬ r5 = r := fun r hr => (AH.ne_of b5 hr).1
  have n5' : ∀ r, H r = none → ¬ r = r5 := fun r hr => (AH.ne_of b5 hr).2
  have n6 : ∀ r, H r = none → ¬ r6 = r := fun r hr => (AH.ne_of b6 hr).1
  have n6' : ∀ r, H r = none → ¬ r = r6 := fun r hr => (AH.ne_of b6 hr).2
  unfold c38
  (repeat' (first | (refine ifEq ?_) | (refine acx_dreg mixed (fun _ _ _ _ e h => ⟨e.trans h.1, h.2⟩) (AH.nil.set _ _) (SubH.set (nil_sub _) _ _) ?_) | (refine SubH.set (nil_sub _) _ _) | (simp only [↓s_reg, ↓s_seq, ↓s_cond, ↓s_condT, ↓s_condF, ↓s_block, ↓s_dreg, ↓s_nil, ↓s_consN, ↓s_thenN, ↓s_inN, ↓s_inP, ↓s_kret, ↓s_putS, ↓s_putN, ↓s_dOkS, ↓s_dOkN, ↓s_ev_t, ↓s_ev_c, ↓s_upd, ↓s_move, ↓s_assign, ↓s_load, ↓s_store, ↓s_bin, ↓s_alloc, ↓s_fieldAddr, ↓s_typeAssert, ↓s_extract, ↓s_panic, vcExtract, ptrV, boolV, List.map_cons, List.map_nil, List.length_cons, List.length_nil, List.getD_cons_zero, List.getD_cons_succ, List.getD_nil, ite_true, ite_false, Nat.reduceEqDiff, Nat.reduceLT, Nat.reduceLeDiff, ne_eq, not_false_eq_true, true_and, Nat.succ_ne_self, reduceCtorEq, undefV, ↓s_plFin, ↓s_plTkN, ↓s_plOneN, AH.get, AH.set_set, setAt, List.all_cons, List.all_nil, Bool.and_self, eq_self, Nat.zero_add, Nat.add_zero, List.drop, List.getElem?_cons_zero, List.getElem?_cons_succ, ldV_f, cl_int, on_int, cl_bool, on_bool, cl_sl, on_sl, List.set_cons_zero, ↓n_alloc, n_allocS, Nat.le_refl, n_ldP, n_faP, n_ldA, n_ldB, n_faA, n_stP, n_stA, ↓s_plK, ↓s_oneK, undef, false_and, and_false, recMode, stopE, vcAssert, notI79, notI82, zeroV79, zeroV82, okV, cl_a1, nil_get, flT_82_0, ldT_25, szT_79, szT_28, szT_4, szT_25, szT_82, zeroT_79, zeroT_82, *]) | (refine guardL_splitTD ?_ ?_ <;> intro) | (refine guardL_splitFD ?_ ?_ <;> intro) | (refine guardP_splitTD ?_ ?_ <;> intro) | (refine guardP_splitFD ?_ ?_ <;> intro) | (refine condL_splitD ?_ ?_ <;> intro) | (refine guardL_splitT ?_ ?_ <;> intro) | (refine guardL_splitF ?_ ?_ <;> intro) | (refine guardP_splitT ?_ ?_ <;> intro) | (refine guardP_splitF ?_ ?_ <;> intro) | (refine condL_split ?_ ?_ <;> intro) | (refine ret_tmp ?_) | (refine acx_go rfl (fun _ _ _ h => h) ?_) | (refine acx_dreg mixed (fun _ _ _ _ e h => ⟨e.trans h.1, h.2⟩) _ (SubH.refl _) ?_) | (refine And.intro (SubH.new (by assumption)) ?_) | (refine allNew_intro fun zr zh => ?_; have zg := zh; (try simp only [AH.set_none] at zg)) | (exact SubH.refl _) | (refine SubH.of_set ?_ ?_) | assumption | (with_reducible refine And.intro ?_ ?_)))
  refine ⟨rfl, _, _, _, rfl, .refl _ _, h _ _ ?_⟩
  have m4 := n4' _ zg
  have m5 := n5' _ zg
  have m6 := n6' _ zg
  exact SubH.set (SubH.set (SubH.set (SubH.new zg) _ _) _ _) _ _
theorem def38_found {B H : AH} {s mp : Nat} {rows : List Row} {n : Nat} {most : Int} {st : RS} {r8 r4 r5 r6 : Nat} {x4 x5 x6 : VV} {e4 e5 e6 : TypeId} {K : VE → FrameMode → AH → Prop} (hst : RefS B H s mp rows n most st) (hgd : Good rows n most st) (hne : st.ls ≠ []) (hm : most ≤ 5000)
    (b8 : B r8 = some (.cells 71 [ptrV s 0] 0)) (b4 : B r4 = some (.cells e4 [x4] 0)) (b5 : B r5 = some (.cells e5 [x5] 0)) (b6 : B r6 = some (.cells e6 [x6] 0)) (d45 : ¬ r4 = r5) (d46 : ¬ r4 = r6) (d56 : ¬ r5 = r6) (d45' : ¬ r5 = r4) (d46' : ¬ r6 = r4) (d56' : ¬ r6 = r5)
    (h : ∀ u v Hc H', OwnX Hc H' 52 5 v (neededF st.ls).length (encC lineE (neededF st.ls)) → SubH (((H.set r4 (.cells e4 [v] 0)).set r5 (.cells e5 [boolV true] 0)).set r6 (.cells e6 [iV 0] 0)) Hc → K (.ret u) (recd foundE) H') :
    DCalls Try.prog 38 [ptrV r8 0, ptrV r4 0, ptrV r5 0, ptrV r6 0] (.panicking foundE) H K := by
  refine dcalls_recover fd38' (by simp) (by decide) ?_
  have c8 := hst.sub _ _ b8
  have c4 := hst.sub _ _ b4
  have c5 := hst.sub _ _ b5
  have c6 := hst.sub _ _ b6
  obtain ⟨mv, lv, Hs, Hm, q1, q2, q3, hB, ks, km', ho1, ho2⟩ := hst
  have hsub := ho1.sub.trans ho2.sub
  have k1 := hsub _ _ ks
  have hlen0 : 0 < st.ls.length := List.length_pos_iff.2 hne
  obtain ⟨g, c, sp, hlv, kg⟩ : ∃ g c sp, lv = .lit (.slice (some ⟨g, 0, none⟩) st.ls.length c) ∧ H g = some (.cells 52 (encC lineE st.ls) sp) := by
    rcases ho2 with ⟨e1, e2, _⟩ | ⟨g, c, sp, e1, e2, e3, _⟩
    · omega
    · exact ⟨g, c, sp, e1, by rw [e3, AH.set_same]⟩
  subst hlv
  have hle := hgd.le
  have hlo : LinesOk st.ls := by
    intro i hi hk
    rw [lineAt_get hi] at hk ⊢
    have := hgd.refs _ (List.getElem_mem hi) hk
    rw [hgd.len] at this
    exact this
  have n4 : ∀ r, H r = none → ¬ r4 = r := fun r hr => (AH.ne_of c4 hr).1
  have n4' : ∀ r, H r = none → ¬ r = r4 := fun r hr => (AH.ne_of c4 hr).2
  have n5 : ∀ r, H r = none → ¬ r5 = r := fun r hr => (AH.ne_of c5 hr).1
  have n5' : ∀ r, H r = none → ¬ r = r5 := fun r hr => (AH.ne_of c5 hr).2
  have n6 : ∀ r, H r = none → ¬ r6 = r := fun r hr => (AH.ne_of c6 hr).1
  have n6' : ∀ r, H r = none → ¬ r = r6 := fun r hr => (AH.ne_of c6 hr).2
  have n8 : ∀ r, H r = none → ¬ r8 = r := fun r hr => (AH.ne_of c8 hr).1
  have ns : ∀ r, H r = none → ¬ s = r := fun r hr => (AH.ne_of k1 hr).1
  have ng : ∀ r, H r = none → ¬ g = r := fun r hr => (AH.ne_of kg hr).1
  unfold c38
  (repeat' (first | (refine ifEq ?_) | (refine (needed39 (g := g) (sp := sp) (ls := st.ls) ?_ hlen0 (by omega) hlo).use (fun v2 H2 ho2 => ?_)) | (simp only [↓s_reg, ↓s_seq, ↓s_cond, ↓s_condT, ↓s_condF, ↓s_block, ↓s_dreg, ↓s_nil, ↓s_consN, ↓s_thenN, ↓s_inP, ↓s_kret, ↓s_putS, ↓s_putN, ↓s_dOkS, ↓s_dOkN, ↓s_ev_t, ↓s_ev_c, ↓s_ev_f, ↓s_upd, ↓s_move, ↓s_assign, ↓s_load, ↓s_store, ↓s_nilCheck, ↓s_bin, ↓s_alloc, ↓s_fieldAddr, ↓s_typeAssert, ↓s_extract, ↓s_callV, ↓s_panic, ↓s_callL, vcNil, vcExtract, ptrV, boolV, List.map_cons, List.map_nil, List.length_cons, List.length_nil, List.getD_cons_zero, List.getD_cons_succ, List.getD_nil, ite_true, ite_false, Nat.reduceEqDiff, Nat.reduceLT, Nat.reduceLeDiff, ne_eq, not_false_eq_true, true_and, Nat.succ_ne_self, reduceCtorEq, undefV, AH.get, AH.set_set, setAt, List.all_nil, eq_self, Nat.zero_add, Nat.add_zero, List.drop, List.getElem?_cons_zero, List.getElem?_cons_succ, ldV_f, ↓n_alloc, n_allocS, Nat.le_refl, n_ldP, n_faP, n_ldA, n_ldB, n_faA, n_stP, n_stA, undef, recMode, foundE, vcAssert, notI79, notI82, zeroV79, zeroV82, okV, cl_a0, flT_77_1, ldT_71, ldT_28, szT_79, szT_82, zeroT_79, zeroT_82, en_39, *]) | (refine guardL_splitTD ?_ ?_ <;> intro) | (refine guardL_splitFD ?_ ?_ <;> intro) | (refine guardP_splitTD ?_ ?_ <;> intro) | (refine guardP_splitFD ?_ ?_ <;> intro) | (refine condL_splitD ?_ ?_ <;> intro) | (refine guardL_splitT ?_ ?_ <;> intro) | (refine guardL_splitF ?_ ?_ <;> intro) | (refine guardP_splitT ?_ ?_ <;> intro) | (refine guardP_splitF ?_ ?_ <;> intro) | (refine condL_split ?_ ?_ <;> intro) | (refine ret_tmp ?_) | (refine acx_go rfl (fun _ _ _ h => h) ?_) | (refine acx_dreg mixed (fun _ _ _ _ e h => ⟨e.trans h.1, h.2⟩) _ (SubH.refl _) ?_) | (refine And.intro (SubH.new (by assumption)) ?_) | (refine allNew_intro fun zr zh => ?_; have zg := zh; (try simp only [AH.set_none] at zg)) | (exact SubH.refl _) | (refine SubH.of_set ?_ ?_) | assumption | (with_reducible refine And.intro ?_ ?_)))
  refine OwnF.use (needed39 (g := g) (sp := sp) (e := 52) (ls := st.ls) (by rw [AH.get, if_neg (ng _ zg)]; exact kg) hlen0 (by omega) hlo) (fun v2 H2 ho2 => ?_)
  have z4 : H2 r4 = some (.cells e4 [x4] 0) := ho2.sub _ _ (by rw [AH.get, if_neg (n4 _ zg)]; exact c4)
  have z5 : H2 r5 = some (.cells e5 [x5] 0) := ho2.sub _ _ (by rw [AH.get, if_neg (n5 _ zg)]; exact c5)
  have z6 : H2 r6 = some (.cells e6 [x6] 0) := ho2.sub _ _ (by rw [AH.get, if_neg (n6 _ zg)]; exact c6)
  have y1 := ho2.cells.1
  have y2 := ho2.cells.2
  have w4 : (H.set zr (.cells 79 [] 0)) r4 = some (.cells e4 [x4] 0) := by rw [AH.get, if_neg (n4 _ zg)]; exact c4
  have w5 : ((H.set zr (.cells 79 [] 0)).set r4 (.cells e4 [v2] 0)) r5 = some (.cells e5 [x5] 0) := by rw [AH.get, if_neg d45', AH.get, if_neg (n5 _ zg)]; exact c5
  have w6 : (((H.set zr (.cells 79 [] 0)).set r4 (.cells e4 [v2] 0)).set r5 (.cells e5 [boolV true] 0)) r6 = some (.cells e6 [x6] 0) := by rw [AH.get, if_neg d56', AH.get, if_neg d46', AH.get, if_neg (n6 _ zg)]; exact c6
  have hfin := ((ho2.put w4 (.cells e4 [v2] 0)).put w5 (.cells e5 [boolV true] 0)).put w6 (.cells e6 [iV 0] 0)
  (repeat' (first | (simp only [↓s_nil, ↓s_consN, ↓s_inN, ↓s_kret, ↓s_putS, ↓s_putN, ↓s_dOkN, ↓s_ev_t, ↓s_ev_c, ↓s_upd, ↓s_store, List.length_cons, List.length_nil, List.getD_cons_zero, List.getD_cons_succ, List.getD_nil, ite_true, ite_false, Nat.reduceEqDiff, true_and, Nat.succ_ne_self, AH.get, setAt, List.all_cons, List.all_nil, Bool.and_self, eq_self, Nat.zero_add, cl_int, on_int, cl_bool, on_bool, List.set_cons_zero, Nat.le_refl, n_stP, n_stA, szT_28, szT_4, szT_25, *]) | (refine guardL_splitTD ?_ ?_ <;> intro) | (refine guardL_splitFD ?_ ?_ <;> intro) | (refine guardP_splitTD ?_ ?_ <;> intro) | (refine guardP_splitFD ?_ ?_ <;> intro) | (refine condL_splitD ?_ ?_ <;> intro) | (refine guardL_splitT ?_ ?_ <;> intro) | (refine guardL_splitF ?_ ?_ <;> intro) | (refine guardP_splitT ?_ ?_ <;> intro) | (refine guardP_splitF ?_ ?_ <;> intro) | (refine condL_split ?_ ?_ <;> intro) | (refine ret_tmp ?_) | (refine acx_go rfl (fun _ _ _ h => h) ?_) | (refine acx_dreg mixed (fun _ _ _ _ e h => ⟨e.trans h.1, h.2⟩) _ (SubH.refl _) ?_) | (refine And.intro (SubH.new (by assumption)) ?_) | (refine allNew_intro fun zr zh => ?_; have zg := zh; (try simp only [AH.set_none] at zg)) | (exact SubH.refl _) | (refine SubH.of_set ?_ ?_) | assumption | (with_reducible refine And.intro ?_ ?_)))
  refine ⟨rfl, _, _, _, rfl, .refl _ _, h _ _ _ _ hfin ?_⟩
  exact SubH.set (SubH.set (SubH.set (SubH.new zg) _ _) _ _) _ _
end Go.PV.Ytefpjfpelicedaa
end
section
/- Refute. -/
set_option linter.unusedVariables false
set_option linter.unusedSimpArgs false
set_option maxRecDepth 20000
set_option maxHeartbeats 4000000
namespace Go.PV.Ytefpjfpelicedaa
open Go Go.Proofs
def refuteF (rows : List Row) (most : Int) : List Line × Bool × Int :=
  if rightF rows = 0 then
    (if most < 0 ∨ 5000 < most then ([], false, 4)
     else match searchS rows (unkN rows) most with
       | .ok _ => ([], false, 0)
       | .error (.found, st) => (neededF st.ls, true, 0)
       | .error (.stop c, _) => ([], false, c))
  else ([], false, rightF rows)
def refuteX (rows : List Row) (most : Int) : VV := .tuple [linesV (refuteF rows most).1, boolV (refuteF rows most).2.1, iV (refuteF rows most).2.2]
theorem refuteX_of {rows : List Row} {b : Int} {p : List Line × Bool × Int} (h : refuteF rows b = p) : refuteX rows b = .tuple [linesV p.1, boolV p.2.1, iV p.2.2] := by rw [refuteX, h]
theorem rfLeave {H H' : AH} {t : Nat → VV} {r4 r5 r6 s4 s5 s6 : Nat} {e4 e5 e6 : TypeId} {v X : VV} {bb : Bool} {e : Int} (h4 : t 4 = ptrV r4 0) (h5 : t 5 = ptrV r5 0) (h6 : t 6 = ptrV r6 0) (k4 : H' r4 = some (.cells e4 [v] s4)) (k5 : H' r5 = some (.cells e5 [boolV bb] s5)) (k6 : H' r6 = some (.cells e6 [iV e] s6))
    (hv : ∃ a n c, v = .lit (.slice a n c)) (hg : GhV H' (.tuple [v, boolV bb, iV e]) H X) : leaveR Try.prog [.cell 4 28, .cell 5 4, .cell 6 25] (ptQ X H) t [] .returning H' := by
  obtain ⟨a, n, c, rfl⟩ := hv
  refine ⟨_, H', _, ?_, .refl _ _, _, rfl, hg⟩
  simp only [resV, resAll, resOne, ldT_28, ldT_4, ldT_25, h4, h5, h6, k4, k5, k6, ptrV, List.drop_zero, ldV_f, Option.bind_some, Option.map_some, tupV]
theorem rfNil {H H' : AH} (hs : SubH H H') (bb : Bool) (e : Int) : GhV H' (.tuple [.lit (.slice none 0 0), boolV bb, iV e]) H (.tuple [linesV [], boolV bb, iV e]) :=
  GhV.tuple (GhL.cons ((GhV.nil _).trans (GhV.forget hs _)) (GhL.cons (GhV.refl _ _) (GhL.cons (GhV.refl _ _) (GhL.nil _))))
theorem en38 : enterable Try.prog 38 = true := by kernel_rfl
theorem n_makeMap (t : TypeId) (H : AH) (K : VE → AH → Prop) : vcMakeMap Try.prog t H K = allNew H fun r => K (.ret (.lit (.map (some r)))) (H.set r (.map (keysOf Try.prog t) fun _ => none)) := rfl
theorem refute11 (rows : List Row) (most : Int) (h1 : (rows.length : Int) ≤ 9223372036854775806) : PureF Try.prog 11 [rowsV rows, iV most] (refuteX rows most) := by
  refine GivesF.pure fun H => ?_
  unfold GivesF
  refine vcalls_introM fd11 (by simp) ?_
  unfold c11
  by_cases hr : rightF rows = 0
  · have hn := unkN_le hr
    have hu := unkN_eq rows
    by_cases hb : most < 0 ∨ 5000 < most
    · by_cases hb1 : most < 0
      · (repeat' (first | (simp only [↓s_skip, ↓s_reg, ↓s_seq, ↓s_cond, ↓s_condT, ↓s_condF, ↓s_ret, ↓s_nil, ↓s_consN, ↓s_consG, ↓s_guardTF, ↓s_thenN, ↓s_thenR, ↓s_kret, ↓s_putS, ↓s_putN, ↓s_dOkS, ↓s_dOkN, ↓s_ev_t, ↓s_ev_c, ↓s_ev_f, ↓s_upd, ↓s_move, ↓s_assign, ↓s_isBool, ↓s_pickA, ↓s_pick, ↓s_store, ↓s_bin, ↓s_alloc, ↓s_callV, ↓s_callL, ↓s_bin_lss, ↓s_bin_neq, ptrV, List.map_cons, List.map_nil, List.length_cons, List.length_nil, List.getD_cons_zero, List.getD_cons_succ, List.getD_nil, ite_true, ite_false, Nat.reduceEqDiff, Nat.reduceLT, true_and, Nat.succ_ne_self, decide_true, Bool.not_true, reduceCtorEq, callOk, undefV, AH.get, setAt, List.all_cons, List.all_nil, Bool.and_self, eq_self, Nat.zero_add, cl_int, on_int, cl_bool, on_bool, cl_sl, on_sl, List.set_cons_zero, ↓n_alloc, n_allocS, Nat.le_refl, n_stP, n_stA, undef, szT_28, szT_4, szT_25, zeroT_28, zeroT_4, zeroT_25, en_36, *]) | (refine guardL_splitTD ?_ ?_ <;> intro) | (refine guardL_splitFD ?_ ?_ <;> intro) | (refine guardP_splitTD ?_ ?_ <;> intro) | (refine guardP_splitFD ?_ ?_ <;> intro) | (refine condL_splitD ?_ ?_ <;> intro) | (refine guardL_splitT ?_ ?_ <;> intro) | (refine guardL_splitF ?_ ?_ <;> intro) | (refine guardP_splitT ?_ ?_ <;> intro) | (refine guardP_splitF ?_ ?_ <;> intro) | (refine condL_split ?_ ?_ <;> intro) | (refine ret_tmp ?_) | (refine acx_go rfl (fun _ _ _ h => h) ?_) | (refine acx_dreg mixed (fun _ _ _ _ e h => ⟨e.trans h.1, h.2⟩) _ (SubH.refl _) ?_) | (refine And.intro (SubH.new (by assumption)) ?_) | (refine allNew_intro fun zr zh => ?_; have zg := zh; (try simp only [AH.set_none] at zg)) | (exact SubH.refl _) | (refine SubH.of_set ?_ ?_) | assumption | (refine PureF.use (right36 _ h1) ?_) | (refine PureF.use (unknowns37 _ h1) ?_) | (with_reducible refine And.intro ?_ ?_)))
        rw [refuteX_of (p := ([], false, 4)) (by simp [refuteF, *])]
        exact rfLeave (by simp only [s_upd, Nat.reduceEqDiff, if_true, if_false, *] <;> rfl) (by simp only [s_upd, Nat.reduceEqDiff, if_true, if_false, *] <;> rfl) (by simp only [s_upd, Nat.reduceEqDiff, if_true, if_false, *] <;> rfl) (by simp only [AH.get, *, if_true, if_false] <;> rfl) (by simp only [AH.get, *, if_true, if_false] <;> rfl) (by simp only [AH.get, *, if_true, if_false] <;> rfl) ⟨_, _, _, rfl⟩ (rfNil (by repeat (first | assumption | exact SubH.refl _ | refine SubH.of_set ?_ (by simp only [*]))) _ _)
      · have hb2 : 5000 < most := by omega
        (repeat' (first | (simp only [↓s_skip, ↓s_reg, ↓s_seq, ↓s_cond, ↓s_condT, ↓s_condF, ↓s_ret, ↓s_nil, ↓s_consN, ↓s_consG, ↓s_guardFF, ↓s_thenN, ↓s_thenR, ↓s_kret, ↓s_putS, ↓s_putN, ↓s_dOkS, ↓s_dOkN, ↓s_ev_t, ↓s_ev_c, ↓s_ev_f, ↓s_upd, ↓s_move, ↓s_assign, ↓s_isBool, ↓s_pickA, ↓s_pick, ↓s_store, ↓s_bin, ↓s_alloc, ↓s_callV, ↓s_callL, ↓s_bin_lss, ↓s_bin_gtr, ↓s_bin_neq, ptrV, List.map_cons, List.map_nil, List.length_cons, List.length_nil, List.getD_cons_zero, List.getD_cons_succ, List.getD_nil, ite_true, ite_false, Nat.reduceEqDiff, Nat.reduceLT, true_and, Bool.false_eq_true, Nat.succ_ne_self, decide_true, decide_false, Bool.not_true, reduceCtorEq, undefV, AH.get, setAt, List.all_cons, List.all_nil, Bool.and_self, eq_self, Nat.zero_add, cl_int, on_int, cl_bool, on_bool, cl_sl, on_sl, List.set_cons_zero, ↓n_alloc, n_allocS, Nat.le_refl, n_stP, n_stA, undef, szT_28, szT_4, szT_25, zeroT_28, zeroT_4, zeroT_25, en_36, *]) | (refine guardL_splitTD ?_ ?_ <;> intro) | (refine guardL_splitFD ?_ ?_ <;> intro) | (refine guardP_splitTD ?_ ?_ <;> intro) | (refine guardP_splitFD ?_ ?_ <;> intro) | (refine condL_splitD ?_ ?_ <;> intro) | (refine guardL_splitT ?_ ?_ <;> intro) | (refine guardL_splitF ?_ ?_ <;> intro) | (refine guardP_splitT ?_ ?_ <;> intro) | (refine guardP_splitF ?_ ?_ <;> intro) | (refine condL_split ?_ ?_ <;> intro) | (refine ret_tmp ?_) | (refine acx_go rfl (fun _ _ _ h => h) ?_) | (refine acx_dreg mixed (fun _ _ _ _ e h => ⟨e.trans h.1, h.2⟩) _ (SubH.refl _) ?_) | (refine And.intro (SubH.new (by assumption)) ?_) | (refine allNew_intro fun zr zh => ?_; have zg := zh; (try simp only [AH.set_none] at zg)) | (exact SubH.refl _) | (refine SubH.of_set ?_ ?_) | assumption | (refine PureF.use (right36 _ h1) ?_) | (refine PureF.use (unknowns37 _ h1) ?_) | (with_reducible refine And.intro ?_ ?_)))
        rw [refuteX_of (p := ([], false, 4)) (by simp [refuteF, *])]
        exact rfLeave (by simp only [s_upd, Nat.reduceEqDiff, if_true, if_false, *] <;> rfl) (by simp only [s_upd, Nat.reduceEqDiff, if_true, if_false, *] <;> rfl) (by simp only [s_upd, Nat.reduceEqDiff, if_true, if_false, *] <;> rfl) (by simp only [AH.get, *, if_true, if_false] <;> rfl) (by simp only [AH.get, *, if_true, if_false] <;> rfl) (by simp only [AH.get, *, if_true, if_false] <;> rfl) ⟨_, _, _, rfl⟩ (rfNil (by repeat (first | assumption | exact SubH.refl _ | refine SubH.of_set ?_ (by simp only [*]))) _ _)
    · have hb1 : ¬ most < 0 := by omega
      have hb2 : ¬ 5000 < most := by omega
      (repeat' (first | (simp only [↓s_skip, ↓s_reg, ↓s_seq, ↓s_cond, ↓s_condF, ↓s_nil, ↓s_consN, ↓s_consG, ↓s_guardFF, ↓s_thenN, ↓s_kret, ↓s_putS, ↓s_putN, ↓s_dOkS, ↓s_dOkN, ↓s_ev_t, ↓s_ev_c, ↓s_ev_f, ↓s_upd, ↓s_move, ↓s_assign, ↓s_isBool, ↓s_pickA, ↓s_pick, ↓s_store, ↓s_bin, ↓s_alloc, ↓s_box, ↓s_build, ↓s_makeFunc, ↓s_makeMap, ↓s_callV, ↓s_defer, ↓s_callL, ↓s_bin_lss, ↓s_bin_gtr, ↓s_bin_neq, ptrV, List.map_cons, List.map_nil, List.length_cons, List.length_nil, List.getD_cons_zero, List.getD_cons_succ, List.getD_nil, ite_true, ite_false, Nat.reduceEqDiff, Nat.reduceLT, Nat.reduceAdd, Nat.reduceLeDiff, true_and, Bool.false_eq_true, Nat.succ_ne_self, decide_true, decide_false, Bool.not_true, reduceCtorEq, undefV, AH.get, AH.set_set, vcBuild, fillV, setAt, List.all_cons, List.all_nil, Bool.and_self, eq_self, Nat.zero_add, and_self, List.getElem?_cons_zero, List.getElem?_cons_succ, cl_int, cl_ptr, on_ptr, cl_map, cl_agg, cl_slice, List.set_cons_zero, List.set_cons_succ, ↓n_alloc, n_allocS, ↓n_box, Nat.le_refl, n_stP, n_stA, undef, n_makeMap, zeroT_28, szT_71, zeroT_4, zeroT_25, stT_74, stT_77, zeroT_71, en_36, en_37, *]) | (refine guardL_splitTD ?_ ?_ <;> intro) | (refine guardL_splitFD ?_ ?_ <;> intro) | (refine guardP_splitTD ?_ ?_ <;> intro) | (refine guardP_splitFD ?_ ?_ <;> intro) | (refine condL_splitD ?_ ?_ <;> intro) | (refine guardL_splitT ?_ ?_ <;> intro) | (refine guardL_splitF ?_ ?_ <;> intro) | (refine guardP_splitT ?_ ?_ <;> intro) | (refine guardP_splitF ?_ ?_ <;> intro) | (refine condL_split ?_ ?_ <;> intro) | (refine ret_tmp ?_) | (refine acx_go rfl (fun _ _ _ h => h) ?_) | (refine acx_dreg mixed (fun _ _ _ _ e h => ⟨e.trans h.1, h.2⟩) _ (SubH.refl _) ?_) | (refine And.intro (SubH.new (by assumption)) ?_) | (refine allNew_intro fun zr zh => ?_; have zg := zh; (try simp only [AH.set_none] at zg)) | (exact SubH.refl _) | (refine SubH.of_set ?_ ?_) | assumption | (refine PureF.use (right36 _ h1) ?_) | (refine PureF.use (unknowns37 _ h1) ?_) | (with_reducible refine And.intro ?_ ?_)))
      rename_i r4 zh4 zg4 r5 zh5 zg5 r6 zh6 zg6 mp zhm zgm s zhs zgs
      revert zr
      intro r8 zh8 zg8
      obtain ⟨H6, hH6⟩ : ∃ H6, H6 = ((H.set r4 (.cells 28 [.lit (.slice none 0 0)] 0)).set r5 (.cells 4 [VV.lit (Value.bool false)] 0)).set r6 (.cells 25 [VV.lit (Value.int IntKind.i64 0)] 0) := ⟨_, rfl⟩
      have a4 : H6 r4 = some (.cells 28 [.lit (.slice none 0 0)] 0) := by rw [hH6]; exact (by simp only [AH.get, *, if_true, if_false] <;> rfl)
      have a5 : H6 r5 = some (.cells 4 [boolV false] 0) := by rw [hH6]; exact (by simp only [AH.get, *, if_true, if_false] <;> rfl)
      have a6 : H6 r6 = some (.cells 25 [iV 0] 0) := by rw [hH6]; exact (by simp only [AH.get, *, if_true, if_false] <;> rfl)
      have hs6 : SubH H H6 := by rw [hH6]; exact (by repeat (first | assumption | exact SubH.refl _ | refine SubH.of_set ?_ (by simp only [*])))
      have em : H6 mp = none := by rw [hH6]; exact zhm
      have es : H6 s = none := by rw [hH6]; simp only [AH.set_none]; exact zgs.2
      have e8 : H6 r8 = none := by rw [hH6]; simp only [AH.set_none]; exact zg8.2.2
      have ds : ¬ s = mp ∧ ¬ mp = s := zgs.1
      have d8s : ¬ r8 = s ∧ ¬ s = r8 := zg8.1
      have d8m : ¬ r8 = mp ∧ ¬ mp = r8 := zg8.2.1
      have h4n : H r4 = none := zg4
      have h5n : H r5 = none := zg5.2
      have h6n : H r6 = none := zg6.2.2
      have d54 : ¬ r5 = r4 ∧ ¬ r4 = r5 := zg5.1
      have d65 : ¬ r6 = r5 ∧ ¬ r5 = r6 := zg6.1
      have d64 : ¬ r6 = r4 ∧ ¬ r4 = r6 := zg6.2.1
      refine ⟨rfl, ?_⟩
      show vcL _ [] _ ⟨_, [{ target := .fn (.func 38) #[.pointer (some ⟨r8, 0, none⟩), .pointer (some ⟨r4, 0, none⟩), .pointer (some ⟨r5, 0, none⟩), .pointer (some ⟨r6, 0, none⟩)], args := #[] }]⟩ _
      rw [← hH6]
      clear hH6 zhm zgm zhs zgs zh8 zg8 zh4 zg4 zh5 zg5 zh6 zg6
      have hrr := rightF_ok hr
      have hst : RefS (H6.set r8 (.cells 71 [ptrV s 0] 0)) (((H6.set mp (.map (keysOf Try.prog 75) fun _ => none)).set s (.cells 77 [rowsV rows, iV (unkN rows), .lit (.slice none 0 0), .lit (.slice none 0 0), iV most, .lit (.map (some mp))] 0)).set r8 (.cells 71 [ptrV s 0] 0)) s mp rows (unkN rows) most ⟨[], [], []⟩ := by
        refine ⟨.lit (.slice none 0 0), .lit (.slice none 0 0), _, _, ?_, ?_, ds.1, ?_, ?_, ?_, .inl ⟨rfl, rfl, rfl, rfl⟩, .inl ⟨rfl, rfl, rfl, rfl⟩⟩
        · rw [AH.get, if_neg d8s.2]; exact es
        · rw [AH.get, if_neg d8m.2]; exact em
        · exact SubH.set (SubH.of_set (SubH.new em) es) _ _
        · rw [AH.get, if_neg d8s.2, AH.set_same]
        · rw [AH.get, if_neg d8m.2, AH.get, if_neg ds.2, AH.set_same]; rfl
      have B8 : (H6.set r8 (.cells 71 [ptrV s 0] 0)) r8 = some (.cells 71 [ptrV s 0] 0) := AH.set_same _ _ _
      have ne8 : ∀ {i b}, H6 i = some b → ¬ i = r8 := fun h => (AH.ne_of h e8).1
      have B4 : (H6.set r8 (.cells 71 [ptrV s 0] 0)) r4 = some (.cells 28 [.lit (.slice none 0 0)] 0) := by rw [AH.get, if_neg (ne8 a4)]; exact a4
      have B5 : (H6.set r8 (.cells 71 [ptrV s 0] 0)) r5 = some (.cells 4 [boolV false] 0) := by rw [AH.get, if_neg (ne8 a5)]; exact a5
      have B6 : (H6.set r8 (.cells 71 [ptrV s 0] 0)) r6 = some (.cells 25 [iV 0] 0) := by rw [AH.get, if_neg (ne8 a6)]; exact a6
      have hsB : SubH H (H6.set r8 (.cells 71 [ptrV s 0] 0)) := hs6.of_set (hs6.none e8)
      generalize (H6.set r8 (.cells 71 [ptrV s 0] 0)) = B at hst B8 B4 B5 B6 hsB
      have hrl : (rows.length : Int) ≤ 1000000 := by have := hrr.1; omega
      (repeat' (first | (refine search40 (B := B) (mp := mp) (rows := rows) (n := unkN rows) (most := most) hst (by omega) (by omega) (fun r h => len_unkN h) (by omega) hrl ?_) | (simp only [↓s_reg, ↓s_seq, ↓s_nil, ↓s_consN, ↓s_thenN, ↓s_kret, ↓s_putS, ↓s_dOkS, ↓s_ev_t, ↓s_ev_f, ↓s_upd, ↓s_load, ↓s_callV, ↓s_callL, List.map_cons, List.map_nil, List.getD_cons_succ, List.getD_nil, ite_true, ite_false, Nat.reduceEqDiff, Nat.reduceLT, true_and, Nat.succ_ne_self, AH.get, eq_self, List.drop, ldV_f, n_ldP, n_ldA, n_ldB, ldT_71, en_40, *]) | (refine guardL_splitTD ?_ ?_ <;> intro) | (refine guardL_splitFD ?_ ?_ <;> intro) | (refine guardP_splitTD ?_ ?_ <;> intro) | (refine guardP_splitFD ?_ ?_ <;> intro) | (refine condL_splitD ?_ ?_ <;> intro) | (refine guardL_splitT ?_ ?_ <;> intro) | (refine guardL_splitF ?_ ?_ <;> intro) | (refine guardP_splitT ?_ ?_ <;> intro) | (refine guardP_splitF ?_ ?_ <;> intro) | (refine condL_split ?_ ?_ <;> intro) | (refine ret_tmp ?_) | (refine acx_go rfl (fun _ _ _ h => h) ?_) | (refine acx_dreg mixed (fun _ _ _ _ e h => ⟨e.trans h.1, h.2⟩) _ (SubH.refl _) ?_) | (refine And.intro (SubH.new (by assumption)) ?_) | (refine allNew_intro fun zr zh => ?_; have zg := zh; (try simp only [AH.set_none] at zg)) | (exact SubH.refl _) | (refine SubH.of_set ?_ ?_) | assumption | (with_reducible refine And.intro ?_ ?_)))
      have hg := search_good (rows := rows) (n := unkN rows) (most := most) (by omega)
      have hF : refuteF rows most = match searchS rows (unkN rows) most with
          | .ok _ => ([], false, 0)
          | .error (.found, st) => (neededF st.ls, true, 0)
          | .error (.stop c, _) => ([], false, c) := by unfold refuteF; rw [if_pos hr, if_neg hb]
      have hen : enterable Try.prog 38 = true := en38
      cases e : searchS rows (unkN rows) most with
      | error p =>
        obtain ⟨o, st⟩ := p
        rw [e] at hg hF
        intro H' h'
        cases o with
        | stop c =>
          rw [refuteX_of (p := ([], false, c)) hF]
          refine ⟨by simp, hen, [ptrV r8 0, ptrV r4 0, ptrV r5 0, ptrV r6 0], H', GhL.cons (GhV.refl _ _) (GhL.cons (GhV.refl _ _) (GhL.cons (GhV.refl _ _) (GhL.cons (GhV.refl _ _) (GhL.nil _)))), ?_⟩
          refine def38_stop (h'.sub _ _ B4) (h'.sub _ _ B5) (h'.sub _ _ B6) d54.2 d64.2 d65.2 d54.1 d64.1 d65.1 (fun u H2 h2 => ?_)
          refine rfLeave (r4 := r4) (r5 := r5) (r6 := r6) (v := .lit (.slice none 0 0)) (by simp only [s_upd, Nat.reduceEqDiff, if_true, if_false, *] <;> rfl) (by simp only [s_upd, Nat.reduceEqDiff, if_true, if_false, *] <;> rfl) (by simp only [s_upd, Nat.reduceEqDiff, if_true, if_false, *] <;> rfl) (h2 _ _ (by simp only [AH.get, *, if_true, if_false] <;> rfl)) (h2 _ _ (by simp only [AH.get, *, if_true, if_false] <;> rfl)) (h2 _ _ (by simp only [AH.get, *, if_true, if_false] <;> rfl)) ⟨_, _, _, rfl⟩ (rfNil (SubH.trans ?_ h2) _ _)
          exact SubH.of_set (SubH.of_set (SubH.of_set (hsB.trans h'.sub) h4n) h5n) h6n
        | found =>
          obtain ⟨hgd, ms, r, hms, hab⟩ := hg
          rw [refuteX_of (p := (neededF st.ls, true, 0)) hF]
          refine ⟨by simp, hen, [ptrV r8 0, ptrV r4 0, ptrV r5 0, ptrV r6 0], H', GhL.cons (GhV.refl _ _) (GhL.cons (GhV.refl _ _) (GhL.cons (GhV.refl _ _) (GhL.cons (GhV.refl _ _) (GhL.nil _)))), ?_⟩
          have hne : st.ls ≠ [] := fun e0 => by have := hgd.len; rw [e0, hms] at this; simp at this
          refine def38_found h' hgd hne (by omega) B8 B4 B5 B6 d54.2 d64.2 d65.2 d54.1 d64.1 d65.1 (fun u v Hc H2 ho2 hsc => ?_)
          have h2 := hsc.trans ho2.sub
          obtain ⟨xa, xc, hv⟩ := ho2.form
          refine rfLeave (r4 := r4) (r5 := r5) (r6 := r6) (v := v) (by simp only [s_upd, Nat.reduceEqDiff, if_true, if_false, *] <;> rfl) (by simp only [s_upd, Nat.reduceEqDiff, if_true, if_false, *] <;> rfl) (by simp only [s_upd, Nat.reduceEqDiff, if_true, if_false, *] <;> rfl) (h2 _ _ (by simp only [AH.get, *, if_true, if_false] <;> rfl)) (h2 _ _ (by simp only [AH.get, *, if_true, if_false] <;> rfl)) (h2 _ _ (by simp only [AH.get, *, if_true, if_false] <;> rfl)) ⟨_, _, _, hv⟩ ?_
          refine GhV.tuple (GhL.cons (GhV.back ho2 (SubH.trans ?_ hsc)) (GhL.cons (GhV.refl _ _) (GhL.cons (GhV.refl _ _) (GhL.nil _))))
          exact SubH.of_set (SubH.of_set (SubH.of_set (hsB.trans h'.sub) h4n) h5n) h6n
      | ok st =>
        rw [e] at hF
        intro H' u h'
        have c4 := h'.sub _ _ B4
        have c5 := h'.sub _ _ B5
        have c6 := h'.sub _ _ B6
        rw [refuteX_of (p := ([], false, 0)) hF]
        clear hF e hg
        have hsH := hsB.trans h'.sub
        (repeat' (first | (simp only [↓s_reg, ↓s_seq, ↓s_ret, ↓s_nil, ↓s_consN, ↓s_thenN, ↓s_kret, ↓s_putS, ↓s_putN, ↓s_dOkN, ↓s_ev_t, ↓s_ev_c, ↓s_upd, ↓s_store, boolV, List.length_cons, List.length_nil, List.getD_cons_succ, List.getD_nil, ite_true, ite_false, Nat.reduceEqDiff, true_and, Nat.succ_ne_self, AH.get, setAt, List.all_cons, List.all_nil, Bool.and_self, eq_self, Nat.zero_add, cl_int, on_int, cl_bool, on_bool, cl_sl, on_sl, List.set_cons_zero, Nat.le_refl, n_stP, n_stA, szT_28, szT_4, szT_25, *]) | (refine guardL_splitTD ?_ ?_ <;> intro) | (refine guardL_splitFD ?_ ?_ <;> intro) | (refine guardP_splitTD ?_ ?_ <;> intro) | (refine guardP_splitFD ?_ ?_ <;> intro) | (refine condL_splitD ?_ ?_ <;> intro) | (refine guardL_splitT ?_ ?_ <;> intro) | (refine guardL_splitF ?_ ?_ <;> intro) | (refine guardP_splitT ?_ ?_ <;> intro) | (refine guardP_splitF ?_ ?_ <;> intro) | (refine condL_split ?_ ?_ <;> intro) | (refine ret_tmp ?_) | (refine acx_go rfl (fun _ _ _ h => h) ?_) | (refine acx_dreg mixed (fun _ _ _ _ e h => ⟨e.trans h.1, h.2⟩) _ (SubH.refl _) ?_) | (refine And.intro (SubH.new (by assumption)) ?_) | (refine allNew_intro fun zr zh => ?_; have zg := zh; (try simp only [AH.set_none] at zg)) | (exact SubH.refl _) | (refine SubH.of_set ?_ ?_) | assumption | (with_reducible refine And.intro ?_ ?_)))
        refine ⟨by simp, hen, [ptrV r8 0, ptrV r4 0, ptrV r5 0, ptrV r6 0], _, GhL.cons (GhV.refl _ _) (GhL.cons (GhV.refl _ _) (GhL.cons (GhV.refl _ _) (GhL.cons (GhV.refl _ _) (GhL.nil _)))), ?_⟩
        refine def38_nil (by simp) (fun u => ?_)
        exact rfLeave (r4 := r4) (r5 := r5) (r6 := r6) (by simp only [s_upd, Nat.reduceEqDiff, if_true, if_false, *] <;> rfl) (by simp only [s_upd, Nat.reduceEqDiff, if_true, if_false, *] <;> rfl) (by simp only [s_upd, Nat.reduceEqDiff, if_true, if_false, *] <;> rfl) (by simp only [AH.get, *, if_true, if_false] <;> rfl) (by simp only [AH.get, *, if_true, if_false] <;> rfl) (by simp only [AH.get, *, if_true, if_false] <;> rfl) ⟨_, _, _, rfl⟩ (rfNil (SubH.of_set (SubH.of_set (SubH.of_set hsH h4n) h5n) h6n) _ _)
  · (repeat' (first | (simp only [↓s_reg, ↓s_seq, ↓s_cond, ↓s_condT, ↓s_ret, ↓s_nil, ↓s_consN, ↓s_thenN, ↓s_thenR, ↓s_kret, ↓s_putS, ↓s_putN, ↓s_dOkS, ↓s_dOkN, ↓s_ev_t, ↓s_ev_c, ↓s_ev_f, ↓s_upd, ↓s_move, ↓s_assign, ↓s_store, ↓s_bin, ↓s_alloc, ↓s_callV, ↓s_callL, ↓s_bin_neq, ptrV, List.map_cons, List.map_nil, List.length_cons, List.length_nil, List.getD_cons_zero, List.getD_cons_succ, List.getD_nil, ite_true, ite_false, Nat.reduceEqDiff, Nat.reduceLT, true_and, Nat.succ_ne_self, decide_false, Bool.not_false, reduceCtorEq, undefV, AH.get, setAt, List.all_cons, List.all_nil, Bool.and_self, eq_self, Nat.zero_add, cl_int, on_int, cl_bool, on_bool, cl_sl, on_sl, List.set_cons_zero, ↓n_alloc, n_allocS, Nat.le_refl, n_stP, n_stA, undef, szT_28, szT_4, szT_25, zeroT_28, zeroT_4, zeroT_25, en_36, *]) | (refine guardL_splitTD ?_ ?_ <;> intro) | (refine guardL_splitFD ?_ ?_ <;> intro) | (refine guardP_splitTD ?_ ?_ <;> intro) | (refine guardP_splitFD ?_ ?_ <;> intro) | (refine condL_splitD ?_ ?_ <;> intro) | (refine guardL_splitT ?_ ?_ <;> intro) | (refine guardL_splitF ?_ ?_ <;> intro) | (refine guardP_splitT ?_ ?_ <;> intro) | (refine guardP_splitF ?_ ?_ <;> intro) | (refine condL_split ?_ ?_ <;> intro) | (refine ret_tmp ?_) | (refine acx_go rfl (fun _ _ _ h => h) ?_) | (refine acx_dreg mixed (fun _ _ _ _ e h => ⟨e.trans h.1, h.2⟩) _ (SubH.refl _) ?_) | (refine And.intro (SubH.new (by assumption)) ?_) | (refine allNew_intro fun zr zh => ?_; have zg := zh; (try simp only [AH.set_none] at zg)) | (exact SubH.refl _) | (refine SubH.of_set ?_ ?_) | assumption | (refine PureF.use (right36 _ h1) ?_) | (with_reducible refine And.intro ?_ ?_)))
    rw [refuteX_of (p := ([], false, rightF rows)) (by simp [refuteF, *])]
    exact rfLeave (by simp only [s_upd, Nat.reduceEqDiff, if_true, if_false, *] <;> rfl) (by simp only [s_upd, Nat.reduceEqDiff, if_true, if_false, *] <;> rfl) (by simp only [s_upd, Nat.reduceEqDiff, if_true, if_false, *] <;> rfl) (by simp only [AH.get, *, if_true, if_false] <;> rfl) (by simp only [AH.get, *, if_true, if_false] <;> rfl) (by simp only [AH.get, *, if_true, if_false] <;> rfl) ⟨_, _, _, rfl⟩ (rfNil (by repeat (first | assumption | exact SubH.refl _ | refine SubH.of_set ?_ (by simp only [*]))) _ _)
end Go.PV.Ytefpjfpelicedaa
end
section
/- The chapter's example. -/
set_option linter.unusedVariables false
set_option linter.unusedSimpArgs false
set_option maxRecDepth 20000
set_option maxHeartbeats 4000000
namespace Go.PV
/-- What is represented by one is by the other. -/
def Weak (x y : VV) : Prop := ∀ S w u, Rv S w x u → Rv S w y u
def WeakC : List VV → List VV → Prop
  | _, [] => True
  | x :: xs, y :: ys => Weak x y ∧ WeakC xs ys
  | [], _ :: _ => False
def WeakL : List VV → List VV → Prop
  | [], [] => True
  | x :: xs, y :: ys => Weak x y ∧ WeakL xs ys
  | _, _ => False
theorem Weak.refl (x : VV) : Weak x x := fun _ _ _ h => h
theorem WeakC.rv : ∀ {xs ys : List VV}, WeakC xs ys → ∀ {S : Nat → Prop} {w : World} {r o : Nat}, RvC S w xs r o → RvC S w ys r o
  | _, [], _, _, _, _, _, _ => trivial
  | x :: xs, y :: ys, h, S, w, r, o, hr => by
    obtain ⟨⟨u, h1, h2⟩, h3⟩ := hr
    exact ⟨⟨u, h1, h.1 _ _ _ h2⟩, h.2.rv h3⟩
theorem WeakL.rv : ∀ {xs ys : List VV}, WeakL xs ys → ∀ {S : Nat → Prop} {w : World} {us : List Value}, RvL S w xs us → RvL S w ys us
  | [], [], _, _, _, _, h => h
  | x :: xs, y :: ys, h, S, w, us, hr => by
    obtain ⟨u, us', rfl, h2, h3⟩ := hr
    exact ⟨u, us', rfl, h.1 _ _ _ h2, h.2.rv h3⟩
theorem Weak.slice {ex : Bool} {n : Nat} {cs ds : List VV} (h : WeakC cs ds) : Weak (.slice ex n cs) (.slice false n ds) := fun S w u hu => by
  obtain ⟨a, cap, rfl, ⟨h1, _⟩, h3⟩ := hu
  refine ⟨a, cap, rfl, ⟨h1, fun e => by cases e⟩, fun hn => ?_⟩
  obtain ⟨r, o, e, hs, hc⟩ := h3 hn
  exact ⟨r, o, e, hs, h.rv hc⟩
theorem WeakC.refl : ∀ (l : List VV), WeakC l l
  | [] => trivial
  | x :: l => ⟨.refl x, WeakC.refl l⟩
theorem PureF.weak {P : Program} {f : FuncId} {xs ys : List VV} {x : VV} (h : PureF P f xs x) (hw : WeakL ys xs) : PureF P f ys x := fun H S w args hs hx => h H S w args hs (hw.rv hx)
end Go.PV
namespace Go.PV.Ytefpjfpelicedaa
open Go Go.Proofs
def rows0 : List Row := [⟨[1, 1], 1⟩, ⟨[-1], -2⟩]
def lines0 : List Line := [⟨1, 0, 0, 0, 0⟩, ⟨1, 1, 0, 0, 0⟩, ⟨2, 1, 0, 0, 0⟩, ⟨3, 0, 1, 1, 1⟩, ⟨3, 3, 2, 1, 1⟩]
def made0 : List Row := [⟨[1, 1], 1⟩, ⟨[-1, 0], -2⟩, ⟨[0, -1], 0⟩, ⟨[0, 1], -1⟩, ⟨[0, 0], -1⟩]
theorem derive0 : deriveF rows0 lines0 = (made0, 0) := by kernel_rfl
def cert0 : List Line := (refuteF rows0 100).1
theorem refute0 : refuteF rows0 100 = (cert0, true, 0) := by kernel_rfl
theorem check0 : checkF rows0 lines0 = 0 := by kernel_rfl
theorem check1 : checkF rows0 cert0 = 0 := by kernel_rfl
theorem cert0_len : cert0.length = 5 := by kernel_rfl
abbrev rv0 : VV := .slice true 2 [.slice true 2 [iV 1, iV 1], iV 1, .slice true 1 [iV (-1)], iV (-2)]
abbrev lv0 : VV := .slice true 5 [iV 1, iV 0, iV 0, iV 0, iV 0, iV 1, iV 1, iV 0, iV 0, iV 0, iV 2, iV 1, iV 0, iV 0, iV 0, iV 3, iV 0, iV 1, iV 1, iV 1, iV 3, iV 3, iV 2, iV 1, iV 1]
theorem weakR : Weak rv0 (rowsV rows0) := Weak.slice (ds := encC rowE rows0) ⟨Weak.slice (WeakC.refl _), Weak.refl _, Weak.slice (WeakC.refl _), Weak.refl _, trivial⟩
theorem weakV : Weak lv0 (linesV lines0) := Weak.slice (ds := encC lineE lines0) (WeakC.refl _)
theorem weakR1 : Weak (.slice false 1 [.slice true 2 [iV 1, iV 1], iV 1, .slice true 1 [iV (-1)], iV (-2)]) (rowsV [⟨[1, 1], 1⟩]) := Weak.slice (ds := encC rowE [⟨[1, 1], 1⟩]) ⟨Weak.slice (WeakC.refl _), Weak.refl _, trivial⟩
theorem point0 : pointF [⟨[1, 1], 1⟩] 3 = ([0, 0], true, 0) := by kernel_rfl
theorem made0_drop : (encC rowE made0).drop 8 = [intsV [0, 0], iV (-1)] := rfl
theorem awake8 : PureF Try.prog 8 [] (boolV true) := by
  have hD : PureF Try.prog 22 [rv0, lv0] (.tuple [rowsV made0, iV 0]) := by
    have := (derive22 rows0 lines0 (by decide) (by decide)).weak (ys := [rv0, lv0]) ⟨weakR, weakV, trivial⟩
    rw [derive0] at this; exact this
  have hR : PureF Try.prog 11 [rv0, iV 100] (.tuple [linesV cert0, boolV true, iV 0]) := by
    have := (refute11 rows0 100 (by decide)).weak (ys := [rv0, iV 100]) ⟨weakR, .refl _, trivial⟩
    rw [refuteX_of refute0] at this; exact this
  have hC : PureF Try.prog 13 [rv0, lv0] (iV 0) := by
    have := (check13 rows0 lines0 (by decide) (by decide)).weak (ys := [rv0, lv0]) ⟨weakR, weakV, trivial⟩
    rw [check0] at this; exact this
  have hC1 : PureF Try.prog 13 [rv0, linesV cert0] (iV 0) := by
    have := (check13 rows0 cert0 (by decide) (by rw [cert0_len]; decide)).weak (ys := [rv0, linesV cert0]) ⟨weakR, .refl _, trivial⟩
    rw [check1] at this; exact this
  have hP : PureF Try.prog 31 [.slice false 1 [.slice true 2 [iV 1, iV 1], iV 1, .slice true 1 [iV (-1)], iV (-2)], iV 3] (.tuple [intsV [0, 0], boolV true, iV 0]) := by
    have := (point31 [⟨[1, 1], 1⟩] 3 (by decide)).weak (ys := [.slice false 1 [.slice true 2 [iV 1, iV 1], iV 1, .slice true 1 [iV (-1)], iV (-2)], iV 3]) ⟨weakR1, .refl _, trivial⟩
    rw [pointX_of point0] at this; exact this
  have hE : PureF Try.prog 32 [intsV [0, 0], .slice true 2 [iV 0, iV 0]] (boolV true) :=
    (equal32 [0, 0] [0, 0] (by decide)).weak (ys := [intsV [0, 0], .slice true 2 [iV 0, iV 0]]) ⟨.refl _, Weak.slice (ds := encC intE [0, 0]) (WeakC.refl _), trivial⟩
  have hml : made0.length = 5 := rfl
  refine PureF.forget fun H => ?_
  refine vcalls_intro fd8 (by simp) ?_
  unfold c8
  (repeat' (first | (simp only [↓s_reg, ↓s_seq, ↓s_ret, ↓s_nil, ↓s_consN, ↓s_consG, ↓s_guardTT, ↓s_guardFT, ↓s_thenN, ↓s_kret, ↓s_putS, ↓s_dOkS, ↓s_ev_t, ↓s_ev_c, ↓s_ev_f, ↓s_upd, ↓s_move, ↓s_assign, ↓s_isBool, ↓s_pickA, ↓s_pick, ↓s_load, ↓s_bin, ↓s_build, ↓s_buildSlice, ↓s_slice, ↓s_fieldAddr, ↓s_indexAddr, ↓s_extract, ↓s_callB, ↓s_callV, ↓s_callL, ↓s_len, ↓s_bin_eql, vcExtract, intV, boolV, List.map_cons, List.map_nil, List.length_cons, List.length_nil, List.getD_nil, List.cons_append, List.nil_append, List.append_nil, ite_true, ite_false, Nat.reduceEqDiff, Nat.reduceLT, Nat.reduceAdd, Nat.reduceMul, Nat.reduceSub, Nat.reduceLeDiff, ne_eq, not_false_eq_true, not_true_eq_false, true_and, and_true, List.drop_zero, Bool.false_eq_true, Nat.zero_ne_one, Nat.succ_ne_self, decide_true, decide_false, Bool.true_and, reduceCtorEq, Nat.mul_one, callOk, undefV, vcBuild, fillV, setAt, eq_self, Nat.zero_add, List.drop, and_self, List.getElem?_cons_zero, List.getElem?_cons_succ, ldV_f, cl_int, cl_agg, cl_slice, List.set_cons_zero, List.set_cons_succ, Nat.le_refl, n_ldI, n_faI, n_ixS, n_ixA1, n_lenS, n_ldC, n_ldB, n_faA, undef, Int.reduceLT, Int.reduceLE, Int.reduceNeg, vcBuildSlice, List.replicate_succ, List.replicate_zero, List.flatten_cons, List.flatten_nil, vcSlice, Option.map_none, Option.map_some, sliceOk, idxV, idxOk, made0_drop, Int.reduceToNat, flT_50_1, ldT_3, zeroT_50, stT_50, zeroT_52, stT_52, elT_37, zeroT_3, elT_31, elT_28, en_22, en_11, en_31, en_13, en_32, *]) | (refine guardL_splitTD ?_ ?_ <;> intro) | (refine guardL_splitFD ?_ ?_ <;> intro) | (refine guardP_splitTD ?_ ?_ <;> intro) | (refine guardP_splitFD ?_ ?_ <;> intro) | (refine condL_splitD ?_ ?_ <;> intro) | (refine guardL_splitT ?_ ?_ <;> intro) | (refine guardL_splitF ?_ ?_ <;> intro) | (refine guardP_splitT ?_ ?_ <;> intro) | (refine guardP_splitF ?_ ?_ <;> intro) | (refine condL_split ?_ ?_ <;> intro) | (refine ret_tmp ?_) | (refine acx_go rfl (fun _ _ _ h => h) ?_) | (refine acx_dreg mixed (fun _ _ _ _ e h => ⟨e.trans h.1, h.2⟩) _ (SubH.refl _) ?_) | (refine And.intro (SubH.new (by assumption)) ?_) | (refine allNew_intro fun zr zh => ?_; have zg := zh; (try simp only [AH.set_none] at zg)) | (exact SubH.refl _) | (refine SubH.of_set ?_ ?_) | assumption | (refine PureF.use (hD) ?_) | (refine PureF.use (hR) ?_) | (refine PureF.use (hC) ?_) | (refine PureF.use (hC1) ?_) | (refine PureF.use (hP) ?_) | (refine PureF.use (hE) ?_) | (with_reducible refine And.intro ?_ ?_)))
  · exact fun _ => trivial
  · exact absurd rfl (by assumption : ¬ ((5 : Nat) : Int) = 5)
end Go.PV.Ytefpjfpelicedaa
end
section
/- The law on what numbers fulfil: what its program computes. -/
set_option linter.unusedVariables false
set_option linter.unusedSimpArgs false
set_option maxRecDepth 20000
set_option maxHeartbeats 4000000
namespace Go.PV.Ytefpjfpelicedaa
open Go Go.Proofs
theorem clone25b (l : List Int) (hn : (l.length : Int) ≤ 17592186044416) : PureF Try.prog 25 [intsV l] (intsV l) := by
  refine GivesF.pure fun H => ?_
  refine vcalls_intro fd25 (by simp) ?_
  unfold c25
  (repeat' (first | (simp only [↓s_reg, ↓s_seq, ↓s_nil, ↓s_consN, ↓s_thenN, ↓s_putS, ↓s_dOkS, ↓s_ev_t, ↓s_ev_c, ↓s_upd, ↓s_move, ↓s_assign, ↓s_bin, List.getD_cons_zero, List.getD_cons_succ, List.getD_nil, ite_true, ite_false, Nat.reduceLT, true_and, Nat.succ_ne_self, reduceCtorEq, undefV, eq_self, undef, *]) | (refine guardL_splitTD ?_ ?_ <;> intro) | (refine guardL_splitFD ?_ ?_ <;> intro) | (refine guardP_splitTD ?_ ?_ <;> intro) | (refine guardP_splitFD ?_ ?_ <;> intro) | (refine condL_splitD ?_ ?_ <;> intro) | (refine guardL_splitT ?_ ?_ <;> intro) | (refine guardL_splitF ?_ ?_ <;> intro) | (refine guardP_splitT ?_ ?_ <;> intro) | (refine guardP_splitF ?_ ?_ <;> intro) | (refine condL_split ?_ ?_ <;> intro) | (refine ret_tmp ?_) | (refine acx_go rfl (fun _ _ _ h => h) ?_) | (refine acx_dreg mixed (fun _ _ _ _ e h => ⟨e.trans h.1, h.2⟩) _ (SubH.refl _) ?_) | (refine And.intro (SubH.new (by assumption)) ?_) | (refine allNew_intro fun zr zh => ?_; have zg := zh; (try simp only [AH.set_none] at zg)) | (exact SubH.refl _) | (refine SubH.of_set ?_ ?_) | assumption))
  refine eq_nil und_37 fun b hb => ?_
  (repeat' (first | (simp only [↓s_skip, ↓s_reg, ↓s_seq, ↓s_cond, ↓s_ret, ↓s_nil, ↓s_consN, ↓s_thenN, ↓s_thenR, ↓s_kret, ↓s_putS, ↓s_dOkS, ↓s_ev_t, ↓s_ev_c, ↓s_upd, ↓s_move, ↓s_assign, ↓s_buildSlice, ↓s_callB, ↓s_append, boolV, List.map_cons, List.map_nil, List.length_cons, List.length_nil, List.getD_cons_zero, List.getD_cons_succ, List.getD_nil, ite_true, ite_false, Nat.reduceEqDiff, Nat.reduceLT, Nat.reduceLeDiff, true_and, Nat.succ_ne_self, reduceCtorEq, Nat.mul_one, fillV, eq_self, Nat.zero_add, and_self, vcBuildSlice, List.replicate_zero, List.flatten_nil, vcBuildSlice, elT_37, zeroT_3, *]) | (refine guardL_splitTD ?_ ?_ <;> intro) | (refine guardL_splitFD ?_ ?_ <;> intro) | (refine guardP_splitTD ?_ ?_ <;> intro) | (refine guardP_splitFD ?_ ?_ <;> intro) | (refine condL_splitD ?_ ?_ <;> intro) | (refine guardL_splitT ?_ ?_ <;> intro) | (refine guardL_splitF ?_ ?_ <;> intro) | (refine guardP_splitT ?_ ?_ <;> intro) | (refine guardP_splitF ?_ ?_ <;> intro) | (refine condL_split ?_ ?_ <;> intro) | (refine ret_tmp ?_) | (refine acx_go rfl (fun _ _ _ h => h) ?_) | (refine acx_dreg mixed (fun _ _ _ _ e h => ⟨e.trans h.1, h.2⟩) _ (SubH.refl _) ?_) | (refine And.intro (SubH.new (by assumption)) ?_) | (refine allNew_intro fun zr zh => ?_; have zg := zh; (try simp only [AH.set_none] at zg)) | (exact SubH.refl _) | (refine SubH.of_set ?_ ?_) | assumption))
  · have h0 : l = [] := by
      cases l with
      | nil => rfl
      | cons x l => have := hb (by simp); simp_all
    subst h0
    exact ⟨_, rfl, GhV.nil H⟩
  · refine append_clip elT_37 zeroT_3 rfl (by omega) rfl (ints_src H l) (ints_one l) (by omega) (by omega) (fun h0 => ?_) (fun h0 v' H' ho => ?_)
    · have h0 : l = [] := List.eq_nil_of_length_eq_zero h0
      subst h0
      (repeat' (first | (simp only [↓s_ret, ↓s_nil, ↓s_consN, ↓s_thenN, ↓s_kret, ↓s_putS, ↓s_dOkS, ↓s_ev_t, ↓s_upd, ↓s_assign, List.getD_cons_succ, List.getD_nil, ite_true, ite_false, Nat.reduceEqDiff, Nat.reduceLT, true_and, Nat.succ_ne_self, eq_self, *]) | (refine guardL_splitTD ?_ ?_ <;> intro) | (refine guardL_splitFD ?_ ?_ <;> intro) | (refine guardP_splitTD ?_ ?_ <;> intro) | (refine guardP_splitFD ?_ ?_ <;> intro) | (refine condL_splitD ?_ ?_ <;> intro) | (refine guardL_splitT ?_ ?_ <;> intro) | (refine guardL_splitF ?_ ?_ <;> intro) | (refine guardP_splitT ?_ ?_ <;> intro) | (refine guardP_splitF ?_ ?_ <;> intro) | (refine condL_split ?_ ?_ <;> intro) | (refine ret_tmp ?_) | (refine acx_go rfl (fun _ _ _ h => h) ?_) | (refine acx_dreg mixed (fun _ _ _ _ e h => ⟨e.trans h.1, h.2⟩) _ (SubH.refl _) ?_) | (refine And.intro (SubH.new (by assumption)) ?_) | (refine allNew_intro fun zr zh => ?_; have zg := zh; (try simp only [AH.set_none] at zg)) | (exact SubH.refl _) | (refine SubH.of_set ?_ ?_) | assumption))
      exact ⟨_, rfl, GhV.imm H⟩
    · (repeat' (first | (simp only [↓s_ret, ↓s_nil, ↓s_consN, ↓s_thenN, ↓s_kret, ↓s_putS, ↓s_dOkS, ↓s_ev_t, ↓s_upd, ↓s_assign, List.getD_cons_succ, List.getD_nil, ite_true, ite_false, Nat.reduceEqDiff, Nat.reduceLT, true_and, Nat.succ_ne_self, eq_self, *]) | (refine guardL_splitTD ?_ ?_ <;> intro) | (refine guardL_splitFD ?_ ?_ <;> intro) | (refine guardP_splitTD ?_ ?_ <;> intro) | (refine guardP_splitFD ?_ ?_ <;> intro) | (refine condL_splitD ?_ ?_ <;> intro) | (refine guardL_splitT ?_ ?_ <;> intro) | (refine guardL_splitF ?_ ?_ <;> intro) | (refine guardP_splitT ?_ ?_ <;> intro) | (refine guardP_splitF ?_ ?_ <;> intro) | (refine condL_split ?_ ?_ <;> intro) | (refine ret_tmp ?_) | (refine acx_go rfl (fun _ _ _ h => h) ?_) | (refine acx_dreg mixed (fun _ _ _ _ e h => ⟨e.trans h.1, h.2⟩) _ (SubH.refl _) ?_) | (refine And.intro (SubH.new (by assumption)) ?_) | (refine allNew_intro fun zr zh => ?_; have zg := zh; (try simp only [AH.set_none] at zg)) | (exact SubH.refl _) | (refine SubH.of_set ?_ ?_) | assumption))
      refine ⟨_, rfl, ?_⟩
      have := GhV.own ho
      simpa using this
def soundGuard (rows : List Row) (ls : List Line) (x : List Int) : Bool := !(fewF rows ls 500) || x.any (fun n => decide (1000 < n))
def soundRows (d : List Row) (x : List Int) : Bool := d.all fun r => decide (r.c.length ≤ x.length) && fulF r x
def soundF (rows : List Row) (ls : List Line) (x : List Int) : Bool :=
  if soundGuard rows ls x = true then true
  else if (holdsF rows x).2 = 0 ∧ (deriveF rows ls).2 = 0 ∧ (holdsF rows x).1 = true then soundRows (deriveF rows ls).1 x && decide (checkF rows ls ≠ 0)
  else true
theorem few_len {rows : List Row} {ls : List Line} {m : Int} (h : fewF rows ls m = true) : (rows.length : Int) ≤ 110 ∧ (ls.length : Int) ≤ m ∧ ∀ r ∈ rows, (r.c.length : Int) ≤ 20 := by
  simp only [fewF, Bool.and_eq_true, decide_eq_true_eq, Bool.not_eq_true', List.any_eq_false] at h
  exact ⟨h.1.1, h.1.2, fun r hr => by have := h.2 r hr; simpa using this⟩
theorem sound5 (rows : List Row) (ls : List Line) (x : List Int) (h1 : (rows.length : Int) ≤ 9223372036854775806) (h3 : (x.length : Int) ≤ 17592186044416) : PureF Try.prog 5 [rowsV rows, linesV ls, intsV x] (boolV (soundF rows ls x)) := by
  refine PureF.forget fun H => ?_
  refine vcalls_intro fd5 (by simp) ?_
  unfold c5
  have h3' : (x.length : Int) ≤ 9223372036854775806 := by omega
  by_cases hf : fewF rows ls 500 = true
  · obtain ⟨f1, f2, f3⟩ := few_len hf
    have f1' : (rows.length : Int) ≤ 1000000 := by omega
    have f2' : (ls.length : Int) ≤ 1000000 := by omega
    have f3' : ∀ r ∈ rows, (r.c.length : Int) ≤ 1000000 := fun r hr => by have := f3 r hr; omega
    have f2'' : (ls.length : Int) ≤ 9223372036854775806 := by omega
    by_cases ha : x.any (fun n => decide (1000 < n)) = true
    · have hg : soundF rows ls x = true := by unfold soundF; rw [if_pos (by simp only [soundGuard, ha, Bool.or_true])]
      (repeat' (first | (refine contains16 (p := fun n => decide (1000 < n)) h3' (fun x _ => FnAt.lit en_23 (sound23 x)) ?_) | (simp only [↓s_reg, ↓s_seq, ↓s_cond, ↓s_condT, ↓s_ret, ↓s_nil, ↓s_consN, ↓s_consG, ↓s_guardFF, ↓s_thenN, ↓s_thenR, ↓s_kret, ↓s_putS, ↓s_dOkS, ↓s_ev_t, ↓s_ev_c, ↓s_ev_f, ↓s_upd, ↓s_move, ↓s_assign, ↓s_isBool, ↓s_pickA, ↓s_pick, ↓s_un, ↓s_callV, ↓s_callL, ↓s_un_not, boolV, List.map_cons, List.map_nil, List.getD_cons_zero, List.getD_cons_succ, List.getD_nil, ite_true, ite_false, Nat.reduceEqDiff, Nat.reduceLT, true_and, Bool.false_eq_true, Nat.succ_ne_self, Bool.not_true, reduceCtorEq, undefV, eq_self, undef, en_7, en_16, en_8, *]) | (refine guardL_splitTD ?_ ?_ <;> intro) | (refine guardL_splitFD ?_ ?_ <;> intro) | (refine guardP_splitTD ?_ ?_ <;> intro) | (refine guardP_splitFD ?_ ?_ <;> intro) | (refine condL_splitD ?_ ?_ <;> intro) | (refine guardL_splitT ?_ ?_ <;> intro) | (refine guardL_splitF ?_ ?_ <;> intro) | (refine guardP_splitT ?_ ?_ <;> intro) | (refine guardP_splitF ?_ ?_ <;> intro) | (refine condL_split ?_ ?_ <;> intro) | (refine ret_tmp ?_) | (refine acx_go rfl (fun _ _ _ h => h) ?_) | (refine acx_dreg mixed (fun _ _ _ _ e h => ⟨e.trans h.1, h.2⟩) _ (SubH.refl _) ?_) | (refine And.intro (SubH.new (by assumption)) ?_) | (refine allNew_intro fun zr zh => ?_; have zg := zh; (try simp only [AH.set_none] at zg)) | (exact SubH.refl _) | (refine SubH.of_set ?_ ?_) | assumption | (refine PureF.use (few7 rows ls 500 h1) ?_) | (refine PureF.use (awake8) ?_) | (with_reducible refine And.intro ?_ ?_)))
    · have ha' : x.any (fun n => decide (1000 < n)) = false := by simpa using ha
      have hgu : soundF rows ls x = if (holdsF rows x).2 = 0 ∧ (deriveF rows ls).2 = 0 ∧ (holdsF rows x).1 = true then soundRows (deriveF rows ls).1 x && decide (checkF rows ls ≠ 0) else true := by
        unfold soundF; rw [if_neg (by simp only [soundGuard, hf, ha', Bool.not_true, Bool.or_false]; simp)]
      have hdl := deriveF_len rows ls
      have hdo := deriveF_ok rows ls
      by_cases c1 : (holdsF rows x).2 = 0
      · by_cases c2 : (deriveF rows ls).2 = 0
        · cases c3 : (holdsF rows x).1 with
          | true =>
            rw [if_pos ⟨c1, c2, c3⟩] at hgu
            (repeat' (first | (refine contains16 (p := fun n => decide (1000 < n)) h3' (fun x _ => FnAt.lit en_23 (sound23 x)) ?_) | (simp only [↓s_skip, ↓s_reg, ↓s_seq, ↓s_seqL, ↓s_cond, ↓s_condF, ↓s_block, ↓s_loop, ↓s_nil, ↓s_consN, ↓s_consG, ↓s_guardFF, ↓s_thenN, ↓s_kret, ↓s_putS, ↓s_dOkS, ↓s_ev_t, ↓s_ev_c, ↓s_ev_f, ↓s_upd, ↓s_move, ↓s_assign, ↓s_isBool, ↓s_pickA, ↓s_pick, ↓s_bin, ↓s_un, ↓s_extract, ↓s_callB, ↓s_callV, ↓s_callL, ↓s_len, ↓s_un_not, ↓s_bin_neq, vcExtract, intV, boolV, List.map_cons, List.map_nil, List.getD_cons_zero, List.getD_cons_succ, List.getD_nil, ite_true, ite_false, Nat.reduceEqDiff, Nat.reduceLT, ne_eq, not_false_eq_true, true_and, Bool.false_eq_true, Nat.succ_ne_self, decide_true, Bool.not_true, reduceCtorEq, undefV, eq_self, List.getElem?_cons_zero, List.getElem?_cons_succ, n_lenS, undef, elT_31, en_7, en_16, en_12, en_25, en_24, en_21, en_22, *]) | (refine guardL_splitTD ?_ ?_ <;> intro) | (refine guardL_splitFD ?_ ?_ <;> intro) | (refine guardP_splitTD ?_ ?_ <;> intro) | (refine guardP_splitFD ?_ ?_ <;> intro) | (refine condL_splitD ?_ ?_ <;> intro) | (refine guardL_splitT ?_ ?_ <;> intro) | (refine guardL_splitF ?_ ?_ <;> intro) | (refine guardP_splitT ?_ ?_ <;> intro) | (refine guardP_splitF ?_ ?_ <;> intro) | (refine condL_split ?_ ?_ <;> intro) | (refine ret_tmp ?_) | (refine acx_go rfl (fun _ _ _ h => h) ?_) | (refine acx_dreg mixed (fun _ _ _ _ e h => ⟨e.trans h.1, h.2⟩) _ (SubH.refl _) ?_) | (refine And.intro (SubH.new (by assumption)) ?_) | (refine allNew_intro fun zr zh => ?_; have zg := zh; (try simp only [AH.set_none] at zg)) | (exact SubH.refl _) | (refine SubH.of_set ?_ ?_) | assumption | (refine PureF.use (few7 rows ls 500 h1) ?_) | (refine PureF.use (awake8) ?_) | (refine PureF.use (rows12P rows f1' f3') ?_) | (refine PureF.use (lines21P ls f2') ?_) | (refine PureF.use (clone25b x h3) ?_) | (refine PureF.use (holds24 rows x h1 h3') ?_) | (refine PureF.use (derive22 rows ls h1 f2'') ?_) | (with_reducible refine And.intro ?_ ?_)))
            obtain ⟨d, hd⟩ : ∃ d, d = (deriveF rows ls).1 := ⟨_, rfl⟩
            rw [← hd] at hdl hdo ⊢
            have hck := check13 rows ls h1 f2''
            clear hgu hd ha'
            refine acx_loop (fun _ _ _ h => h) (fun A H' => SubH H H' ∧ A.d = [] ∧ A.t 0 = rowsV rows ∧ A.t 1 = linesV ls ∧ A.t 2 = intsV x ∧ A.t 49 = rowsV d ∧ A.t 50 = iV d.length ∧ ∃ i : Nat, i ≤ d.length ∧ A.t 51 = iV i ∧ soundRows d x = soundRows (d.drop i) x)
              (fun A _ => match A.t 51 with | .lit (.int _ i) => ((d.length : Int) - i).toNat | _ => 0) ?_ ?_
            · exact ⟨SubH.refl _, rfl, rfl, rfl, rfl, rfl, rfl, 0, by omega, rfl, rfl⟩
            · rintro ⟨t, e⟩ H' ⟨hs, rfl, h0, ht1, h2, h49, h50, i, hi, h51, hgo⟩
              dsimp only at h0 ht1 h2 h49 h50 h51
              have hHn : ∀ r, H' r = none → H r = none := fun r hr => hs.none hr
              by_cases hb : i < d.length
              · have hst : soundRows (d.drop i) x = ((decide (d[i].c.length ≤ x.length) && fulF d[i] x) && soundRows (d.drop (i + 1)) x) := by
                  rw [List.drop_eq_getElem_cons hb]; rfl
                rw [hst] at hgo
                clear hst
                by_cases c5 : (x.length : Int) < (d[i].c.length : Int)
                · have hgo2 : soundRows d x = false := by rw [hgo, decide_eq_false (by omega)]; rfl
                  clear hgo
                  (repeat' (first | (simp only [↓s_skip, ↓s_reg, ↓s_seq, ↓s_cond, ↓s_condT, ↓s_block, ↓s_ret, ↓s_nil, ↓s_consN, ↓s_consG, ↓s_guardTF, ↓s_thenN, ↓s_thenR, ↓s_inR, ↓s_kret, ↓s_putS, ↓s_putN, ↓s_dOkS, ↓s_dOkN, ↓s_ev_t, ↓s_ev_c, ↓s_ev_f, ↓s_upd, ↓s_move, ↓s_assign, ↓s_isBool, ↓s_pickA, ↓s_pick, ↓s_load, ↓s_store, ↓s_bin, ↓s_alloc, ↓s_fieldAddr, ↓s_indexAddr, ↓s_callB, ↓s_len, ↓s_bin_lss, ↓s_bin_gtr, ptrV, intV, List.map_cons, List.map_nil, List.length_cons, List.length_nil, ite_true, ite_false, Nat.reduceEqDiff, Nat.reduceLT, Nat.reduceAdd, ne_eq, not_false_eq_true, true_and, Nat.succ_ne_self, decide_true, Bool.false_and, reduceCtorEq, Int.natCast_nonneg, Int.toNat_natCast, callOk, undefV, AH.get, AH.set_set, setAt, List.all_cons, List.all_nil, Bool.and_self, eq_self, Nat.zero_add, Nat.add_zero, List.drop, and_self, ldV_f, ldV_t2, Int.ofNat_lt, on_int, cl_agg, on_slice, List.set_cons_zero, List.set_cons_succ, ↓n_alloc, n_allocS, Nat.le_refl, n_ldI, n_ldP, n_faP, n_ixS, n_ixA1, n_lenS, n_ldA, n_ldC, n_ldB, n_faA, n_stP, n_stA, undef, rows_drop, flT_50_0, ldT_50, ldT_37, szT_50, zeroT_50, elT_31, elT_37, en_26, *]) | (refine guardL_splitTD ?_ ?_ <;> intro) | (refine guardL_splitFD ?_ ?_ <;> intro) | (refine guardP_splitTD ?_ ?_ <;> intro) | (refine guardP_splitFD ?_ ?_ <;> intro) | (refine condL_splitD ?_ ?_ <;> intro) | (refine guardL_splitT ?_ ?_ <;> intro) | (refine guardL_splitF ?_ ?_ <;> intro) | (refine guardP_splitT ?_ ?_ <;> intro) | (refine guardP_splitF ?_ ?_ <;> intro) | (refine condL_split ?_ ?_ <;> intro) | (refine ret_tmp ?_) | (refine acx_go rfl (fun _ _ _ h => h) ?_) | (refine acx_dreg mixed (fun _ _ _ _ e h => ⟨e.trans h.1, h.2⟩) _ (SubH.refl _) ?_) | (refine And.intro (SubH.new (by assumption)) ?_) | (refine allNew_intro fun zr zh => ?_; have zg := zh; (try simp only [AH.set_none] at zg)) | (exact SubH.refl _) | (refine SubH.of_set ?_ ?_) | assumption | (with_reducible refine And.intro ?_ ?_)))
                · cases c6 : fulF d[i] x with
                  | false =>
                    have hgo2 : soundRows d x = false := by rw [hgo, c6]; simp
                    clear hgo
                    (repeat' (first | (simp only [↓s_skip, ↓s_reg, ↓s_seq, ↓s_cond, ↓s_condT, ↓s_block, ↓s_ret, ↓s_nil, ↓s_consN, ↓s_consG, ↓s_guardFF, ↓s_thenN, ↓s_thenR, ↓s_inR, ↓s_kret, ↓s_putS, ↓s_putN, ↓s_dOkS, ↓s_dOkN, ↓s_ev_t, ↓s_ev_c, ↓s_ev_f, ↓s_upd, ↓s_move, ↓s_assign, ↓s_isBool, ↓s_pickA, ↓s_pick, ↓s_load, ↓s_store, ↓s_bin, ↓s_un, ↓s_alloc, ↓s_fieldAddr, ↓s_indexAddr, ↓s_callB, ↓s_callV, ↓s_callL, ↓s_len, ↓s_un_not, ↓s_bin_lss, ↓s_bin_gtr, ptrV, intV, boolV, List.map_cons, List.map_nil, List.length_cons, List.length_nil, ite_true, ite_false, Nat.reduceEqDiff, Nat.reduceLT, Nat.reduceAdd, ne_eq, not_false_eq_true, true_and, Bool.false_eq_true, Nat.succ_ne_self, decide_true, decide_false, Bool.not_false, Bool.false_and, reduceCtorEq, Int.natCast_nonneg, Int.toNat_natCast, AH.get, AH.set_set, setAt, List.all_cons, List.all_nil, Bool.and_self, eq_self, Nat.zero_add, Nat.add_zero, List.drop, and_self, ldV_f, ldV_t2, Int.ofNat_lt, on_int, cl_agg, on_slice, List.set_cons_zero, List.set_cons_succ, ↓n_alloc, n_allocS, Nat.le_refl, n_ldI, n_ldP, n_faP, n_ixS, n_ixA1, n_lenS, n_ldA, n_ldC, n_ldB, n_faA, n_stP, n_stA, rows_drop, flT_50_0, ldT_50, ldT_37, szT_50, zeroT_50, elT_31, elT_37, en_26, *]) | (refine guardL_splitTD ?_ ?_ <;> intro) | (refine guardL_splitFD ?_ ?_ <;> intro) | (refine guardP_splitTD ?_ ?_ <;> intro) | (refine guardP_splitFD ?_ ?_ <;> intro) | (refine condL_splitD ?_ ?_ <;> intro) | (refine guardL_splitT ?_ ?_ <;> intro) | (refine guardL_splitF ?_ ?_ <;> intro) | (refine guardP_splitT ?_ ?_ <;> intro) | (refine guardP_splitF ?_ ?_ <;> intro) | (refine condL_split ?_ ?_ <;> intro) | (refine ret_tmp ?_) | (refine acx_go rfl (fun _ _ _ h => h) ?_) | (refine acx_dreg mixed (fun _ _ _ _ e h => ⟨e.trans h.1, h.2⟩) _ (SubH.refl _) ?_) | (refine And.intro (SubH.new (by assumption)) ?_) | (refine allNew_intro fun zr zh => ?_; have zg := zh; (try simp only [AH.set_none] at zg)) | (exact SubH.refl _) | (refine SubH.of_set ?_ ?_) | assumption | (refine PureF.use (fulfils26 d[i] x h3') ?_) | (with_reducible refine And.intro ?_ ?_)))
                  | true =>
                    have hgo2 : soundRows d x = soundRows (d.drop (i + 1)) x := by rw [hgo, c6, decide_eq_true (by omega)]; rfl
                    clear hgo
                    (repeat' (first | (simp only [↓s_skip, ↓s_reg, ↓s_seq, ↓s_cond, ↓s_condT, ↓s_condF, ↓s_block, ↓s_nil, ↓s_consN, ↓s_consG, ↓s_guardFF, ↓s_thenN, ↓s_inN, ↓s_kret, ↓s_putS, ↓s_putN, ↓s_dOkS, ↓s_dOkN, ↓s_ev_t, ↓s_ev_c, ↓s_ev_f, ↓s_upd, ↓s_move, ↓s_isBool, ↓s_pickA, ↓s_pick, ↓s_load, ↓s_store, ↓s_bin, ↓s_un, ↓s_alloc, ↓s_fieldAddr, ↓s_indexAddr, ↓s_callB, ↓s_callV, ↓s_callL, ↓s_len, ↓s_un_not, ↓s_bin_lss, ↓s_bin_gtr, ↓s_bin_add, ptrV, intV, boolV, List.map_cons, List.map_nil, List.length_cons, List.length_nil, ite_true, ite_false, Nat.reduceEqDiff, Nat.reduceLT, Nat.reduceAdd, ne_eq, not_false_eq_true, true_and, Bool.false_eq_true, Nat.succ_ne_self, decide_true, decide_false, Bool.not_true, reduceCtorEq, Int.natCast_nonneg, Int.toNat_natCast, AH.get, AH.set_set, setAt, List.all_cons, List.all_nil, Bool.and_self, eq_self, Nat.zero_add, Nat.add_zero, List.drop, and_self, ldV_f, ldV_t2, Int.ofNat_lt, on_int, cl_agg, on_slice, List.set_cons_zero, List.set_cons_succ, ↓n_alloc, n_allocS, Nat.le_refl, n_ldI, n_ldP, n_faP, n_ixS, n_ixA1, n_lenS, n_ldA, n_ldC, n_ldB, n_faA, n_stP, n_stA, rows_drop, flT_50_0, ldT_50, ldT_37, szT_50, zeroT_50, elT_31, elT_37, en_26, *]) | (refine guardL_splitTD ?_ ?_ <;> intro) | (refine guardL_splitFD ?_ ?_ <;> intro) | (refine guardP_splitTD ?_ ?_ <;> intro) | (refine guardP_splitFD ?_ ?_ <;> intro) | (refine condL_splitD ?_ ?_ <;> intro) | (refine guardL_splitT ?_ ?_ <;> intro) | (refine guardL_splitF ?_ ?_ <;> intro) | (refine guardP_splitT ?_ ?_ <;> intro) | (refine guardP_splitF ?_ ?_ <;> intro) | (refine condL_split ?_ ?_ <;> intro) | (refine ret_tmp ?_) | (refine acx_go rfl (fun _ _ _ h => h) ?_) | (refine acx_dreg mixed (fun _ _ _ _ e h => ⟨e.trans h.1, h.2⟩) _ (SubH.refl _) ?_) | (refine And.intro (SubH.new (by assumption)) ?_) | (refine allNew_intro fun zr zh => ?_; have zg := zh; (try simp only [AH.set_none] at zg)) | (exact SubH.refl _) | (refine SubH.of_set ?_ ?_) | assumption | (refine PureF.use (fulfils26 d[i] x h3') ?_) | (with_reducible refine And.intro ?_ ?_)))
                    · rw [wrap_ok (n := (i : Int) + 1) (by omega) (by omega)]
                      exact ⟨i + 1, by omega, rfl, rfl⟩
                    · rw [wrap_ok (n := (i : Int) + 1) (by omega) (by omega)]; omega
              · have hgo2 : soundRows d x = true := by rw [hgo, List.drop_eq_nil_of_le (by omega)]; rfl
                clear hgo
                by_cases c7 : checkF rows ls = 0
                · (repeat' (first | (simp only [↓s_reg, ↓s_seq, ↓s_cond, ↓s_condF, ↓s_exit, ↓s_ret, ↓s_nil, ↓s_consN, ↓s_consG, ↓s_guardFT, ↓s_thenN, ↓s_thenE, ↓s_inE, ↓s_kret, ↓s_putS, ↓s_dOkS, ↓s_ev_t, ↓s_ev_c, ↓s_ev_f, ↓s_upd, ↓s_move, ↓s_assign, ↓s_isBool, ↓s_pickA, ↓s_pick, ↓s_bin, ↓s_callV, ↓s_callL, ↓s_bin_lss, ↓s_bin_neq, List.map_cons, List.map_nil, ite_true, ite_false, Nat.reduceEqDiff, Nat.reduceLT, not_true_eq_false, true_and, Bool.false_eq_true, Nat.succ_ne_self, decide_true, decide_false, Bool.not_true, Bool.and_false, reduceCtorEq, callOk, undefV, eq_self, and_self, Int.ofNat_lt, undef, en_8, en_12, en_21, en_13, *]) | (refine guardL_splitTD ?_ ?_ <;> intro) | (refine guardL_splitFD ?_ ?_ <;> intro) | (refine guardP_splitTD ?_ ?_ <;> intro) | (refine guardP_splitFD ?_ ?_ <;> intro) | (refine condL_splitD ?_ ?_ <;> intro) | (refine guardL_splitT ?_ ?_ <;> intro) | (refine guardL_splitF ?_ ?_ <;> intro) | (refine guardP_splitT ?_ ?_ <;> intro) | (refine guardP_splitF ?_ ?_ <;> intro) | (refine condL_split ?_ ?_ <;> intro) | (refine ret_tmp ?_) | (refine acx_go rfl (fun _ _ _ h => h) ?_) | (refine acx_dreg mixed (fun _ _ _ _ e h => ⟨e.trans h.1, h.2⟩) _ (SubH.refl _) ?_) | (refine And.intro (SubH.new (by assumption)) ?_) | (refine allNew_intro fun zr zh => ?_; have zg := zh; (try simp only [AH.set_none] at zg)) | (exact SubH.refl _) | (refine SubH.of_set ?_ ?_) | assumption | (refine PureF.use (rows12P rows f1' f3') ?_) | (refine PureF.use (lines21P ls f2') ?_) | (refine PureF.use (hck) ?_) | (refine PureF.use (awake8) ?_) | (with_reducible refine And.intro ?_ ?_)))
                · (repeat' (first | (simp only [↓s_reg, ↓s_seq, ↓s_cond, ↓s_condF, ↓s_exit, ↓s_ret, ↓s_nil, ↓s_consN, ↓s_consG, ↓s_guardTT, ↓s_thenN, ↓s_thenE, ↓s_inE, ↓s_kret, ↓s_putS, ↓s_dOkS, ↓s_ev_t, ↓s_ev_c, ↓s_ev_f, ↓s_upd, ↓s_move, ↓s_assign, ↓s_isBool, ↓s_pickA, ↓s_pick, ↓s_bin, ↓s_callV, ↓s_callL, ↓s_bin_lss, ↓s_bin_neq, boolV, List.map_cons, List.map_nil, ite_true, ite_false, Nat.reduceEqDiff, Nat.reduceLT, not_false_eq_true, true_and, Nat.succ_ne_self, decide_true, decide_false, Bool.not_false, reduceCtorEq, Bool.and_self, eq_self, and_self, Int.ofNat_lt, en_8, en_12, en_21, en_13, *]) | (refine guardL_splitTD ?_ ?_ <;> intro) | (refine guardL_splitFD ?_ ?_ <;> intro) | (refine guardP_splitTD ?_ ?_ <;> intro) | (refine guardP_splitFD ?_ ?_ <;> intro) | (refine condL_splitD ?_ ?_ <;> intro) | (refine guardL_splitT ?_ ?_ <;> intro) | (refine guardL_splitF ?_ ?_ <;> intro) | (refine guardP_splitT ?_ ?_ <;> intro) | (refine guardP_splitF ?_ ?_ <;> intro) | (refine condL_split ?_ ?_ <;> intro) | (refine ret_tmp ?_) | (refine acx_go rfl (fun _ _ _ h => h) ?_) | (refine acx_dreg mixed (fun _ _ _ _ e h => ⟨e.trans h.1, h.2⟩) _ (SubH.refl _) ?_) | (refine And.intro (SubH.new (by assumption)) ?_) | (refine allNew_intro fun zr zh => ?_; have zg := zh; (try simp only [AH.set_none] at zg)) | (exact SubH.refl _) | (refine SubH.of_set ?_ ?_) | assumption | (refine PureF.use (rows12P rows f1' f3') ?_) | (refine PureF.use (lines21P ls f2') ?_) | (refine PureF.use (hck) ?_) | (refine PureF.use (awake8) ?_) | (with_reducible refine And.intro ?_ ?_)))
          | false =>
            rw [if_neg (by simp [c3])] at hgu
            (repeat' (first | (refine contains16 (p := fun n => decide (1000 < n)) h3' (fun x _ => FnAt.lit en_23 (sound23 x)) ?_) | (simp only [↓s_skip, ↓s_reg, ↓s_seq, ↓s_cond, ↓s_condT, ↓s_condF, ↓s_ret, ↓s_nil, ↓s_consN, ↓s_consG, ↓s_guardFF, ↓s_thenN, ↓s_thenR, ↓s_kret, ↓s_putS, ↓s_dOkS, ↓s_ev_t, ↓s_ev_c, ↓s_ev_f, ↓s_upd, ↓s_move, ↓s_assign, ↓s_isBool, ↓s_pickA, ↓s_pick, ↓s_bin, ↓s_un, ↓s_extract, ↓s_callV, ↓s_callL, ↓s_un_not, ↓s_bin_neq, vcExtract, boolV, List.map_cons, List.map_nil, List.getD_cons_zero, List.getD_cons_succ, List.getD_nil, ite_true, ite_false, Nat.reduceEqDiff, Nat.reduceLT, true_and, Bool.false_eq_true, Nat.succ_ne_self, decide_true, Bool.not_true, Bool.not_false, reduceCtorEq, undefV, eq_self, List.getElem?_cons_zero, List.getElem?_cons_succ, undef, en_7, en_16, en_8, en_12, en_25, en_24, en_21, en_22, *]) | (refine guardL_splitTD ?_ ?_ <;> intro) | (refine guardL_splitFD ?_ ?_ <;> intro) | (refine guardP_splitTD ?_ ?_ <;> intro) | (refine guardP_splitFD ?_ ?_ <;> intro) | (refine condL_splitD ?_ ?_ <;> intro) | (refine guardL_splitT ?_ ?_ <;> intro) | (refine guardL_splitF ?_ ?_ <;> intro) | (refine guardP_splitT ?_ ?_ <;> intro) | (refine guardP_splitF ?_ ?_ <;> intro) | (refine condL_split ?_ ?_ <;> intro) | (refine ret_tmp ?_) | (refine acx_go rfl (fun _ _ _ h => h) ?_) | (refine acx_dreg mixed (fun _ _ _ _ e h => ⟨e.trans h.1, h.2⟩) _ (SubH.refl _) ?_) | (refine And.intro (SubH.new (by assumption)) ?_) | (refine allNew_intro fun zr zh => ?_; have zg := zh; (try simp only [AH.set_none] at zg)) | (exact SubH.refl _) | (refine SubH.of_set ?_ ?_) | assumption | (refine PureF.use (few7 rows ls 500 h1) ?_) | (refine PureF.use (awake8) ?_) | (refine PureF.use (rows12P rows f1' f3') ?_) | (refine PureF.use (lines21P ls f2') ?_) | (refine PureF.use (clone25b x h3) ?_) | (refine PureF.use (holds24 rows x h1 h3') ?_) | (refine PureF.use (derive22 rows ls h1 f2'') ?_) | (with_reducible refine And.intro ?_ ?_)))
        · rw [if_neg (fun e => c2 e.2.1)] at hgu
          (repeat' (first | (refine contains16 (p := fun n => decide (1000 < n)) h3' (fun x _ => FnAt.lit en_23 (sound23 x)) ?_) | (simp only [↓s_skip, ↓s_reg, ↓s_seq, ↓s_cond, ↓s_condT, ↓s_condF, ↓s_ret, ↓s_nil, ↓s_consN, ↓s_consG, ↓s_guardTF, ↓s_guardFF, ↓s_thenN, ↓s_thenR, ↓s_kret, ↓s_putS, ↓s_dOkS, ↓s_ev_t, ↓s_ev_c, ↓s_ev_f, ↓s_upd, ↓s_move, ↓s_assign, ↓s_isBool, ↓s_pickA, ↓s_pick, ↓s_bin, ↓s_un, ↓s_extract, ↓s_callV, ↓s_callL, ↓s_un_not, ↓s_bin_neq, vcExtract, boolV, List.map_cons, List.map_nil, List.getD_cons_zero, List.getD_cons_succ, List.getD_nil, ite_true, ite_false, Nat.reduceEqDiff, Nat.reduceLT, true_and, Bool.false_eq_true, Nat.succ_ne_self, decide_true, decide_false, Bool.not_true, Bool.not_false, reduceCtorEq, callOk, undefV, eq_self, List.getElem?_cons_zero, List.getElem?_cons_succ, undef, en_7, en_16, en_8, en_12, en_25, en_24, en_21, en_22, *]) | (refine guardL_splitTD ?_ ?_ <;> intro) | (refine guardL_splitFD ?_ ?_ <;> intro) | (refine guardP_splitTD ?_ ?_ <;> intro) | (refine guardP_splitFD ?_ ?_ <;> intro) | (refine condL_splitD ?_ ?_ <;> intro) | (refine guardL_splitT ?_ ?_ <;> intro) | (refine guardL_splitF ?_ ?_ <;> intro) | (refine guardP_splitT ?_ ?_ <;> intro) | (refine guardP_splitF ?_ ?_ <;> intro) | (refine condL_split ?_ ?_ <;> intro) | (refine ret_tmp ?_) | (refine acx_go rfl (fun _ _ _ h => h) ?_) | (refine acx_dreg mixed (fun _ _ _ _ e h => ⟨e.trans h.1, h.2⟩) _ (SubH.refl _) ?_) | (refine And.intro (SubH.new (by assumption)) ?_) | (refine allNew_intro fun zr zh => ?_; have zg := zh; (try simp only [AH.set_none] at zg)) | (exact SubH.refl _) | (refine SubH.of_set ?_ ?_) | assumption | (refine PureF.use (few7 rows ls 500 h1) ?_) | (refine PureF.use (awake8) ?_) | (refine PureF.use (rows12P rows f1' f3') ?_) | (refine PureF.use (lines21P ls f2') ?_) | (refine PureF.use (clone25b x h3) ?_) | (refine PureF.use (holds24 rows x h1 h3') ?_) | (refine PureF.use (derive22 rows ls h1 f2'') ?_) | (with_reducible refine And.intro ?_ ?_)))
      · rw [if_neg (fun e => c1 e.1)] at hgu
        (repeat' (first | (refine contains16 (p := fun n => decide (1000 < n)) h3' (fun x _ => FnAt.lit en_23 (sound23 x)) ?_) | (simp only [↓s_skip, ↓s_reg, ↓s_seq, ↓s_cond, ↓s_condT, ↓s_condF, ↓s_ret, ↓s_nil, ↓s_consN, ↓s_consG, ↓s_guardTF, ↓s_guardFF, ↓s_thenN, ↓s_thenR, ↓s_kret, ↓s_putS, ↓s_dOkS, ↓s_ev_t, ↓s_ev_c, ↓s_ev_f, ↓s_upd, ↓s_move, ↓s_assign, ↓s_isBool, ↓s_pickA, ↓s_pick, ↓s_bin, ↓s_un, ↓s_extract, ↓s_callV, ↓s_callL, ↓s_un_not, ↓s_bin_neq, vcExtract, boolV, List.map_cons, List.map_nil, List.getD_cons_zero, List.getD_cons_succ, List.getD_nil, ite_true, ite_false, Nat.reduceEqDiff, Nat.reduceLT, true_and, Bool.false_eq_true, Nat.succ_ne_self, decide_false, Bool.not_true, Bool.not_false, reduceCtorEq, callOk, undefV, eq_self, List.getElem?_cons_zero, List.getElem?_cons_succ, undef, en_7, en_16, en_8, en_12, en_25, en_24, en_21, en_22, *]) | (refine guardL_splitTD ?_ ?_ <;> intro) | (refine guardL_splitFD ?_ ?_ <;> intro) | (refine guardP_splitTD ?_ ?_ <;> intro) | (refine guardP_splitFD ?_ ?_ <;> intro) | (refine condL_splitD ?_ ?_ <;> intro) | (refine guardL_splitT ?_ ?_ <;> intro) | (refine guardL_splitF ?_ ?_ <;> intro) | (refine guardP_splitT ?_ ?_ <;> intro) | (refine guardP_splitF ?_ ?_ <;> intro) | (refine condL_split ?_ ?_ <;> intro) | (refine ret_tmp ?_) | (refine acx_go rfl (fun _ _ _ h => h) ?_) | (refine acx_dreg mixed (fun _ _ _ _ e h => ⟨e.trans h.1, h.2⟩) _ (SubH.refl _) ?_) | (refine And.intro (SubH.new (by assumption)) ?_) | (refine allNew_intro fun zr zh => ?_; have zg := zh; (try simp only [AH.set_none] at zg)) | (exact SubH.refl _) | (refine SubH.of_set ?_ ?_) | assumption | (refine PureF.use (few7 rows ls 500 h1) ?_) | (refine PureF.use (awake8) ?_) | (refine PureF.use (rows12P rows f1' f3') ?_) | (refine PureF.use (lines21P ls f2') ?_) | (refine PureF.use (clone25b x h3) ?_) | (refine PureF.use (holds24 rows x h1 h3') ?_) | (refine PureF.use (derive22 rows ls h1 f2'') ?_) | (with_reducible refine And.intro ?_ ?_)))
  · have hf' : fewF rows ls 500 = false := by simpa using hf
    have hg : soundF rows ls x = true := by unfold soundF; rw [if_pos (by simp only [soundGuard, hf', Bool.not_false, Bool.true_or])]
    (repeat' (first | (simp only [↓s_reg, ↓s_seq, ↓s_cond, ↓s_condT, ↓s_ret, ↓s_nil, ↓s_consN, ↓s_consG, ↓s_guardTF, ↓s_thenN, ↓s_thenR, ↓s_kret, ↓s_putS, ↓s_dOkS, ↓s_ev_t, ↓s_ev_c, ↓s_ev_f, ↓s_upd, ↓s_move, ↓s_assign, ↓s_isBool, ↓s_pickA, ↓s_pick, ↓s_un, ↓s_callV, ↓s_callL, ↓s_un_not, boolV, List.map_cons, List.map_nil, List.getD_cons_zero, List.getD_cons_succ, List.getD_nil, ite_true, ite_false, Nat.reduceEqDiff, Nat.reduceLT, true_and, Nat.succ_ne_self, Bool.not_false, reduceCtorEq, callOk, undefV, eq_self, undef, en_7, en_16, en_8, *]) | (refine guardL_splitTD ?_ ?_ <;> intro) | (refine guardL_splitFD ?_ ?_ <;> intro) | (refine guardP_splitTD ?_ ?_ <;> intro) | (refine guardP_splitFD ?_ ?_ <;> intro) | (refine condL_splitD ?_ ?_ <;> intro) | (refine guardL_splitT ?_ ?_ <;> intro) | (refine guardL_splitF ?_ ?_ <;> intro) | (refine guardP_splitT ?_ ?_ <;> intro) | (refine guardP_splitF ?_ ?_ <;> intro) | (refine condL_split ?_ ?_ <;> intro) | (refine ret_tmp ?_) | (refine acx_go rfl (fun _ _ _ h => h) ?_) | (refine acx_dreg mixed (fun _ _ _ _ e h => ⟨e.trans h.1, h.2⟩) _ (SubH.refl _) ?_) | (refine And.intro (SubH.new (by assumption)) ?_) | (refine allNew_intro fun zr zh => ?_; have zg := zh; (try simp only [AH.set_none] at zg)) | (exact SubH.refl _) | (refine SubH.of_set ?_ ?_) | assumption | (refine PureF.use (few7 rows ls 500 h1) ?_) | (refine PureF.use (awake8) ?_) | (with_reducible refine And.intro ?_ ?_)))
end Go.PV.Ytefpjfpelicedaa
end
section
/- Numbers that fulfil rows fulfil what lines make of them. -/
set_option linter.unusedVariables false
set_option linter.unusedSimpArgs false
set_option maxRecDepth 20000
set_option maxHeartbeats 4000000
namespace Go.PV.Ytefpjfpelicedaa
def dot : List Int → List Int → Int
  | c :: cs, y :: ys => c * y + dot cs ys
  | _, _ => 0
def SmallC (cs : List Int) : Prop := ∀ c ∈ cs, -1000000000000 ≤ c ∧ c ≤ 1000000000000
def SmallX (xs : List Int) : Prop := ∀ y ∈ xs, 0 ≤ y ∧ y ≤ 1000
theorem mul_small {c y : Int} (h1 : -1000000000000 ≤ c ∧ c ≤ 1000000000000) (h2 : 0 ≤ y ∧ y ≤ 1000) : -1000000000000000 ≤ c * y ∧ c * y ≤ 1000000000000000 := by
  have a := Int.mul_le_mul_of_nonneg_right h1.1 h2.1
  have b := Int.mul_le_mul_of_nonneg_right h1.2 h2.1
  constructor <;> omega
theorem dotGo_eq {M E : Int} (hM : M = 9000000000000000000) (hE : E = 1000000000000000) : ∀ (cs ys : List Int) (s : Int), SmallC cs → SmallX ys → -(M - cs.length * E) ≤ s → s ≤ M - cs.length * E → dotGo cs ys s = s + dot cs ys
  | [], ys, s, _, _, _, _ => by cases ys <;> simp [dotGo, dot]
  | c :: cs, [], s, _, _, _, _ => by simp [dotGo, dot]
  | c :: cs, y :: ys, s, h1, h2, h3, h4 => by
    have hm := mul_small (h1 c (List.mem_cons_self ..)) (h2 y (List.mem_cons_self ..))
    simp only [List.length_cons, Int.natCast_add, Int.natCast_one, hM, hE] at h3 h4
    have w1 : W (c * y) = c * y := wrap_ok (by omega) (by omega)
    have w2 : W (s + c * y) = s + c * y := wrap_ok (by omega) (by omega)
    simp only [dotGo, dot]
    rw [w1, w2, dotGo_eq hM hE cs ys (s + c * y) (fun x hx => h1 x (List.mem_cons_of_mem _ hx)) (fun x hx => h2 x (List.mem_cons_of_mem _ hx)) (by simp only [hM, hE]; omega) (by simp only [hM, hE]; omega)]
    omega
theorem fulGo_eq {M E : Int} (hM : M = 9000000000000000000) (hE : E = 1000000000000000) (r : Row) : ∀ (ys : List Int) (k : Nat) (s : Int), r.c.length = k + ys.length → SmallC r.c → SmallX ys → -(M - ys.length * E) ≤ s → s ≤ M - ys.length * E → fulGo r ys k s = s + dot (r.c.drop k) ys
  | [], k, s, _, _, _, _, _ => by cases r.c.drop k <;> simp [fulGo, dot]
  | y :: ys, k, s, hl, h1, h2, h3, h4 => by
    simp only [List.length_cons] at hl
    have hk : k < r.c.length := by omega
    have hc : coeffF r k = r.c[k] := by
      unfold coeffF
      rw [if_pos (by omega)]
      simp [List.getD_eq_getElem?_getD, hk]
    have hm := mul_small (h1 r.c[k] (List.getElem_mem _)) (h2 y (List.mem_cons_self ..))
    simp only [List.length_cons, Int.natCast_add, Int.natCast_one, hM, hE] at h3 h4
    have w1 : W (r.c[k] * y) = r.c[k] * y := wrap_ok (by omega) (by omega)
    have w2 : W (s + r.c[k] * y) = s + r.c[k] * y := wrap_ok (by omega) (by omega)
    simp only [fulGo]
    rw [hc, w1, w2, fulGo_eq hM hE r ys (k + 1) _ (by omega) h1 (fun x hx => h2 x (List.mem_cons_of_mem _ hx)) (by simp only [hM, hE]; omega) (by simp only [hM, hE]; omega), List.drop_eq_getElem_cons hk]
    simp only [dot]
    omega
theorem dot_zeros : ∀ (k : Nat) (x : List Int), dot (List.replicate k 0) x = 0
  | 0, x => by cases x <;> rfl
  | k + 1, [] => rfl
  | k + 1, y :: ys => by rw [List.replicate_succ, dot, dot_zeros k ys]; simp
theorem dot_append : ∀ (l : List Int) (k : Nat) (x : List Int), dot (l ++ List.replicate k 0) x = dot l x
  | [], k, x => by rw [List.nil_append, dot_zeros]; cases x <;> rfl
  | c :: l, k, [] => rfl
  | c :: l, k, y :: ys => by rw [List.cons_append, dot, dot, dot_append l k ys]
theorem wideL_eq {l : List Int} {n : Nat} (h : l.length ≤ n) : wideL l n = l ++ List.replicate (n - l.length) 0 := by
  rw [wideL, List.take_append, List.take_of_length_le h, List.take_replicate, Nat.min_eq_left (by omega)]
theorem dot_nat : ∀ (n a : Nat) (v : Int) (x : List Int), a < n → n = x.length → ∃ y ∈ x, dot ((List.replicate n 0).set a v) x = v * y
  | n + 1, 0, v, y :: ys, _, _ => ⟨y, List.mem_cons_self .., by rw [List.replicate_succ, List.set_cons_zero, dot, dot_zeros]; omega⟩
  | n + 1, a + 1, v, y :: ys, h, hn => by
    obtain ⟨z, hz, e⟩ := dot_nat n a v ys (by omega) (by simpa using hn)
    exact ⟨z, List.mem_cons_of_mem _ hz, by rw [List.replicate_succ, List.set_cons_succ, dot, e]; omega⟩
theorem dot_sum : ∀ (a b : List Int) (m k : Int) (x : List Int), a.length = b.length → dot (sumL a b m k) x = dot a x * m + dot b x * k
  | [], [], m, k, x, _ => by cases x <;> simp [sumL, dot]
  | a :: cs1, b :: bs, m, k, [], _ => by simp [sumL, dot]
  | a :: cs1, b :: bs, m, k, y :: ys, h => by
    have ih := dot_sum cs1 bs m k ys (by simpa using h)
    simp only [sumL, List.zipWith_cons_cons, dot] at ih ⊢
    rw [ih]
    have e1 : (a * m + b * k) * y = a * y * m + b * y * k := by
      rw [Int.add_mul, Int.mul_right_comm a m y, Int.mul_right_comm b k y]
    rw [e1, Int.add_mul, Int.add_mul]
    omega
theorem dot_div : ∀ (a : List Int) (m : Int) (x : List Int), (∀ c ∈ a, c.tmod m = 0) → dot a x = dot (a.map fun c => c.tdiv m) x * m
  | [], m, x, _ => by cases x <;> simp [dot]
  | a :: cs1, m, [], _ => by simp [dot]
  | a :: cs1, m, y :: ys, h => by
    have ih := dot_div cs1 m ys fun c hc => h c (List.mem_cons_of_mem _ hc)
    have h1 : a = m * a.tdiv m := by
      have := Int.mul_tdiv_add_tmod a m
      rw [h a (List.mem_cons_self ..)] at this
      omega
    simp only [List.map_cons, dot]
    rw [ih, Int.add_mul]
    congr 1
    conv => lhs; rw [h1]
    rw [Int.mul_comm m, Int.mul_assoc, Int.mul_comm m y, ← Int.mul_assoc]
theorem floor_ge {b m q : Int} (hb : -1000000000000 ≤ b ∧ b ≤ 1000000000000) (hm : 1 ≤ m ∧ m ≤ 1000000) (h : q * m ≤ b) : q ≤ floorF b m := by
  have h2 : (b.tdiv m).natAbs ≤ b.natAbs := Int.natAbs_tdiv_le_natAbs b m
  have h3 := Int.mul_tdiv_add_tmod b m
  have h4 : (b.tmod m).natAbs < m.natAbs := by rw [Int.natAbs_tmod]; exact Nat.mod_lt _ (by omega)
  have e : m * b.tdiv m = b.tdiv m * m := Int.mul_comm _ _
  have w1 : W (b.tdiv m) = b.tdiv m := wrap_ok (by omega) (by omega)
  have w2 : W (b.tdiv m * m) = b.tdiv m * m := wrap_ok (by omega) (by omega)
  have w3 : W (b.tdiv m - 1) = b.tdiv m - 1 := wrap_ok (by omega) (by omega)
  unfold floorF
  rw [w1, w2, w3]
  have key : ∀ p : Int, p ≤ q → p * m ≤ q * m := fun p hp => Int.mul_le_mul_of_nonneg_right hp (by omega)
  split
  · rename_i c
    refine Int.le_of_not_gt fun hq => ?_
    have := key (b.tdiv m) (by omega)
    omega
  · rename_i c
    refine Int.le_of_not_gt fun hq => ?_
    have := key (b.tdiv m + 1) (by omega)
    rw [Int.add_mul] at this
    omega
theorem fits_small {n : Nat} {r : Row} (h : Fits n r) : SmallC r.c ∧ -1000000000000 ≤ r.b ∧ r.b ≤ 1000000000000 := by
  constructor
  · intro c hc; have := h.2.2 c hc; simpa [far2] using this
  · have := h.2.1; simpa [far2] using this
def Sat (x : List Int) (r : Row) : Prop := dot r.c x ≤ r.b
theorem outF_sat {x : List Int} {r : Row} (h : Sat x r) (h2 : (outF r).2 = 0) : Sat x (outF r).1 := by
  unfold outF at *
  split at h2
  · simp at h2
  · rename_i c; rw [if_neg c]; exact h
theorem makeF_sat {rows made : List Row} {n : Nat} {l : Line} {x : List Int} (hx : SmallX x) (hn : n = x.length) (hr : ∀ r ∈ rows, r.c.length ≤ n ∧ Sat x r) (hm : ∀ r ∈ made, Fits n r ∧ Sat x r) (h : (makeF rows made n l).2 = 0) : Sat x (makeF rows made n l).1 := by
  have hat : ∀ {L : List Row} {a : Int}, 0 ≤ a → a < (L.length : Int) → rowAt L a ∈ L := fun {L a} h0 h1 => by
    have h2 : a.toNat < L.length := by omega
    unfold rowAt
    rw [List.getD_eq_getElem?_getD]
    simp only [h2, List.getElem?_eq_getElem, Option.getD_some]; exact List.getElem_mem _
  revert h
  unfold makeF
  split
  · split
    · rename_i c
      obtain ⟨r1, r2⟩ := hr _ (hat c.2.1 c.2.2)
      refine outF_sat ?_
      show dot (wideL _ n) x ≤ _
      rw [wideL_eq r1, dot_append]; exact r2
    · simp
  split
  · split
    · rename_i c
      refine outF_sat ?_
      obtain ⟨y, hy, e⟩ := dot_nat n l.a.toNat (-1) x (by omega) hn
      show dot _ x ≤ 0
      rw [e]
      have := (hx y hy).1
      omega
    · simp
  split
  · split
    · rename_i c
      obtain ⟨fa, sa⟩ := hm _ (hat c.1.1 c.1.2)
      obtain ⟨fb, sb⟩ := hm _ (hat c.2.1.1 c.2.1.2)
      refine outF_sat ?_
      show dot (sumL _ _ _ _) x ≤ (rowAt made l.a).b * l.m + (rowAt made l.b).b * l.n
      rw [dot_sum _ _ _ _ _ (by rw [fa.1, fb.1])]
      have p1 := Int.mul_le_mul_of_nonneg_right sa (by omega : 0 ≤ l.m)
      have p2 := Int.mul_le_mul_of_nonneg_right sb (by omega : 0 ≤ l.n)
      omega
    · simp
  split
  · split
    · rename_i c
      obtain ⟨fa, sa⟩ := hm _ (hat c.1.1 c.1.2)
      split
      · simp
      · rename_i c2
        refine outF_sat ?_
        have hall : ∀ z ∈ (rowAt made l.a).c, z.tmod l.m = 0 := fun z hz => by
          simp only [Bool.not_eq_true, List.any_eq_false] at c2
          simpa using c2 z hz
        have e := dot_div _ l.m x hall
        exact floor_ge (fits_small fa).2 c.2.1 (by rw [← e]; exact sa)
    · simp
  · simp
theorem deriveGo_sat {rows : List Row} {n : Nat} {x : List Int} (hx : SmallX x) (hn : n = x.length) (hr : ∀ r ∈ rows, r.c.length ≤ n ∧ Sat x r) : ∀ (ls : List Line) (made : List Row), (∀ r ∈ made, Fits n r ∧ Sat x r) → ∀ r ∈ (deriveGo rows n made ls).1, Fits n r ∧ Sat x r
  | [], made, h => h
  | l :: ls, made, h => by
    unfold deriveGo
    split
    · rename_i he
      refine deriveGo_sat hx hn hr ls _ fun r hr' => ?_
      rcases List.mem_append.1 hr' with hr' | hr'
      · exact h r hr'
      · rw [List.mem_singleton.1 hr']
        exact ⟨makeF_ok (fun r h' => (h r h').1) he, makeF_sat hx hn hr h he⟩
    · simp
theorem sound_true (rows : List Row) (ls : List Line) (x : List Int) : soundF rows ls x = true := by
  unfold soundF
  split
  · rfl
  rename_i hg
  split
  · rename_i hc
    obtain ⟨c1, c2, c3⟩ := hc
    simp only [soundGuard, Bool.or_eq_true, Bool.not_eq_true', not_or, Bool.not_eq_false, Bool.not_eq_true] at hg
    obtain ⟨hfew, hx1⟩ := hg
    unfold holdsF at c1 c3
    by_cases hr : rightF rows = 0
    · rw [if_pos hr] at c1 c3
      by_cases hl : (x.length : Int) = unkF rows
      · rw [if_pos hl] at c1 c3
        by_cases hany : x.any (fun n => decide (n < 0) || decide (1000000 < n)) = true
        · rw [if_pos hany] at c1; simp at c1
        · rw [if_neg hany] at c3
          have hn : unkN rows = x.length := by unfold unkN; omega
          have h12 := unkN_le hr
          have hsx : SmallX x := by
            intro y hy
            simp only [Bool.not_eq_true, List.any_eq_false] at hany hx1
            have a := hany y hy
            have b := hx1 y hy
            simp at a b
            omega
          have hro := (rightF_ok hr).2
          have hsat : ∀ r ∈ rows, r.c.length ≤ unkN rows ∧ Sat x r := fun r hr' => by
            obtain ⟨r1, r2, r3⟩ := hro r hr'
            refine ⟨len_unkN hr', ?_⟩
            simp only [Bool.not_eq_true', List.any_eq_false] at c3
            have := c3 r hr'
            simp only [over, Bool.not_eq_true, decide_eq_false_iff_not] at this
            rw [dotGo_eq rfl rfl r.c x 0 (fun c hc => by have := r3 c hc; simp [far] at this; omega) hsx (by omega) (by omega)] at this
            show dot r.c x ≤ r.b
            omega
          have hd : ∀ r ∈ (deriveF rows ls).1, Fits (unkN rows) r ∧ Sat x r := by
            unfold deriveF
            rw [if_pos hr]
            split
            · simp
            · exact deriveGo_sat hsx hn hsat ls [] (by simp)
          rw [Bool.and_eq_true]
          constructor
          · unfold soundRows
            rw [List.all_eq_true]
            intro r hr'
            obtain ⟨f1, f2⟩ := hd r hr'
            have hlr : r.c.length = x.length := by rw [f1.1, hn]
            rw [Bool.and_eq_true]
            refine ⟨by simp; omega, ?_⟩
            unfold fulF
            rw [fulGo_eq rfl rfl r x 0 0 (by omega) (fits_small f1).1 hsx (by omega) (by omega)]
            simp only [List.drop_zero, Int.zero_add, decide_eq_true_eq]
            exact f2
          · rw [decide_eq_true_eq]
            unfold checkF
            rw [if_pos c2]
            unfold lastF
            split
            · simp
            · rename_i hlast
              exfalso
              simp only [not_or, Bool.not_eq_false] at hlast
              obtain ⟨hne, hab⟩ := hlast
              have hmem : rowAt (deriveF rows ls).1 (((deriveF rows ls).1.length : Int) - 1) ∈ (deriveF rows ls).1 := by
                have hp := List.length_pos_iff.2 hne
                have h2 : (((deriveF rows ls).1.length : Int) - 1).toNat < (deriveF rows ls).1.length := by omega
                unfold rowAt
                rw [List.getD_eq_getElem?_getD]
                simp only [h2, List.getElem?_eq_getElem, Option.getD_some]; exact List.getElem_mem _
              obtain ⟨f1, f2⟩ := hd _ hmem
              simp only [absurdF, Bool.and_eq_true, decide_eq_true_eq, Bool.not_eq_true', List.any_eq_false] at hab
              have hz : ∀ (cs ys : List Int), (∀ c ∈ cs, c = 0) → dot cs ys = 0 := by
                intro cs
                induction cs with
                | nil => intro ys _; cases ys <;> rfl
                | cons c cs ih =>
                  intro ys h
                  cases ys with
                  | nil => rfl
                  | cons y ys => rw [dot, ih ys fun z hz => h z (List.mem_cons_of_mem _ hz), h c (List.mem_cons_self ..)]; simp
              have := hz _ x fun c hc => by simpa using hab.2 c hc
              unfold Sat at f2
              omega
      · rw [if_neg hl] at c1; simp at c1
    · rw [if_neg hr] at c1; simp at c1; exact absurd c1 hr
  · rfl
end Go.PV.Ytefpjfpelicedaa
end
