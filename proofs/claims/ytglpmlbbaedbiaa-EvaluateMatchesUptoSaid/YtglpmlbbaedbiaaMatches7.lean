/- Part 7 of 9 of what the proof of Matches needs. -/
import Derived.Test.YtglpmlbbaedbiaaMatches6
section
/- Match, here and there. -/
set_option linter.unusedVariables false
set_option linter.unusedSimpArgs false
set_option maxRecDepth 20000
set_option maxHeartbeats 4000000
namespace Go.PV.Ytglpmlbbaedbiaa
open Go Go.Proofs
def matchF (p : Pa) (e : Ex) : List ByteArray × List Ex × Bool × Int :=
  if p.names.Nodup then (if (p.parts e []).2 = true then ((p.parts e []).1.map (·.1), (p.parts e []).1.map (·.2), true, 0) else ([], [], false, 0)) else ([], [], false, 10)
abbrev mtV (r : List ByteArray × List Ex × Bool × Int) : VV := .tuple [strsV r.1, exsV r.2.1, bV r.2.2.1, iV r.2.2.2]
def mtQ (H0 : AH) (R : List ByteArray × List Ex × Bool × Int) : VE → AH → Prop := fun e H' => ∃ y, e = VE.ret y ∧ GhV H' y H0 (mtV R)
theorem mt_nil {H0 H : AH} (hs : SubH H0 H) (b : Bool) (c : Int) : GhV H (.tuple [.lit (.slice none 0 0), .lit (.slice none 0 0), bV b, iV c]) H0 (mtV ([], [], b, c)) :=
  GhV.tuple (GhL.cons ((GhV.nil _).trans (GhV.forget hs _)) (GhL.cons (GhV.nil _) (GhL.cons (GhV.refl _ _) (GhL.cons (GhV.refl _ _) (GhL.nil _)))))
theorem map_take_snoc {α β : Type} (f : α → β) {l : List α} {i : Nat} (h : i < l.length) : (l.take (i + 1)).map f = (l.take i).map f ++ [f l[i]] := by rw [take_snoc h, List.map_append]; rfl
theorem match_ok (p : Pa) (e : Ex) (hp : p.sz ≤ 1099511627776) (he : e.sz ≤ 1099511627776) (hz : ∀ s ∈ p.names, s.size ≤ maxLen) : PureF Try.prog 16 [paV p, exV e] (mtV (matchF p e)) := by
  have hn := names_ok (p.sz + 1) [p] (by simp [pasSz]) (by simpa [pasSz] using hp)
  have hns : pasNames [p] = p.names := by simp [pasNames]
  rw [hns] at hn
  have ht := twice_ok p.names (by have := p.names_len; omega) hz
  have hm := parts_ok _ p e [] (Nat.lt_succ_self _) he (by simpa using hp)
  have hl := p.parts_len e []
  refine GivesF.pure fun H0 => ?_
  show VCalls Try.prog _ _ H0 (mtQ H0 (matchF p e))
  refine vcalls_intro fd16 (by simp) ?_
  unfold c16
  have hgn : ∀ (K : VE → AH → Prop) (H : AH), K (.ret (strsV p.names)) H → VCalls Try.prog 34 [.slice true 1 [bV p.con, sV p.name, encS paE p.kids]] H K := fun K H hK => by
    refine vcalls_ghost (GhL.cons (GhV.imm H) (GhL.nil _)) ?_
    have e1 : VV.slice false 1 [bV p.con, sV p.name, encS paE p.kids] = pasV [p] := by rw [show [bV p.con, sV p.name, encS paE p.kids] = encC paE [p] from by rw [encC_cons, encC_nil, List.append_nil, paE_eq]]; rfl
    rw [e1]
    exact hn.use hK
  have hgm : ∀ (K : VE → AH → Prop) (H : AH), K (.ret (prtV (p.parts e []))) H → VCalls Try.prog 35 [paV p, exV e, .lit (.slice none 0 0)] H K := fun K H hK =>
    vcalls_ghost (GhL.cons (GhV.refl _ _) (GhL.cons (GhV.refl _ _) (GhL.cons (GhV.nil _) (GhL.nil _)))) (hm.use hK)
  clear hn hm hns hz
  by_cases hd : p.names.Nodup
  · have hdd : (!decide p.names.Nodup) = false := by rw [decide_eq_true hd]; rfl
    rw [hdd] at ht
    have hR : matchF p e = if (p.parts e []).2 = true then ((p.parts e []).1.map (·.1), (p.parts e []).1.map (·.2), true, 0) else ([], [], false, 0) := by rw [matchF, if_pos hd]
    clear hdd hd
    generalize p.parts e [] = r at *
    obtain ⟨l, b⟩ := r
    cases b with
    | false =>
      simp only [Bool.false_eq_true, if_false] at hR
      rw [hR]
      clear hR
      (repeat' (first | (refine hgn _ _ ?_) | (refine hgm _ _ ?_) | (simp only [↓s_skip, ↓s_reg, ↓s_seq, ↓s_cond, ↓s_condT, ↓s_condF, ↓s_ret, ↓s_nil, ↓s_consN, ↓s_thenN, ↓s_thenR, ↓s_kret, ↓s_putS, ↓s_dOkS, ↓s_ev_t, ↓s_ev_c, ↓s_ev_f, ↓s_upd, ↓s_move, ↓s_assign, ↓s_load, ↓s_un, ↓s_box, ↓s_buildSlice, ↓s_extract, ↓s_callV, ↓s_callL, ↓s_un_not, vcExtract, ptrV, boolV, List.map_cons, List.map_nil, List.length_cons, List.length_nil, List.getD_cons_zero, List.getD_cons_succ, List.getD_nil, List.append_nil, ite_true, ite_false, Nat.reduceEqDiff, Nat.reduceLT, Nat.reduceAdd, Nat.reduceMul, Nat.reduceLeDiff, true_and, Nat.succ_ne_self, Bool.not_false, undefV, AH.get, fillV, setAt, eq_self, Nat.zero_add, List.drop, and_self, List.getElem?_cons_zero, List.getElem?_cons_succ, ldV_t3, cl_agg, List.set_cons_zero, List.set_cons_succ, ↓n_box, Nat.le_refl, n_ldP, n_ldA, n_ldB, undef, vcBuildSlice, List.replicate_succ, List.replicate_zero, List.flatten_cons, List.flatten_nil, vcBuildSlice, ldT_34, ldT_57, zeroT_57, elT_55, en_34, en_33, en_35, *]) | (refine allNew_intro fun zr zh => ?_; have zg := zh; (try simp only [AH.set_none] at zg)) | (refine PureF.use (ht) ?_)))
      rename_i r1 n1 n1'
      exact retPost_ret rfl (by simp only [resV, resAll, resOne, s_upd, Nat.reduceEqDiff, if_true, if_false, Option.bind_some, Option.map_some, tupV, *] <;> rfl) ⟨_, rfl, mt_nil ((SubH.new n1).of_set zg.2) _ _⟩
    | true =>
      simp only [if_true] at hR
      rw [hR]
      clear hR
      have hlN : l.length ≤ 1099511627776 := by simp only [List.length_nil] at hl; omega
      (repeat' (first | (refine hgn _ _ ?_) | (refine hgm _ _ ?_) | (simp only [↓s_skip, ↓s_reg, ↓s_seq, ↓s_seqL, ↓s_cond, ↓s_condF, ↓s_block, ↓s_loop, ↓s_nil, ↓s_consN, ↓s_thenN, ↓s_kret, ↓s_putS, ↓s_dOkS, ↓s_ev_t, ↓s_ev_c, ↓s_ev_f, ↓s_upd, ↓s_move, ↓s_assign, ↓s_load, ↓s_un, ↓s_box, ↓s_buildSlice, ↓s_extract, ↓s_callB, ↓s_callV, ↓s_callL, ↓s_len, ↓s_un_not, vcExtract, ptrV, intV, boolV, List.map_cons, List.map_nil, List.length_cons, List.length_nil, List.getD_cons_zero, List.getD_cons_succ, List.getD_nil, List.append_nil, ite_true, ite_false, Nat.reduceEqDiff, Nat.reduceLT, Nat.reduceAdd, Nat.reduceMul, Nat.reduceLeDiff, ne_eq, not_false_eq_true, true_and, Nat.succ_ne_self, Bool.not_true, reduceCtorEq, undefV, AH.get, fillV, setAt, eq_self, Nat.zero_add, List.drop, and_self, List.getElem?_cons_zero, List.getElem?_cons_succ, ldV_t3, cl_agg, List.set_cons_zero, List.set_cons_succ, ↓n_box, Nat.le_refl, n_ldP, n_lenS, n_ldA, n_ldB, undef, vcBuildSlice, List.replicate_succ, List.replicate_zero, List.flatten_cons, List.flatten_nil, vcBuildSlice, ldT_34, ldT_57, zeroT_57, elT_96, elT_55, en_34, en_33, en_35, *]) | (refine allNew_intro fun zr zh => ?_; have zg := zh; (try simp only [AH.set_none] at zg)) | (refine PureF.use (ht) ?_)))
      rename_i r1 n1 n1'
      have hs0 := (SubH.new n1 (b := .cells 57 [bV p.con, sV p.name, encS paE p.kids] 0)).of_set (b := .cells 34 [iV e.op, sV e.name, encS exE e.kids] 0) zg.2
      refine acx_loop (fun _ _ _ h => h) (fun A H' => A.d = [] ∧ A.t 26 = bdsV l ∧ A.t 27 = iV l.length ∧ ∃ (i : Nat) (Hm : AH), i ≤ l.length ∧ A.t 28 = iV i ∧ OutE H0 Hm 9 1 (A.t 10) i (encC strE ((l.take i).map (·.1))) ∧ OutE Hm H' 34 3 (A.t 11) i (encC exE ((l.take i).map (·.2))))
        (fun A _ => match A.t 28 with | .lit (.int _ i) => ((l.length : Int) - i).toNat | _ => 0) ?_ ?_
      · exact ⟨rfl, (by simp only [s_upd, Nat.reduceEqDiff, if_true, if_false, *] <;> rfl), (by simp only [s_upd, Nat.reduceEqDiff, if_true, if_false, *] <;> rfl), 0, _, by omega, (by simp only [s_upd, Nat.reduceEqDiff, if_true, if_false, *] <;> rfl), OutE.nil hs0, OutE.nil (SubH.refl _)⟩
      · clear hgn hgm ht
        rintro ⟨t, d⟩ H' ⟨rfl, h26, h27, i, Hm, hi, h28, ho1, ho2⟩
        dsimp only at h26 h27 h28 ho1 ho2
        unfold b16_1
        by_cases hlt : i < l.length
        · have hil : (i : Int) < (l.length : Int) := by omega
          obtain ⟨Hx, x1, x2⟩ := ho1.swap ho2
          have e1 := map_take_snoc (fun b : Bd => b.1) hlt
          have e2 := map_take_snoc (fun b : Bd => b.2) hlt
          have hA : (i + 1) * 48 ≤ 140737488355328 ∧ (i + 1) * 16 ≤ 140737488355328 ∧ i + 1 ≤ 9223372036854775807 := by omega
          have hh : ∀ z (b : Blk), H' z = none → SubH (Hx.set z b) (H'.set z b) := fun z b hz => (x2.allocB hz b).sub
          (repeat' (first | (refine acx_dreg mixed (fun _ _ _ _ e h => ⟨e.trans h.1, h.2⟩) _ (hh _ _ zh) ?_) | (simp only [↓s_skip, ↓s_reg, ↓s_seq, ↓s_cond, ↓s_condT, ↓s_block, ↓s_dreg, ↓s_nil, ↓s_consN, ↓s_thenN, ↓s_kret, ↓s_putS, ↓s_putN, ↓s_dOkS, ↓s_dOkN, ↓s_ev_t, ↓s_upd, ↓s_move, ↓s_load, ↓s_store, ↓s_bin, ↓s_alloc, ↓s_buildSlice, ↓s_fieldAddr, ↓s_indexAddr, ↓s_callB, ↓s_append, ↓s_bin_lss, ptrV, List.map_cons, List.map_nil, List.length_cons, List.length_nil, List.append_nil, ite_true, ite_false, Nat.reduceEqDiff, Nat.reduceLT, Nat.reduceAdd, Nat.reduceMul, Nat.reduceLeDiff, ne_eq, not_false_eq_true, true_and, Nat.succ_ne_self, decide_true, reduceCtorEq, Int.natCast_nonneg, Int.toNat_natCast, Nat.mul_one, ↓s_plTkN, ↓s_plOneN, AH.get, AH.set_set, fillV, setAt, List.all_cons, List.all_nil, Bool.and_self, eq_self, Nat.zero_add, Nat.add_zero, List.drop, and_self, ldV_f, ldV_t3, ldV_t4, on_int, cl_str, on_str, cl_agg, on_slice, List.set_cons_zero, List.set_cons_succ, ↓n_alloc, n_allocS, Nat.le_refl, n_ldI, n_ldP, n_faP, n_ixS, n_ixA1, n_ldA, n_ldC, n_ldB, n_faA, n_stP, n_stA, ↓s_plK, vcBuildSlice, List.replicate_succ, List.replicate_zero, List.flatten_cons, List.flatten_nil, bd_drop, vcBuildSlice, flT_102_0, flT_102_1, ldT_102, ldT_9, ldT_34, szT_102, zeroT_102, zeroT_34, elT_96, elT_52, zeroT_9, elT_32, *]) | (refine allNew_intro fun zr zh => ?_; have zg := zh; (try simp only [AH.set_none] at zg))))
          have y0 := x2.allocB zh (.cells 102 [sV l[i].1, iV l[i].2.op, sV l[i].2.name, exsV l[i].2.kids] 0)
          refine y0.append1 elT_52 zeroT_9 rfl (by omega) rfl rfl hA.2.1 hA.2.2 (fun v1 H1 y1 => ?_)
          obtain ⟨Hy, y2, y3⟩ := (x1.alloc (x2.sub.none zh) _).swap y1
          have hsub := y1.sub
          (repeat' (first | (simp only [↓s_consN, ↓s_kret, ↓s_putS, ↓s_dOkS, ↓s_ev_t, ↓s_upd, ↓s_callB, ↓s_append, List.map_cons, List.map_nil, ite_true, ite_false, Nat.reduceEqDiff, Nat.reduceLT, true_and, Nat.succ_ne_self, ↓s_plFin, eq_self, ↓s_oneK, *])))
          refine y3.append1 elT_32 zeroT_34 rfl (by omega) rfl rfl hA.1 hA.2.2 (fun v2 H2 y4 => ?_)
          rw [show encC strE ((l.take i).map (·.1)) ++ [VV.lit (.string l[i].1)] = encC strE ((l.take (i + 1)).map (·.1)) from by rw [e1, encC_append]; rfl] at y2
          rw [show encC exE ((l.take i).map (·.2)) ++ [iV l[i].2.op, sV l[i].2.name, exsV l[i].2.kids] = encC exE ((l.take (i + 1)).map (·.2)) from by rw [e2, encC_append, encC_cons, encC_nil, List.append_nil, exE_eq]] at y4
          (repeat' (first | (simp only [↓s_reg, ↓s_nil, ↓s_consN, ↓s_thenN, ↓s_inN, ↓s_kret, ↓s_putS, ↓s_dOkS, ↓s_ev_t, ↓s_ev_c, ↓s_upd, ↓s_move, ↓s_assign, ↓s_bin, ↓s_bin_add, ite_true, ite_false, Nat.reduceEqDiff, Nat.reduceLT, true_and, Nat.succ_ne_self, eq_self, *]) | (with_reducible refine And.intro ?_ ?_)))
          all_goals rw [wrap_ok (n := (i : Int) + 1) (by omega) (by omega)]
          · exact ⟨i + 1, _, by omega, rfl, y2, y4⟩
          · omega
        · have hie : i = l.length := by omega
          subst hie
          rw [List.take_of_length_le (Nat.le_refl _)] at ho1 ho2
          obtain ⟨Hx, x1, x2⟩ := ho1.swap ho2
          (repeat' (first | (simp only [↓s_reg, ↓s_seq, ↓s_cond, ↓s_condF, ↓s_exit, ↓s_nil, ↓s_consN, ↓s_thenN, ↓s_thenE, ↓s_inE, ↓s_kret, ↓s_putS, ↓s_dOkS, ↓s_ev_t, ↓s_upd, ↓s_bin, ↓s_bin_lss, ite_true, Nat.reduceLT, true_and, decide_false, eq_self, Int.ofNat_lt, *]) | (refine acx_go rfl (fun _ _ _ h => h) ?_)))
          unfold c16_1
          (repeat' (first | (simp only [↓s_reg, ↓s_seq, ↓s_ret, ↓s_nil, ↓s_consN, ↓s_thenN, ↓s_putS, ↓s_dOkS, ↓s_ev_t, ↓s_ev_c, ↓s_upd, ↓s_move, ↓s_assign, ite_true, ite_false, Nat.reduceEqDiff, Nat.reduceLT, true_and, Nat.succ_ne_self, eq_self, *])))
          have g1 : GhV H' (t 10) Hx (strsV (l.map (·.1))) := by rw [strsV, encS, List.length_map]; exact x2.back
          have g2 : GhV Hx (t 11) H0 (exsV (l.map (·.2))) := by rw [exsV, encS, List.length_map]; exact x1.back
          exact retPost_ret rfl (by simp only [resV, resAll, resOne, s_upd, Nat.reduceEqDiff, if_true, if_false, Option.bind_some, Option.map_some, tupV, *] <;> rfl) ⟨_, rfl, GhV.tuple (GhL.cons g1 (GhL.cons g2 (GhL.cons (GhV.refl _ _) (GhL.cons (GhV.refl _ _) (GhL.nil _)))))⟩
  · have hdd : (!decide p.names.Nodup) = true := by rw [decide_eq_false hd]; rfl
    rw [hdd] at ht
    have hR : matchF p e = ([], [], false, 10) := by rw [matchF, if_neg hd]
    rw [hR]
    clear hR hdd hd hgm
    (repeat' (first | (refine hgn _ _ ?_) | (simp only [↓s_reg, ↓s_seq, ↓s_cond, ↓s_condT, ↓s_ret, ↓s_nil, ↓s_consN, ↓s_thenN, ↓s_thenR, ↓s_kret, ↓s_putS, ↓s_dOkS, ↓s_ev_t, ↓s_ev_c, ↓s_ev_f, ↓s_upd, ↓s_assign, ↓s_load, ↓s_box, ↓s_buildSlice, ↓s_callV, ↓s_callL, ptrV, boolV, List.map_cons, List.map_nil, List.length_cons, List.length_nil, List.getD_cons_zero, List.getD_cons_succ, List.getD_nil, List.append_nil, ite_true, ite_false, Nat.reduceEqDiff, Nat.reduceLT, Nat.reduceAdd, Nat.reduceMul, Nat.reduceLeDiff, true_and, Nat.succ_ne_self, undefV, AH.get, fillV, setAt, eq_self, Nat.zero_add, List.drop, and_self, ldV_t3, cl_agg, List.set_cons_zero, List.set_cons_succ, ↓n_box, Nat.le_refl, n_ldP, n_ldA, n_ldB, undef, vcBuildSlice, List.replicate_succ, List.replicate_zero, List.flatten_cons, List.flatten_nil, vcBuildSlice, ldT_57, zeroT_57, elT_55, en_34, en_33, *]) | (refine allNew_intro fun zr zh => ?_; have zg := zh; (try simp only [AH.set_none] at zg)) | (refine PureF.use (ht) ?_)))
    rename_i r1 n1 n1'
    exact retPost_ret rfl (by simp only [resV, resAll, resOne, s_upd, Nat.reduceEqDiff, if_true, if_false, Option.bind_some, Option.map_some, tupV, *] <;> rfl) ⟨_, rfl, mt_nil ((SubH.new n1).of_set zg.2) _ _⟩
theorem rmatch_ok (p : Pa) (e : Ex) (hp : p.sz ≤ 1099511627776) (he : e.sz ≤ 1099511627776) : PureF Try.prog 19 [paV p, exV e] (mtV (matchF p e)) := by
  have hn := rnames_ok p hp
  have ht := rtwice_ok p.names (by have := p.names_len; omega)
  have hm := rmatched_ok _ p e [] (Nat.lt_succ_self _) he (by simpa using hp)
  obtain ⟨hm1, hm2⟩ := p.mat_parts e []
  have hl := p.mat_len e []
  refine GivesF.pure fun H0 => ?_
  show VCalls Try.prog _ _ H0 (mtQ H0 (matchF p e))
  refine vcalls_intro fd19 (by simp) ?_
  unfold c19
  have hgm : ∀ (K : VE → AH → Prop) (H : AH), K (.ret (prtV (p.mat e []))) H → VCalls Try.prog 40 [paV p, exV e, .lit (.slice none 0 0)] H K := fun K H hK =>
    vcalls_ghost (GhL.cons (GhV.refl _ _) (GhL.cons (GhV.refl _ _) (GhL.cons (GhV.nil _) (GhL.nil _)))) (hm.use hK)
  clear hm
  by_cases hd : p.names.Nodup
  · have hdd : (!decide p.names.Nodup) = false := by rw [decide_eq_true hd]; rfl
    rw [hdd] at ht
    have hR : matchF p e = if (p.mat e []).2 = true then ((p.mat e []).1.map (·.1), (p.mat e []).1.map (·.2), true, 0) else ([], [], false, 0) := by
      rw [matchF, if_pos hd, hm1]
      split
      · rename_i h; rw [hm2 h]
      · rfl
    clear hdd hd hm1 hm2
    generalize p.mat e [] = r at *
    obtain ⟨l, b⟩ := r
    cases b with
    | false =>
      simp only [Bool.false_eq_true, if_false] at hR
      rw [hR]
      clear hR
      (repeat' (first | (refine hgm _ _ ?_) | (simp only [↓s_skip, ↓s_reg, ↓s_seq, ↓s_cond, ↓s_condT, ↓s_condF, ↓s_ret, ↓s_nil, ↓s_consN, ↓s_thenN, ↓s_thenR, ↓s_kret, ↓s_putS, ↓s_dOkS, ↓s_ev_t, ↓s_ev_c, ↓s_ev_f, ↓s_upd, ↓s_move, ↓s_assign, ↓s_load, ↓s_un, ↓s_box, ↓s_extract, ↓s_callV, ↓s_callL, ↓s_un_not, vcExtract, ptrV, boolV, List.map_cons, List.map_nil, List.getD_cons_zero, List.getD_cons_succ, List.getD_nil, ite_true, ite_false, Nat.reduceEqDiff, Nat.reduceLT, true_and, Nat.succ_ne_self, Bool.not_false, undefV, AH.get, eq_self, List.drop, List.getElem?_cons_zero, List.getElem?_cons_succ, ldV_t3, cl_agg, ↓n_box, n_ldP, n_ldA, n_ldB, undef, ldT_28, ldT_50, en_39, en_38, en_40, *]) | (refine allNew_intro fun zr zh => ?_; have zg := zh; (try simp only [AH.set_none] at zg)) | (refine PureF.use (hn) ?_) | (refine PureF.use (ht) ?_)))
      rename_i r1 n1 n1'
      exact retPost_ret rfl (by simp only [resV, resAll, resOne, s_upd, Nat.reduceEqDiff, if_true, if_false, Option.bind_some, Option.map_some, tupV, *] <;> rfl) ⟨_, rfl, mt_nil ((SubH.new n1).of_set zg.2) _ _⟩
    | true =>
      simp only [if_true] at hR
      rw [hR]
      clear hR
      have hlN : l.length ≤ 1099511627776 := by simp only [List.length_nil] at hl; omega
      (repeat' (first | (refine hgm _ _ ?_) | (simp only [↓s_skip, ↓s_reg, ↓s_seq, ↓s_seqL, ↓s_cond, ↓s_condF, ↓s_block, ↓s_loop, ↓s_nil, ↓s_consN, ↓s_thenN, ↓s_kret, ↓s_putS, ↓s_dOkS, ↓s_ev_t, ↓s_ev_c, ↓s_ev_f, ↓s_upd, ↓s_move, ↓s_assign, ↓s_load, ↓s_un, ↓s_box, ↓s_buildSlice, ↓s_extract, ↓s_callV, ↓s_callL, ↓s_un_not, vcExtract, ptrV, boolV, List.map_cons, List.map_nil, List.length_cons, List.length_nil, List.getD_cons_zero, List.getD_cons_succ, List.getD_nil, ite_true, ite_false, Nat.reduceEqDiff, Nat.reduceLT, Nat.reduceAdd, Nat.reduceMul, Nat.reduceLeDiff, true_and, Nat.succ_ne_self, Bool.not_true, Nat.mul_one, undefV, AH.get, fillV, eq_self, Nat.zero_add, List.drop, and_self, List.getElem?_cons_zero, List.getElem?_cons_succ, ldV_t3, cl_agg, ↓n_box, n_ldP, n_ldA, n_ldB, undef, vcBuildSlice, List.replicate_zero, List.flatten_nil, vcBuildSlice, ldT_28, ldT_50, zeroT_28, elT_52, zeroT_9, elT_25, en_39, en_38, en_40, *]) | (refine allNew_intro fun zr zh => ?_; have zg := zh; (try simp only [AH.set_none] at zg)) | (refine PureF.use (hn) ?_) | (refine PureF.use (ht) ?_)))
      rename_i r1 n1 n1'
      have hs0 := (SubH.new n1 (b := .cells 50 [bV p.con, sV p.name, encS paE p.kids] 0)).of_set (b := .cells 28 [iV e.op, sV e.name, encS exE e.kids] 0) zg.2
      refine acx_loop (fun _ _ _ h => h) (fun A H' => A.d = [] ∧ A.t 8 = bdsV l ∧ ∃ (i : Nat) (Hm : AH), i ≤ l.length ∧ A.t 12 = iV i ∧ OutE H0 Hm 9 1 (A.t 10) i (encC strE ((l.take i).map (·.1))) ∧ OutE Hm H' 28 3 (A.t 11) i (encC exE ((l.take i).map (·.2))))
        (fun A _ => match A.t 12 with | .lit (.int _ i) => ((l.length : Int) - i).toNat | _ => 0) ?_ ?_
      · exact ⟨rfl, (by simp only [s_upd, Nat.reduceEqDiff, if_true, if_false, *] <;> rfl), 0, _, by omega, (by simp only [s_upd, Nat.reduceEqDiff, if_true, if_false, *] <;> rfl), OutE.start hs0, OutE.start (SubH.refl _)⟩
      · clear hgm ht hn
        rintro ⟨t, d⟩ H' ⟨rfl, h8, i, Hm, hi, h12, ho1, ho2⟩
        dsimp only at h8 h12 ho1 ho2
        unfold b19_1
        by_cases hlt : i < l.length
        · have hil : (i : Int) < (l.length : Int) := by omega
          obtain ⟨Hx, x1, x2⟩ := ho1.swap ho2
          have e1 := map_take_snoc (fun b : Bd => b.1) hlt
          have e2 := map_take_snoc (fun b : Bd => b.2) hlt
          have hA : (i + 1) * 48 ≤ 140737488355328 ∧ (i + 1) * 16 ≤ 140737488355328 ∧ i + 1 ≤ 9223372036854775807 := by omega
          (repeat' (first | (simp only [↓s_skip, ↓s_reg, ↓s_seq, ↓s_cond, ↓s_condT, ↓s_block, ↓s_nil, ↓s_consN, ↓s_thenN, ↓s_kret, ↓s_putS, ↓s_dOkS, ↓s_ev_t, ↓s_upd, ↓s_move, ↓s_load, ↓s_bin, ↓s_buildSlice, ↓s_fieldAddr, ↓s_indexAddr, ↓s_callB, ↓s_len, ↓s_append, ↓s_bin_lss, intV, List.map_cons, List.map_nil, List.length_cons, List.length_nil, List.append_nil, ite_true, ite_false, Nat.reduceEqDiff, Nat.reduceLT, Nat.reduceLeDiff, ne_eq, not_false_eq_true, true_and, Nat.succ_ne_self, decide_true, reduceCtorEq, Int.natCast_nonneg, Int.toNat_natCast, Nat.mul_one, fillV, setAt, eq_self, Nat.zero_add, List.drop, and_self, ldV_f, cl_str, List.set_cons_zero, Nat.le_refl, n_ldI, n_faI, n_ixS, n_ixA1, n_lenS, n_ldC, n_ldB, n_faA, vcBuildSlice, List.replicate_succ, List.replicate_zero, List.flatten_cons, List.flatten_nil, bd_drop, vcBuildSlice, flT_108_0, ldT_9, elT_104, elT_52, zeroT_9, *])))
          refine x2.append1 elT_52 zeroT_9 rfl (by omega) rfl rfl hA.2.1 hA.2.2 (fun v1 H1 y1 => ?_)
          obtain ⟨Hy, y2, y3⟩ := x1.swap y1
          (repeat' (first | (simp only [↓s_reg, ↓s_nil, ↓s_consN, ↓s_thenN, ↓s_kret, ↓s_putS, ↓s_dOkS, ↓s_ev_t, ↓s_upd, ↓s_move, ↓s_assign, ↓s_load, ↓s_buildSlice, ↓s_fieldAddr, ↓s_indexAddr, ↓s_callB, ↓s_append, List.map_cons, List.map_nil, List.length_cons, List.length_nil, List.append_nil, ite_true, ite_false, Nat.reduceEqDiff, Nat.reduceLT, Nat.reduceAdd, Nat.reduceMul, Nat.reduceLeDiff, ne_eq, not_false_eq_true, true_and, Nat.succ_ne_self, reduceCtorEq, Int.natCast_nonneg, Int.toNat_natCast, fillV, setAt, eq_self, Nat.zero_add, List.drop, and_self, ldV_t3, cl_agg, List.set_cons_zero, List.set_cons_succ, Nat.le_refl, n_ldI, n_faI, n_ixS, n_ixA1, n_ldC, n_ldB, n_faA, vcBuildSlice, List.replicate_succ, List.replicate_zero, List.flatten_cons, List.flatten_nil, bd_drop, vcBuildSlice, flT_108_1, ldT_28, zeroT_28, elT_104, elT_25, *])))
          refine y3.append1 elT_25 zeroT_28 rfl (by omega) rfl rfl hA.1 hA.2.2 (fun v2 H2 y4 => ?_)
          rw [show encC strE ((l.take i).map (·.1)) ++ [VV.lit (.string l[i].1)] = encC strE ((l.take (i + 1)).map (·.1)) from by rw [e1, encC_append]; rfl] at y2
          rw [show encC exE ((l.take i).map (·.2)) ++ [iV l[i].2.op, sV l[i].2.name, exsV l[i].2.kids] = encC exE ((l.take (i + 1)).map (·.2)) from by rw [e2, encC_append, encC_cons, encC_nil, List.append_nil, exE_eq]] at y4
          (repeat' (first | (simp only [↓s_reg, ↓s_nil, ↓s_consN, ↓s_thenN, ↓s_inN, ↓s_kret, ↓s_putS, ↓s_dOkS, ↓s_ev_t, ↓s_ev_c, ↓s_upd, ↓s_move, ↓s_assign, ↓s_bin, ↓s_bin_add, ite_true, ite_false, Nat.reduceEqDiff, Nat.reduceLT, true_and, Nat.succ_ne_self, eq_self, *]) | (with_reducible refine And.intro ?_ ?_)))
          all_goals rw [wrap_ok (n := (i : Int) + 1) (by omega) (by omega)]
          · exact ⟨i + 1, _, by omega, rfl, y2, y4⟩
          · omega
        · have hie : i = l.length := by omega
          subst hie
          rw [List.take_of_length_le (Nat.le_refl _)] at ho1 ho2
          obtain ⟨Hx, x1, x2⟩ := ho1.swap ho2
          (repeat' (first | (simp only [↓s_reg, ↓s_seq, ↓s_cond, ↓s_condF, ↓s_exit, ↓s_nil, ↓s_consN, ↓s_thenN, ↓s_thenE, ↓s_inE, ↓s_kret, ↓s_putS, ↓s_dOkS, ↓s_ev_t, ↓s_upd, ↓s_move, ↓s_bin, ↓s_callB, ↓s_len, ↓s_bin_lss, intV, List.map_cons, List.map_nil, ite_true, ite_false, Nat.reduceEqDiff, Nat.reduceLT, ne_eq, not_false_eq_true, true_and, Nat.succ_ne_self, decide_false, reduceCtorEq, eq_self, Int.ofNat_lt, n_lenS, elT_104, *]) | (refine acx_go rfl (fun _ _ _ h => h) ?_)))
          unfold c19_1
          (repeat' (first | (simp only [↓s_reg, ↓s_seq, ↓s_ret, ↓s_nil, ↓s_consN, ↓s_thenN, ↓s_putS, ↓s_dOkS, ↓s_ev_t, ↓s_ev_c, ↓s_upd, ↓s_move, ↓s_assign, ite_true, ite_false, Nat.reduceEqDiff, Nat.reduceLT, true_and, Nat.succ_ne_self, eq_self, *])))
          have g1 : GhV H' (t 10) Hx (strsV (l.map (·.1))) := by rw [strsV, encS, List.length_map]; exact x2.back
          have g2 : GhV Hx (t 11) H0 (exsV (l.map (·.2))) := by rw [exsV, encS, List.length_map]; exact x1.back
          exact retPost_ret rfl (by simp only [resV, resAll, resOne, s_upd, Nat.reduceEqDiff, if_true, if_false, Option.bind_some, Option.map_some, tupV, *] <;> rfl) ⟨_, rfl, GhV.tuple (GhL.cons g1 (GhL.cons g2 (GhL.cons (GhV.refl _ _) (GhL.cons (GhV.refl _ _) (GhL.nil _)))))⟩
  · have hdd : (!decide p.names.Nodup) = true := by rw [decide_eq_false hd]; rfl
    rw [hdd] at ht
    have hR : matchF p e = ([], [], false, 10) := by rw [matchF, if_neg hd]
    rw [hR]
    clear hR hdd hd hgm
    (repeat' (first | (simp only [↓s_reg, ↓s_seq, ↓s_cond, ↓s_condT, ↓s_ret, ↓s_nil, ↓s_consN, ↓s_thenN, ↓s_thenR, ↓s_kret, ↓s_putS, ↓s_dOkS, ↓s_ev_t, ↓s_ev_c, ↓s_ev_f, ↓s_upd, ↓s_assign, ↓s_load, ↓s_box, ↓s_callV, ↓s_callL, ptrV, boolV, List.map_cons, List.map_nil, List.getD_cons_zero, List.getD_cons_succ, List.getD_nil, ite_true, ite_false, Nat.reduceEqDiff, Nat.reduceLT, true_and, Nat.succ_ne_self, undefV, AH.get, eq_self, List.drop, ldV_t3, cl_agg, ↓n_box, n_ldP, n_ldA, n_ldB, undef, ldT_50, en_39, en_38, *]) | (refine allNew_intro fun zr zh => ?_; have zg := zh; (try simp only [AH.set_none] at zg)) | (refine PureF.use (hn) ?_) | (refine PureF.use (ht) ?_)))
    rename_i r1 n1 n1'
    exact retPost_ret rfl (by simp only [resV, resAll, resOne, s_upd, Nat.reduceEqDiff, if_true, if_false, Option.bind_some, Option.map_some, tupV, *] <;> rfl) ⟨_, rfl, mt_nil ((SubH.new n1).of_set zg.2) _ _⟩
end Go.PV.Ytglpmlbbaedbiaa
end
section
/- Select. -/
set_option linter.unusedVariables false
set_option linter.unusedSimpArgs false
set_option maxRecDepth 20000
set_option maxHeartbeats 4000000
namespace Go.PV.Ytglpmlbbaedbiaa
open Go Go.Proofs
def zEx : Ex := .mk 0 { data := #[] } []
/-- The error of clauses. -/
def clsErr (n : Int) : List Cl → Int
  | [] => 0
  | c :: l => if (c.pats.length : Int) = n then (if (pasNames c.pats).Nodup then clsErr n l else 10) else 5
/-- The clause that counts, from one on. -/
def selGo (vs : List Ex) : List Cl → Nat → Int × Ex × Int
  | [], _ => (0, zEx, 420)
  | c :: l, i => if (pasParts c.pats vs []).2 = true then ((i : Int), c.body.put (pasParts c.pats vs []).1, 0) else selGo vs l (i + 1)
def selectF (f : Fu) (vs : List Ex) : Int × Ex × Int :=
  if (vs.length : Int) = f.arity then (if clsErr f.arity f.cls = 0 then selGo vs f.cls 0 else (0, zEx, clsErr f.arity f.cls)) else (0, zEx, 5)
abbrev selV (r : Int × Ex × Int) : VV := .tuple [iV r.1, exV r.2.1, iV r.2.2]
def slQ (H0 : AH) (R : Int × Ex × Int) : APost := retPost Try.prog [.tmp 4, .cell 5 34, .tmp 6] fun e H' => ∃ y, e = VE.ret y ∧ GhV H' y H0 (selV R)
theorem sl_ret {H0 H : AH} {t : Nat → VV} {r sp : Nat} {k c : Int} {a b d : VV} {e' : TypeId} {x : Ex} (h4 : t 4 = iV k) (h5 : t 5 = ptrV r 0) (h6 : t 6 = iV c) (k5 : H r = some (.cells e' [a, b, d] sp)) (hg : GhV H (.agg [a, b, d]) H0 (exV x)) : slQ H0 (k, x, c) .ret ⟨t, []⟩ H := by
  refine retPost_ret rfl (x := .tuple [iV k, .agg [a, b, d], iV c]) (by simp only [resV, resAll, resOne, ldT_34, h4, h5, h6, k5, ptrV, List.drop_zero, ldV_t3, Option.bind_some, Option.map_some, tupV]) ⟨_, rfl, ?_⟩
  have h1 : GhL H [iV k, .agg [a, b, d], iV c] H0 [iV k, exV x, iV c] := by
    refine GhL.cons (GhV.refl _ _) (GhL.cons hg (GhL.cons (GhV.refl _ _) (GhL.nil _)))
  exact GhV.tuple h1
theorem zx_gh {H0 H : AH} (hs : SubH H0 H) : GhV H (.agg [iV 0, sV { data := #[] }, .lit (.slice none 0 0)]) H0 (exV zEx) :=
  GhV.agg (GhL.cons (GhV.refl _ _) (GhL.cons (GhV.refl _ _) (GhL.cons ((GhV.nil _).trans (GhV.forget hs _)) (GhL.nil _))))
theorem clsErr_drop {n : Int} {l : List Cl} {i : Nat} (h : i < l.length) : clsErr n (l.drop i) = if (l[i].pats.length : Int) = n then (if (pasNames l[i].pats).Nodup then clsErr n (l.drop (i + 1)) else 10) else 5 := by rw [List.drop_eq_getElem_cons h, clsErr]
theorem selGo_drop {vs : List Ex} {l : List Cl} {i k : Nat} (h : i < l.length) : selGo vs (l.drop i) k = if (pasParts l[i].pats vs []).2 = true then ((k : Int), l[i].body.put (pasParts l[i].pats vs []).1, 0) else selGo vs (l.drop (i + 1)) (k + 1) := by rw [List.drop_eq_getElem_cons h, selGo]
theorem clsErr_zero {n : Int} : ∀ {l : List Cl}, clsErr n l = 0 → ∀ c ∈ l, (c.pats.length : Int) = n ∧ (pasNames c.pats).Nodup
  | c :: l, h => by
    rw [clsErr] at h
    split at h
    · rename_i h1
      split at h
      · rename_i h2
        intro x hx
        rcases List.mem_cons.1 hx with rfl | hx
        · exact ⟨h1, h2⟩
        · exact clsErr_zero h x hx
      · cases h
    · cases h
  | [], _ => by simp
theorem sel_loop {H0 H : AH} {t : Nat → VV} {cls : List Cl} {vs : List Ex} {r5 : Nat} {R : Int × Ex × Int} (hN : clsSz cls ≤ 1099511627776) (hv : vs.length ≤ 1099511627776) (hvs : ∀ e ∈ vs, e.sz ≤ 1099511627776) (hp : ∀ c ∈ cls, c.pats.length = vs.length)
    (hR : R = selGo vs cls 0) (h1 : t 1 = exsV vs) (h5 : t 5 = ptrV r5 0) (h41 : t 41 = clsV cls) (h42 : t 42 = iV cls.length) (h43 : t 43 = iV 0)
    (k5 : H r5 = some (.cells 34 Zx 0)) (n5 : H0 r5 = none) (hs : SubH H0 H) :
    ACx ⟨Try.prog, 79, none⟩ (.loop b10_3) (inBlockA 2 (thenA (ACx ⟨Try.prog, 79, none⟩ c10_3 (slQ H0 R)) (slQ H0 R))) ⟨t, []⟩ H := by
  have hcl := sum_len clSz_pos cls
  have hclN : cls.length ≤ 1099511627776 := by unfold clsSz at hN; omega
  have hb : ∀ i (h : i < cls.length), clSz cls[i] ≤ 1099511627776 := fun i h => by have h1 := sum_mem (f := clSz) (List.getElem_mem h); unfold clsSz at hN; omega
  have hbp : ∀ i (h : i < cls.length) (l : List Bd), l.length ≤ 1099511627776 → PureF Try.prog 36 [exV cls[i].body, bdsV l] (exV (cls[i].body.put l)) := fun i h l hl => put_ok _ _ l (Nat.lt_succ_self _) (by have h1 := hb i h; unfold clSz at h1; omega) hl
  have hpp : ∀ i (h : i < cls.length) k (h' : k < cls[i].pats.length) (h'' : k < vs.length) (l : List Bd), l.length + cls[i].pats[k].sz ≤ 1099511627776 → PureF Try.prog 35 [paV cls[i].pats[k], exV vs[k], bdsV l] (prtV (cls[i].pats[k].parts vs[k] l)) := fun i h k h' h'' l hl =>
    parts_ok _ _ _ l (Nat.lt_succ_self _) (hvs _ (List.getElem_mem _)) hl
  have hpz : ∀ i (h : i < cls.length), pasSz cls[i].pats ≤ 1099511627776 ∧ cls[i].pats.length = vs.length := fun i h => ⟨by have h1 := hb i h; unfold clSz at h1; omega, hp _ (List.getElem_mem _)⟩
  clear hcl hN hb hvs hp
  refine acx_loop (fun _ _ _ h => h) (fun A H' => SubH H0 H' ∧ H' r5 = some (.cells 34 Zx 0) ∧ A.d = [] ∧ A.t 1 = exsV vs ∧ A.t 5 = ptrV r5 0 ∧ A.t 41 = clsV cls ∧ A.t 42 = iV cls.length ∧ ∃ i : Nat, i ≤ cls.length ∧ A.t 43 = iV i ∧ R = selGo vs (cls.drop i) i)
    (fun A _ => match A.t 43 with | .lit (.int _ i) => ((cls.length : Int) - i).toNat | _ => 0) ?_ ?_
  · exact ⟨hs, k5, rfl, h1, h5, h41, h42, 0, by omega, h43, hR⟩
  · clear hs k5 h1 h5 h41 h42 h43 hR
    rintro ⟨t, d⟩ H ⟨hs, k5, rfl, h1, h5, h41, h42, i, hi, h43, hR⟩
    dsimp only at h1 h5 h41 h42 h43
    replace hR := Hold.mk hR
    unfold b10_3
    (repeat' (first | (simp only [↓s_skip, ↓s_reg, ↓s_seq, ↓s_seqL, ↓s_cond, ↓s_block, ↓s_exit, ↓s_loop, ↓s_nil, ↓s_consN, ↓s_thenN, ↓s_thenE, ↓s_inE, ↓s_kret, ↓s_putS, ↓s_putN, ↓s_dOkS, ↓s_dOkN, ↓s_ev_t, ↓s_ev_c, ↓s_upd, ↓s_move, ↓s_assign, ↓s_load, ↓s_store, ↓s_bin, ↓s_alloc, ↓s_indexAddr, ↓s_bin_lss, ptrV, List.map_cons, List.map_nil, List.length_cons, List.length_nil, ite_true, ite_false, Nat.reduceEqDiff, Nat.reduceLT, Nat.reduceAdd, true_and, Nat.succ_ne_self, decide_true, decide_false, Int.natCast_nonneg, Int.toNat_natCast, AH.get, AH.set_set, setAt, List.all_cons, List.all_nil, Bool.and_self, eq_self, Nat.zero_add, and_self, ldV_t4, Int.ofNat_lt, on_int, on_str, cl_agg, on_slice, List.set_cons_zero, List.set_cons_succ, ↓n_alloc, n_allocS, Nat.le_refl, n_ldI, n_ixS, n_ixA1, n_ldC, n_ldB, n_stP, n_stA, cl_drop, ldT_93, szT_93, zeroT_93, elT_38, *]) | (refine condL_splitD ?_ ?_ <;> intro) | (refine allNew_intro fun zr zh => ?_; have zg := zh; (try simp only [AH.set_none] at zg); (try have zn_k5 := AH.ne_of k5 zh); (try have zn_k5 := AH.ne_of k5 zg.2); (try have zn_k5 := AH.ne_of k5 zg.2.2))))
    · have hlt : i < cls.length := by assumption
      obtain ⟨hpz1, hpz2⟩ := hpz i hlt
      have hpp' := hpp i hlt
      have hbp' := hbp i hlt
      have hg := selGo_drop (vs := vs) (k := i) hlt
      have hpn := pasSz_len cls[i].pats
      clear hpp hbp hpz
      refine acx_ghost (Ghost.slot (i := 11) (x' := bdsV []) (by simp only [s_upd, Nat.reduceEqDiff, if_true, if_false]; exact GhV.nil _)) ?_
      obtain ⟨X, hX⟩ : ∃ X, X = pasParts cls[i].pats vs [] := ⟨_, rfl⟩
      rw [← hX] at hg
      have hXl : X.1.length ≤ 1099511627776 := by have := pasParts_len cls[i].pats vs []; rw [hX]; simp only [List.length_nil] at this; omega
      have sH : SubH H0 (H.set zr (.cells 93 [pasV cls[i].pats, iV cls[i].body.op, sV cls[i].body.name, exsV cls[i].body.kids] 0)) := hs.of_set (hs.none zh)
      have q10 : (H.set zr (.cells 93 [pasV cls[i].pats, iV cls[i].body.op, sV cls[i].body.name, exsV cls[i].body.kids] 0)) zr = some (.cells 93 [pasV cls[i].pats, iV cls[i].body.op, sV cls[i].body.name, exsV cls[i].body.kids] 0) := AH.set_same _ _ _
      have q5 : (H.set zr (.cells 93 [pasV cls[i].pats, iV cls[i].body.op, sV cls[i].body.name, exsV cls[i].body.kids] 0)) r5 = some (.cells 34 Zx 0) := (by simp only [AH.get, *, if_false] <;> rfl)
      generalize H.set zr (.cells 93 [pasV cls[i].pats, iV cls[i].body.op, sV cls[i].body.name, exsV cls[i].body.kids] 0) = Hy at *
      refine acx_loop (fun _ _ _ h => h) (fun A H' => H' = Hy ∧ A.d = [] ∧ A.t 1 = exsV vs ∧ A.t 5 = ptrV r5 0 ∧ A.t 9 = iV i ∧ A.t 10 = ptrV zr 0 ∧ A.t 41 = clsV cls ∧ A.t 42 = iV cls.length ∧ A.t 43 = iV i ∧ ∃ (k : Nat) (m : List Bd) (b : Bool), k ≤ vs.length ∧ A.t 13 = iV k ∧ A.t 11 = bdsV m ∧ A.t 12 = bV b ∧ (b = true → m.length + pasSz (cls[i].pats.drop k) ≤ 1099511627776) ∧ X = if b = true then pasParts (cls[i].pats.drop k) (vs.drop k) m else (m, false))
        (fun A _ => match A.t 13 with | .lit (.int _ i) => ((vs.length : Int) - i).toNat | _ => 0) ?_ ?_
      · exact ⟨rfl, rfl, (by simp only [s_upd, Nat.reduceEqDiff, if_false, *] <;> rfl), (by simp only [s_upd, Nat.reduceEqDiff, if_false, *] <;> rfl), (by simp only [s_upd, Nat.reduceEqDiff, if_true, if_false, *] <;> rfl), (by simp only [s_upd, Nat.reduceEqDiff, if_true, if_false, *] <;> rfl), (by simp only [s_upd, Nat.reduceEqDiff, if_false, *] <;> rfl), (by simp only [s_upd, Nat.reduceEqDiff, if_false, *] <;> rfl), (by simp only [s_upd, Nat.reduceEqDiff, if_false, *] <;> rfl), 0, [], true, by omega, (by simp only [s_upd, Nat.reduceEqDiff, if_true, if_false, *] <;> rfl), by simp only [s_upd, Nat.reduceEqDiff, if_true, if_false], (by simp only [s_upd, Nat.reduceEqDiff, if_true, if_false, *] <;> rfl), fun _ => by simpa using hpz1, hX⟩
      · clear h1 h5 h41 h42 h43 hX zh zg zn_k5 k5 hs
        rintro ⟨t, d⟩ H' ⟨rfl, rfl, h1, h5, h9, h10, h41, h42, h43, k, m, b, hk, h13, h11, h12, hb, hX⟩
        dsimp only at h1 h5 h9 h10 h41 h42 h43 h13 h11 h12
        have fin : ∀ (t : Nat → VV), t 1 = exsV vs → t 5 = ptrV r5 0 → t 9 = iV i → t 10 = ptrV zr 0 → t 41 = clsV cls → t 42 = iV cls.length → t 43 = iV i → t 11 = bdsV X.1 → t 12 = bV X.2 → True := fun _ _ _ _ _ _ _ _ _ _ => trivial
        clear fin
        cases b with
        | false =>
          simp only [Bool.false_eq_true, if_false] at hX
          subst hX
          clear hb
          unfold b10_2
          have hg2 : R = selGo vs (cls.drop (i + 1)) (i + 1) := by rw [hR.out, hg]; simp
          replace hg2 := Hold.mk hg2
          clear hg hR
          by_cases hkl : k < vs.length
          · (repeat' (first | (simp only [↓s_reg, ↓s_seq, ↓s_cond, ↓s_condF, ↓s_exit, ↓s_nil, ↓s_consN, ↓s_consG, ↓s_guardTT, ↓s_thenN, ↓s_thenE, ↓s_inE, ↓s_kret, ↓s_putS, ↓s_dOkS, ↓s_ev_t, ↓s_ev_c, ↓s_upd, ↓s_move, ↓s_isBool, ↓s_pickA, ↓s_pick, ↓s_bin, ↓s_callB, ↓s_len, ↓s_bin_lss, ptrV, intV, List.map_cons, List.map_nil, ite_true, ite_false, Nat.reduceEqDiff, Nat.reduceLT, ne_eq, not_false_eq_true, true_and, Nat.succ_ne_self, decide_true, reduceCtorEq, eq_self, Int.ofNat_lt, n_lenS, elT_32, *]) | (refine acx_go rfl (fun _ _ _ h => h) ?_)))
            unfold c10_1
            (repeat' (first | (simp only [↓s_skip, ↓s_reg, ↓s_seq, ↓s_cond, ↓s_condF, ↓s_nil, ↓s_consN, ↓s_thenN, ↓s_inN, ↓s_putS, ↓s_dOkS, ↓s_ev_t, ↓s_upd, ↓s_move, ite_true, ite_false, Nat.reduceEqDiff, Nat.reduceLT, true_and, eq_self, *]) | (refine acx_go rfl (fun _ _ _ h => h) ?_)))
            unfold c10_2
            (repeat' (first | (simp only [↓s_reg, ↓s_nil, ↓s_consN, ↓s_thenN, ↓s_kret, ↓s_putS, ↓s_dOkS, ↓s_ev_t, ↓s_ev_c, ↓s_upd, ↓s_move, ↓s_bin, ↓s_bin_add, ptrV, ite_true, ite_false, Nat.reduceEqDiff, Nat.reduceLT, true_and, eq_self, *]) | (with_reducible refine And.intro ?_ ?_)))
            all_goals rw [wrap_ok (n := (i : Int) + 1) (by omega) (by omega)]
            · exact ⟨i + 1, by omega, rfl, hg2.out⟩
            · omega
          · (repeat' (first | (simp only [↓s_reg, ↓s_seq, ↓s_cond, ↓s_condF, ↓s_exit, ↓s_nil, ↓s_consN, ↓s_consG, ↓s_guardFT, ↓s_thenN, ↓s_thenE, ↓s_inE, ↓s_kret, ↓s_putS, ↓s_dOkS, ↓s_ev_t, ↓s_ev_c, ↓s_upd, ↓s_move, ↓s_isBool, ↓s_pickA, ↓s_pick, ↓s_bin, ↓s_callB, ↓s_len, ↓s_bin_lss, ptrV, intV, List.map_cons, List.map_nil, ite_true, ite_false, Nat.reduceEqDiff, Nat.reduceLT, ne_eq, not_false_eq_true, true_and, Bool.false_eq_true, Nat.succ_ne_self, decide_false, reduceCtorEq, callOk, undefV, eq_self, Int.ofNat_lt, n_lenS, undef, elT_32, *]) | (refine acx_go rfl (fun _ _ _ h => h) ?_)))
            unfold c10_1
            (repeat' (first | (simp only [↓s_skip, ↓s_reg, ↓s_seq, ↓s_cond, ↓s_condF, ↓s_nil, ↓s_consN, ↓s_thenN, ↓s_inN, ↓s_putS, ↓s_dOkS, ↓s_ev_t, ↓s_upd, ↓s_move, ite_true, ite_false, Nat.reduceEqDiff, Nat.reduceLT, true_and, eq_self, *]) | (refine acx_go rfl (fun _ _ _ h => h) ?_)))
            unfold c10_2
            (repeat' (first | (simp only [↓s_reg, ↓s_nil, ↓s_consN, ↓s_thenN, ↓s_kret, ↓s_putS, ↓s_dOkS, ↓s_ev_t, ↓s_ev_c, ↓s_upd, ↓s_move, ↓s_bin, ↓s_bin_add, ptrV, ite_true, ite_false, Nat.reduceEqDiff, Nat.reduceLT, true_and, eq_self, *]) | (with_reducible refine And.intro ?_ ?_)))
            all_goals rw [wrap_ok (n := (i : Int) + 1) (by omega) (by omega)]
            · exact ⟨i + 1, by omega, rfl, hg2.out⟩
            · omega
        | true =>
          have hml := hb rfl
          simp only [if_true] at hX
          clear hb
          unfold b10_2
          by_cases hkl : k < vs.length
          · have hkp : k < cls[i].pats.length := by omega
            rw [pasParts_drop hkp hkl] at hX
            have hd := pasSz_drop hkp
            have hi1 : (k : Int) < (vs.length : Int) := by omega
            have hi2 : (k : Int) < (cls[i].pats.length : Int) := by omega
            have hc := hpp' k hkp hkl m (by omega)
            have hpl := Pa.parts_len cls[i].pats[k] vs[k] m
            generalize cls[i].pats[k].parts vs[k] m = r at *
            obtain ⟨m', b'⟩ := r
            simp only at hpl
            have hnew := Hold.mk (show m'.length + pasSz (cls[i].pats.drop (k + 1)) ≤ 1099511627776 by omega)
            replace hX := Hold.mk hX
            replace hg := Hold.mk hg
            clear hd hml hpp' hpz1 hpz2 hpn
            (repeat' (first | (simp only [↓s_skip, ↓s_reg, ↓s_seq, ↓s_cond, ↓s_condT, ↓s_block, ↓s_dreg, ↓s_nil, ↓s_consN, ↓s_consG, ↓s_guardTT, ↓s_thenN, ↓s_inN, ↓s_kret, ↓s_putS, ↓s_dOkS, ↓s_ev_t, ↓s_ev_c, ↓s_ev_f, ↓s_upd, ↓s_move, ↓s_assign, ↓s_isBool, ↓s_pickA, ↓s_pick, ↓s_load, ↓s_bin, ↓s_fieldAddr, ↓s_indexAddr, ↓s_extract, ↓s_callB, ↓s_callV, ↓s_callL, ↓s_len, ↓s_bin_lss, ↓s_bin_add, vcExtract, ptrV, intV, List.map_cons, List.map_nil, ite_true, ite_false, Nat.reduceEqDiff, Nat.reduceLT, ne_eq, not_false_eq_true, true_and, Nat.succ_ne_self, decide_true, reduceCtorEq, Int.natCast_nonneg, Int.toNat_natCast, ↓s_plFin, ↓s_plTkN, ↓s_plOneN, eq_self, Nat.add_zero, List.drop, and_self, List.getElem?_cons_zero, List.getElem?_cons_succ, ldV_f, ldV_t3, n_ldI, n_ldP, n_faP, n_ixS, n_ixA1, n_lenS, n_ldA, n_ldC, n_ldB, n_faA, ↓s_plK, ↓s_oneK, pa_drop, ex_drop, flT_93_0, ldT_55, ldT_57, ldT_34, elT_55, elT_32, en_35, *]) | (refine acx_dreg mixed (fun _ _ _ _ e h => ⟨e.trans h.1, h.2⟩) _ (SubH.refl _) ?_) | (exact SubH.refl _) | (refine PureF.use (hc) ?_) | (with_reducible refine And.intro ?_ ?_)))
            all_goals rw [wrap_ok (n := (k : Int) + 1) (by omega) (by omega)]
            · exact ⟨k + 1, m', b', by omega, rfl, rfl, rfl, fun _ => hnew.out, by rw [hX.out]; cases b' <;> rfl⟩
            · omega
          · rw [List.drop_eq_nil_of_le (by omega)] at hX
            simp only [pasParts] at hX
            subst hX
            have hg2 : R = ((i : Int), cls[i].body.put m, 0) := by rw [hR.out, hg]; simp
            have hbc := hbp' m hXl
            have hg2 := Hold.mk hg2
            clear hg hR
            (repeat' (first | (simp only [↓s_reg, ↓s_seq, ↓s_cond, ↓s_condF, ↓s_exit, ↓s_nil, ↓s_consN, ↓s_consG, ↓s_guardFT, ↓s_thenN, ↓s_thenE, ↓s_inE, ↓s_kret, ↓s_putS, ↓s_dOkS, ↓s_ev_t, ↓s_ev_c, ↓s_upd, ↓s_move, ↓s_isBool, ↓s_pickA, ↓s_pick, ↓s_bin, ↓s_callB, ↓s_len, ↓s_bin_lss, ptrV, intV, List.map_cons, List.map_nil, ite_true, ite_false, Nat.reduceEqDiff, Nat.reduceLT, ne_eq, not_false_eq_true, true_and, Bool.false_eq_true, Nat.succ_ne_self, decide_false, reduceCtorEq, callOk, undefV, eq_self, Int.ofNat_lt, n_lenS, undef, elT_32, *]) | (refine acx_go rfl (fun _ _ _ h => h) ?_)))
            unfold c10_1
            (repeat' (first | (simp only [↓s_reg, ↓s_seq, ↓s_cond, ↓s_condT, ↓s_ret, ↓s_nil, ↓s_consN, ↓s_thenN, ↓s_thenR, ↓s_inR, ↓s_kret, ↓s_putS, ↓s_putN, ↓s_dOkS, ↓s_dOkN, ↓s_ev_t, ↓s_ev_c, ↓s_ev_f, ↓s_upd, ↓s_move, ↓s_assign, ↓s_load, ↓s_store, ↓s_fieldAddr, ↓s_callV, ↓s_callL, ptrV, List.map_cons, List.map_nil, List.length_cons, List.length_nil, ite_true, ite_false, Nat.reduceEqDiff, Nat.reduceLT, Nat.reduceAdd, ne_eq, not_false_eq_true, true_and, Nat.succ_ne_self, reduceCtorEq, setAt, List.all_cons, List.all_nil, Bool.and_self, eq_self, Nat.zero_add, List.drop, ldV_t3, on_int, on_str, cl_agg, on_slice, List.set_cons_zero, List.set_cons_succ, Nat.le_refl, n_ldP, n_faP, n_ldA, n_ldB, n_faA, n_stP, n_stA, Zx, flT_93_1, ldT_34, szT_34, en_36, *]) | (refine PureF.use (hbc) ?_)))
            exact sl_ret (by simp only [s_upd, Nat.reduceEqDiff, if_true, if_false, *] <;> rfl) (by simp only [s_upd, Nat.reduceEqDiff, if_false, *] <;> rfl) (by simp only [s_upd, Nat.reduceEqDiff, if_true, if_false, *] <;> rfl) (AH.set_same _ _ _) (GhV.forget (sH.of_set n5) _)
    · have hie : i = cls.length := by omega
      subst hie
      have hg2 : R = (0, zEx, 420) := by rw [hR.out, List.drop_eq_nil_of_le (by omega)]; rfl
      rw [hg2]
      refine acx_go rfl (fun _ _ _ h => h) ?_
      clear hR hg2
      unfold c10_3
      (repeat' (first | (simp only [↓s_reg, ↓s_seq, ↓s_ret, ↓s_nil, ↓s_consN, ↓s_thenN, ↓s_kret, ↓s_putS, ↓s_putN, ↓s_dOkS, ↓s_dOkN, ↓s_ev_t, ↓s_ev_c, ↓s_upd, ↓s_assign, ↓s_store, ↓s_build, ptrV, List.map_cons, List.map_nil, List.length_cons, List.length_nil, ite_true, ite_false, Nat.reduceEqDiff, Nat.reduceLT, Nat.reduceAdd, true_and, Nat.succ_ne_self, vcBuild, fillV, setAt, List.all_cons, List.all_nil, Bool.and_self, eq_self, Nat.zero_add, on_int, on_str, on_sl, cl_agg, List.set_cons_zero, List.set_cons_succ, Nat.le_refl, n_stP, n_stA, Zx, szT_34, stT_34, *])))
      exact sl_ret (by simp only [s_upd, Nat.reduceEqDiff, if_true, if_false, *] <;> rfl) (by simp only [s_upd, Nat.reduceEqDiff, if_false, *] <;> rfl) (by simp only [s_upd, Nat.reduceEqDiff, if_true, if_false, *] <;> rfl) (AH.set_same _ _ _) (zx_gh (hs.of_set n5))
theorem select_ok (f : Fu) (vs : List Ex) (hf : fuSz f ≤ 1099511627776) (hv : vs.length ≤ 1099511627776) (hvs : ∀ e ∈ vs, e.sz ≤ 1099511627776) (hn : ∀ c ∈ f.cls, ∀ s ∈ pasNames c.pats, s.size ≤ maxLen) :
    PureF Try.prog 10 [fuV f, exsV vs] (selV (selectF f vs)) := by
  refine GivesF.pure fun H0 => ?_
  show VCalls Try.prog _ _ H0 _
  refine vcalls_intro fd10 (by simp) ?_
  show vc _ _ (slQ H0 (selectF f vs)) _ _
  obtain ⟨R, hR⟩ : ∃ R, R = selectF f vs := ⟨_, rfl⟩
  rw [← hR]
  have hN : clsSz f.cls ≤ 1099511627776 := by unfold fuSz at hf; omega
  have hcl := sum_len clSz_pos f.cls
  have hclN : f.cls.length ≤ 1099511627776 := by unfold clsSz at hN; omega
  have hb : ∀ i (h : i < f.cls.length), pasSz f.cls[i].pats ≤ 1099511627776 := fun i h => by have h1 := sum_mem (f := clSz) (List.getElem_mem h); have h2 : clSz f.cls[i] = 1 + pasSz f.cls[i].pats + f.cls[i].body.sz := rfl; unfold clsSz at hN; omega
  have hnm : ∀ i (h : i < f.cls.length), PureF Try.prog 34 [pasV f.cls[i].pats] (strsV (pasNames f.cls[i].pats)) := fun i h => names_ok _ _ (Nat.lt_succ_self _) (hb i h)
  have htw : ∀ i (h : i < f.cls.length), PureF Try.prog 33 [strsV (pasNames f.cls[i].pats)] (boolV (!decide (pasNames f.cls[i].pats).Nodup)) := fun i h => twice_ok _ (by have h1 := pasNames_len f.cls[i].pats; have h2 := hb i h; omega) (hn _ (List.getElem_mem h))
  clear hcl hb hn
  unfold c10
  by_cases ha : (vs.length : Int) = f.arity
  · have hR2 : R = if clsErr f.arity f.cls = 0 then selGo vs f.cls 0 else (0, zEx, clsErr f.arity f.cls) := by rw [hR, selectF, if_pos ha]
    clear hR
    replace hR2 := Hold.mk hR2
    (repeat' (first | (simp only [↓s_skip, ↓s_reg, ↓s_seq, ↓s_seqL, ↓s_cond, ↓s_condF, ↓s_block, ↓s_loop, ↓s_nil, ↓s_consN, ↓s_thenN, ↓s_kret, ↓s_putS, ↓s_dOkS, ↓s_ev_t, ↓s_ev_c, ↓s_upd, ↓s_move, ↓s_assign, ↓s_load, ↓s_bin, ↓s_alloc, ↓s_box, ↓s_fieldAddr, ↓s_callB, ↓s_len, ↓s_bin_neq, ptrV, intV, List.map_cons, List.map_nil, List.getD_cons_zero, List.getD_cons_succ, List.getD_nil, ite_true, ite_false, Nat.reduceEqDiff, Nat.reduceLT, ne_eq, not_false_eq_true, true_and, Nat.succ_ne_self, decide_true, Bool.not_true, reduceCtorEq, undefV, AH.get, eq_self, Nat.zero_add, List.drop, ldV_f, cl_agg, ↓n_alloc, n_allocS, ↓n_box, n_ldP, n_faP, n_lenS, n_ldA, n_ldB, n_faA, undef, flT_40_1, flT_40_2, ldT_3, ldT_38, zeroT_34, elT_38, elT_32, *]) | (refine allNew_intro fun zr zh => ?_; have zg := zh; (try simp only [AH.set_none] at zg))))
    rename_i r2 n2 n2'
    obtain ⟨z1, z2⟩ := zg
    refine acx_loop (fun _ _ _ h => h) (fun A H => SubH H0 H ∧ H r2 = some (.cells 40 [sV f.name, iV f.arity, clsV f.cls] 0) ∧ H zr = some (.cells 34 Zx 0) ∧ A.d = [] ∧ A.t 1 = exsV vs ∧ A.t 2 = ptrV r2 0 ∧ A.t 5 = ptrV zr 0 ∧ A.t 21 = clsV f.cls ∧ A.t 22 = iV f.cls.length ∧ ∃ i : Nat, i ≤ f.cls.length ∧ A.t 23 = iV i ∧ clsErr f.arity f.cls = clsErr f.arity (f.cls.drop i))
      (fun A _ => match A.t 23 with | .lit (.int _ i) => ((f.cls.length : Int) - i).toNat | _ => 0) ?_ ?_
    · exact ⟨(SubH.new n2).of_set z2, (by simp only [AH.get, *, if_true, if_false] <;> rfl), AH.set_same _ _ _, rfl, (by simp only [s_upd, Nat.reduceEqDiff, if_false, *] <;> rfl), (by simp only [s_upd, Nat.reduceEqDiff, if_true, if_false, *] <;> rfl), (by simp only [s_upd, Nat.reduceEqDiff, if_true, if_false, *] <;> rfl), (by simp only [s_upd, Nat.reduceEqDiff, if_true, if_false, *] <;> rfl), (by simp only [s_upd, Nat.reduceEqDiff, if_true, if_false, *] <;> rfl), 0, by omega, (by simp only [s_upd, Nat.reduceEqDiff, if_true, if_false, *] <;> rfl), rfl⟩
    · clear zh n2'
      rintro ⟨t, d⟩ H ⟨hs, k2, k5, rfl, h1, h2, h5, h21, h22, i, hi, h23, hE⟩
      dsimp only at h1 h2 h5 h21 h22 h23
      have hE' := fun h : i < f.cls.length => hE.trans (clsErr_drop h)
      replace hE := Hold.mk hE
      replace hE' := Hold.mk hE'
      unfold b10_1
      (repeat' (first | (simp only [↓s_skip, ↓s_reg, ↓s_seq, ↓s_cond, ↓s_block, ↓s_exit, ↓s_ret, ↓s_nil, ↓s_consN, ↓s_thenN, ↓s_thenE, ↓s_thenR, ↓s_inN, ↓s_inE, ↓s_inR, ↓s_kret, ↓s_putS, ↓s_putN, ↓s_dOkS, ↓s_dOkN, ↓s_ev_t, ↓s_ev_c, ↓s_ev_f, ↓s_upd, ↓s_move, ↓s_assign, ↓s_load, ↓s_store, ↓s_bin, ↓s_alloc, ↓s_build, ↓s_fieldAddr, ↓s_indexAddr, ↓s_callB, ↓s_callV, ↓s_callL, ↓s_len, ↓s_bin_lss, ↓s_bin_neq, ↓s_bin_add, ptrV, intV, boolV, List.map_cons, List.map_nil, List.length_cons, List.length_nil, ite_true, ite_false, Nat.reduceEqDiff, Nat.reduceLT, Nat.reduceAdd, ne_eq, not_false_eq_true, true_and, Nat.succ_ne_self, decide_true, decide_false, reduceCtorEq, Int.natCast_nonneg, Int.toNat_natCast, AH.get, AH.set_set, vcBuild, fillV, setAt, List.all_cons, List.all_nil, Bool.and_self, eq_self, Nat.zero_add, Nat.add_zero, List.drop, and_self, ldV_f, ldV_t4, Int.ofNat_lt, on_int, on_str, on_sl, cl_agg, on_slice, List.set_cons_zero, List.set_cons_succ, ↓n_alloc, n_allocS, Nat.le_refl, n_ldI, n_ldP, n_faP, n_ixS, n_ixA1, n_lenS, n_ldA, n_ldC, n_ldB, n_faA, n_stP, n_stA, cl_drop, Zx, flT_93_0, flT_40_1, ldT_93, ldT_55, ldT_3, szT_93, szT_34, stT_34, zeroT_93, elT_38, elT_55, en_34, en_33, *]) | (refine condL_splitD ?_ ?_ <;> intro) | (refine condL_split ?_ ?_ <;> intro) | (refine allNew_intro fun zr zh => ?_; have zg := zh; (try simp only [AH.set_none] at zg); (try have zn_k2 := AH.ne_of k2 zh); (try have zn_k2 := AH.ne_of k2 zg.2); (try have zn_k2 := AH.ne_of k2 zg.2.2); (try have zn_k5 := AH.ne_of k5 zh); (try have zn_k5 := AH.ne_of k5 zg.2); (try have zn_k5 := AH.ne_of k5 zg.2.2)) | (refine SubH.of_set ?_ ?_) | (exact SubH.none (by assumption) (by assumption)) | (refine PureF.use (hnm _ (by assumption)) ?_) | (refine PureF.use (htw _ (by assumption)) ?_) | (with_reducible refine And.intro ?_ ?_)))
      · have hlt : i < f.cls.length := by assumption
        have hp : ¬ (f.cls[i].pats.length : Int) = f.arity := by simpa using (by assumption : (!decide ((f.cls[i].pats.length : Int) = f.arity)) = true)
        have he : clsErr f.arity f.cls = 5 := by rw [hE'.out hlt, if_neg hp]
        rw [hR2.out, he, if_neg (by omega)]
        exact sl_ret (by simp only [s_upd, Nat.reduceEqDiff, if_true, if_false, *] <;> rfl) (by simp only [s_upd, Nat.reduceEqDiff, if_false, *] <;> rfl) (by simp only [s_upd, Nat.reduceEqDiff, if_true, if_false, *] <;> rfl) (AH.set_same _ _ _) (zx_gh ((hs.of_set (hs.none (by assumption))).of_set z2))
      · have hlt : i < f.cls.length := by assumption
        have hp : (f.cls[i].pats.length : Int) = f.arity := by simpa using (by assumption : (!decide ((f.cls[i].pats.length : Int) = f.arity)) = false)
        have hd : ¬ (pasNames f.cls[i].pats).Nodup := by simpa using (by assumption : (!decide (pasNames f.cls[i].pats).Nodup) = true)
        have he : clsErr f.arity f.cls = 10 := by rw [hE'.out hlt, if_pos hp, if_neg hd]
        rw [hR2.out, he, if_neg (by omega)]
        exact sl_ret (by simp only [s_upd, Nat.reduceEqDiff, if_true, if_false, *] <;> rfl) (by simp only [s_upd, Nat.reduceEqDiff, if_false, *] <;> rfl) (by simp only [s_upd, Nat.reduceEqDiff, if_true, if_false, *] <;> rfl) (AH.set_same _ _ _) (zx_gh ((hs.of_set (hs.none (by assumption))).of_set z2))
      · have hlt : i < f.cls.length := by assumption
        have hp : (f.cls[i].pats.length : Int) = f.arity := by simpa using (by assumption : (!decide ((f.cls[i].pats.length : Int) = f.arity)) = false)
        have hd : (pasNames f.cls[i].pats).Nodup := by simpa using (by assumption : (!decide (pasNames f.cls[i].pats).Nodup) = false)
        rw [wrap_ok (n := (i : Int) + 1) (by omega) (by omega)]
        exact ⟨i + 1, by omega, rfl, by rw [hE'.out hlt, if_pos hp, if_pos hd]⟩
      · rw [wrap_ok (n := (i : Int) + 1) (by omega) (by omega)]
        omega
      · have he : clsErr f.arity f.cls = 0 := by rw [hE.out, List.drop_eq_nil_of_le (by omega)]; rfl
        have hR3 : R = selGo vs f.cls 0 := by rw [hR2.out, if_pos he]
        clear hE hE' hR2 hnm htw hf
        refine acx_go rfl (fun _ _ _ h => h) ?_
        unfold c10_4
        (repeat' (first | (simp only [↓s_reg, ↓s_seq, ↓s_seqL, ↓s_block, ↓s_loop, ↓s_nil, ↓s_consN, ↓s_thenN, ↓s_kret, ↓s_putS, ↓s_dOkS, ↓s_ev_t, ↓s_ev_c, ↓s_upd, ↓s_move, ↓s_load, ↓s_fieldAddr, ↓s_callB, ↓s_len, ptrV, intV, List.map_cons, List.map_nil, ite_true, ite_false, Nat.reduceEqDiff, Nat.reduceLT, ne_eq, not_false_eq_true, true_and, Nat.succ_ne_self, reduceCtorEq, eq_self, Nat.zero_add, List.drop, ldV_f, n_ldP, n_faP, n_lenS, n_ldA, n_ldB, n_faA, flT_40_2, ldT_38, elT_38, *])))
        refine sel_loop hN hv hvs (fun c hc => ?_) rfl (by simp only [s_upd, Nat.reduceEqDiff, if_false, *] <;> rfl) (by simp only [s_upd, Nat.reduceEqDiff, if_false, *] <;> rfl) (by simp only [s_upd, Nat.reduceEqDiff, if_true, if_false, *] <;> rfl) (by simp only [s_upd, Nat.reduceEqDiff, if_true, if_false, *] <;> rfl) (by simp only [s_upd, Nat.reduceEqDiff, if_true, if_false, *] <;> rfl) (by assumption) z2 hs
        have := (clsErr_zero he c hc).1
        omega
  · have hR2 : R = (0, zEx, 5) := by rw [hR, selectF, if_neg ha]
    clear hR
    rw [hR2]
    clear hR2
    (repeat' (first | (simp only [↓s_reg, ↓s_seq, ↓s_cond, ↓s_condT, ↓s_ret, ↓s_nil, ↓s_consN, ↓s_thenN, ↓s_thenR, ↓s_kret, ↓s_putS, ↓s_putN, ↓s_dOkS, ↓s_dOkN, ↓s_ev_t, ↓s_ev_c, ↓s_upd, ↓s_move, ↓s_assign, ↓s_load, ↓s_store, ↓s_bin, ↓s_alloc, ↓s_box, ↓s_build, ↓s_fieldAddr, ↓s_callB, ↓s_len, ↓s_bin_neq, ptrV, intV, List.map_cons, List.map_nil, List.length_cons, List.length_nil, List.getD_cons_zero, List.getD_cons_succ, List.getD_nil, ite_true, ite_false, Nat.reduceEqDiff, Nat.reduceLT, Nat.reduceAdd, ne_eq, not_false_eq_true, true_and, Nat.succ_ne_self, decide_false, Bool.not_false, reduceCtorEq, undefV, AH.get, AH.set_set, vcBuild, fillV, setAt, List.all_cons, List.all_nil, Bool.and_self, eq_self, Nat.zero_add, List.drop, ldV_f, on_int, on_str, on_sl, cl_agg, List.set_cons_zero, List.set_cons_succ, ↓n_alloc, n_allocS, ↓n_box, Nat.le_refl, n_ldP, n_faP, n_lenS, n_ldA, n_ldB, n_faA, n_stP, n_stA, undef, flT_40_1, ldT_3, szT_34, stT_34, zeroT_34, elT_32, *]) | (refine allNew_intro fun zr zh => ?_; have zg := zh; (try simp only [AH.set_none] at zg))))
    rename_i r2 n2 n2'
    exact sl_ret (by simp only [s_upd, Nat.reduceEqDiff, if_true, if_false, *] <;> rfl) (by simp only [s_upd, Nat.reduceEqDiff, if_true, if_false, *] <;> rfl) (by simp only [s_upd, Nat.reduceEqDiff, if_true, if_false, *] <;> rfl) (AH.set_same _ _ _) (zx_gh ((SubH.new n2).of_set zg.2))
end Go.PV.Ytglpmlbbaedbiaa
end
section
/- The reference's clause and Select. -/
set_option linter.unusedVariables false
set_option linter.unusedSimpArgs false
set_option maxRecDepth 20000
set_option maxHeartbeats 4000000
namespace Go.PV.Ytglpmlbbaedbiaa
open Go Go.Proofs
theorem rPut_ok (e : Ex) (l : List Bd) (hs : e.sz ≤ 1099511627776) (hl : l.length ≤ 1099511627776) : PureF Try.prog 42 [exV e, bdsV l] (exV (e.put l)) := by
  have hp := rput_ok false _ e l (Nat.lt_succ_self _) hs hl
  rw [e.putM_false] at hp
  refine GivesF.pure fun H0 => ?_
  refine vcalls_intro fd42 (by simp) ?_
  unfold c42
  (repeat' (first | (simp only [↓s_reg, ↓s_seq, ↓s_ret, ↓s_nil, ↓s_consN, ↓s_thenN, ↓s_kret, ↓s_putS, ↓s_putN, ↓s_dOkS, ↓s_dOkN, ↓s_ev_t, ↓s_ev_c, ↓s_ev_f, ↓s_upd, ↓s_move, ↓s_load, ↓s_store, ↓s_alloc, ↓s_box, ↓s_callV, ↓s_callL, ptrV, List.map_cons, List.map_nil, List.length_cons, List.length_nil, List.getD_cons_zero, List.getD_cons_succ, List.getD_nil, ite_true, ite_false, Nat.reduceEqDiff, Nat.reduceLT, Nat.reduceAdd, true_and, Nat.succ_ne_self, undefV, AH.get, AH.set_set, setAt, List.all_cons, List.all_nil, Bool.and_self, eq_self, Nat.zero_add, List.drop, ldV_t3, on_int, on_str, cl_agg, on_slice, List.set_cons_zero, List.set_cons_succ, ↓n_alloc, n_allocS, ↓n_box, Nat.le_refl, n_ldP, n_ldA, n_ldB, n_stP, n_stA, undef, ldT_28, szT_28, zeroT_28, en_57, *]) | (refine allNew_intro fun zr zh => ?_; have zg := zh; (try simp only [AH.set_none] at zg)) | (refine PureF.use (hp) ?_)))
  rename_i r1 n1 n1'
  exact ret_cell ldT_28 (by simp only [s_upd, Nat.reduceEqDiff, if_true, if_false, *] <;> rfl) (AH.set_same _ _ _) (by rw [List.drop_zero]; exact ldV_t3 _ _ _ _) ⟨_, rfl, GhV.forget ((SubH.new n1).of_set zg.2) _⟩
def clauseGo (vs : List Ex) : List Cl → Nat → Int × List Bd
  | [], _ => (-1, [])
  | c :: l, i => if (pasMat c.pats vs []).2 = true then ((i : Int), (pasMat c.pats vs []).1) else clauseGo vs l (i + 1)
theorem clauseGo_drop {vs : List Ex} {l : List Cl} {i k : Nat} (h : i < l.length) : clauseGo vs (l.drop i) k = if (pasMat l[i].pats vs []).2 = true then ((k : Int), (pasMat l[i].pats vs []).1) else clauseGo vs (l.drop (i + 1)) (k + 1) := by rw [List.drop_eq_getElem_cons h, clauseGo]
abbrev clrV (r : Int × List Bd) : VV := .tuple [iV r.1, bdsV r.2]
theorem rclause_ok (f : Fu) (vs : List Ex) (hf : fuSz f ≤ 1099511627776) (hv : vs.length ≤ 1099511627776) (hvs : ∀ e ∈ vs, e.sz ≤ 1099511627776) (hp : ∀ c ∈ f.cls, c.pats.length = vs.length) :
    PureF Try.prog 41 [fuV f, exsV vs] (clrV (clauseGo vs f.cls 0)) := by
  have hN : clsSz f.cls ≤ 1099511627776 := by unfold fuSz at hf; omega
  have hclN : f.cls.length ≤ 1099511627776 := by have := sum_len clSz_pos f.cls; unfold clsSz at hN; omega
  have hb : ∀ i (h : i < f.cls.length), pasSz f.cls[i].pats ≤ 1099511627776 ∧ f.cls[i].pats.length = vs.length := fun i h => ⟨by have h1 := sum_mem (f := clSz) (List.getElem_mem h); have h2 : clSz f.cls[i] = 1 + pasSz f.cls[i].pats + f.cls[i].body.sz := rfl; unfold clsSz at hN; omega, hp _ (List.getElem_mem h)⟩
  have hpp : ∀ i (h : i < f.cls.length) k (h' : k < f.cls[i].pats.length) (h'' : k < vs.length) (l : List Bd), l.length + f.cls[i].pats[k].sz ≤ 1099511627776 → PureF Try.prog 40 [paV f.cls[i].pats[k], exV vs[k], bdsV l] (prtV (f.cls[i].pats[k].mat vs[k] l)) := fun i h k h' h'' l hl =>
    rmatched_ok _ _ _ l (Nat.lt_succ_self _) (hvs _ (List.getElem_mem _)) hl
  clear hN hvs hp hf
  refine GivesF.pure fun H0 => ?_
  refine vcalls_intro fd41 (by simp) ?_
  unfold c41
  obtain ⟨R, hR⟩ : ∃ R, R = clauseGo vs f.cls 0 := ⟨_, rfl⟩
  rw [← hR]
  replace hR := Hold.mk hR
  (repeat' (first | (simp only [↓s_reg, ↓s_seq, ↓s_seqL, ↓s_block, ↓s_loop, ↓s_nil, ↓s_consN, ↓s_thenN, ↓s_kret, ↓s_putS, ↓s_dOkS, ↓s_ev_t, ↓s_ev_c, ↓s_assign, ↓s_box, ptrV, List.getD_cons_zero, Nat.reduceLT, true_and, undefV, cl_agg, ↓n_box, undef, *]) | (refine allNew_intro fun zr zh => ?_; have zg := zh; (try simp only [AH.set_none] at zg))))
  refine acx_loop (fun _ _ _ h => h) (fun A H' => H' = H0.set zr (.cells 24 (fuE f) 0) ∧ A.d = [] ∧ A.t 1 = exsV vs ∧ A.t 2 = ptrV zr 0 ∧ ∃ i : Nat, i ≤ f.cls.length ∧ A.t 6 = iV i ∧ R = clauseGo vs (f.cls.drop i) i)
    (fun A _ => match A.t 6 with | .lit (.int _ i) => ((f.cls.length : Int) - i).toNat | _ => 0) ?_ ?_
  · exact ⟨rfl, rfl, (by simp only [s_upd, Nat.reduceEqDiff, if_false, *] <;> rfl), (by simp only [s_upd, Nat.reduceEqDiff, if_true, if_false, *] <;> rfl), 0, by omega, (by simp only [s_upd, Nat.reduceEqDiff, if_true, if_false, *] <;> rfl), hR.out⟩
  · clear hR
    rintro ⟨t, d⟩ H ⟨hHe, rfl, h1, h2, i, hi, h6, hR⟩
    dsimp only at h1 h2 h6
    have k2 : H zr = some (.cells 24 (fuE f) 0) := by rw [hHe]; exact AH.set_same _ _ _
    have hs0 : SubH H0 H := by rw [hHe]; exact SubH.new zh
    rw [← hHe]
    clear hHe zg zh
    unfold b41_2
    by_cases hlt : i < f.cls.length
    · have hil : (i : Int) < (f.cls.length : Int) := by omega
      obtain ⟨hpz1, hpz2⟩ := hb i hlt
      have hpp' := hpp i hlt
      rw [clauseGo_drop hlt] at hR
      clear hb hpp
      obtain ⟨X, hX⟩ : ∃ X, X = pasMat f.cls[i].pats vs [] := ⟨_, rfl⟩
      rw [← hX] at hR
      replace hR := Hold.mk hR
      have hcd := cl_drop hlt
      replace hpz2 := Hold.mk hpz2
      (repeat' (first | (simp only [↓s_skip, ↓s_reg, ↓s_seq, ↓s_seqL, ↓s_cond, ↓s_condT, ↓s_block, ↓s_loop, ↓s_nil, ↓s_consN, ↓s_thenN, ↓s_kret, ↓s_putS, ↓s_dOkS, ↓s_ev_t, ↓s_ev_c, ↓s_upd, ↓s_move, ↓s_assign, ↓s_load, ↓s_bin, ↓s_buildSlice, ↓s_fieldAddr, ↓s_callB, ↓s_len, ↓s_bin_lss, ptrV, intV, List.map_cons, List.map_nil, List.length_cons, List.length_nil, ite_true, ite_false, Nat.reduceEqDiff, Nat.reduceLT, Nat.reduceAdd, Nat.reduceMul, Nat.reduceLeDiff, ne_eq, not_false_eq_true, true_and, Nat.succ_ne_self, decide_true, reduceCtorEq, fillV, eq_self, Nat.zero_add, List.drop, and_self, ldV_f, n_ldP, n_faP, n_lenS, n_ldA, n_ldB, n_faA, vcBuildSlice, List.replicate_zero, List.flatten_nil, vcBuildSlice, flT_24_2, ldT_22, elT_22, elT_104, zeroT_108, *])))
      refine acx_ghost (H' := H) (Ghost.slot (i := 7) (x' := bdsV []) (by simp only [s_upd, Nat.reduceEqDiff, if_true, if_false]; exact GhV.imm H)) ?_
      refine acx_loop (fun _ _ _ h => h) (fun A H' => H' = H ∧ A.d = [] ∧ A.t 1 = exsV vs ∧ A.t 2 = ptrV zr 0 ∧ A.t 6 = iV i ∧ ∃ (k : Nat) (m : List Bd) (b : Bool), k ≤ f.cls[i].pats.length ∧ A.t 9 = iV k ∧ A.t 7 = bdsV m ∧ A.t 8 = bV b ∧ (b = true → m.length + pasSz (f.cls[i].pats.drop k) ≤ 1099511627776 ∧ X = pasMat (f.cls[i].pats.drop k) (vs.drop k) m) ∧ (b = false → X.2 = false))
        (fun A _ => match A.t 9 with | .lit (.int _ k) => ((f.cls[i].pats.length : Int) - k).toNat | _ => 0) ?_ ?_
      · exact ⟨rfl, rfl, (by simp only [s_upd, Nat.reduceEqDiff, if_false, *] <;> rfl), (by simp only [s_upd, Nat.reduceEqDiff, if_false, *] <;> rfl), (by simp only [s_upd, Nat.reduceEqDiff, if_false, *] <;> rfl), 0, [], true, by omega, (by simp only [s_upd, Nat.reduceEqDiff, if_true, if_false, *] <;> rfl), by simp only [s_upd, Nat.reduceEqDiff, if_true, if_false], (by simp only [s_upd, Nat.reduceEqDiff, if_true, if_false, *] <;> rfl), fun _ => ⟨by simpa using hpz1, hX⟩, fun h => by cases h⟩
      · clear h1 h2 h6 hX
        rintro ⟨t, d⟩ H' ⟨rfl, rfl, h1, h2, h6, k, m, b, hk, h9, h7, h8, ht, hf⟩
        dsimp only at h1 h2 h6 h9 h7 h8
        have hpl : f.cls[i].pats.length = vs.length := hpz2.out
        cases b with
        | false =>
          have hX2 := hf rfl
          have hg2 : R = clauseGo vs (f.cls.drop (i + 1)) (i + 1) := by rw [hR.out, if_neg (by rw [hX2]; simp)]
          replace hg2 := Hold.mk hg2
          clear hR ht hf hX2 hpl
          unfold b41_1
          by_cases hkl : k < f.cls[i].pats.length
          · (repeat' (first | (simp only [↓s_reg, ↓s_seq, ↓s_cond, ↓s_condF, ↓s_exit, ↓s_nil, ↓s_consN, ↓s_consG, ↓s_guardTT, ↓s_thenN, ↓s_thenE, ↓s_inE, ↓s_kret, ↓s_putS, ↓s_dOkS, ↓s_ev_t, ↓s_ev_c, ↓s_upd, ↓s_move, ↓s_isBool, ↓s_pickA, ↓s_pick, ↓s_load, ↓s_bin, ↓s_fieldAddr, ↓s_indexAddr, ↓s_callB, ↓s_len, ↓s_bin_lss, ptrV, intV, List.map_cons, List.map_nil, ite_true, ite_false, Nat.reduceEqDiff, Nat.reduceLT, ne_eq, not_false_eq_true, true_and, Nat.succ_ne_self, decide_true, reduceCtorEq, Int.natCast_nonneg, Int.toNat_natCast, eq_self, Nat.zero_add, List.drop, and_self, ldV_f, Int.ofNat_lt, n_ldI, n_ldP, n_faI, n_faP, n_ixS, n_ixA1, n_lenS, n_ldA, n_ldC, n_ldB, n_faA, flT_24_2, flT_46_0, ldT_22, ldT_44, elT_22, elT_44, *]) | (refine acx_go rfl (fun _ _ _ h => h) ?_)))
            unfold c41_1
            (repeat' (first | (simp only [↓s_skip, ↓s_reg, ↓s_seq, ↓s_cond, ↓s_condF, ↓s_nil, ↓s_consN, ↓s_thenN, ↓s_inN, ↓s_putS, ↓s_dOkS, ↓s_ev_t, ↓s_upd, ↓s_move, ite_true, ite_false, Nat.reduceEqDiff, Nat.reduceLT, true_and, eq_self, *]) | (refine acx_go rfl (fun _ _ _ h => h) ?_)))
            unfold c41_2
            (repeat' (first | (simp only [↓s_reg, ↓s_nil, ↓s_consN, ↓s_thenN, ↓s_kret, ↓s_putS, ↓s_dOkS, ↓s_ev_t, ↓s_ev_c, ↓s_upd, ↓s_move, ↓s_assign, ↓s_bin, ↓s_bin_add, ptrV, ite_true, ite_false, Nat.reduceEqDiff, Nat.reduceLT, true_and, Nat.succ_ne_self, eq_self, *]) | (with_reducible refine And.intro ?_ ?_)))
            all_goals rw [wrap_ok (n := (i : Int) + 1) (by omega) (by omega)]
            · exact ⟨i + 1, by omega, rfl, hg2.out⟩
            · omega
          · (repeat' (first | (simp only [↓s_reg, ↓s_seq, ↓s_cond, ↓s_condF, ↓s_exit, ↓s_nil, ↓s_consN, ↓s_consG, ↓s_guardFT, ↓s_thenN, ↓s_thenE, ↓s_inE, ↓s_kret, ↓s_putS, ↓s_dOkS, ↓s_ev_t, ↓s_ev_c, ↓s_upd, ↓s_move, ↓s_isBool, ↓s_pickA, ↓s_pick, ↓s_load, ↓s_bin, ↓s_fieldAddr, ↓s_indexAddr, ↓s_callB, ↓s_len, ↓s_bin_lss, ptrV, intV, List.map_cons, List.map_nil, ite_true, ite_false, Nat.reduceEqDiff, Nat.reduceLT, ne_eq, not_false_eq_true, true_and, Bool.false_eq_true, Nat.succ_ne_self, decide_false, reduceCtorEq, Int.natCast_nonneg, Int.toNat_natCast, callOk, undefV, eq_self, Nat.zero_add, List.drop, and_self, ldV_f, Int.ofNat_lt, n_ldI, n_ldP, n_faI, n_faP, n_ixS, n_ixA1, n_lenS, n_ldA, n_ldC, n_ldB, n_faA, undef, flT_24_2, flT_46_0, ldT_22, ldT_44, elT_22, elT_44, *]) | (refine acx_go rfl (fun _ _ _ h => h) ?_)))
            unfold c41_1
            (repeat' (first | (simp only [↓s_skip, ↓s_reg, ↓s_seq, ↓s_cond, ↓s_condF, ↓s_nil, ↓s_consN, ↓s_thenN, ↓s_inN, ↓s_putS, ↓s_dOkS, ↓s_ev_t, ↓s_upd, ↓s_move, ite_true, ite_false, Nat.reduceEqDiff, Nat.reduceLT, true_and, eq_self, *]) | (refine acx_go rfl (fun _ _ _ h => h) ?_)))
            unfold c41_2
            (repeat' (first | (simp only [↓s_reg, ↓s_nil, ↓s_consN, ↓s_thenN, ↓s_kret, ↓s_putS, ↓s_dOkS, ↓s_ev_t, ↓s_ev_c, ↓s_upd, ↓s_move, ↓s_assign, ↓s_bin, ↓s_bin_add, ptrV, ite_true, ite_false, Nat.reduceEqDiff, Nat.reduceLT, true_and, Nat.succ_ne_self, eq_self, *]) | (with_reducible refine And.intro ?_ ?_)))
            all_goals rw [wrap_ok (n := (i : Int) + 1) (by omega) (by omega)]
            · exact ⟨i + 1, by omega, rfl, hg2.out⟩
            · omega
        | true =>
          obtain ⟨hml, hX⟩ := ht rfl
          clear ht hf
          unfold b41_1
          by_cases hkl : k < f.cls[i].pats.length
          · have hkv : k < vs.length := by omega
            rw [pasMat_drop hkl hkv] at hX
            have hd := pasSz_drop hkl
            have hi1 : (k : Int) < (vs.length : Int) := by omega
            have hi2 : (k : Int) < (f.cls[i].pats.length : Int) := by omega
            have hc := hpp' k hkl hkv m (by omega)
            have hpl2 := Pa.mat_len f.cls[i].pats[k] vs[k] m
            have hpd := pa_drop hkl
            have hed := ex_drop hkv
            generalize f.cls[i].pats[k].mat vs[k] m = r at *
            obtain ⟨m', b'⟩ := r
            simp only at hpl2
            have hnew := Hold.mk (show m'.length + pasSz (f.cls[i].pats.drop (k + 1)) ≤ 1099511627776 by omega)
            replace hX := Hold.mk hX
            clear hd hml hpp' hpz1 hpl
            (repeat' (first | (simp only [↓s_skip, ↓s_reg, ↓s_seq, ↓s_cond, ↓s_condT, ↓s_block, ↓s_dreg, ↓s_nil, ↓s_consN, ↓s_consG, ↓s_guardTT, ↓s_thenN, ↓s_inN, ↓s_kret, ↓s_putS, ↓s_dOkS, ↓s_ev_t, ↓s_ev_c, ↓s_ev_f, ↓s_upd, ↓s_move, ↓s_assign, ↓s_isBool, ↓s_pickA, ↓s_pick, ↓s_load, ↓s_bin, ↓s_fieldAddr, ↓s_indexAddr, ↓s_extract, ↓s_callB, ↓s_callV, ↓s_callL, ↓s_len, ↓s_bin_lss, ↓s_bin_add, vcExtract, ptrV, intV, List.map_cons, List.map_nil, ite_true, ite_false, Nat.reduceEqDiff, Nat.reduceLT, ne_eq, not_false_eq_true, true_and, Nat.succ_ne_self, decide_true, reduceCtorEq, Int.natCast_nonneg, Int.toNat_natCast, ↓s_plFin, ↓s_plTkN, ↓s_plOneN, eq_self, Nat.zero_add, List.drop, and_self, List.getElem?_cons_zero, List.getElem?_cons_succ, ldV_f, ldV_t3, n_ldI, n_ldP, n_faI, n_faP, n_ixS, n_ixA1, n_lenS, n_ldA, n_ldC, n_ldB, n_faA, ↓s_plK, ↓s_oneK, flT_24_2, flT_46_0, ldT_22, ldT_44, ldT_50, ldT_28, elT_22, elT_44, elT_25, en_40, *]) | (refine acx_dreg mixed (fun _ _ _ _ e h => ⟨e.trans h.1, h.2⟩) _ (SubH.refl _) ?_) | (exact SubH.refl _) | (refine PureF.use (hc) ?_) | (with_reducible refine And.intro ?_ ?_)))
            all_goals rw [wrap_ok (n := (k : Int) + 1) (by omega) (by omega)]
            · refine ⟨k + 1, m', b', by omega, rfl, rfl, rfl, fun h => ⟨hnew.out, ?_⟩, fun h => ?_⟩
              · subst h; rw [hX.out]; rfl
              · subst h; rw [hX.out]; rfl
            · omega
          · rw [List.drop_eq_nil_of_le (by omega)] at hX
            have hX : X = (m, true) := by rw [hX]; rfl
            have hg2 : R = ((i : Int), m) := by rw [hR.out, hX]; rfl
            rw [hg2]
            clear hR hg2 hX hpl
            (repeat' (first | (simp only [↓s_reg, ↓s_seq, ↓s_cond, ↓s_condF, ↓s_exit, ↓s_nil, ↓s_consN, ↓s_consG, ↓s_guardFT, ↓s_thenN, ↓s_thenE, ↓s_inE, ↓s_kret, ↓s_putS, ↓s_dOkS, ↓s_ev_t, ↓s_ev_c, ↓s_upd, ↓s_move, ↓s_isBool, ↓s_pickA, ↓s_pick, ↓s_load, ↓s_bin, ↓s_fieldAddr, ↓s_indexAddr, ↓s_callB, ↓s_len, ↓s_bin_lss, ptrV, intV, List.map_cons, List.map_nil, ite_true, ite_false, Nat.reduceEqDiff, Nat.reduceLT, ne_eq, not_false_eq_true, true_and, Bool.false_eq_true, Nat.succ_ne_self, decide_false, reduceCtorEq, Int.natCast_nonneg, Int.toNat_natCast, callOk, undefV, eq_self, Nat.zero_add, List.drop, and_self, ldV_f, Int.ofNat_lt, n_ldI, n_ldP, n_faI, n_faP, n_ixS, n_ixA1, n_lenS, n_ldA, n_ldC, n_ldB, n_faA, undef, flT_24_2, flT_46_0, ldT_22, ldT_44, elT_22, elT_44, *]) | (refine acx_go rfl (fun _ _ _ h => h) ?_)))
            unfold c41_1
            (repeat' (first | (simp only [↓s_reg, ↓s_seq, ↓s_cond, ↓s_condT, ↓s_ret, ↓s_nil, ↓s_consN, ↓s_thenN, ↓s_thenR, ↓s_inR, ↓s_putS, ↓s_dOkS, ↓s_ev_t, ↓s_upd, ↓s_move, ↓s_assign, ite_true, ite_false, Nat.reduceEqDiff, Nat.reduceLT, true_and, Nat.succ_ne_self, eq_self, *])))
            exact retPost_ret rfl (by simp only [resV, resAll, resOne, s_upd, Nat.reduceEqDiff, if_true, if_false, Option.bind_some, Option.map_some, tupV, *] <;> rfl) ⟨_, rfl, GhV.forget hs0 _⟩
    · rw [List.drop_eq_nil_of_le (by omega)] at hR
      have hR : R = (-1, []) := hR
      rw [hR]
      clear hR
      (repeat' (first | (simp only [↓s_reg, ↓s_seq, ↓s_cond, ↓s_condF, ↓s_exit, ↓s_nil, ↓s_consN, ↓s_thenN, ↓s_thenE, ↓s_inE, ↓s_kret, ↓s_putS, ↓s_dOkS, ↓s_ev_t, ↓s_upd, ↓s_move, ↓s_load, ↓s_bin, ↓s_fieldAddr, ↓s_callB, ↓s_len, ↓s_bin_lss, ptrV, intV, List.map_cons, List.map_nil, ite_true, ite_false, Nat.reduceEqDiff, Nat.reduceLT, ne_eq, not_false_eq_true, true_and, Nat.succ_ne_self, decide_false, reduceCtorEq, eq_self, Nat.zero_add, List.drop, ldV_f, Int.ofNat_lt, n_ldP, n_faP, n_lenS, n_ldA, n_ldB, n_faA, Int.reduceNeg, flT_24_2, ldT_22, elT_22, *]) | (refine acx_go rfl (fun _ _ _ h => h) ?_)))
      unfold c41_3
      (repeat' (first | (simp only [↓s_reg, ↓s_seq, ↓s_ret, ↓s_nil, ↓s_consN, ↓s_thenN, ↓s_putS, ↓s_dOkS, ↓s_ev_c, ↓s_assign, Nat.reduceLT, true_and, Int.reduceNeg, *])))
      exact retPost_ret rfl (by simp only [resV, resAll, resOne, s_upd, Nat.reduceEqDiff, if_true, if_false, Option.bind_some, Option.map_some, tupV, *] <;> rfl) ⟨_, rfl, GhV.tuple (GhL.cons (GhV.refl _ _) (GhL.cons ((GhV.nil _).trans (GhV.forget hs0 _)) (GhL.nil _)))⟩
end Go.PV.Ytglpmlbbaedbiaa
end
section
/- The reference's Select. -/
set_option linter.unusedVariables false
set_option linter.unusedSimpArgs false
set_option maxRecDepth 20000
set_option maxHeartbeats 4000000
namespace Go.PV.Ytglpmlbbaedbiaa
open Go Go.Proofs
theorem clauseGo_select {vs : List Ex} : ∀ (l : List Cl) (i : Nat), ((clauseGo vs l i).1 = -1 ∧ selGo vs l i = (0, zEx, 420)) ∨
    ∃ j, ∃ h : j < l.length, (clauseGo vs l i).1 = ((i + j : Nat) : Int) ∧ (clauseGo vs l i).2.length ≤ pasSz l[j].pats ∧ selGo vs l i = (((i + j : Nat) : Int), l[j].body.put (clauseGo vs l i).2, 0)
  | [], i => .inl ⟨rfl, rfl⟩
  | c :: l, i => by
    obtain ⟨h1, h2⟩ := pasMat_parts c.pats vs []
    by_cases h : (pasParts c.pats vs []).2 = true
    · refine .inr ⟨0, by simp, ?_⟩
      have hl := pasMat_len c.pats vs []
      rw [clauseGo, selGo, if_pos (by rw [h1]; exact h), if_pos h, ← h2 h]
      refine ⟨rfl, by simpa using hl, rfl⟩
    · rw [clauseGo, selGo, if_neg (by rw [h1]; exact h), if_neg h]
      rcases clauseGo_select l (i + 1) with ⟨h3, h4⟩ | ⟨j, hj, h3, h4, h5⟩
      · exact .inl ⟨h3, h4⟩
      · refine .inr ⟨j + 1, by simpa using hj, by rw [h3]; congr 1; omega, by simpa using h4, ?_⟩
        rw [h5]
        simp; omega
def rsQ (H0 : AH) (R : Int × Ex × Int) : APost := retPost Try.prog [.tmp 4, .cell 5 28, .tmp 6] fun e H' => ∃ y, e = VE.ret y ∧ GhV H' y H0 (selV R)
theorem rs_ret {H0 H : AH} {t : Nat → VV} {r sp : Nat} {k c : Int} {a b d : VV} {e' : TypeId} {x : Ex} (h4 : t 4 = iV k) (h5 : t 5 = ptrV r 0) (h6 : t 6 = iV c) (k5 : H r = some (.cells e' [a, b, d] sp)) (hg : GhV H (.agg [a, b, d]) H0 (exV x)) : rsQ H0 (k, x, c) .ret ⟨t, []⟩ H := by
  refine retPost_ret rfl (x := .tuple [iV k, .agg [a, b, d], iV c]) (by simp only [resV, resAll, resOne, ldT_28, h4, h5, h6, k5, ptrV, List.drop_zero, ldV_t3, Option.bind_some, Option.map_some, tupV]) ⟨_, rfl, ?_⟩
  have h1 : GhL H [iV k, .agg [a, b, d], iV c] H0 [iV k, exV x, iV c] := by
    refine GhL.cons (GhV.refl _ _) (GhL.cons hg (GhL.cons (GhV.refl _ _) (GhL.nil _)))
  exact GhV.tuple h1
theorem rselect_ok (f : Fu) (vs : List Ex) (hf : fuSz f ≤ 1099511627776) (hv : vs.length ≤ 1099511627776) (hvs : ∀ e ∈ vs, e.sz ≤ 1099511627776) :
    PureF Try.prog 23 [fuV f, exsV vs] (selV (selectF f vs)) := by
  refine GivesF.pure fun H0 => ?_
  show VCalls Try.prog _ _ H0 _
  refine vcalls_intro fd23 (by simp) ?_
  show vc _ _ (rsQ H0 (selectF f vs)) _ _
  obtain ⟨R, hR⟩ : ∃ R, R = selectF f vs := ⟨_, rfl⟩
  rw [← hR]
  have hN : clsSz f.cls ≤ 1099511627776 := by unfold fuSz at hf; omega
  have hclN : f.cls.length ≤ 1099511627776 := by have := sum_len clSz_pos f.cls; unfold clsSz at hN; omega
  have hcz : ∀ i (h : i < f.cls.length), pasSz f.cls[i].pats ≤ 1099511627776 ∧ f.cls[i].body.sz ≤ 1099511627776 := fun i h => by have h1 := sum_mem (f := clSz) (List.getElem_mem h); have h2 : clSz f.cls[i] = 1 + pasSz f.cls[i].pats + f.cls[i].body.sz := rfl; unfold clsSz at hN; omega
  have hnm : ∀ i (h : i < f.cls.length) k (h' : k < f.cls[i].pats.length), PureF Try.prog 39 [paV f.cls[i].pats[k]] (strsV f.cls[i].pats[k].names) := fun i h k h' => rnames_ok _ (by have := (hcz i h).1; have := pasSz_mem (List.getElem_mem h'); omega)
  have htw : ∀ i (h : i < f.cls.length), PureF Try.prog 38 [strsV (pasNames f.cls[i].pats)] (boolV (!decide (pasNames f.cls[i].pats).Nodup)) := fun i h => rtwice_ok _ (by have := (hcz i h).1; have := pasNames_len f.cls[i].pats; omega)
  unfold c23
  by_cases ha : (vs.length : Int) = f.arity
  · have hR2 : R = if clsErr f.arity f.cls = 0 then selGo vs f.cls 0 else (0, zEx, clsErr f.arity f.cls) := by rw [hR, selectF, if_pos ha]
    clear hR
    replace hR2 := Hold.mk hR2
    (repeat' (first | (simp only [↓s_skip, ↓s_reg, ↓s_seq, ↓s_seqL, ↓s_cond, ↓s_condF, ↓s_block, ↓s_loop, ↓s_nil, ↓s_consN, ↓s_thenN, ↓s_kret, ↓s_putS, ↓s_dOkS, ↓s_ev_t, ↓s_ev_c, ↓s_upd, ↓s_move, ↓s_assign, ↓s_load, ↓s_bin, ↓s_alloc, ↓s_box, ↓s_fieldAddr, ↓s_callB, ↓s_len, ↓s_bin_neq, ptrV, intV, List.map_cons, List.map_nil, List.getD_cons_zero, List.getD_cons_succ, List.getD_nil, ite_true, ite_false, Nat.reduceEqDiff, Nat.reduceLT, ne_eq, not_false_eq_true, true_and, Nat.succ_ne_self, decide_true, Bool.not_true, reduceCtorEq, undefV, AH.get, eq_self, Nat.zero_add, List.drop, ldV_f, cl_agg, ↓n_alloc, n_allocS, ↓n_box, n_ldP, n_faP, n_lenS, n_ldA, n_ldB, n_faA, undef, flT_24_1, ldT_3, zeroT_28, elT_25, *]) | (refine allNew_intro fun zr zh => ?_; have zg := zh; (try simp only [AH.set_none] at zg))))
    rename_i r2 n2 n2'
    obtain ⟨z1, z2⟩ := zg
    have hBs : SubH H0 ((H0.set r2 (.cells 24 [sV f.name, iV f.arity, clsV f.cls] 0)).set zr (.cells 28 Zx 0)) := (SubH.new n2).of_set z2
    have kB2 : ((H0.set r2 (.cells 24 [sV f.name, iV f.arity, clsV f.cls] 0)).set zr (.cells 28 Zx 0)) r2 = some (.cells 24 [sV f.name, iV f.arity, clsV f.cls] 0) := (by simp only [AH.get, *, if_true, if_false] <;> rfl)
    have kB5 : ((H0.set r2 (.cells 24 [sV f.name, iV f.arity, clsV f.cls] 0)).set zr (.cells 28 Zx 0)) zr = some (.cells 28 Zx 0) := AH.set_same _ _ _
    show ACx _ _ _ _ ((H0.set r2 (.cells 24 [sV f.name, iV f.arity, clsV f.cls] 0)).set zr (.cells 28 Zx 0))
    generalize (H0.set r2 (.cells 24 [sV f.name, iV f.arity, clsV f.cls] 0)).set zr (.cells 28 Zx 0) = B at *
    clear zh n2' n2 z1
    refine acx_loop (fun _ _ _ h => h) (fun A H => H = B ∧ A.d = [] ∧ A.t 1 = exsV vs ∧ A.t 2 = ptrV r2 0 ∧ A.t 5 = ptrV zr 0 ∧ ∃ i : Nat, i ≤ f.cls.length ∧ A.t 7 = iV i ∧ clsErr f.arity f.cls = clsErr f.arity (f.cls.drop i))
      (fun A _ => match A.t 7 with | .lit (.int _ i) => ((f.cls.length : Int) - i).toNat | _ => 0) ?_ ?_
    · exact ⟨rfl, rfl, (by simp only [s_upd, Nat.reduceEqDiff, if_false, *] <;> rfl), (by simp only [s_upd, Nat.reduceEqDiff, if_true, if_false, *] <;> rfl), (by simp only [s_upd, Nat.reduceEqDiff, if_true, if_false, *] <;> rfl), 0, by omega, (by simp only [s_upd, Nat.reduceEqDiff, if_true, if_false, *] <;> rfl), rfl⟩
    · rintro ⟨t, d⟩ H ⟨rfl, rfl, h1, h2, h5, i, hi, h7, hE⟩
      dsimp only at h1 h2 h5 h7
      have hE' := fun h : i < f.cls.length => hE.trans (clsErr_drop h)
      replace hE := Hold.mk hE
      replace hE' := Hold.mk hE'
      unfold b23_2
      by_cases hlt : i < f.cls.length
      · have hil : (i : Int) < (f.cls.length : Int) := by omega
        have hcd := cl_drop hlt
        by_cases hp : (f.cls[i].pats.length : Int) = f.arity
        · have hpz := (hcz i hlt).1
          have hpl := pasSz_len f.cls[i].pats
          have hnm' := hnm i hlt
          have htw' := htw i hlt
          have htk : ∀ k, (pasNames (f.cls[i].pats.take k)).length ≤ 1099511627776 := fun k => by have := pasNames_len (f.cls[i].pats.take k); have := pasSz_take f.cls[i].pats k; omega
          have hnl : ∀ k (h : k < f.cls[i].pats.length), f.cls[i].pats[k].names.length ≤ 1099511627776 := fun k h => by have := pasSz_mem (List.getElem_mem h); have := f.cls[i].pats[k].names_len; omega
          have hplN : f.cls[i].pats.length ≤ 1099511627776 := by omega
          clear hnm htw hcz hpz hpl
          replace hp := Hold.mk hp
          have hpd : (!decide ((f.cls[i].pats.length : Int) = f.arity)) = false := by rw [decide_eq_true hp.out]; rfl
          (repeat' (first | (simp only [↓s_skip, ↓s_reg, ↓s_seq, ↓s_seqL, ↓s_cond, ↓s_condT, ↓s_condF, ↓s_block, ↓s_loop, ↓s_dreg, ↓s_nil, ↓s_consN, ↓s_thenN, ↓s_kret, ↓s_putS, ↓s_dOkS, ↓s_ev_t, ↓s_ev_c, ↓s_upd, ↓s_move, ↓s_assign, ↓s_load, ↓s_bin, ↓s_buildSlice, ↓s_fieldAddr, ↓s_indexAddr, ↓s_callB, ↓s_len, ↓s_bin_lss, ↓s_bin_neq, ptrV, intV, List.map_cons, List.map_nil, List.length_cons, List.length_nil, ite_true, ite_false, Nat.reduceEqDiff, Nat.reduceLT, Nat.reduceLeDiff, ne_eq, not_false_eq_true, true_and, Nat.succ_ne_self, decide_true, reduceCtorEq, Int.natCast_nonneg, Int.toNat_natCast, Nat.mul_one, ↓s_plFin, ↓s_plTkN, fillV, eq_self, Nat.zero_add, List.drop, and_self, ldV_f, n_ldI, n_ldP, n_faI, n_faP, n_ixS, n_ixA1, n_lenS, n_ldA, n_ldC, n_ldB, n_faA, ↓s_plK, vcBuildSlice, List.replicate_zero, List.flatten_nil, vcBuildSlice, flT_24_2, flT_46_0, flT_24_1, ldT_22, ldT_44, ldT_3, elT_22, elT_44, elT_52, zeroT_9, *]) | (refine acx_dreg mixed (fun _ _ _ _ e h => ⟨e.trans h.1, h.2⟩) _ (SubH.refl _) ?_)))
          refine acx_loop (fun _ _ _ h => h) (fun A H' => A.d = [] ∧ A.t 1 = exsV vs ∧ A.t 2 = ptrV r2 0 ∧ A.t 5 = ptrV zr 0 ∧ A.t 7 = iV i ∧ ∃ k : Nat, k ≤ f.cls[i].pats.length ∧ A.t 9 = iV k ∧ OutE H H' 9 1 (A.t 8) (pasNames (f.cls[i].pats.take k)).length (encC strE (pasNames (f.cls[i].pats.take k))))
            (fun A _ => match A.t 9 with | .lit (.int _ k) => ((f.cls[i].pats.length : Int) - k).toNat | _ => 0) ?_ ?_
          · exact ⟨rfl, (by simp only [s_upd, Nat.reduceEqDiff, if_false, *] <;> rfl), (by simp only [s_upd, Nat.reduceEqDiff, if_false, *] <;> rfl), (by simp only [s_upd, Nat.reduceEqDiff, if_false, *] <;> rfl), (by simp only [s_upd, Nat.reduceEqDiff, if_false, *] <;> rfl), 0, by omega, (by simp only [s_upd, Nat.reduceEqDiff, if_true, if_false, *] <;> rfl), by simp only [s_upd, Nat.reduceEqDiff, if_true, if_false]; exact OutE.start (SubH.refl _)⟩
          · clear h1 h2 h5 h7
            rintro ⟨t, d⟩ H' ⟨rfl, h1, h2, h5, h7, k, hk, h9, ho⟩
            dsimp only at h1 h2 h5 h7 h9 ho
            have k2 := ho.sub _ _ kB2
            have hk1 := htk k
            unfold b23_1
            by_cases hkl : k < f.cls[i].pats.length
            · have hki := hnl k hkl
              have hc := hnm' k hkl
              have hpd2 := pa_drop hkl
              have hkl2 : (k : Int) < (f.cls[i].pats.length : Int) := by omega
              have e : pasNames (f.cls[i].pats.take (k + 1)) = pasNames (f.cls[i].pats.take k) ++ f.cls[i].pats[k].names := pasNames_take hkl
              replace e := Hold.mk e
              clear hnm' htw' htk hnl
              (repeat' (first | (simp only [↓s_skip, ↓s_reg, ↓s_seq, ↓s_cond, ↓s_condT, ↓s_block, ↓s_nil, ↓s_consN, ↓s_thenN, ↓s_kret, ↓s_putS, ↓s_dOkS, ↓s_ev_t, ↓s_ev_f, ↓s_upd, ↓s_move, ↓s_load, ↓s_bin, ↓s_fieldAddr, ↓s_indexAddr, ↓s_callB, ↓s_callV, ↓s_callL, ↓s_len, ↓s_append, ↓s_bin_lss, ptrV, intV, List.map_cons, List.map_nil, ite_true, ite_false, Nat.reduceEqDiff, Nat.reduceLT, ne_eq, not_false_eq_true, true_and, Nat.succ_ne_self, decide_true, reduceCtorEq, Int.natCast_nonneg, Int.toNat_natCast, eq_self, Nat.zero_add, List.drop, and_self, ldV_f, ldV_t3, n_ldI, n_ldP, n_faI, n_faP, n_ixS, n_ixA1, n_lenS, n_ldA, n_ldC, n_ldB, n_faA, flT_24_2, flT_46_0, ldT_22, ldT_44, ldT_50, elT_22, elT_44, en_39, *]) | (refine PureF.use (hc) ?_)))
              refine ho.append elT_52 zeroT_9 rfl (by omega) (src_enc (enc := strE) (k := 1) (fun _ => rfl) _ false _) (encC_one str_one _) (by omega) (by omega) (fun h0 => by rw [List.eq_nil_of_length_eq_zero h0]; rfl) (fun v' H'' ho2 => ?_)
              rw [← encC_append, ← List.length_append, ← e.out] at ho2
              (repeat' (first | (simp only [↓s_reg, ↓s_nil, ↓s_consN, ↓s_thenN, ↓s_inN, ↓s_kret, ↓s_putS, ↓s_dOkS, ↓s_ev_t, ↓s_ev_c, ↓s_upd, ↓s_move, ↓s_assign, ↓s_bin, ↓s_bin_add, ptrV, ite_true, ite_false, Nat.reduceEqDiff, Nat.reduceLT, true_and, Nat.succ_ne_self, eq_self, *]) | (with_reducible refine And.intro ?_ ?_)))
              all_goals rw [wrap_ok (n := (k : Int) + 1) (by omega) (by omega)]
              · exact ⟨k + 1, by omega, rfl, ho2⟩
              · omega
            · have hkl2 : ¬ (k : Int) < (f.cls[i].pats.length : Int) := by omega
              rw [List.take_of_length_le (by omega)] at ho
              clear hnm' htk hnl
              (repeat' (first | (simp only [↓s_reg, ↓s_seq, ↓s_cond, ↓s_condF, ↓s_exit, ↓s_nil, ↓s_consN, ↓s_thenN, ↓s_thenE, ↓s_inE, ↓s_kret, ↓s_putS, ↓s_dOkS, ↓s_ev_t, ↓s_upd, ↓s_move, ↓s_load, ↓s_bin, ↓s_fieldAddr, ↓s_indexAddr, ↓s_callB, ↓s_len, ↓s_bin_lss, ptrV, intV, List.map_cons, List.map_nil, ite_true, ite_false, Nat.reduceEqDiff, Nat.reduceLT, ne_eq, not_false_eq_true, true_and, Nat.succ_ne_self, decide_false, reduceCtorEq, Int.natCast_nonneg, Int.toNat_natCast, eq_self, Nat.zero_add, List.drop, and_self, ldV_f, n_ldI, n_ldP, n_faI, n_faP, n_ixS, n_ixA1, n_lenS, n_ldA, n_ldC, n_ldB, n_faA, flT_24_2, flT_46_0, ldT_22, ldT_44, elT_22, elT_44, *])))
              refine acx_ghost (H' := H) (Ghost.slot (i := 8) (x' := strsV (pasNames f.cls[i].pats)) (by simp only [s_upd, Nat.reduceEqDiff, if_false]; exact ho.back)) ?_
              refine acx_go rfl (fun _ _ _ h => h) ?_
              clear ho k2 H'
              unfold c23_1
              by_cases hnd : (pasNames f.cls[i].pats).Nodup
              · have hE2 : clsErr f.arity f.cls = clsErr f.arity (f.cls.drop (i + 1)) := by rw [hE'.out hlt, if_pos hp.out, if_pos hnd]
                replace hE2 := Hold.mk hE2
                have hnd2 : (!decide (pasNames f.cls[i].pats).Nodup) = false := by rw [decide_eq_true hnd]; rfl
                rw [hnd2] at htw'
                clear hE hE' hR2 hnd hnd2
                (repeat' (first | (simp only [↓s_skip, ↓s_reg, ↓s_seq, ↓s_cond, ↓s_condF, ↓s_nil, ↓s_consN, ↓s_thenN, ↓s_inN, ↓s_kret, ↓s_putS, ↓s_dOkS, ↓s_ev_t, ↓s_ev_f, ↓s_upd, ↓s_move, ↓s_callV, ↓s_callL, boolV, List.map_cons, List.map_nil, ite_true, ite_false, Nat.reduceEqDiff, Nat.reduceLT, true_and, Nat.succ_ne_self, eq_self, en_38, *]) | (refine acx_go rfl (fun _ _ _ h => h) ?_) | (refine PureF.use (htw') ?_)))
                unfold c23_2
                (repeat' (first | (simp only [↓s_reg, ↓s_nil, ↓s_consN, ↓s_thenN, ↓s_kret, ↓s_putS, ↓s_dOkS, ↓s_ev_t, ↓s_ev_c, ↓s_upd, ↓s_move, ↓s_assign, ↓s_bin, ↓s_bin_add, ptrV, ite_true, ite_false, Nat.reduceEqDiff, Nat.reduceLT, true_and, Nat.succ_ne_self, eq_self, *]) | (with_reducible refine And.intro ?_ ?_)))
                all_goals rw [wrap_ok (n := (i : Int) + 1) (by omega) (by omega)]
                · exact ⟨i + 1, by omega, rfl, hE2.out⟩
                · omega
              · have he : clsErr f.arity f.cls = 10 := by rw [hE'.out hlt, if_pos hp.out, if_neg hnd]
                have hnd2 : (!decide (pasNames f.cls[i].pats).Nodup) = true := by rw [decide_eq_false hnd]; rfl
                rw [hR2.out, he, if_neg (by omega)]
                rw [hnd2] at htw'
                clear hE hE' hR2 hnd hnd2 he
                (repeat' (first | (simp only [↓s_reg, ↓s_seq, ↓s_cond, ↓s_condT, ↓s_ret, ↓s_nil, ↓s_consN, ↓s_thenN, ↓s_thenR, ↓s_inR, ↓s_kret, ↓s_putS, ↓s_putN, ↓s_dOkS, ↓s_dOkN, ↓s_ev_t, ↓s_ev_c, ↓s_ev_f, ↓s_upd, ↓s_move, ↓s_assign, ↓s_store, ↓s_build, ↓s_callV, ↓s_callL, ptrV, boolV, List.map_cons, List.map_nil, List.length_cons, List.length_nil, ite_true, ite_false, Nat.reduceEqDiff, Nat.reduceLT, Nat.reduceAdd, true_and, Nat.succ_ne_self, vcBuild, fillV, setAt, List.all_cons, List.all_nil, Bool.and_self, eq_self, Nat.zero_add, on_int, on_str, on_sl, cl_agg, List.set_cons_zero, List.set_cons_succ, Nat.le_refl, n_stP, n_stA, Zx, szT_28, stT_28, en_38, *]) | (refine PureF.use (htw') ?_)))
                refine rs_ret (by simp only [s_upd, Nat.reduceEqDiff, if_true, if_false, *] <;> rfl) (by simp only [s_upd, Nat.reduceEqDiff, if_false, *] <;> rfl) (by simp only [s_upd, Nat.reduceEqDiff, if_true, if_false, *] <;> rfl) (AH.set_same _ _ _) (zx_gh (hBs.of_set z2))
        · have he : clsErr f.arity f.cls = 5 := by rw [hE'.out hlt, if_neg hp]
          rw [hR2.out, he, if_neg (by omega)]
          (repeat' (first | (simp only [↓s_skip, ↓s_reg, ↓s_seq, ↓s_seqL, ↓s_cond, ↓s_condT, ↓s_block, ↓s_ret, ↓s_dreg, ↓s_nil, ↓s_consN, ↓s_thenN, ↓s_thenR, ↓s_inR, ↓s_kret, ↓s_putS, ↓s_putN, ↓s_dOkS, ↓s_dOkN, ↓s_ev_t, ↓s_ev_c, ↓s_upd, ↓s_move, ↓s_assign, ↓s_load, ↓s_store, ↓s_bin, ↓s_build, ↓s_fieldAddr, ↓s_indexAddr, ↓s_callB, ↓s_len, ↓s_bin_lss, ↓s_bin_neq, ptrV, intV, List.map_cons, List.map_nil, List.length_cons, List.length_nil, ite_true, ite_false, Nat.reduceEqDiff, Nat.reduceLT, Nat.reduceAdd, ne_eq, not_false_eq_true, true_and, Nat.succ_ne_self, decide_true, decide_false, Bool.not_false, reduceCtorEq, Int.natCast_nonneg, Int.toNat_natCast, ↓s_plFin, ↓s_plTkN, vcBuild, fillV, setAt, List.all_cons, List.all_nil, Bool.and_self, eq_self, Nat.zero_add, List.drop, and_self, ldV_f, on_int, on_str, on_sl, cl_agg, List.set_cons_zero, List.set_cons_succ, Nat.le_refl, n_ldI, n_ldP, n_faI, n_faP, n_ixS, n_ixA1, n_lenS, n_ldA, n_ldC, n_ldB, n_faA, n_stP, n_stA, ↓s_plK, Zx, flT_24_2, flT_46_0, flT_24_1, ldT_22, ldT_44, ldT_3, szT_28, stT_28, elT_22, elT_44, *]) | (refine acx_dreg mixed (fun _ _ _ _ e h => ⟨e.trans h.1, h.2⟩) _ (SubH.refl _) ?_)))
          exact rs_ret (by simp only [s_upd, Nat.reduceEqDiff, if_true, if_false, *] <;> rfl) (by simp only [s_upd, Nat.reduceEqDiff, if_false, *] <;> rfl) (by simp only [s_upd, Nat.reduceEqDiff, if_true, if_false, *] <;> rfl) (AH.set_same _ _ _) (zx_gh (hBs.of_set z2))
      · have he : clsErr f.arity f.cls = 0 := by rw [hE.out, List.drop_eq_nil_of_le (by omega)]; rfl
        have hR3 : R = selGo vs f.cls 0 := by rw [hR2.out, if_pos he]
        have hall := clsErr_zero he
        clear hE hE' hR2 hnm htw he
        (repeat' (first | (simp only [↓s_reg, ↓s_seq, ↓s_cond, ↓s_condF, ↓s_exit, ↓s_nil, ↓s_consN, ↓s_thenN, ↓s_thenE, ↓s_inE, ↓s_kret, ↓s_putS, ↓s_dOkS, ↓s_ev_t, ↓s_upd, ↓s_move, ↓s_load, ↓s_bin, ↓s_fieldAddr, ↓s_callB, ↓s_len, ↓s_bin_lss, ptrV, intV, List.map_cons, List.map_nil, ite_true, ite_false, Nat.reduceEqDiff, Nat.reduceLT, ne_eq, not_false_eq_true, true_and, Nat.succ_ne_self, decide_false, reduceCtorEq, eq_self, Nat.zero_add, List.drop, ldV_f, Int.ofNat_lt, n_ldP, n_faP, n_lenS, n_ldA, n_ldB, n_faA, flT_24_2, ldT_22, elT_22, *])))
        refine acx_go rfl (fun _ _ _ h => h) ?_
        have hcl := rclause_ok f vs hf hv hvs (fun c hc => by have := hall c hc; omega)
        clear hi hall hvs
        rcases clauseGo_select (vs := vs) f.cls 0 with ⟨hg1, hg2⟩ | ⟨j, hj, hg1, hg2, hg3⟩
        · rw [hg2]
          generalize clauseGo vs f.cls 0 = r at *
          obtain ⟨c, m⟩ := r
          dsimp only at hg1
          subst hg1
          clear hR3 hg2
          unfold c23_3
          (repeat' (first | (simp only [↓s_reg, ↓s_seq, ↓s_cond, ↓s_condT, ↓s_ret, ↓s_nil, ↓s_consN, ↓s_thenN, ↓s_thenR, ↓s_kret, ↓s_putS, ↓s_putN, ↓s_dOkS, ↓s_dOkN, ↓s_ev_t, ↓s_ev_c, ↓s_ev_f, ↓s_upd, ↓s_move, ↓s_assign, ↓s_load, ↓s_store, ↓s_bin, ↓s_build, ↓s_extract, ↓s_callV, ↓s_callL, ↓s_bin_lss, vcExtract, ptrV, List.map_cons, List.map_nil, List.length_cons, List.length_nil, ite_true, ite_false, Nat.reduceEqDiff, Nat.reduceLT, Nat.reduceAdd, true_and, Nat.succ_ne_self, decide_true, vcBuild, fillV, setAt, List.all_cons, List.all_nil, Bool.and_self, eq_self, Nat.zero_add, List.drop, List.getElem?_cons_zero, List.getElem?_cons_succ, ldV_t3, on_int, on_str, on_sl, cl_agg, List.set_cons_zero, List.set_cons_succ, Nat.le_refl, n_ldP, n_ldA, n_ldB, n_stP, n_stA, Int.reduceLT, Int.reduceNeg, Zx, ldT_24, szT_28, stT_28, en_41, *]) | (refine PureF.use (hcl) ?_)))
          exact rs_ret (by simp only [s_upd, Nat.reduceEqDiff, if_true, if_false, *] <;> rfl) (by simp only [s_upd, Nat.reduceEqDiff, if_false, *] <;> rfl) (by simp only [s_upd, Nat.reduceEqDiff, if_true, if_false, *] <;> rfl) (AH.set_same _ _ _) (zx_gh (hBs.of_set z2))
        · obtain ⟨hz1, hz2⟩ := hcz j hj
          rw [hg3]
          generalize clauseGo vs f.cls 0 = r at *
          obtain ⟨c, m⟩ := r
          dsimp only at hg1 hg2
          rw [Nat.zero_add] at hg1 ⊢
          subst hg1
          have hput := rPut_ok f.cls[j].body m hz2 (by omega)
          have hcd := cl_drop hj
          have hjl : (j : Int) < (f.cls.length : Int) := by omega
          dsimp only
          generalize f.cls[j].body.put m = y at *
          clear hR3 hg2 hg3 hcz hz1 hz2
          unfold c23_3
          (repeat' (first | (simp only [↓s_skip, ↓s_reg, ↓s_seq, ↓s_cond, ↓s_ret, ↓s_nil, ↓s_consN, ↓s_thenN, ↓s_thenR, ↓s_kret, ↓s_putS, ↓s_putN, ↓s_dOkS, ↓s_dOkN, ↓s_ev_t, ↓s_ev_c, ↓s_ev_f, ↓s_upd, ↓s_move, ↓s_assign, ↓s_load, ↓s_store, ↓s_bin, ↓s_build, ↓s_fieldAddr, ↓s_indexAddr, ↓s_extract, ↓s_callV, ↓s_callL, ↓s_bin_lss, vcExtract, ptrV, List.map_cons, List.map_nil, List.length_cons, List.length_nil, ite_true, ite_false, Nat.reduceEqDiff, Nat.reduceLT, Nat.reduceAdd, ne_eq, not_false_eq_true, true_and, Nat.succ_ne_self, decide_true, decide_false, reduceCtorEq, Int.natCast_nonneg, Int.toNat_natCast, vcBuild, fillV, setAt, List.all_cons, List.all_nil, Bool.and_self, eq_self, Nat.zero_add, List.drop, and_self, List.getElem?_cons_zero, List.getElem?_cons_succ, ldV_f, ldV_t3, on_int, on_str, on_sl, cl_agg, on_slice, List.set_cons_zero, List.set_cons_succ, Nat.le_refl, n_ldI, n_ldP, n_faI, n_faP, n_ixS, n_ixA1, n_ldA, n_ldC, n_ldB, n_faA, n_stP, n_stA, Zx, flT_24_2, flT_46_1, ldT_22, ldT_24, ldT_28, szT_28, stT_28, elT_22, en_41, en_42, *]) | (refine condL_splitD ?_ ?_ <;> intro) | (refine PureF.use (hcl) ?_) | (refine PureF.use (hput) ?_)))
          · omega
          · exact rs_ret (by simp only [s_upd, Nat.reduceEqDiff, if_true, if_false, *] <;> rfl) (by simp only [s_upd, Nat.reduceEqDiff, if_false, *] <;> rfl) (by simp only [s_upd, Nat.reduceEqDiff, if_true, if_false, *] <;> rfl) (AH.set_same _ _ _) (GhV.forget (hBs.of_set z2) _)
  · have hR2 : R = (0, zEx, 5) := by rw [hR, selectF, if_neg ha]
    clear hR
    rw [hR2]
    clear hR2
    (repeat' (first | (simp only [↓s_reg, ↓s_seq, ↓s_cond, ↓s_condT, ↓s_ret, ↓s_nil, ↓s_consN, ↓s_thenN, ↓s_thenR, ↓s_kret, ↓s_putS, ↓s_putN, ↓s_dOkS, ↓s_dOkN, ↓s_ev_t, ↓s_ev_c, ↓s_upd, ↓s_move, ↓s_assign, ↓s_load, ↓s_store, ↓s_bin, ↓s_alloc, ↓s_box, ↓s_build, ↓s_fieldAddr, ↓s_callB, ↓s_len, ↓s_bin_neq, ptrV, intV, List.map_cons, List.map_nil, List.length_cons, List.length_nil, List.getD_cons_zero, List.getD_cons_succ, List.getD_nil, ite_true, ite_false, Nat.reduceEqDiff, Nat.reduceLT, Nat.reduceAdd, ne_eq, not_false_eq_true, true_and, Nat.succ_ne_self, decide_false, Bool.not_false, reduceCtorEq, undefV, AH.get, AH.set_set, vcBuild, fillV, setAt, List.all_cons, List.all_nil, Bool.and_self, eq_self, Nat.zero_add, List.drop, ldV_f, on_int, on_str, on_sl, cl_agg, List.set_cons_zero, List.set_cons_succ, ↓n_alloc, n_allocS, ↓n_box, Nat.le_refl, n_ldP, n_faP, n_lenS, n_ldA, n_ldB, n_faA, n_stP, n_stA, undef, flT_24_1, ldT_3, szT_28, stT_28, zeroT_28, elT_25, *]) | (refine allNew_intro fun zr zh => ?_; have zg := zh; (try simp only [AH.set_none] at zg))))
    rename_i r2 n2 n2'
    exact rs_ret (by simp only [s_upd, Nat.reduceEqDiff, if_true, if_false, *] <;> rfl) (by simp only [s_upd, Nat.reduceEqDiff, if_true, if_false, *] <;> rfl) (by simp only [s_upd, Nat.reduceEqDiff, if_true, if_false, *] <;> rfl) (AH.set_same _ _ _) (zx_gh ((SubH.new n2).of_set zg.2))
end Go.PV.Ytglpmlbbaedbiaa
end
section
/- Equal strings; equal expressions of the two kinds. -/
set_option linter.unusedVariables false
set_option linter.unusedSimpArgs false
set_option maxRecDepth 20000
set_option maxHeartbeats 4000000
namespace Go.PV.Ytglpmlbbaedbiaa
open Go Go.Proofs
theorem list_eq_drop {α : Type} {l m : List α} {i : Nat} (h : i < l.length) (h' : i < m.length) : l.drop i = m.drop i ↔ l[i] = m[i] ∧ l.drop (i + 1) = m.drop (i + 1) := by
  rw [List.drop_eq_getElem_cons h, List.drop_eq_getElem_cons h', List.cons.injEq]
theorem eqStr_ok (l m : List ByteArray) (hl : l.length ≤ 1099511627776) (b : Bool) (hb : b = true ↔ l = m) : PureF Try.prog 20 [strsV l, strsV m] (boolV b) := by
  refine PureF.forget fun H => ?_
  refine vcalls_intro fd20 (by simp) ?_
  unfold c20
  replace hb := Hold.mk hb
  (repeat' (first | (simp only [↓s_skip, ↓s_reg, ↓s_seq, ↓s_seqL, ↓s_cond, ↓s_block, ↓s_ret, ↓s_loop, ↓s_nil, ↓s_consN, ↓s_thenN, ↓s_thenR, ↓s_kret, ↓s_putS, ↓s_dOkS, ↓s_ev_t, ↓s_ev_c, ↓s_upd, ↓s_move, ↓s_assign, ↓s_bin, ↓s_callB, ↓s_len, ↓s_bin_neq, intV, boolV, List.map_cons, List.map_nil, List.getD_cons_zero, List.getD_cons_succ, List.getD_nil, ite_true, ite_false, Nat.reduceEqDiff, Nat.reduceLT, ne_eq, not_false_eq_true, true_and, Nat.succ_ne_self, reduceCtorEq, undefV, eq_self, n_lenS, undef, elT_52, *]) | (refine condL_split ?_ ?_ <;> intro) | (refine ret_tmp ?_) | (exact SubH.refl _) | (with_reducible refine And.intro ?_ ?_)))
  · have hlm : ¬ l.length = m.length := by
      have h : (!decide ((l.length : Int) = (m.length : Int))) = true := by assumption
      intro h'
      rw [h'] at h
      simp at h
    have hb2 : b = false := by
      cases b with
      | false => rfl
      | true => exact absurd (congrArg List.length (hb.out.1 rfl)) hlm
    rw [hb2]
  · have hlm : l.length = m.length := by
      have h : (!decide ((l.length : Int) = (m.length : Int))) = false := by assumption
      simp at h; omega
    refine acx_loop (fun _ _ _ h => h) (fun A H' => H' = H ∧ A.d = [] ∧ A.t 0 = strsV l ∧ A.t 1 = strsV m ∧ A.t 12 = iV l.length ∧ ∃ (i : Nat), i ≤ l.length ∧ A.t 13 = iV i ∧ (b = true ↔ l.drop i = m.drop i))
      (fun A _ => match A.t 13 with | .lit (.int _ i) => ((l.length : Int) - i).toNat | _ => 0) ?_ ?_
    · exact ⟨rfl, rfl, (by simp only [s_upd, Nat.reduceEqDiff, if_false, *] <;> rfl), (by simp only [s_upd, Nat.reduceEqDiff, if_false, *] <;> rfl), (by simp only [s_upd, Nat.reduceEqDiff, if_true, if_false, *] <;> rfl), 0, by omega, (by simp only [s_upd, Nat.reduceEqDiff, if_true, if_false, *] <;> rfl), hb.out⟩
    · clear hb
      rintro ⟨t, d⟩ H' ⟨rfl, rfl, h0, h1, h12, i, hi, h13, hb⟩
      dsimp only at h0 h1 h12 h13
      unfold b20_1
      by_cases hlt : i < l.length
      · have hlt2 : i < m.length := by omega
        have hi1 : (i : Int) < (l.length : Int) := by omega
        have hi2 : (i : Int) < (m.length : Int) := by omega
        have e1 := str_drop hlt
        have e2 := str_drop hlt2
        rw [list_eq_drop hlt hlt2] at hb
        replace hb := Hold.mk hb
        (repeat' (first | (simp only [↓s_skip, ↓s_reg, ↓s_seq, ↓s_cond, ↓s_condT, ↓s_block, ↓s_ret, ↓s_dreg, ↓s_nil, ↓s_consN, ↓s_thenN, ↓s_thenR, ↓s_inN, ↓s_inR, ↓s_kret, ↓s_putS, ↓s_dOkS, ↓s_ev_t, ↓s_ev_c, ↓s_upd, ↓s_move, ↓s_assign, ↓s_load, ↓s_bin, ↓s_indexAddr, ↓s_bin_lss, ↓s_bin_add, ↓s_neqS, ite_true, ite_false, Nat.reduceEqDiff, Nat.reduceLT, true_and, Nat.succ_ne_self, decide_true, reduceCtorEq, Int.natCast_nonneg, Int.toNat_natCast, Nat.mul_one, ↓s_plFin, ↓s_plTkN, eq_self, and_self, ldV_f, n_ldI, n_ixS, n_ixA1, n_ldC, n_ldB, ↓s_plK, ldT_9, elT_52, *]) | (refine condL_split ?_ ?_ <;> intro) | (refine ret_tmp ?_) | (refine acx_dreg mixed (fun _ _ _ _ e h => ⟨e.trans h.1, h.2⟩) _ (SubH.refl _) ?_) | (exact SubH.refl _) | (with_reducible refine And.intro ?_ ?_)))
        · have he : ¬ l[i] = m[i] := fun h => by
            have h2 : (!decide (l[i] = m[i])) = true := by assumption
            rw [decide_eq_true h] at h2
            cases h2
          have hb2 : b = false := by
            cases b with
            | false => rfl
            | true => exact absurd (hb.out.1 rfl).1 he
          rw [hb2]
        · have he : l[i] = m[i] := by
            have h2 : (!decide (l[i] = m[i])) = false := by assumption
            simpa using h2
          rw [wrap_ok (n := (i : Int) + 1) (by omega) (by omega)]
          exact ⟨i + 1, by omega, rfl, hb.out.trans ⟨fun h => h.2, fun h => ⟨he, h⟩⟩⟩
        · rw [wrap_ok (n := (i : Int) + 1) (by omega) (by omega)]
          omega
      · have hi1 : ¬ i < m.length := by omega
        rw [List.drop_eq_nil_of_le (by omega), List.drop_eq_nil_of_le (by omega)] at hb
        have hb : b = true := hb.2 rfl
        rw [hb]
        clear hb
        (repeat' (first | (simp only [↓s_reg, ↓s_seq, ↓s_cond, ↓s_condF, ↓s_exit, ↓s_nil, ↓s_consN, ↓s_thenN, ↓s_thenE, ↓s_inE, ↓s_kret, ↓s_putS, ↓s_dOkS, ↓s_ev_t, ↓s_upd, ↓s_bin, ↓s_bin_lss, ite_true, Nat.reduceLT, true_and, decide_false, eq_self, Int.ofNat_lt, Int.ofNat_lt, *]) | (refine acx_go rfl (fun _ _ _ h => h) ?_)))
        unfold c20_1
        (repeat' (first | (simp only [↓s_reg, ↓s_seq, ↓s_ret, ↓s_nil, ↓s_consN, ↓s_thenN, ↓s_putS, ↓s_dOkS, ↓s_ev_c, ↓s_upd, ↓s_assign, ite_true, ite_false, Nat.reduceEqDiff, Nat.reduceLT, true_and, eq_self, *]) | (refine ret_tmp ?_) | (exact SubH.refl _)))
        all_goals trace_state
theorem equalEr {l m : List Ex} {f : VV} {p : Ex → Ex → Bool} {H : AH} {K : VE → AH → Prop} (hl : l.length ≤ 1099511627776)
    (hf : ∀ (i : Nat) (h : i < l.length) (h' : i < m.length) H', SubH H H' → FnAt Try.prog f [exV l[i], exV m[i]] (boolV (p l[i] m[i])) H') (hK : K (.ret (boolV (eqL p l m))) H) : VCalls Try.prog 21 [exsV l, exsV m, f] H K := by
  refine ReadF.use (x := boolV (eqL p l m)) ?_ hK
  clear hK
  refine vcalls_intro fd21 (by simp) ?_
  unfold c21
  (repeat' (first | (simp only [↓s_skip, ↓s_reg, ↓s_seq, ↓s_seqL, ↓s_cond, ↓s_block, ↓s_ret, ↓s_loop, ↓s_nil, ↓s_consN, ↓s_thenN, ↓s_thenR, ↓s_kret, ↓s_putS, ↓s_dOkS, ↓s_ev_t, ↓s_ev_c, ↓s_upd, ↓s_move, ↓s_assign, ↓s_bin, ↓s_callB, ↓s_len, ↓s_bin_neq, intV, boolV, List.map_cons, List.map_nil, List.getD_cons_zero, List.getD_cons_succ, List.getD_nil, ite_true, ite_false, Nat.reduceEqDiff, Nat.reduceLT, ne_eq, not_false_eq_true, true_and, Nat.succ_ne_self, reduceCtorEq, undefV, eq_self, n_lenS, undef, elT_32, elT_25, *]) | (refine condL_split ?_ ?_ <;> intro) | (refine ret_tmp ?_) | (exact SubH.refl _) | (with_reducible refine And.intro ?_ ?_)))
  · rename_i h
    rw [eqL_ne (by simp at h; omega)]
  · rename_i h
    have hlm : l.length = m.length := by simp at h; omega
    refine acx_loop (fun _ _ _ h => h) (fun A H' => SubH H H' ∧ A.d = [] ∧ A.t 1 = exsV m ∧ A.t 2 = f ∧ A.t 15 = exsV l ∧ A.t 16 = iV l.length ∧ ∃ (i : Nat), i ≤ l.length ∧ A.t 17 = iV i ∧ eqL p l m = eqL p (l.drop i) (m.drop i))
      (fun A _ => match A.t 17 with | .lit (.int _ i) => ((l.length : Int) - i).toNat | _ => 0) ?_ ?_
    · exact ⟨SubH.refl _, rfl, rfl, rfl, rfl, rfl, 0, by omega, rfl, rfl⟩
    · clear h
      rintro ⟨t, d⟩ H' ⟨hs', rfl, h1, h2, h15, h16, i, hi, h17, he⟩
      dsimp only at h1 h2 h15 h16 h17
      rw [he]
      clear he
      unfold b21_1
      (repeat' (first | (refine (hf _ _ _ _ ?_) _ ?_) | (simp only [↓s_skip, ↓s_reg, ↓s_seq, ↓s_cond, ↓s_block, ↓s_exit, ↓s_ret, ↓s_nil, ↓s_consN, ↓s_thenN, ↓s_thenE, ↓s_thenR, ↓s_inN, ↓s_inE, ↓s_inR, ↓s_kret, ↓s_putS, ↓s_putN, ↓s_dOkS, ↓s_dOkN, ↓s_ev_t, ↓s_ev_c, ↓s_upd, ↓s_move, ↓s_assign, ↓s_load, ↓s_store, ↓s_bin, ↓s_un, ↓s_alloc, ↓s_indexAddr, ↓s_callV, ↓s_un_not, ↓s_bin_lss, ↓s_bin_add, ptrV, boolV, List.map_cons, List.map_nil, List.length_cons, List.length_nil, ite_true, ite_false, Nat.reduceEqDiff, Nat.reduceLT, Nat.reduceAdd, true_and, Nat.succ_ne_self, decide_true, decide_false, Int.natCast_nonneg, Int.toNat_natCast, AH.get, AH.set_set, setAt, List.all_cons, List.all_nil, Bool.and_self, eq_self, Nat.zero_add, List.drop, and_self, ldV_t3, Int.ofNat_lt, on_int, on_str, cl_agg, on_slice, List.set_cons_zero, List.set_cons_succ, ↓n_alloc, n_allocS, Nat.le_refl, n_ldI, n_ldP, n_ixS, n_ixA1, n_ldA, n_ldC, n_ldB, n_stP, n_stA, ex_drop, Int.ofNat_lt, ldT_34, ldT_28, szT_34, szT_28, zeroT_34, zeroT_28, elT_32, elT_25, *]) | (refine condL_splitD ?_ ?_ <;> intro) | (refine condL_split ?_ ?_ <;> intro) | (refine ret_tmp ?_) | (refine acx_go rfl (fun _ _ _ h => h) ?_) | (refine allNew_intro fun zr zh => ?_; have zg := zh; (try simp only [AH.set_none] at zg)) | (refine SubH.of_set ?_ ?_) | (exact SubH.none (by assumption) (by assumption)) | (exact SubH.none (by assumption) zg.2) | (with_reducible refine And.intro ?_ ?_)))
      · rename_i h2
        have h1 : i < m.length := by assumption
        rw [eqL_drop (by omega) h1, show p l[i] m[i] = false from by simpa using h2]
        rfl
      · rename_i h2
        have h1 : i < m.length := by assumption
        rw [wrap_ok (n := (i : Int) + 1) (by omega) (by omega)]
        exact ⟨i + 1, by omega, rfl, by rw [eqL_drop (by omega) h1, show p l[i] m[i] = true from by simpa using h2, Bool.true_and]⟩
      · rw [wrap_ok (n := (i : Int) + 1) (by omega) (by omega)]
        omega
      · rw [List.drop_eq_nil_of_le (by omega), List.drop_eq_nil_of_le (by omega)]
        unfold c21_1
        (repeat' (first | (simp only [↓s_reg, ↓s_seq, ↓s_ret, ↓s_nil, ↓s_consN, ↓s_thenN, ↓s_putS, ↓s_dOkS, ↓s_ev_c, ↓s_upd, ↓s_assign, ite_true, ite_false, Nat.reduceEqDiff, Nat.reduceLT, true_and, and_true, eq_self, *]) | (refine ret_tmp ?_)))
        rfl
theorem same_ok (a : Ex) : ∀ b, a.sz ≤ 1099511627776 → b.sz ≤ 1099511627776 → PureF Try.prog 22 [exV a, exV b] (boolV (a.beq b)) := by
  refine Ex.ind (p := fun a => ∀ b, a.sz ≤ 1099511627776 → b.sz ≤ 1099511627776 → PureF Try.prog 22 [exV a, exV b] (boolV (a.beq b))) (fun a ih b ha hb => ?_) a
  have l1 := exsSz_len a.kids
  have l2 := exsSz_len b.kids
  have z1 := a.sz_eq
  have z2 := b.sz_eq
  have ih' : ∀ (i : Nat) (h : i < a.kids.length) (h' : i < b.kids.length), PureF Try.prog 22 [exV a.kids[i], exV b.kids[i]] (boolV (a.kids[i].beq b.kids[i])) := fun i h h' => ih _ (List.getElem_mem h) _ (by have := exsSz_mem (List.getElem_mem h); omega) (by have := exsSz_mem (List.getElem_mem h'); omega)
  have n1 : a.kids.length ≤ 1099511627776 := by omega
  have n2 : b.kids.length ≤ 1099511627776 := by omega
  clear ih z1 z2 l1 l2 ha hb
  rw [a.beq_eq]
  refine PureF.forget fun H => ?_
  refine vcalls_intro fd22 (by simp) ?_
  unfold c22
  (repeat' (first | (refine equalEr n1 (p := Ex.beq) (fun i h h' H' _ => FnAt.lit en_22 (ih' i h h')) ?_) | (simp only [↓s_reg, ↓s_seq, ↓s_ret, ↓s_nil, ↓s_consN, ↓s_consG, ↓s_guardTT, ↓s_guardFT, ↓s_thenN, ↓s_kret, ↓s_putS, ↓s_dOkS, ↓s_ev_t, ↓s_ev_c, ↓s_ev_f, ↓s_upd, ↓s_move, ↓s_assign, ↓s_isBool, ↓s_pickA, ↓s_pick, ↓s_load, ↓s_bin, ↓s_box, ↓s_fieldAddr, ↓s_callV, ↓s_callL, ↓s_bin_eql, ↓s_eqlS, ptrV, boolV, List.map_cons, List.map_nil, List.getD_cons_zero, List.getD_cons_succ, List.getD_nil, ite_true, ite_false, Nat.reduceEqDiff, Nat.reduceLT, ne_eq, not_false_eq_true, true_and, Bool.false_eq_true, Nat.succ_ne_self, decide_true, decide_false, Bool.true_and, Bool.false_and, callOk, undefV, AH.get, eq_self, Nat.zero_add, Nat.add_zero, List.drop, ldV_f, cl_agg, ↓n_box, n_ldP, n_faP, n_ldA, n_ldB, n_faA, undef, flT_34_0, flT_28_0, flT_34_1, flT_28_1, flT_34_2, flT_28_2, ldT_3, ldT_9, ldT_32, ldT_25, en_21, *]) | (refine guardL_splitTD ?_ ?_ <;> intro) | (refine ret_tmp ?_) | (refine allNew_intro fun zr zh => ?_; have zg := zh; (try simp only [AH.set_none] at zg)) | (exact SubH.refl _) | (refine SubH.of_set ?_ ?_)))
end Go.PV.Ytglpmlbbaedbiaa
end
section
/- EvaluateClauses: what its program computes. -/
set_option linter.unusedVariables false
set_option linter.unusedSimpArgs false
set_option maxRecDepth 20000
set_option maxHeartbeats 4000000
namespace Go.PV.Ytglpmlbbaedbiaa
open Go Go.Proofs
theorem selGo_at {vs : List Ex} : ∀ {l : List Cl} {j : Nat} (i : Nat) (h : j < l.length), (pasParts l[j].pats vs []).2 = true → (∀ k (h' : k < l.length), k < j → (pasParts l[k].pats vs []).2 = false) →
    selGo vs l i = (((i + j : Nat) : Int), l[j].body.put (pasParts l[j].pats vs []).1, 0)
  | c :: l, 0, i, h, h1, h2 => by
    rw [selGo, if_pos (by simpa using h1)]; rfl
  | c :: l, j + 1, i, h, h1, h2 => by
    have h0 := h2 0 (by simp) (by omega)
    rw [selGo, if_neg (by simpa using h0), selGo_at (i + 1) (j := j) (by simpa using h) (by simpa using h1) (fun k h' hk => h2 (k + 1) (Nat.succ_lt_succ h') (by omega))]
    simp; omega
theorem selGo_cases {vs : List Ex} : ∀ (l : List Cl) (i : Nat), (∃ j, ∃ h : j < l.length, (pasParts l[j].pats vs []).2 = true ∧ (∀ k (h' : k < l.length), k < j → (pasParts l[k].pats vs []).2 = false)) ∨ selGo vs l i = (0, zEx, 420)
  | [], i => .inr rfl
  | c :: l, i => by
    by_cases h : (pasParts c.pats vs []).2 = true
    · exact .inl ⟨0, by simp, by simpa using h, fun k _ hk => by omega⟩
    · rcases selGo_cases l (i + 1) with ⟨j, hj, h1, h2⟩ | h1
      · refine .inl ⟨j + 1, by simpa using hj, by simpa using h1, fun k h' hk => ?_⟩
        cases k with
        | zero => simpa using h
        | succ k => simpa using h2 k (by simpa using h') (by omega)
      · right; rw [selGo, if_neg h, h1]
/-! ### How large what is put together is -/
theorem lastB_mem {l : List Bd} {n : ByteArray} {e : Ex} (h : lastB l n = some e) : ∃ b ∈ l, b.2 = e := by
  unfold lastB at h
  rw [Option.map_eq_some_iff] at h
  obtain ⟨b, hb, rfl⟩ := h
  exact ⟨b, List.mem_reverse.1 (List.mem_of_find?_eq_some hb), rfl⟩
mutual
theorem Ex.put_sz {M : Nat} (hM : 1 ≤ M) : ∀ (e : Ex) (l : List Bd), (∀ b ∈ l, b.2.sz ≤ M) → (e.put l).sz ≤ e.sz * M
  | .mk op n ks, l, h => by
    have hx : (Ex.mk op n (exsPut ks (if op = 5 then l.filter (fun b => !decide (b.1 = n)) else l))).sz ≤ (Ex.mk op n ks).sz * M := by
      rw [Ex.sz, Ex.sz, Nat.add_mul, Nat.one_mul]
      have := exsPut_sz hM ks (if op = 5 then l.filter (fun b => !decide (b.1 = n)) else l) (fun b hb => by
        split at hb
        · exact h b (List.mem_filter.1 hb).1
        · exact h b hb)
      omega
    rw [Ex.put]
    split
    · rename_i e he
      split at he
      · obtain ⟨b, hb, rfl⟩ := lastB_mem he
        have h1 := h b hb
        have h2 := Ex.sz_pos (.mk op n ks)
        have h3 : 1 * M ≤ (Ex.mk op n ks).sz * M := Nat.mul_le_mul_right M h2
        omega
      · cases he
    · exact hx
theorem exsPut_sz {M : Nat} (hM : 1 ≤ M) : ∀ (ks : List Ex) (l : List Bd), (∀ b ∈ l, b.2.sz ≤ M) → exsSz (exsPut ks l) ≤ exsSz ks * M
  | [], _, _ => by simp [exsPut, exsSz]
  | k :: ks, l, h => by
    have h1 := Ex.put_sz hM k l h
    have h2 := exsPut_sz hM ks l h
    rw [exsPut, exsSz, exsSz, Nat.add_mul]; omega
end
mutual
theorem Pa.parts_vals : ∀ (p : Pa) (e : Ex) (l : List Bd), ∀ b ∈ (p.parts e l).1, b ∈ l ∨ b.2.sz ≤ e.sz
  | .mk c n ks, e, l, b, hb => by
    rw [Pa.parts] at hb
    split at hb
    · split at hb
      · rcases pasParts_vals ks e.kids l b hb with h | h
        · exact .inl h
        · right; have := e.sz_eq; omega
      · exact .inl hb
    · rcases List.mem_append.1 hb with h | h
      · exact .inl h
      · simp only [List.mem_singleton] at h
        subst h
        exact .inr (Nat.le_refl _)
theorem pasParts_vals : ∀ (ps : List Pa) (es : List Ex) (l : List Bd), ∀ b ∈ (pasParts ps es l).1, b ∈ l ∨ b.2.sz ≤ exsSz es
  | [], _, l, b, hb => .inl hb
  | p :: ps, e :: es, l, b, hb => by
    have h1 := Pa.parts_vals p e l
    rw [pasParts] at hb
    rw [exsSz]
    split at hb
    · rename_i l' h
      rw [h] at h1
      rcases pasParts_vals ps es l' b hb with h2 | h2
      · rcases h1 b h2 with h3 | h3
        · exact .inl h3
        · right; omega
      · right; omega
    · rename_i l' h
      rw [h] at h1
      rcases h1 b hb with h3 | h3
      · exact .inl h3
      · right; omega
  | _ :: _, [], l, b, hb => .inl hb
end
theorem selectF_sz {f : Fu} {vs : List Ex} {k : Int} {e : Ex} {M : Nat} (hM : 1 ≤ M) (h1 : fuSz f ≤ M) (h2 : exsSz vs ≤ M) (h : selectF f vs = (k, e, 0)) : e.sz ≤ M * M := by
  unfold selectF at h
  split at h
  · split at h
    · rcases selGo_cases (vs := vs) f.cls 0 with ⟨j, hj, h3, h4⟩ | h3
      · rw [selGo_at 0 hj h3 h4] at h
        simp only [Prod.mk.injEq] at h
        obtain ⟨_, rfl, _⟩ := h
        have h5 := Ex.put_sz hM f.cls[j].body (pasParts f.cls[j].pats vs []).1 (fun b hb => by
          rcases pasParts_vals _ _ _ b hb with h | h
          · simp at h
          · omega)
        have h6 : f.cls[j].body.sz ≤ M := by
          have h7 := sum_mem (f := clSz) (List.getElem_mem hj)
          have h8 : clSz f.cls[j] = 1 + pasSz f.cls[j].pats + f.cls[j].body.sz := rfl
          unfold fuSz clsSz at h1
          omega
        exact Nat.le_trans h5 (Nat.mul_le_mul_right M h6)
      · rw [h3] at h; simp at h
    · rename_i hne
      simp only [Prod.mk.injEq] at h
      exact absurd h.2.2 hne
  · simp at h
end Go.PV.Ytglpmlbbaedbiaa
end
section
/- EvaluateMatches: what its program computes. -/
set_option linter.unusedVariables false
set_option linter.unusedSimpArgs false
set_option maxRecDepth 20000
set_option maxHeartbeats 4000000
namespace Go.PV.Ytglpmlbbaedbiaa
open Go Go.Proofs
theorem selectF_fail {f : Fu} {vs : List Ex} {k c : Int} {e : Ex} (h : selectF f vs = (k, e, c)) (hc : ¬ c = 0) : e = zEx := by
  unfold selectF at h
  split at h
  · split at h
    · rcases selGo_cases (vs := vs) f.cls 0 with ⟨j, hj, h3, h4⟩ | h3
      · rw [selGo_at 0 hj h3 h4] at h
        simp only [Prod.mk.injEq] at h
        exact absurd h.2.2.symm hc
      · rw [h3] at h
        simp only [Prod.mk.injEq] at h
        exact h.2.1.symm
    · simp only [Prod.mk.injEq] at h
      exact h.2.1.symm
  · simp only [Prod.mk.injEq] at h
    exact h.2.1.symm
theorem selectF_szA {f : Fu} {vs : List Ex} {k c : Int} {e : Ex} {M : Nat} (hM : 1 ≤ M) (h1 : fuSz f ≤ M) (h2 : exsSz vs ≤ M) (h : selectF f vs = (k, e, c)) : e.sz ≤ M * M := by
  by_cases hc : c = 0
  · subst hc; exact selectF_sz hM h1 h2 h
  · rw [selectF_fail h hc]
    have h3 : zEx.sz = 1 := by decide
    have h4 := Nat.mul_le_mul hM hM
    omega
theorem matchF_vals {p : Pa} {e : Ex} : ∀ x ∈ (matchF p e).2.1, x.sz ≤ e.sz := by
  intro x hx
  unfold matchF at hx
  split at hx
  · split at hx
    · simp only [List.mem_map] at hx
      obtain ⟨b, hb, rfl⟩ := hx
      rcases Pa.parts_vals p e [] b hb with h | h
      · cases h
      · exact h
    · cases hx
  · cases hx
theorem matchF_len {p : Pa} {e : Ex} : (matchF p e).1.length ≤ p.sz ∧ (matchF p e).2.1.length ≤ p.sz := by
  obtain ⟨h1, h2⟩ := p.mat_parts e []
  have h3 := p.mat_len e []
  unfold matchF
  split
  · split
    · rename_i h
      rw [← h2 h]
      simp only [List.length_map]
      have h4 : ([] : List Bd).length = 0 := rfl
      omega
    · exact ⟨Nat.zero_le _, Nat.zero_le _⟩
  · exact ⟨Nat.zero_le _, Nat.zero_le _⟩
theorem s_neqB {H : AH} {KK : VE → AH → Prop} (x y : Operand) (a : Bool) : vcBin Try.prog .neq 4 x y (bV a) (bV a) H KK = KK (.ret (bV false)) H := by
  have hu : (Try.prog).underlying 4 = some .bool := Try.underlying4
  have hf : (!(a == a)) = false := by cases a <;> rfl
  refine propext ⟨fun h => ?_, fun h => ⟨hu, .inr (.inr hu), fun b hb => ?_⟩⟩
  · have := h.2.2 (a == a) rfl
    rw [hf] at this
    exact this
  · have hb : b = (a == a) := hb
    rw [hb, hf]
    exact h
theorem eqL_refl : ∀ (l : List Ex), eqL Ex.beq l l = true
  | [] => rfl
  | a :: l => by rw [eqL, (Ex.beq_iff a a).2 rfl, eqL_refl l]; rfl
theorem matches_ok (p : Pa) (f : Fu) (l : List Ex) (hp : p.sz ≤ 1099511627776) (hpn : ∀ s ∈ p.names, s.size ≤ maxLen) (hf : fuSz f ≤ 1099511627776) (hl : exsSz l ≤ 1099511627776) (hn : ∀ c ∈ f.cls, ∀ s ∈ pasNames c.pats, s.size ≤ maxLen) (haw : PureF Try.prog 9 [] (boolV true)) :
    PureF Try.prog 4 [paV p, fuV f, exsV l] (boolV true) := by
  have hll := exsSz_len l
  have hcl : f.cls.length ≤ 1099511627776 := by have := sum_len clSz_pos f.cls; unfold fuSz clsSz at hf; omega
  have hls : ∀ e ∈ l, e.sz ≤ 1099511627776 := fun e he => by have := exsSz_mem he; omega
  have hfn := fnodes_ok f hf
  have hpz := pnodes_ok p (by omega)
  have hfc := fun_ok f hf
  have hpc := copyP_ok p hp
  have hec := exprs_ok l (by omega) hls
  have hse := select_ok f l hf (by omega) hls hn
  have hrs := rselect_ok f l hf (by omega) hls
  have hnd : ∀ i (h : i < l.length), PureF Try.prog 8 [exV l[i]] (.tuple [iV l[i].sz, iV l[i].dp]) := fun i h => nodes_ok _ (by have := hls _ (List.getElem_mem h); omega)
  have hce : ∀ i (h : i < l.length), PureF Try.prog 18 [exV l[i]] (exV l[i]) := fun i h => copyE_ok _ (hls _ (List.getElem_mem h))
  have hma : ∀ i (h : i < l.length), PureF Try.prog 16 [paV p, exV l[i]] (mtV (matchF p l[i])) := fun i h => match_ok p _ hp (hls _ (List.getElem_mem h)) hpn
  have hrm : ∀ i (h : i < l.length), PureF Try.prog 19 [paV p, exV l[i]] (mtV (matchF p l[i])) := fun i h => rmatch_ok p _ hp (hls _ (List.getElem_mem h))
  have hqs : ∀ i (h : i < l.length), PureF Try.prog 20 [strsV (matchF p l[i]).1, strsV (matchF p l[i]).1] (boolV true) := fun i h => eqStr_ok _ _ (by have := (matchF_len (p := p) (e := l[i])).1; omega) true (by simp)
  have hqe : ∀ i (h : i < l.length) (H : AH) (K : VE → AH → Prop), K (.ret (boolV true)) H → VCalls Try.prog 21 [exsV (matchF p l[i]).2.1, exsV (matchF p l[i]).2.1, .lit (.func (.func 22) #[] #[])] H K := fun i h H K hK => by
    refine equalEr (p := Ex.beq) (by have := (matchF_len (p := p) (e := l[i])).2; omega) (fun j h1 h2 H' _ => FnAt.lit en_22 (same_ok _ _ ?_ ?_)) (by rw [eqL_refl]; exact hK)
    · have := matchF_vals _ (List.getElem_mem h1); have := hls _ (List.getElem_mem h); omega
    · have := matchF_vals _ (List.getElem_mem h1); have := hls _ (List.getElem_mem h); omega
  refine PureF.forget fun H => ?_
  refine vcalls_intro fd4 (by simp) ?_
  unfold c4
  obtain ⟨N, hN⟩ : ∃ N, N = p.sz + fuSz f := ⟨_, rfl⟩
  have hN2 : N ≤ 2199023255552 := by omega
  have hw : IntKind.i64.wrap ((p.sz : Int) + (fuSz f : Int)) = (N : Int) := by rw [wrap_ok (by omega) (by omega)]; omega
  replace hN := Hold.mk hN
  (repeat' (first | (simp only [↓s_reg, ↓s_seq, ↓s_seqL, ↓s_block, ↓s_loop, ↓s_dreg, ↓s_nil, ↓s_consN, ↓s_thenN, ↓s_kret, ↓s_putS, ↓s_dOkS, ↓s_ev_t, ↓s_ev_c, ↓s_ev_f, ↓s_upd, ↓s_move, ↓s_assign, ↓s_load, ↓s_bin, ↓s_box, ↓s_callB, ↓s_callV, ↓s_callL, ↓s_len, ↓s_bin_add, ptrV, intV, boolV, List.map_cons, List.map_nil, List.getD_cons_zero, List.getD_cons_succ, List.getD_nil, ite_true, ite_false, Nat.reduceEqDiff, Nat.reduceLT, ne_eq, not_false_eq_true, true_and, Nat.succ_ne_self, reduceCtorEq, undefV, ↓s_plFin, ↓s_plTkN, ↓s_plOneN, AH.get, eq_self, List.drop, ldV_t3, cl_agg, ↓n_box, n_ldP, n_lenS, n_ldA, n_ldB, ↓s_plK, ↓s_oneK, undef, ldT_50, ldT_24, elT_25, en_15, en_7, *]) | (refine acx_dreg mixed (fun _ _ _ _ e h => ⟨e.trans h.1, h.2⟩) _ (SubH.refl _) ?_) | (refine allNew_intro fun zr zh => ?_; have zg := zh; (try simp only [AH.set_none] at zg)) | (exact SubH.refl _) | (refine PureF.use (hfn) ?_) | (refine PureF.use (hpz) ?_) | (with_reducible refine And.intro ?_ ?_)))
  rename_i r3 n3 n3'
  have hB3 : ((H.set r3 (.cells 50 [bV p.con, sV p.name, encS paE p.kids] 0)).set zr (.cells 24 (fuE f) 0)) r3 = some (.cells 50 [bV p.con, sV p.name, encS paE p.kids] 0) := (by simp only [AH.get, *, if_true, if_false] <;> rfl)
  have hB4 : ((H.set r3 (.cells 50 [bV p.con, sV p.name, encS paE p.kids] 0)).set zr (.cells 24 (fuE f) 0)) zr = some (.cells 24 (fuE f) 0) := AH.set_same _ _ _
  have hBs : SubH H ((H.set r3 (.cells 50 [bV p.con, sV p.name, encS paE p.kids] 0)).set zr (.cells 24 (fuE f) 0)) := (SubH.new n3).of_set zg.2
  generalize (H.set r3 (.cells 50 [bV p.con, sV p.name, encS paE p.kids] 0)).set zr (.cells 24 (fuE f) 0) = B at *
  clear zh zg n3 n3'
  have hlN : l.length ≤ 1099511627776 := by omega
  refine acx_loop (fun _ _ _ h => h) (fun A H' => SubH B H' ∧ A.d = [] ∧ A.t 2 = exsV l ∧ A.t 3 = ptrV r3 0 ∧ A.t 4 = ptrV zr 0 ∧ A.t 33 = exsV l ∧ A.t 34 = iV l.length ∧ ∃ (i n : Nat), i ≤ l.length ∧ A.t 35 = iV i ∧ A.t 7 = iV n ∧ n + exsSz (l.drop i) = N + exsSz l)
    (fun A _ => match A.t 35 with | .lit (.int _ i) => ((l.length : Int) - i).toNat | _ => 0) ?_ ?_
  · exact ⟨SubH.refl _, rfl, (by simp only [s_upd, Nat.reduceEqDiff, if_false, *] <;> rfl), (by simp only [s_upd, Nat.reduceEqDiff, if_true, if_false, *] <;> rfl), (by simp only [s_upd, Nat.reduceEqDiff, if_true, if_false, *] <;> rfl), (by simp only [s_upd, Nat.reduceEqDiff, if_true, if_false, *] <;> rfl), (by simp only [s_upd, Nat.reduceEqDiff, if_true, if_false, *] <;> rfl), 0, N, by omega, (by simp only [s_upd, Nat.reduceEqDiff, if_true, if_false, *] <;> rfl), (by simp only [s_upd, Nat.reduceEqDiff, if_true, if_false, *] <;> rfl), rfl⟩
  · clear hfn hpz hw
    rintro ⟨t, d⟩ H' ⟨hs, rfl, h2, h3, h4, h33, h34, i, n, hi, h35, h7, hnn⟩
    dsimp only at h2 h3 h4 h33 h34 h35 h7
    replace hnn := Hold.mk hnn
    unfold b4_1
    by_cases hlt : i < l.length
    · have e1 := exsSz_drop hlt
      have e3 := hls _ (List.getElem_mem hlt)
      have e2 := hnn.out
      have hni := hnd i hlt
      have hil : (i : Int) < (l.length : Int) := by omega
      have hed := ex_drop hlt
      clear hnd hce hma hrm hqs hqe hfc hpc hec hse hrs haw
      (repeat' (first | (simp only [↓s_skip, ↓s_reg, ↓s_seq, ↓s_cond, ↓s_condT, ↓s_block, ↓s_nil, ↓s_consN, ↓s_thenN, ↓s_inN, ↓s_kret, ↓s_putS, ↓s_putN, ↓s_dOkS, ↓s_dOkN, ↓s_ev_t, ↓s_ev_c, ↓s_ev_f, ↓s_upd, ↓s_move, ↓s_assign, ↓s_load, ↓s_store, ↓s_bin, ↓s_alloc, ↓s_indexAddr, ↓s_extract, ↓s_callV, ↓s_callL, ↓s_bin_lss, ↓s_bin_add, vcExtract, ptrV, List.map_cons, List.map_nil, List.length_cons, List.length_nil, ite_true, ite_false, Nat.reduceEqDiff, Nat.reduceLT, Nat.reduceAdd, true_and, Nat.succ_ne_self, decide_true, Int.natCast_nonneg, Int.toNat_natCast, AH.get, AH.set_set, setAt, List.all_cons, List.all_nil, Bool.and_self, eq_self, Nat.zero_add, List.drop, and_self, List.getElem?_cons_zero, List.getElem?_cons_succ, ldV_t3, on_int, on_str, cl_agg, on_slice, List.set_cons_zero, List.set_cons_succ, ↓n_alloc, n_allocS, Nat.le_refl, n_ldI, n_ldP, n_ixS, n_ixA1, n_ldA, n_ldC, n_ldB, n_stP, n_stA, ldT_28, szT_28, zeroT_28, elT_25, en_8, *]) | (refine allNew_intro fun zr zh => ?_; have zg := zh; (try simp only [AH.set_none] at zg)) | (refine SubH.of_set ?_ ?_) | (exact SubH.none (by assumption) (by assumption)) | (refine PureF.use (hni) ?_) | (with_reducible refine And.intro ?_ ?_)))
      · rw [wrap_ok (n := (i : Int) + 1) (by omega) (by omega), wrap_ok (n := (n : Int) + (l[i].sz : Int)) (by omega) (by omega)]
        exact ⟨i + 1, n + l[i].sz, by omega, rfl, by simp, by omega⟩
      · rw [wrap_ok (n := (i : Int) + 1) (by omega) (by omega)]
        omega
    · have hil : ¬ (i : Int) < (l.length : Int) := by omega
      have hn3 : n = N + exsSz l := by have := hnn.out; rw [List.drop_eq_nil_of_le (by omega)] at this; simpa [exsSz] using this
      clear hnd hnn
      have k3 := hs _ _ hB3
      have k4 := hs _ _ hB4
      have hs0 := hBs.trans hs
      clear hs hB3 hB4 hBs
      replace hn3 := Hold.mk hn3
      (repeat' (first | (simp only [↓s_reg, ↓s_seq, ↓s_cond, ↓s_condF, ↓s_exit, ↓s_nil, ↓s_consN, ↓s_thenN, ↓s_thenE, ↓s_inE, ↓s_kret, ↓s_putS, ↓s_dOkS, ↓s_ev_t, ↓s_upd, ↓s_bin, ↓s_bin_lss, ptrV, ite_true, Nat.reduceLT, true_and, decide_false, eq_self, *])))
      refine acx_go rfl (fun _ _ _ h => h) ?_
      clear h33 h34 h35 hi hil
      unfold c4_2
      (repeat' (first | (simp only [↓s_skip, ↓s_reg, ↓s_seq, ↓s_seqL, ↓s_cond, ↓s_block, ↓s_ret, ↓s_loop, ↓s_nil, ↓s_consN, ↓s_thenN, ↓s_thenR, ↓s_kret, ↓s_putS, ↓s_dOkS, ↓s_ev_t, ↓s_ev_c, ↓s_ev_f, ↓s_upd, ↓s_move, ↓s_assign, ↓s_bin, ↓s_callB, ↓s_callV, ↓s_callL, ↓s_len, ↓s_bin_gtr, intV, boolV, List.map_cons, List.map_nil, ite_true, ite_false, Nat.reduceEqDiff, Nat.reduceLT, ne_eq, not_false_eq_true, true_and, Nat.succ_ne_self, decide_true, decide_false, reduceCtorEq, eq_self, and_self, n_lenS, elT_25, en_9, *]) | (refine condL_splitD ?_ ?_ <;> intro) | (refine ret_tmp ?_) | (refine PureF.use (haw) ?_)))
      have hn4 := hn3.out
      have hn5 := hN.out
      have hn300 : (n : Int) ≤ 300 := by omega
      have hpb : p.sz ≤ 300 := by omega
      have hfb : fuSz f ≤ 300 := by omega
      have hlb : exsSz l ≤ 300 := by omega
      clear hn3 hN hn4 hn5 hn300 h7
      refine acx_loop (fun _ _ _ h => h) (fun A H2 => SubH H' H2 ∧ A.d = [] ∧ A.t 2 = exsV l ∧ A.t 3 = ptrV r3 0 ∧ A.t 4 = ptrV zr 0 ∧ A.t 51 = exsV l ∧ A.t 52 = iV l.length ∧ ∃ i : Nat, i ≤ l.length ∧ A.t 53 = iV i)
        (fun A _ => match A.t 53 with | .lit (.int _ i) => ((l.length : Int) - i).toNat | _ => 0) ?_ ?_
      · exact ⟨SubH.refl _, rfl, (by simp only [s_upd, Nat.reduceEqDiff, if_false, *] <;> rfl), (by simp only [s_upd, Nat.reduceEqDiff, if_false, *] <;> rfl), (by simp only [s_upd, Nat.reduceEqDiff, if_false, *] <;> rfl), (by simp only [s_upd, Nat.reduceEqDiff, if_true, if_false, *] <;> rfl), (by simp only [s_upd, Nat.reduceEqDiff, if_true, if_false, *] <;> rfl), 0, by omega, (by simp only [s_upd, Nat.reduceEqDiff, if_true, if_false, *] <;> rfl)⟩
      · clear h2 h3 h4
        rintro ⟨t, d⟩ H2 ⟨hs, rfl, h2, h3, h4, h51, h52, i, hi, h53⟩
        dsimp only at h2 h3 h4 h51 h52 h53
        have q3 := hs _ _ k3
        have q4 := hs _ _ k4
        unfold b4_2
        by_cases hlt : i < l.length
        · have hil : (i : Int) < (l.length : Int) := by omega
          have hed := ex_drop hlt
          have ce := hce i hlt
          have ma := hma i hlt
          have rm := hrm i hlt
          have qs := hqs i hlt
          have qe := hqe i hlt
          generalize matchF p l[i] = R at ma rm qs qe
          obtain ⟨Rn, Rv, Rb, Rc⟩ := R
          clear hce hma hrm hqs hqe hfc hec hse hrs haw k3 k4 hpb hfb hlb hn hls hcl hll hl hf hp
          (repeat' (first | (refine qe _ _ ?_) | (simp only [↓s_skip, ↓s_reg, ↓s_seq, ↓s_cond, ↓s_condT, ↓s_condF, ↓s_block, ↓s_dreg, ↓s_nil, ↓s_consN, ↓s_consG, ↓s_guardFF, ↓s_thenN, ↓s_inN, ↓s_kret, ↓s_putS, ↓s_putN, ↓s_dOkS, ↓s_dOkN, ↓s_ev_t, ↓s_ev_c, ↓s_ev_f, ↓s_upd, ↓s_move, ↓s_assign, ↓s_isBool, ↓s_pickA, ↓s_pick, ↓s_load, ↓s_store, ↓s_bin, ↓s_un, ↓s_alloc, ↓s_indexAddr, ↓s_extract, ↓s_callV, ↓s_callL, ↓s_un_not, ↓s_bin_lss, ↓s_bin_neq, ↓s_bin_add, vcExtract, ptrV, boolV, List.map_cons, List.map_nil, List.length_cons, List.length_nil, ite_true, ite_false, Nat.reduceEqDiff, Nat.reduceLT, Nat.reduceAdd, true_and, Bool.false_eq_true, Nat.succ_ne_self, decide_true, Bool.not_true, Int.natCast_nonneg, Int.toNat_natCast, ↓s_plFin, ↓s_plTkN, ↓s_plOneN, AH.get, AH.set_set, setAt, List.all_cons, List.all_nil, Bool.and_self, eq_self, Nat.zero_add, List.drop, and_self, List.getElem?_cons_zero, List.getElem?_cons_succ, ldV_t3, on_int, on_str, cl_agg, on_slice, List.set_cons_zero, List.set_cons_succ, ↓n_alloc, n_allocS, Nat.le_refl, n_ldI, n_ldP, n_ixS, n_ixA1, n_ldA, n_ldC, n_ldB, n_stP, n_stA, ↓s_plK, ↓s_oneK, s_neqB, ldT_28, ldT_50, szT_28, zeroT_28, elT_25, en_17, en_18, en_16, en_19, en_20, en_21, *]) | (refine acx_dreg mixed (fun _ _ _ _ e h => ⟨e.trans h.1, h.2⟩) _ (SubH.refl _) ?_) | (refine allNew_intro fun zr zh => ?_; have zg := zh; (try simp only [AH.set_none] at zg); (try have zn_q3 := AH.ne_of q3 zh); (try have zn_q3 := AH.ne_of q3 zg.2); (try have zn_q3 := AH.ne_of q3 zg.2.2); (try have zn_q4 := AH.ne_of q4 zh); (try have zn_q4 := AH.ne_of q4 zg.2); (try have zn_q4 := AH.ne_of q4 zg.2.2)) | (exact SubH.refl _) | (refine SubH.of_set ?_ ?_) | (exact SubH.none (by assumption) (by assumption)) | (refine PureF.use (hpc) ?_) | (refine PureF.use (ce) ?_) | (refine PureF.use (ma) ?_) | (refine PureF.use (rm) ?_) | (refine PureF.use (qs) ?_) | (with_reducible refine And.intro ?_ ?_)))
          all_goals rw [wrap_ok (n := (i : Int) + 1) (by omega) (by omega)]
          · exact ⟨i + 1, by omega, rfl⟩
          · omega
        · have hil : ¬ (i : Int) < (l.length : Int) := by omega
          have hs1 := hs0.trans hs
          clear hce hma hrm hqs hqe k3 k4
          (repeat' (first | (simp only [↓s_reg, ↓s_seq, ↓s_cond, ↓s_condF, ↓s_exit, ↓s_nil, ↓s_consN, ↓s_thenN, ↓s_thenE, ↓s_inE, ↓s_kret, ↓s_putS, ↓s_dOkS, ↓s_ev_t, ↓s_upd, ↓s_bin, ↓s_bin_lss, ptrV, ite_true, Nat.reduceLT, true_and, decide_false, eq_self, *])))
          refine acx_go rfl (fun _ _ _ h => h) ?_
          clear h51 h52 h53 hi hil
          obtain ⟨⟨k, e, c⟩, hR⟩ : ∃ R, R = selectF f l := ⟨_, rfl⟩
          rw [← hR] at hse hrs
          have hesz := selectF_szA (M := 300) (by omega) hfb hlb hR.symm
          have heq : PureF Try.prog 22 [exV e, exV e] (boolV true) := by
            have := same_ok e e (by omega) (by omega)
            rwa [(Ex.beq_iff e e).2 rfl] at this
          clear hR hesz hpb hfb hlb hn hls hcl hll hl hf hp
          unfold c4_1
          (repeat' (first | (simp only [↓s_reg, ↓s_seq, ↓s_ret, ↓s_nil, ↓s_consN, ↓s_consG, ↓s_guardTT, ↓s_thenN, ↓s_kret, ↓s_putS, ↓s_putN, ↓s_dOkS, ↓s_dOkN, ↓s_ev_t, ↓s_ev_c, ↓s_ev_f, ↓s_upd, ↓s_move, ↓s_assign, ↓s_isBool, ↓s_pickA, ↓s_pick, ↓s_load, ↓s_store, ↓s_bin, ↓s_alloc, ↓s_extract, ↓s_callV, ↓s_callL, ↓s_bin_eql, vcExtract, ptrV, boolV, List.map_cons, List.map_nil, List.length_cons, List.length_nil, ite_true, ite_false, Nat.reduceEqDiff, Nat.reduceLT, Nat.reduceAdd, true_and, Nat.succ_ne_self, decide_true, AH.get, AH.set_set, setAt, List.all_cons, List.all_nil, Bool.and_self, eq_self, Nat.zero_add, List.drop, List.getElem?_cons_zero, List.getElem?_cons_succ, ldV_t3, on_int, on_str, cl_agg, on_slice, List.set_cons_zero, List.set_cons_succ, ↓n_alloc, n_allocS, Nat.le_refl, n_ldP, n_ldA, n_ldB, n_stP, n_stA, ldT_28, ldT_24, ldT_34, szT_28, szT_34, zeroT_28, zeroT_34, en_22, en_11, en_12, en_10, en_23, en_9, *]) | (refine ret_tmp ?_) | (refine allNew_intro fun zr zh => ?_; have zg := zh; (try simp only [AH.set_none] at zg); (try have zn_q3 := AH.ne_of q3 zh); (try have zn_q3 := AH.ne_of q3 zg.2); (try have zn_q3 := AH.ne_of q3 zg.2.2); (try have zn_q4 := AH.ne_of q4 zh); (try have zn_q4 := AH.ne_of q4 zg.2); (try have zn_q4 := AH.ne_of q4 zg.2.2)) | (refine SubH.of_set ?_ ?_) | (exact SubH.none (by assumption) (by assumption)) | (exact SubH.none (by assumption) zg.2) | (refine PureF.use (haw) ?_) | (refine PureF.use (hfc) ?_) | (refine PureF.use (hec) ?_) | (refine PureF.use (hse) ?_) | (refine PureF.use (hrs) ?_) | (refine PureF.use (heq) ?_)))
end Go.PV.Ytglpmlbbaedbiaa
end
section
/- A machine that reckons closed calls: its values, its heap, and how they are of the abstract machine. -/
set_option linter.unusedVariables false
set_option linter.unusedSimpArgs false
namespace Go.PV

inductive EV where
  | lit (v : Value)
  | ptr (k o : Nat)
  | sl (k o n : Nat) (c : Option Nat) (d : Nat)
  | es (k o d lo s : Nat)
  | map (k : Nat)
  | isl (ex : Bool) (n : Nat) (cs : List EV)
  | iptr (cs : List EV)
  | agg (cs : List EV)
  | tuple (cs : List EV)
  | func (f : FuncId) (first cap : List EV)
  | yield (k : Nat)
  | iface (t : TypeId) (x : EV)
instance : Inhabited EV := ⟨.lit undef⟩

/-- What stands behind a place of the reckoning heap: the block's number; its capacity; a statement's code and frame. -/
structure Pay where
  r : Nat
  c : Nat := 0
  fn : FuncId := 0
  ca : Code := .skip
  cb : Code := .skip
  t : Nat → VV := fun _ => undefV
abbrev Sg := Nat → Option Pay
def Ext (σ σ' : Sg) : Prop := ∀ k p, σ k = some p → σ' k = some p
theorem Ext.refl (σ : Sg) : Ext σ σ := fun _ _ h => h
theorem Ext.trans {σ σ' σ'' : Sg} (h : Ext σ σ') (k : Ext σ' σ'') : Ext σ σ'' := fun i p hp => k i p (h i p hp)

mutual
def RV (σ : Sg) : EV → VV → Prop
  | .lit v, x => x = .lit v
  | .ptr k o, x => ∃ p, σ k = some p ∧ x = ptrV p.r o
  | .sl k o n c d, x => ∃ p, σ k = some p ∧ n ≤ c.getD p.c - d ∧ x = .lit (.slice (some ⟨p.r, o, none⟩) n (c.getD p.c - d))
  | .es k o d lo s, x => ∃ p, σ k = some p ∧ x = .lit (.slice (some ⟨p.r, if p.c - d = lo then o else o + lo * s, none⟩) 0 (p.c - d - lo))
  | .map k, x => ∃ p, σ k = some p ∧ x = .lit (.map (some p.r))
  | .isl ex n cs, x => ∃ ys, x = .slice ex n ys ∧ RVL σ cs ys
  | .iptr cs, x => ∃ ys, x = .iptr ys ∧ RVL σ cs ys
  | .agg cs, x => ∃ ys, x = .agg ys ∧ RVL σ cs ys
  | .tuple cs, x => ∃ ys, x = .tuple ys ∧ RVL σ cs ys
  | .func f a b, x => ∃ asg bs, x = .func (.func f) asg bs ∧ RVL σ a asg ∧ RVL σ b bs
  | .yield k, x => ∃ p, σ k = some p ∧ x = .lit (.func (.yield p.r) #[] #[])
  | .iface t v, x => ∃ y, x = .iface t y ∧ RV σ v y
def RVL (σ : Sg) : List EV → List VV → Prop
  | [], ys => ys = []
  | v :: vs, ys => ∃ y ys', ys = y :: ys' ∧ RV σ v y ∧ RVL σ vs ys'
end

section
variable {σ σ' : Sg}
mutual
theorem RV.mono (h : Ext σ σ') : ∀ (v : EV) (x : VV), RV σ v x → RV σ' v x
  | .lit v, x, hx => hx
  | .ptr k o, x, ⟨p, hp, e⟩ => ⟨p, h k p hp, e⟩
  | .sl k o n c d, x, ⟨p, hp, e⟩ => ⟨p, h k p hp, e⟩
  | .es k o d lo s, x, ⟨p, hp, e⟩ => ⟨p, h k p hp, e⟩
  | .map k, x, ⟨p, hp, e⟩ => ⟨p, h k p hp, e⟩
  | .isl ex n cs, x, ⟨ys, e, hl⟩ => ⟨ys, e, RVL.mono h cs ys hl⟩
  | .iptr cs, x, ⟨ys, e, hl⟩ => ⟨ys, e, RVL.mono h cs ys hl⟩
  | .agg cs, x, ⟨ys, e, hl⟩ => ⟨ys, e, RVL.mono h cs ys hl⟩
  | .tuple cs, x, ⟨ys, e, hl⟩ => ⟨ys, e, RVL.mono h cs ys hl⟩
  | .func f a b, x, ⟨asg, bs, e, h1, h2⟩ => ⟨asg, bs, e, RVL.mono h a asg h1, RVL.mono h b bs h2⟩
  | .yield k, x, ⟨p, hp, e⟩ => ⟨p, h k p hp, e⟩
  | .iface t v, x, ⟨y, e, hv⟩ => ⟨y, e, RV.mono h v y hv⟩
theorem RVL.mono (h : Ext σ σ') : ∀ (vs : List EV) (xs : List VV), RVL σ vs xs → RVL σ' vs xs
  | [], xs, hx => hx
  | v :: vs, xs, ⟨y, ys, e, h1, h2⟩ => ⟨y, ys, e, RV.mono h v y h1, RVL.mono h vs ys h2⟩
end
mutual
theorem RV.fn (h : Ext σ σ') : ∀ (v : EV) (x y : VV), RV σ v x → RV σ' v y → x = y
  | .lit v, x, y, hx, hy => hx.trans hy.symm
  | .ptr k o, x, y, ⟨p, hp, e⟩, ⟨q, hq, e'⟩ => by rw [h k p hp] at hq; cases hq; rw [e, e']
  | .sl k o n c d, x, y, ⟨p, hp, _, e⟩, ⟨q, hq, _, e'⟩ => by rw [h k p hp] at hq; cases hq; rw [e, e']
  | .es k o d lo s, x, y, ⟨p, hp, e⟩, ⟨q, hq, e'⟩ => by rw [h k p hp] at hq; cases hq; rw [e, e']
  | .map k, x, y, ⟨p, hp, e⟩, ⟨q, hq, e'⟩ => by rw [h k p hp] at hq; cases hq; rw [e, e']
  | .isl ex n cs, x, y, ⟨xs, e, hl⟩, ⟨ys, e', hl'⟩ => by rw [e, e', RVL.fn h cs xs ys hl hl']
  | .iptr cs, x, y, ⟨xs, e, hl⟩, ⟨ys, e', hl'⟩ => by rw [e, e', RVL.fn h cs xs ys hl hl']
  | .agg cs, x, y, ⟨xs, e, hl⟩, ⟨ys, e', hl'⟩ => by rw [e, e', RVL.fn h cs xs ys hl hl']
  | .tuple cs, x, y, ⟨xs, e, hl⟩, ⟨ys, e', hl'⟩ => by rw [e, e', RVL.fn h cs xs ys hl hl']
  | .func f a b, x, y, ⟨asg, bs, e, h1, h2⟩, ⟨as', bs', e', h1', h2'⟩ => by rw [e, e', RVL.fn h a asg as' h1 h1', RVL.fn h b bs bs' h2 h2']
  | .yield k, x, y, ⟨p, hp, e⟩, ⟨q, hq, e'⟩ => by rw [h k p hp] at hq; cases hq; rw [e, e']
  | .iface t v, x, y, ⟨a, e, hv⟩, ⟨b, e', hv'⟩ => by rw [e, e', RV.fn h v a b hv hv']
theorem RVL.fn (h : Ext σ σ') : ∀ (vs : List EV) (xs ys : List VV), RVL σ vs xs → RVL σ' vs ys → xs = ys
  | [], xs, ys, hx, hy => Eq.trans (show xs = [] from hx) (show ys = [] from hy).symm
  | v :: vs, xs, ys, ⟨y, ys', e, h1, h2⟩, ⟨z, zs', e', h1', h2'⟩ => by rw [e, e', RV.fn h v y z h1 h1', RVL.fn h vs ys' zs' h2 h2']
end
theorem RVL.length {vs : List EV} : ∀ {xs : List VV}, RVL σ vs xs → xs.length = vs.length := by
  induction vs with
  | nil => intro xs h; simp [RVL] at h; simp [h]
  | cons v vs ih =>
    intro xs h
    obtain ⟨y, ys, rfl, _, h2⟩ := h
    simp [ih h2]
theorem RVL.get? {vs : List EV} : ∀ {xs : List VV} (i : Nat) (v : EV), RVL σ vs xs → vs[i]? = some v → ∃ x, xs[i]? = some x ∧ RV σ v x := by
  induction vs with
  | nil => intro xs i v h hv; simp at hv
  | cons u us ih =>
    intro xs i v h hv
    obtain ⟨y, ys, rfl, h1, h2⟩ := h
    cases i with
    | zero => simp at hv; subst hv; exact ⟨y, by simp, h1⟩
    | succ i => simpa using ih i v h2 (by simpa using hv)
theorem RVL.append {vs us : List EV} : ∀ {xs ys : List VV}, RVL σ vs xs → RVL σ us ys → RVL σ (vs ++ us) (xs ++ ys) := by
  induction vs with
  | nil => intro xs ys h1 h2; simp [RVL] at h1; subst h1; simpa using h2
  | cons v vs ih =>
    intro xs ys h1 h2
    obtain ⟨y, ys', rfl, h3, h4⟩ := h1
    exact ⟨y, ys' ++ ys, rfl, h3, ih h4 h2⟩
theorem RVL.take {vs : List EV} : ∀ {xs : List VV} (n : Nat), RVL σ vs xs → RVL σ (vs.take n) (xs.take n) := by
  induction vs with
  | nil => intro xs n h; simp [RVL] at h; subst h; simp [RVL]
  | cons v vs ih =>
    intro xs n h
    obtain ⟨y, ys, rfl, h3, h4⟩ := h
    cases n with
    | zero => simp [RVL]
    | succ n => exact ⟨y, ys.take n, by simp, h3, ih n h4⟩
theorem RVL.drop {vs : List EV} : ∀ {xs : List VV} (n : Nat), RVL σ vs xs → RVL σ (vs.drop n) (xs.drop n) := by
  induction vs with
  | nil => intro xs n h; simp [RVL] at h; subst h; simp [RVL]
  | cons v vs ih =>
    intro xs n h
    obtain ⟨y, ys, rfl, h3, h4⟩ := h
    cases n with
    | zero => exact ⟨y, ys, rfl, h3, h4⟩
    | succ n => simpa using ih n h4
theorem RVL.set {vs : List EV} : ∀ {xs : List VV} (n : Nat) (v : EV) (x : VV), RVL σ vs xs → RV σ v x → RVL σ (vs.set n v) (xs.set n x) := by
  induction vs with
  | nil => intro xs n v x h _; simp [RVL] at h; subst h; simp [RVL]
  | cons u us ih =>
    intro xs n v x h hx
    obtain ⟨y, ys, rfl, h3, h4⟩ := h
    cases n with
    | zero => exact ⟨x, ys, rfl, hx, h4⟩
    | succ n => exact ⟨y, ys.set n x, by simp, h3, ih n v x h4 hx⟩
theorem RVL.setAt {us : List EV} : ∀ {ys : List VV} {vs : List EV} {xs : List VV} (o : Nat), RVL σ vs xs → RVL σ us ys → RVL σ (PV.setAt vs o us) (PV.setAt xs o ys) := by
  induction us with
  | nil => intro ys vs xs o h1 h2; simp [RVL] at h2; subst h2; exact h1
  | cons u us ih =>
    intro ys vs xs o h1 h2
    obtain ⟨y, ys', rfl, h3, h4⟩ := h2
    exact ih (o + 1) (h1.set o u y h3) h4
theorem RVL.lits (us : List Value) : RVL σ (us.map .lit) (us.map .lit) := by
  induction us with
  | nil => simp [RVL]
  | cons u us ih => exact ⟨.lit u, us.map .lit, rfl, by simp [RV], ih⟩
end

def EV.cells : EV → List EV
  | .lit v => v.cells.toList.map .lit
  | .agg cs => cs
  | x => [x]
def EV.one : EV → Bool
  | .lit v => v.oneCell'
  | .agg _ => false
  | .tuple _ => false
  | _ => true
section
variable {σ : Sg}
theorem RV.cells {v : EV} {x : VV} (h : RV σ v x) : RVL σ v.cells x.cells := by
  cases v with
  | lit v => obtain rfl := h; exact RVL.lits _
  | ptr k o => obtain ⟨p, hp, rfl⟩ := h; exact ⟨_, [], rfl, ⟨p, hp, rfl⟩, rfl⟩
  | sl k o n c d => obtain ⟨p, hp, hn, rfl⟩ := h; exact ⟨_, [], rfl, ⟨p, hp, hn, rfl⟩, rfl⟩
  | es k o d lo s => obtain ⟨p, hp, rfl⟩ := h; exact ⟨_, [], rfl, ⟨p, hp, rfl⟩, rfl⟩
  | map k => obtain ⟨p, hp, rfl⟩ := h; exact ⟨_, [], rfl, ⟨p, hp, rfl⟩, rfl⟩
  | yield k => obtain ⟨p, hp, rfl⟩ := h; exact ⟨_, [], rfl, ⟨p, hp, rfl⟩, rfl⟩
  | isl ex n cs => obtain ⟨ys, rfl, hl⟩ := h; exact ⟨_, [], rfl, ⟨ys, rfl, hl⟩, rfl⟩
  | iptr cs => obtain ⟨ys, rfl, hl⟩ := h; exact ⟨_, [], rfl, ⟨ys, rfl, hl⟩, rfl⟩
  | agg cs => obtain ⟨ys, rfl, hl⟩ := h; exact hl
  | tuple cs => obtain ⟨ys, rfl, hl⟩ := h; exact ⟨_, [], rfl, ⟨ys, rfl, hl⟩, rfl⟩
  | func f a b => obtain ⟨asg, bs, rfl, h1, h2⟩ := h; exact ⟨_, [], rfl, ⟨asg, bs, rfl, h1, h2⟩, rfl⟩
  | iface t v => obtain ⟨y, rfl, hv⟩ := h; exact ⟨_, [], rfl, ⟨y, rfl, hv⟩, rfl⟩
theorem RV.one {v : EV} {x : VV} (h : RV σ v x) : v.one = x.one := by
  cases v with
  | lit v => obtain rfl := h; rfl
  | ptr k o => obtain ⟨p, hp, rfl⟩ := h; rfl
  | sl k o n c d => obtain ⟨p, hp, _, rfl⟩ := h; rfl
  | es k o d lo s => obtain ⟨p, hp, rfl⟩ := h; rfl
  | map k => obtain ⟨p, hp, rfl⟩ := h; rfl
  | yield k => obtain ⟨p, hp, rfl⟩ := h; rfl
  | isl ex n cs => obtain ⟨ys, rfl, hl⟩ := h; rfl
  | iptr cs => obtain ⟨ys, rfl, hl⟩ := h; rfl
  | agg cs => obtain ⟨ys, rfl, hl⟩ := h; rfl
  | tuple cs => obtain ⟨ys, rfl, hl⟩ := h; rfl
  | func f a b => obtain ⟨asg, bs, rfl, h1, h2⟩ := h; rfl
  | iface t v => obtain ⟨y, rfl, hv⟩ := h; rfl
theorem RVL.ones {vs : List EV} : ∀ {xs : List VV}, RVL σ vs xs → vs.all EV.one = xs.all VV.one := by
  induction vs with
  | nil => intro xs h; simp [RVL] at h; simp [h]
  | cons v vs ih =>
    intro xs h
    obtain ⟨y, ys, rfl, h1, h2⟩ := h
    simp [h1.one, ih h2]
end

/-! ### Tables -/
inductive Tr (α : Type) where
  | lf
  | nd (v : Option α) (l r : Tr α)
def Tr.get {α : Type} : Tr α → Nat → Option α
  | .lf, _ => none
  | .nd v l r, k => match k with
    | 0 => v
    | k + 1 => cond (Nat.beq (k % 2) 0) (l.get (k / 2)) (r.get (k / 2))
def Tr.set {α : Type} : Nat → Tr α → Nat → α → Option (Tr α)
  | 0, _, _, _ => none
  | n + 1, t, k, x => match k with
    | 0 => match t with
      | .lf => some (.nd (some x) .lf .lf)
      | .nd _ l r => some (.nd (some x) l r)
    | k + 1 => match t with
      | .lf => cond (Nat.beq (k % 2) 0) (match Tr.set n .lf (k / 2) x with | some l => some (.nd none l .lf) | none => none) (match Tr.set n .lf (k / 2) x with | some r => some (.nd none .lf r) | none => none)
      | .nd v l r => cond (Nat.beq (k % 2) 0) (match Tr.set n l (k / 2) x with | some l' => some (.nd v l' r) | none => none) (match Tr.set n r (k / 2) x with | some r' => some (.nd v l r') | none => none)
theorem beqF {n : Nat} (h : ¬ n = 0) : Nat.beq n 0 = false := by
  cases n with
  | zero => exact absurd rfl h
  | succ n => rfl
theorem Tr.get_set {α : Type} : ∀ (n : Nat) (t : Tr α) (k : Nat) (x : α) (t' : Tr α), Tr.set n t k x = some t' → ∀ j, t'.get j = if j = k then some x else t.get j
  | 0, t, k, x, t', h => by simp [Tr.set] at h
  | n + 1, t, k, x, t', h => by
    intro j
    cases k with
    | zero =>
      cases t with
      | lf =>
        simp only [Tr.set, Option.some.injEq] at h
        subst h
        cases j with
        | zero => simp [Tr.get]
        | succ j => simp [Tr.get]
      | nd v l r =>
        simp only [Tr.set, Option.some.injEq] at h
        subst h
        cases j with
        | zero => simp [Tr.get]
        | succ j => simp [Tr.get]
    | succ k =>
      have hk : ∀ j, (j % 2 = k % 2) → (j / 2 = k / 2) → j = k := fun j h1 h2 => by omega
      cases t with
      | lf =>
        simp only [Tr.set] at h
        by_cases hp : k % 2 = 0
        · simp only [hp, Nat.beq_refl, cond_true] at h
          cases hs : Tr.set n .lf (k / 2) x with
          | none => simp [hs] at h
          | some l =>
            simp only [hs, Option.some.injEq] at h
            subst h
            have ih := Tr.get_set n _ _ _ _ hs
            cases j with
            | zero => simp [Tr.get]
            | succ j =>
              simp only [Tr.get, Nat.add_right_cancel_iff]
              by_cases hj : j % 2 = 0
              · simp only [hj, Nat.beq_refl, cond_true, ih]
                by_cases e : j = k
                · simp [e]
                · have : j / 2 ≠ k / 2 := fun e' => e (hk j (by omega) e')
                  simp [e, this, Tr.get]
              · have hb : Nat.beq (j % 2) 0 = false := beqF hj
                have : j ≠ k := fun e => hj (by rw [e, hp])
                simp [hb, this, Tr.get]
        · have hb : Nat.beq (k % 2) 0 = false := beqF hp
          simp only [hb, cond_false] at h
          cases hs : Tr.set n .lf (k / 2) x with
          | none => simp [hs] at h
          | some l =>
            simp only [hs, Option.some.injEq] at h
            subst h
            have ih := Tr.get_set n _ _ _ _ hs
            cases j with
            | zero => simp [Tr.get]
            | succ j =>
              simp only [Tr.get, Nat.add_right_cancel_iff]
              by_cases hj : j % 2 = 0
              · have : j ≠ k := fun e => hp (by rw [← e, hj])
                simp [hj, this, Tr.get]
              · have hbj : Nat.beq (j % 2) 0 = false := beqF hj
                simp only [hbj, cond_false, ih]
                by_cases e : j = k
                · simp [e]
                · have : j / 2 ≠ k / 2 := fun e' => e (hk j (by omega) e')
                  simp [e, this, Tr.get]
      | nd v l r =>
        simp only [Tr.set] at h
        by_cases hp : k % 2 = 0
        · simp only [hp, Nat.beq_refl, cond_true] at h
          cases hs : Tr.set n l (k / 2) x with
          | none => simp [hs] at h
          | some l' =>
            simp only [hs, Option.some.injEq] at h
            subst h
            have ih := Tr.get_set n _ _ _ _ hs
            cases j with
            | zero => simp [Tr.get]
            | succ j =>
              simp only [Tr.get, Nat.add_right_cancel_iff]
              by_cases hj : j % 2 = 0
              · simp only [hj, Nat.beq_refl, cond_true, ih]
                by_cases e : j = k
                · simp [e]
                · have : j / 2 ≠ k / 2 := fun e' => e (hk j (by omega) e')
                  simp [e, this]
              · have hb : Nat.beq (j % 2) 0 = false := beqF hj
                have : j ≠ k := fun e => hj (by rw [e, hp])
                simp [hb, this]
        · have hb : Nat.beq (k % 2) 0 = false := beqF hp
          simp only [hb, cond_false] at h
          cases hs : Tr.set n r (k / 2) x with
          | none => simp [hs] at h
          | some l' =>
            simp only [hs, Option.some.injEq] at h
            subst h
            have ih := Tr.get_set n _ _ _ _ hs
            cases j with
            | zero => simp [Tr.get]
            | succ j =>
              simp only [Tr.get, Nat.add_right_cancel_iff]
              by_cases hj : j % 2 = 0
              · have : j ≠ k := fun e => hp (by rw [← e, hj])
                simp [hj, this]
              · have hbj : Nat.beq (j % 2) 0 = false := beqF hj
                simp only [hbj, cond_false, ih]
                by_cases e : j = k
                · simp [e]
                · have : j / 2 ≠ k / 2 := fun e' => e (hk j (by omega) e')
                  simp [e, this]
end Go.PV
end
