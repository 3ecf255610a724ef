/- Part 6 of 11 of what the proof of Deri needs. -/
import Derived.Test.YtefpjfpelicedaaDeri5
section
/- The rows of lines. -/
set_option linter.unusedVariables false
set_option linter.unusedSimpArgs false
set_option maxRecDepth 20000
set_option maxHeartbeats 4000000
namespace Go.PV.Ytefpjfpelicedaa
open Go Go.Proofs
theorem _root_.Go.PV.OwnX.put {H0 H : AH} {e : TypeId} {k n r : Nat} {v : VV} {cs : List VV} {b0 : Blk} (h : OwnX H0 H e k v n cs) (hr : H0 r = some b0) (b : Blk) : OwnX (H0.set r b) (H.set r b) e k v n cs := by
  rcases h with ⟨rfl, rfl, rfl, rfl⟩ | ⟨g, c, sp, rfl, h0, rfl, h1, h2, h3, h4⟩
  · exact .inl ⟨rfl, rfl, rfl, rfl⟩
  · have hg : ¬ g = r := fun e => by subst e; rw [h0] at hr; cases hr
    refine .inr ⟨g, c, sp, rfl, ?_, AH.comm _ _ (fun e => hg e.symm), h1, h2, h3, h4⟩
    rw [AH.get, if_neg hg]; exact h0
theorem _root_.Go.PV.OwnX.cells {H0 H : AH} {e : TypeId} {k n : Nat} {v : VV} {cs : List VV} (h : OwnX H0 H e k v n cs) : v.cells = [v] ∧ VV.one v = true := by
  rcases h with ⟨rfl, _⟩ | ⟨g, c, sp, rfl, _⟩ <;> exact ⟨rfl, rfl⟩
theorem Made.of {H0 H : AH} {mv : VV} {n : Nat} {made : List Row} (h : OwnX H0 H 50 2 mv n (encC rowE made)) (hn : n = made.length) : Made H mv made := by
  subst hn
  rcases h with ⟨rfl, h1, _⟩ | ⟨g, c, sp, rfl, h0, rfl, h1, h2, h3, h4⟩
  · exact .inl ⟨rfl, List.eq_nil_of_length_eq_zero h1⟩
  · exact .inr ⟨g, c, sp, rfl, AH.set_same _ _ _⟩
theorem Made.mono {H H' : AH} {mv : VV} {made : List Row} (h : Made H mv made) (hs : SubH H H') : Made H' mv made := by
  rcases h with h | ⟨g, c, sp, h1, h2⟩
  · exact .inl h
  · exact .inr ⟨g, c, sp, h1, hs _ _ h2⟩
theorem rightGo_ok {rows : List Row} (h : rightGo rows = 0) : ∀ r ∈ rows, r.c.length ≤ 12 ∧ far r.b = false ∧ ∀ c ∈ r.c, far c = false := by
  induction rows with
  | nil => simp
  | cons r rows ih =>
    simp only [rightGo] at h
    split at h; · omega
    split at h; · omega
    rename_i h1 h2
    simp only [Bool.or_eq_true, not_or, Bool.not_eq_true, List.any_eq_false] at h2
    intro x hx
    rcases List.mem_cons.1 hx with rfl | hx
    · exact ⟨by omega, h2.1, fun c hc => by simpa using h2.2 c hc⟩
    · exact ih h x hx
theorem rightF_ok {rows : List Row} (h : rightF rows = 0) : rows.length ≤ 100 ∧ ∀ r ∈ rows, r.c.length ≤ 12 ∧ far r.b = false ∧ ∀ c ∈ r.c, far c = false := by
  simp only [rightF] at h
  split at h
  · omega
  · exact ⟨by omega, rightGo_ok h⟩
theorem unkGo_le {rows : List Row} {m : Int} : m ≤ unkGo rows m ∧ ∀ r ∈ rows, (r.c.length : Int) ≤ unkGo rows m := by
  induction rows generalizing m with
  | nil => simp [unkGo]
  | cons r rows ih =>
    simp only [unkGo]
    have := @ih (max m r.c.length)
    refine ⟨by omega, fun x hx => ?_⟩
    rcases List.mem_cons.1 hx with rfl | hx
    · have := this.1; omega
    · exact this.2 x hx
theorem unkGo_max {rows : List Row} {m b : Int} (hm : m ≤ b) (h : ∀ r ∈ rows, (r.c.length : Int) ≤ b) : unkGo rows m ≤ b := by
  induction rows generalizing m with
  | nil => simpa [unkGo]
  | cons r rows ih =>
    simp only [unkGo]
    have h1 := h r (List.mem_cons_self ..)
    exact ih (by omega) fun x hx => h x (List.mem_cons_of_mem _ hx)
def unkN (rows : List Row) : Nat := (unkF rows).toNat
theorem unkN_eq (rows : List Row) : unkF rows = unkN rows := by
  have := (@unkGo_le rows 0).1
  unfold unkN unkF at *
  omega
theorem unkN_le {rows : List Row} (h : rightF rows = 0) : unkN rows ≤ 12 := by
  have h1 := (rightF_ok h).2
  have : unkF rows ≤ 12 := unkGo_max (by omega) fun r hr => by have := (h1 r hr).1; omega
  unfold unkN; omega
theorem len_unkN {rows : List Row} {r : Row} (h : r ∈ rows) : r.c.length ≤ unkN rows := by
  have := (@unkGo_le rows 0).2 r h
  have e := unkN_eq rows
  unfold unkF at e; omega
theorem outF_ok {r : Row} {n : Nat} (hl : r.c.length = n) (h : (outF r).2 = 0) : (outF r).1 = r ∧ Fits n r := by
  unfold outF at *
  split at h
  · simp at h
  · rename_i h1
    simp only [Bool.or_eq_true, not_or, Bool.not_eq_true, List.any_eq_false] at h1
    have e : outF r = (r, 0) := by
      have : r.c.any far2 = false := List.any_eq_false.2 fun c hc => by simp [h1.2 c hc]
      unfold outF; rw [h1.1, this]; rfl
    unfold outF at e
    exact ⟨by rw [e], hl, h1.1, fun c hc => by simpa using h1.2 c hc⟩
theorem makeF_ok {rows made : List Row} {n : Nat} {l : Line} (hm : ∀ r ∈ made, Fits n r) (h : (makeF rows made n l).2 = 0) : Fits n (makeF rows made n l).1 := by
  have hq : ∀ a, 0 ≤ a → a < (made.length : Int) → Fits n (rowAt made a) := fun a h0 h1 => by
    have h : a.toNat < made.length := by omega
    unfold rowAt
    rw [List.getD_eq_getElem?_getD]
    simp only [h, List.getElem?_eq_getElem, Option.getD_some]; exact hm _ (List.getElem_mem _)
  have key : ∀ r : Row, r.c.length = n → (outF r).2 = 0 → Fits n (outF r).1 := fun r h1 h2 => by rw [(outF_ok h1 h2).1]; exact (outF_ok h1 h2).2
  revert h
  unfold makeF
  split
  · split
    · exact key _ (by simp [wideR, wide_len])
    · simp
  split
  · split
    · exact key _ (by simp)
    · simp
  split
  · split
    · rename_i h
      exact key _ (by simp [sumL, (hq _ h.1.1 h.1.2).1, (hq _ h.2.1.1 h.2.1.2).1])
    · simp
  split
  · split
    · rename_i h
      split
      · simp
      · exact key _ (by simp [(hq _ h.1.1 h.1.2).1])
    · simp
  · simp
def deriveGo (rows : List Row) (n : Nat) : List Row → List Line → List Row × Int
  | made, [] => (made, 0)
  | made, l :: ls => if (makeF rows made n l).2 = 0 then deriveGo rows n (made ++ [(makeF rows made n l).1]) ls else ([], (makeF rows made n l).2)
def deriveF (rows : List Row) (ls : List Line) : List Row × Int :=
  if rightF rows = 0 then (if 5000 < ls.length then ([], 5) else deriveGo rows (unkN rows) [] ls) else ([], rightF rows)
theorem derive22 (rows : List Row) (ls : List Line) (h1 : (rows.length : Int) ≤ 9223372036854775806) (h2 : (ls.length : Int) ≤ 9223372036854775806) : PureF Try.prog 22 [rowsV rows, linesV ls] (.tuple [rowsV (deriveF rows ls).1, iV (deriveF rows ls).2]) := by
  refine GivesF.pure fun H => ?_
  refine vcalls_intro fd22 (by simp) ?_
  unfold c22
  (repeat' (first | (simp only [↓s_skip, ↓s_reg, ↓s_seq, ↓s_seqL, ↓s_cond, ↓s_block, ↓s_ret, ↓s_loop, ↓s_nil, ↓s_consN, ↓s_thenN, ↓s_thenR, ↓s_kret, ↓s_putS, ↓s_dOkS, ↓s_ev_t, ↓s_ev_c, ↓s_ev_f, ↓s_upd, ↓s_move, ↓s_assign, ↓s_bin, ↓s_box, ↓s_build, ↓s_callB, ↓s_callV, ↓s_callL, ↓s_len, ↓s_bin_gtr, ↓s_bin_neq, ptrV, intV, List.map_cons, List.map_nil, List.length_cons, List.length_nil, List.getD_cons_zero, List.getD_cons_succ, List.getD_nil, ite_true, ite_false, Nat.reduceEqDiff, Nat.reduceLT, Nat.reduceAdd, Nat.reduceLeDiff, ne_eq, not_false_eq_true, true_and, Nat.succ_ne_self, decide_true, decide_false, reduceCtorEq, undefV, vcBuild, fillV, setAt, eq_self, Nat.zero_add, and_self, List.getElem?_cons_zero, List.getElem?_cons_succ, cl_int, cl_agg, cl_slice, List.set_cons_zero, List.set_cons_succ, ↓n_box, n_lenS, undef, stT_74, elT_28, en_36, en_37, *]) | (refine guardL_splitTD ?_ ?_ <;> intro) | (refine guardL_splitFD ?_ ?_ <;> intro) | (refine guardP_splitTD ?_ ?_ <;> intro) | (refine guardP_splitFD ?_ ?_ <;> intro) | (refine condL_splitD ?_ ?_ <;> intro) | (refine guardL_splitT ?_ ?_ <;> intro) | (refine guardL_splitF ?_ ?_ <;> intro) | (refine guardP_splitT ?_ ?_ <;> intro) | (refine guardP_splitF ?_ ?_ <;> intro) | (refine condL_split ?_ ?_ <;> intro) | (refine ret_tmp ?_) | (refine acx_go rfl (fun _ _ _ h => h) ?_) | (refine acx_dreg mixed (fun _ _ _ _ e h => ⟨e.trans h.1, h.2⟩) _ (SubH.refl _) ?_) | (refine And.intro (SubH.new (by assumption)) ?_) | (refine allNew_intro fun zr zh => ?_; have zg := zh; (try simp only [AH.set_none] at zg)) | (exact SubH.refl _) | (refine SubH.of_set ?_ ?_) | assumption | (refine PureF.use (right36 _ h1) ?_) | (refine PureF.use (unknowns37 _ h1) ?_)))
  · have hr : ¬ rightF rows = 0 := by simpa using (by assumption : (!decide (rightF rows = 0)) = true)
    refine retPost_ret rfl (by simp only [resV, resAll, resOne, s_upd, Nat.reduceEqDiff, if_true, if_false, Option.bind_some, Option.map_some, tupV] <;> rfl) ⟨_, rfl, ?_⟩
    simp only [deriveF, hr, if_false]
    exact GhV.tuple (GhL.cons (GhV.nil _) (GhL.cons (GhV.refl _ _) (GhL.nil _)))
  · have hr : rightF rows = 0 := by simpa using (by assumption : (!decide (rightF rows = 0)) = false)
    have hl : 5000 < ls.length := by omega
    refine retPost_ret rfl (by simp only [resV, resAll, resOne, s_upd, Nat.reduceEqDiff, if_true, if_false, Option.bind_some, Option.map_some, tupV] <;> rfl) ⟨_, rfl, ?_⟩
    simp only [deriveF, hr, hl, if_true]
    exact GhV.tuple (GhL.cons (GhV.nil _) (GhL.cons (GhV.refl _ _) (GhL.nil _)))
  · have hr : rightF rows = 0 := by simpa using (by assumption : (!decide (rightF rows = 0)) = false)
    have hl : ¬ 5000 < ls.length := by omega
    have hd : deriveF rows ls = deriveGo rows (unkN rows) [] ls := by simp only [deriveF, hr, hl, if_true, if_false]
    have hn := unkN_le hr
    rw [hd]
    clear hd
    revert zr
    intro d0 zh0 zg0
    refine acx_loop (fun _ _ _ h => h) (fun A H' => A.d = [] ∧ A.t 7 = ptrV d0 0 ∧ A.t 25 = linesV ls ∧ A.t 26 = iV ls.length ∧ ∃ (i : Nat) (made : List Row) (mv : VV) (Hb : AH), i ≤ ls.length ∧ A.t 27 = iV i ∧ made.length = i ∧
        Hb d0 = some (.cells 74 [rowsV rows, iV (unkN rows), mv] 0) ∧ SubH H Hb ∧ OwnX Hb H' 50 2 mv made.length (encC rowE made) ∧ (∀ r ∈ made, Fits (unkN rows) r) ∧ deriveGo rows (unkN rows) [] ls = deriveGo rows (unkN rows) made (ls.drop i))
      (fun A _ => match A.t 27 with | .lit (.int _ i) => ((ls.length : Int) - i).toNat | _ => 0) ?_ ?_
    · refine ⟨rfl, rfl, rfl, rfl, 0, [], .lit (.slice none 0 0), _, by omega, rfl, rfl, ?_, SubH.new (by assumption), OwnX.nil _ 50 2, by simp, rfl⟩
      rw [unkN_eq, AH.set_same]
    · rintro ⟨t, d⟩ H' ⟨rfl, h7, h25, h26, i, made, mv, Hb, hi, h27, hlen, kb, hs, ho, hfit, hgo⟩
      dsimp only at h7 h25 h26 h27
      have kd : H' d0 = some (.cells 74 [rowsV rows, iV (unkN rows), mv] 0) := ho.sub _ _ kb
      have hHn : ∀ r, H' r = none → H r = none := fun r h => (hs.trans ho.sub).none h
      have hB : ∀ r, H' r = none → ¬ d0 = r := fun r hr => (AH.ne_of kd hr).1
      have hB' : ∀ r, H' r = none → ¬ r = d0 := fun r hr => (AH.ne_of kd hr).2
      (repeat' (first | (refine acx_dreg mixed (fun _ _ _ _ e h => ⟨e.trans h.1, h.2⟩) _ ((ho.sub.set _ _).set _ _) ?_) | (refine (ho.sub.set _ _).set _ _) | (refine (make47 (d := d0) (sp := 0) (rows := rows) (made := made) (mv := mv) (rest := []) (e := 74) (l := ls[i]) (n := unkN rows) ?_ ?_ (fun r h => len_unkN h) hfit (by omega)).use ?_) | (simp only [↓s_skip, ↓s_reg, ↓s_seq, ↓s_cond, ↓s_block, ↓s_exit, ↓s_ret, ↓s_nil, ↓s_consN, ↓s_thenN, ↓s_thenE, ↓s_thenR, ↓s_inE, ↓s_inR, ↓s_kret, ↓s_putS, ↓s_putN, ↓s_dOkS, ↓s_dOkN, ↓s_ev_t, ↓s_ev_c, ↓s_ev_f, ↓s_upd, ↓s_move, ↓s_assign, ↓s_load, ↓s_store, ↓s_nilCheck, ↓s_bin, ↓s_alloc, ↓s_buildSlice, ↓s_fieldAddr, ↓s_indexAddr, ↓s_extract, ↓s_callB, ↓s_callV, ↓s_callL, ↓s_append, ↓s_bin_lss, ↓s_bin_neq, vcNil, vcExtract, ptrV, List.map_cons, List.map_nil, List.length_cons, List.length_nil, List.append_nil, ite_true, ite_false, Nat.reduceEqDiff, Nat.reduceLT, Nat.reduceAdd, Nat.reduceMul, Nat.reduceLeDiff, ne_eq, not_false_eq_true, true_and, Nat.succ_ne_self, decide_true, decide_false, Int.natCast_nonneg, Int.toNat_natCast, ↓s_plTkN, ↓s_plOneN, AH.get, AH.set_set, fillV, setAt, List.all_cons, List.all_nil, Bool.and_self, eq_self, Nat.zero_add, List.drop, and_self, List.getElem?_cons_zero, List.getElem?_cons_succ, ldV_f, ldV_t2, ldV_t5, Int.ofNat_lt, on_int, cl_agg, on_slice, List.set_cons_zero, List.set_cons_succ, ↓n_alloc, n_allocS, Nat.le_refl, n_ldI, n_ldP, n_faP, n_ixS, n_ixA1, n_ldA, n_ldC, n_ldB, n_faA, n_stP, n_stA, ↓s_plK, ↓s_plCutN, ↓s_oneK, vcBuildSlice, List.replicate_succ, List.replicate_zero, List.flatten_cons, List.flatten_nil, lines_drop, makeX, flT_74_2, ldT_52, ldT_31, ldT_50, szT_52, szT_50, zeroT_52, zeroT_50, elT_28, elT_31, en_47, *]) | (refine guardL_splitTD ?_ ?_ <;> intro) | (refine guardL_splitFD ?_ ?_ <;> intro) | (refine guardP_splitTD ?_ ?_ <;> intro) | (refine guardP_splitFD ?_ ?_ <;> intro) | (refine condL_splitD ?_ ?_ <;> intro) | (refine guardL_splitT ?_ ?_ <;> intro) | (refine guardL_splitF ?_ ?_ <;> intro) | (refine guardP_splitT ?_ ?_ <;> intro) | (refine guardP_splitF ?_ ?_ <;> intro) | (refine condL_split ?_ ?_ <;> intro) | (refine ret_tmp ?_) | (refine acx_go rfl (fun _ _ _ h => h) ?_) | (refine acx_dreg mixed (fun _ _ _ _ e h => ⟨e.trans h.1, h.2⟩) _ (SubH.refl _) ?_) | (refine And.intro (SubH.new (by assumption)) ?_) | (refine allNew_intro fun zr zh => ?_; have zg := zh; (try simp only [AH.set_none] at zg)) | (exact SubH.refl _) | (refine SubH.of_set ?_ ?_) | assumption | (with_reducible refine And.intro ?_ ?_)))
      · exact (Made.of ho rfl).mono (SubH.new (by assumption))
      · have hb : i < ls.length := by assumption
        have he : ¬ (makeF rows made (unkN rows) ls[i]).2 = 0 := by simpa using (by assumption : (!decide ((makeF rows made (unkN rows) ls[i]).2 = 0)) = true)
        have hg : deriveGo rows (unkN rows) made (ls.drop i) = ([], (makeF rows made (unkN rows) ls[i]).2) := by
          rw [List.drop_eq_getElem_cons hb, deriveGo, if_neg he]
        rw [hg]
        refine retPost_ret rfl (by simp only [resV, resAll, resOne, s_upd, Nat.reduceEqDiff, if_true, if_false, Option.bind_some, Option.map_some, tupV] <;> rfl) ⟨_, rfl, ?_⟩
        refine GhV.tuple (GhL.cons ((GhV.nil _).trans (GhV.forget ?_ _)) (GhL.cons (GhV.refl _ _) (GhL.nil _)))
        exact ((hs.trans ho.sub).of_set ((hs.trans ho.sub).none (by assumption))).of_set (by simp [hs.trans ho.sub |>.none, *])
      · have hb : i < ls.length := by assumption
        have he : (makeF rows made (unkN rows) ls[i]).2 = 0 := by simpa using (by assumption : (!decide ((makeF rows made (unkN rows) ls[i]).2 = 0)) = false)
        have hf := makeF_ok (rows := rows) (l := ls[i]) hfit he
        have hg : deriveGo rows (unkN rows) made (ls.drop i) = deriveGo rows (unkN rows) (made ++ [(makeF rows made (unkN rows) ls[i]).1]) (ls.drop (i + 1)) := by
          rw [List.drop_eq_getElem_cons hb, deriveGo, if_pos he]
        rw [hg]
        generalize (makeF rows made (unkN rows) ls[i]).1 = r at hf ⊢
        refine append_own elT_31 zeroT_50 rfl (by omega) ((ho.alloc (by assumption) _).alloc (by assumption) _) rfl rfl (by omega) (by omega) (fun v' H'' ho2 => ?_)
        obtain ⟨Hc, hoc, kc, hsc⟩ : ∃ Hc, OwnX Hc H'' 50 2 v' (made.length + 1) (encC rowE made ++ rowE r) ∧ Hc d0 = some (.cells 74 [rowsV rows, iV (unkN rows), mv] 0) ∧ SubH H Hc :=
          ⟨_, ho2, by simp only [AH.get, *, if_false], SubH.of_set (SubH.of_set hs (hHn _ (by simp only [*]))) (hHn _ (by simp only [*]))⟩
        have hsub := ho2.sub
        clear ho2
        have kd2 : H'' d0 = some (.cells 74 [rowsV rows, iV (unkN rows), mv] 0) := hoc.sub _ _ kc
        have hc := hoc.cells.1
        have hc1 := hoc.cells.2
        (repeat' (first | (simp only [↓s_reg, ↓s_nil, ↓s_consN, ↓s_thenN, ↓s_inN, ↓s_kret, ↓s_putS, ↓s_putN, ↓s_dOkS, ↓s_dOkN, ↓s_ev_t, ↓s_ev_c, ↓s_upd, ↓s_move, ↓s_store, ↓s_nilCheck, ↓s_bin, ↓s_fieldAddr, ↓s_bin_add, vcNil, ptrV, List.length_cons, List.length_nil, ite_true, ite_false, Nat.reduceEqDiff, Nat.reduceLT, Nat.reduceAdd, ne_eq, not_false_eq_true, true_and, Nat.succ_ne_self, ↓s_plFin, setAt, List.all_cons, List.all_nil, Bool.and_self, eq_self, Nat.zero_add, List.set_cons_zero, List.set_cons_succ, Nat.le_refl, n_faP, n_faA, n_stP, n_stA, ↓s_cutK, flT_74_2, szT_31, *]) | (refine guardL_splitTD ?_ ?_ <;> intro) | (refine guardL_splitFD ?_ ?_ <;> intro) | (refine guardP_splitTD ?_ ?_ <;> intro) | (refine guardP_splitFD ?_ ?_ <;> intro) | (refine condL_splitD ?_ ?_ <;> intro) | (refine guardL_splitT ?_ ?_ <;> intro) | (refine guardL_splitF ?_ ?_ <;> intro) | (refine guardP_splitT ?_ ?_ <;> intro) | (refine guardP_splitF ?_ ?_ <;> intro) | (refine condL_split ?_ ?_ <;> intro) | (refine ret_tmp ?_) | (refine acx_go rfl (fun _ _ _ h => h) ?_) | (refine acx_dreg mixed (fun _ _ _ _ e h => ⟨e.trans h.1, h.2⟩) _ (SubH.refl _) ?_) | (refine And.intro (SubH.new (by assumption)) ?_) | (refine allNew_intro fun zr zh => ?_; have zg := zh; (try simp only [AH.set_none] at zg)) | (exact SubH.refl _) | (refine SubH.of_set ?_ ?_) | assumption | (with_reducible refine And.intro ?_ ?_)))
        · rw [wrap_ok (n := (i : Int) + 1) (by omega) (by omega)]
          refine ⟨i + 1, made ++ [r], v', Hc.set d0 _, by omega, rfl, by simp [hlen], AH.set_same _ _ _, hsc.of_set zh0, ?_, ?_, rfl⟩
          · rw [show encC rowE (made ++ [r]) = encC rowE made ++ rowE r from by rw [encC_append]; rfl, List.length_append]
            exact hoc.put kc (.cells 74 [rowsV rows, iV (unkN rows), v'] 0)
          · intro x hx
            rcases List.mem_append.1 hx with hx | hx
            · exact hfit x hx
            · rw [List.mem_singleton.1 hx]; exact hf
        · rw [wrap_ok (n := (i : Int) + 1) (by omega) (by omega)]
          omega
      · have hb : ¬ i < ls.length := by assumption
        have hg : deriveGo rows (unkN rows) made (ls.drop i) = (made, 0) := by
          rw [List.drop_eq_nil_of_le (by omega), deriveGo]
        rw [hg]
        refine retPost_ret rfl (by simp only [resV, resAll, resOne, s_upd, Nat.reduceEqDiff, if_true, if_false, Option.bind_some, Option.map_some, tupV] <;> rfl) ⟨_, rfl, ?_⟩
        exact GhV.tuple (GhL.cons (GhV.back ho hs) (GhL.cons (GhV.refl _ _) (GhL.nil _)))
end Go.PV.Ytefpjfpelicedaa
end
section
/- Rows and lines, there and back: loops that append. -/
set_option linter.unusedVariables false
set_option linter.unusedSimpArgs false
set_option maxRecDepth 20000
set_option maxHeartbeats 4000000
namespace Go.PV.Ytefpjfpelicedaa
open Go Go.Proofs
/-- What hands back a slice of one's own. -/
def _root_.Go.PV.OwnF (P : Program) (f : FuncId) (xs : List VV) (H : AH) (e : TypeId) (k n : Nat) (cs : List VV) : Prop := VCalls P f xs H (fun r H' => ∃ v Hb, r = .ret v ∧ SubH H Hb ∧ OwnX Hb H' e k v n cs)
theorem _root_.Go.PV.OwnF.use {P : Program} {f : FuncId} {xs : List VV} {H : AH} {e : TypeId} {k n : Nat} {cs : List VV} {K : VE → AH → Prop} (h : OwnF P f xs H e k n cs) (hK : ∀ v H', OwnX H H' e k v n cs → K (.ret v) H') : VCalls P f xs H K := fun S w args hs hx =>
  (h S w args hs hx).mono fun e w' hq => by
    cases e with
    | returned v =>
      obtain ⟨S', H', y, h1, h2, h3, z, Hb, h4, h5, h6⟩ := hq
      cases h4
      obtain ⟨H'', g1, g2⟩ := h6.shrink h5
      obtain ⟨S'', g3, g4, g5⟩ := (GhV.forget g2 y) S' w' v h2 h3
      exact ⟨S'', H'', y, h1.trans g3, g4, g5, hK _ _ g1⟩
    | panicked ch => obtain ⟨S', H', h1, h2, z, Hb, h4, h5⟩ := hq; cases h4
    | outgrown => exact hq
theorem _root_.Go.PV.OwnF.pure {P : Program} {f : FuncId} {xs : List VV} {e : TypeId} {k n : Nat} {cs : List VV} (h : ∀ H, OwnF P f xs H e k n cs) : PureF P f xs (.slice false n cs) :=
  GivesF.pure fun H => (h H).use fun v H' ho => ⟨v, rfl, GhV.back ho (SubH.refl _)⟩
theorem encC_snoc {α : Type} (enc : α → List VV) (l : List α) (x : α) : encC enc (l ++ [x]) = encC enc l ++ enc x := by
  rw [encC_append]; simp [encC]
/-- lines21: what is handed back may be appended to. -/
theorem lines21 (l : List Line) (hn : (l.length : Int) ≤ 1000000) (H : AH) : OwnF Try.prog 21 [linesV l] H 52 5 l.length (encC lineE l) := by
  unfold OwnF
  refine vcalls_intro fd21 (by simp) ?_
  unfold c21
  (repeat' (first | (simp only [↓s_reg, ↓s_seq, ↓s_seqL, ↓s_block, ↓s_loop, ↓s_nil, ↓s_consN, ↓s_thenN, ↓s_kret, ↓s_putS, ↓s_dOkS, ↓s_ev_t, ↓s_ev_c, ↓s_upd, ↓s_move, ↓s_assign, ↓s_callB, ↓s_len, intV, List.map_cons, List.map_nil, List.getD_cons_zero, List.getD_cons_succ, List.getD_nil, ite_true, ite_false, Nat.reduceEqDiff, Nat.reduceLT, ne_eq, not_false_eq_true, true_and, reduceCtorEq, undefV, eq_self, n_lenS, undef, elT_35, *]) | (refine guardL_splitTD ?_ ?_ <;> intro) | (refine guardL_splitFD ?_ ?_ <;> intro) | (refine guardP_splitTD ?_ ?_ <;> intro) | (refine guardP_splitFD ?_ ?_ <;> intro) | (refine condL_splitD ?_ ?_ <;> intro) | (refine guardL_splitT ?_ ?_ <;> intro) | (refine guardL_splitF ?_ ?_ <;> intro) | (refine guardP_splitT ?_ ?_ <;> intro) | (refine guardP_splitF ?_ ?_ <;> intro) | (refine condL_split ?_ ?_ <;> intro) | (refine ret_tmp ?_) | (refine acx_go rfl (fun _ _ _ h => h) ?_) | (refine acx_dreg mixed (fun _ _ _ _ e h => ⟨e.trans h.1, h.2⟩) _ (SubH.refl _) ?_) | (refine And.intro (SubH.new (by assumption)) ?_) | (refine allNew_intro fun zr zh => ?_; have zg := zh; (try simp only [AH.set_none] at zg)) | (exact SubH.refl _) | (refine SubH.of_set ?_ ?_) | assumption))
  refine acx_loop (fun _ _ _ h => h) (fun A H' => A.d = [] ∧ A.t 6 = linesV l ∧ A.t 7 = iV l.length ∧ ∃ (i : Nat) (v : VV) (Hb : AH), i ≤ l.length ∧ A.t 8 = iV i ∧ A.t 3 = v ∧ SubH H Hb ∧ OwnX Hb H' 52 5 v i (encC lineE (l.take i)))
    (fun A _ => match A.t 8 with | .lit (.int _ i) => ((l.length : Int) - i).toNat | _ => 0) ?_ ?_
  · exact ⟨rfl, rfl, rfl, 0, _, H, by omega, rfl, rfl, SubH.refl _, OwnX.nil _ 52 5⟩
  · rintro ⟨t, d⟩ H' ⟨rfl, h6, h7, i, v, Hb, hi, h8, h3, hs, ho⟩
    dsimp only at h6 h7 h8 h3
    have hHn : ∀ r, H' r = none → H r = none := fun r h => (hs.trans ho.sub).none h
    (repeat' (first | (simp only [↓s_skip, ↓s_reg, ↓s_seq, ↓s_cond, ↓s_block, ↓s_exit, ↓s_ret, ↓s_nil, ↓s_consN, ↓s_thenN, ↓s_thenE, ↓s_inE, ↓s_kret, ↓s_putS, ↓s_putN, ↓s_dOkS, ↓s_dOkN, ↓s_ev_t, ↓s_upd, ↓s_move, ↓s_assign, ↓s_load, ↓s_store, ↓s_bin, ↓s_alloc, ↓s_buildSlice, ↓s_indexAddr, ↓s_callB, ↓s_append, ↓s_bin_lss, ptrV, List.map_cons, List.map_nil, List.length_cons, List.length_nil, List.append_nil, ite_true, ite_false, Nat.reduceEqDiff, Nat.reduceLT, Nat.reduceAdd, Nat.reduceMul, Nat.reduceLeDiff, true_and, Nat.succ_ne_self, decide_true, decide_false, Int.natCast_nonneg, Int.toNat_natCast, AH.get, AH.set_set, fillV, setAt, List.all_cons, List.all_nil, Bool.and_self, eq_self, Nat.zero_add, List.drop, and_self, ldV_t5, Int.ofNat_lt, on_int, cl_agg, List.set_cons_zero, List.set_cons_succ, ↓n_alloc, n_allocS, Nat.le_refl, n_ldI, n_ldP, n_ixS, n_ixA1, n_ldA, n_ldC, n_ldB, n_stP, n_stA, vcBuildSlice, List.replicate_succ, List.replicate_zero, List.flatten_cons, List.flatten_nil, lines_drop, ldT_83, szT_83, zeroT_83, elT_35, elT_28, zeroT_52, *]) | (refine guardL_splitTD ?_ ?_ <;> intro) | (refine guardL_splitFD ?_ ?_ <;> intro) | (refine guardP_splitTD ?_ ?_ <;> intro) | (refine guardP_splitFD ?_ ?_ <;> intro) | (refine condL_splitD ?_ ?_ <;> intro) | (refine guardL_splitT ?_ ?_ <;> intro) | (refine guardL_splitF ?_ ?_ <;> intro) | (refine guardP_splitT ?_ ?_ <;> intro) | (refine guardP_splitF ?_ ?_ <;> intro) | (refine condL_split ?_ ?_ <;> intro) | (refine ret_tmp ?_) | (refine acx_go rfl (fun _ _ _ h => h) ?_) | (refine acx_dreg mixed (fun _ _ _ _ e h => ⟨e.trans h.1, h.2⟩) _ (SubH.refl _) ?_) | (refine And.intro (SubH.new (by assumption)) ?_) | (refine allNew_intro fun zr zh => ?_; have zg := zh; (try simp only [AH.set_none] at zg)) | (exact SubH.refl _) | (refine SubH.of_set ?_ ?_) | assumption | (with_reducible refine And.intro ?_ ?_)))
    · have hb : i < l.length := by assumption
      refine append_own elT_28 zeroT_52 rfl (by omega) (ho.alloc (by assumption) _) rfl rfl (by omega) (by omega) (fun v' H'' ho2 => ?_)
      obtain ⟨Hc, hoc, hsc⟩ : ∃ Hc, OwnX Hc H'' 52 5 v' (i + 1) (encC lineE (l.take (i + 1))) ∧ SubH H Hc :=
        ⟨_, by rw [List.take_succ_eq_append_getElem hb, encC_snoc]; exact ho2, SubH.of_set hs (hHn _ (by simp only [*]))⟩
      clear ho2
      (repeat' (first | (simp only [↓s_reg, ↓s_nil, ↓s_consN, ↓s_thenN, ↓s_inN, ↓s_kret, ↓s_putS, ↓s_dOkS, ↓s_ev_t, ↓s_ev_c, ↓s_upd, ↓s_move, ↓s_assign, ↓s_bin, ↓s_bin_add, ite_true, ite_false, Nat.reduceEqDiff, Nat.reduceLT, true_and, Nat.succ_ne_self, eq_self, *]) | (refine guardL_splitTD ?_ ?_ <;> intro) | (refine guardL_splitFD ?_ ?_ <;> intro) | (refine guardP_splitTD ?_ ?_ <;> intro) | (refine guardP_splitFD ?_ ?_ <;> intro) | (refine condL_splitD ?_ ?_ <;> intro) | (refine guardL_splitT ?_ ?_ <;> intro) | (refine guardL_splitF ?_ ?_ <;> intro) | (refine guardP_splitT ?_ ?_ <;> intro) | (refine guardP_splitF ?_ ?_ <;> intro) | (refine condL_split ?_ ?_ <;> intro) | (refine ret_tmp ?_) | (refine acx_go rfl (fun _ _ _ h => h) ?_) | (refine acx_dreg mixed (fun _ _ _ _ e h => ⟨e.trans h.1, h.2⟩) _ (SubH.refl _) ?_) | (refine And.intro (SubH.new (by assumption)) ?_) | (refine allNew_intro fun zr zh => ?_; have zg := zh; (try simp only [AH.set_none] at zg)) | (exact SubH.refl _) | (refine SubH.of_set ?_ ?_) | assumption | (with_reducible refine And.intro ?_ ?_)))
      · rw [wrap_ok (n := (i : Int) + 1) (by omega) (by omega)]
        exact ⟨i + 1, _, Hc, by omega, rfl, rfl, hsc, hoc⟩
      · rw [wrap_ok (n := (i : Int) + 1) (by omega) (by omega)]
        omega
    · have hb : ¬ i < l.length := by assumption
      rw [show i = l.length from by omega, List.take_length] at ho
      exact ⟨_, Hb, rfl, hs, ho⟩
theorem lines21P (l : List Line) (hn : (l.length : Int) ≤ 1000000) : PureF Try.prog 21 [linesV l] (linesV l) :=
  OwnF.pure fun H => lines21 l hn H
/-- back29: what is handed back may be appended to. -/
theorem back29 (l : List Row) (hn : (l.length : Int) ≤ 1000000) (H : AH) : OwnF Try.prog 29 [rowsV l] H 39 2 l.length (encC rowE l) := by
  unfold OwnF
  refine vcalls_intro fd29 (by simp) ?_
  unfold c29
  (repeat' (first | (simp only [↓s_reg, ↓s_seq, ↓s_seqL, ↓s_block, ↓s_loop, ↓s_nil, ↓s_consN, ↓s_thenN, ↓s_kret, ↓s_putS, ↓s_dOkS, ↓s_ev_t, ↓s_ev_c, ↓s_upd, ↓s_move, ↓s_assign, ↓s_callB, ↓s_len, intV, List.map_cons, List.map_nil, List.getD_cons_zero, List.getD_cons_succ, List.getD_nil, ite_true, ite_false, Nat.reduceEqDiff, Nat.reduceLT, ne_eq, not_false_eq_true, true_and, reduceCtorEq, undefV, eq_self, n_lenS, undef, elT_31, *]) | (refine guardL_splitTD ?_ ?_ <;> intro) | (refine guardL_splitFD ?_ ?_ <;> intro) | (refine guardP_splitTD ?_ ?_ <;> intro) | (refine guardP_splitFD ?_ ?_ <;> intro) | (refine condL_splitD ?_ ?_ <;> intro) | (refine guardL_splitT ?_ ?_ <;> intro) | (refine guardL_splitF ?_ ?_ <;> intro) | (refine guardP_splitT ?_ ?_ <;> intro) | (refine guardP_splitF ?_ ?_ <;> intro) | (refine condL_split ?_ ?_ <;> intro) | (refine ret_tmp ?_) | (refine acx_go rfl (fun _ _ _ h => h) ?_) | (refine acx_dreg mixed (fun _ _ _ _ e h => ⟨e.trans h.1, h.2⟩) _ (SubH.refl _) ?_) | (refine And.intro (SubH.new (by assumption)) ?_) | (refine allNew_intro fun zr zh => ?_; have zg := zh; (try simp only [AH.set_none] at zg)) | (exact SubH.refl _) | (refine SubH.of_set ?_ ?_) | assumption))
  refine acx_loop (fun _ _ _ h => h) (fun A H' => A.d = [] ∧ A.t 6 = rowsV l ∧ A.t 7 = iV l.length ∧ ∃ (i : Nat) (v : VV) (Hb : AH), i ≤ l.length ∧ A.t 8 = iV i ∧ A.t 3 = v ∧ SubH H Hb ∧ OwnX Hb H' 39 2 v i (encC rowE (l.take i)))
    (fun A _ => match A.t 8 with | .lit (.int _ i) => ((l.length : Int) - i).toNat | _ => 0) ?_ ?_
  · exact ⟨rfl, rfl, rfl, 0, _, H, by omega, rfl, rfl, SubH.refl _, OwnX.nil _ 39 2⟩
  · rintro ⟨t, d⟩ H' ⟨rfl, h6, h7, i, v, Hb, hi, h8, h3, hs, ho⟩
    dsimp only at h6 h7 h8 h3
    have hHn : ∀ r, H' r = none → H r = none := fun r h => (hs.trans ho.sub).none h
    (repeat' (first | (simp only [↓s_skip, ↓s_reg, ↓s_seq, ↓s_cond, ↓s_block, ↓s_exit, ↓s_ret, ↓s_nil, ↓s_consN, ↓s_thenN, ↓s_thenE, ↓s_inE, ↓s_kret, ↓s_putS, ↓s_putN, ↓s_dOkS, ↓s_dOkN, ↓s_ev_t, ↓s_upd, ↓s_move, ↓s_assign, ↓s_load, ↓s_store, ↓s_bin, ↓s_alloc, ↓s_buildSlice, ↓s_indexAddr, ↓s_callB, ↓s_append, ↓s_bin_lss, ptrV, List.map_cons, List.map_nil, List.length_cons, List.length_nil, List.append_nil, ite_true, ite_false, Nat.reduceEqDiff, Nat.reduceLT, Nat.reduceAdd, Nat.reduceMul, Nat.reduceLeDiff, true_and, Nat.succ_ne_self, decide_true, decide_false, Int.natCast_nonneg, Int.toNat_natCast, AH.get, AH.set_set, fillV, setAt, List.all_cons, List.all_nil, Bool.and_self, eq_self, Nat.zero_add, List.drop, and_self, ldV_t2, Int.ofNat_lt, on_int, cl_agg, on_slice, List.set_cons_zero, List.set_cons_succ, ↓n_alloc, n_allocS, Nat.le_refl, n_ldI, n_ldP, n_ixS, n_ixA1, n_ldA, n_ldC, n_ldB, n_stP, n_stA, vcBuildSlice, List.replicate_succ, List.replicate_zero, List.flatten_cons, List.flatten_nil, rows_drop, ldT_50, szT_50, zeroT_50, elT_31, elT_22, zeroT_39, *]) | (refine guardL_splitTD ?_ ?_ <;> intro) | (refine guardL_splitFD ?_ ?_ <;> intro) | (refine guardP_splitTD ?_ ?_ <;> intro) | (refine guardP_splitFD ?_ ?_ <;> intro) | (refine condL_splitD ?_ ?_ <;> intro) | (refine guardL_splitT ?_ ?_ <;> intro) | (refine guardL_splitF ?_ ?_ <;> intro) | (refine guardP_splitT ?_ ?_ <;> intro) | (refine guardP_splitF ?_ ?_ <;> intro) | (refine condL_split ?_ ?_ <;> intro) | (refine ret_tmp ?_) | (refine acx_go rfl (fun _ _ _ h => h) ?_) | (refine acx_dreg mixed (fun _ _ _ _ e h => ⟨e.trans h.1, h.2⟩) _ (SubH.refl _) ?_) | (refine And.intro (SubH.new (by assumption)) ?_) | (refine allNew_intro fun zr zh => ?_; have zg := zh; (try simp only [AH.set_none] at zg)) | (exact SubH.refl _) | (refine SubH.of_set ?_ ?_) | assumption | (with_reducible refine And.intro ?_ ?_)))
    · have hb : i < l.length := by assumption
      refine append_own elT_22 zeroT_39 rfl (by omega) (ho.alloc (by assumption) _) rfl rfl (by omega) (by omega) (fun v' H'' ho2 => ?_)
      obtain ⟨Hc, hoc, hsc⟩ : ∃ Hc, OwnX Hc H'' 39 2 v' (i + 1) (encC rowE (l.take (i + 1))) ∧ SubH H Hc :=
        ⟨_, by rw [List.take_succ_eq_append_getElem hb, encC_snoc]; exact ho2, SubH.of_set hs (hHn _ (by simp only [*]))⟩
      clear ho2
      (repeat' (first | (simp only [↓s_reg, ↓s_nil, ↓s_consN, ↓s_thenN, ↓s_inN, ↓s_kret, ↓s_putS, ↓s_dOkS, ↓s_ev_t, ↓s_ev_c, ↓s_upd, ↓s_move, ↓s_assign, ↓s_bin, ↓s_bin_add, ite_true, ite_false, Nat.reduceEqDiff, Nat.reduceLT, true_and, Nat.succ_ne_self, eq_self, *]) | (refine guardL_splitTD ?_ ?_ <;> intro) | (refine guardL_splitFD ?_ ?_ <;> intro) | (refine guardP_splitTD ?_ ?_ <;> intro) | (refine guardP_splitFD ?_ ?_ <;> intro) | (refine condL_splitD ?_ ?_ <;> intro) | (refine guardL_splitT ?_ ?_ <;> intro) | (refine guardL_splitF ?_ ?_ <;> intro) | (refine guardP_splitT ?_ ?_ <;> intro) | (refine guardP_splitF ?_ ?_ <;> intro) | (refine condL_split ?_ ?_ <;> intro) | (refine ret_tmp ?_) | (refine acx_go rfl (fun _ _ _ h => h) ?_) | (refine acx_dreg mixed (fun _ _ _ _ e h => ⟨e.trans h.1, h.2⟩) _ (SubH.refl _) ?_) | (refine And.intro (SubH.new (by assumption)) ?_) | (refine allNew_intro fun zr zh => ?_; have zg := zh; (try simp only [AH.set_none] at zg)) | (exact SubH.refl _) | (refine SubH.of_set ?_ ?_) | assumption | (with_reducible refine And.intro ?_ ?_)))
      · rw [wrap_ok (n := (i : Int) + 1) (by omega) (by omega)]
        exact ⟨i + 1, _, Hc, by omega, rfl, rfl, hsc, hoc⟩
      · rw [wrap_ok (n := (i : Int) + 1) (by omega) (by omega)]
        omega
    · have hb : ¬ i < l.length := by assumption
      rw [show i = l.length from by omega, List.take_length] at ho
      exact ⟨_, Hb, rfl, hs, ho⟩
theorem back29P (l : List Row) (hn : (l.length : Int) ≤ 1000000) : PureF Try.prog 29 [rowsV l] (rowsV l) :=
  OwnF.pure fun H => back29 l hn H
/-- rows12: what is handed back may be appended to. -/
theorem rows12 (l : List Row) (hn : (l.length : Int) ≤ 1000000) (hr : ∀ r ∈ l, (r.c.length : Int) ≤ 1000000) (H : AH) : OwnF Try.prog 12 [rowsV l] H 50 2 l.length (encC rowE l) := by
  unfold OwnF
  refine vcalls_intro fd12 (by simp) ?_
  unfold c12
  (repeat' (first | (simp only [↓s_reg, ↓s_seq, ↓s_seqL, ↓s_block, ↓s_loop, ↓s_nil, ↓s_consN, ↓s_thenN, ↓s_kret, ↓s_putS, ↓s_dOkS, ↓s_ev_t, ↓s_ev_c, ↓s_upd, ↓s_move, ↓s_assign, ↓s_callB, ↓s_len, intV, List.map_cons, List.map_nil, List.getD_cons_zero, List.getD_cons_succ, List.getD_nil, ite_true, ite_false, Nat.reduceEqDiff, Nat.reduceLT, ne_eq, not_false_eq_true, true_and, reduceCtorEq, undefV, eq_self, n_lenS, undef, elT_22, *]) | (refine guardL_splitTD ?_ ?_ <;> intro) | (refine guardL_splitFD ?_ ?_ <;> intro) | (refine guardP_splitTD ?_ ?_ <;> intro) | (refine guardP_splitFD ?_ ?_ <;> intro) | (refine condL_splitD ?_ ?_ <;> intro) | (refine guardL_splitT ?_ ?_ <;> intro) | (refine guardL_splitF ?_ ?_ <;> intro) | (refine guardP_splitT ?_ ?_ <;> intro) | (refine guardP_splitF ?_ ?_ <;> intro) | (refine condL_split ?_ ?_ <;> intro) | (refine ret_tmp ?_) | (refine acx_go rfl (fun _ _ _ h => h) ?_) | (refine acx_dreg mixed (fun _ _ _ _ e h => ⟨e.trans h.1, h.2⟩) _ (SubH.refl _) ?_) | (refine And.intro (SubH.new (by assumption)) ?_) | (refine allNew_intro fun zr zh => ?_; have zg := zh; (try simp only [AH.set_none] at zg)) | (exact SubH.refl _) | (refine SubH.of_set ?_ ?_) | assumption))
  refine acx_loop (fun _ _ _ h => h) (fun A H' => A.d = [] ∧ A.t 6 = rowsV l ∧ A.t 7 = iV l.length ∧ ∃ (i : Nat) (v : VV) (Hb : AH), i ≤ l.length ∧ A.t 8 = iV i ∧ A.t 3 = v ∧ SubH H Hb ∧ OwnX Hb H' 50 2 v i (encC rowE (l.take i)))
    (fun A _ => match A.t 8 with | .lit (.int _ i) => ((l.length : Int) - i).toNat | _ => 0) ?_ ?_
  · exact ⟨rfl, rfl, rfl, 0, _, H, by omega, rfl, rfl, SubH.refl _, OwnX.nil _ 50 2⟩
  · rintro ⟨t, d⟩ H' ⟨rfl, h6, h7, i, v, Hb, hi, h8, h3, hs, ho⟩
    dsimp only at h6 h7 h8 h3
    have hHn : ∀ r, H' r = none → H r = none := fun r h => (hs.trans ho.sub).none h
    (repeat' (first | (simp only [↓s_skip, ↓s_reg, ↓s_seq, ↓s_cond, ↓s_block, ↓s_exit, ↓s_ret, ↓s_dreg, ↓s_nil, ↓s_consN, ↓s_thenN, ↓s_thenE, ↓s_inE, ↓s_kret, ↓s_putS, ↓s_putN, ↓s_dOkS, ↓s_dOkN, ↓s_ev_t, ↓s_ev_f, ↓s_upd, ↓s_move, ↓s_assign, ↓s_load, ↓s_store, ↓s_bin, ↓s_alloc, ↓s_build, ↓s_buildSlice, ↓s_fieldAddr, ↓s_indexAddr, ↓s_callB, ↓s_callV, ↓s_callL, ↓s_append, ↓s_bin_lss, ptrV, List.map_cons, List.map_nil, List.length_cons, List.length_nil, List.append_nil, ite_true, ite_false, Nat.reduceEqDiff, Nat.reduceLT, Nat.reduceAdd, Nat.reduceMul, Nat.reduceLeDiff, ne_eq, not_false_eq_true, true_and, Nat.succ_ne_self, decide_true, decide_false, Int.natCast_nonneg, Int.toNat_natCast, ↓s_plFin, ↓s_plTkN, ↓s_plOneN, AH.get, AH.set_set, vcBuild, fillV, setAt, List.all_cons, List.all_nil, Bool.and_self, eq_self, Nat.zero_add, Nat.add_zero, List.drop, and_self, List.getElem?_cons_zero, List.getElem?_cons_succ, ldV_f, ldV_t2, Int.ofNat_lt, cl_int, on_int, cl_agg, cl_slice, on_slice, List.set_cons_zero, List.set_cons_succ, ↓n_alloc, n_allocS, Nat.le_refl, n_ldI, n_ldP, n_faP, n_ixS, n_ixA1, n_ldA, n_ldC, n_ldB, n_faA, n_stP, n_stA, ↓s_plK, ↓s_cutK, ↓s_plCutN, ↓s_oneK, vcBuildSlice, List.replicate_succ, List.replicate_zero, List.flatten_cons, List.flatten_nil, rows_drop, flT_39_0, flT_39_1, ldT_39, ldT_37, ldT_3, szT_39, zeroT_39, zeroT_50, stT_50, elT_22, elT_31, en_25, *]) | (refine guardL_splitTD ?_ ?_ <;> intro) | (refine guardL_splitFD ?_ ?_ <;> intro) | (refine guardP_splitTD ?_ ?_ <;> intro) | (refine guardP_splitFD ?_ ?_ <;> intro) | (refine condL_splitD ?_ ?_ <;> intro) | (refine guardL_splitT ?_ ?_ <;> intro) | (refine guardL_splitF ?_ ?_ <;> intro) | (refine guardP_splitT ?_ ?_ <;> intro) | (refine guardP_splitF ?_ ?_ <;> intro) | (refine condL_split ?_ ?_ <;> intro) | (refine ret_tmp ?_) | (refine acx_go rfl (fun _ _ _ h => h) ?_) | (refine acx_dreg mixed (fun _ _ _ _ e h => ⟨e.trans h.1, h.2⟩) _ (SubH.refl _) ?_) | (refine And.intro (SubH.new (by assumption)) ?_) | (refine allNew_intro fun zr zh => ?_; have zg := zh; (try simp only [AH.set_none] at zg)) | (exact SubH.refl _) | (refine SubH.of_set ?_ ?_) | assumption | (refine PureF.use (clone25 _ (hr _ (List.getElem_mem _))) ?_) | (with_reducible refine And.intro ?_ ?_)))
    · have hb : i < l.length := by assumption
      refine append_own elT_31 zeroT_50 rfl (by omega) (ho.alloc (by assumption) _) rfl rfl (by omega) (by omega) (fun v' H'' ho2 => ?_)
      obtain ⟨Hc, hoc, hsc⟩ : ∃ Hc, OwnX Hc H'' 50 2 v' (i + 1) (encC rowE (l.take (i + 1))) ∧ SubH H Hc :=
        ⟨_, by rw [List.take_succ_eq_append_getElem hb, encC_snoc]; exact ho2, SubH.of_set hs (hHn _ (by simp only [*]))⟩
      clear ho2
      (repeat' (first | (simp only [↓s_reg, ↓s_nil, ↓s_consN, ↓s_thenN, ↓s_inN, ↓s_kret, ↓s_putS, ↓s_dOkS, ↓s_ev_t, ↓s_ev_c, ↓s_upd, ↓s_move, ↓s_assign, ↓s_bin, ↓s_bin_add, ite_true, ite_false, Nat.reduceEqDiff, Nat.reduceLT, true_and, Nat.succ_ne_self, eq_self, *]) | (refine guardL_splitTD ?_ ?_ <;> intro) | (refine guardL_splitFD ?_ ?_ <;> intro) | (refine guardP_splitTD ?_ ?_ <;> intro) | (refine guardP_splitFD ?_ ?_ <;> intro) | (refine condL_splitD ?_ ?_ <;> intro) | (refine guardL_splitT ?_ ?_ <;> intro) | (refine guardL_splitF ?_ ?_ <;> intro) | (refine guardP_splitT ?_ ?_ <;> intro) | (refine guardP_splitF ?_ ?_ <;> intro) | (refine condL_split ?_ ?_ <;> intro) | (refine ret_tmp ?_) | (refine acx_go rfl (fun _ _ _ h => h) ?_) | (refine acx_dreg mixed (fun _ _ _ _ e h => ⟨e.trans h.1, h.2⟩) _ (SubH.refl _) ?_) | (refine And.intro (SubH.new (by assumption)) ?_) | (refine allNew_intro fun zr zh => ?_; have zg := zh; (try simp only [AH.set_none] at zg)) | (exact SubH.refl _) | (refine SubH.of_set ?_ ?_) | assumption | (with_reducible refine And.intro ?_ ?_)))
      · rw [wrap_ok (n := (i : Int) + 1) (by omega) (by omega)]
        exact ⟨i + 1, _, Hc, by omega, rfl, rfl, hsc, hoc⟩
      · rw [wrap_ok (n := (i : Int) + 1) (by omega) (by omega)]
        omega
    · have hb : ¬ i < l.length := by assumption
      rw [show i = l.length from by omega, List.take_length] at ho
      exact ⟨_, Hb, rfl, hs, ho⟩
theorem rows12P (l : List Row) (hn : (l.length : Int) ≤ 1000000) (hr : ∀ r ∈ l, (r.c.length : Int) ≤ 1000000) : PureF Try.prog 12 [rowsV l] (rowsV l) :=
  OwnF.pure fun H => rows12 l hn hr H
end Go.PV.Ytefpjfpelicedaa
end
section
/- Check, Holds, and what compares. -/
set_option linter.unusedVariables false
set_option linter.unusedSimpArgs false
set_option maxRecDepth 20000
set_option maxHeartbeats 4000000
namespace Go.PV.Ytefpjfpelicedaa
open Go Go.Proofs
theorem deriveGo_ok {rows : List Row} {n : Nat} : ∀ (ls : List Line) (made : List Row), (∀ r ∈ made, Fits n r) → ∀ r ∈ (deriveGo rows n made ls).1, Fits n r
  | [], made, h => h
  | l :: ls, made, h => by
    unfold deriveGo
    split
    · rename_i he
      refine deriveGo_ok ls _ fun x hx => ?_
      rcases List.mem_append.1 hx with hx | hx
      · exact h x hx
      · rw [List.mem_singleton.1 hx]; exact makeF_ok h he
    · simp
theorem deriveF_ok (rows : List Row) (ls : List Line) : ∀ r ∈ (deriveF rows ls).1, Fits (unkN rows) r ∧ unkN rows ≤ 12 := by
  unfold deriveF
  split
  · rename_i hr
    split
    · simp
    · exact fun r h => ⟨deriveGo_ok ls [] (by simp) r h, unkN_le hr⟩
  · simp
theorem deriveGo_len {rows : List Row} {n : Nat} : ∀ (ls : List Line) (made : List Row), (deriveGo rows n made ls).1.length ≤ made.length + ls.length
  | [], made => by simp [deriveGo]
  | l :: ls, made => by
    unfold deriveGo
    split
    · have := deriveGo_len (rows := rows) (n := n) ls (made ++ [(makeF rows made n l).1])
      simp at *; omega
    · simp
theorem deriveF_len (rows : List Row) (ls : List Line) : (deriveF rows ls).1.length ≤ 5000 := by
  unfold deriveF
  split
  · split
    · simp
    · have := deriveGo_len (rows := rows) (n := unkN rows) ls []
      simp at this; omega
  · simp
def lastF (made : List Row) : Int := if made = [] ∨ absurdF (rowAt made ((made.length : Int) - 1)) = false then 260 else 0
def checkF (rows : List Row) (ls : List Line) : Int := if (deriveF rows ls).2 = 0 then lastF (deriveF rows ls).1 else (deriveF rows ls).2
theorem check13 (rows : List Row) (ls : List Line) (h1 : (rows.length : Int) ≤ 9223372036854775806) (h2 : (ls.length : Int) ≤ 9223372036854775806) : PureF Try.prog 13 [rowsV rows, linesV ls] (iV (checkF rows ls)) := by
  refine PureF.forget fun H => ?_
  refine vcalls_intro fd13 (by simp) ?_
  unfold c13
  have hl := deriveF_len rows ls
  have hf := deriveF_ok rows ls
  have hd := derive22 rows ls h1 h2
  unfold checkF
  generalize hp : deriveF rows ls = p at hl hf hd ⊢
  clear hp
  have hw : IntKind.i64.wrap ((p.1.length : Int) - 1) = (p.1.length : Int) - 1 := wrap_ok (by omega) (by omega)
  by_cases he : p.2 = 0
  · by_cases h0 : p.1 = []
    · have h0' : (p.1.length : Int) = 0 := by simp [h0]
      have e : lastF p.1 = 260 := by simp [lastF, h0]
      clear h0
      (repeat' (first | (simp only [↓s_skip, ↓s_reg, ↓s_seq, ↓s_cond, ↓s_condT, ↓s_condF, ↓s_ret, ↓s_nil, ↓s_consN, ↓s_consG, ↓s_guardTF, ↓s_thenN, ↓s_thenR, ↓s_kret, ↓s_putS, ↓s_dOkS, ↓s_ev_t, ↓s_ev_c, ↓s_ev_f, ↓s_upd, ↓s_move, ↓s_assign, ↓s_isBool, ↓s_pickA, ↓s_pick, ↓s_bin, ↓s_extract, ↓s_callB, ↓s_callV, ↓s_callL, ↓s_len, ↓s_bin_eql, ↓s_bin_neq, vcExtract, intV, List.map_cons, List.map_nil, List.getD_cons_zero, List.getD_cons_succ, List.getD_nil, ite_true, ite_false, Nat.reduceEqDiff, Nat.reduceLT, ne_eq, not_false_eq_true, true_and, Nat.succ_ne_self, decide_true, Bool.not_true, reduceCtorEq, callOk, undefV, eq_self, List.getElem?_cons_zero, List.getElem?_cons_succ, n_lenS, undef, elT_31, en_22, en_41, *]) | (refine guardL_splitTD ?_ ?_ <;> intro) | (refine guardL_splitFD ?_ ?_ <;> intro) | (refine guardP_splitTD ?_ ?_ <;> intro) | (refine guardP_splitFD ?_ ?_ <;> intro) | (refine condL_splitD ?_ ?_ <;> intro) | (refine guardL_splitT ?_ ?_ <;> intro) | (refine guardL_splitF ?_ ?_ <;> intro) | (refine guardP_splitT ?_ ?_ <;> intro) | (refine guardP_splitF ?_ ?_ <;> intro) | (refine condL_split ?_ ?_ <;> intro) | (refine ret_tmp ?_) | (refine acx_go rfl (fun _ _ _ h => h) ?_) | (refine acx_dreg mixed (fun _ _ _ _ e h => ⟨e.trans h.1, h.2⟩) _ (SubH.refl _) ?_) | (refine And.intro (SubH.new (by assumption)) ?_) | (refine allNew_intro fun zr zh => ?_; have zg := zh; (try simp only [AH.set_none] at zg)) | (exact SubH.refl _) | (refine SubH.of_set ?_ ?_) | assumption | (refine PureF.use (hd) ?_) | (with_reducible refine And.intro ?_ ?_)))
    · have h0' : ¬ (p.1.length : Int) = 0 := fun e => h0 (List.eq_nil_of_length_eq_zero (by omega))
      have h3 : 0 ≤ (p.1.length : Int) - 1 := by omega
      have h4 : (p.1.length : Int) - 1 < p.1.length := by omega
      have hm : rowAt p.1 ((p.1.length : Int) - 1) ∈ p.1 := by
        unfold rowAt
        rw [List.getD_eq_getElem?_getD]
        have h5 : ((p.1.length : Int) - 1).toNat < p.1.length := by omega
        simp only [h5, List.getElem?_eq_getElem, Option.getD_some]; exact List.getElem_mem _
      have h6 := (hf _ hm).1.1
      have h7 := (hf _ hm).2
      have hlen : ((rowAt p.1 ((p.1.length : Int) - 1)).c.length : Int) ≤ 9223372036854775806 := by omega
      have e : lastF p.1 = if absurdF (rowAt p.1 ((p.1.length : Int) - 1)) = false then 260 else 0 := by simp [lastF, h0]
      clear h6 hm h0
      (repeat' (first | (simp only [↓s_skip, ↓s_reg, ↓s_seq, ↓s_cond, ↓s_condF, ↓s_ret, ↓s_nil, ↓s_consN, ↓s_consG, ↓s_guardFF, ↓s_thenN, ↓s_thenR, ↓s_kret, ↓s_putS, ↓s_dOkS, ↓s_ev_t, ↓s_ev_c, ↓s_ev_f, ↓s_upd, ↓s_move, ↓s_assign, ↓s_isBool, ↓s_pickA, ↓s_pick, ↓s_load, ↓s_bin, ↓s_un, ↓s_indexAddr, ↓s_extract, ↓s_callB, ↓s_callV, ↓s_callL, ↓s_len, ↓s_un_not, ↓s_bin_eql, ↓s_bin_neq, ↓s_bin_sub, vcExtract, intV, boolV, List.map_cons, List.map_nil, List.getD_cons_zero, List.getD_cons_succ, List.getD_nil, ite_true, ite_false, Nat.reduceEqDiff, Nat.reduceLT, ne_eq, not_false_eq_true, true_and, Bool.false_eq_true, Nat.succ_ne_self, decide_true, decide_false, Bool.not_true, reduceCtorEq, undefV, eq_self, and_self, List.getElem?_cons_zero, List.getElem?_cons_succ, ldV_t2, n_ldI, n_ixS, n_ixA1, n_lenS, n_ldC, n_ldB, undef, rows_dropZ, ldT_50, elT_31, en_22, en_41, *]) | (refine guardL_splitTD ?_ ?_ <;> intro) | (refine guardL_splitFD ?_ ?_ <;> intro) | (refine guardP_splitTD ?_ ?_ <;> intro) | (refine guardP_splitFD ?_ ?_ <;> intro) | (refine condL_splitD ?_ ?_ <;> intro) | (refine guardL_splitT ?_ ?_ <;> intro) | (refine guardL_splitF ?_ ?_ <;> intro) | (refine guardP_splitT ?_ ?_ <;> intro) | (refine guardP_splitF ?_ ?_ <;> intro) | (refine condL_split ?_ ?_ <;> intro) | (refine ret_tmp ?_) | (refine acx_go rfl (fun _ _ _ h => h) ?_) | (refine acx_dreg mixed (fun _ _ _ _ e h => ⟨e.trans h.1, h.2⟩) _ (SubH.refl _) ?_) | (refine And.intro (SubH.new (by assumption)) ?_) | (refine allNew_intro fun zr zh => ?_; have zg := zh; (try simp only [AH.set_none] at zg)) | (exact SubH.refl _) | (refine SubH.of_set ?_ ?_) | assumption | (refine PureF.use (hd) ?_) | (refine PureF.use (absurd41 (rowAt p.1 ((p.1.length : Int) - 1)) hlen) ?_) | (with_reducible refine And.intro ?_ ?_)))
      · have e2 : absurdF (rowAt p.1 ((p.1.length : Int) - 1)) = false := by simpa using (by assumption : (!absurdF (rowAt p.1 ((p.1.length : Int) - 1))) = true)
        rw [if_pos e2]
      · have e2 : absurdF (rowAt p.1 ((p.1.length : Int) - 1)) = true := by simpa using (by assumption : (!absurdF (rowAt p.1 ((p.1.length : Int) - 1))) = false)
        rw [if_neg (by simp [e2])]
  · (repeat' (first | (simp only [↓s_reg, ↓s_seq, ↓s_cond, ↓s_condT, ↓s_ret, ↓s_nil, ↓s_consN, ↓s_thenN, ↓s_thenR, ↓s_kret, ↓s_putS, ↓s_dOkS, ↓s_ev_t, ↓s_ev_c, ↓s_ev_f, ↓s_upd, ↓s_move, ↓s_assign, ↓s_bin, ↓s_extract, ↓s_callV, ↓s_callL, ↓s_bin_neq, vcExtract, List.map_cons, List.map_nil, List.getD_cons_zero, List.getD_cons_succ, List.getD_nil, ite_true, ite_false, Nat.reduceEqDiff, Nat.reduceLT, true_and, Nat.succ_ne_self, decide_false, Bool.not_false, reduceCtorEq, undefV, eq_self, List.getElem?_cons_zero, List.getElem?_cons_succ, undef, en_22, *]) | (refine guardL_splitTD ?_ ?_ <;> intro) | (refine guardL_splitFD ?_ ?_ <;> intro) | (refine guardP_splitTD ?_ ?_ <;> intro) | (refine guardP_splitFD ?_ ?_ <;> intro) | (refine condL_splitD ?_ ?_ <;> intro) | (refine guardL_splitT ?_ ?_ <;> intro) | (refine guardL_splitF ?_ ?_ <;> intro) | (refine guardP_splitT ?_ ?_ <;> intro) | (refine guardP_splitF ?_ ?_ <;> intro) | (refine condL_split ?_ ?_ <;> intro) | (refine ret_tmp ?_) | (refine acx_go rfl (fun _ _ _ h => h) ?_) | (refine acx_dreg mixed (fun _ _ _ _ e h => ⟨e.trans h.1, h.2⟩) _ (SubH.refl _) ?_) | (refine And.intro (SubH.new (by assumption)) ?_) | (refine allNew_intro fun zr zh => ?_; have zg := zh; (try simp only [AH.set_none] at zg)) | (exact SubH.refl _) | (refine SubH.of_set ?_ ?_) | assumption | (refine PureF.use (hd) ?_) | (with_reducible refine And.intro ?_ ?_)))
def holdsF (rows : List Row) (x : List Int) : Bool × Int :=
  if rightF rows = 0 then (if (x.length : Int) = unkF rows then (if x.any (fun n => decide (n < 0) || decide (1000000 < n)) then (false, 4) else (!(rows.any (over x)), 0)) else (false, 5)) else (false, rightF rows)
theorem holds24 (rows : List Row) (x : List Int) (h1 : (rows.length : Int) ≤ 9223372036854775806) (h2 : (x.length : Int) ≤ 9223372036854775806) : PureF Try.prog 24 [rowsV rows, intsV x] (.tuple [boolV (holdsF rows x).1, iV (holdsF rows x).2]) := by
  refine PureF.forget fun H => ?_
  refine vcalls_intro fd24 (by simp) ?_
  unfold c24 holdsF
  by_cases hr : rightF rows = 0
  · by_cases hx : (x.length : Int) = unkF rows
    · have hle : ∀ r ∈ rows, r.c.length ≤ x.length := fun r h => by have := len_unkN h; have := unkN_eq rows; omega
      (repeat' (first | (refine contains16 (p := fun n => decide (n < 0) || decide (1000000 < n)) h2 (fun x _ => FnAt.lit en_48 (holds48 x)) ?_) | (simp only [↓s_skip, ↓s_reg, ↓s_seq, ↓s_cond, ↓s_condF, ↓s_ret, ↓s_nil, ↓s_consN, ↓s_thenN, ↓s_thenR, ↓s_kret, ↓s_putS, ↓s_dOkS, ↓s_ev_t, ↓s_ev_c, ↓s_ev_f, ↓s_upd, ↓s_move, ↓s_assign, ↓s_bin, ↓s_callB, ↓s_callV, ↓s_callL, ↓s_len, ↓s_bin_neq, intV, boolV, List.map_cons, List.map_nil, List.getD_cons_zero, List.getD_cons_succ, List.getD_nil, ite_true, ite_false, Nat.reduceEqDiff, Nat.reduceLT, ne_eq, not_false_eq_true, true_and, Bool.false_eq_true, Nat.succ_ne_self, decide_true, Bool.not_true, reduceCtorEq, undefV, eq_self, n_lenS, undef, elT_37, en_36, en_37, en_16, en_49, *]) | (refine guardL_splitTD ?_ ?_ <;> intro) | (refine guardL_splitFD ?_ ?_ <;> intro) | (refine guardP_splitTD ?_ ?_ <;> intro) | (refine guardP_splitFD ?_ ?_ <;> intro) | (refine condL_splitD ?_ ?_ <;> intro) | (refine guardL_splitT ?_ ?_ <;> intro) | (refine guardL_splitF ?_ ?_ <;> intro) | (refine guardP_splitT ?_ ?_ <;> intro) | (refine guardP_splitF ?_ ?_ <;> intro) | (refine condL_split ?_ ?_ <;> intro) | (refine ret_tmp ?_) | (refine acx_go rfl (fun _ _ _ h => h) ?_) | (refine acx_dreg mixed (fun _ _ _ _ e h => ⟨e.trans h.1, h.2⟩) _ (SubH.refl _) ?_) | (refine And.intro (SubH.new (by assumption)) ?_) | (refine allNew_intro fun zr zh => ?_; have zg := zh; (try simp only [AH.set_none] at zg)) | (exact SubH.refl _) | (refine SubH.of_set ?_ ?_) | assumption | (refine PureF.use (right36 _ h1) ?_) | (refine PureF.use (unknowns37 _ h1) ?_) | (refine PureF.use (fulfilled49 rows x hle h1 h2) ?_) | (with_reducible refine And.intro ?_ ?_)))
      all_goals exact retPost_ret rfl (by simp only [resV, resAll, resOne, s_upd, Nat.reduceEqDiff, if_true, if_false, Option.bind_some, Option.map_some, tupV] <;> rfl) ⟨rfl, SubH.refl _⟩
    · (repeat' (first | (simp only [↓s_skip, ↓s_reg, ↓s_seq, ↓s_cond, ↓s_condT, ↓s_condF, ↓s_ret, ↓s_nil, ↓s_consN, ↓s_thenN, ↓s_thenR, ↓s_kret, ↓s_putS, ↓s_dOkS, ↓s_ev_t, ↓s_ev_c, ↓s_ev_f, ↓s_upd, ↓s_move, ↓s_assign, ↓s_bin, ↓s_callB, ↓s_callV, ↓s_callL, ↓s_len, ↓s_bin_neq, intV, boolV, List.map_cons, List.map_nil, List.getD_cons_zero, List.getD_cons_succ, List.getD_nil, ite_true, ite_false, Nat.reduceEqDiff, Nat.reduceLT, ne_eq, not_false_eq_true, true_and, Nat.succ_ne_self, decide_true, decide_false, Bool.not_true, Bool.not_false, reduceCtorEq, undefV, eq_self, n_lenS, undef, elT_37, en_36, en_37, *]) | (refine guardL_splitTD ?_ ?_ <;> intro) | (refine guardL_splitFD ?_ ?_ <;> intro) | (refine guardP_splitTD ?_ ?_ <;> intro) | (refine guardP_splitFD ?_ ?_ <;> intro) | (refine condL_splitD ?_ ?_ <;> intro) | (refine guardL_splitT ?_ ?_ <;> intro) | (refine guardL_splitF ?_ ?_ <;> intro) | (refine guardP_splitT ?_ ?_ <;> intro) | (refine guardP_splitF ?_ ?_ <;> intro) | (refine condL_split ?_ ?_ <;> intro) | (refine ret_tmp ?_) | (refine acx_go rfl (fun _ _ _ h => h) ?_) | (refine acx_dreg mixed (fun _ _ _ _ e h => ⟨e.trans h.1, h.2⟩) _ (SubH.refl _) ?_) | (refine And.intro (SubH.new (by assumption)) ?_) | (refine allNew_intro fun zr zh => ?_; have zg := zh; (try simp only [AH.set_none] at zg)) | (exact SubH.refl _) | (refine SubH.of_set ?_ ?_) | assumption | (refine PureF.use (right36 _ h1) ?_) | (refine PureF.use (unknowns37 _ h1) ?_) | (with_reducible refine And.intro ?_ ?_)))
      all_goals exact retPost_ret rfl (by simp only [resV, resAll, resOne, s_upd, Nat.reduceEqDiff, if_true, if_false, Option.bind_some, Option.map_some, tupV] <;> rfl) ⟨rfl, SubH.refl _⟩
  · (repeat' (first | (simp only [↓s_reg, ↓s_seq, ↓s_cond, ↓s_condT, ↓s_ret, ↓s_nil, ↓s_consN, ↓s_thenN, ↓s_thenR, ↓s_kret, ↓s_putS, ↓s_dOkS, ↓s_ev_t, ↓s_ev_c, ↓s_ev_f, ↓s_upd, ↓s_move, ↓s_assign, ↓s_bin, ↓s_callV, ↓s_callL, ↓s_bin_neq, boolV, List.map_cons, List.map_nil, List.getD_cons_zero, List.getD_cons_succ, List.getD_nil, ite_true, ite_false, Nat.reduceEqDiff, Nat.reduceLT, true_and, Nat.succ_ne_self, decide_false, Bool.not_false, reduceCtorEq, undefV, eq_self, undef, en_36, *]) | (refine guardL_splitTD ?_ ?_ <;> intro) | (refine guardL_splitFD ?_ ?_ <;> intro) | (refine guardP_splitTD ?_ ?_ <;> intro) | (refine guardP_splitFD ?_ ?_ <;> intro) | (refine condL_splitD ?_ ?_ <;> intro) | (refine guardL_splitT ?_ ?_ <;> intro) | (refine guardL_splitF ?_ ?_ <;> intro) | (refine guardP_splitT ?_ ?_ <;> intro) | (refine guardP_splitF ?_ ?_ <;> intro) | (refine condL_split ?_ ?_ <;> intro) | (refine ret_tmp ?_) | (refine acx_go rfl (fun _ _ _ h => h) ?_) | (refine acx_dreg mixed (fun _ _ _ _ e h => ⟨e.trans h.1, h.2⟩) _ (SubH.refl _) ?_) | (refine And.intro (SubH.new (by assumption)) ?_) | (refine allNew_intro fun zr zh => ?_; have zg := zh; (try simp only [AH.set_none] at zg)) | (exact SubH.refl _) | (refine SubH.of_set ?_ ?_) | assumption | (refine PureF.use (right36 _ h1) ?_) | (refine PureF.use (unknowns37 _ h1) ?_) | (with_reducible refine And.intro ?_ ?_)))
    all_goals exact retPost_ret rfl (by simp only [resV, resAll, resOne, s_upd, Nat.reduceEqDiff, if_true, if_false, Option.bind_some, Option.map_some, tupV] <;> rfl) ⟨rfl, SubH.refl _⟩
def fewF (rows : List Row) (ls : List Line) (m : Int) : Bool := decide ((rows.length : Int) ≤ 110) && decide ((ls.length : Int) ≤ m) && !(rows.any fun r => decide (20 < (r.c.length : Int)))
theorem few7 (rows : List Row) (ls : List Line) (m : Int) (h1 : (rows.length : Int) ≤ 9223372036854775806) : PureF Try.prog 7 [rowsV rows, linesV ls, iV m] (boolV (fewF rows ls m)) := by
  refine PureF.forget fun H => ?_
  refine vcalls_intro fd7 (by simp) ?_
  unfold c7 fewF
  by_cases h2 : (rows.length : Int) ≤ 110
  · by_cases h3 : (ls.length : Int) ≤ m
    · (repeat' (first | (refine contains33 (p := fun r => decide (20 < (r.c.length : Int))) h1 (fun x _ => FnAt.lit en_34 (few34 x)) ?_) | (simp only [↓s_reg, ↓s_seq, ↓s_ret, ↓s_nil, ↓s_consN, ↓s_consG, ↓s_guardTT, ↓s_thenN, ↓s_kret, ↓s_putS, ↓s_dOkS, ↓s_ev_t, ↓s_ev_c, ↓s_ev_f, ↓s_upd, ↓s_move, ↓s_assign, ↓s_isBool, ↓s_pickA, ↓s_pick, ↓s_bin, ↓s_un, ↓s_callB, ↓s_callV, ↓s_callL, ↓s_len, ↓s_un_not, ↓s_bin_leq, intV, boolV, List.map_cons, List.map_nil, List.getD_cons_zero, List.getD_cons_succ, List.getD_nil, ite_true, ite_false, Nat.reduceEqDiff, Nat.reduceLT, ne_eq, not_false_eq_true, true_and, Nat.succ_ne_self, decide_true, Bool.true_and, reduceCtorEq, undefV, Bool.and_self, eq_self, n_lenS, undef, elT_22, elT_35, en_33, *]) | (refine guardL_splitTD ?_ ?_ <;> intro) | (refine guardL_splitFD ?_ ?_ <;> intro) | (refine guardP_splitTD ?_ ?_ <;> intro) | (refine guardP_splitFD ?_ ?_ <;> intro) | (refine condL_splitD ?_ ?_ <;> intro) | (refine guardL_splitT ?_ ?_ <;> intro) | (refine guardL_splitF ?_ ?_ <;> intro) | (refine guardP_splitT ?_ ?_ <;> intro) | (refine guardP_splitF ?_ ?_ <;> intro) | (refine condL_split ?_ ?_ <;> intro) | (refine ret_tmp ?_) | (refine acx_go rfl (fun _ _ _ h => h) ?_) | (refine acx_dreg mixed (fun _ _ _ _ e h => ⟨e.trans h.1, h.2⟩) _ (SubH.refl _) ?_) | (refine And.intro (SubH.new (by assumption)) ?_) | (refine allNew_intro fun zr zh => ?_; have zg := zh; (try simp only [AH.set_none] at zg)) | (exact SubH.refl _) | (refine SubH.of_set ?_ ?_) | assumption | (with_reducible refine And.intro ?_ ?_)))
    · (repeat' (first | (simp only [↓s_reg, ↓s_seq, ↓s_ret, ↓s_nil, ↓s_consN, ↓s_consG, ↓s_guardTT, ↓s_guardFT, ↓s_thenN, ↓s_kret, ↓s_putS, ↓s_dOkS, ↓s_ev_t, ↓s_ev_c, ↓s_ev_f, ↓s_upd, ↓s_move, ↓s_assign, ↓s_isBool, ↓s_pickA, ↓s_pick, ↓s_bin, ↓s_callB, ↓s_len, ↓s_bin_leq, intV, boolV, List.map_cons, List.map_nil, List.getD_cons_zero, List.getD_cons_succ, List.getD_nil, ite_true, ite_false, Nat.reduceEqDiff, Nat.reduceLT, ne_eq, not_false_eq_true, true_and, Bool.false_eq_true, Nat.succ_ne_self, decide_true, decide_false, Bool.and_false, Bool.false_and, reduceCtorEq, callOk, undefV, eq_self, n_lenS, undef, elT_22, elT_35, en_33, *]) | (refine guardL_splitTD ?_ ?_ <;> intro) | (refine guardL_splitFD ?_ ?_ <;> intro) | (refine guardP_splitTD ?_ ?_ <;> intro) | (refine guardP_splitFD ?_ ?_ <;> intro) | (refine condL_splitD ?_ ?_ <;> intro) | (refine guardL_splitT ?_ ?_ <;> intro) | (refine guardL_splitF ?_ ?_ <;> intro) | (refine guardP_splitT ?_ ?_ <;> intro) | (refine guardP_splitF ?_ ?_ <;> intro) | (refine condL_split ?_ ?_ <;> intro) | (refine ret_tmp ?_) | (refine acx_go rfl (fun _ _ _ h => h) ?_) | (refine acx_dreg mixed (fun _ _ _ _ e h => ⟨e.trans h.1, h.2⟩) _ (SubH.refl _) ?_) | (refine And.intro (SubH.new (by assumption)) ?_) | (refine allNew_intro fun zr zh => ?_; have zg := zh; (try simp only [AH.set_none] at zg)) | (exact SubH.refl _) | (refine SubH.of_set ?_ ?_) | assumption | (with_reducible refine And.intro ?_ ?_)))
  · (repeat' (first | (simp only [↓s_reg, ↓s_seq, ↓s_ret, ↓s_nil, ↓s_consN, ↓s_consG, ↓s_guardFT, ↓s_thenN, ↓s_kret, ↓s_putS, ↓s_dOkS, ↓s_ev_t, ↓s_ev_c, ↓s_ev_f, ↓s_upd, ↓s_move, ↓s_assign, ↓s_isBool, ↓s_pickA, ↓s_pick, ↓s_bin, ↓s_callB, ↓s_len, ↓s_bin_leq, intV, boolV, List.map_cons, List.map_nil, List.getD_cons_zero, List.getD_cons_succ, List.getD_nil, ite_true, ite_false, Nat.reduceEqDiff, Nat.reduceLT, ne_eq, not_false_eq_true, true_and, Bool.false_eq_true, Nat.succ_ne_self, decide_false, Bool.false_and, reduceCtorEq, callOk, undefV, eq_self, n_lenS, undef, elT_22, en_33, *]) | (refine guardL_splitTD ?_ ?_ <;> intro) | (refine guardL_splitFD ?_ ?_ <;> intro) | (refine guardP_splitTD ?_ ?_ <;> intro) | (refine guardP_splitFD ?_ ?_ <;> intro) | (refine condL_splitD ?_ ?_ <;> intro) | (refine guardL_splitT ?_ ?_ <;> intro) | (refine guardL_splitF ?_ ?_ <;> intro) | (refine guardP_splitT ?_ ?_ <;> intro) | (refine guardP_splitF ?_ ?_ <;> intro) | (refine condL_split ?_ ?_ <;> intro) | (refine ret_tmp ?_) | (refine acx_go rfl (fun _ _ _ h => h) ?_) | (refine acx_dreg mixed (fun _ _ _ _ e h => ⟨e.trans h.1, h.2⟩) _ (SubH.refl _) ?_) | (refine And.intro (SubH.new (by assumption)) ?_) | (refine allNew_intro fun zr zh => ?_; have zg := zh; (try simp only [AH.set_none] at zg)) | (exact SubH.refl _) | (refine SubH.of_set ?_ ?_) | assumption | (with_reducible refine And.intro ?_ ?_)))
instance : DecidableEq Row := fun a b => if h : a.c = b.c ∧ a.b = b.b then .isTrue (by cases a; cases b; simp_all) else .isFalse fun e => h (by rw [e]; exact ⟨rfl, rfl⟩)
theorem ne_of_getElem {α : Type} {a b : List α} {i : Nat} (ha : i < a.length) (hb : i < b.length) (h : a[i] ≠ b[i]) : a ≠ b := fun e => by subst e; exact h rfl
theorem take_ext {α : Type} {a b : List α} {i : Nat} (h : a.take i = b.take i) (ha : i < a.length) (hb : i < b.length) (he : a[i] = b[i]) : a.take (i + 1) = b.take (i + 1) := by
  rw [List.take_succ_eq_append_getElem ha, List.take_succ_eq_append_getElem hb, h, he]
theorem equal32 (a b : List Int) (hn : (a.length : Int) ≤ 9223372036854775806) : PureF Try.prog 32 [intsV a, intsV b] (boolV (decide (a = b))) := by
  refine PureF.forget fun H => ?_
  refine vcalls_intro fd32 (by simp) ?_
  unfold c32
  by_cases hl : (a.length : Int) = b.length
  · (repeat' (first | (simp only [↓s_skip, ↓s_reg, ↓s_seq, ↓s_seqL, ↓s_cond, ↓s_condF, ↓s_block, ↓s_loop, ↓s_nil, ↓s_consN, ↓s_thenN, ↓s_kret, ↓s_putS, ↓s_dOkS, ↓s_ev_t, ↓s_ev_c, ↓s_upd, ↓s_move, ↓s_assign, ↓s_bin, ↓s_callB, ↓s_len, ↓s_bin_neq, intV, boolV, List.map_cons, List.map_nil, List.getD_cons_zero, List.getD_cons_succ, List.getD_nil, ite_true, ite_false, Nat.reduceEqDiff, Nat.reduceLT, ne_eq, not_false_eq_true, true_and, Nat.succ_ne_self, decide_true, Bool.not_true, reduceCtorEq, undefV, eq_self, n_lenS, undef, elT_37, *]) | (refine guardL_splitTD ?_ ?_ <;> intro) | (refine guardL_splitFD ?_ ?_ <;> intro) | (refine guardP_splitTD ?_ ?_ <;> intro) | (refine guardP_splitFD ?_ ?_ <;> intro) | (refine condL_splitD ?_ ?_ <;> intro) | (refine guardL_splitT ?_ ?_ <;> intro) | (refine guardL_splitF ?_ ?_ <;> intro) | (refine guardP_splitT ?_ ?_ <;> intro) | (refine guardP_splitF ?_ ?_ <;> intro) | (refine condL_split ?_ ?_ <;> intro) | (refine ret_tmp ?_) | (refine acx_go rfl (fun _ _ _ h => h) ?_) | (refine acx_dreg mixed (fun _ _ _ _ e h => ⟨e.trans h.1, h.2⟩) _ (SubH.refl _) ?_) | (refine And.intro (SubH.new (by assumption)) ?_) | (refine allNew_intro fun zr zh => ?_; have zg := zh; (try simp only [AH.set_none] at zg)) | (exact SubH.refl _) | (refine SubH.of_set ?_ ?_) | assumption))
    refine acx_loop (fun _ _ _ h => h) (fun A H' => SubH H H' ∧ A.d = [] ∧ A.t 0 = intsV a ∧ A.t 1 = intsV b ∧ A.t 11 = intsV a ∧ A.t 12 = iV b.length ∧ ∃ i : Nat, i ≤ b.length ∧ A.t 13 = iV i ∧ a.take i = b.take i)
      (fun A _ => match A.t 13 with | .lit (.int _ i) => ((b.length : Int) - i).toNat | _ => 0) ?_ ?_
    · exact ⟨SubH.refl _, rfl, rfl, rfl, rfl, rfl, 0, by simp, rfl, rfl⟩
    · rintro ⟨t, d⟩ H' ⟨hs, rfl, h0, h1, h11, h12, i, hi, h13, hgo⟩
      dsimp only at h0 h1 h11 h12 h13
      have hal : i < b.length → i < a.length := fun h => by omega
      (repeat' (first | (simp only [↓s_skip, ↓s_reg, ↓s_seq, ↓s_cond, ↓s_block, ↓s_exit, ↓s_ret, ↓s_dreg, ↓s_nil, ↓s_consN, ↓s_thenN, ↓s_thenE, ↓s_thenR, ↓s_inN, ↓s_inE, ↓s_inR, ↓s_kret, ↓s_putS, ↓s_dOkS, ↓s_ev_t, ↓s_ev_c, ↓s_upd, ↓s_move, ↓s_assign, ↓s_load, ↓s_bin, ↓s_indexAddr, ↓s_bin_lss, ↓s_bin_neq, ↓s_bin_add, ite_true, ite_false, Nat.reduceEqDiff, Nat.reduceLT, true_and, and_true, Nat.succ_ne_self, decide_true, decide_false, reduceCtorEq, Int.natCast_nonneg, Int.toNat_natCast, Nat.mul_one, ↓s_plFin, ↓s_plTkN, eq_self, and_self, ldV_f, Int.ofNat_lt, n_ldI, n_ixS, n_ixA1, n_ldC, n_ldB, ↓s_plK, ints_drop, ldT_3, elT_37, *]) | (refine guardL_splitTD ?_ ?_ <;> intro) | (refine guardL_splitFD ?_ ?_ <;> intro) | (refine guardP_splitTD ?_ ?_ <;> intro) | (refine guardP_splitFD ?_ ?_ <;> intro) | (refine condL_splitD ?_ ?_ <;> intro) | (refine guardL_splitT ?_ ?_ <;> intro) | (refine guardL_splitF ?_ ?_ <;> intro) | (refine guardP_splitT ?_ ?_ <;> intro) | (refine guardP_splitF ?_ ?_ <;> intro) | (refine condL_split ?_ ?_ <;> intro) | (refine ret_tmp ?_) | (refine acx_go rfl (fun _ _ _ h => h) ?_) | (refine acx_dreg mixed (fun _ _ _ _ e h => ⟨e.trans h.1, h.2⟩) _ (SubH.refl _) ?_) | (refine And.intro (SubH.new (by assumption)) ?_) | (refine allNew_intro fun zr zh => ?_; have zg := zh; (try simp only [AH.set_none] at zg)) | (exact SubH.refl _) | (refine SubH.of_set ?_ ?_) | assumption | (with_reducible refine And.intro ?_ ?_)))
      · have hb : i < b.length := by assumption
        have he : ¬ a[i]'(hal hb) = b[i] := by simpa using (by assumption : (!decide (a[i]'(hal hb) = b[i])) = true)
        rw [decide_eq_false (ne_of_getElem (hal hb) hb he)]
      · have hb : i < b.length := by assumption
        have he : a[i]'(hal hb) = b[i] := by simpa using (by assumption : (!decide (a[i]'(hal hb) = b[i])) = false)
        rw [wrap_ok (n := (i : Int) + 1) (by omega) (by omega)]
        exact ⟨i + 1, by omega, rfl, take_ext hgo (hal hb) hb he⟩
      · rw [wrap_ok (n := (i : Int) + 1) (by omega) (by omega)]
        omega
      · rw [List.take_of_length_le (by omega), List.take_of_length_le (by omega)] at hgo
        rw [decide_eq_true hgo]
  · have hne : ¬ a = b := fun e => hl (by rw [e])
    (repeat' (first | (simp only [↓s_reg, ↓s_seq, ↓s_cond, ↓s_condT, ↓s_ret, ↓s_nil, ↓s_consN, ↓s_thenN, ↓s_thenR, ↓s_kret, ↓s_putS, ↓s_dOkS, ↓s_ev_t, ↓s_ev_c, ↓s_upd, ↓s_move, ↓s_assign, ↓s_bin, ↓s_callB, ↓s_len, ↓s_bin_neq, intV, boolV, List.map_cons, List.map_nil, List.getD_cons_zero, List.getD_cons_succ, List.getD_nil, ite_true, ite_false, Nat.reduceEqDiff, Nat.reduceLT, ne_eq, not_false_eq_true, true_and, Nat.succ_ne_self, decide_false, Bool.not_false, reduceCtorEq, undefV, eq_self, n_lenS, undef, elT_37, *]) | (refine guardL_splitTD ?_ ?_ <;> intro) | (refine guardL_splitFD ?_ ?_ <;> intro) | (refine guardP_splitTD ?_ ?_ <;> intro) | (refine guardP_splitFD ?_ ?_ <;> intro) | (refine condL_splitD ?_ ?_ <;> intro) | (refine guardL_splitT ?_ ?_ <;> intro) | (refine guardL_splitF ?_ ?_ <;> intro) | (refine guardP_splitT ?_ ?_ <;> intro) | (refine guardP_splitF ?_ ?_ <;> intro) | (refine condL_split ?_ ?_ <;> intro) | (refine ret_tmp ?_) | (refine acx_go rfl (fun _ _ _ h => h) ?_) | (refine acx_dreg mixed (fun _ _ _ _ e h => ⟨e.trans h.1, h.2⟩) _ (SubH.refl _) ?_) | (refine And.intro (SubH.new (by assumption)) ?_) | (refine allNew_intro fun zr zh => ?_; have zg := zh; (try simp only [AH.set_none] at zg)) | (exact SubH.refl _) | (refine SubH.of_set ?_ ?_) | assumption | (with_reducible refine And.intro ?_ ?_)))
theorem eq52 (a b : Row) (hn : (a.c.length : Int) ≤ 9223372036854775806) : PureF Try.prog 52 [rowV a, rowV b] (boolV (decide (a = b))) := by
  refine PureF.forget fun H => ?_
  refine vcalls_intro fd52 (by simp) ?_
  unfold c52
  (repeat' (first | (simp only [↓s_reg, ↓s_seq, ↓s_ret, ↓s_nil, ↓s_consN, ↓s_consG, ↓s_guardTT, ↓s_guardFT, ↓s_thenN, ↓s_kret, ↓s_putS, ↓s_dOkS, ↓s_ev_t, ↓s_ev_c, ↓s_ev_f, ↓s_upd, ↓s_move, ↓s_assign, ↓s_isBool, ↓s_pickA, ↓s_pick, ↓s_load, ↓s_bin, ↓s_box, ↓s_fieldAddr, ↓s_callV, ↓s_callL, ↓s_bin_eql, ptrV, boolV, List.map_cons, List.map_nil, List.getD_cons_zero, List.getD_cons_succ, List.getD_nil, ite_true, ite_false, Nat.reduceEqDiff, Nat.reduceLT, ne_eq, not_false_eq_true, true_and, Bool.false_eq_true, Nat.succ_ne_self, decide_true, decide_false, callOk, undefV, AH.get, eq_self, Nat.zero_add, Nat.add_zero, List.drop, ldV_f, cl_agg, ↓n_box, n_ldP, n_faP, n_ldA, n_ldB, n_faA, undef, flT_39_0, flT_39_1, ldT_37, ldT_3, en_32, *]) | (refine guardL_splitTD ?_ ?_ <;> intro) | (refine guardL_splitFD ?_ ?_ <;> intro) | (refine guardP_splitTD ?_ ?_ <;> intro) | (refine guardP_splitFD ?_ ?_ <;> intro) | (refine condL_splitD ?_ ?_ <;> intro) | (refine guardL_splitT ?_ ?_ <;> intro) | (refine guardL_splitF ?_ ?_ <;> intro) | (refine guardP_splitT ?_ ?_ <;> intro) | (refine guardP_splitF ?_ ?_ <;> intro) | (refine condL_split ?_ ?_ <;> intro) | (refine ret_tmp ?_) | (refine acx_go rfl (fun _ _ _ h => h) ?_) | (refine acx_dreg mixed (fun _ _ _ _ e h => ⟨e.trans h.1, h.2⟩) _ (SubH.refl _) ?_) | (refine And.intro (SubH.new (by assumption)) ?_) | (refine allNew_intro fun zr zh => ?_; have zg := zh; (try simp only [AH.set_none] at zg)) | (exact SubH.refl _) | (refine SubH.of_set ?_ ?_) | assumption | (refine PureF.use (equal32 _ _ hn) ?_) | (with_reducible refine And.intro ?_ ?_)))
  · have h1 : a.c = b.c := by assumption
    have h2 : (a = b) ↔ (a.b = b.b) := ⟨fun e => by rw [e], fun e => by cases a; cases b; simp_all⟩
    simp only [h2]
  · have h1 : ¬ a.c = b.c := by assumption
    rw [decide_eq_false (fun e => h1 (by rw [e]))]
theorem eqf51 (a b : List Row) (hn : (a.length : Int) ≤ 9223372036854775806) (hr : ∀ r ∈ a, (r.c.length : Int) ≤ 9223372036854775806) : PureF Try.prog 51 [rowsV a, rowsV b, .lit (.func (.func 52) #[] #[])] (boolV (decide (a = b))) := by
  refine PureF.forget fun H => ?_
  refine vcalls_intro fd51 (by simp) ?_
  unfold c51
  by_cases hl : (a.length : Int) = b.length
  · (repeat' (first | (simp only [↓s_skip, ↓s_reg, ↓s_seq, ↓s_seqL, ↓s_cond, ↓s_condF, ↓s_block, ↓s_loop, ↓s_nil, ↓s_consN, ↓s_thenN, ↓s_kret, ↓s_putS, ↓s_dOkS, ↓s_ev_t, ↓s_ev_c, ↓s_upd, ↓s_move, ↓s_assign, ↓s_bin, ↓s_callB, ↓s_len, ↓s_bin_neq, intV, boolV, List.map_cons, List.map_nil, List.getD_cons_zero, List.getD_cons_succ, List.getD_nil, ite_true, ite_false, Nat.reduceEqDiff, Nat.reduceLT, ne_eq, not_false_eq_true, true_and, Nat.succ_ne_self, decide_true, Bool.not_true, reduceCtorEq, undefV, eq_self, n_lenS, undef, elT_22, *]) | (refine guardL_splitTD ?_ ?_ <;> intro) | (refine guardL_splitFD ?_ ?_ <;> intro) | (refine guardP_splitTD ?_ ?_ <;> intro) | (refine guardP_splitFD ?_ ?_ <;> intro) | (refine condL_splitD ?_ ?_ <;> intro) | (refine guardL_splitT ?_ ?_ <;> intro) | (refine guardL_splitF ?_ ?_ <;> intro) | (refine guardP_splitT ?_ ?_ <;> intro) | (refine guardP_splitF ?_ ?_ <;> intro) | (refine condL_split ?_ ?_ <;> intro) | (refine ret_tmp ?_) | (refine acx_go rfl (fun _ _ _ h => h) ?_) | (refine acx_dreg mixed (fun _ _ _ _ e h => ⟨e.trans h.1, h.2⟩) _ (SubH.refl _) ?_) | (refine And.intro (SubH.new (by assumption)) ?_) | (refine allNew_intro fun zr zh => ?_; have zg := zh; (try simp only [AH.set_none] at zg)) | (exact SubH.refl _) | (refine SubH.of_set ?_ ?_) | assumption))
    refine acx_loop (fun _ _ _ h => h) (fun A H' => SubH H H' ∧ A.d = [] ∧ A.t 0 = rowsV a ∧ A.t 1 = rowsV b ∧ A.t 2 = .lit (.func (.func 52) #[] #[]) ∧ A.t 15 = rowsV a ∧ A.t 16 = iV b.length ∧ ∃ i : Nat, i ≤ b.length ∧ A.t 17 = iV i ∧ a.take i = b.take i)
      (fun A _ => match A.t 17 with | .lit (.int _ i) => ((b.length : Int) - i).toNat | _ => 0) ?_ ?_
    · exact ⟨SubH.refl _, rfl, rfl, rfl, rfl, rfl, rfl, 0, by simp, rfl, rfl⟩
    · rintro ⟨t, d⟩ H' ⟨hs, rfl, h0, h1, h2, h15, h16, i, hi, h17, hgo⟩
      dsimp only at h0 h1 h2 h15 h16 h17
      have hal : i < b.length → i < a.length := fun h => by omega
      have hHn : ∀ r, H' r = none → H r = none := fun r h => hs.none h
      (repeat' (first | (simp only [↓s_skip, ↓s_reg, ↓s_seq, ↓s_cond, ↓s_block, ↓s_exit, ↓s_ret, ↓s_nil, ↓s_consN, ↓s_thenN, ↓s_thenE, ↓s_thenR, ↓s_inN, ↓s_inE, ↓s_inR, ↓s_kret, ↓s_putS, ↓s_putN, ↓s_dOkS, ↓s_dOkN, ↓s_ev_t, ↓s_ev_c, ↓s_upd, ↓s_move, ↓s_assign, ↓s_load, ↓s_store, ↓s_bin, ↓s_un, ↓s_alloc, ↓s_indexAddr, ↓s_callV, ↓s_callL, ↓s_un_not, ↓s_bin_lss, ↓s_bin_add, ptrV, boolV, List.map_cons, List.map_nil, List.length_cons, List.length_nil, ite_true, ite_false, Nat.reduceEqDiff, Nat.reduceLT, Nat.reduceAdd, true_and, and_true, Nat.succ_ne_self, decide_true, decide_false, reduceCtorEq, Int.natCast_nonneg, Int.toNat_natCast, AH.get, AH.set_set, setAt, List.all_cons, List.all_nil, Bool.and_self, eq_self, Nat.zero_add, List.drop, and_self, ldV_t2, Int.ofNat_lt, on_int, cl_agg, on_slice, List.set_cons_zero, List.set_cons_succ, ↓n_alloc, n_allocS, Nat.le_refl, n_ldI, n_ldP, n_ixS, n_ixA1, n_ldA, n_ldC, n_ldB, n_stP, n_stA, rows_drop, en_52, ldT_39, szT_39, zeroT_39, elT_22, *]) | (refine guardL_splitTD ?_ ?_ <;> intro) | (refine guardL_splitFD ?_ ?_ <;> intro) | (refine guardP_splitTD ?_ ?_ <;> intro) | (refine guardP_splitFD ?_ ?_ <;> intro) | (refine condL_splitD ?_ ?_ <;> intro) | (refine guardL_splitT ?_ ?_ <;> intro) | (refine guardL_splitF ?_ ?_ <;> intro) | (refine guardP_splitT ?_ ?_ <;> intro) | (refine guardP_splitF ?_ ?_ <;> intro) | (refine condL_split ?_ ?_ <;> intro) | (refine ret_tmp ?_) | (refine acx_go rfl (fun _ _ _ h => h) ?_) | (refine acx_dreg mixed (fun _ _ _ _ e h => ⟨e.trans h.1, h.2⟩) _ (SubH.refl _) ?_) | (refine And.intro (SubH.new (by assumption)) ?_) | (refine allNew_intro fun zr zh => ?_; have zg := zh; (try simp only [AH.set_none] at zg)) | (exact SubH.refl _) | (refine SubH.of_set ?_ ?_) | assumption | (refine PureF.use (eq52 _ _ (hr _ (List.getElem_mem _))) ?_) | (with_reducible refine And.intro ?_ ?_)))
      · have hb : i < b.length := by assumption
        have he : ¬ a[i]'(hal hb) = b[i] := by simpa using (by assumption : (!decide (a[i]'(hal hb) = b[i])) = true)
        rw [decide_eq_false (ne_of_getElem (hal hb) hb he)]
      · have hb : i < b.length := by assumption
        have he : a[i]'(hal hb) = b[i] := by simpa using (by assumption : (!decide (a[i]'(hal hb) = b[i])) = false)
        rw [wrap_ok (n := (i : Int) + 1) (by omega) (by omega)]
        exact ⟨i + 1, by omega, rfl, take_ext hgo (hal hb) hb he⟩
      · rw [wrap_ok (n := (i : Int) + 1) (by omega) (by omega)]
        omega
      · rw [List.take_of_length_le (by omega), List.take_of_length_le (by omega)] at hgo
        rw [decide_eq_true hgo]
  · have hne : ¬ a = b := fun e => hl (by rw [e])
    (repeat' (first | (simp only [↓s_reg, ↓s_seq, ↓s_cond, ↓s_condT, ↓s_ret, ↓s_nil, ↓s_consN, ↓s_thenN, ↓s_thenR, ↓s_kret, ↓s_putS, ↓s_dOkS, ↓s_ev_t, ↓s_ev_c, ↓s_upd, ↓s_move, ↓s_assign, ↓s_bin, ↓s_callB, ↓s_len, ↓s_bin_neq, intV, boolV, List.map_cons, List.map_nil, List.getD_cons_zero, List.getD_cons_succ, List.getD_nil, ite_true, ite_false, Nat.reduceEqDiff, Nat.reduceLT, ne_eq, not_false_eq_true, true_and, Nat.succ_ne_self, decide_false, Bool.not_false, reduceCtorEq, undefV, eq_self, n_lenS, undef, elT_22, *]) | (refine guardL_splitTD ?_ ?_ <;> intro) | (refine guardL_splitFD ?_ ?_ <;> intro) | (refine guardP_splitTD ?_ ?_ <;> intro) | (refine guardP_splitFD ?_ ?_ <;> intro) | (refine condL_splitD ?_ ?_ <;> intro) | (refine guardL_splitT ?_ ?_ <;> intro) | (refine guardL_splitF ?_ ?_ <;> intro) | (refine guardP_splitT ?_ ?_ <;> intro) | (refine guardP_splitF ?_ ?_ <;> intro) | (refine condL_split ?_ ?_ <;> intro) | (refine ret_tmp ?_) | (refine acx_go rfl (fun _ _ _ h => h) ?_) | (refine acx_dreg mixed (fun _ _ _ _ e h => ⟨e.trans h.1, h.2⟩) _ (SubH.refl _) ?_) | (refine And.intro (SubH.new (by assumption)) ?_) | (refine allNew_intro fun zr zh => ?_; have zg := zh; (try simp only [AH.set_none] at zg)) | (exact SubH.refl _) | (refine SubH.of_set ?_ ?_) | assumption | (with_reducible refine And.intro ?_ ?_)))
theorem same28 (a b : List Row) (hn : (a.length : Int) ≤ 9223372036854775806) (hr : ∀ r ∈ a, (r.c.length : Int) ≤ 9223372036854775806) : PureF Try.prog 28 [rowsV a, rowsV b] (boolV (decide (a = b))) := by
  intro H
  refine vcalls_intro fd28 (by simp) ?_
  unfold c28
  (repeat' (first | (simp only [↓s_reg, ↓s_seq, ↓s_ret, ↓s_nil, ↓s_consN, ↓s_thenN, ↓s_kret, ↓s_putS, ↓s_dOkS, ↓s_ev_t, ↓s_ev_c, ↓s_ev_f, ↓s_upd, ↓s_move, ↓s_assign, ↓s_callV, ↓s_callL, boolV, List.map_cons, List.map_nil, List.getD_cons_zero, List.getD_cons_succ, List.getD_nil, ite_true, ite_false, Nat.reduceEqDiff, Nat.reduceLT, true_and, Nat.succ_ne_self, reduceCtorEq, undefV, eq_self, and_self, undef, en_51, *]) | (refine guardL_splitTD ?_ ?_ <;> intro) | (refine guardL_splitFD ?_ ?_ <;> intro) | (refine guardP_splitTD ?_ ?_ <;> intro) | (refine guardP_splitFD ?_ ?_ <;> intro) | (refine condL_splitD ?_ ?_ <;> intro) | (refine guardL_splitT ?_ ?_ <;> intro) | (refine guardL_splitF ?_ ?_ <;> intro) | (refine guardP_splitT ?_ ?_ <;> intro) | (refine guardP_splitF ?_ ?_ <;> intro) | (refine condL_split ?_ ?_ <;> intro) | (refine ret_tmp ?_) | (refine acx_go rfl (fun _ _ _ h => h) ?_) | (refine acx_dreg mixed (fun _ _ _ _ e h => ⟨e.trans h.1, h.2⟩) _ (SubH.refl _) ?_) | (refine And.intro (SubH.new (by assumption)) ?_) | (refine allNew_intro fun zr zh => ?_; have zg := zh; (try simp only [AH.set_none] at zg)) | (exact SubH.refl _) | (refine SubH.of_set ?_ ?_) | assumption | (refine PureF.use (eqf51 _ _ hn hr) ?_) | (with_reducible refine And.intro ?_ ?_)))
end Go.PV.Ytefpjfpelicedaa
end
section
/- Numbers that fulfil a row, asg the reference has it. -/
set_option linter.unusedVariables false
set_option linter.unusedSimpArgs false
set_option maxRecDepth 20000
set_option maxHeartbeats 4000000
namespace Go.PV.Ytefpjfpelicedaa
open Go Go.Proofs
def fulGo (r : Row) : List Int → Nat → Int → Int
  | [], _, s => s
  | y :: ys, k, s => fulGo r ys (k + 1) (W (s + W (coeffF r k * y)))
def fulF (r : Row) (x : List Int) : Bool := decide (fulGo r x 0 0 ≤ r.b)
theorem fulfils26 (r : Row) (x : List Int) (hn : (x.length : Int) ≤ 9223372036854775806) : PureF Try.prog 26 [rowV r, intsV x] (boolV (fulF r x)) := by
  refine PureF.forget fun H => ?_
  refine vcalls_intro fd26 (by simp) ?_
  unfold c26
  (repeat' (first | (simp only [↓s_reg, ↓s_seq, ↓s_seqL, ↓s_block, ↓s_loop, ↓s_nil, ↓s_consN, ↓s_thenN, ↓s_kret, ↓s_putS, ↓s_dOkS, ↓s_ev_t, ↓s_ev_c, ↓s_assign, ↓s_box, ptrV, boolV, List.getD_cons_zero, Nat.reduceLT, true_and, undefV, cl_agg, ↓n_box, undef, *]) | (refine guardL_splitTD ?_ ?_ <;> intro) | (refine guardL_splitFD ?_ ?_ <;> intro) | (refine guardP_splitTD ?_ ?_ <;> intro) | (refine guardP_splitFD ?_ ?_ <;> intro) | (refine condL_splitD ?_ ?_ <;> intro) | (refine guardL_splitT ?_ ?_ <;> intro) | (refine guardL_splitF ?_ ?_ <;> intro) | (refine guardP_splitT ?_ ?_ <;> intro) | (refine guardP_splitF ?_ ?_ <;> intro) | (refine condL_split ?_ ?_ <;> intro) | (refine ret_tmp ?_) | (refine acx_go rfl (fun _ _ _ h => h) ?_) | (refine acx_dreg mixed (fun _ _ _ _ e h => ⟨e.trans h.1, h.2⟩) _ (SubH.refl _) ?_) | (refine And.intro (SubH.new (by assumption)) ?_) | (refine allNew_intro fun zr zh => ?_; have zg := zh; (try simp only [AH.set_none] at zg)) | (exact SubH.refl _) | (refine SubH.of_set ?_ ?_) | assumption))
  refine acx_loop (fun _ _ _ h => h) (fun A H' => SubH H H' ∧ A.d = [] ∧ A.t 1 = intsV x ∧ A.t 2 = ptrV zr 0 ∧ H' zr = some (.cells 39 (rowE r) 0) ∧ ∃ (i : Nat) (s : Int), i ≤ x.length ∧ A.t 6 = iV i ∧ A.t 5 = iV s ∧ fulGo r x 0 0 = fulGo r (x.drop i) i s)
    (fun A _ => match A.t 6 with | .lit (.int _ i) => ((x.length : Int) - i).toNat | _ => 0) ?_ ?_
  · exact ⟨SubH.new (by assumption), rfl, rfl, rfl, AH.set_same _ _ _, 0, 0, by simp, rfl, rfl, rfl⟩
  · rintro ⟨t, d⟩ H' ⟨hs, rfl, h1, h2, k2, i, s, hi, h6, h5, hgo⟩
    dsimp only at h1 h2 h5 h6
    (repeat' (first | (simp only [↓s_skip, ↓s_reg, ↓s_seq, ↓s_cond, ↓s_block, ↓s_exit, ↓s_ret, ↓s_dreg, ↓s_nil, ↓s_consN, ↓s_thenN, ↓s_thenE, ↓s_inN, ↓s_inE, ↓s_kret, ↓s_putS, ↓s_dOkS, ↓s_ev_t, ↓s_ev_c, ↓s_ev_f, ↓s_upd, ↓s_move, ↓s_assign, ↓s_load, ↓s_bin, ↓s_fieldAddr, ↓s_indexAddr, ↓s_callB, ↓s_callV, ↓s_callL, ↓s_len, ↓s_bin_lss, ↓s_bin_leq, ↓s_bin_add, ↓s_bin_mul, ptrV, intV, List.map_cons, List.map_nil, ite_true, ite_false, Nat.reduceEqDiff, Nat.reduceLT, ne_eq, not_false_eq_true, true_and, and_true, Nat.succ_ne_self, decide_true, decide_false, reduceCtorEq, Int.natCast_nonneg, Int.toNat_natCast, Nat.mul_one, ↓s_plFin, ↓s_plTkN, ↓s_plOneN, eq_self, Nat.zero_add, List.drop, and_self, ldV_f, ldV_t2, Int.ofNat_lt, n_ldI, n_ldP, n_faP, n_ixS, n_ixA1, n_lenS, n_ldA, n_ldC, n_ldB, n_faA, ↓s_plK, ↓s_cutK, ↓s_plCutN, ↓s_oneK, ints_drop, flT_39_1, ldT_39, ldT_3, elT_37, en_45, *]) | (refine guardL_splitTD ?_ ?_ <;> intro) | (refine guardL_splitFD ?_ ?_ <;> intro) | (refine guardP_splitTD ?_ ?_ <;> intro) | (refine guardP_splitFD ?_ ?_ <;> intro) | (refine condL_splitD ?_ ?_ <;> intro) | (refine guardL_splitT ?_ ?_ <;> intro) | (refine guardL_splitF ?_ ?_ <;> intro) | (refine guardP_splitT ?_ ?_ <;> intro) | (refine guardP_splitF ?_ ?_ <;> intro) | (refine condL_split ?_ ?_ <;> intro) | (refine ret_tmp ?_) | (refine acx_go rfl (fun _ _ _ h => h) ?_) | (refine acx_dreg mixed (fun _ _ _ _ e h => ⟨e.trans h.1, h.2⟩) _ (SubH.refl _) ?_) | (refine And.intro (SubH.new (by assumption)) ?_) | (refine allNew_intro fun zr zh => ?_; have zg := zh; (try simp only [AH.set_none] at zg)) | (exact SubH.refl _) | (refine SubH.of_set ?_ ?_) | assumption | (refine PureF.use (coeff45 _ _ (Int.natCast_nonneg _)) ?_) | (with_reducible refine And.intro ?_ ?_)))
    · have hb : i < x.length := by assumption
      rw [wrap_ok (n := (i : Int) + 1) (by omega) (by omega)]
      refine ⟨i + 1, _, by omega, rfl, rfl, ?_⟩
      rw [List.drop_eq_getElem_cons hb]; rfl
    · rw [wrap_ok (n := (i : Int) + 1) (by omega) (by omega)]
      omega
    · have : fulGo r x 0 0 = s := by rw [hgo, List.drop_eq_nil_of_le (by omega)]; rfl
      rw [fulF, this]
end Go.PV.Ytefpjfpelicedaa
end
section
/- The reference: rows, unknowns, what is asked, numbers that fulfil rows. -/
set_option linter.unusedVariables false
set_option linter.unusedSimpArgs false
set_option maxRecDepth 20000
set_option maxHeartbeats 4000000
namespace Go.PV.Ytefpjfpelicedaa
open Go Go.Proofs
theorem far_def (a : Int) : (!(decide (-1000000 ≤ a) && decide (a ≤ 1000000))) = far a := rfl
theorem right35 (rows : List Row) (hn : (rows.length : Int) ≤ 9223372036854775806) : PureF Try.prog 35 [rowsV rows] (iV (rightF rows)) := by
  refine PureF.forget fun H => ?_
  refine vcalls_intro fd35 (by simp) ?_
  unfold c35
  (repeat' (first | (simp only [↓s_skip, ↓s_reg, ↓s_seq, ↓s_seqL, ↓s_cond, ↓s_block, ↓s_ret, ↓s_loop, ↓s_nil, ↓s_consN, ↓s_thenN, ↓s_thenR, ↓s_kret, ↓s_putS, ↓s_dOkS, ↓s_ev_t, ↓s_ev_c, ↓s_upd, ↓s_move, ↓s_assign, ↓s_bin, ↓s_callB, ↓s_len, ↓s_bin_gtr, intV, List.map_cons, List.map_nil, List.getD_cons_zero, List.getD_cons_succ, List.getD_nil, ite_true, ite_false, Nat.reduceEqDiff, Nat.reduceLT, ne_eq, not_false_eq_true, true_and, Nat.succ_ne_self, decide_true, decide_false, reduceCtorEq, undefV, eq_self, n_lenS, undef, elT_22, *]) | (refine guardL_splitTD ?_ ?_ <;> intro) | (refine guardL_splitFD ?_ ?_ <;> intro) | (refine guardP_splitTD ?_ ?_ <;> intro) | (refine guardP_splitFD ?_ ?_ <;> intro) | (refine condL_splitD ?_ ?_ <;> intro) | (refine guardL_splitT ?_ ?_ <;> intro) | (refine guardL_splitF ?_ ?_ <;> intro) | (refine guardP_splitT ?_ ?_ <;> intro) | (refine guardP_splitF ?_ ?_ <;> intro) | (refine condL_split ?_ ?_ <;> intro) | (refine ret_tmp ?_) | (refine acx_go rfl (fun _ _ _ h => h) ?_) | (refine acx_dreg mixed (fun _ _ _ _ e h => ⟨e.trans h.1, h.2⟩) _ (SubH.refl _) ?_) | (refine And.intro (SubH.new (by assumption)) ?_) | (refine allNew_intro fun zr zh => ?_; have zg := zh; (try simp only [AH.set_none] at zg)) | (exact SubH.refl _) | (refine SubH.of_set ?_ ?_) | assumption))
  · rename_i h
    simp only [rightF]
    rw [if_pos (by omega)]
    exact ⟨rfl, SubH.refl _⟩
  · rename_i h0
    have hle : rows.length ≤ 100 := by omega
    have hr : rightF rows = rightGo rows := by simp only [rightF]; rw [if_neg (by omega)]
    rw [hr]
    refine acx_loop (fun _ _ _ h => h) (fun A H' => SubH H H' ∧ A.d = [] ∧ A.t 0 = rowsV rows ∧ ∃ i : Nat, i ≤ rows.length ∧ A.t 3 = iV i ∧ rightGo rows = rightGo (rows.drop i))
      (fun A _ => match A.t 3 with | .lit (.int _ i) => ((rows.length : Int) - i).toNat | _ => 0) ?_ ?_
    · exact ⟨SubH.refl _, rfl, rfl, 0, by simp, rfl, rfl⟩
    · rintro ⟨t, d⟩ H' ⟨hs, rfl, h0, i, hi, h3, hgo⟩
      dsimp only at h0 h3
      unfold b35_2
      (repeat' (first | (simp only [↓s_skip, ↓s_reg, ↓s_seq, ↓s_seqL, ↓s_cond, ↓s_block, ↓s_exit, ↓s_ret, ↓s_loop, ↓s_nil, ↓s_consN, ↓s_thenN, ↓s_thenE, ↓s_thenR, ↓s_inE, ↓s_inR, ↓s_kret, ↓s_putS, ↓s_dOkS, ↓s_ev_t, ↓s_ev_c, ↓s_ev_f, ↓s_upd, ↓s_move, ↓s_assign, ↓s_load, ↓s_bin, ↓s_un, ↓s_fieldAddr, ↓s_indexAddr, ↓s_callB, ↓s_callV, ↓s_callL, ↓s_len, ↓s_un_not, ↓s_bin_lss, ↓s_bin_gtr, intV, boolV, List.map_cons, List.map_nil, ite_true, ite_false, Nat.reduceEqDiff, Nat.reduceLT, ne_eq, not_false_eq_true, true_and, and_true, Nat.succ_ne_self, decide_true, decide_false, reduceCtorEq, Int.natCast_nonneg, Int.toNat_natCast, eq_self, List.drop, and_self, ldV_f, Int.ofNat_lt, n_ldI, n_faI, n_ixS, n_ixA1, n_lenS, n_ldC, n_ldB, n_faA, Int.reduceNeg, elT_22, rows_drop, far_def, flT_39_0, flT_39_1, ldT_37, ldT_3, elT_37, en_55, *]) | (refine guardL_splitTD ?_ ?_ <;> intro) | (refine guardL_splitFD ?_ ?_ <;> intro) | (refine guardP_splitTD ?_ ?_ <;> intro) | (refine guardP_splitFD ?_ ?_ <;> intro) | (refine condL_splitD ?_ ?_ <;> intro) | (refine guardL_splitT ?_ ?_ <;> intro) | (refine guardL_splitF ?_ ?_ <;> intro) | (refine guardP_splitT ?_ ?_ <;> intro) | (refine guardP_splitF ?_ ?_ <;> intro) | (refine condL_split ?_ ?_ <;> intro) | (refine ret_tmp ?_) | (refine acx_go rfl (fun _ _ _ h => h) ?_) | (refine acx_dreg mixed (fun _ _ _ _ e h => ⟨e.trans h.1, h.2⟩) _ (SubH.refl _) ?_) | (refine And.intro (SubH.new (by assumption)) ?_) | (refine allNew_intro fun zr zh => ?_; have zg := zh; (try simp only [AH.set_none] at zg)) | (exact SubH.refl _) | (refine SubH.of_set ?_ ?_) | assumption | (refine PureF.use (within55 _ _ (by decide)) ?_)))
      all_goals have hd : ∀ (h : i < rows.length), rows.drop i = rows[i] :: rows.drop (i + 1) := fun h => List.drop_eq_getElem_cons h
      · have hb : i < rows.length := by assumption
        rw [hd hb]; simp only [rightGo]; rw [if_pos (by omega)]
      · have hb : i < rows.length := by assumption
        have hf : far rows[i].b = true := by assumption
        rw [hd hb]; simp only [rightGo]; rw [if_neg (by omega), hf, Bool.true_or, if_pos rfl]
      · have hb : i < rows.length := by assumption
        have hf : far rows[i].b = false := by assumption
        have hgo2 : rightGo (rows.drop i) = if rows[i].c.any far then 4 else rightGo (rows.drop (i + 1)) := by
          rw [hd hb]; simp only [rightGo]; rw [if_neg (by omega)]
          rw [hf, Bool.false_or]
        rw [hgo2]
        clear hd hgo hr
        refine acx_loop (fun _ _ _ h => h) (fun A H' => SubH H H' ∧ A.d = [] ∧ A.t 0 = rowsV rows ∧ A.t 3 = iV i ∧ ∃ k : Nat, k ≤ rows[i].c.length ∧ A.t 4 = iV k ∧ rows[i].c.any far = (rows[i].c.drop k).any far)
          (fun A _ => match A.t 4 with | .lit (.int _ k) => ((rows[i].c.length : Int) - k).toNat | _ => 0) ?_ ?_
        · exact ⟨hs, rfl, by simp only [s_upd, Nat.reduceEqDiff, if_false, h0], by simp only [s_upd, Nat.reduceEqDiff, if_false, h3], 0, by simp, rfl, rfl⟩
        · clear h0 h3 hs
          rintro ⟨t, d⟩ H' ⟨hs, rfl, h0, h3, k, hk, h4, hany⟩
          dsimp only at h0 h3 h4
          unfold b35_1
          (repeat' (first | (simp only [↓s_skip, ↓s_reg, ↓s_seq, ↓s_cond, ↓s_block, ↓s_exit, ↓s_ret, ↓s_nil, ↓s_consN, ↓s_thenN, ↓s_thenE, ↓s_thenR, ↓s_inN, ↓s_inE, ↓s_inR, ↓s_kret, ↓s_putS, ↓s_dOkS, ↓s_ev_t, ↓s_ev_c, ↓s_ev_f, ↓s_upd, ↓s_move, ↓s_assign, ↓s_load, ↓s_bin, ↓s_un, ↓s_fieldAddr, ↓s_indexAddr, ↓s_callB, ↓s_callV, ↓s_callL, ↓s_len, ↓s_un_not, ↓s_bin_lss, ↓s_bin_add, intV, boolV, List.map_cons, List.map_nil, ite_true, ite_false, Nat.reduceEqDiff, Nat.reduceLT, ne_eq, not_false_eq_true, true_and, and_true, Nat.succ_ne_self, decide_true, decide_false, reduceCtorEq, Int.natCast_nonneg, Int.toNat_natCast, Nat.mul_one, eq_self, List.drop, and_self, ldV_f, Int.ofNat_lt, n_ldI, n_faI, n_ixS, n_ixA1, n_lenS, n_ldC, n_ldB, n_faA, Int.reduceNeg, elT_22, elT_37, rows_drop, ints_drop, far_def, flT_39_0, ldT_37, ldT_3, en_55, *]) | (refine guardL_splitTD ?_ ?_ <;> intro) | (refine guardL_splitFD ?_ ?_ <;> intro) | (refine guardP_splitTD ?_ ?_ <;> intro) | (refine guardP_splitFD ?_ ?_ <;> intro) | (refine condL_splitD ?_ ?_ <;> intro) | (refine guardL_splitT ?_ ?_ <;> intro) | (refine guardL_splitF ?_ ?_ <;> intro) | (refine guardP_splitT ?_ ?_ <;> intro) | (refine guardP_splitF ?_ ?_ <;> intro) | (refine condL_split ?_ ?_ <;> intro) | (refine ret_tmp ?_) | (refine acx_go rfl (fun _ _ _ h => h) ?_) | (refine acx_dreg mixed (fun _ _ _ _ e h => ⟨e.trans h.1, h.2⟩) _ (SubH.refl _) ?_) | (refine And.intro (SubH.new (by assumption)) ?_) | (refine allNew_intro fun zr zh => ?_; have zg := zh; (try simp only [AH.set_none] at zg)) | (exact SubH.refl _) | (refine SubH.of_set ?_ ?_) | assumption | (refine PureF.use (within55 _ _ (by decide)) ?_)))
          all_goals have hdk : ∀ (h : k < rows[i].c.length), rows[i].c.drop k = rows[i].c[k] :: rows[i].c.drop (k + 1) := fun h => List.drop_eq_getElem_cons h
          · have hk' : k < rows[i].c.length := by assumption
            have hc : far rows[i].c[k] = true := by assumption
            rw [hdk hk', List.any_cons, hc, Bool.true_or, if_pos rfl]
          · have hk' : k < rows[i].c.length := by assumption
            have hc : far rows[i].c[k] = false := by assumption
            rw [wrap_ok (n := (k : Int) + 1) (by omega) (by omega)]
            refine ⟨⟨k + 1, by omega, rfl, ?_⟩, by omega⟩
            rw [hdk hk', List.any_cons, hc, Bool.false_or]
          · unfold c35_1
            clear hany hdk
            (repeat' (first | (simp only [↓s_reg, ↓s_nil, ↓s_consN, ↓s_thenN, ↓s_kret, ↓s_putS, ↓s_dOkS, ↓s_ev_t, ↓s_ev_c, ↓s_upd, ↓s_move, ↓s_assign, ↓s_bin, ↓s_bin_add, ite_true, ite_false, Nat.reduceEqDiff, Nat.reduceLT, true_and, Nat.succ_ne_self, reduceCtorEq, eq_self, *]) | (refine guardL_splitTD ?_ ?_ <;> intro) | (refine guardL_splitFD ?_ ?_ <;> intro) | (refine guardP_splitTD ?_ ?_ <;> intro) | (refine guardP_splitFD ?_ ?_ <;> intro) | (refine condL_splitD ?_ ?_ <;> intro) | (refine guardL_splitT ?_ ?_ <;> intro) | (refine guardL_splitF ?_ ?_ <;> intro) | (refine guardP_splitT ?_ ?_ <;> intro) | (refine guardP_splitF ?_ ?_ <;> intro) | (refine condL_split ?_ ?_ <;> intro) | (refine ret_tmp ?_) | (refine acx_go rfl (fun _ _ _ h => h) ?_) | (refine acx_dreg mixed (fun _ _ _ _ e h => ⟨e.trans h.1, h.2⟩) _ (SubH.refl _) ?_) | (refine And.intro (SubH.new (by assumption)) ?_) | (refine allNew_intro fun zr zh => ?_; have zg := zh; (try simp only [AH.set_none] at zg)) | (exact SubH.refl _) | (refine SubH.of_set ?_ ?_) | assumption))
            rw [wrap_ok (n := (i : Int) + 1) (by omega) (by omega), List.drop_eq_nil_of_le (by omega)]
            exact ⟨⟨i + 1, by omega, rfl, by simp⟩, by omega⟩
      · rw [List.drop_eq_nil_of_le (by omega)]
        unfold c35_2
        (repeat' (first | (simp only [↓s_reg, ↓s_seq, ↓s_ret, ↓s_nil, ↓s_consN, ↓s_thenN, ↓s_putS, ↓s_dOkS, ↓s_ev_c, ↓s_upd, ↓s_assign, ite_true, ite_false, Nat.reduceEqDiff, Nat.reduceLT, true_and, and_true, eq_self, *]) | (refine guardL_splitTD ?_ ?_ <;> intro) | (refine guardL_splitFD ?_ ?_ <;> intro) | (refine guardP_splitTD ?_ ?_ <;> intro) | (refine guardP_splitFD ?_ ?_ <;> intro) | (refine condL_splitD ?_ ?_ <;> intro) | (refine guardL_splitT ?_ ?_ <;> intro) | (refine guardL_splitF ?_ ?_ <;> intro) | (refine guardP_splitT ?_ ?_ <;> intro) | (refine guardP_splitF ?_ ?_ <;> intro) | (refine condL_split ?_ ?_ <;> intro) | (refine ret_tmp ?_) | (refine acx_go rfl (fun _ _ _ h => h) ?_) | (refine acx_dreg mixed (fun _ _ _ _ e h => ⟨e.trans h.1, h.2⟩) _ (SubH.refl _) ?_) | (refine And.intro (SubH.new (by assumption)) ?_) | (refine allNew_intro fun zr zh => ?_; have zg := zh; (try simp only [AH.set_none] at zg)) | (exact SubH.refl _) | (refine SubH.of_set ?_ ?_) | assumption))
        rfl
theorem unknowns10 (rows : List Row) (hn : (rows.length : Int) ≤ 9223372036854775806) : PureF Try.prog 10 [rowsV rows] (iV (unkF rows)) := by
  refine PureF.forget fun H => ?_
  refine vcalls_intro fd10 (by simp) ?_
  unfold c10
  (repeat' (first | (simp only [↓s_reg, ↓s_seq, ↓s_seqL, ↓s_block, ↓s_loop, ↓s_nil, ↓s_consN, ↓s_thenN, ↓s_putS, ↓s_dOkS, ↓s_ev_c, ↓s_assign, Nat.reduceLT, true_and, undefV, undef, *]) | (refine guardL_splitTD ?_ ?_ <;> intro) | (refine guardL_splitFD ?_ ?_ <;> intro) | (refine guardP_splitTD ?_ ?_ <;> intro) | (refine guardP_splitFD ?_ ?_ <;> intro) | (refine condL_splitD ?_ ?_ <;> intro) | (refine guardL_splitT ?_ ?_ <;> intro) | (refine guardL_splitF ?_ ?_ <;> intro) | (refine guardP_splitT ?_ ?_ <;> intro) | (refine guardP_splitF ?_ ?_ <;> intro) | (refine condL_split ?_ ?_ <;> intro) | (refine ret_tmp ?_) | (refine acx_go rfl (fun _ _ _ h => h) ?_) | (refine acx_dreg mixed (fun _ _ _ _ e h => ⟨e.trans h.1, h.2⟩) _ (SubH.refl _) ?_) | (refine And.intro (SubH.new (by assumption)) ?_) | (refine allNew_intro fun zr zh => ?_; have zg := zh; (try simp only [AH.set_none] at zg)) | (exact SubH.refl _) | (refine SubH.of_set ?_ ?_) | assumption))
  refine acx_loop (fun _ _ _ h => h) (fun A H' => SubH H H' ∧ A.d = [] ∧ A.t 0 = rowsV rows ∧ ∃ (i : Nat) (m : Int), i ≤ rows.length ∧ A.t 4 = iV i ∧ A.t 3 = iV m ∧ unkF rows = unkGo (rows.drop i) m)
    (fun A _ => match A.t 4 with | .lit (.int _ i) => ((rows.length : Int) - i).toNat | _ => 0) ?_ ?_
  · exact ⟨SubH.refl _, rfl, rfl, 0, 0, by simp, rfl, rfl, rfl⟩
  · rintro ⟨t, d⟩ H' ⟨hs, rfl, h0, i, m, hi, h4, h3, hgo⟩
    dsimp only at h0 h3 h4
    rw [hgo]
    (repeat' (first | (simp only [↓s_skip, ↓s_reg, ↓s_seq, ↓s_cond, ↓s_block, ↓s_exit, ↓s_ret, ↓s_nil, ↓s_consN, ↓s_thenN, ↓s_thenE, ↓s_inN, ↓s_inE, ↓s_kret, ↓s_putS, ↓s_dOkS, ↓s_ev_t, ↓s_ev_c, ↓s_upd, ↓s_move, ↓s_assign, ↓s_load, ↓s_bin, ↓s_fieldAddr, ↓s_indexAddr, ↓s_callB, ↓s_len, ↓s_max, ↓s_bin_lss, ↓s_bin_add, intV, List.map_cons, List.map_nil, ite_true, ite_false, Nat.reduceEqDiff, Nat.reduceLT, ne_eq, not_false_eq_true, true_and, and_true, Nat.succ_ne_self, decide_true, decide_false, reduceCtorEq, Int.natCast_nonneg, Int.toNat_natCast, eq_self, List.drop, and_self, vcMax, ldV_f, Int.ofNat_lt, n_ldI, n_faI, n_ixS, n_ixA1, n_lenS, n_ldC, n_ldB, n_faA, elT_22, rows_drop, flT_39_0, ldT_37, elT_37, *]) | (refine guardL_splitTD ?_ ?_ <;> intro) | (refine guardL_splitFD ?_ ?_ <;> intro) | (refine guardP_splitTD ?_ ?_ <;> intro) | (refine guardP_splitFD ?_ ?_ <;> intro) | (refine condL_splitD ?_ ?_ <;> intro) | (refine guardL_splitT ?_ ?_ <;> intro) | (refine guardL_splitF ?_ ?_ <;> intro) | (refine guardP_splitT ?_ ?_ <;> intro) | (refine guardP_splitF ?_ ?_ <;> intro) | (refine condL_split ?_ ?_ <;> intro) | (refine ret_tmp ?_) | (refine acx_go rfl (fun _ _ _ h => h) ?_) | (refine acx_dreg mixed (fun _ _ _ _ e h => ⟨e.trans h.1, h.2⟩) _ (SubH.refl _) ?_) | (refine And.intro (SubH.new (by assumption)) ?_) | (refine allNew_intro fun zr zh => ?_; have zg := zh; (try simp only [AH.set_none] at zg)) | (exact SubH.refl _) | (refine SubH.of_set ?_ ?_) | assumption))
    · have hb : i < rows.length := by assumption
      rw [wrap_ok (by omega) (by omega)]
      refine ⟨⟨i + 1, max m rows[i].c.length, by omega, rfl, ?_, ?_⟩, by omega⟩
      · congr 2
        split <;> omega
      · rw [List.drop_eq_getElem_cons hb]; rfl
    · rw [List.drop_eq_nil_of_le (by omega)]
      rfl
def allF (rows : List Row) (x : List Int) : Bool := rows.all fun r => fulF r x
theorem all43 (rows : List Row) (x : List Int) (hn : (rows.length : Int) ≤ 9223372036854775806) (hx : (x.length : Int) ≤ 9223372036854775806) : PureF Try.prog 43 [rowsV rows, intsV x] (boolV (allF rows x)) := by
  refine PureF.forget fun H => ?_
  refine vcalls_intro fd43 (by simp) ?_
  unfold c43
  (repeat' (first | (simp only [↓s_reg, ↓s_seq, ↓s_seqL, ↓s_block, ↓s_loop, ↓s_nil, ↓s_consN, ↓s_thenN, ↓s_putS, ↓s_dOkS, ↓s_ev_c, ↓s_assign, boolV, Nat.reduceLT, true_and, undefV, undef, *]) | (refine guardL_splitTD ?_ ?_ <;> intro) | (refine guardL_splitFD ?_ ?_ <;> intro) | (refine guardP_splitTD ?_ ?_ <;> intro) | (refine guardP_splitFD ?_ ?_ <;> intro) | (refine condL_splitD ?_ ?_ <;> intro) | (refine guardL_splitT ?_ ?_ <;> intro) | (refine guardL_splitF ?_ ?_ <;> intro) | (refine guardP_splitT ?_ ?_ <;> intro) | (refine guardP_splitF ?_ ?_ <;> intro) | (refine condL_split ?_ ?_ <;> intro) | (refine ret_tmp ?_) | (refine acx_go rfl (fun _ _ _ h => h) ?_) | (refine acx_dreg mixed (fun _ _ _ _ e h => ⟨e.trans h.1, h.2⟩) _ (SubH.refl _) ?_) | (refine And.intro (SubH.new (by assumption)) ?_) | (refine allNew_intro fun zr zh => ?_; have zg := zh; (try simp only [AH.set_none] at zg)) | (exact SubH.refl _) | (refine SubH.of_set ?_ ?_) | assumption))
  refine acx_loop (fun _ _ _ h => h) (fun A H' => SubH H H' ∧ A.d = [] ∧ A.t 0 = rowsV rows ∧ A.t 1 = intsV x ∧ ∃ (i : Nat), i ≤ rows.length ∧ A.t 5 = iV i ∧ allF rows x = allF (rows.drop i) x)
    (fun A _ => match A.t 5 with | .lit (.int _ i) => ((rows.length : Int) - i).toNat | _ => 0) ?_ ?_
  · exact ⟨SubH.refl _, rfl, rfl, rfl, 0, by simp, rfl, rfl⟩
  · rintro ⟨t, d⟩ H' ⟨hs, rfl, h0, h1, i, hi, h5, hgo⟩
    dsimp only at h0 h1 h5
    rw [hgo]
    (repeat' (first | (simp only [↓s_skip, ↓s_reg, ↓s_seq, ↓s_cond, ↓s_block, ↓s_exit, ↓s_ret, ↓s_nil, ↓s_consN, ↓s_thenN, ↓s_thenE, ↓s_thenR, ↓s_inN, ↓s_inE, ↓s_inR, ↓s_kret, ↓s_putS, ↓s_dOkS, ↓s_ev_t, ↓s_ev_c, ↓s_ev_f, ↓s_upd, ↓s_move, ↓s_assign, ↓s_load, ↓s_bin, ↓s_un, ↓s_indexAddr, ↓s_callB, ↓s_callV, ↓s_callL, ↓s_len, ↓s_un_not, ↓s_bin_lss, ↓s_bin_add, intV, boolV, List.map_cons, List.map_nil, ite_true, ite_false, Nat.reduceEqDiff, Nat.reduceLT, ne_eq, not_false_eq_true, true_and, and_true, Nat.succ_ne_self, decide_true, decide_false, reduceCtorEq, Int.natCast_nonneg, Int.toNat_natCast, eq_self, and_self, ldV_t2, Int.ofNat_lt, n_ldI, n_ixS, n_ixA1, n_lenS, n_ldC, n_ldB, elT_22, rows_drop, ldT_39, en_26, *]) | (refine guardL_splitTD ?_ ?_ <;> intro) | (refine guardL_splitFD ?_ ?_ <;> intro) | (refine guardP_splitTD ?_ ?_ <;> intro) | (refine guardP_splitFD ?_ ?_ <;> intro) | (refine condL_splitD ?_ ?_ <;> intro) | (refine guardL_splitT ?_ ?_ <;> intro) | (refine guardL_splitF ?_ ?_ <;> intro) | (refine guardP_splitT ?_ ?_ <;> intro) | (refine guardP_splitF ?_ ?_ <;> intro) | (refine condL_split ?_ ?_ <;> intro) | (refine ret_tmp ?_) | (refine acx_go rfl (fun _ _ _ h => h) ?_) | (refine acx_dreg mixed (fun _ _ _ _ e h => ⟨e.trans h.1, h.2⟩) _ (SubH.refl _) ?_) | (refine And.intro (SubH.new (by assumption)) ?_) | (refine allNew_intro fun zr zh => ?_; have zg := zh; (try simp only [AH.set_none] at zg)) | (exact SubH.refl _) | (refine SubH.of_set ?_ ?_) | assumption | (refine PureF.use (fulfils26 _ _ hx) ?_)))
    all_goals have hd : ∀ (h : i < rows.length), allF (rows.drop i) x = (fulF rows[i] x && allF (rows.drop (i + 1)) x) := fun h => by rw [List.drop_eq_getElem_cons h]; rfl
    · have hb : i < rows.length := by assumption
      have hf : fulF rows[i] x = false := by simpa using (by assumption : (!fulF rows[i] x) = true)
      rw [hd hb, hf]
      rfl
    · have hb : i < rows.length := by assumption
      have hf : fulF rows[i] x = true := by simpa using (by assumption : (!fulF rows[i] x) = false)
      rw [wrap_ok (by omega) (by omega), hd hb, hf, Bool.true_and]
      exact ⟨⟨i + 1, by omega, rfl, rfl⟩, by omega⟩
    · rw [List.drop_eq_nil_of_le (by omega)]
      rfl
def holdsR (rows : List Row) (x : List Int) : Bool × Int :=
  if rightF rows = 0 then (if (x.length : Int) = unkF rows then (if x.any (fun n => decide (n < 0) || decide (1000000 < n)) then (false, 4) else (allF rows x, 0)) else (false, 5)) else (false, rightF rows)
theorem holds30 (rows : List Row) (x : List Int) (h1 : (rows.length : Int) ≤ 9223372036854775806) (h2 : (x.length : Int) ≤ 9223372036854775806) : PureF Try.prog 30 [rowsV rows, intsV x] (.tuple [boolV (holdsR rows x).1, iV (holdsR rows x).2]) := by
  refine PureF.forget fun H => ?_
  refine vcalls_intro fd30 (by simp) ?_
  unfold c30 holdsR
  by_cases hr : rightF rows = 0
  · by_cases hx : (x.length : Int) = unkF rows
    · rw [if_pos hr, if_pos hx]
      (repeat' (first | (simp only [↓s_skip, ↓s_reg, ↓s_seq, ↓s_seqL, ↓s_cond, ↓s_condF, ↓s_block, ↓s_loop, ↓s_nil, ↓s_consN, ↓s_thenN, ↓s_kret, ↓s_putS, ↓s_dOkS, ↓s_ev_t, ↓s_ev_c, ↓s_ev_f, ↓s_upd, ↓s_move, ↓s_assign, ↓s_bin, ↓s_callB, ↓s_callV, ↓s_callL, ↓s_len, ↓s_bin_neq, intV, boolV, List.map_cons, List.map_nil, List.getD_cons_zero, List.getD_cons_succ, List.getD_nil, ite_true, ite_false, Nat.reduceEqDiff, Nat.reduceLT, ne_eq, not_false_eq_true, true_and, Nat.succ_ne_self, decide_true, Bool.not_true, reduceCtorEq, undefV, eq_self, n_lenS, undef, elT_37, en_35, en_10, *]) | (refine guardL_splitTD ?_ ?_ <;> intro) | (refine guardL_splitFD ?_ ?_ <;> intro) | (refine guardP_splitTD ?_ ?_ <;> intro) | (refine guardP_splitFD ?_ ?_ <;> intro) | (refine condL_splitD ?_ ?_ <;> intro) | (refine guardL_splitT ?_ ?_ <;> intro) | (refine guardL_splitF ?_ ?_ <;> intro) | (refine guardP_splitT ?_ ?_ <;> intro) | (refine guardP_splitF ?_ ?_ <;> intro) | (refine condL_split ?_ ?_ <;> intro) | (refine ret_tmp ?_) | (refine acx_go rfl (fun _ _ _ h => h) ?_) | (refine acx_dreg mixed (fun _ _ _ _ e h => ⟨e.trans h.1, h.2⟩) _ (SubH.refl _) ?_) | (refine And.intro (SubH.new (by assumption)) ?_) | (refine allNew_intro fun zr zh => ?_; have zg := zh; (try simp only [AH.set_none] at zg)) | (exact SubH.refl _) | (refine SubH.of_set ?_ ?_) | assumption | (refine PureF.use (right35 _ h1) ?_) | (refine PureF.use (unknowns10 _ h1) ?_)))
      refine acx_loop (fun _ _ _ h => h) (fun A H' => SubH H H' ∧ A.d = [] ∧ A.t 0 = rowsV rows ∧ A.t 1 = intsV x ∧ ∃ (i : Nat), i ≤ x.length ∧ A.t 7 = iV i ∧ (x.any fun n => decide (n < 0) || decide (1000000 < n)) = ((x.drop i).any fun n => decide (n < 0) || decide (1000000 < n)))
        (fun A _ => match A.t 7 with | .lit (.int _ i) => ((x.length : Int) - i).toNat | _ => 0) ?_ ?_
      · exact ⟨SubH.refl _, rfl, rfl, rfl, 0, by simp, rfl, rfl⟩
      · rintro ⟨t, d⟩ H' ⟨hs, rfl, h0, h1', i, hi, h7, hgo⟩
        dsimp only at h0 h1' h7
        rw [hgo]
        clear hx hr
        unfold b30_1
        (repeat' (first | (simp only [↓s_skip, ↓s_reg, ↓s_seq, ↓s_cond, ↓s_condT, ↓s_block, ↓s_exit, ↓s_ret, ↓s_nil, ↓s_consN, ↓s_consG, ↓s_guardTF, ↓s_guardFF, ↓s_thenN, ↓s_thenE, ↓s_thenR, ↓s_inN, ↓s_inE, ↓s_inR, ↓s_kret, ↓s_putS, ↓s_dOkS, ↓s_ev_t, ↓s_ev_c, ↓s_upd, ↓s_move, ↓s_assign, ↓s_isBool, ↓s_pickA, ↓s_pick, ↓s_load, ↓s_bin, ↓s_indexAddr, ↓s_callB, ↓s_len, ↓s_bin_lss, ↓s_bin_gtr, ↓s_bin_add, intV, List.map_cons, List.map_nil, ite_true, ite_false, Nat.reduceEqDiff, Nat.reduceLT, ne_eq, not_false_eq_true, true_and, Bool.false_eq_true, Nat.succ_ne_self, decide_true, decide_false, reduceCtorEq, Int.natCast_nonneg, Int.toNat_natCast, Nat.mul_one, callOk, undefV, eq_self, and_self, ldV_f, Int.ofNat_lt, n_ldI, n_ixS, n_ixA1, n_lenS, n_ldC, n_ldB, undef, ints_drop, ldT_3, elT_37, *]) | (refine guardL_splitTD ?_ ?_ <;> intro) | (refine guardL_splitFD ?_ ?_ <;> intro) | (refine guardP_splitTD ?_ ?_ <;> intro) | (refine guardP_splitFD ?_ ?_ <;> intro) | (refine condL_splitD ?_ ?_ <;> intro) | (refine guardL_splitT ?_ ?_ <;> intro) | (refine guardL_splitF ?_ ?_ <;> intro) | (refine guardP_splitT ?_ ?_ <;> intro) | (refine guardP_splitF ?_ ?_ <;> intro) | (refine condL_split ?_ ?_ <;> intro) | (refine ret_tmp ?_) | (refine acx_go rfl (fun _ _ _ h => h) ?_) | (refine acx_dreg mixed (fun _ _ _ _ e h => ⟨e.trans h.1, h.2⟩) _ (SubH.refl _) ?_) | (refine And.intro (SubH.new (by assumption)) ?_) | (refine allNew_intro fun zr zh => ?_; have zg := zh; (try simp only [AH.set_none] at zg)) | (exact SubH.refl _) | (refine SubH.of_set ?_ ?_) | assumption))
        all_goals have hd : ∀ (h : i < x.length), ((x.drop i).any fun n => decide (n < 0) || decide (1000000 < n)) = ((decide (x[i] < 0) || decide (1000000 < x[i])) || ((x.drop (i + 1)).any fun n => decide (n < 0) || decide (1000000 < n))) := fun h => by rw [List.drop_eq_getElem_cons h, List.any_cons]
        · have hb : i < x.length := by assumption
          have h3 : ¬ x[i] < 0 := by assumption
          have h4 : 1000000 < x[i] := by assumption
          rw [hd hb, decide_eq_true h4, Bool.or_true, Bool.true_or, if_pos rfl]
          exact retPost_ret rfl (by simp only [resV, resAll, resOne, s_upd, Nat.reduceEqDiff, if_true, if_false, Option.bind_some, Option.map_some, tupV] <;> rfl) ⟨rfl, hs⟩
        · have hb : i < x.length := by assumption
          have h3 : ¬ x[i] < 0 := by assumption
          have h4 : ¬ 1000000 < x[i] := by assumption
          rw [wrap_ok (n := (i : Int) + 1) (by omega) (by omega)]
          refine ⟨⟨i + 1, by omega, rfl, ?_⟩, by omega⟩
          rw [hd hb, decide_eq_false h3, decide_eq_false h4, Bool.false_or, Bool.false_or]
        · have hb : i < x.length := by assumption
          have h3 : x[i] < 0 := by assumption
          rw [hd hb, decide_eq_true h3, Bool.true_or, Bool.true_or, if_pos rfl]
          exact retPost_ret rfl (by simp only [resV, resAll, resOne, s_upd, Nat.reduceEqDiff, if_true, if_false, Option.bind_some, Option.map_some, tupV] <;> rfl) ⟨rfl, hs⟩
        · rw [List.drop_eq_nil_of_le (by omega), List.any_nil, if_neg (by simp)]
          unfold c30_1
          clear hgo hd
          (repeat' (first | (simp only [↓s_reg, ↓s_seq, ↓s_ret, ↓s_nil, ↓s_consN, ↓s_thenN, ↓s_kret, ↓s_putS, ↓s_dOkS, ↓s_ev_t, ↓s_ev_c, ↓s_ev_f, ↓s_upd, ↓s_move, ↓s_assign, ↓s_callV, ↓s_callL, boolV, List.map_cons, List.map_nil, ite_true, ite_false, Nat.reduceEqDiff, Nat.reduceLT, true_and, Nat.succ_ne_self, reduceCtorEq, eq_self, en_43, *]) | (refine guardL_splitTD ?_ ?_ <;> intro) | (refine guardL_splitFD ?_ ?_ <;> intro) | (refine guardP_splitTD ?_ ?_ <;> intro) | (refine guardP_splitFD ?_ ?_ <;> intro) | (refine condL_splitD ?_ ?_ <;> intro) | (refine guardL_splitT ?_ ?_ <;> intro) | (refine guardL_splitF ?_ ?_ <;> intro) | (refine guardP_splitT ?_ ?_ <;> intro) | (refine guardP_splitF ?_ ?_ <;> intro) | (refine condL_split ?_ ?_ <;> intro) | (refine ret_tmp ?_) | (refine acx_go rfl (fun _ _ _ h => h) ?_) | (refine acx_dreg mixed (fun _ _ _ _ e h => ⟨e.trans h.1, h.2⟩) _ (SubH.refl _) ?_) | (refine And.intro (SubH.new (by assumption)) ?_) | (refine allNew_intro fun zr zh => ?_; have zg := zh; (try simp only [AH.set_none] at zg)) | (exact SubH.refl _) | (refine SubH.of_set ?_ ?_) | assumption | (refine PureF.use (all43 _ _ h1 h2) ?_)))
          all_goals exact retPost_ret rfl (by simp only [resV, resAll, resOne, s_upd, Nat.reduceEqDiff, if_true, if_false, Option.bind_some, Option.map_some, tupV] <;> rfl) ⟨rfl, hs⟩
    · (repeat' (first | (simp only [↓s_skip, ↓s_reg, ↓s_seq, ↓s_cond, ↓s_condT, ↓s_condF, ↓s_ret, ↓s_nil, ↓s_consN, ↓s_thenN, ↓s_thenR, ↓s_kret, ↓s_putS, ↓s_dOkS, ↓s_ev_t, ↓s_ev_c, ↓s_ev_f, ↓s_upd, ↓s_move, ↓s_assign, ↓s_bin, ↓s_callB, ↓s_callV, ↓s_callL, ↓s_len, ↓s_bin_neq, intV, boolV, List.map_cons, List.map_nil, List.getD_cons_zero, List.getD_cons_succ, List.getD_nil, ite_true, ite_false, Nat.reduceEqDiff, Nat.reduceLT, ne_eq, not_false_eq_true, true_and, Nat.succ_ne_self, decide_true, decide_false, Bool.not_true, Bool.not_false, reduceCtorEq, undefV, eq_self, n_lenS, undef, elT_37, en_35, en_10, *]) | (refine guardL_splitTD ?_ ?_ <;> intro) | (refine guardL_splitFD ?_ ?_ <;> intro) | (refine guardP_splitTD ?_ ?_ <;> intro) | (refine guardP_splitFD ?_ ?_ <;> intro) | (refine condL_splitD ?_ ?_ <;> intro) | (refine guardL_splitT ?_ ?_ <;> intro) | (refine guardL_splitF ?_ ?_ <;> intro) | (refine guardP_splitT ?_ ?_ <;> intro) | (refine guardP_splitF ?_ ?_ <;> intro) | (refine condL_split ?_ ?_ <;> intro) | (refine ret_tmp ?_) | (refine acx_go rfl (fun _ _ _ h => h) ?_) | (refine acx_dreg mixed (fun _ _ _ _ e h => ⟨e.trans h.1, h.2⟩) _ (SubH.refl _) ?_) | (refine And.intro (SubH.new (by assumption)) ?_) | (refine allNew_intro fun zr zh => ?_; have zg := zh; (try simp only [AH.set_none] at zg)) | (exact SubH.refl _) | (refine SubH.of_set ?_ ?_) | assumption | (refine PureF.use (right35 _ h1) ?_) | (refine PureF.use (unknowns10 _ h1) ?_) | (with_reducible refine And.intro ?_ ?_)))
      all_goals exact retPost_ret rfl (by simp only [resV, resAll, resOne, s_upd, Nat.reduceEqDiff, if_true, if_false, Option.bind_some, Option.map_some, tupV] <;> rfl) ⟨rfl, SubH.refl _⟩
  · (repeat' (first | (simp only [↓s_reg, ↓s_seq, ↓s_cond, ↓s_condT, ↓s_ret, ↓s_nil, ↓s_consN, ↓s_thenN, ↓s_thenR, ↓s_kret, ↓s_putS, ↓s_dOkS, ↓s_ev_t, ↓s_ev_c, ↓s_ev_f, ↓s_upd, ↓s_move, ↓s_assign, ↓s_bin, ↓s_callV, ↓s_callL, ↓s_bin_neq, boolV, List.map_cons, List.map_nil, List.getD_cons_zero, List.getD_cons_succ, List.getD_nil, ite_true, ite_false, Nat.reduceEqDiff, Nat.reduceLT, true_and, Nat.succ_ne_self, decide_false, Bool.not_false, reduceCtorEq, undefV, eq_self, undef, en_35, *]) | (refine guardL_splitTD ?_ ?_ <;> intro) | (refine guardL_splitFD ?_ ?_ <;> intro) | (refine guardP_splitTD ?_ ?_ <;> intro) | (refine guardP_splitFD ?_ ?_ <;> intro) | (refine condL_splitD ?_ ?_ <;> intro) | (refine guardL_splitT ?_ ?_ <;> intro) | (refine guardL_splitF ?_ ?_ <;> intro) | (refine guardP_splitT ?_ ?_ <;> intro) | (refine guardP_splitF ?_ ?_ <;> intro) | (refine condL_split ?_ ?_ <;> intro) | (refine ret_tmp ?_) | (refine acx_go rfl (fun _ _ _ h => h) ?_) | (refine acx_dreg mixed (fun _ _ _ _ e h => ⟨e.trans h.1, h.2⟩) _ (SubH.refl _) ?_) | (refine And.intro (SubH.new (by assumption)) ?_) | (refine allNew_intro fun zr zh => ?_; have zg := zh; (try simp only [AH.set_none] at zg)) | (exact SubH.refl _) | (refine SubH.of_set ?_ ?_) | assumption | (refine PureF.use (right35 _ h1) ?_) | (refine PureF.use (unknowns10 _ h1) ?_) | (with_reducible refine And.intro ?_ ?_)))
    all_goals exact retPost_ret rfl (by simp only [resV, resAll, resOne, s_upd, Nat.reduceEqDiff, if_true, if_false, Option.bind_some, Option.map_some, tupV] <;> rfl) ⟨rfl, SubH.refl _⟩
end Go.PV.Ytefpjfpelicedaa
end
section
/- The reference's row of a line: what stands behind the four kinds. -/
set_option linter.unusedVariables false
set_option linter.unusedSimpArgs false
set_option maxRecDepth 20000
set_option maxHeartbeats 4000000
namespace Go.PV.Ytefpjfpelicedaa
open Go Go.Proofs
theorem far2_def (a : Int) : (!(decide (-1000000000000 ≤ a) && decide (a ≤ 1000000000000))) = far2 a := rfl
def P50 (H0 : AH) (x : VV) : APost := retPost Try.prog [.cell 8 39, .tmp 9] fun e H' => ∃ y, e = .ret y ∧ GhV H' y H0 x
/-- The ending of a line that is none. -/
theorem bad50 {H0 H : AH} {t : Nat → VV} {r8 sp8 : Nat} {e8 : TypeId} {z : Int} (h8 : t 8 = ptrV r8 0) (h9 : t 9 = iV z) (k8 : H r8 = some (.cells e8 [.lit (.slice none 0 0), iV 0] sp8)) (hs : SubH H0 H) :
    P50 H0 (.tuple [rowV ⟨[], 0⟩, iV z]) .ret ⟨t, []⟩ H := by
  unfold P50
  refine retPost_ret rfl (x := .tuple [.agg [.lit (.slice none 0 0), iV 0], iV z]) (by simp only [resV, resAll, resOne, ldT_39, h8, h9, k8, ptrV, List.drop_zero, ldV_t2, Option.bind_some, Option.map_some, tupV]) ⟨_, rfl, ?_⟩
  exact GhV.tuple (GhL.cons (GhV.agg (GhL.cons ((GhV.nil _).trans (GhV.forget hs _)) (GhL.cons (GhV.refl _ _) (GhL.nil _)))) (GhL.cons (GhV.refl _ _) (GhL.nil _)))
/-- The state in front of the end: the row so far is 'cs', 'b'. -/
structure St50 (H0 H : AH) (t : Nat → VV) (l : Line) (n r6 r8 r10 : Nat) (cs : List Int) (b : Int) : Prop where
  h3 : t 3 = iV n
  h6 : t 6 = ptrV r6 0
  h8 : t 8 = ptrV r8 0
  h10 : t 10 = ptrV r10 0
  n6 : H0 r6 = none
  n8 : H0 r8 = none
  n10 : H0 r10 = none
  d68 : ¬ r6 = r8
  d610 : ¬ r6 = r10
  d810 : ¬ r8 = r10
  mem : ∃ v Hb, OwnX Hb H 3 1 v cs.length (encC intE cs) ∧ Hb r10 = some (.cells 39 [v, iV b] 0) ∧ Hb r6 = some (.cells 83 (lineE l) 0) ∧ Hb r8 = some (.cells 39 [.lit (.slice none 0 0), iV 0] 0) ∧ SubH H0 Hb
theorem rest50 {H0 H : AH} {t : Nat → VV} {l : Line} {n r6 r8 r10 : Nat} {cs : List Int} {b : Int} (h : St50 H0 H t l n r6 r8 r10 cs b) (hcs : cs.length = n) (hn : (n : Int) ≤ 1000) {x : VV} (hx : x = .tuple [rowV (outF ⟨cs, b⟩).1, iV (outF ⟨cs, b⟩).2]) :
    vc ⟨Try.prog, 307, none⟩ c50_5 (P50 H0 x) ⟨t, []⟩ H := by
  subst hx
  obtain ⟨h3, h6, h8, h10, n6, n8, n10, d68, d610, d810, v, Hb, ho, k10, k6, k8, hs⟩ := h
  have q10 := ho.sub _ _ k10
  have q8 := ho.sub _ _ k8
  have hs' : SubH H0 H := hs.trans ho.sub
  unfold c50_5
  by_cases hb : far2 b = true
  · (repeat' (first | (simp only [↓s_reg, ↓s_seq, ↓s_cond, ↓s_condT, ↓s_ret, ↓s_nil, ↓s_consN, ↓s_thenN, ↓s_thenR, ↓s_kret, ↓s_putS, ↓s_putN, ↓s_dOkS, ↓s_dOkN, ↓s_ev_t, ↓s_ev_c, ↓s_ev_f, ↓s_upd, ↓s_assign, ↓s_load, ↓s_store, ↓s_un, ↓s_build, ↓s_fieldAddr, ↓s_callV, ↓s_callL, ↓s_un_not, ptrV, boolV, List.map_cons, List.map_nil, List.length_cons, List.length_nil, ite_true, ite_false, Nat.reduceEqDiff, Nat.reduceLT, Nat.reduceAdd, ne_eq, not_false_eq_true, true_and, Nat.succ_ne_self, vcBuild, fillV, setAt, List.all_cons, List.all_nil, Bool.and_self, eq_self, Nat.zero_add, List.drop, ldV_f, on_int, on_sl, cl_agg, List.set_cons_zero, List.set_cons_succ, Nat.le_refl, n_ldP, n_faP, n_ldA, n_ldB, n_faA, n_stP, n_stA, Int.reduceNeg, flT_39_1, ldT_3, szT_39, stT_39, en_55, far2_def, *]) | (refine guardL_splitTD ?_ ?_ <;> intro) | (refine guardL_splitFD ?_ ?_ <;> intro) | (refine guardP_splitTD ?_ ?_ <;> intro) | (refine guardP_splitFD ?_ ?_ <;> intro) | (refine condL_splitD ?_ ?_ <;> intro) | (refine guardL_splitT ?_ ?_ <;> intro) | (refine guardL_splitF ?_ ?_ <;> intro) | (refine guardP_splitT ?_ ?_ <;> intro) | (refine guardP_splitF ?_ ?_ <;> intro) | (refine condL_split ?_ ?_ <;> intro) | (refine ret_tmp ?_) | (refine acx_go rfl (fun _ _ _ h => h) ?_) | (refine acx_dreg mixed (fun _ _ _ _ e h => ⟨e.trans h.1, h.2⟩) _ (SubH.refl _) ?_) | (refine And.intro (SubH.new (by assumption)) ?_) | (refine allNew_intro fun zr zh => ?_; have zg := zh; (try simp only [AH.set_none] at zg)) | (exact SubH.refl _) | (refine SubH.of_set ?_ ?_) | assumption | (refine PureF.use (within55 _ _ (by decide)) ?_) | (with_reducible refine And.intro ?_ ?_)))
    simp only [outF, hb, Bool.true_or, if_true]
    exact bad50 (by simp only [s_upd, Nat.reduceEqDiff, if_false, *] <;> rfl) (by simp only [s_upd, Nat.reduceEqDiff, if_true, if_false, *] <;> rfl) (by rw [AH.set_same]) (hs'.of_set n8)
  · have hb' : far2 b = false := by simpa using hb
    clear hb
    (repeat' (first | (simp only [↓s_skip, ↓s_reg, ↓s_seq, ↓s_seqL, ↓s_cond, ↓s_condF, ↓s_block, ↓s_loop, ↓s_nil, ↓s_consN, ↓s_thenN, ↓s_kret, ↓s_putS, ↓s_dOkS, ↓s_ev_t, ↓s_ev_c, ↓s_ev_f, ↓s_upd, ↓s_assign, ↓s_load, ↓s_un, ↓s_fieldAddr, ↓s_callV, ↓s_callL, ↓s_un_not, ptrV, boolV, List.map_cons, List.map_nil, ite_true, ite_false, Nat.reduceEqDiff, Nat.reduceLT, ne_eq, not_false_eq_true, true_and, Nat.succ_ne_self, eq_self, Nat.zero_add, List.drop, ldV_f, n_ldP, n_faP, n_ldA, n_ldB, n_faA, Int.reduceNeg, flT_39_1, ldT_3, en_55, far2_def, *]) | (refine guardL_splitTD ?_ ?_ <;> intro) | (refine guardL_splitFD ?_ ?_ <;> intro) | (refine guardP_splitTD ?_ ?_ <;> intro) | (refine guardP_splitFD ?_ ?_ <;> intro) | (refine condL_splitD ?_ ?_ <;> intro) | (refine guardL_splitT ?_ ?_ <;> intro) | (refine guardL_splitF ?_ ?_ <;> intro) | (refine guardP_splitT ?_ ?_ <;> intro) | (refine guardP_splitF ?_ ?_ <;> intro) | (refine condL_split ?_ ?_ <;> intro) | (refine ret_tmp ?_) | (refine acx_go rfl (fun _ _ _ h => h) ?_) | (refine acx_dreg mixed (fun _ _ _ _ e h => ⟨e.trans h.1, h.2⟩) _ (SubH.refl _) ?_) | (refine And.intro (SubH.new (by assumption)) ?_) | (refine allNew_intro fun zr zh => ?_; have zg := zh; (try simp only [AH.set_none] at zg)) | (exact SubH.refl _) | (refine SubH.of_set ?_ ?_) | assumption | (refine PureF.use (within55 _ _ (by decide)) ?_) | (with_reducible refine And.intro ?_ ?_)))
    have hq : 0 < n → ∃ g c, v = .lit (.slice (some ⟨g, 0, none⟩) n c) ∧ H g = some (.cells 3 (encC intE cs) (c - n)) ∧ n ≤ c ∧ ¬ r8 = g ∧ ¬ r10 = g ∧ H0 g = none := fun hp => by
      rcases ho with ⟨_, h1, _, _⟩ | ⟨g, c, sp, rfl, hg, rfl, h1, h2, h3', h4⟩
      · omega
      · rw [ints_len] at h2
        refine ⟨g, c, by rw [hcs], ?_, by omega, ?_, ?_, hs.none hg⟩
        · rw [AH.set_same]; congr 2; omega
        · intro e; subst e; rw [hg] at k8; cases k8
        · intro e; subst e; rw [hg] at k10; cases k10
    have hv : n = 0 → GhV H v H0 (intsV []) := fun h0 => by
      have h0' : cs = [] := List.eq_nil_of_length_eq_zero (by omega)
      subst h0'
      exact (GhV.own ho).trans (GhV.forget hs _)
    refine acx_loop (fun _ _ _ h => h) (fun A H' => H' = H ∧ A.d = [] ∧ A.t 3 = iV n ∧ A.t 8 = ptrV r8 0 ∧ A.t 10 = ptrV r10 0 ∧ ∃ i : Nat, i ≤ n ∧ A.t 18 = iV i ∧ cs.any far2 = (cs.drop i).any far2)
      (fun A _ => match A.t 18 with | .lit (.int _ i) => ((n : Int) - i).toNat | _ => 0) ?_ ?_
    · exact ⟨rfl, rfl, (by simp only [s_upd, Nat.reduceEqDiff, if_false, *] <;> rfl), (by simp only [s_upd, Nat.reduceEqDiff, if_false, *] <;> rfl), (by simp only [s_upd, Nat.reduceEqDiff, if_false, *] <;> rfl), 0, by omega, rfl, rfl⟩
    · clear h3 h6 h8 h10
      rintro ⟨t, d⟩ H' ⟨rfl, rfl, h3, h8, h10, i, hi, h18, hgo⟩
      dsimp only at h3 h8 h10 h18
      unfold b50_5
      by_cases hp : i < n
      · obtain ⟨g, c, rfl, hg, hnc, d8g, d10g, hg0⟩ := hq (by omega)
        have hpc : i < cs.length := by omega
        have hd : cs.drop i = cs[i] :: cs.drop (i + 1) := List.drop_eq_getElem_cons hpc
        have hpi : (i : Int) < n := by omega
        by_cases hf : far2 cs[i] = true
        · have ha : cs.any far2 = true := by rw [hgo, hd, List.any_cons, hf, Bool.true_or]
          clear hgo hd
          (repeat' (first | (simp only [↓s_skip, ↓s_reg, ↓s_seq, ↓s_cond, ↓s_condT, ↓s_block, ↓s_ret, ↓s_nil, ↓s_consN, ↓s_thenN, ↓s_thenR, ↓s_inR, ↓s_kret, ↓s_putS, ↓s_putN, ↓s_dOkS, ↓s_dOkN, ↓s_ev_t, ↓s_ev_c, ↓s_ev_f, ↓s_upd, ↓s_move, ↓s_assign, ↓s_load, ↓s_store, ↓s_bin, ↓s_un, ↓s_build, ↓s_fieldAddr, ↓s_indexAddr, ↓s_callV, ↓s_callL, ↓s_un_not, ↓s_bin_lss, ptrV, boolV, List.map_cons, List.map_nil, List.length_cons, List.length_nil, ite_true, ite_false, Nat.reduceEqDiff, Nat.reduceLT, Nat.reduceAdd, ne_eq, not_false_eq_true, true_and, Nat.succ_ne_self, decide_true, Int.natCast_nonneg, Int.toNat_natCast, Nat.mul_one, vcBuild, fillV, setAt, List.all_cons, List.all_nil, Bool.and_self, eq_self, Nat.zero_add, Nat.add_zero, List.drop, and_self, ldV_f, on_int, on_sl, cl_agg, List.set_cons_zero, List.set_cons_succ, Nat.le_refl, n_ldP, n_faP, n_ixL, n_ixA2, n_ldA, n_ldB, n_faA, n_stP, n_stA, Int.reduceNeg, flT_39_0, ldT_3, ldT_37, szT_39, stT_39, en_55, far2_def, elT_37, ints_drop, *]) | (refine guardL_splitTD ?_ ?_ <;> intro) | (refine guardL_splitFD ?_ ?_ <;> intro) | (refine guardP_splitTD ?_ ?_ <;> intro) | (refine guardP_splitFD ?_ ?_ <;> intro) | (refine condL_splitD ?_ ?_ <;> intro) | (refine guardL_splitT ?_ ?_ <;> intro) | (refine guardL_splitF ?_ ?_ <;> intro) | (refine guardP_splitT ?_ ?_ <;> intro) | (refine guardP_splitF ?_ ?_ <;> intro) | (refine condL_split ?_ ?_ <;> intro) | (refine ret_tmp ?_) | (refine acx_go rfl (fun _ _ _ h => h) ?_) | (refine acx_dreg mixed (fun _ _ _ _ e h => ⟨e.trans h.1, h.2⟩) _ (SubH.refl _) ?_) | (refine And.intro (SubH.new (by assumption)) ?_) | (refine allNew_intro fun zr zh => ?_; have zg := zh; (try simp only [AH.set_none] at zg)) | (exact SubH.refl _) | (refine SubH.of_set ?_ ?_) | assumption | (refine PureF.use (within55 _ _ (by decide)) ?_) | (with_reducible refine And.intro ?_ ?_)))
          simp only [outF, ha, Bool.or_true, if_true]
          exact bad50 (by simp only [s_upd, Nat.reduceEqDiff, if_false, *] <;> rfl) (by simp only [s_upd, Nat.reduceEqDiff, if_true, if_false, *] <;> rfl) (by rw [AH.set_same]) (hs'.of_set n8)
        · have hf' : far2 cs[i] = false := by simpa using hf
          have ha : cs.any far2 = (cs.drop (i + 1)).any far2 := by rw [hgo, hd, List.any_cons, hf', Bool.false_or]
          clear hgo hd hf
          (repeat' (first | (simp only [↓s_skip, ↓s_reg, ↓s_seq, ↓s_cond, ↓s_condT, ↓s_condF, ↓s_block, ↓s_nil, ↓s_consN, ↓s_thenN, ↓s_inN, ↓s_kret, ↓s_putS, ↓s_dOkS, ↓s_ev_t, ↓s_ev_c, ↓s_ev_f, ↓s_upd, ↓s_move, ↓s_assign, ↓s_load, ↓s_bin, ↓s_un, ↓s_fieldAddr, ↓s_indexAddr, ↓s_callV, ↓s_callL, ↓s_un_not, ↓s_bin_lss, ↓s_bin_add, ptrV, boolV, List.map_cons, List.map_nil, ite_true, ite_false, Nat.reduceEqDiff, Nat.reduceLT, ne_eq, not_false_eq_true, true_and, Nat.succ_ne_self, decide_true, Int.natCast_nonneg, Int.toNat_natCast, Nat.mul_one, eq_self, Nat.zero_add, Nat.add_zero, List.drop, and_self, ldV_f, n_ldP, n_faP, n_ixL, n_ixA2, n_ldA, n_ldB, n_faA, Int.reduceNeg, flT_39_0, ldT_3, ldT_37, en_55, far2_def, elT_37, ints_drop, *]) | (refine guardL_splitTD ?_ ?_ <;> intro) | (refine guardL_splitFD ?_ ?_ <;> intro) | (refine guardP_splitTD ?_ ?_ <;> intro) | (refine guardP_splitFD ?_ ?_ <;> intro) | (refine condL_splitD ?_ ?_ <;> intro) | (refine guardL_splitT ?_ ?_ <;> intro) | (refine guardL_splitF ?_ ?_ <;> intro) | (refine guardP_splitT ?_ ?_ <;> intro) | (refine guardP_splitF ?_ ?_ <;> intro) | (refine condL_split ?_ ?_ <;> intro) | (refine ret_tmp ?_) | (refine acx_go rfl (fun _ _ _ h => h) ?_) | (refine acx_dreg mixed (fun _ _ _ _ e h => ⟨e.trans h.1, h.2⟩) _ (SubH.refl _) ?_) | (refine And.intro (SubH.new (by assumption)) ?_) | (refine allNew_intro fun zr zh => ?_; have zg := zh; (try simp only [AH.set_none] at zg)) | (exact SubH.refl _) | (refine SubH.of_set ?_ ?_) | assumption | (refine PureF.use (within55 _ _ (by decide)) ?_) | (with_reducible refine And.intro ?_ ?_)))
          · rw [wrap_ok (n := (i : Int) + 1) (by omega) (by omega)]
            exact ⟨i + 1, by omega, rfl, rfl⟩
          · rw [wrap_ok (n := (i : Int) + 1) (by omega) (by omega)]
            omega
      · have hpn : i = n := by omega
        subst hpn
        have ha : cs.any far2 = false := by rw [hgo, List.drop_eq_nil_of_le (by omega)]; rfl
        clear hgo hp
        unfold c50_4
        (repeat' (first | (simp only [↓s_skip, ↓s_reg, ↓s_seq, ↓s_cond, ↓s_block, ↓s_exit, ↓s_ret, ↓s_nil, ↓s_consN, ↓s_thenN, ↓s_thenE, ↓s_inE, ↓s_kret, ↓s_putS, ↓s_putN, ↓s_dOkS, ↓s_dOkN, ↓s_ev_t, ↓s_ev_c, ↓s_upd, ↓s_move, ↓s_assign, ↓s_load, ↓s_store, ↓s_bin, ↓s_fieldAddr, ↓s_indexAddr, ↓s_bin_lss, ptrV, List.length_cons, List.length_nil, ite_true, ite_false, Nat.reduceEqDiff, Nat.reduceLT, Nat.reduceAdd, ne_eq, not_false_eq_true, true_and, Nat.succ_ne_self, decide_true, decide_false, Bool.and_true, setAt, List.all_cons, List.all_nil, Bool.and_self, eq_self, Nat.zero_add, Nat.add_zero, List.drop, ldV_f, ldV_t2, Int.ofNat_lt, on_int, cl_agg, List.set_cons_zero, List.set_cons_succ, Nat.le_refl, n_ldP, n_faP, n_ldA, n_ldB, n_faA, n_stP, n_stA, flT_39_0, ldT_37, ldT_39, szT_39, *]) | (refine guardL_splitTD ?_ ?_ <;> intro) | (refine guardL_splitFD ?_ ?_ <;> intro) | (refine guardP_splitTD ?_ ?_ <;> intro) | (refine guardP_splitFD ?_ ?_ <;> intro) | (refine condL_splitD ?_ ?_ <;> intro) | (refine guardL_splitT ?_ ?_ <;> intro) | (refine guardL_splitF ?_ ?_ <;> intro) | (refine guardP_splitT ?_ ?_ <;> intro) | (refine guardP_splitF ?_ ?_ <;> intro) | (refine condL_split ?_ ?_ <;> intro) | (refine ret_tmp ?_) | (refine acx_go rfl (fun _ _ _ h => h) ?_) | (refine acx_dreg mixed (fun _ _ _ _ e h => ⟨e.trans h.1, h.2⟩) _ (SubH.refl _) ?_) | (refine And.intro (SubH.new (by assumption)) ?_) | (refine allNew_intro fun zr zh => ?_; have zg := zh; (try simp only [AH.set_none] at zg)) | (exact SubH.refl _) | (refine SubH.of_set ?_ ?_) | assumption | (with_reducible refine And.intro ?_ ?_)))
        · exfalso; omega
        · exact ho.cells.2
        · simp only [outF, hb', ha, Bool.or_false, Bool.false_eq_true, if_false]
          unfold P50
          refine retPost_ret rfl (x := .tuple [.agg [v, iV b], iV 0]) (by simp only [resV, resAll, resOne, ldT_39, s_upd, Nat.reduceEqDiff, if_true, if_false, AH.get, h8, ptrV, List.drop_zero, ldV_t2, Option.bind_some, Option.map_some, tupV]) ⟨_, rfl, ?_⟩
          rcases ho with ⟨rfl, h1, h2, rfl⟩ | ⟨g, c, sp, rfl, hg, rfl, h1, h2, h3', h4⟩
          · have h0' : cs = [] := List.eq_nil_of_length_eq_zero h1
            subst h0'
            exact GhV.tuple (GhL.cons (GhV.agg (GhL.cons ((GhV.nil _).trans (GhV.forget (hs.of_set n8) _)) (GhL.cons (GhV.refl _ _) (GhL.nil _)))) (GhL.cons (GhV.refl _ _) (GhL.nil _)))
          · have d8g : ¬ g = r8 := by intro e; subst e; rw [hg] at k8; cases k8
            exact GhV.tuple (GhL.cons (GhV.row (by rw [AH.get, if_neg d8g, AH.set_same]) h3' (hs'.of_set n8) (hs.none hg)) (GhL.cons (GhV.refl _ _) (GhL.nil _)))
end Go.PV.Ytefpjfpelicedaa
end
section
/- The reference's row of a line: its loops. -/
set_option linter.unusedVariables false
set_option linter.unusedSimpArgs false
set_option maxRecDepth 20000
set_option maxHeartbeats 4000000
namespace Go.PV.Ytefpjfpelicedaa
open Go Go.Proofs
theorem St50.next {H0 Hb H : AH} {t : Nat → VV} {l : Line} {n r6 r8 r10 : Nat} {cs : List Int} {b a : Int} {v v' : VV} (h3 : t 3 = iV n) (h6 : t 6 = ptrV r6 0) (h8 : t 8 = ptrV r8 0) (h10 : t 10 = ptrV r10 0)
    (n6 : H0 r6 = none) (n8 : H0 r8 = none) (n10 : H0 r10 = none) (d68 : ¬ r6 = r8) (d610 : ¬ r6 = r10) (d810 : ¬ r8 = r10)
    (k10 : Hb r10 = some (.cells 39 [v, iV b] 0)) (k6 : Hb r6 = some (.cells 83 (lineE l) 0)) (k8 : Hb r8 = some (.cells 39 [.lit (.slice none 0 0), iV 0] 0)) (hs : SubH H0 Hb)
    (ho : OwnX Hb H 3 1 v' (cs.length + 1) (encC intE cs ++ [iV a])) : St50 H0 (H.set r10 (.cells 39 [v', iV b] 0)) t l n r6 r8 r10 (cs ++ [a]) b := by
  refine ⟨h3, h6, h8, h10, n6, n8, n10, d68, d610, d810, v', Hb.set r10 (.cells 39 [v', iV b] 0), ?_, AH.set_same _ _ _, ?_, ?_, hs.of_set n10⟩
  · rw [List.length_append, encC_append]
    exact ho.put k10 _
  · rw [AH.get, if_neg d610]; exact k6
  · rw [AH.get, if_neg d810]; exact k8
theorem St50.bound {H0 Hb H : AH} {t : Nat → VV} {l : Line} {n r6 r8 r10 : Nat} {cs : List Int} {b b' : Int} {v : VV} (h3 : t 3 = iV n) (h6 : t 6 = ptrV r6 0) (h8 : t 8 = ptrV r8 0) (h10 : t 10 = ptrV r10 0)
    (n6 : H0 r6 = none) (n8 : H0 r8 = none) (n10 : H0 r10 = none) (d68 : ¬ r6 = r8) (d610 : ¬ r6 = r10) (d810 : ¬ r8 = r10)
    (k10 : Hb r10 = some (.cells 39 [v, iV b] 0)) (k6 : Hb r6 = some (.cells 83 (lineE l) 0)) (k8 : Hb r8 = some (.cells 39 [.lit (.slice none 0 0), iV 0] 0)) (hs : SubH H0 Hb)
    (ho : OwnX Hb H 3 1 v cs.length (encC intE cs)) : St50 H0 (H.set r10 (.cells 39 [v, iV b'] 0)) t l n r6 r8 r10 cs b' := by
  refine ⟨h3, h6, h8, h10, n6, n8, n10, d68, d610, d810, v, Hb.set r10 (.cells 39 [v, iV b'] 0), ho.put k10 _, AH.set_same _ _ _, ?_, ?_, hs.of_set n10⟩
  · rw [AH.get, if_neg d610]; exact k6
  · rw [AH.get, if_neg d810]; exact k8
theorem take_snoc {α : Type} {l : List α} {i : Nat} (h : i < l.length) : l.take (i + 1) = l.take i ++ [l[i]] := List.take_succ_eq_append_getElem h
theorem wide_get {r : Row} {n i : Nat} (hi : i < n) (h : i < (wideL r.c n).length) : (wideL r.c n)[i] = coeffF r i := by
  unfold coeffF
  simp only [wideL, List.getElem_take, List.getElem_append]
  split
  · rename_i h2
    rw [if_pos (by omega)]
    simp [List.getD_eq_getElem?_getD, h2]
  · rename_i h2
    rw [if_neg (by omega)]
    simp
theorem loop50a {H0 H : AH} {t : Nat → VV} {l : Line} {n r6 r8 r10 : Nat} {rows : List Row} {x : VV} (st : St50 H0 H t l n r6 r8 r10 [] 0) (h0 : t 0 = rowsV rows) (h12 : t 12 = iV 0) (ha0 : 0 ≤ l.a) (ha1 : l.a < (rows.length : Int)) (hn : (n : Int) ≤ 1000)
    (hx : x = .tuple [rowV (outF (wideR (rowAt rows l.a) n)).1, iV (outF (wideR (rowAt rows l.a) n)).2]) :
    ACx ⟨Try.prog, 307, none⟩ (.loop b50_1) (inBlockA 1 (thenA (ACx ⟨Try.prog, 307, none⟩ c50_1 (inBlockA 0 (thenA (ACx ⟨Try.prog, 307, none⟩ c50_5 (P50 H0 x)) (P50 H0 x)))) (inBlockA 0 (thenA (ACx ⟨Try.prog, 307, none⟩ c50_5 (P50 H0 x)) (P50 H0 x))))) ⟨t, []⟩ H := by
  have hlen : (wideL (rowAt rows l.a).c n).length = n := wide_len _ _
  refine acx_loop (fun _ _ _ h => h) (fun A H' => A.d = [] ∧ A.t 0 = rowsV rows ∧ ∃ i : Nat, i ≤ n ∧ A.t 12 = iV i ∧ St50 H0 H' A.t l n r6 r8 r10 ((wideL (rowAt rows l.a).c n).take i) 0)
    (fun A _ => match A.t 12 with | .lit (.int _ i) => ((n : Int) - i).toNat | _ => 0) ?_ ?_
  · exact ⟨rfl, h0, 0, by omega, h12, st⟩
  · clear st h0 h12
    rintro ⟨t, d⟩ H' ⟨rfl, h0, i, hi, h12, h3, h6, h8, h10, n6, n8, n10, d68, d610, d810, v, Hb, ho, k10, k6, k8, hs⟩
    dsimp only at h0 h12 h3 h6 h8 h10
    have q10 := ho.sub _ _ k10
    have q6 := ho.sub _ _ k6
    have hll : ((wideL (rowAt rows l.a).c n).take i).length = i := by rw [List.length_take]; omega
    unfold b50_1
    (repeat' (first | (simp only [↓s_skip, ↓s_reg, ↓s_seq, ↓s_cond, ↓s_block, ↓s_exit, ↓s_dreg, ↓s_nil, ↓s_consN, ↓s_thenN, ↓s_thenE, ↓s_inE, ↓s_kret, ↓s_putS, ↓s_dOkS, ↓s_ev_t, ↓s_ev_f, ↓s_upd, ↓s_move, ↓s_load, ↓s_bin, ↓s_buildSlice, ↓s_fieldAddr, ↓s_indexAddr, ↓s_callB, ↓s_callV, ↓s_callL, ↓s_append, ↓s_bin_lss, ptrV, List.map_cons, List.map_nil, List.length_cons, List.length_nil, List.append_nil, ite_true, ite_false, Nat.reduceEqDiff, Nat.reduceLT, Nat.reduceLeDiff, ne_eq, not_false_eq_true, true_and, Nat.succ_ne_self, decide_true, decide_false, reduceCtorEq, Nat.mul_one, ↓s_plFin, ↓s_plTkN, ↓s_plOneN, fillV, setAt, eq_self, Nat.zero_add, Nat.add_zero, List.drop, and_self, ldV_f, ldV_t2, Int.ofNat_lt, cl_int, List.set_cons_zero, Nat.le_refl, n_ldI, n_ldP, n_faP, n_ixS, n_ixA1, n_ldA, n_ldC, n_ldB, n_faA, ↓s_plK, ↓s_oneK, vcBuildSlice, List.replicate_succ, List.replicate_zero, List.flatten_cons, List.flatten_nil, rows_dropZ, flT_39_0, flT_83_1, ldT_37, ldT_3, ldT_39, elT_22, elT_37, zeroT_3, en_45, *]) | (refine guardL_splitTD ?_ ?_ <;> intro) | (refine guardL_splitFD ?_ ?_ <;> intro) | (refine guardP_splitTD ?_ ?_ <;> intro) | (refine guardP_splitFD ?_ ?_ <;> intro) | (refine condL_splitD ?_ ?_ <;> intro) | (refine guardL_splitT ?_ ?_ <;> intro) | (refine guardL_splitF ?_ ?_ <;> intro) | (refine guardP_splitT ?_ ?_ <;> intro) | (refine guardP_splitF ?_ ?_ <;> intro) | (refine condL_split ?_ ?_ <;> intro) | (refine ret_tmp ?_) | (refine acx_go rfl (fun _ _ _ h => h) ?_) | (refine acx_dreg mixed (fun _ _ _ _ e h => ⟨e.trans h.1, h.2⟩) _ (SubH.refl _) ?_) | (refine And.intro (SubH.new (by assumption)) ?_) | (refine allNew_intro fun zr zh => ?_; have zg := zh; (try simp only [AH.set_none] at zg)) | (exact SubH.refl _) | (refine SubH.of_set ?_ ?_) | assumption | (refine PureF.use (coeff45 _ _ (Int.natCast_nonneg _)) ?_) | (with_reducible refine And.intro ?_ ?_)))
    · have hlt : i < n := by assumption
      refine append_own elT_37 zeroT_3 rfl (by omega) ho rfl rfl (by omega) (by omega) (fun v' H'' ho2 => ?_)
      have q10' := ho2.sub _ _ k10
      have hc1 := ho2.cells.1
      have hc2 := ho2.cells.2
      clear q10
      (repeat' (first | (simp only [↓s_reg, ↓s_nil, ↓s_consN, ↓s_thenN, ↓s_inN, ↓s_kret, ↓s_putS, ↓s_putN, ↓s_dOkS, ↓s_dOkN, ↓s_ev_t, ↓s_ev_c, ↓s_upd, ↓s_move, ↓s_assign, ↓s_store, ↓s_bin, ↓s_fieldAddr, ↓s_bin_add, ptrV, List.length_cons, List.length_nil, ite_true, ite_false, Nat.reduceEqDiff, Nat.reduceLT, Nat.reduceAdd, Nat.reduceLeDiff, ne_eq, not_false_eq_true, true_and, Nat.succ_ne_self, reduceCtorEq, setAt, List.all_cons, List.all_nil, Bool.and_self, eq_self, Nat.zero_add, Nat.add_zero, List.set_cons_zero, n_faP, n_faA, n_stP, n_stA, flT_39_0, szT_37, *]) | (refine guardL_splitTD ?_ ?_ <;> intro) | (refine guardL_splitFD ?_ ?_ <;> intro) | (refine guardP_splitTD ?_ ?_ <;> intro) | (refine guardP_splitFD ?_ ?_ <;> intro) | (refine condL_splitD ?_ ?_ <;> intro) | (refine guardL_splitT ?_ ?_ <;> intro) | (refine guardL_splitF ?_ ?_ <;> intro) | (refine guardP_splitT ?_ ?_ <;> intro) | (refine guardP_splitF ?_ ?_ <;> intro) | (refine condL_split ?_ ?_ <;> intro) | (refine ret_tmp ?_) | (refine acx_go rfl (fun _ _ _ h => h) ?_) | (refine acx_dreg mixed (fun _ _ _ _ e h => ⟨e.trans h.1, h.2⟩) _ (SubH.refl _) ?_) | (refine And.intro (SubH.new (by assumption)) ?_) | (refine allNew_intro fun zr zh => ?_; have zg := zh; (try simp only [AH.set_none] at zg)) | (exact SubH.refl _) | (refine SubH.of_set ?_ ?_) | assumption | (with_reducible refine And.intro ?_ ?_)))
      all_goals rw [wrap_ok (n := (i : Int) + 1) (by omega) (by omega)]
      · refine ⟨i + 1, by omega, rfl, ?_⟩
        rw [take_snoc (by omega), wide_get hlt]
        exact St50.next (by simp only [s_upd, Nat.reduceEqDiff, if_false, *] <;> rfl) (by simp only [s_upd, Nat.reduceEqDiff, if_false, *] <;> rfl) (by simp only [s_upd, Nat.reduceEqDiff, if_false, *] <;> rfl) (by simp only [s_upd, Nat.reduceEqDiff, if_false, *] <;> rfl) n6 n8 n10 d68 d610 d810 k10 k6 k8 hs ho2
      · omega
    · have hin : i = n := by omega
      subst hin
      rw [List.take_of_length_le (by omega)] at ho
      have hc1 := ho.cells.1
      have hc2 := ho.cells.2
      unfold c50_1
      (repeat' (first | (simp only [↓s_reg, ↓s_nil, ↓s_consN, ↓s_thenN, ↓s_inN, ↓s_kret, ↓s_putS, ↓s_putN, ↓s_dOkS, ↓s_dOkN, ↓s_ev_t, ↓s_upd, ↓s_move, ↓s_load, ↓s_store, ↓s_fieldAddr, ↓s_indexAddr, ptrV, List.length_cons, List.length_nil, ite_true, ite_false, Nat.reduceEqDiff, Nat.reduceLT, Nat.reduceAdd, ne_eq, not_false_eq_true, true_and, Nat.succ_ne_self, reduceCtorEq, setAt, List.all_cons, List.all_nil, Bool.and_self, eq_self, Nat.zero_add, List.drop, and_self, ldV_f, cl_int, on_int, List.set_cons_zero, List.set_cons_succ, Nat.le_refl, n_ldI, n_ldP, n_faI, n_faP, n_ixS, n_ixA1, n_ldA, n_ldC, n_ldB, n_faA, n_stP, n_stA, rows_dropZ, flT_83_1, flT_39_1, ldT_3, szT_3, elT_22, *]) | (refine guardL_splitTD ?_ ?_ <;> intro) | (refine guardL_splitFD ?_ ?_ <;> intro) | (refine guardP_splitTD ?_ ?_ <;> intro) | (refine guardP_splitFD ?_ ?_ <;> intro) | (refine condL_splitD ?_ ?_ <;> intro) | (refine guardL_splitT ?_ ?_ <;> intro) | (refine guardL_splitF ?_ ?_ <;> intro) | (refine guardP_splitT ?_ ?_ <;> intro) | (refine guardP_splitF ?_ ?_ <;> intro) | (refine condL_split ?_ ?_ <;> intro) | (refine ret_tmp ?_) | (refine acx_go rfl (fun _ _ _ h => h) ?_) | (refine acx_dreg mixed (fun _ _ _ _ e h => ⟨e.trans h.1, h.2⟩) _ (SubH.refl _) ?_) | (refine And.intro (SubH.new (by assumption)) ?_) | (refine allNew_intro fun zr zh => ?_; have zg := zh; (try simp only [AH.set_none] at zg)) | (exact SubH.refl _) | (refine SubH.of_set ?_ ?_) | assumption | (with_reducible refine And.intro ?_ ?_)))
      exact rest50 (St50.bound (by simp only [s_upd, Nat.reduceEqDiff, if_false, *] <;> rfl) (by simp only [s_upd, Nat.reduceEqDiff, if_false, *] <;> rfl) (by simp only [s_upd, Nat.reduceEqDiff, if_false, *] <;> rfl) (by simp only [s_upd, Nat.reduceEqDiff, if_false, *] <;> rfl) n6 n8 n10 d68 d610 d810 k10 k6 k8 hs ho) hlen hn (by first | exact hx | rfl)
theorem loop50b {H0 H : AH} {t : Nat → VV} {l : Line} {n r6 r8 r10 : Nat} {rows made : List Row} {x : VV} (st : St50 H0 H t l n r6 r8 r10 [] 0) (h12 : t 13 = iV 0) (ha0 : 0 ≤ l.a) (ha1 : l.a < (n : Int)) (hn : (n : Int) ≤ 1000)
    (hx : x = .tuple [rowV (outF ⟨(List.replicate n 0).set l.a.toNat (-1), 0⟩).1, iV (outF ⟨(List.replicate n 0).set l.a.toNat (-1), 0⟩).2]) :
    ACx ⟨Try.prog, 307, none⟩ (.loop b50_2) (inBlockA 3 (inBlockA 0 (thenA (ACx ⟨Try.prog, 307, none⟩ c50_5 (P50 H0 x)) (P50 H0 x)))) ⟨t, []⟩ H := by
  obtain ⟨tgt, ht⟩ : ∃ tgt, tgt = (List.replicate n (0 : Int)).set l.a.toNat (-1) := ⟨_, rfl⟩
  rw [← ht] at hx
  have hlen : tgt.length = n := by simp [ht]
  have hget : ∀ (i : Nat) (h : i < tgt.length), tgt[i] = if (i : Int) = l.a then -1 else 0 := fun i h => by
    subst ht
    rw [List.getElem_set, List.getElem_replicate]
    split
    · rw [if_pos (by omega)]
    · rw [if_neg (by omega)]
  clear ht
  refine acx_loop (fun _ _ _ h => h) (fun A H' => A.d = [] ∧ ∃ i : Nat, i ≤ n ∧ A.t 13 = iV i ∧ St50 H0 H' A.t l n r6 r8 r10 (tgt.take i) 0)
    (fun A _ => match A.t 13 with | .lit (.int _ i) => ((n : Int) - i).toNat | _ => 0) ?_ ?_
  · exact ⟨rfl, 0, by omega, h12, st⟩
  · clear st h12
    rintro ⟨t, d⟩ H' ⟨rfl, i, hi, h12, ⟨h3, h6, h8, h10, n6, n8, n10, d68, d610, d810, v, Hb, ho, k10, k6, k8, hs⟩⟩
    dsimp only at h12 h3 h6 h8 h10
    have q10 := ho.sub _ _ k10
    have q6 := ho.sub _ _ k6
    have hll : (tgt.take i).length = i := by rw [List.length_take]; omega
    unfold b50_2
    (repeat' (first | (simp only [↓s_skip, ↓s_reg, ↓s_seq, ↓s_cond, ↓s_block, ↓s_exit, ↓s_nil, ↓s_consN, ↓s_thenN, ↓s_thenE, ↓s_inN, ↓s_inE, ↓s_kret, ↓s_putS, ↓s_dOkS, ↓s_ev_t, ↓s_ev_c, ↓s_upd, ↓s_move, ↓s_assign, ↓s_load, ↓s_bin, ↓s_buildSlice, ↓s_fieldAddr, ↓s_callB, ↓s_append, ↓s_bin_lss, ↓s_bin_eql, ptrV, List.map_cons, List.map_nil, List.length_cons, List.length_nil, List.append_nil, ite_true, ite_false, Nat.reduceEqDiff, Nat.reduceLT, Nat.reduceLeDiff, ne_eq, not_false_eq_true, true_and, Nat.succ_ne_self, decide_true, decide_false, reduceCtorEq, Nat.mul_one, fillV, setAt, eq_self, Nat.zero_add, Nat.add_zero, List.drop, and_self, ldV_f, Int.ofNat_lt, cl_int, List.set_cons_zero, Nat.le_refl, n_ldP, n_faP, n_ldA, n_ldB, n_faA, Int.reduceNeg, vcBuildSlice, List.replicate_succ, List.replicate_zero, List.flatten_cons, List.flatten_nil, flT_39_0, flT_83_1, ldT_37, ldT_3, elT_37, zeroT_3, *]) | (refine guardL_splitTD ?_ ?_ <;> intro) | (refine guardL_splitFD ?_ ?_ <;> intro) | (refine guardP_splitTD ?_ ?_ <;> intro) | (refine guardP_splitFD ?_ ?_ <;> intro) | (refine condL_splitD ?_ ?_ <;> intro) | (refine guardL_splitT ?_ ?_ <;> intro) | (refine guardL_splitF ?_ ?_ <;> intro) | (refine guardP_splitT ?_ ?_ <;> intro) | (refine guardP_splitF ?_ ?_ <;> intro) | (refine condL_split ?_ ?_ <;> intro) | (refine ret_tmp ?_) | (refine acx_go rfl (fun _ _ _ h => h) ?_) | (refine acx_dreg mixed (fun _ _ _ _ e h => ⟨e.trans h.1, h.2⟩) _ (SubH.refl _) ?_) | (refine And.intro (SubH.new (by assumption)) ?_) | (refine allNew_intro fun zr zh => ?_; have zg := zh; (try simp only [AH.set_none] at zg)) | (exact SubH.refl _) | (refine SubH.of_set ?_ ?_) | assumption | (with_reducible refine And.intro ?_ ?_)))
    all_goals try have hlt : i < n := by assumption
    · rename (i : Int) = l.a => he
      rw [← he]
      have he' := he.symm
      clear he
      refine append_own elT_37 zeroT_3 rfl (by omega) ho rfl rfl (by omega) (by omega) (fun v' H'' ho2 => ?_)
      have q10' := ho2.sub _ _ k10
      have hc1 := ho2.cells.1
      have hc2 := ho2.cells.2
      clear q10
      (repeat' (first | (simp only [↓s_reg, ↓s_nil, ↓s_consN, ↓s_thenN, ↓s_inN, ↓s_kret, ↓s_putS, ↓s_putN, ↓s_dOkS, ↓s_dOkN, ↓s_ev_t, ↓s_ev_c, ↓s_upd, ↓s_move, ↓s_assign, ↓s_store, ↓s_bin, ↓s_fieldAddr, ↓s_bin_add, ptrV, List.length_cons, List.length_nil, ite_true, ite_false, Nat.reduceEqDiff, Nat.reduceLT, Nat.reduceAdd, Nat.reduceLeDiff, ne_eq, not_false_eq_true, true_and, Nat.succ_ne_self, setAt, List.all_cons, List.all_nil, Bool.and_self, eq_self, Nat.zero_add, Nat.add_zero, List.set_cons_zero, n_faP, n_faA, n_stP, n_stA, Int.reduceNeg, flT_39_0, szT_37, *]) | (refine guardL_splitTD ?_ ?_ <;> intro) | (refine guardL_splitFD ?_ ?_ <;> intro) | (refine guardP_splitTD ?_ ?_ <;> intro) | (refine guardP_splitFD ?_ ?_ <;> intro) | (refine condL_splitD ?_ ?_ <;> intro) | (refine guardL_splitT ?_ ?_ <;> intro) | (refine guardL_splitF ?_ ?_ <;> intro) | (refine guardP_splitT ?_ ?_ <;> intro) | (refine guardP_splitF ?_ ?_ <;> intro) | (refine condL_split ?_ ?_ <;> intro) | (refine ret_tmp ?_) | (refine acx_go rfl (fun _ _ _ h => h) ?_) | (refine acx_dreg mixed (fun _ _ _ _ e h => ⟨e.trans h.1, h.2⟩) _ (SubH.refl _) ?_) | (refine And.intro (SubH.new (by assumption)) ?_) | (refine allNew_intro fun zr zh => ?_; have zg := zh; (try simp only [AH.set_none] at zg)) | (exact SubH.refl _) | (refine SubH.of_set ?_ ?_) | assumption | (with_reducible refine And.intro ?_ ?_)))
      all_goals rw [wrap_ok (n := (i : Int) + 1) (by omega) (by omega)]
      · refine ⟨i + 1, by omega, rfl, ?_⟩
        rw [take_snoc (by omega), hget, if_pos (by omega)]
        exact St50.next (by simp only [s_upd, Nat.reduceEqDiff, if_false, *] <;> rfl) (by simp only [s_upd, Nat.reduceEqDiff, if_false, *] <;> rfl) (by simp only [s_upd, Nat.reduceEqDiff, if_false, *] <;> rfl) (by simp only [s_upd, Nat.reduceEqDiff, if_false, *] <;> rfl) n6 n8 n10 d68 d610 d810 k10 k6 k8 hs ho2
      · omega
    · have he : ¬ (i : Int) = l.a := by assumption
      refine append_own elT_37 zeroT_3 rfl (by omega) ho rfl rfl (by omega) (by omega) (fun v' H'' ho2 => ?_)
      have q10' := ho2.sub _ _ k10
      have hc1 := ho2.cells.1
      have hc2 := ho2.cells.2
      clear q10
      (repeat' (first | (simp only [↓s_reg, ↓s_nil, ↓s_consN, ↓s_thenN, ↓s_inN, ↓s_kret, ↓s_putS, ↓s_putN, ↓s_dOkS, ↓s_dOkN, ↓s_ev_t, ↓s_ev_c, ↓s_upd, ↓s_move, ↓s_assign, ↓s_store, ↓s_bin, ↓s_fieldAddr, ↓s_bin_add, ptrV, List.length_cons, List.length_nil, ite_true, ite_false, Nat.reduceEqDiff, Nat.reduceLT, Nat.reduceAdd, Nat.reduceLeDiff, ne_eq, not_false_eq_true, true_and, Nat.succ_ne_self, setAt, List.all_cons, List.all_nil, Bool.and_self, eq_self, Nat.zero_add, Nat.add_zero, List.set_cons_zero, n_faP, n_faA, n_stP, n_stA, flT_39_0, szT_37, *]) | (refine guardL_splitTD ?_ ?_ <;> intro) | (refine guardL_splitFD ?_ ?_ <;> intro) | (refine guardP_splitTD ?_ ?_ <;> intro) | (refine guardP_splitFD ?_ ?_ <;> intro) | (refine condL_splitD ?_ ?_ <;> intro) | (refine guardL_splitT ?_ ?_ <;> intro) | (refine guardL_splitF ?_ ?_ <;> intro) | (refine guardP_splitT ?_ ?_ <;> intro) | (refine guardP_splitF ?_ ?_ <;> intro) | (refine condL_split ?_ ?_ <;> intro) | (refine ret_tmp ?_) | (refine acx_go rfl (fun _ _ _ h => h) ?_) | (refine acx_dreg mixed (fun _ _ _ _ e h => ⟨e.trans h.1, h.2⟩) _ (SubH.refl _) ?_) | (refine And.intro (SubH.new (by assumption)) ?_) | (refine allNew_intro fun zr zh => ?_; have zg := zh; (try simp only [AH.set_none] at zg)) | (exact SubH.refl _) | (refine SubH.of_set ?_ ?_) | assumption | (with_reducible refine And.intro ?_ ?_)))
      all_goals rw [wrap_ok (n := (i : Int) + 1) (by omega) (by omega)]
      · refine ⟨i + 1, by omega, rfl, ?_⟩
        rw [take_snoc (by omega), hget, if_neg (by omega)]
        exact St50.next (by simp only [s_upd, Nat.reduceEqDiff, if_false, *] <;> rfl) (by simp only [s_upd, Nat.reduceEqDiff, if_false, *] <;> rfl) (by simp only [s_upd, Nat.reduceEqDiff, if_false, *] <;> rfl) (by simp only [s_upd, Nat.reduceEqDiff, if_false, *] <;> rfl) n6 n8 n10 d68 d610 d810 k10 k6 k8 hs ho2
      · omega
    · have hin : i = n := by omega
      subst hin
      rw [List.take_of_length_le (by omega)] at ho
      exact rest50 ⟨(by simp only [s_upd, Nat.reduceEqDiff, if_false, *] <;> rfl), (by simp only [s_upd, Nat.reduceEqDiff, if_false, *] <;> rfl), (by simp only [s_upd, Nat.reduceEqDiff, if_false, *] <;> rfl), (by simp only [s_upd, Nat.reduceEqDiff, if_false, *] <;> rfl), n6, n8, n10, d68, d610, d810, v, Hb, ho, k10, k6, k8, hs⟩ hlen hn (by first | exact hx | rfl)
end Go.PV.Ytefpjfpelicedaa
end
