/- Part 6 of 9 of what the proof of Matches needs. -/
import Derived.Test.YtglpmlbbaedbiaaMatches4
import Derived.Test.YtglpmlbbaedbiaaMatches5
section
/- Regions whose guards hang on what was left out. -/
set_option linter.unusedVariables false
set_option linter.unusedSimpArgs false
namespace Go.PV
open Go
def guard2 (x : VV) (want : Bool) (cx : Cx) (d : Option Tmp) (op : Op) (k : AF → AH → Prop) (Q : APost) (A : AF) (H : AH) : Prop :=
  match x with
  | .lit (.bool t) => (if t = want then vcDo cx ⟨d, op, none⟩ k Q A H else (dOk cx.N d ∧ callOk cx.P op A ∧ k (A.put d undefV) H))
  | .lit (.tuple _) => dOk cx.N d ∧ callOk cx.P op A ∧ k (A.put d undefV) H
  | _ => False
def vcG2 (cx : Cx) (o : GOp) (k : AF → AH → Prop) (Q : APost) (A : AF) (H : AH) : Prop :=
  match o.g with
  | none => vcDo cx ⟨o.dst, o.op, none⟩ k Q A H
  | some (d, want) => guard2 (A.t d) want cx o.dst o.op k Q A H
def vcL2 (cx : Cx) : List GOp → APost → AF → AH → Prop
  | [], Q => Q .normal
  | o :: l, Q => vcG2 cx o (vcL2 cx l Q) Q
section
variable {cx : Cx} {Q : APost} {S : Nat → Prop} {H : AH} {w : World} {A : AF} {a : Act}
theorem not_wanted {ops : Array Oper} {o : Oper} (hf : RvF cx.N S w A a) {want : Bool} {d : Tmp} {vs : Array Value} (he : (gopOf ops o).g = some (d, want)) (hb : A.t d = .lit (.tuple vs)) : Region.wanted o (yielded ops a.tmps) = false := by
  have hr := hf.2.2 d
  rw [hb] at hr
  have hr' : a.tmps.getD d undef = .tuple vs := hr
  simp only [gopOf] at he
  cases hgd : o.guard with
  | none => simp [hgd] at he
  | some p =>
    obtain ⟨j, w'⟩ := p
    simp only [hgd, Option.bind_some, Option.map_eq_some_iff, Prod.mk.injEq] at he
    obtain ⟨d', hj, rfl, rfl⟩ := he
    simp only [Region.wanted, hgd, yielded, hj, Option.bind_some]
    rcases Nat.lt_or_ge d' a.tmps.size with hlt | hge
    · have ht : a.tmps[d']? = some (.tuple vs) := by
        rw [Array.getElem?_eq_getElem hlt]
        congr 1
        simpa [Array.getD, hlt] using hr'
      rw [ht]; cases w' <;> rfl
    · rw [Array.getElem?_eq_none hge]; cases w' <;> rfl
theorem vcG2_sound {ops : Array Oper} {o : Oper} {next : AF → AH → Prop} (hg : gOk ops o = true) (h : vcG2 cx (gopOf ops o) next Q A H) {S0 : Nat → Prop} {H0 : AH} {w0 : World} (k : Step S0 H0 w0 S H w) (hs : Sim S H w) (hf : RvF cx.N S w A a) (nx : Act → World → Prop)
    (h1 : ∀ S' H' A' a' w', Step S0 H0 w0 S' H' w' → Sim S' H' w' → RvF cx.N S' w' A' a' → next A' H' → nx a' w') :
    if Region.wanted o (yielded ops a.tmps) then o.wpIn (wideAt cx.P cx.ro) 0 cx.P a w nx (LQ cx Q S0 H0 w0) else (∀ f, o.about cx.P w a.eval = some f → (wideAt cx.P cx.ro).fn f) ∧ nx (a.put o.dst undef) w := by
  unfold vcG2 at h
  split at h
  · rename_i he
    refine vcG_sound hg ?_ k hs hf nx h1
    unfold vcG
    rw [he]
    exact h
  · rename_i d want he
    unfold guard2 at h
    split at h
    · rename_i b hb
      refine vcG_sound hg ?_ k hs hf nx h1
      unfold vcG
      rw [he]
      simp only [hb]
      exact h
    · rename_i vs hb
      have hw := not_wanted (ops := ops) (o := o) hf he hb
      rw [hw, if_neg (by simp)]
      refine ⟨callOk_about h.2.1 hf, h1 S H _ _ w k hs (RvF.put hf (x := undefV) (u := undef) ?_ rfl) h.2.2⟩
      intro d' hd'
      have h2 : dOk cx.N o.dst := h.1
      rw [hd'] at h2
      exact h2
    · exact h.elim
theorem vcL2_sound {ops : Array Oper} : ∀ (is : List Nat) (l : List Oper) (A : AF) (H : AH) (S : Nat → Prop) (w : World) (a : Act) (S0 : Nat → Prop) (H0 : AH) (w0 : World),
    (∀ j : Nat, l[j]? = (is[j]?).bind fun i : Nat => ops[i]?) → is.length = l.length → (∀ o ∈ l, gOk ops o = true) → vcL2 cx (l.map (gopOf ops)) Q A H → Step S0 H0 w0 S H w → Sim S H w → RvF cx.N S w A a →
    wpOpsIn (wideAt cx.P cx.ro) 0 cx.P ops (LQ cx Q S0 H0 w0) is a w
  | [], l, A, H, S, w, a, S0, H0, w0, hl, hlen, hg, h, k, hs, hf => by
    have : l = [] := List.eq_nil_of_length_eq_zero (by simpa using hlen.symm)
    subst this
    exact ⟨by simp, S, H, A, k, hs, hf, h⟩
  | i :: is, [], A, H, S, w, a, S0, H0, w0, hl, hlen, hg, h, k, hs, hf => by simp at hlen
  | i :: is, o :: l, A, H, S, w, a, S0, H0, w0, hl, hlen, hg, h, k, hs, hf => by
    have ho : ops[i]? = some o := by have := hl 0; simpa using this.symm
    simp only [wpOpsIn, ho]
    exact vcG2_sound (hg o (by simp)) h k hs hf _ fun S' H' A' a' w' g1 g2 g3 g4 =>
      vcL2_sound is l A' H' S' w' a' S0 H0 w0 (fun j => by have := hl (j + 1); simpa using this) (by simpa using hlen) (fun o' ho' => hg o' (by simp [ho'])) g4 g1 g2 g3
theorem ac_region2 {id : Nat} {ops : Array Oper} (hg : ops.all (gOk ops) = true) (h : vcL2 cx (ops.toList.map (gopOf ops)) Q A H) : AC cx (.region id ops false) Q A H := by
  intro S w a hs hf
  refine wpIn_region (vcL2_sound (List.range ops.size) ops.toList A H S w a S H w ?_ (by simp) ?_ h (.refl _ _ _) hs hf)
  · intro j
    by_cases hj : j < ops.size
    · rw [List.getElem?_range hj]
      simp
    · rw [List.getElem?_eq_none (by simpa using hj), List.getElem?_eq_none (by simpa using hj)]
      rfl
  · intro o ho
    exact Array.all_eq_true_iff_forall_mem.1 hg o (by simpa using ho)
end
theorem compileD_reg {P : Program} {ops : Array Oper} {l : List GOp} : compileD P ops ≠ .reg l := by
  unfold compileD
  dsimp only
  split
  · split
    · intro h; cases h
    · intro h; cases h
  · intro h; cases h
theorem acx_reg2 {cx : Cx} {l : List GOp} {Q : APost} {A : AF} {H : AH} (h : vcL2 cx l Q A H) : ACx cx (.reg l) Q A H := by
  intro c hc
  cases c with
  | region id ops draw =>
    simp only [compile] at hc
    split at hc
    · exact absurd hc compileD_reg
    · rename_i hd
      have hd' : draw = false := by simpa using hd
      subst hd'
      split at hc
      · rename_i hg
        injection hc with hc
        subst hc
        exact ac_region2 hg h
      · cases hc
  | seq x y => simp only [compile] at hc; split at hc <;> cases hc
  | _ => simp only [compile] at hc; cases hc
theorem acx_seqA {cx : Cx} {a b : ACode} {Q : APost} {K : AF → AH → Prop} {A : AF} {H : AH} (hK : ∀ A H, K A H → ACx cx b Q A H) (h : ACx cx a (thenA K Q) A H) : ACx cx (.seq a b) Q A H := by
  intro c hc
  cases c with
  | seq x y =>
    simp only [compile] at hc
    split at hc
    · cases hc
    · injection hc with h1 h2
      refine ac_seq ((h x h1).mono ?_)
      intro e A' H' hq
      cases e with
      | normal => exact hK A' H' hq y h2
      | _ => exact hq
  | region id ops draw =>
    simp only [compile] at hc
    split at hc
    · exact absurd hc compileD_seq
    · split at hc <;> cases hc
  | _ => simp only [compile] at hc; cases hc
section
variable {cx : Cx} {Q : APost} {k : AF → AH → Prop} {A : AF} {H : AH} {d : Option Tmp} {op : Op} {l : List GOp}
@[congr] theorem guard2_congr {x x' : VV} {want : Bool} (h : x = x') : guard2 x want cx d op k Q A H = guard2 x' want cx d op k Q A H := by rw [h]
end
end Go.PV
end
section
/- put. -/
set_option linter.unusedVariables false
set_option linter.unusedSimpArgs false
set_option maxRecDepth 20000
set_option maxHeartbeats 4000000
namespace Go.PV.Ytglpmlbbaedbiaa
open Go Go.Proofs
/-- The last binding of a name. -/
def lastB (l : List Bd) (n : ByteArray) : Option Ex := (l.reverse.find? fun b => decide (b.1 = n)).map (·.2)
mutual
def Ex.put : Ex → List Bd → Ex
  | .mk op n ks, l => match (if op = 1 then lastB l n else none) with
    | some e => e
    | none => .mk op n (exsPut ks (if op = 5 then l.filter (fun b => !decide (b.1 = n)) else l))
def exsPut : List Ex → List Bd → List Ex
  | [], _ => []
  | k :: ks, l => k.put l :: exsPut ks l
end
theorem exsPut_eq : ∀ (ks : List Ex) (l : List Bd), exsPut ks l = ks.map (·.put l)
  | [], _ => rfl
  | k :: ks, l => by rw [exsPut, List.map_cons, exsPut_eq ks l]
theorem Ex.put_eq (e : Ex) (l : List Bd) : e.put l = match (if e.op = 1 then lastB l e.name else none) with
    | some x => x
    | none => .mk e.op e.name (e.kids.map (·.put (if e.op = 5 then l.filter (fun b => !decide (b.1 = e.name)) else l))) := by
  cases e; rw [Ex.put, exsPut_eq]; rfl
def Zx : List VV := [.lit (.int .i64 0), .lit (.string { data := #[] }), .lit (.slice none 0 0)]
def retOnly (Q : APost) : APost
  | .ret => Q .ret
  | _ => fun _ _ => False
theorem retOnly_go (Q : APost) : noGoto (retOnly Q) := fun _ _ _ h => h
theorem retOnly_pan (Q : APost) : panQ (retOnly Q) := fun _ _ _ _ _ h => h.elim
theorem retOnly_le {cx : Cx} {a : ACode} {Q : APost} {A : AF} {H : AH} (h : ACx cx a (retOnly Q) A H) : ACx cx a Q A H := fun c hc => (h c hc).mono fun e A H hq => by
  cases e with
  | ret => exact hq
  | _ => exact hq.elim
theorem put_tail {op : Int} {nm : ByteArray} {kids : List Ex} {l : List Bd} {t : Nat → VV} {d : List Deferred} {B : AH} {r2 r4 : Nat} {Q : APost} (hN : kids.length ≤ 1099511627776)
    (ih : ∀ i (h : i < kids.length), PureF Try.prog 36 [exV kids[i], bdsV l] (exV (kids[i].put l)))
    (h1 : t 1 = bdsV l) (h2 : t 2 = ptrV r2 0) (h4 : t 4 = ptrV r4 0) (k2 : B r2 = some (.cells 34 [iV op, sV nm, encS exE kids] 0)) (k4 : B r4 = some (.cells 34 Zx 0))
    (hK : ∀ t' r, B r = none → t' 4 = ptrV r4 0 → Q .ret ⟨t', d⟩ ((B.set r (.cells 34 [iV op, sV nm, encS exE (kids.map (·.put l))] 0)).set r4 (.cells 34 [iV op, sV nm, encS exE (kids.map (·.put l))] 0))) :
    ACx ⟨Try.prog, 53, none⟩ c36_2 Q ⟨t, d⟩ B := by
  refine retOnly_le ?_
  have hQ := retOnly_go Q
  have hP := retOnly_pan Q
  replace hK : ∀ t' r, B r = none → t' 4 = ptrV r4 0 → retOnly Q .ret ⟨t', d⟩ ((B.set r (.cells 34 [iV op, sV nm, encS exE (kids.map (·.put l))] 0)).set r4 (.cells 34 [iV op, sV nm, encS exE (kids.map (·.put l))] 0)) := hK
  generalize retOnly Q = Q at *
  refine acx_go rfl hQ ?_
  unfold c36_2
  (repeat' (first | (simp only [↓s_reg, ↓s_seq, ↓s_seqL, ↓s_block, ↓s_loop, ↓s_nil, ↓s_consN, ↓s_thenN, ↓s_kret, ↓s_putS, ↓s_putN, ↓s_dOkS, ↓s_dOkN, ↓s_ev_t, ↓s_ev_c, ↓s_upd, ↓s_move, ↓s_load, ↓s_store, ↓s_alloc, ↓s_build, ↓s_fieldAddr, ↓s_callB, ↓s_len, ptrV, intV, List.map_cons, List.map_nil, List.length_cons, List.length_nil, ite_true, ite_false, Nat.reduceEqDiff, Nat.reduceLT, Nat.reduceAdd, Nat.reduceLeDiff, ne_eq, not_false_eq_true, true_and, Nat.succ_ne_self, reduceCtorEq, AH.get, AH.set_set, vcBuild, fillV, setAt, List.all_cons, List.all_nil, Bool.and_self, eq_self, Nat.zero_add, Nat.add_zero, List.drop, and_self, List.getElem?_cons_zero, List.getElem?_cons_succ, ldV_f, cl_int, on_int, cl_str, on_str, on_sl, cl_agg, List.set_cons_zero, List.set_cons_succ, ↓n_alloc, n_allocS, Nat.le_refl, n_ldP, n_faP, n_lenS, n_ldA, n_ldB, n_faA, n_stP, n_stA, flT_34_2, flT_34_0, flT_34_1, ldT_32, ldT_3, ldT_9, szT_34, stT_34, zeroT_34, elT_32, *]) | (refine allNew_intro fun zr zh => ?_; have zg := zh; (try simp only [AH.set_none] at zg); (try have zn_k2 := AH.ne_of k2 zh); (try have zn_k2 := AH.ne_of k2 zg.2); (try have zn_k2 := AH.ne_of k2 zg.2.2); (try have zn_k4 := AH.ne_of k4 zh); (try have zn_k4 := AH.ne_of k4 zg.2); (try have zn_k4 := AH.ne_of k4 zg.2.2))))
  obtain ⟨ks, hks⟩ : ∃ ks, ks = kids.map (·.put l) := ⟨_, rfl⟩
  have hkl : ks.length = kids.length := by rw [hks]; simp
  have hki : ∀ i (h : i < kids.length) (h' : i < ks.length), kids[i].put l = ks[i] := fun i h h' => by simp only [hks, List.getElem_map]
  rw [← hks] at hK
  clear hks
  have hin : InB B (B.set zr (.cells 34 [iV op, sV nm, .lit (.slice none 0 0)] 0)) zr 34 [iV op, sV nm] [] 34 3 0 [] (.lit (.slice none 0 0)) _ :=
    InB.start (AH.set_same _ _ _) (SubH.new zh) zh
  refine acx_loop hQ (fun A H => A.d = d ∧ A.t 1 = bdsV l ∧ A.t 4 = ptrV r4 0 ∧ A.t 7 = ptrV zr 0 ∧ A.t 37 = exsV kids ∧ A.t 38 = iV kids.length ∧ ∃ (i : Nat) (v : VV) (Hb : AH), i ≤ kids.length ∧ A.t 39 = iV i ∧ InB B H zr 34 [iV op, sV nm] [] 34 3 i (encC exE (ks.take i)) v Hb)
    (fun A _ => match A.t 39 with | .lit (.int _ i) => ((kids.length : Int) - i).toNat | _ => 0) ?_ ?_
  · exact ⟨rfl, (by simp only [s_upd, Nat.reduceEqDiff, if_false, *] <;> rfl), (by simp only [s_upd, Nat.reduceEqDiff, if_false, *] <;> rfl), (by simp only [s_upd, Nat.reduceEqDiff, if_true, if_false, *] <;> rfl), (by simp only [s_upd, Nat.reduceEqDiff, if_true, if_false, *] <;> rfl), (by simp only [s_upd, Nat.reduceEqDiff, if_true, if_false, *] <;> rfl), 0, _, _, by omega, (by simp only [s_upd, Nat.reduceEqDiff, if_true, if_false, *] <;> rfl), hin⟩
  · clear hin h1 h2 h4
    rintro ⟨t, d'⟩ H ⟨rfl, h1, h4, h7, h37, h38, i, v, Hb, hi, h39, hb⟩
    dsimp only at h1 h4 h7 h37 h38 h39
    have q7 := hb.at
    unfold b36_1
    (repeat' (first | (refine acx_dreg mixed (fun c A A' H e h => hP c A A' H e h) _ (SubH.refl _) ?_) | (simp only [↓s_skip, ↓s_reg, ↓s_seq, ↓s_cond, ↓s_block, ↓s_exit, ↓s_dreg, ↓s_nil, ↓s_consN, ↓s_thenN, ↓s_thenE, ↓s_inE, ↓s_kret, ↓s_putS, ↓s_putN, ↓s_dOkS, ↓s_dOkN, ↓s_ev_t, ↓s_ev_f, ↓s_upd, ↓s_move, ↓s_load, ↓s_store, ↓s_bin, ↓s_alloc, ↓s_buildSlice, ↓s_fieldAddr, ↓s_indexAddr, ↓s_callB, ↓s_callV, ↓s_callL, ↓s_append, ↓s_bin_lss, ptrV, List.map_cons, List.map_nil, List.length_cons, List.length_nil, List.cons_append, List.nil_append, List.append_nil, ite_true, ite_false, Nat.reduceEqDiff, Nat.reduceLT, Nat.reduceAdd, Nat.reduceMul, Nat.reduceLeDiff, ne_eq, not_false_eq_true, true_and, Nat.succ_ne_self, decide_true, decide_false, Int.natCast_nonneg, Int.toNat_natCast, ↓s_plFin, ↓s_plTkN, ↓s_plOneN, AH.get, AH.set_set, fillV, setAt, List.all_cons, List.all_nil, Bool.and_self, eq_self, Nat.zero_add, List.drop, and_self, ldV_f, ldV_t3, Int.ofNat_lt, on_int, on_str, cl_agg, on_slice, List.set_cons_zero, List.set_cons_succ, ↓n_alloc, n_allocS, Nat.le_refl, n_ldI, n_ldP, n_faP, n_ixS, n_ixA1, n_ldA, n_ldC, n_ldB, n_faA, n_stP, n_stA, ↓s_plK, ↓s_oneK, vcBuildSlice, List.replicate_succ, List.replicate_zero, List.flatten_cons, List.flatten_nil, ex_drop, vcBuildSlice, flT_34_2, ldT_34, ldT_32, szT_34, zeroT_34, elT_32, en_36, *]) | (refine condL_splitD ?_ ?_ <;> intro) | (refine allNew_intro fun zr zh => ?_; have zg := zh; (try simp only [AH.set_none] at zg); (try have zn_q7 := AH.ne_of q7 zh); (try have zn_q7 := AH.ne_of q7 zg.2); (try have zn_q7 := AH.ne_of q7 zg.2.2)) | (exact SubH.refl _) | (refine PureF.use (ih _ (by assumption)) ?_) | (with_reducible refine And.intro ?_ ?_)))
    · have hlt : i < kids.length := by assumption
      have hb1 := hb.alloc (by assumption) (.cells 34 [iV kids[i].op, sV kids[i].name, encS exE kids[i].kids] 0)
      refine append_one elT_32 zeroT_34 rfl (by omega) hb1.own rfl rfl (by omega) (by omega) (fun v' H' ho => ?_)
      have hb2 := hb1.next ho
      have q7' := ho.sub _ _ hb1.blk
      have hc1 := ho.cells.1
      have hc2 := ho.cells.2
      clear hb1 hb q7 ho
      (repeat' (first | (simp only [↓s_reg, ↓s_nil, ↓s_consN, ↓s_thenN, ↓s_inN, ↓s_kret, ↓s_putS, ↓s_putN, ↓s_dOkS, ↓s_dOkN, ↓s_ev_t, ↓s_ev_c, ↓s_upd, ↓s_move, ↓s_store, ↓s_bin, ↓s_fieldAddr, ↓s_bin_add, ptrV, List.length_cons, List.length_nil, List.cons_append, List.nil_append, ite_true, ite_false, Nat.reduceEqDiff, Nat.reduceLT, Nat.reduceAdd, ne_eq, not_false_eq_true, true_and, Nat.succ_ne_self, setAt, List.all_cons, List.all_nil, Bool.and_self, eq_self, Nat.zero_add, List.set_cons_zero, List.set_cons_succ, Nat.le_refl, n_faP, n_faA, n_stP, n_stA, flT_34_2, szT_32, *]) | (with_reducible refine And.intro ?_ ?_)))
      all_goals rw [wrap_ok (n := (i : Int) + 1) (by omega) (by omega)]
      · rw [← ex_take (by omega)] at hb2
        exact ⟨i + 1, v', _, by omega, rfl, hb2⟩
      · omega
    · have hie : i = kids.length := by omega
      subst hie
      rw [List.take_of_length_le (by omega)] at hb
      refine acx_ghost (hb.ghost _ _) ?_
      have n7 := hb.new
      have hx : Blk.cells 34 ([iV op, sV nm] ++ [.slice false kids.length (encC exE ks)]) 0 = .cells 34 [iV op, sV nm, encS exE ks] 0 := by rw [← hkl]; rfl
      rw [hx]
      clear hb q7 hx
      have d47 := AH.ne_of k4 n7
      refine acx_go rfl hQ ?_
      unfold c36_1
      (repeat' (first | (simp only [↓s_reg, ↓s_seq, ↓s_ret, ↓s_nil, ↓s_consN, ↓s_thenN, ↓s_kret, ↓s_putS, ↓s_putN, ↓s_dOkS, ↓s_dOkN, ↓s_ev_t, ↓s_upd, ↓s_load, ↓s_store, ptrV, List.length_cons, List.length_nil, ite_true, ite_false, Nat.reduceEqDiff, Nat.reduceLT, Nat.reduceAdd, true_and, AH.get, setAt, List.all_cons, List.all_nil, Bool.and_self, eq_self, Nat.zero_add, List.drop, ldV_t3, on_int, on_str, cl_agg, on_slice, List.set_cons_zero, List.set_cons_succ, Nat.le_refl, n_ldP, n_ldA, n_ldB, n_stP, n_stA, Zx, ldT_34, szT_34, *])))
      exact hK _ _ n7 (by simp only [s_upd, Nat.reduceEqDiff, if_false, *] <;> rfl)
/-- What put hands back, at its end. -/
def ptX (H0 : AH) (x : VV) : VE → AH → Prop := fun e H' => ∃ y, e = VE.ret y ∧ GhV H' y H0 x
theorem put_leave {H0 H : AH} {t : Nat → VV} {r4 sp : Nat} {a b c x : VV} {e' : TypeId} (h4 : t 4 = ptrV r4 0) (k4 : H r4 = some (.cells e' [a, b, c] sp)) (hg : GhV H (.agg [a, b, c]) H0 x) : leaveR Try.prog [.cell 4 34] (ptX H0 x) t [] .returning H := by
  refine ⟨_, H, _, ?_, .refl _ _, _, rfl, hg⟩
  simp only [resV, resAll, resOne, ldT_34, h4, k4, ptrV, List.drop_zero, ldV_t3, Option.bind_some, Option.map_some, tupV]
theorem acx_gen {cx : Cx} {a : ACode} {Q : APost} {t : Nat → VV} {d : List Deferred} {H : AH} (p : (Nat → VV) → AH → Prop) (hp : p t H) (h : ∀ t' H', p t' H' → ACx cx a Q ⟨t', d⟩ H') : ACx cx a Q ⟨t, d⟩ H := h t H hp
theorem lastB_none {l : List Bd} {n : ByteArray} (h : ∀ j (h : j < l.length), ¬ l[j].1 = n) : lastB l n = none := by
  unfold lastB
  rw [List.find?_eq_none.2, Option.map_none]
  intro b hb
  obtain ⟨j, hj, rfl⟩ := List.getElem_of_mem (List.mem_reverse.1 hb)
  simpa using h j hj
theorem lastB_some {l : List Bd} {n : ByteArray} {k : Nat} (hk : k < l.length) (h1 : l[k].1 = n) (h : ∀ j (h : j < l.length), k < j → ¬ l[j].1 = n) : lastB l n = some l[k].2 := by
  unfold lastB
  have e : l = l.take k ++ l[k] :: l.drop (k + 1) := by rw [← List.drop_eq_getElem_cons hk, List.take_append_drop]
  have h2 : (l.drop (k + 1)).reverse.find? (fun b => decide (b.1 = n)) = none := by
    rw [List.find?_eq_none]
    intro b hb
    obtain ⟨j, hj, rfl⟩ := List.getElem_of_mem (List.mem_reverse.1 hb)
    rw [List.getElem_drop]
    simpa using h (k + 1 + j) (by rw [List.length_drop] at hj; omega) (by omega)
  have h3 : l.reverse.find? (fun b => decide (b.1 = n)) = some l[k] := by
    conv => lhs; rw [e]
    rw [List.reverse_append, List.reverse_cons, List.append_assoc, List.find?_append, h2, List.find?_append]
    simp [h1]
  rw [h3]; rfl
theorem put_ok : ∀ (n : Nat) (e : Ex) (l : List Bd), e.sz < n → e.sz ≤ 1099511627776 → l.length ≤ 1099511627776 → PureF Try.prog 36 [exV e, bdsV l] (exV (e.put l)) := by
  intro n
  induction n with
  | zero => intro e l h; omega
  | succ n ih =>
    intro e l h0 hs hl
    have z1 := e.sz_eq
    have hkl := exsSz_len e.kids
    have hN : e.kids.length ≤ 1099511627776 := by omega
    have ih' : ∀ (l : List Bd), l.length ≤ 1099511627776 → ∀ i (h : i < e.kids.length), PureF Try.prog 36 [exV e.kids[i], bdsV l] (exV (e.kids[i].put l)) := fun l hl i h => ih _ l (by have := exsSz_mem (List.getElem_mem h); omega) (by have := exsSz_mem (List.getElem_mem h); omega) hl
    clear ih z1 hkl h0 hs
    refine GivesF.pure fun H0 => ?_
    refine vcalls_introM fd36 (by simp) ?_
    unfold c36
    by_cases h1 : e.op = 1
    · have hp : e.put l = match lastB l e.name with | some x => x | none => .mk e.op e.name (e.kids.map (·.put l)) := by
        have h5 : ¬ e.op = 5 := by omega
        rw [e.put_eq, if_pos h1]
        cases lastB l e.name <;> simp [h5]
      obtain ⟨X, hX⟩ : ∃ X, X = e.put l := ⟨_, rfl⟩
      rw [← hX]
      rw [hp, h1] at hX
      clear hp
      replace hX := Hold.mk hX
      (repeat' (first | (refine backw (fun rb nb => ?_)) | (simp only [↓s_reg, ↓s_seq, ↓s_seqL, ↓s_cond, ↓s_condT, ↓s_block, ↓s_rfunc, ↓s_nil, ↓s_consN, ↓s_thenN, ↓s_kret, ↓s_putS, ↓s_dOkS, ↓s_ev_t, ↓s_ev_c, ↓s_ev_f, ↓s_upd, ↓s_move, ↓s_assign, ↓s_load, ↓s_bin, ↓s_alloc, ↓s_box, ↓s_fieldAddr, ↓s_callV, ↓s_callL, ↓s_bin_eql, ptrV, List.map_cons, List.map_nil, List.getD_cons_zero, List.getD_cons_succ, List.getD_nil, ite_true, ite_false, Nat.reduceEqDiff, Nat.reduceLT, ne_eq, not_false_eq_true, true_and, Nat.succ_ne_self, decide_true, undefV, AH.get, eq_self, Nat.add_zero, List.drop, ldV_f, cl_agg, ↓n_alloc, n_allocS, ↓n_box, n_ldP, n_faP, n_ldA, n_ldB, n_faA, undef, flT_34_0, ldT_3, zeroT_34, en_52, *]) | (refine allNew_intro fun zr zh => ?_; have zg := zh; (try simp only [AH.set_none] at zg))))
      rename_i r2 n2 n2'
      have n24 := zg.1
      simp only [AH.set_none] at nb
      obtain ⟨Hx, hHx⟩ : ∃ Hx, Hx = ((H0.set r2 (.cells 34 [iV 1, sV e.name, encS exE e.kids] 0)).set zr (.cells 34 Zx 0)).set rb (.cells 96 [bdsV l] 0) := ⟨_, rfl⟩
      have x2 : Hx r2 = some (.cells 34 [iV 1, sV e.name, encS exE e.kids] 0) := by subst hHx; exact (by simp only [AH.get, *, if_true, if_false] <;> rfl)
      have x4 : Hx zr = some (.cells 34 Zx 0) := by subst hHx; exact (by simp only [AH.get, *, if_true, if_false] <;> rfl)
      have xb : Hx rb = some (.cells 96 [bdsV l] 0) := by subst hHx; exact (by simp only [AH.get, *, if_true, if_false] <;> rfl)
      have xs : SubH H0 Hx := by subst hHx; exact ((SubH.new n2).of_set zg.2).of_set nb.2.2
      show ACx _ _ _ _ (((H0.set r2 (.cells 34 [iV 1, sV e.name, encS exE e.kids] 0)).set zr (.cells 34 Zx 0)).set rb (.cells 96 [bdsV l] 0))
      rw [← hHx]
      have g2 : H0 r2 = none := n2
      have g4 : H0 zr = none := zg.2
      clear hHx nb n24 zg zh n2 n2'
      have hgen : ∀ (t : Nat → VV), t 1 = bdsV l → t 2 = ptrV r2 0 → t 4 = ptrV zr 0 → t 15 = .func (.func 75) [] [ptrV rb 0] → True := fun _ _ _ _ _ => trivial
      clear hgen
      refine acx_gen (fun t H => H = Hx ∧ t 1 = bdsV l ∧ t 2 = ptrV r2 0 ∧ t 4 = ptrV zr 0 ∧ t 15 = .func (.func 75) [] [ptrV rb 0]) ⟨rfl, (by simp only [s_upd, Nat.reduceEqDiff, if_false, *] <;> rfl), (by simp only [s_upd, Nat.reduceEqDiff, if_true, if_false, *] <;> rfl), (by simp only [s_upd, Nat.reduceEqDiff, if_true, if_false, *] <;> rfl), (by simp only [s_upd, Nat.reduceEqDiff, if_true, if_false, *] <;> rfl)⟩ ?_
      rintro t H ⟨rfl, t1, t2, t4, t15⟩
      refine acx_rfunc rfl (.inl t15) (by kernel_rfl) ?_
      intro r l0 fn ca cb hca hcb hr hl0 hne hfn
      have e1 := AH.ne_of x2 hr
      have e2 := AH.ne_of x2 hl0
      have e3 := AH.ne_of x4 hr
      have e4 := AH.ne_of x4 hl0
      have e5 := AH.ne_of xb hr
      have e6 := AH.ne_of xb hl0
      refine back1 (sp := 0) (Inv := fun k B => SubH (H.set r (.obj (.deferred (some [])))) B ∧ B l0 = some (.loop .ready none fn 53 t #[16, 17] ca cb r) ∧ ∀ j (h : j < l.length), k ≤ j → ¬ l[j].1 = e.name)
        (Stop := fun k B => ∃ h : k < l.length, B l0 = some (.loop .done (some .ret) fn 53 t #[16, 17] ca cb r) ∧ B r = some (.obj (.deferred (some []))) ∧ B zr = some (.cells 34 [iV l[k].2.op, sV l[k].2.name, encS exE l[k].2.kids] 0) ∧ SubH H0 B ∧ lastB l e.name = some l[k].2) hl ?_ ?_ ?_ (fun _ _ _ => rfl) ?_ ?_
      · exact ⟨SubH.new (by rw [AH.set_ne _ _ hne]; exact hl0), AH.set_same _ _ _, fun j h hj => by omega⟩
      · rintro k B ⟨hB, _⟩
        exact hB _ _ (by rw [AH.get, if_neg e5.1]; exact xb)
      · rintro k hk B ⟨hB, hBl, hno⟩ K' hk1 hk2
        have q2 : B r2 = some (.cells 34 [iV 1, sV e.name, encS exE e.kids] 0) := hB _ _ (by rw [AH.get, if_neg e1.1]; exact x2)
        have q4 : B zr = some (.cells 34 Zx 0) := hB _ _ (by rw [AH.get, if_neg e3.1]; exact x4)
        have qr : B r = some (.obj (.deferred (some []))) := hB _ _ (AH.set_same _ _ _)
        have hsB : SubH H0 B := fun i bk h => hB _ _ (by rw [AH.get, if_neg (AH.ne_of (xs _ _ h) hr).1]; exact xs _ _ h)
        refine acall_yield (l := l0) (pe := none) (fn := fn) (N := 53) (t := t) (ps := #[16, 17]) («asg» := ca) (bd := cb) (ds := r) hBl rfl (by simp) hfn ?_
        refine acx_to hca ?_
        (repeat' (first | (simp only [↓s_reg, ↓s_nil, ↓s_consN, ↓s_thenN, ↓s_kret, ↓s_putS, ↓s_putN, ↓s_dOkS, ↓s_dOkN, ↓s_ev_t, ↓s_upd, ↓s_store, ↓s_alloc, ptrV, List.map_cons, List.map_nil, List.length_cons, List.length_nil, ite_true, ite_false, Nat.reduceEqDiff, Nat.reduceLT, Nat.reduceAdd, true_and, Nat.succ_ne_self, AH.get, AH.set_set, setAt, List.all_cons, List.all_nil, Bool.and_self, eq_self, Nat.zero_add, on_int, on_str, cl_agg, on_slice, List.set_cons_zero, List.set_cons_succ, ↓n_alloc, n_allocS, Nat.le_refl, n_stP, n_stA, putAll, szT_102, zeroT_102, *]) | (refine acx_go rfl (fun _ _ _ h => h) ?_) | (refine allNew_intro fun zr zh => ?_; have zg := zh; (try simp only [AH.set_none] at zg); (try have zn_q2 := AH.ne_of q2 zh); (try have zn_q2 := AH.ne_of q2 zg.2); (try have zn_q2 := AH.ne_of q2 zg.2.2); (try have zn_q4 := AH.ne_of q4 zh); (try have zn_q4 := AH.ne_of q4 zg.2); (try have zn_q4 := AH.ne_of q4 zg.2.2); (try have zn_qr := AH.ne_of qr zh); (try have zn_qr := AH.ne_of qr zg.2); (try have zn_qr := AH.ne_of qr zg.2.2); (try have zn_hBl := AH.ne_of hBl zh); (try have zn_hBl := AH.ne_of hBl zg.2); (try have zn_hBl := AH.ne_of hBl zg.2.2)) | (with_reducible refine And.intro ?_ ?_)))
        · exact ⟨none, rfl⟩
        · intro pe
          refine acx_to hcb ?_
          (repeat' (first | (simp only [↓s_skip, ↓s_reg, ↓s_seq, ↓s_cond, ↓s_block, ↓s_ret, ↓s_nil, ↓s_consN, ↓s_thenN, ↓s_inN, ↓s_inR, ↓s_kret, ↓s_putS, ↓s_putN, ↓s_dOkS, ↓s_dOkN, ↓s_ev_t, ↓s_upd, ↓s_load, ↓s_store, ↓s_bin, ↓s_fieldAddr, ↓s_eqlS, ptrV, List.length_cons, List.length_nil, ite_true, ite_false, Nat.reduceEqDiff, Nat.reduceLT, Nat.reduceAdd, ne_eq, not_false_eq_true, true_and, Nat.succ_ne_self, decide_true, decide_false, reduceCtorEq, AH.get, setAt, List.all_cons, List.all_nil, Bool.and_self, eq_self, Nat.zero_add, Nat.add_zero, List.drop, ldV_f, ldV_t3, on_int, on_str, cl_agg, on_slice, List.set_cons_zero, List.set_cons_succ, Nat.le_refl, n_ldP, n_faP, n_ldA, n_ldB, n_faA, n_stP, n_stA, Zx, flT_34_1, flT_102_0, flT_102_1, ldT_34, ldT_9, szT_34, *]) | (refine condL_splitD ?_ ?_ <;> intro) | (refine acx_go rfl (fun _ _ _ h => h) ?_)))
          · have hn : l[k].1 = e.name := by assumption
            have hne' : ¬ r = l0 := fun e => hne e.symm
            have dz := zn_q4
            have dl := zn_hBl
            have dr := zn_qr
            refine ⟨⟨pe, (by simp only [AH.get, *, if_true, if_false] <;> rfl)⟩, hk2 _ ⟨hk, AH.set_same _ _ _, (by simp only [AH.get, *, if_false] <;> rfl), (by simp only [AH.get, *, if_true, if_false] <;> rfl), ?_, lastB_some hk hn fun j h hj => hno j h (by omega)⟩⟩
            exact (((hsB.of_set (hsB.none zh)).of_set (xs.none hl0)).of_set g4).of_set (xs.none hl0)
          · have hn : ¬ l[k].1 = e.name := by assumption
            refine ⟨⟨pe, AH.set_same _ _ _⟩, hk1 _ ⟨?_, AH.set_same _ _ _, fun j h hj => ?_⟩⟩
            · rw [AH.set_set]
              exact (hB.of_set (hB.none zh)).of_set (by rw [AH.set_ne _ _ hne]; exact hl0)
            · rcases Nat.lt_or_ge k j with h' | h'
              · exact hno j h (by omega)
              · obtain rfl : j = k := by omega
                exact hn
      · rintro B u ⟨hB, hBl, hno⟩
        refine ⟨.ready, none, hBl, by simp, ?_⟩
        have q2 : (B.del l0) r2 = some (.cells 34 [iV 1, sV e.name, encS exE e.kids] 0) := by rw [AH.del_get, if_neg e2.1]; exact hB _ _ (by rw [AH.get, if_neg e1.1]; exact x2)
        have q4 : (B.del l0) zr = some (.cells 34 Zx 0) := by rw [AH.del_get, if_neg e4.1]; exact hB _ _ (by rw [AH.get, if_neg e3.1]; exact x4)
        have qr : (B.del l0) r = some (.obj (.deferred (some []))) := by rw [AH.del_get, if_neg (Ne.symm hne)]; exact hB _ _ (AH.set_same _ _ _)
        have hsB : SubH H0 (B.del l0) := SubH.del (fun i bk h => hB _ _ (by rw [AH.get, if_neg (AH.ne_of (xs _ _ h) hr).1]; exact xs _ _ h)) (xs.none hl0)
        have hXe : X = .mk 1 e.name (e.kids.map (·.put l)) := by rw [hX.out, lastB_none fun j h => hno j h (Nat.zero_le _)]
        rw [hXe]
        clear hX hXe hB hBl hno
        generalize B.del l0 = B at *
        (repeat' (first | (simp only [↓s_thenN, ↓s_inN, *])))
        refine put_tail (op := 1) (nm := e.name) (kids := e.kids) (l := l) (r2 := r2) (r4 := zr) hN (ih' l hl) t1 t2 t4 q2 q4 (fun t' r' hr' h4 => ?_)
        have d1 := AH.ne_of qr hr'
        have d2 := AH.ne_of q4 hr'
        refine ⟨by simp, (by simp only [AH.get, *, if_false] <;> rfl), ?_⟩
        refine put_leave (sp := 0) h4 (by simp only [AH.del_get, AH.get, *, if_true, if_false] <;> rfl) (GhV.forget ?_ _)
        exact SubH.del ((hsB.of_set (hsB.none hr')).of_set g4) (xs.none hr)
      · rintro k hk B u ⟨_, hBl, qr, q4, hsB, hlb⟩
        refine ⟨.done, some .ret, hBl, by simp, ?_⟩
        have hXe : X = l[k].2 := by rw [hX.out, hlb]
        rw [hXe]
        show leaveR Try.prog [.cell 4 34] _ t [markOf r] .returning (B.del l0)
        refine ⟨by simp, by rw [AH.del_get, if_neg (Ne.symm hne)]; exact qr, ?_⟩
        refine put_leave (sp := 0) t4 (by rw [AH.del_get, if_neg e3.1, AH.del_get, if_neg e4.1]; exact q4) (GhV.forget ?_ _)
        exact (hsB.del (xs.none hl0)).del (xs.none hr)
    · by_cases h5 : e.op = 5
      · have hp : e.put l = .mk e.op e.name (e.kids.map (·.put (l.filter fun b => !decide (b.1 = e.name)))) := by rw [e.put_eq, if_neg h1, if_pos h5]
        rw [hp]
        have hlf : (l.filter fun b => !decide (b.1 = e.name)).length ≤ 1099511627776 := by have := List.length_filter_le (fun b : Bd => !decide (b.1 = e.name)) l; omega
        by_cases hle : l = []
        · subst hle
          (repeat' (first | (refine delBd0 ?_) | (simp only [↓s_reg, ↓s_seq, ↓s_seqL, ↓s_cond, ↓s_condT, ↓s_condF, ↓s_block, ↓s_nil, ↓s_consN, ↓s_thenN, ↓s_inN, ↓s_kret, ↓s_putS, ↓s_dOkS, ↓s_ev_t, ↓s_ev_c, ↓s_ev_f, ↓s_upd, ↓s_move, ↓s_assign, ↓s_load, ↓s_bin, ↓s_alloc, ↓s_box, ↓s_makeFunc, ↓s_fieldAddr, ↓s_callV, ↓s_callL, ↓s_bin_eql, ptrV, List.map_cons, List.map_nil, List.getD_cons_zero, List.getD_cons_succ, List.getD_nil, ite_true, ite_false, Nat.reduceEqDiff, Nat.reduceLT, ne_eq, not_false_eq_true, true_and, Nat.succ_ne_self, decide_true, decide_false, undefV, AH.get, eq_self, Nat.add_zero, List.drop, ldV_f, cl_agg, ↓n_alloc, n_allocS, ↓n_box, n_ldP, n_faP, n_ldA, n_ldB, n_faA, undef, Int.reduceEq, flT_34_0, ldT_3, zeroT_34, en_54, en_53, *]) | (refine allNew_intro fun zr zh => ?_; have zg := zh; (try simp only [AH.set_none] at zg)) | (refine PureF.use (cloneBd0) ?_)))
          rename_i r2 n2 n2'
          refine put_tail (op := 5) (nm := e.name) (kids := e.kids) (l := []) (r2 := r2) (r4 := zr) hN (ih' _ (by simp)) (by simp only [s_upd, Nat.reduceEqDiff, if_true, if_false, *] <;> rfl) (by simp only [s_upd, Nat.reduceEqDiff, if_true, if_false, *] <;> rfl) (by simp only [s_upd, Nat.reduceEqDiff, if_true, if_false, *] <;> rfl) (by simp only [AH.get, *, if_true, if_false] <;> rfl) (AH.set_same _ _ _) (fun t' r hr h4 => put_leave h4 (AH.set_same _ _ _) ?_)
          exact GhV.forget ((((SubH.new n2).of_set zg.2).of_set (by simp only [AH.set_none] at hr; exact hr.2.2)).of_set zg.2) _
        · have hne : 0 < l.length := List.length_pos_iff.2 hle
          clear hle
          (repeat' (first | (refine (cloneBd hl hne _).use ?_) | (simp only [↓s_reg, ↓s_seq, ↓s_seqL, ↓s_cond, ↓s_condT, ↓s_condF, ↓s_block, ↓s_nil, ↓s_consN, ↓s_thenN, ↓s_kret, ↓s_putS, ↓s_dOkS, ↓s_ev_t, ↓s_ev_c, ↓s_ev_f, ↓s_upd, ↓s_move, ↓s_assign, ↓s_load, ↓s_bin, ↓s_alloc, ↓s_box, ↓s_makeFunc, ↓s_fieldAddr, ↓s_callV, ↓s_callL, ↓s_bin_eql, ptrV, List.map_cons, List.map_nil, List.getD_cons_zero, List.getD_cons_succ, List.getD_nil, ite_true, ite_false, Nat.reduceEqDiff, Nat.reduceLT, ne_eq, not_false_eq_true, true_and, Nat.succ_ne_self, decide_true, decide_false, undefV, AH.get, eq_self, Nat.add_zero, List.drop, ldV_f, cl_agg, ↓n_alloc, n_allocS, ↓n_box, n_ldP, n_faP, n_ldA, n_ldB, n_faA, undef, Int.reduceEq, flT_34_0, ldT_3, zeroT_34, en_54, en_53, *]) | (refine allNew_intro fun zr zh => ?_; have zg := zh; (try simp only [AH.set_none] at zg))))
          rename_i r2 n2 n2'
          intro v H1 ho
          have hf : ∀ H', SubH ((H0.set r2 (.cells 34 [iV 5, sV e.name, encS exE e.kids] 0)).set zr (.cells 34 Zx 0)) H' → ∀ b, FnAt Try.prog (.func (.func 55) [] [ptrV r2 0]) [bdV b] (boolV (decide (b.1 = e.name))) H' := fun H' hs b => put1 (hs _ _ (by simp only [AH.get, *, if_true, if_false] <;> rfl))
          refine delBd (p := fun b => decide (b.1 = e.name)) ho hne hl hf ?_
          (repeat' (first | (simp only [↓s_nil, ↓s_consN, ↓s_thenN, ↓s_inN, ↓s_kret, ↓s_putS, ↓s_dOkS, ↓s_ev_t, ↓s_upd, ↓s_assign, List.getD_cons_succ, List.getD_nil, ite_true, ite_false, Nat.reduceEqDiff, Nat.reduceLT, true_and, Nat.succ_ne_self, eq_self, *])))
          refine put_tail (op := 5) (nm := e.name) (kids := e.kids) (l := l.filter fun b => !decide (b.1 = e.name)) (r2 := r2) (r4 := zr) hN (ih' _ hlf) (by simp only [s_upd, Nat.reduceEqDiff, if_true, if_false, *] <;> rfl) (by simp only [s_upd, Nat.reduceEqDiff, if_true, if_false, *] <;> rfl) (by simp only [s_upd, Nat.reduceEqDiff, if_true, if_false, *] <;> rfl) (by simp only [AH.get, *, if_true, if_false] <;> rfl) (AH.set_same _ _ _) (fun t' r hr h4 => put_leave h4 (AH.set_same _ _ _) ?_)
          exact GhV.forget ((((SubH.new n2).of_set zg.2).of_set (by simp only [AH.set_none] at hr; exact hr.2.2)).of_set zg.2) _
      · have hp : e.put l = .mk e.op e.name (e.kids.map (·.put l)) := by rw [e.put_eq, if_neg h1, if_neg h5]
        rw [hp]
        (repeat' (first | (simp only [↓s_skip, ↓s_reg, ↓s_seq, ↓s_seqL, ↓s_cond, ↓s_condF, ↓s_block, ↓s_nil, ↓s_consN, ↓s_thenN, ↓s_inN, ↓s_kret, ↓s_putS, ↓s_dOkS, ↓s_ev_t, ↓s_ev_c, ↓s_upd, ↓s_assign, ↓s_load, ↓s_bin, ↓s_alloc, ↓s_box, ↓s_fieldAddr, ↓s_bin_eql, ptrV, List.map_cons, List.map_nil, List.getD_cons_zero, List.getD_cons_succ, List.getD_nil, ite_true, ite_false, Nat.reduceEqDiff, Nat.reduceLT, ne_eq, not_false_eq_true, true_and, Nat.succ_ne_self, decide_false, undefV, AH.get, eq_self, Nat.add_zero, List.drop, ldV_f, cl_agg, ↓n_alloc, n_allocS, ↓n_box, n_ldP, n_faP, n_ldA, n_ldB, n_faA, undef, flT_34_0, ldT_3, zeroT_34, *]) | (refine allNew_intro fun zr zh => ?_; have zg := zh; (try simp only [AH.set_none] at zg))))
        rename_i r2 n2 n2'
        refine put_tail (op := e.op) (nm := e.name) (kids := e.kids) (l := l) (r2 := r2) (r4 := zr) hN (ih' l hl) (by simp only [s_upd, Nat.reduceEqDiff, if_false, *] <;> rfl) (by simp only [s_upd, Nat.reduceEqDiff, if_true, if_false, *] <;> rfl) (by simp only [s_upd, Nat.reduceEqDiff, if_true, if_false, *] <;> rfl) (by simp only [AH.get, *, if_true, if_false] <;> rfl) (AH.set_same _ _ _) (fun t' r hr h4 => put_leave h4 (AH.set_same _ _ _) ?_)
        exact GhV.forget ((((SubH.new n2).of_set zg.2).of_set (by simp only [AH.set_none] at hr; exact hr.2.2)).of_set zg.2) _
end Go.PV.Ytglpmlbbaedbiaa
end
section
/- Slices that are built from an empty one that is none's. -/
set_option linter.unusedVariables false
set_option linter.unusedSimpArgs false
namespace Go.PV
open Go
def OutE (H0 H : AH) (e : TypeId) (k : Nat) (v : VV) (n : Nat) (cs : List VV) : Prop := (v = .slice true 0 [] ∧ n = 0 ∧ cs = [] ∧ SubH H0 H) ∨ ∃ Hb, SubH H0 Hb ∧ OwnX Hb H e k v n cs
section
variable {H0 H : AH} {e : TypeId} {k n : Nat} {v : VV} {cs : List VV}
theorem OutE.start (hs : SubH H0 H) : OutE H0 H e k (.slice true 0 []) 0 [] := .inl ⟨rfl, rfl, rfl, hs⟩
theorem OutE.nil (hs : SubH H0 H) : OutE H0 H e k (.lit (.slice none 0 0)) 0 [] := .inr ⟨H, hs, OwnX.nil _ _ _⟩
theorem OutE.sub (h : OutE H0 H e k v n cs) : SubH H0 H := by
  rcases h with ⟨_, _, _, h⟩ | ⟨Hb, h1, h2⟩
  · exact h
  · exact h1.trans h2.sub
theorem OutE.cells (h : OutE H0 H e k v n cs) : v.cells = [v] ∧ VV.one v = true := by
  rcases h with ⟨rfl, _⟩ | ⟨Hb, h1, h2⟩
  · exact ⟨rfl, rfl⟩
  · exact h2.cells
theorem OutE.alloc (h : OutE H0 H e k v n cs) {r : Nat} (hr : H r = none) (b : Blk) : OutE H0 (H.set r b) e k v n cs := by
  have hn := h.sub.none hr
  rcases h with ⟨h1, h2, h3, h⟩ | ⟨Hb, h1, h2⟩
  · exact .inl ⟨h1, h2, h3, h.of_set hn⟩
  · exact .inr ⟨Hb.set r b, h1.of_set hn, h2.alloc hr b⟩
theorem OutE.allocB (h : OutE H0 H e k v n cs) {r : Nat} (hr : H r = none) (b : Blk) : OutE (H0.set r b) (H.set r b) e k v n cs := by
  rcases h with ⟨h1, h2, h3, h⟩ | ⟨Hb, h1, h2⟩
  · exact .inl ⟨h1, h2, h3, h.set _ _⟩
  · exact .inr ⟨Hb.set r b, h1.set _ _, h2.alloc hr b⟩
theorem OutE.back (h : OutE H0 H e k v n cs) : GhV H v H0 (.slice false n cs) := by
  rcases h with ⟨rfl, rfl, rfl, h⟩ | ⟨Hb, h1, h2⟩
  · exact (GhV.imm _).trans (GhV.forget h _)
  · exact GhV.back h2 h1
theorem OutE.ghost {i : Nat} {t : Nat → VV} {d : List Deferred} (h : OutE H0 H e k (t i) n cs) (N : Nat) : Ghost N ⟨t, d⟩ H ⟨upd t i (.slice false n cs), d⟩ H0 := Ghost.slot (A := ⟨t, d⟩) h.back
theorem OutE.append {P : Program} {t b : Nat} {zs : List Value} {x : VV} {m : Nat} {news : List VV} {K : VE → AH → Prop} (h : OutE H0 H e k v n cs) (hel : elT P t = some (e, k, b)) (hz : zeroT P e = some zs) (hzk : zs.length = k) (hk : 0 < k) (hs : srcV H k x = some (m, news))
    (hone : news.all VV.one = true) (hb : (n + m) * b ≤ 140737488355328) (h63 : n + m ≤ 9223372036854775807) (hnl : m = 0 → news = []) (hK : ∀ v' H', OutE H0 H' e k v' (n + m) (cs ++ news) → K (.ret v') H') : AppendA P t v x H K := by
  rcases h with ⟨rfl, rfl, rfl, h⟩ | ⟨Hb, h1, h2⟩
  · refine append_clip hel hz hzk hk (by simp) hs hone hb h63 (fun h0 => hK _ _ (.inl ⟨rfl, by omega, ?_, h⟩)) (fun _ v' H' ho => hK _ _ (.inr ⟨H, h, ho⟩))
    rw [hnl h0]; rfl
  · exact append_own hel hz hzk hk h2 hs hone hb h63 fun v' H' ho => hK _ _ (.inr ⟨Hb, h1, ho⟩)
theorem OutE.append1 {P : Program} {t b : Nat} {zs : List Value} {xs : List VV} {K : VE → AH → Prop} (h : OutE H0 H e k v n cs) (hel : elT P t = some (e, k, b)) (hz : zeroT P e = some zs) (hzk : zs.length = k) (hk : 0 < k) (hx : xs.length = k)
    (hone : xs.all VV.one = true) (hb : (n + 1) * b ≤ 140737488355328) (h63 : n + 1 ≤ 9223372036854775807) (hK : ∀ v' H', OutE H0 H' e k v' (n + 1) (cs ++ xs) → K (.ret v') H') : AppendA P t v (.slice true 1 xs) H K := by
  refine h.append hel hz hzk hk (m := 1) (news := xs) ?_ hone hb h63 (fun h => by omega) hK
  simp only [srcV, Nat.one_mul, hx, Nat.le_refl, if_true]
  rw [List.take_of_length_le (by omega)]
end
theorem OwnX.widen {H0 Hm H : AH} {e : TypeId} {k n : Nat} {v : VV} {cs : List VV} (h : OwnX H0 Hm e k v n cs) (hs : SubH Hm H) : ∃ Hq, SubH H0 Hq ∧ OwnX Hq H e k v n cs := by
  rcases h with ⟨rfl, rfl, rfl, rfl⟩ | ⟨g, c, sp, rfl, h0, rfl, h1, h2, h3, h4⟩
  · exact ⟨H, hs, OwnX.nil _ _ _⟩
  · refine ⟨H.del g, ((SubH.new h0).trans hs).del h0, .inr ⟨g, c, sp, rfl, AH.del_same _ _, ?_, h1, h2, h3, h4⟩⟩
    have hg := hs _ _ (AH.set_same _ _ _)
    funext i
    rw [AH.get]
    split
    · rename_i e; rw [e]; exact hg
    · rename_i e; rw [AH.del_ne _ e]
theorem OutE.swap {H0 Hm H : AH} {e e' : TypeId} {k k' n n' : Nat} {v v' : VV} {cs cs' : List VV} (h : OutE H0 Hm e k v n cs) (h' : OutE Hm H e' k' v' n' cs') : ∃ Hx, OutE H0 Hx e' k' v' n' cs' ∧ OutE Hx H e k v n cs := by
  rcases h with ⟨h1, h2, h3, h4⟩ | ⟨Hb, h1, h2⟩
  · refine ⟨H, ?_, .inl ⟨h1, h2, h3, SubH.refl _⟩⟩
    rcases h' with ⟨g1, g2, g3, g4⟩ | ⟨Hb, g1, g2⟩
    · exact .inl ⟨g1, g2, g3, h4.trans g4⟩
    · exact .inr ⟨Hb, h4.trans g1, g2⟩
  · rcases h' with ⟨g1, g2, g3, g4⟩ | ⟨Hc, g1, g2⟩
    · obtain ⟨Hq, q1, q2⟩ := h2.widen g4
      exact ⟨Hq, .inl ⟨g1, g2, g3, h1.trans q1⟩, .inr ⟨Hq, SubH.refl _, q2⟩⟩
    · obtain ⟨Hq, q1, q2⟩ := h2.widen g1
      obtain ⟨Hx, x1, x2⟩ := q2.swap g2
      exact ⟨Hx, .inr ⟨Hq, h1.trans q1, x1⟩, .inr ⟨Hx, SubH.refl _, x2⟩⟩
end Go.PV
end
section
/- The reference's names. -/
set_option linter.unusedVariables false
set_option linter.unusedSimpArgs false
set_option maxRecDepth 20000
set_option maxHeartbeats 4000000
namespace Go.PV.Ytglpmlbbaedbiaa
open Go Go.Proofs
def hasF (l : List ByteArray) (s : ByteArray) : Bool := l.any fun x => decide (x = s)
theorem hasF_iff {l : List ByteArray} {s : ByteArray} : hasF l s = true ↔ s ∈ l := by simp [hasF]
theorem hasF_drop {l : List ByteArray} {s : ByteArray} {i : Nat} (h : i < l.length) : hasF (l.drop i) s = (decide (l[i] = s) || hasF (l.drop (i + 1)) s) := by unfold hasF; rw [List.drop_eq_getElem_cons h, List.any_cons]
theorem rhas_ok (l : List ByteArray) (s : ByteArray) (hl : l.length ≤ 1099511627776) : PureF Try.prog 56 [strsV l, sV s] (boolV (hasF l s)) := by
  refine PureF.forget fun H => ?_
  refine vcalls_intro fd56 (by simp) ?_
  unfold c56
  (repeat' (first | (simp only [↓s_reg, ↓s_seq, ↓s_seqL, ↓s_block, ↓s_loop, ↓s_nil, ↓s_consN, ↓s_thenN, ↓s_putS, ↓s_dOkS, ↓s_ev_c, ↓s_assign, boolV, Nat.reduceLT, true_and, undefV, undef, *])))
  refine acx_loop (fun _ _ _ h => h) (fun A H' => H' = H ∧ A.d = [] ∧ A.t 0 = strsV l ∧ A.t 1 = sV s ∧ ∃ (i : Nat), i ≤ l.length ∧ A.t 5 = iV i ∧ hasF l s = hasF (l.drop i) s)
    (fun A _ => match A.t 5 with | .lit (.int _ i) => ((l.length : Int) - i).toNat | _ => 0) ?_ ?_
  · exact ⟨rfl, rfl, rfl, rfl, 0, by omega, rfl, rfl⟩
  · rintro ⟨t, d⟩ H' ⟨rfl, rfl, h0, h1, i, hi, h5, hh⟩
    dsimp only at h0 h1 h5
    rw [hh]
    clear hh
    unfold b56_1
    (repeat' (first | (simp only [↓s_skip, ↓s_reg, ↓s_seq, ↓s_cond, ↓s_block, ↓s_exit, ↓s_ret, ↓s_nil, ↓s_consN, ↓s_thenN, ↓s_thenE, ↓s_thenR, ↓s_inN, ↓s_inE, ↓s_inR, ↓s_kret, ↓s_putS, ↓s_dOkS, ↓s_ev_t, ↓s_ev_c, ↓s_upd, ↓s_move, ↓s_assign, ↓s_load, ↓s_bin, ↓s_indexAddr, ↓s_callB, ↓s_len, ↓s_bin_lss, ↓s_bin_add, ↓s_eqlS, intV, List.map_cons, List.map_nil, ite_true, ite_false, Nat.reduceEqDiff, Nat.reduceLT, ne_eq, not_false_eq_true, true_and, Nat.succ_ne_self, decide_true, decide_false, reduceCtorEq, Int.natCast_nonneg, Int.toNat_natCast, Nat.mul_one, eq_self, and_self, ldV_f, Int.ofNat_lt, n_ldI, n_ixS, n_ixA1, n_lenS, n_ldC, n_ldB, str_drop, ldT_9, elT_52, *]) | (refine condL_splitD ?_ ?_ <;> intro) | (refine ret_tmp ?_) | (refine acx_go rfl (fun _ _ _ h => h) ?_) | (exact SubH.refl _) | (with_reducible refine And.intro ?_ ?_)))
    · have hlt : i < l.length := by assumption
      have he : l[i] = s := by assumption
      rw [hasF_drop hlt, decide_eq_true he, Bool.true_or]
    · have hlt : i < l.length := by assumption
      have he : ¬ l[i] = s := by assumption
      rw [wrap_ok (n := (i : Int) + 1) (by omega) (by omega)]
      exact ⟨i + 1, by omega, rfl, by rw [hasF_drop hlt, decide_eq_false he, Bool.false_or]⟩
    · rw [wrap_ok (n := (i : Int) + 1) (by omega) (by omega)]
      omega
    · rw [List.drop_eq_nil_of_le (by omega)]
      unfold c56_1
      (repeat' (first | (simp only [↓s_reg, ↓s_seq, ↓s_ret, ↓s_nil, ↓s_consN, ↓s_thenN, ↓s_putS, ↓s_dOkS, ↓s_ev_c, ↓s_upd, ↓s_assign, ite_true, ite_false, Nat.reduceEqDiff, Nat.reduceLT, true_and, eq_self, *]) | (refine ret_tmp ?_)))
      exact ⟨rfl, SubH.refl _⟩
theorem rtwice_ok (l : List ByteArray) (hl : l.length ≤ 1099511627776) : PureF Try.prog 38 [strsV l] (boolV (!decide l.Nodup)) := by
  refine PureF.forget fun H => ?_
  refine vcalls_intro fd38 (by simp) ?_
  unfold c38
  (repeat' (first | (simp only [↓s_reg, ↓s_seq, ↓s_seqL, ↓s_block, ↓s_loop, ↓s_nil, ↓s_consN, ↓s_thenN, ↓s_putS, ↓s_dOkS, ↓s_ev_c, ↓s_assign, boolV, Nat.reduceLT, true_and, undefV, undef, *])))
  refine acx_loop (fun _ _ _ h => h) (fun A H' => H' = H ∧ A.d = [] ∧ A.t 0 = strsV l ∧ ∃ (i : Nat), i ≤ l.length ∧ A.t 3 = iV i ∧ (l.take i).Nodup)
    (fun A _ => match A.t 3 with | .lit (.int _ i) => ((l.length : Int) - i).toNat | _ => 0) ?_ ?_
  · exact ⟨rfl, rfl, rfl, 0, by omega, rfl, by simp⟩
  · rintro ⟨t, d⟩ H' ⟨rfl, rfl, h0, i, hi, h3, hnd⟩
    dsimp only at h0 h3
    have hcall : ∀ (h : i < l.length) (K : VE → AH → Prop), K (.ret (boolV (hasF (l.take i) l[i]))) H' → VCalls Try.prog 56 [.slice false i (encC strE l), sV l[i]] H' K := fun h K hK => by
      have e : encC strE l = encC strE (l.take i) ++ encC strE (l.drop i) := by rw [← encC_append, List.take_append_drop]
      rw [e]
      refine vcalls_ghost (GhL.cons (GhV.trunc _ _ _ _ _) (GhL.refl _ _)) ?_
      have el : (l.take i).length = i := by rw [List.length_take]; omega
      rw [show VV.slice false i (encC strE (l.take i)) = strsV (l.take i) from by rw [strsV, encS, el]]
      exact (rhas_ok (l.take i) l[i] (by omega)).use hK
    unfold b38_1
    (repeat' (first | (simp only [↓s_skip, ↓s_reg, ↓s_seq, ↓s_cond, ↓s_block, ↓s_exit, ↓s_ret, ↓s_dreg, ↓s_nil, ↓s_consN, ↓s_thenN, ↓s_thenE, ↓s_thenR, ↓s_inN, ↓s_inE, ↓s_inR, ↓s_kret, ↓s_putS, ↓s_dOkS, ↓s_ev_t, ↓s_ev_c, ↓s_ev_f, ↓s_upd, ↓s_move, ↓s_assign, ↓s_load, ↓s_bin, ↓s_slice, ↓s_indexAddr, ↓s_callB, ↓s_callV, ↓s_callL, ↓s_len, ↓s_bin_lss, ↓s_bin_add, intV, boolV, List.map_cons, List.map_nil, ite_true, ite_false, Nat.reduceEqDiff, Nat.reduceLT, ne_eq, not_false_eq_true, not_true_eq_false, true_and, and_true, List.drop_zero, Nat.succ_ne_self, decide_true, decide_false, Bool.false_and, reduceCtorEq, Int.natCast_nonneg, Int.toNat_natCast, Nat.mul_one, ↓s_plFin, ↓s_plTkN, eq_self, and_self, ldV_f, Int.ofNat_lt, Nat.le_refl, n_ldI, n_ixS, n_ixA1, n_lenS, n_ldC, n_ldB, ↓s_plK, str_drop, vcSlice, Option.map_none, Option.map_some, sliceOk, idxV, idxOk, Int.toNat_natCast, Nat.sub_zero, ldT_9, elT_52, en_56, *]) | (refine condL_splitD ?_ ?_ <;> intro) | (refine condL_split ?_ ?_ <;> intro) | (refine ret_tmp ?_) | (refine acx_go rfl (fun _ _ _ h => h) ?_) | (refine acx_dreg mixed (fun _ _ _ _ e h => ⟨e.trans h.1, h.2⟩) _ (SubH.refl _) ?_) | (exact SubH.refl _) | (refine hcall (by assumption) _ ?_) | (with_reducible refine And.intro ?_ ?_)))
    · exact fun _ => trivial
    · omega
    · have hlt : i < l.length := by assumption
      have hh : l[i] ∈ l.take i := hasF_iff.1 (by assumption)
      have hnn : decide l.Nodup = false := by
        rw [decide_eq_false_iff_not]
        intro h
        have := nodup_take h (i + 1)
        rw [take_snoc hlt, nodup_snoc] at this
        exact this.2 hh
      rw [hnn]; rfl
    · have hlt : i < l.length := by assumption
      have hh : ¬ l[i] ∈ l.take i := fun h => by
        have := hasF_iff.2 h
        rw [(by assumption : hasF (l.take i) l[i] = false)] at this; cases this
      rw [wrap_ok (n := (i : Int) + 1) (by omega) (by omega)]
      exact ⟨i + 1, by omega, rfl, by rw [take_snoc hlt, nodup_snoc]; exact ⟨hnd, hh⟩⟩
    · rw [wrap_ok (n := (i : Int) + 1) (by omega) (by omega)]
      omega
    · rw [List.take_of_length_le (by omega)] at hnd
      have hnn : decide l.Nodup = true := decide_eq_true hnd
      unfold c38_1
      (repeat' (first | (simp only [↓s_reg, ↓s_seq, ↓s_ret, ↓s_nil, ↓s_consN, ↓s_thenN, ↓s_putS, ↓s_dOkS, ↓s_ev_c, ↓s_upd, ↓s_assign, ite_true, ite_false, Nat.reduceEqDiff, Nat.reduceLT, true_and, decide_true, Bool.not_true, eq_self, *]) | (refine ret_tmp ?_) | (exact SubH.refl _)))
theorem rnames_ok (p : Pa) : p.sz ≤ 1099511627776 → PureF Try.prog 39 [paV p] (strsV p.names) := by
  refine Pa.ind (p := fun p => p.sz ≤ 1099511627776 → PureF Try.prog 39 [paV p] (strsV p.names)) (fun p ih hs => ?_) p
  have ih' : ∀ i (h : i < p.kids.length), PureF Try.prog 39 [paV p.kids[i]] (strsV p.kids[i].names) := fun i h => ih _ (List.getElem_mem h) (by have := pasSz_mem (List.getElem_mem h); have := p.sz_eq; omega)
  have z1 := p.sz_eq
  have z2 := pasSz_len p.kids
  have hk : ∀ i (h : i < p.kids.length), p.kids[i].names.length ≤ 1099511627776 := fun i h => by have := pasSz_mem (List.getElem_mem h); have := p.kids[i].names_len; omega
  have htk : ∀ i, (pasNames (p.kids.take i)).length ≤ 1099511627776 := fun i => by have := pasNames_len (p.kids.take i); have := pasSz_take p.kids i; omega
  have hN : p.kids.length ≤ 1099511627776 := by omega
  clear ih z1 z2 hs
  rw [p.names_eq]
  refine GivesF.pure fun H => ?_
  refine vcalls_intro fd39 (by simp) ?_
  unfold c39
  by_cases hc : p.con = true
  · rw [if_pos hc]
    (repeat' (first | (simp only [↓s_skip, ↓s_reg, ↓s_seq, ↓s_seqL, ↓s_cond, ↓s_condF, ↓s_block, ↓s_loop, ↓s_nil, ↓s_consN, ↓s_thenN, ↓s_kret, ↓s_putS, ↓s_dOkS, ↓s_ev_t, ↓s_ev_c, ↓s_upd, ↓s_assign, ↓s_load, ↓s_un, ↓s_box, ↓s_buildSlice, ↓s_fieldAddr, ↓s_un_not, ptrV, List.map_nil, List.length_cons, List.length_nil, List.getD_cons_zero, List.getD_cons_succ, List.getD_nil, ite_true, ite_false, Nat.reduceEqDiff, Nat.reduceLT, Nat.reduceLeDiff, ne_eq, not_false_eq_true, true_and, Nat.succ_ne_self, Bool.not_true, Nat.mul_one, undefV, AH.get, fillV, eq_self, Nat.zero_add, Nat.add_zero, List.drop, and_self, ldV_f, cl_agg, ↓n_box, n_ldP, n_faP, n_ldA, n_ldB, n_faA, undef, vcBuildSlice, List.replicate_zero, List.flatten_nil, vcBuildSlice, flT_50_0, ldT_4, elT_52, zeroT_9, *]) | (refine allNew_intro fun zr zh => ?_; have zg := zh; (try simp only [AH.set_none] at zg))))
    refine acx_loop (fun _ _ _ h => h) (fun A H' => A.d = [] ∧ A.t 1 = ptrV zr 0 ∧ ∃ (i : Nat), i ≤ p.kids.length ∧ A.t 4 = iV i ∧ OutE (H.set zr (.cells 50 [bV true, sV p.name, encS paE p.kids] 0)) H' 9 1 (A.t 3) (pasNames (p.kids.take i)).length (encC strE (pasNames (p.kids.take i))))
      (fun A _ => match A.t 4 with | .lit (.int _ i) => ((p.kids.length : Int) - i).toNat | _ => 0) ?_ ?_
    · exact ⟨rfl, (by simp only [s_upd, Nat.reduceEqDiff, if_true, if_false, *] <;> rfl), 0, by omega, (by simp only [s_upd, Nat.reduceEqDiff, if_true, if_false, *] <;> rfl), OutE.start (SubH.refl _)⟩
    · rintro ⟨t, d⟩ H' ⟨rfl, h1, i, hi, h4, ho⟩
      dsimp only at h1 h4 ho
      have k1 := ho.sub _ _ (AH.set_same _ _ _)
      unfold b39_1
      have hti := htk i
      (repeat' (first | (simp only [↓s_skip, ↓s_reg, ↓s_seq, ↓s_cond, ↓s_block, ↓s_exit, ↓s_nil, ↓s_consN, ↓s_thenN, ↓s_thenE, ↓s_inE, ↓s_kret, ↓s_putS, ↓s_dOkS, ↓s_ev_t, ↓s_ev_f, ↓s_upd, ↓s_move, ↓s_load, ↓s_bin, ↓s_fieldAddr, ↓s_indexAddr, ↓s_callB, ↓s_callV, ↓s_callL, ↓s_len, ↓s_append, ↓s_bin_lss, ptrV, intV, List.map_cons, List.map_nil, ite_true, ite_false, Nat.reduceEqDiff, Nat.reduceLT, ne_eq, not_false_eq_true, true_and, Nat.succ_ne_self, decide_true, decide_false, reduceCtorEq, Int.natCast_nonneg, Int.toNat_natCast, eq_self, Nat.zero_add, List.drop, and_self, ldV_f, ldV_t3, Int.ofNat_lt, n_ldI, n_ldP, n_faP, n_ixS, n_ixA1, n_lenS, n_ldA, n_ldC, n_ldB, n_faA, pa_drop, flT_50_2, ldT_44, ldT_50, elT_44, en_39, *]) | (refine condL_splitD ?_ ?_ <;> intro) | (refine PureF.use (ih' _ (by assumption)) ?_)))
      · have hlt : i < p.kids.length := by assumption
        have hki := hk i hlt
        have e : pasNames (p.kids.take (i + 1)) = pasNames (p.kids.take i) ++ p.kids[i].names := pasNames_take hlt
        refine ho.append elT_52 zeroT_9 rfl (by omega) (src_enc (enc := strE) (k := 1) (fun _ => rfl) _ false _) (encC_one str_one _) (by omega) (by omega) (fun h0 => by rw [List.eq_nil_of_length_eq_zero h0]; rfl) (fun v' H'' ho2 => ?_)
        rw [← encC_append, ← List.length_append, ← e] at ho2
        (repeat' (first | (simp only [↓s_reg, ↓s_nil, ↓s_consN, ↓s_thenN, ↓s_inN, ↓s_kret, ↓s_putS, ↓s_dOkS, ↓s_ev_t, ↓s_ev_c, ↓s_upd, ↓s_move, ↓s_assign, ↓s_bin, ↓s_bin_add, ptrV, ite_true, ite_false, Nat.reduceEqDiff, Nat.reduceLT, true_and, Nat.succ_ne_self, eq_self, *]) | (with_reducible refine And.intro ?_ ?_)))
        all_goals rw [wrap_ok (n := (i : Int) + 1) (by omega) (by omega)]
        · exact ⟨i + 1, by omega, rfl, ho2⟩
        · omega
      · have hie : i = p.kids.length := by omega
        subst hie
        rw [List.take_of_length_le (Nat.le_refl _)] at ho
        refine acx_go rfl (fun _ _ _ h => h) ?_
        unfold c39_1
        (repeat' (first | (simp only [↓s_reg, ↓s_seq, ↓s_ret, ↓s_nil, ↓s_consN, ↓s_thenN, ↓s_putS, ↓s_dOkS, ↓s_ev_t, ↓s_upd, ↓s_move, ↓s_assign, ite_true, ite_false, Nat.reduceEqDiff, Nat.reduceLT, true_and, eq_self, *]) | (refine ret_tmp ?_)))
        exact ⟨_, rfl, ho.back.trans (GhV.forget (SubH.new zh) _)⟩
  · have hc' : p.con = false := by simpa using hc
    rw [if_neg hc]
    (repeat' (first | (simp only [↓s_reg, ↓s_seq, ↓s_cond, ↓s_condT, ↓s_ret, ↓s_nil, ↓s_consN, ↓s_thenN, ↓s_thenR, ↓s_kret, ↓s_putS, ↓s_dOkS, ↓s_ev_t, ↓s_ev_c, ↓s_upd, ↓s_assign, ↓s_load, ↓s_un, ↓s_box, ↓s_buildSlice, ↓s_fieldAddr, ↓s_un_not, ptrV, List.map_cons, List.map_nil, List.length_cons, List.length_nil, List.getD_cons_zero, List.getD_cons_succ, List.getD_nil, List.append_nil, ite_true, ite_false, Nat.reduceEqDiff, Nat.reduceLT, Nat.reduceLeDiff, ne_eq, not_false_eq_true, true_and, Nat.succ_ne_self, Bool.not_false, Nat.mul_one, undefV, AH.get, fillV, setAt, eq_self, Nat.zero_add, Nat.add_zero, List.drop, and_self, ldV_f, cl_str, cl_agg, List.set_cons_zero, ↓n_box, Nat.le_refl, n_ldP, n_faP, n_ldA, n_ldB, n_faA, undef, vcBuildSlice, List.replicate_succ, List.replicate_zero, List.flatten_cons, List.flatten_nil, vcBuildSlice, flT_50_0, flT_50_1, ldT_4, ldT_9, elT_52, zeroT_9, *]) | (refine ret_tmp ?_) | (refine allNew_intro fun zr zh => ?_; have zg := zh; (try simp only [AH.set_none] at zg))))
    exact ⟨_, rfl, (GhV.imm _).trans (GhV.forget (SubH.new zh) _)⟩
end Go.PV.Ytglpmlbbaedbiaa
end
section
/- The reference's put. -/
set_option linter.unusedVariables false
set_option linter.unusedSimpArgs false
set_option maxRecDepth 20000
set_option maxHeartbeats 4000000
namespace Go.PV.Ytglpmlbbaedbiaa
open Go Go.Proofs
mutual
def Ex.putM (m : Bool) : Ex → List Bd → Ex
  | .mk op n ks, l => if m = true ∧ op = 9 then .mk op n ks else match (if op = 1 then lastB l n else none) with
    | some e => if m = true then .mk 9 { data := #[] } [e] else e
    | none => .mk op n (exsPutM m ks (if op = 5 then l.filter (fun b => !decide (b.1 = n)) else l))
def exsPutM (m : Bool) : List Ex → List Bd → List Ex
  | [], _ => []
  | k :: ks, l => k.putM m l :: exsPutM m ks l
end
theorem exsPutM_eq (m : Bool) : ∀ (ks : List Ex) (l : List Bd), exsPutM m ks l = ks.map (·.putM m l)
  | [], _ => rfl
  | k :: ks, l => by rw [exsPutM, List.map_cons, exsPutM_eq m ks l]
theorem Ex.putM_eq (m : Bool) (e : Ex) (l : List Bd) : e.putM m l = if m = true ∧ e.op = 9 then e else match (if e.op = 1 then lastB l e.name else none) with
    | some x => if m = true then .mk 9 { data := #[] } [x] else x
    | none => .mk e.op e.name (e.kids.map (·.putM m (if e.op = 5 then l.filter (fun b => !decide (b.1 = e.name)) else l))) := by
  cases e; rw [Ex.putM, exsPutM_eq]; rfl
mutual
theorem Ex.putM_false : ∀ (e : Ex) (l : List Bd), e.putM false l = e.put l
  | .mk op n ks, l => by
    rw [Ex.putM, Ex.put, if_neg (by simp), exsPutM_false ks]
    split <;> simp_all
theorem exsPutM_false : ∀ (ks : List Ex) (l : List Bd), exsPutM false ks l = exsPut ks l
  | [], l => rfl
  | k :: ks, l => by rw [exsPutM, exsPut, Ex.putM_false k l, exsPutM_false ks l]
end
def rpQ (H0 : AH) (x : Ex) : APost := retPost Try.prog [.cell 6 28] fun e H' => ∃ y, e = VE.ret y ∧ GhV H' y H0 (exV x)
theorem rp_leave {H0 H : AH} {t : Nat → VV} {r6 sp : Nat} {a b c : VV} {x : Ex} {e' : TypeId} (h6 : t 6 = ptrV r6 0) (k6 : H r6 = some (.cells e' [a, b, c] sp)) (hg : GhV H (.agg [a, b, c]) H0 (exV x)) : rpQ H0 x .ret ⟨t, []⟩ H :=
  ret_cell ldT_28 h6 k6 (by rw [List.drop_zero]; exact ldV_t3 _ _ _ _) ⟨_, rfl, hg⟩
theorem rput_tail {op : Int} {nm : ByteArray} {kids : List Ex} {m : Bool} {l : List Bd} {t : Nat → VV} {H0 B : AH} {r3 r6 : Nat} {z0 z1 z2 : VV} (hN : kids.length ≤ 1099511627776)
    (ih : ∀ i (h : i < kids.length), PureF Try.prog 57 [exV kids[i], bdsV l, bV m] (exV (kids[i].putM m l)))
    (h1 : t 1 = bdsV l) (h2 : t 2 = bV m) (h3 : t 3 = ptrV r3 0) (h6 : t 6 = ptrV r6 0) (k3 : B r3 = some (.cells 28 [iV op, sV nm, encS exE kids] 0)) (k6 : B r6 = some (.cells 28 [z0, z1, z2] 0)) (n6 : H0 r6 = none) (hs : SubH H0 B) :
    ACx ⟨Try.prog, 112, none⟩ c57_3 (rpQ H0 (.mk op nm (kids.map (·.putM m l)))) ⟨t, []⟩ B := by
  obtain ⟨ks, hks⟩ : ∃ ks, ks = kids.map (·.putM m l) := ⟨_, rfl⟩
  have hkl : ks.length = kids.length := by rw [hks]; simp
  have hki : ∀ i (h : i < kids.length) (h' : i < ks.length), kids[i].putM m l = ks[i] := fun i h h' => by simp only [hks, List.getElem_map]
  rw [← hks]
  clear hks
  refine acx_go rfl (fun _ _ _ h => h) ?_
  unfold c57_3
  (repeat' (first | (simp only [↓s_reg, ↓s_seq, ↓s_seqL, ↓s_block, ↓s_loop, ↓s_nil, ↓s_consN, ↓s_thenN, ↓s_kret, ↓s_putS, ↓s_putN, ↓s_dOkS, ↓s_dOkN, ↓s_ev_t, ↓s_ev_c, ↓s_upd, ↓s_assign, ↓s_load, ↓s_store, ↓s_alloc, ↓s_build, ↓s_fieldAddr, ptrV, List.map_cons, List.map_nil, List.length_cons, List.length_nil, ite_true, ite_false, Nat.reduceEqDiff, Nat.reduceLT, Nat.reduceAdd, Nat.reduceLeDiff, ne_eq, not_false_eq_true, true_and, Nat.succ_ne_self, AH.get, AH.set_set, vcBuild, fillV, setAt, List.all_cons, List.all_nil, Bool.and_self, eq_self, Nat.zero_add, Nat.add_zero, List.drop, and_self, List.getElem?_cons_zero, List.getElem?_cons_succ, ldV_f, cl_int, on_int, cl_str, on_str, on_sl, cl_agg, List.set_cons_zero, List.set_cons_succ, ↓n_alloc, n_allocS, Nat.le_refl, n_ldP, n_faP, n_ldA, n_ldB, n_faA, n_stP, n_stA, flT_28_1, flT_28_0, ldT_9, ldT_3, szT_28, stT_28, zeroT_28, *]) | (refine allNew_intro fun zr zh => ?_; have zg := zh; (try simp only [AH.set_none] at zg); (try have zn_k3 := AH.ne_of k3 zh); (try have zn_k3 := AH.ne_of k3 zg.2); (try have zn_k3 := AH.ne_of k3 zg.2.2); (try have zn_k6 := AH.ne_of k6 zh); (try have zn_k6 := AH.ne_of k6 zg.2); (try have zn_k6 := AH.ne_of k6 zg.2.2))))
  have hin : InB B (B.set zr (.cells 28 [iV op, sV nm, .lit (.slice none 0 0)] 0)) zr 28 [iV op, sV nm] [] 28 3 0 [] (.lit (.slice none 0 0)) _ :=
    InB.start (AH.set_same _ _ _) (SubH.new zh) zh
  refine acx_loop (fun _ _ _ h => h) (fun A H => A.d = [] ∧ A.t 1 = bdsV l ∧ A.t 2 = bV m ∧ A.t 3 = ptrV r3 0 ∧ A.t 6 = ptrV r6 0 ∧ A.t 10 = ptrV zr 0 ∧ ∃ (i : Nat) (v : VV) (Hb : AH), i ≤ kids.length ∧ A.t 11 = iV i ∧ InB B H zr 28 [iV op, sV nm] [] 28 3 i (encC exE (ks.take i)) v Hb)
    (fun A _ => match A.t 11 with | .lit (.int _ i) => ((kids.length : Int) - i).toNat | _ => 0) ?_ ?_
  · exact ⟨rfl, (by simp only [s_upd, Nat.reduceEqDiff, if_false, *] <;> rfl), (by simp only [s_upd, Nat.reduceEqDiff, if_false, *] <;> rfl), (by simp only [s_upd, Nat.reduceEqDiff, if_false, *] <;> rfl), (by simp only [s_upd, Nat.reduceEqDiff, if_false, *] <;> rfl), (by simp only [s_upd, Nat.reduceEqDiff, if_true, if_false, *] <;> rfl), 0, _, _, by omega, (by simp only [s_upd, Nat.reduceEqDiff, if_true, if_false, *] <;> rfl), hin⟩
  · clear hin h1 h2 h3 h6
    rintro ⟨t, d'⟩ H ⟨rfl, h1, h2, h3, h6, h10, i, v, Hb, hi, h11, hb⟩
    dsimp only at h1 h2 h3 h6 h10 h11
    have q10 := hb.at
    have q3 := hb.sub' _ _ k3
    unfold b57_3
    (repeat' (first | (simp only [↓s_skip, ↓s_reg, ↓s_seq, ↓s_cond, ↓s_block, ↓s_exit, ↓s_dreg, ↓s_nil, ↓s_consN, ↓s_thenN, ↓s_thenE, ↓s_inE, ↓s_kret, ↓s_putS, ↓s_dOkS, ↓s_ev_t, ↓s_ev_f, ↓s_upd, ↓s_move, ↓s_load, ↓s_bin, ↓s_buildSlice, ↓s_fieldAddr, ↓s_indexAddr, ↓s_callB, ↓s_callV, ↓s_callL, ↓s_len, ↓s_append, ↓s_bin_lss, ptrV, intV, List.map_cons, List.map_nil, List.length_cons, List.length_nil, List.cons_append, List.nil_append, List.append_nil, ite_true, ite_false, Nat.reduceEqDiff, Nat.reduceLT, Nat.reduceAdd, Nat.reduceMul, Nat.reduceLeDiff, ne_eq, not_false_eq_true, true_and, Nat.succ_ne_self, decide_true, decide_false, reduceCtorEq, Int.natCast_nonneg, Int.toNat_natCast, ↓s_plFin, ↓s_plTkN, ↓s_plOneN, fillV, setAt, eq_self, Nat.zero_add, List.drop, and_self, ldV_f, ldV_t3, Int.ofNat_lt, cl_agg, List.set_cons_zero, List.set_cons_succ, Nat.le_refl, n_ldI, n_ldP, n_faP, n_ixS, n_ixA1, n_lenS, n_ldA, n_ldC, n_ldB, n_faA, ↓s_plK, ↓s_oneK, vcBuildSlice, List.replicate_succ, List.replicate_zero, List.flatten_cons, List.flatten_nil, ex_drop, vcBuildSlice, flT_28_2, ldT_28, ldT_25, zeroT_28, elT_25, en_57, *]) | (refine condL_splitD ?_ ?_ <;> intro) | (refine acx_dreg mixed (fun _ _ _ _ e h => ⟨e.trans h.1, h.2⟩) _ (SubH.refl _) ?_) | (exact SubH.refl _) | (refine PureF.use (ih _ (by assumption)) ?_) | (with_reducible refine And.intro ?_ ?_)))
    · have hlt : i < kids.length := by assumption
      refine append_one elT_25 zeroT_28 rfl (by omega) hb.own rfl rfl (by omega) (by omega) (fun v' H' ho => ?_)
      have hb2 := hb.next ho
      have q10' := ho.sub _ _ hb.blk
      have hc1 := ho.cells.1
      have hc2 := ho.cells.2
      clear hb q10 q3 ho
      (repeat' (first | (simp only [↓s_reg, ↓s_nil, ↓s_consN, ↓s_thenN, ↓s_inN, ↓s_kret, ↓s_putS, ↓s_putN, ↓s_dOkS, ↓s_dOkN, ↓s_ev_t, ↓s_ev_c, ↓s_upd, ↓s_move, ↓s_assign, ↓s_store, ↓s_bin, ↓s_fieldAddr, ↓s_bin_add, ptrV, List.length_cons, List.length_nil, List.cons_append, List.nil_append, ite_true, ite_false, Nat.reduceEqDiff, Nat.reduceLT, Nat.reduceAdd, ne_eq, not_false_eq_true, true_and, Nat.succ_ne_self, setAt, List.all_cons, List.all_nil, Bool.and_self, eq_self, Nat.zero_add, List.set_cons_zero, List.set_cons_succ, Nat.le_refl, n_faP, n_faA, n_stP, n_stA, flT_28_2, szT_25, *]) | (with_reducible refine And.intro ?_ ?_)))
      all_goals rw [wrap_ok (n := (i : Int) + 1) (by omega) (by omega)]
      · rw [← ex_take (by omega)] at hb2
        exact ⟨i + 1, v', _, by omega, rfl, hb2⟩
      · omega
    · have hie : i = kids.length := by omega
      subst hie
      rw [List.take_of_length_le (by omega)] at hb
      refine acx_ghost (hb.ghost _ _) ?_
      have n10 := hb.new
      have hx : Blk.cells 28 ([iV op, sV nm] ++ [.slice false kids.length (encC exE ks)]) 0 = .cells 28 [iV op, sV nm, encS exE ks] 0 := by rw [← hkl]; rfl
      rw [hx]
      clear hb q10 q3 hx
      have d6 := AH.ne_of k6 n10
      refine acx_go rfl (fun _ _ _ h => h) ?_
      unfold c57_2
      (repeat' (first | (simp only [↓s_reg, ↓s_seq, ↓s_ret, ↓s_nil, ↓s_consN, ↓s_thenN, ↓s_kret, ↓s_putS, ↓s_putN, ↓s_dOkS, ↓s_dOkN, ↓s_ev_t, ↓s_upd, ↓s_load, ↓s_store, ptrV, List.length_cons, List.length_nil, ite_true, ite_false, Nat.reduceEqDiff, Nat.reduceLT, Nat.reduceAdd, true_and, AH.get, setAt, List.all_cons, List.all_nil, Bool.and_self, eq_self, Nat.zero_add, List.drop, ldV_t3, on_int, on_str, cl_agg, on_slice, List.set_cons_zero, List.set_cons_succ, Nat.le_refl, n_ldP, n_ldA, n_ldB, n_stP, n_stA, ldT_28, szT_28, *])))
      exact rp_leave (by simp only [s_upd, Nat.reduceEqDiff, if_false, *] <;> rfl) (AH.set_same _ _ _) (GhV.forget ((hs.of_set (hs.none n10)).of_set n6) _)
theorem filter_keep_snoc {l : List Bd} {n : ByteArray} {j : Nat} (h : j < l.length) : (l.take (j + 1)).filter (fun b => !decide (b.1 = n)) = (l.take j).filter (fun b => !decide (b.1 = n)) ++ (if l[j].1 = n then [] else [l[j]]) := by
  rw [take_snoc h, List.filter_append]
  congr 1
  by_cases hp : l[j].1 = n <;> simp [hp]
theorem rput_mid {op : Int} {nm : ByteArray} {kids : List Ex} {m : Bool} {l : List Bd} {t : Nat → VV} {H0 B : AH} {r3 r6 : Nat} {z0 z1 z2 : VV} (hN : kids.length ≤ 1099511627776) (hl : l.length ≤ 1099511627776)
    (ih : ∀ (l : List Bd), l.length ≤ 1099511627776 → ∀ i (h : i < kids.length), PureF Try.prog 57 [exV kids[i], bdsV l, bV m] (exV (kids[i].putM m l)))
    (h1 : t 1 = bdsV l) (h2 : t 2 = bV m) (h3 : t 3 = ptrV r3 0) (h6 : t 6 = ptrV r6 0) (k3 : B r3 = some (.cells 28 [iV op, sV nm, encS exE kids] 0)) (k6 : B r6 = some (.cells 28 [z0, z1, z2] 0)) (n6 : H0 r6 = none) (hs : SubH H0 B) :
    ACx ⟨Try.prog, 112, none⟩ c57_4 (rpQ H0 (.mk op nm (kids.map (·.putM m (if op = 5 then l.filter (fun b => !decide (b.1 = nm)) else l))))) ⟨t, []⟩ B := by
  refine acx_go rfl (fun _ _ _ h => h) ?_
  unfold c57_4
  by_cases h5 : op = 5
  · rw [if_pos h5]
    subst h5
    have hlf : (l.filter fun b => !decide (b.1 = nm)).length ≤ 1099511627776 := by have := List.length_filter_le (fun b : Bd => !decide (b.1 = nm)) l; omega
    (repeat' (first | (simp only [↓s_reg, ↓s_seq, ↓s_seqL, ↓s_cond, ↓s_condT, ↓s_block, ↓s_loop, ↓s_nil, ↓s_consN, ↓s_thenN, ↓s_kret, ↓s_putS, ↓s_dOkS, ↓s_ev_t, ↓s_ev_c, ↓s_upd, ↓s_assign, ↓s_load, ↓s_bin, ↓s_buildSlice, ↓s_fieldAddr, ↓s_bin_eql, ptrV, List.map_nil, List.length_cons, List.length_nil, ite_true, ite_false, Nat.reduceEqDiff, Nat.reduceLT, Nat.reduceAdd, Nat.reduceMul, Nat.reduceLeDiff, ne_eq, not_false_eq_true, true_and, Nat.succ_ne_self, decide_true, fillV, eq_self, Nat.zero_add, Nat.add_zero, List.drop, and_self, ldV_f, n_ldP, n_faP, n_ldA, n_ldB, n_faA, vcBuildSlice, List.replicate_zero, List.flatten_nil, vcBuildSlice, flT_28_0, ldT_3, elT_104, zeroT_108, *])))
    refine acx_loop (fun _ _ _ h => h) (fun A H => A.d = [] ∧ A.t 1 = bdsV l ∧ A.t 2 = bV m ∧ A.t 3 = ptrV r3 0 ∧ A.t 6 = ptrV r6 0 ∧ ∃ (i : Nat), i ≤ l.length ∧ A.t 9 = iV i ∧ OutE B H 108 4 (A.t 8) ((l.take i).filter (fun b => !decide (b.1 = nm))).length (encC bdE ((l.take i).filter (fun b => !decide (b.1 = nm)))))
      (fun A _ => match A.t 9 with | .lit (.int _ i) => ((l.length : Int) - i).toNat | _ => 0) ?_ ?_
    · exact ⟨rfl, (by simp only [s_upd, Nat.reduceEqDiff, if_false, *] <;> rfl), (by simp only [s_upd, Nat.reduceEqDiff, if_false, *] <;> rfl), (by simp only [s_upd, Nat.reduceEqDiff, if_false, *] <;> rfl), (by simp only [s_upd, Nat.reduceEqDiff, if_false, *] <;> rfl), 0, by omega, (by simp only [s_upd, Nat.reduceEqDiff, if_true, if_false, *] <;> rfl), OutE.start (SubH.refl _)⟩
    · clear h1 h2 h3 h6
      rintro ⟨t, d'⟩ H ⟨rfl, h1, h2, h3, h6, i, hi, h9, ho⟩
      dsimp only at h1 h2 h3 h6 h9 ho
      have q3 := ho.sub _ _ k3
      have hfl := List.length_filter_le (fun b : Bd => !decide (b.1 = nm)) (l.take i)
      have htl : (l.take i).length ≤ l.length := by rw [List.length_take]; omega
      have hA : (((l.take i).filter (fun b => !decide (b.1 = nm))).length + 1) * 64 ≤ 140737488355328 ∧ ((l.take i).filter (fun b => !decide (b.1 = nm))).length + 1 ≤ 9223372036854775807 := by omega
      clear hfl htl
      replace hA := Hold.mk hA
      unfold b57_2
      (repeat' (first | (simp only [↓s_skip, ↓s_reg, ↓s_seq, ↓s_cond, ↓s_block, ↓s_exit, ↓s_dreg, ↓s_nil, ↓s_consN, ↓s_thenN, ↓s_thenE, ↓s_inN, ↓s_inE, ↓s_kret, ↓s_putS, ↓s_dOkS, ↓s_ev_t, ↓s_ev_c, ↓s_upd, ↓s_move, ↓s_assign, ↓s_load, ↓s_bin, ↓s_buildSlice, ↓s_fieldAddr, ↓s_indexAddr, ↓s_callB, ↓s_len, ↓s_append, ↓s_bin_lss, ↓s_bin_add, ↓s_neqS, ptrV, intV, List.map_cons, List.map_nil, List.length_cons, List.length_nil, List.append_nil, ite_true, ite_false, Nat.reduceEqDiff, Nat.reduceLT, Nat.reduceAdd, Nat.reduceMul, Nat.reduceLeDiff, ne_eq, not_false_eq_true, true_and, Nat.succ_ne_self, decide_true, decide_false, reduceCtorEq, Int.natCast_nonneg, Int.toNat_natCast, ↓s_plFin, ↓s_plTkN, fillV, setAt, eq_self, Nat.zero_add, List.drop, and_self, ldV_f, ldV_t4, Int.ofNat_lt, cl_agg, List.set_cons_zero, List.set_cons_succ, Nat.le_refl, n_ldI, n_ldP, n_faI, n_faP, n_ixS, n_ixA1, n_lenS, n_ldA, n_ldC, n_ldB, n_faA, ↓s_plK, vcBuildSlice, List.replicate_succ, List.replicate_zero, List.flatten_cons, List.flatten_nil, bd_drop, vcBuildSlice, flT_108_0, flT_28_1, ldT_9, ldT_108, elT_104, zeroT_108, *]) | (refine condL_splitD ?_ ?_ <;> intro) | (refine condL_split ?_ ?_ <;> intro) | (refine acx_dreg mixed (fun _ _ _ _ e h => ⟨e.trans h.1, h.2⟩) _ (SubH.refl _) ?_) | (with_reducible refine And.intro ?_ ?_)))
      · have hlt : i < l.length := by assumption
        have hne : ¬ l[i].1 = nm := by simpa using (by assumption : (!decide (l[i].1 = nm)) = true)
        have e := filter_keep_snoc (n := nm) hlt
        rw [if_neg hne] at e
        refine ho.append1 elT_104 zeroT_108 rfl (by omega) rfl rfl hA.out.1 hA.out.2 (fun v2 H2 ho2 => ?_)
        rw [show encC bdE ((l.take i).filter (fun b => !decide (b.1 = nm))) ++ [sV l[i].1, iV l[i].2.op, sV l[i].2.name, exsV l[i].2.kids] = encC bdE ((l.take (i + 1)).filter (fun b => !decide (b.1 = nm))) from by rw [e, encC_append]; rfl,
          show ((l.take i).filter (fun b => !decide (b.1 = nm))).length + 1 = ((l.take (i + 1)).filter (fun b => !decide (b.1 = nm))).length from by rw [e, List.length_append]; rfl] at ho2
        (repeat' (first | (simp only [↓s_reg, ↓s_nil, ↓s_consN, ↓s_thenN, ↓s_inN, ↓s_kret, ↓s_putS, ↓s_dOkS, ↓s_ev_t, ↓s_ev_c, ↓s_upd, ↓s_move, ↓s_assign, ↓s_bin, ↓s_bin_add, ptrV, ite_true, ite_false, Nat.reduceEqDiff, Nat.reduceLT, true_and, Nat.succ_ne_self, eq_self, *]) | (with_reducible refine And.intro ?_ ?_)))
        all_goals rw [wrap_ok (n := (i : Int) + 1) (by omega) (by omega)]
        · exact ⟨i + 1, by omega, rfl, ho2⟩
        · omega
      · have hlt : i < l.length := by assumption
        have hne : l[i].1 = nm := by simpa using (by assumption : (!decide (l[i].1 = nm)) = false)
        have e := filter_keep_snoc (n := nm) hlt
        rw [if_pos hne, List.append_nil] at e
        rw [wrap_ok (n := (i : Int) + 1) (by omega) (by omega)]
        exact ⟨i + 1, by omega, rfl, by rw [e]; exact ho⟩
      · rw [wrap_ok (n := (i : Int) + 1) (by omega) (by omega)]
        omega
      · have hie : i = l.length := by omega
        subst hie
        rw [List.take_of_length_le (Nat.le_refl _)] at ho
        clear hA q3
        refine acx_ghost (H' := B) (Ghost.slot (i := 8) (x' := bdsV (l.filter fun b => !decide (b.1 = nm))) (by simp only [s_upd, Nat.reduceEqDiff, if_false]; exact ho.back)) ?_
        clear ho
        refine acx_go rfl (fun _ _ _ h => h) ?_
        unfold c57_1
        (repeat' (first | (simp only [↓s_reg, ↓s_nil, ↓s_consN, ↓s_thenN, ↓s_putS, ↓s_dOkS, ↓s_ev_t, ↓s_upd, ↓s_move, ↓s_assign, ite_true, ite_false, Nat.reduceEqDiff, Nat.reduceLT, true_and, eq_self, *])))
        exact rput_tail hN (ih _ hlf) (by simp only [s_upd, Nat.reduceEqDiff, if_true, if_false, *] <;> rfl) (by simp only [s_upd, Nat.reduceEqDiff, if_false, *] <;> rfl) (by simp only [s_upd, Nat.reduceEqDiff, if_false, *] <;> rfl) (by simp only [s_upd, Nat.reduceEqDiff, if_false, *] <;> rfl) k3 k6 n6 hs
  · rw [if_neg h5]
    (repeat' (first | (simp only [↓s_skip, ↓s_reg, ↓s_seq, ↓s_seqL, ↓s_cond, ↓s_condF, ↓s_nil, ↓s_consN, ↓s_thenN, ↓s_kret, ↓s_putS, ↓s_dOkS, ↓s_ev_t, ↓s_ev_c, ↓s_upd, ↓s_load, ↓s_bin, ↓s_fieldAddr, ↓s_bin_eql, ptrV, ite_true, ite_false, Nat.reduceEqDiff, Nat.reduceLT, ne_eq, not_false_eq_true, true_and, Nat.succ_ne_self, decide_false, eq_self, Nat.add_zero, List.drop, ldV_f, n_ldP, n_faP, n_ldA, n_ldB, n_faA, flT_28_0, ldT_3, *])))
    exact rput_tail hN (ih l hl) (by simp only [s_upd, Nat.reduceEqDiff, if_false, *] <;> rfl) (by simp only [s_upd, Nat.reduceEqDiff, if_false, *] <;> rfl) (by simp only [s_upd, Nat.reduceEqDiff, if_false, *] <;> rfl) (by simp only [s_upd, Nat.reduceEqDiff, if_false, *] <;> rfl) k3 k6 n6 hs
theorem rput_ok (m : Bool) : ∀ (n : Nat) (e : Ex) (l : List Bd), e.sz < n → e.sz ≤ 1099511627776 → l.length ≤ 1099511627776 → PureF Try.prog 57 [exV e, bdsV l, bV m] (exV (e.putM m l)) := by
  intro n
  induction n with
  | zero => intro e l h; omega
  | succ n ih =>
    intro e l h0 hs hl
    have z1 := e.sz_eq
    have hkl := exsSz_len e.kids
    have hN : e.kids.length ≤ 1099511627776 := by omega
    have ih' : ∀ (l : List Bd), l.length ≤ 1099511627776 → ∀ i (h : i < e.kids.length), PureF Try.prog 57 [exV e.kids[i], bdsV l, bV m] (exV (e.kids[i].putM m l)) := fun l hl i h => ih _ l (by have := exsSz_mem (List.getElem_mem h); omega) (by have := exsSz_mem (List.getElem_mem h); omega) hl
    clear ih z1 hkl h0 hs
    refine GivesF.pure fun H0 => ?_
    refine vcalls_intro fd57 (by simp) ?_
    show vc _ _ (rpQ H0 (e.putM m l)) _ _
    unfold c57
    by_cases h9 : m = true ∧ e.op = 9
    · obtain ⟨hm, h9⟩ := h9
      have hp : e.putM m l = e := by rw [e.putM_eq, if_pos ⟨hm, h9⟩]
      rw [hp]
      clear hp ih'
      subst hm
      have h9' := Hold.mk h9
      (repeat' (first | (simp only [↓s_reg, ↓s_seq, ↓s_cond, ↓s_condT, ↓s_ret, ↓s_nil, ↓s_consN, ↓s_consG, ↓s_guardTT, ↓s_thenN, ↓s_thenR, ↓s_kret, ↓s_putS, ↓s_putN, ↓s_dOkS, ↓s_dOkN, ↓s_ev_t, ↓s_ev_c, ↓s_upd, ↓s_move, ↓s_isBool, ↓s_pickA, ↓s_pick, ↓s_load, ↓s_store, ↓s_bin, ↓s_alloc, ↓s_box, ↓s_fieldAddr, ↓s_bin_eql, ptrV, List.map_cons, List.map_nil, List.length_cons, List.length_nil, List.getD_cons_zero, List.getD_cons_succ, List.getD_nil, ite_true, ite_false, Nat.reduceEqDiff, Nat.reduceLT, Nat.reduceAdd, ne_eq, not_false_eq_true, true_and, Nat.succ_ne_self, decide_true, undefV, AH.get, AH.set_set, setAt, List.all_cons, List.all_nil, Bool.and_self, eq_self, Nat.zero_add, Nat.add_zero, List.drop, ldV_f, ldV_t3, on_int, on_str, cl_agg, on_slice, List.set_cons_zero, List.set_cons_succ, ↓n_alloc, n_allocS, ↓n_box, Nat.le_refl, n_ldP, n_faP, n_ldA, n_ldB, n_faA, n_stP, n_stA, undef, flT_28_0, ldT_28, ldT_3, szT_28, zeroT_28, *]) | (refine allNew_intro fun zr zh => ?_; have zg := zh; (try simp only [AH.set_none] at zg))))
      rename_i r3 n3 n3'
      refine rp_leave (by simp only [s_upd, Nat.reduceEqDiff, if_true, if_false, *] <;> rfl) (AH.set_same _ _ _) ?_
      rw [← h9]
      exact GhV.forget ((SubH.new n3).of_set zg.2) _
    · have hb9 : (m && decide (e.op = 9)) = false := by
        cases m with
        | false => rfl
        | true => simp only [Bool.true_and]; exact decide_eq_false fun h => h9 ⟨rfl, h⟩
      have hX := e.putM_eq m l
      rw [if_neg h9] at hX
      clear h9
      have hmid : ∀ (op : Int) (nm : ByteArray), op = e.op → nm = e.name → ¬ (op = 1 ∧ lastB l nm ≠ none) → e.putM m l = .mk op nm (e.kids.map (·.putM m (if op = 5 then l.filter (fun b => !decide (b.1 = nm)) else l))) := by
        rintro op nm rfl rfl hno
        rw [hX]
        by_cases h1 : e.op = 1
        · have : lastB l e.name = none := by
            cases h : lastB l e.name with
            | none => rfl
            | some x => exact absurd ⟨h1, by rw [h]; simp⟩ hno
          rw [if_pos h1, this]
        · rw [if_neg h1]
      by_cases h1 : e.op = 1
      · obtain ⟨X, hXe⟩ : ∃ X, X = e.putM m l := ⟨_, rfl⟩
        have hno : lastB l e.name = none → X = .mk 1 e.name (e.kids.map (·.putM m l)) := fun h => by
          rw [hXe, hmid 1 e.name h1.symm rfl (fun h' => h'.2 h), if_neg (by omega)]
        have hsome : ∀ x, lastB l e.name = some x → X = if m = true then .mk 9 { data := #[] } [x] else x := fun x h => by
          rw [hXe, hX, if_pos h1, h]
        rw [← hXe]
        clear hXe hX hmid
        replace hno := Hold.mk hno
        replace hsome := Hold.mk hsome
        have w0 : IntKind.i64.wrap ((l.length : Int) - 1) = (l.length : Int) - 1 := wrap_ok (by omega) (by omega)
        have hgo : ∀ (t : Nat → VV) (B : AH) (r3 r6 : Nat) (z0 z1 z2 : VV), t 1 = bdsV l → t 2 = bV m → t 3 = ptrV r3 0 → t 6 = ptrV r6 0 → t 7 = iV ((l.length : Int) - 1) → B r3 = some (.cells 28 [iV 1, sV e.name, encS exE e.kids] 0) → B r6 = some (.cells 28 [z0, z1, z2] 0) → H0 r6 = none → SubH H0 B →
            ACx ⟨Try.prog, 112, none⟩ (.loop b57_1) (inBlockA 0 (thenA (ACx ⟨Try.prog, 112, none⟩ c57_4 (rpQ H0 X)) (rpQ H0 X))) ⟨t, []⟩ B := by
          clear w0 h1 hb9
          intro t B r3 r6 z0 z1 z2 t1 t2 t3 t6 t7 k3 k6 n6 hs
          refine acx_loop (fun _ _ _ h => h) (fun A H => H = B ∧ A.d = [] ∧ A.t 1 = bdsV l ∧ A.t 2 = bV m ∧ A.t 3 = ptrV r3 0 ∧ A.t 6 = ptrV r6 0 ∧ ∃ k : Nat, k ≤ l.length ∧ A.t 7 = iV ((k : Int) - 1) ∧ ∀ j (h : j < l.length), k ≤ j → ¬ l[j].1 = e.name)
            (fun A _ => match A.t 7 with | .lit (.int _ i) => (i + 1).toNat | _ => 0) ?_ ?_
          · exact ⟨rfl, rfl, t1, t2, t3, t6, l.length, by omega, t7, fun j h hj => by omega⟩
          · clear t1 t2 t3 t6 t7
            rintro ⟨t, d⟩ H ⟨rfl, rfl, t1, t2, t3, t6, k, hk, t7, hall⟩
            dsimp only at t1 t2 t3 t6 t7
            unfold b57_1
            cases k with
            | zero =>
              replace t7 : t 7 = iV (-1) := by rw [t7]; rfl
              have hX := hno.out (lastB_none fun j h => hall j h (Nat.zero_le _))
              rw [hX]
              clear hX hall
              (repeat' (first | (simp only [↓s_reg, ↓s_seq, ↓s_cond, ↓s_condF, ↓s_exit, ↓s_nil, ↓s_consN, ↓s_thenN, ↓s_thenE, ↓s_inE, ↓s_kret, ↓s_putS, ↓s_dOkS, ↓s_ev_t, ↓s_ev_c, ↓s_upd, ↓s_move, ↓s_bin, ↓s_bin_geq, ptrV, ite_true, ite_false, Nat.reduceLT, true_and, Nat.succ_ne_self, decide_false, eq_self, Int.reduceLE, Int.reduceNeg, *])))
              have := rput_mid (op := 1) (nm := e.name) (kids := e.kids) (m := m) (l := l) (t := upd (upd t 25 (iV (-1))) 26 (.lit (.bool false))) hN hl ih' (by simp only [s_upd, Nat.reduceEqDiff, if_false, *] <;> rfl) (by simp only [s_upd, Nat.reduceEqDiff, if_false, *] <;> rfl) (by simp only [s_upd, Nat.reduceEqDiff, if_false, *] <;> rfl) (by simp only [s_upd, Nat.reduceEqDiff, if_false, *] <;> rfl) k3 k6 n6 hs
              rw [if_neg (by omega)] at this
              exact this
            | succ j =>
              replace t7 : t 7 = iV j := by rw [t7]; congr 3; omega
              have hj : j < l.length := by omega
              by_cases hn : l[j].1 = e.name
              · have hX := hsome.out _ (lastB_some hj hn fun i h hi => hall i h (by omega))
                clear hall
                cases m with
                | false =>
                  rw [hX, if_neg (by simp)]
                  clear hX
                  (repeat' (first | (simp only [↓s_skip, ↓s_reg, ↓s_seq, ↓s_cond, ↓s_condT, ↓s_condF, ↓s_block, ↓s_ret, ↓s_dreg, ↓s_nil, ↓s_consN, ↓s_consG, ↓s_guardTT, ↓s_thenN, ↓s_thenR, ↓s_inR, ↓s_kret, ↓s_putS, ↓s_putN, ↓s_dOkS, ↓s_dOkN, ↓s_ev_t, ↓s_ev_c, ↓s_upd, ↓s_move, ↓s_isBool, ↓s_pickA, ↓s_pick, ↓s_load, ↓s_store, ↓s_bin, ↓s_fieldAddr, ↓s_indexAddr, ↓s_bin_geq, ↓s_eqlS, ptrV, List.length_cons, List.length_nil, ite_true, ite_false, Nat.reduceEqDiff, Nat.reduceLT, Nat.reduceAdd, ne_eq, not_false_eq_true, true_and, Nat.succ_ne_self, decide_true, reduceCtorEq, Int.natCast_nonneg, Int.toNat_natCast, ↓s_plFin, ↓s_plTkN, setAt, List.all_cons, List.all_nil, Bool.and_self, eq_self, Nat.zero_add, List.drop, and_self, ldV_f, ldV_t3, Int.ofNat_lt, on_int, on_str, cl_agg, on_slice, List.set_cons_zero, List.set_cons_succ, Nat.le_refl, n_ldI, n_ldP, n_faI, n_faP, n_ixS, n_ixA1, n_ldA, n_ldC, n_ldB, n_faA, n_stP, n_stA, ↓s_plK, bd_drop, flT_108_0, flT_28_1, flT_108_1, ldT_9, ldT_28, szT_28, elT_104, *]) | (refine acx_dreg mixed (fun _ _ _ _ e h => ⟨e.trans h.1, h.2⟩) _ (SubH.refl _) ?_)))
                  exact rp_leave (by simp only [s_upd, Nat.reduceEqDiff, if_false, *] <;> rfl) (AH.set_same _ _ _) (GhV.forget (hs.of_set n6) _)
                | true =>
                  rw [hX, if_pos rfl]
                  clear hX
                  (repeat' (first | (simp only [↓s_skip, ↓s_reg, ↓s_seq, ↓s_cond, ↓s_condT, ↓s_block, ↓s_ret, ↓s_dreg, ↓s_nil, ↓s_consN, ↓s_consG, ↓s_guardTT, ↓s_thenN, ↓s_thenR, ↓s_inR, ↓s_kret, ↓s_putS, ↓s_putN, ↓s_dOkS, ↓s_dOkN, ↓s_ev_t, ↓s_ev_c, ↓s_upd, ↓s_move, ↓s_isBool, ↓s_pickA, ↓s_pick, ↓s_load, ↓s_store, ↓s_bin, ↓s_build, ↓s_buildSlice, ↓s_fieldAddr, ↓s_indexAddr, ↓s_bin_geq, ↓s_eqlS, ptrV, List.map_cons, List.map_nil, List.length_cons, List.length_nil, List.append_nil, ite_true, ite_false, Nat.reduceEqDiff, Nat.reduceLT, Nat.reduceAdd, Nat.reduceMul, Nat.reduceLeDiff, ne_eq, not_false_eq_true, true_and, Nat.succ_ne_self, decide_true, reduceCtorEq, Int.natCast_nonneg, Int.toNat_natCast, ↓s_plFin, ↓s_plTkN, vcBuild, fillV, setAt, List.all_cons, List.all_nil, Bool.and_self, eq_self, Nat.zero_add, List.drop, and_self, List.getElem?_cons_zero, List.getElem?_cons_succ, ldV_f, ldV_t3, Int.ofNat_lt, cl_int, on_int, on_str, cl_agg, cl_slice, on_slice, List.set_cons_zero, List.set_cons_succ, Nat.le_refl, n_ldI, n_ldP, n_faI, n_faP, n_ixS, n_ixA1, n_ldA, n_ldC, n_ldB, n_faA, n_stP, n_stA, ↓s_plK, vcBuildSlice, List.replicate_succ, List.replicate_zero, List.flatten_cons, List.flatten_nil, bd_drop, vcBuildSlice, flT_108_0, flT_28_1, flT_108_1, ldT_9, ldT_28, szT_28, stT_28, zeroT_28, elT_104, elT_25, *]) | (refine acx_dreg mixed (fun _ _ _ _ e h => ⟨e.trans h.1, h.2⟩) _ (SubH.refl _) ?_)))
                  refine rp_leave (by simp only [s_upd, Nat.reduceEqDiff, if_false, *] <;> rfl) (AH.set_same _ _ _) ?_
                  refine GhV.agg (GhL.cons (GhV.refl _ _) (GhL.cons (GhV.refl _ _) (GhL.cons ?_ (GhL.nil _))))
                  have e1 : encS exE [l[j].2] = .slice false 1 [iV l[j].2.op, sV l[j].2.name, encS exE l[j].2.kids] := by rw [encS, encC_cons, encC_nil, List.append_nil, exE_eq]; rfl
                  show GhV _ _ _ (encS exE [l[j].2])
                  rw [e1]
                  exact (GhV.imm _).trans (GhV.forget (hs.of_set n6) _)
              · have hall' : ∀ i (h : i < l.length), j ≤ i → ¬ l[i].1 = e.name := fun i h hi => by
                  rcases Nat.lt_or_ge j i with h' | h'
                  · exact hall i h (by omega)
                  · obtain rfl : i = j := by omega
                    exact hn
                clear hall
                (repeat' (first | (simp only [↓s_skip, ↓s_reg, ↓s_seq, ↓s_cond, ↓s_condT, ↓s_condF, ↓s_block, ↓s_dreg, ↓s_nil, ↓s_consN, ↓s_consG, ↓s_guardFT, ↓s_thenN, ↓s_inN, ↓s_kret, ↓s_putS, ↓s_dOkS, ↓s_ev_t, ↓s_ev_c, ↓s_upd, ↓s_move, ↓s_assign, ↓s_isBool, ↓s_pickA, ↓s_pick, ↓s_load, ↓s_bin, ↓s_fieldAddr, ↓s_indexAddr, ↓s_bin_geq, ↓s_bin_sub, ↓s_eqlS, ptrV, ite_true, ite_false, Nat.reduceEqDiff, Nat.reduceLT, ne_eq, not_false_eq_true, true_and, Bool.false_eq_true, Nat.succ_ne_self, decide_true, decide_false, Int.natCast_nonneg, Int.toNat_natCast, callOk, undefV, ↓s_plFin, ↓s_plTkN, eq_self, Nat.zero_add, List.drop, and_self, ldV_f, Int.ofNat_lt, n_ldI, n_ldP, n_faI, n_faP, n_ixS, n_ixA1, n_ldA, n_ldC, n_ldB, n_faA, ↓s_plK, undef, bd_drop, flT_108_0, flT_28_1, ldT_9, elT_104, *]) | (refine acx_dreg mixed (fun _ _ _ _ e h => ⟨e.trans h.1, h.2⟩) _ (SubH.refl _) ?_) | (with_reducible refine And.intro ?_ ?_)))
                all_goals rw [wrap_ok (n := (j : Int) - 1) (by omega) (by omega)]
                · exact ⟨j, by omega, rfl, hall'⟩
                · omega
        clear hno hsome ih'
        cases m with
        | false =>
          (repeat' (first | (simp only [↓s_skip, ↓s_reg, ↓s_seq, ↓s_seqL, ↓s_cond, ↓s_condT, ↓s_condF, ↓s_block, ↓s_loop, ↓s_nil, ↓s_consN, ↓s_consG, ↓s_guardFT, ↓s_thenN, ↓s_kret, ↓s_putS, ↓s_dOkS, ↓s_ev_t, ↓s_ev_c, ↓s_upd, ↓s_move, ↓s_assign, ↓s_isBool, ↓s_pickA, ↓s_pick, ↓s_load, ↓s_bin, ↓s_alloc, ↓s_box, ↓s_fieldAddr, ↓s_callB, ↓s_len, ↓s_bin_eql, ↓s_bin_sub, ptrV, intV, List.map_cons, List.map_nil, List.getD_cons_zero, List.getD_cons_succ, List.getD_nil, ite_true, ite_false, Nat.reduceEqDiff, Nat.reduceLT, ne_eq, not_false_eq_true, true_and, Bool.false_eq_true, Nat.succ_ne_self, decide_true, reduceCtorEq, callOk, undefV, AH.get, eq_self, Nat.add_zero, List.drop, ldV_f, cl_agg, ↓n_alloc, n_allocS, ↓n_box, n_ldP, n_faP, n_lenS, n_ldA, n_ldB, n_faA, undef, flT_28_0, ldT_3, zeroT_28, elT_104, *]) | (refine allNew_intro fun zr zh => ?_; have zg := zh; (try simp only [AH.set_none] at zg))))
          rename_i r3 n3 n3'
          exact hgo _ _ r3 zr _ _ _ (by simp only [s_upd, Nat.reduceEqDiff, if_false, *] <;> rfl) (by simp only [s_upd, Nat.reduceEqDiff, if_false, *] <;> rfl) (by simp only [s_upd, Nat.reduceEqDiff, if_true, if_false, *] <;> rfl) (by simp only [s_upd, Nat.reduceEqDiff, if_true, if_false, *] <;> rfl) (by simp only [s_upd, Nat.reduceEqDiff, if_true, if_false, *] <;> rfl) (by simp only [AH.get, *, if_true, if_false] <;> rfl) (AH.set_same _ _ _) zg.2 ((SubH.new n3).of_set zg.2)
        | true =>
          have h9 : ¬ e.op = 9 := by omega
          (repeat' (first | (simp only [↓s_skip, ↓s_reg, ↓s_seq, ↓s_seqL, ↓s_cond, ↓s_condT, ↓s_condF, ↓s_block, ↓s_loop, ↓s_nil, ↓s_consN, ↓s_consG, ↓s_guardTT, ↓s_thenN, ↓s_kret, ↓s_putS, ↓s_dOkS, ↓s_ev_t, ↓s_ev_c, ↓s_upd, ↓s_move, ↓s_assign, ↓s_isBool, ↓s_pickA, ↓s_pick, ↓s_load, ↓s_bin, ↓s_alloc, ↓s_box, ↓s_fieldAddr, ↓s_callB, ↓s_len, ↓s_bin_eql, ↓s_bin_sub, ptrV, intV, List.map_cons, List.map_nil, List.getD_cons_zero, List.getD_cons_succ, List.getD_nil, ite_true, ite_false, Nat.reduceEqDiff, Nat.reduceLT, ne_eq, not_false_eq_true, true_and, Nat.succ_ne_self, decide_true, decide_false, reduceCtorEq, undefV, AH.get, eq_self, Nat.add_zero, List.drop, ldV_f, cl_agg, ↓n_alloc, n_allocS, ↓n_box, n_ldP, n_faP, n_lenS, n_ldA, n_ldB, n_faA, undef, Int.reduceEq, flT_28_0, ldT_3, zeroT_28, elT_104, *]) | (refine allNew_intro fun zr zh => ?_; have zg := zh; (try simp only [AH.set_none] at zg))))
          rename_i r3 n3 n3'
          exact hgo _ _ r3 zr _ _ _ (by simp only [s_upd, Nat.reduceEqDiff, if_false, *] <;> rfl) (by simp only [s_upd, Nat.reduceEqDiff, if_false, *] <;> rfl) (by simp only [s_upd, Nat.reduceEqDiff, if_true, if_false, *] <;> rfl) (by simp only [s_upd, Nat.reduceEqDiff, if_true, if_false, *] <;> rfl) (by simp only [s_upd, Nat.reduceEqDiff, if_true, if_false, *] <;> rfl) (by simp only [AH.get, *, if_true, if_false] <;> rfl) (AH.set_same _ _ _) zg.2 ((SubH.new n3).of_set zg.2)
      · have hX := hmid e.op e.name rfl rfl (fun h => h1 h.1)
        rw [hX]
        clear hX hmid
        cases m with
        | false =>
          (repeat' (first | (simp only [↓s_skip, ↓s_reg, ↓s_seq, ↓s_seqL, ↓s_cond, ↓s_condF, ↓s_nil, ↓s_consN, ↓s_consG, ↓s_guardFT, ↓s_thenN, ↓s_kret, ↓s_putS, ↓s_dOkS, ↓s_ev_t, ↓s_ev_c, ↓s_upd, ↓s_move, ↓s_isBool, ↓s_pickA, ↓s_pick, ↓s_load, ↓s_bin, ↓s_alloc, ↓s_box, ↓s_fieldAddr, ↓s_bin_eql, ptrV, List.map_cons, List.map_nil, List.getD_cons_zero, List.getD_cons_succ, List.getD_nil, ite_true, ite_false, Nat.reduceEqDiff, Nat.reduceLT, ne_eq, not_false_eq_true, true_and, Bool.false_eq_true, Nat.succ_ne_self, decide_false, callOk, undefV, AH.get, eq_self, Nat.add_zero, List.drop, ldV_f, cl_agg, ↓n_alloc, n_allocS, ↓n_box, n_ldP, n_faP, n_ldA, n_ldB, n_faA, undef, flT_28_0, ldT_3, zeroT_28, *]) | (refine allNew_intro fun zr zh => ?_; have zg := zh; (try simp only [AH.set_none] at zg))))
          rename_i r3 n3 n3'
          exact rput_mid hN hl ih' (by simp only [s_upd, Nat.reduceEqDiff, if_false, *] <;> rfl) (by simp only [s_upd, Nat.reduceEqDiff, if_false, *] <;> rfl) (by simp only [s_upd, Nat.reduceEqDiff, if_true, if_false, *] <;> rfl) (by simp only [s_upd, Nat.reduceEqDiff, if_true, if_false, *] <;> rfl) (by simp only [AH.get, *, if_true, if_false] <;> rfl) (AH.set_same _ _ _) zg.2 ((SubH.new n3).of_set zg.2)
        | true =>
          have h9 : ¬ e.op = 9 := by simpa using hb9
          (repeat' (first | (simp only [↓s_skip, ↓s_reg, ↓s_seq, ↓s_seqL, ↓s_cond, ↓s_condF, ↓s_nil, ↓s_consN, ↓s_consG, ↓s_guardTT, ↓s_thenN, ↓s_kret, ↓s_putS, ↓s_dOkS, ↓s_ev_t, ↓s_ev_c, ↓s_upd, ↓s_move, ↓s_isBool, ↓s_pickA, ↓s_pick, ↓s_load, ↓s_bin, ↓s_alloc, ↓s_box, ↓s_fieldAddr, ↓s_bin_eql, ptrV, List.map_cons, List.map_nil, List.getD_cons_zero, List.getD_cons_succ, List.getD_nil, ite_true, ite_false, Nat.reduceEqDiff, Nat.reduceLT, ne_eq, not_false_eq_true, true_and, Nat.succ_ne_self, decide_false, undefV, AH.get, eq_self, Nat.add_zero, List.drop, ldV_f, cl_agg, ↓n_alloc, n_allocS, ↓n_box, n_ldP, n_faP, n_ldA, n_ldB, n_faA, undef, flT_28_0, ldT_3, zeroT_28, *]) | (refine allNew_intro fun zr zh => ?_; have zg := zh; (try simp only [AH.set_none] at zg))))
          rename_i r3 n3 n3'
          exact rput_mid hN hl ih' (by simp only [s_upd, Nat.reduceEqDiff, if_false, *] <;> rfl) (by simp only [s_upd, Nat.reduceEqDiff, if_false, *] <;> rfl) (by simp only [s_upd, Nat.reduceEqDiff, if_true, if_false, *] <;> rfl) (by simp only [s_upd, Nat.reduceEqDiff, if_true, if_false, *] <;> rfl) (by simp only [AH.get, *, if_true, if_false] <;> rfl) (AH.set_same _ _ _) zg.2 ((SubH.new n3).of_set zg.2)
end Go.PV.Ytglpmlbbaedbiaa
end
section
/- Parts of a pattern. -/
set_option linter.unusedVariables false
set_option linter.unusedSimpArgs false
set_option maxRecDepth 20000
set_option maxHeartbeats 4000000
namespace Go.PV.Ytglpmlbbaedbiaa
open Go Go.Proofs
mutual
theorem Ex.put_nil : ∀ e : Ex, e.put [] = e
  | .mk op n ks => by
    rw [Ex.put, List.filter_nil, ite_self, exsPut_nil ks]
    have : (if op = 1 then lastB [] n else none) = none := by split <;> rfl
    rw [this]
theorem exsPut_nil : ∀ l : List Ex, exsPut l [] = l
  | [] => rfl
  | k :: ks => by rw [exsPut, Ex.put_nil k, exsPut_nil ks]
end
theorem copied_ok (e : Ex) (hs : e.sz ≤ 1099511627776) : PureF Try.prog 49 [exV e] (exV e) := by
  have hp := put_ok (e.sz + 1) e [] (by omega) hs (by simp)
  rw [e.put_nil] at hp
  refine GivesF.pure fun H0 => ?_
  refine vcalls_intro fd49 (by simp) ?_
  unfold c49
  (repeat' (first | (refine vcalls_ghost (GhL.cons (GhV.refl _ _) (GhL.cons (GhV.nil _) (GhL.nil _))) (PureF.use hp ?_)) | (simp only [↓s_reg, ↓s_seq, ↓s_ret, ↓s_nil, ↓s_consN, ↓s_thenN, ↓s_kret, ↓s_putS, ↓s_putN, ↓s_dOkS, ↓s_dOkN, ↓s_ev_t, ↓s_ev_c, ↓s_ev_f, ↓s_upd, ↓s_load, ↓s_store, ↓s_alloc, ↓s_box, ↓s_callV, ↓s_callL, ptrV, List.map_cons, List.map_nil, List.length_cons, List.length_nil, List.getD_cons_zero, List.getD_cons_succ, List.getD_nil, ite_true, ite_false, Nat.reduceEqDiff, Nat.reduceLT, Nat.reduceAdd, true_and, Nat.succ_ne_self, undefV, AH.get, AH.set_set, setAt, List.all_cons, List.all_nil, Bool.and_self, eq_self, Nat.zero_add, List.drop, ldV_t3, on_int, on_str, cl_agg, on_slice, List.set_cons_zero, List.set_cons_succ, ↓n_alloc, n_allocS, ↓n_box, Nat.le_refl, n_ldP, n_ldA, n_ldB, n_stP, n_stA, undef, ldT_34, szT_34, zeroT_34, en_36, *]) | (refine allNew_intro fun zr zh => ?_; have zg := zh; (try simp only [AH.set_none] at zg))))
  rename_i r1 n1 n1'
  refine ret_cell ldT_34 (by simp only [s_upd, Nat.reduceEqDiff, if_true, if_false, *] <;> rfl) (AH.set_same _ _ _) (by rw [List.drop_zero]; exact ldV_t3 _ _ _ _) ?_
  refine ⟨_, rfl, GhV.forget ((SubH.new n1).of_set zg.2) _⟩
mutual
/-- What a pattern matches, behind what is known. -/
def Pa.parts : Pa → Ex → List Bd → List Bd × Bool
  | .mk c n ks, e, l => if c = true then (if e.op = 3 ∧ e.name = n ∧ e.kids.length = ks.length then pasParts ks e.kids l else (l, false)) else (l ++ [(n, e)], true)
def pasParts : List Pa → List Ex → List Bd → List Bd × Bool
  | [], _, l => (l, true)
  | p :: ps, e :: es, l => match p.parts e l with
    | (l', true) => pasParts ps es l'
    | (l', false) => (l', false)
  | _ :: _, [], l => (l, false)
end
theorem Pa.parts_eq (p : Pa) (e : Ex) (l : List Bd) : p.parts e l = if p.con = true then (if e.op = 3 ∧ e.name = p.name ∧ e.kids.length = p.kids.length then pasParts p.kids e.kids l else (l, false)) else (l ++ [(p.name, e)], true) := by
  cases p; rw [Pa.parts]; rfl
mutual
theorem Pa.parts_len : ∀ (p : Pa) (e : Ex) (l : List Bd), (p.parts e l).1.length ≤ l.length + p.sz
  | .mk c n ks, e, l => by
    have := pasParts_len ks e.kids l
    rw [Pa.parts, Pa.sz]
    split
    · split
      · omega
      · simp
    · simp
theorem pasParts_len : ∀ (ps : List Pa) (es : List Ex) (l : List Bd), (pasParts ps es l).1.length ≤ l.length + pasSz ps
  | [], _, l => by simp [pasParts]
  | p :: ps, e :: es, l => by
    have h1 := Pa.parts_len p e l
    rw [pasParts, pasSz]
    split
    · rename_i l' h
      have h2 := pasParts_len ps es l'
      rw [h] at h1
      simp only at h1
      omega
    · rename_i l' h
      rw [h] at h1
      simp only at h1 ⊢
      omega
  | _ :: _, [], l => by simp [pasParts]
end
theorem pasParts_drop {ps : List Pa} {es : List Ex} {l : List Bd} {i : Nat} (h : i < ps.length) (h' : i < es.length) : pasParts (ps.drop i) (es.drop i) l = if (ps[i].parts es[i] l).2 = true then pasParts (ps.drop (i + 1)) (es.drop (i + 1)) (ps[i].parts es[i] l).1 else (ps[i].parts es[i] l) := by
  rw [List.drop_eq_getElem_cons h, List.drop_eq_getElem_cons h', pasParts]
  generalize ps[i].parts es[i] l = r
  obtain ⟨l', b⟩ := r
  cases b <;> rfl
abbrev prtV (r : List Bd × Bool) : VV := .tuple [bdsV r.1, bV r.2]
def prQ (H0 : AH) (R : List Bd × Bool) : APost := retPost Try.prog [.tmp 6, .tmp 7] fun e H' => ∃ y, e = VE.ret y ∧ GhV H' y H0 (prtV R)
theorem parts_loop {H0 H : AH} {t : Nat → VV} {ps : List Pa} {es : List Ex} {l : List Bd} {b : Bool} {r3 r4 : Nat} {x0 x1 y0 y1 : VV} {R : List Bd × Bool} (hN : ps.length ≤ 1099511627776) (hbl : b = true → es.length = ps.length) (hl : l.length + pasSz ps ≤ 1099511627776)
    (ih' : ∀ i (h : i < ps.length) (h' : i < es.length) (l : List Bd), l.length + ps[i].sz ≤ 1099511627776 → PureF Try.prog 35 [paV ps[i], exV es[i], bdsV l] (prtV (ps[i].parts es[i] l)))
    (hR : R = if b = true then pasParts ps es l else (l, false)) (h2 : t 2 = bdsV l) (h3 : t 3 = ptrV r3 0) (h4 : t 4 = ptrV r4 0) (h8 : t 8 = bV b) (h9 : t 9 = iV 0)
    (k3 : H r3 = some (.cells 57 [x0, x1, encS paE ps] 0)) (k4 : H r4 = some (.cells 34 [y0, y1, encS exE es] 0)) (hs : SubH H0 H) :
    ACx ⟨Try.prog, 72, none⟩ (.loop b35_1) (inBlockA 0 (thenA (ACx ⟨Try.prog, 72, none⟩ c35_1 (prQ H0 R)) (prQ H0 R))) ⟨t, []⟩ H := by
  refine acx_loop (fun _ _ _ h => h) (fun A H' => H' = H ∧ A.d = [] ∧ A.t 3 = ptrV r3 0 ∧ A.t 4 = ptrV r4 0 ∧ ∃ (i : Nat) (m : List Bd) (b : Bool), i ≤ ps.length ∧ A.t 9 = iV i ∧ A.t 2 = bdsV m ∧ A.t 8 = bV b ∧ (b = true → es.length = ps.length ∧ m.length + pasSz (ps.drop i) ≤ 1099511627776) ∧ R = if b = true then pasParts (ps.drop i) (es.drop i) m else (m, false))
    (fun A _ => match A.t 9 with | .lit (.int _ i) => ((ps.length : Int) - i).toNat | _ => 0) ?_ ?_
  · exact ⟨rfl, rfl, h3, h4, 0, l, b, by omega, h9, h2, h8, fun h => ⟨hbl h, hl⟩, hR⟩
  · clear hbl hR h2 h3 h4 h8 h9 hl
    rintro ⟨t, d⟩ H' ⟨rfl, rfl, h3, h4, i, m, b, hi, h9, h2, h8, hb, hR⟩
    dsimp only at h2 h3 h4 h8 h9
    cases b with
    | false =>
      simp only [Bool.false_eq_true, if_false] at hR
      subst hR
      clear hb
      unfold b35_1
      by_cases hlt : i < ps.length
      · (repeat' (first | (simp only [↓s_reg, ↓s_seq, ↓s_cond, ↓s_condF, ↓s_exit, ↓s_nil, ↓s_consN, ↓s_consG, ↓s_guardTT, ↓s_thenN, ↓s_thenE, ↓s_inE, ↓s_kret, ↓s_putS, ↓s_dOkS, ↓s_ev_t, ↓s_ev_c, ↓s_upd, ↓s_move, ↓s_isBool, ↓s_pickA, ↓s_pick, ↓s_load, ↓s_bin, ↓s_fieldAddr, ↓s_callB, ↓s_len, ↓s_bin_lss, ptrV, intV, List.map_cons, List.map_nil, ite_true, ite_false, Nat.reduceEqDiff, Nat.reduceLT, ne_eq, not_false_eq_true, true_and, Nat.succ_ne_self, decide_true, reduceCtorEq, eq_self, Nat.zero_add, List.drop, ldV_f, Int.ofNat_lt, n_ldP, n_faP, n_lenS, n_ldA, n_ldB, n_faA, flT_57_2, ldT_55, elT_55, *]) | (refine acx_go rfl (fun _ _ _ h => h) ?_)))
        unfold c35_1
        (repeat' (first | (simp only [↓s_reg, ↓s_seq, ↓s_ret, ↓s_nil, ↓s_consN, ↓s_thenN, ↓s_putS, ↓s_dOkS, ↓s_ev_t, ↓s_upd, ↓s_move, ↓s_assign, ite_true, ite_false, Nat.reduceEqDiff, Nat.reduceLT, true_and, Nat.succ_ne_self, eq_self, *])))
        exact retPost_ret rfl (by simp only [resV, resAll, resOne, s_upd, Nat.reduceEqDiff, if_true, if_false, Option.bind_some, Option.map_some, tupV, *] <;> rfl) ⟨_, rfl, GhV.forget hs _⟩
      · (repeat' (first | (simp only [↓s_reg, ↓s_seq, ↓s_cond, ↓s_condF, ↓s_exit, ↓s_nil, ↓s_consN, ↓s_consG, ↓s_guardFT, ↓s_thenN, ↓s_thenE, ↓s_inE, ↓s_kret, ↓s_putS, ↓s_dOkS, ↓s_ev_t, ↓s_ev_c, ↓s_upd, ↓s_move, ↓s_isBool, ↓s_pickA, ↓s_pick, ↓s_load, ↓s_bin, ↓s_fieldAddr, ↓s_callB, ↓s_len, ↓s_bin_lss, ptrV, intV, List.map_cons, List.map_nil, ite_true, ite_false, Nat.reduceEqDiff, Nat.reduceLT, ne_eq, not_false_eq_true, true_and, Bool.false_eq_true, Nat.succ_ne_self, decide_false, reduceCtorEq, callOk, undefV, eq_self, Nat.zero_add, List.drop, ldV_f, Int.ofNat_lt, n_ldP, n_faP, n_lenS, n_ldA, n_ldB, n_faA, undef, flT_57_2, ldT_55, elT_55, *]) | (refine acx_go rfl (fun _ _ _ h => h) ?_)))
        unfold c35_1
        (repeat' (first | (simp only [↓s_reg, ↓s_seq, ↓s_ret, ↓s_nil, ↓s_consN, ↓s_thenN, ↓s_putS, ↓s_dOkS, ↓s_ev_t, ↓s_upd, ↓s_move, ↓s_assign, ite_true, ite_false, Nat.reduceEqDiff, Nat.reduceLT, true_and, Nat.succ_ne_self, eq_self, *])))
        exact retPost_ret rfl (by simp only [resV, resAll, resOne, s_upd, Nat.reduceEqDiff, if_true, if_false, Option.bind_some, Option.map_some, tupV, *] <;> rfl) ⟨_, rfl, GhV.forget hs _⟩
    | true =>
      obtain ⟨hel, hml⟩ := hb rfl
      simp only [if_true] at hR
      clear hb
      unfold b35_1
      by_cases hlt : i < ps.length
      · have hlt' : i < es.length := by omega
        rw [pasParts_drop hlt hlt'] at hR
        have hd := pasSz_drop hlt
        have hil : (i : Int) < (ps.length : Int) := by omega
        have hil' : (i : Int) < (es.length : Int) := by omega
        have hc := ih' i hlt hlt' m (by omega)
        have hpl := Pa.parts_len ps[i] es[i] m
        generalize ps[i].parts es[i] m = r at *
        obtain ⟨m', b'⟩ := r
        simp only at hpl
        have hnew := Hold.mk (show m'.length + pasSz (ps.drop (i + 1)) ≤ 1099511627776 by omega)
        replace hR := Hold.mk hR
        clear hd hml ih'
        (repeat' (first | (simp only [↓s_skip, ↓s_reg, ↓s_seq, ↓s_cond, ↓s_condT, ↓s_block, ↓s_dreg, ↓s_nil, ↓s_consN, ↓s_consG, ↓s_guardTT, ↓s_thenN, ↓s_inN, ↓s_kret, ↓s_putS, ↓s_dOkS, ↓s_ev_t, ↓s_ev_c, ↓s_ev_f, ↓s_upd, ↓s_move, ↓s_assign, ↓s_isBool, ↓s_pickA, ↓s_pick, ↓s_load, ↓s_bin, ↓s_fieldAddr, ↓s_indexAddr, ↓s_extract, ↓s_callB, ↓s_callV, ↓s_callL, ↓s_len, ↓s_bin_lss, ↓s_bin_add, vcExtract, ptrV, intV, List.map_cons, List.map_nil, ite_true, ite_false, Nat.reduceEqDiff, Nat.reduceLT, ne_eq, not_false_eq_true, true_and, Nat.succ_ne_self, decide_true, reduceCtorEq, Int.natCast_nonneg, Int.toNat_natCast, ↓s_plFin, ↓s_plTkN, ↓s_plOneN, eq_self, Nat.zero_add, List.drop, and_self, List.getElem?_cons_zero, List.getElem?_cons_succ, ldV_f, ldV_t3, n_ldI, n_ldP, n_faP, n_ixS, n_ixA1, n_lenS, n_ldA, n_ldC, n_ldB, n_faA, ↓s_plK, ↓s_oneK, pa_drop, ex_drop, flT_57_2, flT_34_2, ldT_55, ldT_57, ldT_32, ldT_34, elT_55, elT_32, en_35, *]) | (refine acx_dreg mixed (fun _ _ _ _ e h => ⟨e.trans h.1, h.2⟩) _ (SubH.refl _) ?_) | (exact SubH.refl _) | (refine PureF.use (hc) ?_) | (with_reducible refine And.intro ?_ ?_)))
        all_goals rw [wrap_ok (n := (i : Int) + 1) (by omega) (by omega)]
        · exact ⟨i + 1, m', b', by omega, rfl, rfl, rfl, fun _ => hnew.out, by rw [hR.out]; cases b' <;> rfl⟩
        · omega
      · rw [List.drop_eq_nil_of_le (by omega)] at hR
        simp only [pasParts] at hR
        subst hR
        (repeat' (first | (simp only [↓s_reg, ↓s_seq, ↓s_cond, ↓s_condF, ↓s_exit, ↓s_nil, ↓s_consN, ↓s_consG, ↓s_guardFT, ↓s_thenN, ↓s_thenE, ↓s_inE, ↓s_kret, ↓s_putS, ↓s_dOkS, ↓s_ev_t, ↓s_ev_c, ↓s_upd, ↓s_move, ↓s_isBool, ↓s_pickA, ↓s_pick, ↓s_load, ↓s_bin, ↓s_fieldAddr, ↓s_callB, ↓s_len, ↓s_bin_lss, ptrV, intV, List.map_cons, List.map_nil, ite_true, ite_false, Nat.reduceEqDiff, Nat.reduceLT, ne_eq, not_false_eq_true, true_and, Bool.false_eq_true, Nat.succ_ne_self, decide_false, reduceCtorEq, callOk, undefV, eq_self, Nat.zero_add, List.drop, ldV_f, Int.ofNat_lt, n_ldP, n_faP, n_lenS, n_ldA, n_ldB, n_faA, undef, flT_57_2, ldT_55, elT_55, *]) | (refine acx_go rfl (fun _ _ _ h => h) ?_)))
        unfold c35_1
        (repeat' (first | (simp only [↓s_reg, ↓s_seq, ↓s_ret, ↓s_nil, ↓s_consN, ↓s_thenN, ↓s_putS, ↓s_dOkS, ↓s_ev_t, ↓s_upd, ↓s_move, ↓s_assign, ite_true, ite_false, Nat.reduceEqDiff, Nat.reduceLT, true_and, Nat.succ_ne_self, eq_self, *])))
        exact retPost_ret rfl (by simp only [resV, resAll, resOne, s_upd, Nat.reduceEqDiff, if_true, if_false, Option.bind_some, Option.map_some, tupV, *] <;> rfl) ⟨_, rfl, GhV.forget hs _⟩
theorem parts_ok : ∀ (n : Nat) (p : Pa) (e : Ex) (l : List Bd), p.sz < n → e.sz ≤ 1099511627776 → l.length + p.sz ≤ 1099511627776 → PureF Try.prog 35 [paV p, exV e, bdsV l] (prtV (p.parts e l)) := by
  intro n
  induction n with
  | zero => intro p e l h; omega
  | succ n ih =>
    intro p e l h0 hs hl
    have z1 := p.sz_eq
    have z2 := e.sz_eq
    have hkl := pasSz_len p.kids
    have hel := exsSz_len e.kids
    have ih' : ∀ i (h : i < p.kids.length) (h' : i < e.kids.length) (l : List Bd), l.length + p.kids[i].sz ≤ 1099511627776 → PureF Try.prog 35 [paV p.kids[i], exV e.kids[i], bdsV l] (prtV (p.kids[i].parts e.kids[i] l)) := fun i h h' l hl => ih _ _ l (by have := pasSz_mem (List.getElem_mem h); omega) (by have := exsSz_mem (List.getElem_mem h'); omega) hl
    have hcp := copied_ok e hs
    refine GivesF.pure fun H0 => ?_
    refine vcalls_intro fd35 (by simp) ?_
    unfold c35
    rw [p.parts_eq]
    by_cases hc : p.con = true
    · rw [if_pos hc]
      clear hcp
      obtain ⟨R, hR⟩ : ∃ R, R = (if e.op = 3 ∧ e.name = p.name ∧ e.kids.length = p.kids.length then pasParts p.kids e.kids l else (l, false)) := ⟨_, rfl⟩
      rw [← hR]
      obtain ⟨b0, hb0⟩ : ∃ b0 : Bool, b0 = (decide (e.op = 3) && (decide (e.name = p.name) && decide (e.kids.length = p.kids.length))) := ⟨_, rfl⟩
      have hR' : R = if b0 = true then pasParts p.kids e.kids l else (l, false) := by
        rw [hR, hb0]
        by_cases h1 : e.op = 3 <;> by_cases h2 : e.name = p.name <;> by_cases h3 : e.kids.length = p.kids.length <;> simp [h1, h2, h3]
      have hbl : b0 = true → e.kids.length = p.kids.length := fun h => by rw [hb0] at h; simp at h; exact h.2.2
      clear hR
      replace hb0 := Hold.mk hb0
      replace hR' := Hold.mk hR'
      replace hbl := Hold.mk hbl
      have hkN : p.kids.length ≤ 1099511627776 := by omega
      have hzl := Hold.mk (show l.length + pasSz p.kids ≤ 1099511627776 by omega)
      clear hl hs z1 z2 hkl hel h0
      (repeat' (first | (simp only [↓s_skip, ↓s_reg, ↓s_seq, ↓s_seqL, ↓s_cond, ↓s_condF, ↓s_block, ↓s_loop, ↓s_nil, ↓s_consN, ↓s_consG, ↓s_guardTT, ↓s_guardFT, ↓s_thenN, ↓s_kret, ↓s_putS, ↓s_dOkS, ↓s_ev_t, ↓s_ev_c, ↓s_upd, ↓s_move, ↓s_assign, ↓s_isBool, ↓s_pickA, ↓s_pick, ↓s_load, ↓s_bin, ↓s_un, ↓s_box, ↓s_fieldAddr, ↓s_callB, ↓s_len, ↓s_un_not, ↓s_bin_eql, ↓s_eqlS, ptrV, intV, List.map_cons, List.map_nil, List.getD_cons_zero, List.getD_cons_succ, List.getD_nil, ite_true, ite_false, Nat.reduceEqDiff, Nat.reduceLT, ne_eq, not_false_eq_true, true_and, Bool.false_eq_true, Nat.succ_ne_self, decide_true, decide_false, Bool.not_true, reduceCtorEq, callOk, undefV, AH.get, eq_self, Nat.zero_add, Nat.add_zero, List.drop, ldV_f, cl_agg, ↓n_box, n_ldP, n_faP, n_lenS, n_ldA, n_ldB, n_faA, undef, flT_57_2, flT_34_2, flT_57_0, flT_57_1, flT_34_0, flT_34_1, ldT_55, ldT_32, ldT_4, ldT_9, ldT_3, elT_55, elT_32, *]) | (refine guardL_splitTD ?_ ?_ <;> intro) | (refine allNew_intro fun zr zh => ?_; have zg := zh; (try simp only [AH.set_none] at zg))))
      all_goals have z3 := zg.2
      · rename_i r1 n1 n1' _ _
        refine parts_loop (ps := p.kids) (es := e.kids) (l := l) (b := b0) (r3 := r1) (r4 := zr) hkN hbl.out hzl.out ih' hR'.out (by simp only [s_upd, Nat.reduceEqDiff, if_false, *] <;> rfl) (by simp only [s_upd, Nat.reduceEqDiff, if_true, if_false, *] <;> rfl) (by simp only [s_upd, Nat.reduceEqDiff, if_true, if_false, *] <;> rfl) ?_ (by simp only [s_upd, Nat.reduceEqDiff, if_true, if_false, *] <;> rfl) (by simp only [AH.get, *, if_true, if_false] <;> rfl) (AH.set_same _ _ _) ((SubH.new n1).of_set zg.2)
        simp only [s_upd, Nat.reduceEqDiff, if_true, if_false]
        rw [hb0.out]
        simp [*]
        omega
      · rename_i r1 n1 n1' _ _
        refine parts_loop (ps := p.kids) (es := e.kids) (l := l) (b := b0) (r3 := r1) (r4 := zr) hkN hbl.out hzl.out ih' hR'.out (by simp only [s_upd, Nat.reduceEqDiff, if_false, *] <;> rfl) (by simp only [s_upd, Nat.reduceEqDiff, if_true, if_false, *] <;> rfl) (by simp only [s_upd, Nat.reduceEqDiff, if_true, if_false, *] <;> rfl) ?_ (by simp only [s_upd, Nat.reduceEqDiff, if_true, if_false, *] <;> rfl) (by simp only [AH.get, *, if_true, if_false] <;> rfl) (AH.set_same _ _ _) ((SubH.new n1).of_set zg.2)
        simp only [s_upd, Nat.reduceEqDiff, if_true, if_false]
        rw [hb0.out]
        simp [*]
      · rename_i r1 n1 n1' _
        refine parts_loop (ps := p.kids) (es := e.kids) (l := l) (b := b0) (r3 := r1) (r4 := zr) hkN hbl.out hzl.out ih' hR'.out (by simp only [s_upd, Nat.reduceEqDiff, if_false, *] <;> rfl) (by simp only [s_upd, Nat.reduceEqDiff, if_true, if_false, *] <;> rfl) (by simp only [s_upd, Nat.reduceEqDiff, if_true, if_false, *] <;> rfl) ?_ (by simp only [s_upd, Nat.reduceEqDiff, if_true, if_false, *] <;> rfl) (by simp only [AH.get, *, if_true, if_false] <;> rfl) (AH.set_same _ _ _) ((SubH.new n1).of_set zg.2)
        simp only [s_upd, Nat.reduceEqDiff, if_true, if_false]
        rw [hb0.out]
        simp [*]
    · have hc' : p.con = false := by simpa using hc
      rw [if_neg hc]
      have hb1 : (l.length + 1) * 72 ≤ 140737488355328 := by omega
      clear ih' z1 z2 hkl hel hc h0
      (repeat' (first | (simp only [↓s_reg, ↓s_seq, ↓s_cond, ↓s_condT, ↓s_dreg, ↓s_nil, ↓s_consN, ↓s_thenN, ↓s_kret, ↓s_putS, ↓s_dOkS, ↓s_ev_t, ↓s_ev_c, ↓s_ev_f, ↓s_upd, ↓s_move, ↓s_assign, ↓s_load, ↓s_un, ↓s_box, ↓s_build, ↓s_buildSlice, ↓s_slice, ↓s_fieldAddr, ↓s_callB, ↓s_callV, ↓s_callL, ↓s_len, ↓s_append, ↓s_un_not, ptrV, intV, List.map_cons, List.map_nil, List.length_cons, List.length_nil, List.getD_cons_zero, List.getD_cons_succ, List.getD_nil, List.append_nil, ite_true, ite_false, Nat.reduceEqDiff, Nat.reduceLT, Nat.reduceAdd, Nat.reduceMul, Nat.reduceLeDiff, ne_eq, not_false_eq_true, true_and, and_true, List.drop_zero, Nat.succ_ne_self, Bool.not_false, reduceCtorEq, Int.natCast_nonneg, Int.toNat_natCast, undefV, ↓s_plFin, ↓s_plTkN, ↓s_plOneN, AH.get, vcBuild, fillV, setAt, eq_self, Nat.zero_add, Nat.add_zero, List.drop, and_self, List.getElem?_cons_zero, List.getElem?_cons_succ, forall_const, ldV_f, ldV_t3, cl_str, cl_agg, List.set_cons_zero, List.set_cons_succ, ↓n_box, Nat.le_refl, n_ldP, n_faP, n_lenS, n_ldA, n_ldB, n_faA, ↓s_plK, ↓s_oneK, undef, vcBuildSlice, List.replicate_succ, List.replicate_zero, List.flatten_cons, List.flatten_nil, vcSlice, Option.map_none, Option.map_some, sliceOk, idxV, idxOk, vcBuildSlice, flT_57_0, flT_57_1, ldT_34, ldT_4, ldT_9, zeroT_102, stT_102, elT_96, en_49, *]) | (refine acx_dreg mixed (fun _ _ _ _ e h => ⟨e.trans h.1, h.2⟩) _ (SubH.refl _) ?_) | (refine allNew_intro fun zr zh => ?_; have zg := zh; (try simp only [AH.set_none] at zg)) | (exact SubH.refl _) | (refine PureF.use (hcp) ?_) | (with_reducible refine And.intro ?_ ?_)))
      · omega
      · rw [show (l.length == l.length) = true from by simp, Nat.sub_zero]
        rename_i r1 n1 n1'
        refine append_clip1 elT_96 zeroT_102 rfl (by omega) (encC_length (enc := bdE) (k := 4) (fun _ => rfl) l) rfl rfl (by omega) (by omega) (fun v' H' ho => ?_)
        (repeat' (first | (simp only [↓s_ret, ↓s_nil, ↓s_consN, ↓s_thenN, ↓s_thenR, ↓s_kret, ↓s_putS, ↓s_dOkS, ↓s_ev_t, ↓s_ev_c, ↓s_upd, ↓s_assign, List.getD_cons_succ, List.getD_nil, ite_true, ite_false, Nat.reduceEqDiff, Nat.reduceLT, true_and, Nat.succ_ne_self, eq_self, *])))
        refine retPost_ret rfl (by simp only [resV, resAll, resOne, s_upd, Nat.reduceEqDiff, if_true, if_false, Option.bind_some, Option.map_some, tupV, *] <;> rfl) ⟨_, rfl, ?_⟩
        refine GhV.tuple (GhL.cons ?_ (GhL.cons (GhV.refl _ _) (GhL.nil _)))
        have := GhV.back ho ((SubH.new n1).of_set zg.2)
        rw [show encC bdE l ++ [VV.lit (.string p.name), iV e.op, sV e.name, encS exE e.kids] = encC bdE (l ++ [(p.name, e)]) from by rw [encC_append]; rfl] at this
        show GhV _ _ _ (.slice false (l ++ [(p.name, e)]).length _)
        rw [List.length_append]
        exact this
end Go.PV.Ytglpmlbbaedbiaa
end
section
/- The reference's matched. -/
set_option linter.unusedVariables false
set_option linter.unusedSimpArgs false
set_option maxRecDepth 20000
set_option maxHeartbeats 4000000
namespace Go.PV.Ytglpmlbbaedbiaa
open Go Go.Proofs
mutual
def Pa.mat : Pa → Ex → List Bd → List Bd × Bool
  | .mk c n ks, e, l => if c = true then (if e.op = 3 ∧ e.name = n ∧ e.kids.length = ks.length then pasMat ks e.kids l else (l, false)) else (l ++ [(n, e)], true)
def pasMat : List Pa → List Ex → List Bd → List Bd × Bool
  | [], _, l => (l, true)
  | p :: ps, e :: es, l => if (p.mat e l).2 = true then pasMat ps es (p.mat e l).1 else (l, false)
  | _ :: _, [], l => (l, false)
end
theorem Pa.mat_eq (p : Pa) (e : Ex) (l : List Bd) : p.mat e l = if p.con = true then (if e.op = 3 ∧ e.name = p.name ∧ e.kids.length = p.kids.length then pasMat p.kids e.kids l else (l, false)) else (l ++ [(p.name, e)], true) := by
  cases p; rw [Pa.mat]; rfl
mutual
theorem Pa.mat_parts : ∀ (p : Pa) (e : Ex) (l : List Bd), (p.mat e l).2 = (p.parts e l).2 ∧ ((p.parts e l).2 = true → (p.mat e l).1 = (p.parts e l).1)
  | .mk c n ks, e, l => by
    have := pasMat_parts ks e.kids l
    rw [Pa.mat, Pa.parts]
    split
    · split
      · exact this
      · simp
    · simp
theorem pasMat_parts : ∀ (ps : List Pa) (es : List Ex) (l : List Bd), (pasMat ps es l).2 = (pasParts ps es l).2 ∧ ((pasParts ps es l).2 = true → (pasMat ps es l).1 = (pasParts ps es l).1)
  | [], _, l => by simp [pasMat, pasParts]
  | p :: ps, e :: es, l => by
    obtain ⟨h1, h2⟩ := Pa.mat_parts p e l
    rw [pasMat, pasParts, h1]
    generalize hr : p.parts e l = r at *
    obtain ⟨l', b⟩ := r
    cases b with
    | true =>
      simp only [if_true]
      rw [h2 rfl]
      exact pasMat_parts ps es l'
    | false => simp
  | _ :: _, [], l => by simp [pasMat, pasParts]
end
mutual
theorem Pa.mat_len : ∀ (p : Pa) (e : Ex) (l : List Bd), (p.mat e l).1.length ≤ l.length + p.sz
  | .mk c n ks, e, l => by
    have := pasMat_len ks e.kids l
    rw [Pa.mat, Pa.sz]
    split
    · split
      · omega
      · simp
    · simp
theorem pasMat_len : ∀ (ps : List Pa) (es : List Ex) (l : List Bd), (pasMat ps es l).1.length ≤ l.length + pasSz ps
  | [], _, l => by simp [pasMat]
  | p :: ps, e :: es, l => by
    have h1 := Pa.mat_len p e l
    have h2 := pasMat_len ps es (p.mat e l).1
    rw [pasMat, pasSz]
    split
    · omega
    · simp
  | _ :: _, [], l => by simp [pasMat]
end
theorem pasMat_drop {ps : List Pa} {es : List Ex} {l : List Bd} {i : Nat} (h : i < ps.length) (h' : i < es.length) : pasMat (ps.drop i) (es.drop i) l = if (ps[i].mat es[i] l).2 = true then pasMat (ps.drop (i + 1)) (es.drop (i + 1)) (ps[i].mat es[i] l).1 else (l, false) := by
  rw [List.drop_eq_getElem_cons h, List.drop_eq_getElem_cons h', pasMat]
theorem rmatched_ok : ∀ (n : Nat) (p : Pa) (e : Ex) (l : List Bd), p.sz < n → e.sz ≤ 1099511627776 → l.length + p.sz ≤ 1099511627776 → PureF Try.prog 40 [paV p, exV e, bdsV l] (prtV (p.mat e l)) := by
  intro n
  induction n with
  | zero => intro p e l h; omega
  | succ n ih =>
    intro p e l h0 hs hl
    have z1 := p.sz_eq
    have z2 := e.sz_eq
    have hkl := pasSz_len p.kids
    have hel := exsSz_len e.kids
    have ih' : ∀ i (h : i < p.kids.length) (h' : i < e.kids.length) (l : List Bd), l.length + p.kids[i].sz ≤ 1099511627776 → PureF Try.prog 40 [paV p.kids[i], exV e.kids[i], bdsV l] (prtV (p.kids[i].mat e.kids[i] l)) := fun i h h' l hl => ih _ _ l (by have := pasSz_mem (List.getElem_mem h); omega) (by have := exsSz_mem (List.getElem_mem h'); omega) hl
    refine GivesF.pure fun H0 => ?_
    refine vcalls_intro fd40 (by simp) ?_
    unfold c40
    rw [p.mat_eq]
    by_cases hc : p.con = true
    · rw [if_pos hc]
      have hzl : l.length + pasSz p.kids ≤ 1099511627776 := by omega
      have hkN : p.kids.length ≤ 1099511627776 := by omega
      clear ih hl hs z1 z2 hkl hel h0
      by_cases h3 : e.op = 3
      · by_cases hn : e.name = p.name
        · by_cases hk : e.kids.length = p.kids.length
          · rw [if_pos ⟨h3, hn, hk⟩]
            obtain ⟨R, hR⟩ : ∃ R, R = pasMat p.kids e.kids l := ⟨_, rfl⟩
            rw [← hR]
            replace hR := Hold.mk hR
            replace hzl := Hold.mk hzl
            (repeat' (first | (simp only [↓s_skip, ↓s_reg, ↓s_seq, ↓s_seqL, ↓s_cond, ↓s_condF, ↓s_block, ↓s_loop, ↓s_nil, ↓s_consN, ↓s_consG, ↓s_guardFF, ↓s_thenN, ↓s_kret, ↓s_putS, ↓s_dOkS, ↓s_ev_t, ↓s_ev_c, ↓s_upd, ↓s_move, ↓s_assign, ↓s_isBool, ↓s_pickA, ↓s_pick, ↓s_load, ↓s_bin, ↓s_un, ↓s_box, ↓s_fieldAddr, ↓s_callB, ↓s_len, ↓s_un_not, ↓s_bin_neq, ↓s_neqS, ptrV, intV, List.map_cons, List.map_nil, List.getD_cons_zero, List.getD_cons_succ, List.getD_nil, ite_true, ite_false, Nat.reduceEqDiff, Nat.reduceLT, ne_eq, not_false_eq_true, true_and, Bool.false_eq_true, Nat.succ_ne_self, decide_true, Bool.not_true, reduceCtorEq, undefV, AH.get, eq_self, Nat.zero_add, Nat.add_zero, List.drop, ldV_f, cl_agg, ↓n_box, n_ldP, n_faP, n_lenS, n_ldA, n_ldB, n_faA, undef, flT_50_2, flT_28_2, flT_50_0, flT_50_1, flT_28_0, flT_28_1, ldT_44, ldT_25, ldT_4, ldT_9, ldT_3, elT_44, elT_25, *]) | (refine allNew_intro fun zr zh => ?_; have zg := zh; (try simp only [AH.set_none] at zg))))
            rename_i r1 n1 n1'
            have z2 := zg.2
            refine acx_loop (fun _ _ _ h => h) (fun A H' => H' = (H0.set r1 (.cells 50 [bV true, sV p.name, encS paE p.kids] 0)).set zr (.cells 28 [iV 3, sV p.name, encS exE e.kids] 0) ∧ A.d = [] ∧ A.t 3 = ptrV r1 0 ∧ A.t 4 = ptrV zr 0 ∧ ∃ (i : Nat) (m : List Bd), i ≤ p.kids.length ∧ A.t 8 = iV i ∧ A.t 2 = bdsV m ∧ m.length + pasSz (p.kids.drop i) ≤ 1099511627776 ∧ R = pasMat (p.kids.drop i) (e.kids.drop i) m)
              (fun A _ => match A.t 8 with | .lit (.int _ i) => ((p.kids.length : Int) - i).toNat | _ => 0) ?_ ?_
            · exact ⟨rfl, rfl, (by simp only [s_upd, Nat.reduceEqDiff, if_true, if_false, *] <;> rfl), (by simp only [s_upd, Nat.reduceEqDiff, if_true, if_false, *] <;> rfl), 0, l, by omega, (by simp only [s_upd, Nat.reduceEqDiff, if_true, if_false, *] <;> rfl), (by simp only [s_upd, Nat.reduceEqDiff, if_false, *] <;> rfl), hzl.out, hR.out⟩
            · clear hR hzl
              rintro ⟨t, d⟩ H' ⟨hH', rfl, h3', h4', i, m, hi, h8, h2, hml, hR⟩
              dsimp only at h3' h4' h8 h2
              have hs0 : SubH H0 H' := by rw [hH']; exact (SubH.new n1).of_set z2
              have q3 : H' r1 = some (.cells 50 [bV true, sV p.name, encS paE p.kids] 0) := by rw [hH']; exact (by simp only [AH.get, *, if_true, if_false] <;> rfl)
              have q4 : H' zr = some (.cells 28 [iV 3, sV p.name, encS exE e.kids] 0) := by rw [hH']; exact AH.set_same _ _ _
              clear n1' zg zh
              rw [← hH']
              clear hH'
              unfold b40_1
              by_cases hlt : i < p.kids.length
              · have hlt' : i < e.kids.length := by omega
                rw [pasMat_drop hlt hlt'] at hR
                have hd := pasSz_drop hlt
                have hil : (i : Int) < (p.kids.length : Int) := by omega
                have hil' : (i : Int) < (e.kids.length : Int) := by omega
                have hcl := ih' i hlt hlt' m (by omega)
                have hpl := Pa.mat_len p.kids[i] e.kids[i] m
                generalize p.kids[i].mat e.kids[i] m = r at *
                obtain ⟨m', b'⟩ := r
                simp only at hpl
                have hnew := Hold.mk (show m'.length + pasSz (p.kids.drop (i + 1)) ≤ 1099511627776 by omega)
                clear hd hml ih' h3 hn hk
                cases b' with
                | true =>
                  replace hR := Hold.mk hR
                  (repeat' (first | (simp only [↓s_skip, ↓s_reg, ↓s_seq, ↓s_cond, ↓s_condT, ↓s_condF, ↓s_block, ↓s_dreg, ↓s_nil, ↓s_consN, ↓s_thenN, ↓s_inN, ↓s_kret, ↓s_putS, ↓s_dOkS, ↓s_ev_t, ↓s_ev_c, ↓s_ev_f, ↓s_upd, ↓s_move, ↓s_assign, ↓s_load, ↓s_bin, ↓s_un, ↓s_fieldAddr, ↓s_indexAddr, ↓s_extract, ↓s_callB, ↓s_callV, ↓s_callL, ↓s_len, ↓s_un_not, ↓s_bin_lss, ↓s_bin_add, vcExtract, ptrV, intV, List.map_cons, List.map_nil, ite_true, ite_false, Nat.reduceEqDiff, Nat.reduceLT, ne_eq, not_false_eq_true, true_and, Nat.succ_ne_self, decide_true, Bool.not_true, reduceCtorEq, Int.natCast_nonneg, Int.toNat_natCast, ↓s_plFin, ↓s_plTkN, ↓s_plOneN, eq_self, Nat.zero_add, List.drop, and_self, List.getElem?_cons_zero, List.getElem?_cons_succ, ldV_f, ldV_t3, n_ldI, n_ldP, n_faP, n_ixS, n_ixA1, n_lenS, n_ldA, n_ldC, n_ldB, n_faA, ↓s_plK, ↓s_oneK, pa_drop, ex_drop, flT_50_2, flT_28_2, ldT_44, ldT_50, ldT_25, ldT_28, elT_44, elT_25, en_40, *]) | (refine acx_dreg mixed (fun _ _ _ _ e h => ⟨e.trans h.1, h.2⟩) _ (SubH.refl _) ?_) | (exact SubH.refl _) | (refine PureF.use (hcl) ?_) | (with_reducible refine And.intro ?_ ?_)))
                  all_goals rw [wrap_ok (n := (i : Int) + 1) (by omega) (by omega)]
                  · exact ⟨i + 1, m', by omega, rfl, rfl, hnew.out, by rw [hR.out]; rfl⟩
                  · omega
                | false =>
                  have hR : R = (m, false) := by rw [hR]; rfl
                  rw [hR]
                  clear hR
                  (repeat' (first | (simp only [↓s_skip, ↓s_reg, ↓s_seq, ↓s_cond, ↓s_condT, ↓s_block, ↓s_ret, ↓s_dreg, ↓s_nil, ↓s_consN, ↓s_thenN, ↓s_thenR, ↓s_inR, ↓s_kret, ↓s_putS, ↓s_dOkS, ↓s_ev_t, ↓s_ev_c, ↓s_ev_f, ↓s_upd, ↓s_move, ↓s_assign, ↓s_load, ↓s_bin, ↓s_un, ↓s_fieldAddr, ↓s_indexAddr, ↓s_extract, ↓s_callB, ↓s_callV, ↓s_callL, ↓s_len, ↓s_un_not, ↓s_bin_lss, vcExtract, ptrV, intV, List.map_cons, List.map_nil, ite_true, ite_false, Nat.reduceEqDiff, Nat.reduceLT, ne_eq, not_false_eq_true, true_and, Nat.succ_ne_self, decide_true, Bool.not_false, reduceCtorEq, Int.natCast_nonneg, Int.toNat_natCast, ↓s_plFin, ↓s_plTkN, ↓s_plOneN, eq_self, Nat.zero_add, List.drop, and_self, List.getElem?_cons_zero, List.getElem?_cons_succ, ldV_f, ldV_t3, n_ldI, n_ldP, n_faP, n_ixS, n_ixA1, n_lenS, n_ldA, n_ldC, n_ldB, n_faA, ↓s_plK, ↓s_oneK, pa_drop, ex_drop, flT_50_2, flT_28_2, ldT_44, ldT_50, ldT_25, ldT_28, elT_44, elT_25, en_40, *]) | (refine acx_dreg mixed (fun _ _ _ _ e h => ⟨e.trans h.1, h.2⟩) _ (SubH.refl _) ?_) | (exact SubH.refl _) | (refine PureF.use (hcl) ?_) | (with_reducible refine And.intro ?_ ?_)))
                  exact retPost_ret rfl (by simp only [resV, resAll, resOne, s_upd, Nat.reduceEqDiff, if_true, if_false, Option.bind_some, Option.map_some, tupV, *] <;> rfl) ⟨_, rfl, GhV.forget hs0 _⟩
              · rw [List.drop_eq_nil_of_le (by omega)] at hR
                have hR : R = (m, true) := by rw [hR]; rfl
                rw [hR]
                clear hR h3 hn hk
                (repeat' (first | (simp only [↓s_reg, ↓s_seq, ↓s_cond, ↓s_condF, ↓s_exit, ↓s_nil, ↓s_consN, ↓s_thenN, ↓s_thenE, ↓s_inE, ↓s_kret, ↓s_putS, ↓s_dOkS, ↓s_ev_t, ↓s_upd, ↓s_move, ↓s_load, ↓s_bin, ↓s_fieldAddr, ↓s_callB, ↓s_len, ↓s_bin_lss, ptrV, intV, List.map_cons, List.map_nil, ite_true, ite_false, Nat.reduceEqDiff, Nat.reduceLT, ne_eq, not_false_eq_true, true_and, Nat.succ_ne_self, decide_false, reduceCtorEq, eq_self, Nat.zero_add, List.drop, ldV_f, Int.ofNat_lt, n_ldP, n_faP, n_lenS, n_ldA, n_ldB, n_faA, flT_50_2, ldT_44, elT_44, *]) | (refine acx_go rfl (fun _ _ _ h => h) ?_)))
                unfold c40_1
                (repeat' (first | (simp only [↓s_reg, ↓s_seq, ↓s_ret, ↓s_nil, ↓s_consN, ↓s_thenN, ↓s_putS, ↓s_dOkS, ↓s_ev_t, ↓s_ev_c, ↓s_upd, ↓s_move, ↓s_assign, ite_true, ite_false, Nat.reduceEqDiff, Nat.reduceLT, true_and, eq_self, *])))
                exact retPost_ret rfl (by simp only [resV, resAll, resOne, s_upd, Nat.reduceEqDiff, if_true, if_false, Option.bind_some, Option.map_some, tupV, *] <;> rfl) ⟨_, rfl, GhV.forget hs0 _⟩
          · rw [if_neg (fun h => hk h.2.2)]
            have hk' : ¬ (e.kids.length : Int) = (p.kids.length : Int) := by omega
            (repeat' (first | (simp only [↓s_skip, ↓s_reg, ↓s_seq, ↓s_cond, ↓s_condT, ↓s_condF, ↓s_ret, ↓s_nil, ↓s_consN, ↓s_consG, ↓s_guardFF, ↓s_thenN, ↓s_thenR, ↓s_kret, ↓s_putS, ↓s_dOkS, ↓s_ev_t, ↓s_ev_c, ↓s_upd, ↓s_move, ↓s_assign, ↓s_isBool, ↓s_pickA, ↓s_pick, ↓s_load, ↓s_bin, ↓s_un, ↓s_box, ↓s_fieldAddr, ↓s_callB, ↓s_len, ↓s_un_not, ↓s_bin_neq, ↓s_neqS, ptrV, intV, List.map_cons, List.map_nil, List.getD_cons_zero, List.getD_cons_succ, List.getD_nil, ite_true, ite_false, Nat.reduceEqDiff, Nat.reduceLT, ne_eq, not_false_eq_true, true_and, Bool.false_eq_true, Nat.succ_ne_self, decide_true, decide_false, Bool.not_true, Bool.not_false, reduceCtorEq, undefV, AH.get, eq_self, Nat.zero_add, Nat.add_zero, List.drop, ldV_f, cl_agg, ↓n_box, n_ldP, n_faP, n_lenS, n_ldA, n_ldB, n_faA, undef, flT_50_2, flT_28_2, flT_50_0, flT_50_1, flT_28_0, flT_28_1, ldT_44, ldT_25, ldT_4, ldT_9, ldT_3, elT_44, elT_25, *]) | (refine allNew_intro fun zr zh => ?_; have zg := zh; (try simp only [AH.set_none] at zg))))
            rename_i r1 n1 n1'
            exact retPost_ret rfl (by simp only [resV, resAll, resOne, s_upd, Nat.reduceEqDiff, if_true, if_false, Option.bind_some, Option.map_some, tupV, *] <;> rfl) ⟨_, rfl, GhV.forget ((SubH.new n1).of_set zg.2) _⟩
        · rw [if_neg (fun h => hn h.2.1)]
          (repeat' (first | (simp only [↓s_skip, ↓s_reg, ↓s_seq, ↓s_cond, ↓s_condT, ↓s_condF, ↓s_ret, ↓s_nil, ↓s_consN, ↓s_consG, ↓s_guardTF, ↓s_guardFF, ↓s_thenN, ↓s_thenR, ↓s_kret, ↓s_putS, ↓s_dOkS, ↓s_ev_t, ↓s_ev_c, ↓s_upd, ↓s_move, ↓s_assign, ↓s_isBool, ↓s_pickA, ↓s_pick, ↓s_load, ↓s_bin, ↓s_un, ↓s_box, ↓s_fieldAddr, ↓s_un_not, ↓s_bin_neq, ↓s_neqS, ptrV, List.getD_cons_zero, List.getD_cons_succ, List.getD_nil, ite_true, ite_false, Nat.reduceEqDiff, Nat.reduceLT, ne_eq, not_false_eq_true, true_and, Bool.false_eq_true, Nat.succ_ne_self, decide_true, decide_false, Bool.not_true, Bool.not_false, callOk, undefV, AH.get, eq_self, Nat.zero_add, Nat.add_zero, List.drop, ldV_f, cl_agg, ↓n_box, n_ldP, n_faP, n_ldA, n_ldB, n_faA, undef, flT_50_0, flT_50_1, flT_28_0, flT_28_1, ldT_4, ldT_9, ldT_3, *]) | (refine allNew_intro fun zr zh => ?_; have zg := zh; (try simp only [AH.set_none] at zg))))
          rename_i r1 n1 n1'
          exact retPost_ret rfl (by simp only [resV, resAll, resOne, s_upd, Nat.reduceEqDiff, if_true, if_false, Option.bind_some, Option.map_some, tupV, *] <;> rfl) ⟨_, rfl, GhV.forget ((SubH.new n1).of_set zg.2) _⟩
      · rw [if_neg (fun h => h3 h.1)]
        (repeat' (first | (simp only [↓s_skip, ↓s_reg, ↓s_seq, ↓s_cond, ↓s_condT, ↓s_condF, ↓s_ret, ↓s_nil, ↓s_consN, ↓s_consG, ↓s_guardTF, ↓s_thenN, ↓s_thenR, ↓s_kret, ↓s_putS, ↓s_dOkS, ↓s_ev_t, ↓s_ev_c, ↓s_upd, ↓s_move, ↓s_assign, ↓s_isBool, ↓s_pickA, ↓s_pick, ↓s_load, ↓s_bin, ↓s_un, ↓s_box, ↓s_fieldAddr, ↓s_un_not, ↓s_bin_neq, ptrV, List.getD_cons_zero, List.getD_cons_succ, List.getD_nil, ite_true, ite_false, Nat.reduceEqDiff, Nat.reduceLT, ne_eq, not_false_eq_true, true_and, Nat.succ_ne_self, decide_false, Bool.not_true, Bool.not_false, callOk, undefV, AH.get, eq_self, Nat.add_zero, List.drop, ldV_f, cl_agg, ↓n_box, n_ldP, n_faP, n_ldA, n_ldB, n_faA, undef, flT_50_0, flT_28_0, ldT_4, ldT_3, *]) | (refine allNew_intro fun zr zh => ?_; have zg := zh; (try simp only [AH.set_none] at zg))))
        rename_i r1 n1 n1'
        exact retPost_ret rfl (by simp only [resV, resAll, resOne, s_upd, Nat.reduceEqDiff, if_true, if_false, Option.bind_some, Option.map_some, tupV, *] <;> rfl) ⟨_, rfl, GhV.forget ((SubH.new n1).of_set zg.2) _⟩
    · have hc' : p.con = false := by simpa using hc
      rw [if_neg hc]
      have hb1 : (l.length + 1) * 72 ≤ 140737488355328 := by omega
      clear ih' z1 z2 hkl hel hc h0
      (repeat' (first | (simp only [↓s_reg, ↓s_seq, ↓s_cond, ↓s_condT, ↓s_dreg, ↓s_nil, ↓s_consN, ↓s_thenN, ↓s_kret, ↓s_putS, ↓s_dOkS, ↓s_ev_t, ↓s_ev_c, ↓s_upd, ↓s_move, ↓s_assign, ↓s_load, ↓s_un, ↓s_box, ↓s_build, ↓s_buildSlice, ↓s_fieldAddr, ↓s_callB, ↓s_append, ↓s_un_not, ptrV, List.map_cons, List.map_nil, List.length_cons, List.length_nil, List.getD_cons_zero, List.getD_cons_succ, List.getD_nil, List.append_nil, ite_true, ite_false, Nat.reduceEqDiff, Nat.reduceLT, Nat.reduceAdd, Nat.reduceMul, Nat.reduceLeDiff, ne_eq, not_false_eq_true, true_and, Nat.succ_ne_self, Bool.not_false, undefV, ↓s_plTkN, ↓s_plOneN, AH.get, vcBuild, fillV, setAt, eq_self, Nat.zero_add, Nat.add_zero, List.drop, and_self, List.getElem?_cons_zero, List.getElem?_cons_succ, ldV_f, ldV_t3, cl_str, cl_agg, List.set_cons_zero, List.set_cons_succ, ↓n_box, Nat.le_refl, n_ldP, n_faP, n_ldA, n_ldB, n_faA, ↓s_plK, undef, vcBuildSlice, List.replicate_succ, List.replicate_zero, List.flatten_cons, List.flatten_nil, vcBuildSlice, flT_50_0, flT_50_1, ldT_28, ldT_4, ldT_9, zeroT_108, stT_108, elT_104, *]) | (refine acx_dreg mixed (fun _ _ _ _ e h => ⟨e.trans h.1, h.2⟩) _ (SubH.refl _) ?_) | (refine allNew_intro fun zr zh => ?_; have zg := zh; (try simp only [AH.set_none] at zg))))
      rename_i r1 n1 n1'
      have hs0 := (SubH.new n1 (b := .cells 50 [bV false, sV p.name, encS paE p.kids] 0)).of_set (b := .cells 28 [iV e.op, sV e.name, encS exE e.kids] 0) zg.2
      refine (OutE.start (SubH.refl _)).append elT_104 zeroT_108 rfl (by omega) (src_enc (enc := bdE) (k := 4) (fun _ => rfl) _ false l) (encC_one bd_one l) (by omega) (by omega) (fun h0 => by rw [List.eq_nil_of_length_eq_zero h0]; rfl) (fun v' H' ho => ?_)
      have hos := ho.sub
      (repeat' (first | (simp only [↓s_consN, ↓s_kret, ↓s_putS, ↓s_dOkS, ↓s_ev_t, ↓s_upd, ↓s_callB, ↓s_append, List.map_cons, List.map_nil, List.getD_cons_succ, List.getD_nil, ite_true, ite_false, Nat.reduceEqDiff, Nat.reduceLT, true_and, Nat.succ_ne_self, ↓s_plFin, eq_self, ↓s_oneK, *])))
      have ho' : OutE ((H0.set r1 (.cells 50 [bV false, sV p.name, encS paE p.kids] 0)).set zr (.cells 28 [iV e.op, sV e.name, encS exE e.kids] 0)) H' 108 4 v' l.length (encC bdE l) := by rw [Nat.zero_add, List.nil_append] at ho; exact ho
      clear ho
      have hA : (l.length + 1) * 64 ≤ 140737488355328 ∧ l.length + 1 ≤ 9223372036854775807 := by omega
      refine ho'.append1 (xs := [VV.lit (.string p.name), iV e.op, sV e.name, encS exE e.kids]) elT_104 zeroT_108 rfl (by omega) rfl rfl hA.1 hA.2 (fun v2 H2 ho2 => ?_)
      have hg := ho2.back.trans (GhV.forget hs0 _)
      have he : encC bdE l ++ [VV.lit (.string p.name), iV e.op, sV e.name, encS exE e.kids] = encC bdE (l ++ [(p.name, e)]) := by rw [encC_append]; rfl
      have hn : (l ++ [(p.name, e)]).length = l.length + 1 := by rw [List.length_append]; rfl
      rw [he, ← hn] at hg
      clear ho' ho2 he hn hA
      (repeat' (first | (simp only [↓s_ret, ↓s_nil, ↓s_consN, ↓s_thenN, ↓s_thenR, ↓s_kret, ↓s_putS, ↓s_dOkS, ↓s_ev_t, ↓s_ev_c, ↓s_upd, ↓s_assign, List.getD_cons_succ, List.getD_nil, ite_true, ite_false, Nat.reduceEqDiff, Nat.reduceLT, true_and, Nat.succ_ne_self, eq_self, *])))
      exact retPost_ret rfl (by simp only [resV, resAll, resOne, s_upd, Nat.reduceEqDiff, if_true, if_false, Option.bind_some, Option.map_some, tupV, *] <;> rfl) ⟨_, rfl, GhV.tuple (GhL.cons hg (GhL.cons (GhV.refl _ _) (GhL.nil _)))⟩
end Go.PV.Ytglpmlbbaedbiaa
end
