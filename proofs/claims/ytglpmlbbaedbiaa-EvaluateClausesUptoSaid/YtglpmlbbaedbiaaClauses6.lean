/- Part 6 of 8 of what the proof of Clauses needs. -/
import Derived.Test.YtglpmlbbaedbiaaClauses5
import Derived.Test.YtglpmlbbaedbiaaClauses4
section
/- Expressions put for variables. -/
set_option linter.unusedVariables false
set_option linter.unusedSimpArgs false
set_option maxRecDepth 20000
set_option maxHeartbeats 4000000
namespace Go.PV.Ytglpmlbbaedbiaa
open Go Go.Proofs
theorem delBd0 {f : VV} {H : AH} {K : VE → AH → Prop} (hK : K (.ret (bdsV [])) H) : VCalls Try.prog 53 [bdsV [], f] H K := by
  refine vcalls_intro fd53 (by simp) ?_
  unfold c53
  (repeat' (first | (simp only [↓s_reg, ↓s_seq, ↓s_cond, ↓s_condT, ↓s_ret, ↓s_nil, ↓s_consN, ↓s_thenN, ↓s_thenR, ↓s_kret, ↓s_putS, ↓s_dOkS, ↓s_ev_t, ↓s_ev_c, ↓s_ev_f, ↓s_upd, ↓s_move, ↓s_assign, ↓s_bin, ↓s_callV, ↓s_callL, ↓s_bin_eql, List.map_cons, List.map_nil, List.getD_cons_zero, List.getD_cons_succ, List.getD_nil, ite_true, ite_false, Nat.reduceEqDiff, Nat.reduceLT, true_and, Nat.succ_ne_self, decide_true, reduceCtorEq, undefV, eq_self, undef, Int.reduceNeg, (show idxF (fun _ : Bd => false) [] = -1 from rfl), en_76, *]) | (refine ret_tmp ?_) | (refine idxBd (l := []) (p := fun _ => false) (.inl ⟨false, rfl⟩) (by simp) (fun i h => absurd h (by simp)) ?_)))
theorem put1 {b : Bd} {op : Int} {name : ByteArray} {ks : VV} {e : TypeId} {r sp : Nat} {H : AH} (hr : H r = some (.cells e [iV op, sV name, ks] sp)) : FnAt Try.prog (.func (.func 55) [] [ptrV r 0]) [bdV b] (boolV (decide (b.1 = name))) H := by
  refine FnAt.cap en_55 fun K hK => ?_
  refine ReadF.use (x := boolV (decide (b.1 = name))) ?_ hK
  refine vcalls_intro fd55 (by simp) ?_
  unfold c55
  (repeat' (first | (simp only [↓s_reg, ↓s_seq, ↓s_ret, ↓s_nil, ↓s_consN, ↓s_thenN, ↓s_kret, ↓s_putS, ↓s_dOkS, ↓s_ev_t, ↓s_ev_c, ↓s_upd, ↓s_assign, ↓s_load, ↓s_bin, ↓s_box, ↓s_fieldAddr, ↓s_eqlS, ptrV, boolV, List.getD_cons_zero, List.getD_cons_succ, List.getD_nil, List.cons_append, List.nil_append, ite_true, ite_false, Nat.reduceEqDiff, Nat.reduceLT, ne_eq, not_false_eq_true, true_and, Nat.succ_ne_self, undefV, AH.get, eq_self, Nat.zero_add, Nat.add_zero, List.drop, ldV_f, cl_agg, ↓n_box, n_ldP, n_faP, n_ldA, n_ldB, n_faA, undef, flT_102_0, flT_34_1, ldT_9, *]) | (refine ret_tmp ?_) | (refine allNew_intro fun zr zh => ?_; have zg := zh; (try simp only [AH.set_none] at zg); (try have zn_hr := AH.ne_of hr zh); (try have zn_hr := AH.ne_of hr zg.2); (try have zn_hr := AH.ne_of hr zg.2.2)) | (exact SubH.refl _) | (refine SubH.of_set ?_ ?_)))
/-- What yields bindings, from the last one on. -/
theorem back1 {y : VV} {l : List Bd} {rb sp : Nat} {Inv Stop : Nat → AH → Prop} {H : AH} {K : VE → AH → Prop} (hl : l.length ≤ 1099511627776)
    (hI : Inv l.length H) (hbox : ∀ k B, Inv k B → B rb = some (.cells 96 [bdsV l] sp))
    (hy : ∀ k (h : k < l.length) B, Inv (k + 1) B → ∀ K' : VE → AH → Prop, (∀ B', Inv k B' → K' (.ret (boolV true)) B') → (∀ B', Stop k B' → K' (.ret (boolV false)) B') → ACall Try.prog none y [iV k, bdV l[k]] B K')
    (hyl : ∀ B xs K', vcCall Try.prog none y xs B K' = ACall Try.prog none y xs B K')
    (hEnd : ∀ B u, Inv 0 B → K (.ret u) B) (hStop : ∀ k (h : k < l.length) B u, Stop k B → K (.ret u) B) :
    VCalls Try.prog 75 [y, ptrV rb 0] H K := by
  refine vcalls_intro fd75 (by simp) ?_
  unfold c75
  have kb := hbox _ _ hI
  have w0 : IntKind.i64.wrap ((l.length : Int) - 1) = (l.length : Int) - 1 := wrap_ok (by omega) (by omega)
  (repeat' (first | (simp only [↓s_reg, ↓s_seq, ↓s_block, ↓s_loop, ↓s_nil, ↓s_consN, ↓s_thenN, ↓s_kret, ↓s_putS, ↓s_dOkS, ↓s_ev_t, ↓s_ev_c, ↓s_upd, ↓s_assign, ↓s_load, ↓s_bin, ↓s_callB, ↓s_len, ↓s_bin_sub, ptrV, intV, List.map_cons, List.map_nil, List.getD_cons_zero, List.getD_cons_succ, List.getD_nil, ite_true, ite_false, Nat.reduceEqDiff, Nat.reduceLT, ne_eq, not_false_eq_true, true_and, Nat.succ_ne_self, reduceCtorEq, undefV, eq_self, List.drop, ldV_f, n_ldP, n_lenS, n_ldA, n_ldB, undef, ldT_96, elT_96, *])))
  refine acx_loop (fun _ _ _ h => h) (fun A H' => A.d = [] ∧ A.t 0 = y ∧ A.t 1 = ptrV rb 0 ∧ ∃ k : Nat, k ≤ l.length ∧ A.t 3 = iV ((k : Int) - 1) ∧ Inv k H')
    (fun A _ => match A.t 3 with | .lit (.int _ i) => (i + 1).toNat | _ => 0) ?_ ?_
  · exact ⟨rfl, rfl, rfl, l.length, by omega, rfl, hI⟩
  · clear hI kb w0
    rintro ⟨t, d⟩ H' ⟨rfl, h0, h1, k, hk, h3, hI⟩
    dsimp only at h0 h1 h3
    have kb := hbox _ _ hI
    unfold b75_1
    cases k with
    | zero =>
      replace h3 : t 3 = iV (-1) := by rw [h3]; rfl
      (repeat' (first | (simp only [↓s_reg, ↓s_seq, ↓s_cond, ↓s_condF, ↓s_exit, ↓s_nil, ↓s_consN, ↓s_thenN, ↓s_thenE, ↓s_inE, ↓s_kret, ↓s_putS, ↓s_dOkS, ↓s_ev_t, ↓s_ev_c, ↓s_upd, ↓s_move, ↓s_bin, ↓s_bin_geq, ptrV, ite_true, ite_false, Nat.reduceLT, true_and, Nat.succ_ne_self, decide_false, eq_self, Int.reduceLE, Int.reduceNeg, *])))
      exact ⟨rfl, _, H', _, rfl, .refl _ _, hEnd H' _ hI⟩
    | succ j =>
      replace h3 : t 3 = iV j := by rw [h3]; congr 3; omega
      have hj : j < l.length := by omega
      (repeat' (first | (simp only [↓s_skip, ↓s_reg, ↓s_seq, ↓s_cond, ↓s_condT, ↓s_block, ↓s_nil, ↓s_consN, ↓s_thenN, ↓s_kret, ↓s_putS, ↓s_dOkS, ↓s_ev_t, ↓s_ev_c, ↓s_upd, ↓s_move, ↓s_load, ↓s_bin, ↓s_indexAddr, ↓s_callV, ↓s_bin_geq, ptrV, List.map_cons, List.map_nil, ite_true, ite_false, Nat.reduceEqDiff, Nat.reduceLT, true_and, Nat.succ_ne_self, decide_true, reduceCtorEq, Int.natCast_nonneg, Int.toNat_natCast, eq_self, List.drop, and_self, ldV_f, ldV_t4, Int.ofNat_lt, n_ldI, n_ldP, n_ixS, n_ixA1, n_ldA, n_ldC, n_ldB, bd_drop, ldT_96, ldT_102, elT_96, *])))
      refine hy j hj H' hI _ (fun B' hB => ?_) (fun B' hB => ?_)
      · (repeat' (first | (simp only [↓s_skip, ↓s_reg, ↓s_cond, ↓s_condF, ↓s_nil, ↓s_consN, ↓s_thenN, ↓s_inN, ↓s_kret, ↓s_putS, ↓s_dOkS, ↓s_ev_t, ↓s_ev_c, ↓s_upd, ↓s_move, ↓s_assign, ↓s_bin, ↓s_un, ↓s_un_not, ↓s_bin_sub, ptrV, boolV, ite_true, ite_false, Nat.reduceEqDiff, Nat.reduceLT, true_and, Nat.succ_ne_self, Bool.not_true, reduceCtorEq, eq_self, *]) | (with_reducible refine And.intro ?_ ?_)))
        all_goals rw [wrap_ok (n := (j : Int) - 1) (by omega) (by omega)]
        · exact ⟨j, by omega, rfl, hB⟩
        · omega
      · (repeat' (first | (simp only [↓s_cond, ↓s_condT, ↓s_ret, ↓s_nil, ↓s_consN, ↓s_thenN, ↓s_thenR, ↓s_inR, ↓s_kret, ↓s_putS, ↓s_dOkS, ↓s_ev_t, ↓s_upd, ↓s_un, ↓s_un_not, boolV, ite_true, ite_false, Nat.reduceEqDiff, Nat.reduceLT, true_and, Nat.succ_ne_self, Bool.not_false, eq_self, *])))
        exact ⟨rfl, _, B', _, rfl, .refl _ _, hStop j hj B' _ hB⟩
theorem backw {l : List Bd} {H : AH} {K : VE → AH → Prop} (h : ∀ rb, H rb = none → K (.ret (.func (.func 75) [] [ptrV rb 0])) (H.set rb (.cells 96 [bdsV l] 0))) : VCalls Try.prog 52 [bdsV l] H K := by
  refine vcalls_intro fd52 (by simp) ?_
  unfold c52
  (repeat' (first | (simp only [↓s_reg, ↓s_seq, ↓s_ret, ↓s_nil, ↓s_consN, ↓s_thenN, ↓s_kret, ↓s_putS, ↓s_dOkS, ↓s_ev_t, ↓s_ev_c, ↓s_upd, ↓s_assign, ↓s_box, ↓s_makeFunc, ptrV, List.map_cons, List.map_nil, List.getD_cons_zero, List.getD_cons_succ, List.getD_nil, ite_true, ite_false, Nat.reduceEqDiff, Nat.reduceLT, true_and, Nat.succ_ne_self, undefV, eq_self, cl_slice, ↓n_box, undef, *]) | (refine ret_tmp ?_) | (refine allNew_intro fun zr zh => ?_; have zg := zh; (try simp only [AH.set_none] at zg))))
  exact h _ (by assumption)
end Go.PV.Ytglpmlbbaedbiaa
end
section
/- Regions whose guards hang on what was left out. -/
set_option linter.unusedVariables false
set_option linter.unusedSimpArgs false
namespace Go.PV
open Go
def guard2 (x : VV) (want : Bool) (cx : Cx) (d : Option Tmp) (op : Op) (k : AF → AH → Prop) (Q : APost) (A : AF) (H : AH) : Prop :=
  match x with
  | .lit (.bool t) => (if t = want then vcDo cx ⟨d, op, none⟩ k Q A H else (dOk cx.N d ∧ callOk cx.P op A ∧ k (A.put d undefV) H))
  | .lit (.tuple _) => dOk cx.N d ∧ callOk cx.P op A ∧ k (A.put d undefV) H
  | _ => False
def vcG2 (cx : Cx) (o : GOp) (k : AF → AH → Prop) (Q : APost) (A : AF) (H : AH) : Prop :=
  match o.g with
  | none => vcDo cx ⟨o.dst, o.op, none⟩ k Q A H
  | some (d, want) => guard2 (A.t d) want cx o.dst o.op k Q A H
def vcL2 (cx : Cx) : List GOp → APost → AF → AH → Prop
  | [], Q => Q .normal
  | o :: l, Q => vcG2 cx o (vcL2 cx l Q) Q
section
variable {cx : Cx} {Q : APost} {S : Nat → Prop} {H : AH} {w : World} {A : AF} {a : Act}
theorem not_wanted {ops : Array Oper} {o : Oper} (hf : RvF cx.N S w A a) {want : Bool} {d : Tmp} {vs : Array Value} (he : (gopOf ops o).g = some (d, want)) (hb : A.t d = .lit (.tuple vs)) : Region.wanted o (yielded ops a.tmps) = false := by
  have hr := hf.2.2 d
  rw [hb] at hr
  have hr' : a.tmps.getD d undef = .tuple vs := hr
  simp only [gopOf] at he
  cases hgd : o.guard with
  | none => simp [hgd] at he
  | some p =>
    obtain ⟨j, w'⟩ := p
    simp only [hgd, Option.bind_some, Option.map_eq_some_iff, Prod.mk.injEq] at he
    obtain ⟨d', hj, rfl, rfl⟩ := he
    simp only [Region.wanted, hgd, yielded, hj, Option.bind_some]
    rcases Nat.lt_or_ge d' a.tmps.size with hlt | hge
    · have ht : a.tmps[d']? = some (.tuple vs) := by
        rw [Array.getElem?_eq_getElem hlt]
        congr 1
        simpa [Array.getD, hlt] using hr'
      rw [ht]; cases w' <;> rfl
    · rw [Array.getElem?_eq_none hge]; cases w' <;> rfl
theorem vcG2_sound {ops : Array Oper} {o : Oper} {next : AF → AH → Prop} (hg : gOk ops o = true) (h : vcG2 cx (gopOf ops o) next Q A H) {S0 : Nat → Prop} {H0 : AH} {w0 : World} (k : Step S0 H0 w0 S H w) (hs : Sim S H w) (hf : RvF cx.N S w A a) (nx : Act → World → Prop)
    (h1 : ∀ S' H' A' a' w', Step S0 H0 w0 S' H' w' → Sim S' H' w' → RvF cx.N S' w' A' a' → next A' H' → nx a' w') :
    if Region.wanted o (yielded ops a.tmps) then o.wpIn (wideAt cx.P cx.ro) 0 cx.P a w nx (LQ cx Q S0 H0 w0) else (∀ f, o.about cx.P w a.eval = some f → (wideAt cx.P cx.ro).fn f) ∧ nx (a.put o.dst undef) w := by
  unfold vcG2 at h
  split at h
  · rename_i he
    refine vcG_sound hg ?_ k hs hf nx h1
    unfold vcG
    rw [he]
    exact h
  · rename_i d want he
    unfold guard2 at h
    split at h
    · rename_i b hb
      refine vcG_sound hg ?_ k hs hf nx h1
      unfold vcG
      rw [he]
      simp only [hb]
      exact h
    · rename_i vs hb
      have hw := not_wanted (ops := ops) (o := o) hf he hb
      rw [hw, if_neg (by simp)]
      refine ⟨callOk_about h.2.1 hf, h1 S H _ _ w k hs (RvF.put hf (x := undefV) (u := undef) ?_ rfl) h.2.2⟩
      intro d' hd'
      have h2 : dOk cx.N o.dst := h.1
      rw [hd'] at h2
      exact h2
    · exact h.elim
theorem vcL2_sound {ops : Array Oper} : ∀ (is : List Nat) (l : List Oper) (A : AF) (H : AH) (S : Nat → Prop) (w : World) (a : Act) (S0 : Nat → Prop) (H0 : AH) (w0 : World),
    (∀ j : Nat, l[j]? = (is[j]?).bind fun i : Nat => ops[i]?) → is.length = l.length → (∀ o ∈ l, gOk ops o = true) → vcL2 cx (l.map (gopOf ops)) Q A H → Step S0 H0 w0 S H w → Sim S H w → RvF cx.N S w A a →
    wpOpsIn (wideAt cx.P cx.ro) 0 cx.P ops (LQ cx Q S0 H0 w0) is a w
  | [], l, A, H, S, w, a, S0, H0, w0, hl, hlen, hg, h, k, hs, hf => by
    have : l = [] := List.eq_nil_of_length_eq_zero (by simpa using hlen.symm)
    subst this
    exact ⟨by simp, S, H, A, k, hs, hf, h⟩
  | i :: is, [], A, H, S, w, a, S0, H0, w0, hl, hlen, hg, h, k, hs, hf => by simp at hlen
  | i :: is, o :: l, A, H, S, w, a, S0, H0, w0, hl, hlen, hg, h, k, hs, hf => by
    have ho : ops[i]? = some o := by have := hl 0; simpa using this.symm
    simp only [wpOpsIn, ho]
    exact vcG2_sound (hg o (by simp)) h k hs hf _ fun S' H' A' a' w' g1 g2 g3 g4 =>
      vcL2_sound is l A' H' S' w' a' S0 H0 w0 (fun j => by have := hl (j + 1); simpa using this) (by simpa using hlen) (fun o' ho' => hg o' (by simp [ho'])) g4 g1 g2 g3
theorem ac_region2 {id : Nat} {ops : Array Oper} (hg : ops.all (gOk ops) = true) (h : vcL2 cx (ops.toList.map (gopOf ops)) Q A H) : AC cx (.region id ops false) Q A H := by
  intro S w a hs hf
  refine wpIn_region (vcL2_sound (List.range ops.size) ops.toList A H S w a S H w ?_ (by simp) ?_ h (.refl _ _ _) hs hf)
  · intro j
    by_cases hj : j < ops.size
    · rw [List.getElem?_range hj]
      simp
    · rw [List.getElem?_eq_none (by simpa using hj), List.getElem?_eq_none (by simpa using hj)]
      rfl
  · intro o ho
    exact Array.all_eq_true_iff_forall_mem.1 hg o (by simpa using ho)
end
theorem compileD_reg {P : Program} {ops : Array Oper} {l : List GOp} : compileD P ops ≠ .reg l := by
  unfold compileD
  dsimp only
  split
  · split
    · intro h; cases h
    · intro h; cases h
  · intro h; cases h
theorem acx_reg2 {cx : Cx} {l : List GOp} {Q : APost} {A : AF} {H : AH} (h : vcL2 cx l Q A H) : ACx cx (.reg l) Q A H := by
  intro c hc
  cases c with
  | region id ops draw =>
    simp only [compile] at hc
    split at hc
    · exact absurd hc compileD_reg
    · rename_i hd
      have hd' : draw = false := by simpa using hd
      subst hd'
      split at hc
      · rename_i hg
        injection hc with hc
        subst hc
        exact ac_region2 hg h
      · cases hc
  | seq x y => simp only [compile] at hc; split at hc <;> cases hc
  | _ => simp only [compile] at hc; cases hc
theorem acx_seqA {cx : Cx} {a b : ACode} {Q : APost} {K : AF → AH → Prop} {A : AF} {H : AH} (hK : ∀ A H, K A H → ACx cx b Q A H) (h : ACx cx a (thenA K Q) A H) : ACx cx (.seq a b) Q A H := by
  intro c hc
  cases c with
  | seq x y =>
    simp only [compile] at hc
    split at hc
    · cases hc
    · injection hc with h1 h2
      refine ac_seq ((h x h1).mono ?_)
      intro e A' H' hq
      cases e with
      | normal => exact hK A' H' hq y h2
      | _ => exact hq
  | region id ops draw =>
    simp only [compile] at hc
    split at hc
    · exact absurd hc compileD_seq
    · split at hc <;> cases hc
  | _ => simp only [compile] at hc; cases hc
section
variable {cx : Cx} {Q : APost} {k : AF → AH → Prop} {A : AF} {H : AH} {d : Option Tmp} {op : Op} {l : List GOp}
@[congr] theorem guard2_congr {x x' : VV} {want : Bool} (h : x = x') : guard2 x want cx d op k Q A H = guard2 x' want cx d op k Q A H := by rw [h]
end
end Go.PV
end
section
/- put. -/
set_option linter.unusedVariables false
set_option linter.unusedSimpArgs false
set_option maxRecDepth 20000
set_option maxHeartbeats 4000000
namespace Go.PV.Ytglpmlbbaedbiaa
open Go Go.Proofs
/-- The last binding of a name. -/
def lastB (l : List Bd) (n : ByteArray) : Option Ex := (l.reverse.find? fun b => decide (b.1 = n)).map (·.2)
mutual
def Ex.put : Ex → List Bd → Ex
  | .mk op n ks, l => match (if op = 1 then lastB l n else none) with
    | some e => e
    | none => .mk op n (exsPut ks (if op = 5 then l.filter (fun b => !decide (b.1 = n)) else l))
def exsPut : List Ex → List Bd → List Ex
  | [], _ => []
  | k :: ks, l => k.put l :: exsPut ks l
end
theorem exsPut_eq : ∀ (ks : List Ex) (l : List Bd), exsPut ks l = ks.map (·.put l)
  | [], _ => rfl
  | k :: ks, l => by rw [exsPut, List.map_cons, exsPut_eq ks l]
theorem Ex.put_eq (e : Ex) (l : List Bd) : e.put l = match (if e.op = 1 then lastB l e.name else none) with
    | some x => x
    | none => .mk e.op e.name (e.kids.map (·.put (if e.op = 5 then l.filter (fun b => !decide (b.1 = e.name)) else l))) := by
  cases e; rw [Ex.put, exsPut_eq]; rfl
def Zx : List VV := [.lit (.int .i64 0), .lit (.string { data := #[] }), .lit (.slice none 0 0)]
def retOnly (Q : APost) : APost
  | .ret => Q .ret
  | _ => fun _ _ => False
theorem retOnly_go (Q : APost) : noGoto (retOnly Q) := fun _ _ _ h => h
theorem retOnly_pan (Q : APost) : panQ (retOnly Q) := fun _ _ _ _ _ h => h.elim
theorem retOnly_le {cx : Cx} {a : ACode} {Q : APost} {A : AF} {H : AH} (h : ACx cx a (retOnly Q) A H) : ACx cx a Q A H := fun c hc => (h c hc).mono fun e A H hq => by
  cases e with
  | ret => exact hq
  | _ => exact hq.elim
theorem put_tail {op : Int} {nm : ByteArray} {kids : List Ex} {l : List Bd} {t : Nat → VV} {d : List Deferred} {B : AH} {r2 r4 : Nat} {Q : APost} (hN : kids.length ≤ 1099511627776)
    (ih : ∀ i (h : i < kids.length), PureF Try.prog 36 [exV kids[i], bdsV l] (exV (kids[i].put l)))
    (h1 : t 1 = bdsV l) (h2 : t 2 = ptrV r2 0) (h4 : t 4 = ptrV r4 0) (k2 : B r2 = some (.cells 34 [iV op, sV nm, encS exE kids] 0)) (k4 : B r4 = some (.cells 34 Zx 0))
    (hK : ∀ t' r, B r = none → t' 4 = ptrV r4 0 → Q .ret ⟨t', d⟩ ((B.set r (.cells 34 [iV op, sV nm, encS exE (kids.map (·.put l))] 0)).set r4 (.cells 34 [iV op, sV nm, encS exE (kids.map (·.put l))] 0))) :
    ACx ⟨Try.prog, 53, none⟩ c36_2 Q ⟨t, d⟩ B := by
  refine retOnly_le ?_
  have hQ := retOnly_go Q
  have hP := retOnly_pan Q
  replace hK : ∀ t' r, B r = none → t' 4 = ptrV r4 0 → retOnly Q .ret ⟨t', d⟩ ((B.set r (.cells 34 [iV op, sV nm, encS exE (kids.map (·.put l))] 0)).set r4 (.cells 34 [iV op, sV nm, encS exE (kids.map (·.put l))] 0)) := hK
  generalize retOnly Q = Q at *
  refine acx_go rfl hQ ?_
  unfold c36_2
  (repeat' (first | (simp only [↓s_reg, ↓s_seq, ↓s_seqL, ↓s_block, ↓s_loop, ↓s_nil, ↓s_consN, ↓s_thenN, ↓s_kret, ↓s_putS, ↓s_putN, ↓s_dOkS, ↓s_dOkN, ↓s_ev_t, ↓s_ev_c, ↓s_upd, ↓s_move, ↓s_load, ↓s_store, ↓s_alloc, ↓s_build, ↓s_fieldAddr, ↓s_callB, ↓s_len, ptrV, intV, List.map_cons, List.map_nil, List.length_cons, List.length_nil, ite_true, ite_false, Nat.reduceEqDiff, Nat.reduceLT, Nat.reduceAdd, Nat.reduceLeDiff, ne_eq, not_false_eq_true, true_and, Nat.succ_ne_self, reduceCtorEq, AH.get, AH.set_set, vcBuild, fillV, setAt, List.all_cons, List.all_nil, Bool.and_self, eq_self, Nat.zero_add, Nat.add_zero, List.drop, and_self, List.getElem?_cons_zero, List.getElem?_cons_succ, ldV_f, cl_int, on_int, cl_str, on_str, on_sl, cl_agg, List.set_cons_zero, List.set_cons_succ, ↓n_alloc, n_allocS, Nat.le_refl, n_ldP, n_faP, n_lenS, n_ldA, n_ldB, n_faA, n_stP, n_stA, flT_34_2, flT_34_0, flT_34_1, ldT_32, ldT_3, ldT_9, szT_34, stT_34, zeroT_34, elT_32, *]) | (refine allNew_intro fun zr zh => ?_; have zg := zh; (try simp only [AH.set_none] at zg); (try have zn_k2 := AH.ne_of k2 zh); (try have zn_k2 := AH.ne_of k2 zg.2); (try have zn_k2 := AH.ne_of k2 zg.2.2); (try have zn_k4 := AH.ne_of k4 zh); (try have zn_k4 := AH.ne_of k4 zg.2); (try have zn_k4 := AH.ne_of k4 zg.2.2))))
  obtain ⟨ks, hks⟩ : ∃ ks, ks = kids.map (·.put l) := ⟨_, rfl⟩
  have hkl : ks.length = kids.length := by rw [hks]; simp
  have hki : ∀ i (h : i < kids.length) (h' : i < ks.length), kids[i].put l = ks[i] := fun i h h' => by simp only [hks, List.getElem_map]
  rw [← hks] at hK
  clear hks
  have hin : InB B (B.set zr (.cells 34 [iV op, sV nm, .lit (.slice none 0 0)] 0)) zr 34 [iV op, sV nm] [] 34 3 0 [] (.lit (.slice none 0 0)) _ :=
    InB.start (AH.set_same _ _ _) (SubH.new zh) zh
  refine acx_loop hQ (fun A H => A.d = d ∧ A.t 1 = bdsV l ∧ A.t 4 = ptrV r4 0 ∧ A.t 7 = ptrV zr 0 ∧ A.t 37 = exsV kids ∧ A.t 38 = iV kids.length ∧ ∃ (i : Nat) (v : VV) (Hb : AH), i ≤ kids.length ∧ A.t 39 = iV i ∧ InB B H zr 34 [iV op, sV nm] [] 34 3 i (encC exE (ks.take i)) v Hb)
    (fun A _ => match A.t 39 with | .lit (.int _ i) => ((kids.length : Int) - i).toNat | _ => 0) ?_ ?_
  · exact ⟨rfl, (by simp only [s_upd, Nat.reduceEqDiff, if_false, *] <;> rfl), (by simp only [s_upd, Nat.reduceEqDiff, if_false, *] <;> rfl), (by simp only [s_upd, Nat.reduceEqDiff, if_true, if_false, *] <;> rfl), (by simp only [s_upd, Nat.reduceEqDiff, if_true, if_false, *] <;> rfl), (by simp only [s_upd, Nat.reduceEqDiff, if_true, if_false, *] <;> rfl), 0, _, _, by omega, (by simp only [s_upd, Nat.reduceEqDiff, if_true, if_false, *] <;> rfl), hin⟩
  · clear hin h1 h2 h4
    rintro ⟨t, d'⟩ H ⟨rfl, h1, h4, h7, h37, h38, i, v, Hb, hi, h39, hb⟩
    dsimp only at h1 h4 h7 h37 h38 h39
    have q7 := hb.at
    unfold b36_1
    (repeat' (first | (refine acx_dreg mixed (fun c A A' H e h => hP c A A' H e h) _ (SubH.refl _) ?_) | (simp only [↓s_skip, ↓s_reg, ↓s_seq, ↓s_cond, ↓s_block, ↓s_exit, ↓s_dreg, ↓s_nil, ↓s_consN, ↓s_thenN, ↓s_thenE, ↓s_inE, ↓s_kret, ↓s_putS, ↓s_putN, ↓s_dOkS, ↓s_dOkN, ↓s_ev_t, ↓s_ev_f, ↓s_upd, ↓s_move, ↓s_load, ↓s_store, ↓s_bin, ↓s_alloc, ↓s_buildSlice, ↓s_fieldAddr, ↓s_indexAddr, ↓s_callB, ↓s_callV, ↓s_callL, ↓s_append, ↓s_bin_lss, ptrV, List.map_cons, List.map_nil, List.length_cons, List.length_nil, List.cons_append, List.nil_append, List.append_nil, ite_true, ite_false, Nat.reduceEqDiff, Nat.reduceLT, Nat.reduceAdd, Nat.reduceMul, Nat.reduceLeDiff, ne_eq, not_false_eq_true, true_and, Nat.succ_ne_self, decide_true, decide_false, Int.natCast_nonneg, Int.toNat_natCast, ↓s_plFin, ↓s_plTkN, ↓s_plOneN, AH.get, AH.set_set, fillV, setAt, List.all_cons, List.all_nil, Bool.and_self, eq_self, Nat.zero_add, List.drop, and_self, ldV_f, ldV_t3, Int.ofNat_lt, on_int, on_str, cl_agg, on_slice, List.set_cons_zero, List.set_cons_succ, ↓n_alloc, n_allocS, Nat.le_refl, n_ldI, n_ldP, n_faP, n_ixS, n_ixA1, n_ldA, n_ldC, n_ldB, n_faA, n_stP, n_stA, ↓s_plK, ↓s_oneK, vcBuildSlice, List.replicate_succ, List.replicate_zero, List.flatten_cons, List.flatten_nil, ex_drop, vcBuildSlice, flT_34_2, ldT_34, ldT_32, szT_34, zeroT_34, elT_32, en_36, *]) | (refine condL_splitD ?_ ?_ <;> intro) | (refine allNew_intro fun zr zh => ?_; have zg := zh; (try simp only [AH.set_none] at zg); (try have zn_q7 := AH.ne_of q7 zh); (try have zn_q7 := AH.ne_of q7 zg.2); (try have zn_q7 := AH.ne_of q7 zg.2.2)) | (exact SubH.refl _) | (refine PureF.use (ih _ (by assumption)) ?_) | (with_reducible refine And.intro ?_ ?_)))
    · have hlt : i < kids.length := by assumption
      have hb1 := hb.alloc (by assumption) (.cells 34 [iV kids[i].op, sV kids[i].name, encS exE kids[i].kids] 0)
      refine append_one elT_32 zeroT_34 rfl (by omega) hb1.own rfl rfl (by omega) (by omega) (fun v' H' ho => ?_)
      have hb2 := hb1.next ho
      have q7' := ho.sub _ _ hb1.blk
      have hc1 := ho.cells.1
      have hc2 := ho.cells.2
      clear hb1 hb q7 ho
      (repeat' (first | (simp only [↓s_reg, ↓s_nil, ↓s_consN, ↓s_thenN, ↓s_inN, ↓s_kret, ↓s_putS, ↓s_putN, ↓s_dOkS, ↓s_dOkN, ↓s_ev_t, ↓s_ev_c, ↓s_upd, ↓s_move, ↓s_store, ↓s_bin, ↓s_fieldAddr, ↓s_bin_add, ptrV, List.length_cons, List.length_nil, List.cons_append, List.nil_append, ite_true, ite_false, Nat.reduceEqDiff, Nat.reduceLT, Nat.reduceAdd, ne_eq, not_false_eq_true, true_and, Nat.succ_ne_self, setAt, List.all_cons, List.all_nil, Bool.and_self, eq_self, Nat.zero_add, List.set_cons_zero, List.set_cons_succ, Nat.le_refl, n_faP, n_faA, n_stP, n_stA, flT_34_2, szT_32, *]) | (with_reducible refine And.intro ?_ ?_)))
      all_goals rw [wrap_ok (n := (i : Int) + 1) (by omega) (by omega)]
      · rw [← ex_take (by omega)] at hb2
        exact ⟨i + 1, v', _, by omega, rfl, hb2⟩
      · omega
    · have hie : i = kids.length := by omega
      subst hie
      rw [List.take_of_length_le (by omega)] at hb
      refine acx_ghost (hb.ghost _ _) ?_
      have n7 := hb.new
      have hx : Blk.cells 34 ([iV op, sV nm] ++ [.slice false kids.length (encC exE ks)]) 0 = .cells 34 [iV op, sV nm, encS exE ks] 0 := by rw [← hkl]; rfl
      rw [hx]
      clear hb q7 hx
      have d47 := AH.ne_of k4 n7
      refine acx_go rfl hQ ?_
      unfold c36_1
      (repeat' (first | (simp only [↓s_reg, ↓s_seq, ↓s_ret, ↓s_nil, ↓s_consN, ↓s_thenN, ↓s_kret, ↓s_putS, ↓s_putN, ↓s_dOkS, ↓s_dOkN, ↓s_ev_t, ↓s_upd, ↓s_load, ↓s_store, ptrV, List.length_cons, List.length_nil, ite_true, ite_false, Nat.reduceEqDiff, Nat.reduceLT, Nat.reduceAdd, true_and, AH.get, setAt, List.all_cons, List.all_nil, Bool.and_self, eq_self, Nat.zero_add, List.drop, ldV_t3, on_int, on_str, cl_agg, on_slice, List.set_cons_zero, List.set_cons_succ, Nat.le_refl, n_ldP, n_ldA, n_ldB, n_stP, n_stA, Zx, ldT_34, szT_34, *])))
      exact hK _ _ n7 (by simp only [s_upd, Nat.reduceEqDiff, if_false, *] <;> rfl)
/-- What put hands back, at its end. -/
def ptX (H0 : AH) (x : VV) : VE → AH → Prop := fun e H' => ∃ y, e = VE.ret y ∧ GhV H' y H0 x
theorem put_leave {H0 H : AH} {t : Nat → VV} {r4 sp : Nat} {a b c x : VV} {e' : TypeId} (h4 : t 4 = ptrV r4 0) (k4 : H r4 = some (.cells e' [a, b, c] sp)) (hg : GhV H (.agg [a, b, c]) H0 x) : leaveR Try.prog [.cell 4 34] (ptX H0 x) t [] .returning H := by
  refine ⟨_, H, _, ?_, .refl _ _, _, rfl, hg⟩
  simp only [resV, resAll, resOne, ldT_34, h4, k4, ptrV, List.drop_zero, ldV_t3, Option.bind_some, Option.map_some, tupV]
theorem acx_gen {cx : Cx} {a : ACode} {Q : APost} {t : Nat → VV} {d : List Deferred} {H : AH} (p : (Nat → VV) → AH → Prop) (hp : p t H) (h : ∀ t' H', p t' H' → ACx cx a Q ⟨t', d⟩ H') : ACx cx a Q ⟨t, d⟩ H := h t H hp
theorem lastB_none {l : List Bd} {n : ByteArray} (h : ∀ j (h : j < l.length), ¬ l[j].1 = n) : lastB l n = none := by
  unfold lastB
  rw [List.find?_eq_none.2, Option.map_none]
  intro b hb
  obtain ⟨j, hj, rfl⟩ := List.getElem_of_mem (List.mem_reverse.1 hb)
  simpa using h j hj
theorem lastB_some {l : List Bd} {n : ByteArray} {k : Nat} (hk : k < l.length) (h1 : l[k].1 = n) (h : ∀ j (h : j < l.length), k < j → ¬ l[j].1 = n) : lastB l n = some l[k].2 := by
  unfold lastB
  have e : l = l.take k ++ l[k] :: l.drop (k + 1) := by rw [← List.drop_eq_getElem_cons hk, List.take_append_drop]
  have h2 : (l.drop (k + 1)).reverse.find? (fun b => decide (b.1 = n)) = none := by
    rw [List.find?_eq_none]
    intro b hb
    obtain ⟨j, hj, rfl⟩ := List.getElem_of_mem (List.mem_reverse.1 hb)
    rw [List.getElem_drop]
    simpa using h (k + 1 + j) (by rw [List.length_drop] at hj; omega) (by omega)
  have h3 : l.reverse.find? (fun b => decide (b.1 = n)) = some l[k] := by
    conv => lhs; rw [e]
    rw [List.reverse_append, List.reverse_cons, List.append_assoc, List.find?_append, h2, List.find?_append]
    simp [h1]
  rw [h3]; rfl
theorem put_ok : ∀ (n : Nat) (e : Ex) (l : List Bd), e.sz < n → e.sz ≤ 1099511627776 → l.length ≤ 1099511627776 → PureF Try.prog 36 [exV e, bdsV l] (exV (e.put l)) := by
  intro n
  induction n with
  | zero => intro e l h; omega
  | succ n ih =>
    intro e l h0 hs hl
    have z1 := e.sz_eq
    have hkl := exsSz_len e.kids
    have hN : e.kids.length ≤ 1099511627776 := by omega
    have ih' : ∀ (l : List Bd), l.length ≤ 1099511627776 → ∀ i (h : i < e.kids.length), PureF Try.prog 36 [exV e.kids[i], bdsV l] (exV (e.kids[i].put l)) := fun l hl i h => ih _ l (by have := exsSz_mem (List.getElem_mem h); omega) (by have := exsSz_mem (List.getElem_mem h); omega) hl
    clear ih z1 hkl h0 hs
    refine GivesF.pure fun H0 => ?_
    refine vcalls_introM fd36 (by simp) ?_
    unfold c36
    by_cases h1 : e.op = 1
    · have hp : e.put l = match lastB l e.name with | some x => x | none => .mk e.op e.name (e.kids.map (·.put l)) := by
        have h5 : ¬ e.op = 5 := by omega
        rw [e.put_eq, if_pos h1]
        cases lastB l e.name <;> simp [h5]
      obtain ⟨X, hX⟩ : ∃ X, X = e.put l := ⟨_, rfl⟩
      rw [← hX]
      rw [hp, h1] at hX
      clear hp
      replace hX := Hold.mk hX
      (repeat' (first | (refine backw (fun rb nb => ?_)) | (simp only [↓s_reg, ↓s_seq, ↓s_seqL, ↓s_cond, ↓s_condT, ↓s_block, ↓s_rfunc, ↓s_nil, ↓s_consN, ↓s_thenN, ↓s_kret, ↓s_putS, ↓s_dOkS, ↓s_ev_t, ↓s_ev_c, ↓s_ev_f, ↓s_upd, ↓s_move, ↓s_assign, ↓s_load, ↓s_bin, ↓s_alloc, ↓s_box, ↓s_fieldAddr, ↓s_callV, ↓s_callL, ↓s_bin_eql, ptrV, List.map_cons, List.map_nil, List.getD_cons_zero, List.getD_cons_succ, List.getD_nil, ite_true, ite_false, Nat.reduceEqDiff, Nat.reduceLT, ne_eq, not_false_eq_true, true_and, Nat.succ_ne_self, decide_true, undefV, AH.get, eq_self, Nat.add_zero, List.drop, ldV_f, cl_agg, ↓n_alloc, n_allocS, ↓n_box, n_ldP, n_faP, n_ldA, n_ldB, n_faA, undef, flT_34_0, ldT_3, zeroT_34, en_52, *]) | (refine allNew_intro fun zr zh => ?_; have zg := zh; (try simp only [AH.set_none] at zg))))
      rename_i r2 n2 n2'
      have n24 := zg.1
      simp only [AH.set_none] at nb
      obtain ⟨Hx, hHx⟩ : ∃ Hx, Hx = ((H0.set r2 (.cells 34 [iV 1, sV e.name, encS exE e.kids] 0)).set zr (.cells 34 Zx 0)).set rb (.cells 96 [bdsV l] 0) := ⟨_, rfl⟩
      have x2 : Hx r2 = some (.cells 34 [iV 1, sV e.name, encS exE e.kids] 0) := by subst hHx; exact (by simp only [AH.get, *, if_true, if_false] <;> rfl)
      have x4 : Hx zr = some (.cells 34 Zx 0) := by subst hHx; exact (by simp only [AH.get, *, if_true, if_false] <;> rfl)
      have xb : Hx rb = some (.cells 96 [bdsV l] 0) := by subst hHx; exact (by simp only [AH.get, *, if_true, if_false] <;> rfl)
      have xs : SubH H0 Hx := by subst hHx; exact ((SubH.new n2).of_set zg.2).of_set nb.2.2
      show ACx _ _ _ _ (((H0.set r2 (.cells 34 [iV 1, sV e.name, encS exE e.kids] 0)).set zr (.cells 34 Zx 0)).set rb (.cells 96 [bdsV l] 0))
      rw [← hHx]
      have g2 : H0 r2 = none := n2
      have g4 : H0 zr = none := zg.2
      clear hHx nb n24 zg zh n2 n2'
      have hgen : ∀ (t : Nat → VV), t 1 = bdsV l → t 2 = ptrV r2 0 → t 4 = ptrV zr 0 → t 15 = .func (.func 75) [] [ptrV rb 0] → True := fun _ _ _ _ _ => trivial
      clear hgen
      refine acx_gen (fun t H => H = Hx ∧ t 1 = bdsV l ∧ t 2 = ptrV r2 0 ∧ t 4 = ptrV zr 0 ∧ t 15 = .func (.func 75) [] [ptrV rb 0]) ⟨rfl, (by simp only [s_upd, Nat.reduceEqDiff, if_false, *] <;> rfl), (by simp only [s_upd, Nat.reduceEqDiff, if_true, if_false, *] <;> rfl), (by simp only [s_upd, Nat.reduceEqDiff, if_true, if_false, *] <;> rfl), (by simp only [s_upd, Nat.reduceEqDiff, if_true, if_false, *] <;> rfl)⟩ ?_
      rintro t H ⟨rfl, t1, t2, t4, t15⟩
      refine acx_rfunc rfl (.inl t15) (by kernel_rfl) ?_
      intro r l0 fn ca cb hca hcb hr hl0 hne hfn
      have e1 := AH.ne_of x2 hr
      have e2 := AH.ne_of x2 hl0
      have e3 := AH.ne_of x4 hr
      have e4 := AH.ne_of x4 hl0
      have e5 := AH.ne_of xb hr
      have e6 := AH.ne_of xb hl0
      refine back1 (sp := 0) (Inv := fun k B => SubH (H.set r (.obj (.deferred (some [])))) B ∧ B l0 = some (.loop .ready none fn 53 t #[16, 17] ca cb r) ∧ ∀ j (h : j < l.length), k ≤ j → ¬ l[j].1 = e.name)
        (Stop := fun k B => ∃ h : k < l.length, B l0 = some (.loop .done (some .ret) fn 53 t #[16, 17] ca cb r) ∧ B r = some (.obj (.deferred (some []))) ∧ B zr = some (.cells 34 [iV l[k].2.op, sV l[k].2.name, encS exE l[k].2.kids] 0) ∧ SubH H0 B ∧ lastB l e.name = some l[k].2) hl ?_ ?_ ?_ (fun _ _ _ => rfl) ?_ ?_
      · exact ⟨SubH.new (by rw [AH.set_ne _ _ hne]; exact hl0), AH.set_same _ _ _, fun j h hj => by omega⟩
      · rintro k B ⟨hB, _⟩
        exact hB _ _ (by rw [AH.get, if_neg e5.1]; exact xb)
      · rintro k hk B ⟨hB, hBl, hno⟩ K' hk1 hk2
        have q2 : B r2 = some (.cells 34 [iV 1, sV e.name, encS exE e.kids] 0) := hB _ _ (by rw [AH.get, if_neg e1.1]; exact x2)
        have q4 : B zr = some (.cells 34 Zx 0) := hB _ _ (by rw [AH.get, if_neg e3.1]; exact x4)
        have qr : B r = some (.obj (.deferred (some []))) := hB _ _ (AH.set_same _ _ _)
        have hsB : SubH H0 B := fun i bk h => hB _ _ (by rw [AH.get, if_neg (AH.ne_of (xs _ _ h) hr).1]; exact xs _ _ h)
        refine acall_yield (l := l0) (pe := none) (fn := fn) (N := 53) (t := t) (ps := #[16, 17]) («asg» := ca) (bd := cb) (ds := r) hBl rfl (by simp) hfn ?_
        refine acx_to hca ?_
        (repeat' (first | (simp only [↓s_reg, ↓s_nil, ↓s_consN, ↓s_thenN, ↓s_kret, ↓s_putS, ↓s_putN, ↓s_dOkS, ↓s_dOkN, ↓s_ev_t, ↓s_upd, ↓s_store, ↓s_alloc, ptrV, List.map_cons, List.map_nil, List.length_cons, List.length_nil, ite_true, ite_false, Nat.reduceEqDiff, Nat.reduceLT, Nat.reduceAdd, true_and, Nat.succ_ne_self, AH.get, AH.set_set, setAt, List.all_cons, List.all_nil, Bool.and_self, eq_self, Nat.zero_add, on_int, on_str, cl_agg, on_slice, List.set_cons_zero, List.set_cons_succ, ↓n_alloc, n_allocS, Nat.le_refl, n_stP, n_stA, putAll, szT_102, zeroT_102, *]) | (refine acx_go rfl (fun _ _ _ h => h) ?_) | (refine allNew_intro fun zr zh => ?_; have zg := zh; (try simp only [AH.set_none] at zg); (try have zn_q2 := AH.ne_of q2 zh); (try have zn_q2 := AH.ne_of q2 zg.2); (try have zn_q2 := AH.ne_of q2 zg.2.2); (try have zn_q4 := AH.ne_of q4 zh); (try have zn_q4 := AH.ne_of q4 zg.2); (try have zn_q4 := AH.ne_of q4 zg.2.2); (try have zn_qr := AH.ne_of qr zh); (try have zn_qr := AH.ne_of qr zg.2); (try have zn_qr := AH.ne_of qr zg.2.2); (try have zn_hBl := AH.ne_of hBl zh); (try have zn_hBl := AH.ne_of hBl zg.2); (try have zn_hBl := AH.ne_of hBl zg.2.2)) | (with_reducible refine And.intro ?_ ?_)))
        · exact ⟨none, rfl⟩
        · intro pe
          refine acx_to hcb ?_
          (repeat' (first | (simp only [↓s_skip, ↓s_reg, ↓s_seq, ↓s_cond, ↓s_block, ↓s_ret, ↓s_nil, ↓s_consN, ↓s_thenN, ↓s_inN, ↓s_inR, ↓s_kret, ↓s_putS, ↓s_putN, ↓s_dOkS, ↓s_dOkN, ↓s_ev_t, ↓s_upd, ↓s_load, ↓s_store, ↓s_bin, ↓s_fieldAddr, ↓s_eqlS, ptrV, List.length_cons, List.length_nil, ite_true, ite_false, Nat.reduceEqDiff, Nat.reduceLT, Nat.reduceAdd, ne_eq, not_false_eq_true, true_and, Nat.succ_ne_self, decide_true, decide_false, reduceCtorEq, AH.get, setAt, List.all_cons, List.all_nil, Bool.and_self, eq_self, Nat.zero_add, Nat.add_zero, List.drop, ldV_f, ldV_t3, on_int, on_str, cl_agg, on_slice, List.set_cons_zero, List.set_cons_succ, Nat.le_refl, n_ldP, n_faP, n_ldA, n_ldB, n_faA, n_stP, n_stA, Zx, flT_34_1, flT_102_0, flT_102_1, ldT_34, ldT_9, szT_34, *]) | (refine condL_splitD ?_ ?_ <;> intro) | (refine acx_go rfl (fun _ _ _ h => h) ?_)))
          · have hn : l[k].1 = e.name := by assumption
            have hne' : ¬ r = l0 := fun e => hne e.symm
            have dz := zn_q4
            have dl := zn_hBl
            have dr := zn_qr
            refine ⟨⟨pe, (by simp only [AH.get, *, if_true, if_false] <;> rfl)⟩, hk2 _ ⟨hk, AH.set_same _ _ _, (by simp only [AH.get, *, if_false] <;> rfl), (by simp only [AH.get, *, if_true, if_false] <;> rfl), ?_, lastB_some hk hn fun j h hj => hno j h (by omega)⟩⟩
            exact (((hsB.of_set (hsB.none zh)).of_set (xs.none hl0)).of_set g4).of_set (xs.none hl0)
          · have hn : ¬ l[k].1 = e.name := by assumption
            refine ⟨⟨pe, AH.set_same _ _ _⟩, hk1 _ ⟨?_, AH.set_same _ _ _, fun j h hj => ?_⟩⟩
            · rw [AH.set_set]
              exact (hB.of_set (hB.none zh)).of_set (by rw [AH.set_ne _ _ hne]; exact hl0)
            · rcases Nat.lt_or_ge k j with h' | h'
              · exact hno j h (by omega)
              · obtain rfl : j = k := by omega
                exact hn
      · rintro B u ⟨hB, hBl, hno⟩
        refine ⟨.ready, none, hBl, by simp, ?_⟩
        have q2 : (B.del l0) r2 = some (.cells 34 [iV 1, sV e.name, encS exE e.kids] 0) := by rw [AH.del_get, if_neg e2.1]; exact hB _ _ (by rw [AH.get, if_neg e1.1]; exact x2)
        have q4 : (B.del l0) zr = some (.cells 34 Zx 0) := by rw [AH.del_get, if_neg e4.1]; exact hB _ _ (by rw [AH.get, if_neg e3.1]; exact x4)
        have qr : (B.del l0) r = some (.obj (.deferred (some []))) := by rw [AH.del_get, if_neg (Ne.symm hne)]; exact hB _ _ (AH.set_same _ _ _)
        have hsB : SubH H0 (B.del l0) := SubH.del (fun i bk h => hB _ _ (by rw [AH.get, if_neg (AH.ne_of (xs _ _ h) hr).1]; exact xs _ _ h)) (xs.none hl0)
        have hXe : X = .mk 1 e.name (e.kids.map (·.put l)) := by rw [hX.out, lastB_none fun j h => hno j h (Nat.zero_le _)]
        rw [hXe]
        clear hX hXe hB hBl hno
        generalize B.del l0 = B at *
        (repeat' (first | (simp only [↓s_thenN, ↓s_inN, *])))
        refine put_tail (op := 1) (nm := e.name) (kids := e.kids) (l := l) (r2 := r2) (r4 := zr) hN (ih' l hl) t1 t2 t4 q2 q4 (fun t' r' hr' h4 => ?_)
        have d1 := AH.ne_of qr hr'
        have d2 := AH.ne_of q4 hr'
        refine ⟨by simp, (by simp only [AH.get, *, if_false] <;> rfl), ?_⟩
        refine put_leave (sp := 0) h4 (by simp only [AH.del_get, AH.get, *, if_true, if_false] <;> rfl) (GhV.forget ?_ _)
        exact SubH.del ((hsB.of_set (hsB.none hr')).of_set g4) (xs.none hr)
      · rintro k hk B u ⟨_, hBl, qr, q4, hsB, hlb⟩
        refine ⟨.done, some .ret, hBl, by simp, ?_⟩
        have hXe : X = l[k].2 := by rw [hX.out, hlb]
        rw [hXe]
        show leaveR Try.prog [.cell 4 34] _ t [markOf r] .returning (B.del l0)
        refine ⟨by simp, by rw [AH.del_get, if_neg (Ne.symm hne)]; exact qr, ?_⟩
        refine put_leave (sp := 0) t4 (by rw [AH.del_get, if_neg e3.1, AH.del_get, if_neg e4.1]; exact q4) (GhV.forget ?_ _)
        exact (hsB.del (xs.none hl0)).del (xs.none hr)
    · by_cases h5 : e.op = 5
      · have hp : e.put l = .mk e.op e.name (e.kids.map (·.put (l.filter fun b => !decide (b.1 = e.name)))) := by rw [e.put_eq, if_neg h1, if_pos h5]
        rw [hp]
        have hlf : (l.filter fun b => !decide (b.1 = e.name)).length ≤ 1099511627776 := by have := List.length_filter_le (fun b : Bd => !decide (b.1 = e.name)) l; omega
        by_cases hle : l = []
        · subst hle
          (repeat' (first | (refine delBd0 ?_) | (simp only [↓s_reg, ↓s_seq, ↓s_seqL, ↓s_cond, ↓s_condT, ↓s_condF, ↓s_block, ↓s_nil, ↓s_consN, ↓s_thenN, ↓s_inN, ↓s_kret, ↓s_putS, ↓s_dOkS, ↓s_ev_t, ↓s_ev_c, ↓s_ev_f, ↓s_upd, ↓s_move, ↓s_assign, ↓s_load, ↓s_bin, ↓s_alloc, ↓s_box, ↓s_makeFunc, ↓s_fieldAddr, ↓s_callV, ↓s_callL, ↓s_bin_eql, ptrV, List.map_cons, List.map_nil, List.getD_cons_zero, List.getD_cons_succ, List.getD_nil, ite_true, ite_false, Nat.reduceEqDiff, Nat.reduceLT, ne_eq, not_false_eq_true, true_and, Nat.succ_ne_self, decide_true, decide_false, undefV, AH.get, eq_self, Nat.add_zero, List.drop, ldV_f, cl_agg, ↓n_alloc, n_allocS, ↓n_box, n_ldP, n_faP, n_ldA, n_ldB, n_faA, undef, Int.reduceEq, flT_34_0, ldT_3, zeroT_34, en_54, en_53, *]) | (refine allNew_intro fun zr zh => ?_; have zg := zh; (try simp only [AH.set_none] at zg)) | (refine PureF.use (cloneBd0) ?_)))
          rename_i r2 n2 n2'
          refine put_tail (op := 5) (nm := e.name) (kids := e.kids) (l := []) (r2 := r2) (r4 := zr) hN (ih' _ (by simp)) (by simp only [s_upd, Nat.reduceEqDiff, if_true, if_false, *] <;> rfl) (by simp only [s_upd, Nat.reduceEqDiff, if_true, if_false, *] <;> rfl) (by simp only [s_upd, Nat.reduceEqDiff, if_true, if_false, *] <;> rfl) (by simp only [AH.get, *, if_true, if_false] <;> rfl) (AH.set_same _ _ _) (fun t' r hr h4 => put_leave h4 (AH.set_same _ _ _) ?_)
          exact GhV.forget ((((SubH.new n2).of_set zg.2).of_set (by simp only [AH.set_none] at hr; exact hr.2.2)).of_set zg.2) _
        · have hne : 0 < l.length := List.length_pos_iff.2 hle
          clear hle
          (repeat' (first | (refine (cloneBd hl hne _).use ?_) | (simp only [↓s_reg, ↓s_seq, ↓s_seqL, ↓s_cond, ↓s_condT, ↓s_condF, ↓s_block, ↓s_nil, ↓s_consN, ↓s_thenN, ↓s_kret, ↓s_putS, ↓s_dOkS, ↓s_ev_t, ↓s_ev_c, ↓s_ev_f, ↓s_upd, ↓s_move, ↓s_assign, ↓s_load, ↓s_bin, ↓s_alloc, ↓s_box, ↓s_makeFunc, ↓s_fieldAddr, ↓s_callV, ↓s_callL, ↓s_bin_eql, ptrV, List.map_cons, List.map_nil, List.getD_cons_zero, List.getD_cons_succ, List.getD_nil, ite_true, ite_false, Nat.reduceEqDiff, Nat.reduceLT, ne_eq, not_false_eq_true, true_and, Nat.succ_ne_self, decide_true, decide_false, undefV, AH.get, eq_self, Nat.add_zero, List.drop, ldV_f, cl_agg, ↓n_alloc, n_allocS, ↓n_box, n_ldP, n_faP, n_ldA, n_ldB, n_faA, undef, Int.reduceEq, flT_34_0, ldT_3, zeroT_34, en_54, en_53, *]) | (refine allNew_intro fun zr zh => ?_; have zg := zh; (try simp only [AH.set_none] at zg))))
          rename_i r2 n2 n2'
          intro v H1 ho
          have hf : ∀ H', SubH ((H0.set r2 (.cells 34 [iV 5, sV e.name, encS exE e.kids] 0)).set zr (.cells 34 Zx 0)) H' → ∀ b, FnAt Try.prog (.func (.func 55) [] [ptrV r2 0]) [bdV b] (boolV (decide (b.1 = e.name))) H' := fun H' hs b => put1 (hs _ _ (by simp only [AH.get, *, if_true, if_false] <;> rfl))
          refine delBd (p := fun b => decide (b.1 = e.name)) ho hne hl hf ?_
          (repeat' (first | (simp only [↓s_nil, ↓s_consN, ↓s_thenN, ↓s_inN, ↓s_kret, ↓s_putS, ↓s_dOkS, ↓s_ev_t, ↓s_upd, ↓s_assign, List.getD_cons_succ, List.getD_nil, ite_true, ite_false, Nat.reduceEqDiff, Nat.reduceLT, true_and, Nat.succ_ne_self, eq_self, *])))
          refine put_tail (op := 5) (nm := e.name) (kids := e.kids) (l := l.filter fun b => !decide (b.1 = e.name)) (r2 := r2) (r4 := zr) hN (ih' _ hlf) (by simp only [s_upd, Nat.reduceEqDiff, if_true, if_false, *] <;> rfl) (by simp only [s_upd, Nat.reduceEqDiff, if_true, if_false, *] <;> rfl) (by simp only [s_upd, Nat.reduceEqDiff, if_true, if_false, *] <;> rfl) (by simp only [AH.get, *, if_true, if_false] <;> rfl) (AH.set_same _ _ _) (fun t' r hr h4 => put_leave h4 (AH.set_same _ _ _) ?_)
          exact GhV.forget ((((SubH.new n2).of_set zg.2).of_set (by simp only [AH.set_none] at hr; exact hr.2.2)).of_set zg.2) _
      · have hp : e.put l = .mk e.op e.name (e.kids.map (·.put l)) := by rw [e.put_eq, if_neg h1, if_neg h5]
        rw [hp]
        (repeat' (first | (simp only [↓s_skip, ↓s_reg, ↓s_seq, ↓s_seqL, ↓s_cond, ↓s_condF, ↓s_block, ↓s_nil, ↓s_consN, ↓s_thenN, ↓s_inN, ↓s_kret, ↓s_putS, ↓s_dOkS, ↓s_ev_t, ↓s_ev_c, ↓s_upd, ↓s_assign, ↓s_load, ↓s_bin, ↓s_alloc, ↓s_box, ↓s_fieldAddr, ↓s_bin_eql, ptrV, List.map_cons, List.map_nil, List.getD_cons_zero, List.getD_cons_succ, List.getD_nil, ite_true, ite_false, Nat.reduceEqDiff, Nat.reduceLT, ne_eq, not_false_eq_true, true_and, Nat.succ_ne_self, decide_false, undefV, AH.get, eq_self, Nat.add_zero, List.drop, ldV_f, cl_agg, ↓n_alloc, n_allocS, ↓n_box, n_ldP, n_faP, n_ldA, n_ldB, n_faA, undef, flT_34_0, ldT_3, zeroT_34, *]) | (refine allNew_intro fun zr zh => ?_; have zg := zh; (try simp only [AH.set_none] at zg))))
        rename_i r2 n2 n2'
        refine put_tail (op := e.op) (nm := e.name) (kids := e.kids) (l := l) (r2 := r2) (r4 := zr) hN (ih' l hl) (by simp only [s_upd, Nat.reduceEqDiff, if_false, *] <;> rfl) (by simp only [s_upd, Nat.reduceEqDiff, if_true, if_false, *] <;> rfl) (by simp only [s_upd, Nat.reduceEqDiff, if_true, if_false, *] <;> rfl) (by simp only [AH.get, *, if_true, if_false] <;> rfl) (AH.set_same _ _ _) (fun t' r hr h4 => put_leave h4 (AH.set_same _ _ _) ?_)
        exact GhV.forget ((((SubH.new n2).of_set zg.2).of_set (by simp only [AH.set_none] at hr; exact hr.2.2)).of_set zg.2) _
end Go.PV.Ytglpmlbbaedbiaa
end
section
/- Parts of a pattern. -/
set_option linter.unusedVariables false
set_option linter.unusedSimpArgs false
set_option maxRecDepth 20000
set_option maxHeartbeats 4000000
namespace Go.PV.Ytglpmlbbaedbiaa
open Go Go.Proofs
mutual
theorem Ex.put_nil : ∀ e : Ex, e.put [] = e
  | .mk op n ks => by
    rw [Ex.put, List.filter_nil, ite_self, exsPut_nil ks]
    have : (if op = 1 then lastB [] n else none) = none := by split <;> rfl
    rw [this]
theorem exsPut_nil : ∀ l : List Ex, exsPut l [] = l
  | [] => rfl
  | k :: ks => by rw [exsPut, Ex.put_nil k, exsPut_nil ks]
end
theorem copied_ok (e : Ex) (hs : e.sz ≤ 1099511627776) : PureF Try.prog 49 [exV e] (exV e) := by
  have hp := put_ok (e.sz + 1) e [] (by omega) hs (by simp)
  rw [e.put_nil] at hp
  refine GivesF.pure fun H0 => ?_
  refine vcalls_intro fd49 (by simp) ?_
  unfold c49
  (repeat' (first | (refine vcalls_ghost (GhL.cons (GhV.refl _ _) (GhL.cons (GhV.nil _) (GhL.nil _))) (PureF.use hp ?_)) | (simp only [↓s_reg, ↓s_seq, ↓s_ret, ↓s_nil, ↓s_consN, ↓s_thenN, ↓s_kret, ↓s_putS, ↓s_putN, ↓s_dOkS, ↓s_dOkN, ↓s_ev_t, ↓s_ev_c, ↓s_ev_f, ↓s_upd, ↓s_load, ↓s_store, ↓s_alloc, ↓s_box, ↓s_callV, ↓s_callL, ptrV, List.map_cons, List.map_nil, List.length_cons, List.length_nil, List.getD_cons_zero, List.getD_cons_succ, List.getD_nil, ite_true, ite_false, Nat.reduceEqDiff, Nat.reduceLT, Nat.reduceAdd, true_and, Nat.succ_ne_self, undefV, AH.get, AH.set_set, setAt, List.all_cons, List.all_nil, Bool.and_self, eq_self, Nat.zero_add, List.drop, ldV_t3, on_int, on_str, cl_agg, on_slice, List.set_cons_zero, List.set_cons_succ, ↓n_alloc, n_allocS, ↓n_box, Nat.le_refl, n_ldP, n_ldA, n_ldB, n_stP, n_stA, undef, ldT_34, szT_34, zeroT_34, en_36, *]) | (refine allNew_intro fun zr zh => ?_; have zg := zh; (try simp only [AH.set_none] at zg))))
  rename_i r1 n1 n1'
  refine ret_cell ldT_34 (by simp only [s_upd, Nat.reduceEqDiff, if_true, if_false, *] <;> rfl) (AH.set_same _ _ _) (by rw [List.drop_zero]; exact ldV_t3 _ _ _ _) ?_
  refine ⟨_, rfl, GhV.forget ((SubH.new n1).of_set zg.2) _⟩
mutual
/-- What a pattern matches, behind what is known. -/
def Pa.parts : Pa → Ex → List Bd → List Bd × Bool
  | .mk c n ks, e, l => if c = true then (if e.op = 3 ∧ e.name = n ∧ e.kids.length = ks.length then pasParts ks e.kids l else (l, false)) else (l ++ [(n, e)], true)
def pasParts : List Pa → List Ex → List Bd → List Bd × Bool
  | [], _, l => (l, true)
  | p :: ps, e :: es, l => match p.parts e l with
    | (l', true) => pasParts ps es l'
    | (l', false) => (l', false)
  | _ :: _, [], l => (l, false)
end
theorem Pa.parts_eq (p : Pa) (e : Ex) (l : List Bd) : p.parts e l = if p.con = true then (if e.op = 3 ∧ e.name = p.name ∧ e.kids.length = p.kids.length then pasParts p.kids e.kids l else (l, false)) else (l ++ [(p.name, e)], true) := by
  cases p; rw [Pa.parts]; rfl
mutual
theorem Pa.parts_len : ∀ (p : Pa) (e : Ex) (l : List Bd), (p.parts e l).1.length ≤ l.length + p.sz
  | .mk c n ks, e, l => by
    have := pasParts_len ks e.kids l
    rw [Pa.parts, Pa.sz]
    split
    · split
      · omega
      · simp
    · simp
theorem pasParts_len : ∀ (ps : List Pa) (es : List Ex) (l : List Bd), (pasParts ps es l).1.length ≤ l.length + pasSz ps
  | [], _, l => by simp [pasParts]
  | p :: ps, e :: es, l => by
    have h1 := Pa.parts_len p e l
    rw [pasParts, pasSz]
    split
    · rename_i l' h
      have h2 := pasParts_len ps es l'
      rw [h] at h1
      simp only at h1
      omega
    · rename_i l' h
      rw [h] at h1
      simp only at h1 ⊢
      omega
  | _ :: _, [], l => by simp [pasParts]
end
theorem pasParts_drop {ps : List Pa} {es : List Ex} {l : List Bd} {i : Nat} (h : i < ps.length) (h' : i < es.length) : pasParts (ps.drop i) (es.drop i) l = if (ps[i].parts es[i] l).2 = true then pasParts (ps.drop (i + 1)) (es.drop (i + 1)) (ps[i].parts es[i] l).1 else (ps[i].parts es[i] l) := by
  rw [List.drop_eq_getElem_cons h, List.drop_eq_getElem_cons h', pasParts]
  generalize ps[i].parts es[i] l = r
  obtain ⟨l', b⟩ := r
  cases b <;> rfl
abbrev prtV (r : List Bd × Bool) : VV := .tuple [bdsV r.1, bV r.2]
def prQ (H0 : AH) (R : List Bd × Bool) : APost := retPost Try.prog [.tmp 6, .tmp 7] fun e H' => ∃ y, e = VE.ret y ∧ GhV H' y H0 (prtV R)
theorem parts_loop {H0 H : AH} {t : Nat → VV} {ps : List Pa} {es : List Ex} {l : List Bd} {b : Bool} {r3 r4 : Nat} {x0 x1 y0 y1 : VV} {R : List Bd × Bool} (hN : ps.length ≤ 1099511627776) (hbl : b = true → es.length = ps.length) (hl : l.length + pasSz ps ≤ 1099511627776)
    (ih' : ∀ i (h : i < ps.length) (h' : i < es.length) (l : List Bd), l.length + ps[i].sz ≤ 1099511627776 → PureF Try.prog 35 [paV ps[i], exV es[i], bdsV l] (prtV (ps[i].parts es[i] l)))
    (hR : R = if b = true then pasParts ps es l else (l, false)) (h2 : t 2 = bdsV l) (h3 : t 3 = ptrV r3 0) (h4 : t 4 = ptrV r4 0) (h8 : t 8 = bV b) (h9 : t 9 = iV 0)
    (k3 : H r3 = some (.cells 57 [x0, x1, encS paE ps] 0)) (k4 : H r4 = some (.cells 34 [y0, y1, encS exE es] 0)) (hs : SubH H0 H) :
    ACx ⟨Try.prog, 72, none⟩ (.loop b35_1) (inBlockA 0 (thenA (ACx ⟨Try.prog, 72, none⟩ c35_1 (prQ H0 R)) (prQ H0 R))) ⟨t, []⟩ H := by
  refine acx_loop (fun _ _ _ h => h) (fun A H' => H' = H ∧ A.d = [] ∧ A.t 3 = ptrV r3 0 ∧ A.t 4 = ptrV r4 0 ∧ ∃ (i : Nat) (m : List Bd) (b : Bool), i ≤ ps.length ∧ A.t 9 = iV i ∧ A.t 2 = bdsV m ∧ A.t 8 = bV b ∧ (b = true → es.length = ps.length ∧ m.length + pasSz (ps.drop i) ≤ 1099511627776) ∧ R = if b = true then pasParts (ps.drop i) (es.drop i) m else (m, false))
    (fun A _ => match A.t 9 with | .lit (.int _ i) => ((ps.length : Int) - i).toNat | _ => 0) ?_ ?_
  · exact ⟨rfl, rfl, h3, h4, 0, l, b, by omega, h9, h2, h8, fun h => ⟨hbl h, hl⟩, hR⟩
  · clear hbl hR h2 h3 h4 h8 h9 hl
    rintro ⟨t, d⟩ H' ⟨rfl, rfl, h3, h4, i, m, b, hi, h9, h2, h8, hb, hR⟩
    dsimp only at h2 h3 h4 h8 h9
    cases b with
    | false =>
      simp only [Bool.false_eq_true, if_false] at hR
      subst hR
      clear hb
      unfold b35_1
      by_cases hlt : i < ps.length
      · (repeat' (first | (simp only [↓s_reg, ↓s_seq, ↓s_cond, ↓s_condF, ↓s_exit, ↓s_nil, ↓s_consN, ↓s_consG, ↓s_guardTT, ↓s_thenN, ↓s_thenE, ↓s_inE, ↓s_kret, ↓s_putS, ↓s_dOkS, ↓s_ev_t, ↓s_ev_c, ↓s_upd, ↓s_move, ↓s_isBool, ↓s_pickA, ↓s_pick, ↓s_load, ↓s_bin, ↓s_fieldAddr, ↓s_callB, ↓s_len, ↓s_bin_lss, ptrV, intV, List.map_cons, List.map_nil, ite_true, ite_false, Nat.reduceEqDiff, Nat.reduceLT, ne_eq, not_false_eq_true, true_and, Nat.succ_ne_self, decide_true, reduceCtorEq, eq_self, Nat.zero_add, List.drop, ldV_f, Int.ofNat_lt, n_ldP, n_faP, n_lenS, n_ldA, n_ldB, n_faA, flT_57_2, ldT_55, elT_55, *]) | (refine acx_go rfl (fun _ _ _ h => h) ?_)))
        unfold c35_1
        (repeat' (first | (simp only [↓s_reg, ↓s_seq, ↓s_ret, ↓s_nil, ↓s_consN, ↓s_thenN, ↓s_putS, ↓s_dOkS, ↓s_ev_t, ↓s_upd, ↓s_move, ↓s_assign, ite_true, ite_false, Nat.reduceEqDiff, Nat.reduceLT, true_and, Nat.succ_ne_self, eq_self, *])))
        exact retPost_ret rfl (by simp only [resV, resAll, resOne, s_upd, Nat.reduceEqDiff, if_true, if_false, Option.bind_some, Option.map_some, tupV, *] <;> rfl) ⟨_, rfl, GhV.forget hs _⟩
      · (repeat' (first | (simp only [↓s_reg, ↓s_seq, ↓s_cond, ↓s_condF, ↓s_exit, ↓s_nil, ↓s_consN, ↓s_consG, ↓s_guardFT, ↓s_thenN, ↓s_thenE, ↓s_inE, ↓s_kret, ↓s_putS, ↓s_dOkS, ↓s_ev_t, ↓s_ev_c, ↓s_upd, ↓s_move, ↓s_isBool, ↓s_pickA, ↓s_pick, ↓s_load, ↓s_bin, ↓s_fieldAddr, ↓s_callB, ↓s_len, ↓s_bin_lss, ptrV, intV, List.map_cons, List.map_nil, ite_true, ite_false, Nat.reduceEqDiff, Nat.reduceLT, ne_eq, not_false_eq_true, true_and, Bool.false_eq_true, Nat.succ_ne_self, decide_false, reduceCtorEq, callOk, undefV, eq_self, Nat.zero_add, List.drop, ldV_f, Int.ofNat_lt, n_ldP, n_faP, n_lenS, n_ldA, n_ldB, n_faA, undef, flT_57_2, ldT_55, elT_55, *]) | (refine acx_go rfl (fun _ _ _ h => h) ?_)))
        unfold c35_1
        (repeat' (first | (simp only [↓s_reg, ↓s_seq, ↓s_ret, ↓s_nil, ↓s_consN, ↓s_thenN, ↓s_putS, ↓s_dOkS, ↓s_ev_t, ↓s_upd, ↓s_move, ↓s_assign, ite_true, ite_false, Nat.reduceEqDiff, Nat.reduceLT, true_and, Nat.succ_ne_self, eq_self, *])))
        exact retPost_ret rfl (by simp only [resV, resAll, resOne, s_upd, Nat.reduceEqDiff, if_true, if_false, Option.bind_some, Option.map_some, tupV, *] <;> rfl) ⟨_, rfl, GhV.forget hs _⟩
    | true =>
      obtain ⟨hel, hml⟩ := hb rfl
      simp only [if_true] at hR
      clear hb
      unfold b35_1
      by_cases hlt : i < ps.length
      · have hlt' : i < es.length := by omega
        rw [pasParts_drop hlt hlt'] at hR
        have hd := pasSz_drop hlt
        have hil : (i : Int) < (ps.length : Int) := by omega
        have hil' : (i : Int) < (es.length : Int) := by omega
        have hc := ih' i hlt hlt' m (by omega)
        have hpl := Pa.parts_len ps[i] es[i] m
        generalize ps[i].parts es[i] m = r at *
        obtain ⟨m', b'⟩ := r
        simp only at hpl
        have hnew := Hold.mk (show m'.length + pasSz (ps.drop (i + 1)) ≤ 1099511627776 by omega)
        replace hR := Hold.mk hR
        clear hd hml ih'
        (repeat' (first | (simp only [↓s_skip, ↓s_reg, ↓s_seq, ↓s_cond, ↓s_condT, ↓s_block, ↓s_dreg, ↓s_nil, ↓s_consN, ↓s_consG, ↓s_guardTT, ↓s_thenN, ↓s_inN, ↓s_kret, ↓s_putS, ↓s_dOkS, ↓s_ev_t, ↓s_ev_c, ↓s_ev_f, ↓s_upd, ↓s_move, ↓s_assign, ↓s_isBool, ↓s_pickA, ↓s_pick, ↓s_load, ↓s_bin, ↓s_fieldAddr, ↓s_indexAddr, ↓s_extract, ↓s_callB, ↓s_callV, ↓s_callL, ↓s_len, ↓s_bin_lss, ↓s_bin_add, vcExtract, ptrV, intV, List.map_cons, List.map_nil, ite_true, ite_false, Nat.reduceEqDiff, Nat.reduceLT, ne_eq, not_false_eq_true, true_and, Nat.succ_ne_self, decide_true, reduceCtorEq, Int.natCast_nonneg, Int.toNat_natCast, ↓s_plFin, ↓s_plTkN, ↓s_plOneN, eq_self, Nat.zero_add, List.drop, and_self, List.getElem?_cons_zero, List.getElem?_cons_succ, ldV_f, ldV_t3, n_ldI, n_ldP, n_faP, n_ixS, n_ixA1, n_lenS, n_ldA, n_ldC, n_ldB, n_faA, ↓s_plK, ↓s_oneK, pa_drop, ex_drop, flT_57_2, flT_34_2, ldT_55, ldT_57, ldT_32, ldT_34, elT_55, elT_32, en_35, *]) | (refine acx_dreg mixed (fun _ _ _ _ e h => ⟨e.trans h.1, h.2⟩) _ (SubH.refl _) ?_) | (exact SubH.refl _) | (refine PureF.use (hc) ?_) | (with_reducible refine And.intro ?_ ?_)))
        all_goals rw [wrap_ok (n := (i : Int) + 1) (by omega) (by omega)]
        · exact ⟨i + 1, m', b', by omega, rfl, rfl, rfl, fun _ => hnew.out, by rw [hR.out]; cases b' <;> rfl⟩
        · omega
      · rw [List.drop_eq_nil_of_le (by omega)] at hR
        simp only [pasParts] at hR
        subst hR
        (repeat' (first | (simp only [↓s_reg, ↓s_seq, ↓s_cond, ↓s_condF, ↓s_exit, ↓s_nil, ↓s_consN, ↓s_consG, ↓s_guardFT, ↓s_thenN, ↓s_thenE, ↓s_inE, ↓s_kret, ↓s_putS, ↓s_dOkS, ↓s_ev_t, ↓s_ev_c, ↓s_upd, ↓s_move, ↓s_isBool, ↓s_pickA, ↓s_pick, ↓s_load, ↓s_bin, ↓s_fieldAddr, ↓s_callB, ↓s_len, ↓s_bin_lss, ptrV, intV, List.map_cons, List.map_nil, ite_true, ite_false, Nat.reduceEqDiff, Nat.reduceLT, ne_eq, not_false_eq_true, true_and, Bool.false_eq_true, Nat.succ_ne_self, decide_false, reduceCtorEq, callOk, undefV, eq_self, Nat.zero_add, List.drop, ldV_f, Int.ofNat_lt, n_ldP, n_faP, n_lenS, n_ldA, n_ldB, n_faA, undef, flT_57_2, ldT_55, elT_55, *]) | (refine acx_go rfl (fun _ _ _ h => h) ?_)))
        unfold c35_1
        (repeat' (first | (simp only [↓s_reg, ↓s_seq, ↓s_ret, ↓s_nil, ↓s_consN, ↓s_thenN, ↓s_putS, ↓s_dOkS, ↓s_ev_t, ↓s_upd, ↓s_move, ↓s_assign, ite_true, ite_false, Nat.reduceEqDiff, Nat.reduceLT, true_and, Nat.succ_ne_self, eq_self, *])))
        exact retPost_ret rfl (by simp only [resV, resAll, resOne, s_upd, Nat.reduceEqDiff, if_true, if_false, Option.bind_some, Option.map_some, tupV, *] <;> rfl) ⟨_, rfl, GhV.forget hs _⟩
theorem parts_ok : ∀ (n : Nat) (p : Pa) (e : Ex) (l : List Bd), p.sz < n → e.sz ≤ 1099511627776 → l.length + p.sz ≤ 1099511627776 → PureF Try.prog 35 [paV p, exV e, bdsV l] (prtV (p.parts e l)) := by
  intro n
  induction n with
  | zero => intro p e l h; omega
  | succ n ih =>
    intro p e l h0 hs hl
    have z1 := p.sz_eq
    have z2 := e.sz_eq
    have hkl := pasSz_len p.kids
    have hel := exsSz_len e.kids
    have ih' : ∀ i (h : i < p.kids.length) (h' : i < e.kids.length) (l : List Bd), l.length + p.kids[i].sz ≤ 1099511627776 → PureF Try.prog 35 [paV p.kids[i], exV e.kids[i], bdsV l] (prtV (p.kids[i].parts e.kids[i] l)) := fun i h h' l hl => ih _ _ l (by have := pasSz_mem (List.getElem_mem h); omega) (by have := exsSz_mem (List.getElem_mem h'); omega) hl
    have hcp := copied_ok e hs
    refine GivesF.pure fun H0 => ?_
    refine vcalls_intro fd35 (by simp) ?_
    unfold c35
    rw [p.parts_eq]
    by_cases hc : p.con = true
    · rw [if_pos hc]
      clear hcp
      obtain ⟨R, hR⟩ : ∃ R, R = (if e.op = 3 ∧ e.name = p.name ∧ e.kids.length = p.kids.length then pasParts p.kids e.kids l else (l, false)) := ⟨_, rfl⟩
      rw [← hR]
      obtain ⟨b0, hb0⟩ : ∃ b0 : Bool, b0 = (decide (e.op = 3) && (decide (e.name = p.name) && decide (e.kids.length = p.kids.length))) := ⟨_, rfl⟩
      have hR' : R = if b0 = true then pasParts p.kids e.kids l else (l, false) := by
        rw [hR, hb0]
        by_cases h1 : e.op = 3 <;> by_cases h2 : e.name = p.name <;> by_cases h3 : e.kids.length = p.kids.length <;> simp [h1, h2, h3]
      have hbl : b0 = true → e.kids.length = p.kids.length := fun h => by rw [hb0] at h; simp at h; exact h.2.2
      clear hR
      replace hb0 := Hold.mk hb0
      replace hR' := Hold.mk hR'
      replace hbl := Hold.mk hbl
      have hkN : p.kids.length ≤ 1099511627776 := by omega
      have hzl := Hold.mk (show l.length + pasSz p.kids ≤ 1099511627776 by omega)
      clear hl hs z1 z2 hkl hel h0
      (repeat' (first | (simp only [↓s_skip, ↓s_reg, ↓s_seq, ↓s_seqL, ↓s_cond, ↓s_condF, ↓s_block, ↓s_loop, ↓s_nil, ↓s_consN, ↓s_consG, ↓s_guardTT, ↓s_guardFT, ↓s_thenN, ↓s_kret, ↓s_putS, ↓s_dOkS, ↓s_ev_t, ↓s_ev_c, ↓s_upd, ↓s_move, ↓s_assign, ↓s_isBool, ↓s_pickA, ↓s_pick, ↓s_load, ↓s_bin, ↓s_un, ↓s_box, ↓s_fieldAddr, ↓s_callB, ↓s_len, ↓s_un_not, ↓s_bin_eql, ↓s_eqlS, ptrV, intV, List.map_cons, List.map_nil, List.getD_cons_zero, List.getD_cons_succ, List.getD_nil, ite_true, ite_false, Nat.reduceEqDiff, Nat.reduceLT, ne_eq, not_false_eq_true, true_and, Bool.false_eq_true, Nat.succ_ne_self, decide_true, decide_false, Bool.not_true, reduceCtorEq, callOk, undefV, AH.get, eq_self, Nat.zero_add, Nat.add_zero, List.drop, ldV_f, cl_agg, ↓n_box, n_ldP, n_faP, n_lenS, n_ldA, n_ldB, n_faA, undef, flT_57_2, flT_34_2, flT_57_0, flT_57_1, flT_34_0, flT_34_1, ldT_55, ldT_32, ldT_4, ldT_9, ldT_3, elT_55, elT_32, *]) | (refine guardL_splitTD ?_ ?_ <;> intro) | (refine allNew_intro fun zr zh => ?_; have zg := zh; (try simp only [AH.set_none] at zg))))
      all_goals have z3 := zg.2
      · rename_i r1 n1 n1' _ _
        refine parts_loop (ps := p.kids) (es := e.kids) (l := l) (b := b0) (r3 := r1) (r4 := zr) hkN hbl.out hzl.out ih' hR'.out (by simp only [s_upd, Nat.reduceEqDiff, if_false, *] <;> rfl) (by simp only [s_upd, Nat.reduceEqDiff, if_true, if_false, *] <;> rfl) (by simp only [s_upd, Nat.reduceEqDiff, if_true, if_false, *] <;> rfl) ?_ (by simp only [s_upd, Nat.reduceEqDiff, if_true, if_false, *] <;> rfl) (by simp only [AH.get, *, if_true, if_false] <;> rfl) (AH.set_same _ _ _) ((SubH.new n1).of_set zg.2)
        simp only [s_upd, Nat.reduceEqDiff, if_true, if_false]
        rw [hb0.out]
        simp [*]
        omega
      · rename_i r1 n1 n1' _ _
        refine parts_loop (ps := p.kids) (es := e.kids) (l := l) (b := b0) (r3 := r1) (r4 := zr) hkN hbl.out hzl.out ih' hR'.out (by simp only [s_upd, Nat.reduceEqDiff, if_false, *] <;> rfl) (by simp only [s_upd, Nat.reduceEqDiff, if_true, if_false, *] <;> rfl) (by simp only [s_upd, Nat.reduceEqDiff, if_true, if_false, *] <;> rfl) ?_ (by simp only [s_upd, Nat.reduceEqDiff, if_true, if_false, *] <;> rfl) (by simp only [AH.get, *, if_true, if_false] <;> rfl) (AH.set_same _ _ _) ((SubH.new n1).of_set zg.2)
        simp only [s_upd, Nat.reduceEqDiff, if_true, if_false]
        rw [hb0.out]
        simp [*]
      · rename_i r1 n1 n1' _
        refine parts_loop (ps := p.kids) (es := e.kids) (l := l) (b := b0) (r3 := r1) (r4 := zr) hkN hbl.out hzl.out ih' hR'.out (by simp only [s_upd, Nat.reduceEqDiff, if_false, *] <;> rfl) (by simp only [s_upd, Nat.reduceEqDiff, if_true, if_false, *] <;> rfl) (by simp only [s_upd, Nat.reduceEqDiff, if_true, if_false, *] <;> rfl) ?_ (by simp only [s_upd, Nat.reduceEqDiff, if_true, if_false, *] <;> rfl) (by simp only [AH.get, *, if_true, if_false] <;> rfl) (AH.set_same _ _ _) ((SubH.new n1).of_set zg.2)
        simp only [s_upd, Nat.reduceEqDiff, if_true, if_false]
        rw [hb0.out]
        simp [*]
    · have hc' : p.con = false := by simpa using hc
      rw [if_neg hc]
      have hb1 : (l.length + 1) * 72 ≤ 140737488355328 := by omega
      clear ih' z1 z2 hkl hel hc h0
      (repeat' (first | (simp only [↓s_reg, ↓s_seq, ↓s_cond, ↓s_condT, ↓s_dreg, ↓s_nil, ↓s_consN, ↓s_thenN, ↓s_kret, ↓s_putS, ↓s_dOkS, ↓s_ev_t, ↓s_ev_c, ↓s_ev_f, ↓s_upd, ↓s_move, ↓s_assign, ↓s_load, ↓s_un, ↓s_box, ↓s_build, ↓s_buildSlice, ↓s_slice, ↓s_fieldAddr, ↓s_callB, ↓s_callV, ↓s_callL, ↓s_len, ↓s_append, ↓s_un_not, ptrV, intV, List.map_cons, List.map_nil, List.length_cons, List.length_nil, List.getD_cons_zero, List.getD_cons_succ, List.getD_nil, List.append_nil, ite_true, ite_false, Nat.reduceEqDiff, Nat.reduceLT, Nat.reduceAdd, Nat.reduceMul, Nat.reduceLeDiff, ne_eq, not_false_eq_true, true_and, and_true, List.drop_zero, Nat.succ_ne_self, Bool.not_false, reduceCtorEq, Int.natCast_nonneg, Int.toNat_natCast, undefV, ↓s_plFin, ↓s_plTkN, ↓s_plOneN, AH.get, vcBuild, fillV, setAt, eq_self, Nat.zero_add, Nat.add_zero, List.drop, and_self, List.getElem?_cons_zero, List.getElem?_cons_succ, forall_const, ldV_f, ldV_t3, cl_str, cl_agg, List.set_cons_zero, List.set_cons_succ, ↓n_box, Nat.le_refl, n_ldP, n_faP, n_lenS, n_ldA, n_ldB, n_faA, ↓s_plK, ↓s_oneK, undef, vcBuildSlice, List.replicate_succ, List.replicate_zero, List.flatten_cons, List.flatten_nil, vcSlice, Option.map_none, Option.map_some, sliceOk, idxV, idxOk, vcBuildSlice, flT_57_0, flT_57_1, ldT_34, ldT_4, ldT_9, zeroT_102, stT_102, elT_96, en_49, *]) | (refine acx_dreg mixed (fun _ _ _ _ e h => ⟨e.trans h.1, h.2⟩) _ (SubH.refl _) ?_) | (refine allNew_intro fun zr zh => ?_; have zg := zh; (try simp only [AH.set_none] at zg)) | (exact SubH.refl _) | (refine PureF.use (hcp) ?_) | (with_reducible refine And.intro ?_ ?_)))
      · omega
      · rw [show (l.length == l.length) = true from by simp, Nat.sub_zero]
        rename_i r1 n1 n1'
        refine append_clip1 elT_96 zeroT_102 rfl (by omega) (encC_length (enc := bdE) (k := 4) (fun _ => rfl) l) rfl rfl (by omega) (by omega) (fun v' H' ho => ?_)
        (repeat' (first | (simp only [↓s_ret, ↓s_nil, ↓s_consN, ↓s_thenN, ↓s_thenR, ↓s_kret, ↓s_putS, ↓s_dOkS, ↓s_ev_t, ↓s_ev_c, ↓s_upd, ↓s_assign, List.getD_cons_succ, List.getD_nil, ite_true, ite_false, Nat.reduceEqDiff, Nat.reduceLT, true_and, Nat.succ_ne_self, eq_self, *])))
        refine retPost_ret rfl (by simp only [resV, resAll, resOne, s_upd, Nat.reduceEqDiff, if_true, if_false, Option.bind_some, Option.map_some, tupV, *] <;> rfl) ⟨_, rfl, ?_⟩
        refine GhV.tuple (GhL.cons ?_ (GhL.cons (GhV.refl _ _) (GhL.nil _)))
        have := GhV.back ho ((SubH.new n1).of_set zg.2)
        rw [show encC bdE l ++ [VV.lit (.string p.name), iV e.op, sV e.name, encS exE e.kids] = encC bdE (l ++ [(p.name, e)]) from by rw [encC_append]; rfl] at this
        show GhV _ _ _ (.slice false (l ++ [(p.name, e)]).length _)
        rw [List.length_append]
        exact this
end Go.PV.Ytglpmlbbaedbiaa
end
section
/- Select. -/
set_option linter.unusedVariables false
set_option linter.unusedSimpArgs false
set_option maxRecDepth 20000
set_option maxHeartbeats 4000000
namespace Go.PV.Ytglpmlbbaedbiaa
open Go Go.Proofs
def zEx : Ex := .mk 0 { data := #[] } []
/-- The error of clauses. -/
def clsErr (n : Int) : List Cl → Int
  | [] => 0
  | c :: l => if (c.pats.length : Int) = n then (if (pasNames c.pats).Nodup then clsErr n l else 10) else 5
/-- The clause that counts, from one on. -/
def selGo (vs : List Ex) : List Cl → Nat → Int × Ex × Int
  | [], _ => (0, zEx, 420)
  | c :: l, i => if (pasParts c.pats vs []).2 = true then ((i : Int), c.body.put (pasParts c.pats vs []).1, 0) else selGo vs l (i + 1)
def selectF (f : Fu) (vs : List Ex) : Int × Ex × Int :=
  if (vs.length : Int) = f.arity then (if clsErr f.arity f.cls = 0 then selGo vs f.cls 0 else (0, zEx, clsErr f.arity f.cls)) else (0, zEx, 5)
abbrev selV (r : Int × Ex × Int) : VV := .tuple [iV r.1, exV r.2.1, iV r.2.2]
def slQ (H0 : AH) (R : Int × Ex × Int) : APost := retPost Try.prog [.tmp 4, .cell 5 34, .tmp 6] fun e H' => ∃ y, e = VE.ret y ∧ GhV H' y H0 (selV R)
theorem sl_ret {H0 H : AH} {t : Nat → VV} {r sp : Nat} {k c : Int} {a b d : VV} {e' : TypeId} {x : Ex} (h4 : t 4 = iV k) (h5 : t 5 = ptrV r 0) (h6 : t 6 = iV c) (k5 : H r = some (.cells e' [a, b, d] sp)) (hg : GhV H (.agg [a, b, d]) H0 (exV x)) : slQ H0 (k, x, c) .ret ⟨t, []⟩ H := by
  refine retPost_ret rfl (x := .tuple [iV k, .agg [a, b, d], iV c]) (by simp only [resV, resAll, resOne, ldT_34, h4, h5, h6, k5, ptrV, List.drop_zero, ldV_t3, Option.bind_some, Option.map_some, tupV]) ⟨_, rfl, ?_⟩
  have h1 : GhL H [iV k, .agg [a, b, d], iV c] H0 [iV k, exV x, iV c] := by
    refine GhL.cons (GhV.refl _ _) (GhL.cons hg (GhL.cons (GhV.refl _ _) (GhL.nil _)))
  exact GhV.tuple h1
theorem zx_gh {H0 H : AH} (hs : SubH H0 H) : GhV H (.agg [iV 0, sV { data := #[] }, .lit (.slice none 0 0)]) H0 (exV zEx) :=
  GhV.agg (GhL.cons (GhV.refl _ _) (GhL.cons (GhV.refl _ _) (GhL.cons ((GhV.nil _).trans (GhV.forget hs _)) (GhL.nil _))))
theorem clsErr_drop {n : Int} {l : List Cl} {i : Nat} (h : i < l.length) : clsErr n (l.drop i) = if (l[i].pats.length : Int) = n then (if (pasNames l[i].pats).Nodup then clsErr n (l.drop (i + 1)) else 10) else 5 := by rw [List.drop_eq_getElem_cons h, clsErr]
theorem selGo_drop {vs : List Ex} {l : List Cl} {i k : Nat} (h : i < l.length) : selGo vs (l.drop i) k = if (pasParts l[i].pats vs []).2 = true then ((k : Int), l[i].body.put (pasParts l[i].pats vs []).1, 0) else selGo vs (l.drop (i + 1)) (k + 1) := by rw [List.drop_eq_getElem_cons h, selGo]
theorem clsErr_zero {n : Int} : ∀ {l : List Cl}, clsErr n l = 0 → ∀ c ∈ l, (c.pats.length : Int) = n ∧ (pasNames c.pats).Nodup
  | c :: l, h => by
    rw [clsErr] at h
    split at h
    · rename_i h1
      split at h
      · rename_i h2
        intro x hx
        rcases List.mem_cons.1 hx with rfl | hx
        · exact ⟨h1, h2⟩
        · exact clsErr_zero h x hx
      · cases h
    · cases h
  | [], _ => by simp
theorem sel_loop {H0 H : AH} {t : Nat → VV} {cls : List Cl} {vs : List Ex} {r5 : Nat} {R : Int × Ex × Int} (hN : clsSz cls ≤ 1099511627776) (hv : vs.length ≤ 1099511627776) (hvs : ∀ e ∈ vs, e.sz ≤ 1099511627776) (hp : ∀ c ∈ cls, c.pats.length = vs.length)
    (hR : R = selGo vs cls 0) (h1 : t 1 = exsV vs) (h5 : t 5 = ptrV r5 0) (h41 : t 41 = clsV cls) (h42 : t 42 = iV cls.length) (h43 : t 43 = iV 0)
    (k5 : H r5 = some (.cells 34 Zx 0)) (n5 : H0 r5 = none) (hs : SubH H0 H) :
    ACx ⟨Try.prog, 79, none⟩ (.loop b10_3) (inBlockA 2 (thenA (ACx ⟨Try.prog, 79, none⟩ c10_3 (slQ H0 R)) (slQ H0 R))) ⟨t, []⟩ H := by
  have hcl := sum_len clSz_pos cls
  have hclN : cls.length ≤ 1099511627776 := by unfold clsSz at hN; omega
  have hb : ∀ i (h : i < cls.length), clSz cls[i] ≤ 1099511627776 := fun i h => by have h1 := sum_mem (f := clSz) (List.getElem_mem h); unfold clsSz at hN; omega
  have hbp : ∀ i (h : i < cls.length) (l : List Bd), l.length ≤ 1099511627776 → PureF Try.prog 36 [exV cls[i].body, bdsV l] (exV (cls[i].body.put l)) := fun i h l hl => put_ok _ _ l (Nat.lt_succ_self _) (by have h1 := hb i h; unfold clSz at h1; omega) hl
  have hpp : ∀ i (h : i < cls.length) k (h' : k < cls[i].pats.length) (h'' : k < vs.length) (l : List Bd), l.length + cls[i].pats[k].sz ≤ 1099511627776 → PureF Try.prog 35 [paV cls[i].pats[k], exV vs[k], bdsV l] (prtV (cls[i].pats[k].parts vs[k] l)) := fun i h k h' h'' l hl =>
    parts_ok _ _ _ l (Nat.lt_succ_self _) (hvs _ (List.getElem_mem _)) hl
  have hpz : ∀ i (h : i < cls.length), pasSz cls[i].pats ≤ 1099511627776 ∧ cls[i].pats.length = vs.length := fun i h => ⟨by have h1 := hb i h; unfold clSz at h1; omega, hp _ (List.getElem_mem _)⟩
  clear hcl hN hb hvs hp
  refine acx_loop (fun _ _ _ h => h) (fun A H' => SubH H0 H' ∧ H' r5 = some (.cells 34 Zx 0) ∧ A.d = [] ∧ A.t 1 = exsV vs ∧ A.t 5 = ptrV r5 0 ∧ A.t 41 = clsV cls ∧ A.t 42 = iV cls.length ∧ ∃ i : Nat, i ≤ cls.length ∧ A.t 43 = iV i ∧ R = selGo vs (cls.drop i) i)
    (fun A _ => match A.t 43 with | .lit (.int _ i) => ((cls.length : Int) - i).toNat | _ => 0) ?_ ?_
  · exact ⟨hs, k5, rfl, h1, h5, h41, h42, 0, by omega, h43, hR⟩
  · clear hs k5 h1 h5 h41 h42 h43 hR
    rintro ⟨t, d⟩ H ⟨hs, k5, rfl, h1, h5, h41, h42, i, hi, h43, hR⟩
    dsimp only at h1 h5 h41 h42 h43
    replace hR := Hold.mk hR
    unfold b10_3
    (repeat' (first | (simp only [↓s_skip, ↓s_reg, ↓s_seq, ↓s_seqL, ↓s_cond, ↓s_block, ↓s_exit, ↓s_loop, ↓s_nil, ↓s_consN, ↓s_thenN, ↓s_thenE, ↓s_inE, ↓s_kret, ↓s_putS, ↓s_putN, ↓s_dOkS, ↓s_dOkN, ↓s_ev_t, ↓s_ev_c, ↓s_upd, ↓s_move, ↓s_assign, ↓s_load, ↓s_store, ↓s_bin, ↓s_alloc, ↓s_indexAddr, ↓s_bin_lss, ptrV, List.map_cons, List.map_nil, List.length_cons, List.length_nil, ite_true, ite_false, Nat.reduceEqDiff, Nat.reduceLT, Nat.reduceAdd, true_and, Nat.succ_ne_self, decide_true, decide_false, Int.natCast_nonneg, Int.toNat_natCast, AH.get, AH.set_set, setAt, List.all_cons, List.all_nil, Bool.and_self, eq_self, Nat.zero_add, and_self, ldV_t4, Int.ofNat_lt, on_int, on_str, cl_agg, on_slice, List.set_cons_zero, List.set_cons_succ, ↓n_alloc, n_allocS, Nat.le_refl, n_ldI, n_ixS, n_ixA1, n_ldC, n_ldB, n_stP, n_stA, cl_drop, ldT_93, szT_93, zeroT_93, elT_38, *]) | (refine condL_splitD ?_ ?_ <;> intro) | (refine allNew_intro fun zr zh => ?_; have zg := zh; (try simp only [AH.set_none] at zg); (try have zn_k5 := AH.ne_of k5 zh); (try have zn_k5 := AH.ne_of k5 zg.2); (try have zn_k5 := AH.ne_of k5 zg.2.2))))
    · have hlt : i < cls.length := by assumption
      obtain ⟨hpz1, hpz2⟩ := hpz i hlt
      have hpp' := hpp i hlt
      have hbp' := hbp i hlt
      have hg := selGo_drop (vs := vs) (k := i) hlt
      have hpn := pasSz_len cls[i].pats
      clear hpp hbp hpz
      refine acx_ghost (Ghost.slot (i := 11) (x' := bdsV []) (by simp only [s_upd, Nat.reduceEqDiff, if_true, if_false]; exact GhV.nil _)) ?_
      obtain ⟨X, hX⟩ : ∃ X, X = pasParts cls[i].pats vs [] := ⟨_, rfl⟩
      rw [← hX] at hg
      have hXl : X.1.length ≤ 1099511627776 := by have := pasParts_len cls[i].pats vs []; rw [hX]; simp only [List.length_nil] at this; omega
      have sH : SubH H0 (H.set zr (.cells 93 [pasV cls[i].pats, iV cls[i].body.op, sV cls[i].body.name, exsV cls[i].body.kids] 0)) := hs.of_set (hs.none zh)
      have q10 : (H.set zr (.cells 93 [pasV cls[i].pats, iV cls[i].body.op, sV cls[i].body.name, exsV cls[i].body.kids] 0)) zr = some (.cells 93 [pasV cls[i].pats, iV cls[i].body.op, sV cls[i].body.name, exsV cls[i].body.kids] 0) := AH.set_same _ _ _
      have q5 : (H.set zr (.cells 93 [pasV cls[i].pats, iV cls[i].body.op, sV cls[i].body.name, exsV cls[i].body.kids] 0)) r5 = some (.cells 34 Zx 0) := (by simp only [AH.get, *, if_false] <;> rfl)
      generalize H.set zr (.cells 93 [pasV cls[i].pats, iV cls[i].body.op, sV cls[i].body.name, exsV cls[i].body.kids] 0) = Hy at *
      refine acx_loop (fun _ _ _ h => h) (fun A H' => H' = Hy ∧ A.d = [] ∧ A.t 1 = exsV vs ∧ A.t 5 = ptrV r5 0 ∧ A.t 9 = iV i ∧ A.t 10 = ptrV zr 0 ∧ A.t 41 = clsV cls ∧ A.t 42 = iV cls.length ∧ A.t 43 = iV i ∧ ∃ (k : Nat) (m : List Bd) (b : Bool), k ≤ vs.length ∧ A.t 13 = iV k ∧ A.t 11 = bdsV m ∧ A.t 12 = bV b ∧ (b = true → m.length + pasSz (cls[i].pats.drop k) ≤ 1099511627776) ∧ X = if b = true then pasParts (cls[i].pats.drop k) (vs.drop k) m else (m, false))
        (fun A _ => match A.t 13 with | .lit (.int _ i) => ((vs.length : Int) - i).toNat | _ => 0) ?_ ?_
      · exact ⟨rfl, rfl, (by simp only [s_upd, Nat.reduceEqDiff, if_false, *] <;> rfl), (by simp only [s_upd, Nat.reduceEqDiff, if_false, *] <;> rfl), (by simp only [s_upd, Nat.reduceEqDiff, if_true, if_false, *] <;> rfl), (by simp only [s_upd, Nat.reduceEqDiff, if_true, if_false, *] <;> rfl), (by simp only [s_upd, Nat.reduceEqDiff, if_false, *] <;> rfl), (by simp only [s_upd, Nat.reduceEqDiff, if_false, *] <;> rfl), (by simp only [s_upd, Nat.reduceEqDiff, if_false, *] <;> rfl), 0, [], true, by omega, (by simp only [s_upd, Nat.reduceEqDiff, if_true, if_false, *] <;> rfl), by simp only [s_upd, Nat.reduceEqDiff, if_true, if_false], (by simp only [s_upd, Nat.reduceEqDiff, if_true, if_false, *] <;> rfl), fun _ => by simpa using hpz1, hX⟩
      · clear h1 h5 h41 h42 h43 hX zh zg zn_k5 k5 hs
        rintro ⟨t, d⟩ H' ⟨rfl, rfl, h1, h5, h9, h10, h41, h42, h43, k, m, b, hk, h13, h11, h12, hb, hX⟩
        dsimp only at h1 h5 h9 h10 h41 h42 h43 h13 h11 h12
        have fin : ∀ (t : Nat → VV), t 1 = exsV vs → t 5 = ptrV r5 0 → t 9 = iV i → t 10 = ptrV zr 0 → t 41 = clsV cls → t 42 = iV cls.length → t 43 = iV i → t 11 = bdsV X.1 → t 12 = bV X.2 → True := fun _ _ _ _ _ _ _ _ _ _ => trivial
        clear fin
        cases b with
        | false =>
          simp only [Bool.false_eq_true, if_false] at hX
          subst hX
          clear hb
          unfold b10_2
          have hg2 : R = selGo vs (cls.drop (i + 1)) (i + 1) := by rw [hR.out, hg]; simp
          replace hg2 := Hold.mk hg2
          clear hg hR
          by_cases hkl : k < vs.length
          · (repeat' (first | (simp only [↓s_reg, ↓s_seq, ↓s_cond, ↓s_condF, ↓s_exit, ↓s_nil, ↓s_consN, ↓s_consG, ↓s_guardTT, ↓s_thenN, ↓s_thenE, ↓s_inE, ↓s_kret, ↓s_putS, ↓s_dOkS, ↓s_ev_t, ↓s_ev_c, ↓s_upd, ↓s_move, ↓s_isBool, ↓s_pickA, ↓s_pick, ↓s_bin, ↓s_callB, ↓s_len, ↓s_bin_lss, ptrV, intV, List.map_cons, List.map_nil, ite_true, ite_false, Nat.reduceEqDiff, Nat.reduceLT, ne_eq, not_false_eq_true, true_and, Nat.succ_ne_self, decide_true, reduceCtorEq, eq_self, Int.ofNat_lt, n_lenS, elT_32, *]) | (refine acx_go rfl (fun _ _ _ h => h) ?_)))
            unfold c10_1
            (repeat' (first | (simp only [↓s_skip, ↓s_reg, ↓s_seq, ↓s_cond, ↓s_condF, ↓s_nil, ↓s_consN, ↓s_thenN, ↓s_inN, ↓s_putS, ↓s_dOkS, ↓s_ev_t, ↓s_upd, ↓s_move, ite_true, ite_false, Nat.reduceEqDiff, Nat.reduceLT, true_and, eq_self, *]) | (refine acx_go rfl (fun _ _ _ h => h) ?_)))
            unfold c10_2
            (repeat' (first | (simp only [↓s_reg, ↓s_nil, ↓s_consN, ↓s_thenN, ↓s_kret, ↓s_putS, ↓s_dOkS, ↓s_ev_t, ↓s_ev_c, ↓s_upd, ↓s_move, ↓s_bin, ↓s_bin_add, ptrV, ite_true, ite_false, Nat.reduceEqDiff, Nat.reduceLT, true_and, eq_self, *]) | (with_reducible refine And.intro ?_ ?_)))
            all_goals rw [wrap_ok (n := (i : Int) + 1) (by omega) (by omega)]
            · exact ⟨i + 1, by omega, rfl, hg2.out⟩
            · omega
          · (repeat' (first | (simp only [↓s_reg, ↓s_seq, ↓s_cond, ↓s_condF, ↓s_exit, ↓s_nil, ↓s_consN, ↓s_consG, ↓s_guardFT, ↓s_thenN, ↓s_thenE, ↓s_inE, ↓s_kret, ↓s_putS, ↓s_dOkS, ↓s_ev_t, ↓s_ev_c, ↓s_upd, ↓s_move, ↓s_isBool, ↓s_pickA, ↓s_pick, ↓s_bin, ↓s_callB, ↓s_len, ↓s_bin_lss, ptrV, intV, List.map_cons, List.map_nil, ite_true, ite_false, Nat.reduceEqDiff, Nat.reduceLT, ne_eq, not_false_eq_true, true_and, Bool.false_eq_true, Nat.succ_ne_self, decide_false, reduceCtorEq, callOk, undefV, eq_self, Int.ofNat_lt, n_lenS, undef, elT_32, *]) | (refine acx_go rfl (fun _ _ _ h => h) ?_)))
            unfold c10_1
            (repeat' (first | (simp only [↓s_skip, ↓s_reg, ↓s_seq, ↓s_cond, ↓s_condF, ↓s_nil, ↓s_consN, ↓s_thenN, ↓s_inN, ↓s_putS, ↓s_dOkS, ↓s_ev_t, ↓s_upd, ↓s_move, ite_true, ite_false, Nat.reduceEqDiff, Nat.reduceLT, true_and, eq_self, *]) | (refine acx_go rfl (fun _ _ _ h => h) ?_)))
            unfold c10_2
            (repeat' (first | (simp only [↓s_reg, ↓s_nil, ↓s_consN, ↓s_thenN, ↓s_kret, ↓s_putS, ↓s_dOkS, ↓s_ev_t, ↓s_ev_c, ↓s_upd, ↓s_move, ↓s_bin, ↓s_bin_add, ptrV, ite_true, ite_false, Nat.reduceEqDiff, Nat.reduceLT, true_and, eq_self, *]) | (with_reducible refine And.intro ?_ ?_)))
            all_goals rw [wrap_ok (n := (i : Int) + 1) (by omega) (by omega)]
            · exact ⟨i + 1, by omega, rfl, hg2.out⟩
            · omega
        | true =>
          have hml := hb rfl
          simp only [if_true] at hX
          clear hb
          unfold b10_2
          by_cases hkl : k < vs.length
          · have hkp : k < cls[i].pats.length := by omega
            rw [pasParts_drop hkp hkl] at hX
            have hd := pasSz_drop hkp
            have hi1 : (k : Int) < (vs.length : Int) := by omega
            have hi2 : (k : Int) < (cls[i].pats.length : Int) := by omega
            have hc := hpp' k hkp hkl m (by omega)
            have hpl := Pa.parts_len cls[i].pats[k] vs[k] m
            generalize cls[i].pats[k].parts vs[k] m = r at *
            obtain ⟨m', b'⟩ := r
            simp only at hpl
            have hnew := Hold.mk (show m'.length + pasSz (cls[i].pats.drop (k + 1)) ≤ 1099511627776 by omega)
            replace hX := Hold.mk hX
            replace hg := Hold.mk hg
            clear hd hml hpp' hpz1 hpz2 hpn
            (repeat' (first | (simp only [↓s_skip, ↓s_reg, ↓s_seq, ↓s_cond, ↓s_condT, ↓s_block, ↓s_dreg, ↓s_nil, ↓s_consN, ↓s_consG, ↓s_guardTT, ↓s_thenN, ↓s_inN, ↓s_kret, ↓s_putS, ↓s_dOkS, ↓s_ev_t, ↓s_ev_c, ↓s_ev_f, ↓s_upd, ↓s_move, ↓s_assign, ↓s_isBool, ↓s_pickA, ↓s_pick, ↓s_load, ↓s_bin, ↓s_fieldAddr, ↓s_indexAddr, ↓s_extract, ↓s_callB, ↓s_callV, ↓s_callL, ↓s_len, ↓s_bin_lss, ↓s_bin_add, vcExtract, ptrV, intV, List.map_cons, List.map_nil, ite_true, ite_false, Nat.reduceEqDiff, Nat.reduceLT, ne_eq, not_false_eq_true, true_and, Nat.succ_ne_self, decide_true, reduceCtorEq, Int.natCast_nonneg, Int.toNat_natCast, ↓s_plFin, ↓s_plTkN, ↓s_plOneN, eq_self, Nat.add_zero, List.drop, and_self, List.getElem?_cons_zero, List.getElem?_cons_succ, ldV_f, ldV_t3, n_ldI, n_ldP, n_faP, n_ixS, n_ixA1, n_lenS, n_ldA, n_ldC, n_ldB, n_faA, ↓s_plK, ↓s_oneK, pa_drop, ex_drop, flT_93_0, ldT_55, ldT_57, ldT_34, elT_55, elT_32, en_35, *]) | (refine acx_dreg mixed (fun _ _ _ _ e h => ⟨e.trans h.1, h.2⟩) _ (SubH.refl _) ?_) | (exact SubH.refl _) | (refine PureF.use (hc) ?_) | (with_reducible refine And.intro ?_ ?_)))
            all_goals rw [wrap_ok (n := (k : Int) + 1) (by omega) (by omega)]
            · exact ⟨k + 1, m', b', by omega, rfl, rfl, rfl, fun _ => hnew.out, by rw [hX.out]; cases b' <;> rfl⟩
            · omega
          · rw [List.drop_eq_nil_of_le (by omega)] at hX
            simp only [pasParts] at hX
            subst hX
            have hg2 : R = ((i : Int), cls[i].body.put m, 0) := by rw [hR.out, hg]; simp
            have hbc := hbp' m hXl
            have hg2 := Hold.mk hg2
            clear hg hR
            (repeat' (first | (simp only [↓s_reg, ↓s_seq, ↓s_cond, ↓s_condF, ↓s_exit, ↓s_nil, ↓s_consN, ↓s_consG, ↓s_guardFT, ↓s_thenN, ↓s_thenE, ↓s_inE, ↓s_kret, ↓s_putS, ↓s_dOkS, ↓s_ev_t, ↓s_ev_c, ↓s_upd, ↓s_move, ↓s_isBool, ↓s_pickA, ↓s_pick, ↓s_bin, ↓s_callB, ↓s_len, ↓s_bin_lss, ptrV, intV, List.map_cons, List.map_nil, ite_true, ite_false, Nat.reduceEqDiff, Nat.reduceLT, ne_eq, not_false_eq_true, true_and, Bool.false_eq_true, Nat.succ_ne_self, decide_false, reduceCtorEq, callOk, undefV, eq_self, Int.ofNat_lt, n_lenS, undef, elT_32, *]) | (refine acx_go rfl (fun _ _ _ h => h) ?_)))
            unfold c10_1
            (repeat' (first | (simp only [↓s_reg, ↓s_seq, ↓s_cond, ↓s_condT, ↓s_ret, ↓s_nil, ↓s_consN, ↓s_thenN, ↓s_thenR, ↓s_inR, ↓s_kret, ↓s_putS, ↓s_putN, ↓s_dOkS, ↓s_dOkN, ↓s_ev_t, ↓s_ev_c, ↓s_ev_f, ↓s_upd, ↓s_move, ↓s_assign, ↓s_load, ↓s_store, ↓s_fieldAddr, ↓s_callV, ↓s_callL, ptrV, List.map_cons, List.map_nil, List.length_cons, List.length_nil, ite_true, ite_false, Nat.reduceEqDiff, Nat.reduceLT, Nat.reduceAdd, ne_eq, not_false_eq_true, true_and, Nat.succ_ne_self, reduceCtorEq, setAt, List.all_cons, List.all_nil, Bool.and_self, eq_self, Nat.zero_add, List.drop, ldV_t3, on_int, on_str, cl_agg, on_slice, List.set_cons_zero, List.set_cons_succ, Nat.le_refl, n_ldP, n_faP, n_ldA, n_ldB, n_faA, n_stP, n_stA, Zx, flT_93_1, ldT_34, szT_34, en_36, *]) | (refine PureF.use (hbc) ?_)))
            exact sl_ret (by simp only [s_upd, Nat.reduceEqDiff, if_true, if_false, *] <;> rfl) (by simp only [s_upd, Nat.reduceEqDiff, if_false, *] <;> rfl) (by simp only [s_upd, Nat.reduceEqDiff, if_true, if_false, *] <;> rfl) (AH.set_same _ _ _) (GhV.forget (sH.of_set n5) _)
    · have hie : i = cls.length := by omega
      subst hie
      have hg2 : R = (0, zEx, 420) := by rw [hR.out, List.drop_eq_nil_of_le (by omega)]; rfl
      rw [hg2]
      refine acx_go rfl (fun _ _ _ h => h) ?_
      clear hR hg2
      unfold c10_3
      (repeat' (first | (simp only [↓s_reg, ↓s_seq, ↓s_ret, ↓s_nil, ↓s_consN, ↓s_thenN, ↓s_kret, ↓s_putS, ↓s_putN, ↓s_dOkS, ↓s_dOkN, ↓s_ev_t, ↓s_ev_c, ↓s_upd, ↓s_assign, ↓s_store, ↓s_build, ptrV, List.map_cons, List.map_nil, List.length_cons, List.length_nil, ite_true, ite_false, Nat.reduceEqDiff, Nat.reduceLT, Nat.reduceAdd, true_and, Nat.succ_ne_self, vcBuild, fillV, setAt, List.all_cons, List.all_nil, Bool.and_self, eq_self, Nat.zero_add, on_int, on_str, on_sl, cl_agg, List.set_cons_zero, List.set_cons_succ, Nat.le_refl, n_stP, n_stA, Zx, szT_34, stT_34, *])))
      exact sl_ret (by simp only [s_upd, Nat.reduceEqDiff, if_true, if_false, *] <;> rfl) (by simp only [s_upd, Nat.reduceEqDiff, if_false, *] <;> rfl) (by simp only [s_upd, Nat.reduceEqDiff, if_true, if_false, *] <;> rfl) (AH.set_same _ _ _) (zx_gh (hs.of_set n5))
theorem select_ok (f : Fu) (vs : List Ex) (hf : fuSz f ≤ 1099511627776) (hv : vs.length ≤ 1099511627776) (hvs : ∀ e ∈ vs, e.sz ≤ 1099511627776) (hn : ∀ c ∈ f.cls, ∀ s ∈ pasNames c.pats, s.size ≤ maxLen) :
    PureF Try.prog 10 [fuV f, exsV vs] (selV (selectF f vs)) := by
  refine GivesF.pure fun H0 => ?_
  show VCalls Try.prog _ _ H0 _
  refine vcalls_intro fd10 (by simp) ?_
  show vc _ _ (slQ H0 (selectF f vs)) _ _
  obtain ⟨R, hR⟩ : ∃ R, R = selectF f vs := ⟨_, rfl⟩
  rw [← hR]
  have hN : clsSz f.cls ≤ 1099511627776 := by unfold fuSz at hf; omega
  have hcl := sum_len clSz_pos f.cls
  have hclN : f.cls.length ≤ 1099511627776 := by unfold clsSz at hN; omega
  have hb : ∀ i (h : i < f.cls.length), pasSz f.cls[i].pats ≤ 1099511627776 := fun i h => by have h1 := sum_mem (f := clSz) (List.getElem_mem h); have h2 : clSz f.cls[i] = 1 + pasSz f.cls[i].pats + f.cls[i].body.sz := rfl; unfold clsSz at hN; omega
  have hnm : ∀ i (h : i < f.cls.length), PureF Try.prog 34 [pasV f.cls[i].pats] (strsV (pasNames f.cls[i].pats)) := fun i h => names_ok _ _ (Nat.lt_succ_self _) (hb i h)
  have htw : ∀ i (h : i < f.cls.length), PureF Try.prog 33 [strsV (pasNames f.cls[i].pats)] (boolV (!decide (pasNames f.cls[i].pats).Nodup)) := fun i h => twice_ok _ (by have h1 := pasNames_len f.cls[i].pats; have h2 := hb i h; omega) (hn _ (List.getElem_mem h))
  clear hcl hb hn
  unfold c10
  by_cases ha : (vs.length : Int) = f.arity
  · have hR2 : R = if clsErr f.arity f.cls = 0 then selGo vs f.cls 0 else (0, zEx, clsErr f.arity f.cls) := by rw [hR, selectF, if_pos ha]
    clear hR
    replace hR2 := Hold.mk hR2
    (repeat' (first | (simp only [↓s_skip, ↓s_reg, ↓s_seq, ↓s_seqL, ↓s_cond, ↓s_condF, ↓s_block, ↓s_loop, ↓s_nil, ↓s_consN, ↓s_thenN, ↓s_kret, ↓s_putS, ↓s_dOkS, ↓s_ev_t, ↓s_ev_c, ↓s_upd, ↓s_move, ↓s_assign, ↓s_load, ↓s_bin, ↓s_alloc, ↓s_box, ↓s_fieldAddr, ↓s_callB, ↓s_len, ↓s_bin_neq, ptrV, intV, List.map_cons, List.map_nil, List.getD_cons_zero, List.getD_cons_succ, List.getD_nil, ite_true, ite_false, Nat.reduceEqDiff, Nat.reduceLT, ne_eq, not_false_eq_true, true_and, Nat.succ_ne_self, decide_true, Bool.not_true, reduceCtorEq, undefV, AH.get, eq_self, Nat.zero_add, List.drop, ldV_f, cl_agg, ↓n_alloc, n_allocS, ↓n_box, n_ldP, n_faP, n_lenS, n_ldA, n_ldB, n_faA, undef, flT_40_1, flT_40_2, ldT_3, ldT_38, zeroT_34, elT_38, elT_32, *]) | (refine allNew_intro fun zr zh => ?_; have zg := zh; (try simp only [AH.set_none] at zg))))
    rename_i r2 n2 n2'
    obtain ⟨z1, z2⟩ := zg
    refine acx_loop (fun _ _ _ h => h) (fun A H => SubH H0 H ∧ H r2 = some (.cells 40 [sV f.name, iV f.arity, clsV f.cls] 0) ∧ H zr = some (.cells 34 Zx 0) ∧ A.d = [] ∧ A.t 1 = exsV vs ∧ A.t 2 = ptrV r2 0 ∧ A.t 5 = ptrV zr 0 ∧ A.t 21 = clsV f.cls ∧ A.t 22 = iV f.cls.length ∧ ∃ i : Nat, i ≤ f.cls.length ∧ A.t 23 = iV i ∧ clsErr f.arity f.cls = clsErr f.arity (f.cls.drop i))
      (fun A _ => match A.t 23 with | .lit (.int _ i) => ((f.cls.length : Int) - i).toNat | _ => 0) ?_ ?_
    · exact ⟨(SubH.new n2).of_set z2, (by simp only [AH.get, *, if_true, if_false] <;> rfl), AH.set_same _ _ _, rfl, (by simp only [s_upd, Nat.reduceEqDiff, if_false, *] <;> rfl), (by simp only [s_upd, Nat.reduceEqDiff, if_true, if_false, *] <;> rfl), (by simp only [s_upd, Nat.reduceEqDiff, if_true, if_false, *] <;> rfl), (by simp only [s_upd, Nat.reduceEqDiff, if_true, if_false, *] <;> rfl), (by simp only [s_upd, Nat.reduceEqDiff, if_true, if_false, *] <;> rfl), 0, by omega, (by simp only [s_upd, Nat.reduceEqDiff, if_true, if_false, *] <;> rfl), rfl⟩
    · clear zh n2'
      rintro ⟨t, d⟩ H ⟨hs, k2, k5, rfl, h1, h2, h5, h21, h22, i, hi, h23, hE⟩
      dsimp only at h1 h2 h5 h21 h22 h23
      have hE' := fun h : i < f.cls.length => hE.trans (clsErr_drop h)
      replace hE := Hold.mk hE
      replace hE' := Hold.mk hE'
      unfold b10_1
      (repeat' (first | (simp only [↓s_skip, ↓s_reg, ↓s_seq, ↓s_cond, ↓s_block, ↓s_exit, ↓s_ret, ↓s_nil, ↓s_consN, ↓s_thenN, ↓s_thenE, ↓s_thenR, ↓s_inN, ↓s_inE, ↓s_inR, ↓s_kret, ↓s_putS, ↓s_putN, ↓s_dOkS, ↓s_dOkN, ↓s_ev_t, ↓s_ev_c, ↓s_ev_f, ↓s_upd, ↓s_move, ↓s_assign, ↓s_load, ↓s_store, ↓s_bin, ↓s_alloc, ↓s_build, ↓s_fieldAddr, ↓s_indexAddr, ↓s_callB, ↓s_callV, ↓s_callL, ↓s_len, ↓s_bin_lss, ↓s_bin_neq, ↓s_bin_add, ptrV, intV, boolV, List.map_cons, List.map_nil, List.length_cons, List.length_nil, ite_true, ite_false, Nat.reduceEqDiff, Nat.reduceLT, Nat.reduceAdd, ne_eq, not_false_eq_true, true_and, Nat.succ_ne_self, decide_true, decide_false, reduceCtorEq, Int.natCast_nonneg, Int.toNat_natCast, AH.get, AH.set_set, vcBuild, fillV, setAt, List.all_cons, List.all_nil, Bool.and_self, eq_self, Nat.zero_add, Nat.add_zero, List.drop, and_self, ldV_f, ldV_t4, Int.ofNat_lt, on_int, on_str, on_sl, cl_agg, on_slice, List.set_cons_zero, List.set_cons_succ, ↓n_alloc, n_allocS, Nat.le_refl, n_ldI, n_ldP, n_faP, n_ixS, n_ixA1, n_lenS, n_ldA, n_ldC, n_ldB, n_faA, n_stP, n_stA, cl_drop, Zx, flT_93_0, flT_40_1, ldT_93, ldT_55, ldT_3, szT_93, szT_34, stT_34, zeroT_93, elT_38, elT_55, en_34, en_33, *]) | (refine condL_splitD ?_ ?_ <;> intro) | (refine condL_split ?_ ?_ <;> intro) | (refine allNew_intro fun zr zh => ?_; have zg := zh; (try simp only [AH.set_none] at zg); (try have zn_k2 := AH.ne_of k2 zh); (try have zn_k2 := AH.ne_of k2 zg.2); (try have zn_k2 := AH.ne_of k2 zg.2.2); (try have zn_k5 := AH.ne_of k5 zh); (try have zn_k5 := AH.ne_of k5 zg.2); (try have zn_k5 := AH.ne_of k5 zg.2.2)) | (refine SubH.of_set ?_ ?_) | (exact SubH.none (by assumption) (by assumption)) | (refine PureF.use (hnm _ (by assumption)) ?_) | (refine PureF.use (htw _ (by assumption)) ?_) | (with_reducible refine And.intro ?_ ?_)))
      · have hlt : i < f.cls.length := by assumption
        have hp : ¬ (f.cls[i].pats.length : Int) = f.arity := by simpa using (by assumption : (!decide ((f.cls[i].pats.length : Int) = f.arity)) = true)
        have he : clsErr f.arity f.cls = 5 := by rw [hE'.out hlt, if_neg hp]
        rw [hR2.out, he, if_neg (by omega)]
        exact sl_ret (by simp only [s_upd, Nat.reduceEqDiff, if_true, if_false, *] <;> rfl) (by simp only [s_upd, Nat.reduceEqDiff, if_false, *] <;> rfl) (by simp only [s_upd, Nat.reduceEqDiff, if_true, if_false, *] <;> rfl) (AH.set_same _ _ _) (zx_gh ((hs.of_set (hs.none (by assumption))).of_set z2))
      · have hlt : i < f.cls.length := by assumption
        have hp : (f.cls[i].pats.length : Int) = f.arity := by simpa using (by assumption : (!decide ((f.cls[i].pats.length : Int) = f.arity)) = false)
        have hd : ¬ (pasNames f.cls[i].pats).Nodup := by simpa using (by assumption : (!decide (pasNames f.cls[i].pats).Nodup) = true)
        have he : clsErr f.arity f.cls = 10 := by rw [hE'.out hlt, if_pos hp, if_neg hd]
        rw [hR2.out, he, if_neg (by omega)]
        exact sl_ret (by simp only [s_upd, Nat.reduceEqDiff, if_true, if_false, *] <;> rfl) (by simp only [s_upd, Nat.reduceEqDiff, if_false, *] <;> rfl) (by simp only [s_upd, Nat.reduceEqDiff, if_true, if_false, *] <;> rfl) (AH.set_same _ _ _) (zx_gh ((hs.of_set (hs.none (by assumption))).of_set z2))
      · have hlt : i < f.cls.length := by assumption
        have hp : (f.cls[i].pats.length : Int) = f.arity := by simpa using (by assumption : (!decide ((f.cls[i].pats.length : Int) = f.arity)) = false)
        have hd : (pasNames f.cls[i].pats).Nodup := by simpa using (by assumption : (!decide (pasNames f.cls[i].pats).Nodup) = false)
        rw [wrap_ok (n := (i : Int) + 1) (by omega) (by omega)]
        exact ⟨i + 1, by omega, rfl, by rw [hE'.out hlt, if_pos hp, if_pos hd]⟩
      · rw [wrap_ok (n := (i : Int) + 1) (by omega) (by omega)]
        omega
      · have he : clsErr f.arity f.cls = 0 := by rw [hE.out, List.drop_eq_nil_of_le (by omega)]; rfl
        have hR3 : R = selGo vs f.cls 0 := by rw [hR2.out, if_pos he]
        clear hE hE' hR2 hnm htw hf
        refine acx_go rfl (fun _ _ _ h => h) ?_
        unfold c10_4
        (repeat' (first | (simp only [↓s_reg, ↓s_seq, ↓s_seqL, ↓s_block, ↓s_loop, ↓s_nil, ↓s_consN, ↓s_thenN, ↓s_kret, ↓s_putS, ↓s_dOkS, ↓s_ev_t, ↓s_ev_c, ↓s_upd, ↓s_move, ↓s_load, ↓s_fieldAddr, ↓s_callB, ↓s_len, ptrV, intV, List.map_cons, List.map_nil, ite_true, ite_false, Nat.reduceEqDiff, Nat.reduceLT, ne_eq, not_false_eq_true, true_and, Nat.succ_ne_self, reduceCtorEq, eq_self, Nat.zero_add, List.drop, ldV_f, n_ldP, n_faP, n_lenS, n_ldA, n_ldB, n_faA, flT_40_2, ldT_38, elT_38, *])))
        refine sel_loop hN hv hvs (fun c hc => ?_) rfl (by simp only [s_upd, Nat.reduceEqDiff, if_false, *] <;> rfl) (by simp only [s_upd, Nat.reduceEqDiff, if_false, *] <;> rfl) (by simp only [s_upd, Nat.reduceEqDiff, if_true, if_false, *] <;> rfl) (by simp only [s_upd, Nat.reduceEqDiff, if_true, if_false, *] <;> rfl) (by simp only [s_upd, Nat.reduceEqDiff, if_true, if_false, *] <;> rfl) (by assumption) z2 hs
        have := (clsErr_zero he c hc).1
        omega
  · have hR2 : R = (0, zEx, 5) := by rw [hR, selectF, if_neg ha]
    clear hR
    rw [hR2]
    clear hR2
    (repeat' (first | (simp only [↓s_reg, ↓s_seq, ↓s_cond, ↓s_condT, ↓s_ret, ↓s_nil, ↓s_consN, ↓s_thenN, ↓s_thenR, ↓s_kret, ↓s_putS, ↓s_putN, ↓s_dOkS, ↓s_dOkN, ↓s_ev_t, ↓s_ev_c, ↓s_upd, ↓s_move, ↓s_assign, ↓s_load, ↓s_store, ↓s_bin, ↓s_alloc, ↓s_box, ↓s_build, ↓s_fieldAddr, ↓s_callB, ↓s_len, ↓s_bin_neq, ptrV, intV, List.map_cons, List.map_nil, List.length_cons, List.length_nil, List.getD_cons_zero, List.getD_cons_succ, List.getD_nil, ite_true, ite_false, Nat.reduceEqDiff, Nat.reduceLT, Nat.reduceAdd, ne_eq, not_false_eq_true, true_and, Nat.succ_ne_self, decide_false, Bool.not_false, reduceCtorEq, undefV, AH.get, AH.set_set, vcBuild, fillV, setAt, List.all_cons, List.all_nil, Bool.and_self, eq_self, Nat.zero_add, List.drop, ldV_f, on_int, on_str, on_sl, cl_agg, List.set_cons_zero, List.set_cons_succ, ↓n_alloc, n_allocS, ↓n_box, Nat.le_refl, n_ldP, n_faP, n_lenS, n_ldA, n_ldB, n_faA, n_stP, n_stA, undef, flT_40_1, ldT_3, szT_34, stT_34, zeroT_34, elT_32, *]) | (refine allNew_intro fun zr zh => ?_; have zg := zh; (try simp only [AH.set_none] at zg))))
    rename_i r2 n2 n2'
    exact sl_ret (by simp only [s_upd, Nat.reduceEqDiff, if_true, if_false, *] <;> rfl) (by simp only [s_upd, Nat.reduceEqDiff, if_true, if_false, *] <;> rfl) (by simp only [s_upd, Nat.reduceEqDiff, if_true, if_false, *] <;> rfl) (AH.set_same _ _ _) (zx_gh ((SubH.new n2).of_set zg.2))
end Go.PV.Ytglpmlbbaedbiaa
end
section
/- EvaluateClauses: what its program computes. -/
set_option linter.unusedVariables false
set_option linter.unusedSimpArgs false
set_option maxRecDepth 20000
set_option maxHeartbeats 4000000
namespace Go.PV.Ytglpmlbbaedbiaa
open Go Go.Proofs
theorem selGo_at {vs : List Ex} : ∀ {l : List Cl} {j : Nat} (i : Nat) (h : j < l.length), (pasParts l[j].pats vs []).2 = true → (∀ k (h' : k < l.length), k < j → (pasParts l[k].pats vs []).2 = false) →
    selGo vs l i = (((i + j : Nat) : Int), l[j].body.put (pasParts l[j].pats vs []).1, 0)
  | c :: l, 0, i, h, h1, h2 => by
    rw [selGo, if_pos (by simpa using h1)]; rfl
  | c :: l, j + 1, i, h, h1, h2 => by
    have h0 := h2 0 (by simp) (by omega)
    rw [selGo, if_neg (by simpa using h0), selGo_at (i + 1) (j := j) (by simpa using h) (by simpa using h1) (fun k h' hk => h2 (k + 1) (Nat.succ_lt_succ h') (by omega))]
    simp; omega
theorem selGo_cases {vs : List Ex} : ∀ (l : List Cl) (i : Nat), (∃ j, ∃ h : j < l.length, (pasParts l[j].pats vs []).2 = true ∧ (∀ k (h' : k < l.length), k < j → (pasParts l[k].pats vs []).2 = false)) ∨ selGo vs l i = (0, zEx, 420)
  | [], i => .inr rfl
  | c :: l, i => by
    by_cases h : (pasParts c.pats vs []).2 = true
    · exact .inl ⟨0, by simp, by simpa using h, fun k _ hk => by omega⟩
    · rcases selGo_cases l (i + 1) with ⟨j, hj, h1, h2⟩ | h1
      · refine .inl ⟨j + 1, by simpa using hj, by simpa using h1, fun k h' hk => ?_⟩
        cases k with
        | zero => simpa using h
        | succ k => simpa using h2 k (by simpa using h') (by omega)
      · right; rw [selGo, if_neg h, h1]
theorem clsErr_of {n : Int} : ∀ {l : List Cl}, (∀ c ∈ l, (c.pats.length : Int) = n ∧ (pasNames c.pats).Nodup) → clsErr n l = 0
  | [], _ => rfl
  | c :: l, h => by
    have h1 := h c (by simp)
    rw [clsErr, if_pos h1.1, if_pos h1.2]
    exact clsErr_of fun x hx => h x (by simp [hx])
/-- A clause behind the one that counts is taken away. -/
theorem select_cut {f : Fu} {vs : List Ex} {k cut : Nat} {e : Ex} (h : selectF f vs = ((k : Int), e, 0)) (hk : k < cut) :
    selectF ⟨f.name, f.arity, f.cls.take cut ++ f.cls.drop (cut + 1)⟩ vs = ((k : Int), e, 0) := by
  unfold selectF at h ⊢
  split at h
  · rename_i ha
    split at h
    · rename_i he
      have hall := clsErr_zero he
      have hall' : ∀ c ∈ f.cls.take cut ++ f.cls.drop (cut + 1), (c.pats.length : Int) = f.arity ∧ (pasNames c.pats).Nodup := fun c hc => hall c (by
        rcases List.mem_append.1 hc with hc | hc
        · exact List.mem_of_mem_take hc
        · exact List.mem_of_mem_drop hc)
      rw [if_pos ha, if_pos (clsErr_of hall')]
      rcases selGo_cases (vs := vs) f.cls 0 with ⟨j, hj, h1, h2⟩ | h1
      · rw [selGo_at 0 hj h1 h2] at h
        simp only [Prod.mk.injEq, Nat.zero_add] at h
        obtain ⟨hjk, he, _⟩ := h
        have hjk : j = k := by omega
        subst hjk
        have hlt : j < (f.cls.take cut ++ f.cls.drop (cut + 1)).length := by rw [List.length_append, List.length_take]; omega
        have hget : ∀ i (hi : i ≤ j) (h' : i < (f.cls.take cut ++ f.cls.drop (cut + 1)).length), (f.cls.take cut ++ f.cls.drop (cut + 1))[i] = f.cls[i]'(by omega) := fun i hi h' => by
          rw [List.getElem_append_left (by rw [List.length_take]; omega), List.getElem_take]
        show selGo vs (f.cls.take cut ++ f.cls.drop (cut + 1)) 0 = _
        rw [selGo_at 0 hlt (by rw [hget j (Nat.le_refl _)]; exact h1) (fun k h' hk' => by rw [hget k (by omega)]; exact h2 k _ hk'), hget j (Nat.le_refl _), he, Nat.zero_add]
      · rw [h1] at h
        simp at h
    · simp only [Prod.mk.injEq] at h
      rename_i hne
      exact absurd h.2.2 hne
  · simp at h
theorem selectF_idx {f : Fu} {vs : List Ex} {k : Int} {e : Ex} (h : selectF f vs = (k, e, 0)) : ∃ j : Nat, k = j ∧ j < f.cls.length := by
  unfold selectF at h
  split at h
  · split at h
    · rcases selGo_cases (vs := vs) f.cls 0 with ⟨j, hj, h1, h2⟩ | h1
      · rw [selGo_at 0 hj h1 h2] at h
        simp only [Prod.mk.injEq, Nat.zero_add] at h
        exact ⟨j, h.1.symm, hj⟩
      · rw [h1] at h; simp at h
    · rename_i hne
      simp only [Prod.mk.injEq] at h
      exact absurd h.2.2 hne
  · simp at h
/-! ### How large what is put together is -/
theorem lastB_mem {l : List Bd} {n : ByteArray} {e : Ex} (h : lastB l n = some e) : ∃ b ∈ l, b.2 = e := by
  unfold lastB at h
  rw [Option.map_eq_some_iff] at h
  obtain ⟨b, hb, rfl⟩ := h
  exact ⟨b, List.mem_reverse.1 (List.mem_of_find?_eq_some hb), rfl⟩
mutual
theorem Ex.put_sz {M : Nat} (hM : 1 ≤ M) : ∀ (e : Ex) (l : List Bd), (∀ b ∈ l, b.2.sz ≤ M) → (e.put l).sz ≤ e.sz * M
  | .mk op n ks, l, h => by
    have hx : (Ex.mk op n (exsPut ks (if op = 5 then l.filter (fun b => !decide (b.1 = n)) else l))).sz ≤ (Ex.mk op n ks).sz * M := by
      rw [Ex.sz, Ex.sz, Nat.add_mul, Nat.one_mul]
      have := exsPut_sz hM ks (if op = 5 then l.filter (fun b => !decide (b.1 = n)) else l) (fun b hb => by
        split at hb
        · exact h b (List.mem_filter.1 hb).1
        · exact h b hb)
      omega
    rw [Ex.put]
    split
    · rename_i e he
      split at he
      · obtain ⟨b, hb, rfl⟩ := lastB_mem he
        have h1 := h b hb
        have h2 := Ex.sz_pos (.mk op n ks)
        have h3 : 1 * M ≤ (Ex.mk op n ks).sz * M := Nat.mul_le_mul_right M h2
        omega
      · cases he
    · exact hx
theorem exsPut_sz {M : Nat} (hM : 1 ≤ M) : ∀ (ks : List Ex) (l : List Bd), (∀ b ∈ l, b.2.sz ≤ M) → exsSz (exsPut ks l) ≤ exsSz ks * M
  | [], _, _ => by simp [exsPut, exsSz]
  | k :: ks, l, h => by
    have h1 := Ex.put_sz hM k l h
    have h2 := exsPut_sz hM ks l h
    rw [exsPut, exsSz, exsSz, Nat.add_mul]; omega
end
mutual
theorem Pa.parts_vals : ∀ (p : Pa) (e : Ex) (l : List Bd), ∀ b ∈ (p.parts e l).1, b ∈ l ∨ b.2.sz ≤ e.sz
  | .mk c n ks, e, l, b, hb => by
    rw [Pa.parts] at hb
    split at hb
    · split at hb
      · rcases pasParts_vals ks e.kids l b hb with h | h
        · exact .inl h
        · right; have := e.sz_eq; omega
      · exact .inl hb
    · rcases List.mem_append.1 hb with h | h
      · exact .inl h
      · simp only [List.mem_singleton] at h
        subst h
        exact .inr (Nat.le_refl _)
theorem pasParts_vals : ∀ (ps : List Pa) (es : List Ex) (l : List Bd), ∀ b ∈ (pasParts ps es l).1, b ∈ l ∨ b.2.sz ≤ exsSz es
  | [], _, l, b, hb => .inl hb
  | p :: ps, e :: es, l, b, hb => by
    have h1 := Pa.parts_vals p e l
    rw [pasParts] at hb
    rw [exsSz]
    split at hb
    · rename_i l' h
      rw [h] at h1
      rcases pasParts_vals ps es l' b hb with h2 | h2
      · rcases h1 b h2 with h3 | h3
        · exact .inl h3
        · right; omega
      · right; omega
    · rename_i l' h
      rw [h] at h1
      rcases h1 b hb with h3 | h3
      · exact .inl h3
      · right; omega
  | _ :: _, [], l, b, hb => .inl hb
end
theorem selectF_sz {f : Fu} {vs : List Ex} {k : Int} {e : Ex} {M : Nat} (hM : 1 ≤ M) (h1 : fuSz f ≤ M) (h2 : exsSz vs ≤ M) (h : selectF f vs = (k, e, 0)) : e.sz ≤ M * M := by
  unfold selectF at h
  split at h
  · split at h
    · rcases selGo_cases (vs := vs) f.cls 0 with ⟨j, hj, h3, h4⟩ | h3
      · rw [selGo_at 0 hj h3 h4] at h
        simp only [Prod.mk.injEq] at h
        obtain ⟨_, rfl, _⟩ := h
        have h5 := Ex.put_sz hM f.cls[j].body (pasParts f.cls[j].pats vs []).1 (fun b hb => by
          rcases pasParts_vals _ _ _ b hb with h | h
          · simp at h
          · omega)
        have h6 : f.cls[j].body.sz ≤ M := by
          have h7 := sum_mem (f := clSz) (List.getElem_mem hj)
          have h8 : clSz f.cls[j] = 1 + pasSz f.cls[j].pats + f.cls[j].body.sz := rfl
          unfold fuSz clsSz at h1
          omega
        exact Nat.le_trans h5 (Nat.mul_le_mul_right M h6)
      · rw [h3] at h; simp at h
    · rename_i hne
      simp only [Prod.mk.injEq] at h
      exact absurd h.2.2 hne
  · simp at h
theorem clsSz_append (l m : List Cl) : clsSz (l ++ m) = clsSz l + clsSz m := by simp [clsSz]
theorem clsSz_cut (l : List Cl) (i : Nat) : clsSz (l.take i ++ l.drop (i + 1)) ≤ clsSz l := by
  have h : clsSz l = clsSz (l.take i) + clsSz (l.drop i) := by rw [← clsSz_append, List.take_append_drop]
  have h2 : clsSz (l.drop (i + 1)) ≤ clsSz (l.drop i) := by
    rcases Nat.lt_or_ge i l.length with h' | h'
    · rw [clsSz_drop h']; omega
    · rw [List.drop_eq_nil_of_le h', List.drop_eq_nil_of_le (by omega)]; exact Nat.le_refl _
  rw [clsSz_append]; omega
abbrev u8V (n : Int) : VV := .lit (.int .u8 n)
theorem cl_drop' {l : List Cl} {i : Nat} (hi : i ≤ l.length) : (encC clE l).drop (i * 4) = encC clE (l.drop i) := by
  rcases Nat.lt_or_ge i l.length with h | h
  · rw [encC_drop (enc := clE) (k := 4) (fun _ => rfl) h, List.drop_eq_getElem_cons h]; rfl
  · have : i = l.length := by omega
    subst this
    rw [List.drop_eq_nil_of_le (Nat.le_of_eq (encC_length (enc := clE) (k := 4) (fun _ => rfl) l)), List.drop_length]; rfl
theorem cloneCut {l : List Cl} {cut : Nat} {H : AH} {K : VE → AH → Prop} (h : 0 < cut) (hc : cut ≤ l.length) (hl : l.length ≤ 1099511627776) (hK : ∀ v H', OwnX H H' 46 4 v cut (encC clE (l.take cut)) → K (.ret v) H') :
    VCalls Try.prog 13 [.slice false cut (encC clE l)] H K := by
  have e : encC clE l = encC clE (l.take cut) ++ encC clE (l.drop cut) := by rw [← encC_append, List.take_append_drop]
  have el : (l.take cut).length = cut := by rw [List.length_take]; omega
  rw [e]
  refine vcalls_ghost (GhL.cons (GhV.trunc _ _ _ _ _) (GhL.nil _)) ?_
  rcases cloneCl (l := l.take cut) (by omega) H with h1 | h1
  · rw [show VV.slice false cut (encC clE (l.take cut)) = clsV (l.take cut) from by rw [clsV, encS, el]]
    refine OwnF.use (h1 : OwnF _ _ _ _ _ _ _ _) fun v H' ho => hK v H' (by rw [el] at ho; exact ho)
  · rw [h1] at el; simp at el; omega
theorem clauses_ok (f : Fu) (l : List Ex) (a : Int) (hf : fuSz f ≤ 1099511627776) (hl : exsSz l ≤ 1099511627776) (hn : ∀ c ∈ f.cls, ∀ s ∈ pasNames c.pats, s.size ≤ maxLen) (ha : 0 ≤ a ∧ a ≤ 255) (haw : PureF Try.prog 9 [] (boolV true)) :
    PureF Try.prog 3 [fuV f, exsV l, u8V a] (boolV true) := by
  have hll := exsSz_len l
  have hcl : f.cls.length ≤ 1099511627776 := by have := sum_len clSz_pos f.cls; unfold fuSz clsSz at hf; omega
  have hls : ∀ e ∈ l, e.sz ≤ 1099511627776 := fun e he => by have := exsSz_mem he; omega
  have hfn := fnodes_ok f hf
  have hfc := fun_ok f hf
  have hec := exprs_ok l (by omega) hls
  have hse := select_ok f l hf (by omega) hls hn
  have hnd : ∀ i (h : i < l.length), PureF Try.prog 8 [exV l[i]] (.tuple [iV l[i].sz, iV l[i].dp]) := fun i h => nodes_ok _ (by have := hls _ (List.getElem_mem h); omega)
  refine PureF.forget fun H => ?_
  refine vcalls_intro fd3 (by simp) ?_
  unfold c3
  obtain ⟨N, hN⟩ : ∃ N, N = fuSz f := ⟨_, rfl⟩
  rw [← hN] at hf hfn
  replace hN := Hold.mk hN
  (repeat' (first | (simp only [↓s_reg, ↓s_seq, ↓s_seqL, ↓s_block, ↓s_loop, ↓s_nil, ↓s_consN, ↓s_thenN, ↓s_kret, ↓s_putS, ↓s_dOkS, ↓s_ev_t, ↓s_ev_c, ↓s_ev_f, ↓s_upd, ↓s_move, ↓s_assign, ↓s_load, ↓s_box, ↓s_callB, ↓s_callV, ↓s_callL, ↓s_len, ptrV, intV, boolV, List.map_cons, List.map_nil, List.getD_cons_zero, List.getD_cons_succ, List.getD_nil, ite_true, ite_false, Nat.reduceEqDiff, Nat.reduceLT, ne_eq, not_false_eq_true, true_and, Nat.succ_ne_self, reduceCtorEq, undefV, AH.get, eq_self, List.drop, ldV_t3, cl_agg, ↓n_box, n_ldP, n_lenS, n_ldA, n_ldB, undef, ldT_24, elT_25, en_7, *]) | (refine allNew_intro fun zr zh => ?_; have zg := zh; (try simp only [AH.set_none] at zg)) | (refine PureF.use (hfn) ?_)))
  have hlN : l.length ≤ 1099511627776 := by omega
  refine acx_loop (fun _ _ _ h => h) (fun A H' => SubH H H' ∧ H' zr = some (.cells 24 (fuE f) 0) ∧ A.d = [] ∧ A.t 1 = exsV l ∧ A.t 2 = u8V a ∧ A.t 3 = ptrV zr 0 ∧ A.t 22 = exsV l ∧ A.t 23 = iV l.length ∧ ∃ (i n : Nat), i ≤ l.length ∧ A.t 24 = iV i ∧ A.t 7 = iV n ∧ n + exsSz (l.drop i) = N + exsSz l)
    (fun A _ => match A.t 24 with | .lit (.int _ i) => ((l.length : Int) - i).toNat | _ => 0) ?_ ?_
  · exact ⟨SubH.new zh, AH.set_same _ _ _, rfl, rfl, rfl, rfl, rfl, rfl, 0, N, by omega, rfl, rfl, rfl⟩
  · rintro ⟨t, d⟩ H' ⟨hs, k3, rfl, h1, h2, h3, h22, h23, i, n, hi, h24, h7, hnn⟩
    dsimp only at h1 h2 h3 h22 h23 h24 h7
    unfold b3_1
    replace hnn := Hold.mk hnn
    (repeat' (first | (simp only [↓s_skip, ↓s_reg, ↓s_seq, ↓s_cond, ↓s_block, ↓s_exit, ↓s_nil, ↓s_consN, ↓s_thenN, ↓s_thenE, ↓s_inN, ↓s_inE, ↓s_kret, ↓s_putS, ↓s_putN, ↓s_dOkS, ↓s_dOkN, ↓s_ev_t, ↓s_ev_c, ↓s_ev_f, ↓s_upd, ↓s_move, ↓s_assign, ↓s_load, ↓s_store, ↓s_bin, ↓s_alloc, ↓s_indexAddr, ↓s_extract, ↓s_callV, ↓s_callL, ↓s_bin_lss, ↓s_bin_add, vcExtract, ptrV, List.map_cons, List.map_nil, List.length_cons, List.length_nil, ite_true, ite_false, Nat.reduceEqDiff, Nat.reduceLT, Nat.reduceAdd, true_and, Nat.succ_ne_self, decide_true, decide_false, Int.natCast_nonneg, Int.toNat_natCast, AH.get, AH.set_set, setAt, List.all_cons, List.all_nil, Bool.and_self, eq_self, Nat.zero_add, List.drop, and_self, List.getElem?_cons_zero, List.getElem?_cons_succ, ldV_t3, Int.ofNat_lt, on_int, on_str, cl_agg, on_slice, List.set_cons_zero, List.set_cons_succ, ↓n_alloc, n_allocS, Nat.le_refl, n_ldI, n_ldP, n_ixS, n_ixA1, n_ldA, n_ldC, n_ldB, n_stP, n_stA, ex_drop, ldT_28, szT_28, zeroT_28, elT_25, en_8, *]) | (refine condL_splitD ?_ ?_ <;> intro) | (refine allNew_intro fun zr zh => ?_; have zg := zh; (try simp only [AH.set_none] at zg); (try have zn_k3 := AH.ne_of k3 zh); (try have zn_k3 := AH.ne_of k3 zg.2); (try have zn_k3 := AH.ne_of k3 zg.2.2)) | (refine SubH.of_set ?_ ?_) | (exact SubH.none (by assumption) (by assumption)) | (refine PureF.use (hnd _ (by assumption)) ?_) | (with_reducible refine And.intro ?_ ?_)))
    · have hlt : i < l.length := by assumption
      have e1 := exsSz_drop hlt
      have e2 := hnn.out
      have e3 := hls _ (List.getElem_mem hlt)
      rw [wrap_ok (n := (i : Int) + 1) (by omega) (by omega), wrap_ok (n := (n : Int) + (l[i].sz : Int)) (by omega) (by omega)]
      exact ⟨i + 1, n + l[i].sz, by omega, rfl, by simp, by omega⟩
    · rw [wrap_ok (n := (i : Int) + 1) (by omega) (by omega)]
      omega
    · refine acx_go rfl (fun _ _ _ h => h) ?_
      have hn3 : n = N + exsSz l := by have := hnn.out; rw [List.drop_eq_nil_of_le (by omega)] at this; simpa [exsSz] using this
      replace hn3 := Hold.mk hn3
      clear hnn h23 h24 hnd hi
      obtain ⟨⟨k, e, c⟩, hR⟩ : ∃ R, R = selectF f l := ⟨_, rfl⟩
      rw [← hR] at hse
      replace hR := Hold.mk hR
      unfold c3_1
      (repeat' (first | (simp only [↓s_skip, ↓s_reg, ↓s_seq, ↓s_cond, ↓s_condT, ↓s_ret, ↓s_nil, ↓s_consN, ↓s_consG, ↓s_guardTF, ↓s_guardFF, ↓s_thenN, ↓s_thenR, ↓s_kret, ↓s_putS, ↓s_putN, ↓s_dOkS, ↓s_dOkN, ↓s_ev_t, ↓s_ev_c, ↓s_ev_f, ↓s_upd, ↓s_move, ↓s_assign, ↓s_isBool, ↓s_pickA, ↓s_pick, ↓s_load, ↓s_store, ↓s_bin, ↓s_convert, ↓s_alloc, ↓s_fieldAddr, ↓s_extract, ↓s_callB, ↓s_callV, ↓s_callL, ↓s_len, ↓s_bin_lss, ↓s_bin_gtr, ↓s_bin_geq, ↓s_bin_neq, ↓s_bin_add, ↓s_bin_sub, vcExtract, ptrV, intV, boolV, List.map_cons, List.map_nil, List.length_cons, List.length_nil, ite_true, ite_false, Nat.reduceEqDiff, Nat.reduceLT, Nat.reduceAdd, ne_eq, not_false_eq_true, true_and, Bool.false_eq_true, Nat.succ_ne_self, decide_true, decide_false, reduceCtorEq, callOk, undefV, AH.get, AH.set_set, setAt, List.all_cons, List.all_nil, Bool.and_self, eq_self, Nat.zero_add, List.drop, and_self, List.getElem?_cons_zero, List.getElem?_cons_succ, ldV_f, ldV_t3, on_int, on_str, cl_agg, on_slice, List.set_cons_zero, List.set_cons_succ, ↓n_alloc, n_allocS, Nat.le_refl, n_ldP, n_faP, n_lenS, n_ldA, n_ldB, n_faA, n_stP, n_stA, undef, flT_24_2, ldT_24, ldT_22, szT_34, zeroT_34, elT_22, en_9, en_11, en_12, en_10, *]) | (refine guardL_splitFD ?_ ?_ <;> intro) | (refine condL_splitD ?_ ?_ <;> intro) | (refine guardL_splitF ?_ ?_ <;> intro) | (refine ret_tmp ?_) | (refine allNew_intro fun zr zh => ?_; have zg := zh; (try simp only [AH.set_none] at zg); (try have zn_k3 := AH.ne_of k3 zh); (try have zn_k3 := AH.ne_of k3 zg.2); (try have zn_k3 := AH.ne_of k3 zg.2.2)) | (refine SubH.of_set ?_ ?_) | (exact SubH.none (by assumption) (by assumption)) | (refine PureF.use (haw) ?_) | (refine PureF.use (hfc) ?_) | (refine PureF.use (hec) ?_) | (refine PureF.use (hse) ?_)))
      have hc0 : c = 0 := by simpa using (by assumption : (!decide (c = 0)) = false)
      subst hc0
      obtain ⟨j, rfl, hj⟩ := selectF_idx hR.out.symm
      have w0 : IntKind.i64.wrap ((f.cls.length : Int) - 1) = (f.cls.length : Int) - 1 := wrap_ok (by omega) (by omega)
      rename_i hk1 hk2
      rw [w0] at hk1
      have w1 : IntKind.i64.wrap ((j : Int) + 1) = (j : Int) + 1 := wrap_ok (by omega) (by omega)
      have w2 : IntKind.i64.wrap a = a := wrap_ok (by omega) (by omega)
      have w3 : IntKind.i64.wrap ((f.cls.length : Int) - j) = (f.cls.length : Int) - j := wrap_ok (by omega) (by omega)
      have w4 : IntKind.i64.wrap ((f.cls.length : Int) - j - 1) = (f.cls.length : Int) - j - 1 := wrap_ok (by omega) (by omega)
      have hm0 : 0 ≤ a.tmod ((f.cls.length : Int) - j - 1) := Int.tmod_nonneg _ ha.1
      have hm1 : a.tmod ((f.cls.length : Int) - j - 1) < (f.cls.length : Int) - j - 1 := Int.tmod_lt_of_pos _ (by omega)
      have hnz : ¬ (f.cls.length : Int) - j - 1 = 0 := by omega
      obtain ⟨cut, hcut⟩ : ∃ cut : Nat, (j : Int) + 1 + a.tmod ((f.cls.length : Int) - j - 1) = cut := ⟨((j : Int) + 1 + a.tmod ((f.cls.length : Int) - j - 1)).toNat, by omega⟩
      have w5 : IntKind.i64.wrap (cut : Int) = cut := wrap_ok (by omega) (by omega)
      have w6 : IntKind.i64.wrap ((cut : Int) + 1) = ((cut + 1 : Nat) : Int) := by rw [wrap_ok (by omega) (by omega)]; simp
      have c1 : j < cut := by omega
      have c2 : cut < f.cls.length := by omega
      clear hm0 hm1
      replace ha := Hold.mk ha
      replace c1 := Hold.mk c1
      have c3 : cut + 1 ≤ f.cls.length := by omega
      have c4 := c1.out
      have e0 : (encC clE f.cls).drop ((cut + 1) * 4) = encC clE (f.cls.drop (cut + 1)) := cl_drop' c3
      have hB3 : (H'.set zr (.cells 34 [iV e.op, sV e.name, encS exE e.kids] 0)) zr = some (.cells 34 [iV e.op, sV e.name, encS exE e.kids] 0) := AH.set_same _ _ _
      have hBf := (SubH.new zh (b := .cells 34 [iV e.op, sV e.name, encS exE e.kids] 0)) _ _ k3
      have hBs : SubH H (H'.set zr (.cells 34 [iV e.op, sV e.name, encS exE e.kids] 0)) := hs.trans (SubH.new zh)
      clear k3 zg zn_k3
      generalize H'.set zr (.cells 34 [iV e.op, sV e.name, encS exE e.kids] 0) = B at *
      have hn300 : n ≤ 300 := by omega
      have hfz : fuSz f = N := hN.out.symm
      have hn4 := hn3.out
      have hesz := selectF_sz (M := 300) (by omega) (by omega) (by omega) hR.out.symm
      have heq : PureF Try.prog 14 [exV e, exV e] (boolV true) := by
        have := equal_ok e e (by omega) (by omega)
        rwa [(Ex.beq_iff e e).2 rfl] at this
      obtain ⟨g, hg⟩ : ∃ g : Fu, g = ⟨f.name, f.arity, f.cls.take cut ++ f.cls.drop (cut + 1)⟩ := ⟨_, rfl⟩
      have hgz : fuSz g ≤ 1099511627776 := by have h1 := clsSz_cut f.cls cut; subst hg; unfold fuSz at hfz ⊢; show 1 + clsSz (f.cls.take cut ++ f.cls.drop (cut + 1)) ≤ _; omega
      have hgn : ∀ c ∈ g.cls, ∀ s ∈ pasNames c.pats, s.size ≤ maxLen := fun c hc => hn c (by
        subst hg
        rcases List.mem_append.1 hc with hc | hc
        · exact List.mem_of_mem_take hc
        · exact List.mem_of_mem_drop hc)
      have hgs := select_ok g l hgz (by omega) hls hgn
      have hgr : selectF g l = ((j : Int), e, 0) := by rw [hg]; exact select_cut hR.out.symm c1.out
      rw [hgr] at hgs
      have hgc := fun_ok g hgz
      have hglen : g.cls.length = cut + (f.cls.length - (cut + 1)) := by rw [hg, List.length_append, List.length_take, List.length_drop]; omega
      have hgcls : g.cls = f.cls.take cut ++ f.cls.drop (cut + 1) := by rw [hg]
      have hgv : VV.agg [sV f.name, iV f.arity, .slice false g.cls.length (encC clE g.cls)] = fuV g := by rw [hg]
      have hA := Hold.mk (show (cut + (f.cls.length - (cut + 1))) * 72 ≤ 140737488355328 ∧ cut + (f.cls.length - (cut + 1)) ≤ 9223372036854775807 by omega)
      have hsrc := Hold.mk (show ∀ H : AH, srcV H 4 (.slice false (f.cls.length - (cut + 1)) (encC clE (f.cls.drop (cut + 1)))) = some (f.cls.length - (cut + 1), encC clE (f.cls.drop (cut + 1))) from fun H => by have := src_enc (enc := clE) (k := 4) (fun _ => rfl) H false (f.cls.drop (cut + 1)); rwa [List.length_drop] at this)
      clear hgz hgn hgr hg hfz hn4
      replace hgcls := Hold.mk hgcls
      replace hglen := Hold.mk hglen
      have hgc2 := hgc
      rw [← hgv] at hgc2 hgs
      clear hgv
      (repeat' (first | (refine conv_int und_5 und_3 ?_) | (refine cloneCut (by omega) (by omega) hcl (fun v H2 ho => ?_)) | (simp only [↓s_seq, ↓s_dreg, ↓s_nil, ↓s_consN, ↓s_thenN, ↓s_kret, ↓s_putS, ↓s_dOkS, ↓s_ev_t, ↓s_ev_c, ↓s_ev_f, ↓s_upd, ↓s_move, ↓s_assign, ↓s_load, ↓s_bin, ↓s_alloc, ↓s_slice, ↓s_fieldAddr, ↓s_callB, ↓s_callV, ↓s_callL, ↓s_len, ↓s_append, ↓s_bin_add, ↓s_bin_sub, ↓s_bin_rem, ptrV, intV, List.map_cons, List.map_nil, ite_true, ite_false, Nat.reduceEqDiff, Nat.reduceLT, Nat.reduceMul, ne_eq, not_false_eq_true, not_true_eq_false, true_and, and_true, List.drop_zero, Nat.succ_ne_self, Bool.false_and, reduceCtorEq, Int.natCast_nonneg, Int.toNat_natCast, ↓s_plTkN, ↓s_plOneN, ↓s_plTwo, eq_self, Nat.zero_add, Nat.add_zero, List.drop, and_self, ldV_f, ↓n_alloc, n_allocS, Nat.le_refl, n_ldP, n_faP, n_lenS, n_ldA, n_ldB, n_faA, ↓s_plK, ↓s_oneK, vcSlice, Option.map_none, Option.map_some, sliceOk, idxV, idxOk, imp_self, Int.toNat_natCast, flT_24_2, flT_24_0, flT_24_1, ldT_22, ldT_9, ldT_3, zeroT_24, elT_22, en_13, *]) | (refine acx_dreg mixed (fun _ _ _ _ e h => ⟨e.trans h.1, h.2⟩) _ (SubH.refl _) ?_) | (refine And.intro (SubH.new (by assumption)) ?_) | (refine allNew_intro fun zr zh => ?_; have zg := zh; (try simp only [AH.set_none] at zg); (try have zn_hB3 := AH.ne_of hB3 zh); (try have zn_hB3 := AH.ne_of hB3 zg.2); (try have zn_hB3 := AH.ne_of hB3 zg.2.2); (try have zn_hBf := AH.ne_of hBf zh); (try have zn_hBf := AH.ne_of hBf zg.2); (try have zn_hBf := AH.ne_of hBf zg.2.2)) | (refine SubH.of_set ?_ ?_) | (with_reducible refine And.intro ?_ ?_)))
      all_goals try omega
      all_goals try exact fun _ => trivial
      all_goals try exact ho.sub
      all_goals try exact (SubH.new (by assumption)).trans ho.sub
      all_goals try exact ho.sub.none (by assumption)
      · simp only [Nat.sub_zero] at ho
        refine append_own (m := f.cls.length - (cut + 1)) (news := encC clE (f.cls.drop (cut + 1))) elT_22 zeroT_46 rfl (by omega) ho (hsrc.out _) (encC_one cl_one _) hA.out.1 hA.out.2 (fun v2 H3 ho2 => ?_)
        rw [← encC_append, ← hglen.out, ← hgcls.out] at ho2
        have hc1 := ho2.cells.1
        have hc2 := ho2.cells.2
        have kf := ho2.sub _ _ hBf
        have ke := ho2.sub _ _ hB3
        (repeat' (first | (simp only [↓s_reg, ↓s_seq, ↓s_nil, ↓s_consN, ↓s_thenN, ↓s_kret, ↓s_putS, ↓s_putN, ↓s_dOkS, ↓s_dOkN, ↓s_ev_t, ↓s_ev_f, ↓s_upd, ↓s_load, ↓s_store, ↓s_alloc, ↓s_build, ↓s_callV, ↓s_callL, ptrV, List.map_cons, List.map_nil, List.length_cons, List.length_nil, ite_true, ite_false, Nat.reduceEqDiff, Nat.reduceLT, Nat.reduceAdd, Nat.reduceLeDiff, true_and, Nat.succ_ne_self, ↓s_plFin, ↓s_plTkN, ↓s_plOneN, AH.get, AH.set_set, vcBuild, fillV, setAt, List.all_cons, List.all_nil, Bool.and_self, eq_self, Nat.zero_add, List.drop, and_self, List.getElem?_cons_zero, List.getElem?_cons_succ, ldV_t3, cl_int, on_int, cl_str, on_str, cl_agg, List.set_cons_zero, List.set_cons_succ, ↓n_alloc, n_allocS, Nat.le_refl, n_ldP, n_ldA, n_ldB, n_stP, n_stA, ↓s_plK, ↓s_oneK, ldT_24, szT_24, stT_24, zeroT_24, en_11, *]) | (refine allNew_intro fun zr zh => ?_; have zg := zh; (try simp only [AH.set_none] at zg); (try have zn_kf := AH.ne_of kf zh); (try have zn_kf := AH.ne_of kf zg.2); (try have zn_kf := AH.ne_of kf zg.2.2); (try have zn_ke := AH.ne_of ke zh); (try have zn_ke := AH.ne_of ke zg.2); (try have zn_ke := AH.ne_of ke zg.2.2)) | (refine SubH.of_set ?_ ?_) | (with_reducible refine And.intro ?_ ?_)))
        all_goals try exact ho2.sub
        all_goals try exact ho2.sub.none (by assumption)
        all_goals try exact trivial
        refine vcalls_ghost (H' := B) (GhL.cons (GhV.agg (GhL.cons (GhV.refl _ _) (GhL.cons (GhV.refl _ _) (GhL.cons (GhV.back (ho2.alloc zh _) (SubH.new (ho2.sub.none zh))) (GhL.nil _))))) (GhL.nil _)) (PureF.use hgc2 ?_)
        clear kf ke
        (repeat' (first | (simp only [↓s_reg, ↓s_seq, ↓s_ret, ↓s_nil, ↓s_consN, ↓s_consG, ↓s_guardTT, ↓s_thenN, ↓s_kret, ↓s_putS, ↓s_putN, ↓s_dOkS, ↓s_dOkN, ↓s_ev_t, ↓s_ev_c, ↓s_ev_f, ↓s_upd, ↓s_move, ↓s_assign, ↓s_isBool, ↓s_pickA, ↓s_pick, ↓s_load, ↓s_store, ↓s_bin, ↓s_alloc, ↓s_extract, ↓s_callV, ↓s_callL, ↓s_bin_eql, vcExtract, ptrV, boolV, List.map_cons, List.map_nil, List.length_cons, List.length_nil, ite_true, ite_false, Nat.reduceEqDiff, Nat.reduceLT, Nat.reduceAdd, true_and, Nat.succ_ne_self, decide_true, AH.get, AH.set_set, setAt, List.all_cons, List.all_nil, Bool.and_self, eq_self, Nat.zero_add, List.drop, List.getElem?_cons_zero, List.getElem?_cons_succ, ldV_t3, on_int, on_str, cl_agg, on_slice, List.set_cons_zero, List.set_cons_succ, ↓n_alloc, n_allocS, Nat.le_refl, n_ldP, n_ldA, n_ldB, n_stP, n_stA, ldT_34, szT_34, zeroT_34, en_9, en_12, en_10, en_14, *]) | (refine ret_tmp ?_) | (refine allNew_intro fun zr zh => ?_; have zg := zh; (try simp only [AH.set_none] at zg); (try have zn_hBf := AH.ne_of hBf zh); (try have zn_hBf := AH.ne_of hBf zg.2); (try have zn_hBf := AH.ne_of hBf zg.2.2); (try have zn_hB3 := AH.ne_of hB3 zh); (try have zn_hB3 := AH.ne_of hB3 zg.2); (try have zn_hB3 := AH.ne_of hB3 zg.2.2)) | (refine SubH.of_set ?_ ?_) | (exact SubH.none (by assumption) (by assumption)) | (refine PureF.use (hgs) ?_) | (refine PureF.use (hec) ?_) | (refine PureF.use (heq) ?_) | (refine PureF.use (haw) ?_)))
      · simp only [Nat.sub_zero] at ho
        have bz := ho.sub.none zh
        refine append_own (m := f.cls.length - (cut + 1)) (news := encC clE (f.cls.drop (cut + 1))) elT_22 zeroT_46 rfl (by omega) (ho.alloc zh _) (hsrc.out _) (encC_one cl_one _) hA.out.1 hA.out.2 (fun v2 H3 ho2 => ?_)
        rw [← encC_append, ← hglen.out, ← hgcls.out] at ho2
        have hc1 := ho2.cells.1
        have hc2 := ho2.cells.2
        have kf := ho2.sub _ _ (by rw [AH.get, if_neg (AH.ne_of hBf bz).1]; exact hBf)
        have ke := ho2.sub _ _ (by rw [AH.get, if_neg (AH.ne_of hB3 bz).1]; exact hB3)
        have kz := ho2.sub _ _ (AH.set_same _ _ _)
        (repeat' (first | (simp only [↓s_reg, ↓s_seq, ↓s_nil, ↓s_consN, ↓s_thenN, ↓s_kret, ↓s_putS, ↓s_putN, ↓s_dOkS, ↓s_dOkN, ↓s_ev_t, ↓s_ev_f, ↓s_upd, ↓s_load, ↓s_store, ↓s_build, ↓s_callV, ↓s_callL, List.map_cons, List.map_nil, List.length_cons, List.length_nil, ite_true, ite_false, Nat.reduceEqDiff, Nat.reduceLT, Nat.reduceAdd, Nat.reduceLeDiff, true_and, Nat.succ_ne_self, ↓s_plFin, ↓s_plTkN, AH.get, vcBuild, fillV, setAt, List.all_cons, List.all_nil, Bool.and_self, eq_self, Nat.zero_add, List.drop, and_self, List.getElem?_cons_zero, List.getElem?_cons_succ, ldV_t3, cl_int, on_int, cl_str, on_str, cl_agg, List.set_cons_zero, List.set_cons_succ, Nat.le_refl, n_ldP, n_ldA, n_ldB, n_stP, n_stA, ↓s_plK, ↓s_oneK, ldT_24, szT_24, stT_24, en_11, *]) | (with_reducible refine And.intro ?_ ?_)))
        all_goals try exact (SubH.new bz).trans ho2.sub
        all_goals try exact bz
        all_goals try exact trivial
        refine vcalls_ghost (H' := B) (GhL.cons (GhV.agg (GhL.cons (GhV.refl _ _) (GhL.cons (GhV.refl _ _) (GhL.cons (GhV.back (ho2.put (AH.set_same _ _ _) _) (by rw [AH.set_set]; exact SubH.new bz)) (GhL.nil _))))) (GhL.nil _)) (PureF.use hgc2 ?_)
        clear kf ke
        (repeat' (first | (simp only [↓s_reg, ↓s_seq, ↓s_ret, ↓s_nil, ↓s_consN, ↓s_consG, ↓s_guardTT, ↓s_thenN, ↓s_kret, ↓s_putS, ↓s_putN, ↓s_dOkS, ↓s_dOkN, ↓s_ev_t, ↓s_ev_c, ↓s_ev_f, ↓s_upd, ↓s_move, ↓s_assign, ↓s_isBool, ↓s_pickA, ↓s_pick, ↓s_load, ↓s_store, ↓s_bin, ↓s_alloc, ↓s_extract, ↓s_callV, ↓s_callL, ↓s_bin_eql, vcExtract, ptrV, boolV, List.map_cons, List.map_nil, List.length_cons, List.length_nil, ite_true, ite_false, Nat.reduceEqDiff, Nat.reduceLT, Nat.reduceAdd, true_and, Nat.succ_ne_self, decide_true, AH.get, AH.set_set, setAt, List.all_cons, List.all_nil, Bool.and_self, eq_self, Nat.zero_add, List.drop, List.getElem?_cons_zero, List.getElem?_cons_succ, ldV_t3, on_int, on_str, cl_agg, on_slice, List.set_cons_zero, List.set_cons_succ, ↓n_alloc, n_allocS, Nat.le_refl, n_ldP, n_ldA, n_ldB, n_stP, n_stA, ldT_34, szT_34, zeroT_34, en_9, en_12, en_10, en_14, *]) | (refine ret_tmp ?_) | (refine allNew_intro fun zr zh => ?_; have zg := zh; (try simp only [AH.set_none] at zg); (try have zn_hBf := AH.ne_of hBf zh); (try have zn_hBf := AH.ne_of hBf zg.2); (try have zn_hBf := AH.ne_of hBf zg.2.2); (try have zn_hB3 := AH.ne_of hB3 zh); (try have zn_hB3 := AH.ne_of hB3 zg.2); (try have zn_hB3 := AH.ne_of hB3 zg.2.2)) | (refine SubH.of_set ?_ ?_) | (exact SubH.none (by assumption) (by assumption)) | (refine PureF.use (hgs) ?_) | (refine PureF.use (hec) ?_) | (refine PureF.use (heq) ?_) | (refine PureF.use (haw) ?_)))
      · simp only [Nat.sub_zero] at ho
        have bz := zh
        refine append_own (m := f.cls.length - (cut + 1)) (news := encC clE (f.cls.drop (cut + 1))) elT_22 zeroT_46 rfl (by omega) ho (hsrc.out _) (encC_one cl_one _) hA.out.1 hA.out.2 (fun v2 H3 ho2 => ?_)
        rw [← encC_append, ← hglen.out, ← hgcls.out] at ho2
        have hc1 := ho2.cells.1
        have hc2 := ho2.cells.2
        have kf := ho2.sub _ _ (by rw [AH.get, if_neg (AH.ne_of hBf bz).1]; exact hBf)
        have ke := ho2.sub _ _ (by rw [AH.get, if_neg (AH.ne_of hB3 bz).1]; exact hB3)
        have kz := ho2.sub _ _ (AH.set_same _ _ _)
        (repeat' (first | (simp only [↓s_reg, ↓s_seq, ↓s_nil, ↓s_consN, ↓s_thenN, ↓s_kret, ↓s_putS, ↓s_putN, ↓s_dOkS, ↓s_dOkN, ↓s_ev_t, ↓s_ev_f, ↓s_upd, ↓s_load, ↓s_store, ↓s_build, ↓s_callV, ↓s_callL, List.map_cons, List.map_nil, List.length_cons, List.length_nil, ite_true, ite_false, Nat.reduceEqDiff, Nat.reduceLT, Nat.reduceAdd, Nat.reduceLeDiff, true_and, Nat.succ_ne_self, ↓s_plFin, ↓s_plTkN, AH.get, vcBuild, fillV, setAt, List.all_cons, List.all_nil, Bool.and_self, eq_self, Nat.zero_add, List.drop, and_self, List.getElem?_cons_zero, List.getElem?_cons_succ, ldV_t3, cl_int, on_int, cl_str, on_str, cl_agg, List.set_cons_zero, List.set_cons_succ, Nat.le_refl, n_ldP, n_ldA, n_ldB, n_stP, n_stA, ↓s_plK, ↓s_oneK, ldT_24, szT_24, stT_24, en_11, *]) | (with_reducible refine And.intro ?_ ?_)))
        all_goals try exact (SubH.new bz).trans ho2.sub
        all_goals try exact bz
        all_goals try exact trivial
        refine vcalls_ghost (H' := B) (GhL.cons (GhV.agg (GhL.cons (GhV.refl _ _) (GhL.cons (GhV.refl _ _) (GhL.cons (GhV.back (ho2.put (AH.set_same _ _ _) _) (by rw [AH.set_set]; exact SubH.new bz)) (GhL.nil _))))) (GhL.nil _)) (PureF.use hgc2 ?_)
        clear kf ke
        (repeat' (first | (simp only [↓s_reg, ↓s_seq, ↓s_ret, ↓s_nil, ↓s_consN, ↓s_consG, ↓s_guardTT, ↓s_thenN, ↓s_kret, ↓s_putS, ↓s_putN, ↓s_dOkS, ↓s_dOkN, ↓s_ev_t, ↓s_ev_c, ↓s_ev_f, ↓s_upd, ↓s_move, ↓s_assign, ↓s_isBool, ↓s_pickA, ↓s_pick, ↓s_load, ↓s_store, ↓s_bin, ↓s_alloc, ↓s_extract, ↓s_callV, ↓s_callL, ↓s_bin_eql, vcExtract, ptrV, boolV, List.map_cons, List.map_nil, List.length_cons, List.length_nil, ite_true, ite_false, Nat.reduceEqDiff, Nat.reduceLT, Nat.reduceAdd, true_and, Nat.succ_ne_self, decide_true, AH.get, AH.set_set, setAt, List.all_cons, List.all_nil, Bool.and_self, eq_self, Nat.zero_add, List.drop, List.getElem?_cons_zero, List.getElem?_cons_succ, ldV_t3, on_int, on_str, cl_agg, on_slice, List.set_cons_zero, List.set_cons_succ, ↓n_alloc, n_allocS, Nat.le_refl, n_ldP, n_ldA, n_ldB, n_stP, n_stA, ldT_34, szT_34, zeroT_34, en_9, en_12, en_10, en_14, *]) | (refine ret_tmp ?_) | (refine allNew_intro fun zr zh => ?_; have zg := zh; (try simp only [AH.set_none] at zg); (try have zn_hBf := AH.ne_of hBf zh); (try have zn_hBf := AH.ne_of hBf zg.2); (try have zn_hBf := AH.ne_of hBf zg.2.2); (try have zn_hB3 := AH.ne_of hB3 zh); (try have zn_hB3 := AH.ne_of hB3 zg.2); (try have zn_hB3 := AH.ne_of hB3 zg.2.2)) | (refine SubH.of_set ?_ ?_) | (exact SubH.none (by assumption) (by assumption)) | (refine PureF.use (hgs) ?_) | (refine PureF.use (hec) ?_) | (refine PureF.use (heq) ?_) | (refine PureF.use (haw) ?_)))
end Go.PV.Ytglpmlbbaedbiaa
end
section
/- A machine that reckons closed calls: its values, its heap, and how they are of the abstract machine. -/
set_option linter.unusedVariables false
set_option linter.unusedSimpArgs false
namespace Go.PV

inductive EV where
  | lit (v : Value)
  | ptr (k o : Nat)
  | sl (k o n : Nat) (c : Option Nat) (d : Nat)
  | es (k o d lo s : Nat)
  | map (k : Nat)
  | isl (ex : Bool) (n : Nat) (cs : List EV)
  | iptr (cs : List EV)
  | agg (cs : List EV)
  | tuple (cs : List EV)
  | func (f : FuncId) (first cap : List EV)
  | yield (k : Nat)
  | iface (t : TypeId) (x : EV)
instance : Inhabited EV := ⟨.lit undef⟩

/-- What stands behind a place of the reckoning heap: the block's number; its capacity; a statement's code and frame. -/
structure Pay where
  r : Nat
  c : Nat := 0
  fn : FuncId := 0
  ca : Code := .skip
  cb : Code := .skip
  t : Nat → VV := fun _ => undefV
abbrev Sg := Nat → Option Pay
def Ext (σ σ' : Sg) : Prop := ∀ k p, σ k = some p → σ' k = some p
theorem Ext.refl (σ : Sg) : Ext σ σ := fun _ _ h => h
theorem Ext.trans {σ σ' σ'' : Sg} (h : Ext σ σ') (k : Ext σ' σ'') : Ext σ σ'' := fun i p hp => k i p (h i p hp)

mutual
def RV (σ : Sg) : EV → VV → Prop
  | .lit v, x => x = .lit v
  | .ptr k o, x => ∃ p, σ k = some p ∧ x = ptrV p.r o
  | .sl k o n c d, x => ∃ p, σ k = some p ∧ n ≤ c.getD p.c - d ∧ x = .lit (.slice (some ⟨p.r, o, none⟩) n (c.getD p.c - d))
  | .es k o d lo s, x => ∃ p, σ k = some p ∧ x = .lit (.slice (some ⟨p.r, if p.c - d = lo then o else o + lo * s, none⟩) 0 (p.c - d - lo))
  | .map k, x => ∃ p, σ k = some p ∧ x = .lit (.map (some p.r))
  | .isl ex n cs, x => ∃ ys, x = .slice ex n ys ∧ RVL σ cs ys
  | .iptr cs, x => ∃ ys, x = .iptr ys ∧ RVL σ cs ys
  | .agg cs, x => ∃ ys, x = .agg ys ∧ RVL σ cs ys
  | .tuple cs, x => ∃ ys, x = .tuple ys ∧ RVL σ cs ys
  | .func f a b, x => ∃ asg bs, x = .func (.func f) asg bs ∧ RVL σ a asg ∧ RVL σ b bs
  | .yield k, x => ∃ p, σ k = some p ∧ x = .lit (.func (.yield p.r) #[] #[])
  | .iface t v, x => ∃ y, x = .iface t y ∧ RV σ v y
def RVL (σ : Sg) : List EV → List VV → Prop
  | [], ys => ys = []
  | v :: vs, ys => ∃ y ys', ys = y :: ys' ∧ RV σ v y ∧ RVL σ vs ys'
end

section
variable {σ σ' : Sg}
mutual
theorem RV.mono (h : Ext σ σ') : ∀ (v : EV) (x : VV), RV σ v x → RV σ' v x
  | .lit v, x, hx => hx
  | .ptr k o, x, ⟨p, hp, e⟩ => ⟨p, h k p hp, e⟩
  | .sl k o n c d, x, ⟨p, hp, e⟩ => ⟨p, h k p hp, e⟩
  | .es k o d lo s, x, ⟨p, hp, e⟩ => ⟨p, h k p hp, e⟩
  | .map k, x, ⟨p, hp, e⟩ => ⟨p, h k p hp, e⟩
  | .isl ex n cs, x, ⟨ys, e, hl⟩ => ⟨ys, e, RVL.mono h cs ys hl⟩
  | .iptr cs, x, ⟨ys, e, hl⟩ => ⟨ys, e, RVL.mono h cs ys hl⟩
  | .agg cs, x, ⟨ys, e, hl⟩ => ⟨ys, e, RVL.mono h cs ys hl⟩
  | .tuple cs, x, ⟨ys, e, hl⟩ => ⟨ys, e, RVL.mono h cs ys hl⟩
  | .func f a b, x, ⟨asg, bs, e, h1, h2⟩ => ⟨asg, bs, e, RVL.mono h a asg h1, RVL.mono h b bs h2⟩
  | .yield k, x, ⟨p, hp, e⟩ => ⟨p, h k p hp, e⟩
  | .iface t v, x, ⟨y, e, hv⟩ => ⟨y, e, RV.mono h v y hv⟩
theorem RVL.mono (h : Ext σ σ') : ∀ (vs : List EV) (xs : List VV), RVL σ vs xs → RVL σ' vs xs
  | [], xs, hx => hx
  | v :: vs, xs, ⟨y, ys, e, h1, h2⟩ => ⟨y, ys, e, RV.mono h v y h1, RVL.mono h vs ys h2⟩
end
mutual
theorem RV.fn (h : Ext σ σ') : ∀ (v : EV) (x y : VV), RV σ v x → RV σ' v y → x = y
  | .lit v, x, y, hx, hy => hx.trans hy.symm
  | .ptr k o, x, y, ⟨p, hp, e⟩, ⟨q, hq, e'⟩ => by rw [h k p hp] at hq; cases hq; rw [e, e']
  | .sl k o n c d, x, y, ⟨p, hp, _, e⟩, ⟨q, hq, _, e'⟩ => by rw [h k p hp] at hq; cases hq; rw [e, e']
  | .es k o d lo s, x, y, ⟨p, hp, e⟩, ⟨q, hq, e'⟩ => by rw [h k p hp] at hq; cases hq; rw [e, e']
  | .map k, x, y, ⟨p, hp, e⟩, ⟨q, hq, e'⟩ => by rw [h k p hp] at hq; cases hq; rw [e, e']
  | .isl ex n cs, x, y, ⟨xs, e, hl⟩, ⟨ys, e', hl'⟩ => by rw [e, e', RVL.fn h cs xs ys hl hl']
  | .iptr cs, x, y, ⟨xs, e, hl⟩, ⟨ys, e', hl'⟩ => by rw [e, e', RVL.fn h cs xs ys hl hl']
  | .agg cs, x, y, ⟨xs, e, hl⟩, ⟨ys, e', hl'⟩ => by rw [e, e', RVL.fn h cs xs ys hl hl']
  | .tuple cs, x, y, ⟨xs, e, hl⟩, ⟨ys, e', hl'⟩ => by rw [e, e', RVL.fn h cs xs ys hl hl']
  | .func f a b, x, y, ⟨asg, bs, e, h1, h2⟩, ⟨as', bs', e', h1', h2'⟩ => by rw [e, e', RVL.fn h a asg as' h1 h1', RVL.fn h b bs bs' h2 h2']
  | .yield k, x, y, ⟨p, hp, e⟩, ⟨q, hq, e'⟩ => by rw [h k p hp] at hq; cases hq; rw [e, e']
  | .iface t v, x, y, ⟨a, e, hv⟩, ⟨b, e', hv'⟩ => by rw [e, e', RV.fn h v a b hv hv']
theorem RVL.fn (h : Ext σ σ') : ∀ (vs : List EV) (xs ys : List VV), RVL σ vs xs → RVL σ' vs ys → xs = ys
  | [], xs, ys, hx, hy => Eq.trans (show xs = [] from hx) (show ys = [] from hy).symm
  | v :: vs, xs, ys, ⟨y, ys', e, h1, h2⟩, ⟨z, zs', e', h1', h2'⟩ => by rw [e, e', RV.fn h v y z h1 h1', RVL.fn h vs ys' zs' h2 h2']
end
theorem RVL.length {vs : List EV} : ∀ {xs : List VV}, RVL σ vs xs → xs.length = vs.length := by
  induction vs with
  | nil => intro xs h; simp [RVL] at h; simp [h]
  | cons v vs ih =>
    intro xs h
    obtain ⟨y, ys, rfl, _, h2⟩ := h
    simp [ih h2]
theorem RVL.get? {vs : List EV} : ∀ {xs : List VV} (i : Nat) (v : EV), RVL σ vs xs → vs[i]? = some v → ∃ x, xs[i]? = some x ∧ RV σ v x := by
  induction vs with
  | nil => intro xs i v h hv; simp at hv
  | cons u us ih =>
    intro xs i v h hv
    obtain ⟨y, ys, rfl, h1, h2⟩ := h
    cases i with
    | zero => simp at hv; subst hv; exact ⟨y, by simp, h1⟩
    | succ i => simpa using ih i v h2 (by simpa using hv)
theorem RVL.append {vs us : List EV} : ∀ {xs ys : List VV}, RVL σ vs xs → RVL σ us ys → RVL σ (vs ++ us) (xs ++ ys) := by
  induction vs with
  | nil => intro xs ys h1 h2; simp [RVL] at h1; subst h1; simpa using h2
  | cons v vs ih =>
    intro xs ys h1 h2
    obtain ⟨y, ys', rfl, h3, h4⟩ := h1
    exact ⟨y, ys' ++ ys, rfl, h3, ih h4 h2⟩
theorem RVL.take {vs : List EV} : ∀ {xs : List VV} (n : Nat), RVL σ vs xs → RVL σ (vs.take n) (xs.take n) := by
  induction vs with
  | nil => intro xs n h; simp [RVL] at h; subst h; simp [RVL]
  | cons v vs ih =>
    intro xs n h
    obtain ⟨y, ys, rfl, h3, h4⟩ := h
    cases n with
    | zero => simp [RVL]
    | succ n => exact ⟨y, ys.take n, by simp, h3, ih n h4⟩
theorem RVL.drop {vs : List EV} : ∀ {xs : List VV} (n : Nat), RVL σ vs xs → RVL σ (vs.drop n) (xs.drop n) := by
  induction vs with
  | nil => intro xs n h; simp [RVL] at h; subst h; simp [RVL]
  | cons v vs ih =>
    intro xs n h
    obtain ⟨y, ys, rfl, h3, h4⟩ := h
    cases n with
    | zero => exact ⟨y, ys, rfl, h3, h4⟩
    | succ n => simpa using ih n h4
theorem RVL.set {vs : List EV} : ∀ {xs : List VV} (n : Nat) (v : EV) (x : VV), RVL σ vs xs → RV σ v x → RVL σ (vs.set n v) (xs.set n x) := by
  induction vs with
  | nil => intro xs n v x h _; simp [RVL] at h; subst h; simp [RVL]
  | cons u us ih =>
    intro xs n v x h hx
    obtain ⟨y, ys, rfl, h3, h4⟩ := h
    cases n with
    | zero => exact ⟨x, ys, rfl, hx, h4⟩
    | succ n => exact ⟨y, ys.set n x, by simp, h3, ih n v x h4 hx⟩
theorem RVL.setAt {us : List EV} : ∀ {ys : List VV} {vs : List EV} {xs : List VV} (o : Nat), RVL σ vs xs → RVL σ us ys → RVL σ (PV.setAt vs o us) (PV.setAt xs o ys) := by
  induction us with
  | nil => intro ys vs xs o h1 h2; simp [RVL] at h2; subst h2; exact h1
  | cons u us ih =>
    intro ys vs xs o h1 h2
    obtain ⟨y, ys', rfl, h3, h4⟩ := h2
    exact ih (o + 1) (h1.set o u y h3) h4
theorem RVL.lits (us : List Value) : RVL σ (us.map .lit) (us.map .lit) := by
  induction us with
  | nil => simp [RVL]
  | cons u us ih => exact ⟨.lit u, us.map .lit, rfl, by simp [RV], ih⟩
end

def EV.cells : EV → List EV
  | .lit v => v.cells.toList.map .lit
  | .agg cs => cs
  | x => [x]
def EV.one : EV → Bool
  | .lit v => v.oneCell'
  | .agg _ => false
  | .tuple _ => false
  | _ => true
section
variable {σ : Sg}
theorem RV.cells {v : EV} {x : VV} (h : RV σ v x) : RVL σ v.cells x.cells := by
  cases v with
  | lit v => obtain rfl := h; exact RVL.lits _
  | ptr k o => obtain ⟨p, hp, rfl⟩ := h; exact ⟨_, [], rfl, ⟨p, hp, rfl⟩, rfl⟩
  | sl k o n c d => obtain ⟨p, hp, hn, rfl⟩ := h; exact ⟨_, [], rfl, ⟨p, hp, hn, rfl⟩, rfl⟩
  | es k o d lo s => obtain ⟨p, hp, rfl⟩ := h; exact ⟨_, [], rfl, ⟨p, hp, rfl⟩, rfl⟩
  | map k => obtain ⟨p, hp, rfl⟩ := h; exact ⟨_, [], rfl, ⟨p, hp, rfl⟩, rfl⟩
  | yield k => obtain ⟨p, hp, rfl⟩ := h; exact ⟨_, [], rfl, ⟨p, hp, rfl⟩, rfl⟩
  | isl ex n cs => obtain ⟨ys, rfl, hl⟩ := h; exact ⟨_, [], rfl, ⟨ys, rfl, hl⟩, rfl⟩
  | iptr cs => obtain ⟨ys, rfl, hl⟩ := h; exact ⟨_, [], rfl, ⟨ys, rfl, hl⟩, rfl⟩
  | agg cs => obtain ⟨ys, rfl, hl⟩ := h; exact hl
  | tuple cs => obtain ⟨ys, rfl, hl⟩ := h; exact ⟨_, [], rfl, ⟨ys, rfl, hl⟩, rfl⟩
  | func f a b => obtain ⟨asg, bs, rfl, h1, h2⟩ := h; exact ⟨_, [], rfl, ⟨asg, bs, rfl, h1, h2⟩, rfl⟩
  | iface t v => obtain ⟨y, rfl, hv⟩ := h; exact ⟨_, [], rfl, ⟨y, rfl, hv⟩, rfl⟩
theorem RV.one {v : EV} {x : VV} (h : RV σ v x) : v.one = x.one := by
  cases v with
  | lit v => obtain rfl := h; rfl
  | ptr k o => obtain ⟨p, hp, rfl⟩ := h; rfl
  | sl k o n c d => obtain ⟨p, hp, _, rfl⟩ := h; rfl
  | es k o d lo s => obtain ⟨p, hp, rfl⟩ := h; rfl
  | map k => obtain ⟨p, hp, rfl⟩ := h; rfl
  | yield k => obtain ⟨p, hp, rfl⟩ := h; rfl
  | isl ex n cs => obtain ⟨ys, rfl, hl⟩ := h; rfl
  | iptr cs => obtain ⟨ys, rfl, hl⟩ := h; rfl
  | agg cs => obtain ⟨ys, rfl, hl⟩ := h; rfl
  | tuple cs => obtain ⟨ys, rfl, hl⟩ := h; rfl
  | func f a b => obtain ⟨asg, bs, rfl, h1, h2⟩ := h; rfl
  | iface t v => obtain ⟨y, rfl, hv⟩ := h; rfl
theorem RVL.ones {vs : List EV} : ∀ {xs : List VV}, RVL σ vs xs → vs.all EV.one = xs.all VV.one := by
  induction vs with
  | nil => intro xs h; simp [RVL] at h; simp [h]
  | cons v vs ih =>
    intro xs h
    obtain ⟨y, ys, rfl, h1, h2⟩ := h
    simp [h1.one, ih h2]
end

/-! ### Tables -/
inductive Tr (α : Type) where
  | lf
  | nd (v : Option α) (l r : Tr α)
def Tr.get {α : Type} : Tr α → Nat → Option α
  | .lf, _ => none
  | .nd v l r, k => match k with
    | 0 => v
    | k + 1 => cond (Nat.beq (k % 2) 0) (l.get (k / 2)) (r.get (k / 2))
def Tr.set {α : Type} : Nat → Tr α → Nat → α → Option (Tr α)
  | 0, _, _, _ => none
  | n + 1, t, k, x => match k with
    | 0 => match t with
      | .lf => some (.nd (some x) .lf .lf)
      | .nd _ l r => some (.nd (some x) l r)
    | k + 1 => match t with
      | .lf => cond (Nat.beq (k % 2) 0) (match Tr.set n .lf (k / 2) x with | some l => some (.nd none l .lf) | none => none) (match Tr.set n .lf (k / 2) x with | some r => some (.nd none .lf r) | none => none)
      | .nd v l r => cond (Nat.beq (k % 2) 0) (match Tr.set n l (k / 2) x with | some l' => some (.nd v l' r) | none => none) (match Tr.set n r (k / 2) x with | some r' => some (.nd v l r') | none => none)
theorem beqF {n : Nat} (h : ¬ n = 0) : Nat.beq n 0 = false := by
  cases n with
  | zero => exact absurd rfl h
  | succ n => rfl
theorem Tr.get_set {α : Type} : ∀ (n : Nat) (t : Tr α) (k : Nat) (x : α) (t' : Tr α), Tr.set n t k x = some t' → ∀ j, t'.get j = if j = k then some x else t.get j
  | 0, t, k, x, t', h => by simp [Tr.set] at h
  | n + 1, t, k, x, t', h => by
    intro j
    cases k with
    | zero =>
      cases t with
      | lf =>
        simp only [Tr.set, Option.some.injEq] at h
        subst h
        cases j with
        | zero => simp [Tr.get]
        | succ j => simp [Tr.get]
      | nd v l r =>
        simp only [Tr.set, Option.some.injEq] at h
        subst h
        cases j with
        | zero => simp [Tr.get]
        | succ j => simp [Tr.get]
    | succ k =>
      have hk : ∀ j, (j % 2 = k % 2) → (j / 2 = k / 2) → j = k := fun j h1 h2 => by omega
      cases t with
      | lf =>
        simp only [Tr.set] at h
        by_cases hp : k % 2 = 0
        · simp only [hp, Nat.beq_refl, cond_true] at h
          cases hs : Tr.set n .lf (k / 2) x with
          | none => simp [hs] at h
          | some l =>
            simp only [hs, Option.some.injEq] at h
            subst h
            have ih := Tr.get_set n _ _ _ _ hs
            cases j with
            | zero => simp [Tr.get]
            | succ j =>
              simp only [Tr.get, Nat.add_right_cancel_iff]
              by_cases hj : j % 2 = 0
              · simp only [hj, Nat.beq_refl, cond_true, ih]
                by_cases e : j = k
                · simp [e]
                · have : j / 2 ≠ k / 2 := fun e' => e (hk j (by omega) e')
                  simp [e, this, Tr.get]
              · have hb : Nat.beq (j % 2) 0 = false := beqF hj
                have : j ≠ k := fun e => hj (by rw [e, hp])
                simp [hb, this, Tr.get]
        · have hb : Nat.beq (k % 2) 0 = false := beqF hp
          simp only [hb, cond_false] at h
          cases hs : Tr.set n .lf (k / 2) x with
          | none => simp [hs] at h
          | some l =>
            simp only [hs, Option.some.injEq] at h
            subst h
            have ih := Tr.get_set n _ _ _ _ hs
            cases j with
            | zero => simp [Tr.get]
            | succ j =>
              simp only [Tr.get, Nat.add_right_cancel_iff]
              by_cases hj : j % 2 = 0
              · have : j ≠ k := fun e => hp (by rw [← e, hj])
                simp [hj, this, Tr.get]
              · have hbj : Nat.beq (j % 2) 0 = false := beqF hj
                simp only [hbj, cond_false, ih]
                by_cases e : j = k
                · simp [e]
                · have : j / 2 ≠ k / 2 := fun e' => e (hk j (by omega) e')
                  simp [e, this, Tr.get]
      | nd v l r =>
        simp only [Tr.set] at h
        by_cases hp : k % 2 = 0
        · simp only [hp, Nat.beq_refl, cond_true] at h
          cases hs : Tr.set n l (k / 2) x with
          | none => simp [hs] at h
          | some l' =>
            simp only [hs, Option.some.injEq] at h
            subst h
            have ih := Tr.get_set n _ _ _ _ hs
            cases j with
            | zero => simp [Tr.get]
            | succ j =>
              simp only [Tr.get, Nat.add_right_cancel_iff]
              by_cases hj : j % 2 = 0
              · simp only [hj, Nat.beq_refl, cond_true, ih]
                by_cases e : j = k
                · simp [e]
                · have : j / 2 ≠ k / 2 := fun e' => e (hk j (by omega) e')
                  simp [e, this]
              · have hb : Nat.beq (j % 2) 0 = false := beqF hj
                have : j ≠ k := fun e => hj (by rw [e, hp])
                simp [hb, this]
        · have hb : Nat.beq (k % 2) 0 = false := beqF hp
          simp only [hb, cond_false] at h
          cases hs : Tr.set n r (k / 2) x with
          | none => simp [hs] at h
          | some l' =>
            simp only [hs, Option.some.injEq] at h
            subst h
            have ih := Tr.get_set n _ _ _ _ hs
            cases j with
            | zero => simp [Tr.get]
            | succ j =>
              simp only [Tr.get, Nat.add_right_cancel_iff]
              by_cases hj : j % 2 = 0
              · have : j ≠ k := fun e => hp (by rw [← e, hj])
                simp [hj, this]
              · have hbj : Nat.beq (j % 2) 0 = false := beqF hj
                simp only [hbj, cond_false, ih]
                by_cases e : j = k
                · simp [e]
                · have : j / 2 ≠ k / 2 := fun e' => e (hk j (by omega) e')
                  simp [e, this]
end Go.PV
end
